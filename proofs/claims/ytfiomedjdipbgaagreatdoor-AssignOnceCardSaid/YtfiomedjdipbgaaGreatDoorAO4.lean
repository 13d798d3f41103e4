/- AssignOnce: for every input the law returns true and leaves its arguments as they were. This is part 4 of 7. Conditions: those in the statements. -/
import Derived.Test.YtfiomedjdipbgaaGreatDoorProg
import Derived.Test.YtfiomedjdipbgaaGreatDoorAO3
import Derived.Lib.ValidU
import Derived.KernelRfl
import Derived.Conc.MuLone
import Derived.Shelf.Small.Bits
import Derived.Shelf.Utf8.RuneCount
import Derived.Shelf.Strconv.Atoi
import Derived.Shelf.Strconv.Itoa0
import Derived.Shelf.Strconv.Itoa1
import Derived.Shelf.LaysM
import Derived.Shelf.Strconv.Itoa2
import Derived.Shelf.Strconv.Itoa3
import Derived.Shelf.Strconv.AtoiErrFast
import Derived.Shelf.Strconv.ParseIntEmpty
import Derived.Shelf.Strconv.AtoiFail
import Derived.Shelf.Strconv.Clone
import Derived.Shelf.Strconv.SyntaxError
import Derived.Shelf.LaysC
import Derived.Shelf.Strconv.ToError
import Derived.Shelf.Strconv.Lower
import Derived.Shelf.Strconv.ParseUint10
import Derived.Shelf.Strconv.ParseUint10Empty
import Derived.Shelf.Strconv.ParseUint10Any
import Derived.Shelf.Strconv.ParseInt10
import Derived.Shelf.Strconv.AtoiLong
import Derived.Shelf.Strconv.AtoiInnerAll
import Derived.Shelf.Strconv.RangeError
import Derived.Shelf.Strconv.ToErrorRange
import Derived.Shelf.Strconv.AtoiAll
import Derived.Shelf.Strconv.ErrVarAll
import Derived.Shelf.Strings.Search1
import Derived.Shelf.Strings.Search2
import Derived.Shelf.Strings.Search3
import Derived.Shelf.Strings.Count
import Derived.Shelf.Strings.Shaped
import Derived.Shelf.Sort.Plain
import Derived.Shelf.Strings.Split
import Derived.Shelf.Strings.SplitShaped
import Derived.Shelf.Unicode.Decode
import Derived.Shelf.Strings.RuneCount
import Derived.Shelf.Strings.Explode
import Derived.Shelf.Unicode.DecodeSlow
import Derived.Shelf.Unicode.DecodeAny
import Derived.Ground.Names2Prog
import Derived.Shelf.Slices.Clone
import Derived.Shelf.Slices.CompactS
import Derived.Shelf.Slices.SearchI
import Derived.Shelf.Slices.Delete
import Derived.Shelf.Slices.Cells
import Derived.Shelf.Slices.In.SortNone
import Derived.Shelf.Slices.Empties
import Derived.Ground.SlgnProg
import Derived.Shelf.SlicesE.Clone
import Derived.Ground.NamesProg
import Derived.Shelf.Unicode.ValidAny
import Derived.Shelf.SlIter.Sorted
import Derived.Ground.GgzProg
import Derived.Shelf.SlIter.Collect
import Derived.WalkKit
import Derived.OwnWalkIn
import Derived.TacticsInMore
import Derived.LoopNIn
import Derived.LoopIn
import Derived.RangeFuncLeaves
noncomputable section
set_option maxRecDepth 100000
open Go Go.RowKit Go.Fl Go.Fl.Lk Go.Fx
namespace Go.En
abbrev J5:Type:=(List (Decl)->Prop)->Prop
def W4:J5:=fun K=>K [Decl.mk (ByteArray.mk (Array.mk [100,101,118,105,99,101])) (ByteArray.mk (Array.mk [99,111,114,101,115])) (2:Int),Decl.mk (ByteArray.mk (Array.mk [100,101,118,105,99,101])) (ByteArray.mk (Array.mk [111,115])) (3:Int),Decl.mk (ByteArray.mk (Array.mk [117,115,101,114])) (ByteArray.mk (Array.mk [97,103,101])) (2:Int),Decl.mk (ByteArray.mk (Array.mk [117,115,101,114])) (ByteArray.mk (Array.mk [97,112,112])) (4:Int),Decl.mk (ByteArray.mk (Array.mk [117,115,101,114])) (ByteArray.mk (Array.mk [98,101,116,97])) (1:Int),Decl.mk (ByteArray.mk (Array.mk [117,115,101,114])) (ByteArray.mk (Array.mk [99,111,117,110,116,114,121])) (3:Int),Decl.mk (ByteArray.mk (Array.mk [117,115,101,114])) (ByteArray.mk (Array.mk [112,108,97,110])) (3:Int),Decl.mk (ByteArray.mk (Array.mk [117,115,101,114])) (ByteArray.mk (Array.mk [116,97,103,115])) (5:Int)]
abbrev j2o:Type:=List (Int)->Int->(Bool->Int->Prop)->Prop
def w0r:j2o:=fun list at_ K=>list.length<=(9223372036854775807:Nat)->K (decide (at_<(↑list.length:Int))) at_
abbrev Q7:Type:=List (Int)->Int->Int->(Int->Int->Prop)->Prop
def v0g (z8l:j2o):Q7:=fun list at_ n K=>z8l list at_ fun Qb Q6=>Cnd (Qb=true) (InI (Q6+(1:Int))/\InI (Q6+(1:Int) - (1:Int))/\((0:Int)<=Q6+(1:Int) - (1:Int)/\Q6+(1:Int) - (1:Int)<(↑list.length:Int))/\ ∀y1,list[(Q6+(1:Int) - (1:Int)).toNat]? =some y1->InI y1/\n≠(0:Int)/\K (y1.tmod n) (Q6+(1:Int))) (K (0:Int) Q6)
def Zx:Q7:=v0g w0r
abbrev Rg:Type:=List (Int)->Int->(ByteArray->Int->Prop)->Prop
def v0h (Qa:Q7):Rg:=fun list at_ K=>Qa list at_ (11:Int) fun Qb Q6=>((0:Int)<=Qb/\Qb<(↑(11:Nat):Int))/\ ∀y1,j2m[Qb.toNat]? =some y1->K y1 Q6
def q3p:Rg:=v0h Zx
abbrev q2b:Type:=List (Int)->Int->Int->(Int->Int->Prop)->Prop
def v0i (Qa:Q7):q2b:=fun list at_ n K=>Qa list at_ (256:Int) fun Qb Q6=>InI ((256:Int)*Qb)/\Qa list Q6 (256:Int) fun Qc Z1=>InI ((256:Int)*Qb+Qc)/\n≠(0:Int)/\K (((256:Int)*Qb+Qc).tmod n) Z1
def q7r:q2b:=v0i Zx
abbrev z0g:Type:=Int->List (ByteArray)->(List (ByteArray)->Prop)->Prop
def z74:z0g:=fun n l K=>((0:Int)<=n/\n<=(↑l.length:Int))/\K (List.take n.toNat l)
abbrev q7s:Type:=List (Int)->Int->(List (ByteArray)->Int->Prop)->Prop
def v0j (Qa:Q7):q7s:=fun list at_ K=>Qa list at_ (10:Int) fun Qb Q6=>Lp3 (fun Qc Z1 z4m u6j=>Qa list z4m (4:Int) fun Qh Zr=>Cnd (Z1<Qh) (InI (Qb+Z1)/\(10:Int)≠(0:Int)/\InI ((48:Int)+(Qb+Z1).tmod (10:Int))/\(↑((ByteArray.mk (Array.mk [107])).size+(Go.Utf8.encode (Go.IntKind.i32.wrap ((48:Int)+(Qb+Z1).tmod (10:Int)))).size):Int)<=(9223372036854775807:Int)/\Sml (Qc++[ByteArray.mk (Array.mk [107])++Go.Utf8.encode (Go.IntKind.i32.wrap ((48:Int)+(Qb+Z1).tmod (10:Int)))]).length/\InI (Z1+(1:Int))/\u6j (Qc++[ByteArray.mk (Array.mk [107])++Go.Utf8.encode (Go.IntKind.i32.wrap ((48:Int)+(Qb+Z1).tmod (10:Int)))]) (Z1+(1:Int)) Zr) (Lp2 (fun Qm Re w8g=>Re.length<=(9223372036854775807:Nat)->Cnd (Qm<(↑Re.length:Int)) (((0:Int)<=Qm/\Qm<(↑Re.length:Int))/\ ∀y5,Re[Qm.toNat]? =some y5->InI (Qm - (1:Int))/\((0:Int)<=Qm - (1:Int)/\Qm - (1:Int)<(↑Re.length:Int))/\ ∀y7,Re[(Qm - (1:Int)).toNat]? =some y7->Cnd (Lk.blt y7 y5) (InI (Qm+(1:Int))/\w8g (Qm+(1:Int)) Re) (((0:Int)<=Qm/\Qm<=(↑Re.length:Int))/\K (List.take Qm.toNat Re) Zr)) (K Re Zr)) (1:Int) Qc)) [] (0:Int) Q6
def z3d:q7s:=v0j Zx
abbrev z3e:Type:=List (Int)->Int->(ByteArray->Int->Prop)->Prop
def v9k (Qa:Q7):z3e:=fun list at_ K=>Qa list at_ (10:Int) fun Qb Q6=>InI ((48:Int)+Qb)/\(↑((ByteArray.mk (Array.mk [107])).size+(Go.Utf8.encode (Go.IntKind.i32.wrap ((48:Int)+Qb))).size):Int)<=(9223372036854775807:Int)/\K (ByteArray.mk (Array.mk [107])++Go.Utf8.encode (Go.IntKind.i32.wrap ((48:Int)+Qb))) Q6
def j0d:z3e:=v9k Zx
abbrev R1:Type:=List (Int)->Int->Int->(Val->Int->Prop)->Prop
def j2p (Qa:Q7) (Jl:Rg):R1:=fun list at_ kind K=>Cnd (kind=(1:Int)) (Qa list at_ (2:Int) fun Qb Q6=>K (Val.mk kind Qb (ByteArray.mk (Array.mk [])) []) Q6) (Cnd (kind=(2:Int)) ([(0:Int),(1:Int),(17:Int),(18:Int),(19:Int),(-5:Int),(64:Int),(1099511627776:Int),(-1099511627776:Int)].length<=(9223372036854775807:Nat)->Qa list at_ (↑[(0:Int),(1:Int),(17:Int),(18:Int),(19:Int),(-5:Int),(64:Int),(1099511627776:Int),(-1099511627776:Int)].length:Int) fun Qc Z1=>((0:Int)<=Qc/\Qc<(↑[(0:Int),(1:Int),(17:Int),(18:Int),(19:Int),(-5:Int),(64:Int),(1099511627776:Int),(-1099511627776:Int)].length:Int))/\ ∀y2,[(0:Int),(1:Int),(17:Int),(18:Int),(19:Int),(-5:Int),(64:Int),(1099511627776:Int),(-1099511627776:Int)][Qc.toNat]? =some y2->K (Val.mk kind y2 (ByteArray.mk (Array.mk [])) []) Z1) (Cnd (kind=(3:Int)) (Jl list at_ fun Qb Q6=>K (Val.mk kind (0:Int) Qb []) Q6) (Cnd (kind=(4:Int)) (Qa list at_ (6:Int) fun Qb Q6=>((0:Int)<=Qb/\Qb<(↑(6:Nat):Int))/\ ∀y1,z5g[Qb.toNat]? =some y1->K (Val.mk kind (0:Int) y1 []) Q6) (Qa list at_ (5:Int) fun Qb Q6=>((0:Int)<=Qb/\Qb<(↑(5:Nat):Int))/\ ∀y1,w2g[Qb.toNat]? =some y1->Sml ([]++y1).length/\K (Val.mk (5:Int) (0:Int) (ByteArray.mk (Array.mk [])) ([]++y1)) Q6))))
def Ha:R1:=j2p Zx q3p
abbrev z77:Type:=List (Int)->Int->(Ex->Int->Prop)->Prop
def v0k (Q1:J5) (Qa:Q7) (q53:z3e) (Z9:R1):z77:=fun list at_ K=>Q1 fun Qb=>Qb.length<=(9223372036854775807:Nat)->InI ((↑Qb.length:Int)+(1:Int))/\Qa list at_ ((↑Qb.length:Int)+(1:Int)) fun Qh Zr=>Qb.length<=(9223372036854775807:Nat)->Cnd (Qh=(↑Qb.length:Int)) (q53 list Zr fun Qk Wn=>K (Ex.mk (7:Int) (ByteArray.mk (Array.mk [117,115,101,114])) (ByteArray.mk (Array.mk [107,101,121])) [Val.mk (3:Int) (0:Int) Qk []] []) Wn) (((0:Int)<=Qh/\Qh<(↑Qb.length:Int))/\ ∀y4,Qb[Qh.toNat]? =some y4->Jn1 (fun (Zp:Int×ByteArray×ByteArray×List Val×List Ex×Int×Int×ByteArray×ByteArray×List Val×List Ex×Unit)=>Z9 list Zp.snd.snd.snd.snd.snd.fst y4.3 fun Up j4t=>K (Ex.mk (7:Int) Zp.snd.fst Zp.snd.snd.fst [Up] Zp.snd.snd.snd.snd.fst) j4t) fun (u7l:Int×ByteArray×ByteArray×List Val×List Ex×Int×Int×ByteArray×ByteArray×List Val×List Ex×Unit->Prop)=>Qa list Zr (5:Int) fun Up j4t=>Jn1 (fun (Uq:Int×Int×ByteArray×ByteArray×List Val×List Ex×Int×ByteArray×ByteArray×List Val×List Ex×Unit)=>Cnd (y4.3=(2:Int)) (Qa list Uq.fst (4:Int) fun Q5 j17=>InI ((12:Int)+Q5)/\Z9 list j17 y4.3 fun B4 q2r=>K (Ex.mk ((12:Int)+Q5) Uq.snd.snd.fst Uq.snd.snd.snd.fst [B4] Uq.snd.snd.snd.snd.snd.fst) q2r) (Cnd (y4.3=(3:Int)) (Qa list Uq.fst (4:Int) fun Q5 j17=>InI ((12:Int)+Q5)/\Z9 list j17 y4.3 fun B4 q2r=>K (Ex.mk ((12:Int)+Q5) Uq.snd.snd.fst Uq.snd.snd.snd.fst [B4] Uq.snd.snd.snd.snd.snd.fst) q2r) (Cnd (y4.3=(4:Int)) (Qa list Uq.fst (4:Int) fun Q5 j17=>InI ((12:Int)+Q5)/\Z9 list j17 y4.3 fun B4 q2r=>K (Ex.mk ((12:Int)+Q5) Uq.snd.snd.fst Uq.snd.snd.snd.fst [B4] Uq.snd.snd.snd.snd.snd.fst) q2r) (u7l (Uq.snd.fst,Uq.snd.snd.fst,Uq.snd.snd.snd.fst,Uq.snd.snd.snd.snd.fst,Uq.snd.snd.snd.snd.snd.fst,Uq.fst,Uq.snd.snd.snd.snd.snd.snd.fst,Uq.snd.snd.snd.snd.snd.snd.snd.fst,Uq.snd.snd.snd.snd.snd.snd.snd.snd.fst,Uq.snd.snd.snd.snd.snd.snd.snd.snd.snd.fst,Uq.snd.snd.snd.snd.snd.snd.snd.snd.snd.snd.fst,()))))) fun (u6k:Int×Int×ByteArray×ByteArray×List Val×List Ex×Int×ByteArray×ByteArray×List Val×List Ex×Unit->Prop)=>Cnd (Up=(0:Int)) (K (Ex.mk (6:Int) y4.1 y4.2 [] []) j4t) (Cnd (Up=(1:Int)) (Cnd (y4.3=(5:Int)) (u7l ((0:Int),y4.1,y4.2,[],[],j4t,(0:Int),ByteArray.mk (Array.mk []),ByteArray.mk (Array.mk []),[],[],())) (Lp3 (fun Q5 j17 x9_2 Y9_3=>Qa list x9_2 (3:Int) fun B4 q2r=>Cnd (Q5<=B4) (Z9 list q2r y4.3 fun q0t w52=>Sml (j17++[q0t]).length/\InI (Q5+(1:Int))/\Y9_3 (Q5+(1:Int)) (j17++[q0t]) w52) (K (Ex.mk (8:Int) y4.1 y4.2 j17 []) q2r)) (0:Int) [] j4t)) (Cnd (Up=(2:Int)) (Cnd (y4.3=(3:Int)) (Z9 list j4t (3:Int) fun Q5 j17=>K (Ex.mk (11:Int) y4.1 y4.2 [Q5] []) j17) (Cnd (y4.3=(5:Int)) (Z9 list j4t (3:Int) fun Q5 j17=>K (Ex.mk (11:Int) y4.1 y4.2 [Q5] []) j17) (u7l ((0:Int),y4.1,y4.2,[],[],j4t,(0:Int),ByteArray.mk (Array.mk []),ByteArray.mk (Array.mk []),[],[],())))) (Cnd (Up=(3:Int)) (Cnd (y4.3=(3:Int)) (Qa list j4t (2:Int) fun Q5 j17=>InI ((9:Int)+Q5)/\Z9 list j17 (3:Int) fun B4 q2r=>K (Ex.mk ((9:Int)+Q5) y4.1 y4.2 [B4] []) q2r) (u6k (j4t,(0:Int),y4.1,y4.2,[],[],(0:Int),ByteArray.mk (Array.mk []),ByteArray.mk (Array.mk []),[],[],()))) (Cnd (Up=(4:Int)) (u6k (j4t,(0:Int),y4.1,y4.2,[],[],(0:Int),ByteArray.mk (Array.mk []),ByteArray.mk (Array.mk []),[],[],())) (u7l ((0:Int),y4.1,y4.2,[],[],j4t,(0:Int),ByteArray.mk (Array.mk []),ByteArray.mk (Array.mk []),[],[],())))))))
def z78:z77:=v0k W4 Zx j0d Ha
abbrev q2c:Type:=List (Int)->Int->List (ByteArray)->Int->(Ex->Int->Prop)->Prop
def w0s (Qa:Q7) (z4n:z77) (X:q2c):q2c:=fun list at_ segments levels K=>Qa list at_ (8:Int) fun Qb Q6=>Jn1 (fun Qc=>Cnd (Qc=(0:Int)) (K (Ex.mk (1:Int) (ByteArray.mk (Array.mk [])) (ByteArray.mk (Array.mk [])) [] []) Q6) (Cnd (Qc=(3:Int)) (segments.length<=(9223372036854775807:Nat)->Cnd ((0:Int)<(↑segments.length:Int)) (segments.length<=(9223372036854775807:Nat)->Qa list Q6 (↑segments.length:Int) fun Qk Wn=>((0:Int)<=Qk/\Qk<(↑segments.length:Int))/\ ∀y5,segments[Qk.toNat]? =some y5->K (Ex.mk (5:Int) (ByteArray.mk (Array.mk [])) y5 [] []) Wn) (z4n list Q6 fun Qm Re=>K (Ex.mk Qm.1 Qm.2 Qm.3 Qm.4 Qm.5) Re)) (Cnd (Qc=(4:Int)) (InI (levels - (1:Int))/\X list Q6 segments (levels - (1:Int)) fun Qh Zr=>K (Ex.mk (4:Int) (ByteArray.mk (Array.mk [])) (ByteArray.mk (Array.mk [])) [] [Ex.mk Qh.1 Qh.2 Qh.3 Qh.4 Qh.5]) Zr) (Jn1 (fun Qh=>Cnd (Qh=true) (Qa list Q6 (2:Int) fun Qm Re=>InI ((2:Int)+Qm)/\Qa list Re (2:Int) fun Qk Wn=>InI ((2:Int)+Qk)/\LpH (fun (Qy:Int×Int×Int×ByteArray×ByteArray×List Val×List Ex×Unit) (w54:Int×Int×Int×ByteArray×ByteArray×List Val×List Ex×Unit->Prop)=>Cnd (Qy.fst<(2:Int)+Qk) (InI (levels - (1:Int))/\X list Qy.snd.fst segments (levels - (1:Int)) fun Zp z7t=>Jn1 (fun (Up:Int×ByteArray×ByteArray×List Val×List Ex×Unit)=>Sml (Qy.snd.snd.snd.snd.snd.snd.fst++[Ex.mk Up.fst Up.snd.fst Up.snd.snd.fst Up.snd.snd.snd.fst Up.snd.snd.snd.snd.fst]).length/\InI (Qy.fst+(1:Int))/\w54 (Qy.fst+(1:Int),z7t,Qy.snd.snd.fst,Qy.snd.snd.snd.fst,Qy.snd.snd.snd.snd.fst,Qy.snd.snd.snd.snd.snd.fst,Qy.snd.snd.snd.snd.snd.snd.fst++[Ex.mk Up.fst Up.snd.fst Up.snd.snd.fst Up.snd.snd.snd.fst Up.snd.snd.snd.snd.fst],())) fun (Y7_0:Int×ByteArray×ByteArray×List Val×List Ex×Unit->Prop)=>Cnd (Zp.1=(2:Int)+Qm) (Y7_0 ((4:Int),ByteArray.mk (Array.mk []),ByteArray.mk (Array.mk []),[],[Ex.mk Zp.1 Zp.2 Zp.3 Zp.4 Zp.5],())) (Y7_0 (Zp.1,Zp.2,Zp.3,Zp.4,Zp.5,()))) (K (Ex.mk Qy.snd.snd.fst Qy.snd.snd.snd.fst Qy.snd.snd.snd.snd.fst Qy.snd.snd.snd.snd.snd.fst Qy.snd.snd.snd.snd.snd.snd.fst) Qy.snd.fst)) ((0:Int),Wn,(2:Int)+Qm,ByteArray.mk (Array.mk []),ByteArray.mk (Array.mk []),[],[],())) (z4n list Q6 fun Qm Re=>K (Ex.mk Qm.1 Qm.2 Qm.3 Qm.4 Qm.5) Re)) fun v3q=>Cnd (Qc=(5:Int)) (v3q (decide (Qc=(5:Int)))) (v3q (decide (Qc=(6:Int)))))))) fun w9o=>Cnd (levels<=(1:Int)) (Cnd ((4:Int)<=Qb) (InI (Qb - (4:Int))/\w9o (Qb - (4:Int))) (w9o Qb)) (w9o Qb)
def z3f:q2c:=fun list at_ segments levels K=> ∀X:q2c,(∀list at_ segments levels K,w0s Zx z78 X list at_ segments levels K->X list at_ segments levels K)->X list at_ segments levels K
abbrev q2v:Type:=List (Int)->Int->ByteArray->ByteArray->Int->List (Decl)->List (Seg)->List (Flg)->List (Lay_)->List (Exper)->(Int->ByteArray->ByteArray->Int->List (Decl)->List (Seg)->List (Flg)->List (Lay_)->List (Exper)->Prop)->Prop
def z5h (Qa:Q7) (Rv:z0g) (B0:q7s) (B1:q2c):q2v:=fun list at_ salt hkind hold attrs segs flags layers expers K=>Qa list at_ (4:Int) fun Qb Q6=>Rv Qb [ByteArray.mk (Array.mk [97,108,112,104,97]),ByteArray.mk (Array.mk [98,101,116,97]),ByteArray.mk (Array.mk [103,97,109,109,97])] fun Qc=>Lp3 (fun Qh Zr v3t Y2_3=>Qc.length<=(9223372036854775807:Nat)->Cnd (Qh<(↑Qc.length:Int)) (((0:Int)<=Qh/\Qh<(↑Qc.length:Int))/\ ∀y4,Qc[Qh.toNat]? =some y4->B0 list Zr fun Zp z7t=>B0 list z7t fun Up j4t=>Jn2 (fun Uq u7m=>Jn1 (fun (Q5:Int×ByteArray×ByteArray×List Val×List Ex×Int×Unit)=>Sml (v3t++[Seg.mk y4 Uq Zp Up (Ex.mk Q5.fst Q5.snd.fst Q5.snd.snd.fst Q5.snd.snd.snd.fst Q5.snd.snd.snd.snd.fst)]).length/\InI (Qh+(1:Int))/\Y2_3 (Qh+(1:Int)) Q5.snd.snd.snd.snd.snd.fst (v3t++[Seg.mk y4 Uq Zp Up (Ex.mk Q5.fst Q5.snd.fst Q5.snd.snd.fst Q5.snd.snd.snd.fst Q5.snd.snd.snd.snd.fst)])) fun (Y9_0:Int×ByteArray×ByteArray×List Val×List Ex×Int×Unit->Prop)=>Qa list u7m (3:Int) fun B4 q2r=>Cnd ((0:Int)<B4) (((0:Int)<=(0:Int)/\(0:Int)<=Qh/\Qh<=(↑Qc.length:Int))/\B1 list q2r (List.drop (Int.toNat (0:Int)) (List.take Qh.toNat Qc)) (3:Int) fun q0t w52=>Y9_0 (q0t.1,q0t.2,q0t.3,q0t.4,q0t.5,w52,())) (Y9_0 ((0:Int),ByteArray.mk (Array.mk []),ByteArray.mk (Array.mk []),[],[],q2r,()))) fun u6k=>Qa list j4t (4:Int) fun Q5 j17=>Cnd (Q5=(1:Int)) (u6k (ByteArray.mk (Array.mk [100,101,118,105,99,101])) j17) (u6k (ByteArray.mk (Array.mk [117,115,101,114])) j17)) (K Zr salt hkind hold attrs v3t flags layers expers)) (0:Int) Q6 segs
def q6o:q2v:=z5h Zx z74 z3d z3f
abbrev B7:Type:=Envt->(List (ByteArray)->Prop)->Prop
def B8:B7:=fun v K=>Lp2 (fun Qb Q6 q4z=>v.3.length<=(9223372036854775807:Nat)->Cnd (Q6<(↑v.3.length:Int)) (((0:Int)<=Q6/\Q6<(↑v.3.length:Int))/\ ∀y2,v.3[Q6.toNat]? =some y2->Sml (Qb++[y2.1]).length/\InI (Q6+(1:Int))/\q4z (Qb++[y2.1]) (Q6+(1:Int))) (K Qb)) [] (0:Int)
abbrev q3q:Type:=List (Int)->Int->Int->(List (Rng)->Int->Prop)->Prop
def w2j (Qa:Q7) (Wc:q2b):q3q:=fun list at_ n K=>Jn4 (fun Qb Q6 j7p q8c=>Qa list q8c n fun Qc Z1=>InI ((1:Int)+Qc)/\Jn1 (fun Qh=>Sml (Qb++[Rng.mk Q6 (10000:Int) Qh]).length/\K (Qb++[Rng.mk Q6 (10000:Int) Qh]) Z1) fun v3q=>Cnd ((1:Int)+Qc=j7p) (n≠(0:Int)/\InI ((1:Int)+((1:Int)+Qc).tmod n)/\v3q ((1:Int)+((1:Int)+Qc).tmod n)) (v3q ((1:Int)+Qc))) fun z22=>Lp5 (fun Qc Z1 z4m j7q x1_4 Y1_5=>Qa list x1_4 (4:Int) fun Qh Zr=>Cnd (j7q<Qh) (Cnd ((1:Int)<n) (InI (Z1+(1:Int))/\Wc list Zr (5000:Int) fun Qm Re=>InI (Z1+(1:Int)+Qm)/\Qa list Re n fun Qk Wn=>InI ((1:Int)+Qk)/\Jn1 (fun Qy=>Cnd ((10000:Int)<=Z1+(1:Int)+Qm) (z22 Qc Z1 z4m Wn) (Sml (Qc++[Rng.mk Z1 (Z1+(1:Int)+Qm) Qy]).length/\InI (j7q+(1:Int))/\Y1_5 (Qc++[Rng.mk Z1 (Z1+(1:Int)+Qm) Qy]) (Z1+(1:Int)+Qm) Qy (j7q+(1:Int)) Wn)) fun Y5_0=>Cnd ((1:Int)+Qk=z4m) (n≠(0:Int)/\InI ((1:Int)+((1:Int)+Qk).tmod n)/\Y5_0 ((1:Int)+((1:Int)+Qk).tmod n)) (Y5_0 ((1:Int)+Qk))) (z22 Qc Z1 z4m Zr)) (z22 Qc Z1 z4m Zr)) [] (0:Int) (0:Int) (0:Int) at_
def q8w:q3q:=w2j Zx q7r
abbrev z1o:Type:=List (Int)->Int->Int->(Srv->Int->Prop)->Prop
def w2k (Qa:Q7) (Jl:Rg) (Hy:q3q) (Q1:J5):z1o:=fun list at_ n K=>Qa list at_ (2:Int) fun Qb Q6=>Cnd (Qb=(0:Int)) (Qa list Q6 n fun Qc Z1=>InI ((1:Int)+Qc)/\K (Srv.mk ((1:Int)+Qc) (ByteArray.mk (Array.mk [])) (ByteArray.mk (Array.mk [])) (ByteArray.mk (Array.mk [])) []) Z1) (Jl list Q6 fun Qc Z1=>Hy list Z1 n fun Qh Zr=>Q1 fun Qm=>Qa list Zr (12:Int) fun Qk Wn=>Qm.length<=(9223372036854775807:Nat)->Cnd (Qk<(↑Qm.length:Int)) (((0:Int)<=Qk/\Qk<(↑Qm.length:Int))/\ ∀y6,Qm[Qk.toNat]? =some y6->Cnd (y6.3=(5:Int)) (K (Srv.mk (0:Int) (ByteArray.mk (Array.mk [117,115,101,114])) (ByteArray.mk (Array.mk [107,101,121])) Qc Qh) Wn) (((0:Int)<=Qk/\Qk<(↑Qm.length:Int))/\ ∀y8,Qm[Qk.toNat]? =some y8->((0:Int)<=Qk/\Qk<(↑Qm.length:Int))/\ ∀y10,Qm[Qk.toNat]? =some y10->K (Srv.mk (0:Int) y8.1 y10.2 Qc Qh) Wn)) (K (Srv.mk (0:Int) (ByteArray.mk (Array.mk [117,115,101,114])) (ByteArray.mk (Array.mk [107,101,121])) Qc Qh) Wn))
def z5i:z1o:=w2k Zx q3p q8w W4
abbrev z5j:Type:=(List (Nd)->(Nd->Option (Int))->Bool->Prop)->Prop
def w2l:z5j:=fun K=>K [] (fun _=>none) false
abbrev Wd:Type:=Int->(Bool->Prop)->Prop
def We:Wd:=fun op K=>Cnd ((6:Int)<=op) (K (decide (op<=(15:Int)))) (K false)
abbrev z5k:Type:=List (ByteArray)->List (ByteArray)->(Bool->Prop)->Prop
def z5l:z5k:=fun a b K=>a.length<=(9223372036854775807:Nat)->b.length<=(9223372036854775807:Nat)->Cnd ((↑a.length:Int)=(↑b.length:Int)) (Lp1 (fun Qh j7r=>a.length<=(9223372036854775807:Nat)->Cnd (Qh<(↑a.length:Int)) (((0:Int)<=Qh/\Qh<(↑a.length:Int))/\ ∀y4,a[Qh.toNat]? =some y4->((0:Int)<=Qh/\Qh<(↑b.length:Int))/\ ∀y6,b[Qh.toNat]? =some y6->Cnd (y4=y6) (InI (Qh+(1:Int))/\j7r (Qh+(1:Int))) (K false)) (K true)) (0:Int)) (K false)
abbrev q40:Type:=Val->Val->(Bool->Prop)->Prop
def j5d (z2p:z5k):q40:=fun a b K=>Cnd (a.1=b.1) (Cnd (a.2=b.2) (Cnd (a.3=b.3) (z2p a.4 b.4 fun Qb=>K Qb) (K false)) (K false)) (K false)
def q41:q40:=j5d z5l
abbrev Hb:Type:=List (Val)->List (Val)->(Bool->Prop)->Prop
def q8x (Bl:q40):Hb:=fun a b K=>a.length<=(9223372036854775807:Nat)->b.length<=(9223372036854775807:Nat)->Cnd ((↑a.length:Int)=(↑b.length:Int)) (Lp1 (fun Qh j7r=>a.length<=(9223372036854775807:Nat)->Cnd (Qh<(↑a.length:Int)) (((0:Int)<=Qh/\Qh<(↑a.length:Int))/\ ∀y4,a[Qh.toNat]? =some y4->((0:Int)<=Qh/\Qh<(↑b.length:Int))/\ ∀y6,b[Qh.toNat]? =some y6->Bl y4 y6 fun Uq=>Cnd (Uq=true) (InI (Qh+(1:Int))/\j7r (Qh+(1:Int))) (K false)) (K true)) (0:Int)) (K false)
def Hc:Hb:=q8x q41
abbrev V7:Type:=Ex->Ex->(Bool->Prop)->Prop
def z3g (Hz:Hb) (X:V7):V7:=fun a b K=>Cnd (a.1=b.1) (Cnd (a.2=b.2) (Cnd (a.3=b.3) (Hz a.4 b.4 fun Qb=>Cnd (Qb=true) (a.5.length<=(9223372036854775807:Nat)->b.5.length<=(9223372036854775807:Nat)->Cnd ((↑a.5.length:Int)=(↑b.5.length:Int)) (Lp1 (fun Qm j19=>a.5.length<=(9223372036854775807:Nat)->Cnd (Qm<(↑a.5.length:Int)) (((0:Int)<=Qm/\Qm<(↑a.5.length:Int))/\ ∀y5,a.5[Qm.toNat]? =some y5->((0:Int)<=Qm/\Qm<(↑b.5.length:Int))/\ ∀y7,b.5[Qm.toNat]? =some y7->X (Ex.mk y5.1 y5.2 y5.3 y5.4 y5.5) (Ex.mk y7.1 y7.2 y7.3 y7.4 y7.5) fun Q5=>Cnd (Q5=true) (InI (Qm+(1:Int))/\j19 (Qm+(1:Int))) (K false)) (K true)) (0:Int)) (K false)) (K false)) (K false)) (K false)) (K false)
def q01:V7:=fun a b K=> ∀X:V7,(∀a b K,z3g Hc X a b K->X a b K)->X a b K
abbrev Rh:Type:=List (Ex)->Ex->(Int->Prop)->Prop
def j0e (q1j:V7):Rh:=fun l e K=>Lp1 (fun Qb q54=>l.length<=(9223372036854775807:Nat)->Cnd (Qb<(↑l.length:Int)) (((0:Int)<=Qb/\Qb<(↑l.length:Int))/\ ∀y2,l[Qb.toNat]? =some y2->q1j (Ex.mk y2.1 y2.2 y2.3 y2.4 y2.5) (Ex.mk e.1 e.2 e.3 e.4 e.5) fun Qk=>Cnd (Qk=true) (K Qb) (InI (Qb+(1:Int))/\q54 (Qb+(1:Int)))) (K (-1:Int))) (0:Int)
def G3:Rh:=j0e q01
abbrev Vl:Type:=List (Ex)->Ex->(List (Ex)->Prop)->Prop
def z0y (Wx:Rh) (Q2:Wd) (X:Vl):Vl:=fun l e K=>Jn1 (fun Qb=>Lp2 (fun Qc Z1 z88=>e.5.length<=(9223372036854775807:Nat)->Cnd (Z1<(↑e.5.length:Int)) (((0:Int)<=Z1/\Z1<(↑e.5.length:Int))/\ ∀y3,e.5[Z1.toNat]? =some y3->X Qc (Ex.mk y3.1 y3.2 y3.3 y3.4 y3.5) fun Qy=>InI (Z1+(1:Int))/\z88 Qy (Z1+(1:Int))) (K Qc)) Qb (0:Int)) fun z22=>Cnd (e.1=(5:Int)) (Wx l (Ex.mk e.1 e.2 e.3 e.4 e.5) fun Qc=>Cnd (Qc<(0:Int)) ((Sml ([]++l).length/\Sml ([]++l++[Ex.mk e.1 e.2 e.3 e.4 e.5]).length/\z22 ([]++l++[Ex.mk e.1 e.2 e.3 e.4 e.5]))/\Sml ([]++l).length/\Sml ([]++l++[Ex.mk e.1 e.2 e.3 e.4 e.5]).length/\z22 ([]++l++[Ex.mk e.1 e.2 e.3 e.4 e.5])) (z22 l)) (Q2 e.1 fun Qc=>Cnd (Qc=true) (Wx l (Ex.mk e.1 e.2 e.3 e.4 e.5) fun Qh=>Cnd (Qh<(0:Int)) ((Sml ([]++l).length/\Sml ([]++l++[Ex.mk e.1 e.2 e.3 e.4 e.5]).length/\z22 ([]++l++[Ex.mk e.1 e.2 e.3 e.4 e.5]))/\Sml ([]++l).length/\Sml ([]++l++[Ex.mk e.1 e.2 e.3 e.4 e.5]).length/\z22 ([]++l++[Ex.mk e.1 e.2 e.3 e.4 e.5])) (z22 l)) (z22 l))
def q12:Vl:=fun l e K=> ∀X:Vl,(∀l e K,z0y G3 We X l e K->X l e K)->X l e K
abbrev Hd:Type:=List (Rul)->(List (Ex)->Prop)->Prop
def q8y (Bm:Vl):Hd:=fun l K=>Lp2 (fun Qb Q6 q4z=>l.length<=(9223372036854775807:Nat)->Cnd (Q6<(↑l.length:Int)) (((0:Int)<=Q6/\Q6<(↑l.length:Int))/\ ∀y2,l[Q6.toNat]? =some y2->Bm Qb (Ex.mk y2.2.1 y2.2.2 y2.2.3 y2.2.4 y2.2.5) fun Qk=>InI (Q6+(1:Int))/\q4z Qk (Q6+(1:Int))) (K Qb)) [] (0:Int)
def B9:Hd:=q8y q12
abbrev Ji:Type:=List (Nd)->(Nd->Option (Int))->Bool->Int->(Bool->List (Nd)->(Nd->Option (Int))->Bool->Prop)->Prop
def Wo:Ji:=fun ns ids full id K=>Cnd ((-1002:Int)<id) (ns.length<=(9223372036854775807:Nat)->K (decide (id<(↑ns.length:Int))) ns ids full) (K false ns ids full)
abbrev R2:Type:=List (Nd)->(Nd->Option (Int))->Bool->Int->((Int->Option (Bool))->List (Nd)->(Nd->Option (Int))->Bool->Prop)->Prop
def R3:R2:=fun ns ids full id K=>Lp2 (fun Qb q54 q4z=>Qb.length<=(9223372036854775807:Nat)->Cnd ((0:Int)<(↑Qb.length:Int)) (Qb.length<=(9223372036854775807:Nat)->InI ((↑Qb.length:Int) - (1:Int))/\((0:Int)<=(↑Qb.length:Int) - (1:Int)/\(↑Qb.length:Int) - (1:Int)<(↑Qb.length:Int))/\ ∀y3,Qb[((↑Qb.length:Int) - (1:Int)).toNat]? =some y3->Qb.length<=(9223372036854775807:Nat)->InI ((↑Qb.length:Int) - (1:Int))/\((0:Int)<=(↑Qb.length:Int) - (1:Int)/\(↑Qb.length:Int) - (1:Int)<=(↑Qb.length:Int))/\Cnd ((q54 y3).getD false=true) (q4z (List.take ((↑Qb.length:Int) - (1:Int)).toNat Qb) q54) (Cnd ((0:Int)<=y3) (((0:Int)<=y3/\y3<(↑ns.length:Int))/\ ∀y6,ns[y3.toNat]? =some y6->((0:Int)<=y3/\y3<(↑ns.length:Int))/\ ∀y8,ns[y3.toNat]? =some y8->Sml (List.take ((↑Qb.length:Int) - (1:Int)).toNat Qb++[y6.snd.fst,y8.snd.snd]).length/\q4z (List.take ((↑Qb.length:Int) - (1:Int)).toNat Qb++[y6.snd.fst,y8.snd.snd]) (put q54 y3 true)) (q4z (List.take ((↑Qb.length:Int) - (1:Int)).toNat Qb) (put q54 y3 true)))) (K q54 ns ids full)) [id] fun _=>none
abbrev Ue:Type:=List (Nd)->(Nd->Option (Int))->Bool->Int->(List (Int)->List (Nd)->(Nd->Option (Int))->Bool->Prop)->Prop
def z1p (Qw:Ji) (Ga:R2):Ue:=fun ns ids full id K=>Qw ns ids full id fun Qb (Q6:List (Int×Int×Int)) q4z q8c=>Cnd (Qb=true) (Ga Q6 q4z q8c id fun w9o (Z1:List (Int×Int×Int)) z88 j7q=>Lp2 (fun Qh Zr q8d=>Cnd (Zr<=(1000:Int)) (InI ((-1:Int) - Zr)/\Cnd ((w9o ((-1:Int) - Zr)).getD false=true) (Sml (Qh++[Zr]).length/\InI (Zr+(1:Int))/\q8d (Qh++[Zr]) (Zr+(1:Int))) (InI (Zr+(1:Int))/\q8d Qh (Zr+(1:Int)))) (K Qh Z1 z88 j7q)) [] (0:Int)) (K [] Q6 q4z q8c)
def He:Ue:=z1p Wo R3
abbrev Zd:Type:=List (Nd)->(Nd->Option (Int))->Bool->Int->(Bool->List (Nd)->(Nd->Option (Int))->Bool->Prop)->Prop
def q7l (Qw:Ji) (Ui:Ue):Zd:=fun ns ids full id K=>Qw ns ids full id fun Qb (Q6:List (Int×Int×Int)) q4z q8c=>Cnd (Qb=true) (Ui Q6 q4z q8c id fun Qc (Z1:List (Int×Int×Int)) z88 j7q=>Lp1 (fun Qh j7r=>Qc.length<=(9223372036854775807:Nat)->Cnd (Qh<(↑Qc.length:Int)) (((0:Int)<=Qh/\Qh<(↑Qc.length:Int))/\ ∀y4,Qc[Qh.toNat]? =some y4->Cnd ((1:Int)<y4) (K false Z1 z88 j7q) (InI (Qh+(1:Int))/\j7r (Qh+(1:Int)))) (K true Z1 z88 j7q)) (0:Int)) (K false Q6 q4z q8c)
def Z4:Zd:=q7l Wo He
abbrev J7:Type:=List (Nd)->(Nd->Option (Int))->Bool->Int->(Int->List (Nd)->(Nd->Option (Int))->Bool->Prop)->Prop
def J8:J7:=fun ns ids full id K=>Cnd (id<(0:Int)) (K (1001:Int) ns ids full) (((0:Int)<=id/\id<(↑ns.length:Int))/\ ∀y0,ns[id.toNat]? =some y0->K y0.fst ns ids full)
abbrev U4:Type:=List (Nd)->(Nd->Option (Int))->Bool->Int->Int->(Int->Int->List (Nd)->(Nd->Option (Int))->Bool->Prop)->Prop
def z4s (Q4:J7):U4:=fun ns ids full id test K=>Q4 ns ids full id fun Qb (Q6:List (Int×Int×Int)) q4z q8c=>Cnd (Qb=test) (((0:Int)<=id/\id<(↑Q6.length:Int))/\ ∀y1,Q6[id.toNat]? =some y1->((0:Int)<=id/\id<(↑Q6.length:Int))/\ ∀y3,Q6[id.toNat]? =some y3->K y1.snd.fst y3.snd.snd Q6 q4z q8c) (K id id Q6 q4z q8c)
def V3:U4:=z4s J8
abbrev Wp:Type:=List (Nd)->(Nd->Option (Int))->Bool->Int->Int->Int->(Int->List (Nd)->(Nd->Option (Int))->Bool->Prop)->Prop
def z5m (Qw:Ji) (Q4:J7):Wp:=fun ns ids full test yes no K=>Cnd (test<(0:Int)) (K (-1002:Int) ns ids full) (Cnd ((1000:Int)<test) (K (-1002:Int) ns ids full) (Qw ns ids full yes fun Qb (Q6:List (Int×Int×Int)) q4z q8c=>Cnd (Qb=true) (Qw Q6 q4z q8c no fun Qc (Z1:List (Int×Int×Int)) z88 j7q=>Cnd (Qc=true) (Q4 Z1 z88 j7q yes fun Qh (Zr:List (Int×Int×Int)) q8d w55=>Cnd (Qh<=test) (K (-1002:Int) Zr q8d w55) (Q4 Zr q8d w55 no fun Qm (Re:List (Int×Int×Int)) w8g u3p=>Cnd (Qm<=test) (K (-1002:Int) Re w8g u3p) (Cnd (yes=no) (K yes Re w8g u3p) (Cnd ((w8g (test,yes,no)).isSome=true) (K ((w8g (test,yes,no)).getD (0:Int)) Re w8g u3p) (Re.length<=(9223372036854775807:Nat)->Cnd ((4000:Int)<=(↑Re.length:Int)) (K (-1002:Int) Re w8g true) (Re.length<=(9223372036854775807:Nat)->Sml (Re++[(test,yes,no)]).length/\((Re++[(test,yes,no)]).length<=(9223372036854775807:Nat)->InI ((↑(Re++[(test,yes,no)]).length:Int) - (1:Int))/\K ((↑(Re++[(test,yes,no)]).length:Int) - (1:Int)) (Re++[(test,yes,no)]) (put w8g (test,yes,no) (↑Re.length:Int)) u3p))))))) (K (-1002:Int) Z1 z88 j7q)) (K (-1002:Int) Q6 q4z q8c)))
def J9:Wp:=z5m Wo J8
abbrev Jq:Type:=List (Nd)->(Nd->Option (Int))->Bool->Int->Int->Int->(A3->Option (Int))->(Int->List (Nd)->(Nd->Option (Int))->Bool->(A3->Option (Int))->Prop)->Prop
def Hf (Q4:J7) (W6:U4) (Ja:Wp) (X:Jq):Jq:=fun ns ids full f g h known K=>Cnd (f=(-2:Int)) (K g ns ids full known) (Cnd (g=h) (K g ns ids full known) (Cnd (f=(-1:Int)) (K h ns ids full known) (Cnd ((known (f,g,h)).isSome=true) (K ((known (f,g,h)).getD (0:Int)) ns ids full known) (Q4 ns ids full f fun Qb (Q6:List (Int×Int×Int)) q4z q8c=>Q4 Q6 q4z q8c g fun Qc (Z1:List (Int×Int×Int)) z88 j7q=>Q4 Z1 z88 j7q h fun Qh (Zr:List (Int×Int×Int)) q8d w55=>W6 Zr q8d w55 f (Min.min (Min.min Qb Qc) Qh) fun Qm Re (x3_2:List (Int×Int×Int)) Y3_3 x3_4=>W6 x3_2 Y3_3 x3_4 g (Min.min (Min.min Qb Qc) Qh) fun Qk Wn (z44:List (Int×Int×Int)) Y4_3 x4_4=>W6 z44 Y4_3 x4_4 h (Min.min (Min.min Qb Qc) Qh) fun Qy q7j (x5_2:List (Int×Int×Int)) Y5_3 x5_4=>X x5_2 Y5_3 x5_4 Qm Qk Qy known fun Zp (z7t:List (Int×Int×Int)) Y6_2 x6_3 Y6_4=>X z7t Y6_2 x6_3 Re Wn q7j Y6_4 fun Up (j4t:List (Int×Int×Int)) Y7_2 x7_3 Y7_4=>Jn4 (fun Uq (u7m:List (Int×Int×Int)) x8_2 Y8_3=>K Uq u7m Y8_3 x8_2 (put Y7_4 (f,g,h) Uq)) fun u6k=>Cnd (Zp=(-1002:Int)) (u6k (-1002:Int) j4t x7_3 Y7_2) (Cnd (Up=(-1002:Int)) (u6k (-1002:Int) j4t x7_3 Y7_2) (Ja j4t Y7_2 x7_3 (Min.min (Min.min Qb Qc) Qh) Zp Up fun Q5 (j17:List (Int×Int×Int)) Y9_2 x9_3=>u6k Q5 j17 x9_3 Y9_2))))))
def Hg:Jq:=fun ns ids full f g h known K=> ∀X:Jq,(∀ns ids full f g h known K,Hf J8 V3 J9 X ns ids full f g h known K->X ns ids full f g h known K)->X ns ids full f g h known K
abbrev Zv:Type:=List (Nd)->(Nd->Option (Int))->Bool->Int->Int->Int->(Int->List (Nd)->(Nd->Option (Int))->Bool->Prop)->Prop
def z1q (Qr:Zd) (Qw:Ji) (Uj:Jq):Zv:=fun ns ids full f g h K=>Qr ns ids full f fun Qb (Q6:List (Int×Int×Int)) q4z q8c=>Cnd (Qb=true) (Qw Q6 q4z q8c g fun Qc (Z1:List (Int×Int×Int)) z88 j7q=>Cnd (Qc=true) (Qw Z1 z88 j7q h fun Qh (Zr:List (Int×Int×Int)) q8d w55=>Cnd (Qh=true) (Uj Zr q8d w55 f g h (fun _=>none) fun Qm (Re:List (Int×Int×Int)) w8g u3p _=>K Qm Re w8g u3p) (K (-1002:Int) Zr q8d w55)) (K (-1002:Int) Z1 z88 j7q)) (K (-1002:Int) Q6 q4z q8c)
def Jr:Zv:=z1q Z4 Wo Hg
abbrev Be:Type:=List (Nd)->(Nd->Option (Int))->Bool->Int->(Int->List (Nd)->(Nd->Option (Int))->Bool->Prop)->Prop
def z9f (Qx:Zv):Be:=fun ns ids full f K=>Qx ns ids full f (-1:Int) (-2:Int) fun Qb (Q6:List (Int×Int×Int)) q4z q8c=>K Qb Q6 q4z q8c
def Bf:Be:=z9f Jr
abbrev Bg:Type:=List (Nd)->(Nd->Option (Int))->Bool->Int->Int->(Int->List (Nd)->(Nd->Option (Int))->Bool->Prop)->Prop
def z9g (Qr:Zd) (Qx:Zv):Bg:=fun ns ids full f g K=>Qr ns ids full g fun Qb (Q6:List (Int×Int×Int)) q4z q8c=>Cnd (Qb=true) (Qx Q6 q4z q8c f g (-1:Int) fun Qc (Z1:List (Int×Int×Int)) z88 j7q=>K Qc Z1 z88 j7q) (K (-1002:Int) Q6 q4z q8c)
def Bh:Bg:=z9g Z4 Jr
abbrev V8:Type:=List (Nd)->(Nd->Option (Int))->Bool->Int->Int->(Int->List (Nd)->(Nd->Option (Int))->Bool->Prop)->Prop
def j2q (Qr:Zd) (Qx:Zv):V8:=fun ns ids full f g K=>Qr ns ids full g fun Qb (Q6:List (Int×Int×Int)) q4z q8c=>Cnd (Qb=true) (Qx Q6 q4z q8c f (-2:Int) g fun Qc (Z1:List (Int×Int×Int)) z88 j7q=>K Qc Z1 z88 j7q) (K (-1002:Int) Q6 q4z q8c)
def Gh:V8:=j2q Z4 Jr
abbrev Wq:Type:=List (Nd)->(Nd->Option (Int))->Bool->List (Ex)->Ex->(Int->List (Nd)->(Nd->Option (Int))->Bool->Prop)->Prop
def q8z (Bn:Be) (Bo:Bg) (Jy:V8) (Wx:Rh) (Ja:Wp) (X:Wq):Wq:=fun ns ids full atoms e K=>Cnd (e.1=(1:Int)) (K (-2:Int) ns ids full) (Cnd (e.1=(4:Int)) (((0:Int)<=(0:Int)/\(0:Int)<(↑e.5.length:Int))/\ ∀y0,e.5[Int.toNat (0:Int)]? =some y0->X ns ids full atoms (Ex.mk y0.1 y0.2 y0.3 y0.4 y0.5) fun Qh (Zr:List (Int×Int×Int)) q8d w55=>Bn Zr q8d w55 Qh fun Qm (Re:List (Int×Int×Int)) w8g u3p=>K Qm Re w8g u3p) (Jn1 (fun Qb=>Cnd (Qb=true) (((0:Int)<=(0:Int)/\(0:Int)<(↑e.5.length:Int))/\ ∀y1,e.5[Int.toNat (0:Int)]? =some y1->X ns ids full atoms (Ex.mk y1.1 y1.2 y1.3 y1.4 y1.5) fun Qm (Re:List (Int×Int×Int)) w8g u3p=>Lp5 (fun Qk Wn (z44:List (Int×Int×Int)) u3q Y4_4 Y4_5=>e.5.length<=(9223372036854775807:Nat)->Cnd (Wn<(↑e.5.length:Int)) (((0:Int)<=Wn/\Wn<(↑e.5.length:Int))/\ ∀y6,e.5[Wn.toNat]? =some y6->X z44 Y4_4 u3q atoms (Ex.mk y6.1 y6.2 y6.3 y6.4 y6.5) fun Uq (u7m:List (Int×Int×Int)) Y8_2 x8_3=>Cnd (e.1=(2:Int)) (Bo u7m Y8_2 x8_3 Qk Uq fun Q5 (j17:List (Int×Int×Int)) Y9_2 x9_3=>InI (Wn+(1:Int))/\Y4_5 Q5 (Wn+(1:Int)) j17 x9_3 Y9_2) (Jy u7m Y8_2 x8_3 Qk Uq fun Q5 (j17:List (Int×Int×Int)) Y9_2 x9_3=>InI (Wn+(1:Int))/\Y4_5 Q5 (Wn+(1:Int)) j17 x9_3 Y9_2)) (K Qk z44 Y4_4 u3q)) Qm (1:Int) Re u3p w8g) (Wx atoms (Ex.mk e.1 e.2 e.3 e.4 e.5) fun Qc=>Cnd (Qc<(0:Int)) (K (-1002:Int) ns ids full) (Ja ns ids full Qc (-2:Int) (-1:Int) fun Qh (Zr:List (Int×Int×Int)) q8d w55=>K Qh Zr q8d w55))) fun z22=>Cnd (e.1=(2:Int)) (z22 (decide (e.1=(2:Int)))) (z22 (decide (e.1=(3:Int))))))
def q0a:Wq:=fun ns ids full atoms e K=> ∀X:Wq,(∀ns ids full atoms e K,q8z Bf Bh Gh G3 J9 X ns ids full atoms e K->X ns ids full atoms e K)->X ns ids full atoms e K
abbrev Js:Type:=List (Rul)->(List (Int)->Int->Bool->Prop)->Prop
def q42 (z2q:z5j) (H0:Hd) (H1:Wq) (Jy:V8):Js:=fun l K=>z2q fun (Qb:List (Int×Int×Int)) q54 j7p=>H0 l fun Qc=>LpH (fun Qh j7r=>l.length<=(9223372036854775807:Nat)->Cnd (Qh.snd.snd.fst<(↑l.length:Int)) (((0:Int)<=Qh.snd.snd.fst/\Qh.snd.snd.fst<(↑l.length:Int))/\ ∀y4,l[Qh.snd.snd.fst.toNat]? =some y4->H1 Qh.snd.snd.snd.fst Qh.snd.snd.snd.snd.snd.fst Qh.snd.snd.snd.snd.fst Qc (Ex.mk y4.2.1 y4.2.2 y4.2.3 y4.2.4 y4.2.5) fun Zp (z7t:List (Int×Int×Int)) Y6_2 x6_3=>Jy z7t Y6_2 x6_3 Qh.fst Zp fun Up (j4t:List (Int×Int×Int)) Y7_2 x7_3=>Cnd (Up=(-1002:Int)) (j4t.length<=(9223372036854775807:Nat)->K [] (↑j4t.length:Int) false) (Cnd (Up=Qh.fst) (InI (Qh.snd.snd.fst+(1:Int))/\Sml (Qh.snd.fst++[Qh.snd.snd.fst+(1:Int)]).length/\InI (Qh.snd.snd.fst+(1:Int))/\j7r (Up,Qh.snd.fst++[Qh.snd.snd.fst+(1:Int)],Qh.snd.snd.fst+(1:Int),j4t,x7_3,Y7_2,())) (InI (Qh.snd.snd.fst+(1:Int))/\j7r (Up,Qh.snd.fst,Qh.snd.snd.fst+(1:Int),j4t,x7_3,Y7_2,())))) (Qh.snd.snd.snd.fst.length<=(9223372036854775807:Nat)->K Qh.snd.fst (↑Qh.snd.snd.snd.fst.length:Int) true)) ((-1:Int),[],(0:Int),Qb,j7p,q54,())
def Va:Js:=q42 w2l B9 q0a Gh
abbrev z1r:Type:=List (Int)->Int->ByteArray->(Lay_->Int->Prop)->Prop
def w2m (Jl:Rg) (Qa:Q7) (Wc:q2b):z1r:=fun list at_ key K=>Jl list at_ fun Qb Q6=>Qa list Q6 (3:Int) fun Qc Z1=>InI (Qc*(50:Int))/\Jn2 (fun Qh Zr=>Jn2 (fun Qm Re=>Lp4 (fun Qk Wn z44 u3q Y4_4=>Qa list u3q (3:Int) fun Qy q7j=>Cnd (Wn<Qy) (Wc list q7j (3000:Int) fun Zp z7t=>InI (Qk+Zp)/\InI (Qk+Zp+(1:Int))/\Wc list z7t (2000:Int) fun Up j4t=>InI (Qk+Zp+(1:Int)+Up)/\Cnd ((10000:Int)<Qk+Zp+(1:Int)+Up) (K (Lay_.mk key Qh Qb Qm (Qc*(50:Int)) z44) j4t) (Qa list j4t (200:Int) fun Uq u7m=>Sml (z44++[Col.mk (Qk+Zp) (Qk+Zp+(1:Int)+Up) Uq]).length/\InI (Wn+(1:Int))/\Y4_4 (Qk+Zp+(1:Int)+Up) (Wn+(1:Int)) (z44++[Col.mk (Qk+Zp) (Qk+Zp+(1:Int)+Up) Uq]) u7m)) (K (Lay_.mk key Qh Qb Qm (Qc*(50:Int)) z44) q7j)) (0:Int) (0:Int) [] Re) fun u3i=>Qa list Zr (2:Int) fun Qk Wn=>Cnd (Qk=(1:Int)) (Wc list Wn (3000:Int) fun Qy q7j=>u3i Qy q7j) (u3i (0:Int) Wn)) fun v3q=>Qa list Z1 (4:Int) fun Qm Re=>Cnd (Qm=(1:Int)) (v3q (ByteArray.mk (Array.mk [100,101,118,105,99,101])) Re) (v3q (ByteArray.mk (Array.mk [117,115,101,114])) Re)
def z5n:z1r:=w2m q3p Zx q7r
abbrev z1s:Type:=Int->(Bool->Prop)->Prop
def z1t:z1s:=fun now K=>Cnd ((0:Int)<=now) (K (decide (now<=(1099511627776:Int)))) (K false)
abbrev Wr:Type:=Envt->ByteArray->(Int->Prop)->Prop
def Gi:Wr:=fun v key K=>Lp1 (fun Qb q54=>v.5.length<=(9223372036854775807:Nat)->Cnd (Qb<(↑v.5.length:Int)) (((0:Int)<=Qb/\Qb<(↑v.5.length:Int))/\ ∀y2,v.5[Qb.toNat]? =some y2->Cnd (y2.1=key) (K Qb) (InI (Qb+(1:Int))/\q54 (Qb+(1:Int)))) (K (-1:Int))) (0:Int)
abbrev q0b:Type:=List (Col)->Int->(List (Int)->Prop)->Prop
def q0c:q0b:=fun l now K=>((0:Int)<=(10000:Int)/\(10000:Int)<=(10000:Int)/\Sml (Int.toNat (10000:Int)))/\Lp2 (fun Qb Q6 q4z=>Q6.length<=(9223372036854775807:Nat)->Cnd (Qb<(↑Q6.length:Int)) (((0:Int)<=Qb/\Qb<(↑Q6.length:Int))/\ ∀y2,Q6[Qb.toNat]? =some y2->InI (Qb+(1:Int))/\q4z (Qb+(1:Int)) (Q6.set Qb.toNat now)) (Lp2 (fun Qh Zr q8d=>l.length<=(9223372036854775807:Nat)->Cnd (Qh<(↑l.length:Int)) (((0:Int)<=Qh/\Qh<(↑l.length:Int))/\ ∀y4,l[Qh.toNat]? =some y4->Lp2 (fun Zp z7t Y6_2=>((0:Int)<=Qh/\Qh<(↑l.length:Int))/\ ∀y7,l[Qh.toNat]? =some y7->Cnd (Zp<Min.min y7.2 (10000:Int)) (((0:Int)<=Zp/\Zp<(↑z7t.length:Int))/\ ∀y9,z7t[Zp.toNat]? =some y9->((0:Int)<=Qh/\Qh<(↑l.length:Int))/\ ∀y11,l[Qh.toNat]? =some y11->((0:Int)<=Zp/\Zp<(↑z7t.length:Int))/\ ∀y13,z7t[Zp.toNat]? =some y13->InI (Zp+(1:Int))/\Y6_2 (Zp+(1:Int)) (z7t.set Zp.toNat (Max.max y9 y11.3))) (InI (Qh+(1:Int))/\q8d (Qh+(1:Int)) z7t)) (Max.max y4.1 (0:Int)) Zr) (K Zr)) (0:Int) Q6)) (0:Int) (List.replicate (Int.toNat (10000:Int)) (0:Int))
abbrev Jn:Type:=List (Bool)->(List (Spn)->Prop)->Prop
def Vb:Jn:=fun set_ K=>Lp2 (fun Qb Q6 q4z=>set_.length<=(9223372036854775807:Nat)->Cnd (Q6<(↑set_.length:Int)) (((0:Int)<=Q6/\Q6<(↑set_.length:Int))/\ ∀y2,set_[Q6.toNat]? =some y2->Cnd (y2=true) (Cnd ((0:Int)<Q6) (InI (Q6 - (1:Int))/\((0:Int)<=Q6 - (1:Int)/\Q6 - (1:Int)<(↑set_.length:Int))/\ ∀y4,set_[(Q6 - (1:Int)).toNat]? =some y4->Cnd (y4=true) (Qb.length<=(9223372036854775807:Nat)->InI ((↑Qb.length:Int) - (1:Int))/\InI (Q6+(1:Int))/\((0:Int)<=(↑Qb.length:Int) - (1:Int)/\(↑Qb.length:Int) - (1:Int)<(↑Qb.length:Int))/\ ∀y7,Qb[((↑Qb.length:Int) - (1:Int)).toNat]? =some y7->InI (Q6+(1:Int))/\q4z (Qb.set ((↑Qb.length:Int) - (1:Int)).toNat (Spn.mk y7.1 (Q6+(1:Int)))) (Q6+(1:Int))) (InI (Q6+(1:Int))/\Sml (Qb++[Spn.mk Q6 (Q6+(1:Int))]).length/\InI (Q6+(1:Int))/\q4z (Qb++[Spn.mk Q6 (Q6+(1:Int))]) (Q6+(1:Int)))) (InI (Q6+(1:Int))/\Sml (Qb++[Spn.mk Q6 (Q6+(1:Int))]).length/\InI (Q6+(1:Int))/\q4z (Qb++[Spn.mk Q6 (Q6+(1:Int))]) (Q6+(1:Int)))) (InI (Q6+(1:Int))/\q4z Qb (Q6+(1:Int)))) (K Qb)) [] (0:Int)
abbrev q43:Type:=List (Int)->Int->(List (Spn)->Prop)->Prop
def j0f (Qz:Jn):q43:=fun until_ now K=>until_.length<=(9223372036854775807:Nat)->((0:Int)<=(↑until_.length:Int)/\(↑until_.length:Int)<=(↑until_.length:Int)/\Sml (↑until_.length:Int).toNat)/\Lp2 (fun Qc Z1 z88=>until_.length<=(9223372036854775807:Nat)->Cnd (Qc<(↑until_.length:Int)) (((0:Int)<=Qc/\Qc<(↑until_.length:Int))/\ ∀y3,until_[Qc.toNat]? =some y3->((0:Int)<=Qc/\Qc<(↑Z1.length:Int))/\ ∀y5,Z1[Qc.toNat]? =some y5->InI (Qc+(1:Int))/\z88 (Qc+(1:Int)) (Z1.set Qc.toNat (decide (now<y3)))) (Qz Z1 fun Qm=>K Qm)) (0:Int) (List.replicate (↑until_.length:Int).toNat false)
def q80:q43:=j0f Vb
abbrev Gj:Type:=List (Spn)->(List (Bool)->Prop)->Prop
def q0d:Gj:=fun l K=>((0:Int)<=(10000:Int)/\(10000:Int)<=(10000:Int)/\Sml (Int.toNat (10000:Int)))/\Lp2 (fun Qb Q6 q4z=>l.length<=(9223372036854775807:Nat)->Cnd (Qb<(↑l.length:Int)) (((0:Int)<=Qb/\Qb<(↑l.length:Int))/\ ∀y2,l[Qb.toNat]? =some y2->Lp2 (fun Qk Wn v71=>((0:Int)<=Qb/\Qb<(↑l.length:Int))/\ ∀y5,l[Qb.toNat]? =some y5->Cnd (Qk<Min.min y5.2 (10000:Int)) (((0:Int)<=Qk/\Qk<(↑Wn.length:Int))/\ ∀y7,Wn[Qk.toNat]? =some y7->InI (Qk+(1:Int))/\v71 (Qk+(1:Int)) (Wn.set Qk.toNat true)) (InI (Qb+(1:Int))/\q4z (Qb+(1:Int)) Wn)) (Max.max y2.1 (0:Int)) Q6) (K Q6)) (0:Int) (List.replicate (Int.toNat (10000:Int)) false)
abbrev q44:Type:=List (Spn)->List (Spn)->(List (Spn)->Prop)->Prop
def j0g (Zt:Gj) (Qz:Jn):q44:=fun a b K=>Zt a fun Qb=>Zt b fun Qc=>Lp2 (fun Qh Zr q8d=>Zr.length<=(9223372036854775807:Nat)->Cnd (Qh<(↑Zr.length:Int)) (((0:Int)<=Qh/\Qh<(↑Zr.length:Int))/\ ∀y4,Zr[Qh.toNat]? =some y4->Cnd (y4=true) (((0:Int)<=Qh/\Qh<(↑Zr.length:Int))/\ ∀y6,Zr[Qh.toNat]? =some y6->InI (Qh+(1:Int))/\q8d (Qh+(1:Int)) (Zr.set Qh.toNat true)) (((0:Int)<=Qh/\Qh<(↑Qc.length:Int))/\ ∀y6,Qc[Qh.toNat]? =some y6->((0:Int)<=Qh/\Qh<(↑Zr.length:Int))/\ ∀y8,Zr[Qh.toNat]? =some y8->InI (Qh+(1:Int))/\q8d (Qh+(1:Int)) (Zr.set Qh.toNat y6))) (Qz Zr fun Qk=>K Qk)) (0:Int) Qb
def q81:q44:=j0g q0d Vb
abbrev q45:Type:=Envt->ByteArray->ByteArray->Int->(List (Spn)->Prop)->Prop
def j0h (Zg:Wr) (Rw:q44) (Uz:q0b) (q0u:q43):q45:=fun v layer but now K=>Zg (Envt.mk (Sett.mk v.1.1 v.1.2 v.1.3) v.2 v.3 v.4 v.5 v.6) layer fun Qb=>Cnd (Qb<(0:Int)) (K []) (Jn1 (fun Qc=>Lp2 (fun Qh Zr q8d=>v.6.length<=(9223372036854775807:Nat)->Cnd (Zr<(↑v.6.length:Int)) (((0:Int)<=Zr/\Zr<(↑v.6.length:Int))/\ ∀y4,v.6[Zr.toNat]? =some y4->Cnd (y4.2=layer) (Cnd (y4.1=but) (InI (Zr+(1:Int))/\q8d Qh (Zr+(1:Int))) (Cnd (y4.5=(3:Int)) (InI (Zr+(1:Int))/\q8d Qh (Zr+(1:Int))) (Rw Qh y4.6 fun Zp=>InI (Zr+(1:Int))/\q8d Zp (Zr+(1:Int))))) (InI (Zr+(1:Int))/\q8d Qh (Zr+(1:Int)))) (K Qh)) Qc (0:Int)) fun w9o=>((0:Int)<=Qb/\Qb<(↑v.5.length:Int))/\ ∀y2,v.5[Qb.toNat]? =some y2->((0:Int)<=Qb/\Qb<(↑v.5.length:Int))/\ ∀y4,v.5[Qb.toNat]? =some y4->(Uz y4.6 now fun Zp=>q0u Zp now fun Up=>Rw [Spn.mk (0:Int) y2.4] Up fun Uq=>w9o Uq)/\Uz y4.6 now fun Zp=>(q0u Zp now fun Up=>Rw [Spn.mk (0:Int) y2.4] Up fun Uq=>w9o Uq)/\q0u Zp now fun Up=>Rw [Spn.mk (0:Int) y2.4] Up fun Uq=>w9o Uq)
def q82:q45:=j0h Gi q81 q0c q80
abbrev Ri:Type:=List (Spn)->List (Spn)->(List (Spn)->Prop)->Prop
def j0i (Zt:Gj) (Qz:Jn):Ri:=fun a b K=>Zt a fun Qb=>Zt b fun Qc=>Lp2 (fun Qh Zr q8d=>Zr.length<=(9223372036854775807:Nat)->Cnd (Qh<(↑Zr.length:Int)) (((0:Int)<=Qh/\Qh<(↑Zr.length:Int))/\ ∀y4,Zr[Qh.toNat]? =some y4->Cnd (y4=true) (((0:Int)<=Qh/\Qh<(↑Qc.length:Int))/\ ∀y6,Qc[Qh.toNat]? =some y6->((0:Int)<=Qh/\Qh<(↑Zr.length:Int))/\ ∀y8,Zr[Qh.toNat]? =some y8->InI (Qh+(1:Int))/\q8d (Qh+(1:Int)) (Zr.set Qh.toNat (match decide (y6=true) with|true=>false|false=>true))) (((0:Int)<=Qh/\Qh<(↑Zr.length:Int))/\ ∀y6,Zr[Qh.toNat]? =some y6->InI (Qh+(1:Int))/\q8d (Qh+(1:Int)) (Zr.set Qh.toNat false))) (Qz Zr fun Qk=>K Qk)) (0:Int) Qb
def q2g:Ri:=j0i q0d Vb
abbrev q74:Type:=Envt->ByteArray->Int->(List (Spn)->Int->Prop)->Prop
def j5e (q8e:z1s) (Zg:Wr) (q55:q45) (Vh:Ri):q74:=fun v layer now K=>q8e now fun Qb=>Cnd (Qb=true) (Zg (Envt.mk (Sett.mk v.1.1 v.1.2 v.1.3) v.2 v.3 v.4 v.5 v.6) layer fun Qc=>Cnd (Qc<(0:Int)) (K [] (11:Int)) (q55 (Envt.mk (Sett.mk v.1.1 v.1.2 v.1.3) v.2 v.3 v.4 v.5 v.6) layer (ByteArray.mk (Array.mk [])) now fun Qh=>Vh [Spn.mk (0:Int) (10000:Int)] Qh fun Qm=>K Qm (0:Int))) (K [] (3:Int))
def z1u:q74:=j5e z1t Gi q82 q2g
abbrev q46:Type:=List (Spn)->Int->(List (Spn)->Prop)->Prop
def j0j (Zt:Gj) (Qz:Jn):q46:=fun l n K=>Zt l fun Qb=>Lp3 (fun Qc Z1 z4m u6j=>z4m.length<=(9223372036854775807:Nat)->Cnd (Z1<(↑z4m.length:Int)) (((0:Int)<=Z1/\Z1<(↑z4m.length:Int))/\ ∀y3,z4m[Z1.toNat]? =some y3->Cnd (y3=true) (Cnd (Qc<=(0:Int)) (((0:Int)<=Z1/\Z1<(↑z4m.length:Int))/\ ∀y5,z4m[Z1.toNat]? =some y5->InI (Z1+(1:Int))/\u6j Qc (Z1+(1:Int)) (z4m.set Z1.toNat false)) (((0:Int)<=Z1/\Z1<(↑z4m.length:Int))/\ ∀y5,z4m[Z1.toNat]? =some y5->Cnd (y5=true) (InI (Qc - (1:Int))/\InI (Z1+(1:Int))/\u6j (Qc - (1:Int)) (Z1+(1:Int)) z4m) (InI (Z1+(1:Int))/\u6j Qc (Z1+(1:Int)) z4m))) (((0:Int)<=Z1/\Z1<(↑z4m.length:Int))/\ ∀y5,z4m[Z1.toNat]? =some y5->Cnd (y5=true) (InI (Qc - (1:Int))/\InI (Z1+(1:Int))/\u6j (Qc - (1:Int)) (Z1+(1:Int)) z4m) (InI (Z1+(1:Int))/\u6j Qc (Z1+(1:Int)) z4m))) (Qz z4m fun Qm=>K Qm)) n (0:Int) Qb
def q83:q46:=j0j q0d Vb
abbrev Ws:Type:=ByteArray->(Bool->Prop)->Prop
def Wt (s:ByteArray) (K:Bool->Prop):Prop:=s.size<=(9223372036854775807:Nat)/\K (Go.Lib.validD s.data.toList)
abbrev Zz:Type:=ByteArray->(Bool->Prop)->Prop
def z79 (Zh:Ws):Zz:=fun s K=>Cnd ((200:Int)<(↑s.size:Int)) (K false) (Zh s fun Qb=>Cnd (Qb=true) (Lp1 (fun Qc q3i=>Cnd (Qc<(↑s.size:Int)) (((0:Int)<=Qc/\Qc<(↑s.size:Int))/\ ∀b2,s[Qc.toNat]? =some b2->Cnd ((↑b2.toNat:Int)<(32:Int)) (K false) (((0:Int)<=Qc/\Qc<(↑s.size:Int))/\ ∀b4,s[Qc.toNat]? =some b4->Cnd ((↑b4.toNat:Int)=(127:Int)) (K false) (InI (Qc+(1:Int))/\q3i (Qc+(1:Int))))) (K true)) (0:Int)) (K false))
def Jt:Zz:=z79 Wt
abbrev z5o:Type:=ByteArray->(Bool->Prop)->Prop
def z5p:z5o:=fun s K=>Lp1 (fun Qb q54=>Cnd (Qb<(↑s.size:Int)) (((0:Int)<=Qb/\Qb<(↑s.size:Int))/\ ∀b1,s[Qb.toNat]? =some b1->Cnd ((97:Int)<=(↑b1.toNat:Int)) (Cnd ((↑b1.toNat:Int)<=(122:Int)) (InI (Qb+(1:Int))/\q54 (Qb+(1:Int))) (Cnd (Qb=(0:Int)) (K false) (Cnd ((48:Int)<=(↑b1.toNat:Int)) (Cnd ((↑b1.toNat:Int)<=(57:Int)) (InI (Qb+(1:Int))/\q54 (Qb+(1:Int))) (Cnd ((↑b1.toNat:Int)=(45:Int)) (InI (Qb+(1:Int))/\q54 (Qb+(1:Int))) (Cnd ((↑b1.toNat:Int)=(95:Int)) (InI (Qb+(1:Int))/\q54 (Qb+(1:Int))) (K false)))) (Cnd ((↑b1.toNat:Int)=(45:Int)) (InI (Qb+(1:Int))/\q54 (Qb+(1:Int))) (Cnd ((↑b1.toNat:Int)=(95:Int)) (InI (Qb+(1:Int))/\q54 (Qb+(1:Int))) (K false)))))) (Cnd (Qb=(0:Int)) (K false) (Cnd ((48:Int)<=(↑b1.toNat:Int)) (Cnd ((↑b1.toNat:Int)<=(57:Int)) (InI (Qb+(1:Int))/\q54 (Qb+(1:Int))) (Cnd ((↑b1.toNat:Int)=(45:Int)) (InI (Qb+(1:Int))/\q54 (Qb+(1:Int))) (Cnd ((↑b1.toNat:Int)=(95:Int)) (InI (Qb+(1:Int))/\q54 (Qb+(1:Int))) (K false)))) (Cnd ((↑b1.toNat:Int)=(45:Int)) (InI (Qb+(1:Int))/\q54 (Qb+(1:Int))) (Cnd ((↑b1.toNat:Int)=(95:Int)) (InI (Qb+(1:Int))/\q54 (Qb+(1:Int))) (K false)))))) (K (decide ((0:Int)<(↑s.size:Int))))) (0:Int)
abbrev q3r:Type:=(List (ByteArray)->Prop)->Prop
def q3s:q3r:=fun K=>K [ByteArray.mk (Array.mk [97,110,100]),ByteArray.mk (Array.mk [97,114,109,115]),ByteArray.mk (Array.mk [97,116,116,114,105,98,117,116,101]),ByteArray.mk (Array.mk [98,111,111,108]),ByteArray.mk (Array.mk [99,108,97,105,109,115]),ByteArray.mk (Array.mk [99,111,110,116,97,105,110,115]),ByteArray.mk (Array.mk [99,111,111,108]),ByteArray.mk (Array.mk [99,111,111,108,105,110,103]),ByteArray.mk (Array.mk [100,101,102,97,117,108,116]),ByteArray.mk (Array.mk [100,114,97,102,116]),ByteArray.mk (Array.mk [101,110,100,115]),ByteArray.mk (Array.mk [101,120,99,108,117,100,101]),ByteArray.mk (Array.mk [101,120,105,115,116,115]),ByteArray.mk (Array.mk [101,120,112,101,114,105,109,101,110,116]),ByteArray.mk (Array.mk [102,97,108,115,101]),ByteArray.mk (Array.mk [102,108,97,103]),ByteArray.mk (Array.mk [104,111,108,100,111,117,116]),ByteArray.mk (Array.mk [105,110]),ByteArray.mk (Array.mk [105,110,99,108,117,100,101]),ByteArray.mk (Array.mk [105,115]),ByteArray.mk (Array.mk [108,97,121,101,114]),ByteArray.mk (Array.mk [108,105,115,116]),ByteArray.mk (Array.mk [109,101,109,98,101,114]),ByteArray.mk (Array.mk [110,101,101,100,115]),ByteArray.mk (Array.mk [110,111,116]),ByteArray.mk (Array.mk [110,117,109,98,101,114]),ByteArray.mk (Array.mk [111,102,102]),ByteArray.mk (Array.mk [111,110]),ByteArray.mk (Array.mk [111,114]),ByteArray.mk (Array.mk [114,117,108,101]),ByteArray.mk (Array.mk [114,117,110,110,105,110,103]),ByteArray.mk (Array.mk [115,97,108,116]),ByteArray.mk (Array.mk [115,101,103,109,101,110,116]),ByteArray.mk (Array.mk [115,101,114,118,101]),ByteArray.mk (Array.mk [115,101,116,116,105,110,103,115]),ByteArray.mk (Array.mk [115,112,108,105,116]),ByteArray.mk (Array.mk [115,116,97,114,116,115]),ByteArray.mk (Array.mk [115,116,111,112,112,101,100]),ByteArray.mk (Array.mk [116,97,114,103,101,116]),ByteArray.mk (Array.mk [116,101,120,116]),ByteArray.mk (Array.mk [116,111]),ByteArray.mk (Array.mk [116,114,117,101]),ByteArray.mk (Array.mk [117,110,116,105,108]),ByteArray.mk (Array.mk [118,97,114,105,97,116,105,111,110,115]),ByteArray.mk (Array.mk [118,101,114,115,105,111,110]),ByteArray.mk (Array.mk [119,104,101,110])]
abbrev Zu:Type:=ByteArray->(Bool->Prop)->Prop
def v0l (z2r:z5o) (q1k:q3r):Zu:=fun s K=>z2r s fun Qb=>Cnd (Qb=true) (Cnd ((32:Int)<(↑s.size:Int)) (K false) (q1k fun Qc=>Lp1 (fun Qh j7r=>Qc.length<=(9223372036854775807:Nat)->Cnd (Qh<(↑Qc.length:Int)) (((0:Int)<=Qh/\Qh<(↑Qc.length:Int))/\ ∀y4,Qc[Qh.toNat]? =some y4->Cnd (y4=s) (K false) (InI (Qh+(1:Int))/\j7r (Qh+(1:Int)))) (K true)) (0:Int))) (K false)
def Wa:Zu:=v0l z5p q3s
abbrev q02:Type:=Sett->(Int->Prop)->Prop
def z3h (Qu:Zz) (Qn:Zu):q02:=fun s K=>Qu s.1 fun Qb=>Cnd (Qb=true) (Cnd (s.3<(0:Int)) (K (3:Int)) (Cnd ((10000:Int)<s.3) (K (3:Int)) (Qn s.2 fun Qc=>Cnd (Qc=true) (K (0:Int)) (Cnd (s.2=ByteArray.mk (Array.mk [])) (Cnd (s.3=(0:Int)) (K (0:Int)) (K (6:Int))) (K (6:Int)))))) (K (2:Int))
def q3t:q02:=z3h Jt Wa
abbrev q03:Type:=List (Decl)->(Int->Prop)->Prop
def z3i (Qn:Zu):q03:=fun l K=>l.length<=(9223372036854775807:Nat)->Cnd ((30:Int)<(↑l.length:Int)) (K (5:Int)) (Lp1 (fun Qc q3i=>l.length<=(9223372036854775807:Nat)->Cnd (Qc<(↑l.length:Int)) (((0:Int)<=Qc/\Qc<(↑l.length:Int))/\ ∀y3,l[Qc.toNat]? =some y3->Qn y3.1 fun Qy=>Cnd (Qy=true) (((0:Int)<=Qc/\Qc<(↑l.length:Int))/\ ∀y6,l[Qc.toNat]? =some y6->Qn y6.2 fun Uq=>Cnd (Uq=true) (((0:Int)<=Qc/\Qc<(↑l.length:Int))/\ ∀y9,l[Qc.toNat]? =some y9->Cnd (y9.2=ByteArray.mk (Array.mk [107,101,121])) (K (6:Int)) (((0:Int)<=Qc/\Qc<(↑l.length:Int))/\ ∀y11,l[Qc.toNat]? =some y11->Cnd (y11.3<(1:Int)) (K (7:Int)) (((0:Int)<=Qc/\Qc<(↑l.length:Int))/\ ∀y13,l[Qc.toNat]? =some y13->Cnd ((5:Int)<y13.3) (K (7:Int)) (Cnd ((0:Int)<Qc) (((0:Int)<=Qc/\Qc<(↑l.length:Int))/\ ∀y15,l[Qc.toNat]? =some y15->InI (Qc - (1:Int))/\((0:Int)<=Qc - (1:Int)/\Qc - (1:Int)<(↑l.length:Int))/\ ∀y17,l[(Qc - (1:Int)).toNat]? =some y17->Cnd (Lk.blt y15.1 y17.1) (K (9:Int)) (((0:Int)<=Qc/\Qc<(↑l.length:Int))/\ ∀y19,l[Qc.toNat]? =some y19->InI (Qc - (1:Int))/\((0:Int)<=Qc - (1:Int)/\Qc - (1:Int)<(↑l.length:Int))/\ ∀y21,l[(Qc - (1:Int)).toNat]? =some y21->Cnd (y19.1=y21.1) (((0:Int)<=Qc/\Qc<(↑l.length:Int))/\ ∀y23,l[Qc.toNat]? =some y23->InI (Qc - (1:Int))/\((0:Int)<=Qc - (1:Int)/\Qc - (1:Int)<(↑l.length:Int))/\ ∀y25,l[(Qc - (1:Int)).toNat]? =some y25->Cnd (Lk.blt y25.2 y23.2) (InI (Qc+(1:Int))/\q3i (Qc+(1:Int))) (K (9:Int))) (InI (Qc+(1:Int))/\q3i (Qc+(1:Int))))) (InI (Qc+(1:Int))/\q3i (Qc+(1:Int))))))) (K (6:Int))) (K (6:Int))) (K (0:Int))) (0:Int))
def q3u:q03:=z3i Wa
abbrev Gk:Type:=List (ByteArray)->(Int->Prop)->Prop
def z5q (Qu:Zz):Gk:=fun l K=>l.length<=(9223372036854775807:Nat)->Cnd ((40:Int)<(↑l.length:Int)) (K (5:Int)) (Lp1 (fun Qc q3i=>l.length<=(9223372036854775807:Nat)->Cnd (Qc<(↑l.length:Int)) (((0:Int)<=Qc/\Qc<(↑l.length:Int))/\ ∀y3,l[Qc.toNat]? =some y3->Cnd (y3=ByteArray.mk (Array.mk [])) (K (2:Int)) (((0:Int)<=Qc/\Qc<(↑l.length:Int))/\ ∀y5,l[Qc.toNat]? =some y5->Qu y5 fun Up=>Cnd (Up=true) (Cnd ((0:Int)<Qc) (((0:Int)<=Qc/\Qc<(↑l.length:Int))/\ ∀y8,l[Qc.toNat]? =some y8->InI (Qc - (1:Int))/\((0:Int)<=Qc - (1:Int)/\Qc - (1:Int)<(↑l.length:Int))/\ ∀y10,l[(Qc - (1:Int)).toNat]? =some y10->Cnd (Lk.blt y10 y8) (InI (Qc+(1:Int))/\q3i (Qc+(1:Int))) (K (9:Int))) (InI (Qc+(1:Int))/\q3i (Qc+(1:Int)))) (K (2:Int)))) (K (0:Int))) (0:Int))
def q0e:Gk:=z5q Jt
abbrev z5r:Type:=Ex->(Bool->Prop)->Prop
def z5s:z5r:=fun e K=>Cnd (e.1=(0:Int)) (Cnd (e.2=ByteArray.mk (Array.mk [])) (Cnd (e.3=ByteArray.mk (Array.mk [])) (e.4.length<=(9223372036854775807:Nat)->Cnd ((↑e.4.length:Int)=(0:Int)) (e.5.length<=(9223372036854775807:Nat)->K (decide ((↑e.5.length:Int)=(0:Int)))) (K false)) (K false)) (K false)) (K false)
abbrev q47:Type:=Ex->(Bool->Prop)->Prop
def j0k (Q2:Wd):q47:=fun e K=>e.5.length<=(9223372036854775807:Nat)->e.4.length<=(9223372036854775807:Nat)->Jn2 (fun Qh Zr=>Q2 e.1 fun Qm=>Cnd (Qh=true) (Cnd (Zr=true) (Cnd (Qm=true) (Cnd (Qm=true) (K true) (Cnd (e.1=(5:Int)) (K true) (K (decide (e.3=ByteArray.mk (Array.mk [])))))) (Cnd (e.2=ByteArray.mk (Array.mk [])) (Cnd (Qm=true) (K true) (Cnd (e.1=(5:Int)) (K true) (K (decide (e.3=ByteArray.mk (Array.mk [])))))) (K false))) (K false)) (K false)) fun v3q=>Cnd (e.1=(2:Int)) (e.5.length<=(9223372036854775807:Nat)->v3q (decide ((2:Int)<=(↑e.5.length:Int))) (decide ((↑e.4.length:Int)=(0:Int)))) (Cnd (e.1=(3:Int)) (e.5.length<=(9223372036854775807:Nat)->v3q (decide ((2:Int)<=(↑e.5.length:Int))) (decide ((↑e.4.length:Int)=(0:Int)))) (Cnd (e.1=(4:Int)) (e.5.length<=(9223372036854775807:Nat)->v3q (decide ((↑e.5.length:Int)=(1:Int))) (decide ((↑e.4.length:Int)=(0:Int)))) (Cnd (e.1=(8:Int)) (e.4.length<=(9223372036854775807:Nat)->v3q (decide ((↑e.5.length:Int)=(0:Int))) (decide ((0:Int)<(↑e.4.length:Int)))) (Q2 e.1 fun Qm=>Cnd (Qm=true) (Cnd (e.1=(6:Int)) (v3q (decide ((↑e.5.length:Int)=(0:Int))) (decide ((↑e.4.length:Int)=(0:Int)))) (e.4.length<=(9223372036854775807:Nat)->v3q (decide ((↑e.5.length:Int)=(0:Int))) (decide ((↑e.4.length:Int)=(1:Int))))) (v3q (decide ((↑e.5.length:Int)=(0:Int))) (decide ((↑e.4.length:Int)=(0:Int))))))))
def q84:q47:=j0k We
abbrev z1v:Type:=Val->(Bool->Prop)->Prop
def q48:z1v:=fun v K=>Cnd (v.1=(1:Int)) (Cnd (v.1=(3:Int)) (Cnd (v.1=(5:Int)) (K true) (v.4.length<=(9223372036854775807:Nat)->K (decide ((↑v.4.length:Int)=(0:Int))))) (Cnd (v.1=(4:Int)) (Cnd (v.1=(5:Int)) (K true) (v.4.length<=(9223372036854775807:Nat)->K (decide ((↑v.4.length:Int)=(0:Int))))) (Cnd (v.3=ByteArray.mk (Array.mk [])) (Cnd (v.1=(5:Int)) (K true) (v.4.length<=(9223372036854775807:Nat)->K (decide ((↑v.4.length:Int)=(0:Int))))) (K false)))) (Cnd (v.1=(3:Int)) (Cnd (v.1=(2:Int)) (Cnd (v.1=(5:Int)) (K true) (v.4.length<=(9223372036854775807:Nat)->K (decide ((↑v.4.length:Int)=(0:Int))))) (Cnd (v.2=(0:Int)) (Cnd (v.1=(5:Int)) (K true) (v.4.length<=(9223372036854775807:Nat)->K (decide ((↑v.4.length:Int)=(0:Int))))) (K false))) (Cnd (v.1=(2:Int)) (Cnd (v.1=(4:Int)) (Cnd (v.1=(5:Int)) (K true) (v.4.length<=(9223372036854775807:Nat)->K (decide ((↑v.4.length:Int)=(0:Int))))) (Cnd (v.3=ByteArray.mk (Array.mk [])) (Cnd (v.1=(5:Int)) (K true) (v.4.length<=(9223372036854775807:Nat)->K (decide ((↑v.4.length:Int)=(0:Int))))) (K false))) (Cnd (v.2=(0:Int)) (Cnd (v.1=(4:Int)) (Cnd (v.1=(5:Int)) (K true) (v.4.length<=(9223372036854775807:Nat)->K (decide ((↑v.4.length:Int)=(0:Int))))) (Cnd (v.3=ByteArray.mk (Array.mk [])) (Cnd (v.1=(5:Int)) (K true) (v.4.length<=(9223372036854775807:Nat)->K (decide ((↑v.4.length:Int)=(0:Int))))) (K false))) (K false))))
abbrev R4:Type:=ByteArray->(Int->Int->Prop)->Prop
def W5:R4:=fun s K=>Jn1 (fun Qb=>Lp1 (fun Qc q3i=>Cnd (Qc<(↑Qb.size:Int)) (((0:Int)<=Qc/\Qc<(↑Qb.size:Int))/\ ∀b2,Qb[Qc.toNat]? =some b2->Cnd ((↑b2.toNat:Int)<(48:Int)) (K (0:Int) (1:Int)) (((0:Int)<=Qc/\Qc<(↑Qb.size:Int))/\ ∀b4,Qb[Qc.toNat]? =some b4->Cnd ((57:Int)<(↑b4.toNat:Int)) (K (0:Int) (1:Int)) (InI (Qc+(1:Int))/\q3i (Qc+(1:Int))))) (Cnd (Qb=ByteArray.mk (Array.mk [])) (K (0:Int) (1:Int)) (((0:Int)<=(0:Int)/\(0:Int)<(↑Qb.size:Int))/\ ∀b2,Qb[Int.toNat (0:Int)]? =some b2->Cnd ((↑b2.toNat:Int)=(48:Int)) (Cnd (s=ByteArray.mk (Array.mk [48])) (Cnd ((13:Int)<(↑Qb.size:Int)) (K (0:Int) (3:Int)) (Lp2 (fun Qk Wn v71=>Cnd (Wn<(↑Qb.size:Int)) (InI ((10:Int)*Qk)/\((0:Int)<=Wn/\Wn<(↑Qb.size:Int))/\ ∀b5,Qb[Wn.toNat]? =some b5->InI (Go.IntKind.u8.wrap ((↑b5.toNat:Int) - (48:Int)))/\InI ((10:Int)*Qk+Go.IntKind.u8.wrap ((↑b5.toNat:Int) - (48:Int)))/\InI (Wn+(1:Int))/\v71 ((10:Int)*Qk+Go.IntKind.u8.wrap ((↑b5.toNat:Int) - (48:Int))) (Wn+(1:Int))) (Cnd ((1099511627776:Int)<Qk) (K (0:Int) (3:Int)) (Cnd ((↑Qb.size:Int)<(↑s.size:Int)) (InI ((0:Int) - Qk)/\K ((0:Int) - Qk) (0:Int)) (K Qk (0:Int))))) (0:Int) (0:Int))) (K (0:Int) (1:Int))) (Cnd ((13:Int)<(↑Qb.size:Int)) (K (0:Int) (3:Int)) (Lp2 (fun Qk Wn v71=>Cnd (Wn<(↑Qb.size:Int)) (InI ((10:Int)*Qk)/\((0:Int)<=Wn/\Wn<(↑Qb.size:Int))/\ ∀b5,Qb[Wn.toNat]? =some b5->InI (Go.IntKind.u8.wrap ((↑b5.toNat:Int) - (48:Int)))/\InI ((10:Int)*Qk+Go.IntKind.u8.wrap ((↑b5.toNat:Int) - (48:Int)))/\InI (Wn+(1:Int))/\v71 ((10:Int)*Qk+Go.IntKind.u8.wrap ((↑b5.toNat:Int) - (48:Int))) (Wn+(1:Int))) (Cnd ((1099511627776:Int)<Qk) (K (0:Int) (3:Int)) (Cnd ((↑Qb.size:Int)<(↑s.size:Int)) (InI ((0:Int) - Qk)/\K ((0:Int) - Qk) (0:Int)) (K Qk (0:Int))))) (0:Int) (0:Int)))))) (0:Int)) fun z22=>Cnd ((0:Int)<(↑s.size:Int)) (((0:Int)<=(0:Int)/\(0:Int)<(↑s.size:Int))/\ ∀b1,s[Int.toNat (0:Int)]? =some b1->Cnd ((↑b1.toNat:Int)=(45:Int)) (((0:Int)<=(1:Int)/\(1:Int)<=(↑s.size:Int)/\(↑s.size:Int)<=(↑s.size:Int))/\z22 (s.extract (Int.toNat (1:Int)) (↑s.size:Int).toNat)) (z22 s)) (z22 s)
abbrev q49:Type:=ByteArray->(A3->Bool->Prop)->Prop
def z8a (V5:R4):q49:=fun s K=>LpH (fun (Qb:Int×Int×Int×Int×Int×Int×Int×Int×Unit) q54=>Cnd (Qb.snd.fst<(3:Int)) (Lp1 (fun Qc q3i=>Cnd (Qc<(↑s.size:Int)) (((0:Int)<=Qc/\Qc<(↑s.size:Int))/\ ∀b2,s[Qc.toNat]? =some b2->Cnd ((↑b2.toNat:Int)=(46:Int)) (((0:Int)<=Qb.fst/\Qb.fst<=Qc/\Qc<=(↑s.size:Int))/\V5 (s.extract Qb.fst.toNat Qc.toNat) fun Qk Wn=>Cnd (Wn=(0:Int)) (Cnd (Qk<(0:Int)) (K ((0:Int),(0:Int),(0:Int)) false) (Cnd ((999999:Int)<Qk) (K ((0:Int),(0:Int),(0:Int)) false) (Cnd (decide (Qb.snd.fst<(2:Int))=decide (Qc<(↑s.size:Int))) (((0:Int)<=Qb.snd.fst/\Qb.snd.fst<(↑(3:Nat):Int))/\((True/\(Qb.snd.fst=(↑(nat_lit 0):Int)->InI (Qc+(1:Int))/\InI (Qb.snd.fst+(1:Int))/\q54 (Qc+(1:Int),Qb.snd.fst+(1:Int),Qk,Qb.snd.snd.snd.fst,Qb.snd.snd.snd.snd.fst,Qb.snd.snd.snd.snd.snd.fst,Qb.snd.snd.snd.snd.snd.snd.fst,Qb.snd.snd.snd.snd.snd.snd.snd.fst,())))/\(Qb.snd.fst=(↑(nat_lit 1):Int)->InI (Qc+(1:Int))/\InI (Qb.snd.fst+(1:Int))/\q54 (Qc+(1:Int),Qb.snd.fst+(1:Int),Qb.snd.snd.fst,Qk,Qb.snd.snd.snd.snd.fst,Qb.snd.snd.snd.snd.snd.fst,Qb.snd.snd.snd.snd.snd.snd.fst,Qb.snd.snd.snd.snd.snd.snd.snd.fst,())))/\(Qb.snd.fst=(↑(nat_lit 2):Int)->InI (Qc+(1:Int))/\InI (Qb.snd.fst+(1:Int))/\q54 (Qc+(1:Int),Qb.snd.fst+(1:Int),Qb.snd.snd.fst,Qb.snd.snd.snd.fst,Qk,Qb.snd.snd.snd.snd.snd.fst,Qb.snd.snd.snd.snd.snd.snd.fst,Qb.snd.snd.snd.snd.snd.snd.snd.fst,()))) (K ((0:Int),(0:Int),(0:Int)) false)))) (K ((0:Int),(0:Int),(0:Int)) false)) (InI (Qc+(1:Int))/\q3i (Qc+(1:Int)))) (((0:Int)<=Qb.fst/\Qb.fst<=Qc/\Qc<=(↑s.size:Int))/\V5 (s.extract Qb.fst.toNat Qc.toNat) fun Qh Zr=>Cnd (Zr=(0:Int)) (Cnd (Qh<(0:Int)) (K ((0:Int),(0:Int),(0:Int)) false) (Cnd ((999999:Int)<Qh) (K ((0:Int),(0:Int),(0:Int)) false) (Cnd (decide (Qb.snd.fst<(2:Int))=decide (Qc<(↑s.size:Int))) (((0:Int)<=Qb.snd.fst/\Qb.snd.fst<(↑(3:Nat):Int))/\((True/\(Qb.snd.fst=(↑(nat_lit 0):Int)->InI (Qc+(1:Int))/\InI (Qb.snd.fst+(1:Int))/\q54 (Qc+(1:Int),Qb.snd.fst+(1:Int),Qh,Qb.snd.snd.snd.fst,Qb.snd.snd.snd.snd.fst,Qb.snd.snd.snd.snd.snd.fst,Qb.snd.snd.snd.snd.snd.snd.fst,Qb.snd.snd.snd.snd.snd.snd.snd.fst,())))/\(Qb.snd.fst=(↑(nat_lit 1):Int)->InI (Qc+(1:Int))/\InI (Qb.snd.fst+(1:Int))/\q54 (Qc+(1:Int),Qb.snd.fst+(1:Int),Qb.snd.snd.fst,Qh,Qb.snd.snd.snd.snd.fst,Qb.snd.snd.snd.snd.snd.fst,Qb.snd.snd.snd.snd.snd.snd.fst,Qb.snd.snd.snd.snd.snd.snd.snd.fst,())))/\(Qb.snd.fst=(↑(nat_lit 2):Int)->InI (Qc+(1:Int))/\InI (Qb.snd.fst+(1:Int))/\q54 (Qc+(1:Int),Qb.snd.fst+(1:Int),Qb.snd.snd.fst,Qb.snd.snd.snd.fst,Qh,Qb.snd.snd.snd.snd.snd.fst,Qb.snd.snd.snd.snd.snd.snd.fst,Qb.snd.snd.snd.snd.snd.snd.snd.fst,()))) (K ((0:Int),(0:Int),(0:Int)) false)))) (K ((0:Int),(0:Int),(0:Int)) false))) Qb.fst) (K (Qb.snd.snd.fst,Qb.snd.snd.snd.fst,Qb.snd.snd.snd.snd.fst) true)) ((0:Int),(0:Int),(0:Int),(0:Int),(0:Int),(0:Int),(0:Int),(0:Int),())
def q2w:q49:=z8a W5
abbrev z1w:Type:=List (ByteArray)->(Int->Prop)->Prop
def j2r (Qu:Zz):z1w:=fun l K=>l.length<=(9223372036854775807:Nat)->Cnd ((20:Int)<(↑l.length:Int)) (K (5:Int)) (Lp1 (fun Qc q3i=>l.length<=(9223372036854775807:Nat)->Cnd (Qc<(↑l.length:Int)) (((0:Int)<=Qc/\Qc<(↑l.length:Int))/\ ∀y3,l[Qc.toNat]? =some y3->Qu y3 fun Qy=>Cnd (Qy=true) (InI (Qc+(1:Int))/\q3i (Qc+(1:Int))) (K (2:Int))) (Lp1 (fun Qm j19=>l.length<=(9223372036854775807:Nat)->Cnd (Qm<(↑l.length:Int)) (((0:Int)<=Qm/\Qm<(↑l.length:Int))/\ ∀y5,l[Qm.toNat]? =some y5->InI (Qm - (1:Int))/\((0:Int)<=Qm - (1:Int)/\Qm - (1:Int)<(↑l.length:Int))/\ ∀y7,l[(Qm - (1:Int)).toNat]? =some y7->Cnd (Lk.blt y7 y5) (InI (Qm+(1:Int))/\j19 (Qm+(1:Int))) (K (9:Int))) (K (0:Int))) (1:Int))) (0:Int))
def q85:z1w:=j2r Jt
abbrev Bi:Type:=Val->(Int->Prop)->Prop
def z8b (q8f:z1v) (Qu:Zz) (q1l:q49) (z2s:z1w):Bi:=fun v K=>Cnd (v.1<(1:Int)) (K (7:Int)) (Cnd ((5:Int)<v.1) (K (7:Int)) (q8f v fun Qb=>Cnd (Qb=true) (Cnd (v.1=(1:Int)) (Cnd (v.2=(0:Int)) (K (0:Int)) (Cnd (v.2=(1:Int)) (K (0:Int)) (K (3:Int)))) (Cnd (v.1=(2:Int)) (Cnd (v.2<(-1099511627776:Int)) (K (3:Int)) (Cnd ((1099511627776:Int)<v.2) (K (3:Int)) (K (0:Int)))) (Cnd (v.1=(3:Int)) (Qu v.3 fun Qc=>Cnd (Qc=true) (K (0:Int)) (K (2:Int))) (Cnd (v.1=(4:Int)) (q1l v.3 fun (_:Int×Int×Int) Z1=>Cnd (Z1=true) (K (0:Int)) (K (1:Int))) (Cnd (v.1=(5:Int)) (z2s v.4 fun Qc=>K Qc) (K (0:Int))))))) (K (15:Int))))
def Bj:Bi:=z8b q48 Jt q2w q85
abbrev z1x:Type:=Ex->(Int->Prop)->Prop
def w2n (q56:q47) (Q2:Wd) (Qn:Zu) (Jh:Bi):z1x:=fun e K=>Cnd (e.1<(1:Int)) (K (7:Int)) (Cnd ((15:Int)<e.1) (K (7:Int)) (q56 (Ex.mk e.1 e.2 e.3 e.4 e.5) fun Qb=>Cnd (Qb=true) (e.5.length<=(9223372036854775807:Nat)->Cnd ((12:Int)<(↑e.5.length:Int)) (K (5:Int)) (e.4.length<=(9223372036854775807:Nat)->Cnd ((20:Int)<(↑e.4.length:Int)) (K (5:Int)) (Lp1 (fun Qm j19=>e.5.length<=(9223372036854775807:Nat)->Cnd (Qm<(↑e.5.length:Int)) (((0:Int)<=Qm/\Qm<(↑e.5.length:Int))/\ ∀y5,e.5[Qm.toNat]? =some y5->Cnd (y5.1=e.1) (Cnd (e.1=(4:Int)) (InI (Qm+(1:Int))/\j19 (Qm+(1:Int))) (K (15:Int))) (InI (Qm+(1:Int))/\j19 (Qm+(1:Int)))) (Q2 e.1 fun Qy=>Cnd (Qy=true) (Qn e.2 fun Zp=>Cnd (Zp=true) (Q2 e.1 fun Up=>Cnd (Up=true) (Qn e.3 fun Uq=>Cnd (Uq=true) (Lp1 (fun Q5 Y9_1=>e.4.length<=(9223372036854775807:Nat)->Cnd (Q5<(↑e.4.length:Int)) (((0:Int)<=Q5/\Q5<(↑e.4.length:Int))/\ ∀y11,e.4[Q5.toNat]? =some y11->Jh y11 fun Zl=>Cnd (Zl=(0:Int)) (InI (Q5+(1:Int))/\Y9_1 (Q5+(1:Int))) (K Zl)) (Cnd (e.1=(9:Int)) (((0:Int)<=(0:Int)/\(0:Int)<(↑e.4.length:Int))/\ ∀y11,e.4[Int.toNat (0:Int)]? =some y11->Cnd (y11.1=(3:Int)) (K (0:Int)) (K (8:Int))) (Cnd (e.1=(10:Int)) (((0:Int)<=(0:Int)/\(0:Int)<(↑e.4.length:Int))/\ ∀y11,e.4[Int.toNat (0:Int)]? =some y11->Cnd (y11.1=(3:Int)) (K (0:Int)) (K (8:Int))) (Cnd (e.1=(11:Int)) (((0:Int)<=(0:Int)/\(0:Int)<(↑e.4.length:Int))/\ ∀y11,e.4[Int.toNat (0:Int)]? =some y11->Cnd (y11.1=(3:Int)) (K (0:Int)) (K (8:Int))) (K (0:Int)))))) (0:Int)) (K (6:Int))) (Cnd (e.1=(5:Int)) (Qn e.3 fun Uq=>Cnd (Uq=true) (Lp1 (fun Q5 Y9_1=>e.4.length<=(9223372036854775807:Nat)->Cnd (Q5<(↑e.4.length:Int)) (((0:Int)<=Q5/\Q5<(↑e.4.length:Int))/\ ∀y11,e.4[Q5.toNat]? =some y11->Jh y11 fun Zl=>Cnd (Zl=(0:Int)) (InI (Q5+(1:Int))/\Y9_1 (Q5+(1:Int))) (K Zl)) (Cnd (e.1=(9:Int)) (((0:Int)<=(0:Int)/\(0:Int)<(↑e.4.length:Int))/\ ∀y11,e.4[Int.toNat (0:Int)]? =some y11->Cnd (y11.1=(3:Int)) (K (0:Int)) (K (8:Int))) (Cnd (e.1=(10:Int)) (((0:Int)<=(0:Int)/\(0:Int)<(↑e.4.length:Int))/\ ∀y11,e.4[Int.toNat (0:Int)]? =some y11->Cnd (y11.1=(3:Int)) (K (0:Int)) (K (8:Int))) (Cnd (e.1=(11:Int)) (((0:Int)<=(0:Int)/\(0:Int)<(↑e.4.length:Int))/\ ∀y11,e.4[Int.toNat (0:Int)]? =some y11->Cnd (y11.1=(3:Int)) (K (0:Int)) (K (8:Int))) (K (0:Int)))))) (0:Int)) (K (6:Int))) (Lp1 (fun Uq Y8_1=>e.4.length<=(9223372036854775807:Nat)->Cnd (Uq<(↑e.4.length:Int)) (((0:Int)<=Uq/\Uq<(↑e.4.length:Int))/\ ∀y10,e.4[Uq.toNat]? =some y10->Jh y10 fun Rx=>Cnd (Rx=(0:Int)) (InI (Uq+(1:Int))/\Y8_1 (Uq+(1:Int))) (K Rx)) (Cnd (e.1=(9:Int)) (((0:Int)<=(0:Int)/\(0:Int)<(↑e.4.length:Int))/\ ∀y10,e.4[Int.toNat (0:Int)]? =some y10->Cnd (y10.1=(3:Int)) (K (0:Int)) (K (8:Int))) (Cnd (e.1=(10:Int)) (((0:Int)<=(0:Int)/\(0:Int)<(↑e.4.length:Int))/\ ∀y10,e.4[Int.toNat (0:Int)]? =some y10->Cnd (y10.1=(3:Int)) (K (0:Int)) (K (8:Int))) (Cnd (e.1=(11:Int)) (((0:Int)<=(0:Int)/\(0:Int)<(↑e.4.length:Int))/\ ∀y10,e.4[Int.toNat (0:Int)]? =some y10->Cnd (y10.1=(3:Int)) (K (0:Int)) (K (8:Int))) (K (0:Int)))))) (0:Int)))) (K (6:Int))) (Q2 e.1 fun Zp=>Cnd (Zp=true) (Qn e.3 fun Up=>Cnd (Up=true) (Lp1 (fun Uq Y8_1=>e.4.length<=(9223372036854775807:Nat)->Cnd (Uq<(↑e.4.length:Int)) (((0:Int)<=Uq/\Uq<(↑e.4.length:Int))/\ ∀y10,e.4[Uq.toNat]? =some y10->Jh y10 fun Rx=>Cnd (Rx=(0:Int)) (InI (Uq+(1:Int))/\Y8_1 (Uq+(1:Int))) (K Rx)) (Cnd (e.1=(9:Int)) (((0:Int)<=(0:Int)/\(0:Int)<(↑e.4.length:Int))/\ ∀y10,e.4[Int.toNat (0:Int)]? =some y10->Cnd (y10.1=(3:Int)) (K (0:Int)) (K (8:Int))) (Cnd (e.1=(10:Int)) (((0:Int)<=(0:Int)/\(0:Int)<(↑e.4.length:Int))/\ ∀y10,e.4[Int.toNat (0:Int)]? =some y10->Cnd (y10.1=(3:Int)) (K (0:Int)) (K (8:Int))) (Cnd (e.1=(11:Int)) (((0:Int)<=(0:Int)/\(0:Int)<(↑e.4.length:Int))/\ ∀y10,e.4[Int.toNat (0:Int)]? =some y10->Cnd (y10.1=(3:Int)) (K (0:Int)) (K (8:Int))) (K (0:Int)))))) (0:Int)) (K (6:Int))) (Cnd (e.1=(5:Int)) (Qn e.3 fun Up=>Cnd (Up=true) (Lp1 (fun Uq Y8_1=>e.4.length<=(9223372036854775807:Nat)->Cnd (Uq<(↑e.4.length:Int)) (((0:Int)<=Uq/\Uq<(↑e.4.length:Int))/\ ∀y10,e.4[Uq.toNat]? =some y10->Jh y10 fun Rx=>Cnd (Rx=(0:Int)) (InI (Uq+(1:Int))/\Y8_1 (Uq+(1:Int))) (K Rx)) (Cnd (e.1=(9:Int)) (((0:Int)<=(0:Int)/\(0:Int)<(↑e.4.length:Int))/\ ∀y10,e.4[Int.toNat (0:Int)]? =some y10->Cnd (y10.1=(3:Int)) (K (0:Int)) (K (8:Int))) (Cnd (e.1=(10:Int)) (((0:Int)<=(0:Int)/\(0:Int)<(↑e.4.length:Int))/\ ∀y10,e.4[Int.toNat (0:Int)]? =some y10->Cnd (y10.1=(3:Int)) (K (0:Int)) (K (8:Int))) (Cnd (e.1=(11:Int)) (((0:Int)<=(0:Int)/\(0:Int)<(↑e.4.length:Int))/\ ∀y10,e.4[Int.toNat (0:Int)]? =some y10->Cnd (y10.1=(3:Int)) (K (0:Int)) (K (8:Int))) (K (0:Int)))))) (0:Int)) (K (6:Int))) (Lp1 (fun Up Y7_1=>e.4.length<=(9223372036854775807:Nat)->Cnd (Up<(↑e.4.length:Int)) (((0:Int)<=Up/\Up<(↑e.4.length:Int))/\ ∀y9,e.4[Up.toNat]? =some y9->Jh y9 fun q0t=>Cnd (q0t=(0:Int)) (InI (Up+(1:Int))/\Y7_1 (Up+(1:Int))) (K q0t)) (Cnd (e.1=(9:Int)) (((0:Int)<=(0:Int)/\(0:Int)<(↑e.4.length:Int))/\ ∀y9,e.4[Int.toNat (0:Int)]? =some y9->Cnd (y9.1=(3:Int)) (K (0:Int)) (K (8:Int))) (Cnd (e.1=(10:Int)) (((0:Int)<=(0:Int)/\(0:Int)<(↑e.4.length:Int))/\ ∀y9,e.4[Int.toNat (0:Int)]? =some y9->Cnd (y9.1=(3:Int)) (K (0:Int)) (K (8:Int))) (Cnd (e.1=(11:Int)) (((0:Int)<=(0:Int)/\(0:Int)<(↑e.4.length:Int))/\ ∀y9,e.4[Int.toNat (0:Int)]? =some y9->Cnd (y9.1=(3:Int)) (K (0:Int)) (K (8:Int))) (K (0:Int)))))) (0:Int)))))) (0:Int)))) (K (15:Int))))
def z1y:z1x:=w2n q84 We Wa Bj
abbrev q3v:Type:=Ex->Int->Int->(Int->Int->Prop)->Prop
def w2o (z2t:z1x) (X:q3v):q3v:=fun e depth n K=>Cnd ((60:Int)<=n) (K (5:Int) n) (InI (n+(1:Int))/\Cnd ((10:Int)<depth) (K (18:Int) (n+(1:Int))) (z2t (Ex.mk e.1 e.2 e.3 e.4 e.5) fun Qb=>Cnd (Qb=(0:Int)) (Lp2 (fun Qc Z1 z88=>e.5.length<=(9223372036854775807:Nat)->Cnd (Qc<(↑e.5.length:Int)) (((0:Int)<=Qc/\Qc<(↑e.5.length:Int))/\ ∀y3,e.5[Qc.toNat]? =some y3->InI (depth+(1:Int))/\X (Ex.mk y3.1 y3.2 y3.3 y3.4 y3.5) (depth+(1:Int)) Z1 fun Qy q7j=>Cnd (Qy=(0:Int)) (InI (Qc+(1:Int))/\z88 (Qc+(1:Int)) q7j) (K Qy q7j)) (K (0:Int) Z1)) (0:Int) (n+(1:Int))) (K Qb (n+(1:Int)))))
def z5t:q3v:=fun e depth n K=> ∀X:q3v,(∀e depth n K,w2o z1y X e depth n K->X e depth n K)->X e depth n K
abbrev R5:Type:=Ex->(Int->Prop)->Prop
def w2p (z2u:q3v):R5:=fun e K=>z2u (Ex.mk e.1 e.2 e.3 e.4 e.5) (1:Int) (0:Int) fun Qb _=>K Qb
def q3w:R5:=w2p z5t
abbrev q2x:Type:=Seg->(Int->Prop)->Prop
def z5u (Qn:Zu) (J6:Gk) (z2v:z5r) (Wh:R5):q2x:=fun g K=>Qn g.1 fun Qb=>Cnd (Qb=true) (Qn g.2 fun Qc=>Cnd (Qc=true) (J6 g.3 fun Qh=>Cnd (Qh=(0:Int)) (J6 g.4 fun Qm=>Cnd (Qm=(0:Int)) (z2v (Ex.mk g.5.1 g.5.2 g.5.3 g.5.4 g.5.5) fun Qk=>Cnd (Qk=true) (K (0:Int)) (Wh (Ex.mk g.5.1 g.5.2 g.5.3 g.5.4 g.5.5) fun Qy=>K Qy)) (K Qm)) (K Qh)) (K (6:Int))) (K (6:Int))
def q6p:q2x:=z5u Wa q0e z5s q3w
abbrev q04:Type:=List (Seg)->(Int->Prop)->Prop
def z3j (q29:q2x):q04:=fun l K=>l.length<=(9223372036854775807:Nat)->Cnd ((20:Int)<(↑l.length:Int)) (K (5:Int)) (Lp1 (fun Qc q3i=>l.length<=(9223372036854775807:Nat)->Cnd (Qc<(↑l.length:Int)) (((0:Int)<=Qc/\Qc<(↑l.length:Int))/\ ∀y3,l[Qc.toNat]? =some y3->q29 (Seg.mk y3.1 y3.2 y3.3 y3.4 (Ex.mk y3.5.1 y3.5.2 y3.5.3 y3.5.4 y3.5.5)) fun Qy=>Cnd (Qy=(0:Int)) (Cnd ((0:Int)<Qc) (((0:Int)<=Qc/\Qc<(↑l.length:Int))/\ ∀y6,l[Qc.toNat]? =some y6->InI (Qc - (1:Int))/\((0:Int)<=Qc - (1:Int)/\Qc - (1:Int)<(↑l.length:Int))/\ ∀y8,l[(Qc - (1:Int)).toNat]? =some y8->Cnd (Lk.blt y8.1 y6.1) (InI (Qc+(1:Int))/\q3i (Qc+(1:Int))) (K (9:Int))) (InI (Qc+(1:Int))/\q3i (Qc+(1:Int)))) (K Qy)) (K (0:Int))) (0:Int))
def q3x:q04:=z3j q6p
abbrev Hh:Type:=Flg->(Int->Prop)->Prop
def q86 (Jh:Bi):Hh:=fun f K=>f.3.length<=(9223372036854775807:Nat)->Cnd ((8:Int)<(↑f.3.length:Int)) (K (5:Int)) (Cnd ((↑f.3.length:Int)=(0:Int)) (K (3:Int)) (Lp1 (fun Qc q3i=>Cnd (Qc<(↑f.3.length:Int)) (((0:Int)<=Qc/\Qc<(↑f.3.length:Int))/\ ∀y2,f.3[Qc.toNat]? =some y2->Jh y2 fun Qk=>Cnd (Qk=(0:Int)) (((0:Int)<=Qc/\Qc<(↑f.3.length:Int))/\ ∀y5,f.3[Qc.toNat]? =some y5->Cnd (y5.1=f.2) (InI (Qc+(1:Int))/\q3i (Qc+(1:Int))) (K (8:Int))) (K Qk)) (Cnd (f.5<(1:Int)) (K (3:Int)) (Cnd ((↑f.3.length:Int)<f.5) (K (3:Int)) (K (0:Int))))) (0:Int)))
def q0f:Hh:=q86 Bj
abbrev Vt:Type:=List (Prq)->(Int->Prop)->Prop
def q3y (Qn:Zu):Vt:=fun l K=>l.length<=(9223372036854775807:Nat)->Cnd ((4:Int)<(↑l.length:Int)) (K (5:Int)) (Lp1 (fun Qc q3i=>l.length<=(9223372036854775807:Nat)->Cnd (Qc<(↑l.length:Int)) (((0:Int)<=Qc/\Qc<(↑l.length:Int))/\ ∀y3,l[Qc.toNat]? =some y3->Qn y3.1 fun Qy=>Cnd (Qy=true) (Cnd ((0:Int)<Qc) (((0:Int)<=Qc/\Qc<(↑l.length:Int))/\ ∀y6,l[Qc.toNat]? =some y6->InI (Qc - (1:Int))/\((0:Int)<=Qc - (1:Int)/\Qc - (1:Int)<(↑l.length:Int))/\ ∀y8,l[(Qc - (1:Int)).toNat]? =some y8->Cnd (Lk.blt y8.1 y6.1) (((0:Int)<=Qc/\Qc<(↑l.length:Int))/\ ∀y10,l[Qc.toNat]? =some y10->Cnd (y10.2<(1:Int)) (K (3:Int)) (((0:Int)<=Qc/\Qc<(↑l.length:Int))/\ ∀y12,l[Qc.toNat]? =some y12->Cnd ((8:Int)<y12.2) (K (3:Int)) (InI (Qc+(1:Int))/\q3i (Qc+(1:Int))))) (K (9:Int))) (((0:Int)<=Qc/\Qc<(↑l.length:Int))/\ ∀y6,l[Qc.toNat]? =some y6->Cnd (y6.2<(1:Int)) (K (3:Int)) (((0:Int)<=Qc/\Qc<(↑l.length:Int))/\ ∀y8,l[Qc.toNat]? =some y8->Cnd ((8:Int)<y8.2) (K (3:Int)) (InI (Qc+(1:Int))/\q3i (Qc+(1:Int)))))) (K (6:Int))) (K (0:Int))) (0:Int))
def Gl:Vt:=q3y Wa
abbrev q2y:Type:=List (Tgt)->Int->(Int->Prop)->Prop
def z5v (Qn:Zu) (J6:Gk):q2y:=fun l n K=>l.length<=(9223372036854775807:Nat)->Cnd ((8:Int)<(↑l.length:Int)) (K (5:Int)) (Lp1 (fun Qc q3i=>l.length<=(9223372036854775807:Nat)->Cnd (Qc<(↑l.length:Int)) (((0:Int)<=Qc/\Qc<(↑l.length:Int))/\ ∀y3,l[Qc.toNat]? =some y3->Qn y3.1 fun Qy=>Cnd (Qy=true) (((0:Int)<=Qc/\Qc<(↑l.length:Int))/\ ∀y6,l[Qc.toNat]? =some y6->Cnd (y6.2<(1:Int)) (K (3:Int)) (((0:Int)<=Qc/\Qc<(↑l.length:Int))/\ ∀y8,l[Qc.toNat]? =some y8->Cnd (n<y8.2) (K (3:Int)) (((0:Int)<=Qc/\Qc<(↑l.length:Int))/\ ∀y10,l[Qc.toNat]? =some y10->y10.3.length<=(9223372036854775807:Nat)->Cnd ((↑y10.3.length:Int)=(0:Int)) (K (3:Int)) (((0:Int)<=Qc/\Qc<(↑l.length:Int))/\ ∀y13,l[Qc.toNat]? =some y13->J6 y13.3 fun w8h=>Cnd (w8h=(0:Int)) (InI (Qc+(1:Int))/\q3i (Qc+(1:Int))) (K w8h))))) (K (6:Int))) (K (0:Int))) (0:Int))
def q6q:q2y:=z5v Wa q0e
abbrev q2z:Type:=List (Rng)->Int->(Int->Prop)->Prop
def q5a:q2z:=fun l variations K=>l.length<=(9223372036854775807:Nat)->Cnd ((16:Int)<(↑l.length:Int)) (K (5:Int)) (Lp2 (fun Qc Z1 z88=>l.length<=(9223372036854775807:Nat)->Cnd (Z1<(↑l.length:Int)) (((0:Int)<=Z1/\Z1<(↑l.length:Int))/\ ∀y3,l[Z1.toNat]? =some y3->Cnd (y3.3<(1:Int)) (K (3:Int)) (((0:Int)<=Z1/\Z1<(↑l.length:Int))/\ ∀y5,l[Z1.toNat]? =some y5->Cnd (variations<y5.3) (K (3:Int)) (((0:Int)<=Z1/\Z1<(↑l.length:Int))/\ ∀y7,l[Z1.toNat]? =some y7->Cnd (y7.1=Qc) (((0:Int)<=Z1/\Z1<(↑l.length:Int))/\ ∀y9,l[Z1.toNat]? =some y9->Cnd (y9.2<=Qc) (K (9:Int)) (Cnd ((0:Int)<Z1) (((0:Int)<=Z1/\Z1<(↑l.length:Int))/\ ∀y11,l[Z1.toNat]? =some y11->InI (Z1 - (1:Int))/\((0:Int)<=Z1 - (1:Int)/\Z1 - (1:Int)<(↑l.length:Int))/\ ∀y13,l[(Z1 - (1:Int)).toNat]? =some y13->Cnd (y11.3=y13.3) (K (9:Int)) (((0:Int)<=Z1/\Z1<(↑l.length:Int))/\ ∀y15,l[Z1.toNat]? =some y15->InI (Z1+(1:Int))/\z88 y15.2 (Z1+(1:Int)))) (((0:Int)<=Z1/\Z1<(↑l.length:Int))/\ ∀y11,l[Z1.toNat]? =some y11->InI (Z1+(1:Int))/\z88 y11.2 (Z1+(1:Int))))) (K (9:Int))))) (Cnd (Qc=(10000:Int)) (K (0:Int)) (K (3:Int)))) (0:Int) (0:Int))
abbrev q05:Type:=Srv->Int->(Int->Prop)->Prop
def j5f (Qn:Zu) (Qu:Zz) (Uk:q2z):q05:=fun v variations K=>Cnd (v.1=(0:Int)) (Qn v.2 fun Qb=>Cnd (Qb=true) (Qn v.3 fun Qc=>Cnd (Qc=true) (Qu v.4 fun Qh=>Cnd (Qh=true) (Uk v.5 variations fun Qm=>K Qm) (K (2:Int))) (K (6:Int))) (K (6:Int))) (Cnd (v.1<(1:Int)) (K (3:Int)) (Cnd (variations<v.1) (K (3:Int)) (Cnd (v.2=ByteArray.mk (Array.mk [])) (Cnd (v.3=ByteArray.mk (Array.mk [])) (Cnd (v.4=ByteArray.mk (Array.mk [])) (v.5.length<=(9223372036854775807:Nat)->Cnd ((0:Int)<(↑v.5.length:Int)) (K (15:Int)) (K (0:Int))) (K (15:Int))) (K (15:Int))) (K (15:Int)))))
def q5b:q05:=j5f Wa Jt q5a
abbrev q75:Type:=List (Rul)->Int->(Int->Prop)->Prop
def j5g (Qn:Zu) (Wh:R5) (Ul:q05):q75:=fun l n K=>l.length<=(9223372036854775807:Nat)->Cnd ((12:Int)<(↑l.length:Int)) (K (5:Int)) (Lp1 (fun Qc q3i=>l.length<=(9223372036854775807:Nat)->Cnd (Qc<(↑l.length:Int)) (((0:Int)<=Qc/\Qc<(↑l.length:Int))/\ ∀y3,l[Qc.toNat]? =some y3->Qn y3.1 fun Qy=>Cnd (Qy=true) (Lp1 (fun Zp u3j=>Cnd (Zp<Qc) (((0:Int)<=Zp/\Zp<(↑l.length:Int))/\ ∀y7,l[Zp.toNat]? =some y7->((0:Int)<=Qc/\Qc<(↑l.length:Int))/\ ∀y9,l[Qc.toNat]? =some y9->Cnd (y7.1=y9.1) (K (10:Int)) (InI (Zp+(1:Int))/\u3j (Zp+(1:Int)))) (((0:Int)<=Qc/\Qc<(↑l.length:Int))/\ ∀y7,l[Qc.toNat]? =some y7->Wh (Ex.mk y7.2.1 y7.2.2 y7.2.3 y7.2.4 y7.2.5) fun Q5=>Cnd (Q5=(0:Int)) (((0:Int)<=Qc/\Qc<(↑l.length:Int))/\ ∀y10,l[Qc.toNat]? =some y10->Ul (Srv.mk y10.3.1 y10.3.2 y10.3.3 y10.3.4 y10.3.5) n fun Rx=>Cnd (Rx=(0:Int)) (InI (Qc+(1:Int))/\q3i (Qc+(1:Int))) (K Rx)) (K Q5))) (0:Int)) (K (6:Int))) (K (0:Int))) (0:Int))
def z1z:q75:=j5g Wa q3w q5b
abbrev z10:Type:=Flg->(Int->Prop)->Prop
def w2q (Qn:Zu) (H2:Hh) (Vx:Vt) (q3a:q2y) (q8g:q75) (Ul:q05):z10:=fun f K=>f.3.length<=(9223372036854775807:Nat)->Qn f.1 fun Qc=>Cnd (Qc=true) (Cnd (f.2<(1:Int)) (K (7:Int)) (Cnd ((5:Int)<f.2) (K (7:Int)) (H2 (Flg.mk f.1 f.2 f.3 f.4 f.5 f.6 f.7 f.8 (Srv.mk f.9.1 f.9.2 f.9.3 f.9.4 f.9.5)) fun Qh=>Cnd (Qh=(0:Int)) (Vx f.6 fun Qm=>Cnd (Qm=(0:Int)) (q3a f.7 (↑f.3.length:Int) fun Qk=>Cnd (Qk=(0:Int)) (q8g f.8 (↑f.3.length:Int) fun Qy=>Cnd (Qy=(0:Int)) (Ul (Srv.mk f.9.1 f.9.2 f.9.3 f.9.4 f.9.5) (↑f.3.length:Int) fun Zp=>K Zp) (K Qy)) (K Qk)) (K Qm)) (K Qh)))) (K (6:Int))
def z5w:z10:=w2q Wa q0f Gl q6q z1z q5b
abbrev q76:Type:=List (Flg)->(Int->Prop)->Prop
def j5h (z2w:z10):q76:=fun l K=>l.length<=(9223372036854775807:Nat)->Cnd ((30:Int)<(↑l.length:Int)) (K (5:Int)) (Lp1 (fun Qc q3i=>l.length<=(9223372036854775807:Nat)->Cnd (Qc<(↑l.length:Int)) (((0:Int)<=Qc/\Qc<(↑l.length:Int))/\ ∀y3,l[Qc.toNat]? =some y3->z2w (Flg.mk y3.1 y3.2 y3.3 y3.4 y3.5 y3.6 y3.7 y3.8 (Srv.mk y3.9.1 y3.9.2 y3.9.3 y3.9.4 y3.9.5)) fun Qy=>Cnd (Qy=(0:Int)) (Cnd ((0:Int)<Qc) (((0:Int)<=Qc/\Qc<(↑l.length:Int))/\ ∀y6,l[Qc.toNat]? =some y6->InI (Qc - (1:Int))/\((0:Int)<=Qc - (1:Int)/\Qc - (1:Int)<(↑l.length:Int))/\ ∀y8,l[(Qc - (1:Int)).toNat]? =some y8->Cnd (Lk.blt y8.1 y6.1) (InI (Qc+(1:Int))/\q3i (Qc+(1:Int))) (K (9:Int))) (InI (Qc+(1:Int))/\q3i (Qc+(1:Int)))) (K Qy)) (K (0:Int))) (0:Int))
def z11:q76:=j5h z5w
abbrev q77:Type:=Lay_->(Int->Prop)->Prop
def j5i (Qn:Zu) (Qu:Zz):q77:=fun l K=>Qn l.1 fun Qb=>Cnd (Qb=true) (Qn l.2 fun Qc=>Cnd (Qc=true) (Qu l.3 fun Qh=>Cnd (Qh=true) (Cnd (l.4<(0:Int)) (K (3:Int)) (Cnd ((10000:Int)<l.4) (K (3:Int)) (Cnd (l.5<(0:Int)) (K (3:Int)) (Cnd ((1099511627776:Int)<l.5) (K (3:Int)) (l.6.length<=(9223372036854775807:Nat)->Cnd ((32:Int)<(↑l.6.length:Int)) (K (5:Int)) (Lp1 (fun Qk v72=>l.6.length<=(9223372036854775807:Nat)->Cnd (Qk<(↑l.6.length:Int)) (((0:Int)<=Qk/\Qk<(↑l.6.length:Int))/\ ∀y6,l.6[Qk.toNat]? =some y6->Cnd (y6.1<(0:Int)) (K (3:Int)) (Cnd (y6.2<=y6.1) (K (3:Int)) (Cnd ((10000:Int)<y6.2) (K (3:Int)) (Cnd (y6.3<(0:Int)) (K (3:Int)) (Cnd ((1099511627776:Int)<y6.3) (K (3:Int)) (Cnd ((0:Int)<Qk) (InI (Qk - (1:Int))/\((0:Int)<=Qk - (1:Int)/\Qk - (1:Int)<(↑l.6.length:Int))/\ ∀y8,l.6[(Qk - (1:Int)).toNat]? =some y8->Cnd (y6.1<y8.2) (K (9:Int)) (InI (Qk+(1:Int))/\v72 (Qk+(1:Int)))) (InI (Qk+(1:Int))/\v72 (Qk+(1:Int))))))))) (K (0:Int))) (0:Int))))))) (K (2:Int))) (K (6:Int))) (K (6:Int))
def z13:q77:=j5i Wa Jt
abbrev q5c:Type:=List (Lay_)->(Int->Prop)->Prop
def j0l (q8h:q77):q5c:=fun l K=>l.length<=(9223372036854775807:Nat)->Cnd ((6:Int)<(↑l.length:Int)) (K (5:Int)) (Lp1 (fun Qc q3i=>l.length<=(9223372036854775807:Nat)->Cnd (Qc<(↑l.length:Int)) (((0:Int)<=Qc/\Qc<(↑l.length:Int))/\ ∀y3,l[Qc.toNat]? =some y3->q8h y3 fun Qy=>Cnd (Qy=(0:Int)) (Cnd ((0:Int)<Qc) (((0:Int)<=Qc/\Qc<(↑l.length:Int))/\ ∀y6,l[Qc.toNat]? =some y6->InI (Qc - (1:Int))/\((0:Int)<=Qc - (1:Int)/\Qc - (1:Int)<(↑l.length:Int))/\ ∀y8,l[(Qc - (1:Int)).toNat]? =some y8->Cnd (Lk.blt y8.1 y6.1) (InI (Qc+(1:Int))/\q3i (Qc+(1:Int))) (K (9:Int))) (InI (Qc+(1:Int))/\q3i (Qc+(1:Int)))) (K Qy)) (K (0:Int))) (0:Int))
def q87:q5c:=j0l z13
abbrev z14:Type:=List (Spn)->(Int->Prop)->Prop
def z15:z14:=fun l K=>l.length<=(9223372036854775807:Nat)->Cnd ((16:Int)<(↑l.length:Int)) (K (5:Int)) (Lp1 (fun Qc q3i=>l.length<=(9223372036854775807:Nat)->Cnd (Qc<(↑l.length:Int)) (((0:Int)<=Qc/\Qc<(↑l.length:Int))/\ ∀y3,l[Qc.toNat]? =some y3->Cnd (y3.1<(0:Int)) (K (3:Int)) (((0:Int)<=Qc/\Qc<(↑l.length:Int))/\ ∀y5,l[Qc.toNat]? =some y5->((0:Int)<=Qc/\Qc<(↑l.length:Int))/\ ∀y7,l[Qc.toNat]? =some y7->Cnd (y7.2<=y5.1) (K (3:Int)) (((0:Int)<=Qc/\Qc<(↑l.length:Int))/\ ∀y9,l[Qc.toNat]? =some y9->Cnd ((10000:Int)<y9.2) (K (3:Int)) (Cnd ((0:Int)<Qc) (((0:Int)<=Qc/\Qc<(↑l.length:Int))/\ ∀y11,l[Qc.toNat]? =some y11->InI (Qc - (1:Int))/\((0:Int)<=Qc - (1:Int)/\Qc - (1:Int)<(↑l.length:Int))/\ ∀y13,l[(Qc - (1:Int)).toNat]? =some y13->Cnd (y11.1<=y13.2) (K (9:Int)) (InI (Qc+(1:Int))/\q3i (Qc+(1:Int)))) (InI (Qc+(1:Int))/\q3i (Qc+(1:Int))))))) (K (0:Int))) (0:Int))
abbrev Hi:Type:=Exper->(Int->Prop)->Prop
def q88 (Qn:Zu) (Qu:Zz) (q8i:z14) (Uk:q2z) (Wh:R5):Hi:=fun x K=>Qn x.1 fun Qb=>Cnd (Qb=true) (Qn x.2 fun Qc=>Cnd (Qc=true) (Qn x.3 fun Qh=>Cnd (Qh=true) (Qu x.4 fun Qm=>Cnd (Qm=true) (Cnd (x.5<(1:Int)) (K (7:Int)) (Cnd ((3:Int)<x.5) (K (7:Int)) (q8i x.6 fun Qk=>Cnd (Qk=(0:Int)) (Uk x.7 (8:Int) fun Qy=>Cnd (Qy=(0:Int)) (Wh (Ex.mk x.8.1 x.8.2 x.8.3 x.8.4 x.8.5) fun Zp=>K Zp) (K Qy)) (K Qk)))) (K (2:Int))) (K (6:Int))) (K (6:Int))) (K (6:Int))
def q0g:Hi:=q88 Wa Jt z15 q5a q3w
abbrev U5:Type:=List (Exper)->(Int->Prop)->Prop
def q66 (H3:Hi):U5:=fun l K=>l.length<=(9223372036854775807:Nat)->Cnd ((16:Int)<(↑l.length:Int)) (K (5:Int)) (Lp1 (fun Qc q3i=>l.length<=(9223372036854775807:Nat)->Cnd (Qc<(↑l.length:Int)) (((0:Int)<=Qc/\Qc<(↑l.length:Int))/\ ∀y3,l[Qc.toNat]? =some y3->H3 (Exper.mk y3.1 y3.2 y3.3 y3.4 y3.5 y3.6 y3.7 (Ex.mk y3.8.1 y3.8.2 y3.8.3 y3.8.4 y3.8.5)) fun Qy=>Cnd (Qy=(0:Int)) (Cnd ((0:Int)<Qc) (((0:Int)<=Qc/\Qc<(↑l.length:Int))/\ ∀y6,l[Qc.toNat]? =some y6->InI (Qc - (1:Int))/\((0:Int)<=Qc - (1:Int)/\Qc - (1:Int)<(↑l.length:Int))/\ ∀y8,l[(Qc - (1:Int)).toNat]? =some y8->Cnd (Lk.blt y8.1 y6.1) (InI (Qc+(1:Int))/\q3i (Qc+(1:Int))) (K (9:Int))) (InI (Qc+(1:Int))/\q3i (Qc+(1:Int)))) (K Qy)) (K (0:Int))) (0:Int))
def R6:U5:=q66 q0g
abbrev U6:Type:=Envt->(Int->Prop)->Prop
def q67 (q1m:q02) (q1n:q03) (q1o:q04) (q8j:q76) (q57:q5c) (Gb:U5):U6:=fun v K=>q1m (Sett.mk v.1.1 v.1.2 v.1.3) fun Qb=>Cnd (Qb=(0:Int)) (q1n v.2 fun Qc=>Cnd (Qc=(0:Int)) (q1o v.3 fun Qh=>Cnd (Qh=(0:Int)) (q8j v.4 fun Qm=>Cnd (Qm=(0:Int)) (q57 v.5 fun Qk=>Cnd (Qk=(0:Int)) (Gb v.6 fun Qy=>K Qy) (K Qk)) (K Qm)) (K Qh)) (K Qc)) (K Qb)
def R7:U6:=q67 q3t q3u q3x z11 q87 R6
abbrev Hj:Type:=List (Seg)->(List (ByteArray)->Prop)->Prop
def q20:Hj:=fun l K=>Lp2 (fun Qb Q6 q4z=>l.length<=(9223372036854775807:Nat)->Cnd (Q6<(↑l.length:Int)) (((0:Int)<=Q6/\Q6<(↑l.length:Int))/\ ∀y2,l[Q6.toNat]? =some y2->Sml (Qb++[y2.1]).length/\InI (Q6+(1:Int))/\q4z (Qb++[y2.1]) (Q6+(1:Int))) (K Qb)) [] (0:Int)
abbrev q06:Type:=List (ByteArray)->ByteArray->(Bool->Prop)->Prop
def q2d:q06:=fun l s K=>Lp1 (fun Qb q54=>l.length<=(9223372036854775807:Nat)->Cnd (Qb<(↑l.length:Int)) (((0:Int)<=Qb/\Qb<(↑l.length:Int))/\ ∀y2,l[Qb.toNat]? =some y2->Cnd (y2=s) (K true) (InI (Qb+(1:Int))/\q54 (Qb+(1:Int)))) (K false)) (0:Int)
abbrev q6r:Type:=List (Decl)->ByteArray->ByteArray->(Int->Prop)->Prop
def q3z:q6r:=fun l kind name K=>Lp1 (fun Qb q54=>l.length<=(9223372036854775807:Nat)->Cnd (Qb<(↑l.length:Int)) (((0:Int)<=Qb/\Qb<(↑l.length:Int))/\ ∀y2,l[Qb.toNat]? =some y2->Cnd (y2.1=kind) (((0:Int)<=Qb/\Qb<(↑l.length:Int))/\ ∀y4,l[Qb.toNat]? =some y4->Cnd (y4.2=name) (((0:Int)<=Qb/\Qb<(↑l.length:Int))/\ ∀y6,l[Qb.toNat]? =some y6->K y6.3) (InI (Qb+(1:Int))/\q54 (Qb+(1:Int)))) (InI (Qb+(1:Int))/\q54 (Qb+(1:Int)))) (Cnd (name=ByteArray.mk (Array.mk [107,101,121])) (K (3:Int)) (K (0:Int)))) (0:Int)
abbrev z5x:Type:=Int->Ex->(Bool->Prop)->Prop
def q89:z5x:=fun t e K=>Cnd (e.1=(6:Int)) (K true) (Cnd (e.1=(8:Int)) (Lp1 (fun Qb q54=>e.4.length<=(9223372036854775807:Nat)->Cnd (Qb<(↑e.4.length:Int)) (((0:Int)<=Qb/\Qb<(↑e.4.length:Int))/\ ∀y2,e.4[Qb.toNat]? =some y2->Cnd (y2.1=t) (InI (Qb+(1:Int))/\q54 (Qb+(1:Int))) (K false)) (K (match decide ((t,e,()).fst=(5:Int)) with|true=>false|false=>true))) (0:Int)) (e.4.length<=(9223372036854775807:Nat)->Cnd ((↑e.4.length:Int)=(0:Int)) (K false) (((0:Int)<=(0:Int)/\(0:Int)<(↑e.4.length:Int))/\ ∀y1,e.4[Int.toNat (0:Int)]? =some y1->Cnd (e.1=(7:Int)) (K (decide (y1.1=t))) (Jn1 (fun Qm=>Cnd (Qm=true) (Cnd (t=(3:Int)) (K (decide (y1.1=(3:Int)))) (K false)) (Cnd (e.1=(11:Int)) (Cnd (t=(3:Int)) (K (decide (y1.1=(3:Int)))) (Cnd (t=(5:Int)) (K (decide (y1.1=(3:Int)))) (K false))) (Cnd (t=(2:Int)) (K (decide (y1.1=t))) (Cnd (t=(3:Int)) (K (decide (y1.1=t))) (Cnd (t=(4:Int)) (K (decide (y1.1=t))) (K false)))))) fun u3i=>Cnd (e.1=(9:Int)) (u3i (decide (e.1=(9:Int)))) (u3i (decide (e.1=(10:Int))))))))
abbrev Us:Type:=List (Decl)->List (ByteArray)->Ex->(Int->Prop)->Prop
def w2r (Wm:q06) (Q2:Wd) (G0:q6r) (z0a:z5x) (X:Us):Us:=fun l segments e K=>Cnd (e.1=(5:Int)) (Wm segments e.3 fun Qb=>Cnd (Qb=true) (Jn0 (Lp1 (fun Qc q3i=>e.5.length<=(9223372036854775807:Nat)->Cnd (Qc<(↑e.5.length:Int)) (((0:Int)<=Qc/\Qc<(↑e.5.length:Int))/\ ∀y3,e.5[Qc.toNat]? =some y3->X l segments (Ex.mk y3.1 y3.2 y3.3 y3.4 y3.5) fun Qy=>Cnd (Qy=(0:Int)) (InI (Qc+(1:Int))/\q3i (Qc+(1:Int))) (K Qy)) (K (0:Int))) (0:Int)) fun Qc=>Q2 e.1 fun Qh=>Cnd (Qh=true) (G0 l e.2 e.3 fun Qm=>Cnd (Qm=(0:Int)) (K (11:Int)) (z0a Qm (Ex.mk e.1 e.2 e.3 e.4 e.5) fun Qk=>Cnd (Qk=true) Qc (K (8:Int)))) Qc) (K (11:Int))) (Jn0 (Lp1 (fun Qb q54=>e.5.length<=(9223372036854775807:Nat)->Cnd (Qb<(↑e.5.length:Int)) (((0:Int)<=Qb/\Qb<(↑e.5.length:Int))/\ ∀y2,e.5[Qb.toNat]? =some y2->X l segments (Ex.mk y2.1 y2.2 y2.3 y2.4 y2.5) fun Qk=>Cnd (Qk=(0:Int)) (InI (Qb+(1:Int))/\q54 (Qb+(1:Int))) (K Qk)) (K (0:Int))) (0:Int)) fun Qb=>Q2 e.1 fun Qc=>Cnd (Qc=true) (G0 l e.2 e.3 fun Qh=>Cnd (Qh=(0:Int)) (K (11:Int)) (z0a Qh (Ex.mk e.1 e.2 e.3 e.4 e.5) fun Qm=>Cnd (Qm=true) Qb (K (8:Int)))) Qb)
def q30:Us:=fun l segments e K=> ∀X:Us,(∀l segments e K,w2r q2d We q3z q89 X l segments e K->X l segments e K)->X l segments e K
abbrev q31:Type:=List (ByteArray)->ByteArray->(List (ByteArray)->Prop)->Prop
def q6d:q31:=fun l s K=>Lp1 (fun Qb q54=>l.length<=(9223372036854775807:Nat)->Cnd (Qb<(↑l.length:Int)) (((0:Int)<=Qb/\Qb<(↑l.length:Int))/\ ∀y2,l[Qb.toNat]? =some y2->Cnd (Lk.blt y2 s) (InI (Qb+(1:Int))/\q54 (Qb+(1:Int))) (l.length<=(9223372036854775807:Nat)->Cnd (Qb<(↑l.length:Int)) (((0:Int)<=Qb/\Qb<(↑l.length:Int))/\ ∀y5,l[Qb.toNat]? =some y5->Cnd (y5=s) (K l) (((0:Int)<=(0:Int)/\(0:Int)<=Qb/\Qb<=(↑l.length:Int))/\Sml ([]++List.drop (Int.toNat (0:Int)) (List.take Qb.toNat l)).length/\((0:Int)<=Qb/\Qb<=(↑l.length:Int)/\(↑l.length:Int)<=(↑l.length:Int))/\Sml ([]++List.drop (Int.toNat (0:Int)) (List.take Qb.toNat l)++[s]).length/\Sml ([]++List.drop (Int.toNat (0:Int)) (List.take Qb.toNat l)++[s]++List.drop Qb.toNat (List.take (↑l.length:Int).toNat l)).length/\K ([]++List.drop (Int.toNat (0:Int)) (List.take Qb.toNat l)++[s]++List.drop Qb.toNat (List.take (↑l.length:Int).toNat l)))) (((0:Int)<=(0:Int)/\(0:Int)<=Qb/\Qb<=(↑l.length:Int))/\Sml ([]++List.drop (Int.toNat (0:Int)) (List.take Qb.toNat l)).length/\((0:Int)<=Qb/\Qb<=(↑l.length:Int)/\(↑l.length:Int)<=(↑l.length:Int))/\Sml ([]++List.drop (Int.toNat (0:Int)) (List.take Qb.toNat l)++[s]).length/\Sml ([]++List.drop (Int.toNat (0:Int)) (List.take Qb.toNat l)++[s]++List.drop Qb.toNat (List.take (↑l.length:Int).toNat l)).length/\K ([]++List.drop (Int.toNat (0:Int)) (List.take Qb.toNat l)++[s]++List.drop Qb.toNat (List.take (↑l.length:Int).toNat l))))) (l.length<=(9223372036854775807:Nat)->Cnd (Qb<(↑l.length:Int)) (((0:Int)<=Qb/\Qb<(↑l.length:Int))/\ ∀y3,l[Qb.toNat]? =some y3->Cnd (y3=s) (K l) (((0:Int)<=(0:Int)/\(0:Int)<=Qb/\Qb<=(↑l.length:Int))/\Sml ([]++List.drop (Int.toNat (0:Int)) (List.take Qb.toNat l)).length/\((0:Int)<=Qb/\Qb<=(↑l.length:Int)/\(↑l.length:Int)<=(↑l.length:Int))/\Sml ([]++List.drop (Int.toNat (0:Int)) (List.take Qb.toNat l)++[s]).length/\Sml ([]++List.drop (Int.toNat (0:Int)) (List.take Qb.toNat l)++[s]++List.drop Qb.toNat (List.take (↑l.length:Int).toNat l)).length/\K ([]++List.drop (Int.toNat (0:Int)) (List.take Qb.toNat l)++[s]++List.drop Qb.toNat (List.take (↑l.length:Int).toNat l)))) (((0:Int)<=(0:Int)/\(0:Int)<=Qb/\Qb<=(↑l.length:Int))/\Sml ([]++List.drop (Int.toNat (0:Int)) (List.take Qb.toNat l)).length/\((0:Int)<=Qb/\Qb<=(↑l.length:Int)/\(↑l.length:Int)<=(↑l.length:Int))/\Sml ([]++List.drop (Int.toNat (0:Int)) (List.take Qb.toNat l)++[s]).length/\Sml ([]++List.drop (Int.toNat (0:Int)) (List.take Qb.toNat l)++[s]++List.drop Qb.toNat (List.take (↑l.length:Int).toNat l)).length/\K ([]++List.drop (Int.toNat (0:Int)) (List.take Qb.toNat l)++[s]++List.drop Qb.toNat (List.take (↑l.length:Int).toNat l))))) (0:Int)
abbrev Gm:Type:=List (ByteArray)->Ex->(List (ByteArray)->Prop)->Prop
def z5y (Vy:q31) (X:Gm):Gm:=fun l e K=>Jn1 (fun Qb=>Lp2 (fun Qc Z1 z88=>e.5.length<=(9223372036854775807:Nat)->Cnd (Z1<(↑e.5.length:Int)) (((0:Int)<=Z1/\Z1<(↑e.5.length:Int))/\ ∀y3,e.5[Z1.toNat]? =some y3->X Qc (Ex.mk y3.1 y3.2 y3.3 y3.4 y3.5) fun Qy=>InI (Z1+(1:Int))/\z88 Qy (Z1+(1:Int))) (K Qc)) Qb (0:Int)) fun z22=>Cnd (e.1=(5:Int)) (Vy l e.3 fun Qc=>z22 Qc) (z22 l)
def q6s:Gm:=fun l e K=> ∀X:Gm,(∀l e K,z5y q6d X l e K->X l e K)->X l e K
abbrev q21:Type:=Ex->(List (ByteArray)->Prop)->Prop
def z5z (q3b:Gm):q21:=fun e K=>q3b [] (Ex.mk e.1 e.2 e.3 e.4 e.5) fun Qb=>K Qb
def q6t:q21:=z5z q6s
abbrev q5d:Type:=List (Seg)->(List (Edg)->Prop)->Prop
def j0m (q3c:q21):q5d:=fun l K=>Lp2 (fun Qb Q6 q4z=>l.length<=(9223372036854775807:Nat)->Cnd (Q6<(↑l.length:Int)) (((0:Int)<=Q6/\Q6<(↑l.length:Int))/\ ∀y2,l[Q6.toNat]? =some y2->q3c (Ex.mk y2.5.1 y2.5.2 y2.5.3 y2.5.4 y2.5.5) fun Qk=>Lp2 (fun Qy q7j Y5_2=>Qk.length<=(9223372036854775807:Nat)->Cnd (q7j<(↑Qk.length:Int)) (((0:Int)<=Q6/\Q6<(↑l.length:Int))/\ ∀y7,l[Q6.toNat]? =some y7->((0:Int)<=q7j/\q7j<(↑Qk.length:Int))/\ ∀y9,Qk[q7j.toNat]? =some y9->Sml (Qy++[Edg.mk y7.1 y9]).length/\InI (q7j+(1:Int))/\Y5_2 (Qy++[Edg.mk y7.1 y9]) (q7j+(1:Int))) (InI (Q6+(1:Int))/\q4z Qy (Q6+(1:Int)))) Qb (0:Int)) (K Qb)) [] (0:Int)
def q9a:q5d:=j0m q6t
abbrev q78:Type:=List (Edg)->ByteArray->(List (ByteArray)->Prop)->Prop
def j5j (Wm:q06) (Vy:q31):q78:=fun edges node K=>Lp2 (fun Qb Q6 q4z=>Q6.length<=(9223372036854775807:Nat)->Cnd ((0:Int)<(↑Q6.length:Int)) (((0:Int)<=(0:Int)/\(0:Int)<(↑Q6.length:Int))/\ ∀y2,Q6[Int.toNat (0:Int)]? =some y2->((0:Int)<=(1:Int)/\(1:Int)<=(↑Q6.length:Int)/\(↑Q6.length:Int)<=(↑Q6.length:Int))/\Lp3 (fun Qk Wn z44 Y4_3=>edges.length<=(9223372036854775807:Nat)->Cnd (z44<(↑edges.length:Int)) (((0:Int)<=z44/\z44<(↑edges.length:Int))/\ ∀y6,edges[z44.toNat]? =some y6->Cnd (y6.1=y2) (((0:Int)<=z44/\z44<(↑edges.length:Int))/\ ∀y8,edges[z44.toNat]? =some y8->Wm Qk y8.2 fun B4=>Cnd (B4=true) (InI (z44+(1:Int))/\Y4_3 Qk Wn (z44+(1:Int))) (((0:Int)<=z44/\z44<(↑edges.length:Int))/\ ∀y11,edges[z44.toNat]? =some y11->Vy Qk y11.2 fun Zl=>((0:Int)<=z44/\z44<(↑edges.length:Int))/\ ∀y14,edges[z44.toNat]? =some y14->(Sml ([]++Wn).length/\Sml ([]++Wn++[y14.2]).length/\InI (z44+(1:Int))/\Y4_3 Zl ([]++Wn++[y14.2]) (z44+(1:Int)))/\Sml ([]++Wn).length/\Sml ([]++Wn++[y14.2]).length/\InI (z44+(1:Int))/\Y4_3 Zl ([]++Wn++[y14.2]) (z44+(1:Int)))) (InI (z44+(1:Int))/\Y4_3 Qk Wn (z44+(1:Int)))) (q4z Qk Wn)) Qb (List.drop (Int.toNat (1:Int)) (List.take (↑Q6.length:Int).toNat Q6)) (0:Int)) (K Qb)) [] [node]
def z16:q78:=j5j q2d q6d
abbrev q5e:Type:=List (ByteArray)->List (Edg)->(List (ByteArray)->Prop)->Prop
def j0n (q8k:q78) (Wm:q06) (Vy:q31):q5e:=fun nodes edges K=>Lp2 (fun Qb Q6 q4z=>nodes.length<=(9223372036854775807:Nat)->Cnd (Q6<(↑nodes.length:Int)) (((0:Int)<=Q6/\Q6<(↑nodes.length:Int))/\ ∀y2,nodes[Q6.toNat]? =some y2->((0:Int)<=Q6/\Q6<(↑nodes.length:Int))/\ ∀y4,nodes[Q6.toNat]? =some y4->q8k edges y2 fun Zp=>Wm Zp y4 fun Up=>Cnd (Up=true) (((0:Int)<=Q6/\Q6<(↑nodes.length:Int))/\ ∀y8,nodes[Q6.toNat]? =some y8->Vy Qb y8 fun B4=>InI (Q6+(1:Int))/\q4z B4 (Q6+(1:Int))) (InI (Q6+(1:Int))/\q4z Qb (Q6+(1:Int)))) (K Qb)) [] (0:Int)
def q9b:q5e:=j0n z16 q2d q6d
abbrev q5f:Type:=List (ByteArray)->List (Edg)->(ByteArray->Bool->Prop)->Prop
def j0o (q58:q5e):q5f:=fun nodes edges K=>q58 nodes edges fun Qb=>Qb.length<=(9223372036854775807:Nat)->Cnd ((↑Qb.length:Int)=(0:Int)) (K (ByteArray.mk (Array.mk [])) false) (((0:Int)<=(0:Int)/\(0:Int)<(↑Qb.length:Int))/\ ∀y2,Qb[Int.toNat (0:Int)]? =some y2->K y2 true)
def q9c:q5f:=j0o q9b
abbrev Rb:Type:=Envt->ByteArray->(Int->Prop)->Prop
def q22:Rb:=fun v key K=>Lp1 (fun Qb q54=>v.4.length<=(9223372036854775807:Nat)->Cnd (Qb<(↑v.4.length:Int)) (((0:Int)<=Qb/\Qb<(↑v.4.length:Int))/\ ∀y2,v.4[Qb.toNat]? =some y2->Cnd (y2.1=key) (K Qb) (InI (Qb+(1:Int))/\q54 (Qb+(1:Int)))) (K (-1:Int))) (0:Int)
abbrev q79:Type:=List (Decl)->Srv->(Int->Prop)->Prop
def j5k (G0:q6r):q79:=fun l v K=>Cnd (v.1=(0:Int)) (G0 l v.2 v.3 fun Qb=>Cnd (Qb=(0:Int)) (K (11:Int)) (Cnd (Qb=(5:Int)) (K (8:Int)) (K (0:Int)))) (K (0:Int))
def z17:q79:=j5k q3z
abbrev Hk:Type:=Envt->Flg->(Int->Prop)->Prop
def q9d (Jk:Hj) (Wi:Rb) (Wj:Us) (q59:q79) (Zm:Js):Hk:=fun v f K=>Jk v.3 fun Qb=>Lp2 (fun Qc Z1 z88=>f.6.length<=(9223372036854775807:Nat)->Cnd (Qc<(↑f.6.length:Int)) (((0:Int)<=Qc/\Qc<(↑f.6.length:Int))/\ ∀y3,f.6[Qc.toNat]? =some y3->Wi (Envt.mk (Sett.mk v.1.1 v.1.2 v.1.3) v.2 v.3 v.4 v.5 v.6) y3.1 fun Qy=>Cnd (Qy<(0:Int)) (K (11:Int)) (((0:Int)<=Qc/\Qc<(↑f.6.length:Int))/\ ∀y6,f.6[Qc.toNat]? =some y6->((0:Int)<=Qy/\Qy<(↑v.4.length:Int))/\ ∀y8,v.4[Qy.toNat]? =some y8->y8.3.length<=(9223372036854775807:Nat)->Cnd ((↑y8.3.length:Int)<y6.2) (K (3:Int)) (InI (Qc+(1:Int))/\z88 (Qc+(1:Int)) Z1))) (Lp2 (fun Qm Re w8g=>f.8.length<=(9223372036854775807:Nat)->Cnd (Qm<(↑f.8.length:Int)) (((0:Int)<=Qm/\Qm<(↑f.8.length:Int))/\ ∀y5,f.8[Qm.toNat]? =some y5->Wj v.2 Re (Ex.mk y5.2.1 y5.2.2 y5.2.3 y5.2.4 y5.2.5) fun Up=>Cnd (Up=(0:Int)) (((0:Int)<=Qm/\Qm<(↑f.8.length:Int))/\ ∀y8,f.8[Qm.toNat]? =some y8->q59 v.2 (Srv.mk y8.3.1 y8.3.2 y8.3.3 y8.3.4 y8.3.5) fun B4=>Cnd (B4=(0:Int)) (InI (Qm+(1:Int))/\w8g (Qm+(1:Int)) Re) (K B4)) (K Up)) (q59 v.2 (Srv.mk f.9.1 f.9.2 f.9.3 f.9.4 f.9.5) fun Qy=>Cnd (Qy=(0:Int)) (Zm f.8 fun Zp _ u7n=>Cnd (u7n=true) (Zp.length<=(9223372036854775807:Nat)->Cnd ((0:Int)<(↑Zp.length:Int)) (K (13:Int)) (K (0:Int))) (K (19:Int))) (K Qy))) (0:Int) Z1)) (0:Int) Qb
def q0h:Hk:=q9d q20 q22 q30 z17 Va
abbrev q13:Type:=Envt->(List (ByteArray)->Prop)->Prop
def q6e:q13:=fun v K=>Lp2 (fun Qb Q6 q4z=>v.4.length<=(9223372036854775807:Nat)->Cnd (Q6<(↑v.4.length:Int)) (((0:Int)<=Q6/\Q6<(↑v.4.length:Int))/\ ∀y2,v.4[Q6.toNat]? =some y2->Sml (Qb++[y2.1]).length/\InI (Q6+(1:Int))/\q4z (Qb++[y2.1]) (Q6+(1:Int))) (K Qb)) [] (0:Int)
abbrev q0i:Type:=Envt->(List (Edg)->Prop)->Prop
def q0j:q0i:=fun v K=>Lp2 (fun Qb Q6 q4z=>v.4.length<=(9223372036854775807:Nat)->Cnd (Q6<(↑v.4.length:Int)) (Lp2 (fun Qh Zr q8d=>((0:Int)<=Q6/\Q6<(↑v.4.length:Int))/\ ∀y3,v.4[Q6.toNat]? =some y3->y3.6.length<=(9223372036854775807:Nat)->Cnd (Zr<(↑y3.6.length:Int)) (((0:Int)<=Q6/\Q6<(↑v.4.length:Int))/\ ∀y6,v.4[Q6.toNat]? =some y6->((0:Int)<=Q6/\Q6<(↑v.4.length:Int))/\ ∀y8,v.4[Q6.toNat]? =some y8->((0:Int)<=Zr/\Zr<(↑y8.6.length:Int))/\ ∀y10,y8.6[Zr.toNat]? =some y10->Sml (Qh++[Edg.mk y6.1 y10.1]).length/\InI (Zr+(1:Int))/\q8d (Qh++[Edg.mk y6.1 y10.1]) (Zr+(1:Int))) (InI (Q6+(1:Int))/\q4z Qh (Q6+(1:Int)))) Qb (0:Int)) (K Qb)) [] (0:Int)
abbrev q23:Type:=List (Spn)->List (Spn)->(List (Spn)->Prop)->Prop
def z50 (Zt:Gj) (Qz:Jn):q23:=fun a b K=>Zt a fun Qb=>Zt b fun Qc=>Lp2 (fun Qh Zr q8d=>Zr.length<=(9223372036854775807:Nat)->Cnd (Qh<(↑Zr.length:Int)) (((0:Int)<=Qh/\Qh<(↑Zr.length:Int))/\ ∀y4,Zr[Qh.toNat]? =some y4->Cnd (y4=true) (((0:Int)<=Qh/\Qh<(↑Qc.length:Int))/\ ∀y6,Qc[Qh.toNat]? =some y6->((0:Int)<=Qh/\Qh<(↑Zr.length:Int))/\ ∀y8,Zr[Qh.toNat]? =some y8->InI (Qh+(1:Int))/\q8d (Qh+(1:Int)) (Zr.set Qh.toNat y6)) (((0:Int)<=Qh/\Qh<(↑Zr.length:Int))/\ ∀y6,Zr[Qh.toNat]? =some y6->InI (Qh+(1:Int))/\q8d (Qh+(1:Int)) (Zr.set Qh.toNat false))) (Qz Zr fun Qk=>K Qk)) (0:Int) Qb
def q6u:q23:=z50 q0d Vb
abbrev Wg:Type:=Envt->Int->(Int->Prop)->Prop
def q0k (Zg:Wr) (Wi:Rb) (Jk:Hj) (Wj:Us) (q3d:q23):Wg:=fun v i K=>((0:Int)<=i/\i<(↑v.6.length:Int))/\ ∀y0,v.6[i.toNat]? =some y0->Zg (Envt.mk (Sett.mk v.1.1 v.1.2 v.1.3) v.2 v.3 v.4 v.5 v.6) y0.2 fun Qh=>Wi (Envt.mk (Sett.mk v.1.1 v.1.2 v.1.3) v.2 v.3 v.4 v.5 v.6) y0.3 fun Qm=>Cnd (Qh<(0:Int)) (K (11:Int)) (Cnd (Qm<(0:Int)) (K (11:Int)) (Lp1 (fun Qk v72=>y0.7.length<=(9223372036854775807:Nat)->Cnd (Qk<(↑y0.7.length:Int)) (((0:Int)<=Qk/\Qk<(↑y0.7.length:Int))/\ ∀y6,y0.7[Qk.toNat]? =some y6->((0:Int)<=Qm/\Qm<(↑v.4.length:Int))/\ ∀y8,v.4[Qm.toNat]? =some y8->y8.3.length<=(9223372036854775807:Nat)->Cnd ((↑y8.3.length:Int)<y6.3) (K (3:Int)) (InI (Qk+(1:Int))/\v72 (Qk+(1:Int)))) (Jk v.3 fun Zp=>Wj v.2 Zp (Ex.mk y0.8.1 y0.8.2 y0.8.3 y0.8.4 y0.8.5) fun Up=>Cnd (Up=(0:Int)) (Cnd (y0.5=(3:Int)) (K (0:Int)) (((0:Int)<=Qh/\Qh<(↑v.5.length:Int))/\ ∀y8,v.5[Qh.toNat]? =some y8->Lp3 (fun B4 q2r u6l qa0e=>Cnd (q2r<i) (((0:Int)<=q2r/\q2r<(↑v.6.length:Int))/\ ∀y11,v.6[q2r.toNat]? =some y11->Cnd (y11.2=y0.2) (Cnd (y11.5=(3:Int)) (InI (q2r+(1:Int))/\qa0e B4 (q2r+(1:Int)) u6l) (Sml (B4++y11.6).length/\InI (q2r+(1:Int))/\qa0e (B4++y11.6) (q2r+(1:Int)) u6l)) (InI (q2r+(1:Int))/\qa0e B4 (q2r+(1:Int)) u6l)) (q3d y0.6 B4 fun q0t=>q0t.length<=(9223372036854775807:Nat)->Cnd ((0:Int)<(↑q0t.length:Int)) (K (14:Int)) (Lp4 (fun Zl v3r qa0f qa0g qa0h=>Cnd (Zl<i) (Cnd (y0.5=(2:Int)) (((0:Int)<=Zl/\Zl<(↑v.6.length:Int))/\ ∀y14,v.6[Zl.toNat]? =some y14->Cnd (y14.5=(2:Int)) (Cnd (y14.3=y0.3) (Cnd (y14.2=y0.2) (InI (Zl+(1:Int))/\qa0h (Zl+(1:Int)) v3r qa0f qa0g) (K (14:Int))) (InI (Zl+(1:Int))/\qa0h (Zl+(1:Int)) v3r qa0f qa0g)) (InI (Zl+(1:Int))/\qa0h (Zl+(1:Int)) v3r qa0f qa0g)) (K (0:Int))) (K (0:Int))) (0:Int) q0t B4 u6l))) [Spn.mk (0:Int) y8.4] (0:Int) Zp)) (K Up))) (0:Int)))
def Vq:Wg:=q0k Gi q22 q20 q30 q6u
abbrev Uf:Type:=Envt->(ByteArray->Int->Prop)->Prop
def q5g (Gc:U6) (Jk:Hj) (Wj:Us) (q6a:q5d) (q2s:q5f) (H4:Hk) (Bp:q13) (H5:q0i) (Wk:Wg):Uf:=fun v K=>Gc (Envt.mk (Sett.mk v.1.1 v.1.2 v.1.3) v.2 v.3 v.4 v.5 v.6) fun Qb=>Cnd (Qb=(0:Int)) (Jk v.3 fun Qc=>Lp2 (fun Qh Zr q8d=>v.3.length<=(9223372036854775807:Nat)->Cnd (Qh<(↑v.3.length:Int)) (((0:Int)<=Qh/\Qh<(↑v.3.length:Int))/\ ∀y4,v.3[Qh.toNat]? =some y4->Cnd (y4.5.1=(0:Int)) (InI (Qh+(1:Int))/\q8d (Qh+(1:Int)) Zr) (((0:Int)<=Qh/\Qh<(↑v.3.length:Int))/\ ∀y6,v.3[Qh.toNat]? =some y6->Wj v.2 Zr (Ex.mk y6.5.1 y6.5.2 y6.5.3 y6.5.4 y6.5.5) fun Uq=>Cnd (Uq=(0:Int)) (InI (Qh+(1:Int))/\q8d (Qh+(1:Int)) Zr) (((0:Int)<=Qh/\Qh<(↑v.3.length:Int))/\ ∀y9,v.3[Qh.toNat]? =some y9->(↑((ByteArray.mk (Array.mk [115,101,103,109,101,110,116,32])).size+y9.1.size):Int)<=(9223372036854775807:Int)/\K (ByteArray.mk (Array.mk [115,101,103,109,101,110,116,32])++y9.1) Uq))) (q6a v.3 fun Qk=>q2s Zr Qk fun Qy q7j=>Cnd (q7j=true) ((↑((ByteArray.mk (Array.mk [115,101,103,109,101,110,116,32])).size+Qy.size):Int)<=(9223372036854775807:Int)/\K (ByteArray.mk (Array.mk [115,101,103,109,101,110,116,32])++Qy) (12:Int)) (Lp3 (fun Zp z7t u7n Y6_3=>v.4.length<=(9223372036854775807:Nat)->Cnd (Zp<(↑v.4.length:Int)) (((0:Int)<=Zp/\Zp<(↑v.4.length:Int))/\ ∀y8,v.4[Zp.toNat]? =some y8->H4 (Envt.mk (Sett.mk v.1.1 v.1.2 v.1.3) v.2 v.3 v.4 v.5 v.6) (Flg.mk y8.1 y8.2 y8.3 y8.4 y8.5 y8.6 y8.7 y8.8 (Srv.mk y8.9.1 y8.9.2 y8.9.3 y8.9.4 y8.9.5)) fun B4=>Cnd (B4=(0:Int)) (InI (Zp+(1:Int))/\Y6_3 (Zp+(1:Int)) z7t u7n) (((0:Int)<=Zp/\Zp<(↑v.4.length:Int))/\ ∀y11,v.4[Zp.toNat]? =some y11->(↑((ByteArray.mk (Array.mk [102,108,97,103,32])).size+y11.1.size):Int)<=(9223372036854775807:Int)/\K (ByteArray.mk (Array.mk [102,108,97,103,32])++y11.1) B4)) (Bp (Envt.mk (Sett.mk v.1.1 v.1.2 v.1.3) v.2 v.3 v.4 v.5 v.6) fun Uq=>H5 (Envt.mk (Sett.mk v.1.1 v.1.2 v.1.3) v.2 v.3 v.4 v.5 v.6) fun Q5=>q2s Uq Q5 fun B4 q2r=>Cnd (q2r=true) ((↑((ByteArray.mk (Array.mk [102,108,97,103,32])).size+B4.size):Int)<=(9223372036854775807:Int)/\K (ByteArray.mk (Array.mk [102,108,97,103,32])++B4) (12:Int)) (Lp5 (fun q0t w52 qa33 qa34 qa35 qa36=>v.6.length<=(9223372036854775807:Nat)->Cnd (q0t<(↑v.6.length:Int)) (Wk (Envt.mk (Sett.mk v.1.1 v.1.2 v.1.3) v.2 v.3 v.4 v.5 v.6) q0t fun Zl=>Cnd (Zl=(0:Int)) (InI (q0t+(1:Int))/\qa36 (q0t+(1:Int)) w52 qa33 qa34 qa35) (((0:Int)<=q0t/\q0t<(↑v.6.length:Int))/\ ∀y14,v.6[q0t.toNat]? =some y14->(↑((ByteArray.mk (Array.mk [101,120,112,101,114,105,109,101,110,116,32])).size+y14.1.size):Int)<=(9223372036854775807:Int)/\K (ByteArray.mk (Array.mk [101,120,112,101,114,105,109,101,110,116,32])++y14.1) Zl)) (K (ByteArray.mk (Array.mk [])) (0:Int))) (0:Int) Uq Q5 u7n z7t))) (0:Int) Zr Qk))) (0:Int) Qc) (K (ByteArray.mk (Array.mk [])) Qb)
def Hl:Uf:=q5g R7 q20 q30 q9a q9c q0h q6e q0j Vq
abbrev q5h:Type:=Envt->(Bool->Prop)->Prop
def j0p (Um:Uf):q5h:=fun v K=>Um (Envt.mk (Sett.mk v.1.1 v.1.2 v.1.3) v.2 v.3 v.4 v.5 v.6) fun _ Q6=>K (decide (Q6=(0:Int)))
def q5i:q5h:=j0p Hl
abbrev Hm:Type:=List (Int)->Int->Int->(Envt->Int->Prop)->Prop
def q9e (Q1:J5) (q3e:q2v) (Qa:Q7) (Rv:z0g) (Z9:R1) (B0:q7s) (z0b:z1o) (U0:B7) (B1:q2c) (Zm:Js) (z2x:z1r) (Jl:Rg) (Hy:q3q) (q8l:q74) (Wc:q2b) (Vh:Ri) (q6b:q46) (Ry:q5h):Hm:=fun list at_ now K=>Q1 fun Qb=>Jn1 (fun (Qc:ByteArray×ByteArray×Int×Int×List Decl×Unit)=>q3e list Qc.snd.snd.snd.fst Qc.fst Qc.snd.fst Qc.snd.snd.fst Qc.snd.snd.snd.snd.fst [] [] [] [] fun Qh Zr v3t w55 u3r x2_5 x2_6 x2_7 x2_8=>Qa list Qh (5:Int) fun Qm Re=>Rv Qm [ByteArray.mk (Array.mk [102,97]),ByteArray.mk (Array.mk [102,98]),ByteArray.mk (Array.mk [102,99]),ByteArray.mk (Array.mk [102,100])] fun Qk=>LpH (fun (Qy:Int×Int×List Flg×List Seg×List Lay_×List Exper×Unit) w54=>Qk.length<=(9223372036854775807:Nat)->Cnd (Qy.fst<(↑Qk.length:Int)) (((0:Int)<=Qy.fst/\Qy.fst<(↑Qk.length:Int))/\ ∀y7,Qk[Qy.fst.toNat]? =some y7->Qa list Qy.snd.fst (5:Int) fun Q5 j17=>InI ((1:Int)+Q5)/\Qa list j17 (6:Int) fun B4 q2r=>Qa list q2r (4:Int) fun q0t w52=>InI ((1:Int)+q0t)/\LpH (fun (Rx:Int×Int×List Val×List Exper×List Lay_×List Flg×List Seg×Unit) (qa37:Int×Int×List Val×List Exper×List Lay_×List Flg×List Seg×Unit->Prop)=>Cnd (Rx.fst<(1:Int)+q0t) (Z9 list Rx.snd.fst ((1:Int)+Q5) fun Zl v3r=>Sml (Rx.snd.snd.fst++[Zl]).length/\InI (Rx.fst+(1:Int))/\qa37 (Rx.fst+(1:Int),v3r,Rx.snd.snd.fst++[Zl],Rx.snd.snd.snd.fst,Rx.snd.snd.snd.snd.fst,Rx.snd.snd.snd.snd.snd.fst,Rx.snd.snd.snd.snd.snd.snd.fst,())) (Qa list Rx.snd.fst ((1:Int)+q0t) fun Zl v3r=>InI ((1:Int)+Zl)/\LpH (fun (Vs:Int×List Prq×Int×List Seg×List Flg×List Lay_×List Exper×List Val×Unit) (u3k:Int×List Prq×Int×List Seg×List Flg×List Lay_×List Exper×List Val×Unit->Prop)=>Vs.snd.snd.snd.snd.fst.length<=(9223372036854775807:Nat)->Cnd (Vs.fst<(↑Vs.snd.snd.snd.snd.fst.length:Int)) (Qa list Vs.snd.snd.fst (4:Int) fun Bc qa2p=>Cnd (Bc=(1:Int)) (((0:Int)<=Vs.fst/\Vs.fst<(↑Vs.snd.snd.snd.snd.fst.length:Int))/\ ∀y17,Vs.snd.snd.snd.snd.fst[Vs.fst.toNat]? =some y17->((0:Int)<=Vs.fst/\Vs.fst<(↑Vs.snd.snd.snd.snd.fst.length:Int))/\ ∀y19,Vs.snd.snd.snd.snd.fst[Vs.fst.toNat]? =some y19->y19.3.length<=(9223372036854775807:Nat)->Qa list qa2p (↑y19.3.length:Int) fun qa0i qa38=>InI ((1:Int)+qa0i)/\Sml (Vs.snd.fst++[Prq.mk y17.1 ((1:Int)+qa0i)]).length/\InI (Vs.fst+(1:Int))/\u3k (Vs.fst+(1:Int),Vs.snd.fst++[Prq.mk y17.1 ((1:Int)+qa0i)],qa38,Vs.snd.snd.snd.fst,Vs.snd.snd.snd.snd.fst,Vs.snd.snd.snd.snd.snd.fst,Vs.snd.snd.snd.snd.snd.snd.fst,Vs.snd.snd.snd.snd.snd.snd.snd.fst,())) (InI (Vs.fst+(1:Int))/\u3k (Vs.fst+(1:Int),Vs.snd.fst,qa2p,Vs.snd.snd.snd.fst,Vs.snd.snd.snd.snd.fst,Vs.snd.snd.snd.snd.snd.fst,Vs.snd.snd.snd.snd.snd.snd.fst,Vs.snd.snd.snd.snd.snd.snd.snd.fst,()))) (LpH (fun (Bc:Int×List Tgt×Int×List Val×List Exper×List Lay_×List Flg×List Seg×List Prq×Unit) (qa2q:Int×List Tgt×Int×List Val×List Exper×List Lay_×List Flg×List Seg×List Prq×Unit->Prop)=>Qa list Bc.snd.snd.fst (3:Int) fun u3l qa2r=>Cnd (Bc.fst<u3l) (Qa list qa2r ((1:Int)+q0t) fun z2y qa39=>InI ((1:Int)+z2y)/\B0 list qa39 fun Jz qa0j=>Jn1 (fun (q4x:ByteArray×Int×List ByteArray×List Prq×List Seg×List Flg×List Lay_×List Exper×List Val×List Tgt×Unit)=>q4x.snd.snd.fst.length<=(9223372036854775807:Nat)->Cnd ((0:Int)<(↑q4x.snd.snd.fst.length:Int)) (Sml (q4x.snd.snd.snd.snd.snd.snd.snd.snd.snd.fst++[Tgt.mk q4x.fst ((1:Int)+z2y) q4x.snd.snd.fst]).length/\InI (Bc.fst+(1:Int))/\qa2q (Bc.fst+(1:Int),q4x.snd.snd.snd.snd.snd.snd.snd.snd.snd.fst++[Tgt.mk q4x.fst ((1:Int)+z2y) q4x.snd.snd.fst],q4x.snd.fst,q4x.snd.snd.snd.snd.snd.snd.snd.snd.fst,q4x.snd.snd.snd.snd.snd.snd.snd.fst,q4x.snd.snd.snd.snd.snd.snd.fst,q4x.snd.snd.snd.snd.snd.fst,q4x.snd.snd.snd.snd.fst,q4x.snd.snd.snd.fst,())) (InI (Bc.fst+(1:Int))/\qa2q (Bc.fst+(1:Int),q4x.snd.snd.snd.snd.snd.snd.snd.snd.snd.fst,q4x.snd.fst,q4x.snd.snd.snd.snd.snd.snd.snd.snd.fst,q4x.snd.snd.snd.snd.snd.snd.snd.fst,q4x.snd.snd.snd.snd.snd.snd.fst,q4x.snd.snd.snd.snd.snd.fst,q4x.snd.snd.snd.snd.fst,q4x.snd.snd.snd.fst,()))) fun (qa2s:ByteArray×Int×List ByteArray×List Prq×List Seg×List Flg×List Lay_×List Exper×List Val×List Tgt×Unit->Prop)=>Qa list qa0j (4:Int) fun u6m w53=>Cnd (u6m=(1:Int)) (qa2s (ByteArray.mk (Array.mk [100,101,118,105,99,101]),w53,Jz,Bc.snd.snd.snd.snd.snd.snd.snd.snd.fst,Bc.snd.snd.snd.snd.snd.snd.snd.fst,Bc.snd.snd.snd.snd.snd.snd.fst,Bc.snd.snd.snd.snd.snd.fst,Bc.snd.snd.snd.snd.fst,Bc.snd.snd.snd.fst,Bc.snd.fst,())) (qa2s (ByteArray.mk (Array.mk [117,115,101,114]),w53,Jz,Bc.snd.snd.snd.snd.snd.snd.snd.snd.fst,Bc.snd.snd.snd.snd.snd.snd.snd.fst,Bc.snd.snd.snd.snd.snd.snd.fst,Bc.snd.snd.snd.snd.snd.fst,Bc.snd.snd.snd.snd.fst,Bc.snd.snd.snd.fst,Bc.snd.fst,()))) (Jn1 (fun (z2y:Int×List Rul×List ByteArray×List Prq×List Seg×List Flg×List Lay_×List Exper×List Val×List Tgt×Unit)=>z0b list z2y.fst ((1:Int)+q0t) fun Jz qa0j=>Sml (z2y.snd.snd.snd.snd.snd.fst++[Flg.mk y7 ((1:Int)+Q5) z2y.snd.snd.snd.snd.snd.snd.snd.snd.fst (decide (B4<(5:Int))) ((1:Int)+Zl) z2y.snd.snd.snd.fst z2y.snd.snd.snd.snd.snd.snd.snd.snd.snd.fst z2y.snd.fst Jz]).length/\InI (Qy.fst+(1:Int))/\w54 (Qy.fst+(1:Int),qa0j,z2y.snd.snd.snd.snd.snd.fst++[Flg.mk y7 ((1:Int)+Q5) z2y.snd.snd.snd.snd.snd.snd.snd.snd.fst (decide (B4<(5:Int))) ((1:Int)+Zl) z2y.snd.snd.snd.fst z2y.snd.snd.snd.snd.snd.snd.snd.snd.snd.fst z2y.snd.fst Jz],z2y.snd.snd.snd.snd.fst,z2y.snd.snd.snd.snd.snd.snd.fst,z2y.snd.snd.snd.snd.snd.snd.snd.fst,())) fun (qa0k:Int×List Rul×List ByteArray×List Prq×List Seg×List Flg×List Lay_×List Exper×List Val×List Tgt×Unit->Prop)=>LpH (fun (Jz:Int×Int×List Rul×List ByteArray×List Prq×List Seg×List Flg×List Lay_×List Exper×List Val×List Tgt×Unit) (qa4a:Int×Int×List Rul×List ByteArray×List Prq×List Seg×List Flg×List Lay_×List Exper×List Val×List Tgt×Unit->Prop)=>Qa list Jz.snd.fst (5:Int) fun q4x u6n=>Cnd (Jz.fst<q4x) (((0:Int)<=Jz.fst/\Jz.fst<(↑Jz.snd.snd.snd.fst.length:Int))/\ ∀y21,Jz.snd.snd.snd.fst[Jz.fst.toNat]? =some y21->U0 (Envt.mk (Sett.mk Zr v3t w55) u3r Jz.snd.snd.snd.snd.snd.fst Jz.snd.snd.snd.snd.snd.snd.fst Jz.snd.snd.snd.snd.snd.snd.snd.fst Jz.snd.snd.snd.snd.snd.snd.snd.snd.fst) fun qa4b=>B1 list u6n qa4b (3:Int) fun Z3 qa4c=>z0b list qa4c ((1:Int)+q0t) fun z0c u3m=>Sml (Jz.snd.snd.fst++[Rul.mk y21 (Ex.mk Z3.1 Z3.2 Z3.3 Z3.4 Z3.5) z0c]).length/\Zm (Jz.snd.snd.fst++[Rul.mk y21 (Ex.mk Z3.1 Z3.2 Z3.3 Z3.4 Z3.5) z0c]) fun qa2t _ qa4d=>Cnd (qa4d=true) (qa2t.length<=(9223372036854775807:Nat)->Cnd ((0:Int)<(↑qa2t.length:Int)) ((Jz.snd.snd.fst++[Rul.mk y21 (Ex.mk Z3.1 Z3.2 Z3.3 Z3.4 Z3.5) z0c]).length<=(9223372036854775807:Nat)->InI ((↑(Jz.snd.snd.fst++[Rul.mk y21 (Ex.mk Z3.1 Z3.2 Z3.3 Z3.4 Z3.5) z0c]).length:Int) - (1:Int))/\((0:Int)<=(↑(Jz.snd.snd.fst++[Rul.mk y21 (Ex.mk Z3.1 Z3.2 Z3.3 Z3.4 Z3.5) z0c]).length:Int) - (1:Int)/\(↑(Jz.snd.snd.fst++[Rul.mk y21 (Ex.mk Z3.1 Z3.2 Z3.3 Z3.4 Z3.5) z0c]).length:Int) - (1:Int)<=(↑(Jz.snd.snd.fst++[Rul.mk y21 (Ex.mk Z3.1 Z3.2 Z3.3 Z3.4 Z3.5) z0c]).length:Int))/\qa0k (u3m,List.take ((↑(Jz.snd.snd.fst++[Rul.mk y21 (Ex.mk Z3.1 Z3.2 Z3.3 Z3.4 Z3.5) z0c]).length:Int) - (1:Int)).toNat (Jz.snd.snd.fst++[Rul.mk y21 (Ex.mk Z3.1 Z3.2 Z3.3 Z3.4 Z3.5) z0c]),Jz.snd.snd.snd.fst,Jz.snd.snd.snd.snd.fst,Jz.snd.snd.snd.snd.snd.fst,Jz.snd.snd.snd.snd.snd.snd.fst,Jz.snd.snd.snd.snd.snd.snd.snd.fst,Jz.snd.snd.snd.snd.snd.snd.snd.snd.fst,Jz.snd.snd.snd.snd.snd.snd.snd.snd.snd.fst,Jz.snd.snd.snd.snd.snd.snd.snd.snd.snd.snd.fst,())) (InI (Jz.fst+(1:Int))/\qa4a (Jz.fst+(1:Int),u3m,Jz.snd.snd.fst++[Rul.mk y21 (Ex.mk Z3.1 Z3.2 Z3.3 Z3.4 Z3.5) z0c],Jz.snd.snd.snd.fst,Jz.snd.snd.snd.snd.fst,Jz.snd.snd.snd.snd.snd.fst,Jz.snd.snd.snd.snd.snd.snd.fst,Jz.snd.snd.snd.snd.snd.snd.snd.fst,Jz.snd.snd.snd.snd.snd.snd.snd.snd.fst,Jz.snd.snd.snd.snd.snd.snd.snd.snd.snd.fst,Jz.snd.snd.snd.snd.snd.snd.snd.snd.snd.snd.fst,()))) ((Jz.snd.snd.fst++[Rul.mk y21 (Ex.mk Z3.1 Z3.2 Z3.3 Z3.4 Z3.5) z0c]).length<=(9223372036854775807:Nat)->InI ((↑(Jz.snd.snd.fst++[Rul.mk y21 (Ex.mk Z3.1 Z3.2 Z3.3 Z3.4 Z3.5) z0c]).length:Int) - (1:Int))/\((0:Int)<=(↑(Jz.snd.snd.fst++[Rul.mk y21 (Ex.mk Z3.1 Z3.2 Z3.3 Z3.4 Z3.5) z0c]).length:Int) - (1:Int)/\(↑(Jz.snd.snd.fst++[Rul.mk y21 (Ex.mk Z3.1 Z3.2 Z3.3 Z3.4 Z3.5) z0c]).length:Int) - (1:Int)<=(↑(Jz.snd.snd.fst++[Rul.mk y21 (Ex.mk Z3.1 Z3.2 Z3.3 Z3.4 Z3.5) z0c]).length:Int))/\qa0k (u3m,List.take ((↑(Jz.snd.snd.fst++[Rul.mk y21 (Ex.mk Z3.1 Z3.2 Z3.3 Z3.4 Z3.5) z0c]).length:Int) - (1:Int)).toNat (Jz.snd.snd.fst++[Rul.mk y21 (Ex.mk Z3.1 Z3.2 Z3.3 Z3.4 Z3.5) z0c]),Jz.snd.snd.snd.fst,Jz.snd.snd.snd.snd.fst,Jz.snd.snd.snd.snd.snd.fst,Jz.snd.snd.snd.snd.snd.snd.fst,Jz.snd.snd.snd.snd.snd.snd.snd.fst,Jz.snd.snd.snd.snd.snd.snd.snd.snd.fst,Jz.snd.snd.snd.snd.snd.snd.snd.snd.snd.fst,Jz.snd.snd.snd.snd.snd.snd.snd.snd.snd.snd.fst,()))) (qa0k (u6n,Jz.snd.snd.fst,Jz.snd.snd.snd.fst,Jz.snd.snd.snd.snd.fst,Jz.snd.snd.snd.snd.snd.fst,Jz.snd.snd.snd.snd.snd.snd.fst,Jz.snd.snd.snd.snd.snd.snd.snd.fst,Jz.snd.snd.snd.snd.snd.snd.snd.snd.fst,Jz.snd.snd.snd.snd.snd.snd.snd.snd.snd.fst,Jz.snd.snd.snd.snd.snd.snd.snd.snd.snd.snd.fst,()))) ((0:Int),qa2r,[],[ByteArray.mk (Array.mk [102,105,114,115,116]),ByteArray.mk (Array.mk [115,101,99,111,110,100]),ByteArray.mk (Array.mk [116,104,105,114,100]),ByteArray.mk (Array.mk [102,111,117,114,116,104])],Bc.snd.snd.snd.snd.snd.snd.snd.snd.fst,Bc.snd.snd.snd.snd.snd.snd.snd.fst,Bc.snd.snd.snd.snd.snd.snd.fst,Bc.snd.snd.snd.snd.snd.fst,Bc.snd.snd.snd.snd.fst,Bc.snd.snd.snd.fst,Bc.snd.fst,()))) ((0:Int),[],Vs.snd.snd.fst,Vs.snd.snd.snd.snd.snd.snd.snd.fst,Vs.snd.snd.snd.snd.snd.snd.fst,Vs.snd.snd.snd.snd.snd.fst,Vs.snd.snd.snd.snd.fst,Vs.snd.snd.snd.fst,Vs.snd.fst,()))) ((0:Int),[],v3r,Rx.snd.snd.snd.snd.snd.snd.fst,Rx.snd.snd.snd.snd.snd.fst,Rx.snd.snd.snd.snd.fst,Rx.snd.snd.snd.fst,Rx.snd.snd.fst,()))) ((0:Int),w52,[],Qy.snd.snd.snd.snd.snd.fst,Qy.snd.snd.snd.snd.fst,Qy.snd.snd.fst,Qy.snd.snd.snd.fst,())) (Qa list Qy.snd.fst (3:Int) fun Up j4t=>Rv Up [ByteArray.mk (Array.mk [108,97]),ByteArray.mk (Array.mk [108,98])] fun Uq=>LpH (fun (Q5:Int×Int×List Lay_×List Exper×List Seg×List Flg×Unit) (Y9_1:Int×Int×List Lay_×List Exper×List Seg×List Flg×Unit->Prop)=>Uq.length<=(9223372036854775807:Nat)->Cnd (Q5.fst<(↑Uq.length:Int)) (((0:Int)<=Q5.fst/\Q5.fst<(↑Uq.length:Int))/\ ∀y11,Uq[Q5.fst.toNat]? =some y11->z2x list Q5.snd.fst y11 fun Zl v3r=>Sml (Q5.snd.snd.fst++[Zl]).length/\InI (Q5.fst+(1:Int))/\Y9_1 (Q5.fst+(1:Int),v3r,Q5.snd.snd.fst++[Zl],Q5.snd.snd.snd.fst,Q5.snd.snd.snd.snd.fst,Q5.snd.snd.snd.snd.snd.fst,())) (Qa list Q5.snd.fst (4:Int) fun q0t w52=>Rv q0t [ByteArray.mk (Array.mk [120,97]),ByteArray.mk (Array.mk [120,98]),ByteArray.mk (Array.mk [120,99])] fun Rx=>LpH (fun (Zl:Int×Int×List Exper×List Flg×List Seg×List Lay_×Unit) (qa2u:Int×Int×List Exper×List Flg×List Seg×List Lay_×Unit->Prop)=>Rx.length<=(9223372036854775807:Nat)->Cnd (Zl.fst<(↑Rx.length:Int)) (Zl.snd.snd.snd.fst.length<=(9223372036854775807:Nat)->Cnd ((0:Int)<(↑Zl.snd.snd.snd.fst.length:Int)) (Zl.snd.snd.snd.snd.snd.fst.length<=(9223372036854775807:Nat)->Cnd ((0:Int)<(↑Zl.snd.snd.snd.snd.snd.fst.length:Int)) (((0:Int)<=Zl.fst/\Zl.fst<(↑Rx.length:Int))/\ ∀y17,Rx[Zl.fst.toNat]? =some y17->Zl.snd.snd.snd.fst.length<=(9223372036854775807:Nat)->Qa list Zl.snd.fst (↑Zl.snd.snd.snd.fst.length:Int) fun q4x u6n=>((0:Int)<=q4x/\q4x<(↑Zl.snd.snd.snd.fst.length:Int))/\ ∀y21,Zl.snd.snd.snd.fst[q4x.toNat]? =some y21->Zl.snd.snd.snd.snd.snd.fst.length<=(9223372036854775807:Nat)->y21.3.length<=(9223372036854775807:Nat)->Qa list u6n (↑Zl.snd.snd.snd.snd.snd.fst.length:Int) fun z0c u3m=>((0:Int)<=z0c/\z0c<(↑Zl.snd.snd.snd.snd.snd.fst.length:Int))/\ ∀y26,Zl.snd.snd.snd.snd.snd.fst[z0c.toNat]? =some y26->Jl list u3m fun w8i qa4e=>Qa list qa4e (3:Int) fun u6o qa4f=>InI ((1:Int)+u6o)/\Hy list qa4f (↑y21.3.length:Int) fun u3n qa2v=>Jn1 (fun (q7k:Int×Int×List Rng×List Exper×List Lay_×List Flg×List Seg×Unit)=>Jn1 (fun (Z2:Int×ByteArray×ByteArray×List Val×List Ex×Int×List Seg×List Flg×List Lay_×List Exper×List Rng×Unit)=>q8l (Envt.mk (Sett.mk Zr v3t w55) u3r Z2.snd.snd.snd.snd.snd.snd.fst Z2.snd.snd.snd.snd.snd.snd.snd.fst Z2.snd.snd.snd.snd.snd.snd.snd.snd.fst Z2.snd.snd.snd.snd.snd.snd.snd.snd.snd.fst) y26.1 now fun (qa0l:List Spn) (_:Int)=>Wc list Z2.snd.snd.snd.snd.snd.fst (8000:Int) fun (qa0m qa4g:Int)=>Wc list qa4g (8000:Int) fun (y2u qa0n:Int)=>Vh qa0l [Spn.mk qa0m y2u] fun (qa4h:List Spn)=>Wc list qa0n (7000:Int) fun (qa4i qa2w:Int)=>q6b qa4h qa4i fun (w8j:List Spn)=>Sml (Z2.snd.snd.snd.snd.snd.snd.snd.snd.snd.fst++[Exper.mk y17 y26.1 y21.1 w8i q7k.fst w8j Z2.snd.snd.snd.snd.snd.snd.snd.snd.snd.snd.fst (Ex.mk Z2.fst Z2.snd.fst Z2.snd.snd.fst Z2.snd.snd.snd.fst Z2.snd.snd.snd.snd.fst)]).length/\Ry (Envt.mk (Sett.mk Zr v3t w55) u3r Z2.snd.snd.snd.snd.snd.snd.fst Z2.snd.snd.snd.snd.snd.snd.snd.fst Z2.snd.snd.snd.snd.snd.snd.snd.snd.fst (Z2.snd.snd.snd.snd.snd.snd.snd.snd.snd.fst++[Exper.mk y17 y26.1 y21.1 w8i q7k.fst w8j Z2.snd.snd.snd.snd.snd.snd.snd.snd.snd.snd.fst (Ex.mk Z2.fst Z2.snd.fst Z2.snd.snd.fst Z2.snd.snd.snd.fst Z2.snd.snd.snd.snd.fst)])) fun (qa4j:Bool)=>Cnd (qa4j=true) (InI (Zl.fst+(1:Int))/\qa2u (Zl.fst+(1:Int),qa2w,Z2.snd.snd.snd.snd.snd.snd.snd.snd.snd.fst++[Exper.mk y17 y26.1 y21.1 w8i q7k.fst w8j Z2.snd.snd.snd.snd.snd.snd.snd.snd.snd.snd.fst (Ex.mk Z2.fst Z2.snd.fst Z2.snd.snd.fst Z2.snd.snd.snd.fst Z2.snd.snd.snd.snd.fst)],Z2.snd.snd.snd.snd.snd.snd.snd.fst,Z2.snd.snd.snd.snd.snd.snd.fst,Z2.snd.snd.snd.snd.snd.snd.snd.snd.fst,())) ((Z2.snd.snd.snd.snd.snd.snd.snd.snd.snd.fst++[Exper.mk y17 y26.1 y21.1 w8i q7k.fst w8j Z2.snd.snd.snd.snd.snd.snd.snd.snd.snd.snd.fst (Ex.mk Z2.fst Z2.snd.fst Z2.snd.snd.fst Z2.snd.snd.snd.fst Z2.snd.snd.snd.snd.fst)]).length<=(9223372036854775807:Nat)->InI ((↑(Z2.snd.snd.snd.snd.snd.snd.snd.snd.snd.fst++[Exper.mk y17 y26.1 y21.1 w8i q7k.fst w8j Z2.snd.snd.snd.snd.snd.snd.snd.snd.snd.snd.fst (Ex.mk Z2.fst Z2.snd.fst Z2.snd.snd.fst Z2.snd.snd.snd.fst Z2.snd.snd.snd.snd.fst)]).length:Int) - (1:Int))/\((0:Int)<=(↑(Z2.snd.snd.snd.snd.snd.snd.snd.snd.snd.fst++[Exper.mk y17 y26.1 y21.1 w8i q7k.fst w8j Z2.snd.snd.snd.snd.snd.snd.snd.snd.snd.snd.fst (Ex.mk Z2.fst Z2.snd.fst Z2.snd.snd.fst Z2.snd.snd.snd.fst Z2.snd.snd.snd.snd.fst)]).length:Int) - (1:Int)/\(↑(Z2.snd.snd.snd.snd.snd.snd.snd.snd.snd.fst++[Exper.mk y17 y26.1 y21.1 w8i q7k.fst w8j Z2.snd.snd.snd.snd.snd.snd.snd.snd.snd.snd.fst (Ex.mk Z2.fst Z2.snd.fst Z2.snd.snd.fst Z2.snd.snd.snd.fst Z2.snd.snd.snd.snd.fst)]).length:Int) - (1:Int)<=(↑(Z2.snd.snd.snd.snd.snd.snd.snd.snd.snd.fst++[Exper.mk y17 y26.1 y21.1 w8i q7k.fst w8j Z2.snd.snd.snd.snd.snd.snd.snd.snd.snd.snd.fst (Ex.mk Z2.fst Z2.snd.fst Z2.snd.snd.fst Z2.snd.snd.snd.fst Z2.snd.snd.snd.snd.fst)]).length:Int))/\InI (Zl.fst+(1:Int))/\qa2u (Zl.fst+(1:Int),qa2w,List.take ((↑(Z2.snd.snd.snd.snd.snd.snd.snd.snd.snd.fst++[Exper.mk y17 y26.1 y21.1 w8i q7k.fst w8j Z2.snd.snd.snd.snd.snd.snd.snd.snd.snd.snd.fst (Ex.mk Z2.fst Z2.snd.fst Z2.snd.snd.fst Z2.snd.snd.snd.fst Z2.snd.snd.snd.snd.fst)]).length:Int) - (1:Int)).toNat (Z2.snd.snd.snd.snd.snd.snd.snd.snd.snd.fst++[Exper.mk y17 y26.1 y21.1 w8i q7k.fst w8j Z2.snd.snd.snd.snd.snd.snd.snd.snd.snd.snd.fst (Ex.mk Z2.fst Z2.snd.fst Z2.snd.snd.fst Z2.snd.snd.snd.fst Z2.snd.snd.snd.snd.fst)]),Z2.snd.snd.snd.snd.snd.snd.snd.fst,Z2.snd.snd.snd.snd.snd.snd.fst,Z2.snd.snd.snd.snd.snd.snd.snd.snd.fst,()))) fun (qa2x:Int×ByteArray×ByteArray×List Val×List Ex×Int×List Seg×List Flg×List Lay_×List Exper×List Rng×Unit->Prop)=>Qa list q7k.snd.fst (2:Int) fun (qa0l qa2y:Int)=>Cnd (qa0l=(1:Int)) (U0 (Envt.mk (Sett.mk Zr v3t w55) u3r q7k.snd.snd.snd.snd.snd.snd.fst q7k.snd.snd.snd.snd.snd.fst q7k.snd.snd.snd.snd.fst q7k.snd.snd.snd.fst) fun (qa0m:List ByteArray)=>B1 list qa2y qa0m (2:Int) fun (y2u:Ex) (qa0n:Int)=>qa2x (y2u.1,y2u.2,y2u.3,y2u.4,y2u.5,qa0n,q7k.snd.snd.snd.snd.snd.snd.fst,q7k.snd.snd.snd.snd.snd.fst,q7k.snd.snd.snd.snd.fst,q7k.snd.snd.snd.fst,q7k.snd.snd.fst,())) (qa2x ((1:Int),ByteArray.mk (Array.mk []),ByteArray.mk (Array.mk []),[],[],qa2y,q7k.snd.snd.snd.snd.snd.snd.fst,q7k.snd.snd.snd.snd.snd.fst,q7k.snd.snd.snd.snd.fst,q7k.snd.snd.snd.fst,q7k.snd.snd.fst,()))) fun (qa0o:Int×Int×List Rng×List Exper×List Lay_×List Flg×List Seg×Unit->Prop)=>Cnd ((1:Int)+u6o=(1:Int)) (Qa list qa2v (2:Int) fun Z2 qa2z=>Cnd (Z2=(0:Int)) (qa0o ((2:Int),qa2z,u3n,Zl.snd.snd.fst,Zl.snd.snd.snd.snd.snd.fst,Zl.snd.snd.snd.fst,Zl.snd.snd.snd.snd.fst,())) (qa0o ((1:Int)+u6o,qa2z,u3n,Zl.snd.snd.fst,Zl.snd.snd.snd.snd.snd.fst,Zl.snd.snd.snd.fst,Zl.snd.snd.snd.snd.fst,()))) (qa0o ((1:Int)+u6o,qa2v,u3n,Zl.snd.snd.fst,Zl.snd.snd.snd.snd.snd.fst,Zl.snd.snd.snd.fst,Zl.snd.snd.snd.snd.fst,()))) (Ry (Envt.mk (Sett.mk Zr v3t w55) u3r Zl.snd.snd.snd.snd.fst Zl.snd.snd.snd.fst Zl.snd.snd.snd.snd.snd.fst Zl.snd.snd.fst) fun u3l=>Cnd (u3l=true) (K (Envt.mk (Sett.mk Zr v3t w55) u3r Zl.snd.snd.snd.snd.fst Zl.snd.snd.snd.fst Zl.snd.snd.snd.snd.snd.fst Zl.snd.snd.fst) Zl.snd.fst) (Q1 fun z2y=>K (Envt.mk (Sett.mk (ByteArray.mk (Array.mk [])) (ByteArray.mk (Array.mk [])) (0:Int)) z2y [] [] [] []) Zl.snd.fst))) (Ry (Envt.mk (Sett.mk Zr v3t w55) u3r Zl.snd.snd.snd.snd.fst Zl.snd.snd.snd.fst Zl.snd.snd.snd.snd.snd.fst Zl.snd.snd.fst) fun Bc=>Cnd (Bc=true) (K (Envt.mk (Sett.mk Zr v3t w55) u3r Zl.snd.snd.snd.snd.fst Zl.snd.snd.snd.fst Zl.snd.snd.snd.snd.snd.fst Zl.snd.snd.fst) Zl.snd.fst) (Q1 fun u3l=>K (Envt.mk (Sett.mk (ByteArray.mk (Array.mk [])) (ByteArray.mk (Array.mk [])) (0:Int)) u3l [] [] [] []) Zl.snd.fst))) (Ry (Envt.mk (Sett.mk Zr v3t w55) u3r Zl.snd.snd.snd.snd.fst Zl.snd.snd.snd.fst Zl.snd.snd.snd.snd.snd.fst Zl.snd.snd.fst) fun w8h=>Cnd (w8h=true) (K (Envt.mk (Sett.mk Zr v3t w55) u3r Zl.snd.snd.snd.snd.fst Zl.snd.snd.snd.fst Zl.snd.snd.snd.snd.snd.fst Zl.snd.snd.fst) Zl.snd.fst) (Q1 fun Bc=>K (Envt.mk (Sett.mk (ByteArray.mk (Array.mk [])) (ByteArray.mk (Array.mk [])) (0:Int)) Bc [] [] [] []) Zl.snd.fst))) ((0:Int),w52,Q5.snd.snd.snd.fst,Q5.snd.snd.snd.snd.snd.fst,Q5.snd.snd.snd.snd.fst,Q5.snd.snd.fst,()))) ((0:Int),j4t,Qy.snd.snd.snd.snd.fst,Qy.snd.snd.snd.snd.snd.fst,Qy.snd.snd.snd.fst,Qy.snd.snd.fst,()))) ((0:Int),Re,x2_6,x2_5,x2_7,x2_8,())) fun w9o=>Qa list at_ (2:Int) fun Qh Zr=>Cnd (Qh=(1:Int)) (Jl list Zr fun Qm Re=>Wc list Re (2500:Int) fun Qk Wn=>w9o (Qm,ByteArray.mk (Array.mk [117,115,101,114]),Qk,Wn,Qb,())) (w9o (ByteArray.mk (Array.mk []),ByteArray.mk (Array.mk []),(0:Int),Zr,Qb,()))
def q0l:Hm:=q9e W4 q6o Zx z74 Ha z3d z5i B8 z3f Va z5n q3p q8w z1u q7r q2g q83 q5i
abbrev q14:Type:=(Envt->Prop)->Prop
def q6f:q14:=fun K=>K (Envt.mk (Sett.mk (ByteArray.mk (Array.mk [])) (ByteArray.mk (Array.mk [])) (0:Int)) [] [] [Flg.mk (ByteArray.mk (Array.mk [102])) (1:Int) [Val.mk (1:Int) (0:Int) (ByteArray.mk (Array.mk [])) [],Val.mk (1:Int) (1:Int) (ByteArray.mk (Array.mk [])) []] true (1:Int) [] [] [] (Srv.mk (1:Int) (ByteArray.mk (Array.mk [])) (ByteArray.mk (Array.mk [])) (ByteArray.mk (Array.mk [])) [])] [Lay_.mk (ByteArray.mk (Array.mk [108])) (ByteArray.mk (Array.mk [117,115,101,114])) (ByteArray.mk (Array.mk [])) (0:Int) (0:Int) []] [Exper.mk (ByteArray.mk (Array.mk [120])) (ByteArray.mk (Array.mk [108])) (ByteArray.mk (Array.mk [102])) (ByteArray.mk (Array.mk [])) (2:Int) [Spn.mk (0:Int) (10000:Int)] [Rng.mk (0:Int) (10000:Int) (2:Int)] (Ex.mk (1:Int) (ByteArray.mk (Array.mk [])) (ByteArray.mk (Array.mk [])) [] [])])
abbrev Vr:Type:=Subj->ByteArray->(Int->Prop)->Prop
def Ut:Vr:=fun s kind K=>s.1.length<=(9223372036854775807:Nat)->Lp1 (fun Qc q3i=>Cnd (Qc<(↑s.1.length:Int)) (((0:Int)<=Qc/\Qc<(↑s.1.length:Int))/\ ∀y2,s.1[Qc.toNat]? =some y2->Cnd (y2.1=kind) (K Qc) (InI (Qc+(1:Int))/\q3i (Qc+(1:Int)))) (K (-1:Int))) (0:Int)
abbrev Wu:Type:=Val->(Val->Prop)->Prop
def Vm:Wu:=fun v K=> ∀n0,(n0=true->v.4=[])->Cnd (n0=true) (K (Val.mk v.1 v.2 v.3 [])) (Sml ([]++v.4).length/\K (Val.mk v.1 v.2 v.3 ([]++v.4)))
abbrev Ug:Type:=Attr->(Attr->Prop)->Prop
def q5j (Zi:Wu):Ug:=fun a K=>Zi (Val.mk a.2.1 a.2.2 a.2.3 a.2.4) fun Qb=>K (Attr.mk a.1 Qb)
def Hn:Ug:=q5j Vm
abbrev Ho:Type:=Ctxt->(Ctxt->Prop)->Prop
def q9f (Un:Ug):Ho:=fun c K=>c.3.length<=(9223372036854775807:Nat)->((0:Int)<=(0:Int)/\(0:Int)<=(↑c.3.length:Int)/\Sml (↑c.3.length:Int).toNat)/\(c.3.length<=(9223372036854775807:Nat)->Lp2 (fun Qh Zr q8d=>Cnd (Zr<(↑c.3.length:Int)) (((0:Int)<=Zr/\Zr<(↑c.3.length:Int))/\ ∀y3,c.3[Zr.toNat]? =some y3->Un (Attr.mk y3.1 (Val.mk y3.2.1 y3.2.2 y3.2.3 y3.2.4)) fun Qy=>Sml (Qh++[Attr.mk Qy.1 (Val.mk Qy.2.1 Qy.2.2 Qy.2.3 Qy.2.4)]).length/\InI (Zr+(1:Int))/\q8d (Qh++[Attr.mk Qy.1 (Val.mk Qy.2.1 Qy.2.2 Qy.2.3 Qy.2.4)]) (Zr+(1:Int))) (K (Ctxt.mk c.1 c.2 Qh))) (List.replicate (Int.toNat (0:Int)) (Attr.mk (ByteArray.mk (Array.mk [])) (Val.mk (0:Int) (0:Int) (ByteArray.mk (Array.mk [])) []))) (0:Int))
def q0m:Ho:=q9f Hn
abbrev Jo:Type:=Subj->ByteArray->(Ctxt->Bool->Prop)->Prop
def z0z (Jb:Vr) (H6:Ho):Jo:=fun s kind K=>Jb (Subj.mk s.1) kind fun Qb=>Cnd (Qb<(0:Int)) (K (Ctxt.mk (ByteArray.mk (Array.mk [])) (ByteArray.mk (Array.mk [])) []) false) (((0:Int)<=Qb/\Qb<(↑s.1.length:Int))/\ ∀y1,s.1[Qb.toNat]? =some y1->H6 y1 fun Qm=>K Qm true)
def Vn:Jo:=z0z Ut q0m
abbrev q15:Type:=List (List Int)->(List (Int)->Prop)->Prop
def q16:q15:=fun fields K=>fields.length<=(9223372036854775807:Nat)->Lp2 (fun Qc Z1 z88=>Cnd (Z1<(↑fields.length:Int)) (((0:Int)<=Z1/\Z1<(↑fields.length:Int))/\ ∀y2,fields[Z1.toNat]? =some y2->Lp2 (fun Qk Wn v71=>Cnd ((0:Int)<=Wn) (y2.length<=(9223372036854775807:Nat)->InI ((8:Int)*Wn)/\(0:Int)<=(8:Int)*Wn/\Sml (Qk++[Go.IntKind.u8.wrap ((Go.IntKind.u64.wrap (↑y2.length:Int)).fdiv ((2:Int) ^ Min.min ((8:Int)*Wn).toNat (64:Nat)))]).length/\InI (Wn - (1:Int))/\v71 (Qk++[Go.IntKind.u8.wrap ((Go.IntKind.u64.wrap (↑y2.length:Int)).fdiv ((2:Int) ^ Min.min ((8:Int)*Wn).toNat (64:Nat)))]) (Wn - (1:Int))) (Sml (Qk++y2).length/\InI (Z1+(1:Int))/\z88 (Qk++y2) (Z1+(1:Int)))) Qc (7:Int)) (K Qc)) [] (0:Int)
abbrev Uu:Type:=Int->Int->(Int->Prop)->Prop
def Uv:Uu:=fun x k K=>(0:Int)<=Go.IntKind.u64.wrap (↑(BitVec.ofInt (64:Nat) (Go.IntKind.u64.wrap k) &&& BitVec.ofInt (64:Nat) (63:Int)).toNat:Int)/\(0:Int)<=Go.IntKind.u64.wrap ((64:Int) - Go.IntKind.u64.wrap (↑(BitVec.ofInt (64:Nat) (Go.IntKind.u64.wrap k) &&& BitVec.ofInt (64:Nat) (63:Int)).toNat:Int))/\K (Go.IntKind.u64.wrap (↑(BitVec.ofInt (64:Nat) (Go.IntKind.u64.wrap (x*(2:Int) ^ Min.min (Go.IntKind.u64.wrap (↑(BitVec.ofInt (64:Nat) (Go.IntKind.u64.wrap k) &&& BitVec.ofInt (64:Nat) (63:Int)).toNat:Int)).toNat (64:Nat)))|||BitVec.ofInt (64:Nat) (x.fdiv ((2:Int) ^ Min.min (Go.IntKind.u64.wrap ((64:Int) - Go.IntKind.u64.wrap (↑(BitVec.ofInt (64:Nat) (Go.IntKind.u64.wrap k) &&& BitVec.ofInt (64:Nat) (63:Int)).toNat:Int))).toNat (64:Nat)))).toNat:Int))
abbrev Z5:Type:=Int->Int->Int->Int->Int->(Int->Int->Int->Int->Prop)->Prop
def q1y (Zq:Uu):Z5:=fun v0 v1 v2 v3 n K=>Lp5 (fun Qb Q6 j7p q8c v3s Y0_5=>Cnd (Qb<n) (Zq j7p (13:Int) fun Qc=>Zq (Go.IntKind.u64.wrap (Q6+j7p)) (32:Int) fun Qh=>Zq v3s (16:Int) fun Qm=>Zq (Go.IntKind.u64.wrap (↑(BitVec.ofInt (64:Nat) Qm ^^^ BitVec.ofInt (64:Nat) (Go.IntKind.u64.wrap (q8c+v3s))).toNat:Int)) (21:Int) fun Qk=>Zq (Go.IntKind.u64.wrap (↑(BitVec.ofInt (64:Nat) Qc ^^^ BitVec.ofInt (64:Nat) (Go.IntKind.u64.wrap (Q6+j7p))).toNat:Int)) (17:Int) fun Qy=>Zq (Go.IntKind.u64.wrap (Go.IntKind.u64.wrap (q8c+v3s)+Go.IntKind.u64.wrap (↑(BitVec.ofInt (64:Nat) Qc ^^^ BitVec.ofInt (64:Nat) (Go.IntKind.u64.wrap (Q6+j7p))).toNat:Int))) (32:Int) fun Zp=>InI (Qb+(1:Int))/\Y0_5 (Qb+(1:Int)) (Go.IntKind.u64.wrap (Qh+Go.IntKind.u64.wrap (↑(BitVec.ofInt (64:Nat) Qm ^^^ BitVec.ofInt (64:Nat) (Go.IntKind.u64.wrap (q8c+v3s))).toNat:Int))) (Go.IntKind.u64.wrap (↑(BitVec.ofInt (64:Nat) Qy ^^^ BitVec.ofInt (64:Nat) (Go.IntKind.u64.wrap (Go.IntKind.u64.wrap (q8c+v3s)+Go.IntKind.u64.wrap (↑(BitVec.ofInt (64:Nat) Qc ^^^ BitVec.ofInt (64:Nat) (Go.IntKind.u64.wrap (Q6+j7p))).toNat:Int)))).toNat:Int)) Zp (Go.IntKind.u64.wrap (↑(BitVec.ofInt (64:Nat) Qk ^^^ BitVec.ofInt (64:Nat) (Go.IntKind.u64.wrap (Qh+Go.IntKind.u64.wrap (↑(BitVec.ofInt (64:Nat) Qm ^^^ BitVec.ofInt (64:Nat) (Go.IntKind.u64.wrap (q8c+v3s))).toNat:Int)))).toNat:Int))) (K Q6 j7p q8c v3s)) (0:Int) v0 v1 v2 v3
def Zs:Z5:=q1y Uv
abbrev Vu:Type:=Int->Int->Int->Int->Int->(Int->Int->Int->Int->Prop)->Prop
def q32 (Za:Z5):Vu:=fun v0 v1 v2 v3 m K=>Za v0 v1 v2 (Go.IntKind.u64.wrap (↑(BitVec.ofInt (64:Nat) v3 ^^^ BitVec.ofInt (64:Nat) m).toNat:Int)) (2:Int) fun Qb Q6 j7p q8c=>K (Go.IntKind.u64.wrap (↑(BitVec.ofInt (64:Nat) Qb ^^^ BitVec.ofInt (64:Nat) m).toNat:Int)) Q6 j7p q8c
def Gn:Vu:=q32 Zs
abbrev q24:Type:=Int->Int->List (Int)->(Int->Prop)->Prop
def z52 (Wy:Vu) (Za:Z5):q24:=fun k0 k1 b K=>b.length<=(9223372036854775807:Nat)->(0:Int)<=(56:Int)/\Lp5 (fun Qc Z1 z4m j7q x1_4 Y1_5=>InI (Qc+(8:Int))/\(b.length<=(9223372036854775807:Nat)->Cnd (Qc+(8:Int)<=(↑b.length:Int)) (Lp2 (fun Qm Re w8g=>Cnd (Re<(8:Int)) (InI (Qc+Re)/\((0:Int)<=Qc+Re/\Qc+Re<(↑b.length:Int))/\ ∀y4,b[(Qc+Re).toNat]? =some y4->InI ((8:Int)*Re)/\(0:Int)<=(8:Int)*Re/\InI (Re+(1:Int))/\w8g (Go.IntKind.u64.wrap (↑(BitVec.ofInt (64:Nat) Qm|||BitVec.ofInt (64:Nat) (Go.IntKind.u64.wrap (Go.IntKind.u64.wrap y4*(2:Int) ^ Min.min ((8:Int)*Re).toNat (64:Nat)))).toNat:Int)) (Re+(1:Int))) (Wy Z1 z4m j7q x1_4 Qm fun Qk Wn z44 u3q=>InI (Qc+(8:Int))/\Y1_5 (Qc+(8:Int)) Qk Wn z44 u3q)) (0:Int) (0:Int)) (b.length<=(9223372036854775807:Nat)->(8:Int)≠(0:Int)/\Lp2 (fun Qk Wn v71=>Cnd (Wn<(↑b.length:Int).tmod (8:Int)) (b.length<=(9223372036854775807:Nat)->b.length<=(9223372036854775807:Nat)->(8:Int)≠(0:Int)/\InI ((↑b.length:Int) - (↑b.length:Int).tmod (8:Int))/\InI ((↑b.length:Int) - (↑b.length:Int).tmod (8:Int)+Wn)/\((0:Int)<=(↑b.length:Int) - (↑b.length:Int).tmod (8:Int)+Wn/\(↑b.length:Int) - (↑b.length:Int).tmod (8:Int)+Wn<(↑b.length:Int))/\ ∀y7,b[((↑b.length:Int) - (↑b.length:Int).tmod (8:Int)+Wn).toNat]? =some y7->InI ((8:Int)*Wn)/\(0:Int)<=(8:Int)*Wn/\InI (Wn+(1:Int))/\v71 (Go.IntKind.u64.wrap (↑(BitVec.ofInt (64:Nat) Qk|||BitVec.ofInt (64:Nat) (Go.IntKind.u64.wrap (Go.IntKind.u64.wrap y7*(2:Int) ^ Min.min ((8:Int)*Wn).toNat (64:Nat)))).toNat:Int)) (Wn+(1:Int))) (Wy Z1 z4m j7q x1_4 Qk fun Qy q7j x5_2 x5_3=>Za Qy q7j (Go.IntKind.u64.wrap (↑(BitVec.ofInt (64:Nat) x5_2 ^^^ BitVec.ofInt (64:Nat) (255:Int)).toNat:Int)) x5_3 (4:Int) fun Zp z7t u7n x6_3=>K (Go.IntKind.u64.wrap (↑(BitVec.ofInt (64:Nat) (Go.IntKind.u64.wrap (↑(BitVec.ofInt (64:Nat) (Go.IntKind.u64.wrap (↑(BitVec.ofInt (64:Nat) Zp ^^^ BitVec.ofInt (64:Nat) z7t).toNat:Int)) ^^^ BitVec.ofInt (64:Nat) u7n).toNat:Int)) ^^^ BitVec.ofInt (64:Nat) x6_3).toNat:Int)))) (Go.IntKind.u64.wrap (Go.IntKind.u64.wrap (↑b.length:Int)*(2:Int) ^ Min.min (Int.toNat (56:Int)) (64:Nat))) (0:Int)))) (0:Int) (Go.IntKind.u64.wrap (↑(BitVec.ofInt (64:Nat) k0 ^^^ BitVec.ofInt (64:Nat) (8317987319222330741:Int)).toNat:Int)) (Go.IntKind.u64.wrap (↑(BitVec.ofInt (64:Nat) k1 ^^^ BitVec.ofInt (64:Nat) (7237128888997146477:Int)).toNat:Int)) (Go.IntKind.u64.wrap (↑(BitVec.ofInt (64:Nat) k0 ^^^ BitVec.ofInt (64:Nat) (7816392313619706465:Int)).toNat:Int)) (Go.IntKind.u64.wrap (↑(BitVec.ofInt (64:Nat) k1 ^^^ BitVec.ofInt (64:Nat) (8387220255154660723:Int)).toNat:Int))
def q6v:q24:=z52 Gn Zs
abbrev q07:Type:=Int->List (List Int)->(Int->Prop)->Prop
def z3k (Bq:q15) (q3f:q24):q07:=fun domain fields K=>Bq fields fun Qb=>q3f domain (0:Int) Qb fun Qc=>K Qc
def q33:q07:=z3k q16 q6v
abbrev Rj:Type:=ByteArray->ByteArray->(Int->Prop)->Prop
def j0q (q1p:q07):Rj:=fun salt key K=>Sml salt.size/\Sml key.size/\q1p (1:Int) [List.map (fun b=>(↑b.toNat:Int)) (salt,key,()).fst.data.toList,List.map (fun b=>(↑b.toNat:Int)) (salt,key,()).snd.fst.data.toList] fun Qb=>(10000:Int)≠(0:Int)/\InI (Qb.tmod (10000:Int))/\K (Qb.tmod (10000:Int))
def Rk:Rj:=j0q q33
abbrev q0n:Type:=List (Frc)->ByteArray->(Frc->Bool->Prop)->Prop
def q0o:q0n:=fun l layer K=>l.length<=(9223372036854775807:Nat)->Lp4 (fun Qc Z1 z4m j7q Y1_4=>Cnd (Qc<(↑l.length:Int)) (((0:Int)<=Qc/\Qc<(↑l.length:Int))/\ ∀y2,l[Qc.toNat]? =some y2->Cnd (y2.1=layer) (K y2 true) (InI (Qc+(1:Int))/\Y1_4 (Qc+(1:Int)) Z1 z4m j7q)) (K (Frc.mk (ByteArray.mk (Array.mk [])) (ByteArray.mk (Array.mk [])) (0:Int)) false)) (0:Int) (ByteArray.mk (Array.mk [])) (ByteArray.mk (Array.mk [])) (0:Int)
abbrev q34:Type:=Envt->Frc->(Bool->Prop)->Prop
def q35:q34:=fun v f K=>v.6.length<=(9223372036854775807:Nat)->Lp1 (fun Qc q3i=>Cnd (Qc<(↑v.6.length:Int)) (((0:Int)<=Qc/\Qc<(↑v.6.length:Int))/\ ∀y2,v.6[Qc.toNat]? =some y2->Cnd (y2.1=f.2) (Cnd (y2.2=f.1) (Cnd (y2.5=(2:Int)) (y2.7.length<=(9223372036854775807:Nat)->Lp1 (fun Qy w54=>Cnd (Qy<(↑y2.7.length:Int)) (((0:Int)<=Qy/\Qy<(↑y2.7.length:Int))/\ ∀y6,y2.7[Qy.toNat]? =some y6->Cnd (y6.3=f.3) (Cnd ((0:Int)<=Qy) (K (decide ((0:Int)<=Qc))) (InI (Qc+(1:Int))/\q3i (Qc+(1:Int)))) (InI (Qy+(1:Int))/\w54 (Qy+(1:Int)))) (Cnd ((0:Int)<=(-1:Int)) (K (decide ((0:Int)<=Qc))) (InI (Qc+(1:Int))/\q3i (Qc+(1:Int))))) (0:Int)) (InI (Qc+(1:Int))/\q3i (Qc+(1:Int)))) (InI (Qc+(1:Int))/\q3i (Qc+(1:Int)))) (InI (Qc+(1:Int))/\q3i (Qc+(1:Int)))) (K (decide ((0:Int)<=(-1:Int))))) (0:Int)
abbrev V9:Type:=Envt->Subj->(Bool->Prop)->Prop
def z3l (Zc:Jo) (Wz:Rj):V9:=fun v s K=>Cnd (v.1.3<=(0:Int)) (K false) (Zc (Subj.mk s.1) v.1.2 fun Qb Q6=>Cnd (Q6=true) (Wz v.1.1 Qb.2 fun Qc=>K (decide (Qc<v.1.3))) (K false))
def Rl:V9:=z3l Vn Rk
abbrev Gq:Type:=Int->(Bool->Prop)->Prop
def Gs:Gq:=fun op K=>Cnd ((6:Int)<=op) (K (decide (op<=(15:Int)))) (K false)
abbrev Zb:Type:=List (ByteArray)->List (ByteArray)->(Bool->Prop)->Prop
def Zj:Zb:=fun s1 s2 K=>s1.length<=(9223372036854775807:Nat)->s2.length<=(9223372036854775807:Nat)->Cnd ((↑s1.length:Int)=(↑s2.length:Int)) (s1.length<=(9223372036854775807:Nat)->Lp1 (fun Qm j19=>Cnd (Qm<(↑s1.length:Int)) (((0:Int)<=Qm/\Qm<(↑s1.length:Int))/\ ∀y4,s1[Qm.toNat]? =some y4->((0:Int)<=Qm/\Qm<(↑s2.length:Int))/\ ∀y6,s2[Qm.toNat]? =some y6->Cnd (y4=y6) (InI (Qm+(1:Int))/\j19 (Qm+(1:Int))) (K false)) (K true)) (0:Int)) (K false)
abbrev q25:Type:=Val->Val->(Bool->Prop)->Prop
def z54 (Qq:Zb):q25:=fun a b K=>Cnd (a.1=b.1) (Cnd (a.2=b.2) (Cnd (a.3=b.3) (Qq a.4 b.4 fun Qb=>K Qb) (K false)) (K false)) (K false)
def q26:q25:=z54 Zj
abbrev Rm:Type:=Ex->Ex->(Bool->Prop)->Prop
def j0r (q3g:q25) (X:Rm):Rm:=fun a b K=>Cnd (a.1=b.1) (Cnd (a.2=b.2) (Cnd (a.3=b.3) (a.4.length<=(9223372036854775807:Nat)->b.4.length<=(9223372036854775807:Nat)->Cnd ((↑a.4.length:Int)=(↑b.4.length:Int)) (a.4.length<=(9223372036854775807:Nat)->Lp1 (fun Qm j19=>Cnd (Qm<(↑a.4.length:Int)) (((0:Int)<=Qm/\Qm<(↑a.4.length:Int))/\ ∀y4,a.4[Qm.toNat]? =some y4->((0:Int)<=Qm/\Qm<(↑b.4.length:Int))/\ ∀y6,b.4[Qm.toNat]? =some y6->q3g y4 y6 fun Uq=>Cnd (Uq=true) (InI (Qm+(1:Int))/\j19 (Qm+(1:Int))) (K false)) (a.5.length<=(9223372036854775807:Nat)->b.5.length<=(9223372036854775807:Nat)->Cnd ((↑a.5.length:Int)=(↑b.5.length:Int)) (a.5.length<=(9223372036854775807:Nat)->Lp1 (fun Up Y7_1=>Cnd (Up<(↑a.5.length:Int)) (((0:Int)<=Up/\Up<(↑a.5.length:Int))/\ ∀y8,a.5[Up.toNat]? =some y8->((0:Int)<=Up/\Up<(↑b.5.length:Int))/\ ∀y10,b.5[Up.toNat]? =some y10->X (Ex.mk y8.1 y8.2 y8.3 y8.4 y8.5) (Ex.mk y10.1 y10.2 y10.3 y10.4 y10.5) fun Rx=>Cnd (Rx=true) (InI (Up+(1:Int))/\Y7_1 (Up+(1:Int))) (K false)) (K true)) (0:Int)) (K false))) (0:Int)) (K false)) (K false)) (K false)) (K false)
def q2h:Rm:=fun a b K=> ∀X:Rm,(∀a b K,j0r q26 X a b K->X a b K)->X a b K
abbrev Vo:Type:=List (Ex)->Ex->(List (Ex)->Prop)->Prop
def z00 (J0:Gq) (q2t:Rm) (X:Vo):Vo:=fun l e K=>Jn1 (fun Qb=>e.5.length<=(9223372036854775807:Nat)->Lp2 (fun Qh Zr q8d=>Cnd (Zr<(↑e.5.length:Int)) (((0:Int)<=Zr/\Zr<(↑e.5.length:Int))/\ ∀y3,e.5[Zr.toNat]? =some y3->X Qh (Ex.mk y3.1 y3.2 y3.3 y3.4 y3.5) fun Qy=>InI (Zr+(1:Int))/\q8d Qy (Zr+(1:Int))) (K Qh)) Qb (0:Int)) fun z22=>J0 e.1 fun Qc=>Cnd (Qc=true) (l.length<=(9223372036854775807:Nat)->Lp1 (fun Qm j19=>Cnd (Qm<(↑l.length:Int)) (((0:Int)<=Qm/\Qm<(↑l.length:Int))/\ ∀y4,l[Qm.toNat]? =some y4->q2t (Ex.mk y4.1 y4.2 y4.3 y4.4 y4.5) (Ex.mk e.1 e.2 e.3 e.4 e.5) fun Zp=>Cnd (Zp=true) (Cnd ((0:Int)<=Qm) (z22 l) (Sml (l++[Ex.mk e.1 e.2 e.3 e.4 e.5]).length/\z22 (l++[Ex.mk e.1 e.2 e.3 e.4 e.5]))) (InI (Qm+(1:Int))/\j19 (Qm+(1:Int)))) (Cnd ((0:Int)<=(-1:Int)) (z22 l) (Sml (l++[Ex.mk e.1 e.2 e.3 e.4 e.5]).length/\z22 (l++[Ex.mk e.1 e.2 e.3 e.4 e.5])))) (0:Int)) (Cnd (e.1=(5:Int)) (l.length<=(9223372036854775807:Nat)->Lp1 (fun Qm j19=>Cnd (Qm<(↑l.length:Int)) (((0:Int)<=Qm/\Qm<(↑l.length:Int))/\ ∀y4,l[Qm.toNat]? =some y4->q2t (Ex.mk y4.1 y4.2 y4.3 y4.4 y4.5) (Ex.mk e.1 e.2 e.3 e.4 e.5) fun Zp=>Cnd (Zp=true) (Cnd ((0:Int)<=Qm) (z22 l) (Sml (l++[Ex.mk e.1 e.2 e.3 e.4 e.5]).length/\z22 (l++[Ex.mk e.1 e.2 e.3 e.4 e.5]))) (InI (Qm+(1:Int))/\j19 (Qm+(1:Int)))) (Cnd ((0:Int)<=(-1:Int)) (z22 l) (Sml (l++[Ex.mk e.1 e.2 e.3 e.4 e.5]).length/\z22 (l++[Ex.mk e.1 e.2 e.3 e.4 e.5])))) (0:Int)) (z22 l))
def q17:Vo:=fun l e K=> ∀X:Vo,(∀l e K,z00 Gs q2h X l e K->X l e K)->X l e K
abbrev Gt:Type:=Ex->(Ex->Prop)->Prop
def z55 (Zi:Wu) (X:Gt):Gt:=fun e K=>e.4.length<=(9223372036854775807:Nat)->((0:Int)<=(0:Int)/\(0:Int)<=(↑e.4.length:Int)/\Sml (↑e.4.length:Int).toNat)/\(e.4.length<=(9223372036854775807:Nat)->Lp2 (fun Qh Zr q8d=>Cnd (Zr<(↑e.4.length:Int)) (((0:Int)<=Zr/\Zr<(↑e.4.length:Int))/\ ∀y3,e.4[Zr.toNat]? =some y3->Zi y3 fun Qy=>Sml (Qh++[Qy]).length/\InI (Zr+(1:Int))/\q8d (Qh++[Qy]) (Zr+(1:Int))) (e.5.length<=(9223372036854775807:Nat)->((0:Int)<=(0:Int)/\(0:Int)<=(↑e.5.length:Int)/\Sml (↑e.5.length:Int).toNat)/\(e.5.length<=(9223372036854775807:Nat)->Lp2 (fun Qy q7j Y5_2=>Cnd (q7j<(↑e.5.length:Int)) (((0:Int)<=q7j/\q7j<(↑e.5.length:Int))/\ ∀y6,e.5[q7j.toNat]? =some y6->X (Ex.mk y6.1 y6.2 y6.3 y6.4 y6.5) fun Uq=>Sml (Qy++[Ex.mk Uq.1 Uq.2 Uq.3 Uq.4 Uq.5]).length/\InI (q7j+(1:Int))/\Y5_2 (Qy++[Ex.mk Uq.1 Uq.2 Uq.3 Uq.4 Uq.5]) (q7j+(1:Int))) (K (Ex.mk e.1 e.2 e.3 Qh Qy))) (List.replicate (Int.toNat (0:Int)) (Ex.mk (0:Int) (ByteArray.mk (Array.mk [])) (ByteArray.mk (Array.mk [])) [] [])) (0:Int)))) (List.replicate (Int.toNat (0:Int)) (Val.mk (0:Int) (0:Int) (ByteArray.mk (Array.mk [])) [])) (0:Int))
def q6w:Gt:=fun e K=> ∀X:Gt,(∀e K,z55 Vm X e K->X e K)->X e K
abbrev Bk:Type:=Ex->(List (Ex)->Prop)->Prop
def z01 (Br:Vo) (q3h:Gt):Bk:=fun e K=>Br [] (Ex.mk e.1 e.2 e.3 e.4 e.5) fun Qb=>Qb.length<=(9223372036854775807:Nat)->((0:Int)<=(0:Int)/\(0:Int)<=(↑Qb.length:Int)/\Sml (↑Qb.length:Int).toNat)/\(Qb.length<=(9223372036854775807:Nat)->Lp2 (fun Qm Re w8g=>Cnd (Re<(↑Qb.length:Int)) (((0:Int)<=Re/\Re<(↑Qb.length:Int))/\ ∀y4,Qb[Re.toNat]? =some y4->q3h (Ex.mk y4.1 y4.2 y4.3 y4.4 y4.5) fun Zp=>Sml (Qm++[Ex.mk Zp.1 Zp.2 Zp.3 Zp.4 Zp.5]).length/\InI (Re+(1:Int))/\w8g (Qm++[Ex.mk Zp.1 Zp.2 Zp.3 Zp.4 Zp.5]) (Re+(1:Int))) (K Qm)) (List.replicate (Int.toNat (0:Int)) (Ex.mk (0:Int) (ByteArray.mk (Array.mk [])) (ByteArray.mk (Array.mk [])) [] [])) (0:Int))
def q6g:Bk:=z01 q17 q6w
abbrev Zk:Type:=List (ByteArray)->(List (ByteArray)->Prop)->Prop
def Z0 (x:List (ByteArray)) (K:List (ByteArray)->Prop):Prop:=K (srt x)
abbrev Ju:Type:=List (ByteArray)->(List (ByteArray)->Prop)->Prop
def Jv (s:List (ByteArray)) (K:List (ByteArray)->Prop):Prop:=K (cpt s)
abbrev U7:Type:=Ex->(List (ByteArray)->Prop)->Prop
def q68 (Bt:Bk) (Qt:Zk) (Zn:Ju):U7:=fun e K=>Bt (Ex.mk e.1 e.2 e.3 e.4 e.5) fun Qb=>Qb.length<=(9223372036854775807:Nat)->Lp2 (fun Qh Zr q8d=>Cnd (Zr<(↑Qb.length:Int)) (((0:Int)<=Zr/\Zr<(↑Qb.length:Int))/\ ∀y3,Qb[Zr.toNat]? =some y3->Cnd (y3.1=(5:Int)) (Sml (Qh++[y3.3]).length/\InI (Zr+(1:Int))/\q8d (Qh++[y3.3]) (Zr+(1:Int))) (InI (Zr+(1:Int))/\q8d Qh (Zr+(1:Int)))) (Qt Qh fun Qm=>Zn Qm fun Qk=>K Qk)) [] (0:Int)
def R8:U7:=q68 q6g Z0 Jv
abbrev q7t:Type:=List (ByteArray)->List (Edg)->(List (ByteArray)->Int->Prop)->Prop
def P_graph_Order (nodes:List (ByteArray)) (edges:List (Edg)) (K:List (ByteArray)->Int->Prop):Prop:=Go.Fl.P_graph_Order nodes (edges.map fun e=>(e.1,e.2)) K
abbrev Hp:Type:=List (Seg)->(List (ByteArray)->Int->Prop)->Prop
def q9g (Gd:U7) (q1q:q7t):Hp:=fun l K=>l.length<=(9223372036854775807:Nat)->Lp3 (fun Qc Z1 z4m u6j=>Cnd (z4m<(↑l.length:Int)) (((0:Int)<=z4m/\z4m<(↑l.length:Int))/\ ∀y2,l[z4m.toNat]? =some y2->Sml (Qc++[y2.1]).length/\Gd (Ex.mk y2.5.1 y2.5.2 y2.5.3 y2.5.4 y2.5.5) fun Qk=>Qk.length<=(9223372036854775807:Nat)->Lp2 (fun Zp z7t Y6_2=>Cnd (z7t<(↑Qk.length:Int)) (((0:Int)<=z7t/\z7t<(↑Qk.length:Int))/\ ∀y7,Qk[z7t.toNat]? =some y7->Sml (Zp++[Edg.mk y2.1 y7]).length/\InI (z7t+(1:Int))/\Y6_2 (Zp++[Edg.mk y2.1 y7]) (z7t+(1:Int))) (InI (z4m+(1:Int))/\u6j (Qc++[y2.1]) Zp (z4m+(1:Int)))) Z1 (0:Int)) (q1q Qc Z1 fun Qh Zr=>K Qh Zr)) [] [] (0:Int)
def q0p:Hp:=q9g R8 P_graph_Order
abbrev U8:Type:=Subj->ByteArray->ByteArray->(Val->Bool->Prop)->Prop
def q69 (Jb:Vr) (Zi:Wu):U8:=fun s kind name K=>Jb (Subj.mk s.1) kind fun Qb=>Cnd (Qb<(0:Int)) (K (Val.mk (0:Int) (0:Int) (ByteArray.mk (Array.mk [])) []) false) (((0:Int)<=Qb/\Qb<(↑s.1.length:Int))/\ ∀y1,s.1[Qb.toNat]? =some y1->Cnd (name=ByteArray.mk (Array.mk [107,101,121])) (K (Val.mk (3:Int) (0:Int) y1.2 []) true) (y1.3.length<=(9223372036854775807:Nat)->Lp5 (fun Qk Wn z44 u3q (x4_4:List ByteArray) Y4_5=>Cnd (Qk<(↑y1.3.length:Int)) (((0:Int)<=Qk/\Qk<(↑y1.3.length:Int))/\ ∀y5,y1.3[Qk.toNat]? =some y5->Cnd (y5.1=name) (Zi (Val.mk y5.2.1 y5.2.2 y5.2.3 y5.2.4) fun Up=>K Up true) (InI (Qk+(1:Int))/\Y4_5 (Qk+(1:Int)) Wn z44 u3q x4_4)) (K (Val.mk (0:Int) (0:Int) (ByteArray.mk (Array.mk [])) []) false)) (0:Int) (0:Int) (0:Int) (ByteArray.mk (Array.mk [])) []))
def R9:U8:=q69 Ut Vm
abbrev q08:Type:=Val->Val->(Bool->Prop)->Prop
def z3m (Qq:Zb):q08:=fun a b K=>Cnd (a.1=b.1) (Cnd (a.2=b.2) (Cnd (a.3=b.3) (Qq a.4 b.4 fun Qb=>K Qb) (K false)) (K false)) (K false)
def q09:q08:=z3m Zj
abbrev Zy:Type:=ByteArray->ByteArray->(Bool->Prop)->Prop
def Je:Zy:=fun s prefix_ K=>Cnd ((↑prefix_.size:Int)<=(↑s.size:Int)) (((0:Int)<=(0:Int)/\(0:Int)<=(↑prefix_.size:Int)/\(↑prefix_.size:Int)<=(↑s.size:Int))/\K (decide (s.extract (Int.toNat (0:Int)) (↑prefix_.size:Int).toNat=prefix_))) (K false)
abbrev Vc:Type:=ByteArray->ByteArray->(Bool->Prop)->Prop
def q2i (Q0:Zy):Vc:=fun s prefix_ K=>Q0 s prefix_ fun Qb=>K Qb
def Uw:Vc:=q2i Je
abbrev Wv:Type:=ByteArray->ByteArray->(Bool->Prop)->Prop
def Ua:Wv:=fun s suffix K=>Cnd ((↑suffix.size:Int)<=(↑s.size:Int)) (InI ((↑s.size:Int) - (↑suffix.size:Int))/\((0:Int)<=(↑s.size:Int) - (↑suffix.size:Int)/\(↑s.size:Int) - (↑suffix.size:Int)<=(↑s.size:Int)/\(↑s.size:Int)<=(↑s.size:Int))/\K (decide (s.extract ((↑s.size:Int) - (↑suffix.size:Int)).toNat (↑s.size:Int).toNat=suffix))) (K false)
abbrev Vd:Type:=ByteArray->ByteArray->(Bool->Prop)->Prop
def q2j (J1:Wv):Vd:=fun s suffix K=>J1 s suffix fun Qb=>K Qb
def Ux:Vd:=q2j Ua
abbrev Bw:Type:=ByteArray->ByteArray->(Bool->Prop)->Prop
def Bx (s:ByteArray) (substr:ByteArray) (K:Bool->Prop):Prop:=s.size<4294967281/\K (Go.Lib.contains s.data.toList substr.data.toList)
abbrev q36:Type:=Val->(Bool->Prop)->Prop
def q37:q36:=fun v K=>Jn1 (fun Qb=>Cnd (Qb=true) (Cnd (v.3=ByteArray.mk (Array.mk [])) (v.4.length<=(9223372036854775807:Nat)->K (decide ((↑v.4.length:Int)=(0:Int)))) (K false)) (Jn1 (fun Qc=>Cnd (Qc=true) (Cnd (v.2=(0:Int)) (v.4.length<=(9223372036854775807:Nat)->K (decide ((↑v.4.length:Int)=(0:Int)))) (K false)) (Cnd (v.2=(0:Int)) (K (decide (v.3=ByteArray.mk (Array.mk [])))) (K false))) fun w9o=>Cnd (v.1=(3:Int)) (w9o (decide (v.1=(3:Int)))) (w9o (decide (v.1=(4:Int)))))) fun z22=>Cnd (v.1=(1:Int)) (z22 (decide (v.1=(1:Int)))) (z22 (decide (v.1=(2:Int))))
abbrev q27:Type:=ByteArray->(Bool->Prop)->Prop
def z56 (Zh:Ws):q27:=fun s K=>Cnd ((200:Int)<(↑s.size:Int)) (K false) (Zh s fun Qb=>Cnd (Qb=true) (Lp1 (fun (Qc:ByteArray×Nat) q3i=>Cnd (Qc.snd<Qc.fst.size) (Cnd ((↑(Go.Utf8.decode Qc.fst Qc.snd).fst:Int)<(32:Int)) (K false) (Cnd ((↑(Go.Utf8.decode Qc.fst Qc.snd).fst:Int)=(127:Int)) (K false) (q3i (Qc.fst,Qc.snd+(Go.Utf8.decode Qc.fst Qc.snd).snd)))) (K true)) (s,(0:Nat))) (K false))
def q6x:q27:=z56 Wt
abbrev q38:Type:=ByteArray->ByteArray->(List (ByteArray)->Prop)->Prop
def q39 (s:ByteArray) (sep:ByteArray) (K:List (ByteArray)->Prop):Prop:=sep.size=1/\s.size<4294967281/\K (q2u s sep)
abbrev Jw:Type:=ByteArray->ByteArray->(ByteArray->Bool->Prop)->Prop
def Rn (Q0:Zy):Jw:=fun s prefix_ K=>Q0 s prefix_ fun Qb=>Cnd (Qb=true) (((0:Int)<=(↑prefix_.size:Int)/\(↑prefix_.size:Int)<=(↑s.size:Int)/\(↑s.size:Int)<=(↑s.size:Int))/\K (s.extract (↑prefix_.size:Int).toNat (↑s.size:Int).toNat) true) (K s false)
def Ub:Jw:=Rn Je
abbrev Ve:Type:=ByteArray->ByteArray->(ByteArray->Bool->Prop)->Prop
def q2k (J2:Jw):Ve:=fun s prefix_ K=>J2 s prefix_ fun Qb Q6=>K Qb Q6
def Uy:Ve:=q2k Ub
abbrev q6h:Type:=ByteArray->(Int->Bool->Prop)->Prop
def q18 (s:ByteArray) (K:Int->Bool->Prop):Prop:=s.size<=281474976710656/\u5g s K
abbrev Vv:Type:=ByteArray->(Int->Int->Prop)->Prop
def q4a (Vi:Ve) (G5:q6h):Vv:=fun s K=>Vi s (ByteArray.mk (Array.mk [45])) fun Qb Q6=>Cnd (Qb=ByteArray.mk (Array.mk [])) (K (0:Int) (1:Int)) (((0:Int)<=(0:Int)/\(0:Int)<(↑Qb.size:Int))/\ ∀b1,Qb[Int.toNat (0:Int)]? =some b1->Cnd ((↑b1.toNat:Int)=(48:Int)) (Cnd ((1:Int)<(↑Qb.size:Int)) (K (0:Int) (1:Int)) (Cnd (Q6=true) (K (0:Int) (1:Int)) (Lp1 (fun (Qm:ByteArray×Nat) j19=>Cnd (Qm.snd<Qm.fst.size) (Cnd ((↑(Go.Utf8.decode Qm.fst Qm.snd).fst:Int)<(48:Int)) (K (0:Int) (1:Int)) (Cnd ((57:Int)<(↑(Go.Utf8.decode Qm.fst Qm.snd).fst:Int)) (K (0:Int) (1:Int)) (j19 (Qm.fst,Qm.snd+(Go.Utf8.decode Qm.fst Qm.snd).snd)))) (G5 s fun Qk Wn=>Cnd ((match (Qk,Wn,()).snd.fst with|true=>false|false=>true)=true) (K (0:Int) (3:Int)) (Cnd (Qk<(-1099511627776:Int)) (K (0:Int) (3:Int)) (Cnd ((1099511627776:Int)<Qk) (K (0:Int) (3:Int)) (K Qk (0:Int)))))) (Qb,(0:Nat))))) (Lp1 (fun (Qm:ByteArray×Nat) j19=>Cnd (Qm.snd<Qm.fst.size) (Cnd ((↑(Go.Utf8.decode Qm.fst Qm.snd).fst:Int)<(48:Int)) (K (0:Int) (1:Int)) (Cnd ((57:Int)<(↑(Go.Utf8.decode Qm.fst Qm.snd).fst:Int)) (K (0:Int) (1:Int)) (j19 (Qm.fst,Qm.snd+(Go.Utf8.decode Qm.fst Qm.snd).snd)))) (G5 s fun Qk Wn=>Cnd ((match (Qk,Wn,()).snd.fst with|true=>false|false=>true)=true) (K (0:Int) (3:Int)) (Cnd (Qk<(-1099511627776:Int)) (K (0:Int) (3:Int)) (Cnd ((1099511627776:Int)<Qk) (K (0:Int) (3:Int)) (K Qk (0:Int)))))) (Qb,(0:Nat))))
def Gu:Vv:=q4a Uy q18
abbrev Uc:Type:=ByteArray->(A3->Bool->Prop)->Prop
def z3n (H7:q38) (Vz:Vv):Uc:=fun s K=>H7 s (ByteArray.mk (Array.mk [46])) fun Qb=>Qb.length<=(9223372036854775807:Nat)->Cnd ((↑Qb.length:Int)=(3:Int)) (Qb.length<=(9223372036854775807:Nat)->LpH (fun (Qm:Int×Int×Int×Int×Int×Int×Int×Unit) j19=>Cnd (Qm.fst<(↑Qb.length:Int)) (((0:Int)<=Qm.fst/\Qm.fst<(↑Qb.length:Int))/\ ∀y4,Qb[Qm.fst.toNat]? =some y4->Vz y4 fun Zp z7t=>Cnd (z7t=(0:Int)) (Cnd (Zp<(0:Int)) (K ((0:Int),(0:Int),(0:Int)) false) (Cnd ((999999:Int)<Zp) (K ((0:Int),(0:Int),(0:Int)) false) (((0:Int)<=Qm.fst/\Qm.fst<(↑(3:Nat):Int))/\((True/\(Qm.fst=(↑(nat_lit 0):Int)->InI (Qm.fst+(1:Int))/\j19 (Qm.fst+(1:Int),Zp,Qm.snd.snd.fst,Qm.snd.snd.snd.fst,Qm.snd.snd.snd.snd.fst,Qm.snd.snd.snd.snd.snd.fst,Qm.snd.snd.snd.snd.snd.snd.fst,())))/\(Qm.fst=(↑(nat_lit 1):Int)->InI (Qm.fst+(1:Int))/\j19 (Qm.fst+(1:Int),Qm.snd.fst,Zp,Qm.snd.snd.snd.fst,Qm.snd.snd.snd.snd.fst,Qm.snd.snd.snd.snd.snd.fst,Qm.snd.snd.snd.snd.snd.snd.fst,())))/\(Qm.fst=(↑(nat_lit 2):Int)->InI (Qm.fst+(1:Int))/\j19 (Qm.fst+(1:Int),Qm.snd.fst,Qm.snd.snd.fst,Zp,Qm.snd.snd.snd.snd.fst,Qm.snd.snd.snd.snd.snd.fst,Qm.snd.snd.snd.snd.snd.snd.fst,()))))) (K ((0:Int),(0:Int),(0:Int)) false)) (K (Qm.snd.fst,Qm.snd.snd.fst,Qm.snd.snd.snd.fst) true)) ((0:Int),(0:Int),(0:Int),(0:Int),(0:Int),(0:Int),(0:Int),())) (K ((0:Int),(0:Int),(0:Int)) false)
def Rp:Uc:=z3n q39 Gu
abbrev q1a:Type:=Val->(Int->Prop)->Prop
def z3o (q1r:q36) (q0v:q27) (Jj:Uc):q1a:=fun v K=>Cnd (v.1<(1:Int)) (K (7:Int)) (Cnd ((5:Int)<v.1) (K (7:Int)) (q1r v fun Qb=>Cnd (Qb=true) (Cnd (v.1=(1:Int)) (Cnd (v.2=(0:Int)) (K (0:Int)) (Cnd (v.2=(1:Int)) (K (0:Int)) (K (3:Int)))) (Cnd (v.1=(2:Int)) (Cnd (v.2<(-1099511627776:Int)) (K (3:Int)) (Cnd ((1099511627776:Int)<v.2) (K (3:Int)) (K (0:Int)))) (Cnd (v.1=(3:Int)) (q0v v.3 fun Qc=>Cnd (Qc=true) (K (0:Int)) (K (2:Int))) (Cnd (v.1=(4:Int)) (Jj v.3 fun (_:Int×Int×Int) Z1=>Cnd (Z1=true) (K (0:Int)) (K (1:Int))) (Cnd (v.1=(5:Int)) (v.4.length<=(9223372036854775807:Nat)->Cnd ((20:Int)<(↑v.4.length:Int)) (K (5:Int)) (v.4.length<=(9223372036854775807:Nat)->Lp1 (fun Qm j19=>Cnd (Qm<(↑v.4.length:Int)) (((0:Int)<=Qm/\Qm<(↑v.4.length:Int))/\ ∀y4,v.4[Qm.toNat]? =some y4->q0v y4 fun Zp=>Cnd (Zp=true) (InI (Qm+(1:Int))/\j19 (Qm+(1:Int))) (K (2:Int))) (v.4.length<=(9223372036854775807:Nat)->Lp1 (fun Qy w54=>Cnd (Qy<(↑v.4.length:Int)) (Cnd ((0:Int)<Qy) (InI (Qy - (1:Int))/\((0:Int)<=Qy - (1:Int)/\Qy - (1:Int)<(↑v.4.length:Int))/\ ∀y6,v.4[(Qy - (1:Int)).toNat]? =some y6->((0:Int)<=Qy/\Qy<(↑v.4.length:Int))/\ ∀y8,v.4[Qy.toNat]? =some y8->Cnd (Lk.blt y6 y8) (InI (Qy+(1:Int))/\w54 (Qy+(1:Int))) (K (9:Int))) (InI (Qy+(1:Int))/\w54 (Qy+(1:Int)))) (K (0:Int))) (0:Int))) (0:Int))) (K (0:Int))))))) (K (15:Int))))
def q4b:q1a:=z3o q37 q6x Rp
abbrev Hq:Type:=Val->Val->(Int->Int->Prop)->Prop
def q9h (Rz:q1a) (Jj:Uc):Hq:=fun a b K=>Rz a fun Qb=>Cnd (Qb=(0:Int)) (Rz b fun Qc=>Cnd (Qc=(0:Int)) (Cnd (a.1=b.1) (Cnd (a.1=(1:Int)) (K (0:Int) (8:Int)) (Cnd (a.1=(5:Int)) (K (0:Int) (8:Int)) (Cnd (a.1=(2:Int)) (Cnd (a.2=a.2) (Cnd (b.2=b.2) (Cnd (a.2<b.2) (K (-1:Int) (0:Int)) (Cnd (b.2<a.2) (K (1:Int) (0:Int)) (K (0:Int) (0:Int)))) (K (1:Int) (0:Int))) (Cnd (b.2=b.2) (K (-1:Int) (0:Int)) (K (0:Int) (0:Int)))) (Cnd (a.1=(3:Int)) (Cnd (a.3=a.3) (Cnd (b.3=b.3) (Cnd (Lk.blt a.3 b.3) (K (-1:Int) (0:Int)) (Cnd (Lk.blt b.3 a.3) (K (1:Int) (0:Int)) (K (0:Int) (0:Int)))) (K (1:Int) (0:Int))) (Cnd (b.3=b.3) (K (-1:Int) (0:Int)) (K (0:Int) (0:Int)))) (Jj a.3 fun (Qh:Int×Int×Int) _=>Jj b.3 fun (Qm:Int×Int×Int) _=>([Qh.fst,Qh.snd.fst,Qh.snd.snd].length<=(9223372036854775807:Nat)->Lp1 (fun Qy w54=>Cnd (Qy<(↑[Qh.fst,Qh.snd.fst,Qh.snd.snd].length:Int)) (((0:Int)<=Qy/\Qy<(↑[Qh.fst,Qh.snd.fst,Qh.snd.snd].length:Int))/\ ∀y6,[Qh.fst,Qh.snd.fst,Qh.snd.snd][Qy.toNat]? =some y6->[Qm.fst,Qm.snd.fst,Qm.snd.snd].length<=(9223372036854775807:Nat)->Cnd ((↑[Qm.fst,Qm.snd.fst,Qm.snd.snd].length:Int)<=Qy) (K (1:Int) (0:Int)) (((0:Int)<=Qy/\Qy<(↑[Qm.fst,Qm.snd.fst,Qm.snd.snd].length:Int))/\ ∀y9,[Qm.fst,Qm.snd.fst,Qm.snd.snd][Qy.toNat]? =some y9->Cnd (y6=y6) (Cnd (y9=y9) (Cnd (y6<y9) (Cnd ((-1:Int)=(0:Int)) (InI (Qy+(1:Int))/\w54 (Qy+(1:Int))) (K (-1:Int) (0:Int))) (Cnd (y9<y6) (Cnd ((1:Int)=(0:Int)) (InI (Qy+(1:Int))/\w54 (Qy+(1:Int))) (K (1:Int) (0:Int))) (Cnd ((0:Int)=(0:Int)) (InI (Qy+(1:Int))/\w54 (Qy+(1:Int))) (K (0:Int) (0:Int))))) (Cnd ((1:Int)=(0:Int)) (InI (Qy+(1:Int))/\w54 (Qy+(1:Int))) (K (1:Int) (0:Int)))) (Cnd (y9=y9) (Cnd ((-1:Int)=(0:Int)) (InI (Qy+(1:Int))/\w54 (Qy+(1:Int))) (K (-1:Int) (0:Int))) (Cnd ((0:Int)=(0:Int)) (InI (Qy+(1:Int))/\w54 (Qy+(1:Int))) (K (0:Int) (0:Int)))))) ([Qh.fst,Qh.snd.fst,Qh.snd.snd].length<=(9223372036854775807:Nat)->[Qm.fst,Qm.snd.fst,Qm.snd.snd].length<=(9223372036854775807:Nat)->Cnd ((↑[Qh.fst,Qh.snd.fst,Qh.snd.snd].length:Int)<(↑[Qm.fst,Qm.snd.fst,Qm.snd.snd].length:Int)) (K (-1:Int) (0:Int)) (K (0:Int) (0:Int)))) (0:Int))/\([Qh.fst,Qh.snd.fst,Qh.snd.snd].length<=(9223372036854775807:Nat)->Lp1 (fun Qy w54=>Cnd (Qy<(↑[Qh.fst,Qh.snd.fst,Qh.snd.snd].length:Int)) (((0:Int)<=Qy/\Qy<(↑[Qh.fst,Qh.snd.fst,Qh.snd.snd].length:Int))/\ ∀y6,[Qh.fst,Qh.snd.fst,Qh.snd.snd][Qy.toNat]? =some y6->[Qm.fst,Qm.snd.fst,Qm.snd.snd].length<=(9223372036854775807:Nat)->Cnd ((↑[Qm.fst,Qm.snd.fst,Qm.snd.snd].length:Int)<=Qy) (K (1:Int) (0:Int)) (((0:Int)<=Qy/\Qy<(↑[Qm.fst,Qm.snd.fst,Qm.snd.snd].length:Int))/\ ∀y9,[Qm.fst,Qm.snd.fst,Qm.snd.snd][Qy.toNat]? =some y9->Cnd (y6=y6) (Cnd (y9=y9) (Cnd (y6<y9) (Cnd ((-1:Int)=(0:Int)) (InI (Qy+(1:Int))/\w54 (Qy+(1:Int))) (K (-1:Int) (0:Int))) (Cnd (y9<y6) (Cnd ((1:Int)=(0:Int)) (InI (Qy+(1:Int))/\w54 (Qy+(1:Int))) (K (1:Int) (0:Int))) (Cnd ((0:Int)=(0:Int)) (InI (Qy+(1:Int))/\w54 (Qy+(1:Int))) (K (0:Int) (0:Int))))) (Cnd ((1:Int)=(0:Int)) (InI (Qy+(1:Int))/\w54 (Qy+(1:Int))) (K (1:Int) (0:Int)))) (Cnd (y9=y9) (Cnd ((-1:Int)=(0:Int)) (InI (Qy+(1:Int))/\w54 (Qy+(1:Int))) (K (-1:Int) (0:Int))) (Cnd ((0:Int)=(0:Int)) (InI (Qy+(1:Int))/\w54 (Qy+(1:Int))) (K (0:Int) (0:Int)))))) ([Qh.fst,Qh.snd.fst,Qh.snd.snd].length<=(9223372036854775807:Nat)->[Qm.fst,Qm.snd.fst,Qm.snd.snd].length<=(9223372036854775807:Nat)->Cnd ((↑[Qh.fst,Qh.snd.fst,Qh.snd.snd].length:Int)<(↑[Qm.fst,Qm.snd.fst,Qm.snd.snd].length:Int)) (K (-1:Int) (0:Int)) (K (0:Int) (0:Int)))) (0:Int))))))) (K (0:Int) (8:Int))) (K (0:Int) Qc)) (K (0:Int) Qb)
def Hr:Hq:=q9h q4b Rp
abbrev q1b:Type:=Subj->Ex->(Bool->Prop)->Prop
def z3p (Ge:U8) (J0:Gq) (G1:q08) (Vj:Vc) (Vk:Vd) (V0:Bw) (U1:Hq):q1b:=fun s e K=>Ge (Subj.mk s.1) e.2 e.3 fun Qb Q6=>Cnd (Q6=true) (J0 e.1 fun Qc=>Cnd (Qc=true) (Cnd (e.1=(6:Int)) (K true) (Cnd (e.1=(8:Int)) (e.4.length<=(9223372036854775807:Nat)->Lp1 (fun Qm j19=>Cnd (Qm<(↑e.4.length:Int)) (((0:Int)<=Qm/\Qm<(↑e.4.length:Int))/\ ∀y4,e.4[Qm.toNat]? =some y4->G1 Qb y4 fun Zp=>Cnd (Zp=true) (K (decide ((0:Int)<=Qm))) (InI (Qm+(1:Int))/\j19 (Qm+(1:Int)))) (K (decide ((0:Int)<=(-1:Int))))) (0:Int)) (e.4.length<=(9223372036854775807:Nat)->Cnd ((↑e.4.length:Int)=(0:Int)) (K false) (((0:Int)<=(0:Int)/\(0:Int)<(↑e.4.length:Int))/\ ∀y3,e.4[Int.toNat (0:Int)]? =some y3->Cnd (Qb.1=(3:Int)) (Cnd (e.1=(7:Int)) (G1 Qb y3 fun Qy=>K Qy) (Cnd (e.1=(9:Int)) (Cnd (y3.1=(3:Int)) (Vj Qb.3 y3.3 fun Qy=>K Qy) (K false)) (Cnd (e.1=(10:Int)) (Cnd (y3.1=(3:Int)) (Vk Qb.3 y3.3 fun Qy=>K Qy) (K false)) (Cnd (e.1=(11:Int)) (Cnd (y3.1=(3:Int)) (V0 Qb.3 y3.3 fun Qy=>Cnd (Qy=true) (K true) (Cnd (y3.1=(3:Int)) (Cnd (Qb.1=(5:Int)) (Qb.4.length<=(9223372036854775807:Nat)->Lp1 (fun Up Y7_1=>Cnd (Up<(↑Qb.4.length:Int)) (((0:Int)<=Up/\Up<(↑Qb.4.length:Int))/\ ∀y8,Qb.4[Up.toNat]? =some y8->Cnd (y3.3=y8) (K (decide ((0:Int)<=Up))) (InI (Up+(1:Int))/\Y7_1 (Up+(1:Int)))) (K (decide ((0:Int)<=(-1:Int))))) (0:Int)) (K false)) (K false))) (Cnd (y3.1=(3:Int)) (Cnd (Qb.1=(5:Int)) (Qb.4.length<=(9223372036854775807:Nat)->Lp1 (fun Zp u3j=>Cnd (Zp<(↑Qb.4.length:Int)) (((0:Int)<=Zp/\Zp<(↑Qb.4.length:Int))/\ ∀y7,Qb.4[Zp.toNat]? =some y7->Cnd (y3.3=y7) (K (decide ((0:Int)<=Zp))) (InI (Zp+(1:Int))/\u3j (Zp+(1:Int)))) (K (decide ((0:Int)<=(-1:Int))))) (0:Int)) (K false)) (K false))) (U1 Qb y3 fun Qy q7j=>Cnd (q7j=(0:Int)) (Cnd (e.1=(12:Int)) (K (decide (Qy<(0:Int)))) (Cnd (e.1=(13:Int)) (K (decide (Qy<=(0:Int)))) (Cnd (e.1=(14:Int)) (K (decide ((0:Int)<Qy))) (K (decide ((0:Int)<=Qy)))))) (K false)))))) (Cnd (e.1=(7:Int)) (G1 Qb y3 fun Qy=>K Qy) (Cnd (e.1=(9:Int)) (K false) (Cnd (e.1=(10:Int)) (K false) (Cnd (e.1=(11:Int)) (Cnd (y3.1=(3:Int)) (Cnd (Qb.1=(5:Int)) (Qb.4.length<=(9223372036854775807:Nat)->Lp1 (fun Zp u3j=>Cnd (Zp<(↑Qb.4.length:Int)) (((0:Int)<=Zp/\Zp<(↑Qb.4.length:Int))/\ ∀y7,Qb.4[Zp.toNat]? =some y7->Cnd (y3.3=y7) (K (decide ((0:Int)<=Zp))) (InI (Zp+(1:Int))/\u3j (Zp+(1:Int)))) (K (decide ((0:Int)<=(-1:Int))))) (0:Int)) (K false)) (K false)) (U1 Qb y3 fun Qy q7j=>Cnd (q7j=(0:Int)) (Cnd (e.1=(12:Int)) (K (decide (Qy<(0:Int)))) (Cnd (e.1=(13:Int)) (K (decide (Qy<=(0:Int)))) (Cnd (e.1=(14:Int)) (K (decide ((0:Int)<Qy))) (K (decide ((0:Int)<=Qy)))))) (K false)))))))))) (K false)) (K false)
def q1c:q1b:=z3p R9 Gs q09 Uw Ux Bx Hr
abbrev Wb:Type:=Subj->List (ByteArray)->Ex->(Bool->Prop)->Prop
def z3q (q1s:q1b) (X:Wb):Wb:=fun s in_ e K=>Cnd (e.1=(1:Int)) (K true) (Cnd (e.1=(2:Int)) (e.5.length<=(9223372036854775807:Nat)->Lp1 (fun Qc q3i=>Cnd (Qc<(↑e.5.length:Int)) (((0:Int)<=Qc/\Qc<(↑e.5.length:Int))/\ ∀y2,e.5[Qc.toNat]? =some y2->X (Subj.mk s.1) in_ (Ex.mk y2.1 y2.2 y2.3 y2.4 y2.5) fun Qk=>Cnd (Qk=true) (InI (Qc+(1:Int))/\q3i (Qc+(1:Int))) (K (match decide ((0:Int)<=Qc) with|true=>false|false=>true))) (K true)) (0:Int)) (Cnd (e.1=(3:Int)) (e.5.length<=(9223372036854775807:Nat)->Lp1 (fun Qc q3i=>Cnd (Qc<(↑e.5.length:Int)) (((0:Int)<=Qc/\Qc<(↑e.5.length:Int))/\ ∀y2,e.5[Qc.toNat]? =some y2->X (Subj.mk s.1) in_ (Ex.mk y2.1 y2.2 y2.3 y2.4 y2.5) fun Qk=>Cnd (Qk=true) (K (decide ((0:Int)<=Qc))) (InI (Qc+(1:Int))/\q3i (Qc+(1:Int)))) (K (decide ((0:Int)<=(-1:Int))))) (0:Int)) (Cnd (e.1=(4:Int)) (e.5.length<=(9223372036854775807:Nat)->Cnd ((0:Int)<(↑e.5.length:Int)) (((0:Int)<=(0:Int)/\(0:Int)<(↑e.5.length:Int))/\ ∀y1,e.5[Int.toNat (0:Int)]? =some y1->X (Subj.mk s.1) in_ (Ex.mk y1.1 y1.2 y1.3 y1.4 y1.5) fun Qm=>K (match decide ((Qm,()).fst=true) with|true=>false|false=>true)) (K false)) (Cnd (e.1=(5:Int)) (in_.length<=(9223372036854775807:Nat)->Lp1 (fun Qc q3i=>Cnd (Qc<(↑in_.length:Int)) (((0:Int)<=Qc/\Qc<(↑in_.length:Int))/\ ∀y2,in_[Qc.toNat]? =some y2->Cnd (e.3=y2) (K (decide ((0:Int)<=Qc))) (InI (Qc+(1:Int))/\q3i (Qc+(1:Int)))) (K (decide ((0:Int)<=(-1:Int))))) (0:Int)) (q1s (Subj.mk s.1) (Ex.mk e.1 e.2 e.3 e.4 e.5) fun Qb=>K Qb)))))
def Rq:Wb:=fun s in_ e K=> ∀X:Wb,(∀s in_ e K,z3q q1c X s in_ e K->X s in_ e K)->X s in_ e K
abbrev Vw:Type:=Seg->Subj->List (ByteArray)->(Bool->Prop)->Prop
def q4c (Zc:Jo) (Z6:Wb):Vw:=fun g s in_ K=>Zc (Subj.mk s.1) g.2 fun Qb Q6=>Cnd (Q6=true) (g.4.length<=(9223372036854775807:Nat)->Lp1 (fun Qh j7r=>Cnd (Qh<(↑g.4.length:Int)) (((0:Int)<=Qh/\Qh<(↑g.4.length:Int))/\ ∀y3,g.4[Qh.toNat]? =some y3->Cnd (Qb.2=y3) (Cnd ((0:Int)<=Qh) (K false) (g.3.length<=(9223372036854775807:Nat)->Lp1 (fun Zp u3j=>Cnd (Zp<(↑g.3.length:Int)) (((0:Int)<=Zp/\Zp<(↑g.3.length:Int))/\ ∀y7,g.3[Zp.toNat]? =some y7->Cnd (Qb.2=y7) (Cnd ((0:Int)<=Zp) (K true) (Cnd (g.5.1=(0:Int)) (K false) (Z6 (Subj.mk s.1) in_ (Ex.mk g.5.1 g.5.2 g.5.3 g.5.4 g.5.5) fun Q5=>K Q5))) (InI (Zp+(1:Int))/\u3j (Zp+(1:Int)))) (Cnd ((0:Int)<=(-1:Int)) (K true) (Cnd (g.5.1=(0:Int)) (K false) (Z6 (Subj.mk s.1) in_ (Ex.mk g.5.1 g.5.2 g.5.3 g.5.4 g.5.5) fun Up=>K Up)))) (0:Int))) (InI (Qh+(1:Int))/\j7r (Qh+(1:Int)))) (Cnd ((0:Int)<=(-1:Int)) (K false) (g.3.length<=(9223372036854775807:Nat)->Lp1 (fun Qk v72=>Cnd (Qk<(↑g.3.length:Int)) (((0:Int)<=Qk/\Qk<(↑g.3.length:Int))/\ ∀y5,g.3[Qk.toNat]? =some y5->Cnd (Qb.2=y5) (Cnd ((0:Int)<=Qk) (K true) (Cnd (g.5.1=(0:Int)) (K false) (Z6 (Subj.mk s.1) in_ (Ex.mk g.5.1 g.5.2 g.5.3 g.5.4 g.5.5) fun Up=>K Up))) (InI (Qk+(1:Int))/\v72 (Qk+(1:Int)))) (Cnd ((0:Int)<=(-1:Int)) (K true) (Cnd (g.5.1=(0:Int)) (K false) (Z6 (Subj.mk s.1) in_ (Ex.mk g.5.1 g.5.2 g.5.3 g.5.4 g.5.5) fun Qy=>K Qy)))) (0:Int)))) (0:Int)) (K false)
def Gv:Vw:=q4c Vn Rq
abbrev Uh:Type:=List (Seg)->Subj->(List (ByteArray)->Prop)->Prop
def q5k (H8:Hp) (V1:Vw) (Qt:Zk):Uh:=fun l s K=>H8 l fun Qb Q6=>Cnd (Q6=(0:Int)) (l.length<=(9223372036854775807:Nat)->Lp2 (fun Qh j7r q8d=>Cnd (Qh<(↑l.length:Int)) (((0:Int)<=Qh/\Qh<(↑l.length:Int))/\ ∀y3,l[Qh.toNat]? =some y3->InI (Qh+(1:Int))/\q8d (Qh+(1:Int)) (put j7r y3.1 (Seg.mk y3.1 y3.2 y3.3 y3.4 (Ex.mk y3.5.1 y3.5.2 y3.5.3 y3.5.4 y3.5.5)))) (Qb.length<=(9223372036854775807:Nat)->Lp2 (fun Qk Wn v71=>Cnd (Wn<(↑Qb.length:Int)) (((0:Int)<=Wn/\Wn<(↑Qb.length:Int))/\ ∀y5,Qb[Wn.toNat]? =some y5->V1 (Seg.mk ((j7r y5).getD (Seg.mk (ByteArray.mk (Array.mk [])) (ByteArray.mk (Array.mk [])) [] [] (Ex.mk (0:Int) (ByteArray.mk (Array.mk [])) (ByteArray.mk (Array.mk [])) [] []))).1 ((j7r y5).getD (Seg.mk (ByteArray.mk (Array.mk [])) (ByteArray.mk (Array.mk [])) [] [] (Ex.mk (0:Int) (ByteArray.mk (Array.mk [])) (ByteArray.mk (Array.mk [])) [] []))).2 ((j7r y5).getD (Seg.mk (ByteArray.mk (Array.mk [])) (ByteArray.mk (Array.mk [])) [] [] (Ex.mk (0:Int) (ByteArray.mk (Array.mk [])) (ByteArray.mk (Array.mk [])) [] []))).3 ((j7r y5).getD (Seg.mk (ByteArray.mk (Array.mk [])) (ByteArray.mk (Array.mk [])) [] [] (Ex.mk (0:Int) (ByteArray.mk (Array.mk [])) (ByteArray.mk (Array.mk [])) [] []))).4 (Ex.mk ((j7r y5).getD (Seg.mk (ByteArray.mk (Array.mk [])) (ByteArray.mk (Array.mk [])) [] [] (Ex.mk (0:Int) (ByteArray.mk (Array.mk [])) (ByteArray.mk (Array.mk [])) [] []))).5.1 ((j7r y5).getD (Seg.mk (ByteArray.mk (Array.mk [])) (ByteArray.mk (Array.mk [])) [] [] (Ex.mk (0:Int) (ByteArray.mk (Array.mk [])) (ByteArray.mk (Array.mk [])) [] []))).5.2 ((j7r y5).getD (Seg.mk (ByteArray.mk (Array.mk [])) (ByteArray.mk (Array.mk [])) [] [] (Ex.mk (0:Int) (ByteArray.mk (Array.mk [])) (ByteArray.mk (Array.mk [])) [] []))).5.3 ((j7r y5).getD (Seg.mk (ByteArray.mk (Array.mk [])) (ByteArray.mk (Array.mk [])) [] [] (Ex.mk (0:Int) (ByteArray.mk (Array.mk [])) (ByteArray.mk (Array.mk [])) [] []))).5.4 ((j7r y5).getD (Seg.mk (ByteArray.mk (Array.mk [])) (ByteArray.mk (Array.mk [])) [] [] (Ex.mk (0:Int) (ByteArray.mk (Array.mk [])) (ByteArray.mk (Array.mk [])) [] []))).5.5)) (Subj.mk s.1) Qk fun Up=>Cnd (Up=true) (Sml (Qk++[y5]).length/\InI (Wn+(1:Int))/\v71 (Qk++[y5]) (Wn+(1:Int))) (InI (Wn+(1:Int))/\v71 Qk (Wn+(1:Int)))) (Qt Qk fun Qy=>K Qy)) [] (0:Int))) (0:Int) fun _=>none) (K [])
def Hs:Uh:=q5k q0p Gv Z0
abbrev Jx:Type:=Envt->Subj->ByteArray->(Bool->Prop)->Prop
def q5l (Uo:Uh) (Z6:Wb):Jx:=fun v s experiment K=>v.6.length<=(9223372036854775807:Nat)->Lp1 (fun Qc q3i=>Cnd (Qc<(↑v.6.length:Int)) (((0:Int)<=Qc/\Qc<(↑v.6.length:Int))/\ ∀y2,v.6[Qc.toNat]? =some y2->Cnd (y2.1=experiment) (Uo v.3 (Subj.mk s.1) fun Qk=>Z6 (Subj.mk s.1) Qk (Ex.mk y2.8.1 y2.8.2 y2.8.3 y2.8.4 y2.8.5) fun Qy=>K Qy) (InI (Qc+(1:Int))/\q3i (Qc+(1:Int)))) (K false)) (0:Int)
def Vf:Jx:=q5l Hs Rq
abbrev q4d:Type:=List (Rng)->Int->(Int->Prop)->Prop
def q4e:q4d:=fun l bucket K=>l.length<=(9223372036854775807:Nat)->Lp1 (fun Qc q3i=>Cnd (Qc<(↑l.length:Int)) (((0:Int)<=Qc/\Qc<(↑l.length:Int))/\ ∀y2,l[Qc.toNat]? =some y2->Cnd (y2.1<=bucket) (Cnd (bucket<y2.2) (K y2.3) (InI (Qc+(1:Int))/\q3i (Qc+(1:Int)))) (InI (Qc+(1:Int))/\q3i (Qc+(1:Int)))) (K (0:Int))) (0:Int)
abbrev Vp:Type:=Envt->Subj->List (Frc)->ByteArray->(Asg->Int->Prop)->Prop
def z02 (Zc:Jo) (H9:q0n) (Wz:Rj) (q1t:q4d) (Zo:Jx) (J3:V9) (q1u:q34):Vp:=fun v s forced key K=>Jn1 (fun Qb=>Cnd (Qb<(0:Int)) (K (Asg.mk (ByteArray.mk (Array.mk [])) (ByteArray.mk (Array.mk [])) (0:Int) (0:Int) false) (11:Int)) (((0:Int)<=Qb/\Qb<(↑v.5.length:Int))/\ ∀y1,v.5[Qb.toNat]? =some y1->Zc (Subj.mk s.1) y1.2 fun Qm Re=>Jn1 (fun Qk=>H9 forced key fun Qy q7j=>Jn1 (fun Zp=>Cnd (Zp=true) (Cnd (Qy.2=ByteArray.mk (Array.mk [])) (K (Asg.mk key (ByteArray.mk (Array.mk [])) Qk (0:Int) false) (0:Int)) (K (Asg.mk key Qy.2 Qk Qy.3 false) (0:Int))) (Jn1 (fun Up=>Cnd (Up=true) (K (Asg.mk key (ByteArray.mk (Array.mk [])) Qk (0:Int) true) (0:Int)) (Cnd (Re=true) (v.6.length<=(9223372036854775807:Nat)->Lp3 (fun Q5 j17 x9_2 Y9_3=>Cnd (Q5<(↑v.6.length:Int)) (((0:Int)<=Q5/\Q5<(↑v.6.length:Int))/\ ∀y10,v.6[Q5.toNat]? =some y10->Jn1 (fun Rx=>Jn1 (fun Zl=>Cnd (Zl=true) (Wz y10.4 Qm.2 fun Vs=>q1t y10.7 Vs fun w8h=>K (Asg.mk key y10.1 Qk w8h false) (0:Int)) (InI (Q5+(1:Int))/\Y9_3 (Q5+(1:Int)) j17 x9_2)) fun u6p=>Cnd (y10.2=key) (Cnd (y10.5=(2:Int)) (Cnd (Rx=true) (Zo (Envt.mk (Sett.mk v.1.1 v.1.2 v.1.3) v.2 v.3 v.4 v.5 v.6) (Subj.mk s.1) y10.1 fun Vs=>u6p Vs) (u6p false)) (u6p false)) (u6p false)) fun qa20=>y10.6.length<=(9223372036854775807:Nat)->Lp1 (fun Vs u3k=>Cnd (Vs<(↑y10.6.length:Int)) (((0:Int)<=Vs/\Vs<(↑y10.6.length:Int))/\ ∀y15,y10.6[Vs.toNat]? =some y15->Cnd (y15.1<=Qk) (Cnd (Qk<y15.2) (qa20 (decide ((0:Int)<=Vs))) (InI (Vs+(1:Int))/\u3k (Vs+(1:Int)))) (InI (Vs+(1:Int))/\u3k (Vs+(1:Int)))) (qa20 (decide ((0:Int)<=(-1:Int))))) (0:Int)) (K (Asg.mk key j17 Qk x9_2 false) (0:Int))) (0:Int) (ByteArray.mk (Array.mk [])) (0:Int)) (K (Asg.mk key (ByteArray.mk (Array.mk [])) Qk (0:Int) false) (0:Int)))) fun Y7_0=>J3 (Envt.mk (Sett.mk v.1.1 v.1.2 v.1.3) v.2 v.3 v.4 v.5 v.6) (Subj.mk s.1) fun Uq=>Cnd (Uq=true) (Y7_0 true) (Cnd (Re=true) (Y7_0 (decide (Qk<y1.4))) (Y7_0 false)))) fun u7l=>Cnd (q7j=true) (Cnd (Qy.2=ByteArray.mk (Array.mk [])) (u7l true) (q1u (Envt.mk (Sett.mk v.1.1 v.1.2 v.1.3) v.2 v.3 v.4 v.5 v.6) Qy fun Up=>u7l Up)) (u7l false)) fun y71=>Cnd (Re=true) (Wz y1.3 Qm.2 fun Qy=>y71 Qy) (y71 (-1:Int)))) fun z22=>v.5.length<=(9223372036854775807:Nat)->Lp1 (fun Qh j7r=>Cnd (Qh<(↑v.5.length:Int)) (((0:Int)<=Qh/\Qh<(↑v.5.length:Int))/\ ∀y3,v.5[Qh.toNat]? =some y3->Cnd (y3.1=key) (z22 Qh) (InI (Qh+(1:Int))/\j7r (Qh+(1:Int)))) (z22 (-1:Int))) (0:Int)
def G4:Vp:=z02 Vn q0o Rk q4e Vf Rl q35
abbrev z18:Type:=List (List Int)->(List (Int)->Prop)->Prop
def z19:z18:=fun fields K=>Lp2 (fun Qb Q6 q4z=>fields.length<=(9223372036854775807:Nat)->Cnd (Q6<(↑fields.length:Int)) (((0:Int)<=Q6/\Q6<(↑fields.length:Int))/\ ∀y2,fields[Q6.toNat]? =some y2->y2.length<=(9223372036854775807:Nat)->Lp2 (fun Qy q7j Y5_2=>Cnd ((0:Int)<=q7j) ((0:Int)<=Go.IntKind.u64.wrap q7j/\Sml (Qy++[Go.IntKind.u8.wrap ((Go.IntKind.u64.wrap (↑y2.length:Int)).fdiv ((2:Int) ^ Min.min (Go.IntKind.u64.wrap q7j).toNat (64:Nat)))]).length/\InI (q7j - (8:Int))/\Y5_2 (Qy++[Go.IntKind.u8.wrap ((Go.IntKind.u64.wrap (↑y2.length:Int)).fdiv ((2:Int) ^ Min.min (Go.IntKind.u64.wrap q7j).toNat (64:Nat)))]) (q7j - (8:Int))) (((0:Int)<=Q6/\Q6<(↑fields.length:Int))/\ ∀y6,fields[Q6.toNat]? =some y6->Sml (Qy++y6).length/\InI (Q6+(1:Int))/\q4z (Qy++y6) (Q6+(1:Int)))) Qb (56:Int)) (K Qb)) [] (0:Int)
abbrev q9i:Type:=Int->Int->(Int->Prop)->Prop
def q9j:q9i:=fun x n K=>(0:Int)<=n/\(0:Int)<=Go.IntKind.u64.wrap ((64:Int) - n)/\K (Go.IntKind.u64.wrap (↑(BitVec.ofInt (64:Nat) (Go.IntKind.u64.wrap (x*(2:Int) ^ Min.min n.toNat (64:Nat)))|||BitVec.ofInt (64:Nat) (x.fdiv ((2:Int) ^ Min.min (Go.IntKind.u64.wrap ((64:Int) - n)).toNat (64:Nat)))).toNat:Int))
abbrev U9:Type:=Sip->Int->(Sip->Prop)->Prop
def q7a (U2:q9i):U9:=fun v n K=>Lp5 (fun Qb Q6 j7p q8c v3s Y0_5=>Cnd (Qb<n) (U2 j7p (13:Int) fun Qc=>U2 (Go.IntKind.u64.wrap (Q6+j7p)) (32:Int) fun Qh=>U2 v3s (16:Int) fun Qm=>U2 (Go.IntKind.u64.wrap (↑(BitVec.ofInt (64:Nat) Qm ^^^ BitVec.ofInt (64:Nat) (Go.IntKind.u64.wrap (q8c+v3s))).toNat:Int)) (21:Int) fun Qk=>U2 (Go.IntKind.u64.wrap (↑(BitVec.ofInt (64:Nat) Qc ^^^ BitVec.ofInt (64:Nat) (Go.IntKind.u64.wrap (Q6+j7p))).toNat:Int)) (17:Int) fun Qy=>U2 (Go.IntKind.u64.wrap (Go.IntKind.u64.wrap (q8c+v3s)+Go.IntKind.u64.wrap (↑(BitVec.ofInt (64:Nat) Qc ^^^ BitVec.ofInt (64:Nat) (Go.IntKind.u64.wrap (Q6+j7p))).toNat:Int))) (32:Int) fun Zp=>InI (Qb+(1:Int))/\Y0_5 (Qb+(1:Int)) (Go.IntKind.u64.wrap (Qh+Go.IntKind.u64.wrap (↑(BitVec.ofInt (64:Nat) Qm ^^^ BitVec.ofInt (64:Nat) (Go.IntKind.u64.wrap (q8c+v3s))).toNat:Int))) (Go.IntKind.u64.wrap (↑(BitVec.ofInt (64:Nat) Qy ^^^ BitVec.ofInt (64:Nat) (Go.IntKind.u64.wrap (Go.IntKind.u64.wrap (q8c+v3s)+Go.IntKind.u64.wrap (↑(BitVec.ofInt (64:Nat) Qc ^^^ BitVec.ofInt (64:Nat) (Go.IntKind.u64.wrap (Q6+j7p))).toNat:Int)))).toNat:Int)) Zp (Go.IntKind.u64.wrap (↑(BitVec.ofInt (64:Nat) Qk ^^^ BitVec.ofInt (64:Nat) (Go.IntKind.u64.wrap (Qh+Go.IntKind.u64.wrap (↑(BitVec.ofInt (64:Nat) Qm ^^^ BitVec.ofInt (64:Nat) (Go.IntKind.u64.wrap (q8c+v3s))).toNat:Int)))).toNat:Int))) (K (Sip.mk Q6 j7p q8c v3s))) (0:Int) v.1 v.2 v.3 v.4
def Jp:U9:=q7a q9j
abbrev z8c:Type:=Int->Int->List (Int)->(Int->Prop)->Prop
def v0m (W7:U9):z8c:=fun k0 k1 b K=>Lp5 (fun Qb Q6 j7p q8c v3s Y0_5=>b.length<=(9223372036854775807:Nat)->(8:Int)≠(0:Int)/\InI ((↑b.length:Int).tdiv (8:Int))/\Cnd (Qb<=(↑b.length:Int).tdiv (8:Int)) (Lp2 (fun Qh Zr q8d=>Cnd (Zr<(8:Int)) (InI ((8:Int)*Qb)/\InI ((8:Int)*Qb+Zr)/\(b.length<=(9223372036854775807:Nat)->Cnd ((8:Int)*Qb+Zr<(↑b.length:Int)) (InI ((8:Int)*Qb)/\InI ((8:Int)*Qb+Zr)/\((0:Int)<=(8:Int)*Qb+Zr/\(8:Int)*Qb+Zr<(↑b.length:Int))/\ ∀y4,b[((8:Int)*Qb+Zr).toNat]? =some y4->InI ((8:Int)*Zr)/\(0:Int)<=Go.IntKind.u64.wrap ((8:Int)*Zr)/\InI (Zr+(1:Int))/\q8d (Go.IntKind.u64.wrap (↑(BitVec.ofInt (64:Nat) Qh|||BitVec.ofInt (64:Nat) (Go.IntKind.u64.wrap (Go.IntKind.u64.wrap y4*(2:Int) ^ Min.min (Go.IntKind.u64.wrap ((8:Int)*Zr)).toNat (64:Nat)))).toNat:Int)) (Zr+(1:Int))) (Jn1 (fun Qk=>W7 (Sip.mk Q6 j7p q8c (Go.IntKind.u64.wrap (↑(BitVec.ofInt (64:Nat) v3s ^^^ BitVec.ofInt (64:Nat) Qk).toNat:Int))) (2:Int) fun Qy=>InI (Qb+(1:Int))/\Y0_5 (Qb+(1:Int)) (Go.IntKind.u64.wrap (↑(BitVec.ofInt (64:Nat) Qy.1 ^^^ BitVec.ofInt (64:Nat) Qk).toNat:Int)) Qy.2 Qy.3 Qy.4) fun y71=>b.length<=(9223372036854775807:Nat)->(8:Int)≠(0:Int)/\InI ((↑b.length:Int).tdiv (8:Int))/\Cnd (Qb=(↑b.length:Int).tdiv (8:Int)) (b.length<=(9223372036854775807:Nat)->(256:Int)≠(0:Int)/\(0:Int)<=(56:Int)/\y71 (Go.IntKind.u64.wrap (↑(BitVec.ofInt (64:Nat) Qh|||BitVec.ofInt (64:Nat) (Go.IntKind.u64.wrap (Go.IntKind.u64.wrap ((↑b.length:Int).tmod (256:Int))*(2:Int) ^ Min.min (Int.toNat (56:Int)) (64:Nat)))).toNat:Int))) (y71 Qh)))) (Jn1 (fun Qm=>W7 (Sip.mk Q6 j7p q8c (Go.IntKind.u64.wrap (↑(BitVec.ofInt (64:Nat) v3s ^^^ BitVec.ofInt (64:Nat) Qm).toNat:Int))) (2:Int) fun Qk=>InI (Qb+(1:Int))/\Y0_5 (Qb+(1:Int)) (Go.IntKind.u64.wrap (↑(BitVec.ofInt (64:Nat) Qk.1 ^^^ BitVec.ofInt (64:Nat) Qm).toNat:Int)) Qk.2 Qk.3 Qk.4) fun u3i=>b.length<=(9223372036854775807:Nat)->(8:Int)≠(0:Int)/\InI ((↑b.length:Int).tdiv (8:Int))/\Cnd (Qb=(↑b.length:Int).tdiv (8:Int)) (b.length<=(9223372036854775807:Nat)->(256:Int)≠(0:Int)/\(0:Int)<=(56:Int)/\u3i (Go.IntKind.u64.wrap (↑(BitVec.ofInt (64:Nat) Qh|||BitVec.ofInt (64:Nat) (Go.IntKind.u64.wrap (Go.IntKind.u64.wrap ((↑b.length:Int).tmod (256:Int))*(2:Int) ^ Min.min (Int.toNat (56:Int)) (64:Nat)))).toNat:Int))) (u3i Qh))) (0:Int) (0:Int)) (W7 (Sip.mk Q6 j7p (Go.IntKind.u64.wrap (↑(BitVec.ofInt (64:Nat) q8c ^^^ BitVec.ofInt (64:Nat) (255:Int)).toNat:Int)) v3s) (4:Int) fun Qh=>K (Go.IntKind.u64.wrap (↑(BitVec.ofInt (64:Nat) (Go.IntKind.u64.wrap (↑(BitVec.ofInt (64:Nat) (Go.IntKind.u64.wrap (↑(BitVec.ofInt (64:Nat) Qh.1 ^^^ BitVec.ofInt (64:Nat) Qh.2).toNat:Int)) ^^^ BitVec.ofInt (64:Nat) Qh.3).toNat:Int)) ^^^ BitVec.ofInt (64:Nat) Qh.4).toNat:Int)))) (0:Int) (Go.IntKind.u64.wrap (↑(BitVec.ofInt (64:Nat) k0 ^^^ BitVec.ofInt (64:Nat) (8317987319222330741:Int)).toNat:Int)) (Go.IntKind.u64.wrap (↑(BitVec.ofInt (64:Nat) k1 ^^^ BitVec.ofInt (64:Nat) (7237128888997146477:Int)).toNat:Int)) (Go.IntKind.u64.wrap (↑(BitVec.ofInt (64:Nat) k0 ^^^ BitVec.ofInt (64:Nat) (7816392313619706465:Int)).toNat:Int)) (Go.IntKind.u64.wrap (↑(BitVec.ofInt (64:Nat) k1 ^^^ BitVec.ofInt (64:Nat) (8387220255154660723:Int)).toNat:Int))
def j2s:z8c:=v0m Jp
abbrev z2a:Type:=Int->List (List Int)->(Int->Prop)->Prop
def w2s (q8m:z18) (z8m:z8c):z2a:=fun domain fields K=>q8m fields fun Qb=>z8m domain (0:Int) Qb fun Qc=>K Qc
def z57:z2a:=w2s z19 j2s
abbrev z8d:Type:=ByteArray->ByteArray->(Int->Prop)->Prop
def v0n (z2z:z2a):z8d:=fun salt key K=>Sml salt.size/\Sml key.size/\z2z (1:Int) [List.map (fun b=>(↑b.toNat:Int)) (salt,key,()).fst.data.toList,List.map (fun b=>(↑b.toNat:Int)) (salt,key,()).snd.fst.data.toList] fun Qb=>(10000:Int)≠(0:Int)/\InI (Qb.tmod (10000:Int))/\K (Qb.tmod (10000:Int))
def z3r:z8d:=v0n z57
abbrev Gw:Type:=Envt->Subj->List (Frc)->(List (Asg)->Prop)->Prop
def z58 (Jc:Vp):Gw:=fun v s forced K=>v.5.length<=(9223372036854775807:Nat)->Lp2 (fun Qc Z1 z88=>Cnd (Z1<(↑v.5.length:Int)) (((0:Int)<=Z1/\Z1<(↑v.5.length:Int))/\ ∀y2,v.5[Z1.toNat]? =some y2->Jc (Envt.mk (Sett.mk v.1.1 v.1.2 v.1.3) v.2 v.3 v.4 v.5 v.6) (Subj.mk s.1) forced y2.1 fun Qk _=>Sml (Qc++[Qk]).length/\InI (Z1+(1:Int))/\z88 (Qc++[Qk]) (Z1+(1:Int))) (K Qc)) [] (0:Int)
def q0q:Gw:=z58 G4
abbrev q1d:Type:=(Bool->Prop)->Prop
def z3s (G6:q14) (Jc:Vp) (z8n:z8d) (Wl:Gw):q1d:=fun K=>G6 fun Qb=>Jc (Envt.mk (Sett.mk Qb.1.1 Qb.1.2 Qb.1.3) Qb.2 Qb.3 Qb.4 Qb.5 Qb.6) (Subj.mk [Ctxt.mk (ByteArray.mk (Array.mk [117,115,101,114])) (ByteArray.mk (Array.mk [117])) []]) [] (ByteArray.mk (Array.mk [108])) fun Qc Z1=>G6 fun Qh=>Jc (Envt.mk (Sett.mk Qh.1.1 Qh.1.2 Qh.1.3) Qh.2 Qh.3 Qh.4 Qh.5 Qh.6) (Subj.mk []) [] (ByteArray.mk (Array.mk [108])) fun Qm Re=>Cnd (Z1=(0:Int)) (Cnd (Qc.2=ByteArray.mk (Array.mk [120])) (Cnd (Qc.4=(2:Int)) (z8n (ByteArray.mk (Array.mk [])) (ByteArray.mk (Array.mk [117])) fun Qk=>Cnd (Qc.3=Qk) (Cnd (Re=(0:Int)) (Cnd (Qm.1=ByteArray.mk (Array.mk [108])/\Qm.2=ByteArray.mk (Array.mk [])/\Qm.3=(-1:Int)/\Qm.4=(0:Int)/\Qm.5=false) (Wl (Envt.mk (Sett.mk (ByteArray.mk (Array.mk [])) (ByteArray.mk (Array.mk [])) (0:Int)) [] [] [] [] []) (Subj.mk []) [] fun Qy=>Qy.length<=(9223372036854775807:Nat)->K (decide ((↑Qy.length:Int)=(0:Int)))) (K false)) (K false)) (K false)) (K false)) (K false)) (K false)
def q4f:q1d:=z3s q6f G4 z3r q0q
abbrev w2t:Type:=List (Int)->Int->(List (Int)->Int->Prop)->Prop
def w2u:w2t:=fun list_ most K=>Jn1 (fun Qb=>K Qb (0:Int)) fun z22=>list_.length<=(9223372036854775807:Nat)->Cnd (most<(↑list_.length:Int)) (((0:Int)<=(0:Int)/\(0:Int)<=most/\most<=(↑list_.length:Int))/\z22 (List.drop (Int.toNat (0:Int)) (List.take most.toNat list_))) (z22 list_)
abbrev q5m:Type:=List (Int)->Int->ByteArray->(Ctxt->Int->Prop)->Prop
def j0s (q53:z3e) (Q1:J5) (Qa:Q7) (Z9:R1):q5m:=fun list at_ kind K=>q53 list at_ fun Qb Q6=>Q1 fun Qc=>Lp3 (fun Qh Zr v3t Y2_3=>Qc.length<=(9223372036854775807:Nat)->Cnd (Qh<(↑Qc.length:Int)) (((0:Int)<=Qh/\Qh<(↑Qc.length:Int))/\ ∀y4,Qc[Qh.toNat]? =some y4->Cnd (y4.1=kind) (Qa list v3t (4:Int) fun Zp z7t=>Cnd ((0:Int)<Zp) (((0:Int)<=Qh/\Qh<(↑Qc.length:Int))/\ ∀y7,Qc[Qh.toNat]? =some y7->((0:Int)<=Qh/\Qh<(↑Qc.length:Int))/\ ∀y9,Qc[Qh.toNat]? =some y9->Z9 list z7t y9.3 fun q0t w52=>Sml (Zr++[Attr.mk y7.2 q0t]).length/\InI (Qh+(1:Int))/\Y2_3 (Qh+(1:Int)) (Zr++[Attr.mk y7.2 q0t]) w52) (InI (Qh+(1:Int))/\Y2_3 (Qh+(1:Int)) Zr z7t)) (InI (Qh+(1:Int))/\Y2_3 (Qh+(1:Int)) Zr v3t)) (K (Ctxt.mk kind Qb Zr) v3t)) (0:Int) [] Q6
def q5n:q5m:=j0s j0d W4 Zx Ha
abbrev q5o:Type:=List (Int)->Int->(Subj->Int->Prop)->Prop
def j0t (Qa:Q7) (R0:q5m):q5o:=fun list at_ K=>Qa list at_ (6:Int) fun Qb Q6=>Jn2 (fun Qc Z1=>Cnd (Qb=(1:Int)) (K (Subj.mk Z1) Qc) (Cnd (Qb=(5:Int)) (K (Subj.mk Z1) Qc) (R0 list Qc (ByteArray.mk (Array.mk [117,115,101,114])) fun Qh Zr=>Sml (Z1++[Qh]).length/\K (Subj.mk (Z1++[Qh])) Zr))) fun w9o=>Cnd (Qb=(1:Int)) (R0 list Q6 (ByteArray.mk (Array.mk [100,101,118,105,99,101])) fun Qh Zr=>Sml ([]++[Qh]).length/\w9o Zr ([]++[Qh])) (Cnd (Qb=(2:Int)) (R0 list Q6 (ByteArray.mk (Array.mk [100,101,118,105,99,101])) fun Qh Zr=>Sml ([]++[Qh]).length/\w9o Zr ([]++[Qh])) (Cnd (Qb=(4:Int)) (R0 list Q6 (ByteArray.mk (Array.mk [100,101,118,105,99,101])) fun Qh Zr=>Sml ([]++[Qh]).length/\w9o Zr ([]++[Qh])) (w9o Q6 [])))
def q9k:q5o:=j0t Zx q5n
abbrev q8a:Type:=List (Int)->Int->Envt->(List (Frc)->Int->Prop)->Prop
def j5l (Qa:Q7):q8a:=fun list at_ v K=>Lp3 (fun Qb Q6 j7p Y0_3=>Qa list j7p (3:Int) fun Qc Z1=>Cnd (Q6<Qc) (Qa list Z1 (4:Int) fun Qh Zr=>InI ((1:Int)+Qh)/\Jn2 (fun Qm Re=>Jn4 (fun Qk Wn z44 u3q=>Sml (Qb++[Frc.mk Qk Wn z44]).length/\InI (Q6+(1:Int))/\Y0_3 (Qb++[Frc.mk Qk Wn z44]) (Q6+(1:Int)) u3q) fun y71=>Qa list Re (4:Int) fun Qy q7j=>v.6.length<=(9223372036854775807:Nat)->Cnd (Qy<(↑v.6.length:Int)) (((0:Int)<=Qy/\Qy<(↑v.6.length:Int))/\ ∀y7,v.6[Qy.toNat]? =some y7->Jn2 (fun Q5 j17=>((0:Int)<=Qy/\Qy<(↑v.6.length:Int))/\ ∀y10,v.6[Qy.toNat]? =some y10->Qa list j17 (4:Int) fun Rx qa0p=>Cnd ((0:Int)<Rx) (y10.7.length<=(9223372036854775807:Nat)->Cnd ((0:Int)<(↑y10.7.length:Int)) (y10.7.length<=(9223372036854775807:Nat)->Qa list qa0p (↑y10.7.length:Int) fun w8h qa4k=>((0:Int)<=w8h/\w8h<(↑y10.7.length:Int))/\ ∀y16,y10.7[w8h.toNat]? =some y16->y71 Q5 y7.1 y16.3 qa4k) (y71 Q5 y7.1 ((1:Int)+Qh) qa0p)) (y71 Q5 y7.1 ((1:Int)+Qh) qa0p)) fun Y9_0=>Qa list q7j (4:Int) fun B4 q2r=>Cnd ((0:Int)<B4) (((0:Int)<=Qy/\Qy<(↑v.6.length:Int))/\ ∀y11,v.6[Qy.toNat]? =some y11->Y9_0 y11.2 q2r) (Y9_0 Qm q2r)) (y71 Qm (ByteArray.mk (Array.mk [])) ((1:Int)+Qh) q7j)) fun u3i=>Qa list Zr (3:Int) fun Qk Wn=>Cnd (Qk=(1:Int)) (u3i (ByteArray.mk (Array.mk [108,98])) Wn) (u3i (ByteArray.mk (Array.mk [108,97])) Wn)) (K Qb Z1)) [] (0:Int) at_
def z2b:q8a:=j5l Zx
abbrev q1e:Type:=List (Int)->List (Int)->(Envt->Subj->List (Frc)->Prop)->Prop
def z3t (j18:w2t) (Ra:Hm) (q6c:q5o) (q8n:q8a):q1e:=fun codes who K=>j18 codes (400:Int) fun Qb Q6=>Ra Qb Q6 (10:Int) fun Qc _=>j18 who (80:Int) fun Qh Zr=>q6c Qh Zr fun Qm Re=>q8n Qh Re (Envt.mk (Sett.mk Qc.1.1 Qc.1.2 Qc.1.3) Qc.2 Qc.3 Qc.4 Qc.5 Qc.6) fun Qk _=>K (Envt.mk (Sett.mk Qc.1.1 Qc.1.2 Qc.1.3) Qc.2 Qc.3 Qc.4 Qc.5 Qc.6) (Subj.mk Qm.1) Qk
def q4g:q1e:=z3t w2u q0l q9k z2b
abbrev v40:Type:=Subj->ByteArray->(Ctxt->Bool->Prop)->Prop
def w2v:v40:=fun s kind K=>Lp4 (fun Qb Q6 j7p (q8c:List Attr) Y0_4=>s.1.length<=(9223372036854775807:Nat)->Cnd (Qb<(↑s.1.length:Int)) (((0:Int)<=Qb/\Qb<(↑s.1.length:Int))/\ ∀y2,s.1[Qb.toNat]? =some y2->Cnd (y2.1=kind) (((0:Int)<=Qb/\Qb<(↑s.1.length:Int))/\ ∀y4,s.1[Qb.toNat]? =some y4->K y4 true) (InI (Qb+(1:Int))/\Y0_4 (Qb+(1:Int)) Q6 j7p q8c)) (K (Ctxt.mk (ByteArray.mk (Array.mk [])) (ByteArray.mk (Array.mk [])) []) false)) (0:Int) (ByteArray.mk (Array.mk [])) (ByteArray.mk (Array.mk [])) []
abbrev Gx:Type:=Envt->ByteArray->(Int->Prop)->Prop
def Gy:Gx:=fun v key K=>Lp1 (fun Qb q54=>v.6.length<=(9223372036854775807:Nat)->Cnd (Qb<(↑v.6.length:Int)) (((0:Int)<=Qb/\Qb<(↑v.6.length:Int))/\ ∀y2,v.6[Qb.toNat]? =some y2->Cnd (y2.1=key) (K Qb) (InI (Qb+(1:Int))/\q54 (Qb+(1:Int)))) (K (-1:Int))) (0:Int)
abbrev j0u:Type:=Subj->ByteArray->ByteArray->(Val->Bool->Prop)->Prop
def w2w (u3o:v40):j0u:=fun s kind name K=>u3o (Subj.mk s.1) kind fun Qb Q6=>Cnd (Q6=true) (Cnd (name=ByteArray.mk (Array.mk [107,101,121])) (K (Val.mk (3:Int) (0:Int) Qb.2 []) true) (Lp5 (fun Qc Z1 z4m j7q (x1_4:List ByteArray) Y1_5=>Qb.3.length<=(9223372036854775807:Nat)->Cnd (Qc<(↑Qb.3.length:Int)) (((0:Int)<=Qc/\Qc<(↑Qb.3.length:Int))/\ ∀y3,Qb.3[Qc.toNat]? =some y3->Cnd (y3.1=name) (((0:Int)<=Qc/\Qc<(↑Qb.3.length:Int))/\ ∀y5,Qb.3[Qc.toNat]? =some y5->K (Val.mk y5.2.1 y5.2.2 y5.2.3 y5.2.4) true) (InI (Qc+(1:Int))/\Y1_5 (Qc+(1:Int)) Z1 z4m j7q x1_4)) (K (Val.mk (0:Int) (0:Int) (ByteArray.mk (Array.mk [])) []) false)) (0:Int) (0:Int) (0:Int) (ByteArray.mk (Array.mk [])) [])) (K (Val.mk (0:Int) (0:Int) (ByteArray.mk (Array.mk [])) []) false)
def j0v:j0u:=w2w w2v
abbrev z59:Type:=ByteArray->ByteArray->Int->(Bool->Prop)->Prop
def z0h:z59:=fun s t i K=>Cnd ((0:Int)<=i) (InI (i+(↑t.size:Int))/\Cnd (i+(↑t.size:Int)<=(↑s.size:Int)) (InI (i+(↑t.size:Int))/\((0:Int)<=i/\i<=i+(↑t.size:Int)/\i+(↑t.size:Int)<=(↑s.size:Int))/\K (decide (s.extract i.toNat (i+(↑t.size:Int)).toNat=t))) (K false)) (K false)
abbrev z03:Type:=Val->Val->(Bool->Prop)->Prop
def z9h (Wm:q06) (z0u:z59):z03:=fun v w K=>Cnd (w.1=(3:Int)) (Cnd (v.1=(5:Int)) (Wm v.4 w.3 fun Qb=>K Qb) (Lp1 (fun Qb q54=>Cnd (v.1=(3:Int)) (InI (Qb+(↑w.3.size:Int))/\Cnd (Qb+(↑w.3.size:Int)<=(↑v.3.size:Int)) (z0u v.3 w.3 Qb fun Qc=>Cnd (Qc=true) (K true) (InI (Qb+(1:Int))/\q54 (Qb+(1:Int)))) (K false)) (K false)) (0:Int))) (K false)
def z04:z03:=z9h q2d z0h
abbrev v41:Type:=Bool->Bool->(Int->Prop)->Prop
def z6a:v41:=fun less greater K=>Cnd (less=true) (K (-1:Int)) (Cnd (greater=true) (K (1:Int)) (K (0:Int)))
abbrev z6b:Type:=Val->Val->(Int->Int->Prop)->Prop
def j7v (Jh:Bi) (Qi:v41) (q1l:q49):z6b:=fun a b K=>Jh a fun Qb=>Cnd (Qb=(0:Int)) (Jh b fun Qc=>Cnd (Qc=(0:Int)) (Cnd (a.1=b.1) (Cnd (a.1=(1:Int)) (K (0:Int) (8:Int)) (Cnd (a.1=(5:Int)) (K (0:Int) (8:Int)) (Cnd (a.1=(2:Int)) (Qi (decide (a.2<b.2)) (decide (b.2<a.2)) fun Qh=>K Qh (0:Int)) (Cnd (a.1=(3:Int)) (Qi (decide (Lk.blt a.3 b.3)) (decide (Lk.blt b.3 a.3)) fun Qh=>K Qh (0:Int)) (q1l a.3 fun (Qh:Int×Int×Int) _=>q1l b.3 fun (Qm:Int×Int×Int) _=>Lp1 (fun Qk v72=>Cnd (Qk<(3:Int)) (((0:Int)<=Qk/\Qk<(↑(3:Nat):Int))/\((True/\(Qk=(↑(nat_lit 0):Int)->((0:Int)<=Qk/\Qk<(↑(3:Nat):Int))/\((True/\(Qk=(↑(nat_lit 0):Int)->Cnd (Qh.fst=Qm.fst) (InI (Qk+(1:Int))/\v72 (Qk+(1:Int))) (((0:Int)<=Qk/\Qk<(↑(3:Nat):Int))/\((True/\(Qk=(↑(nat_lit 0):Int)->((0:Int)<=Qk/\Qk<(↑(3:Nat):Int))/\((True/\(Qk=(↑(nat_lit 0):Int)->Qi (decide (Qh.fst<Qm.fst)) true fun Q5=>K Q5 (0:Int)))/\(Qk=(↑(nat_lit 1):Int)->Qi (decide (Qh.fst<Qm.snd.fst)) true fun Q5=>K Q5 (0:Int)))/\(Qk=(↑(nat_lit 2):Int)->Qi (decide (Qh.fst<Qm.snd.snd)) true fun Q5=>K Q5 (0:Int))))/\(Qk=(↑(nat_lit 1):Int)->((0:Int)<=Qk/\Qk<(↑(3:Nat):Int))/\((True/\(Qk=(↑(nat_lit 0):Int)->Qi (decide (Qh.snd.fst<Qm.fst)) true fun Q5=>K Q5 (0:Int)))/\(Qk=(↑(nat_lit 1):Int)->Qi (decide (Qh.snd.fst<Qm.snd.fst)) true fun Q5=>K Q5 (0:Int)))/\(Qk=(↑(nat_lit 2):Int)->Qi (decide (Qh.snd.fst<Qm.snd.snd)) true fun Q5=>K Q5 (0:Int))))/\(Qk=(↑(nat_lit 2):Int)->((0:Int)<=Qk/\Qk<(↑(3:Nat):Int))/\((True/\(Qk=(↑(nat_lit 0):Int)->Qi (decide (Qh.snd.snd<Qm.fst)) true fun Q5=>K Q5 (0:Int)))/\(Qk=(↑(nat_lit 1):Int)->Qi (decide (Qh.snd.snd<Qm.snd.fst)) true fun Q5=>K Q5 (0:Int)))/\(Qk=(↑(nat_lit 2):Int)->Qi (decide (Qh.snd.snd<Qm.snd.snd)) true fun Q5=>K Q5 (0:Int))))))/\(Qk=(↑(nat_lit 1):Int)->Cnd (Qh.fst=Qm.snd.fst) (InI (Qk+(1:Int))/\v72 (Qk+(1:Int))) (((0:Int)<=Qk/\Qk<(↑(3:Nat):Int))/\((True/\(Qk=(↑(nat_lit 0):Int)->((0:Int)<=Qk/\Qk<(↑(3:Nat):Int))/\((True/\(Qk=(↑(nat_lit 0):Int)->Qi (decide (Qh.fst<Qm.fst)) true fun Q5=>K Q5 (0:Int)))/\(Qk=(↑(nat_lit 1):Int)->Qi (decide (Qh.fst<Qm.snd.fst)) true fun Q5=>K Q5 (0:Int)))/\(Qk=(↑(nat_lit 2):Int)->Qi (decide (Qh.fst<Qm.snd.snd)) true fun Q5=>K Q5 (0:Int))))/\(Qk=(↑(nat_lit 1):Int)->((0:Int)<=Qk/\Qk<(↑(3:Nat):Int))/\((True/\(Qk=(↑(nat_lit 0):Int)->Qi (decide (Qh.snd.fst<Qm.fst)) true fun Q5=>K Q5 (0:Int)))/\(Qk=(↑(nat_lit 1):Int)->Qi (decide (Qh.snd.fst<Qm.snd.fst)) true fun Q5=>K Q5 (0:Int)))/\(Qk=(↑(nat_lit 2):Int)->Qi (decide (Qh.snd.fst<Qm.snd.snd)) true fun Q5=>K Q5 (0:Int))))/\(Qk=(↑(nat_lit 2):Int)->((0:Int)<=Qk/\Qk<(↑(3:Nat):Int))/\((True/\(Qk=(↑(nat_lit 0):Int)->Qi (decide (Qh.snd.snd<Qm.fst)) true fun Q5=>K Q5 (0:Int)))/\(Qk=(↑(nat_lit 1):Int)->Qi (decide (Qh.snd.snd<Qm.snd.fst)) true fun Q5=>K Q5 (0:Int)))/\(Qk=(↑(nat_lit 2):Int)->Qi (decide (Qh.snd.snd<Qm.snd.snd)) true fun Q5=>K Q5 (0:Int))))))/\(Qk=(↑(nat_lit 2):Int)->Cnd (Qh.fst=Qm.snd.snd) (InI (Qk+(1:Int))/\v72 (Qk+(1:Int))) (((0:Int)<=Qk/\Qk<(↑(3:Nat):Int))/\((True/\(Qk=(↑(nat_lit 0):Int)->((0:Int)<=Qk/\Qk<(↑(3:Nat):Int))/\((True/\(Qk=(↑(nat_lit 0):Int)->Qi (decide (Qh.fst<Qm.fst)) true fun Q5=>K Q5 (0:Int)))/\(Qk=(↑(nat_lit 1):Int)->Qi (decide (Qh.fst<Qm.snd.fst)) true fun Q5=>K Q5 (0:Int)))/\(Qk=(↑(nat_lit 2):Int)->Qi (decide (Qh.fst<Qm.snd.snd)) true fun Q5=>K Q5 (0:Int))))/\(Qk=(↑(nat_lit 1):Int)->((0:Int)<=Qk/\Qk<(↑(3:Nat):Int))/\((True/\(Qk=(↑(nat_lit 0):Int)->Qi (decide (Qh.snd.fst<Qm.fst)) true fun Q5=>K Q5 (0:Int)))/\(Qk=(↑(nat_lit 1):Int)->Qi (decide (Qh.snd.fst<Qm.snd.fst)) true fun Q5=>K Q5 (0:Int)))/\(Qk=(↑(nat_lit 2):Int)->Qi (decide (Qh.snd.fst<Qm.snd.snd)) true fun Q5=>K Q5 (0:Int))))/\(Qk=(↑(nat_lit 2):Int)->((0:Int)<=Qk/\Qk<(↑(3:Nat):Int))/\((True/\(Qk=(↑(nat_lit 0):Int)->Qi (decide (Qh.snd.snd<Qm.fst)) true fun Q5=>K Q5 (0:Int)))/\(Qk=(↑(nat_lit 1):Int)->Qi (decide (Qh.snd.snd<Qm.snd.fst)) true fun Q5=>K Q5 (0:Int)))/\(Qk=(↑(nat_lit 2):Int)->Qi (decide (Qh.snd.snd<Qm.snd.snd)) true fun Q5=>K Q5 (0:Int)))))))/\(Qk=(↑(nat_lit 1):Int)->((0:Int)<=Qk/\Qk<(↑(3:Nat):Int))/\((True/\(Qk=(↑(nat_lit 0):Int)->Cnd (Qh.snd.fst=Qm.fst) (InI (Qk+(1:Int))/\v72 (Qk+(1:Int))) (((0:Int)<=Qk/\Qk<(↑(3:Nat):Int))/\((True/\(Qk=(↑(nat_lit 0):Int)->((0:Int)<=Qk/\Qk<(↑(3:Nat):Int))/\((True/\(Qk=(↑(nat_lit 0):Int)->Qi (decide (Qh.fst<Qm.fst)) true fun Q5=>K Q5 (0:Int)))/\(Qk=(↑(nat_lit 1):Int)->Qi (decide (Qh.fst<Qm.snd.fst)) true fun Q5=>K Q5 (0:Int)))/\(Qk=(↑(nat_lit 2):Int)->Qi (decide (Qh.fst<Qm.snd.snd)) true fun Q5=>K Q5 (0:Int))))/\(Qk=(↑(nat_lit 1):Int)->((0:Int)<=Qk/\Qk<(↑(3:Nat):Int))/\((True/\(Qk=(↑(nat_lit 0):Int)->Qi (decide (Qh.snd.fst<Qm.fst)) true fun Q5=>K Q5 (0:Int)))/\(Qk=(↑(nat_lit 1):Int)->Qi (decide (Qh.snd.fst<Qm.snd.fst)) true fun Q5=>K Q5 (0:Int)))/\(Qk=(↑(nat_lit 2):Int)->Qi (decide (Qh.snd.fst<Qm.snd.snd)) true fun Q5=>K Q5 (0:Int))))/\(Qk=(↑(nat_lit 2):Int)->((0:Int)<=Qk/\Qk<(↑(3:Nat):Int))/\((True/\(Qk=(↑(nat_lit 0):Int)->Qi (decide (Qh.snd.snd<Qm.fst)) true fun Q5=>K Q5 (0:Int)))/\(Qk=(↑(nat_lit 1):Int)->Qi (decide (Qh.snd.snd<Qm.snd.fst)) true fun Q5=>K Q5 (0:Int)))/\(Qk=(↑(nat_lit 2):Int)->Qi (decide (Qh.snd.snd<Qm.snd.snd)) true fun Q5=>K Q5 (0:Int))))))/\(Qk=(↑(nat_lit 1):Int)->Cnd (Qh.snd.fst=Qm.snd.fst) (InI (Qk+(1:Int))/\v72 (Qk+(1:Int))) (((0:Int)<=Qk/\Qk<(↑(3:Nat):Int))/\((True/\(Qk=(↑(nat_lit 0):Int)->((0:Int)<=Qk/\Qk<(↑(3:Nat):Int))/\((True/\(Qk=(↑(nat_lit 0):Int)->Qi (decide (Qh.fst<Qm.fst)) true fun Q5=>K Q5 (0:Int)))/\(Qk=(↑(nat_lit 1):Int)->Qi (decide (Qh.fst<Qm.snd.fst)) true fun Q5=>K Q5 (0:Int)))/\(Qk=(↑(nat_lit 2):Int)->Qi (decide (Qh.fst<Qm.snd.snd)) true fun Q5=>K Q5 (0:Int))))/\(Qk=(↑(nat_lit 1):Int)->((0:Int)<=Qk/\Qk<(↑(3:Nat):Int))/\((True/\(Qk=(↑(nat_lit 0):Int)->Qi (decide (Qh.snd.fst<Qm.fst)) true fun Q5=>K Q5 (0:Int)))/\(Qk=(↑(nat_lit 1):Int)->Qi (decide (Qh.snd.fst<Qm.snd.fst)) true fun Q5=>K Q5 (0:Int)))/\(Qk=(↑(nat_lit 2):Int)->Qi (decide (Qh.snd.fst<Qm.snd.snd)) true fun Q5=>K Q5 (0:Int))))/\(Qk=(↑(nat_lit 2):Int)->((0:Int)<=Qk/\Qk<(↑(3:Nat):Int))/\((True/\(Qk=(↑(nat_lit 0):Int)->Qi (decide (Qh.snd.snd<Qm.fst)) true fun Q5=>K Q5 (0:Int)))/\(Qk=(↑(nat_lit 1):Int)->Qi (decide (Qh.snd.snd<Qm.snd.fst)) true fun Q5=>K Q5 (0:Int)))/\(Qk=(↑(nat_lit 2):Int)->Qi (decide (Qh.snd.snd<Qm.snd.snd)) true fun Q5=>K Q5 (0:Int))))))/\(Qk=(↑(nat_lit 2):Int)->Cnd (Qh.snd.fst=Qm.snd.snd) (InI (Qk+(1:Int))/\v72 (Qk+(1:Int))) (((0:Int)<=Qk/\Qk<(↑(3:Nat):Int))/\((True/\(Qk=(↑(nat_lit 0):Int)->((0:Int)<=Qk/\Qk<(↑(3:Nat):Int))/\((True/\(Qk=(↑(nat_lit 0):Int)->Qi (decide (Qh.fst<Qm.fst)) true fun Q5=>K Q5 (0:Int)))/\(Qk=(↑(nat_lit 1):Int)->Qi (decide (Qh.fst<Qm.snd.fst)) true fun Q5=>K Q5 (0:Int)))/\(Qk=(↑(nat_lit 2):Int)->Qi (decide (Qh.fst<Qm.snd.snd)) true fun Q5=>K Q5 (0:Int))))/\(Qk=(↑(nat_lit 1):Int)->((0:Int)<=Qk/\Qk<(↑(3:Nat):Int))/\((True/\(Qk=(↑(nat_lit 0):Int)->Qi (decide (Qh.snd.fst<Qm.fst)) true fun Q5=>K Q5 (0:Int)))/\(Qk=(↑(nat_lit 1):Int)->Qi (decide (Qh.snd.fst<Qm.snd.fst)) true fun Q5=>K Q5 (0:Int)))/\(Qk=(↑(nat_lit 2):Int)->Qi (decide (Qh.snd.fst<Qm.snd.snd)) true fun Q5=>K Q5 (0:Int))))/\(Qk=(↑(nat_lit 2):Int)->((0:Int)<=Qk/\Qk<(↑(3:Nat):Int))/\((True/\(Qk=(↑(nat_lit 0):Int)->Qi (decide (Qh.snd.snd<Qm.fst)) true fun Q5=>K Q5 (0:Int)))/\(Qk=(↑(nat_lit 1):Int)->Qi (decide (Qh.snd.snd<Qm.snd.fst)) true fun Q5=>K Q5 (0:Int)))/\(Qk=(↑(nat_lit 2):Int)->Qi (decide (Qh.snd.snd<Qm.snd.snd)) true fun Q5=>K Q5 (0:Int)))))))/\(Qk=(↑(nat_lit 2):Int)->((0:Int)<=Qk/\Qk<(↑(3:Nat):Int))/\((True/\(Qk=(↑(nat_lit 0):Int)->Cnd (Qh.snd.snd=Qm.fst) (InI (Qk+(1:Int))/\v72 (Qk+(1:Int))) (((0:Int)<=Qk/\Qk<(↑(3:Nat):Int))/\((True/\(Qk=(↑(nat_lit 0):Int)->((0:Int)<=Qk/\Qk<(↑(3:Nat):Int))/\((True/\(Qk=(↑(nat_lit 0):Int)->Qi (decide (Qh.fst<Qm.fst)) true fun Q5=>K Q5 (0:Int)))/\(Qk=(↑(nat_lit 1):Int)->Qi (decide (Qh.fst<Qm.snd.fst)) true fun Q5=>K Q5 (0:Int)))/\(Qk=(↑(nat_lit 2):Int)->Qi (decide (Qh.fst<Qm.snd.snd)) true fun Q5=>K Q5 (0:Int))))/\(Qk=(↑(nat_lit 1):Int)->((0:Int)<=Qk/\Qk<(↑(3:Nat):Int))/\((True/\(Qk=(↑(nat_lit 0):Int)->Qi (decide (Qh.snd.fst<Qm.fst)) true fun Q5=>K Q5 (0:Int)))/\(Qk=(↑(nat_lit 1):Int)->Qi (decide (Qh.snd.fst<Qm.snd.fst)) true fun Q5=>K Q5 (0:Int)))/\(Qk=(↑(nat_lit 2):Int)->Qi (decide (Qh.snd.fst<Qm.snd.snd)) true fun Q5=>K Q5 (0:Int))))/\(Qk=(↑(nat_lit 2):Int)->((0:Int)<=Qk/\Qk<(↑(3:Nat):Int))/\((True/\(Qk=(↑(nat_lit 0):Int)->Qi (decide (Qh.snd.snd<Qm.fst)) true fun Q5=>K Q5 (0:Int)))/\(Qk=(↑(nat_lit 1):Int)->Qi (decide (Qh.snd.snd<Qm.snd.fst)) true fun Q5=>K Q5 (0:Int)))/\(Qk=(↑(nat_lit 2):Int)->Qi (decide (Qh.snd.snd<Qm.snd.snd)) true fun Q5=>K Q5 (0:Int))))))/\(Qk=(↑(nat_lit 1):Int)->Cnd (Qh.snd.snd=Qm.snd.fst) (InI (Qk+(1:Int))/\v72 (Qk+(1:Int))) (((0:Int)<=Qk/\Qk<(↑(3:Nat):Int))/\((True/\(Qk=(↑(nat_lit 0):Int)->((0:Int)<=Qk/\Qk<(↑(3:Nat):Int))/\((True/\(Qk=(↑(nat_lit 0):Int)->Qi (decide (Qh.fst<Qm.fst)) true fun Q5=>K Q5 (0:Int)))/\(Qk=(↑(nat_lit 1):Int)->Qi (decide (Qh.fst<Qm.snd.fst)) true fun Q5=>K Q5 (0:Int)))/\(Qk=(↑(nat_lit 2):Int)->Qi (decide (Qh.fst<Qm.snd.snd)) true fun Q5=>K Q5 (0:Int))))/\(Qk=(↑(nat_lit 1):Int)->((0:Int)<=Qk/\Qk<(↑(3:Nat):Int))/\((True/\(Qk=(↑(nat_lit 0):Int)->Qi (decide (Qh.snd.fst<Qm.fst)) true fun Q5=>K Q5 (0:Int)))/\(Qk=(↑(nat_lit 1):Int)->Qi (decide (Qh.snd.fst<Qm.snd.fst)) true fun Q5=>K Q5 (0:Int)))/\(Qk=(↑(nat_lit 2):Int)->Qi (decide (Qh.snd.fst<Qm.snd.snd)) true fun Q5=>K Q5 (0:Int))))/\(Qk=(↑(nat_lit 2):Int)->((0:Int)<=Qk/\Qk<(↑(3:Nat):Int))/\((True/\(Qk=(↑(nat_lit 0):Int)->Qi (decide (Qh.snd.snd<Qm.fst)) true fun Q5=>K Q5 (0:Int)))/\(Qk=(↑(nat_lit 1):Int)->Qi (decide (Qh.snd.snd<Qm.snd.fst)) true fun Q5=>K Q5 (0:Int)))/\(Qk=(↑(nat_lit 2):Int)->Qi (decide (Qh.snd.snd<Qm.snd.snd)) true fun Q5=>K Q5 (0:Int))))))/\(Qk=(↑(nat_lit 2):Int)->Cnd (Qh.snd.snd=Qm.snd.snd) (InI (Qk+(1:Int))/\v72 (Qk+(1:Int))) (((0:Int)<=Qk/\Qk<(↑(3:Nat):Int))/\((True/\(Qk=(↑(nat_lit 0):Int)->((0:Int)<=Qk/\Qk<(↑(3:Nat):Int))/\((True/\(Qk=(↑(nat_lit 0):Int)->Qi (decide (Qh.fst<Qm.fst)) true fun Q5=>K Q5 (0:Int)))/\(Qk=(↑(nat_lit 1):Int)->Qi (decide (Qh.fst<Qm.snd.fst)) true fun Q5=>K Q5 (0:Int)))/\(Qk=(↑(nat_lit 2):Int)->Qi (decide (Qh.fst<Qm.snd.snd)) true fun Q5=>K Q5 (0:Int))))/\(Qk=(↑(nat_lit 1):Int)->((0:Int)<=Qk/\Qk<(↑(3:Nat):Int))/\((True/\(Qk=(↑(nat_lit 0):Int)->Qi (decide (Qh.snd.fst<Qm.fst)) true fun Q5=>K Q5 (0:Int)))/\(Qk=(↑(nat_lit 1):Int)->Qi (decide (Qh.snd.fst<Qm.snd.fst)) true fun Q5=>K Q5 (0:Int)))/\(Qk=(↑(nat_lit 2):Int)->Qi (decide (Qh.snd.fst<Qm.snd.snd)) true fun Q5=>K Q5 (0:Int))))/\(Qk=(↑(nat_lit 2):Int)->((0:Int)<=Qk/\Qk<(↑(3:Nat):Int))/\((True/\(Qk=(↑(nat_lit 0):Int)->Qi (decide (Qh.snd.snd<Qm.fst)) true fun Q5=>K Q5 (0:Int)))/\(Qk=(↑(nat_lit 1):Int)->Qi (decide (Qh.snd.snd<Qm.snd.fst)) true fun Q5=>K Q5 (0:Int)))/\(Qk=(↑(nat_lit 2):Int)->Qi (decide (Qh.snd.snd<Qm.snd.snd)) true fun Q5=>K Q5 (0:Int))))))) (K (0:Int) (0:Int))) (0:Int)))))) (K (0:Int) (8:Int))) (K (0:Int) Qc)) (K (0:Int) Qb)
def z0i:z6b:=j7v Bj z6a q2w
abbrev j5m:Type:=Subj->Ex->(Bool->Prop)->Prop
def w82 (y2v:j0u) (Q2:Wd) (Bl:q40) (z0u:z59) (z94:z03) (j8g:z6b):j5m:=fun s e K=>y2v (Subj.mk s.1) e.2 e.3 fun Qb Q6=>Cnd (Q6=true) (Q2 e.1 fun Qc=>Cnd (Qc=true) (Cnd (e.1=(6:Int)) (K true) (Cnd (e.1=(8:Int)) (Lp1 (fun Qh j7r=>e.4.length<=(9223372036854775807:Nat)->Cnd (Qh<(↑e.4.length:Int)) (((0:Int)<=Qh/\Qh<(↑e.4.length:Int))/\ ∀y4,e.4[Qh.toNat]? =some y4->Bl Qb y4 fun Zp=>Cnd (Zp=true) (K true) (InI (Qh+(1:Int))/\j7r (Qh+(1:Int)))) (K false)) (0:Int)) (e.4.length<=(9223372036854775807:Nat)->Cnd ((↑e.4.length:Int)=(0:Int)) (K false) (((0:Int)<=(0:Int)/\(0:Int)<(↑e.4.length:Int))/\ ∀y3,e.4[Int.toNat (0:Int)]? =some y3->Cnd (Qb.1=(3:Int)) (Cnd (e.1=(7:Int)) (Bl Qb y3 fun Qy=>K Qy) (Cnd (e.1=(9:Int)) (Cnd (y3.1=(3:Int)) (z0u Qb.3 y3.3 (0:Int) fun Qy=>K Qy) (K false)) (Cnd (e.1=(10:Int)) (Cnd (y3.1=(3:Int)) (InI ((↑Qb.3.size:Int) - (↑y3.3.size:Int))/\z0u Qb.3 y3.3 ((↑Qb.3.size:Int) - (↑y3.3.size:Int)) fun Qy=>K Qy) (K false)) (Cnd (e.1=(11:Int)) (z94 Qb y3 fun Qy=>K Qy) (j8g Qb y3 fun Qy q7j=>Cnd (q7j=(0:Int)) (Cnd (e.1=(12:Int)) (K (decide (Qy<(0:Int)))) (Cnd (e.1=(13:Int)) (K (decide (Qy<=(0:Int)))) (Cnd (e.1=(14:Int)) (K (decide ((0:Int)<Qy))) (K (decide ((0:Int)<=Qy)))))) (K false)))))) (Cnd (e.1=(7:Int)) (Bl Qb y3 fun Qy=>K Qy) (Cnd (e.1=(9:Int)) (K false) (Cnd (e.1=(10:Int)) (K false) (Cnd (e.1=(11:Int)) (z94 Qb y3 fun Qy=>K Qy) (j8g Qb y3 fun Qy q7j=>Cnd (q7j=(0:Int)) (Cnd (e.1=(12:Int)) (K (decide (Qy<(0:Int)))) (Cnd (e.1=(13:Int)) (K (decide (Qy<=(0:Int)))) (Cnd (e.1=(14:Int)) (K (decide ((0:Int)<Qy))) (K (decide ((0:Int)<=Qy)))))) (K false)))))))))) (K false)) (K false)
def j5n:j5m:=w82 j0v We q41 z0h z04 z0i
abbrev z8e:Type:=Subj->List (ByteArray)->Ex->(Bool->Prop)->Prop
def w83 (Wm:q06) (y72:j5m) (X:z8e):z8e:=fun s in_ e K=>Cnd (e.1=(1:Int)) (K true) (Cnd (e.1=(2:Int)) (Lp1 (fun Qb q54=>e.5.length<=(9223372036854775807:Nat)->Cnd (Qb<(↑e.5.length:Int)) (((0:Int)<=Qb/\Qb<(↑e.5.length:Int))/\ ∀y2,e.5[Qb.toNat]? =some y2->X (Subj.mk s.1) in_ (Ex.mk y2.1 y2.2 y2.3 y2.4 y2.5) fun Qk=>Cnd (Qk=true) (InI (Qb+(1:Int))/\q54 (Qb+(1:Int))) (K false)) (K true)) (0:Int)) (Cnd (e.1=(3:Int)) (Lp1 (fun Qb q54=>e.5.length<=(9223372036854775807:Nat)->Cnd (Qb<(↑e.5.length:Int)) (((0:Int)<=Qb/\Qb<(↑e.5.length:Int))/\ ∀y2,e.5[Qb.toNat]? =some y2->X (Subj.mk s.1) in_ (Ex.mk y2.1 y2.2 y2.3 y2.4 y2.5) fun Qk=>Cnd (Qk=true) (K true) (InI (Qb+(1:Int))/\q54 (Qb+(1:Int)))) (K false)) (0:Int)) (Cnd (e.1=(4:Int)) (e.5.length<=(9223372036854775807:Nat)->Cnd ((0:Int)<(↑e.5.length:Int)) (((0:Int)<=(0:Int)/\(0:Int)<(↑e.5.length:Int))/\ ∀y1,e.5[Int.toNat (0:Int)]? =some y1->X (Subj.mk s.1) in_ (Ex.mk y1.1 y1.2 y1.3 y1.4 y1.5) fun Qm=>K (match decide ((Qm,()).fst=true) with|true=>false|false=>true)) (K false)) (Cnd (e.1=(5:Int)) (Wm in_ e.3 fun Qb=>K Qb) (y72 (Subj.mk s.1) (Ex.mk e.1 e.2 e.3 e.4 e.5) fun Qb=>K Qb)))))
def y5m:z8e:=fun s in_ e K=> ∀X:z8e,(∀s in_ e K,w83 q2d j5n X s in_ e K->X s in_ e K)->X s in_ e K
abbrev q4h:Type:=List (Int)->List (Int)->Bool->(Bool->Prop)->Prop
def q4i (q1v:q1d) (q1w:q1e) (Wl:Gw) (V2:Gx) (J3:V9) (Zo:Jx):q4h:=fun codes who force K=>q1v fun Qb=>Cnd (Qb=true) (q1w codes who fun Qc Z1 z4m=>Jn1 (fun Qh=>Wl (Envt.mk (Sett.mk Qc.1.1 Qc.1.2 Qc.1.3) Qc.2 Qc.3 Qc.4 Qc.5 Qc.6) (Subj.mk Z1.1) Qh fun Qm=>Qm.length<=(9223372036854775807:Nat)->Qc.5.length<=(9223372036854775807:Nat)->Cnd ((↑Qm.length:Int)=(↑Qc.5.length:Int)) (Lp1 (fun Zp u3j=>Qm.length<=(9223372036854775807:Nat)->Cnd (Zp<(↑Qm.length:Int)) (((0:Int)<=Zp/\Zp<(↑Qm.length:Int))/\ ∀y8,Qm[Zp.toNat]? =some y8->((0:Int)<=Zp/\Zp<(↑Qc.5.length:Int))/\ ∀y10,Qc.5[Zp.toNat]? =some y10->Cnd (y8.1=y10.1) (((0:Int)<=Zp/\Zp<(↑Qm.length:Int))/\ ∀y12,Qm[Zp.toNat]? =some y12->Cnd (y12.2=ByteArray.mk (Array.mk [])) (((0:Int)<=Zp/\Zp<(↑Qm.length:Int))/\ ∀y14,Qm[Zp.toNat]? =some y14->Cnd (y14.4=(0:Int)) (InI (Zp+(1:Int))/\u3j (Zp+(1:Int))) (K false)) (((0:Int)<=Zp/\Zp<(↑Qm.length:Int))/\ ∀y14,Qm[Zp.toNat]? =some y14->V2 (Envt.mk (Sett.mk Qc.1.1 Qc.1.2 Qc.1.3) Qc.2 Qc.3 Qc.4 Qc.5 Qc.6) y14.2 fun Bc=>Cnd (Bc<(0:Int)) (K false) (((0:Int)<=Zp/\Zp<(↑Qm.length:Int))/\ ∀y17,Qm[Zp.toNat]? =some y17->Cnd (y17.5=true) (K false) (((0:Int)<=Bc/\Bc<(↑Qc.6.length:Int))/\ ∀y19,Qc.6[Bc.toNat]? =some y19->Lp2 (fun u6m w53 qa21=>y19.7.length<=(9223372036854775807:Nat)->Cnd (w53<(↑y19.7.length:Int)) (Cnd (u6m=true) (InI (w53+(1:Int))/\qa21 true (w53+(1:Int))) (((0:Int)<=w53/\w53<(↑y19.7.length:Int))/\ ∀y23,y19.7[w53.toNat]? =some y23->((0:Int)<=Zp/\Zp<(↑Qm.length:Int))/\ ∀y25,Qm[Zp.toNat]? =some y25->InI (w53+(1:Int))/\qa21 (decide (y23.3=y25.4)) (w53+(1:Int)))) (Cnd (y19.5=(2:Int)) (((0:Int)<=Zp/\Zp<(↑Qm.length:Int))/\ ∀y23,Qm[Zp.toNat]? =some y23->Cnd (y19.2=y23.1) (Cnd (u6m=true) (Cnd (force=true) (InI (Zp+(1:Int))/\u3j (Zp+(1:Int))) (J3 (Envt.mk (Sett.mk Qc.1.1 Qc.1.2 Qc.1.3) Qc.2 Qc.3 Qc.4 Qc.5 Qc.6) (Subj.mk Z1.1) fun z0c=>Cnd (z0c=true) (K false) (((0:Int)<=Zp/\Zp<(↑Qm.length:Int))/\ ∀y26,Qm[Zp.toNat]? =some y26->((0:Int)<=Zp/\Zp<(↑Qc.5.length:Int))/\ ∀y28,Qc.5[Zp.toNat]? =some y28->Cnd (y26.3<y28.4) (K false) (Zo (Envt.mk (Sett.mk Qc.1.1 Qc.1.2 Qc.1.3) Qc.2 Qc.3 Qc.4 Qc.5 Qc.6) (Subj.mk Z1.1) y19.1 fun (u3n:Bool)=>Cnd (u3n=true) (InI (Zp+(1:Int))/\u3j (Zp+(1:Int))) (K false))))) (K false)) (K false)) (K false))) false (0:Int))))) (K false)) (K true)) (0:Int)) (K false)) fun v3q=>Cnd (force=true) (v3q z4m) (v3q [])) (K false)
def Ww:q4h:=q4i q4f q4g q0q Gy Rl Vf
end Go.En
end
noncomputable section
set_option maxRecDepth 100000
namespace Go.Proofs
open Go.Shelf
def Tryz.laysC172_ren:Go.Shelf.Ren:=⟨fun|172=>270|244=>287|245=>288|247=>296|279=>297|280=>298|281=>299|282=>300|287=>303|316=>304|171=>306|205=>305|321=>307|322=>308|243=>309|246=>310|283=>311|284=>312|285=>313|286=>314|129=>203|317=>315|318=>316|319=>317|320=>318|337=>319|338=>320|n=>n,fun|9=>9|3=>3|75=>326|76=>327|4=>4|5=>5|167=>354|37=>22|0=>0|85=>355|2=>2|168=>357|53=>112|175=>360|46=>221|210=>364|127=>368|145=>371|143=>369|21=>21|171=>373|173=>375|212=>378|51=>282|20=>20|213=>379|232=>380|233=>381|80=>124|n=>n,fun|15=>6|16=>7|17=>8|18=>9|19=>10|n=>n⟩
theorem Tryz.laysC172:Go.Proofs.LaysC.n172 Tryz.prog Tryz.laysC172_ren:={
 mixed:=by kernel_rfl
 f129:=Tryz.func203.trans (congrArg some (by kernel_rfl))
 f171:=Tryz.func306.trans (congrArg some (by kernel_rfl))
 f172:=Tryz.func270.trans (congrArg some (by kernel_rfl))
 f205:=Tryz.func305.trans (congrArg some (by kernel_rfl))
 f243:=Tryz.func309.trans (congrArg some (by kernel_rfl))
 f244:=Tryz.func287.trans (congrArg some (by kernel_rfl))
 f245:=Tryz.func288.trans (congrArg some (by kernel_rfl))
 f246:=Tryz.func310.trans (congrArg some (by kernel_rfl))
 f247:=Tryz.func296.trans (congrArg some (by kernel_rfl))
 f279:=Tryz.func297.trans (congrArg some (by kernel_rfl))
 f280:=Tryz.func298.trans (congrArg some (by kernel_rfl))
 f281:=Tryz.func299.trans (congrArg some (by kernel_rfl))
 f282:=Tryz.func300.trans (congrArg some (by kernel_rfl))
 f283:=Tryz.func311.trans (congrArg some (by kernel_rfl))
 f284:=Tryz.func312.trans (congrArg some (by kernel_rfl))
 f285:=Tryz.func313.trans (congrArg some (by kernel_rfl))
 f286:=Tryz.func314.trans (congrArg some (by kernel_rfl))
 f287:=Tryz.func303.trans (congrArg some (by kernel_rfl))
 f316:=Tryz.func304.trans (congrArg some (by kernel_rfl))
 f317:=Tryz.func315.trans (congrArg some (by kernel_rfl))
 f318:=Tryz.func316.trans (congrArg some (by kernel_rfl))
 f319:=Tryz.func317.trans (congrArg some (by kernel_rfl))
 f320:=Tryz.func318.trans (congrArg some (by kernel_rfl))
 f321:=Tryz.func307.trans (congrArg some (by kernel_rfl))
 f322:=Tryz.func308.trans (congrArg some (by kernel_rfl))
 f337:=Tryz.func319.trans (congrArg some (by kernel_rfl))
 f338:=Tryz.func320.trans (congrArg some (by kernel_rfl))
 t0:=Tryz.underlying0
 a0:=Tryz.isAgg0
 z0:=Tryz.sizeOf0
 v0:=Tryz.zeroValue0
 t2:=Tryz.underlying2
 a2:=Tryz.isAgg2
 z2:=Tryz.sizeOf2
 v2:=Tryz.zeroValue2
 t3:=Tryz.underlying3
 a3:=Tryz.isAgg3
 z3:=Tryz.sizeOf3
 v3:=Tryz.zeroValue3
 t4:=Tryz.underlying4
 a4:=Tryz.isAgg4
 z4:=Tryz.sizeOf4
 v4:=Tryz.zeroValue4
 t5:=Tryz.underlying5
 a5:=Tryz.isAgg5
 z5:=Tryz.sizeOf5
 v5:=Tryz.zeroValue5
 t9:=Tryz.underlying9
 a9:=Tryz.isAgg9
 z9:=Tryz.sizeOf9
 v9:=Tryz.zeroValue9
 t20:=Tryz.underlying20
 a20:=Tryz.isAgg20
 z20:=Tryz.sizeOf20
 v20:=Tryz.zeroValue20
 t21:=Tryz.underlying21
 a21:=Tryz.isAgg21
 z21:=Tryz.sizeOf21
 v21:=Tryz.zeroValue21
 t37:=Tryz.underlying22
 a37:=Tryz.isAgg22
 z37:=Tryz.sizeOf22
 v37:=Tryz.zeroValue22
 t46:=Tryz.underlying221
 a46:=Tryz.isAgg221
 z46:=Tryz.sizeOf221
 v46:=Tryz.zeroValue221
 t51:=Tryz.underlying282
 a51:=Tryz.isAgg282
 z51:=Tryz.sizeOf282
 v51:=Tryz.zeroValue282
 t53:=Tryz.underlying112
 a53:=Tryz.isAgg112
 z53:=Tryz.sizeOf112
 v53:=Tryz.zeroValue112
 t75:=Tryz.underlying326
 a75:=Tryz.isAgg326
 z75:=Tryz.sizeOf326
 v75:=Tryz.zeroValue326
 t76:=Tryz.underlying327
 a76:=Tryz.isAgg327
 z76:=Tryz.sizeOf327
 v76:=Tryz.zeroValue327
 t85:=Tryz.underlying355
 a85:=Tryz.isAgg355
 z85:=Tryz.sizeOf355
 v85:=Tryz.zeroValue355
 t127:=Tryz.underlying368
 a127:=Tryz.isAgg368
 z127:=Tryz.sizeOf368
 v127:=Tryz.zeroValue368
 t143:=Tryz.underlying369
 a143:=Tryz.isAgg369
 z143:=Tryz.sizeOf369
 v143:=Tryz.zeroValue369
 t145:=Tryz.underlying371
 a145:=Tryz.isAgg371
 z145:=Tryz.sizeOf371
 v145:=Tryz.zeroValue371
 t167:=Tryz.underlying354
 a167:=Tryz.isAgg354
 z167:=Tryz.sizeOf354
 v167:=Tryz.zeroValue354
 t168:=Tryz.underlying357
 a168:=Tryz.isAgg357
 z168:=Tryz.sizeOf357
 v168:=Tryz.zeroValue357
 t171:=Tryz.underlying373
 a171:=Tryz.isAgg373
 z171:=Tryz.sizeOf373
 v171:=Tryz.zeroValue373
 t173:=Tryz.underlying375
 a173:=Tryz.isAgg375
 z173:=Tryz.sizeOf375
 v173:=Tryz.zeroValue375
 t175:=Tryz.underlying360
 a175:=Tryz.isAgg360
 z175:=Tryz.sizeOf360
 v175:=Tryz.zeroValue360
 t210:=Tryz.underlying364
 a210:=Tryz.isAgg364
 z210:=Tryz.sizeOf364
 v210:=Tryz.zeroValue364
 t212:=Tryz.underlying378
 a212:=Tryz.isAgg378
 z212:=Tryz.sizeOf378
 v212:=Tryz.zeroValue378
 t213:=Tryz.underlying379
 a213:=Tryz.isAgg379
 z213:=Tryz.sizeOf379
 t232:=Tryz.underlying380
 a232:=Tryz.isAgg380
 z232:=Tryz.sizeOf380
 v232:=Tryz.zeroValue380
 t233:=Tryz.underlying381
 a233:=Tryz.isAgg381
 z233:=Tryz.sizeOf381
 v233:=Tryz.zeroValue381
 g15:=by kernel_rfl
 g16:=by kernel_rfl
 g17:=by kernel_rfl
 g18:=by kernel_rfl
 g19:=by kernel_rfl
 t80:=Tryz.underlying124
 a80:=Tryz.isAgg124
 z80:=Tryz.sizeOf124
 v80:=Tryz.zeroValue124
 i0:=by kernel_rfl
 i2:=by kernel_rfl
 i3:=by kernel_rfl
 i4:=by kernel_rfl
 i5:=by kernel_rfl
 i9:=by kernel_rfl
 i20:=by kernel_rfl
 i21:=by kernel_rfl
 i37:=by kernel_rfl
 i46:=by kernel_rfl
 i51:=by kernel_rfl
 i53:=by kernel_rfl
 i75:=by kernel_rfl
 i76:=by kernel_rfl
 i80:=by kernel_rfl
 i85:=by kernel_rfl
 i127:=by kernel_rfl
 i143:=by kernel_rfl
 i145:=by kernel_rfl
 i167:=by kernel_rfl
 i168:=by kernel_rfl
 i171:=by kernel_rfl
 i173:=by kernel_rfl
 i175:=by kernel_rfl
 i210:=by kernel_rfl
 i212:=by kernel_rfl
 i232:=by kernel_rfl
 i233:=by kernel_rfl
 m15:=by kernel_rfl
 m16:=by kernel_rfl
 m17:=by kernel_rfl
 m18:=by kernel_rfl
 m19:=by kernel_rfl
 c0:=by kernel_rfl
 c2:=by kernel_rfl
 c3:=by kernel_rfl
 c4:=by kernel_rfl
 c5:=by kernel_rfl
 c9:=by kernel_rfl
 c20:=by kernel_rfl
 c21:=by kernel_rfl
 c37:=by kernel_rfl
 c46:=by kernel_rfl
 c51:=by kernel_rfl
 c53:=by kernel_rfl
 c75:=by kernel_rfl
 c76:=by kernel_rfl
 c80:=by kernel_rfl
 c85:=by kernel_rfl
 c127:=by kernel_rfl
 c143:=by kernel_rfl
 c145:=by kernel_rfl
 c167:=by kernel_rfl
 c168:=by kernel_rfl
 c171:=by kernel_rfl
 c173:=by kernel_rfl
 c175:=by kernel_rfl
 c210:=by kernel_rfl
 c212:=by kernel_rfl
 c213:=by kernel_rfl
 c232:=by kernel_rfl
 c233:=by kernel_rfl}
open Go.RowKit in
theorem Tryz.strconv_Atoi_ok (s:ByteArray) (hmax:s.size<=9223372036854775806) (v:Int) (h:Lib.atoiAll s.data.toList= .ok v) (w:World):
  Calls Tryz.prog 270 #[.string s] w fun e w'=>e= .returned (.tuple #[.int .i64 v,.nilIface])/\(w'=w∨ ∃t,w'=Lib.bytesWorld w 5 t):=Any.strconv_Atoi_ok Tryz.laysC172 s hmax v h w
open Go.RowKit in
theorem Tryz.strconv_Atoi_syntax (s:ByteArray) (hlim:s.size<=281474976710656) (h:Lib.atoiAll s.data.toList=Go.Lib.NumEnd.syntax) (ev:Value) (w:World) (hv:w.cell? ⟨6,0,none⟩=some ev) (hev:ev= .nilIface∨ ∃te pe,ev= .iface te pe):
  Calls Tryz.prog 270 #[.string s] w fun e w'=> ∃N,e= .returned (.tuple #[.int .i64 (0),.iface 357 (.pointer (some ⟨N,0,none⟩))])/\w.heap.size<=N/\w'.heap[N]? =some (.cells #[.string ⟨#[65,116,111,105]⟩,.string s,ev] 364 (0,0))/\Below w.heap.size w w':=Any.strconv_Atoi_syntax Tryz.laysC172 s hlim h ev w hv hev
open Go.RowKit in
theorem Tryz.strconv_Atoi_range (s:ByteArray) (hlim:s.size<=281474976710656) (h:Lib.atoiAll s.data.toList= .range) (ev:Value) (w:World) (hv:w.cell? ⟨7,0,none⟩=some ev) (hev:ev= .nilIface∨ ∃te pe,ev= .iface te pe):
  Calls Tryz.prog 270 #[.string s] w fun e w'=> ∃N,e= .returned (.tuple #[.int .i64 (Lib.atoiSat s.data.toList),.iface 357 (.pointer (some ⟨N,0,none⟩))])/\w.heap.size<=N/\w'.heap[N]? =some (.cells #[.string ⟨#[65,116,111,105]⟩,.string s,ev] 364 (0,0))/\Below w.heap.size w w':=Any.strconv_Atoi_range Tryz.laysC172 s hlim h ev w hv hev
def Tryz.lays144_ren:Go.Shelf.Ren:=⟨fun|144=>136|143=>177|219=>226|217=>264|225=>265|224=>266|267=>267|266=>282|314=>283|n=>n,fun|9=>9|4=>4|3=>3|5=>5|46=>221|146=>345|51=>282|n=>n,fun|1=>3|n=>n⟩
theorem Tryz.lays144:Go.Proofs.Lays.n144 Tryz.prog Tryz.lays144_ren:={
 mixed:=by kernel_rfl
 f143:=Tryz.func177.trans (congrArg some (by kernel_rfl))
 f144:=Tryz.func136.trans (congrArg some (by kernel_rfl))
 f217:=Tryz.func264.trans (congrArg some (by kernel_rfl))
 f219:=Tryz.func226.trans (congrArg some (by kernel_rfl))
 f224:=Tryz.func266.trans (congrArg some (by kernel_rfl))
 f225:=Tryz.func265.trans (congrArg some (by kernel_rfl))
 f266:=Tryz.func282.trans (congrArg some (by kernel_rfl))
 f267:=Tryz.func267.trans (congrArg some (by kernel_rfl))
 f314:=Tryz.func283.trans (congrArg some (by kernel_rfl))
 t3:=Tryz.underlying3
 a3:=Tryz.isAgg3
 z3:=Tryz.sizeOf3
 v3:=Tryz.zeroValue3
 t4:=Tryz.underlying4
 a4:=Tryz.isAgg4
 z4:=Tryz.sizeOf4
 v4:=Tryz.zeroValue4
 t5:=Tryz.underlying5
 a5:=Tryz.isAgg5
 z5:=Tryz.sizeOf5
 v5:=Tryz.zeroValue5
 t9:=Tryz.underlying9
 a9:=Tryz.isAgg9
 z9:=Tryz.sizeOf9
 v9:=Tryz.zeroValue9
 t46:=Tryz.underlying221
 a46:=Tryz.isAgg221
 z46:=Tryz.sizeOf221
 v46:=Tryz.zeroValue221
 t51:=Tryz.underlying282
 a51:=Tryz.isAgg282
 z51:=Tryz.sizeOf282
 v51:=Tryz.zeroValue282
 t146:=Tryz.underlying345
 a146:=Tryz.isAgg345
 z146:=Tryz.sizeOf345
 v146:=Tryz.zeroValue345
 g1:=by kernel_rfl}
open Go.RowKit Go.Lib in
theorem Tryz.strings_Contains (s sub:ByteArray) (m:Int) (w:World) (hs:s.size<4294967281) (hm:w.cell? ⟨3,0,none⟩=some (.int .i64 m)):
  Calls Tryz.prog 136 #[.string s,.string sub] w fun e w'=>e= .returned (.bool (Lib.contains s.data.toList sub.data.toList))/\w'=w:=Any.strings_Contains Tryz.lays144 s sub m w hs hm
def Tryz.lays190_ren:Go.Shelf.Ren:=⟨fun|190=>80|125=>141|258=>140|128=>202|129=>203|302=>193|303=>194|304=>195|305=>196|306=>197|307=>198|308=>199|309=>200|310=>201|333=>238|329=>239|330=>240|334=>241|335=>242|336=>230|344=>275|n=>n,fun|31=>44|9=>9|3=>3|46=>221|0=>0|51=>282|53=>112|4=>4|183=>275|182=>274|131=>279|5=>5|218=>302|222=>306|228=>331|229=>332|n=>n,fun|n=>n⟩
theorem Tryz.lays190:Go.Proofs.Lays.n190 Tryz.prog Tryz.lays190_ren:={
 mixed:=by kernel_rfl
 f125:=Tryz.func141.trans (congrArg some (by kernel_rfl))
 f128:=Tryz.func202.trans (congrArg some (by kernel_rfl))
 f129:=Tryz.func203.trans (congrArg some (by kernel_rfl))
 f190:=Tryz.func80.trans (congrArg some (by kernel_rfl))
 f258:=Tryz.func140.trans (congrArg some (by kernel_rfl))
 f302:=Tryz.func193.trans (congrArg some (by kernel_rfl))
 f303:=Tryz.func194.trans (congrArg some (by kernel_rfl))
 f304:=Tryz.func195.trans (congrArg some (by kernel_rfl))
 f305:=Tryz.func196.trans (congrArg some (by kernel_rfl))
 f306:=Tryz.func197.trans (congrArg some (by kernel_rfl))
 f307:=Tryz.func198.trans (congrArg some (by kernel_rfl))
 f308:=Tryz.func199.trans (congrArg some (by kernel_rfl))
 f309:=Tryz.func200.trans (congrArg some (by kernel_rfl))
 f310:=Tryz.func201.trans (congrArg some (by kernel_rfl))
 f329:=Tryz.func239.trans (congrArg some (by kernel_rfl))
 f330:=Tryz.func240.trans (congrArg some (by kernel_rfl))
 f333:=Tryz.func238.trans (congrArg some (by kernel_rfl))
 f334:=Tryz.func241.trans (congrArg some (by kernel_rfl))
 f335:=Tryz.func242.trans (congrArg some (by kernel_rfl))
 f336:=Tryz.func230.trans (congrArg some (by kernel_rfl))
 f344:=Tryz.func275.trans (congrArg some (by kernel_rfl))
 t0:=Tryz.underlying0
 a0:=Tryz.isAgg0
 z0:=Tryz.sizeOf0
 v0:=Tryz.zeroValue0
 t3:=Tryz.underlying3
 a3:=Tryz.isAgg3
 z3:=Tryz.sizeOf3
 v3:=Tryz.zeroValue3
 t4:=Tryz.underlying4
 a4:=Tryz.isAgg4
 z4:=Tryz.sizeOf4
 v4:=Tryz.zeroValue4
 t5:=Tryz.underlying5
 a5:=Tryz.isAgg5
 z5:=Tryz.sizeOf5
 v5:=Tryz.zeroValue5
 t9:=Tryz.underlying9
 a9:=Tryz.isAgg9
 z9:=Tryz.sizeOf9
 v9:=Tryz.zeroValue9
 t31:=Tryz.underlying44
 a31:=Tryz.isAgg44
 z31:=Tryz.sizeOf44
 v31:=Tryz.zeroValue44
 t46:=Tryz.underlying221
 a46:=Tryz.isAgg221
 z46:=Tryz.sizeOf221
 v46:=Tryz.zeroValue221
 t51:=Tryz.underlying282
 a51:=Tryz.isAgg282
 z51:=Tryz.sizeOf282
 v51:=Tryz.zeroValue282
 t53:=Tryz.underlying112
 a53:=Tryz.isAgg112
 z53:=Tryz.sizeOf112
 v53:=Tryz.zeroValue112
 t131:=Tryz.underlying279
 a131:=Tryz.isAgg279
 z131:=Tryz.sizeOf279
 v131:=Tryz.zeroValue279
 t182:=Tryz.underlying274
 a182:=Tryz.isAgg274
 z182:=Tryz.sizeOf274
 v182:=Tryz.zeroValue274
 t183:=Tryz.underlying275
 a183:=Tryz.isAgg275
 z183:=Tryz.sizeOf275
 v183:=Tryz.zeroValue275
 t218:=Tryz.underlying302
 a218:=Tryz.isAgg302
 z218:=Tryz.sizeOf302
 v218:=Tryz.zeroValue302
 t222:=Tryz.underlying306
 a222:=Tryz.isAgg306
 z222:=Tryz.sizeOf306
 v222:=Tryz.zeroValue306
 t228:=Tryz.underlying331
 a228:=Tryz.isAgg331
 z228:=Tryz.sizeOf331
 v228:=Tryz.zeroValue331
 t229:=Tryz.underlying332
 a229:=Tryz.isAgg332
 z229:=Tryz.sizeOf332
 v229:=Tryz.zeroValue332}
open Go.Sort Go.RowKit in
theorem Tryz.slices_Sort_string (blk off cap:Nat) (ss:List (List UInt8)) (w:World) (hH:Holds encStr w blk off ss.toArray) (hblk:blk<w.heap.size) (hsz:ss.length<4611686018427387904):
  Calls Tryz.prog 80 #[.slice (some ⟨blk,off,none⟩) ss.length cap] w fun e w'=>
   e= .returned (.tuple #[])/\ ∃n os,w'=grow (putRow encStr (Sort.ahead w n) blk off (ss.mergeSort fun x y=>decide (x<=y)).toArray) os:=Any.slices_Sort_string Tryz.lays190 blk off cap ss w hH hblk hsz
def Tryz.lays146_ren:Go.Shelf.Ren:=⟨fun|146=>231|221=>268|268=>284|138=>285|143=>177|195=>293|197=>294|218=>295|219=>226|260=>302|217=>264|225=>265|224=>266|267=>267|266=>282|314=>283|n=>n,fun|9=>9|31=>44|3=>3|4=>4|0=>0|105=>352|21=>21|5=>5|46=>221|119=>335|139=>338|138=>337|146=>345|51=>282|n=>n,fun|1=>3|3=>4|4=>5|n=>n⟩
theorem Tryz.lays146:Go.Proofs.Lays.n146 Tryz.prog Tryz.lays146_ren:={
 mixed:=by kernel_rfl
 f138:=Tryz.func285.trans (congrArg some (by kernel_rfl))
 f143:=Tryz.func177.trans (congrArg some (by kernel_rfl))
 f146:=Tryz.func231.trans (congrArg some (by kernel_rfl))
 f195:=Tryz.func293.trans (congrArg some (by kernel_rfl))
 f197:=Tryz.func294.trans (congrArg some (by kernel_rfl))
 f217:=Tryz.func264.trans (congrArg some (by kernel_rfl))
 f218:=Tryz.func295.trans (congrArg some (by kernel_rfl))
 f219:=Tryz.func226.trans (congrArg some (by kernel_rfl))
 f221:=Tryz.func268.trans (congrArg some (by kernel_rfl))
 f224:=Tryz.func266.trans (congrArg some (by kernel_rfl))
 f225:=Tryz.func265.trans (congrArg some (by kernel_rfl))
 f260:=Tryz.func302.trans (congrArg some (by kernel_rfl))
 f266:=Tryz.func282.trans (congrArg some (by kernel_rfl))
 f267:=Tryz.func267.trans (congrArg some (by kernel_rfl))
 f268:=Tryz.func284.trans (congrArg some (by kernel_rfl))
 f314:=Tryz.func283.trans (congrArg some (by kernel_rfl))
 t0:=Tryz.underlying0
 a0:=Tryz.isAgg0
 z0:=Tryz.sizeOf0
 v0:=Tryz.zeroValue0
 t3:=Tryz.underlying3
 a3:=Tryz.isAgg3
 z3:=Tryz.sizeOf3
 v3:=Tryz.zeroValue3
 t4:=Tryz.underlying4
 a4:=Tryz.isAgg4
 z4:=Tryz.sizeOf4
 v4:=Tryz.zeroValue4
 t5:=Tryz.underlying5
 a5:=Tryz.isAgg5
 z5:=Tryz.sizeOf5
 v5:=Tryz.zeroValue5
 t9:=Tryz.underlying9
 a9:=Tryz.isAgg9
 z9:=Tryz.sizeOf9
 v9:=Tryz.zeroValue9
 t21:=Tryz.underlying21
 a21:=Tryz.isAgg21
 z21:=Tryz.sizeOf21
 v21:=Tryz.zeroValue21
 t31:=Tryz.underlying44
 a31:=Tryz.isAgg44
 z31:=Tryz.sizeOf44
 v31:=Tryz.zeroValue44
 t46:=Tryz.underlying221
 a46:=Tryz.isAgg221
 z46:=Tryz.sizeOf221
 v46:=Tryz.zeroValue221
 t51:=Tryz.underlying282
 a51:=Tryz.isAgg282
 z51:=Tryz.sizeOf282
 v51:=Tryz.zeroValue282
 t105:=Tryz.underlying352
 a105:=Tryz.isAgg352
 z105:=Tryz.sizeOf352
 v105:=Tryz.zeroValue352
 t119:=Tryz.underlying335
 a119:=Tryz.isAgg335
 z119:=Tryz.sizeOf335
 t138:=Tryz.underlying337
 a138:=Tryz.isAgg337
 z138:=Tryz.sizeOf337
 v138:=Tryz.zeroValue337
 t139:=Tryz.underlying338
 a139:=Tryz.isAgg338
 z139:=Tryz.sizeOf338
 v139:=Tryz.zeroValue338
 t146:=Tryz.underlying345
 a146:=Tryz.isAgg345
 z146:=Tryz.sizeOf345
 v146:=Tryz.zeroValue345
 g1:=by kernel_rfl
 g3:=by kernel_rfl
 g4:=by kernel_rfl}
open Go.RowKit Go.Lib in
theorem Tryz.strings_Split (s sep:ByteArray) (m:Int) (w:World) (hs:s.size<4294967281) (hm:w.cell? ⟨3,0,none⟩=some (.int .i64 m)) (h1:1<=sep.size):
  Calls Tryz.prog 231 #[.string s,.string sep] w fun e w'=>
   e= .returned (.slice (some ⟨w.heap.size,0,none⟩) (Lib.countB s sep+1) (Lib.countB s sep+1))/\w'=w.alloc (.cells ((Lib.splitB sep 0 (Lib.countB s sep) s).map Value.string).toArray 9):=Any.strings_Split Tryz.lays146 (by kernel_rfl) s sep m w hs hm h1
def Tryz.lays194_ren:Go.Shelf.Ren:=⟨fun|194=>184|n=>n,fun|31=>44|9=>9|3=>3|4=>4|0=>0|n=>n,fun|n=>n⟩
theorem Tryz.lays194:Go.Proofs.Lays.n194 Tryz.prog Tryz.lays194_ren:={
 mixed:=by kernel_rfl
 f194:=Tryz.func184.trans (congrArg some (by kernel_rfl))
 t0:=Tryz.underlying0
 a0:=Tryz.isAgg0
 z0:=Tryz.sizeOf0
 v0:=Tryz.zeroValue0
 t3:=Tryz.underlying3
 a3:=Tryz.isAgg3
 z3:=Tryz.sizeOf3
 v3:=Tryz.zeroValue3
 t4:=Tryz.underlying4
 a4:=Tryz.isAgg4
 z4:=Tryz.sizeOf4
 v4:=Tryz.zeroValue4
 t9:=Tryz.underlying9
 a9:=Tryz.isAgg9
 z9:=Tryz.sizeOf9
 v9:=Tryz.zeroValue9
 t31:=Tryz.underlying44
 a31:=Tryz.isAgg44
 z31:=Tryz.sizeOf44
 v31:=Tryz.zeroValue44}
open Go.RowKit Go.Lib Go.Sort in
theorem Tryz.slices_Compact_string (blk off cap:Nat) (zs:List (List UInt8)) (w:World) (hH:Holds encStr w blk off zs.toArray) (hsz:zs.length<=9223372036854775807) (hcap:zs.length<=cap):
  Calls Tryz.prog 184 #[.slice (some ⟨blk,off,none⟩) zs.length cap] w fun e w'=>e= .returned (.slice (some ⟨blk,off,none⟩) (Lib.compact zs).length cap)/\ ∃q,w'=putRow encStr (Sort.ahead w q) blk off (Lib.compact zs++List.replicate (zs.length - (Lib.compact zs).length) []).toArray:=Any.slices_Compact_string Tryz.lays194 blk off cap zs w hH hsz hcap
open Go.RowKit Go.Lib Go.Sort in
theorem Tryz.slices_Compact_string_empty (a:Option Addr) (cap:Nat) (w:World):
  Calls Tryz.prog 184 #[.slice a 0 cap] w fun e w'=>e= .returned (.slice a 0 cap)/\w'=w:=Any.slices_Compact_string_empty Tryz.lays194 a cap w
def Tryz.laysNm224_ren:Go.Shelf.Ren:=⟨fun|24=>192|n=>n,fun|24=>44|9=>9|3=>3|4=>4|0=>0|n=>n,fun|n=>n⟩
theorem Tryz.laysNm224:Go.Proofs.Lays2.n24 Tryz.prog Tryz.laysNm224_ren:={
 mixed:=by kernel_rfl
 f24:=Tryz.func192.trans (congrArg some (by kernel_rfl))
 t0:=Tryz.underlying0
 a0:=Tryz.isAgg0
 z0:=Tryz.sizeOf0
 v0:=Tryz.zeroValue0
 t3:=Tryz.underlying3
 a3:=Tryz.isAgg3
 z3:=Tryz.sizeOf3
 v3:=Tryz.zeroValue3
 t4:=Tryz.underlying4
 a4:=Tryz.isAgg4
 z4:=Tryz.sizeOf4
 v4:=Tryz.zeroValue4
 t9:=Tryz.underlying9
 a9:=Tryz.isAgg9
 z9:=Tryz.sizeOf9
 v9:=Tryz.zeroValue9
 t24:=Tryz.underlying44
 a24:=Tryz.isAgg44
 z24:=Tryz.sizeOf44
 v24:=Tryz.zeroValue44
 i9:=by kernel_rfl}
open Go.RowKit Go.Lib Go.Sort in
theorem Tryz.slices_Delete_string (blk off cap i j:Nat) (zs:List (List UInt8)) (w:World) (hH:Holds encStr w blk off zs.toArray) (hcap:zs.length<=cap) (hm:cap<=9223372036854775807) (hij:i<=j) (hj:j<=zs.length):
  Calls Tryz.prog 192 #[.slice (some ⟨blk,off,none⟩) zs.length cap,.int .i64 i,.int .i64 j] w fun e w'=>e= .returned (.slice (some ⟨blk,off,none⟩) (zs.length - (j - i)) cap)/\ ∃q,w'=putRow encStr (Sort.ahead w q) blk off (zs.take i++zs.drop j++List.replicate (j - i) []).toArray:=Any.slices_Delete_string Tryz.laysNm224 blk off cap i j zs w hH hcap hm hij hj
open Go.RowKit Go.Sort in
theorem Tryz.slices_Sort_string_none (p:Option Addr) (cap:Nat) (w:World):
  Calls Tryz.prog 80 #[.slice p 0 cap] w fun e w'=>e= .returned (.tuple #[])/\w'=w:=Any.slices_Sort_string_none Tryz.lays190 p cap w
def Tryz.lays196_ren:Go.Shelf.Ren:=⟨fun|196=>246|259=>276|n=>n,fun|9=>9|4=>4|3=>3|5=>5|12=>12|119=>335|0=>0|46=>221|139=>338|138=>337|53=>112|n=>n,fun|3=>4|4=>5|n=>n⟩
theorem Tryz.lays196:Go.Proofs.Lays.n196 Tryz.prog Tryz.lays196_ren:={
 mixed:=by kernel_rfl
 f196:=Tryz.func246.trans (congrArg some (by kernel_rfl))
 f259:=Tryz.func276.trans (congrArg some (by kernel_rfl))
 t0:=Tryz.underlying0
 a0:=Tryz.isAgg0
 z0:=Tryz.sizeOf0
 v0:=Tryz.zeroValue0
 t3:=Tryz.underlying3
 a3:=Tryz.isAgg3
 z3:=Tryz.sizeOf3
 v3:=Tryz.zeroValue3
 t4:=Tryz.underlying4
 a4:=Tryz.isAgg4
 z4:=Tryz.sizeOf4
 v4:=Tryz.zeroValue4
 t5:=Tryz.underlying5
 a5:=Tryz.isAgg5
 z5:=Tryz.sizeOf5
 v5:=Tryz.zeroValue5
 t9:=Tryz.underlying9
 a9:=Tryz.isAgg9
 z9:=Tryz.sizeOf9
 v9:=Tryz.zeroValue9
 t12:=Tryz.underlying12
 a12:=Tryz.isAgg12
 z12:=Tryz.sizeOf12
 v12:=Tryz.zeroValue12
 t46:=Tryz.underlying221
 a46:=Tryz.isAgg221
 z46:=Tryz.sizeOf221
 v46:=Tryz.zeroValue221
 t53:=Tryz.underlying112
 a53:=Tryz.isAgg112
 z53:=Tryz.sizeOf112
 v53:=Tryz.zeroValue112
 t119:=Tryz.underlying335
 a119:=Tryz.isAgg335
 z119:=Tryz.sizeOf335
 t138:=Tryz.underlying337
 a138:=Tryz.isAgg337
 z138:=Tryz.sizeOf337
 v138:=Tryz.zeroValue337
 t139:=Tryz.underlying338
 a139:=Tryz.isAgg338
 z139:=Tryz.sizeOf338
 v139:=Tryz.zeroValue338
 g3:=by kernel_rfl
 g4:=by kernel_rfl}
def Tryz.sorted185_ren:Go.Shelf.Ren:=⟨fun|6=>185|8=>236|9=>80|11=>274|13=>141|12=>140|23=>202|24=>203|14=>193|15=>194|16=>195|17=>196|18=>197|19=>198|20=>199|21=>200|22=>201|25=>238|26=>239|27=>240|28=>241|29=>242|30=>230|31=>275|n=>n,fun|26=>9|28=>265|24=>44|0=>0|3=>3|37=>221|48=>282|50=>112|4=>4|40=>275|39=>274|45=>279|5=>5|9=>9|51=>302|55=>306|57=>331|58=>332|33=>271|n=>n,fun|n=>n⟩
theorem Tryz.sorted185:Go.Proofs.SlLaysZ.n6 Tryz.prog Tryz.sorted185_ren:={
 mixed:=by kernel_rfl
 f6:=⟨Tryz.f185.name,by decide,Tryz.func185.trans (congrArg some (by kernel_rfl))⟩
 f8:=⟨Tryz.f236.name,by decide,Tryz.func236.trans (congrArg some (by kernel_rfl))⟩
 f11:=⟨Tryz.f274.name,by decide,Tryz.func274.trans (congrArg some (by kernel_rfl))⟩
 t0:=Tryz.underlying0
 a0:=Tryz.isAgg0
 z0:=Tryz.sizeOf0
 v0:=Tryz.zeroValue0
 t24:=Tryz.underlying44
 a24:=Tryz.isAgg44
 z24:=Tryz.sizeOf44
 v24:=Tryz.zeroValue44
 t26:=Tryz.underlying9
 a26:=Tryz.isAgg9
 z26:=Tryz.sizeOf9
 v26:=Tryz.zeroValue9
 t28:=Tryz.underlying265
 a28:=Tryz.isAgg265
 z28:=Tryz.sizeOf265
 v28:=Tryz.zeroValue265
 i26:=by kernel_rfl}
end Go.Proofs
end
noncomputable section
set_option maxRecDepth 100000
namespace Go.Fl
open Go Go.Proofs Go.RowKit Go.Maps Go.Sort Go.Shelf
variable {P:Program} {ρ:Ren}
def u0t (F:Fence) (n:Nat) (P:Program) (g:Nat) (lb:Array Value) (ss:List (List UInt8)) (w:World):Prop:=
 ∀(l:Nat) (J:List (List UInt8)->World->Prop) (W:World),Below w.heap.size w W->AbidesFrom W.heap.size J->(∀pre W1,J pre W1->Below w.heap.size w W1)->
  (∀pre x W1,J pre W1->pre.length<ss.length->YieldAt F (n - 1) P l #[encStr x] W1 fun e W'=>e= .returned (.bool true)/\J (pre++[x]) W'/\KeepsWalks W1 W')->
  J [] W->CallsIn F n P g (#[.func (.yield l) #[] #[]]++lb) W fun e W'=>(∃v,e= .returned v)/\J ss W'
theorem w84 {W:World} {base j:Nat} {e:TypeId} {v:Value} {k:Nat} {xs:List Value} {o:Obj} (h:W.ownsRow base e 1 v k xs) (hj:W.heap[j]? =some o) (hno: ∀cur,o≠ .cells cur e (0,0)) (o':Obj):(W.putObj j o').ownsRow base e 1 v k xs:=
 h.kept (grownBy_putObj_a W j o') (ownsRow_ne_a h hj hno)
set_option maxHeartbeats 2000000 in
theorem w2x (L:SlLaysZ.n11 P ρ) (F:Fence) (n:Nat) (hf:F.fn (ρ.f 11)) (hro:F.round=none) (hn:2<=n) (g:Nat) (lb:Array Value) (hg:F.fn g) (eg: ∀args w,(callFunc g args).run P w= .ok (.enter g args) w)
  (ss:List (List UInt8)) (hN:ss.length<=maxLen) (hNb:ss.length*16<=140737488355328) (w:World) (hseq:u0t F (n - 1) P g lb ss w):
  CallsIn F n P (ρ.f 11) #[.slice none 0 0,.func (.func g) #[] lb] w fun e w'=> ∃v,e= .returned v/\w'.ownsRow w.heap.size (ρ.t 26) 1 v ss.length (ss.map encStr)/\Below w.heap.size w w':=by
 have mixed:=L.mixed;have t0:=L.t0;have a0:=L.a0;have z0:=L.z0;have v0:=L.v0;have t24:=L.t24;have a24:=L.a24;have z24:=L.z24;have v24:=L.v24;have t26:=L.t26;have a26:=L.a26;have z26:=L.z26;have v26:=L.v26
 have u0:=run_underlying L.t0;have u24:=run_underlying L.t24;have u26:=run_underlying L.t26
 have apart:ρ.t 24≠ρ.t 26:=fun e=>by have h:=L.t24;rw [e,L.t26] at h;cases h
 obtain ⟨_,_,body⟩:=L.f11
 refine callsIn_of_wp_marks body rfl hf ?_ hro
 simp only [SlBodyZ.n11_ntmps ρ,List.size_toArray,List.length_cons,List.length_nil,Nat.reduceAdd,Nat.reduceSub,Array.replicate_succ,Array.replicate_zero,List.push_toArray,List.append_toArray,List.nil_append,List.cons_append]
 gi_wp2
 refine wpIn_rangeFunc fun fn hfn=> ?_
 rw [hro]
 generalize hA:w.alloc (.cells #[.slice none 0 0] (ρ.t 24))=A
 have sA:A.heap.size=w.heap.size+1:=by rw [←hA];simp
 have bA:Below w.heap.size w A:=by rw [←hA];exact (Below.refl _ w).alloc (Nat.le_refl _) _
 have xA:A.heap[w.heap.size]? =some (.cells #[.slice none 0 0] (ρ.t 24) (0,0)):=by rw [←hA];exact World.alloc_heap_new w _
 generalize hrec:AnyZ.apRec ρ fn (.func (.func g) #[] lb) w.heap.size A.heap.size .ready none=rec
 generalize hB:(A.alloc (.deferred (some []))).alloc (.loop rec)=B
 have oldB: ∀k,k<A.heap.size->B.heap[k]? =A.heap[k]? :=fun k hk=>by rw [←hB];exact (Below.heap_alloc _ _ k (by simp;omega)).trans (Below.heap_alloc _ _ k hk)
 have bB:Below w.heap.size w B:=by rw [←hB];exact (bA.alloc bA.size _).alloc (by have:=bA.size;simp;omega) _
 have dB:B.heap[A.heap.size]? =some (.deferred (some [])):=by rw [←hB];exact (Below.heap_alloc _ _ _ (by simp)).trans (World.alloc_heap_new A _)
 have lB:B.heap[A.heap.size+1]? =some (.loop rec):=by rw [←hB];have:=World.alloc_heap_new (A.alloc (.deferred (some []))) (.loop rec);rwa [World.size_alloc] at this
 have start:AnyZ.ApAt ρ w fn (.func (.func g) #[] lb) w.heap.size (A.heap.size+1) A.heap.size [] B:=
  ⟨⟨_,(oldB _ (by omega)).trans xA,⟨rfl,.inl ⟨rfl,rfl⟩⟩,by simp⟩,by rw [hrec];exact lB,dB,bB⟩
 refine ⟨A.heap.size+1,[{target:= .collected A.heap.size,args:= #[]}],B,{target:= .fn (.func g) lb,args:= #[.func (.yield (A.heap.size+1)) #[] #[]]},B,g,#[.func (.yield (A.heap.size+1)) #[] #[]]++lb,B,?_,?_,?_,?_,fun _=>(by omega),?_⟩
 ·rw [←hB,←hrec];exact run_enterLoop_outer _ _ _ _ _
 ·simp [resolve,go_sem]
 ·intro f' h';simp [Target.leads] at h';exact h'▸hg
 ·simp [invoke,go_sem,eg]
 refine (hseq _ (AnyZ.ApAt ρ w fn (.func (.func g) #[] lb) w.heap.size (A.heap.size+1) A.heap.size) B bB (AnyZ.ap_abides ρ _ _ _ _ _ _ _ bB.size) (fun _ _ h=>h.below)
  (fun pre x W h hl=>AnyZ.apYield {L with} F _ w fn hfn _ _ _ _ (by omega) (by omega) (by omega) (Nat.le_refl _) (by omega) ss.length hN hNb pre x W h hl) start).mono ?_
 rintro e C ⟨⟨_,rfl⟩,hC⟩
 obtain ⟨v,hv,hrow,_⟩:=hC.box
 have hend:=run_endLoop (P:=P) hC.L (by simp [AnyZ.apRec])
 generalize hD:C.putObj (A.heap.size+1) (.loop {AnyZ.apRec ρ fn (.func (.func g) #[] lb) w.heap.size A.heap.size .ready none with state:= .exhausted})=D at hend
 have rowD:D.ownsRow w.heap.size (ρ.t 26) 1 v ss.length (ss.map encStr):=by rw [←hD];exact w84 hrow hC.L (fun _ h=>by cases h) _
 have boxD:D.heap[w.heap.size]? =some (.cells #[v] (ρ.t 24) (0,0)):=by rw [←hD];exact (World.putObj_heap_other (by omega)).trans hv
 have defD:D.heap[A.heap.size]? =some (.deferred (some [])):=by rw [←hD];exact (World.putObj_heap_other (by omega)).trans hC.K
 have belD:Below w.heap.size w D:=by rw [←hD];exact hC.below.grown (grownBy_putObj_a _ _ _) hC.below.size (fun k h=>by cases h;omega)
 obtain ⟨cellD,markD⟩:=cell_of_box_a boxD
 clear hD
 refine ⟨none,D,hend,?_⟩
 gi_wp2
 rw [←sA]
 refine ⟨by simp,.inl ⟨_,_,rfl,run_takeDeferred defD,?_⟩⟩
 exact ⟨_,results_tmp rfl _ _ _,v,rfl,w84 rowD defD (fun _ h=>by cases h) _,belD.grown (grownBy_putObj_a _ _ _) belD.size (fun k h=>by cases h;omega)⟩
end Go.Fl
end
noncomputable section
set_option maxRecDepth 100000
namespace Go.Proofs.YtfiomedjdipbgaaGreatDoor
open Go Go.Proofs Go.RowKit Go.Fl Go.Maps Go.Sort Go.Shelf
attribute [local go_sem] Oper.semAt_some
set_option maxHeartbeats 2000000 in
theorem v9l (n:Nat) (hn:1<=n) (w W:World) (l Bs b off cap:Nat) (zs:List (List UInt8)) (hreach:zs.length<=140737488355328) (hBs:Bs<w.heap.size) (hb:b<w.heap.size) (J:List (List UInt8)->World->Prop)
  (hJ: ∀pre W1,J pre W1->Below w.heap.size w W1) (hc:w.cell? ⟨Bs,0,none⟩=some (.slice (some ⟨b,off,none⟩) zs.length cap)) (hcs: ∀j,j<zs.length->w.cell? ⟨b,off+j,none⟩=some (encStr (zs[j]?.getD [])))
  (hY: ∀pre x W1,J pre W1->pre.length<zs.length->YieldAt Fence.wide (n - 1) Tryz.prog l #[encStr x] W1 fun e W'=>e= .returned (.bool true)/\J (pre++[x]) W'/\KeepsWalks W1 W') (h0:J [] W):
  CallsIn Fence.wide n Tryz.prog 237 #[.func (.yield l) #[] #[],.pointer (some ⟨Bs,0,none⟩)] W fun e W'=>(∃v,e= .returned v)/\J zs W':=by
 have hc0:=((hJ _ _ h0).cell (p:=⟨Bs,0,none⟩) hBs).trans hc
 refine callsIn_of_wp Tryz.func237 rfl trivial ?_ rfl
 simp only [Tryz.ntmps237,List.size_toArray,List.length_cons,List.length_nil,Nat.reduceAdd,Nat.reduceSub,Array.replicate_succ,Array.replicate_zero,List.push_toArray,List.append_toArray,List.nil_append,List.cons_append]
 gi_wp2
 gi_loopw [7] (fun i wr=> ∃k:Nat,k<=zs.length/\i= .int .i64 k/\J (zs.take k) wr) (fun i _=>zs.length - (intOf i).toNat)
 case atStart=>exact ⟨0,Nat.zero_le _,rfl,h0⟩
 case round=>
  obtain ⟨k,hk,rfl,hJk⟩:=hrel
  by_cases hlt:k<zs.length
  ·have hck:=((hJ _ _ hJk).cell (p:=⟨b,off+k,none⟩) hb).trans (hcs k hlt)
   obtain ⟨fn,tmps,assign,body,hy,hR⟩:=hY _ zs[k] wr hJk (by rw [List.length_take];omega)
   gi_wp2
   refine hR.mono ?_
   rintro e W3 ⟨rfl,hJ3,_⟩
   gi_wp2
   go_roundw
   case rel=>exact ⟨k+1,by omega,by simp,by rw [List.take_succ_eq_append_getElem hlt];exact hJ3⟩
   case measure=>simp [intOf];omega
  ·obtain rfl:k=zs.length:=by omega
   rw [List.take_length] at hJk
   gi_wp2
   go_end0
   exact ⟨⟨_,rfl⟩,hJk⟩
set_option maxHeartbeats 2000000 in
theorem v9m (n:Nat) (w W:World) (l Bs cap:Nat) (a:Option Addr) (hBs:Bs<w.heap.size) (J:List (List UInt8)->World->Prop) (hJ: ∀pre W1,J pre W1->Below w.heap.size w W1) (hc:w.cell? ⟨Bs,0,none⟩=some (.slice a 0 cap)) (h0:J [] W):
  CallsIn Fence.wide n Tryz.prog 237 #[.func (.yield l) #[] #[],.pointer (some ⟨Bs,0,none⟩)] W fun e W'=>(∃v,e= .returned v)/\J [] W':=by
 have hc0:=((hJ _ _ h0).cell (p:=⟨Bs,0,none⟩) hBs).trans hc
 refine callsIn_of_wp Tryz.func237 rfl trivial ?_ rfl
 simp only [Tryz.ntmps237,List.size_toArray,List.length_cons,List.length_nil,Nat.reduceAdd,Nat.reduceSub,Array.replicate_succ,Array.replicate_zero,List.push_toArray,List.append_toArray,List.nil_append,List.cons_append]
 gi_wp2
 gi_loopw [7] (fun i wr=>i= .int .i64 0/\J [] wr) (fun _ _=>0)
 case atStart=>exact ⟨rfl,h0⟩
 case round=>
  obtain ⟨rfl,hJs⟩:=hrel
  gi_wp2
  go_end0
  exact ⟨⟨_,rfl⟩,hJs⟩
theorem qa3w {σ:Hv} {w:World} (Bs:Nat) (v:Value) (l:List ByteArray) (hV:View σ w) (hB:σ Bs=some (.cells #[v] 44 (0,0))) (hr:RSl 1 (REnc Qp) σ v l) (hs:Sml l.length):
  Calls Tryz.prog 274 #[.slice none 0 0,.func (.func 237) #[] #[.pointer (some ⟨Bs,0,none⟩)]] w fun e w1=> ∃v1,e= .returned v1/\Grow [] σ w σ w1/\((vec v1 9 1 l.length (l.flatMap Qp)).ok w1/\ ∀k,(vec v1 9 1 l.length (l.flatMap Qp)).foot=some k->w.heap.size<=k/\σ k=none):=by
 have hBw:=hV _ _ hB
 have hBl:=lt_of_block hBw
 have hBc:w.cell? ⟨Bs,0,none⟩=some v:=by simp [World.cell?,hBw]
 have hlen:(l.map (·.data.toList)).length=l.length:=List.length_map _
 have hgive:u0t Fence.wide 2 Tryz.prog 237 #[.pointer (some ⟨Bs,0,none⟩)] (l.map (·.data.toList)) w:=by
  intro lp J W _ _ hJB hY h0
  obtain ⟨a,cap,rfl,h1,h2,hel⟩:=hr
  cases hl0:l with
  |nil=>
   subst hl0
   exact v9m 2 w W lp Bs cap a hBl J hJB hBc h0
  |cons x l'=>
   obtain ⟨ad,cs,rfl,_,hrow0,hcs0⟩:=hel 0 x (by rw [hl0];rfl)
   have cell0:=(hrow0.row hV) 0 _ (by rw [hcs0];rfl)
   obtain ⟨ab,ao,asp⟩:=ad
   have hsp:asp=none:=by
    cases asp with
    |none=>rfl
    |some s=>
     have:=hrow0 0 (.string x) (by rw [hcs0];rfl)
     simp [Hv.cell,Addr.add] at this
     split at this<;>simp at this
   subst hsp
   have hbl:ab<w.heap.size:=by
    have:=hrow0 0 (.string x) (by rw [hcs0];rfl)
    simp only [G7] at this
    unfold Hv.cell at this
    simp only at this
    cases hq:σ ab with
    |none=>rw [hq] at this;simp at this
    |some o=>exact lt_of_block (hV _ _ hq)
   rw [←hl0]
   have hcome:=v9l 2 (by omega) w W lp Bs ab ao cap (l.map (·.data.toList)) (by rw [hlen];exact h2) hBl hbl J hJB (by rw [hlen];exact hBc) (fun j hj=>by
    rw [hlen] at hj
    obtain ⟨y,hy⟩:=getq hj
    obtain ⟨ad',cs',had,_,hrow,hcs⟩:=hel j y hy
    cases had
    have hc:=(hrow.row hV) 0 (.string y) (by rw [hcs];rfl)
    rw [q3k,G7] at hc
    rw [List.getElem?_map,hy]
    simpa [encStr] using hc) hY h0
   exact hcome
 refine (callsIn_wide (n:=3)).1 ((w2x (ρ:=Tryz.sorted185_ren) {Tryz.sorted185 with} Fence.wide 3 trivial rfl (by omega) 237 _ trivial (enters_of Tryz.func237 (by kernel_rfl) rfl) (l.map (·.data.toList)) (by rw [hlen];exact (q6n hs (show 16<=32768 by omega)).2) (by rw [hlen];exact (q6n hs (by omega)).1) w hgive).mono ?_)
 rintro e w1 ⟨v1,rfl,hown,hbel⟩
 rw [hlen] at hown
 have hfl:(l.map (·.data.toList)).map encStr=l.flatMap Qp:=(q0y l).symm
 rw [hfl] at hown
 have hsame: ∀b,b<w.heap.size->w1.heap[b]? =w.heap[b]? :=fun b hb=>hbel.block b hb
 refine ⟨v1,rfl,⟨⟨hbel.os,hbel.tape,hbel.output,hbel.size,fun k hk _=>hbel.block k hk⟩,fun b o hb=>(hbel.block b (lt_of_block (hV b o hb))).trans (hV b o hb),.refl _,fun _ _ _=>rfl⟩,?_,?_⟩
 ·exact ⟨hown.1,hown.2.imp id fun ⟨g,cap,cur,e1,_,e3⟩=>⟨g,cap,cur,e1,Nat.zero_le _,e3⟩⟩
 ·intro k hk
  have hge:w.heap.size<=k:=(hown.lt k hk).1
  refine ⟨hge,?_⟩
  cases hq:σ k with
  |none=>rfl
  |some o=>have:=lt_of_block (hV k o hq);omega
end Go.Proofs.YtfiomedjdipbgaaGreatDoor
end
