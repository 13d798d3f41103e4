/- AssignSalts: for every input the law returns true and leaves its arguments as they were. This is part 4 of 7. Conditions: those in the statements. -/
import Derived.Test.YtfiomedjdipbgaaGreatDoorProg
import Derived.Test.YtfiomedjdipbgaaGreatDoorAS3
import Derived.Lib.ValidU
import Derived.KernelRfl
import Derived.Conc.MuLone
import Derived.Shelf.Small.Bits
import Derived.Shelf.Utf8.RuneCount
import Derived.Shelf.Strconv.Atoi
import Derived.Shelf.Strconv.Itoa0
import Derived.Shelf.Strconv.Itoa1
import Derived.Shelf.LaysM
import Derived.Shelf.Strconv.Itoa2
import Derived.Shelf.Strconv.Itoa3
import Derived.Shelf.Strconv.AtoiErrFast
import Derived.Shelf.Strconv.ParseIntEmpty
import Derived.Shelf.Strconv.AtoiFail
import Derived.Shelf.Strconv.Clone
import Derived.Shelf.Strconv.SyntaxError
import Derived.Shelf.LaysC
import Derived.Shelf.Strconv.ToError
import Derived.Shelf.Strconv.Lower
import Derived.Shelf.Strconv.ParseUint10
import Derived.Shelf.Strconv.ParseUint10Empty
import Derived.Shelf.Strconv.ParseUint10Any
import Derived.Shelf.Strconv.ParseInt10
import Derived.Shelf.Strconv.AtoiLong
import Derived.Shelf.Strconv.AtoiInnerAll
import Derived.Shelf.Strconv.RangeError
import Derived.Shelf.Strconv.ToErrorRange
import Derived.Shelf.Strconv.AtoiAll
import Derived.Shelf.Strconv.ErrVarAll
import Derived.Shelf.Strings.Search1
import Derived.Shelf.Strings.Search2
import Derived.Shelf.Strings.Search3
import Derived.Shelf.Strings.Count
import Derived.Shelf.Strings.Shaped
import Derived.Shelf.Sort.Plain
import Derived.Shelf.Strings.Split
import Derived.Shelf.Strings.SplitShaped
import Derived.Shelf.Unicode.Decode
import Derived.Shelf.Strings.RuneCount
import Derived.Shelf.Strings.Explode
import Derived.Shelf.Unicode.DecodeSlow
import Derived.Shelf.Unicode.DecodeAny
import Derived.Ground.Names2Prog
import Derived.Shelf.Slices.Clone
import Derived.Shelf.Slices.CompactS
import Derived.Shelf.Slices.SearchI
import Derived.Shelf.Slices.Delete
import Derived.Shelf.Slices.Cells
import Derived.Shelf.Slices.In.SortNone
import Derived.Shelf.Slices.Empties
import Derived.Ground.SlgnProg
import Derived.Shelf.SlicesE.Clone
import Derived.Ground.NamesProg
import Derived.Shelf.Unicode.ValidAny
import Derived.Shelf.SlIter.Sorted
import Derived.Ground.GgzProg
import Derived.Shelf.SlIter.Collect
import Derived.WalkKit
import Derived.OwnWalkIn
import Derived.TacticsInMore
import Derived.LoopNIn
import Derived.LoopIn
import Derived.RangeFuncLeaves
noncomputable section
set_option maxRecDepth 100000
open Go Go.RowKit Go.Fl Go.Fl.Lk Go.Fx
namespace Go.En
abbrev J3:Type:=(List (Decl)->Prop)->Prop
def W0:J3:=fun K=>K [Decl.mk (ByteArray.mk (Array.mk [100,101,118,105,99,101])) (ByteArray.mk (Array.mk [99,111,114,101,115])) (2:Int),Decl.mk (ByteArray.mk (Array.mk [100,101,118,105,99,101])) (ByteArray.mk (Array.mk [111,115])) (3:Int),Decl.mk (ByteArray.mk (Array.mk [117,115,101,114])) (ByteArray.mk (Array.mk [97,103,101])) (2:Int),Decl.mk (ByteArray.mk (Array.mk [117,115,101,114])) (ByteArray.mk (Array.mk [97,112,112])) (4:Int),Decl.mk (ByteArray.mk (Array.mk [117,115,101,114])) (ByteArray.mk (Array.mk [98,101,116,97])) (1:Int),Decl.mk (ByteArray.mk (Array.mk [117,115,101,114])) (ByteArray.mk (Array.mk [99,111,117,110,116,114,121])) (3:Int),Decl.mk (ByteArray.mk (Array.mk [117,115,101,114])) (ByteArray.mk (Array.mk [112,108,97,110])) (3:Int),Decl.mk (ByteArray.mk (Array.mk [117,115,101,114])) (ByteArray.mk (Array.mk [116,97,103,115])) (5:Int)]
abbrev j2i:Type:=List (Int)->Int->(Bool->Int->Prop)->Prop
def w0j:j2i:=fun list at_ K=>list.length<=(9223372036854775807:Nat)->K (decide (at_<(↑list.length:Int))) at_
abbrev Q7:Type:=List (Int)->Int->Int->(Int->Int->Prop)->Prop
def v0c (z8i:j2i):Q7:=fun list at_ n K=>z8i list at_ fun Qb Q6=>Cnd (Qb=true) (InI (Q6+(1:Int))/\InI (Q6+(1:Int) - (1:Int))/\((0:Int)<=Q6+(1:Int) - (1:Int)/\Q6+(1:Int) - (1:Int)<(↑list.length:Int))/\ ∀y1,list[(Q6+(1:Int) - (1:Int)).toNat]? =some y1->InI y1/\n≠(0:Int)/\K (y1.tmod n) (Q6+(1:Int))) (K (0:Int) Q6)
def Zv:Q7:=v0c w0j
abbrev Rb:Type:=List (Int)->Int->(ByteArray->Int->Prop)->Prop
def v0d (Qa:Q7):Rb:=fun list at_ K=>Qa list at_ (11:Int) fun Qb Q6=>((0:Int)<=Qb/\Qb<(↑(11:Nat):Int))/\ ∀y1,j2g[Qb.toNat]? =some y1->K y1 Q6
def q3p:Rb:=v0d Zv
abbrev q2a:Type:=List (Int)->Int->Int->(Int->Int->Prop)->Prop
def v0e (Qa:Q7):q2a:=fun list at_ n K=>Qa list at_ (256:Int) fun Qb Q6=>InI ((256:Int)*Qb)/\Qa list Q6 (256:Int) fun Qd Z1=>InI ((256:Int)*Qb+Qd)/\n≠(0:Int)/\K (((256:Int)*Qb+Qd).tmod n) Z1
def q7r:q2a:=v0e Zv
abbrev z0e:Type:=Int->List (ByteArray)->(List (ByteArray)->Prop)->Prop
def z72:z0e:=fun n l K=>((0:Int)<=n/\n<=(↑l.length:Int))/\K (List.take n.toNat l)
abbrev q7s:Type:=List (Int)->Int->(List (ByteArray)->Int->Prop)->Prop
def v0f (Qa:Q7):q7s:=fun list at_ K=>Qa list at_ (10:Int) fun Qb Q6=>Lp3 (fun Qd Z1 z47 u6b=>Qa list z47 (4:Int) fun Qh Zk=>Cnd (Z1<Qh) (InI (Qb+Z1)/\(10:Int)≠(0:Int)/\InI ((48:Int)+(Qb+Z1).tmod (10:Int))/\(↑((ByteArray.mk (Array.mk [107])).size+(Go.Utf8.encode (Go.IntKind.i32.wrap ((48:Int)+(Qb+Z1).tmod (10:Int)))).size):Int)<=(9223372036854775807:Int)/\Sml (Qd++[ByteArray.mk (Array.mk [107])++Go.Utf8.encode (Go.IntKind.i32.wrap ((48:Int)+(Qb+Z1).tmod (10:Int)))]).length/\InI (Z1+(1:Int))/\u6b (Qd++[ByteArray.mk (Array.mk [107])++Go.Utf8.encode (Go.IntKind.i32.wrap ((48:Int)+(Qb+Z1).tmod (10:Int)))]) (Z1+(1:Int)) Zk) (Lp2 (fun Qm H9 w8b=>H9.length<=(9223372036854775807:Nat)->Cnd (Qm<(↑H9.length:Int)) (((0:Int)<=Qm/\Qm<(↑H9.length:Int))/\ ∀y5,H9[Qm.toNat]? =some y5->InI (Qm - (1:Int))/\((0:Int)<=Qm - (1:Int)/\Qm - (1:Int)<(↑H9.length:Int))/\ ∀y7,H9[(Qm - (1:Int)).toNat]? =some y7->Cnd (Lk.blt y7 y5) (InI (Qm+(1:Int))/\w8b (Qm+(1:Int)) H9) (((0:Int)<=Qm/\Qm<=(↑H9.length:Int))/\K (List.take Qm.toNat H9) Zk)) (K H9 Zk)) (1:Int) Qd)) [] (0:Int) Q6
def z3b:q7s:=v0f Zv
abbrev z3c:Type:=List (Int)->Int->(ByteArray->Int->Prop)->Prop
def v9f (Qa:Q7):z3c:=fun list at_ K=>Qa list at_ (10:Int) fun Qb Q6=>InI ((48:Int)+Qb)/\(↑((ByteArray.mk (Array.mk [107])).size+(Go.Utf8.encode (Go.IntKind.i32.wrap ((48:Int)+Qb))).size):Int)<=(9223372036854775807:Int)/\K (ByteArray.mk (Array.mk [107])++Go.Utf8.encode (Go.IntKind.i32.wrap ((48:Int)+Qb))) Q6
def z99:z3c:=v9f Zv
abbrev Ry:Type:=List (Int)->Int->Int->(Val->Int->Prop)->Prop
def j2j (Qa:Q7) (Jk:Rb):Ry:=fun list at_ kind K=>Cnd (kind=(1:Int)) (Qa list at_ (2:Int) fun Qb Q6=>K (Val.mk kind Qb (ByteArray.mk (Array.mk [])) []) Q6) (Cnd (kind=(2:Int)) ([(0:Int),(1:Int),(17:Int),(18:Int),(19:Int),(-5:Int),(64:Int),(1099511627776:Int),(-1099511627776:Int)].length<=(9223372036854775807:Nat)->Qa list at_ (↑[(0:Int),(1:Int),(17:Int),(18:Int),(19:Int),(-5:Int),(64:Int),(1099511627776:Int),(-1099511627776:Int)].length:Int) fun Qd Z1=>((0:Int)<=Qd/\Qd<(↑[(0:Int),(1:Int),(17:Int),(18:Int),(19:Int),(-5:Int),(64:Int),(1099511627776:Int),(-1099511627776:Int)].length:Int))/\ ∀y2,[(0:Int),(1:Int),(17:Int),(18:Int),(19:Int),(-5:Int),(64:Int),(1099511627776:Int),(-1099511627776:Int)][Qd.toNat]? =some y2->K (Val.mk kind y2 (ByteArray.mk (Array.mk [])) []) Z1) (Cnd (kind=(3:Int)) (Jk list at_ fun Qb Q6=>K (Val.mk kind (0:Int) Qb []) Q6) (Cnd (kind=(4:Int)) (Qa list at_ (6:Int) fun Qb Q6=>((0:Int)<=Qb/\Qb<(↑(6:Nat):Int))/\ ∀y1,z5f[Qb.toNat]? =some y1->K (Val.mk kind (0:Int) y1 []) Q6) (Qa list at_ (5:Int) fun Qb Q6=>((0:Int)<=Qb/\Qb<(↑(5:Nat):Int))/\ ∀y1,w1y[Qb.toNat]? =some y1->Sml ([]++y1).length/\K (Val.mk (5:Int) (0:Int) (ByteArray.mk (Array.mk [])) ([]++y1)) Q6))))
def G5:Ry:=j2j Zv q3p
abbrev z73:Type:=List (Int)->Int->(Ex->Int->Prop)->Prop
def v0g (Q1:J3) (Qa:Q7) (q51:z3c) (Z8:Ry):z73:=fun list at_ K=>Q1 fun Qb=>Qb.length<=(9223372036854775807:Nat)->InI ((↑Qb.length:Int)+(1:Int))/\Qa list at_ ((↑Qb.length:Int)+(1:Int)) fun Qh Zk=>Qb.length<=(9223372036854775807:Nat)->Cnd (Qh=(↑Qb.length:Int)) (q51 list Zk fun Qk Wm=>K (Ex.mk (7:Int) (ByteArray.mk (Array.mk [117,115,101,114])) (ByteArray.mk (Array.mk [107,101,121])) [Val.mk (3:Int) (0:Int) Qk []] []) Wm) (((0:Int)<=Qh/\Qh<(↑Qb.length:Int))/\ ∀y4,Qb[Qh.toNat]? =some y4->Jn1 (fun (Zx:Int×ByteArray×ByteArray×List Val×List Ex×Int×Int×ByteArray×ByteArray×List Val×List Ex×Unit)=>Z8 list Zx.snd.snd.snd.snd.snd.fst y4.3 fun Um j4k=>K (Ex.mk (7:Int) Zx.snd.fst Zx.snd.snd.fst [Um] Zx.snd.snd.snd.snd.fst) j4k) fun (u7a:Int×ByteArray×ByteArray×List Val×List Ex×Int×Int×ByteArray×ByteArray×List Val×List Ex×Unit->Prop)=>Qa list Zk (5:Int) fun Um j4k=>Jn1 (fun (Un:Int×Int×ByteArray×ByteArray×List Val×List Ex×Int×ByteArray×ByteArray×List Val×List Ex×Unit)=>Cnd (y4.3=(2:Int)) (Qa list Un.fst (4:Int) fun Q5 j11=>InI ((12:Int)+Q5)/\Z8 list j11 y4.3 fun Rs q0p=>K (Ex.mk ((12:Int)+Q5) Un.snd.snd.fst Un.snd.snd.snd.fst [Rs] Un.snd.snd.snd.snd.snd.fst) q0p) (Cnd (y4.3=(3:Int)) (Qa list Un.fst (4:Int) fun Q5 j11=>InI ((12:Int)+Q5)/\Z8 list j11 y4.3 fun Rs q0p=>K (Ex.mk ((12:Int)+Q5) Un.snd.snd.fst Un.snd.snd.snd.fst [Rs] Un.snd.snd.snd.snd.snd.fst) q0p) (Cnd (y4.3=(4:Int)) (Qa list Un.fst (4:Int) fun Q5 j11=>InI ((12:Int)+Q5)/\Z8 list j11 y4.3 fun Rs q0p=>K (Ex.mk ((12:Int)+Q5) Un.snd.snd.fst Un.snd.snd.snd.fst [Rs] Un.snd.snd.snd.snd.snd.fst) q0p) (u7a (Un.snd.fst,Un.snd.snd.fst,Un.snd.snd.snd.fst,Un.snd.snd.snd.snd.fst,Un.snd.snd.snd.snd.snd.fst,Un.fst,Un.snd.snd.snd.snd.snd.snd.fst,Un.snd.snd.snd.snd.snd.snd.snd.fst,Un.snd.snd.snd.snd.snd.snd.snd.snd.fst,Un.snd.snd.snd.snd.snd.snd.snd.snd.snd.fst,Un.snd.snd.snd.snd.snd.snd.snd.snd.snd.snd.fst,()))))) fun (u6c:Int×Int×ByteArray×ByteArray×List Val×List Ex×Int×ByteArray×ByteArray×List Val×List Ex×Unit->Prop)=>Cnd (Um=(0:Int)) (K (Ex.mk (6:Int) y4.1 y4.2 [] []) j4k) (Cnd (Um=(1:Int)) (Cnd (y4.3=(5:Int)) (u7a ((0:Int),y4.1,y4.2,[],[],j4k,(0:Int),ByteArray.mk (Array.mk []),ByteArray.mk (Array.mk []),[],[],())) (Lp3 (fun Q5 j11 x9_2 Y9_3=>Qa list x9_2 (3:Int) fun Rs q0p=>Cnd (Q5<=Rs) (Z8 list q0p y4.3 fun q0q w5w=>Sml (j11++[q0q]).length/\InI (Q5+(1:Int))/\Y9_3 (Q5+(1:Int)) (j11++[q0q]) w5w) (K (Ex.mk (8:Int) y4.1 y4.2 j11 []) q0p)) (0:Int) [] j4k)) (Cnd (Um=(2:Int)) (Cnd (y4.3=(3:Int)) (Z8 list j4k (3:Int) fun Q5 j11=>K (Ex.mk (11:Int) y4.1 y4.2 [Q5] []) j11) (Cnd (y4.3=(5:Int)) (Z8 list j4k (3:Int) fun Q5 j11=>K (Ex.mk (11:Int) y4.1 y4.2 [Q5] []) j11) (u7a ((0:Int),y4.1,y4.2,[],[],j4k,(0:Int),ByteArray.mk (Array.mk []),ByteArray.mk (Array.mk []),[],[],())))) (Cnd (Um=(3:Int)) (Cnd (y4.3=(3:Int)) (Qa list j4k (2:Int) fun Q5 j11=>InI ((9:Int)+Q5)/\Z8 list j11 (3:Int) fun Rs q0p=>K (Ex.mk ((9:Int)+Q5) y4.1 y4.2 [Rs] []) q0p) (u6c (j4k,(0:Int),y4.1,y4.2,[],[],(0:Int),ByteArray.mk (Array.mk []),ByteArray.mk (Array.mk []),[],[],()))) (Cnd (Um=(4:Int)) (u6c (j4k,(0:Int),y4.1,y4.2,[],[],(0:Int),ByteArray.mk (Array.mk []),ByteArray.mk (Array.mk []),[],[],())) (u7a ((0:Int),y4.1,y4.2,[],[],j4k,(0:Int),ByteArray.mk (Array.mk []),ByteArray.mk (Array.mk []),[],[],())))))))
def z74:z73:=v0g W0 Zv z99 G5
abbrev q2b:Type:=List (Int)->Int->List (ByteArray)->Int->(Ex->Int->Prop)->Prop
def w0k (Qa:Q7) (z4l:z73) (X:q2b):q2b:=fun list at_ segments levels K=>Qa list at_ (8:Int) fun Qb Q6=>Jn1 (fun Qd=>Cnd (Qd=(0:Int)) (K (Ex.mk (1:Int) (ByteArray.mk (Array.mk [])) (ByteArray.mk (Array.mk [])) [] []) Q6) (Cnd (Qd=(3:Int)) (segments.length<=(9223372036854775807:Nat)->Cnd ((0:Int)<(↑segments.length:Int)) (segments.length<=(9223372036854775807:Nat)->Qa list Q6 (↑segments.length:Int) fun Qk Wm=>((0:Int)<=Qk/\Qk<(↑segments.length:Int))/\ ∀y5,segments[Qk.toNat]? =some y5->K (Ex.mk (5:Int) (ByteArray.mk (Array.mk [])) y5 [] []) Wm) (z4l list Q6 fun Qm H9=>K (Ex.mk Qm.1 Qm.2 Qm.3 Qm.4 Qm.5) H9)) (Cnd (Qd=(4:Int)) (InI (levels - (1:Int))/\X list Q6 segments (levels - (1:Int)) fun Qh Zk=>K (Ex.mk (4:Int) (ByteArray.mk (Array.mk [])) (ByteArray.mk (Array.mk [])) [] [Ex.mk Qh.1 Qh.2 Qh.3 Qh.4 Qh.5]) Zk) (Jn1 (fun Qh=>Cnd (Qh=true) (Qa list Q6 (2:Int) fun Qm H9=>InI ((2:Int)+Qm)/\Qa list H9 (2:Int) fun Qk Wm=>InI ((2:Int)+Qk)/\LpH (fun (Qw:Int×Int×Int×ByteArray×ByteArray×List Val×List Ex×Unit) (w5x:Int×Int×Int×ByteArray×ByteArray×List Val×List Ex×Unit->Prop)=>Cnd (Qw.fst<(2:Int)+Qk) (InI (levels - (1:Int))/\X list Qw.snd.fst segments (levels - (1:Int)) fun Zx z7r=>Jn1 (fun (Um:Int×ByteArray×ByteArray×List Val×List Ex×Unit)=>Sml (Qw.snd.snd.snd.snd.snd.snd.fst++[Ex.mk Um.fst Um.snd.fst Um.snd.snd.fst Um.snd.snd.snd.fst Um.snd.snd.snd.snd.fst]).length/\InI (Qw.fst+(1:Int))/\w5x (Qw.fst+(1:Int),z7r,Qw.snd.snd.fst,Qw.snd.snd.snd.fst,Qw.snd.snd.snd.snd.fst,Qw.snd.snd.snd.snd.snd.fst,Qw.snd.snd.snd.snd.snd.snd.fst++[Ex.mk Um.fst Um.snd.fst Um.snd.snd.fst Um.snd.snd.snd.fst Um.snd.snd.snd.snd.fst],())) fun (Y7_0:Int×ByteArray×ByteArray×List Val×List Ex×Unit->Prop)=>Cnd (Zx.1=(2:Int)+Qm) (Y7_0 ((4:Int),ByteArray.mk (Array.mk []),ByteArray.mk (Array.mk []),[],[Ex.mk Zx.1 Zx.2 Zx.3 Zx.4 Zx.5],())) (Y7_0 (Zx.1,Zx.2,Zx.3,Zx.4,Zx.5,()))) (K (Ex.mk Qw.snd.snd.fst Qw.snd.snd.snd.fst Qw.snd.snd.snd.snd.fst Qw.snd.snd.snd.snd.snd.fst Qw.snd.snd.snd.snd.snd.snd.fst) Qw.snd.fst)) ((0:Int),Wm,(2:Int)+Qm,ByteArray.mk (Array.mk []),ByteArray.mk (Array.mk []),[],[],())) (z4l list Q6 fun Qm H9=>K (Ex.mk Qm.1 Qm.2 Qm.3 Qm.4 Qm.5) H9)) fun v7v=>Cnd (Qd=(5:Int)) (v7v (decide (Qd=(5:Int)))) (v7v (decide (Qd=(6:Int)))))))) fun w9k=>Cnd (levels<=(1:Int)) (Cnd ((4:Int)<=Qb) (InI (Qb - (4:Int))/\w9k (Qb - (4:Int))) (w9k Qb)) (w9k Qb)
def z3d:q2b:=fun list at_ segments levels K=> ∀X:q2b,(∀list at_ segments levels K,w0k Zv z74 X list at_ segments levels K->X list at_ segments levels K)->X list at_ segments levels K
abbrev q2v:Type:=List (Int)->Int->ByteArray->ByteArray->Int->List (Decl)->List (Seg)->List (Flg)->List (Lay_)->List (Exper)->(Int->ByteArray->ByteArray->Int->List (Decl)->List (Seg)->List (Flg)->List (Lay_)->List (Exper)->Prop)->Prop
def z5g (Qa:Q7) (Rt:z0e) (Bv:q7s) (Bw:q2b):q2v:=fun list at_ salt hkind hold attrs segs flags layers expers K=>Qa list at_ (4:Int) fun Qb Q6=>Rt Qb [ByteArray.mk (Array.mk [97,108,112,104,97]),ByteArray.mk (Array.mk [98,101,116,97]),ByteArray.mk (Array.mk [103,97,109,109,97])] fun Qd=>Lp3 (fun Qh Zk v3l Y2_3=>Qd.length<=(9223372036854775807:Nat)->Cnd (Qh<(↑Qd.length:Int)) (((0:Int)<=Qh/\Qh<(↑Qd.length:Int))/\ ∀y4,Qd[Qh.toNat]? =some y4->Bv list Zk fun Zx z7r=>Bv list z7r fun Um j4k=>Jn2 (fun Un u7b=>Jn1 (fun (Q5:Int×ByteArray×ByteArray×List Val×List Ex×Int×Unit)=>Sml (v3l++[Seg.mk y4 Un Zx Um (Ex.mk Q5.fst Q5.snd.fst Q5.snd.snd.fst Q5.snd.snd.snd.fst Q5.snd.snd.snd.snd.fst)]).length/\InI (Qh+(1:Int))/\Y2_3 (Qh+(1:Int)) Q5.snd.snd.snd.snd.snd.fst (v3l++[Seg.mk y4 Un Zx Um (Ex.mk Q5.fst Q5.snd.fst Q5.snd.snd.fst Q5.snd.snd.snd.fst Q5.snd.snd.snd.snd.fst)])) fun (Y9_0:Int×ByteArray×ByteArray×List Val×List Ex×Int×Unit->Prop)=>Qa list u7b (3:Int) fun Rs q0p=>Cnd ((0:Int)<Rs) (((0:Int)<=(0:Int)/\(0:Int)<=Qh/\Qh<=(↑Qd.length:Int))/\Bw list q0p (List.drop (Int.toNat (0:Int)) (List.take Qh.toNat Qd)) (3:Int) fun q0q w5w=>Y9_0 (q0q.1,q0q.2,q0q.3,q0q.4,q0q.5,w5w,())) (Y9_0 ((0:Int),ByteArray.mk (Array.mk []),ByteArray.mk (Array.mk []),[],[],q0p,()))) fun u6c=>Qa list j4k (4:Int) fun Q5 j11=>Cnd (Q5=(1:Int)) (u6c (ByteArray.mk (Array.mk [100,101,118,105,99,101])) j11) (u6c (ByteArray.mk (Array.mk [117,115,101,114])) j11)) (K Zk salt hkind hold attrs v3l flags layers expers)) (0:Int) Q6 segs
def q6l:q2v:=z5g Zv z72 z3b z3d
abbrev B2:Type:=Envt->(List (ByteArray)->Prop)->Prop
def B3:B2:=fun v K=>Lp2 (fun Qb Q6 q4y=>v.3.length<=(9223372036854775807:Nat)->Cnd (Q6<(↑v.3.length:Int)) (((0:Int)<=Q6/\Q6<(↑v.3.length:Int))/\ ∀y2,v.3[Q6.toNat]? =some y2->Sml (Qb++[y2.1]).length/\InI (Q6+(1:Int))/\q4y (Qb++[y2.1]) (Q6+(1:Int))) (K Qb)) [] (0:Int)
abbrev q3q:Type:=List (Int)->Int->Int->(List (Rng)->Int->Prop)->Prop
def w2b (Qa:Q7) (Wa:q2a):q3q:=fun list at_ n K=>Jn4 (fun Qb Q6 j7h q8d=>Qa list q8d n fun Qd Z1=>InI ((1:Int)+Qd)/\Jn1 (fun Qh=>Sml (Qb++[Rng.mk Q6 (10000:Int) Qh]).length/\K (Qb++[Rng.mk Q6 (10000:Int) Qh]) Z1) fun v7v=>Cnd ((1:Int)+Qd=j7h) (n≠(0:Int)/\InI ((1:Int)+((1:Int)+Qd).tmod n)/\v7v ((1:Int)+((1:Int)+Qd).tmod n)) (v7v ((1:Int)+Qd))) fun z2y=>Lp5 (fun Qd Z1 z47 j7i x1_4 Y1_5=>Qa list x1_4 (4:Int) fun Qh Zk=>Cnd (j7i<Qh) (Cnd ((1:Int)<n) (InI (Z1+(1:Int))/\Wa list Zk (5000:Int) fun Qm H9=>InI (Z1+(1:Int)+Qm)/\Qa list H9 n fun Qk Wm=>InI ((1:Int)+Qk)/\Jn1 (fun Qw=>Cnd ((10000:Int)<=Z1+(1:Int)+Qm) (z2y Qd Z1 z47 Wm) (Sml (Qd++[Rng.mk Z1 (Z1+(1:Int)+Qm) Qw]).length/\InI (j7i+(1:Int))/\Y1_5 (Qd++[Rng.mk Z1 (Z1+(1:Int)+Qm) Qw]) (Z1+(1:Int)+Qm) Qw (j7i+(1:Int)) Wm)) fun Y5_0=>Cnd ((1:Int)+Qk=z47) (n≠(0:Int)/\InI ((1:Int)+((1:Int)+Qk).tmod n)/\Y5_0 ((1:Int)+((1:Int)+Qk).tmod n)) (Y5_0 ((1:Int)+Qk))) (z2y Qd Z1 z47 Zk)) (z2y Qd Z1 z47 Zk)) [] (0:Int) (0:Int) (0:Int) at_
def q8w:q3q:=w2b Zv q7r
abbrev z1l:Type:=List (Int)->Int->Int->(Srv->Int->Prop)->Prop
def w2c (Qa:Q7) (Jk:Rb) (Ht:q3q) (Q1:J3):z1l:=fun list at_ n K=>Qa list at_ (2:Int) fun Qb Q6=>Cnd (Qb=(0:Int)) (Qa list Q6 n fun Qd Z1=>InI ((1:Int)+Qd)/\K (Srv.mk ((1:Int)+Qd) (ByteArray.mk (Array.mk [])) (ByteArray.mk (Array.mk [])) (ByteArray.mk (Array.mk [])) []) Z1) (Jk list Q6 fun Qd Z1=>Ht list Z1 n fun Qh Zk=>Q1 fun Qm=>Qa list Zk (12:Int) fun Qk Wm=>Qm.length<=(9223372036854775807:Nat)->Cnd (Qk<(↑Qm.length:Int)) (((0:Int)<=Qk/\Qk<(↑Qm.length:Int))/\ ∀y6,Qm[Qk.toNat]? =some y6->Cnd (y6.3=(5:Int)) (K (Srv.mk (0:Int) (ByteArray.mk (Array.mk [117,115,101,114])) (ByteArray.mk (Array.mk [107,101,121])) Qd Qh) Wm) (((0:Int)<=Qk/\Qk<(↑Qm.length:Int))/\ ∀y8,Qm[Qk.toNat]? =some y8->((0:Int)<=Qk/\Qk<(↑Qm.length:Int))/\ ∀y10,Qm[Qk.toNat]? =some y10->K (Srv.mk (0:Int) y8.1 y10.2 Qd Qh) Wm)) (K (Srv.mk (0:Int) (ByteArray.mk (Array.mk [117,115,101,114])) (ByteArray.mk (Array.mk [107,101,121])) Qd Qh) Wm))
def z5h:z1l:=w2c Zv q3p q8w W0
abbrev z5i:Type:=(List (Nd)->(Nd->Option (Int))->Bool->Prop)->Prop
def w2d:z5i:=fun K=>K [] (fun _=>none) false
abbrev Wb:Type:=Int->(Bool->Prop)->Prop
def Wc:Wb:=fun op K=>Cnd ((6:Int)<=op) (K (decide (op<=(15:Int)))) (K false)
abbrev z5j:Type:=List (ByteArray)->List (ByteArray)->(Bool->Prop)->Prop
def z5k:z5j:=fun a b K=>a.length<=(9223372036854775807:Nat)->b.length<=(9223372036854775807:Nat)->Cnd ((↑a.length:Int)=(↑b.length:Int)) (Lp1 (fun Qh j7j=>a.length<=(9223372036854775807:Nat)->Cnd (Qh<(↑a.length:Int)) (((0:Int)<=Qh/\Qh<(↑a.length:Int))/\ ∀y4,a[Qh.toNat]? =some y4->((0:Int)<=Qh/\Qh<(↑b.length:Int))/\ ∀y6,b[Qh.toNat]? =some y6->Cnd (y4=y6) (InI (Qh+(1:Int))/\j7j (Qh+(1:Int))) (K false)) (K true)) (0:Int)) (K false)
abbrev q4z:Type:=Val->Val->(Bool->Prop)->Prop
def j44 (z2n:z5j):q4z:=fun a b K=>Cnd (a.1=b.1) (Cnd (a.2=b.2) (Cnd (a.3=b.3) (z2n a.4 b.4 fun Qb=>K Qb) (K false)) (K false)) (K false)
def q40:q4z:=j44 z5k
abbrev G6:Type:=List (Val)->List (Val)->(Bool->Prop)->Prop
def q8x (Bh:q4z):G6:=fun a b K=>a.length<=(9223372036854775807:Nat)->b.length<=(9223372036854775807:Nat)->Cnd ((↑a.length:Int)=(↑b.length:Int)) (Lp1 (fun Qh j7j=>a.length<=(9223372036854775807:Nat)->Cnd (Qh<(↑a.length:Int)) (((0:Int)<=Qh/\Qh<(↑a.length:Int))/\ ∀y4,a[Qh.toNat]? =some y4->((0:Int)<=Qh/\Qh<(↑b.length:Int))/\ ∀y6,b[Qh.toNat]? =some y6->Bh y4 y6 fun Un=>Cnd (Un=true) (InI (Qh+(1:Int))/\j7j (Qh+(1:Int))) (K false)) (K true)) (0:Int)) (K false)
def G7:G6:=q8x q40
abbrev V3:Type:=Ex->Ex->(Bool->Prop)->Prop
def z3e (Hu:G6) (X:V3):V3:=fun a b K=>Cnd (a.1=b.1) (Cnd (a.2=b.2) (Cnd (a.3=b.3) (Hu a.4 b.4 fun Qb=>Cnd (Qb=true) (a.5.length<=(9223372036854775807:Nat)->b.5.length<=(9223372036854775807:Nat)->Cnd ((↑a.5.length:Int)=(↑b.5.length:Int)) (Lp1 (fun Qm j13=>a.5.length<=(9223372036854775807:Nat)->Cnd (Qm<(↑a.5.length:Int)) (((0:Int)<=Qm/\Qm<(↑a.5.length:Int))/\ ∀y5,a.5[Qm.toNat]? =some y5->((0:Int)<=Qm/\Qm<(↑b.5.length:Int))/\ ∀y7,b.5[Qm.toNat]? =some y7->X (Ex.mk y5.1 y5.2 y5.3 y5.4 y5.5) (Ex.mk y7.1 y7.2 y7.3 y7.4 y7.5) fun Q5=>Cnd (Q5=true) (InI (Qm+(1:Int))/\j13 (Qm+(1:Int))) (K false)) (K true)) (0:Int)) (K false)) (K false)) (K false)) (K false)) (K false)
def q0y:V3:=fun a b K=> ∀X:V3,(∀a b K,z3e G7 X a b K->X a b K)->X a b K
abbrev Rd:Type:=List (Ex)->Ex->(Int->Prop)->Prop
def j0a (q1g:V3):Rd:=fun l e K=>Lp1 (fun Qb q61=>l.length<=(9223372036854775807:Nat)->Cnd (Qb<(↑l.length:Int)) (((0:Int)<=Qb/\Qb<(↑l.length:Int))/\ ∀y2,l[Qb.toNat]? =some y2->q1g (Ex.mk y2.1 y2.2 y2.3 y2.4 y2.5) (Ex.mk e.1 e.2 e.3 e.4 e.5) fun Qk=>Cnd (Qk=true) (K Qb) (InI (Qb+(1:Int))/\q61 (Qb+(1:Int)))) (K (-1:Int))) (0:Int)
def Gy:Rd:=j0a q0y
abbrev Vi:Type:=List (Ex)->Ex->(List (Ex)->Prop)->Prop
def z0u (Wv:Rd) (Q2:Wb) (X:Vi):Vi:=fun l e K=>Jn1 (fun Qb=>Lp2 (fun Qd Z1 z84=>e.5.length<=(9223372036854775807:Nat)->Cnd (Z1<(↑e.5.length:Int)) (((0:Int)<=Z1/\Z1<(↑e.5.length:Int))/\ ∀y3,e.5[Z1.toNat]? =some y3->X Qd (Ex.mk y3.1 y3.2 y3.3 y3.4 y3.5) fun Qw=>InI (Z1+(1:Int))/\z84 Qw (Z1+(1:Int))) (K Qd)) Qb (0:Int)) fun z2y=>Cnd (e.1=(5:Int)) (Wv l (Ex.mk e.1 e.2 e.3 e.4 e.5) fun Qd=>Cnd (Qd<(0:Int)) ((Sml ([]++l).length/\Sml ([]++l++[Ex.mk e.1 e.2 e.3 e.4 e.5]).length/\z2y ([]++l++[Ex.mk e.1 e.2 e.3 e.4 e.5]))/\Sml ([]++l).length/\Sml ([]++l++[Ex.mk e.1 e.2 e.3 e.4 e.5]).length/\z2y ([]++l++[Ex.mk e.1 e.2 e.3 e.4 e.5])) (z2y l)) (Q2 e.1 fun Qd=>Cnd (Qd=true) (Wv l (Ex.mk e.1 e.2 e.3 e.4 e.5) fun Qh=>Cnd (Qh<(0:Int)) ((Sml ([]++l).length/\Sml ([]++l++[Ex.mk e.1 e.2 e.3 e.4 e.5]).length/\z2y ([]++l++[Ex.mk e.1 e.2 e.3 e.4 e.5]))/\Sml ([]++l).length/\Sml ([]++l++[Ex.mk e.1 e.2 e.3 e.4 e.5]).length/\z2y ([]++l++[Ex.mk e.1 e.2 e.3 e.4 e.5])) (z2y l)) (z2y l))
def q11:Vi:=fun l e K=> ∀X:Vi,(∀l e K,z0u Gy Wc X l e K->X l e K)->X l e K
abbrev G8:Type:=List (Rul)->(List (Ex)->Prop)->Prop
def q8y (Bi:Vi):G8:=fun l K=>Lp2 (fun Qb Q6 q4y=>l.length<=(9223372036854775807:Nat)->Cnd (Q6<(↑l.length:Int)) (((0:Int)<=Q6/\Q6<(↑l.length:Int))/\ ∀y2,l[Q6.toNat]? =some y2->Bi Qb (Ex.mk y2.2.1 y2.2.2 y2.2.3 y2.2.4 y2.2.5) fun Qk=>InI (Q6+(1:Int))/\q4y Qk (Q6+(1:Int))) (K Qb)) [] (0:Int)
def B4:G8:=q8y q11
abbrev Jh:Type:=List (Nd)->(Nd->Option (Int))->Bool->Int->(Bool->List (Nd)->(Nd->Option (Int))->Bool->Prop)->Prop
def Wn:Jh:=fun ns ids full id K=>Cnd ((-1002:Int)<id) (ns.length<=(9223372036854775807:Nat)->K (decide (id<(↑ns.length:Int))) ns ids full) (K false ns ids full)
abbrev Rz:Type:=List (Nd)->(Nd->Option (Int))->Bool->Int->((Int->Option (Bool))->List (Nd)->(Nd->Option (Int))->Bool->Prop)->Prop
def R0:Rz:=fun ns ids full id K=>Lp2 (fun Qb q61 q4y=>Qb.length<=(9223372036854775807:Nat)->Cnd ((0:Int)<(↑Qb.length:Int)) (Qb.length<=(9223372036854775807:Nat)->InI ((↑Qb.length:Int) - (1:Int))/\((0:Int)<=(↑Qb.length:Int) - (1:Int)/\(↑Qb.length:Int) - (1:Int)<(↑Qb.length:Int))/\ ∀y3,Qb[((↑Qb.length:Int) - (1:Int)).toNat]? =some y3->Qb.length<=(9223372036854775807:Nat)->InI ((↑Qb.length:Int) - (1:Int))/\((0:Int)<=(↑Qb.length:Int) - (1:Int)/\(↑Qb.length:Int) - (1:Int)<=(↑Qb.length:Int))/\Cnd ((q61 y3).getD false=true) (q4y (List.take ((↑Qb.length:Int) - (1:Int)).toNat Qb) q61) (Cnd ((0:Int)<=y3) (((0:Int)<=y3/\y3<(↑ns.length:Int))/\ ∀y6,ns[y3.toNat]? =some y6->((0:Int)<=y3/\y3<(↑ns.length:Int))/\ ∀y8,ns[y3.toNat]? =some y8->Sml (List.take ((↑Qb.length:Int) - (1:Int)).toNat Qb++[y6.snd.fst,y8.snd.snd]).length/\q4y (List.take ((↑Qb.length:Int) - (1:Int)).toNat Qb++[y6.snd.fst,y8.snd.snd]) (put q61 y3 true)) (q4y (List.take ((↑Qb.length:Int) - (1:Int)).toNat Qb) (put q61 y3 true)))) (K q61 ns ids full)) [id] fun _=>none
abbrev V9:Type:=List (Nd)->(Nd->Option (Int))->Bool->Int->(List (Int)->List (Nd)->(Nd->Option (Int))->Bool->Prop)->Prop
def z1m (Qx:Jh) (U7:Rz):V9:=fun ns ids full id K=>Qx ns ids full id fun Qb (Q6:List (Int×Int×Int)) q4y q8d=>Cnd (Qb=true) (U7 Q6 q4y q8d id fun w9k (Z1:List (Int×Int×Int)) z84 j7i=>Lp2 (fun Qh Zk q7n=>Cnd (Zk<=(1000:Int)) (InI ((-1:Int) - Zk)/\Cnd ((w9k ((-1:Int) - Zk)).getD false=true) (Sml (Qh++[Zk]).length/\InI (Zk+(1:Int))/\q7n (Qh++[Zk]) (Zk+(1:Int))) (InI (Zk+(1:Int))/\q7n Qh (Zk+(1:Int)))) (K Qh Z1 z84 j7i)) [] (0:Int)) (K [] Q6 q4y q8d)
def G9:V9:=z1m Wn R0
abbrev Zd:Type:=List (Nd)->(Nd->Option (Int))->Bool->Int->(Bool->List (Nd)->(Nd->Option (Int))->Bool->Prop)->Prop
def q7k (Qx:Jh) (Ue:V9):Zd:=fun ns ids full id K=>Qx ns ids full id fun Qb (Q6:List (Int×Int×Int)) q4y q8d=>Cnd (Qb=true) (Ue Q6 q4y q8d id fun Qd (Z1:List (Int×Int×Int)) z84 j7i=>Lp1 (fun Qh j7j=>Qd.length<=(9223372036854775807:Nat)->Cnd (Qh<(↑Qd.length:Int)) (((0:Int)<=Qh/\Qh<(↑Qd.length:Int))/\ ∀y4,Qd[Qh.toNat]? =some y4->Cnd ((1:Int)<y4) (K false Z1 z84 j7i) (InI (Qh+(1:Int))/\j7j (Qh+(1:Int)))) (K true Z1 z84 j7i)) (0:Int)) (K false Q6 q4y q8d)
def Z3:Zd:=q7k Wn G9
abbrev J5:Type:=List (Nd)->(Nd->Option (Int))->Bool->Int->(Int->List (Nd)->(Nd->Option (Int))->Bool->Prop)->Prop
def J6:J5:=fun ns ids full id K=>Cnd (id<(0:Int)) (K (1001:Int) ns ids full) (((0:Int)<=id/\id<(↑ns.length:Int))/\ ∀y0,ns[id.toNat]? =some y0->K y0.fst ns ids full)
abbrev U1:Type:=List (Nd)->(Nd->Option (Int))->Bool->Int->Int->(Int->Int->List (Nd)->(Nd->Option (Int))->Bool->Prop)->Prop
def z4q (Q4:J5):U1:=fun ns ids full id test K=>Q4 ns ids full id fun Qb (Q6:List (Int×Int×Int)) q4y q8d=>Cnd (Qb=test) (((0:Int)<=id/\id<(↑Q6.length:Int))/\ ∀y1,Q6[id.toNat]? =some y1->((0:Int)<=id/\id<(↑Q6.length:Int))/\ ∀y3,Q6[id.toNat]? =some y3->K y1.snd.fst y3.snd.snd Q6 q4y q8d) (K id id Q6 q4y q8d)
def Vz:U1:=z4q J6
abbrev Wo:Type:=List (Nd)->(Nd->Option (Int))->Bool->Int->Int->Int->(Int->List (Nd)->(Nd->Option (Int))->Bool->Prop)->Prop
def z5l (Qx:Jh) (Q4:J5):Wo:=fun ns ids full test yes no K=>Cnd (test<(0:Int)) (K (-1002:Int) ns ids full) (Cnd ((1000:Int)<test) (K (-1002:Int) ns ids full) (Qx ns ids full yes fun Qb (Q6:List (Int×Int×Int)) q4y q8d=>Cnd (Qb=true) (Qx Q6 q4y q8d no fun Qd (Z1:List (Int×Int×Int)) z84 j7i=>Cnd (Qd=true) (Q4 Z1 z84 j7i yes fun Qh (Zk:List (Int×Int×Int)) q7n w5y=>Cnd (Qh<=test) (K (-1002:Int) Zk q7n w5y) (Q4 Zk q7n w5y no fun Qm (H9:List (Int×Int×Int)) w8b u3j=>Cnd (Qm<=test) (K (-1002:Int) H9 w8b u3j) (Cnd (yes=no) (K yes H9 w8b u3j) (Cnd ((w8b (test,yes,no)).isSome=true) (K ((w8b (test,yes,no)).getD (0:Int)) H9 w8b u3j) (H9.length<=(9223372036854775807:Nat)->Cnd ((4000:Int)<=(↑H9.length:Int)) (K (-1002:Int) H9 w8b true) (H9.length<=(9223372036854775807:Nat)->Sml (H9++[(test,yes,no)]).length/\((H9++[(test,yes,no)]).length<=(9223372036854775807:Nat)->InI ((↑(H9++[(test,yes,no)]).length:Int) - (1:Int))/\K ((↑(H9++[(test,yes,no)]).length:Int) - (1:Int)) (H9++[(test,yes,no)]) (put w8b (test,yes,no) (↑H9.length:Int)) u3j))))))) (K (-1002:Int) Z1 z84 j7i)) (K (-1002:Int) Q6 q4y q8d)))
def J7:Wo:=z5l Wn J6
abbrev Jp:Type:=List (Nd)->(Nd->Option (Int))->Bool->Int->Int->Int->(A3->Option (Int))->(Int->List (Nd)->(Nd->Option (Int))->Bool->(A3->Option (Int))->Prop)->Prop
def Ha (Q4:J5) (W4:U1) (Z9:Wo) (X:Jp):Jp:=fun ns ids full f g h known K=>Cnd (f=(-2:Int)) (K g ns ids full known) (Cnd (g=h) (K g ns ids full known) (Cnd (f=(-1:Int)) (K h ns ids full known) (Cnd ((known (f,g,h)).isSome=true) (K ((known (f,g,h)).getD (0:Int)) ns ids full known) (Q4 ns ids full f fun Qb (Q6:List (Int×Int×Int)) q4y q8d=>Q4 Q6 q4y q8d g fun Qd (Z1:List (Int×Int×Int)) z84 j7i=>Q4 Z1 z84 j7i h fun Qh (Zk:List (Int×Int×Int)) q7n w5y=>W4 Zk q7n w5y f (Min.min (Min.min Qb Qd) Qh) fun Qm H9 (x3_2:List (Int×Int×Int)) Y3_3 x3_4=>W4 x3_2 Y3_3 x3_4 g (Min.min (Min.min Qb Qd) Qh) fun Qk Wm (z42:List (Int×Int×Int)) Y4_3 x4_4=>W4 z42 Y4_3 x4_4 h (Min.min (Min.min Qb Qd) Qh) fun Qw q7i (x5_2:List (Int×Int×Int)) Y5_3 x5_4=>X x5_2 Y5_3 x5_4 Qm Qk Qw known fun Zx (z7r:List (Int×Int×Int)) u91 u92 Y6_4=>X z7r u91 u92 H9 Wm q7i Y6_4 fun Um (j4k:List (Int×Int×Int)) Y7_2 x7_3 Y7_4=>Jn4 (fun Un (u7b:List (Int×Int×Int)) x8_2 Y8_3=>K Un u7b Y8_3 x8_2 (put Y7_4 (f,g,h) Un)) fun u6c=>Cnd (Zx=(-1002:Int)) (u6c (-1002:Int) j4k x7_3 Y7_2) (Cnd (Um=(-1002:Int)) (u6c (-1002:Int) j4k x7_3 Y7_2) (Z9 j4k Y7_2 x7_3 (Min.min (Min.min Qb Qd) Qh) Zx Um fun Q5 (j11:List (Int×Int×Int)) Y9_2 x9_3=>u6c Q5 j11 x9_3 Y9_2))))))
def Hb:Jp:=fun ns ids full f g h known K=> ∀X:Jp,(∀ns ids full f g h known K,Ha J6 Vz J7 X ns ids full f g h known K->X ns ids full f g h known K)->X ns ids full f g h known K
abbrev Zt:Type:=List (Nd)->(Nd->Option (Int))->Bool->Int->Int->Int->(Int->List (Nd)->(Nd->Option (Int))->Bool->Prop)->Prop
def z1n (Qr:Zd) (Qx:Jh) (Uf:Jp):Zt:=fun ns ids full f g h K=>Qr ns ids full f fun Qb (Q6:List (Int×Int×Int)) q4y q8d=>Cnd (Qb=true) (Qx Q6 q4y q8d g fun Qd (Z1:List (Int×Int×Int)) z84 j7i=>Cnd (Qd=true) (Qx Z1 z84 j7i h fun Qh (Zk:List (Int×Int×Int)) q7n w5y=>Cnd (Qh=true) (Uf Zk q7n w5y f g h (fun _=>none) fun Qm (H9:List (Int×Int×Int)) w8b u3j _=>K Qm H9 w8b u3j) (K (-1002:Int) Zk q7n w5y)) (K (-1002:Int) Z1 z84 j7i)) (K (-1002:Int) Q6 q4y q8d)
def Jq:Zt:=z1n Z3 Wn Hb
abbrev Ba:Type:=List (Nd)->(Nd->Option (Int))->Bool->Int->(Int->List (Nd)->(Nd->Option (Int))->Bool->Prop)->Prop
def z9c (Qy:Zt):Ba:=fun ns ids full f K=>Qy ns ids full f (-1:Int) (-2:Int) fun Qb (Q6:List (Int×Int×Int)) q4y q8d=>K Qb Q6 q4y q8d
def Bb:Ba:=z9c Jq
abbrev Bc:Type:=List (Nd)->(Nd->Option (Int))->Bool->Int->Int->(Int->List (Nd)->(Nd->Option (Int))->Bool->Prop)->Prop
def z9d (Qr:Zd) (Qy:Zt):Bc:=fun ns ids full f g K=>Qr ns ids full g fun Qb (Q6:List (Int×Int×Int)) q4y q8d=>Cnd (Qb=true) (Qy Q6 q4y q8d f g (-1:Int) fun Qd (Z1:List (Int×Int×Int)) z84 j7i=>K Qd Z1 z84 j7i) (K (-1002:Int) Q6 q4y q8d)
def Bd:Bc:=z9d Z3 Jq
abbrev V4:Type:=List (Nd)->(Nd->Option (Int))->Bool->Int->Int->(Int->List (Nd)->(Nd->Option (Int))->Bool->Prop)->Prop
def j2k (Qr:Zd) (Qy:Zt):V4:=fun ns ids full f g K=>Qr ns ids full g fun Qb (Q6:List (Int×Int×Int)) q4y q8d=>Cnd (Qb=true) (Qy Q6 q4y q8d f (-2:Int) g fun Qd (Z1:List (Int×Int×Int)) z84 j7i=>K Qd Z1 z84 j7i) (K (-1002:Int) Q6 q4y q8d)
def Ge:V4:=j2k Z3 Jq
abbrev Wp:Type:=List (Nd)->(Nd->Option (Int))->Bool->List (Ex)->Ex->(Int->List (Nd)->(Nd->Option (Int))->Bool->Prop)->Prop
def q8z (Bj:Ba) (Bk:Bc) (Jw:V4) (Wv:Rd) (Z9:Wo) (X:Wp):Wp:=fun ns ids full atoms e K=>Cnd (e.1=(1:Int)) (K (-2:Int) ns ids full) (Cnd (e.1=(4:Int)) (((0:Int)<=(0:Int)/\(0:Int)<(↑e.5.length:Int))/\ ∀y0,e.5[Int.toNat (0:Int)]? =some y0->X ns ids full atoms (Ex.mk y0.1 y0.2 y0.3 y0.4 y0.5) fun Qh (Zk:List (Int×Int×Int)) q7n w5y=>Bj Zk q7n w5y Qh fun Qm (H9:List (Int×Int×Int)) w8b u3j=>K Qm H9 w8b u3j) (Jn1 (fun Qb=>Cnd (Qb=true) (((0:Int)<=(0:Int)/\(0:Int)<(↑e.5.length:Int))/\ ∀y1,e.5[Int.toNat (0:Int)]? =some y1->X ns ids full atoms (Ex.mk y1.1 y1.2 y1.3 y1.4 y1.5) fun Qm (H9:List (Int×Int×Int)) w8b u3j=>Lp5 (fun Qk Wm (z42:List (Int×Int×Int)) u3k Y4_4 Y4_5=>e.5.length<=(9223372036854775807:Nat)->Cnd (Wm<(↑e.5.length:Int)) (((0:Int)<=Wm/\Wm<(↑e.5.length:Int))/\ ∀y6,e.5[Wm.toNat]? =some y6->X z42 Y4_4 u3k atoms (Ex.mk y6.1 y6.2 y6.3 y6.4 y6.5) fun Un (u7b:List (Int×Int×Int)) Y8_2 x8_3=>Cnd (e.1=(2:Int)) (Bk u7b Y8_2 x8_3 Qk Un fun Q5 (j11:List (Int×Int×Int)) Y9_2 x9_3=>InI (Wm+(1:Int))/\Y4_5 Q5 (Wm+(1:Int)) j11 x9_3 Y9_2) (Jw u7b Y8_2 x8_3 Qk Un fun Q5 (j11:List (Int×Int×Int)) Y9_2 x9_3=>InI (Wm+(1:Int))/\Y4_5 Q5 (Wm+(1:Int)) j11 x9_3 Y9_2)) (K Qk z42 Y4_4 u3k)) Qm (1:Int) H9 u3j w8b) (Wv atoms (Ex.mk e.1 e.2 e.3 e.4 e.5) fun Qd=>Cnd (Qd<(0:Int)) (K (-1002:Int) ns ids full) (Z9 ns ids full Qd (-2:Int) (-1:Int) fun Qh (Zk:List (Int×Int×Int)) q7n w5y=>K Qh Zk q7n w5y))) fun z2y=>Cnd (e.1=(2:Int)) (z2y (decide (e.1=(2:Int)))) (z2y (decide (e.1=(3:Int))))))
def B5:Wp:=fun ns ids full atoms e K=> ∀X:Wp,(∀ns ids full atoms e K,q8z Bb Bd Ge Gy J7 X ns ids full atoms e K->X ns ids full atoms e K)->X ns ids full atoms e K
abbrev Jr:Type:=List (Rul)->(List (Int)->Int->Bool->Prop)->Prop
def q41 (z2o:z5i) (Hw:G8) (Hx:Wp) (Jw:V4):Jr:=fun l K=>z2o fun (Qb:List (Int×Int×Int)) q61 j7h=>Hw l fun Qd=>LpH (fun Qh j7j=>l.length<=(9223372036854775807:Nat)->Cnd (Qh.snd.snd.fst<(↑l.length:Int)) (((0:Int)<=Qh.snd.snd.fst/\Qh.snd.snd.fst<(↑l.length:Int))/\ ∀y4,l[Qh.snd.snd.fst.toNat]? =some y4->Hx Qh.snd.snd.snd.fst Qh.snd.snd.snd.snd.snd.fst Qh.snd.snd.snd.snd.fst Qd (Ex.mk y4.2.1 y4.2.2 y4.2.3 y4.2.4 y4.2.5) fun Zx (z7r:List (Int×Int×Int)) u91 u92=>Jw z7r u91 u92 Qh.fst Zx fun Um (j4k:List (Int×Int×Int)) Y7_2 x7_3=>Cnd (Um=(-1002:Int)) (j4k.length<=(9223372036854775807:Nat)->K [] (↑j4k.length:Int) false) (Cnd (Um=Qh.fst) (InI (Qh.snd.snd.fst+(1:Int))/\Sml (Qh.snd.fst++[Qh.snd.snd.fst+(1:Int)]).length/\InI (Qh.snd.snd.fst+(1:Int))/\j7j (Um,Qh.snd.fst++[Qh.snd.snd.fst+(1:Int)],Qh.snd.snd.fst+(1:Int),j4k,x7_3,Y7_2,())) (InI (Qh.snd.snd.fst+(1:Int))/\j7j (Um,Qh.snd.fst,Qh.snd.snd.fst+(1:Int),j4k,x7_3,Y7_2,())))) (Qh.snd.snd.snd.fst.length<=(9223372036854775807:Nat)->K Qh.snd.fst (↑Qh.snd.snd.snd.fst.length:Int) true)) ((-1:Int),[],(0:Int),Qb,j7h,q61,())
def W8:Jr:=q41 w2d B4 B5 Ge
abbrev z1o:Type:=List (Int)->Int->ByteArray->(Lay_->Int->Prop)->Prop
def w2e (Jk:Rb) (Qa:Q7) (Wa:q2a):z1o:=fun list at_ key K=>Jk list at_ fun Qb Q6=>Qa list Q6 (3:Int) fun Qd Z1=>InI (Qd*(50:Int))/\Jn2 (fun Qh Zk=>Jn2 (fun Qm H9=>Lp4 (fun Qk Wm z42 u3k Y4_4=>Qa list u3k (3:Int) fun Qw q7i=>Cnd (Wm<Qw) (Wa list q7i (3000:Int) fun Zx z7r=>InI (Qk+Zx)/\InI (Qk+Zx+(1:Int))/\Wa list z7r (2000:Int) fun Um j4k=>InI (Qk+Zx+(1:Int)+Um)/\Cnd ((10000:Int)<Qk+Zx+(1:Int)+Um) (K (Lay_.mk key Qh Qb Qm (Qd*(50:Int)) z42) j4k) (Qa list j4k (200:Int) fun Un u7b=>Sml (z42++[Col.mk (Qk+Zx) (Qk+Zx+(1:Int)+Um) Un]).length/\InI (Wm+(1:Int))/\Y4_4 (Qk+Zx+(1:Int)+Um) (Wm+(1:Int)) (z42++[Col.mk (Qk+Zx) (Qk+Zx+(1:Int)+Um) Un]) u7b)) (K (Lay_.mk key Qh Qb Qm (Qd*(50:Int)) z42) q7i)) (0:Int) (0:Int) [] H9) fun u3f=>Qa list Zk (2:Int) fun Qk Wm=>Cnd (Qk=(1:Int)) (Wa list Wm (3000:Int) fun Qw q7i=>u3f Qw q7i) (u3f (0:Int) Wm)) fun v7v=>Qa list Z1 (4:Int) fun Qm H9=>Cnd (Qm=(1:Int)) (v7v (ByteArray.mk (Array.mk [100,101,118,105,99,101])) H9) (v7v (ByteArray.mk (Array.mk [117,115,101,114])) H9)
def z5m:z1o:=w2e q3p Zv q7r
abbrev z1p:Type:=Int->(Bool->Prop)->Prop
def z1q:z1p:=fun now K=>Cnd ((0:Int)<=now) (K (decide (now<=(1099511627776:Int)))) (K false)
abbrev Wq:Type:=Envt->ByteArray->(Int->Prop)->Prop
def Gf:Wq:=fun v key K=>Lp1 (fun Qb q61=>v.5.length<=(9223372036854775807:Nat)->Cnd (Qb<(↑v.5.length:Int)) (((0:Int)<=Qb/\Qb<(↑v.5.length:Int))/\ ∀y2,v.5[Qb.toNat]? =some y2->Cnd (y2.1=key) (K Qb) (InI (Qb+(1:Int))/\q61 (Qb+(1:Int)))) (K (-1:Int))) (0:Int)
abbrev B6:Type:=List (Col)->Int->(List (Int)->Prop)->Prop
def B7:B6:=fun l now K=>((0:Int)<=(10000:Int)/\(10000:Int)<=(10000:Int)/\Sml (Int.toNat (10000:Int)))/\Lp2 (fun Qb Q6 q4y=>Q6.length<=(9223372036854775807:Nat)->Cnd (Qb<(↑Q6.length:Int)) (((0:Int)<=Qb/\Qb<(↑Q6.length:Int))/\ ∀y2,Q6[Qb.toNat]? =some y2->InI (Qb+(1:Int))/\q4y (Qb+(1:Int)) (Q6.set Qb.toNat now)) (Lp2 (fun Qh Zk q7n=>l.length<=(9223372036854775807:Nat)->Cnd (Qh<(↑l.length:Int)) (((0:Int)<=Qh/\Qh<(↑l.length:Int))/\ ∀y4,l[Qh.toNat]? =some y4->Lp2 (fun Zx z7r u91=>((0:Int)<=Qh/\Qh<(↑l.length:Int))/\ ∀y7,l[Qh.toNat]? =some y7->Cnd (Zx<Min.min y7.2 (10000:Int)) (((0:Int)<=Zx/\Zx<(↑z7r.length:Int))/\ ∀y9,z7r[Zx.toNat]? =some y9->((0:Int)<=Qh/\Qh<(↑l.length:Int))/\ ∀y11,l[Qh.toNat]? =some y11->((0:Int)<=Zx/\Zx<(↑z7r.length:Int))/\ ∀y13,z7r[Zx.toNat]? =some y13->InI (Zx+(1:Int))/\u91 (Zx+(1:Int)) (z7r.set Zx.toNat (Max.max y9 y11.3))) (InI (Qh+(1:Int))/\q7n (Qh+(1:Int)) z7r)) (Max.max y4.1 (0:Int)) Zk) (K Zk)) (0:Int) Q6)) (0:Int) (List.replicate (Int.toNat (10000:Int)) (0:Int))
abbrev Jm:Type:=List (Bool)->(List (Spn)->Prop)->Prop
def W9:Jm:=fun set_ K=>Lp2 (fun Qb Q6 q4y=>set_.length<=(9223372036854775807:Nat)->Cnd (Q6<(↑set_.length:Int)) (((0:Int)<=Q6/\Q6<(↑set_.length:Int))/\ ∀y2,set_[Q6.toNat]? =some y2->Cnd (y2=true) (Cnd ((0:Int)<Q6) (InI (Q6 - (1:Int))/\((0:Int)<=Q6 - (1:Int)/\Q6 - (1:Int)<(↑set_.length:Int))/\ ∀y4,set_[(Q6 - (1:Int)).toNat]? =some y4->Cnd (y4=true) (Qb.length<=(9223372036854775807:Nat)->InI ((↑Qb.length:Int) - (1:Int))/\InI (Q6+(1:Int))/\((0:Int)<=(↑Qb.length:Int) - (1:Int)/\(↑Qb.length:Int) - (1:Int)<(↑Qb.length:Int))/\ ∀y7,Qb[((↑Qb.length:Int) - (1:Int)).toNat]? =some y7->InI (Q6+(1:Int))/\q4y (Qb.set ((↑Qb.length:Int) - (1:Int)).toNat (Spn.mk y7.1 (Q6+(1:Int)))) (Q6+(1:Int))) (InI (Q6+(1:Int))/\Sml (Qb++[Spn.mk Q6 (Q6+(1:Int))]).length/\InI (Q6+(1:Int))/\q4y (Qb++[Spn.mk Q6 (Q6+(1:Int))]) (Q6+(1:Int)))) (InI (Q6+(1:Int))/\Sml (Qb++[Spn.mk Q6 (Q6+(1:Int))]).length/\InI (Q6+(1:Int))/\q4y (Qb++[Spn.mk Q6 (Q6+(1:Int))]) (Q6+(1:Int)))) (InI (Q6+(1:Int))/\q4y Qb (Q6+(1:Int)))) (K Qb)) [] (0:Int)
abbrev q42:Type:=List (Int)->Int->(List (Spn)->Prop)->Prop
def j0b (Qz:Jm):q42:=fun until_ now K=>until_.length<=(9223372036854775807:Nat)->((0:Int)<=(↑until_.length:Int)/\(↑until_.length:Int)<=(↑until_.length:Int)/\Sml (↑until_.length:Int).toNat)/\Lp2 (fun Qd Z1 z84=>until_.length<=(9223372036854775807:Nat)->Cnd (Qd<(↑until_.length:Int)) (((0:Int)<=Qd/\Qd<(↑until_.length:Int))/\ ∀y3,until_[Qd.toNat]? =some y3->((0:Int)<=Qd/\Qd<(↑Z1.length:Int))/\ ∀y5,Z1[Qd.toNat]? =some y5->InI (Qd+(1:Int))/\z84 (Qd+(1:Int)) (Z1.set Qd.toNat (decide (now<y3)))) (Qz Z1 fun Qm=>K Qm)) (0:Int) (List.replicate (↑until_.length:Int).toNat false)
def q80:q42:=j0b W9
abbrev Gg:Type:=List (Spn)->(List (Bool)->Prop)->Prop
def B8:Gg:=fun l K=>((0:Int)<=(10000:Int)/\(10000:Int)<=(10000:Int)/\Sml (Int.toNat (10000:Int)))/\Lp2 (fun Qb Q6 q4y=>l.length<=(9223372036854775807:Nat)->Cnd (Qb<(↑l.length:Int)) (((0:Int)<=Qb/\Qb<(↑l.length:Int))/\ ∀y2,l[Qb.toNat]? =some y2->Lp2 (fun Qk Wm v7w=>((0:Int)<=Qb/\Qb<(↑l.length:Int))/\ ∀y5,l[Qb.toNat]? =some y5->Cnd (Qk<Min.min y5.2 (10000:Int)) (((0:Int)<=Qk/\Qk<(↑Wm.length:Int))/\ ∀y7,Wm[Qk.toNat]? =some y7->InI (Qk+(1:Int))/\v7w (Qk+(1:Int)) (Wm.set Qk.toNat true)) (InI (Qb+(1:Int))/\q4y (Qb+(1:Int)) Wm)) (Max.max y2.1 (0:Int)) Q6) (K Q6)) (0:Int) (List.replicate (Int.toNat (10000:Int)) false)
abbrev q43:Type:=List (Spn)->List (Spn)->(List (Spn)->Prop)->Prop
def j0c (Zr:Gg) (Qz:Jm):q43:=fun a b K=>Zr a fun Qb=>Zr b fun Qd=>Lp2 (fun Qh Zk q7n=>Zk.length<=(9223372036854775807:Nat)->Cnd (Qh<(↑Zk.length:Int)) (((0:Int)<=Qh/\Qh<(↑Zk.length:Int))/\ ∀y4,Zk[Qh.toNat]? =some y4->Cnd (y4=true) (((0:Int)<=Qh/\Qh<(↑Zk.length:Int))/\ ∀y6,Zk[Qh.toNat]? =some y6->InI (Qh+(1:Int))/\q7n (Qh+(1:Int)) (Zk.set Qh.toNat true)) (((0:Int)<=Qh/\Qh<(↑Qd.length:Int))/\ ∀y6,Qd[Qh.toNat]? =some y6->((0:Int)<=Qh/\Qh<(↑Zk.length:Int))/\ ∀y8,Zk[Qh.toNat]? =some y8->InI (Qh+(1:Int))/\q7n (Qh+(1:Int)) (Zk.set Qh.toNat y6))) (Qz Zk fun Qk=>K Qk)) (0:Int) Qb
def q81:q43:=j0c B8 W9
abbrev q44:Type:=Envt->ByteArray->ByteArray->Int->(List (Spn)->Prop)->Prop
def j0d (Zg:Wq) (Ru:q43) (Uw:B6) (q0r:q42):q44:=fun v layer but now K=>Zg (Envt.mk (Sett.mk v.1.1 v.1.2 v.1.3) v.2 v.3 v.4 v.5 v.6) layer fun Qb=>Cnd (Qb<(0:Int)) (K []) (Jn1 (fun Qd=>Lp2 (fun Qh Zk q7n=>v.6.length<=(9223372036854775807:Nat)->Cnd (Zk<(↑v.6.length:Int)) (((0:Int)<=Zk/\Zk<(↑v.6.length:Int))/\ ∀y4,v.6[Zk.toNat]? =some y4->Cnd (y4.2=layer) (Cnd (y4.1=but) (InI (Zk+(1:Int))/\q7n Qh (Zk+(1:Int))) (Cnd (y4.5=(3:Int)) (InI (Zk+(1:Int))/\q7n Qh (Zk+(1:Int))) (Ru Qh y4.6 fun Zx=>InI (Zk+(1:Int))/\q7n Zx (Zk+(1:Int))))) (InI (Zk+(1:Int))/\q7n Qh (Zk+(1:Int)))) (K Qh)) Qd (0:Int)) fun w9k=>((0:Int)<=Qb/\Qb<(↑v.5.length:Int))/\ ∀y2,v.5[Qb.toNat]? =some y2->((0:Int)<=Qb/\Qb<(↑v.5.length:Int))/\ ∀y4,v.5[Qb.toNat]? =some y4->(Uw y4.6 now fun Zx=>q0r Zx now fun Um=>Ru [Spn.mk (0:Int) y2.4] Um fun Un=>w9k Un)/\Uw y4.6 now fun Zx=>(q0r Zx now fun Um=>Ru [Spn.mk (0:Int) y2.4] Um fun Un=>w9k Un)/\q0r Zx now fun Um=>Ru [Spn.mk (0:Int) y2.4] Um fun Un=>w9k Un)
def q82:q44:=j0d Gf q81 B7 q80
abbrev Re:Type:=List (Spn)->List (Spn)->(List (Spn)->Prop)->Prop
def j0e (Zr:Gg) (Qz:Jm):Re:=fun a b K=>Zr a fun Qb=>Zr b fun Qd=>Lp2 (fun Qh Zk q7n=>Zk.length<=(9223372036854775807:Nat)->Cnd (Qh<(↑Zk.length:Int)) (((0:Int)<=Qh/\Qh<(↑Zk.length:Int))/\ ∀y4,Zk[Qh.toNat]? =some y4->Cnd (y4=true) (((0:Int)<=Qh/\Qh<(↑Qd.length:Int))/\ ∀y6,Qd[Qh.toNat]? =some y6->((0:Int)<=Qh/\Qh<(↑Zk.length:Int))/\ ∀y8,Zk[Qh.toNat]? =some y8->InI (Qh+(1:Int))/\q7n (Qh+(1:Int)) (Zk.set Qh.toNat (match decide (y6=true) with|true=>false|false=>true))) (((0:Int)<=Qh/\Qh<(↑Zk.length:Int))/\ ∀y6,Zk[Qh.toNat]? =some y6->InI (Qh+(1:Int))/\q7n (Qh+(1:Int)) (Zk.set Qh.toNat false))) (Qz Zk fun Qk=>K Qk)) (0:Int) Qb
def q2f:Re:=j0e B8 W9
abbrev q75:Type:=Envt->ByteArray->Int->(List (Spn)->Int->Prop)->Prop
def j45 (q8e:z1p) (Zg:Wq) (q52:q44) (Ve:Re):q75:=fun v layer now K=>q8e now fun Qb=>Cnd (Qb=true) (Zg (Envt.mk (Sett.mk v.1.1 v.1.2 v.1.3) v.2 v.3 v.4 v.5 v.6) layer fun Qd=>Cnd (Qd<(0:Int)) (K [] (11:Int)) (q52 (Envt.mk (Sett.mk v.1.1 v.1.2 v.1.3) v.2 v.3 v.4 v.5 v.6) layer (ByteArray.mk (Array.mk [])) now fun Qh=>Ve [Spn.mk (0:Int) (10000:Int)] Qh fun Qm=>K Qm (0:Int))) (K [] (3:Int))
def z1r:q75:=j45 z1q Gf q82 q2f
abbrev q45:Type:=List (Spn)->Int->(List (Spn)->Prop)->Prop
def j0f (Zr:Gg) (Qz:Jm):q45:=fun l n K=>Zr l fun Qb=>Lp3 (fun Qd Z1 z47 u6b=>z47.length<=(9223372036854775807:Nat)->Cnd (Z1<(↑z47.length:Int)) (((0:Int)<=Z1/\Z1<(↑z47.length:Int))/\ ∀y3,z47[Z1.toNat]? =some y3->Cnd (y3=true) (Cnd (Qd<=(0:Int)) (((0:Int)<=Z1/\Z1<(↑z47.length:Int))/\ ∀y5,z47[Z1.toNat]? =some y5->InI (Z1+(1:Int))/\u6b Qd (Z1+(1:Int)) (z47.set Z1.toNat false)) (((0:Int)<=Z1/\Z1<(↑z47.length:Int))/\ ∀y5,z47[Z1.toNat]? =some y5->Cnd (y5=true) (InI (Qd - (1:Int))/\InI (Z1+(1:Int))/\u6b (Qd - (1:Int)) (Z1+(1:Int)) z47) (InI (Z1+(1:Int))/\u6b Qd (Z1+(1:Int)) z47))) (((0:Int)<=Z1/\Z1<(↑z47.length:Int))/\ ∀y5,z47[Z1.toNat]? =some y5->Cnd (y5=true) (InI (Qd - (1:Int))/\InI (Z1+(1:Int))/\u6b (Qd - (1:Int)) (Z1+(1:Int)) z47) (InI (Z1+(1:Int))/\u6b Qd (Z1+(1:Int)) z47))) (Qz z47 fun Qm=>K Qm)) n (0:Int) Qb
def q83:q45:=j0f B8 W9
abbrev Wr:Type:=ByteArray->(Bool->Prop)->Prop
def Ws (s:ByteArray) (K:Bool->Prop):Prop:=s.size<=(9223372036854775807:Nat)/\K (Go.Lib.validD s.data.toList)
abbrev Zy:Type:=ByteArray->(Bool->Prop)->Prop
def z77 (Zh:Wr):Zy:=fun s K=>Cnd ((200:Int)<(↑s.size:Int)) (K false) (Zh s fun Qb=>Cnd (Qb=true) (Lp1 (fun Qd q3i=>Cnd (Qd<(↑s.size:Int)) (((0:Int)<=Qd/\Qd<(↑s.size:Int))/\ ∀b2,s[Qd.toNat]? =some b2->Cnd ((↑b2.toNat:Int)<(32:Int)) (K false) (((0:Int)<=Qd/\Qd<(↑s.size:Int))/\ ∀b4,s[Qd.toNat]? =some b4->Cnd ((↑b4.toNat:Int)=(127:Int)) (K false) (InI (Qd+(1:Int))/\q3i (Qd+(1:Int))))) (K true)) (0:Int)) (K false))
def Js:Zy:=z77 Ws
abbrev z5n:Type:=ByteArray->(Bool->Prop)->Prop
def z5o:z5n:=fun s K=>Lp1 (fun Qb q61=>Cnd (Qb<(↑s.size:Int)) (((0:Int)<=Qb/\Qb<(↑s.size:Int))/\ ∀b1,s[Qb.toNat]? =some b1->Cnd ((97:Int)<=(↑b1.toNat:Int)) (Cnd ((↑b1.toNat:Int)<=(122:Int)) (InI (Qb+(1:Int))/\q61 (Qb+(1:Int))) (Cnd (Qb=(0:Int)) (K false) (Cnd ((48:Int)<=(↑b1.toNat:Int)) (Cnd ((↑b1.toNat:Int)<=(57:Int)) (InI (Qb+(1:Int))/\q61 (Qb+(1:Int))) (Cnd ((↑b1.toNat:Int)=(45:Int)) (InI (Qb+(1:Int))/\q61 (Qb+(1:Int))) (Cnd ((↑b1.toNat:Int)=(95:Int)) (InI (Qb+(1:Int))/\q61 (Qb+(1:Int))) (K false)))) (Cnd ((↑b1.toNat:Int)=(45:Int)) (InI (Qb+(1:Int))/\q61 (Qb+(1:Int))) (Cnd ((↑b1.toNat:Int)=(95:Int)) (InI (Qb+(1:Int))/\q61 (Qb+(1:Int))) (K false)))))) (Cnd (Qb=(0:Int)) (K false) (Cnd ((48:Int)<=(↑b1.toNat:Int)) (Cnd ((↑b1.toNat:Int)<=(57:Int)) (InI (Qb+(1:Int))/\q61 (Qb+(1:Int))) (Cnd ((↑b1.toNat:Int)=(45:Int)) (InI (Qb+(1:Int))/\q61 (Qb+(1:Int))) (Cnd ((↑b1.toNat:Int)=(95:Int)) (InI (Qb+(1:Int))/\q61 (Qb+(1:Int))) (K false)))) (Cnd ((↑b1.toNat:Int)=(45:Int)) (InI (Qb+(1:Int))/\q61 (Qb+(1:Int))) (Cnd ((↑b1.toNat:Int)=(95:Int)) (InI (Qb+(1:Int))/\q61 (Qb+(1:Int))) (K false)))))) (K (decide ((0:Int)<(↑s.size:Int))))) (0:Int)
abbrev q3r:Type:=(List (ByteArray)->Prop)->Prop
def q3s:q3r:=fun K=>K [ByteArray.mk (Array.mk [97,110,100]),ByteArray.mk (Array.mk [97,114,109,115]),ByteArray.mk (Array.mk [97,116,116,114,105,98,117,116,101]),ByteArray.mk (Array.mk [98,111,111,108]),ByteArray.mk (Array.mk [99,108,97,105,109,115]),ByteArray.mk (Array.mk [99,111,110,116,97,105,110,115]),ByteArray.mk (Array.mk [99,111,111,108]),ByteArray.mk (Array.mk [99,111,111,108,105,110,103]),ByteArray.mk (Array.mk [100,101,102,97,117,108,116]),ByteArray.mk (Array.mk [100,114,97,102,116]),ByteArray.mk (Array.mk [101,110,100,115]),ByteArray.mk (Array.mk [101,120,99,108,117,100,101]),ByteArray.mk (Array.mk [101,120,105,115,116,115]),ByteArray.mk (Array.mk [101,120,112,101,114,105,109,101,110,116]),ByteArray.mk (Array.mk [102,97,108,115,101]),ByteArray.mk (Array.mk [102,108,97,103]),ByteArray.mk (Array.mk [104,111,108,100,111,117,116]),ByteArray.mk (Array.mk [105,110]),ByteArray.mk (Array.mk [105,110,99,108,117,100,101]),ByteArray.mk (Array.mk [105,115]),ByteArray.mk (Array.mk [108,97,121,101,114]),ByteArray.mk (Array.mk [108,105,115,116]),ByteArray.mk (Array.mk [109,101,109,98,101,114]),ByteArray.mk (Array.mk [110,101,101,100,115]),ByteArray.mk (Array.mk [110,111,116]),ByteArray.mk (Array.mk [110,117,109,98,101,114]),ByteArray.mk (Array.mk [111,102,102]),ByteArray.mk (Array.mk [111,110]),ByteArray.mk (Array.mk [111,114]),ByteArray.mk (Array.mk [114,117,108,101]),ByteArray.mk (Array.mk [114,117,110,110,105,110,103]),ByteArray.mk (Array.mk [115,97,108,116]),ByteArray.mk (Array.mk [115,101,103,109,101,110,116]),ByteArray.mk (Array.mk [115,101,114,118,101]),ByteArray.mk (Array.mk [115,101,116,116,105,110,103,115]),ByteArray.mk (Array.mk [115,112,108,105,116]),ByteArray.mk (Array.mk [115,116,97,114,116,115]),ByteArray.mk (Array.mk [115,116,111,112,112,101,100]),ByteArray.mk (Array.mk [116,97,114,103,101,116]),ByteArray.mk (Array.mk [116,101,120,116]),ByteArray.mk (Array.mk [116,111]),ByteArray.mk (Array.mk [116,114,117,101]),ByteArray.mk (Array.mk [117,110,116,105,108]),ByteArray.mk (Array.mk [118,97,114,105,97,116,105,111,110,115]),ByteArray.mk (Array.mk [118,101,114,115,105,111,110]),ByteArray.mk (Array.mk [119,104,101,110])]
abbrev Zs:Type:=ByteArray->(Bool->Prop)->Prop
def v0h (z2p:z5n) (q1h:q3r):Zs:=fun s K=>z2p s fun Qb=>Cnd (Qb=true) (Cnd ((32:Int)<(↑s.size:Int)) (K false) (q1h fun Qd=>Lp1 (fun Qh j7j=>Qd.length<=(9223372036854775807:Nat)->Cnd (Qh<(↑Qd.length:Int)) (((0:Int)<=Qh/\Qh<(↑Qd.length:Int))/\ ∀y4,Qd[Qh.toNat]? =some y4->Cnd (y4=s) (K false) (InI (Qh+(1:Int))/\j7j (Qh+(1:Int)))) (K true)) (0:Int))) (K false)
def J8:Zs:=v0h z5o q3s
abbrev q0z:Type:=Sett->(Int->Prop)->Prop
def z3f (Qu:Zy) (Qn:Zs):q0z:=fun s K=>Qu s.1 fun Qb=>Cnd (Qb=true) (Cnd (s.3<(0:Int)) (K (3:Int)) (Cnd ((10000:Int)<s.3) (K (3:Int)) (Qn s.2 fun Qd=>Cnd (Qd=true) (K (0:Int)) (Cnd (s.2=ByteArray.mk (Array.mk [])) (Cnd (s.3=(0:Int)) (K (0:Int)) (K (6:Int))) (K (6:Int)))))) (K (2:Int))
def q3t:q0z:=z3f Js J8
abbrev q00:Type:=List (Decl)->(Int->Prop)->Prop
def z3g (Qn:Zs):q00:=fun l K=>l.length<=(9223372036854775807:Nat)->Cnd ((30:Int)<(↑l.length:Int)) (K (5:Int)) (Lp1 (fun Qd q3i=>l.length<=(9223372036854775807:Nat)->Cnd (Qd<(↑l.length:Int)) (((0:Int)<=Qd/\Qd<(↑l.length:Int))/\ ∀y3,l[Qd.toNat]? =some y3->Qn y3.1 fun Qw=>Cnd (Qw=true) (((0:Int)<=Qd/\Qd<(↑l.length:Int))/\ ∀y6,l[Qd.toNat]? =some y6->Qn y6.2 fun Un=>Cnd (Un=true) (((0:Int)<=Qd/\Qd<(↑l.length:Int))/\ ∀y9,l[Qd.toNat]? =some y9->Cnd (y9.2=ByteArray.mk (Array.mk [107,101,121])) (K (6:Int)) (((0:Int)<=Qd/\Qd<(↑l.length:Int))/\ ∀y11,l[Qd.toNat]? =some y11->Cnd (y11.3<(1:Int)) (K (7:Int)) (((0:Int)<=Qd/\Qd<(↑l.length:Int))/\ ∀y13,l[Qd.toNat]? =some y13->Cnd ((5:Int)<y13.3) (K (7:Int)) (Cnd ((0:Int)<Qd) (((0:Int)<=Qd/\Qd<(↑l.length:Int))/\ ∀y15,l[Qd.toNat]? =some y15->InI (Qd - (1:Int))/\((0:Int)<=Qd - (1:Int)/\Qd - (1:Int)<(↑l.length:Int))/\ ∀y17,l[(Qd - (1:Int)).toNat]? =some y17->Cnd (Lk.blt y15.1 y17.1) (K (9:Int)) (((0:Int)<=Qd/\Qd<(↑l.length:Int))/\ ∀y19,l[Qd.toNat]? =some y19->InI (Qd - (1:Int))/\((0:Int)<=Qd - (1:Int)/\Qd - (1:Int)<(↑l.length:Int))/\ ∀y21,l[(Qd - (1:Int)).toNat]? =some y21->Cnd (y19.1=y21.1) (((0:Int)<=Qd/\Qd<(↑l.length:Int))/\ ∀y23,l[Qd.toNat]? =some y23->InI (Qd - (1:Int))/\((0:Int)<=Qd - (1:Int)/\Qd - (1:Int)<(↑l.length:Int))/\ ∀y25,l[(Qd - (1:Int)).toNat]? =some y25->Cnd (Lk.blt y25.2 y23.2) (InI (Qd+(1:Int))/\q3i (Qd+(1:Int))) (K (9:Int))) (InI (Qd+(1:Int))/\q3i (Qd+(1:Int))))) (InI (Qd+(1:Int))/\q3i (Qd+(1:Int))))))) (K (6:Int))) (K (6:Int))) (K (0:Int))) (0:Int))
def q3u:q00:=z3g J8
abbrev Gh:Type:=List (ByteArray)->(Int->Prop)->Prop
def z5p (Qu:Zy):Gh:=fun l K=>l.length<=(9223372036854775807:Nat)->Cnd ((40:Int)<(↑l.length:Int)) (K (5:Int)) (Lp1 (fun Qd q3i=>l.length<=(9223372036854775807:Nat)->Cnd (Qd<(↑l.length:Int)) (((0:Int)<=Qd/\Qd<(↑l.length:Int))/\ ∀y3,l[Qd.toNat]? =some y3->Cnd (y3=ByteArray.mk (Array.mk [])) (K (2:Int)) (((0:Int)<=Qd/\Qd<(↑l.length:Int))/\ ∀y5,l[Qd.toNat]? =some y5->Qu y5 fun Um=>Cnd (Um=true) (Cnd ((0:Int)<Qd) (((0:Int)<=Qd/\Qd<(↑l.length:Int))/\ ∀y8,l[Qd.toNat]? =some y8->InI (Qd - (1:Int))/\((0:Int)<=Qd - (1:Int)/\Qd - (1:Int)<(↑l.length:Int))/\ ∀y10,l[(Qd - (1:Int)).toNat]? =some y10->Cnd (Lk.blt y10 y8) (InI (Qd+(1:Int))/\q3i (Qd+(1:Int))) (K (9:Int))) (InI (Qd+(1:Int))/\q3i (Qd+(1:Int)))) (K (2:Int)))) (K (0:Int))) (0:Int))
def B9:Gh:=z5p Js
abbrev z5q:Type:=Ex->(Bool->Prop)->Prop
def z5r:z5q:=fun e K=>Cnd (e.1=(0:Int)) (Cnd (e.2=ByteArray.mk (Array.mk [])) (Cnd (e.3=ByteArray.mk (Array.mk [])) (e.4.length<=(9223372036854775807:Nat)->Cnd ((↑e.4.length:Int)=(0:Int)) (e.5.length<=(9223372036854775807:Nat)->K (decide ((↑e.5.length:Int)=(0:Int)))) (K false)) (K false)) (K false)) (K false)
abbrev q46:Type:=Ex->(Bool->Prop)->Prop
def j0g (Q2:Wb):q46:=fun e K=>e.5.length<=(9223372036854775807:Nat)->e.4.length<=(9223372036854775807:Nat)->Jn2 (fun Qh Zk=>Q2 e.1 fun Qm=>Cnd (Qh=true) (Cnd (Zk=true) (Cnd (Qm=true) (Cnd (Qm=true) (K true) (Cnd (e.1=(5:Int)) (K true) (K (decide (e.3=ByteArray.mk (Array.mk [])))))) (Cnd (e.2=ByteArray.mk (Array.mk [])) (Cnd (Qm=true) (K true) (Cnd (e.1=(5:Int)) (K true) (K (decide (e.3=ByteArray.mk (Array.mk [])))))) (K false))) (K false)) (K false)) fun v7v=>Cnd (e.1=(2:Int)) (e.5.length<=(9223372036854775807:Nat)->v7v (decide ((2:Int)<=(↑e.5.length:Int))) (decide ((↑e.4.length:Int)=(0:Int)))) (Cnd (e.1=(3:Int)) (e.5.length<=(9223372036854775807:Nat)->v7v (decide ((2:Int)<=(↑e.5.length:Int))) (decide ((↑e.4.length:Int)=(0:Int)))) (Cnd (e.1=(4:Int)) (e.5.length<=(9223372036854775807:Nat)->v7v (decide ((↑e.5.length:Int)=(1:Int))) (decide ((↑e.4.length:Int)=(0:Int)))) (Cnd (e.1=(8:Int)) (e.4.length<=(9223372036854775807:Nat)->v7v (decide ((↑e.5.length:Int)=(0:Int))) (decide ((0:Int)<(↑e.4.length:Int)))) (Q2 e.1 fun Qm=>Cnd (Qm=true) (Cnd (e.1=(6:Int)) (v7v (decide ((↑e.5.length:Int)=(0:Int))) (decide ((↑e.4.length:Int)=(0:Int)))) (e.4.length<=(9223372036854775807:Nat)->v7v (decide ((↑e.5.length:Int)=(0:Int))) (decide ((↑e.4.length:Int)=(1:Int))))) (v7v (decide ((↑e.5.length:Int)=(0:Int))) (decide ((↑e.4.length:Int)=(0:Int))))))))
def q84:q46:=j0g Wc
abbrev z1s:Type:=Val->(Bool->Prop)->Prop
def q47:z1s:=fun v K=>Cnd (v.1=(1:Int)) (Cnd (v.1=(3:Int)) (Cnd (v.1=(5:Int)) (K true) (v.4.length<=(9223372036854775807:Nat)->K (decide ((↑v.4.length:Int)=(0:Int))))) (Cnd (v.1=(4:Int)) (Cnd (v.1=(5:Int)) (K true) (v.4.length<=(9223372036854775807:Nat)->K (decide ((↑v.4.length:Int)=(0:Int))))) (Cnd (v.3=ByteArray.mk (Array.mk [])) (Cnd (v.1=(5:Int)) (K true) (v.4.length<=(9223372036854775807:Nat)->K (decide ((↑v.4.length:Int)=(0:Int))))) (K false)))) (Cnd (v.1=(3:Int)) (Cnd (v.1=(2:Int)) (Cnd (v.1=(5:Int)) (K true) (v.4.length<=(9223372036854775807:Nat)->K (decide ((↑v.4.length:Int)=(0:Int))))) (Cnd (v.2=(0:Int)) (Cnd (v.1=(5:Int)) (K true) (v.4.length<=(9223372036854775807:Nat)->K (decide ((↑v.4.length:Int)=(0:Int))))) (K false))) (Cnd (v.1=(2:Int)) (Cnd (v.1=(4:Int)) (Cnd (v.1=(5:Int)) (K true) (v.4.length<=(9223372036854775807:Nat)->K (decide ((↑v.4.length:Int)=(0:Int))))) (Cnd (v.3=ByteArray.mk (Array.mk [])) (Cnd (v.1=(5:Int)) (K true) (v.4.length<=(9223372036854775807:Nat)->K (decide ((↑v.4.length:Int)=(0:Int))))) (K false))) (Cnd (v.2=(0:Int)) (Cnd (v.1=(4:Int)) (Cnd (v.1=(5:Int)) (K true) (v.4.length<=(9223372036854775807:Nat)->K (decide ((↑v.4.length:Int)=(0:Int))))) (Cnd (v.3=ByteArray.mk (Array.mk [])) (Cnd (v.1=(5:Int)) (K true) (v.4.length<=(9223372036854775807:Nat)->K (decide ((↑v.4.length:Int)=(0:Int))))) (K false))) (K false))))
abbrev R1:Type:=ByteArray->(Int->Int->Prop)->Prop
def W2:R1:=fun s K=>Jn1 (fun Qb=>Lp1 (fun Qd q3i=>Cnd (Qd<(↑Qb.size:Int)) (((0:Int)<=Qd/\Qd<(↑Qb.size:Int))/\ ∀b2,Qb[Qd.toNat]? =some b2->Cnd ((↑b2.toNat:Int)<(48:Int)) (K (0:Int) (1:Int)) (((0:Int)<=Qd/\Qd<(↑Qb.size:Int))/\ ∀b4,Qb[Qd.toNat]? =some b4->Cnd ((57:Int)<(↑b4.toNat:Int)) (K (0:Int) (1:Int)) (InI (Qd+(1:Int))/\q3i (Qd+(1:Int))))) (Cnd (Qb=ByteArray.mk (Array.mk [])) (K (0:Int) (1:Int)) (((0:Int)<=(0:Int)/\(0:Int)<(↑Qb.size:Int))/\ ∀b2,Qb[Int.toNat (0:Int)]? =some b2->Cnd ((↑b2.toNat:Int)=(48:Int)) (Cnd (s=ByteArray.mk (Array.mk [48])) (Cnd ((13:Int)<(↑Qb.size:Int)) (K (0:Int) (3:Int)) (Lp2 (fun Qk Wm v7w=>Cnd (Wm<(↑Qb.size:Int)) (InI ((10:Int)*Qk)/\((0:Int)<=Wm/\Wm<(↑Qb.size:Int))/\ ∀b5,Qb[Wm.toNat]? =some b5->InI (Go.IntKind.u8.wrap ((↑b5.toNat:Int) - (48:Int)))/\InI ((10:Int)*Qk+Go.IntKind.u8.wrap ((↑b5.toNat:Int) - (48:Int)))/\InI (Wm+(1:Int))/\v7w ((10:Int)*Qk+Go.IntKind.u8.wrap ((↑b5.toNat:Int) - (48:Int))) (Wm+(1:Int))) (Cnd ((1099511627776:Int)<Qk) (K (0:Int) (3:Int)) (Cnd ((↑Qb.size:Int)<(↑s.size:Int)) (InI ((0:Int) - Qk)/\K ((0:Int) - Qk) (0:Int)) (K Qk (0:Int))))) (0:Int) (0:Int))) (K (0:Int) (1:Int))) (Cnd ((13:Int)<(↑Qb.size:Int)) (K (0:Int) (3:Int)) (Lp2 (fun Qk Wm v7w=>Cnd (Wm<(↑Qb.size:Int)) (InI ((10:Int)*Qk)/\((0:Int)<=Wm/\Wm<(↑Qb.size:Int))/\ ∀b5,Qb[Wm.toNat]? =some b5->InI (Go.IntKind.u8.wrap ((↑b5.toNat:Int) - (48:Int)))/\InI ((10:Int)*Qk+Go.IntKind.u8.wrap ((↑b5.toNat:Int) - (48:Int)))/\InI (Wm+(1:Int))/\v7w ((10:Int)*Qk+Go.IntKind.u8.wrap ((↑b5.toNat:Int) - (48:Int))) (Wm+(1:Int))) (Cnd ((1099511627776:Int)<Qk) (K (0:Int) (3:Int)) (Cnd ((↑Qb.size:Int)<(↑s.size:Int)) (InI ((0:Int) - Qk)/\K ((0:Int) - Qk) (0:Int)) (K Qk (0:Int))))) (0:Int) (0:Int)))))) (0:Int)) fun z2y=>Cnd ((0:Int)<(↑s.size:Int)) (((0:Int)<=(0:Int)/\(0:Int)<(↑s.size:Int))/\ ∀b1,s[Int.toNat (0:Int)]? =some b1->Cnd ((↑b1.toNat:Int)=(45:Int)) (((0:Int)<=(1:Int)/\(1:Int)<=(↑s.size:Int)/\(↑s.size:Int)<=(↑s.size:Int))/\z2y (s.extract (Int.toNat (1:Int)) (↑s.size:Int).toNat)) (z2y s)) (z2y s)
abbrev q48:Type:=ByteArray->(A3->Bool->Prop)->Prop
def z78 (V1:R1):q48:=fun s K=>LpH (fun (Qb:Int×Int×Int×Int×Int×Int×Int×Int×Unit) q61=>Cnd (Qb.snd.fst<(3:Int)) (Lp1 (fun Qd q3i=>Cnd (Qd<(↑s.size:Int)) (((0:Int)<=Qd/\Qd<(↑s.size:Int))/\ ∀b2,s[Qd.toNat]? =some b2->Cnd ((↑b2.toNat:Int)=(46:Int)) (((0:Int)<=Qb.fst/\Qb.fst<=Qd/\Qd<=(↑s.size:Int))/\V1 (s.extract Qb.fst.toNat Qd.toNat) fun Qk Wm=>Cnd (Wm=(0:Int)) (Cnd (Qk<(0:Int)) (K ((0:Int),(0:Int),(0:Int)) false) (Cnd ((999999:Int)<Qk) (K ((0:Int),(0:Int),(0:Int)) false) (Cnd (decide (Qb.snd.fst<(2:Int))=decide (Qd<(↑s.size:Int))) (((0:Int)<=Qb.snd.fst/\Qb.snd.fst<(↑(3:Nat):Int))/\((True/\(Qb.snd.fst=(↑(nat_lit 0):Int)->InI (Qd+(1:Int))/\InI (Qb.snd.fst+(1:Int))/\q61 (Qd+(1:Int),Qb.snd.fst+(1:Int),Qk,Qb.snd.snd.snd.fst,Qb.snd.snd.snd.snd.fst,Qb.snd.snd.snd.snd.snd.fst,Qb.snd.snd.snd.snd.snd.snd.fst,Qb.snd.snd.snd.snd.snd.snd.snd.fst,())))/\(Qb.snd.fst=(↑(nat_lit 1):Int)->InI (Qd+(1:Int))/\InI (Qb.snd.fst+(1:Int))/\q61 (Qd+(1:Int),Qb.snd.fst+(1:Int),Qb.snd.snd.fst,Qk,Qb.snd.snd.snd.snd.fst,Qb.snd.snd.snd.snd.snd.fst,Qb.snd.snd.snd.snd.snd.snd.fst,Qb.snd.snd.snd.snd.snd.snd.snd.fst,())))/\(Qb.snd.fst=(↑(nat_lit 2):Int)->InI (Qd+(1:Int))/\InI (Qb.snd.fst+(1:Int))/\q61 (Qd+(1:Int),Qb.snd.fst+(1:Int),Qb.snd.snd.fst,Qb.snd.snd.snd.fst,Qk,Qb.snd.snd.snd.snd.snd.fst,Qb.snd.snd.snd.snd.snd.snd.fst,Qb.snd.snd.snd.snd.snd.snd.snd.fst,()))) (K ((0:Int),(0:Int),(0:Int)) false)))) (K ((0:Int),(0:Int),(0:Int)) false)) (InI (Qd+(1:Int))/\q3i (Qd+(1:Int)))) (((0:Int)<=Qb.fst/\Qb.fst<=Qd/\Qd<=(↑s.size:Int))/\V1 (s.extract Qb.fst.toNat Qd.toNat) fun Qh Zk=>Cnd (Zk=(0:Int)) (Cnd (Qh<(0:Int)) (K ((0:Int),(0:Int),(0:Int)) false) (Cnd ((999999:Int)<Qh) (K ((0:Int),(0:Int),(0:Int)) false) (Cnd (decide (Qb.snd.fst<(2:Int))=decide (Qd<(↑s.size:Int))) (((0:Int)<=Qb.snd.fst/\Qb.snd.fst<(↑(3:Nat):Int))/\((True/\(Qb.snd.fst=(↑(nat_lit 0):Int)->InI (Qd+(1:Int))/\InI (Qb.snd.fst+(1:Int))/\q61 (Qd+(1:Int),Qb.snd.fst+(1:Int),Qh,Qb.snd.snd.snd.fst,Qb.snd.snd.snd.snd.fst,Qb.snd.snd.snd.snd.snd.fst,Qb.snd.snd.snd.snd.snd.snd.fst,Qb.snd.snd.snd.snd.snd.snd.snd.fst,())))/\(Qb.snd.fst=(↑(nat_lit 1):Int)->InI (Qd+(1:Int))/\InI (Qb.snd.fst+(1:Int))/\q61 (Qd+(1:Int),Qb.snd.fst+(1:Int),Qb.snd.snd.fst,Qh,Qb.snd.snd.snd.snd.fst,Qb.snd.snd.snd.snd.snd.fst,Qb.snd.snd.snd.snd.snd.snd.fst,Qb.snd.snd.snd.snd.snd.snd.snd.fst,())))/\(Qb.snd.fst=(↑(nat_lit 2):Int)->InI (Qd+(1:Int))/\InI (Qb.snd.fst+(1:Int))/\q61 (Qd+(1:Int),Qb.snd.fst+(1:Int),Qb.snd.snd.fst,Qb.snd.snd.snd.fst,Qh,Qb.snd.snd.snd.snd.snd.fst,Qb.snd.snd.snd.snd.snd.snd.fst,Qb.snd.snd.snd.snd.snd.snd.snd.fst,()))) (K ((0:Int),(0:Int),(0:Int)) false)))) (K ((0:Int),(0:Int),(0:Int)) false))) Qb.fst) (K (Qb.snd.snd.fst,Qb.snd.snd.snd.fst,Qb.snd.snd.snd.snd.fst) true)) ((0:Int),(0:Int),(0:Int),(0:Int),(0:Int),(0:Int),(0:Int),(0:Int),())
def q2w:q48:=z78 W2
abbrev z1t:Type:=List (ByteArray)->(Int->Prop)->Prop
def j2l (Qu:Zy):z1t:=fun l K=>l.length<=(9223372036854775807:Nat)->Cnd ((20:Int)<(↑l.length:Int)) (K (5:Int)) (Lp1 (fun Qd q3i=>l.length<=(9223372036854775807:Nat)->Cnd (Qd<(↑l.length:Int)) (((0:Int)<=Qd/\Qd<(↑l.length:Int))/\ ∀y3,l[Qd.toNat]? =some y3->Qu y3 fun Qw=>Cnd (Qw=true) (InI (Qd+(1:Int))/\q3i (Qd+(1:Int))) (K (2:Int))) (Lp1 (fun Qm j13=>l.length<=(9223372036854775807:Nat)->Cnd (Qm<(↑l.length:Int)) (((0:Int)<=Qm/\Qm<(↑l.length:Int))/\ ∀y5,l[Qm.toNat]? =some y5->InI (Qm - (1:Int))/\((0:Int)<=Qm - (1:Int)/\Qm - (1:Int)<(↑l.length:Int))/\ ∀y7,l[(Qm - (1:Int)).toNat]? =some y7->Cnd (Lk.blt y7 y5) (InI (Qm+(1:Int))/\j13 (Qm+(1:Int))) (K (9:Int))) (K (0:Int))) (1:Int))) (0:Int))
def q85:z1t:=j2l Js
abbrev Be:Type:=Val->(Int->Prop)->Prop
def z79 (q8f:z1s) (Qu:Zy) (q1i:q48) (z2q:z1t):Be:=fun v K=>Cnd (v.1<(1:Int)) (K (7:Int)) (Cnd ((5:Int)<v.1) (K (7:Int)) (q8f v fun Qb=>Cnd (Qb=true) (Cnd (v.1=(1:Int)) (Cnd (v.2=(0:Int)) (K (0:Int)) (Cnd (v.2=(1:Int)) (K (0:Int)) (K (3:Int)))) (Cnd (v.1=(2:Int)) (Cnd (v.2<(-1099511627776:Int)) (K (3:Int)) (Cnd ((1099511627776:Int)<v.2) (K (3:Int)) (K (0:Int)))) (Cnd (v.1=(3:Int)) (Qu v.3 fun Qd=>Cnd (Qd=true) (K (0:Int)) (K (2:Int))) (Cnd (v.1=(4:Int)) (q1i v.3 fun (_:Int×Int×Int) Z1=>Cnd (Z1=true) (K (0:Int)) (K (1:Int))) (Cnd (v.1=(5:Int)) (z2q v.4 fun Qd=>K Qd) (K (0:Int))))))) (K (15:Int))))
def Bf:Be:=z79 q47 Js q2w q85
abbrev z1u:Type:=Ex->(Int->Prop)->Prop
def w2f (q53:q46) (Q2:Wb) (Qn:Zs) (Jg:Be):z1u:=fun e K=>Cnd (e.1<(1:Int)) (K (7:Int)) (Cnd ((15:Int)<e.1) (K (7:Int)) (q53 (Ex.mk e.1 e.2 e.3 e.4 e.5) fun Qb=>Cnd (Qb=true) (e.5.length<=(9223372036854775807:Nat)->Cnd ((12:Int)<(↑e.5.length:Int)) (K (5:Int)) (e.4.length<=(9223372036854775807:Nat)->Cnd ((20:Int)<(↑e.4.length:Int)) (K (5:Int)) (Lp1 (fun Qm j13=>e.5.length<=(9223372036854775807:Nat)->Cnd (Qm<(↑e.5.length:Int)) (((0:Int)<=Qm/\Qm<(↑e.5.length:Int))/\ ∀y5,e.5[Qm.toNat]? =some y5->Cnd (y5.1=e.1) (Cnd (e.1=(4:Int)) (InI (Qm+(1:Int))/\j13 (Qm+(1:Int))) (K (15:Int))) (InI (Qm+(1:Int))/\j13 (Qm+(1:Int)))) (Q2 e.1 fun Qw=>Cnd (Qw=true) (Qn e.2 fun Zx=>Cnd (Zx=true) (Q2 e.1 fun Um=>Cnd (Um=true) (Qn e.3 fun Un=>Cnd (Un=true) (Lp1 (fun Q5 Y9_1=>e.4.length<=(9223372036854775807:Nat)->Cnd (Q5<(↑e.4.length:Int)) (((0:Int)<=Q5/\Q5<(↑e.4.length:Int))/\ ∀y11,e.4[Q5.toNat]? =some y11->Jg y11 fun Zl=>Cnd (Zl=(0:Int)) (InI (Q5+(1:Int))/\Y9_1 (Q5+(1:Int))) (K Zl)) (Cnd (e.1=(9:Int)) (((0:Int)<=(0:Int)/\(0:Int)<(↑e.4.length:Int))/\ ∀y11,e.4[Int.toNat (0:Int)]? =some y11->Cnd (y11.1=(3:Int)) (K (0:Int)) (K (8:Int))) (Cnd (e.1=(10:Int)) (((0:Int)<=(0:Int)/\(0:Int)<(↑e.4.length:Int))/\ ∀y11,e.4[Int.toNat (0:Int)]? =some y11->Cnd (y11.1=(3:Int)) (K (0:Int)) (K (8:Int))) (Cnd (e.1=(11:Int)) (((0:Int)<=(0:Int)/\(0:Int)<(↑e.4.length:Int))/\ ∀y11,e.4[Int.toNat (0:Int)]? =some y11->Cnd (y11.1=(3:Int)) (K (0:Int)) (K (8:Int))) (K (0:Int)))))) (0:Int)) (K (6:Int))) (Cnd (e.1=(5:Int)) (Qn e.3 fun Un=>Cnd (Un=true) (Lp1 (fun Q5 Y9_1=>e.4.length<=(9223372036854775807:Nat)->Cnd (Q5<(↑e.4.length:Int)) (((0:Int)<=Q5/\Q5<(↑e.4.length:Int))/\ ∀y11,e.4[Q5.toNat]? =some y11->Jg y11 fun Zl=>Cnd (Zl=(0:Int)) (InI (Q5+(1:Int))/\Y9_1 (Q5+(1:Int))) (K Zl)) (Cnd (e.1=(9:Int)) (((0:Int)<=(0:Int)/\(0:Int)<(↑e.4.length:Int))/\ ∀y11,e.4[Int.toNat (0:Int)]? =some y11->Cnd (y11.1=(3:Int)) (K (0:Int)) (K (8:Int))) (Cnd (e.1=(10:Int)) (((0:Int)<=(0:Int)/\(0:Int)<(↑e.4.length:Int))/\ ∀y11,e.4[Int.toNat (0:Int)]? =some y11->Cnd (y11.1=(3:Int)) (K (0:Int)) (K (8:Int))) (Cnd (e.1=(11:Int)) (((0:Int)<=(0:Int)/\(0:Int)<(↑e.4.length:Int))/\ ∀y11,e.4[Int.toNat (0:Int)]? =some y11->Cnd (y11.1=(3:Int)) (K (0:Int)) (K (8:Int))) (K (0:Int)))))) (0:Int)) (K (6:Int))) (Lp1 (fun Un Y8_1=>e.4.length<=(9223372036854775807:Nat)->Cnd (Un<(↑e.4.length:Int)) (((0:Int)<=Un/\Un<(↑e.4.length:Int))/\ ∀y10,e.4[Un.toNat]? =some y10->Jg y10 fun Rv=>Cnd (Rv=(0:Int)) (InI (Un+(1:Int))/\Y8_1 (Un+(1:Int))) (K Rv)) (Cnd (e.1=(9:Int)) (((0:Int)<=(0:Int)/\(0:Int)<(↑e.4.length:Int))/\ ∀y10,e.4[Int.toNat (0:Int)]? =some y10->Cnd (y10.1=(3:Int)) (K (0:Int)) (K (8:Int))) (Cnd (e.1=(10:Int)) (((0:Int)<=(0:Int)/\(0:Int)<(↑e.4.length:Int))/\ ∀y10,e.4[Int.toNat (0:Int)]? =some y10->Cnd (y10.1=(3:Int)) (K (0:Int)) (K (8:Int))) (Cnd (e.1=(11:Int)) (((0:Int)<=(0:Int)/\(0:Int)<(↑e.4.length:Int))/\ ∀y10,e.4[Int.toNat (0:Int)]? =some y10->Cnd (y10.1=(3:Int)) (K (0:Int)) (K (8:Int))) (K (0:Int)))))) (0:Int)))) (K (6:Int))) (Q2 e.1 fun Zx=>Cnd (Zx=true) (Qn e.3 fun Um=>Cnd (Um=true) (Lp1 (fun Un Y8_1=>e.4.length<=(9223372036854775807:Nat)->Cnd (Un<(↑e.4.length:Int)) (((0:Int)<=Un/\Un<(↑e.4.length:Int))/\ ∀y10,e.4[Un.toNat]? =some y10->Jg y10 fun Rv=>Cnd (Rv=(0:Int)) (InI (Un+(1:Int))/\Y8_1 (Un+(1:Int))) (K Rv)) (Cnd (e.1=(9:Int)) (((0:Int)<=(0:Int)/\(0:Int)<(↑e.4.length:Int))/\ ∀y10,e.4[Int.toNat (0:Int)]? =some y10->Cnd (y10.1=(3:Int)) (K (0:Int)) (K (8:Int))) (Cnd (e.1=(10:Int)) (((0:Int)<=(0:Int)/\(0:Int)<(↑e.4.length:Int))/\ ∀y10,e.4[Int.toNat (0:Int)]? =some y10->Cnd (y10.1=(3:Int)) (K (0:Int)) (K (8:Int))) (Cnd (e.1=(11:Int)) (((0:Int)<=(0:Int)/\(0:Int)<(↑e.4.length:Int))/\ ∀y10,e.4[Int.toNat (0:Int)]? =some y10->Cnd (y10.1=(3:Int)) (K (0:Int)) (K (8:Int))) (K (0:Int)))))) (0:Int)) (K (6:Int))) (Cnd (e.1=(5:Int)) (Qn e.3 fun Um=>Cnd (Um=true) (Lp1 (fun Un Y8_1=>e.4.length<=(9223372036854775807:Nat)->Cnd (Un<(↑e.4.length:Int)) (((0:Int)<=Un/\Un<(↑e.4.length:Int))/\ ∀y10,e.4[Un.toNat]? =some y10->Jg y10 fun Rv=>Cnd (Rv=(0:Int)) (InI (Un+(1:Int))/\Y8_1 (Un+(1:Int))) (K Rv)) (Cnd (e.1=(9:Int)) (((0:Int)<=(0:Int)/\(0:Int)<(↑e.4.length:Int))/\ ∀y10,e.4[Int.toNat (0:Int)]? =some y10->Cnd (y10.1=(3:Int)) (K (0:Int)) (K (8:Int))) (Cnd (e.1=(10:Int)) (((0:Int)<=(0:Int)/\(0:Int)<(↑e.4.length:Int))/\ ∀y10,e.4[Int.toNat (0:Int)]? =some y10->Cnd (y10.1=(3:Int)) (K (0:Int)) (K (8:Int))) (Cnd (e.1=(11:Int)) (((0:Int)<=(0:Int)/\(0:Int)<(↑e.4.length:Int))/\ ∀y10,e.4[Int.toNat (0:Int)]? =some y10->Cnd (y10.1=(3:Int)) (K (0:Int)) (K (8:Int))) (K (0:Int)))))) (0:Int)) (K (6:Int))) (Lp1 (fun Um Y7_1=>e.4.length<=(9223372036854775807:Nat)->Cnd (Um<(↑e.4.length:Int)) (((0:Int)<=Um/\Um<(↑e.4.length:Int))/\ ∀y9,e.4[Um.toNat]? =some y9->Jg y9 fun q0q=>Cnd (q0q=(0:Int)) (InI (Um+(1:Int))/\Y7_1 (Um+(1:Int))) (K q0q)) (Cnd (e.1=(9:Int)) (((0:Int)<=(0:Int)/\(0:Int)<(↑e.4.length:Int))/\ ∀y9,e.4[Int.toNat (0:Int)]? =some y9->Cnd (y9.1=(3:Int)) (K (0:Int)) (K (8:Int))) (Cnd (e.1=(10:Int)) (((0:Int)<=(0:Int)/\(0:Int)<(↑e.4.length:Int))/\ ∀y9,e.4[Int.toNat (0:Int)]? =some y9->Cnd (y9.1=(3:Int)) (K (0:Int)) (K (8:Int))) (Cnd (e.1=(11:Int)) (((0:Int)<=(0:Int)/\(0:Int)<(↑e.4.length:Int))/\ ∀y9,e.4[Int.toNat (0:Int)]? =some y9->Cnd (y9.1=(3:Int)) (K (0:Int)) (K (8:Int))) (K (0:Int)))))) (0:Int)))))) (0:Int)))) (K (15:Int))))
def z1v:z1u:=w2f q84 Wc J8 Bf
abbrev q3v:Type:=Ex->Int->Int->(Int->Int->Prop)->Prop
def w2g (z2r:z1u) (X:q3v):q3v:=fun e depth n K=>Cnd ((60:Int)<=n) (K (5:Int) n) (InI (n+(1:Int))/\Cnd ((10:Int)<depth) (K (18:Int) (n+(1:Int))) (z2r (Ex.mk e.1 e.2 e.3 e.4 e.5) fun Qb=>Cnd (Qb=(0:Int)) (Lp2 (fun Qd Z1 z84=>e.5.length<=(9223372036854775807:Nat)->Cnd (Qd<(↑e.5.length:Int)) (((0:Int)<=Qd/\Qd<(↑e.5.length:Int))/\ ∀y3,e.5[Qd.toNat]? =some y3->InI (depth+(1:Int))/\X (Ex.mk y3.1 y3.2 y3.3 y3.4 y3.5) (depth+(1:Int)) Z1 fun Qw q7i=>Cnd (Qw=(0:Int)) (InI (Qd+(1:Int))/\z84 (Qd+(1:Int)) q7i) (K Qw q7i)) (K (0:Int) Z1)) (0:Int) (n+(1:Int))) (K Qb (n+(1:Int)))))
def z5s:q3v:=fun e depth n K=> ∀X:q3v,(∀e depth n K,w2g z1v X e depth n K->X e depth n K)->X e depth n K
abbrev R2:Type:=Ex->(Int->Prop)->Prop
def w2h (z2s:q3v):R2:=fun e K=>z2s (Ex.mk e.1 e.2 e.3 e.4 e.5) (1:Int) (0:Int) fun Qb _=>K Qb
def q3w:R2:=w2h z5s
abbrev q2x:Type:=Seg->(Int->Prop)->Prop
def z5t (Qn:Zs) (J4:Gh) (z2t:z5q) (Wg:R2):q2x:=fun g K=>Qn g.1 fun Qb=>Cnd (Qb=true) (Qn g.2 fun Qd=>Cnd (Qd=true) (J4 g.3 fun Qh=>Cnd (Qh=(0:Int)) (J4 g.4 fun Qm=>Cnd (Qm=(0:Int)) (z2t (Ex.mk g.5.1 g.5.2 g.5.3 g.5.4 g.5.5) fun Qk=>Cnd (Qk=true) (K (0:Int)) (Wg (Ex.mk g.5.1 g.5.2 g.5.3 g.5.4 g.5.5) fun Qw=>K Qw)) (K Qm)) (K Qh)) (K (6:Int))) (K (6:Int))
def q6m:q2x:=z5t J8 B9 z5r q3w
abbrev q01:Type:=List (Seg)->(Int->Prop)->Prop
def z3h (q29:q2x):q01:=fun l K=>l.length<=(9223372036854775807:Nat)->Cnd ((20:Int)<(↑l.length:Int)) (K (5:Int)) (Lp1 (fun Qd q3i=>l.length<=(9223372036854775807:Nat)->Cnd (Qd<(↑l.length:Int)) (((0:Int)<=Qd/\Qd<(↑l.length:Int))/\ ∀y3,l[Qd.toNat]? =some y3->q29 (Seg.mk y3.1 y3.2 y3.3 y3.4 (Ex.mk y3.5.1 y3.5.2 y3.5.3 y3.5.4 y3.5.5)) fun Qw=>Cnd (Qw=(0:Int)) (Cnd ((0:Int)<Qd) (((0:Int)<=Qd/\Qd<(↑l.length:Int))/\ ∀y6,l[Qd.toNat]? =some y6->InI (Qd - (1:Int))/\((0:Int)<=Qd - (1:Int)/\Qd - (1:Int)<(↑l.length:Int))/\ ∀y8,l[(Qd - (1:Int)).toNat]? =some y8->Cnd (Lk.blt y8.1 y6.1) (InI (Qd+(1:Int))/\q3i (Qd+(1:Int))) (K (9:Int))) (InI (Qd+(1:Int))/\q3i (Qd+(1:Int)))) (K Qw)) (K (0:Int))) (0:Int))
def q3x:q01:=z3h q6m
abbrev Hc:Type:=Flg->(Int->Prop)->Prop
def q86 (Jg:Be):Hc:=fun f K=>f.3.length<=(9223372036854775807:Nat)->Cnd ((8:Int)<(↑f.3.length:Int)) (K (5:Int)) (Cnd ((↑f.3.length:Int)=(0:Int)) (K (3:Int)) (Lp1 (fun Qd q3i=>Cnd (Qd<(↑f.3.length:Int)) (((0:Int)<=Qd/\Qd<(↑f.3.length:Int))/\ ∀y2,f.3[Qd.toNat]? =some y2->Jg y2 fun Qk=>Cnd (Qk=(0:Int)) (((0:Int)<=Qd/\Qd<(↑f.3.length:Int))/\ ∀y5,f.3[Qd.toNat]? =some y5->Cnd (y5.1=f.2) (InI (Qd+(1:Int))/\q3i (Qd+(1:Int))) (K (8:Int))) (K Qk)) (Cnd (f.5<(1:Int)) (K (3:Int)) (Cnd ((↑f.3.length:Int)<f.5) (K (3:Int)) (K (0:Int))))) (0:Int)))
def q0a:Hc:=q86 Bf
abbrev Vq:Type:=List (Prq)->(Int->Prop)->Prop
def q3y (Qn:Zs):Vq:=fun l K=>l.length<=(9223372036854775807:Nat)->Cnd ((4:Int)<(↑l.length:Int)) (K (5:Int)) (Lp1 (fun Qd q3i=>l.length<=(9223372036854775807:Nat)->Cnd (Qd<(↑l.length:Int)) (((0:Int)<=Qd/\Qd<(↑l.length:Int))/\ ∀y3,l[Qd.toNat]? =some y3->Qn y3.1 fun Qw=>Cnd (Qw=true) (Cnd ((0:Int)<Qd) (((0:Int)<=Qd/\Qd<(↑l.length:Int))/\ ∀y6,l[Qd.toNat]? =some y6->InI (Qd - (1:Int))/\((0:Int)<=Qd - (1:Int)/\Qd - (1:Int)<(↑l.length:Int))/\ ∀y8,l[(Qd - (1:Int)).toNat]? =some y8->Cnd (Lk.blt y8.1 y6.1) (((0:Int)<=Qd/\Qd<(↑l.length:Int))/\ ∀y10,l[Qd.toNat]? =some y10->Cnd (y10.2<(1:Int)) (K (3:Int)) (((0:Int)<=Qd/\Qd<(↑l.length:Int))/\ ∀y12,l[Qd.toNat]? =some y12->Cnd ((8:Int)<y12.2) (K (3:Int)) (InI (Qd+(1:Int))/\q3i (Qd+(1:Int))))) (K (9:Int))) (((0:Int)<=Qd/\Qd<(↑l.length:Int))/\ ∀y6,l[Qd.toNat]? =some y6->Cnd (y6.2<(1:Int)) (K (3:Int)) (((0:Int)<=Qd/\Qd<(↑l.length:Int))/\ ∀y8,l[Qd.toNat]? =some y8->Cnd ((8:Int)<y8.2) (K (3:Int)) (InI (Qd+(1:Int))/\q3i (Qd+(1:Int)))))) (K (6:Int))) (K (0:Int))) (0:Int))
def Gi:Vq:=q3y J8
abbrev q2y:Type:=List (Tgt)->Int->(Int->Prop)->Prop
def z5u (Qn:Zs) (J4:Gh):q2y:=fun l n K=>l.length<=(9223372036854775807:Nat)->Cnd ((8:Int)<(↑l.length:Int)) (K (5:Int)) (Lp1 (fun Qd q3i=>l.length<=(9223372036854775807:Nat)->Cnd (Qd<(↑l.length:Int)) (((0:Int)<=Qd/\Qd<(↑l.length:Int))/\ ∀y3,l[Qd.toNat]? =some y3->Qn y3.1 fun Qw=>Cnd (Qw=true) (((0:Int)<=Qd/\Qd<(↑l.length:Int))/\ ∀y6,l[Qd.toNat]? =some y6->Cnd (y6.2<(1:Int)) (K (3:Int)) (((0:Int)<=Qd/\Qd<(↑l.length:Int))/\ ∀y8,l[Qd.toNat]? =some y8->Cnd (n<y8.2) (K (3:Int)) (((0:Int)<=Qd/\Qd<(↑l.length:Int))/\ ∀y10,l[Qd.toNat]? =some y10->y10.3.length<=(9223372036854775807:Nat)->Cnd ((↑y10.3.length:Int)=(0:Int)) (K (3:Int)) (((0:Int)<=Qd/\Qd<(↑l.length:Int))/\ ∀y13,l[Qd.toNat]? =some y13->J4 y13.3 fun j95=>Cnd (j95=(0:Int)) (InI (Qd+(1:Int))/\q3i (Qd+(1:Int))) (K j95))))) (K (6:Int))) (K (0:Int))) (0:Int))
def q6n:q2y:=z5u J8 B9
abbrev q2z:Type:=List (Rng)->Int->(Int->Prop)->Prop
def q49:q2z:=fun l variations K=>l.length<=(9223372036854775807:Nat)->Cnd ((16:Int)<(↑l.length:Int)) (K (5:Int)) (Lp2 (fun Qd Z1 z84=>l.length<=(9223372036854775807:Nat)->Cnd (Z1<(↑l.length:Int)) (((0:Int)<=Z1/\Z1<(↑l.length:Int))/\ ∀y3,l[Z1.toNat]? =some y3->Cnd (y3.3<(1:Int)) (K (3:Int)) (((0:Int)<=Z1/\Z1<(↑l.length:Int))/\ ∀y5,l[Z1.toNat]? =some y5->Cnd (variations<y5.3) (K (3:Int)) (((0:Int)<=Z1/\Z1<(↑l.length:Int))/\ ∀y7,l[Z1.toNat]? =some y7->Cnd (y7.1=Qd) (((0:Int)<=Z1/\Z1<(↑l.length:Int))/\ ∀y9,l[Z1.toNat]? =some y9->Cnd (y9.2<=Qd) (K (9:Int)) (Cnd ((0:Int)<Z1) (((0:Int)<=Z1/\Z1<(↑l.length:Int))/\ ∀y11,l[Z1.toNat]? =some y11->InI (Z1 - (1:Int))/\((0:Int)<=Z1 - (1:Int)/\Z1 - (1:Int)<(↑l.length:Int))/\ ∀y13,l[(Z1 - (1:Int)).toNat]? =some y13->Cnd (y11.3=y13.3) (K (9:Int)) (((0:Int)<=Z1/\Z1<(↑l.length:Int))/\ ∀y15,l[Z1.toNat]? =some y15->InI (Z1+(1:Int))/\z84 y15.2 (Z1+(1:Int)))) (((0:Int)<=Z1/\Z1<(↑l.length:Int))/\ ∀y11,l[Z1.toNat]? =some y11->InI (Z1+(1:Int))/\z84 y11.2 (Z1+(1:Int))))) (K (9:Int))))) (Cnd (Qd=(10000:Int)) (K (0:Int)) (K (3:Int)))) (0:Int) (0:Int))
abbrev q02:Type:=Srv->Int->(Int->Prop)->Prop
def j46 (Qn:Zs) (Qu:Zy) (Ug:q2z):q02:=fun v variations K=>Cnd (v.1=(0:Int)) (Qn v.2 fun Qb=>Cnd (Qb=true) (Qn v.3 fun Qd=>Cnd (Qd=true) (Qu v.4 fun Qh=>Cnd (Qh=true) (Ug v.5 variations fun Qm=>K Qm) (K (2:Int))) (K (6:Int))) (K (6:Int))) (Cnd (v.1<(1:Int)) (K (3:Int)) (Cnd (variations<v.1) (K (3:Int)) (Cnd (v.2=ByteArray.mk (Array.mk [])) (Cnd (v.3=ByteArray.mk (Array.mk [])) (Cnd (v.4=ByteArray.mk (Array.mk [])) (v.5.length<=(9223372036854775807:Nat)->Cnd ((0:Int)<(↑v.5.length:Int)) (K (15:Int)) (K (0:Int))) (K (15:Int))) (K (15:Int))) (K (15:Int)))))
def q5a:q02:=j46 J8 Js q49
abbrev q76:Type:=List (Rul)->Int->(Int->Prop)->Prop
def j47 (Qn:Zs) (Wg:R2) (Uh:q02):q76:=fun l n K=>l.length<=(9223372036854775807:Nat)->Cnd ((12:Int)<(↑l.length:Int)) (K (5:Int)) (Lp1 (fun Qd q3i=>l.length<=(9223372036854775807:Nat)->Cnd (Qd<(↑l.length:Int)) (((0:Int)<=Qd/\Qd<(↑l.length:Int))/\ ∀y3,l[Qd.toNat]? =some y3->Qn y3.1 fun Qw=>Cnd (Qw=true) (Lp1 (fun Zx y7w=>Cnd (Zx<Qd) (((0:Int)<=Zx/\Zx<(↑l.length:Int))/\ ∀y7,l[Zx.toNat]? =some y7->((0:Int)<=Qd/\Qd<(↑l.length:Int))/\ ∀y9,l[Qd.toNat]? =some y9->Cnd (y7.1=y9.1) (K (10:Int)) (InI (Zx+(1:Int))/\y7w (Zx+(1:Int)))) (((0:Int)<=Qd/\Qd<(↑l.length:Int))/\ ∀y7,l[Qd.toNat]? =some y7->Wg (Ex.mk y7.2.1 y7.2.2 y7.2.3 y7.2.4 y7.2.5) fun Q5=>Cnd (Q5=(0:Int)) (((0:Int)<=Qd/\Qd<(↑l.length:Int))/\ ∀y10,l[Qd.toNat]? =some y10->Uh (Srv.mk y10.3.1 y10.3.2 y10.3.3 y10.3.4 y10.3.5) n fun Rv=>Cnd (Rv=(0:Int)) (InI (Qd+(1:Int))/\q3i (Qd+(1:Int))) (K Rv)) (K Q5))) (0:Int)) (K (6:Int))) (K (0:Int))) (0:Int))
def z1w:q76:=j47 J8 q3w q5a
abbrev z1x:Type:=Flg->(Int->Prop)->Prop
def w2i (Qn:Zs) (Hy:Hc) (Vu:Vq) (q3a:q2y) (q8g:q76) (Uh:q02):z1x:=fun f K=>f.3.length<=(9223372036854775807:Nat)->Qn f.1 fun Qd=>Cnd (Qd=true) (Cnd (f.2<(1:Int)) (K (7:Int)) (Cnd ((5:Int)<f.2) (K (7:Int)) (Hy (Flg.mk f.1 f.2 f.3 f.4 f.5 f.6 f.7 f.8 (Srv.mk f.9.1 f.9.2 f.9.3 f.9.4 f.9.5)) fun Qh=>Cnd (Qh=(0:Int)) (Vu f.6 fun Qm=>Cnd (Qm=(0:Int)) (q3a f.7 (↑f.3.length:Int) fun Qk=>Cnd (Qk=(0:Int)) (q8g f.8 (↑f.3.length:Int) fun Qw=>Cnd (Qw=(0:Int)) (Uh (Srv.mk f.9.1 f.9.2 f.9.3 f.9.4 f.9.5) (↑f.3.length:Int) fun Zx=>K Zx) (K Qw)) (K Qk)) (K Qm)) (K Qh)))) (K (6:Int))
def z5v:z1x:=w2i J8 q0a Gi q6n z1w q5a
abbrev q77:Type:=List (Flg)->(Int->Prop)->Prop
def j48 (z2u:z1x):q77:=fun l K=>l.length<=(9223372036854775807:Nat)->Cnd ((30:Int)<(↑l.length:Int)) (K (5:Int)) (Lp1 (fun Qd q3i=>l.length<=(9223372036854775807:Nat)->Cnd (Qd<(↑l.length:Int)) (((0:Int)<=Qd/\Qd<(↑l.length:Int))/\ ∀y3,l[Qd.toNat]? =some y3->z2u (Flg.mk y3.1 y3.2 y3.3 y3.4 y3.5 y3.6 y3.7 y3.8 (Srv.mk y3.9.1 y3.9.2 y3.9.3 y3.9.4 y3.9.5)) fun Qw=>Cnd (Qw=(0:Int)) (Cnd ((0:Int)<Qd) (((0:Int)<=Qd/\Qd<(↑l.length:Int))/\ ∀y6,l[Qd.toNat]? =some y6->InI (Qd - (1:Int))/\((0:Int)<=Qd - (1:Int)/\Qd - (1:Int)<(↑l.length:Int))/\ ∀y8,l[(Qd - (1:Int)).toNat]? =some y8->Cnd (Lk.blt y8.1 y6.1) (InI (Qd+(1:Int))/\q3i (Qd+(1:Int))) (K (9:Int))) (InI (Qd+(1:Int))/\q3i (Qd+(1:Int)))) (K Qw)) (K (0:Int))) (0:Int))
def z1y:q77:=j48 z5v
abbrev q78:Type:=Lay_->(Int->Prop)->Prop
def j49 (Qn:Zs) (Qu:Zy):q78:=fun l K=>Qn l.1 fun Qb=>Cnd (Qb=true) (Qn l.2 fun Qd=>Cnd (Qd=true) (Qu l.3 fun Qh=>Cnd (Qh=true) (Cnd (l.4<(0:Int)) (K (3:Int)) (Cnd ((10000:Int)<l.4) (K (3:Int)) (Cnd (l.5<(0:Int)) (K (3:Int)) (Cnd ((1099511627776:Int)<l.5) (K (3:Int)) (l.6.length<=(9223372036854775807:Nat)->Cnd ((32:Int)<(↑l.6.length:Int)) (K (5:Int)) (Lp1 (fun Qk v7x=>l.6.length<=(9223372036854775807:Nat)->Cnd (Qk<(↑l.6.length:Int)) (((0:Int)<=Qk/\Qk<(↑l.6.length:Int))/\ ∀y6,l.6[Qk.toNat]? =some y6->Cnd (y6.1<(0:Int)) (K (3:Int)) (Cnd (y6.2<=y6.1) (K (3:Int)) (Cnd ((10000:Int)<y6.2) (K (3:Int)) (Cnd (y6.3<(0:Int)) (K (3:Int)) (Cnd ((1099511627776:Int)<y6.3) (K (3:Int)) (Cnd ((0:Int)<Qk) (InI (Qk - (1:Int))/\((0:Int)<=Qk - (1:Int)/\Qk - (1:Int)<(↑l.6.length:Int))/\ ∀y8,l.6[(Qk - (1:Int)).toNat]? =some y8->Cnd (y6.1<y8.2) (K (9:Int)) (InI (Qk+(1:Int))/\v7x (Qk+(1:Int)))) (InI (Qk+(1:Int))/\v7x (Qk+(1:Int))))))))) (K (0:Int))) (0:Int))))))) (K (2:Int))) (K (6:Int))) (K (6:Int))
def z1z:q78:=j49 J8 Js
abbrev q5b:Type:=List (Lay_)->(Int->Prop)->Prop
def j0h (q8h:q78):q5b:=fun l K=>l.length<=(9223372036854775807:Nat)->Cnd ((6:Int)<(↑l.length:Int)) (K (5:Int)) (Lp1 (fun Qd q3i=>l.length<=(9223372036854775807:Nat)->Cnd (Qd<(↑l.length:Int)) (((0:Int)<=Qd/\Qd<(↑l.length:Int))/\ ∀y3,l[Qd.toNat]? =some y3->q8h y3 fun Qw=>Cnd (Qw=(0:Int)) (Cnd ((0:Int)<Qd) (((0:Int)<=Qd/\Qd<(↑l.length:Int))/\ ∀y6,l[Qd.toNat]? =some y6->InI (Qd - (1:Int))/\((0:Int)<=Qd - (1:Int)/\Qd - (1:Int)<(↑l.length:Int))/\ ∀y8,l[(Qd - (1:Int)).toNat]? =some y8->Cnd (Lk.blt y8.1 y6.1) (InI (Qd+(1:Int))/\q3i (Qd+(1:Int))) (K (9:Int))) (InI (Qd+(1:Int))/\q3i (Qd+(1:Int)))) (K Qw)) (K (0:Int))) (0:Int))
def q87:q5b:=j0h z1z
abbrev z10:Type:=List (Spn)->(Int->Prop)->Prop
def z11:z10:=fun l K=>l.length<=(9223372036854775807:Nat)->Cnd ((16:Int)<(↑l.length:Int)) (K (5:Int)) (Lp1 (fun Qd q3i=>l.length<=(9223372036854775807:Nat)->Cnd (Qd<(↑l.length:Int)) (((0:Int)<=Qd/\Qd<(↑l.length:Int))/\ ∀y3,l[Qd.toNat]? =some y3->Cnd (y3.1<(0:Int)) (K (3:Int)) (((0:Int)<=Qd/\Qd<(↑l.length:Int))/\ ∀y5,l[Qd.toNat]? =some y5->((0:Int)<=Qd/\Qd<(↑l.length:Int))/\ ∀y7,l[Qd.toNat]? =some y7->Cnd (y7.2<=y5.1) (K (3:Int)) (((0:Int)<=Qd/\Qd<(↑l.length:Int))/\ ∀y9,l[Qd.toNat]? =some y9->Cnd ((10000:Int)<y9.2) (K (3:Int)) (Cnd ((0:Int)<Qd) (((0:Int)<=Qd/\Qd<(↑l.length:Int))/\ ∀y11,l[Qd.toNat]? =some y11->InI (Qd - (1:Int))/\((0:Int)<=Qd - (1:Int)/\Qd - (1:Int)<(↑l.length:Int))/\ ∀y13,l[(Qd - (1:Int)).toNat]? =some y13->Cnd (y11.1<=y13.2) (K (9:Int)) (InI (Qd+(1:Int))/\q3i (Qd+(1:Int)))) (InI (Qd+(1:Int))/\q3i (Qd+(1:Int))))))) (K (0:Int))) (0:Int))
abbrev Hd:Type:=Exper->(Int->Prop)->Prop
def q88 (Qn:Zs) (Qu:Zy) (q8i:z10) (Ug:q2z) (Wg:R2):Hd:=fun x K=>Qn x.1 fun Qb=>Cnd (Qb=true) (Qn x.2 fun Qd=>Cnd (Qd=true) (Qn x.3 fun Qh=>Cnd (Qh=true) (Qu x.4 fun Qm=>Cnd (Qm=true) (Cnd (x.5<(1:Int)) (K (7:Int)) (Cnd ((3:Int)<x.5) (K (7:Int)) (q8i x.6 fun Qk=>Cnd (Qk=(0:Int)) (Ug x.7 (8:Int) fun Qw=>Cnd (Qw=(0:Int)) (Wg (Ex.mk x.8.1 x.8.2 x.8.3 x.8.4 x.8.5) fun Zx=>K Zx) (K Qw)) (K Qk)))) (K (2:Int))) (K (6:Int))) (K (6:Int))) (K (6:Int))
def q0b:Hd:=q88 J8 Js z11 q49 q3w
abbrev U2:Type:=List (Exper)->(Int->Prop)->Prop
def q65 (Hz:Hd):U2:=fun l K=>l.length<=(9223372036854775807:Nat)->Cnd ((16:Int)<(↑l.length:Int)) (K (5:Int)) (Lp1 (fun Qd q3i=>l.length<=(9223372036854775807:Nat)->Cnd (Qd<(↑l.length:Int)) (((0:Int)<=Qd/\Qd<(↑l.length:Int))/\ ∀y3,l[Qd.toNat]? =some y3->Hz (Exper.mk y3.1 y3.2 y3.3 y3.4 y3.5 y3.6 y3.7 (Ex.mk y3.8.1 y3.8.2 y3.8.3 y3.8.4 y3.8.5)) fun Qw=>Cnd (Qw=(0:Int)) (Cnd ((0:Int)<Qd) (((0:Int)<=Qd/\Qd<(↑l.length:Int))/\ ∀y6,l[Qd.toNat]? =some y6->InI (Qd - (1:Int))/\((0:Int)<=Qd - (1:Int)/\Qd - (1:Int)<(↑l.length:Int))/\ ∀y8,l[(Qd - (1:Int)).toNat]? =some y8->Cnd (Lk.blt y8.1 y6.1) (InI (Qd+(1:Int))/\q3i (Qd+(1:Int))) (K (9:Int))) (InI (Qd+(1:Int))/\q3i (Qd+(1:Int)))) (K Qw)) (K (0:Int))) (0:Int))
def R3:U2:=q65 q0b
abbrev U3:Type:=Envt->(Int->Prop)->Prop
def q66 (q1j:q0z) (q1k:q00) (q1l:q01) (q8j:q77) (q54:q5b) (U8:U2):U3:=fun v K=>q1j (Sett.mk v.1.1 v.1.2 v.1.3) fun Qb=>Cnd (Qb=(0:Int)) (q1k v.2 fun Qd=>Cnd (Qd=(0:Int)) (q1l v.3 fun Qh=>Cnd (Qh=(0:Int)) (q8j v.4 fun Qm=>Cnd (Qm=(0:Int)) (q54 v.5 fun Qk=>Cnd (Qk=(0:Int)) (U8 v.6 fun Qw=>K Qw) (K Qk)) (K Qm)) (K Qh)) (K Qd)) (K Qb)
def R4:U3:=q66 q3t q3u q3x z1y q87 R3
abbrev He:Type:=List (Seg)->(List (ByteArray)->Prop)->Prop
def q20:He:=fun l K=>Lp2 (fun Qb Q6 q4y=>l.length<=(9223372036854775807:Nat)->Cnd (Q6<(↑l.length:Int)) (((0:Int)<=Q6/\Q6<(↑l.length:Int))/\ ∀y2,l[Q6.toNat]? =some y2->Sml (Qb++[y2.1]).length/\InI (Q6+(1:Int))/\q4y (Qb++[y2.1]) (Q6+(1:Int))) (K Qb)) [] (0:Int)
abbrev q03:Type:=List (ByteArray)->ByteArray->(Bool->Prop)->Prop
def q2c:q03:=fun l s K=>Lp1 (fun Qb q61=>l.length<=(9223372036854775807:Nat)->Cnd (Qb<(↑l.length:Int)) (((0:Int)<=Qb/\Qb<(↑l.length:Int))/\ ∀y2,l[Qb.toNat]? =some y2->Cnd (y2=s) (K true) (InI (Qb+(1:Int))/\q61 (Qb+(1:Int)))) (K false)) (0:Int)
abbrev q6o:Type:=List (Decl)->ByteArray->ByteArray->(Int->Prop)->Prop
def q3z:q6o:=fun l kind name K=>Lp1 (fun Qb q61=>l.length<=(9223372036854775807:Nat)->Cnd (Qb<(↑l.length:Int)) (((0:Int)<=Qb/\Qb<(↑l.length:Int))/\ ∀y2,l[Qb.toNat]? =some y2->Cnd (y2.1=kind) (((0:Int)<=Qb/\Qb<(↑l.length:Int))/\ ∀y4,l[Qb.toNat]? =some y4->Cnd (y4.2=name) (((0:Int)<=Qb/\Qb<(↑l.length:Int))/\ ∀y6,l[Qb.toNat]? =some y6->K y6.3) (InI (Qb+(1:Int))/\q61 (Qb+(1:Int)))) (InI (Qb+(1:Int))/\q61 (Qb+(1:Int)))) (Cnd (name=ByteArray.mk (Array.mk [107,101,121])) (K (3:Int)) (K (0:Int)))) (0:Int)
abbrev z5w:Type:=Int->Ex->(Bool->Prop)->Prop
def q89:z5w:=fun t e K=>Cnd (e.1=(6:Int)) (K true) (Cnd (e.1=(8:Int)) (Lp1 (fun Qb q61=>e.4.length<=(9223372036854775807:Nat)->Cnd (Qb<(↑e.4.length:Int)) (((0:Int)<=Qb/\Qb<(↑e.4.length:Int))/\ ∀y2,e.4[Qb.toNat]? =some y2->Cnd (y2.1=t) (InI (Qb+(1:Int))/\q61 (Qb+(1:Int))) (K false)) (K (match decide ((t,e,()).fst=(5:Int)) with|true=>false|false=>true))) (0:Int)) (e.4.length<=(9223372036854775807:Nat)->Cnd ((↑e.4.length:Int)=(0:Int)) (K false) (((0:Int)<=(0:Int)/\(0:Int)<(↑e.4.length:Int))/\ ∀y1,e.4[Int.toNat (0:Int)]? =some y1->Cnd (e.1=(7:Int)) (K (decide (y1.1=t))) (Jn1 (fun Qm=>Cnd (Qm=true) (Cnd (t=(3:Int)) (K (decide (y1.1=(3:Int)))) (K false)) (Cnd (e.1=(11:Int)) (Cnd (t=(3:Int)) (K (decide (y1.1=(3:Int)))) (Cnd (t=(5:Int)) (K (decide (y1.1=(3:Int)))) (K false))) (Cnd (t=(2:Int)) (K (decide (y1.1=t))) (Cnd (t=(3:Int)) (K (decide (y1.1=t))) (Cnd (t=(4:Int)) (K (decide (y1.1=t))) (K false)))))) fun u3f=>Cnd (e.1=(9:Int)) (u3f (decide (e.1=(9:Int)))) (u3f (decide (e.1=(10:Int))))))))
abbrev Up:Type:=List (Decl)->List (ByteArray)->Ex->(Int->Prop)->Prop
def w2j (Wl:q03) (Q2:Wb) (Gv:q6o) (q99:z5w) (X:Up):Up:=fun l segments e K=>Cnd (e.1=(5:Int)) (Wl segments e.3 fun Qb=>Cnd (Qb=true) (Jn0 (Lp1 (fun Qd q3i=>e.5.length<=(9223372036854775807:Nat)->Cnd (Qd<(↑e.5.length:Int)) (((0:Int)<=Qd/\Qd<(↑e.5.length:Int))/\ ∀y3,e.5[Qd.toNat]? =some y3->X l segments (Ex.mk y3.1 y3.2 y3.3 y3.4 y3.5) fun Qw=>Cnd (Qw=(0:Int)) (InI (Qd+(1:Int))/\q3i (Qd+(1:Int))) (K Qw)) (K (0:Int))) (0:Int)) fun Qd=>Q2 e.1 fun Qh=>Cnd (Qh=true) (Gv l e.2 e.3 fun Qm=>Cnd (Qm=(0:Int)) (K (11:Int)) (q99 Qm (Ex.mk e.1 e.2 e.3 e.4 e.5) fun Qk=>Cnd (Qk=true) Qd (K (8:Int)))) Qd) (K (11:Int))) (Jn0 (Lp1 (fun Qb q61=>e.5.length<=(9223372036854775807:Nat)->Cnd (Qb<(↑e.5.length:Int)) (((0:Int)<=Qb/\Qb<(↑e.5.length:Int))/\ ∀y2,e.5[Qb.toNat]? =some y2->X l segments (Ex.mk y2.1 y2.2 y2.3 y2.4 y2.5) fun Qk=>Cnd (Qk=(0:Int)) (InI (Qb+(1:Int))/\q61 (Qb+(1:Int))) (K Qk)) (K (0:Int))) (0:Int)) fun Qb=>Q2 e.1 fun Qd=>Cnd (Qd=true) (Gv l e.2 e.3 fun Qh=>Cnd (Qh=(0:Int)) (K (11:Int)) (q99 Qh (Ex.mk e.1 e.2 e.3 e.4 e.5) fun Qm=>Cnd (Qm=true) Qb (K (8:Int)))) Qb)
def q30:Up:=fun l segments e K=> ∀X:Up,(∀l segments e K,w2j q2c Wc q3z q89 X l segments e K->X l segments e K)->X l segments e K
abbrev q31:Type:=List (ByteArray)->ByteArray->(List (ByteArray)->Prop)->Prop
def q6a:q31:=fun l s K=>Lp1 (fun Qb q61=>l.length<=(9223372036854775807:Nat)->Cnd (Qb<(↑l.length:Int)) (((0:Int)<=Qb/\Qb<(↑l.length:Int))/\ ∀y2,l[Qb.toNat]? =some y2->Cnd (Lk.blt y2 s) (InI (Qb+(1:Int))/\q61 (Qb+(1:Int))) (l.length<=(9223372036854775807:Nat)->Cnd (Qb<(↑l.length:Int)) (((0:Int)<=Qb/\Qb<(↑l.length:Int))/\ ∀y5,l[Qb.toNat]? =some y5->Cnd (y5=s) (K l) (((0:Int)<=(0:Int)/\(0:Int)<=Qb/\Qb<=(↑l.length:Int))/\Sml ([]++List.drop (Int.toNat (0:Int)) (List.take Qb.toNat l)).length/\((0:Int)<=Qb/\Qb<=(↑l.length:Int)/\(↑l.length:Int)<=(↑l.length:Int))/\Sml ([]++List.drop (Int.toNat (0:Int)) (List.take Qb.toNat l)++[s]).length/\Sml ([]++List.drop (Int.toNat (0:Int)) (List.take Qb.toNat l)++[s]++List.drop Qb.toNat (List.take (↑l.length:Int).toNat l)).length/\K ([]++List.drop (Int.toNat (0:Int)) (List.take Qb.toNat l)++[s]++List.drop Qb.toNat (List.take (↑l.length:Int).toNat l)))) (((0:Int)<=(0:Int)/\(0:Int)<=Qb/\Qb<=(↑l.length:Int))/\Sml ([]++List.drop (Int.toNat (0:Int)) (List.take Qb.toNat l)).length/\((0:Int)<=Qb/\Qb<=(↑l.length:Int)/\(↑l.length:Int)<=(↑l.length:Int))/\Sml ([]++List.drop (Int.toNat (0:Int)) (List.take Qb.toNat l)++[s]).length/\Sml ([]++List.drop (Int.toNat (0:Int)) (List.take Qb.toNat l)++[s]++List.drop Qb.toNat (List.take (↑l.length:Int).toNat l)).length/\K ([]++List.drop (Int.toNat (0:Int)) (List.take Qb.toNat l)++[s]++List.drop Qb.toNat (List.take (↑l.length:Int).toNat l))))) (l.length<=(9223372036854775807:Nat)->Cnd (Qb<(↑l.length:Int)) (((0:Int)<=Qb/\Qb<(↑l.length:Int))/\ ∀y3,l[Qb.toNat]? =some y3->Cnd (y3=s) (K l) (((0:Int)<=(0:Int)/\(0:Int)<=Qb/\Qb<=(↑l.length:Int))/\Sml ([]++List.drop (Int.toNat (0:Int)) (List.take Qb.toNat l)).length/\((0:Int)<=Qb/\Qb<=(↑l.length:Int)/\(↑l.length:Int)<=(↑l.length:Int))/\Sml ([]++List.drop (Int.toNat (0:Int)) (List.take Qb.toNat l)++[s]).length/\Sml ([]++List.drop (Int.toNat (0:Int)) (List.take Qb.toNat l)++[s]++List.drop Qb.toNat (List.take (↑l.length:Int).toNat l)).length/\K ([]++List.drop (Int.toNat (0:Int)) (List.take Qb.toNat l)++[s]++List.drop Qb.toNat (List.take (↑l.length:Int).toNat l)))) (((0:Int)<=(0:Int)/\(0:Int)<=Qb/\Qb<=(↑l.length:Int))/\Sml ([]++List.drop (Int.toNat (0:Int)) (List.take Qb.toNat l)).length/\((0:Int)<=Qb/\Qb<=(↑l.length:Int)/\(↑l.length:Int)<=(↑l.length:Int))/\Sml ([]++List.drop (Int.toNat (0:Int)) (List.take Qb.toNat l)++[s]).length/\Sml ([]++List.drop (Int.toNat (0:Int)) (List.take Qb.toNat l)++[s]++List.drop Qb.toNat (List.take (↑l.length:Int).toNat l)).length/\K ([]++List.drop (Int.toNat (0:Int)) (List.take Qb.toNat l)++[s]++List.drop Qb.toNat (List.take (↑l.length:Int).toNat l))))) (0:Int)
abbrev Gj:Type:=List (ByteArray)->Ex->(List (ByteArray)->Prop)->Prop
def z5x (Vv:q31) (X:Gj):Gj:=fun l e K=>Jn1 (fun Qb=>Lp2 (fun Qd Z1 z84=>e.5.length<=(9223372036854775807:Nat)->Cnd (Z1<(↑e.5.length:Int)) (((0:Int)<=Z1/\Z1<(↑e.5.length:Int))/\ ∀y3,e.5[Z1.toNat]? =some y3->X Qd (Ex.mk y3.1 y3.2 y3.3 y3.4 y3.5) fun Qw=>InI (Z1+(1:Int))/\z84 Qw (Z1+(1:Int))) (K Qd)) Qb (0:Int)) fun z2y=>Cnd (e.1=(5:Int)) (Vv l e.3 fun Qd=>z2y Qd) (z2y l)
def q6p:Gj:=fun l e K=> ∀X:Gj,(∀l e K,z5x q6a X l e K->X l e K)->X l e K
abbrev q21:Type:=Ex->(List (ByteArray)->Prop)->Prop
def z5y (q3b:Gj):q21:=fun e K=>q3b [] (Ex.mk e.1 e.2 e.3 e.4 e.5) fun Qb=>K Qb
def q6q:q21:=z5y q6p
abbrev q5c:Type:=List (Seg)->(List (Edg)->Prop)->Prop
def j0i (q3c:q21):q5c:=fun l K=>Lp2 (fun Qb Q6 q4y=>l.length<=(9223372036854775807:Nat)->Cnd (Q6<(↑l.length:Int)) (((0:Int)<=Q6/\Q6<(↑l.length:Int))/\ ∀y2,l[Q6.toNat]? =some y2->q3c (Ex.mk y2.5.1 y2.5.2 y2.5.3 y2.5.4 y2.5.5) fun Qk=>Lp2 (fun Qw q7i Y5_2=>Qk.length<=(9223372036854775807:Nat)->Cnd (q7i<(↑Qk.length:Int)) (((0:Int)<=Q6/\Q6<(↑l.length:Int))/\ ∀y7,l[Q6.toNat]? =some y7->((0:Int)<=q7i/\q7i<(↑Qk.length:Int))/\ ∀y9,Qk[q7i.toNat]? =some y9->Sml (Qw++[Edg.mk y7.1 y9]).length/\InI (q7i+(1:Int))/\Y5_2 (Qw++[Edg.mk y7.1 y9]) (q7i+(1:Int))) (InI (Q6+(1:Int))/\q4y Qw (Q6+(1:Int)))) Qb (0:Int)) (K Qb)) [] (0:Int)
def q9a:q5c:=j0i q6q
abbrev q79:Type:=List (Edg)->ByteArray->(List (ByteArray)->Prop)->Prop
def j5a (Wl:q03) (Vv:q31):q79:=fun edges node K=>Lp2 (fun Qb Q6 q4y=>Q6.length<=(9223372036854775807:Nat)->Cnd ((0:Int)<(↑Q6.length:Int)) (((0:Int)<=(0:Int)/\(0:Int)<(↑Q6.length:Int))/\ ∀y2,Q6[Int.toNat (0:Int)]? =some y2->((0:Int)<=(1:Int)/\(1:Int)<=(↑Q6.length:Int)/\(↑Q6.length:Int)<=(↑Q6.length:Int))/\Lp3 (fun Qk Wm z42 Y4_3=>edges.length<=(9223372036854775807:Nat)->Cnd (z42<(↑edges.length:Int)) (((0:Int)<=z42/\z42<(↑edges.length:Int))/\ ∀y6,edges[z42.toNat]? =some y6->Cnd (y6.1=y2) (((0:Int)<=z42/\z42<(↑edges.length:Int))/\ ∀y8,edges[z42.toNat]? =some y8->Wl Qk y8.2 fun Rs=>Cnd (Rs=true) (InI (z42+(1:Int))/\Y4_3 Qk Wm (z42+(1:Int))) (((0:Int)<=z42/\z42<(↑edges.length:Int))/\ ∀y11,edges[z42.toNat]? =some y11->Vv Qk y11.2 fun Zl=>((0:Int)<=z42/\z42<(↑edges.length:Int))/\ ∀y14,edges[z42.toNat]? =some y14->(Sml ([]++Wm).length/\Sml ([]++Wm++[y14.2]).length/\InI (z42+(1:Int))/\Y4_3 Zl ([]++Wm++[y14.2]) (z42+(1:Int)))/\Sml ([]++Wm).length/\Sml ([]++Wm++[y14.2]).length/\InI (z42+(1:Int))/\Y4_3 Zl ([]++Wm++[y14.2]) (z42+(1:Int)))) (InI (z42+(1:Int))/\Y4_3 Qk Wm (z42+(1:Int)))) (q4y Qk Wm)) Qb (List.drop (Int.toNat (1:Int)) (List.take (↑Q6.length:Int).toNat Q6)) (0:Int)) (K Qb)) [] [node]
def z13:q79:=j5a q2c q6a
abbrev q5d:Type:=List (ByteArray)->List (Edg)->(List (ByteArray)->Prop)->Prop
def j0j (q8k:q79) (Wl:q03) (Vv:q31):q5d:=fun nodes edges K=>Lp2 (fun Qb Q6 q4y=>nodes.length<=(9223372036854775807:Nat)->Cnd (Q6<(↑nodes.length:Int)) (((0:Int)<=Q6/\Q6<(↑nodes.length:Int))/\ ∀y2,nodes[Q6.toNat]? =some y2->((0:Int)<=Q6/\Q6<(↑nodes.length:Int))/\ ∀y4,nodes[Q6.toNat]? =some y4->q8k edges y2 fun Zx=>Wl Zx y4 fun Um=>Cnd (Um=true) (((0:Int)<=Q6/\Q6<(↑nodes.length:Int))/\ ∀y8,nodes[Q6.toNat]? =some y8->Vv Qb y8 fun Rs=>InI (Q6+(1:Int))/\q4y Rs (Q6+(1:Int))) (InI (Q6+(1:Int))/\q4y Qb (Q6+(1:Int)))) (K Qb)) [] (0:Int)
def q9b:q5d:=j0j z13 q2c q6a
abbrev q5e:Type:=List (ByteArray)->List (Edg)->(ByteArray->Bool->Prop)->Prop
def j0k (q55:q5d):q5e:=fun nodes edges K=>q55 nodes edges fun Qb=>Qb.length<=(9223372036854775807:Nat)->Cnd ((↑Qb.length:Int)=(0:Int)) (K (ByteArray.mk (Array.mk [])) false) (((0:Int)<=(0:Int)/\(0:Int)<(↑Qb.length:Int))/\ ∀y2,Qb[Int.toNat (0:Int)]? =some y2->K y2 true)
def q9c:q5e:=j0k q9b
abbrev H7:Type:=Envt->ByteArray->(Int->Prop)->Prop
def q22:H7:=fun v key K=>Lp1 (fun Qb q61=>v.4.length<=(9223372036854775807:Nat)->Cnd (Qb<(↑v.4.length:Int)) (((0:Int)<=Qb/\Qb<(↑v.4.length:Int))/\ ∀y2,v.4[Qb.toNat]? =some y2->Cnd (y2.1=key) (K Qb) (InI (Qb+(1:Int))/\q61 (Qb+(1:Int)))) (K (-1:Int))) (0:Int)
abbrev q8a:Type:=List (Decl)->Srv->(Int->Prop)->Prop
def j5b (Gv:q6o):q8a:=fun l v K=>Cnd (v.1=(0:Int)) (Gv l v.2 v.3 fun Qb=>Cnd (Qb=(0:Int)) (K (11:Int)) (Cnd (Qb=(5:Int)) (K (8:Int)) (K (0:Int)))) (K (0:Int))
def z14:q8a:=j5b q3z
abbrev Hf:Type:=Envt->Flg->(Int->Prop)->Prop
def q9d (Jj:He) (Wh:H7) (Wi:Up) (q56:q8a) (Zn:Jr):Hf:=fun v f K=>Jj v.3 fun Qb=>Lp2 (fun Qd Z1 z84=>f.6.length<=(9223372036854775807:Nat)->Cnd (Qd<(↑f.6.length:Int)) (((0:Int)<=Qd/\Qd<(↑f.6.length:Int))/\ ∀y3,f.6[Qd.toNat]? =some y3->Wh (Envt.mk (Sett.mk v.1.1 v.1.2 v.1.3) v.2 v.3 v.4 v.5 v.6) y3.1 fun Qw=>Cnd (Qw<(0:Int)) (K (11:Int)) (((0:Int)<=Qd/\Qd<(↑f.6.length:Int))/\ ∀y6,f.6[Qd.toNat]? =some y6->((0:Int)<=Qw/\Qw<(↑v.4.length:Int))/\ ∀y8,v.4[Qw.toNat]? =some y8->y8.3.length<=(9223372036854775807:Nat)->Cnd ((↑y8.3.length:Int)<y6.2) (K (3:Int)) (InI (Qd+(1:Int))/\z84 (Qd+(1:Int)) Z1))) (Lp2 (fun Qm H9 w8b=>f.8.length<=(9223372036854775807:Nat)->Cnd (Qm<(↑f.8.length:Int)) (((0:Int)<=Qm/\Qm<(↑f.8.length:Int))/\ ∀y5,f.8[Qm.toNat]? =some y5->Wi v.2 H9 (Ex.mk y5.2.1 y5.2.2 y5.2.3 y5.2.4 y5.2.5) fun Um=>Cnd (Um=(0:Int)) (((0:Int)<=Qm/\Qm<(↑f.8.length:Int))/\ ∀y8,f.8[Qm.toNat]? =some y8->q56 v.2 (Srv.mk y8.3.1 y8.3.2 y8.3.3 y8.3.4 y8.3.5) fun Rs=>Cnd (Rs=(0:Int)) (InI (Qm+(1:Int))/\w8b (Qm+(1:Int)) H9) (K Rs)) (K Um)) (q56 v.2 (Srv.mk f.9.1 f.9.2 f.9.3 f.9.4 f.9.5) fun Qw=>Cnd (Qw=(0:Int)) (Zn f.8 fun Zx _ u7c=>Cnd (u7c=true) (Zx.length<=(9223372036854775807:Nat)->Cnd ((0:Int)<(↑Zx.length:Int)) (K (13:Int)) (K (0:Int))) (K (19:Int))) (K Qw))) (0:Int) Z1)) (0:Int) Qb
def q0c:Hf:=q9d q20 q22 q30 z14 W8
abbrev q12:Type:=Envt->(List (ByteArray)->Prop)->Prop
def q6b:q12:=fun v K=>Lp2 (fun Qb Q6 q4y=>v.4.length<=(9223372036854775807:Nat)->Cnd (Q6<(↑v.4.length:Int)) (((0:Int)<=Q6/\Q6<(↑v.4.length:Int))/\ ∀y2,v.4[Q6.toNat]? =some y2->Sml (Qb++[y2.1]).length/\InI (Q6+(1:Int))/\q4y (Qb++[y2.1]) (Q6+(1:Int))) (K Qb)) [] (0:Int)
abbrev q0d:Type:=Envt->(List (Edg)->Prop)->Prop
def q0e:q0d:=fun v K=>Lp2 (fun Qb Q6 q4y=>v.4.length<=(9223372036854775807:Nat)->Cnd (Q6<(↑v.4.length:Int)) (Lp2 (fun Qh Zk q7n=>((0:Int)<=Q6/\Q6<(↑v.4.length:Int))/\ ∀y3,v.4[Q6.toNat]? =some y3->y3.6.length<=(9223372036854775807:Nat)->Cnd (Zk<(↑y3.6.length:Int)) (((0:Int)<=Q6/\Q6<(↑v.4.length:Int))/\ ∀y6,v.4[Q6.toNat]? =some y6->((0:Int)<=Q6/\Q6<(↑v.4.length:Int))/\ ∀y8,v.4[Q6.toNat]? =some y8->((0:Int)<=Zk/\Zk<(↑y8.6.length:Int))/\ ∀y10,y8.6[Zk.toNat]? =some y10->Sml (Qh++[Edg.mk y6.1 y10.1]).length/\InI (Zk+(1:Int))/\q7n (Qh++[Edg.mk y6.1 y10.1]) (Zk+(1:Int))) (InI (Q6+(1:Int))/\q4y Qh (Q6+(1:Int)))) Qb (0:Int)) (K Qb)) [] (0:Int)
abbrev q23:Type:=List (Spn)->List (Spn)->(List (Spn)->Prop)->Prop
def z5z (Zr:Gg) (Qz:Jm):q23:=fun a b K=>Zr a fun Qb=>Zr b fun Qd=>Lp2 (fun Qh Zk q7n=>Zk.length<=(9223372036854775807:Nat)->Cnd (Qh<(↑Zk.length:Int)) (((0:Int)<=Qh/\Qh<(↑Zk.length:Int))/\ ∀y4,Zk[Qh.toNat]? =some y4->Cnd (y4=true) (((0:Int)<=Qh/\Qh<(↑Qd.length:Int))/\ ∀y6,Qd[Qh.toNat]? =some y6->((0:Int)<=Qh/\Qh<(↑Zk.length:Int))/\ ∀y8,Zk[Qh.toNat]? =some y8->InI (Qh+(1:Int))/\q7n (Qh+(1:Int)) (Zk.set Qh.toNat y6)) (((0:Int)<=Qh/\Qh<(↑Zk.length:Int))/\ ∀y6,Zk[Qh.toNat]? =some y6->InI (Qh+(1:Int))/\q7n (Qh+(1:Int)) (Zk.set Qh.toNat false))) (Qz Zk fun Qk=>K Qk)) (0:Int) Qb
def q6r:q23:=z5z B8 W9
abbrev Wf:Type:=Envt->Int->(Int->Prop)->Prop
def q0f (Zg:Wq) (Wh:H7) (Jj:He) (Wi:Up) (q3d:q23):Wf:=fun v i K=>((0:Int)<=i/\i<(↑v.6.length:Int))/\ ∀y0,v.6[i.toNat]? =some y0->Zg (Envt.mk (Sett.mk v.1.1 v.1.2 v.1.3) v.2 v.3 v.4 v.5 v.6) y0.2 fun Qh=>Wh (Envt.mk (Sett.mk v.1.1 v.1.2 v.1.3) v.2 v.3 v.4 v.5 v.6) y0.3 fun Qm=>Cnd (Qh<(0:Int)) (K (11:Int)) (Cnd (Qm<(0:Int)) (K (11:Int)) (Lp1 (fun Qk v7x=>y0.7.length<=(9223372036854775807:Nat)->Cnd (Qk<(↑y0.7.length:Int)) (((0:Int)<=Qk/\Qk<(↑y0.7.length:Int))/\ ∀y6,y0.7[Qk.toNat]? =some y6->((0:Int)<=Qm/\Qm<(↑v.4.length:Int))/\ ∀y8,v.4[Qm.toNat]? =some y8->y8.3.length<=(9223372036854775807:Nat)->Cnd ((↑y8.3.length:Int)<y6.3) (K (3:Int)) (InI (Qk+(1:Int))/\v7x (Qk+(1:Int)))) (Jj v.3 fun Zx=>Wi v.2 Zx (Ex.mk y0.8.1 y0.8.2 y0.8.3 y0.8.4 y0.8.5) fun Um=>Cnd (Um=(0:Int)) (Cnd (y0.5=(3:Int)) (K (0:Int)) (((0:Int)<=Qh/\Qh<(↑v.5.length:Int))/\ ∀y8,v.5[Qh.toNat]? =some y8->Lp3 (fun Rs q0p u6d u93=>Cnd (q0p<i) (((0:Int)<=q0p/\q0p<(↑v.6.length:Int))/\ ∀y11,v.6[q0p.toNat]? =some y11->Cnd (y11.2=y0.2) (Cnd (y11.5=(3:Int)) (InI (q0p+(1:Int))/\u93 Rs (q0p+(1:Int)) u6d) (Sml (Rs++y11.6).length/\InI (q0p+(1:Int))/\u93 (Rs++y11.6) (q0p+(1:Int)) u6d)) (InI (q0p+(1:Int))/\u93 Rs (q0p+(1:Int)) u6d)) (q3d y0.6 Rs fun q0q=>q0q.length<=(9223372036854775807:Nat)->Cnd ((0:Int)<(↑q0q.length:Int)) (K (14:Int)) (Lp4 (fun Zl v3j u94 u95 u96=>Cnd (Zl<i) (Cnd (y0.5=(2:Int)) (((0:Int)<=Zl/\Zl<(↑v.6.length:Int))/\ ∀y14,v.6[Zl.toNat]? =some y14->Cnd (y14.5=(2:Int)) (Cnd (y14.3=y0.3) (Cnd (y14.2=y0.2) (InI (Zl+(1:Int))/\u96 (Zl+(1:Int)) v3j u94 u95) (K (14:Int))) (InI (Zl+(1:Int))/\u96 (Zl+(1:Int)) v3j u94 u95)) (InI (Zl+(1:Int))/\u96 (Zl+(1:Int)) v3j u94 u95)) (K (0:Int))) (K (0:Int))) (0:Int) q0q Rs u6d))) [Spn.mk (0:Int) y8.4] (0:Int) Zx)) (K Um))) (0:Int)))
def Vn:Wf:=q0f Gf q22 q20 q30 q6r
abbrev Ua:Type:=Envt->(ByteArray->Int->Prop)->Prop
def q5f (U9:U3) (Jj:He) (Wi:Up) (q57:q5c) (q2s:q5e) (H0:Hf) (Bl:q12) (H1:q0d) (Wj:Wf):Ua:=fun v K=>U9 (Envt.mk (Sett.mk v.1.1 v.1.2 v.1.3) v.2 v.3 v.4 v.5 v.6) fun Qb=>Cnd (Qb=(0:Int)) (Jj v.3 fun Qd=>Lp2 (fun Qh Zk q7n=>v.3.length<=(9223372036854775807:Nat)->Cnd (Qh<(↑v.3.length:Int)) (((0:Int)<=Qh/\Qh<(↑v.3.length:Int))/\ ∀y4,v.3[Qh.toNat]? =some y4->Cnd (y4.5.1=(0:Int)) (InI (Qh+(1:Int))/\q7n (Qh+(1:Int)) Zk) (((0:Int)<=Qh/\Qh<(↑v.3.length:Int))/\ ∀y6,v.3[Qh.toNat]? =some y6->Wi v.2 Zk (Ex.mk y6.5.1 y6.5.2 y6.5.3 y6.5.4 y6.5.5) fun Un=>Cnd (Un=(0:Int)) (InI (Qh+(1:Int))/\q7n (Qh+(1:Int)) Zk) (((0:Int)<=Qh/\Qh<(↑v.3.length:Int))/\ ∀y9,v.3[Qh.toNat]? =some y9->(↑((ByteArray.mk (Array.mk [115,101,103,109,101,110,116,32])).size+y9.1.size):Int)<=(9223372036854775807:Int)/\K (ByteArray.mk (Array.mk [115,101,103,109,101,110,116,32])++y9.1) Un))) (q57 v.3 fun Qk=>q2s Zk Qk fun Qw q7i=>Cnd (q7i=true) ((↑((ByteArray.mk (Array.mk [115,101,103,109,101,110,116,32])).size+Qw.size):Int)<=(9223372036854775807:Int)/\K (ByteArray.mk (Array.mk [115,101,103,109,101,110,116,32])++Qw) (12:Int)) (Lp3 (fun Zx z7r u7c Y6_3=>v.4.length<=(9223372036854775807:Nat)->Cnd (Zx<(↑v.4.length:Int)) (((0:Int)<=Zx/\Zx<(↑v.4.length:Int))/\ ∀y8,v.4[Zx.toNat]? =some y8->H0 (Envt.mk (Sett.mk v.1.1 v.1.2 v.1.3) v.2 v.3 v.4 v.5 v.6) (Flg.mk y8.1 y8.2 y8.3 y8.4 y8.5 y8.6 y8.7 y8.8 (Srv.mk y8.9.1 y8.9.2 y8.9.3 y8.9.4 y8.9.5)) fun Rs=>Cnd (Rs=(0:Int)) (InI (Zx+(1:Int))/\Y6_3 (Zx+(1:Int)) z7r u7c) (((0:Int)<=Zx/\Zx<(↑v.4.length:Int))/\ ∀y11,v.4[Zx.toNat]? =some y11->(↑((ByteArray.mk (Array.mk [102,108,97,103,32])).size+y11.1.size):Int)<=(9223372036854775807:Int)/\K (ByteArray.mk (Array.mk [102,108,97,103,32])++y11.1) Rs)) (Bl (Envt.mk (Sett.mk v.1.1 v.1.2 v.1.3) v.2 v.3 v.4 v.5 v.6) fun Un=>H1 (Envt.mk (Sett.mk v.1.1 v.1.2 v.1.3) v.2 v.3 v.4 v.5 v.6) fun Q5=>q2s Un Q5 fun Rs q0p=>Cnd (q0p=true) ((↑((ByteArray.mk (Array.mk [102,108,97,103,32])).size+Rs.size):Int)<=(9223372036854775807:Int)/\K (ByteArray.mk (Array.mk [102,108,97,103,32])++Rs) (12:Int)) (Lp5 (fun q0q w5w qa3s qa3t qa3u qa3v=>v.6.length<=(9223372036854775807:Nat)->Cnd (q0q<(↑v.6.length:Int)) (Wj (Envt.mk (Sett.mk v.1.1 v.1.2 v.1.3) v.2 v.3 v.4 v.5 v.6) q0q fun Zl=>Cnd (Zl=(0:Int)) (InI (q0q+(1:Int))/\qa3v (q0q+(1:Int)) w5w qa3s qa3t qa3u) (((0:Int)<=q0q/\q0q<(↑v.6.length:Int))/\ ∀y14,v.6[q0q.toNat]? =some y14->(↑((ByteArray.mk (Array.mk [101,120,112,101,114,105,109,101,110,116,32])).size+y14.1.size):Int)<=(9223372036854775807:Int)/\K (ByteArray.mk (Array.mk [101,120,112,101,114,105,109,101,110,116,32])++y14.1) Zl)) (K (ByteArray.mk (Array.mk [])) (0:Int))) (0:Int) Un Q5 u7c z7r))) (0:Int) Zk Qk))) (0:Int) Qd) (K (ByteArray.mk (Array.mk [])) Qb)
def Hg:Ua:=q5f R4 q20 q30 q9a q9c q0c q6b q0e Vn
abbrev Rf:Type:=Envt->(Bool->Prop)->Prop
def j0l (Ui:Ua):Rf:=fun v K=>Ui (Envt.mk (Sett.mk v.1.1 v.1.2 v.1.3) v.2 v.3 v.4 v.5 v.6) fun _ Q6=>K (decide (Q6=(0:Int)))
def q0g:Rf:=j0l Hg
abbrev Hh:Type:=List (Int)->Int->Int->(Envt->Int->Prop)->Prop
def q9e (Q1:J3) (q3e:q2v) (Qa:Q7) (Rt:z0e) (Z8:Ry) (Bv:q7s) (z0a:z1l) (Ux:B2) (Bw:q2b) (Zn:Jr) (z2v:z1o) (Jk:Rb) (Ht:q3q) (q8l:q75) (Wa:q2a) (Ve:Re) (q58:q45) (J2:Rf):Hh:=fun list at_ now K=>Q1 fun Qb=>Jn1 (fun (Qd:ByteArray×ByteArray×Int×Int×List Decl×Unit)=>q3e list Qd.snd.snd.snd.fst Qd.fst Qd.snd.fst Qd.snd.snd.fst Qd.snd.snd.snd.snd.fst [] [] [] [] fun Qh Zk v3l w5y u3l x2_5 x2_6 x2_7 x2_8=>Qa list Qh (5:Int) fun Qm H9=>Rt Qm [ByteArray.mk (Array.mk [102,97]),ByteArray.mk (Array.mk [102,98]),ByteArray.mk (Array.mk [102,99]),ByteArray.mk (Array.mk [102,100])] fun Qk=>LpH (fun (Qw:Int×Int×List Flg×List Seg×List Lay_×List Exper×Unit) w5x=>Qk.length<=(9223372036854775807:Nat)->Cnd (Qw.fst<(↑Qk.length:Int)) (((0:Int)<=Qw.fst/\Qw.fst<(↑Qk.length:Int))/\ ∀y7,Qk[Qw.fst.toNat]? =some y7->Qa list Qw.snd.fst (5:Int) fun Q5 j11=>InI ((1:Int)+Q5)/\Qa list j11 (6:Int) fun Rs q0p=>Qa list q0p (4:Int) fun q0q w5w=>InI ((1:Int)+q0q)/\LpH (fun (Rv:Int×Int×List Val×List Exper×List Lay_×List Flg×List Seg×Unit) (qa3w:Int×Int×List Val×List Exper×List Lay_×List Flg×List Seg×Unit->Prop)=>Cnd (Rv.fst<(1:Int)+q0q) (Z8 list Rv.snd.fst ((1:Int)+Q5) fun Zl v3j=>Sml (Rv.snd.snd.fst++[Zl]).length/\InI (Rv.fst+(1:Int))/\qa3w (Rv.fst+(1:Int),v3j,Rv.snd.snd.fst++[Zl],Rv.snd.snd.snd.fst,Rv.snd.snd.snd.snd.fst,Rv.snd.snd.snd.snd.snd.fst,Rv.snd.snd.snd.snd.snd.snd.fst,())) (Qa list Rv.snd.fst ((1:Int)+q0q) fun Zl v3j=>InI ((1:Int)+Zl)/\LpH (fun (Vp:Int×List Prq×Int×List Seg×List Flg×List Lay_×List Exper×List Val×Unit) (u3g:Int×List Prq×Int×List Seg×List Flg×List Lay_×List Exper×List Val×Unit->Prop)=>Vp.snd.snd.snd.snd.fst.length<=(9223372036854775807:Nat)->Cnd (Vp.fst<(↑Vp.snd.snd.snd.snd.fst.length:Int)) (Qa list Vp.snd.snd.fst (4:Int) fun q1y qa2e=>Cnd (q1y=(1:Int)) (((0:Int)<=Vp.fst/\Vp.fst<(↑Vp.snd.snd.snd.snd.fst.length:Int))/\ ∀y17,Vp.snd.snd.snd.snd.fst[Vp.fst.toNat]? =some y17->((0:Int)<=Vp.fst/\Vp.fst<(↑Vp.snd.snd.snd.snd.fst.length:Int))/\ ∀y19,Vp.snd.snd.snd.snd.fst[Vp.fst.toNat]? =some y19->y19.3.length<=(9223372036854775807:Nat)->Qa list qa2e (↑y19.3.length:Int) fun u97 qa3x=>InI ((1:Int)+u97)/\Sml (Vp.snd.fst++[Prq.mk y17.1 ((1:Int)+u97)]).length/\InI (Vp.fst+(1:Int))/\u3g (Vp.fst+(1:Int),Vp.snd.fst++[Prq.mk y17.1 ((1:Int)+u97)],qa3x,Vp.snd.snd.snd.fst,Vp.snd.snd.snd.snd.fst,Vp.snd.snd.snd.snd.snd.fst,Vp.snd.snd.snd.snd.snd.snd.fst,Vp.snd.snd.snd.snd.snd.snd.snd.fst,())) (InI (Vp.fst+(1:Int))/\u3g (Vp.fst+(1:Int),Vp.snd.fst,qa2e,Vp.snd.snd.snd.fst,Vp.snd.snd.snd.snd.fst,Vp.snd.snd.snd.snd.snd.fst,Vp.snd.snd.snd.snd.snd.snd.fst,Vp.snd.snd.snd.snd.snd.snd.snd.fst,()))) (LpH (fun (q1y:Int×List Tgt×Int×List Val×List Exper×List Lay_×List Flg×List Seg×List Prq×Unit) (qa2f:Int×List Tgt×Int×List Val×List Exper×List Lay_×List Flg×List Seg×List Prq×Unit->Prop)=>Qa list q1y.snd.snd.fst (3:Int) fun u3h qa2g=>Cnd (q1y.fst<u3h) (Qa list qa2g ((1:Int)+q0q) fun z2w qa3y=>InI ((1:Int)+z2w)/\Bv list qa3y fun Jx u98=>Jn1 (fun (q4w:ByteArray×Int×List ByteArray×List Prq×List Seg×List Flg×List Lay_×List Exper×List Val×List Tgt×Unit)=>q4w.snd.snd.fst.length<=(9223372036854775807:Nat)->Cnd ((0:Int)<(↑q4w.snd.snd.fst.length:Int)) (Sml (q4w.snd.snd.snd.snd.snd.snd.snd.snd.snd.fst++[Tgt.mk q4w.fst ((1:Int)+z2w) q4w.snd.snd.fst]).length/\InI (q1y.fst+(1:Int))/\qa2f (q1y.fst+(1:Int),q4w.snd.snd.snd.snd.snd.snd.snd.snd.snd.fst++[Tgt.mk q4w.fst ((1:Int)+z2w) q4w.snd.snd.fst],q4w.snd.fst,q4w.snd.snd.snd.snd.snd.snd.snd.snd.fst,q4w.snd.snd.snd.snd.snd.snd.snd.fst,q4w.snd.snd.snd.snd.snd.snd.fst,q4w.snd.snd.snd.snd.snd.fst,q4w.snd.snd.snd.snd.fst,q4w.snd.snd.snd.fst,())) (InI (q1y.fst+(1:Int))/\qa2f (q1y.fst+(1:Int),q4w.snd.snd.snd.snd.snd.snd.snd.snd.snd.fst,q4w.snd.fst,q4w.snd.snd.snd.snd.snd.snd.snd.snd.fst,q4w.snd.snd.snd.snd.snd.snd.snd.fst,q4w.snd.snd.snd.snd.snd.snd.fst,q4w.snd.snd.snd.snd.snd.fst,q4w.snd.snd.snd.snd.fst,q4w.snd.snd.snd.fst,()))) fun (qa2h:ByteArray×Int×List ByteArray×List Prq×List Seg×List Flg×List Lay_×List Exper×List Val×List Tgt×Unit->Prop)=>Qa list u98 (4:Int) fun qa3z qa2i=>Cnd (qa3z=(1:Int)) (qa2h (ByteArray.mk (Array.mk [100,101,118,105,99,101]),qa2i,Jx,q1y.snd.snd.snd.snd.snd.snd.snd.snd.fst,q1y.snd.snd.snd.snd.snd.snd.snd.fst,q1y.snd.snd.snd.snd.snd.snd.fst,q1y.snd.snd.snd.snd.snd.fst,q1y.snd.snd.snd.snd.fst,q1y.snd.snd.snd.fst,q1y.snd.fst,())) (qa2h (ByteArray.mk (Array.mk [117,115,101,114]),qa2i,Jx,q1y.snd.snd.snd.snd.snd.snd.snd.snd.fst,q1y.snd.snd.snd.snd.snd.snd.snd.fst,q1y.snd.snd.snd.snd.snd.snd.fst,q1y.snd.snd.snd.snd.snd.fst,q1y.snd.snd.snd.snd.fst,q1y.snd.snd.snd.fst,q1y.snd.fst,()))) (Jn1 (fun (z2w:Int×List Rul×List ByteArray×List Prq×List Seg×List Flg×List Lay_×List Exper×List Val×List Tgt×Unit)=>z0a list z2w.fst ((1:Int)+q0q) fun Jx u98=>Sml (z2w.snd.snd.snd.snd.snd.fst++[Flg.mk y7 ((1:Int)+Q5) z2w.snd.snd.snd.snd.snd.snd.snd.snd.fst (decide (Rs<(5:Int))) ((1:Int)+Zl) z2w.snd.snd.snd.fst z2w.snd.snd.snd.snd.snd.snd.snd.snd.snd.fst z2w.snd.fst Jx]).length/\InI (Qw.fst+(1:Int))/\w5x (Qw.fst+(1:Int),u98,z2w.snd.snd.snd.snd.snd.fst++[Flg.mk y7 ((1:Int)+Q5) z2w.snd.snd.snd.snd.snd.snd.snd.snd.fst (decide (Rs<(5:Int))) ((1:Int)+Zl) z2w.snd.snd.snd.fst z2w.snd.snd.snd.snd.snd.snd.snd.snd.snd.fst z2w.snd.fst Jx],z2w.snd.snd.snd.snd.fst,z2w.snd.snd.snd.snd.snd.snd.fst,z2w.snd.snd.snd.snd.snd.snd.snd.fst,())) fun (u99:Int×List Rul×List ByteArray×List Prq×List Seg×List Flg×List Lay_×List Exper×List Val×List Tgt×Unit->Prop)=>LpH (fun (Jx:Int×Int×List Rul×List ByteArray×List Prq×List Seg×List Flg×List Lay_×List Exper×List Val×List Tgt×Unit) (qa30:Int×Int×List Rul×List ByteArray×List Prq×List Seg×List Flg×List Lay_×List Exper×List Val×List Tgt×Unit->Prop)=>Qa list Jx.snd.fst (5:Int) fun q4w u6e=>Cnd (Jx.fst<q4w) (((0:Int)<=Jx.fst/\Jx.fst<(↑Jx.snd.snd.snd.fst.length:Int))/\ ∀y21,Jx.snd.snd.snd.fst[Jx.fst.toNat]? =some y21->Ux (Envt.mk (Sett.mk Zk v3l w5y) u3l Jx.snd.snd.snd.snd.snd.fst Jx.snd.snd.snd.snd.snd.snd.fst Jx.snd.snd.snd.snd.snd.snd.snd.fst Jx.snd.snd.snd.snd.snd.snd.snd.snd.fst) fun qa31=>Bw list u6e qa31 (3:Int) fun Z2 qa32=>z0a list qa32 ((1:Int)+q0q) fun z1e u3i=>Sml (Jx.snd.snd.fst++[Rul.mk y21 (Ex.mk Z2.1 Z2.2 Z2.3 Z2.4 Z2.5) z1e]).length/\Zn (Jx.snd.snd.fst++[Rul.mk y21 (Ex.mk Z2.1 Z2.2 Z2.3 Z2.4 Z2.5) z1e]) fun qa2j _ qa33=>Cnd (qa33=true) (qa2j.length<=(9223372036854775807:Nat)->Cnd ((0:Int)<(↑qa2j.length:Int)) ((Jx.snd.snd.fst++[Rul.mk y21 (Ex.mk Z2.1 Z2.2 Z2.3 Z2.4 Z2.5) z1e]).length<=(9223372036854775807:Nat)->InI ((↑(Jx.snd.snd.fst++[Rul.mk y21 (Ex.mk Z2.1 Z2.2 Z2.3 Z2.4 Z2.5) z1e]).length:Int) - (1:Int))/\((0:Int)<=(↑(Jx.snd.snd.fst++[Rul.mk y21 (Ex.mk Z2.1 Z2.2 Z2.3 Z2.4 Z2.5) z1e]).length:Int) - (1:Int)/\(↑(Jx.snd.snd.fst++[Rul.mk y21 (Ex.mk Z2.1 Z2.2 Z2.3 Z2.4 Z2.5) z1e]).length:Int) - (1:Int)<=(↑(Jx.snd.snd.fst++[Rul.mk y21 (Ex.mk Z2.1 Z2.2 Z2.3 Z2.4 Z2.5) z1e]).length:Int))/\u99 (u3i,List.take ((↑(Jx.snd.snd.fst++[Rul.mk y21 (Ex.mk Z2.1 Z2.2 Z2.3 Z2.4 Z2.5) z1e]).length:Int) - (1:Int)).toNat (Jx.snd.snd.fst++[Rul.mk y21 (Ex.mk Z2.1 Z2.2 Z2.3 Z2.4 Z2.5) z1e]),Jx.snd.snd.snd.fst,Jx.snd.snd.snd.snd.fst,Jx.snd.snd.snd.snd.snd.fst,Jx.snd.snd.snd.snd.snd.snd.fst,Jx.snd.snd.snd.snd.snd.snd.snd.fst,Jx.snd.snd.snd.snd.snd.snd.snd.snd.fst,Jx.snd.snd.snd.snd.snd.snd.snd.snd.snd.fst,Jx.snd.snd.snd.snd.snd.snd.snd.snd.snd.snd.fst,())) (InI (Jx.fst+(1:Int))/\qa30 (Jx.fst+(1:Int),u3i,Jx.snd.snd.fst++[Rul.mk y21 (Ex.mk Z2.1 Z2.2 Z2.3 Z2.4 Z2.5) z1e],Jx.snd.snd.snd.fst,Jx.snd.snd.snd.snd.fst,Jx.snd.snd.snd.snd.snd.fst,Jx.snd.snd.snd.snd.snd.snd.fst,Jx.snd.snd.snd.snd.snd.snd.snd.fst,Jx.snd.snd.snd.snd.snd.snd.snd.snd.fst,Jx.snd.snd.snd.snd.snd.snd.snd.snd.snd.fst,Jx.snd.snd.snd.snd.snd.snd.snd.snd.snd.snd.fst,()))) ((Jx.snd.snd.fst++[Rul.mk y21 (Ex.mk Z2.1 Z2.2 Z2.3 Z2.4 Z2.5) z1e]).length<=(9223372036854775807:Nat)->InI ((↑(Jx.snd.snd.fst++[Rul.mk y21 (Ex.mk Z2.1 Z2.2 Z2.3 Z2.4 Z2.5) z1e]).length:Int) - (1:Int))/\((0:Int)<=(↑(Jx.snd.snd.fst++[Rul.mk y21 (Ex.mk Z2.1 Z2.2 Z2.3 Z2.4 Z2.5) z1e]).length:Int) - (1:Int)/\(↑(Jx.snd.snd.fst++[Rul.mk y21 (Ex.mk Z2.1 Z2.2 Z2.3 Z2.4 Z2.5) z1e]).length:Int) - (1:Int)<=(↑(Jx.snd.snd.fst++[Rul.mk y21 (Ex.mk Z2.1 Z2.2 Z2.3 Z2.4 Z2.5) z1e]).length:Int))/\u99 (u3i,List.take ((↑(Jx.snd.snd.fst++[Rul.mk y21 (Ex.mk Z2.1 Z2.2 Z2.3 Z2.4 Z2.5) z1e]).length:Int) - (1:Int)).toNat (Jx.snd.snd.fst++[Rul.mk y21 (Ex.mk Z2.1 Z2.2 Z2.3 Z2.4 Z2.5) z1e]),Jx.snd.snd.snd.fst,Jx.snd.snd.snd.snd.fst,Jx.snd.snd.snd.snd.snd.fst,Jx.snd.snd.snd.snd.snd.snd.fst,Jx.snd.snd.snd.snd.snd.snd.snd.fst,Jx.snd.snd.snd.snd.snd.snd.snd.snd.fst,Jx.snd.snd.snd.snd.snd.snd.snd.snd.snd.fst,Jx.snd.snd.snd.snd.snd.snd.snd.snd.snd.snd.fst,()))) (u99 (u6e,Jx.snd.snd.fst,Jx.snd.snd.snd.fst,Jx.snd.snd.snd.snd.fst,Jx.snd.snd.snd.snd.snd.fst,Jx.snd.snd.snd.snd.snd.snd.fst,Jx.snd.snd.snd.snd.snd.snd.snd.fst,Jx.snd.snd.snd.snd.snd.snd.snd.snd.fst,Jx.snd.snd.snd.snd.snd.snd.snd.snd.snd.fst,Jx.snd.snd.snd.snd.snd.snd.snd.snd.snd.snd.fst,()))) ((0:Int),qa2g,[],[ByteArray.mk (Array.mk [102,105,114,115,116]),ByteArray.mk (Array.mk [115,101,99,111,110,100]),ByteArray.mk (Array.mk [116,104,105,114,100]),ByteArray.mk (Array.mk [102,111,117,114,116,104])],q1y.snd.snd.snd.snd.snd.snd.snd.snd.fst,q1y.snd.snd.snd.snd.snd.snd.snd.fst,q1y.snd.snd.snd.snd.snd.snd.fst,q1y.snd.snd.snd.snd.snd.fst,q1y.snd.snd.snd.snd.fst,q1y.snd.snd.snd.fst,q1y.snd.fst,()))) ((0:Int),[],Vp.snd.snd.fst,Vp.snd.snd.snd.snd.snd.snd.snd.fst,Vp.snd.snd.snd.snd.snd.snd.fst,Vp.snd.snd.snd.snd.snd.fst,Vp.snd.snd.snd.snd.fst,Vp.snd.snd.snd.fst,Vp.snd.fst,()))) ((0:Int),[],v3j,Rv.snd.snd.snd.snd.snd.snd.fst,Rv.snd.snd.snd.snd.snd.fst,Rv.snd.snd.snd.snd.fst,Rv.snd.snd.snd.fst,Rv.snd.snd.fst,()))) ((0:Int),w5w,[],Qw.snd.snd.snd.snd.snd.fst,Qw.snd.snd.snd.snd.fst,Qw.snd.snd.fst,Qw.snd.snd.snd.fst,())) (Qa list Qw.snd.fst (3:Int) fun Um j4k=>Rt Um [ByteArray.mk (Array.mk [108,97]),ByteArray.mk (Array.mk [108,98])] fun Un=>LpH (fun (Q5:Int×Int×List Lay_×List Exper×List Seg×List Flg×Unit) (Y9_1:Int×Int×List Lay_×List Exper×List Seg×List Flg×Unit->Prop)=>Un.length<=(9223372036854775807:Nat)->Cnd (Q5.fst<(↑Un.length:Int)) (((0:Int)<=Q5.fst/\Q5.fst<(↑Un.length:Int))/\ ∀y11,Un[Q5.fst.toNat]? =some y11->z2v list Q5.snd.fst y11 fun Zl v3j=>Sml (Q5.snd.snd.fst++[Zl]).length/\InI (Q5.fst+(1:Int))/\Y9_1 (Q5.fst+(1:Int),v3j,Q5.snd.snd.fst++[Zl],Q5.snd.snd.snd.fst,Q5.snd.snd.snd.snd.fst,Q5.snd.snd.snd.snd.snd.fst,())) (Qa list Q5.snd.fst (4:Int) fun q0q w5w=>Rt q0q [ByteArray.mk (Array.mk [120,97]),ByteArray.mk (Array.mk [120,98]),ByteArray.mk (Array.mk [120,99])] fun Rv=>LpH (fun (Zl:Int×Int×List Exper×List Flg×List Seg×List Lay_×Unit) (qa2k:Int×Int×List Exper×List Flg×List Seg×List Lay_×Unit->Prop)=>Rv.length<=(9223372036854775807:Nat)->Cnd (Zl.fst<(↑Rv.length:Int)) (Zl.snd.snd.snd.fst.length<=(9223372036854775807:Nat)->Cnd ((0:Int)<(↑Zl.snd.snd.snd.fst.length:Int)) (Zl.snd.snd.snd.snd.snd.fst.length<=(9223372036854775807:Nat)->Cnd ((0:Int)<(↑Zl.snd.snd.snd.snd.snd.fst.length:Int)) (((0:Int)<=Zl.fst/\Zl.fst<(↑Rv.length:Int))/\ ∀y17,Rv[Zl.fst.toNat]? =some y17->Zl.snd.snd.snd.fst.length<=(9223372036854775807:Nat)->Qa list Zl.snd.fst (↑Zl.snd.snd.snd.fst.length:Int) fun q4w u6e=>((0:Int)<=q4w/\q4w<(↑Zl.snd.snd.snd.fst.length:Int))/\ ∀y21,Zl.snd.snd.snd.fst[q4w.toNat]? =some y21->Zl.snd.snd.snd.snd.snd.fst.length<=(9223372036854775807:Nat)->y21.3.length<=(9223372036854775807:Nat)->Qa list u6e (↑Zl.snd.snd.snd.snd.snd.fst.length:Int) fun z1e u3i=>((0:Int)<=z1e/\z1e<(↑Zl.snd.snd.snd.snd.snd.fst.length:Int))/\ ∀y26,Zl.snd.snd.snd.snd.snd.fst[z1e.toNat]? =some y26->Jk list u3i fun w8c qa34=>Qa list qa34 (3:Int) fun u6f qa35=>InI ((1:Int)+u6f)/\Ht list qa35 (↑y21.3.length:Int) fun qa0a qa2l=>Jn1 (fun (q7j:Int×Int×List Rng×List Exper×List Lay_×List Flg×List Seg×Unit)=>Jn1 (fun (Z0:Int×ByteArray×ByteArray×List Val×List Ex×Int×List Seg×List Flg×List Lay_×List Exper×List Rng×Unit)=>q8l (Envt.mk (Sett.mk Zk v3l w5y) u3l Z0.snd.snd.snd.snd.snd.snd.fst Z0.snd.snd.snd.snd.snd.snd.snd.fst Z0.snd.snd.snd.snd.snd.snd.snd.snd.fst Z0.snd.snd.snd.snd.snd.snd.snd.snd.snd.fst) y26.1 now fun (qa0b:List Spn) (_:Int)=>Wa list Z0.snd.snd.snd.snd.snd.fst (8000:Int) fun (qa0c qa36:Int)=>Wa list qa36 (8000:Int) fun (y2n qa0d:Int)=>Ve qa0b [Spn.mk qa0c y2n] fun (qa37:List Spn)=>Wa list qa0d (7000:Int) fun (qa38 qa2m:Int)=>q58 qa37 qa38 fun (w8d:List Spn)=>Sml (Z0.snd.snd.snd.snd.snd.snd.snd.snd.snd.fst++[Exper.mk y17 y26.1 y21.1 w8c q7j.fst w8d Z0.snd.snd.snd.snd.snd.snd.snd.snd.snd.snd.fst (Ex.mk Z0.fst Z0.snd.fst Z0.snd.snd.fst Z0.snd.snd.snd.fst Z0.snd.snd.snd.snd.fst)]).length/\J2 (Envt.mk (Sett.mk Zk v3l w5y) u3l Z0.snd.snd.snd.snd.snd.snd.fst Z0.snd.snd.snd.snd.snd.snd.snd.fst Z0.snd.snd.snd.snd.snd.snd.snd.snd.fst (Z0.snd.snd.snd.snd.snd.snd.snd.snd.snd.fst++[Exper.mk y17 y26.1 y21.1 w8c q7j.fst w8d Z0.snd.snd.snd.snd.snd.snd.snd.snd.snd.snd.fst (Ex.mk Z0.fst Z0.snd.fst Z0.snd.snd.fst Z0.snd.snd.snd.fst Z0.snd.snd.snd.snd.fst)])) fun (qa39:Bool)=>Cnd (qa39=true) (InI (Zl.fst+(1:Int))/\qa2k (Zl.fst+(1:Int),qa2m,Z0.snd.snd.snd.snd.snd.snd.snd.snd.snd.fst++[Exper.mk y17 y26.1 y21.1 w8c q7j.fst w8d Z0.snd.snd.snd.snd.snd.snd.snd.snd.snd.snd.fst (Ex.mk Z0.fst Z0.snd.fst Z0.snd.snd.fst Z0.snd.snd.snd.fst Z0.snd.snd.snd.snd.fst)],Z0.snd.snd.snd.snd.snd.snd.snd.fst,Z0.snd.snd.snd.snd.snd.snd.fst,Z0.snd.snd.snd.snd.snd.snd.snd.snd.fst,())) ((Z0.snd.snd.snd.snd.snd.snd.snd.snd.snd.fst++[Exper.mk y17 y26.1 y21.1 w8c q7j.fst w8d Z0.snd.snd.snd.snd.snd.snd.snd.snd.snd.snd.fst (Ex.mk Z0.fst Z0.snd.fst Z0.snd.snd.fst Z0.snd.snd.snd.fst Z0.snd.snd.snd.snd.fst)]).length<=(9223372036854775807:Nat)->InI ((↑(Z0.snd.snd.snd.snd.snd.snd.snd.snd.snd.fst++[Exper.mk y17 y26.1 y21.1 w8c q7j.fst w8d Z0.snd.snd.snd.snd.snd.snd.snd.snd.snd.snd.fst (Ex.mk Z0.fst Z0.snd.fst Z0.snd.snd.fst Z0.snd.snd.snd.fst Z0.snd.snd.snd.snd.fst)]).length:Int) - (1:Int))/\((0:Int)<=(↑(Z0.snd.snd.snd.snd.snd.snd.snd.snd.snd.fst++[Exper.mk y17 y26.1 y21.1 w8c q7j.fst w8d Z0.snd.snd.snd.snd.snd.snd.snd.snd.snd.snd.fst (Ex.mk Z0.fst Z0.snd.fst Z0.snd.snd.fst Z0.snd.snd.snd.fst Z0.snd.snd.snd.snd.fst)]).length:Int) - (1:Int)/\(↑(Z0.snd.snd.snd.snd.snd.snd.snd.snd.snd.fst++[Exper.mk y17 y26.1 y21.1 w8c q7j.fst w8d Z0.snd.snd.snd.snd.snd.snd.snd.snd.snd.snd.fst (Ex.mk Z0.fst Z0.snd.fst Z0.snd.snd.fst Z0.snd.snd.snd.fst Z0.snd.snd.snd.snd.fst)]).length:Int) - (1:Int)<=(↑(Z0.snd.snd.snd.snd.snd.snd.snd.snd.snd.fst++[Exper.mk y17 y26.1 y21.1 w8c q7j.fst w8d Z0.snd.snd.snd.snd.snd.snd.snd.snd.snd.snd.fst (Ex.mk Z0.fst Z0.snd.fst Z0.snd.snd.fst Z0.snd.snd.snd.fst Z0.snd.snd.snd.snd.fst)]).length:Int))/\InI (Zl.fst+(1:Int))/\qa2k (Zl.fst+(1:Int),qa2m,List.take ((↑(Z0.snd.snd.snd.snd.snd.snd.snd.snd.snd.fst++[Exper.mk y17 y26.1 y21.1 w8c q7j.fst w8d Z0.snd.snd.snd.snd.snd.snd.snd.snd.snd.snd.fst (Ex.mk Z0.fst Z0.snd.fst Z0.snd.snd.fst Z0.snd.snd.snd.fst Z0.snd.snd.snd.snd.fst)]).length:Int) - (1:Int)).toNat (Z0.snd.snd.snd.snd.snd.snd.snd.snd.snd.fst++[Exper.mk y17 y26.1 y21.1 w8c q7j.fst w8d Z0.snd.snd.snd.snd.snd.snd.snd.snd.snd.snd.fst (Ex.mk Z0.fst Z0.snd.fst Z0.snd.snd.fst Z0.snd.snd.snd.fst Z0.snd.snd.snd.snd.fst)]),Z0.snd.snd.snd.snd.snd.snd.snd.fst,Z0.snd.snd.snd.snd.snd.snd.fst,Z0.snd.snd.snd.snd.snd.snd.snd.snd.fst,()))) fun (qa2n:Int×ByteArray×ByteArray×List Val×List Ex×Int×List Seg×List Flg×List Lay_×List Exper×List Rng×Unit->Prop)=>Qa list q7j.snd.fst (2:Int) fun (qa0b qa2o:Int)=>Cnd (qa0b=(1:Int)) (Ux (Envt.mk (Sett.mk Zk v3l w5y) u3l q7j.snd.snd.snd.snd.snd.snd.fst q7j.snd.snd.snd.snd.snd.fst q7j.snd.snd.snd.snd.fst q7j.snd.snd.snd.fst) fun (qa0c:List ByteArray)=>Bw list qa2o qa0c (2:Int) fun (y2n:Ex) (qa0d:Int)=>qa2n (y2n.1,y2n.2,y2n.3,y2n.4,y2n.5,qa0d,q7j.snd.snd.snd.snd.snd.snd.fst,q7j.snd.snd.snd.snd.snd.fst,q7j.snd.snd.snd.snd.fst,q7j.snd.snd.snd.fst,q7j.snd.snd.fst,())) (qa2n ((1:Int),ByteArray.mk (Array.mk []),ByteArray.mk (Array.mk []),[],[],qa2o,q7j.snd.snd.snd.snd.snd.snd.fst,q7j.snd.snd.snd.snd.snd.fst,q7j.snd.snd.snd.snd.fst,q7j.snd.snd.snd.fst,q7j.snd.snd.fst,()))) fun (qa0e:Int×Int×List Rng×List Exper×List Lay_×List Flg×List Seg×Unit->Prop)=>Cnd ((1:Int)+u6f=(1:Int)) (Qa list qa2l (2:Int) fun Z0 qa2p=>Cnd (Z0=(0:Int)) (qa0e ((2:Int),qa2p,qa0a,Zl.snd.snd.fst,Zl.snd.snd.snd.snd.snd.fst,Zl.snd.snd.snd.fst,Zl.snd.snd.snd.snd.fst,())) (qa0e ((1:Int)+u6f,qa2p,qa0a,Zl.snd.snd.fst,Zl.snd.snd.snd.snd.snd.fst,Zl.snd.snd.snd.fst,Zl.snd.snd.snd.snd.fst,()))) (qa0e ((1:Int)+u6f,qa2l,qa0a,Zl.snd.snd.fst,Zl.snd.snd.snd.snd.snd.fst,Zl.snd.snd.snd.fst,Zl.snd.snd.snd.snd.fst,()))) (J2 (Envt.mk (Sett.mk Zk v3l w5y) u3l Zl.snd.snd.snd.snd.fst Zl.snd.snd.snd.fst Zl.snd.snd.snd.snd.snd.fst Zl.snd.snd.fst) fun u3h=>Cnd (u3h=true) (K (Envt.mk (Sett.mk Zk v3l w5y) u3l Zl.snd.snd.snd.snd.fst Zl.snd.snd.snd.fst Zl.snd.snd.snd.snd.snd.fst Zl.snd.snd.fst) Zl.snd.fst) (Q1 fun z2w=>K (Envt.mk (Sett.mk (ByteArray.mk (Array.mk [])) (ByteArray.mk (Array.mk [])) (0:Int)) z2w [] [] [] []) Zl.snd.fst))) (J2 (Envt.mk (Sett.mk Zk v3l w5y) u3l Zl.snd.snd.snd.snd.fst Zl.snd.snd.snd.fst Zl.snd.snd.snd.snd.snd.fst Zl.snd.snd.fst) fun q1y=>Cnd (q1y=true) (K (Envt.mk (Sett.mk Zk v3l w5y) u3l Zl.snd.snd.snd.snd.fst Zl.snd.snd.snd.fst Zl.snd.snd.snd.snd.snd.fst Zl.snd.snd.fst) Zl.snd.fst) (Q1 fun u3h=>K (Envt.mk (Sett.mk (ByteArray.mk (Array.mk [])) (ByteArray.mk (Array.mk [])) (0:Int)) u3h [] [] [] []) Zl.snd.fst))) (J2 (Envt.mk (Sett.mk Zk v3l w5y) u3l Zl.snd.snd.snd.snd.fst Zl.snd.snd.snd.fst Zl.snd.snd.snd.snd.snd.fst Zl.snd.snd.fst) fun j95=>Cnd (j95=true) (K (Envt.mk (Sett.mk Zk v3l w5y) u3l Zl.snd.snd.snd.snd.fst Zl.snd.snd.snd.fst Zl.snd.snd.snd.snd.snd.fst Zl.snd.snd.fst) Zl.snd.fst) (Q1 fun q1y=>K (Envt.mk (Sett.mk (ByteArray.mk (Array.mk [])) (ByteArray.mk (Array.mk [])) (0:Int)) q1y [] [] [] []) Zl.snd.fst))) ((0:Int),w5w,Q5.snd.snd.snd.fst,Q5.snd.snd.snd.snd.snd.fst,Q5.snd.snd.snd.snd.fst,Q5.snd.snd.fst,()))) ((0:Int),j4k,Qw.snd.snd.snd.snd.fst,Qw.snd.snd.snd.snd.snd.fst,Qw.snd.snd.snd.fst,Qw.snd.snd.fst,()))) ((0:Int),H9,x2_6,x2_5,x2_7,x2_8,())) fun w9k=>Qa list at_ (2:Int) fun Qh Zk=>Cnd (Qh=(1:Int)) (Jk list Zk fun Qm H9=>Wa list H9 (2500:Int) fun Qk Wm=>w9k (Qm,ByteArray.mk (Array.mk [117,115,101,114]),Qk,Wm,Qb,())) (w9k (ByteArray.mk (Array.mk []),ByteArray.mk (Array.mk []),(0:Int),Zk,Qb,()))
def q0h:Hh:=q9e W0 q6l Zv z72 G5 z3b z5h B3 z3d W8 z5m q3p q8w z1r q7r q2f q83 q0g
abbrev q13:Type:=(Envt->Prop)->Prop
def q6c:q13:=fun K=>K (Envt.mk (Sett.mk (ByteArray.mk (Array.mk [])) (ByteArray.mk (Array.mk [])) (0:Int)) [] [] [Flg.mk (ByteArray.mk (Array.mk [102])) (1:Int) [Val.mk (1:Int) (0:Int) (ByteArray.mk (Array.mk [])) [],Val.mk (1:Int) (1:Int) (ByteArray.mk (Array.mk [])) []] true (1:Int) [] [] [] (Srv.mk (1:Int) (ByteArray.mk (Array.mk [])) (ByteArray.mk (Array.mk [])) (ByteArray.mk (Array.mk [])) [])] [Lay_.mk (ByteArray.mk (Array.mk [108])) (ByteArray.mk (Array.mk [117,115,101,114])) (ByteArray.mk (Array.mk [])) (0:Int) (0:Int) []] [Exper.mk (ByteArray.mk (Array.mk [120])) (ByteArray.mk (Array.mk [108])) (ByteArray.mk (Array.mk [102])) (ByteArray.mk (Array.mk [])) (2:Int) [Spn.mk (0:Int) (10000:Int)] [Rng.mk (0:Int) (10000:Int) (2:Int)] (Ex.mk (1:Int) (ByteArray.mk (Array.mk [])) (ByteArray.mk (Array.mk [])) [] [])])
abbrev Vo:Type:=Subj->ByteArray->(Int->Prop)->Prop
def Uq:Vo:=fun s kind K=>s.1.length<=(9223372036854775807:Nat)->Lp1 (fun Qd q3i=>Cnd (Qd<(↑s.1.length:Int)) (((0:Int)<=Qd/\Qd<(↑s.1.length:Int))/\ ∀y2,s.1[Qd.toNat]? =some y2->Cnd (y2.1=kind) (K Qd) (InI (Qd+(1:Int))/\q3i (Qd+(1:Int)))) (K (-1:Int))) (0:Int)
abbrev Wt:Type:=Val->(Val->Prop)->Prop
def Vj:Wt:=fun v K=> ∀n0,(n0=true->v.4=[])->Cnd (n0=true) (K (Val.mk v.1 v.2 v.3 [])) (Sml ([]++v.4).length/\K (Val.mk v.1 v.2 v.3 ([]++v.4)))
abbrev Ub:Type:=Attr->(Attr->Prop)->Prop
def q5g (Zi:Wt):Ub:=fun a K=>Zi (Val.mk a.2.1 a.2.2 a.2.3 a.2.4) fun Qb=>K (Attr.mk a.1 Qb)
def Hi:Ub:=q5g Vj
abbrev Hj:Type:=Ctxt->(Ctxt->Prop)->Prop
def q9f (Uj:Ub):Hj:=fun c K=>c.3.length<=(9223372036854775807:Nat)->((0:Int)<=(0:Int)/\(0:Int)<=(↑c.3.length:Int)/\Sml (↑c.3.length:Int).toNat)/\(c.3.length<=(9223372036854775807:Nat)->Lp2 (fun Qh Zk q7n=>Cnd (Zk<(↑c.3.length:Int)) (((0:Int)<=Zk/\Zk<(↑c.3.length:Int))/\ ∀y3,c.3[Zk.toNat]? =some y3->Uj (Attr.mk y3.1 (Val.mk y3.2.1 y3.2.2 y3.2.3 y3.2.4)) fun Qw=>Sml (Qh++[Attr.mk Qw.1 (Val.mk Qw.2.1 Qw.2.2 Qw.2.3 Qw.2.4)]).length/\InI (Zk+(1:Int))/\q7n (Qh++[Attr.mk Qw.1 (Val.mk Qw.2.1 Qw.2.2 Qw.2.3 Qw.2.4)]) (Zk+(1:Int))) (K (Ctxt.mk c.1 c.2 Qh))) (List.replicate (Int.toNat (0:Int)) (Attr.mk (ByteArray.mk (Array.mk [])) (Val.mk (0:Int) (0:Int) (ByteArray.mk (Array.mk [])) []))) (0:Int))
def q0i:Hj:=q9f Hi
abbrev Jn:Type:=Subj->ByteArray->(Ctxt->Bool->Prop)->Prop
def z0v (Ja:Vo) (H2:Hj):Jn:=fun s kind K=>Ja (Subj.mk s.1) kind fun Qb=>Cnd (Qb<(0:Int)) (K (Ctxt.mk (ByteArray.mk (Array.mk [])) (ByteArray.mk (Array.mk [])) []) false) (((0:Int)<=Qb/\Qb<(↑s.1.length:Int))/\ ∀y1,s.1[Qb.toNat]? =some y1->H2 y1 fun Qm=>K Qm true)
def Vk:Jn:=z0v Uq q0i
abbrev q14:Type:=List (List Int)->(List (Int)->Prop)->Prop
def q15:q14:=fun fields K=>fields.length<=(9223372036854775807:Nat)->Lp2 (fun Qd Z1 z84=>Cnd (Z1<(↑fields.length:Int)) (((0:Int)<=Z1/\Z1<(↑fields.length:Int))/\ ∀y2,fields[Z1.toNat]? =some y2->Lp2 (fun Qk Wm v7w=>Cnd ((0:Int)<=Wm) (y2.length<=(9223372036854775807:Nat)->InI ((8:Int)*Wm)/\(0:Int)<=(8:Int)*Wm/\Sml (Qk++[Go.IntKind.u8.wrap ((Go.IntKind.u64.wrap (↑y2.length:Int)).fdiv ((2:Int) ^ Min.min ((8:Int)*Wm).toNat (64:Nat)))]).length/\InI (Wm - (1:Int))/\v7w (Qk++[Go.IntKind.u8.wrap ((Go.IntKind.u64.wrap (↑y2.length:Int)).fdiv ((2:Int) ^ Min.min ((8:Int)*Wm).toNat (64:Nat)))]) (Wm - (1:Int))) (Sml (Qk++y2).length/\InI (Z1+(1:Int))/\z84 (Qk++y2) (Z1+(1:Int)))) Qd (7:Int)) (K Qd)) [] (0:Int)
abbrev Ur:Type:=Int->Int->(Int->Prop)->Prop
def Us:Ur:=fun x k K=>(0:Int)<=Go.IntKind.u64.wrap (↑(BitVec.ofInt (64:Nat) (Go.IntKind.u64.wrap k) &&& BitVec.ofInt (64:Nat) (63:Int)).toNat:Int)/\(0:Int)<=Go.IntKind.u64.wrap ((64:Int) - Go.IntKind.u64.wrap (↑(BitVec.ofInt (64:Nat) (Go.IntKind.u64.wrap k) &&& BitVec.ofInt (64:Nat) (63:Int)).toNat:Int))/\K (Go.IntKind.u64.wrap (↑(BitVec.ofInt (64:Nat) (Go.IntKind.u64.wrap (x*(2:Int) ^ Min.min (Go.IntKind.u64.wrap (↑(BitVec.ofInt (64:Nat) (Go.IntKind.u64.wrap k) &&& BitVec.ofInt (64:Nat) (63:Int)).toNat:Int)).toNat (64:Nat)))|||BitVec.ofInt (64:Nat) (x.fdiv ((2:Int) ^ Min.min (Go.IntKind.u64.wrap ((64:Int) - Go.IntKind.u64.wrap (↑(BitVec.ofInt (64:Nat) (Go.IntKind.u64.wrap k) &&& BitVec.ofInt (64:Nat) (63:Int)).toNat:Int))).toNat (64:Nat)))).toNat:Int))
abbrev Z4:Type:=Int->Int->Int->Int->Int->(Int->Int->Int->Int->Prop)->Prop
def q1w (Zp:Ur):Z4:=fun v0 v1 v2 v3 n K=>Lp5 (fun Qb Q6 j7h q8d v3k Y0_5=>Cnd (Qb<n) (Zp j7h (13:Int) fun Qd=>Zp (Go.IntKind.u64.wrap (Q6+j7h)) (32:Int) fun Qh=>Zp v3k (16:Int) fun Qm=>Zp (Go.IntKind.u64.wrap (↑(BitVec.ofInt (64:Nat) Qm ^^^ BitVec.ofInt (64:Nat) (Go.IntKind.u64.wrap (q8d+v3k))).toNat:Int)) (21:Int) fun Qk=>Zp (Go.IntKind.u64.wrap (↑(BitVec.ofInt (64:Nat) Qd ^^^ BitVec.ofInt (64:Nat) (Go.IntKind.u64.wrap (Q6+j7h))).toNat:Int)) (17:Int) fun Qw=>Zp (Go.IntKind.u64.wrap (Go.IntKind.u64.wrap (q8d+v3k)+Go.IntKind.u64.wrap (↑(BitVec.ofInt (64:Nat) Qd ^^^ BitVec.ofInt (64:Nat) (Go.IntKind.u64.wrap (Q6+j7h))).toNat:Int))) (32:Int) fun Zx=>InI (Qb+(1:Int))/\Y0_5 (Qb+(1:Int)) (Go.IntKind.u64.wrap (Qh+Go.IntKind.u64.wrap (↑(BitVec.ofInt (64:Nat) Qm ^^^ BitVec.ofInt (64:Nat) (Go.IntKind.u64.wrap (q8d+v3k))).toNat:Int))) (Go.IntKind.u64.wrap (↑(BitVec.ofInt (64:Nat) Qw ^^^ BitVec.ofInt (64:Nat) (Go.IntKind.u64.wrap (Go.IntKind.u64.wrap (q8d+v3k)+Go.IntKind.u64.wrap (↑(BitVec.ofInt (64:Nat) Qd ^^^ BitVec.ofInt (64:Nat) (Go.IntKind.u64.wrap (Q6+j7h))).toNat:Int)))).toNat:Int)) Zx (Go.IntKind.u64.wrap (↑(BitVec.ofInt (64:Nat) Qk ^^^ BitVec.ofInt (64:Nat) (Go.IntKind.u64.wrap (Qh+Go.IntKind.u64.wrap (↑(BitVec.ofInt (64:Nat) Qm ^^^ BitVec.ofInt (64:Nat) (Go.IntKind.u64.wrap (q8d+v3k))).toNat:Int)))).toNat:Int))) (K Q6 j7h q8d v3k)) (0:Int) v0 v1 v2 v3
def Zq:Z4:=q1w Us
abbrev Vr:Type:=Int->Int->Int->Int->Int->(Int->Int->Int->Int->Prop)->Prop
def q32 (Za:Z4):Vr:=fun v0 v1 v2 v3 m K=>Za v0 v1 v2 (Go.IntKind.u64.wrap (↑(BitVec.ofInt (64:Nat) v3 ^^^ BitVec.ofInt (64:Nat) m).toNat:Int)) (2:Int) fun Qb Q6 j7h q8d=>K (Go.IntKind.u64.wrap (↑(BitVec.ofInt (64:Nat) Qb ^^^ BitVec.ofInt (64:Nat) m).toNat:Int)) Q6 j7h q8d
def Gk:Vr:=q32 Zq
abbrev q24:Type:=Int->Int->List (Int)->(Int->Prop)->Prop
def z50 (Ww:Vr) (Za:Z4):q24:=fun k0 k1 b K=>b.length<=(9223372036854775807:Nat)->(0:Int)<=(56:Int)/\Lp5 (fun Qd Z1 z47 j7i x1_4 Y1_5=>InI (Qd+(8:Int))/\(b.length<=(9223372036854775807:Nat)->Cnd (Qd+(8:Int)<=(↑b.length:Int)) (Lp2 (fun Qm H9 w8b=>Cnd (H9<(8:Int)) (InI (Qd+H9)/\((0:Int)<=Qd+H9/\Qd+H9<(↑b.length:Int))/\ ∀y4,b[(Qd+H9).toNat]? =some y4->InI ((8:Int)*H9)/\(0:Int)<=(8:Int)*H9/\InI (H9+(1:Int))/\w8b (Go.IntKind.u64.wrap (↑(BitVec.ofInt (64:Nat) Qm|||BitVec.ofInt (64:Nat) (Go.IntKind.u64.wrap (Go.IntKind.u64.wrap y4*(2:Int) ^ Min.min ((8:Int)*H9).toNat (64:Nat)))).toNat:Int)) (H9+(1:Int))) (Ww Z1 z47 j7i x1_4 Qm fun Qk Wm z42 u3k=>InI (Qd+(8:Int))/\Y1_5 (Qd+(8:Int)) Qk Wm z42 u3k)) (0:Int) (0:Int)) (b.length<=(9223372036854775807:Nat)->(8:Int)≠(0:Int)/\Lp2 (fun Qk Wm v7w=>Cnd (Wm<(↑b.length:Int).tmod (8:Int)) (b.length<=(9223372036854775807:Nat)->b.length<=(9223372036854775807:Nat)->(8:Int)≠(0:Int)/\InI ((↑b.length:Int) - (↑b.length:Int).tmod (8:Int))/\InI ((↑b.length:Int) - (↑b.length:Int).tmod (8:Int)+Wm)/\((0:Int)<=(↑b.length:Int) - (↑b.length:Int).tmod (8:Int)+Wm/\(↑b.length:Int) - (↑b.length:Int).tmod (8:Int)+Wm<(↑b.length:Int))/\ ∀y7,b[((↑b.length:Int) - (↑b.length:Int).tmod (8:Int)+Wm).toNat]? =some y7->InI ((8:Int)*Wm)/\(0:Int)<=(8:Int)*Wm/\InI (Wm+(1:Int))/\v7w (Go.IntKind.u64.wrap (↑(BitVec.ofInt (64:Nat) Qk|||BitVec.ofInt (64:Nat) (Go.IntKind.u64.wrap (Go.IntKind.u64.wrap y7*(2:Int) ^ Min.min ((8:Int)*Wm).toNat (64:Nat)))).toNat:Int)) (Wm+(1:Int))) (Ww Z1 z47 j7i x1_4 Qk fun Qw q7i x5_2 x5_3=>Za Qw q7i (Go.IntKind.u64.wrap (↑(BitVec.ofInt (64:Nat) x5_2 ^^^ BitVec.ofInt (64:Nat) (255:Int)).toNat:Int)) x5_3 (4:Int) fun Zx z7r u7c u92=>K (Go.IntKind.u64.wrap (↑(BitVec.ofInt (64:Nat) (Go.IntKind.u64.wrap (↑(BitVec.ofInt (64:Nat) (Go.IntKind.u64.wrap (↑(BitVec.ofInt (64:Nat) Zx ^^^ BitVec.ofInt (64:Nat) z7r).toNat:Int)) ^^^ BitVec.ofInt (64:Nat) u7c).toNat:Int)) ^^^ BitVec.ofInt (64:Nat) u92).toNat:Int)))) (Go.IntKind.u64.wrap (Go.IntKind.u64.wrap (↑b.length:Int)*(2:Int) ^ Min.min (Int.toNat (56:Int)) (64:Nat))) (0:Int)))) (0:Int) (Go.IntKind.u64.wrap (↑(BitVec.ofInt (64:Nat) k0 ^^^ BitVec.ofInt (64:Nat) (8317987319222330741:Int)).toNat:Int)) (Go.IntKind.u64.wrap (↑(BitVec.ofInt (64:Nat) k1 ^^^ BitVec.ofInt (64:Nat) (7237128888997146477:Int)).toNat:Int)) (Go.IntKind.u64.wrap (↑(BitVec.ofInt (64:Nat) k0 ^^^ BitVec.ofInt (64:Nat) (7816392313619706465:Int)).toNat:Int)) (Go.IntKind.u64.wrap (↑(BitVec.ofInt (64:Nat) k1 ^^^ BitVec.ofInt (64:Nat) (8387220255154660723:Int)).toNat:Int))
def q6s:q24:=z50 Gk Zq
abbrev q04:Type:=Int->List (List Int)->(Int->Prop)->Prop
def z3i (Bm:q14) (q3f:q24):q04:=fun domain fields K=>Bm fields fun Qb=>q3f domain (0:Int) Qb fun Qd=>K Qd
def q33:q04:=z3i q15 q6s
abbrev Rg:Type:=ByteArray->ByteArray->(Int->Prop)->Prop
def j0m (q1m:q04):Rg:=fun salt key K=>Sml salt.size/\Sml key.size/\q1m (1:Int) [List.map (fun b=>(↑b.toNat:Int)) (salt,key,()).fst.data.toList,List.map (fun b=>(↑b.toNat:Int)) (salt,key,()).snd.fst.data.toList] fun Qb=>(10000:Int)≠(0:Int)/\InI (Qb.tmod (10000:Int))/\K (Qb.tmod (10000:Int))
def Rh:Rg:=j0m q33
abbrev q0j:Type:=List (Frc)->ByteArray->(Frc->Bool->Prop)->Prop
def q0k:q0j:=fun l layer K=>l.length<=(9223372036854775807:Nat)->Lp4 (fun Qd Z1 z47 j7i Y1_4=>Cnd (Qd<(↑l.length:Int)) (((0:Int)<=Qd/\Qd<(↑l.length:Int))/\ ∀y2,l[Qd.toNat]? =some y2->Cnd (y2.1=layer) (K y2 true) (InI (Qd+(1:Int))/\Y1_4 (Qd+(1:Int)) Z1 z47 j7i)) (K (Frc.mk (ByteArray.mk (Array.mk [])) (ByteArray.mk (Array.mk [])) (0:Int)) false)) (0:Int) (ByteArray.mk (Array.mk [])) (ByteArray.mk (Array.mk [])) (0:Int)
abbrev q34:Type:=Envt->Frc->(Bool->Prop)->Prop
def q35:q34:=fun v f K=>v.6.length<=(9223372036854775807:Nat)->Lp1 (fun Qd q3i=>Cnd (Qd<(↑v.6.length:Int)) (((0:Int)<=Qd/\Qd<(↑v.6.length:Int))/\ ∀y2,v.6[Qd.toNat]? =some y2->Cnd (y2.1=f.2) (Cnd (y2.2=f.1) (Cnd (y2.5=(2:Int)) (y2.7.length<=(9223372036854775807:Nat)->Lp1 (fun Qw w5x=>Cnd (Qw<(↑y2.7.length:Int)) (((0:Int)<=Qw/\Qw<(↑y2.7.length:Int))/\ ∀y6,y2.7[Qw.toNat]? =some y6->Cnd (y6.3=f.3) (Cnd ((0:Int)<=Qw) (K (decide ((0:Int)<=Qd))) (InI (Qd+(1:Int))/\q3i (Qd+(1:Int)))) (InI (Qw+(1:Int))/\w5x (Qw+(1:Int)))) (Cnd ((0:Int)<=(-1:Int)) (K (decide ((0:Int)<=Qd))) (InI (Qd+(1:Int))/\q3i (Qd+(1:Int))))) (0:Int)) (InI (Qd+(1:Int))/\q3i (Qd+(1:Int)))) (InI (Qd+(1:Int))/\q3i (Qd+(1:Int)))) (InI (Qd+(1:Int))/\q3i (Qd+(1:Int)))) (K (decide ((0:Int)<=(-1:Int))))) (0:Int)
abbrev q05:Type:=Envt->Subj->(Bool->Prop)->Prop
def z3j (Zc:Jn) (Wx:Rg):q05:=fun v s K=>Cnd (v.1.3<=(0:Int)) (K false) (Zc (Subj.mk s.1) v.1.2 fun Qb Q6=>Cnd (Q6=true) (Wx v.1.1 Qb.2 fun Qd=>K (decide (Qd<v.1.3))) (K false))
def q36:q05:=z3j Vk Rh
abbrev Gl:Type:=Int->(Bool->Prop)->Prop
def Gm:Gl:=fun op K=>Cnd ((6:Int)<=op) (K (decide (op<=(15:Int)))) (K false)
abbrev Zb:Type:=List (ByteArray)->List (ByteArray)->(Bool->Prop)->Prop
def Zj:Zb:=fun s1 s2 K=>s1.length<=(9223372036854775807:Nat)->s2.length<=(9223372036854775807:Nat)->Cnd ((↑s1.length:Int)=(↑s2.length:Int)) (s1.length<=(9223372036854775807:Nat)->Lp1 (fun Qm j13=>Cnd (Qm<(↑s1.length:Int)) (((0:Int)<=Qm/\Qm<(↑s1.length:Int))/\ ∀y4,s1[Qm.toNat]? =some y4->((0:Int)<=Qm/\Qm<(↑s2.length:Int))/\ ∀y6,s2[Qm.toNat]? =some y6->Cnd (y4=y6) (InI (Qm+(1:Int))/\j13 (Qm+(1:Int))) (K false)) (K true)) (0:Int)) (K false)
abbrev q25:Type:=Val->Val->(Bool->Prop)->Prop
def z52 (Qq:Zb):q25:=fun a b K=>Cnd (a.1=b.1) (Cnd (a.2=b.2) (Cnd (a.3=b.3) (Qq a.4 b.4 fun Qb=>K Qb) (K false)) (K false)) (K false)
def q26:q25:=z52 Zj
abbrev Ri:Type:=Ex->Ex->(Bool->Prop)->Prop
def j0n (q3g:q25) (X:Ri):Ri:=fun a b K=>Cnd (a.1=b.1) (Cnd (a.2=b.2) (Cnd (a.3=b.3) (a.4.length<=(9223372036854775807:Nat)->b.4.length<=(9223372036854775807:Nat)->Cnd ((↑a.4.length:Int)=(↑b.4.length:Int)) (a.4.length<=(9223372036854775807:Nat)->Lp1 (fun Qm j13=>Cnd (Qm<(↑a.4.length:Int)) (((0:Int)<=Qm/\Qm<(↑a.4.length:Int))/\ ∀y4,a.4[Qm.toNat]? =some y4->((0:Int)<=Qm/\Qm<(↑b.4.length:Int))/\ ∀y6,b.4[Qm.toNat]? =some y6->q3g y4 y6 fun Un=>Cnd (Un=true) (InI (Qm+(1:Int))/\j13 (Qm+(1:Int))) (K false)) (a.5.length<=(9223372036854775807:Nat)->b.5.length<=(9223372036854775807:Nat)->Cnd ((↑a.5.length:Int)=(↑b.5.length:Int)) (a.5.length<=(9223372036854775807:Nat)->Lp1 (fun Um Y7_1=>Cnd (Um<(↑a.5.length:Int)) (((0:Int)<=Um/\Um<(↑a.5.length:Int))/\ ∀y8,a.5[Um.toNat]? =some y8->((0:Int)<=Um/\Um<(↑b.5.length:Int))/\ ∀y10,b.5[Um.toNat]? =some y10->X (Ex.mk y8.1 y8.2 y8.3 y8.4 y8.5) (Ex.mk y10.1 y10.2 y10.3 y10.4 y10.5) fun Rv=>Cnd (Rv=true) (InI (Um+(1:Int))/\Y7_1 (Um+(1:Int))) (K false)) (K true)) (0:Int)) (K false))) (0:Int)) (K false)) (K false)) (K false)) (K false)
def q2g:Ri:=fun a b K=> ∀X:Ri,(∀a b K,j0n q26 X a b K->X a b K)->X a b K
abbrev Vl:Type:=List (Ex)->Ex->(List (Ex)->Prop)->Prop
def z0w (Jy:Gl) (q2t:Ri) (X:Vl):Vl:=fun l e K=>Jn1 (fun Qb=>e.5.length<=(9223372036854775807:Nat)->Lp2 (fun Qh Zk q7n=>Cnd (Zk<(↑e.5.length:Int)) (((0:Int)<=Zk/\Zk<(↑e.5.length:Int))/\ ∀y3,e.5[Zk.toNat]? =some y3->X Qh (Ex.mk y3.1 y3.2 y3.3 y3.4 y3.5) fun Qw=>InI (Zk+(1:Int))/\q7n Qw (Zk+(1:Int))) (K Qh)) Qb (0:Int)) fun z2y=>Jy e.1 fun Qd=>Cnd (Qd=true) (l.length<=(9223372036854775807:Nat)->Lp1 (fun Qm j13=>Cnd (Qm<(↑l.length:Int)) (((0:Int)<=Qm/\Qm<(↑l.length:Int))/\ ∀y4,l[Qm.toNat]? =some y4->q2t (Ex.mk y4.1 y4.2 y4.3 y4.4 y4.5) (Ex.mk e.1 e.2 e.3 e.4 e.5) fun Zx=>Cnd (Zx=true) (Cnd ((0:Int)<=Qm) (z2y l) (Sml (l++[Ex.mk e.1 e.2 e.3 e.4 e.5]).length/\z2y (l++[Ex.mk e.1 e.2 e.3 e.4 e.5]))) (InI (Qm+(1:Int))/\j13 (Qm+(1:Int)))) (Cnd ((0:Int)<=(-1:Int)) (z2y l) (Sml (l++[Ex.mk e.1 e.2 e.3 e.4 e.5]).length/\z2y (l++[Ex.mk e.1 e.2 e.3 e.4 e.5])))) (0:Int)) (Cnd (e.1=(5:Int)) (l.length<=(9223372036854775807:Nat)->Lp1 (fun Qm j13=>Cnd (Qm<(↑l.length:Int)) (((0:Int)<=Qm/\Qm<(↑l.length:Int))/\ ∀y4,l[Qm.toNat]? =some y4->q2t (Ex.mk y4.1 y4.2 y4.3 y4.4 y4.5) (Ex.mk e.1 e.2 e.3 e.4 e.5) fun Zx=>Cnd (Zx=true) (Cnd ((0:Int)<=Qm) (z2y l) (Sml (l++[Ex.mk e.1 e.2 e.3 e.4 e.5]).length/\z2y (l++[Ex.mk e.1 e.2 e.3 e.4 e.5]))) (InI (Qm+(1:Int))/\j13 (Qm+(1:Int)))) (Cnd ((0:Int)<=(-1:Int)) (z2y l) (Sml (l++[Ex.mk e.1 e.2 e.3 e.4 e.5]).length/\z2y (l++[Ex.mk e.1 e.2 e.3 e.4 e.5])))) (0:Int)) (z2y l))
def q16:Vl:=fun l e K=> ∀X:Vl,(∀l e K,z0w Gm q2g X l e K->X l e K)->X l e K
abbrev Gn:Type:=Ex->(Ex->Prop)->Prop
def z54 (Zi:Wt) (X:Gn):Gn:=fun e K=>e.4.length<=(9223372036854775807:Nat)->((0:Int)<=(0:Int)/\(0:Int)<=(↑e.4.length:Int)/\Sml (↑e.4.length:Int).toNat)/\(e.4.length<=(9223372036854775807:Nat)->Lp2 (fun Qh Zk q7n=>Cnd (Zk<(↑e.4.length:Int)) (((0:Int)<=Zk/\Zk<(↑e.4.length:Int))/\ ∀y3,e.4[Zk.toNat]? =some y3->Zi y3 fun Qw=>Sml (Qh++[Qw]).length/\InI (Zk+(1:Int))/\q7n (Qh++[Qw]) (Zk+(1:Int))) (e.5.length<=(9223372036854775807:Nat)->((0:Int)<=(0:Int)/\(0:Int)<=(↑e.5.length:Int)/\Sml (↑e.5.length:Int).toNat)/\(e.5.length<=(9223372036854775807:Nat)->Lp2 (fun Qw q7i Y5_2=>Cnd (q7i<(↑e.5.length:Int)) (((0:Int)<=q7i/\q7i<(↑e.5.length:Int))/\ ∀y6,e.5[q7i.toNat]? =some y6->X (Ex.mk y6.1 y6.2 y6.3 y6.4 y6.5) fun Un=>Sml (Qw++[Ex.mk Un.1 Un.2 Un.3 Un.4 Un.5]).length/\InI (q7i+(1:Int))/\Y5_2 (Qw++[Ex.mk Un.1 Un.2 Un.3 Un.4 Un.5]) (q7i+(1:Int))) (K (Ex.mk e.1 e.2 e.3 Qh Qw))) (List.replicate (Int.toNat (0:Int)) (Ex.mk (0:Int) (ByteArray.mk (Array.mk [])) (ByteArray.mk (Array.mk [])) [] [])) (0:Int)))) (List.replicate (Int.toNat (0:Int)) (Val.mk (0:Int) (0:Int) (ByteArray.mk (Array.mk [])) [])) (0:Int))
def q6t:Gn:=fun e K=> ∀X:Gn,(∀e K,z54 Vj X e K->X e K)->X e K
abbrev Bg:Type:=Ex->(List (Ex)->Prop)->Prop
def z0x (Bn:Vl) (q3h:Gn):Bg:=fun e K=>Bn [] (Ex.mk e.1 e.2 e.3 e.4 e.5) fun Qb=>Qb.length<=(9223372036854775807:Nat)->((0:Int)<=(0:Int)/\(0:Int)<=(↑Qb.length:Int)/\Sml (↑Qb.length:Int).toNat)/\(Qb.length<=(9223372036854775807:Nat)->Lp2 (fun Qm H9 w8b=>Cnd (H9<(↑Qb.length:Int)) (((0:Int)<=H9/\H9<(↑Qb.length:Int))/\ ∀y4,Qb[H9.toNat]? =some y4->q3h (Ex.mk y4.1 y4.2 y4.3 y4.4 y4.5) fun Zx=>Sml (Qm++[Ex.mk Zx.1 Zx.2 Zx.3 Zx.4 Zx.5]).length/\InI (H9+(1:Int))/\w8b (Qm++[Ex.mk Zx.1 Zx.2 Zx.3 Zx.4 Zx.5]) (H9+(1:Int))) (K Qm)) (List.replicate (Int.toNat (0:Int)) (Ex.mk (0:Int) (ByteArray.mk (Array.mk [])) (ByteArray.mk (Array.mk [])) [] [])) (0:Int))
def q6d:Bg:=z0x q16 q6t
abbrev Zm:Type:=List (ByteArray)->(List (ByteArray)->Prop)->Prop
def Zz (x:List (ByteArray)) (K:List (ByteArray)->Prop):Prop:=K (srt x)
abbrev Jt:Type:=List (ByteArray)->(List (ByteArray)->Prop)->Prop
def Ju (s:List (ByteArray)) (K:List (ByteArray)->Prop):Prop:=K (cpt s)
abbrev U4:Type:=Ex->(List (ByteArray)->Prop)->Prop
def q67 (Bo:Bg) (Qt:Zm) (Zo:Jt):U4:=fun e K=>Bo (Ex.mk e.1 e.2 e.3 e.4 e.5) fun Qb=>Qb.length<=(9223372036854775807:Nat)->Lp2 (fun Qh Zk q7n=>Cnd (Zk<(↑Qb.length:Int)) (((0:Int)<=Zk/\Zk<(↑Qb.length:Int))/\ ∀y3,Qb[Zk.toNat]? =some y3->Cnd (y3.1=(5:Int)) (Sml (Qh++[y3.3]).length/\InI (Zk+(1:Int))/\q7n (Qh++[y3.3]) (Zk+(1:Int))) (InI (Zk+(1:Int))/\q7n Qh (Zk+(1:Int)))) (Qt Qh fun Qm=>Zo Qm fun Qk=>K Qk)) [] (0:Int)
def R5:U4:=q67 q6d Zz Ju
abbrev q7t:Type:=List (ByteArray)->List (Edg)->(List (ByteArray)->Int->Prop)->Prop
def P_graph_Order (nodes:List (ByteArray)) (edges:List (Edg)) (K:List (ByteArray)->Int->Prop):Prop:=Go.Fl.P_graph_Order nodes (edges.map fun e=>(e.1,e.2)) K
abbrev Hk:Type:=List (Seg)->(List (ByteArray)->Int->Prop)->Prop
def q9g (Ga:U4) (q1n:q7t):Hk:=fun l K=>l.length<=(9223372036854775807:Nat)->Lp3 (fun Qd Z1 z47 u6b=>Cnd (z47<(↑l.length:Int)) (((0:Int)<=z47/\z47<(↑l.length:Int))/\ ∀y2,l[z47.toNat]? =some y2->Sml (Qd++[y2.1]).length/\Ga (Ex.mk y2.5.1 y2.5.2 y2.5.3 y2.5.4 y2.5.5) fun Qk=>Qk.length<=(9223372036854775807:Nat)->Lp2 (fun Zx z7r u91=>Cnd (z7r<(↑Qk.length:Int)) (((0:Int)<=z7r/\z7r<(↑Qk.length:Int))/\ ∀y7,Qk[z7r.toNat]? =some y7->Sml (Zx++[Edg.mk y2.1 y7]).length/\InI (z7r+(1:Int))/\u91 (Zx++[Edg.mk y2.1 y7]) (z7r+(1:Int))) (InI (z47+(1:Int))/\u6b (Qd++[y2.1]) Zx (z47+(1:Int)))) Z1 (0:Int)) (q1n Qd Z1 fun Qh Zk=>K Qh Zk)) [] [] (0:Int)
def q0l:Hk:=q9g R5 P_graph_Order
abbrev U5:Type:=Subj->ByteArray->ByteArray->(Val->Bool->Prop)->Prop
def q68 (Ja:Vo) (Zi:Wt):U5:=fun s kind name K=>Ja (Subj.mk s.1) kind fun Qb=>Cnd (Qb<(0:Int)) (K (Val.mk (0:Int) (0:Int) (ByteArray.mk (Array.mk [])) []) false) (((0:Int)<=Qb/\Qb<(↑s.1.length:Int))/\ ∀y1,s.1[Qb.toNat]? =some y1->Cnd (name=ByteArray.mk (Array.mk [107,101,121])) (K (Val.mk (3:Int) (0:Int) y1.2 []) true) (y1.3.length<=(9223372036854775807:Nat)->Lp5 (fun Qk Wm z42 u3k (x4_4:List ByteArray) Y4_5=>Cnd (Qk<(↑y1.3.length:Int)) (((0:Int)<=Qk/\Qk<(↑y1.3.length:Int))/\ ∀y5,y1.3[Qk.toNat]? =some y5->Cnd (y5.1=name) (Zi (Val.mk y5.2.1 y5.2.2 y5.2.3 y5.2.4) fun Um=>K Um true) (InI (Qk+(1:Int))/\Y4_5 (Qk+(1:Int)) Wm z42 u3k x4_4)) (K (Val.mk (0:Int) (0:Int) (ByteArray.mk (Array.mk [])) []) false)) (0:Int) (0:Int) (0:Int) (ByteArray.mk (Array.mk [])) []))
def R6:U5:=q68 Uq Vj
abbrev q06:Type:=Val->Val->(Bool->Prop)->Prop
def z3k (Qq:Zb):q06:=fun a b K=>Cnd (a.1=b.1) (Cnd (a.2=b.2) (Cnd (a.3=b.3) (Qq a.4 b.4 fun Qb=>K Qb) (K false)) (K false)) (K false)
def q07:q06:=z3k Zj
abbrev Zw:Type:=ByteArray->ByteArray->(Bool->Prop)->Prop
def Jd:Zw:=fun s prefix_ K=>Cnd ((↑prefix_.size:Int)<=(↑s.size:Int)) (((0:Int)<=(0:Int)/\(0:Int)<=(↑prefix_.size:Int)/\(↑prefix_.size:Int)<=(↑s.size:Int))/\K (decide (s.extract (Int.toNat (0:Int)) (↑prefix_.size:Int).toNat=prefix_))) (K false)
abbrev Va:Type:=ByteArray->ByteArray->(Bool->Prop)->Prop
def q2h (Q0:Zw):Va:=fun s prefix_ K=>Q0 s prefix_ fun Qb=>K Qb
def Ut:Va:=q2h Jd
abbrev Wu:Type:=ByteArray->ByteArray->(Bool->Prop)->Prop
def V5:Wu:=fun s suffix K=>Cnd ((↑suffix.size:Int)<=(↑s.size:Int)) (InI ((↑s.size:Int) - (↑suffix.size:Int))/\((0:Int)<=(↑s.size:Int) - (↑suffix.size:Int)/\(↑s.size:Int) - (↑suffix.size:Int)<=(↑s.size:Int)/\(↑s.size:Int)<=(↑s.size:Int))/\K (decide (s.extract ((↑s.size:Int) - (↑suffix.size:Int)).toNat (↑s.size:Int).toNat=suffix))) (K false)
abbrev Vb:Type:=ByteArray->ByteArray->(Bool->Prop)->Prop
def q2i (Jz:Wu):Vb:=fun s suffix K=>Jz s suffix fun Qb=>K Qb
def Uu:Vb:=q2i V5
abbrev Br:Type:=ByteArray->ByteArray->(Bool->Prop)->Prop
def Bt (s:ByteArray) (substr:ByteArray) (K:Bool->Prop):Prop:=s.size<4294967281/\K (Go.Lib.contains s.data.toList substr.data.toList)
abbrev q37:Type:=Val->(Bool->Prop)->Prop
def q38:q37:=fun v K=>Jn1 (fun Qb=>Cnd (Qb=true) (Cnd (v.3=ByteArray.mk (Array.mk [])) (v.4.length<=(9223372036854775807:Nat)->K (decide ((↑v.4.length:Int)=(0:Int)))) (K false)) (Jn1 (fun Qd=>Cnd (Qd=true) (Cnd (v.2=(0:Int)) (v.4.length<=(9223372036854775807:Nat)->K (decide ((↑v.4.length:Int)=(0:Int)))) (K false)) (Cnd (v.2=(0:Int)) (K (decide (v.3=ByteArray.mk (Array.mk [])))) (K false))) fun w9k=>Cnd (v.1=(3:Int)) (w9k (decide (v.1=(3:Int)))) (w9k (decide (v.1=(4:Int)))))) fun z2y=>Cnd (v.1=(1:Int)) (z2y (decide (v.1=(1:Int)))) (z2y (decide (v.1=(2:Int))))
abbrev q27:Type:=ByteArray->(Bool->Prop)->Prop
def z55 (Zh:Wr):q27:=fun s K=>Cnd ((200:Int)<(↑s.size:Int)) (K false) (Zh s fun Qb=>Cnd (Qb=true) (Lp1 (fun (Qd:ByteArray×Nat) q3i=>Cnd (Qd.snd<Qd.fst.size) (Cnd ((↑(Go.Utf8.decode Qd.fst Qd.snd).fst:Int)<(32:Int)) (K false) (Cnd ((↑(Go.Utf8.decode Qd.fst Qd.snd).fst:Int)=(127:Int)) (K false) (q3i (Qd.fst,Qd.snd+(Go.Utf8.decode Qd.fst Qd.snd).snd)))) (K true)) (s,(0:Nat))) (K false))
def q6u:q27:=z55 Ws
abbrev q39:Type:=ByteArray->ByteArray->(List (ByteArray)->Prop)->Prop
def q4a (s:ByteArray) (sep:ByteArray) (K:List (ByteArray)->Prop):Prop:=sep.size=1/\s.size<4294967281/\K (q2u s sep)
abbrev Jv:Type:=ByteArray->ByteArray->(ByteArray->Bool->Prop)->Prop
def Rj (Q0:Zw):Jv:=fun s prefix_ K=>Q0 s prefix_ fun Qb=>Cnd (Qb=true) (((0:Int)<=(↑prefix_.size:Int)/\(↑prefix_.size:Int)<=(↑s.size:Int)/\(↑s.size:Int)<=(↑s.size:Int))/\K (s.extract (↑prefix_.size:Int).toNat (↑s.size:Int).toNat) true) (K s false)
def V6:Jv:=Rj Jd
abbrev Vc:Type:=ByteArray->ByteArray->(ByteArray->Bool->Prop)->Prop
def q2j (J0:Jv):Vc:=fun s prefix_ K=>J0 s prefix_ fun Qb Q6=>K Qb Q6
def Uv:Vc:=q2j V6
abbrev q6e:Type:=ByteArray->(Int->Bool->Prop)->Prop
def q17 (s:ByteArray) (K:Int->Bool->Prop):Prop:=s.size<=281474976710656/\u5a s K
abbrev Vs:Type:=ByteArray->(Int->Int->Prop)->Prop
def q4b (Vf:Vc) (G0:q6e):Vs:=fun s K=>Vf s (ByteArray.mk (Array.mk [45])) fun Qb Q6=>Cnd (Qb=ByteArray.mk (Array.mk [])) (K (0:Int) (1:Int)) (((0:Int)<=(0:Int)/\(0:Int)<(↑Qb.size:Int))/\ ∀b1,Qb[Int.toNat (0:Int)]? =some b1->Cnd ((↑b1.toNat:Int)=(48:Int)) (Cnd ((1:Int)<(↑Qb.size:Int)) (K (0:Int) (1:Int)) (Cnd (Q6=true) (K (0:Int) (1:Int)) (Lp1 (fun (Qm:ByteArray×Nat) j13=>Cnd (Qm.snd<Qm.fst.size) (Cnd ((↑(Go.Utf8.decode Qm.fst Qm.snd).fst:Int)<(48:Int)) (K (0:Int) (1:Int)) (Cnd ((57:Int)<(↑(Go.Utf8.decode Qm.fst Qm.snd).fst:Int)) (K (0:Int) (1:Int)) (j13 (Qm.fst,Qm.snd+(Go.Utf8.decode Qm.fst Qm.snd).snd)))) (G0 s fun Qk Wm=>Cnd ((match (Qk,Wm,()).snd.fst with|true=>false|false=>true)=true) (K (0:Int) (3:Int)) (Cnd (Qk<(-1099511627776:Int)) (K (0:Int) (3:Int)) (Cnd ((1099511627776:Int)<Qk) (K (0:Int) (3:Int)) (K Qk (0:Int)))))) (Qb,(0:Nat))))) (Lp1 (fun (Qm:ByteArray×Nat) j13=>Cnd (Qm.snd<Qm.fst.size) (Cnd ((↑(Go.Utf8.decode Qm.fst Qm.snd).fst:Int)<(48:Int)) (K (0:Int) (1:Int)) (Cnd ((57:Int)<(↑(Go.Utf8.decode Qm.fst Qm.snd).fst:Int)) (K (0:Int) (1:Int)) (j13 (Qm.fst,Qm.snd+(Go.Utf8.decode Qm.fst Qm.snd).snd)))) (G0 s fun Qk Wm=>Cnd ((match (Qk,Wm,()).snd.fst with|true=>false|false=>true)=true) (K (0:Int) (3:Int)) (Cnd (Qk<(-1099511627776:Int)) (K (0:Int) (3:Int)) (Cnd ((1099511627776:Int)<Qk) (K (0:Int) (3:Int)) (K Qk (0:Int)))))) (Qb,(0:Nat))))
def Gq:Vs:=q4b Uv q17
abbrev V7:Type:=ByteArray->(A3->Bool->Prop)->Prop
def z3l (H3:q39) (Vw:Vs):V7:=fun s K=>H3 s (ByteArray.mk (Array.mk [46])) fun Qb=>Qb.length<=(9223372036854775807:Nat)->Cnd ((↑Qb.length:Int)=(3:Int)) (Qb.length<=(9223372036854775807:Nat)->LpH (fun (Qm:Int×Int×Int×Int×Int×Int×Int×Unit) j13=>Cnd (Qm.fst<(↑Qb.length:Int)) (((0:Int)<=Qm.fst/\Qm.fst<(↑Qb.length:Int))/\ ∀y4,Qb[Qm.fst.toNat]? =some y4->Vw y4 fun Zx z7r=>Cnd (z7r=(0:Int)) (Cnd (Zx<(0:Int)) (K ((0:Int),(0:Int),(0:Int)) false) (Cnd ((999999:Int)<Zx) (K ((0:Int),(0:Int),(0:Int)) false) (((0:Int)<=Qm.fst/\Qm.fst<(↑(3:Nat):Int))/\((True/\(Qm.fst=(↑(nat_lit 0):Int)->InI (Qm.fst+(1:Int))/\j13 (Qm.fst+(1:Int),Zx,Qm.snd.snd.fst,Qm.snd.snd.snd.fst,Qm.snd.snd.snd.snd.fst,Qm.snd.snd.snd.snd.snd.fst,Qm.snd.snd.snd.snd.snd.snd.fst,())))/\(Qm.fst=(↑(nat_lit 1):Int)->InI (Qm.fst+(1:Int))/\j13 (Qm.fst+(1:Int),Qm.snd.fst,Zx,Qm.snd.snd.snd.fst,Qm.snd.snd.snd.snd.fst,Qm.snd.snd.snd.snd.snd.fst,Qm.snd.snd.snd.snd.snd.snd.fst,())))/\(Qm.fst=(↑(nat_lit 2):Int)->InI (Qm.fst+(1:Int))/\j13 (Qm.fst+(1:Int),Qm.snd.fst,Qm.snd.snd.fst,Zx,Qm.snd.snd.snd.snd.fst,Qm.snd.snd.snd.snd.snd.fst,Qm.snd.snd.snd.snd.snd.snd.fst,()))))) (K ((0:Int),(0:Int),(0:Int)) false)) (K (Qm.snd.fst,Qm.snd.snd.fst,Qm.snd.snd.snd.fst) true)) ((0:Int),(0:Int),(0:Int),(0:Int),(0:Int),(0:Int),(0:Int),())) (K ((0:Int),(0:Int),(0:Int)) false)
def Rk:V7:=z3l q4a Gq
abbrev q08:Type:=Val->(Int->Prop)->Prop
def z3m (q1o:q37) (q0s:q27) (Ji:V7):q08:=fun v K=>Cnd (v.1<(1:Int)) (K (7:Int)) (Cnd ((5:Int)<v.1) (K (7:Int)) (q1o v fun Qb=>Cnd (Qb=true) (Cnd (v.1=(1:Int)) (Cnd (v.2=(0:Int)) (K (0:Int)) (Cnd (v.2=(1:Int)) (K (0:Int)) (K (3:Int)))) (Cnd (v.1=(2:Int)) (Cnd (v.2<(-1099511627776:Int)) (K (3:Int)) (Cnd ((1099511627776:Int)<v.2) (K (3:Int)) (K (0:Int)))) (Cnd (v.1=(3:Int)) (q0s v.3 fun Qd=>Cnd (Qd=true) (K (0:Int)) (K (2:Int))) (Cnd (v.1=(4:Int)) (Ji v.3 fun (_:Int×Int×Int) Z1=>Cnd (Z1=true) (K (0:Int)) (K (1:Int))) (Cnd (v.1=(5:Int)) (v.4.length<=(9223372036854775807:Nat)->Cnd ((20:Int)<(↑v.4.length:Int)) (K (5:Int)) (v.4.length<=(9223372036854775807:Nat)->Lp1 (fun Qm j13=>Cnd (Qm<(↑v.4.length:Int)) (((0:Int)<=Qm/\Qm<(↑v.4.length:Int))/\ ∀y4,v.4[Qm.toNat]? =some y4->q0s y4 fun Zx=>Cnd (Zx=true) (InI (Qm+(1:Int))/\j13 (Qm+(1:Int))) (K (2:Int))) (v.4.length<=(9223372036854775807:Nat)->Lp1 (fun Qw w5x=>Cnd (Qw<(↑v.4.length:Int)) (Cnd ((0:Int)<Qw) (InI (Qw - (1:Int))/\((0:Int)<=Qw - (1:Int)/\Qw - (1:Int)<(↑v.4.length:Int))/\ ∀y6,v.4[(Qw - (1:Int)).toNat]? =some y6->((0:Int)<=Qw/\Qw<(↑v.4.length:Int))/\ ∀y8,v.4[Qw.toNat]? =some y8->Cnd (Lk.blt y6 y8) (InI (Qw+(1:Int))/\w5x (Qw+(1:Int))) (K (9:Int))) (InI (Qw+(1:Int))/\w5x (Qw+(1:Int)))) (K (0:Int))) (0:Int))) (0:Int))) (K (0:Int))))))) (K (15:Int))))
def q4c:q08:=z3m q38 q6u Rk
abbrev Hl:Type:=Val->Val->(Int->Int->Prop)->Prop
def q9h (Rw:q08) (Ji:V7):Hl:=fun a b K=>Rw a fun Qb=>Cnd (Qb=(0:Int)) (Rw b fun Qd=>Cnd (Qd=(0:Int)) (Cnd (a.1=b.1) (Cnd (a.1=(1:Int)) (K (0:Int) (8:Int)) (Cnd (a.1=(5:Int)) (K (0:Int) (8:Int)) (Cnd (a.1=(2:Int)) (Cnd (a.2=a.2) (Cnd (b.2=b.2) (Cnd (a.2<b.2) (K (-1:Int) (0:Int)) (Cnd (b.2<a.2) (K (1:Int) (0:Int)) (K (0:Int) (0:Int)))) (K (1:Int) (0:Int))) (Cnd (b.2=b.2) (K (-1:Int) (0:Int)) (K (0:Int) (0:Int)))) (Cnd (a.1=(3:Int)) (Cnd (a.3=a.3) (Cnd (b.3=b.3) (Cnd (Lk.blt a.3 b.3) (K (-1:Int) (0:Int)) (Cnd (Lk.blt b.3 a.3) (K (1:Int) (0:Int)) (K (0:Int) (0:Int)))) (K (1:Int) (0:Int))) (Cnd (b.3=b.3) (K (-1:Int) (0:Int)) (K (0:Int) (0:Int)))) (Ji a.3 fun (Qh:Int×Int×Int) _=>Ji b.3 fun (Qm:Int×Int×Int) _=>([Qh.fst,Qh.snd.fst,Qh.snd.snd].length<=(9223372036854775807:Nat)->Lp1 (fun Qw w5x=>Cnd (Qw<(↑[Qh.fst,Qh.snd.fst,Qh.snd.snd].length:Int)) (((0:Int)<=Qw/\Qw<(↑[Qh.fst,Qh.snd.fst,Qh.snd.snd].length:Int))/\ ∀y6,[Qh.fst,Qh.snd.fst,Qh.snd.snd][Qw.toNat]? =some y6->[Qm.fst,Qm.snd.fst,Qm.snd.snd].length<=(9223372036854775807:Nat)->Cnd ((↑[Qm.fst,Qm.snd.fst,Qm.snd.snd].length:Int)<=Qw) (K (1:Int) (0:Int)) (((0:Int)<=Qw/\Qw<(↑[Qm.fst,Qm.snd.fst,Qm.snd.snd].length:Int))/\ ∀y9,[Qm.fst,Qm.snd.fst,Qm.snd.snd][Qw.toNat]? =some y9->Cnd (y6=y6) (Cnd (y9=y9) (Cnd (y6<y9) (Cnd ((-1:Int)=(0:Int)) (InI (Qw+(1:Int))/\w5x (Qw+(1:Int))) (K (-1:Int) (0:Int))) (Cnd (y9<y6) (Cnd ((1:Int)=(0:Int)) (InI (Qw+(1:Int))/\w5x (Qw+(1:Int))) (K (1:Int) (0:Int))) (Cnd ((0:Int)=(0:Int)) (InI (Qw+(1:Int))/\w5x (Qw+(1:Int))) (K (0:Int) (0:Int))))) (Cnd ((1:Int)=(0:Int)) (InI (Qw+(1:Int))/\w5x (Qw+(1:Int))) (K (1:Int) (0:Int)))) (Cnd (y9=y9) (Cnd ((-1:Int)=(0:Int)) (InI (Qw+(1:Int))/\w5x (Qw+(1:Int))) (K (-1:Int) (0:Int))) (Cnd ((0:Int)=(0:Int)) (InI (Qw+(1:Int))/\w5x (Qw+(1:Int))) (K (0:Int) (0:Int)))))) ([Qh.fst,Qh.snd.fst,Qh.snd.snd].length<=(9223372036854775807:Nat)->[Qm.fst,Qm.snd.fst,Qm.snd.snd].length<=(9223372036854775807:Nat)->Cnd ((↑[Qh.fst,Qh.snd.fst,Qh.snd.snd].length:Int)<(↑[Qm.fst,Qm.snd.fst,Qm.snd.snd].length:Int)) (K (-1:Int) (0:Int)) (K (0:Int) (0:Int)))) (0:Int))/\([Qh.fst,Qh.snd.fst,Qh.snd.snd].length<=(9223372036854775807:Nat)->Lp1 (fun Qw w5x=>Cnd (Qw<(↑[Qh.fst,Qh.snd.fst,Qh.snd.snd].length:Int)) (((0:Int)<=Qw/\Qw<(↑[Qh.fst,Qh.snd.fst,Qh.snd.snd].length:Int))/\ ∀y6,[Qh.fst,Qh.snd.fst,Qh.snd.snd][Qw.toNat]? =some y6->[Qm.fst,Qm.snd.fst,Qm.snd.snd].length<=(9223372036854775807:Nat)->Cnd ((↑[Qm.fst,Qm.snd.fst,Qm.snd.snd].length:Int)<=Qw) (K (1:Int) (0:Int)) (((0:Int)<=Qw/\Qw<(↑[Qm.fst,Qm.snd.fst,Qm.snd.snd].length:Int))/\ ∀y9,[Qm.fst,Qm.snd.fst,Qm.snd.snd][Qw.toNat]? =some y9->Cnd (y6=y6) (Cnd (y9=y9) (Cnd (y6<y9) (Cnd ((-1:Int)=(0:Int)) (InI (Qw+(1:Int))/\w5x (Qw+(1:Int))) (K (-1:Int) (0:Int))) (Cnd (y9<y6) (Cnd ((1:Int)=(0:Int)) (InI (Qw+(1:Int))/\w5x (Qw+(1:Int))) (K (1:Int) (0:Int))) (Cnd ((0:Int)=(0:Int)) (InI (Qw+(1:Int))/\w5x (Qw+(1:Int))) (K (0:Int) (0:Int))))) (Cnd ((1:Int)=(0:Int)) (InI (Qw+(1:Int))/\w5x (Qw+(1:Int))) (K (1:Int) (0:Int)))) (Cnd (y9=y9) (Cnd ((-1:Int)=(0:Int)) (InI (Qw+(1:Int))/\w5x (Qw+(1:Int))) (K (-1:Int) (0:Int))) (Cnd ((0:Int)=(0:Int)) (InI (Qw+(1:Int))/\w5x (Qw+(1:Int))) (K (0:Int) (0:Int)))))) ([Qh.fst,Qh.snd.fst,Qh.snd.snd].length<=(9223372036854775807:Nat)->[Qm.fst,Qm.snd.fst,Qm.snd.snd].length<=(9223372036854775807:Nat)->Cnd ((↑[Qh.fst,Qh.snd.fst,Qh.snd.snd].length:Int)<(↑[Qm.fst,Qm.snd.fst,Qm.snd.snd].length:Int)) (K (-1:Int) (0:Int)) (K (0:Int) (0:Int)))) (0:Int))))))) (K (0:Int) (8:Int))) (K (0:Int) Qd)) (K (0:Int) Qb)
def Hm:Hl:=q9h q4c Rk
abbrev q09:Type:=Subj->Ex->(Bool->Prop)->Prop
def z3n (Gb:U5) (Jy:Gl) (Gw:q06) (Vg:Va) (Vh:Vb) (Vx:Br) (Uy:Hl):q09:=fun s e K=>Gb (Subj.mk s.1) e.2 e.3 fun Qb Q6=>Cnd (Q6=true) (Jy e.1 fun Qd=>Cnd (Qd=true) (Cnd (e.1=(6:Int)) (K true) (Cnd (e.1=(8:Int)) (e.4.length<=(9223372036854775807:Nat)->Lp1 (fun Qm j13=>Cnd (Qm<(↑e.4.length:Int)) (((0:Int)<=Qm/\Qm<(↑e.4.length:Int))/\ ∀y4,e.4[Qm.toNat]? =some y4->Gw Qb y4 fun Zx=>Cnd (Zx=true) (K (decide ((0:Int)<=Qm))) (InI (Qm+(1:Int))/\j13 (Qm+(1:Int)))) (K (decide ((0:Int)<=(-1:Int))))) (0:Int)) (e.4.length<=(9223372036854775807:Nat)->Cnd ((↑e.4.length:Int)=(0:Int)) (K false) (((0:Int)<=(0:Int)/\(0:Int)<(↑e.4.length:Int))/\ ∀y3,e.4[Int.toNat (0:Int)]? =some y3->Cnd (Qb.1=(3:Int)) (Cnd (e.1=(7:Int)) (Gw Qb y3 fun Qw=>K Qw) (Cnd (e.1=(9:Int)) (Cnd (y3.1=(3:Int)) (Vg Qb.3 y3.3 fun Qw=>K Qw) (K false)) (Cnd (e.1=(10:Int)) (Cnd (y3.1=(3:Int)) (Vh Qb.3 y3.3 fun Qw=>K Qw) (K false)) (Cnd (e.1=(11:Int)) (Cnd (y3.1=(3:Int)) (Vx Qb.3 y3.3 fun Qw=>Cnd (Qw=true) (K true) (Cnd (y3.1=(3:Int)) (Cnd (Qb.1=(5:Int)) (Qb.4.length<=(9223372036854775807:Nat)->Lp1 (fun Um Y7_1=>Cnd (Um<(↑Qb.4.length:Int)) (((0:Int)<=Um/\Um<(↑Qb.4.length:Int))/\ ∀y8,Qb.4[Um.toNat]? =some y8->Cnd (y3.3=y8) (K (decide ((0:Int)<=Um))) (InI (Um+(1:Int))/\Y7_1 (Um+(1:Int)))) (K (decide ((0:Int)<=(-1:Int))))) (0:Int)) (K false)) (K false))) (Cnd (y3.1=(3:Int)) (Cnd (Qb.1=(5:Int)) (Qb.4.length<=(9223372036854775807:Nat)->Lp1 (fun Zx y7w=>Cnd (Zx<(↑Qb.4.length:Int)) (((0:Int)<=Zx/\Zx<(↑Qb.4.length:Int))/\ ∀y7,Qb.4[Zx.toNat]? =some y7->Cnd (y3.3=y7) (K (decide ((0:Int)<=Zx))) (InI (Zx+(1:Int))/\y7w (Zx+(1:Int)))) (K (decide ((0:Int)<=(-1:Int))))) (0:Int)) (K false)) (K false))) (Uy Qb y3 fun Qw q7i=>Cnd (q7i=(0:Int)) (Cnd (e.1=(12:Int)) (K (decide (Qw<(0:Int)))) (Cnd (e.1=(13:Int)) (K (decide (Qw<=(0:Int)))) (Cnd (e.1=(14:Int)) (K (decide ((0:Int)<Qw))) (K (decide ((0:Int)<=Qw)))))) (K false)))))) (Cnd (e.1=(7:Int)) (Gw Qb y3 fun Qw=>K Qw) (Cnd (e.1=(9:Int)) (K false) (Cnd (e.1=(10:Int)) (K false) (Cnd (e.1=(11:Int)) (Cnd (y3.1=(3:Int)) (Cnd (Qb.1=(5:Int)) (Qb.4.length<=(9223372036854775807:Nat)->Lp1 (fun Zx y7w=>Cnd (Zx<(↑Qb.4.length:Int)) (((0:Int)<=Zx/\Zx<(↑Qb.4.length:Int))/\ ∀y7,Qb.4[Zx.toNat]? =some y7->Cnd (y3.3=y7) (K (decide ((0:Int)<=Zx))) (InI (Zx+(1:Int))/\y7w (Zx+(1:Int)))) (K (decide ((0:Int)<=(-1:Int))))) (0:Int)) (K false)) (K false)) (Uy Qb y3 fun Qw q7i=>Cnd (q7i=(0:Int)) (Cnd (e.1=(12:Int)) (K (decide (Qw<(0:Int)))) (Cnd (e.1=(13:Int)) (K (decide (Qw<=(0:Int)))) (Cnd (e.1=(14:Int)) (K (decide ((0:Int)<Qw))) (K (decide ((0:Int)<=Qw)))))) (K false)))))))))) (K false)) (K false)
def q1a:q09:=z3n R6 Gm q07 Ut Uu Bt Hm
abbrev J9:Type:=Subj->List (ByteArray)->Ex->(Bool->Prop)->Prop
def z3o (q1p:q09) (X:J9):J9:=fun s in_ e K=>Cnd (e.1=(1:Int)) (K true) (Cnd (e.1=(2:Int)) (e.5.length<=(9223372036854775807:Nat)->Lp1 (fun Qd q3i=>Cnd (Qd<(↑e.5.length:Int)) (((0:Int)<=Qd/\Qd<(↑e.5.length:Int))/\ ∀y2,e.5[Qd.toNat]? =some y2->X (Subj.mk s.1) in_ (Ex.mk y2.1 y2.2 y2.3 y2.4 y2.5) fun Qk=>Cnd (Qk=true) (InI (Qd+(1:Int))/\q3i (Qd+(1:Int))) (K (match decide ((0:Int)<=Qd) with|true=>false|false=>true))) (K true)) (0:Int)) (Cnd (e.1=(3:Int)) (e.5.length<=(9223372036854775807:Nat)->Lp1 (fun Qd q3i=>Cnd (Qd<(↑e.5.length:Int)) (((0:Int)<=Qd/\Qd<(↑e.5.length:Int))/\ ∀y2,e.5[Qd.toNat]? =some y2->X (Subj.mk s.1) in_ (Ex.mk y2.1 y2.2 y2.3 y2.4 y2.5) fun Qk=>Cnd (Qk=true) (K (decide ((0:Int)<=Qd))) (InI (Qd+(1:Int))/\q3i (Qd+(1:Int)))) (K (decide ((0:Int)<=(-1:Int))))) (0:Int)) (Cnd (e.1=(4:Int)) (e.5.length<=(9223372036854775807:Nat)->Cnd ((0:Int)<(↑e.5.length:Int)) (((0:Int)<=(0:Int)/\(0:Int)<(↑e.5.length:Int))/\ ∀y1,e.5[Int.toNat (0:Int)]? =some y1->X (Subj.mk s.1) in_ (Ex.mk y1.1 y1.2 y1.3 y1.4 y1.5) fun Qm=>K (match decide ((Qm,()).fst=true) with|true=>false|false=>true)) (K false)) (Cnd (e.1=(5:Int)) (in_.length<=(9223372036854775807:Nat)->Lp1 (fun Qd q3i=>Cnd (Qd<(↑in_.length:Int)) (((0:Int)<=Qd/\Qd<(↑in_.length:Int))/\ ∀y2,in_[Qd.toNat]? =some y2->Cnd (e.3=y2) (K (decide ((0:Int)<=Qd))) (InI (Qd+(1:Int))/\q3i (Qd+(1:Int)))) (K (decide ((0:Int)<=(-1:Int))))) (0:Int)) (q1p (Subj.mk s.1) (Ex.mk e.1 e.2 e.3 e.4 e.5) fun Qb=>K Qb)))))
def Rl:J9:=fun s in_ e K=> ∀X:J9,(∀s in_ e K,z3o q1a X s in_ e K->X s in_ e K)->X s in_ e K
abbrev Vt:Type:=Seg->Subj->List (ByteArray)->(Bool->Prop)->Prop
def q4d (Zc:Jn) (Z5:J9):Vt:=fun g s in_ K=>Zc (Subj.mk s.1) g.2 fun Qb Q6=>Cnd (Q6=true) (g.4.length<=(9223372036854775807:Nat)->Lp1 (fun Qh j7j=>Cnd (Qh<(↑g.4.length:Int)) (((0:Int)<=Qh/\Qh<(↑g.4.length:Int))/\ ∀y3,g.4[Qh.toNat]? =some y3->Cnd (Qb.2=y3) (Cnd ((0:Int)<=Qh) (K false) (g.3.length<=(9223372036854775807:Nat)->Lp1 (fun Zx y7w=>Cnd (Zx<(↑g.3.length:Int)) (((0:Int)<=Zx/\Zx<(↑g.3.length:Int))/\ ∀y7,g.3[Zx.toNat]? =some y7->Cnd (Qb.2=y7) (Cnd ((0:Int)<=Zx) (K true) (Cnd (g.5.1=(0:Int)) (K false) (Z5 (Subj.mk s.1) in_ (Ex.mk g.5.1 g.5.2 g.5.3 g.5.4 g.5.5) fun Q5=>K Q5))) (InI (Zx+(1:Int))/\y7w (Zx+(1:Int)))) (Cnd ((0:Int)<=(-1:Int)) (K true) (Cnd (g.5.1=(0:Int)) (K false) (Z5 (Subj.mk s.1) in_ (Ex.mk g.5.1 g.5.2 g.5.3 g.5.4 g.5.5) fun Um=>K Um)))) (0:Int))) (InI (Qh+(1:Int))/\j7j (Qh+(1:Int)))) (Cnd ((0:Int)<=(-1:Int)) (K false) (g.3.length<=(9223372036854775807:Nat)->Lp1 (fun Qk v7x=>Cnd (Qk<(↑g.3.length:Int)) (((0:Int)<=Qk/\Qk<(↑g.3.length:Int))/\ ∀y5,g.3[Qk.toNat]? =some y5->Cnd (Qb.2=y5) (Cnd ((0:Int)<=Qk) (K true) (Cnd (g.5.1=(0:Int)) (K false) (Z5 (Subj.mk s.1) in_ (Ex.mk g.5.1 g.5.2 g.5.3 g.5.4 g.5.5) fun Um=>K Um))) (InI (Qk+(1:Int))/\v7x (Qk+(1:Int)))) (Cnd ((0:Int)<=(-1:Int)) (K true) (Cnd (g.5.1=(0:Int)) (K false) (Z5 (Subj.mk s.1) in_ (Ex.mk g.5.1 g.5.2 g.5.3 g.5.4 g.5.5) fun Qw=>K Qw)))) (0:Int)))) (0:Int)) (K false)
def Gs:Vt:=q4d Vk Rl
abbrev Uc:Type:=List (Seg)->Subj->(List (ByteArray)->Prop)->Prop
def q5h (H4:Hk) (Vy:Vt) (Qt:Zm):Uc:=fun l s K=>H4 l fun Qb Q6=>Cnd (Q6=(0:Int)) (l.length<=(9223372036854775807:Nat)->Lp2 (fun Qh j7j q7n=>Cnd (Qh<(↑l.length:Int)) (((0:Int)<=Qh/\Qh<(↑l.length:Int))/\ ∀y3,l[Qh.toNat]? =some y3->InI (Qh+(1:Int))/\q7n (Qh+(1:Int)) (put j7j y3.1 (Seg.mk y3.1 y3.2 y3.3 y3.4 (Ex.mk y3.5.1 y3.5.2 y3.5.3 y3.5.4 y3.5.5)))) (Qb.length<=(9223372036854775807:Nat)->Lp2 (fun Qk Wm v7w=>Cnd (Wm<(↑Qb.length:Int)) (((0:Int)<=Wm/\Wm<(↑Qb.length:Int))/\ ∀y5,Qb[Wm.toNat]? =some y5->Vy (Seg.mk ((j7j y5).getD (Seg.mk (ByteArray.mk (Array.mk [])) (ByteArray.mk (Array.mk [])) [] [] (Ex.mk (0:Int) (ByteArray.mk (Array.mk [])) (ByteArray.mk (Array.mk [])) [] []))).1 ((j7j y5).getD (Seg.mk (ByteArray.mk (Array.mk [])) (ByteArray.mk (Array.mk [])) [] [] (Ex.mk (0:Int) (ByteArray.mk (Array.mk [])) (ByteArray.mk (Array.mk [])) [] []))).2 ((j7j y5).getD (Seg.mk (ByteArray.mk (Array.mk [])) (ByteArray.mk (Array.mk [])) [] [] (Ex.mk (0:Int) (ByteArray.mk (Array.mk [])) (ByteArray.mk (Array.mk [])) [] []))).3 ((j7j y5).getD (Seg.mk (ByteArray.mk (Array.mk [])) (ByteArray.mk (Array.mk [])) [] [] (Ex.mk (0:Int) (ByteArray.mk (Array.mk [])) (ByteArray.mk (Array.mk [])) [] []))).4 (Ex.mk ((j7j y5).getD (Seg.mk (ByteArray.mk (Array.mk [])) (ByteArray.mk (Array.mk [])) [] [] (Ex.mk (0:Int) (ByteArray.mk (Array.mk [])) (ByteArray.mk (Array.mk [])) [] []))).5.1 ((j7j y5).getD (Seg.mk (ByteArray.mk (Array.mk [])) (ByteArray.mk (Array.mk [])) [] [] (Ex.mk (0:Int) (ByteArray.mk (Array.mk [])) (ByteArray.mk (Array.mk [])) [] []))).5.2 ((j7j y5).getD (Seg.mk (ByteArray.mk (Array.mk [])) (ByteArray.mk (Array.mk [])) [] [] (Ex.mk (0:Int) (ByteArray.mk (Array.mk [])) (ByteArray.mk (Array.mk [])) [] []))).5.3 ((j7j y5).getD (Seg.mk (ByteArray.mk (Array.mk [])) (ByteArray.mk (Array.mk [])) [] [] (Ex.mk (0:Int) (ByteArray.mk (Array.mk [])) (ByteArray.mk (Array.mk [])) [] []))).5.4 ((j7j y5).getD (Seg.mk (ByteArray.mk (Array.mk [])) (ByteArray.mk (Array.mk [])) [] [] (Ex.mk (0:Int) (ByteArray.mk (Array.mk [])) (ByteArray.mk (Array.mk [])) [] []))).5.5)) (Subj.mk s.1) Qk fun Um=>Cnd (Um=true) (Sml (Qk++[y5]).length/\InI (Wm+(1:Int))/\v7w (Qk++[y5]) (Wm+(1:Int))) (InI (Wm+(1:Int))/\v7w Qk (Wm+(1:Int)))) (Qt Qk fun Qw=>K Qw)) [] (0:Int))) (0:Int) fun _=>none) (K [])
def Hn:Uc:=q5h q0l Gs Zz
abbrev Ud:Type:=Envt->Subj->ByteArray->(Bool->Prop)->Prop
def q5i (Uk:Uc) (Z5:J9):Ud:=fun v s experiment K=>v.6.length<=(9223372036854775807:Nat)->Lp1 (fun Qd q3i=>Cnd (Qd<(↑v.6.length:Int)) (((0:Int)<=Qd/\Qd<(↑v.6.length:Int))/\ ∀y2,v.6[Qd.toNat]? =some y2->Cnd (y2.1=experiment) (Uk v.3 (Subj.mk s.1) fun Qk=>Z5 (Subj.mk s.1) Qk (Ex.mk y2.8.1 y2.8.2 y2.8.3 y2.8.4 y2.8.5) fun Qw=>K Qw) (InI (Qd+(1:Int))/\q3i (Qd+(1:Int)))) (K false)) (0:Int)
def Ho:Ud:=q5i Hn Rl
abbrev q4e:Type:=List (Rng)->Int->(Int->Prop)->Prop
def q4f:q4e:=fun l bucket K=>l.length<=(9223372036854775807:Nat)->Lp1 (fun Qd q3i=>Cnd (Qd<(↑l.length:Int)) (((0:Int)<=Qd/\Qd<(↑l.length:Int))/\ ∀y2,l[Qd.toNat]? =some y2->Cnd (y2.1<=bucket) (Cnd (bucket<y2.2) (K y2.3) (InI (Qd+(1:Int))/\q3i (Qd+(1:Int)))) (InI (Qd+(1:Int))/\q3i (Qd+(1:Int)))) (K (0:Int))) (0:Int)
abbrev Vm:Type:=Envt->Subj->List (Frc)->ByteArray->(Asg->Int->Prop)->Prop
def z0y (Zc:Jn) (H5:q0j) (Wx:Rg) (q1q:q4e) (Ul:Ud) (q1r:q05) (q1s:q34):Vm:=fun v s forced key K=>Jn1 (fun Qb=>Cnd (Qb<(0:Int)) (K (Asg.mk (ByteArray.mk (Array.mk [])) (ByteArray.mk (Array.mk [])) (0:Int) (0:Int) false) (11:Int)) (((0:Int)<=Qb/\Qb<(↑v.5.length:Int))/\ ∀y1,v.5[Qb.toNat]? =some y1->Zc (Subj.mk s.1) y1.2 fun Qm H9=>Jn1 (fun Qk=>H5 forced key fun Qw q7i=>Jn1 (fun Zx=>Cnd (Zx=true) (Cnd (Qw.2=ByteArray.mk (Array.mk [])) (K (Asg.mk key (ByteArray.mk (Array.mk [])) Qk (0:Int) false) (0:Int)) (K (Asg.mk key Qw.2 Qk Qw.3 false) (0:Int))) (Jn1 (fun Um=>Cnd (Um=true) (K (Asg.mk key (ByteArray.mk (Array.mk [])) Qk (0:Int) true) (0:Int)) (Cnd (H9=true) (v.6.length<=(9223372036854775807:Nat)->Lp3 (fun Q5 j11 x9_2 Y9_3=>Cnd (Q5<(↑v.6.length:Int)) (((0:Int)<=Q5/\Q5<(↑v.6.length:Int))/\ ∀y10,v.6[Q5.toNat]? =some y10->Jn1 (fun Rv=>Jn1 (fun Zl=>Cnd (Zl=true) (Wx y10.4 Qm.2 fun Vp=>q1q y10.7 Vp fun j95=>K (Asg.mk key y10.1 Qk j95 false) (0:Int)) (InI (Q5+(1:Int))/\Y9_3 (Q5+(1:Int)) j11 x9_2)) fun u6g=>Cnd (y10.2=key) (Cnd (y10.5=(2:Int)) (Cnd (Rv=true) (Ul (Envt.mk (Sett.mk v.1.1 v.1.2 v.1.3) v.2 v.3 v.4 v.5 v.6) (Subj.mk s.1) y10.1 fun Vp=>u6g Vp) (u6g false)) (u6g false)) (u6g false)) fun qa2q=>y10.6.length<=(9223372036854775807:Nat)->Lp1 (fun Vp u3g=>Cnd (Vp<(↑y10.6.length:Int)) (((0:Int)<=Vp/\Vp<(↑y10.6.length:Int))/\ ∀y15,y10.6[Vp.toNat]? =some y15->Cnd (y15.1<=Qk) (Cnd (Qk<y15.2) (qa2q (decide ((0:Int)<=Vp))) (InI (Vp+(1:Int))/\u3g (Vp+(1:Int)))) (InI (Vp+(1:Int))/\u3g (Vp+(1:Int)))) (qa2q (decide ((0:Int)<=(-1:Int))))) (0:Int)) (K (Asg.mk key j11 Qk x9_2 false) (0:Int))) (0:Int) (ByteArray.mk (Array.mk [])) (0:Int)) (K (Asg.mk key (ByteArray.mk (Array.mk [])) Qk (0:Int) false) (0:Int)))) fun Y7_0=>q1r (Envt.mk (Sett.mk v.1.1 v.1.2 v.1.3) v.2 v.3 v.4 v.5 v.6) (Subj.mk s.1) fun Un=>Cnd (Un=true) (Y7_0 true) (Cnd (H9=true) (Y7_0 (decide (Qk<y1.4))) (Y7_0 false)))) fun u7a=>Cnd (q7i=true) (Cnd (Qw.2=ByteArray.mk (Array.mk [])) (u7a true) (q1s (Envt.mk (Sett.mk v.1.1 v.1.2 v.1.3) v.2 v.3 v.4 v.5 v.6) Qw fun Um=>u7a Um)) (u7a false)) fun y7u=>Cnd (H9=true) (Wx y1.3 Qm.2 fun Qw=>y7u Qw) (y7u (-1:Int)))) fun z2y=>v.5.length<=(9223372036854775807:Nat)->Lp1 (fun Qh j7j=>Cnd (Qh<(↑v.5.length:Int)) (((0:Int)<=Qh/\Qh<(↑v.5.length:Int))/\ ∀y3,v.5[Qh.toNat]? =some y3->Cnd (y3.1=key) (z2y Qh) (InI (Qh+(1:Int))/\j7j (Qh+(1:Int)))) (z2y (-1:Int))) (0:Int)
def Gz:Vm:=z0y Vk q0k Rh q4f Ho q36 q35
abbrev z15:Type:=List (List Int)->(List (Int)->Prop)->Prop
def z16:z15:=fun fields K=>Lp2 (fun Qb Q6 q4y=>fields.length<=(9223372036854775807:Nat)->Cnd (Q6<(↑fields.length:Int)) (((0:Int)<=Q6/\Q6<(↑fields.length:Int))/\ ∀y2,fields[Q6.toNat]? =some y2->y2.length<=(9223372036854775807:Nat)->Lp2 (fun Qw q7i Y5_2=>Cnd ((0:Int)<=q7i) ((0:Int)<=Go.IntKind.u64.wrap q7i/\Sml (Qw++[Go.IntKind.u8.wrap ((Go.IntKind.u64.wrap (↑y2.length:Int)).fdiv ((2:Int) ^ Min.min (Go.IntKind.u64.wrap q7i).toNat (64:Nat)))]).length/\InI (q7i - (8:Int))/\Y5_2 (Qw++[Go.IntKind.u8.wrap ((Go.IntKind.u64.wrap (↑y2.length:Int)).fdiv ((2:Int) ^ Min.min (Go.IntKind.u64.wrap q7i).toNat (64:Nat)))]) (q7i - (8:Int))) (((0:Int)<=Q6/\Q6<(↑fields.length:Int))/\ ∀y6,fields[Q6.toNat]? =some y6->Sml (Qw++y6).length/\InI (Q6+(1:Int))/\q4y (Qw++y6) (Q6+(1:Int)))) Qb (56:Int)) (K Qb)) [] (0:Int)
abbrev q9i:Type:=Int->Int->(Int->Prop)->Prop
def q9j:q9i:=fun x n K=>(0:Int)<=n/\(0:Int)<=Go.IntKind.u64.wrap ((64:Int) - n)/\K (Go.IntKind.u64.wrap (↑(BitVec.ofInt (64:Nat) (Go.IntKind.u64.wrap (x*(2:Int) ^ Min.min n.toNat (64:Nat)))|||BitVec.ofInt (64:Nat) (x.fdiv ((2:Int) ^ Min.min (Go.IntKind.u64.wrap ((64:Int) - n)).toNat (64:Nat)))).toNat:Int))
abbrev U6:Type:=Sip->Int->(Sip->Prop)->Prop
def q69 (Uz:q9i):U6:=fun v n K=>Lp5 (fun Qb Q6 j7h q8d v3k Y0_5=>Cnd (Qb<n) (Uz j7h (13:Int) fun Qd=>Uz (Go.IntKind.u64.wrap (Q6+j7h)) (32:Int) fun Qh=>Uz v3k (16:Int) fun Qm=>Uz (Go.IntKind.u64.wrap (↑(BitVec.ofInt (64:Nat) Qm ^^^ BitVec.ofInt (64:Nat) (Go.IntKind.u64.wrap (q8d+v3k))).toNat:Int)) (21:Int) fun Qk=>Uz (Go.IntKind.u64.wrap (↑(BitVec.ofInt (64:Nat) Qd ^^^ BitVec.ofInt (64:Nat) (Go.IntKind.u64.wrap (Q6+j7h))).toNat:Int)) (17:Int) fun Qw=>Uz (Go.IntKind.u64.wrap (Go.IntKind.u64.wrap (q8d+v3k)+Go.IntKind.u64.wrap (↑(BitVec.ofInt (64:Nat) Qd ^^^ BitVec.ofInt (64:Nat) (Go.IntKind.u64.wrap (Q6+j7h))).toNat:Int))) (32:Int) fun Zx=>InI (Qb+(1:Int))/\Y0_5 (Qb+(1:Int)) (Go.IntKind.u64.wrap (Qh+Go.IntKind.u64.wrap (↑(BitVec.ofInt (64:Nat) Qm ^^^ BitVec.ofInt (64:Nat) (Go.IntKind.u64.wrap (q8d+v3k))).toNat:Int))) (Go.IntKind.u64.wrap (↑(BitVec.ofInt (64:Nat) Qw ^^^ BitVec.ofInt (64:Nat) (Go.IntKind.u64.wrap (Go.IntKind.u64.wrap (q8d+v3k)+Go.IntKind.u64.wrap (↑(BitVec.ofInt (64:Nat) Qd ^^^ BitVec.ofInt (64:Nat) (Go.IntKind.u64.wrap (Q6+j7h))).toNat:Int)))).toNat:Int)) Zx (Go.IntKind.u64.wrap (↑(BitVec.ofInt (64:Nat) Qk ^^^ BitVec.ofInt (64:Nat) (Go.IntKind.u64.wrap (Qh+Go.IntKind.u64.wrap (↑(BitVec.ofInt (64:Nat) Qm ^^^ BitVec.ofInt (64:Nat) (Go.IntKind.u64.wrap (q8d+v3k))).toNat:Int)))).toNat:Int))) (K (Sip.mk Q6 j7h q8d v3k))) (0:Int) v.1 v.2 v.3 v.4
def Jo:U6:=q69 q9j
abbrev z8a:Type:=Int->Int->List (Int)->(Int->Prop)->Prop
def v0i (W5:U6):z8a:=fun k0 k1 b K=>Lp5 (fun Qb Q6 j7h q8d v3k Y0_5=>b.length<=(9223372036854775807:Nat)->(8:Int)≠(0:Int)/\InI ((↑b.length:Int).tdiv (8:Int))/\Cnd (Qb<=(↑b.length:Int).tdiv (8:Int)) (Lp2 (fun Qh Zk q7n=>Cnd (Zk<(8:Int)) (InI ((8:Int)*Qb)/\InI ((8:Int)*Qb+Zk)/\(b.length<=(9223372036854775807:Nat)->Cnd ((8:Int)*Qb+Zk<(↑b.length:Int)) (InI ((8:Int)*Qb)/\InI ((8:Int)*Qb+Zk)/\((0:Int)<=(8:Int)*Qb+Zk/\(8:Int)*Qb+Zk<(↑b.length:Int))/\ ∀y4,b[((8:Int)*Qb+Zk).toNat]? =some y4->InI ((8:Int)*Zk)/\(0:Int)<=Go.IntKind.u64.wrap ((8:Int)*Zk)/\InI (Zk+(1:Int))/\q7n (Go.IntKind.u64.wrap (↑(BitVec.ofInt (64:Nat) Qh|||BitVec.ofInt (64:Nat) (Go.IntKind.u64.wrap (Go.IntKind.u64.wrap y4*(2:Int) ^ Min.min (Go.IntKind.u64.wrap ((8:Int)*Zk)).toNat (64:Nat)))).toNat:Int)) (Zk+(1:Int))) (Jn1 (fun Qk=>W5 (Sip.mk Q6 j7h q8d (Go.IntKind.u64.wrap (↑(BitVec.ofInt (64:Nat) v3k ^^^ BitVec.ofInt (64:Nat) Qk).toNat:Int))) (2:Int) fun Qw=>InI (Qb+(1:Int))/\Y0_5 (Qb+(1:Int)) (Go.IntKind.u64.wrap (↑(BitVec.ofInt (64:Nat) Qw.1 ^^^ BitVec.ofInt (64:Nat) Qk).toNat:Int)) Qw.2 Qw.3 Qw.4) fun y7u=>b.length<=(9223372036854775807:Nat)->(8:Int)≠(0:Int)/\InI ((↑b.length:Int).tdiv (8:Int))/\Cnd (Qb=(↑b.length:Int).tdiv (8:Int)) (b.length<=(9223372036854775807:Nat)->(256:Int)≠(0:Int)/\(0:Int)<=(56:Int)/\y7u (Go.IntKind.u64.wrap (↑(BitVec.ofInt (64:Nat) Qh|||BitVec.ofInt (64:Nat) (Go.IntKind.u64.wrap (Go.IntKind.u64.wrap ((↑b.length:Int).tmod (256:Int))*(2:Int) ^ Min.min (Int.toNat (56:Int)) (64:Nat)))).toNat:Int))) (y7u Qh)))) (Jn1 (fun Qm=>W5 (Sip.mk Q6 j7h q8d (Go.IntKind.u64.wrap (↑(BitVec.ofInt (64:Nat) v3k ^^^ BitVec.ofInt (64:Nat) Qm).toNat:Int))) (2:Int) fun Qk=>InI (Qb+(1:Int))/\Y0_5 (Qb+(1:Int)) (Go.IntKind.u64.wrap (↑(BitVec.ofInt (64:Nat) Qk.1 ^^^ BitVec.ofInt (64:Nat) Qm).toNat:Int)) Qk.2 Qk.3 Qk.4) fun u3f=>b.length<=(9223372036854775807:Nat)->(8:Int)≠(0:Int)/\InI ((↑b.length:Int).tdiv (8:Int))/\Cnd (Qb=(↑b.length:Int).tdiv (8:Int)) (b.length<=(9223372036854775807:Nat)->(256:Int)≠(0:Int)/\(0:Int)<=(56:Int)/\u3f (Go.IntKind.u64.wrap (↑(BitVec.ofInt (64:Nat) Qh|||BitVec.ofInt (64:Nat) (Go.IntKind.u64.wrap (Go.IntKind.u64.wrap ((↑b.length:Int).tmod (256:Int))*(2:Int) ^ Min.min (Int.toNat (56:Int)) (64:Nat)))).toNat:Int))) (u3f Qh))) (0:Int) (0:Int)) (W5 (Sip.mk Q6 j7h (Go.IntKind.u64.wrap (↑(BitVec.ofInt (64:Nat) q8d ^^^ BitVec.ofInt (64:Nat) (255:Int)).toNat:Int)) v3k) (4:Int) fun Qh=>K (Go.IntKind.u64.wrap (↑(BitVec.ofInt (64:Nat) (Go.IntKind.u64.wrap (↑(BitVec.ofInt (64:Nat) (Go.IntKind.u64.wrap (↑(BitVec.ofInt (64:Nat) Qh.1 ^^^ BitVec.ofInt (64:Nat) Qh.2).toNat:Int)) ^^^ BitVec.ofInt (64:Nat) Qh.3).toNat:Int)) ^^^ BitVec.ofInt (64:Nat) Qh.4).toNat:Int)))) (0:Int) (Go.IntKind.u64.wrap (↑(BitVec.ofInt (64:Nat) k0 ^^^ BitVec.ofInt (64:Nat) (8317987319222330741:Int)).toNat:Int)) (Go.IntKind.u64.wrap (↑(BitVec.ofInt (64:Nat) k1 ^^^ BitVec.ofInt (64:Nat) (7237128888997146477:Int)).toNat:Int)) (Go.IntKind.u64.wrap (↑(BitVec.ofInt (64:Nat) k0 ^^^ BitVec.ofInt (64:Nat) (7816392313619706465:Int)).toNat:Int)) (Go.IntKind.u64.wrap (↑(BitVec.ofInt (64:Nat) k1 ^^^ BitVec.ofInt (64:Nat) (8387220255154660723:Int)).toNat:Int))
def j2m:z8a:=v0i Jo
abbrev z17:Type:=Int->List (List Int)->(Int->Prop)->Prop
def w2k (q8m:z15) (z8j:z8a):z17:=fun domain fields K=>q8m fields fun Qb=>z8j domain (0:Int) Qb fun Qd=>K Qd
def z56:z17:=w2k z16 j2m
abbrev q7u:Type:=ByteArray->ByteArray->(Int->Prop)->Prop
def v0j (z2x:z17):q7u:=fun salt key K=>Sml salt.size/\Sml key.size/\z2x (1:Int) [List.map (fun b=>(↑b.toNat:Int)) (salt,key,()).fst.data.toList,List.map (fun b=>(↑b.toNat:Int)) (salt,key,()).snd.fst.data.toList] fun Qb=>(10000:Int)≠(0:Int)/\InI (Qb.tmod (10000:Int))/\K (Qb.tmod (10000:Int))
def q7v:q7u:=v0j z56
abbrev Gt:Type:=Envt->Subj->List (Frc)->(List (Asg)->Prop)->Prop
def z57 (Jb:Vm):Gt:=fun v s forced K=>v.5.length<=(9223372036854775807:Nat)->Lp2 (fun Qd Z1 z84=>Cnd (Z1<(↑v.5.length:Int)) (((0:Int)<=Z1/\Z1<(↑v.5.length:Int))/\ ∀y2,v.5[Z1.toNat]? =some y2->Jb (Envt.mk (Sett.mk v.1.1 v.1.2 v.1.3) v.2 v.3 v.4 v.5 v.6) (Subj.mk s.1) forced y2.1 fun Qk _=>Sml (Qd++[Qk]).length/\InI (Z1+(1:Int))/\z84 (Qd++[Qk]) (Z1+(1:Int))) (K Qd)) [] (0:Int)
def q0m:Gt:=z57 Gz
abbrev q1b:Type:=(Bool->Prop)->Prop
def z3p (G1:q13) (Jb:Vm) (Bx:q7u) (Wk:Gt):q1b:=fun K=>G1 fun Qb=>Jb (Envt.mk (Sett.mk Qb.1.1 Qb.1.2 Qb.1.3) Qb.2 Qb.3 Qb.4 Qb.5 Qb.6) (Subj.mk [Ctxt.mk (ByteArray.mk (Array.mk [117,115,101,114])) (ByteArray.mk (Array.mk [117])) []]) [] (ByteArray.mk (Array.mk [108])) fun Qd Z1=>G1 fun Qh=>Jb (Envt.mk (Sett.mk Qh.1.1 Qh.1.2 Qh.1.3) Qh.2 Qh.3 Qh.4 Qh.5 Qh.6) (Subj.mk []) [] (ByteArray.mk (Array.mk [108])) fun Qm H9=>Cnd (Z1=(0:Int)) (Cnd (Qd.2=ByteArray.mk (Array.mk [120])) (Cnd (Qd.4=(2:Int)) (Bx (ByteArray.mk (Array.mk [])) (ByteArray.mk (Array.mk [117])) fun Qk=>Cnd (Qd.3=Qk) (Cnd (H9=(0:Int)) (Cnd (Qm.1=ByteArray.mk (Array.mk [108])/\Qm.2=ByteArray.mk (Array.mk [])/\Qm.3=(-1:Int)/\Qm.4=(0:Int)/\Qm.5=false) (Wk (Envt.mk (Sett.mk (ByteArray.mk (Array.mk [])) (ByteArray.mk (Array.mk [])) (0:Int)) [] [] [] [] []) (Subj.mk []) [] fun Qw=>Qw.length<=(9223372036854775807:Nat)->K (decide ((↑Qw.length:Int)=(0:Int)))) (K false)) (K false)) (K false)) (K false)) (K false)) (K false)
def q4g:q1b:=z3p q6c Gz q7v q0m
abbrev w2l:Type:=List (Int)->Int->(List (Int)->Int->Prop)->Prop
def w2m:w2l:=fun list_ most K=>Jn1 (fun Qb=>K Qb (0:Int)) fun z2y=>list_.length<=(9223372036854775807:Nat)->Cnd (most<(↑list_.length:Int)) (((0:Int)<=(0:Int)/\(0:Int)<=most/\most<=(↑list_.length:Int))/\z2y (List.drop (Int.toNat (0:Int)) (List.take most.toNat list_))) (z2y list_)
abbrev q5j:Type:=List (Int)->Int->ByteArray->(Ctxt->Int->Prop)->Prop
def j0o (q51:z3c) (Q1:J3) (Qa:Q7) (Z8:Ry):q5j:=fun list at_ kind K=>q51 list at_ fun Qb Q6=>Q1 fun Qd=>Lp3 (fun Qh Zk v3l Y2_3=>Qd.length<=(9223372036854775807:Nat)->Cnd (Qh<(↑Qd.length:Int)) (((0:Int)<=Qh/\Qh<(↑Qd.length:Int))/\ ∀y4,Qd[Qh.toNat]? =some y4->Cnd (y4.1=kind) (Qa list v3l (4:Int) fun Zx z7r=>Cnd ((0:Int)<Zx) (((0:Int)<=Qh/\Qh<(↑Qd.length:Int))/\ ∀y7,Qd[Qh.toNat]? =some y7->((0:Int)<=Qh/\Qh<(↑Qd.length:Int))/\ ∀y9,Qd[Qh.toNat]? =some y9->Z8 list z7r y9.3 fun q0q w5w=>Sml (Zk++[Attr.mk y7.2 q0q]).length/\InI (Qh+(1:Int))/\Y2_3 (Qh+(1:Int)) (Zk++[Attr.mk y7.2 q0q]) w5w) (InI (Qh+(1:Int))/\Y2_3 (Qh+(1:Int)) Zk z7r)) (InI (Qh+(1:Int))/\Y2_3 (Qh+(1:Int)) Zk v3l)) (K (Ctxt.mk kind Qb Zk) v3l)) (0:Int) [] Q6
def q5k:q5j:=j0o z99 W0 Zv G5
abbrev q5l:Type:=List (Int)->Int->(Subj->Int->Prop)->Prop
def j0p (Qa:Q7) (Rx:q5j):q5l:=fun list at_ K=>Qa list at_ (6:Int) fun Qb Q6=>Jn2 (fun Qd Z1=>Cnd (Qb=(1:Int)) (K (Subj.mk Z1) Qd) (Cnd (Qb=(5:Int)) (K (Subj.mk Z1) Qd) (Rx list Qd (ByteArray.mk (Array.mk [117,115,101,114])) fun Qh Zk=>Sml (Z1++[Qh]).length/\K (Subj.mk (Z1++[Qh])) Zk))) fun w9k=>Cnd (Qb=(1:Int)) (Rx list Q6 (ByteArray.mk (Array.mk [100,101,118,105,99,101])) fun Qh Zk=>Sml ([]++[Qh]).length/\w9k Zk ([]++[Qh])) (Cnd (Qb=(2:Int)) (Rx list Q6 (ByteArray.mk (Array.mk [100,101,118,105,99,101])) fun Qh Zk=>Sml ([]++[Qh]).length/\w9k Zk ([]++[Qh])) (Cnd (Qb=(4:Int)) (Rx list Q6 (ByteArray.mk (Array.mk [100,101,118,105,99,101])) fun Qh Zk=>Sml ([]++[Qh]).length/\w9k Zk ([]++[Qh])) (w9k Q6 [])))
def q9k:q5l:=j0p Zv q5k
abbrev q8b:Type:=List (Int)->Int->Envt->(List (Frc)->Int->Prop)->Prop
def j5c (Qa:Q7):q8b:=fun list at_ v K=>Lp3 (fun Qb Q6 j7h Y0_3=>Qa list j7h (3:Int) fun Qd Z1=>Cnd (Q6<Qd) (Qa list Z1 (4:Int) fun Qh Zk=>InI ((1:Int)+Qh)/\Jn2 (fun Qm H9=>Jn4 (fun Qk Wm z42 u3k=>Sml (Qb++[Frc.mk Qk Wm z42]).length/\InI (Q6+(1:Int))/\Y0_3 (Qb++[Frc.mk Qk Wm z42]) (Q6+(1:Int)) u3k) fun y7u=>Qa list H9 (4:Int) fun Qw q7i=>v.6.length<=(9223372036854775807:Nat)->Cnd (Qw<(↑v.6.length:Int)) (((0:Int)<=Qw/\Qw<(↑v.6.length:Int))/\ ∀y7,v.6[Qw.toNat]? =some y7->Jn2 (fun Q5 j11=>((0:Int)<=Qw/\Qw<(↑v.6.length:Int))/\ ∀y10,v.6[Qw.toNat]? =some y10->Qa list j11 (4:Int) fun Rv qa0f=>Cnd ((0:Int)<Rv) (y10.7.length<=(9223372036854775807:Nat)->Cnd ((0:Int)<(↑y10.7.length:Int)) (y10.7.length<=(9223372036854775807:Nat)->Qa list qa0f (↑y10.7.length:Int) fun j95 qa4a=>((0:Int)<=j95/\j95<(↑y10.7.length:Int))/\ ∀y16,y10.7[j95.toNat]? =some y16->y7u Q5 y7.1 y16.3 qa4a) (y7u Q5 y7.1 ((1:Int)+Qh) qa0f)) (y7u Q5 y7.1 ((1:Int)+Qh) qa0f)) fun Y9_0=>Qa list q7i (4:Int) fun Rs q0p=>Cnd ((0:Int)<Rs) (((0:Int)<=Qw/\Qw<(↑v.6.length:Int))/\ ∀y11,v.6[Qw.toNat]? =some y11->Y9_0 y11.2 q0p) (Y9_0 Qm q0p)) (y7u Qm (ByteArray.mk (Array.mk [])) ((1:Int)+Qh) q7i)) fun u3f=>Qa list Zk (3:Int) fun Qk Wm=>Cnd (Qk=(1:Int)) (u3f (ByteArray.mk (Array.mk [108,98])) Wm) (u3f (ByteArray.mk (Array.mk [108,97])) Wm)) (K Qb Z1)) [] (0:Int) at_
def z18:q8b:=j5c Zv
abbrev q1c:Type:=List (Int)->List (Int)->(Envt->Subj->List (Frc)->Prop)->Prop
def z3q (j12:w2l) (H6:Hh) (q59:q5l) (q8n:q8b):q1c:=fun codes who K=>j12 codes (400:Int) fun Qb Q6=>H6 Qb Q6 (10:Int) fun Qd _=>j12 who (80:Int) fun Qh Zk=>q59 Qh Zk fun Qm H9=>q8n Qh H9 (Envt.mk (Sett.mk Qd.1.1 Qd.1.2 Qd.1.3) Qd.2 Qd.3 Qd.4 Qd.5 Qd.6) fun Qk _=>K (Envt.mk (Sett.mk Qd.1.1 Qd.1.2 Qd.1.3) Qd.2 Qd.3 Qd.4 Qd.5 Qd.6) (Subj.mk Qm.1) Qk
def q4h:q1c:=z3q w2m q0h q9k z18
abbrev z19:Type:=Subj->ByteArray->(Ctxt->Bool->Prop)->Prop
def z2a:z19:=fun s kind K=>Lp4 (fun Qb Q6 j7h (q8d:List Attr) Y0_4=>s.1.length<=(9223372036854775807:Nat)->Cnd (Qb<(↑s.1.length:Int)) (((0:Int)<=Qb/\Qb<(↑s.1.length:Int))/\ ∀y2,s.1[Qb.toNat]? =some y2->Cnd (y2.1=kind) (((0:Int)<=Qb/\Qb<(↑s.1.length:Int))/\ ∀y4,s.1[Qb.toNat]? =some y4->K y4 true) (InI (Qb+(1:Int))/\Y0_4 (Qb+(1:Int)) Q6 j7h q8d)) (K (Ctxt.mk (ByteArray.mk (Array.mk [])) (ByteArray.mk (Array.mk [])) []) false)) (0:Int) (ByteArray.mk (Array.mk [])) (ByteArray.mk (Array.mk [])) []
abbrev j0q:Type:=Subj->ByteArray->ByteArray->(Val->Bool->Prop)->Prop
def w2n (q62:z19):j0q:=fun s kind name K=>q62 (Subj.mk s.1) kind fun Qb Q6=>Cnd (Q6=true) (Cnd (name=ByteArray.mk (Array.mk [107,101,121])) (K (Val.mk (3:Int) (0:Int) Qb.2 []) true) (Lp5 (fun Qd Z1 z47 j7i (x1_4:List ByteArray) Y1_5=>Qb.3.length<=(9223372036854775807:Nat)->Cnd (Qd<(↑Qb.3.length:Int)) (((0:Int)<=Qd/\Qd<(↑Qb.3.length:Int))/\ ∀y3,Qb.3[Qd.toNat]? =some y3->Cnd (y3.1=name) (((0:Int)<=Qd/\Qd<(↑Qb.3.length:Int))/\ ∀y5,Qb.3[Qd.toNat]? =some y5->K (Val.mk y5.2.1 y5.2.2 y5.2.3 y5.2.4) true) (InI (Qd+(1:Int))/\Y1_5 (Qd+(1:Int)) Z1 z47 j7i x1_4)) (K (Val.mk (0:Int) (0:Int) (ByteArray.mk (Array.mk [])) []) false)) (0:Int) (0:Int) (0:Int) (ByteArray.mk (Array.mk [])) [])) (K (Val.mk (0:Int) (0:Int) (ByteArray.mk (Array.mk [])) []) false)
def j0r:j0q:=w2n z2a
abbrev z58:Type:=ByteArray->ByteArray->Int->(Bool->Prop)->Prop
def z0f:z58:=fun s t i K=>Cnd ((0:Int)<=i) (InI (i+(↑t.size:Int))/\Cnd (i+(↑t.size:Int)<=(↑s.size:Int)) (InI (i+(↑t.size:Int))/\((0:Int)<=i/\i<=i+(↑t.size:Int)/\i+(↑t.size:Int)<=(↑s.size:Int))/\K (decide (s.extract i.toNat (i+(↑t.size:Int)).toNat=t))) (K false)) (K false)
abbrev z0z:Type:=Val->Val->(Bool->Prop)->Prop
def z9e (Wl:q03) (z0q:z58):z0z:=fun v w K=>Cnd (w.1=(3:Int)) (Cnd (v.1=(5:Int)) (Wl v.4 w.3 fun Qb=>K Qb) (Lp1 (fun Qb q61=>Cnd (v.1=(3:Int)) (InI (Qb+(↑w.3.size:Int))/\Cnd (Qb+(↑w.3.size:Int)<=(↑v.3.size:Int)) (z0q v.3 w.3 Qb fun Qd=>Cnd (Qd=true) (K true) (InI (Qb+(1:Int))/\q61 (Qb+(1:Int)))) (K false)) (K false)) (0:Int))) (K false)
def z00:z0z:=z9e q2c z0f
abbrev v4s:Type:=Bool->Bool->(Int->Prop)->Prop
def z59:v4s:=fun less greater K=>Cnd (less=true) (K (-1:Int)) (Cnd (greater=true) (K (1:Int)) (K (0:Int)))
abbrev z6a:Type:=Val->Val->(Int->Int->Prop)->Prop
def j7n (Jg:Be) (Qi:v4s) (q1i:q48):z6a:=fun a b K=>Jg a fun Qb=>Cnd (Qb=(0:Int)) (Jg b fun Qd=>Cnd (Qd=(0:Int)) (Cnd (a.1=b.1) (Cnd (a.1=(1:Int)) (K (0:Int) (8:Int)) (Cnd (a.1=(5:Int)) (K (0:Int) (8:Int)) (Cnd (a.1=(2:Int)) (Qi (decide (a.2<b.2)) (decide (b.2<a.2)) fun Qh=>K Qh (0:Int)) (Cnd (a.1=(3:Int)) (Qi (decide (Lk.blt a.3 b.3)) (decide (Lk.blt b.3 a.3)) fun Qh=>K Qh (0:Int)) (q1i a.3 fun (Qh:Int×Int×Int) _=>q1i b.3 fun (Qm:Int×Int×Int) _=>Lp1 (fun Qk v7x=>Cnd (Qk<(3:Int)) (((0:Int)<=Qk/\Qk<(↑(3:Nat):Int))/\((True/\(Qk=(↑(nat_lit 0):Int)->((0:Int)<=Qk/\Qk<(↑(3:Nat):Int))/\((True/\(Qk=(↑(nat_lit 0):Int)->Cnd (Qh.fst=Qm.fst) (InI (Qk+(1:Int))/\v7x (Qk+(1:Int))) (((0:Int)<=Qk/\Qk<(↑(3:Nat):Int))/\((True/\(Qk=(↑(nat_lit 0):Int)->((0:Int)<=Qk/\Qk<(↑(3:Nat):Int))/\((True/\(Qk=(↑(nat_lit 0):Int)->Qi (decide (Qh.fst<Qm.fst)) true fun Q5=>K Q5 (0:Int)))/\(Qk=(↑(nat_lit 1):Int)->Qi (decide (Qh.fst<Qm.snd.fst)) true fun Q5=>K Q5 (0:Int)))/\(Qk=(↑(nat_lit 2):Int)->Qi (decide (Qh.fst<Qm.snd.snd)) true fun Q5=>K Q5 (0:Int))))/\(Qk=(↑(nat_lit 1):Int)->((0:Int)<=Qk/\Qk<(↑(3:Nat):Int))/\((True/\(Qk=(↑(nat_lit 0):Int)->Qi (decide (Qh.snd.fst<Qm.fst)) true fun Q5=>K Q5 (0:Int)))/\(Qk=(↑(nat_lit 1):Int)->Qi (decide (Qh.snd.fst<Qm.snd.fst)) true fun Q5=>K Q5 (0:Int)))/\(Qk=(↑(nat_lit 2):Int)->Qi (decide (Qh.snd.fst<Qm.snd.snd)) true fun Q5=>K Q5 (0:Int))))/\(Qk=(↑(nat_lit 2):Int)->((0:Int)<=Qk/\Qk<(↑(3:Nat):Int))/\((True/\(Qk=(↑(nat_lit 0):Int)->Qi (decide (Qh.snd.snd<Qm.fst)) true fun Q5=>K Q5 (0:Int)))/\(Qk=(↑(nat_lit 1):Int)->Qi (decide (Qh.snd.snd<Qm.snd.fst)) true fun Q5=>K Q5 (0:Int)))/\(Qk=(↑(nat_lit 2):Int)->Qi (decide (Qh.snd.snd<Qm.snd.snd)) true fun Q5=>K Q5 (0:Int))))))/\(Qk=(↑(nat_lit 1):Int)->Cnd (Qh.fst=Qm.snd.fst) (InI (Qk+(1:Int))/\v7x (Qk+(1:Int))) (((0:Int)<=Qk/\Qk<(↑(3:Nat):Int))/\((True/\(Qk=(↑(nat_lit 0):Int)->((0:Int)<=Qk/\Qk<(↑(3:Nat):Int))/\((True/\(Qk=(↑(nat_lit 0):Int)->Qi (decide (Qh.fst<Qm.fst)) true fun Q5=>K Q5 (0:Int)))/\(Qk=(↑(nat_lit 1):Int)->Qi (decide (Qh.fst<Qm.snd.fst)) true fun Q5=>K Q5 (0:Int)))/\(Qk=(↑(nat_lit 2):Int)->Qi (decide (Qh.fst<Qm.snd.snd)) true fun Q5=>K Q5 (0:Int))))/\(Qk=(↑(nat_lit 1):Int)->((0:Int)<=Qk/\Qk<(↑(3:Nat):Int))/\((True/\(Qk=(↑(nat_lit 0):Int)->Qi (decide (Qh.snd.fst<Qm.fst)) true fun Q5=>K Q5 (0:Int)))/\(Qk=(↑(nat_lit 1):Int)->Qi (decide (Qh.snd.fst<Qm.snd.fst)) true fun Q5=>K Q5 (0:Int)))/\(Qk=(↑(nat_lit 2):Int)->Qi (decide (Qh.snd.fst<Qm.snd.snd)) true fun Q5=>K Q5 (0:Int))))/\(Qk=(↑(nat_lit 2):Int)->((0:Int)<=Qk/\Qk<(↑(3:Nat):Int))/\((True/\(Qk=(↑(nat_lit 0):Int)->Qi (decide (Qh.snd.snd<Qm.fst)) true fun Q5=>K Q5 (0:Int)))/\(Qk=(↑(nat_lit 1):Int)->Qi (decide (Qh.snd.snd<Qm.snd.fst)) true fun Q5=>K Q5 (0:Int)))/\(Qk=(↑(nat_lit 2):Int)->Qi (decide (Qh.snd.snd<Qm.snd.snd)) true fun Q5=>K Q5 (0:Int))))))/\(Qk=(↑(nat_lit 2):Int)->Cnd (Qh.fst=Qm.snd.snd) (InI (Qk+(1:Int))/\v7x (Qk+(1:Int))) (((0:Int)<=Qk/\Qk<(↑(3:Nat):Int))/\((True/\(Qk=(↑(nat_lit 0):Int)->((0:Int)<=Qk/\Qk<(↑(3:Nat):Int))/\((True/\(Qk=(↑(nat_lit 0):Int)->Qi (decide (Qh.fst<Qm.fst)) true fun Q5=>K Q5 (0:Int)))/\(Qk=(↑(nat_lit 1):Int)->Qi (decide (Qh.fst<Qm.snd.fst)) true fun Q5=>K Q5 (0:Int)))/\(Qk=(↑(nat_lit 2):Int)->Qi (decide (Qh.fst<Qm.snd.snd)) true fun Q5=>K Q5 (0:Int))))/\(Qk=(↑(nat_lit 1):Int)->((0:Int)<=Qk/\Qk<(↑(3:Nat):Int))/\((True/\(Qk=(↑(nat_lit 0):Int)->Qi (decide (Qh.snd.fst<Qm.fst)) true fun Q5=>K Q5 (0:Int)))/\(Qk=(↑(nat_lit 1):Int)->Qi (decide (Qh.snd.fst<Qm.snd.fst)) true fun Q5=>K Q5 (0:Int)))/\(Qk=(↑(nat_lit 2):Int)->Qi (decide (Qh.snd.fst<Qm.snd.snd)) true fun Q5=>K Q5 (0:Int))))/\(Qk=(↑(nat_lit 2):Int)->((0:Int)<=Qk/\Qk<(↑(3:Nat):Int))/\((True/\(Qk=(↑(nat_lit 0):Int)->Qi (decide (Qh.snd.snd<Qm.fst)) true fun Q5=>K Q5 (0:Int)))/\(Qk=(↑(nat_lit 1):Int)->Qi (decide (Qh.snd.snd<Qm.snd.fst)) true fun Q5=>K Q5 (0:Int)))/\(Qk=(↑(nat_lit 2):Int)->Qi (decide (Qh.snd.snd<Qm.snd.snd)) true fun Q5=>K Q5 (0:Int)))))))/\(Qk=(↑(nat_lit 1):Int)->((0:Int)<=Qk/\Qk<(↑(3:Nat):Int))/\((True/\(Qk=(↑(nat_lit 0):Int)->Cnd (Qh.snd.fst=Qm.fst) (InI (Qk+(1:Int))/\v7x (Qk+(1:Int))) (((0:Int)<=Qk/\Qk<(↑(3:Nat):Int))/\((True/\(Qk=(↑(nat_lit 0):Int)->((0:Int)<=Qk/\Qk<(↑(3:Nat):Int))/\((True/\(Qk=(↑(nat_lit 0):Int)->Qi (decide (Qh.fst<Qm.fst)) true fun Q5=>K Q5 (0:Int)))/\(Qk=(↑(nat_lit 1):Int)->Qi (decide (Qh.fst<Qm.snd.fst)) true fun Q5=>K Q5 (0:Int)))/\(Qk=(↑(nat_lit 2):Int)->Qi (decide (Qh.fst<Qm.snd.snd)) true fun Q5=>K Q5 (0:Int))))/\(Qk=(↑(nat_lit 1):Int)->((0:Int)<=Qk/\Qk<(↑(3:Nat):Int))/\((True/\(Qk=(↑(nat_lit 0):Int)->Qi (decide (Qh.snd.fst<Qm.fst)) true fun Q5=>K Q5 (0:Int)))/\(Qk=(↑(nat_lit 1):Int)->Qi (decide (Qh.snd.fst<Qm.snd.fst)) true fun Q5=>K Q5 (0:Int)))/\(Qk=(↑(nat_lit 2):Int)->Qi (decide (Qh.snd.fst<Qm.snd.snd)) true fun Q5=>K Q5 (0:Int))))/\(Qk=(↑(nat_lit 2):Int)->((0:Int)<=Qk/\Qk<(↑(3:Nat):Int))/\((True/\(Qk=(↑(nat_lit 0):Int)->Qi (decide (Qh.snd.snd<Qm.fst)) true fun Q5=>K Q5 (0:Int)))/\(Qk=(↑(nat_lit 1):Int)->Qi (decide (Qh.snd.snd<Qm.snd.fst)) true fun Q5=>K Q5 (0:Int)))/\(Qk=(↑(nat_lit 2):Int)->Qi (decide (Qh.snd.snd<Qm.snd.snd)) true fun Q5=>K Q5 (0:Int))))))/\(Qk=(↑(nat_lit 1):Int)->Cnd (Qh.snd.fst=Qm.snd.fst) (InI (Qk+(1:Int))/\v7x (Qk+(1:Int))) (((0:Int)<=Qk/\Qk<(↑(3:Nat):Int))/\((True/\(Qk=(↑(nat_lit 0):Int)->((0:Int)<=Qk/\Qk<(↑(3:Nat):Int))/\((True/\(Qk=(↑(nat_lit 0):Int)->Qi (decide (Qh.fst<Qm.fst)) true fun Q5=>K Q5 (0:Int)))/\(Qk=(↑(nat_lit 1):Int)->Qi (decide (Qh.fst<Qm.snd.fst)) true fun Q5=>K Q5 (0:Int)))/\(Qk=(↑(nat_lit 2):Int)->Qi (decide (Qh.fst<Qm.snd.snd)) true fun Q5=>K Q5 (0:Int))))/\(Qk=(↑(nat_lit 1):Int)->((0:Int)<=Qk/\Qk<(↑(3:Nat):Int))/\((True/\(Qk=(↑(nat_lit 0):Int)->Qi (decide (Qh.snd.fst<Qm.fst)) true fun Q5=>K Q5 (0:Int)))/\(Qk=(↑(nat_lit 1):Int)->Qi (decide (Qh.snd.fst<Qm.snd.fst)) true fun Q5=>K Q5 (0:Int)))/\(Qk=(↑(nat_lit 2):Int)->Qi (decide (Qh.snd.fst<Qm.snd.snd)) true fun Q5=>K Q5 (0:Int))))/\(Qk=(↑(nat_lit 2):Int)->((0:Int)<=Qk/\Qk<(↑(3:Nat):Int))/\((True/\(Qk=(↑(nat_lit 0):Int)->Qi (decide (Qh.snd.snd<Qm.fst)) true fun Q5=>K Q5 (0:Int)))/\(Qk=(↑(nat_lit 1):Int)->Qi (decide (Qh.snd.snd<Qm.snd.fst)) true fun Q5=>K Q5 (0:Int)))/\(Qk=(↑(nat_lit 2):Int)->Qi (decide (Qh.snd.snd<Qm.snd.snd)) true fun Q5=>K Q5 (0:Int))))))/\(Qk=(↑(nat_lit 2):Int)->Cnd (Qh.snd.fst=Qm.snd.snd) (InI (Qk+(1:Int))/\v7x (Qk+(1:Int))) (((0:Int)<=Qk/\Qk<(↑(3:Nat):Int))/\((True/\(Qk=(↑(nat_lit 0):Int)->((0:Int)<=Qk/\Qk<(↑(3:Nat):Int))/\((True/\(Qk=(↑(nat_lit 0):Int)->Qi (decide (Qh.fst<Qm.fst)) true fun Q5=>K Q5 (0:Int)))/\(Qk=(↑(nat_lit 1):Int)->Qi (decide (Qh.fst<Qm.snd.fst)) true fun Q5=>K Q5 (0:Int)))/\(Qk=(↑(nat_lit 2):Int)->Qi (decide (Qh.fst<Qm.snd.snd)) true fun Q5=>K Q5 (0:Int))))/\(Qk=(↑(nat_lit 1):Int)->((0:Int)<=Qk/\Qk<(↑(3:Nat):Int))/\((True/\(Qk=(↑(nat_lit 0):Int)->Qi (decide (Qh.snd.fst<Qm.fst)) true fun Q5=>K Q5 (0:Int)))/\(Qk=(↑(nat_lit 1):Int)->Qi (decide (Qh.snd.fst<Qm.snd.fst)) true fun Q5=>K Q5 (0:Int)))/\(Qk=(↑(nat_lit 2):Int)->Qi (decide (Qh.snd.fst<Qm.snd.snd)) true fun Q5=>K Q5 (0:Int))))/\(Qk=(↑(nat_lit 2):Int)->((0:Int)<=Qk/\Qk<(↑(3:Nat):Int))/\((True/\(Qk=(↑(nat_lit 0):Int)->Qi (decide (Qh.snd.snd<Qm.fst)) true fun Q5=>K Q5 (0:Int)))/\(Qk=(↑(nat_lit 1):Int)->Qi (decide (Qh.snd.snd<Qm.snd.fst)) true fun Q5=>K Q5 (0:Int)))/\(Qk=(↑(nat_lit 2):Int)->Qi (decide (Qh.snd.snd<Qm.snd.snd)) true fun Q5=>K Q5 (0:Int)))))))/\(Qk=(↑(nat_lit 2):Int)->((0:Int)<=Qk/\Qk<(↑(3:Nat):Int))/\((True/\(Qk=(↑(nat_lit 0):Int)->Cnd (Qh.snd.snd=Qm.fst) (InI (Qk+(1:Int))/\v7x (Qk+(1:Int))) (((0:Int)<=Qk/\Qk<(↑(3:Nat):Int))/\((True/\(Qk=(↑(nat_lit 0):Int)->((0:Int)<=Qk/\Qk<(↑(3:Nat):Int))/\((True/\(Qk=(↑(nat_lit 0):Int)->Qi (decide (Qh.fst<Qm.fst)) true fun Q5=>K Q5 (0:Int)))/\(Qk=(↑(nat_lit 1):Int)->Qi (decide (Qh.fst<Qm.snd.fst)) true fun Q5=>K Q5 (0:Int)))/\(Qk=(↑(nat_lit 2):Int)->Qi (decide (Qh.fst<Qm.snd.snd)) true fun Q5=>K Q5 (0:Int))))/\(Qk=(↑(nat_lit 1):Int)->((0:Int)<=Qk/\Qk<(↑(3:Nat):Int))/\((True/\(Qk=(↑(nat_lit 0):Int)->Qi (decide (Qh.snd.fst<Qm.fst)) true fun Q5=>K Q5 (0:Int)))/\(Qk=(↑(nat_lit 1):Int)->Qi (decide (Qh.snd.fst<Qm.snd.fst)) true fun Q5=>K Q5 (0:Int)))/\(Qk=(↑(nat_lit 2):Int)->Qi (decide (Qh.snd.fst<Qm.snd.snd)) true fun Q5=>K Q5 (0:Int))))/\(Qk=(↑(nat_lit 2):Int)->((0:Int)<=Qk/\Qk<(↑(3:Nat):Int))/\((True/\(Qk=(↑(nat_lit 0):Int)->Qi (decide (Qh.snd.snd<Qm.fst)) true fun Q5=>K Q5 (0:Int)))/\(Qk=(↑(nat_lit 1):Int)->Qi (decide (Qh.snd.snd<Qm.snd.fst)) true fun Q5=>K Q5 (0:Int)))/\(Qk=(↑(nat_lit 2):Int)->Qi (decide (Qh.snd.snd<Qm.snd.snd)) true fun Q5=>K Q5 (0:Int))))))/\(Qk=(↑(nat_lit 1):Int)->Cnd (Qh.snd.snd=Qm.snd.fst) (InI (Qk+(1:Int))/\v7x (Qk+(1:Int))) (((0:Int)<=Qk/\Qk<(↑(3:Nat):Int))/\((True/\(Qk=(↑(nat_lit 0):Int)->((0:Int)<=Qk/\Qk<(↑(3:Nat):Int))/\((True/\(Qk=(↑(nat_lit 0):Int)->Qi (decide (Qh.fst<Qm.fst)) true fun Q5=>K Q5 (0:Int)))/\(Qk=(↑(nat_lit 1):Int)->Qi (decide (Qh.fst<Qm.snd.fst)) true fun Q5=>K Q5 (0:Int)))/\(Qk=(↑(nat_lit 2):Int)->Qi (decide (Qh.fst<Qm.snd.snd)) true fun Q5=>K Q5 (0:Int))))/\(Qk=(↑(nat_lit 1):Int)->((0:Int)<=Qk/\Qk<(↑(3:Nat):Int))/\((True/\(Qk=(↑(nat_lit 0):Int)->Qi (decide (Qh.snd.fst<Qm.fst)) true fun Q5=>K Q5 (0:Int)))/\(Qk=(↑(nat_lit 1):Int)->Qi (decide (Qh.snd.fst<Qm.snd.fst)) true fun Q5=>K Q5 (0:Int)))/\(Qk=(↑(nat_lit 2):Int)->Qi (decide (Qh.snd.fst<Qm.snd.snd)) true fun Q5=>K Q5 (0:Int))))/\(Qk=(↑(nat_lit 2):Int)->((0:Int)<=Qk/\Qk<(↑(3:Nat):Int))/\((True/\(Qk=(↑(nat_lit 0):Int)->Qi (decide (Qh.snd.snd<Qm.fst)) true fun Q5=>K Q5 (0:Int)))/\(Qk=(↑(nat_lit 1):Int)->Qi (decide (Qh.snd.snd<Qm.snd.fst)) true fun Q5=>K Q5 (0:Int)))/\(Qk=(↑(nat_lit 2):Int)->Qi (decide (Qh.snd.snd<Qm.snd.snd)) true fun Q5=>K Q5 (0:Int))))))/\(Qk=(↑(nat_lit 2):Int)->Cnd (Qh.snd.snd=Qm.snd.snd) (InI (Qk+(1:Int))/\v7x (Qk+(1:Int))) (((0:Int)<=Qk/\Qk<(↑(3:Nat):Int))/\((True/\(Qk=(↑(nat_lit 0):Int)->((0:Int)<=Qk/\Qk<(↑(3:Nat):Int))/\((True/\(Qk=(↑(nat_lit 0):Int)->Qi (decide (Qh.fst<Qm.fst)) true fun Q5=>K Q5 (0:Int)))/\(Qk=(↑(nat_lit 1):Int)->Qi (decide (Qh.fst<Qm.snd.fst)) true fun Q5=>K Q5 (0:Int)))/\(Qk=(↑(nat_lit 2):Int)->Qi (decide (Qh.fst<Qm.snd.snd)) true fun Q5=>K Q5 (0:Int))))/\(Qk=(↑(nat_lit 1):Int)->((0:Int)<=Qk/\Qk<(↑(3:Nat):Int))/\((True/\(Qk=(↑(nat_lit 0):Int)->Qi (decide (Qh.snd.fst<Qm.fst)) true fun Q5=>K Q5 (0:Int)))/\(Qk=(↑(nat_lit 1):Int)->Qi (decide (Qh.snd.fst<Qm.snd.fst)) true fun Q5=>K Q5 (0:Int)))/\(Qk=(↑(nat_lit 2):Int)->Qi (decide (Qh.snd.fst<Qm.snd.snd)) true fun Q5=>K Q5 (0:Int))))/\(Qk=(↑(nat_lit 2):Int)->((0:Int)<=Qk/\Qk<(↑(3:Nat):Int))/\((True/\(Qk=(↑(nat_lit 0):Int)->Qi (decide (Qh.snd.snd<Qm.fst)) true fun Q5=>K Q5 (0:Int)))/\(Qk=(↑(nat_lit 1):Int)->Qi (decide (Qh.snd.snd<Qm.snd.fst)) true fun Q5=>K Q5 (0:Int)))/\(Qk=(↑(nat_lit 2):Int)->Qi (decide (Qh.snd.snd<Qm.snd.snd)) true fun Q5=>K Q5 (0:Int))))))) (K (0:Int) (0:Int))) (0:Int)))))) (K (0:Int) (8:Int))) (K (0:Int) Qd)) (K (0:Int) Qb)
def z0g:z6a:=j7n Bf z59 q2w
abbrev j5d:Type:=Subj->Ex->(Bool->Prop)->Prop
def w8w (y2o:j0q) (Q2:Wb) (Bh:q4z) (z0q:z58) (z90:z0z) (j77:z6a):j5d:=fun s e K=>y2o (Subj.mk s.1) e.2 e.3 fun Qb Q6=>Cnd (Q6=true) (Q2 e.1 fun Qd=>Cnd (Qd=true) (Cnd (e.1=(6:Int)) (K true) (Cnd (e.1=(8:Int)) (Lp1 (fun Qh j7j=>e.4.length<=(9223372036854775807:Nat)->Cnd (Qh<(↑e.4.length:Int)) (((0:Int)<=Qh/\Qh<(↑e.4.length:Int))/\ ∀y4,e.4[Qh.toNat]? =some y4->Bh Qb y4 fun Zx=>Cnd (Zx=true) (K true) (InI (Qh+(1:Int))/\j7j (Qh+(1:Int)))) (K false)) (0:Int)) (e.4.length<=(9223372036854775807:Nat)->Cnd ((↑e.4.length:Int)=(0:Int)) (K false) (((0:Int)<=(0:Int)/\(0:Int)<(↑e.4.length:Int))/\ ∀y3,e.4[Int.toNat (0:Int)]? =some y3->Cnd (Qb.1=(3:Int)) (Cnd (e.1=(7:Int)) (Bh Qb y3 fun Qw=>K Qw) (Cnd (e.1=(9:Int)) (Cnd (y3.1=(3:Int)) (z0q Qb.3 y3.3 (0:Int) fun Qw=>K Qw) (K false)) (Cnd (e.1=(10:Int)) (Cnd (y3.1=(3:Int)) (InI ((↑Qb.3.size:Int) - (↑y3.3.size:Int))/\z0q Qb.3 y3.3 ((↑Qb.3.size:Int) - (↑y3.3.size:Int)) fun Qw=>K Qw) (K false)) (Cnd (e.1=(11:Int)) (z90 Qb y3 fun Qw=>K Qw) (j77 Qb y3 fun Qw q7i=>Cnd (q7i=(0:Int)) (Cnd (e.1=(12:Int)) (K (decide (Qw<(0:Int)))) (Cnd (e.1=(13:Int)) (K (decide (Qw<=(0:Int)))) (Cnd (e.1=(14:Int)) (K (decide ((0:Int)<Qw))) (K (decide ((0:Int)<=Qw)))))) (K false)))))) (Cnd (e.1=(7:Int)) (Bh Qb y3 fun Qw=>K Qw) (Cnd (e.1=(9:Int)) (K false) (Cnd (e.1=(10:Int)) (K false) (Cnd (e.1=(11:Int)) (z90 Qb y3 fun Qw=>K Qw) (j77 Qb y3 fun Qw q7i=>Cnd (q7i=(0:Int)) (Cnd (e.1=(12:Int)) (K (decide (Qw<(0:Int)))) (Cnd (e.1=(13:Int)) (K (decide (Qw<=(0:Int)))) (Cnd (e.1=(14:Int)) (K (decide ((0:Int)<Qw))) (K (decide ((0:Int)<=Qw)))))) (K false)))))))))) (K false)) (K false)
def j5e:j5d:=w8w j0r Wc q40 z0f z00 z0g
abbrev z8b:Type:=Subj->List (ByteArray)->Ex->(Bool->Prop)->Prop
def w8x (Wl:q03) (y7v:j5d) (X:z8b):z8b:=fun s in_ e K=>Cnd (e.1=(1:Int)) (K true) (Cnd (e.1=(2:Int)) (Lp1 (fun Qb q61=>e.5.length<=(9223372036854775807:Nat)->Cnd (Qb<(↑e.5.length:Int)) (((0:Int)<=Qb/\Qb<(↑e.5.length:Int))/\ ∀y2,e.5[Qb.toNat]? =some y2->X (Subj.mk s.1) in_ (Ex.mk y2.1 y2.2 y2.3 y2.4 y2.5) fun Qk=>Cnd (Qk=true) (InI (Qb+(1:Int))/\q61 (Qb+(1:Int))) (K false)) (K true)) (0:Int)) (Cnd (e.1=(3:Int)) (Lp1 (fun Qb q61=>e.5.length<=(9223372036854775807:Nat)->Cnd (Qb<(↑e.5.length:Int)) (((0:Int)<=Qb/\Qb<(↑e.5.length:Int))/\ ∀y2,e.5[Qb.toNat]? =some y2->X (Subj.mk s.1) in_ (Ex.mk y2.1 y2.2 y2.3 y2.4 y2.5) fun Qk=>Cnd (Qk=true) (K true) (InI (Qb+(1:Int))/\q61 (Qb+(1:Int)))) (K false)) (0:Int)) (Cnd (e.1=(4:Int)) (e.5.length<=(9223372036854775807:Nat)->Cnd ((0:Int)<(↑e.5.length:Int)) (((0:Int)<=(0:Int)/\(0:Int)<(↑e.5.length:Int))/\ ∀y1,e.5[Int.toNat (0:Int)]? =some y1->X (Subj.mk s.1) in_ (Ex.mk y1.1 y1.2 y1.3 y1.4 y1.5) fun Qm=>K (match decide ((Qm,()).fst=true) with|true=>false|false=>true)) (K false)) (Cnd (e.1=(5:Int)) (Wl in_ e.3 fun Qb=>K Qb) (y7v (Subj.mk s.1) (Ex.mk e.1 e.2 e.3 e.4 e.5) fun Qb=>K Qb)))))
def y5f:z8b:=fun s in_ e K=> ∀X:z8b,(∀s in_ e K,w8x q2c j5e X s in_ e K->X s in_ e K)->X s in_ e K
abbrev q2k:Type:=List (Int)->List (Int)->ByteArray->(Bool->Prop)->Prop
def q2l (q1t:q1b) (q1u:q1c) (J2:Rf) (Wk:Gt) (q62:z19) (Bx:q7u):q2k:=fun codes who salt K=>q1t fun Qb=>Cnd (Qb=true) (Cnd ((100:Int)<(↑salt.size:Int)) (K true) (q1u codes who fun Qd Z1 _=>Sml ([]++Qd.5).length/\Lp2 (fun Qh Zk q7n=>Zk.length<=(9223372036854775807:Nat)->Cnd (Qh<(↑Zk.length:Int)) (((0:Int)<=Qh/\Qh<(↑Zk.length:Int))/\ ∀y4,Zk[Qh.toNat]? =some y4->InI (Qh+(1:Int))/\q7n (Qh+(1:Int)) (Zk.set Qh.toNat (Lay_.mk y4.1 y4.2 salt y4.4 y4.5 y4.6))) (J2 (Envt.mk (Sett.mk Qd.1.1 Qd.1.2 Qd.1.3) Qd.2 Qd.3 Qd.4 Zk Qd.6) fun Qk=>Cnd (Qk=true) (Wk (Envt.mk (Sett.mk Qd.1.1 Qd.1.2 Qd.1.3) Qd.2 Qd.3 Qd.4 Zk Qd.6) (Subj.mk Z1.1) [] fun Qw=>Lp1 (fun Zx y7w=>Qw.length<=(9223372036854775807:Nat)->Cnd (Zx<(↑Qw.length:Int)) (((0:Int)<=Zx/\Zx<(↑Zk.length:Int))/\ ∀y8,Zk[Zx.toNat]? =some y8->q62 (Subj.mk Z1.1) y8.2 fun Rs q0p=>Cnd (q0p=true) (Cnd (q0p=true) (((0:Int)<=Zx/\Zx<(↑Qw.length:Int))/\ ∀y11,Qw[Zx.toNat]? =some y11->Bx salt Rs.2 fun Zl=>Cnd (y11.3=Zl) (InI (Zx+(1:Int))/\y7w (Zx+(1:Int))) (K false)) (InI (Zx+(1:Int))/\y7w (Zx+(1:Int)))) (((0:Int)<=Zx/\Zx<(↑Qw.length:Int))/\ ∀y11,Qw[Zx.toNat]? =some y11->Cnd (y11.3=(-1:Int)) (Cnd (q0p=true) (((0:Int)<=Zx/\Zx<(↑Qw.length:Int))/\ ∀y13,Qw[Zx.toNat]? =some y13->Bx salt Rs.2 fun j95=>Cnd (y13.3=j95) (InI (Zx+(1:Int))/\y7w (Zx+(1:Int))) (K false)) (InI (Zx+(1:Int))/\y7w (Zx+(1:Int)))) (K false))) (Qw.length<=(9223372036854775807:Nat)->Zk.length<=(9223372036854775807:Nat)->K (decide ((↑Qw.length:Int)=(↑Zk.length:Int))))) (0:Int)) (K true))) (0:Int) ([]++Qd.5))) (K false)
def Wd:q2k:=q2l q4g q4h q0g q0m z2a q7v
end Go.En
end
noncomputable section
set_option maxRecDepth 100000
namespace Go.Proofs
open Go.Shelf
def Tryz.laysC172_ren:Go.Shelf.Ren:=⟨fun|172=>270|244=>287|245=>288|247=>296|279=>297|280=>298|281=>299|282=>300|287=>303|316=>304|171=>306|205=>305|321=>307|322=>308|243=>309|246=>310|283=>311|284=>312|285=>313|286=>314|129=>203|317=>315|318=>316|319=>317|320=>318|337=>319|338=>320|n=>n,fun|9=>9|3=>3|75=>326|76=>327|4=>4|5=>5|167=>354|37=>22|0=>0|85=>355|2=>2|168=>357|53=>112|175=>360|46=>221|210=>364|127=>368|145=>371|143=>369|21=>21|171=>373|173=>375|212=>378|51=>282|20=>20|213=>379|232=>380|233=>381|80=>124|n=>n,fun|15=>6|16=>7|17=>8|18=>9|19=>10|n=>n⟩
theorem Tryz.laysC172:Go.Proofs.LaysC.n172 Tryz.prog Tryz.laysC172_ren:={
 mixed:=by kernel_rfl
 f129:=Tryz.func203.trans (congrArg some (by kernel_rfl))
 f171:=Tryz.func306.trans (congrArg some (by kernel_rfl))
 f172:=Tryz.func270.trans (congrArg some (by kernel_rfl))
 f205:=Tryz.func305.trans (congrArg some (by kernel_rfl))
 f243:=Tryz.func309.trans (congrArg some (by kernel_rfl))
 f244:=Tryz.func287.trans (congrArg some (by kernel_rfl))
 f245:=Tryz.func288.trans (congrArg some (by kernel_rfl))
 f246:=Tryz.func310.trans (congrArg some (by kernel_rfl))
 f247:=Tryz.func296.trans (congrArg some (by kernel_rfl))
 f279:=Tryz.func297.trans (congrArg some (by kernel_rfl))
 f280:=Tryz.func298.trans (congrArg some (by kernel_rfl))
 f281:=Tryz.func299.trans (congrArg some (by kernel_rfl))
 f282:=Tryz.func300.trans (congrArg some (by kernel_rfl))
 f283:=Tryz.func311.trans (congrArg some (by kernel_rfl))
 f284:=Tryz.func312.trans (congrArg some (by kernel_rfl))
 f285:=Tryz.func313.trans (congrArg some (by kernel_rfl))
 f286:=Tryz.func314.trans (congrArg some (by kernel_rfl))
 f287:=Tryz.func303.trans (congrArg some (by kernel_rfl))
 f316:=Tryz.func304.trans (congrArg some (by kernel_rfl))
 f317:=Tryz.func315.trans (congrArg some (by kernel_rfl))
 f318:=Tryz.func316.trans (congrArg some (by kernel_rfl))
 f319:=Tryz.func317.trans (congrArg some (by kernel_rfl))
 f320:=Tryz.func318.trans (congrArg some (by kernel_rfl))
 f321:=Tryz.func307.trans (congrArg some (by kernel_rfl))
 f322:=Tryz.func308.trans (congrArg some (by kernel_rfl))
 f337:=Tryz.func319.trans (congrArg some (by kernel_rfl))
 f338:=Tryz.func320.trans (congrArg some (by kernel_rfl))
 t0:=Tryz.underlying0
 a0:=Tryz.isAgg0
 z0:=Tryz.sizeOf0
 v0:=Tryz.zeroValue0
 t2:=Tryz.underlying2
 a2:=Tryz.isAgg2
 z2:=Tryz.sizeOf2
 v2:=Tryz.zeroValue2
 t3:=Tryz.underlying3
 a3:=Tryz.isAgg3
 z3:=Tryz.sizeOf3
 v3:=Tryz.zeroValue3
 t4:=Tryz.underlying4
 a4:=Tryz.isAgg4
 z4:=Tryz.sizeOf4
 v4:=Tryz.zeroValue4
 t5:=Tryz.underlying5
 a5:=Tryz.isAgg5
 z5:=Tryz.sizeOf5
 v5:=Tryz.zeroValue5
 t9:=Tryz.underlying9
 a9:=Tryz.isAgg9
 z9:=Tryz.sizeOf9
 v9:=Tryz.zeroValue9
 t20:=Tryz.underlying20
 a20:=Tryz.isAgg20
 z20:=Tryz.sizeOf20
 v20:=Tryz.zeroValue20
 t21:=Tryz.underlying21
 a21:=Tryz.isAgg21
 z21:=Tryz.sizeOf21
 v21:=Tryz.zeroValue21
 t37:=Tryz.underlying22
 a37:=Tryz.isAgg22
 z37:=Tryz.sizeOf22
 v37:=Tryz.zeroValue22
 t46:=Tryz.underlying221
 a46:=Tryz.isAgg221
 z46:=Tryz.sizeOf221
 v46:=Tryz.zeroValue221
 t51:=Tryz.underlying282
 a51:=Tryz.isAgg282
 z51:=Tryz.sizeOf282
 v51:=Tryz.zeroValue282
 t53:=Tryz.underlying112
 a53:=Tryz.isAgg112
 z53:=Tryz.sizeOf112
 v53:=Tryz.zeroValue112
 t75:=Tryz.underlying326
 a75:=Tryz.isAgg326
 z75:=Tryz.sizeOf326
 v75:=Tryz.zeroValue326
 t76:=Tryz.underlying327
 a76:=Tryz.isAgg327
 z76:=Tryz.sizeOf327
 v76:=Tryz.zeroValue327
 t85:=Tryz.underlying355
 a85:=Tryz.isAgg355
 z85:=Tryz.sizeOf355
 v85:=Tryz.zeroValue355
 t127:=Tryz.underlying368
 a127:=Tryz.isAgg368
 z127:=Tryz.sizeOf368
 v127:=Tryz.zeroValue368
 t143:=Tryz.underlying369
 a143:=Tryz.isAgg369
 z143:=Tryz.sizeOf369
 v143:=Tryz.zeroValue369
 t145:=Tryz.underlying371
 a145:=Tryz.isAgg371
 z145:=Tryz.sizeOf371
 v145:=Tryz.zeroValue371
 t167:=Tryz.underlying354
 a167:=Tryz.isAgg354
 z167:=Tryz.sizeOf354
 v167:=Tryz.zeroValue354
 t168:=Tryz.underlying357
 a168:=Tryz.isAgg357
 z168:=Tryz.sizeOf357
 v168:=Tryz.zeroValue357
 t171:=Tryz.underlying373
 a171:=Tryz.isAgg373
 z171:=Tryz.sizeOf373
 v171:=Tryz.zeroValue373
 t173:=Tryz.underlying375
 a173:=Tryz.isAgg375
 z173:=Tryz.sizeOf375
 v173:=Tryz.zeroValue375
 t175:=Tryz.underlying360
 a175:=Tryz.isAgg360
 z175:=Tryz.sizeOf360
 v175:=Tryz.zeroValue360
 t210:=Tryz.underlying364
 a210:=Tryz.isAgg364
 z210:=Tryz.sizeOf364
 v210:=Tryz.zeroValue364
 t212:=Tryz.underlying378
 a212:=Tryz.isAgg378
 z212:=Tryz.sizeOf378
 v212:=Tryz.zeroValue378
 t213:=Tryz.underlying379
 a213:=Tryz.isAgg379
 z213:=Tryz.sizeOf379
 t232:=Tryz.underlying380
 a232:=Tryz.isAgg380
 z232:=Tryz.sizeOf380
 v232:=Tryz.zeroValue380
 t233:=Tryz.underlying381
 a233:=Tryz.isAgg381
 z233:=Tryz.sizeOf381
 v233:=Tryz.zeroValue381
 g15:=by kernel_rfl
 g16:=by kernel_rfl
 g17:=by kernel_rfl
 g18:=by kernel_rfl
 g19:=by kernel_rfl
 t80:=Tryz.underlying124
 a80:=Tryz.isAgg124
 z80:=Tryz.sizeOf124
 v80:=Tryz.zeroValue124
 i0:=by kernel_rfl
 i2:=by kernel_rfl
 i3:=by kernel_rfl
 i4:=by kernel_rfl
 i5:=by kernel_rfl
 i9:=by kernel_rfl
 i20:=by kernel_rfl
 i21:=by kernel_rfl
 i37:=by kernel_rfl
 i46:=by kernel_rfl
 i51:=by kernel_rfl
 i53:=by kernel_rfl
 i75:=by kernel_rfl
 i76:=by kernel_rfl
 i80:=by kernel_rfl
 i85:=by kernel_rfl
 i127:=by kernel_rfl
 i143:=by kernel_rfl
 i145:=by kernel_rfl
 i167:=by kernel_rfl
 i168:=by kernel_rfl
 i171:=by kernel_rfl
 i173:=by kernel_rfl
 i175:=by kernel_rfl
 i210:=by kernel_rfl
 i212:=by kernel_rfl
 i232:=by kernel_rfl
 i233:=by kernel_rfl
 m15:=by kernel_rfl
 m16:=by kernel_rfl
 m17:=by kernel_rfl
 m18:=by kernel_rfl
 m19:=by kernel_rfl
 c0:=by kernel_rfl
 c2:=by kernel_rfl
 c3:=by kernel_rfl
 c4:=by kernel_rfl
 c5:=by kernel_rfl
 c9:=by kernel_rfl
 c20:=by kernel_rfl
 c21:=by kernel_rfl
 c37:=by kernel_rfl
 c46:=by kernel_rfl
 c51:=by kernel_rfl
 c53:=by kernel_rfl
 c75:=by kernel_rfl
 c76:=by kernel_rfl
 c80:=by kernel_rfl
 c85:=by kernel_rfl
 c127:=by kernel_rfl
 c143:=by kernel_rfl
 c145:=by kernel_rfl
 c167:=by kernel_rfl
 c168:=by kernel_rfl
 c171:=by kernel_rfl
 c173:=by kernel_rfl
 c175:=by kernel_rfl
 c210:=by kernel_rfl
 c212:=by kernel_rfl
 c213:=by kernel_rfl
 c232:=by kernel_rfl
 c233:=by kernel_rfl}
open Go.RowKit in
theorem Tryz.strconv_Atoi_ok (s:ByteArray) (hmax:s.size<=9223372036854775806) (v:Int) (h:Lib.atoiAll s.data.toList= .ok v) (w:World):
  Calls Tryz.prog 270 #[.string s] w fun e w'=>e= .returned (.tuple #[.int .i64 v,.nilIface])/\(w'=w∨ ∃t,w'=Lib.bytesWorld w 5 t):=Any.strconv_Atoi_ok Tryz.laysC172 s hmax v h w
open Go.RowKit in
theorem Tryz.strconv_Atoi_syntax (s:ByteArray) (hlim:s.size<=281474976710656) (h:Lib.atoiAll s.data.toList=Go.Lib.NumEnd.syntax) (ev:Value) (w:World) (hv:w.cell? ⟨6,0,none⟩=some ev) (hev:ev= .nilIface∨ ∃te pe,ev= .iface te pe):
  Calls Tryz.prog 270 #[.string s] w fun e w'=> ∃N,e= .returned (.tuple #[.int .i64 (0),.iface 357 (.pointer (some ⟨N,0,none⟩))])/\w.heap.size<=N/\w'.heap[N]? =some (.cells #[.string ⟨#[65,116,111,105]⟩,.string s,ev] 364 (0,0))/\Below w.heap.size w w':=Any.strconv_Atoi_syntax Tryz.laysC172 s hlim h ev w hv hev
open Go.RowKit in
theorem Tryz.strconv_Atoi_range (s:ByteArray) (hlim:s.size<=281474976710656) (h:Lib.atoiAll s.data.toList= .range) (ev:Value) (w:World) (hv:w.cell? ⟨7,0,none⟩=some ev) (hev:ev= .nilIface∨ ∃te pe,ev= .iface te pe):
  Calls Tryz.prog 270 #[.string s] w fun e w'=> ∃N,e= .returned (.tuple #[.int .i64 (Lib.atoiSat s.data.toList),.iface 357 (.pointer (some ⟨N,0,none⟩))])/\w.heap.size<=N/\w'.heap[N]? =some (.cells #[.string ⟨#[65,116,111,105]⟩,.string s,ev] 364 (0,0))/\Below w.heap.size w w':=Any.strconv_Atoi_range Tryz.laysC172 s hlim h ev w hv hev
def Tryz.lays144_ren:Go.Shelf.Ren:=⟨fun|144=>136|143=>177|219=>226|217=>264|225=>265|224=>266|267=>267|266=>282|314=>283|n=>n,fun|9=>9|4=>4|3=>3|5=>5|46=>221|146=>345|51=>282|n=>n,fun|1=>3|n=>n⟩
theorem Tryz.lays144:Go.Proofs.Lays.n144 Tryz.prog Tryz.lays144_ren:={
 mixed:=by kernel_rfl
 f143:=Tryz.func177.trans (congrArg some (by kernel_rfl))
 f144:=Tryz.func136.trans (congrArg some (by kernel_rfl))
 f217:=Tryz.func264.trans (congrArg some (by kernel_rfl))
 f219:=Tryz.func226.trans (congrArg some (by kernel_rfl))
 f224:=Tryz.func266.trans (congrArg some (by kernel_rfl))
 f225:=Tryz.func265.trans (congrArg some (by kernel_rfl))
 f266:=Tryz.func282.trans (congrArg some (by kernel_rfl))
 f267:=Tryz.func267.trans (congrArg some (by kernel_rfl))
 f314:=Tryz.func283.trans (congrArg some (by kernel_rfl))
 t3:=Tryz.underlying3
 a3:=Tryz.isAgg3
 z3:=Tryz.sizeOf3
 v3:=Tryz.zeroValue3
 t4:=Tryz.underlying4
 a4:=Tryz.isAgg4
 z4:=Tryz.sizeOf4
 v4:=Tryz.zeroValue4
 t5:=Tryz.underlying5
 a5:=Tryz.isAgg5
 z5:=Tryz.sizeOf5
 v5:=Tryz.zeroValue5
 t9:=Tryz.underlying9
 a9:=Tryz.isAgg9
 z9:=Tryz.sizeOf9
 v9:=Tryz.zeroValue9
 t46:=Tryz.underlying221
 a46:=Tryz.isAgg221
 z46:=Tryz.sizeOf221
 v46:=Tryz.zeroValue221
 t51:=Tryz.underlying282
 a51:=Tryz.isAgg282
 z51:=Tryz.sizeOf282
 v51:=Tryz.zeroValue282
 t146:=Tryz.underlying345
 a146:=Tryz.isAgg345
 z146:=Tryz.sizeOf345
 v146:=Tryz.zeroValue345
 g1:=by kernel_rfl}
open Go.RowKit Go.Lib in
theorem Tryz.strings_Contains (s sub:ByteArray) (m:Int) (w:World) (hs:s.size<4294967281) (hm:w.cell? ⟨3,0,none⟩=some (.int .i64 m)):
  Calls Tryz.prog 136 #[.string s,.string sub] w fun e w'=>e= .returned (.bool (Lib.contains s.data.toList sub.data.toList))/\w'=w:=Any.strings_Contains Tryz.lays144 s sub m w hs hm
def Tryz.lays190_ren:Go.Shelf.Ren:=⟨fun|190=>80|125=>141|258=>140|128=>202|129=>203|302=>193|303=>194|304=>195|305=>196|306=>197|307=>198|308=>199|309=>200|310=>201|333=>238|329=>239|330=>240|334=>241|335=>242|336=>230|344=>275|n=>n,fun|31=>44|9=>9|3=>3|46=>221|0=>0|51=>282|53=>112|4=>4|183=>275|182=>274|131=>279|5=>5|218=>302|222=>306|228=>331|229=>332|n=>n,fun|n=>n⟩
theorem Tryz.lays190:Go.Proofs.Lays.n190 Tryz.prog Tryz.lays190_ren:={
 mixed:=by kernel_rfl
 f125:=Tryz.func141.trans (congrArg some (by kernel_rfl))
 f128:=Tryz.func202.trans (congrArg some (by kernel_rfl))
 f129:=Tryz.func203.trans (congrArg some (by kernel_rfl))
 f190:=Tryz.func80.trans (congrArg some (by kernel_rfl))
 f258:=Tryz.func140.trans (congrArg some (by kernel_rfl))
 f302:=Tryz.func193.trans (congrArg some (by kernel_rfl))
 f303:=Tryz.func194.trans (congrArg some (by kernel_rfl))
 f304:=Tryz.func195.trans (congrArg some (by kernel_rfl))
 f305:=Tryz.func196.trans (congrArg some (by kernel_rfl))
 f306:=Tryz.func197.trans (congrArg some (by kernel_rfl))
 f307:=Tryz.func198.trans (congrArg some (by kernel_rfl))
 f308:=Tryz.func199.trans (congrArg some (by kernel_rfl))
 f309:=Tryz.func200.trans (congrArg some (by kernel_rfl))
 f310:=Tryz.func201.trans (congrArg some (by kernel_rfl))
 f329:=Tryz.func239.trans (congrArg some (by kernel_rfl))
 f330:=Tryz.func240.trans (congrArg some (by kernel_rfl))
 f333:=Tryz.func238.trans (congrArg some (by kernel_rfl))
 f334:=Tryz.func241.trans (congrArg some (by kernel_rfl))
 f335:=Tryz.func242.trans (congrArg some (by kernel_rfl))
 f336:=Tryz.func230.trans (congrArg some (by kernel_rfl))
 f344:=Tryz.func275.trans (congrArg some (by kernel_rfl))
 t0:=Tryz.underlying0
 a0:=Tryz.isAgg0
 z0:=Tryz.sizeOf0
 v0:=Tryz.zeroValue0
 t3:=Tryz.underlying3
 a3:=Tryz.isAgg3
 z3:=Tryz.sizeOf3
 v3:=Tryz.zeroValue3
 t4:=Tryz.underlying4
 a4:=Tryz.isAgg4
 z4:=Tryz.sizeOf4
 v4:=Tryz.zeroValue4
 t5:=Tryz.underlying5
 a5:=Tryz.isAgg5
 z5:=Tryz.sizeOf5
 v5:=Tryz.zeroValue5
 t9:=Tryz.underlying9
 a9:=Tryz.isAgg9
 z9:=Tryz.sizeOf9
 v9:=Tryz.zeroValue9
 t31:=Tryz.underlying44
 a31:=Tryz.isAgg44
 z31:=Tryz.sizeOf44
 v31:=Tryz.zeroValue44
 t46:=Tryz.underlying221
 a46:=Tryz.isAgg221
 z46:=Tryz.sizeOf221
 v46:=Tryz.zeroValue221
 t51:=Tryz.underlying282
 a51:=Tryz.isAgg282
 z51:=Tryz.sizeOf282
 v51:=Tryz.zeroValue282
 t53:=Tryz.underlying112
 a53:=Tryz.isAgg112
 z53:=Tryz.sizeOf112
 v53:=Tryz.zeroValue112
 t131:=Tryz.underlying279
 a131:=Tryz.isAgg279
 z131:=Tryz.sizeOf279
 v131:=Tryz.zeroValue279
 t182:=Tryz.underlying274
 a182:=Tryz.isAgg274
 z182:=Tryz.sizeOf274
 v182:=Tryz.zeroValue274
 t183:=Tryz.underlying275
 a183:=Tryz.isAgg275
 z183:=Tryz.sizeOf275
 v183:=Tryz.zeroValue275
 t218:=Tryz.underlying302
 a218:=Tryz.isAgg302
 z218:=Tryz.sizeOf302
 v218:=Tryz.zeroValue302
 t222:=Tryz.underlying306
 a222:=Tryz.isAgg306
 z222:=Tryz.sizeOf306
 v222:=Tryz.zeroValue306
 t228:=Tryz.underlying331
 a228:=Tryz.isAgg331
 z228:=Tryz.sizeOf331
 v228:=Tryz.zeroValue331
 t229:=Tryz.underlying332
 a229:=Tryz.isAgg332
 z229:=Tryz.sizeOf332
 v229:=Tryz.zeroValue332}
open Go.Sort Go.RowKit in
theorem Tryz.slices_Sort_string (blk off cap:Nat) (ss:List (List UInt8)) (w:World) (hH:Holds encStr w blk off ss.toArray) (hblk:blk<w.heap.size) (hsz:ss.length<4611686018427387904):
  Calls Tryz.prog 80 #[.slice (some ⟨blk,off,none⟩) ss.length cap] w fun e w'=>
   e= .returned (.tuple #[])/\ ∃n os,w'=grow (putRow encStr (Sort.ahead w n) blk off (ss.mergeSort fun x y=>decide (x<=y)).toArray) os:=Any.slices_Sort_string Tryz.lays190 blk off cap ss w hH hblk hsz
def Tryz.lays146_ren:Go.Shelf.Ren:=⟨fun|146=>231|221=>268|268=>284|138=>285|143=>177|195=>293|197=>294|218=>295|219=>226|260=>302|217=>264|225=>265|224=>266|267=>267|266=>282|314=>283|n=>n,fun|9=>9|31=>44|3=>3|4=>4|0=>0|105=>352|21=>21|5=>5|46=>221|119=>335|139=>338|138=>337|146=>345|51=>282|n=>n,fun|1=>3|3=>4|4=>5|n=>n⟩
theorem Tryz.lays146:Go.Proofs.Lays.n146 Tryz.prog Tryz.lays146_ren:={
 mixed:=by kernel_rfl
 f138:=Tryz.func285.trans (congrArg some (by kernel_rfl))
 f143:=Tryz.func177.trans (congrArg some (by kernel_rfl))
 f146:=Tryz.func231.trans (congrArg some (by kernel_rfl))
 f195:=Tryz.func293.trans (congrArg some (by kernel_rfl))
 f197:=Tryz.func294.trans (congrArg some (by kernel_rfl))
 f217:=Tryz.func264.trans (congrArg some (by kernel_rfl))
 f218:=Tryz.func295.trans (congrArg some (by kernel_rfl))
 f219:=Tryz.func226.trans (congrArg some (by kernel_rfl))
 f221:=Tryz.func268.trans (congrArg some (by kernel_rfl))
 f224:=Tryz.func266.trans (congrArg some (by kernel_rfl))
 f225:=Tryz.func265.trans (congrArg some (by kernel_rfl))
 f260:=Tryz.func302.trans (congrArg some (by kernel_rfl))
 f266:=Tryz.func282.trans (congrArg some (by kernel_rfl))
 f267:=Tryz.func267.trans (congrArg some (by kernel_rfl))
 f268:=Tryz.func284.trans (congrArg some (by kernel_rfl))
 f314:=Tryz.func283.trans (congrArg some (by kernel_rfl))
 t0:=Tryz.underlying0
 a0:=Tryz.isAgg0
 z0:=Tryz.sizeOf0
 v0:=Tryz.zeroValue0
 t3:=Tryz.underlying3
 a3:=Tryz.isAgg3
 z3:=Tryz.sizeOf3
 v3:=Tryz.zeroValue3
 t4:=Tryz.underlying4
 a4:=Tryz.isAgg4
 z4:=Tryz.sizeOf4
 v4:=Tryz.zeroValue4
 t5:=Tryz.underlying5
 a5:=Tryz.isAgg5
 z5:=Tryz.sizeOf5
 v5:=Tryz.zeroValue5
 t9:=Tryz.underlying9
 a9:=Tryz.isAgg9
 z9:=Tryz.sizeOf9
 v9:=Tryz.zeroValue9
 t21:=Tryz.underlying21
 a21:=Tryz.isAgg21
 z21:=Tryz.sizeOf21
 v21:=Tryz.zeroValue21
 t31:=Tryz.underlying44
 a31:=Tryz.isAgg44
 z31:=Tryz.sizeOf44
 v31:=Tryz.zeroValue44
 t46:=Tryz.underlying221
 a46:=Tryz.isAgg221
 z46:=Tryz.sizeOf221
 v46:=Tryz.zeroValue221
 t51:=Tryz.underlying282
 a51:=Tryz.isAgg282
 z51:=Tryz.sizeOf282
 v51:=Tryz.zeroValue282
 t105:=Tryz.underlying352
 a105:=Tryz.isAgg352
 z105:=Tryz.sizeOf352
 v105:=Tryz.zeroValue352
 t119:=Tryz.underlying335
 a119:=Tryz.isAgg335
 z119:=Tryz.sizeOf335
 t138:=Tryz.underlying337
 a138:=Tryz.isAgg337
 z138:=Tryz.sizeOf337
 v138:=Tryz.zeroValue337
 t139:=Tryz.underlying338
 a139:=Tryz.isAgg338
 z139:=Tryz.sizeOf338
 v139:=Tryz.zeroValue338
 t146:=Tryz.underlying345
 a146:=Tryz.isAgg345
 z146:=Tryz.sizeOf345
 v146:=Tryz.zeroValue345
 g1:=by kernel_rfl
 g3:=by kernel_rfl
 g4:=by kernel_rfl}
open Go.RowKit Go.Lib in
theorem Tryz.strings_Split (s sep:ByteArray) (m:Int) (w:World) (hs:s.size<4294967281) (hm:w.cell? ⟨3,0,none⟩=some (.int .i64 m)) (h1:1<=sep.size):
  Calls Tryz.prog 231 #[.string s,.string sep] w fun e w'=>
   e= .returned (.slice (some ⟨w.heap.size,0,none⟩) (Lib.countB s sep+1) (Lib.countB s sep+1))/\w'=w.alloc (.cells ((Lib.splitB sep 0 (Lib.countB s sep) s).map Value.string).toArray 9):=Any.strings_Split Tryz.lays146 (by kernel_rfl) s sep m w hs hm h1
def Tryz.lays194_ren:Go.Shelf.Ren:=⟨fun|194=>184|n=>n,fun|31=>44|9=>9|3=>3|4=>4|0=>0|n=>n,fun|n=>n⟩
theorem Tryz.lays194:Go.Proofs.Lays.n194 Tryz.prog Tryz.lays194_ren:={
 mixed:=by kernel_rfl
 f194:=Tryz.func184.trans (congrArg some (by kernel_rfl))
 t0:=Tryz.underlying0
 a0:=Tryz.isAgg0
 z0:=Tryz.sizeOf0
 v0:=Tryz.zeroValue0
 t3:=Tryz.underlying3
 a3:=Tryz.isAgg3
 z3:=Tryz.sizeOf3
 v3:=Tryz.zeroValue3
 t4:=Tryz.underlying4
 a4:=Tryz.isAgg4
 z4:=Tryz.sizeOf4
 v4:=Tryz.zeroValue4
 t9:=Tryz.underlying9
 a9:=Tryz.isAgg9
 z9:=Tryz.sizeOf9
 v9:=Tryz.zeroValue9
 t31:=Tryz.underlying44
 a31:=Tryz.isAgg44
 z31:=Tryz.sizeOf44
 v31:=Tryz.zeroValue44}
open Go.RowKit Go.Lib Go.Sort in
theorem Tryz.slices_Compact_string (blk off cap:Nat) (zs:List (List UInt8)) (w:World) (hH:Holds encStr w blk off zs.toArray) (hsz:zs.length<=9223372036854775807) (hcap:zs.length<=cap):
  Calls Tryz.prog 184 #[.slice (some ⟨blk,off,none⟩) zs.length cap] w fun e w'=>e= .returned (.slice (some ⟨blk,off,none⟩) (Lib.compact zs).length cap)/\ ∃q,w'=putRow encStr (Sort.ahead w q) blk off (Lib.compact zs++List.replicate (zs.length - (Lib.compact zs).length) []).toArray:=Any.slices_Compact_string Tryz.lays194 blk off cap zs w hH hsz hcap
open Go.RowKit Go.Lib Go.Sort in
theorem Tryz.slices_Compact_string_empty (a:Option Addr) (cap:Nat) (w:World):
  Calls Tryz.prog 184 #[.slice a 0 cap] w fun e w'=>e= .returned (.slice a 0 cap)/\w'=w:=Any.slices_Compact_string_empty Tryz.lays194 a cap w
def Tryz.laysNm224_ren:Go.Shelf.Ren:=⟨fun|24=>192|n=>n,fun|24=>44|9=>9|3=>3|4=>4|0=>0|n=>n,fun|n=>n⟩
theorem Tryz.laysNm224:Go.Proofs.Lays2.n24 Tryz.prog Tryz.laysNm224_ren:={
 mixed:=by kernel_rfl
 f24:=Tryz.func192.trans (congrArg some (by kernel_rfl))
 t0:=Tryz.underlying0
 a0:=Tryz.isAgg0
 z0:=Tryz.sizeOf0
 v0:=Tryz.zeroValue0
 t3:=Tryz.underlying3
 a3:=Tryz.isAgg3
 z3:=Tryz.sizeOf3
 v3:=Tryz.zeroValue3
 t4:=Tryz.underlying4
 a4:=Tryz.isAgg4
 z4:=Tryz.sizeOf4
 v4:=Tryz.zeroValue4
 t9:=Tryz.underlying9
 a9:=Tryz.isAgg9
 z9:=Tryz.sizeOf9
 v9:=Tryz.zeroValue9
 t24:=Tryz.underlying44
 a24:=Tryz.isAgg44
 z24:=Tryz.sizeOf44
 v24:=Tryz.zeroValue44
 i9:=by kernel_rfl}
open Go.RowKit Go.Lib Go.Sort in
theorem Tryz.slices_Delete_string (blk off cap i j:Nat) (zs:List (List UInt8)) (w:World) (hH:Holds encStr w blk off zs.toArray) (hcap:zs.length<=cap) (hm:cap<=9223372036854775807) (hij:i<=j) (hj:j<=zs.length):
  Calls Tryz.prog 192 #[.slice (some ⟨blk,off,none⟩) zs.length cap,.int .i64 i,.int .i64 j] w fun e w'=>e= .returned (.slice (some ⟨blk,off,none⟩) (zs.length - (j - i)) cap)/\ ∃q,w'=putRow encStr (Sort.ahead w q) blk off (zs.take i++zs.drop j++List.replicate (j - i) []).toArray:=Any.slices_Delete_string Tryz.laysNm224 blk off cap i j zs w hH hcap hm hij hj
open Go.RowKit Go.Sort in
theorem Tryz.slices_Sort_string_none (p:Option Addr) (cap:Nat) (w:World):
  Calls Tryz.prog 80 #[.slice p 0 cap] w fun e w'=>e= .returned (.tuple #[])/\w'=w:=Any.slices_Sort_string_none Tryz.lays190 p cap w
def Tryz.lays196_ren:Go.Shelf.Ren:=⟨fun|196=>246|259=>276|n=>n,fun|9=>9|4=>4|3=>3|5=>5|12=>12|119=>335|0=>0|46=>221|139=>338|138=>337|53=>112|n=>n,fun|3=>4|4=>5|n=>n⟩
theorem Tryz.lays196:Go.Proofs.Lays.n196 Tryz.prog Tryz.lays196_ren:={
 mixed:=by kernel_rfl
 f196:=Tryz.func246.trans (congrArg some (by kernel_rfl))
 f259:=Tryz.func276.trans (congrArg some (by kernel_rfl))
 t0:=Tryz.underlying0
 a0:=Tryz.isAgg0
 z0:=Tryz.sizeOf0
 v0:=Tryz.zeroValue0
 t3:=Tryz.underlying3
 a3:=Tryz.isAgg3
 z3:=Tryz.sizeOf3
 v3:=Tryz.zeroValue3
 t4:=Tryz.underlying4
 a4:=Tryz.isAgg4
 z4:=Tryz.sizeOf4
 v4:=Tryz.zeroValue4
 t5:=Tryz.underlying5
 a5:=Tryz.isAgg5
 z5:=Tryz.sizeOf5
 v5:=Tryz.zeroValue5
 t9:=Tryz.underlying9
 a9:=Tryz.isAgg9
 z9:=Tryz.sizeOf9
 v9:=Tryz.zeroValue9
 t12:=Tryz.underlying12
 a12:=Tryz.isAgg12
 z12:=Tryz.sizeOf12
 v12:=Tryz.zeroValue12
 t46:=Tryz.underlying221
 a46:=Tryz.isAgg221
 z46:=Tryz.sizeOf221
 v46:=Tryz.zeroValue221
 t53:=Tryz.underlying112
 a53:=Tryz.isAgg112
 z53:=Tryz.sizeOf112
 v53:=Tryz.zeroValue112
 t119:=Tryz.underlying335
 a119:=Tryz.isAgg335
 z119:=Tryz.sizeOf335
 t138:=Tryz.underlying337
 a138:=Tryz.isAgg337
 z138:=Tryz.sizeOf337
 v138:=Tryz.zeroValue337
 t139:=Tryz.underlying338
 a139:=Tryz.isAgg338
 z139:=Tryz.sizeOf338
 v139:=Tryz.zeroValue338
 g3:=by kernel_rfl
 g4:=by kernel_rfl}
def Tryz.sorted185_ren:Go.Shelf.Ren:=⟨fun|6=>185|8=>236|9=>80|11=>274|13=>141|12=>140|23=>202|24=>203|14=>193|15=>194|16=>195|17=>196|18=>197|19=>198|20=>199|21=>200|22=>201|25=>238|26=>239|27=>240|28=>241|29=>242|30=>230|31=>275|n=>n,fun|26=>9|28=>265|24=>44|0=>0|3=>3|37=>221|48=>282|50=>112|4=>4|40=>275|39=>274|45=>279|5=>5|9=>9|51=>302|55=>306|57=>331|58=>332|33=>271|n=>n,fun|n=>n⟩
theorem Tryz.sorted185:Go.Proofs.SlLaysZ.n6 Tryz.prog Tryz.sorted185_ren:={
 mixed:=by kernel_rfl
 f6:=⟨Tryz.f185.name,by decide,Tryz.func185.trans (congrArg some (by kernel_rfl))⟩
 f8:=⟨Tryz.f236.name,by decide,Tryz.func236.trans (congrArg some (by kernel_rfl))⟩
 f11:=⟨Tryz.f274.name,by decide,Tryz.func274.trans (congrArg some (by kernel_rfl))⟩
 t0:=Tryz.underlying0
 a0:=Tryz.isAgg0
 z0:=Tryz.sizeOf0
 v0:=Tryz.zeroValue0
 t24:=Tryz.underlying44
 a24:=Tryz.isAgg44
 z24:=Tryz.sizeOf44
 v24:=Tryz.zeroValue44
 t26:=Tryz.underlying9
 a26:=Tryz.isAgg9
 z26:=Tryz.sizeOf9
 v26:=Tryz.zeroValue9
 t28:=Tryz.underlying265
 a28:=Tryz.isAgg265
 z28:=Tryz.sizeOf265
 v28:=Tryz.zeroValue265
 i26:=by kernel_rfl}
end Go.Proofs
end
noncomputable section
set_option maxRecDepth 100000
namespace Go.Fl
open Go Go.Proofs Go.RowKit Go.Maps Go.Sort Go.Shelf
variable {P:Program} {ρ:Ren}
def u0n (F:Fence) (n:Nat) (P:Program) (g:Nat) (lb:Array Value) (ss:List (List UInt8)) (w:World):Prop:=
 ∀(l:Nat) (J:List (List UInt8)->World->Prop) (W:World),Below w.heap.size w W->AbidesFrom W.heap.size J->(∀pre W1,J pre W1->Below w.heap.size w W1)->
  (∀pre x W1,J pre W1->pre.length<ss.length->YieldAt F (n - 1) P l #[encStr x] W1 fun e W'=>e= .returned (.bool true)/\J (pre++[x]) W'/\KeepsWalks W1 W')->
  J [] W->CallsIn F n P g (#[.func (.yield l) #[] #[]]++lb) W fun e W'=>(∃v,e= .returned v)/\J ss W'
theorem w8y {W:World} {base j:Nat} {e:TypeId} {v:Value} {k:Nat} {xs:List Value} {o:Obj} (h:W.ownsRow base e 1 v k xs) (hj:W.heap[j]? =some o) (hno: ∀cur,o≠ .cells cur e (0,0)) (o':Obj):(W.putObj j o').ownsRow base e 1 v k xs:=
 h.kept (grownBy_putObj_a W j o') (ownsRow_ne_a h hj hno)
set_option maxHeartbeats 2000000 in
theorem w2o (L:SlLaysZ.n11 P ρ) (F:Fence) (n:Nat) (hf:F.fn (ρ.f 11)) (hro:F.round=none) (hn:2<=n) (g:Nat) (lb:Array Value) (hg:F.fn g) (eg: ∀args w,(callFunc g args).run P w= .ok (.enter g args) w)
  (ss:List (List UInt8)) (hN:ss.length<=maxLen) (hNb:ss.length*16<=140737488355328) (w:World) (hseq:u0n F (n - 1) P g lb ss w):
  CallsIn F n P (ρ.f 11) #[.slice none 0 0,.func (.func g) #[] lb] w fun e w'=> ∃v,e= .returned v/\w'.ownsRow w.heap.size (ρ.t 26) 1 v ss.length (ss.map encStr)/\Below w.heap.size w w':=by
 have mixed:=L.mixed;have t0:=L.t0;have a0:=L.a0;have z0:=L.z0;have v0:=L.v0;have t24:=L.t24;have a24:=L.a24;have z24:=L.z24;have v24:=L.v24;have t26:=L.t26;have a26:=L.a26;have z26:=L.z26;have v26:=L.v26
 have u0:=run_underlying L.t0;have u24:=run_underlying L.t24;have u26:=run_underlying L.t26
 have apart:ρ.t 24≠ρ.t 26:=fun e=>by have h:=L.t24;rw [e,L.t26] at h;cases h
 obtain ⟨_,_,body⟩:=L.f11
 refine callsIn_of_wp_marks body rfl hf ?_ hro
 simp only [SlBodyZ.n11_ntmps ρ,List.size_toArray,List.length_cons,List.length_nil,Nat.reduceAdd,Nat.reduceSub,Array.replicate_succ,Array.replicate_zero,List.push_toArray,List.append_toArray,List.nil_append,List.cons_append]
 gi_wp2
 refine wpIn_rangeFunc fun fn hfn=> ?_
 rw [hro]
 generalize hA:w.alloc (.cells #[.slice none 0 0] (ρ.t 24))=A
 have sA:A.heap.size=w.heap.size+1:=by rw [←hA];simp
 have bA:Below w.heap.size w A:=by rw [←hA];exact (Below.refl _ w).alloc (Nat.le_refl _) _
 have xA:A.heap[w.heap.size]? =some (.cells #[.slice none 0 0] (ρ.t 24) (0,0)):=by rw [←hA];exact World.alloc_heap_new w _
 generalize hrec:AnyZ.apRec ρ fn (.func (.func g) #[] lb) w.heap.size A.heap.size .ready none=rec
 generalize hB:(A.alloc (.deferred (some []))).alloc (.loop rec)=B
 have oldB: ∀k,k<A.heap.size->B.heap[k]? =A.heap[k]? :=fun k hk=>by rw [←hB];exact (Below.heap_alloc _ _ k (by simp;omega)).trans (Below.heap_alloc _ _ k hk)
 have bB:Below w.heap.size w B:=by rw [←hB];exact (bA.alloc bA.size _).alloc (by have:=bA.size;simp;omega) _
 have dB:B.heap[A.heap.size]? =some (.deferred (some [])):=by rw [←hB];exact (Below.heap_alloc _ _ _ (by simp)).trans (World.alloc_heap_new A _)
 have lB:B.heap[A.heap.size+1]? =some (.loop rec):=by rw [←hB];have:=World.alloc_heap_new (A.alloc (.deferred (some []))) (.loop rec);rwa [World.size_alloc] at this
 have start:AnyZ.ApAt ρ w fn (.func (.func g) #[] lb) w.heap.size (A.heap.size+1) A.heap.size [] B:=
  ⟨⟨_,(oldB _ (by omega)).trans xA,⟨rfl,.inl ⟨rfl,rfl⟩⟩,by simp⟩,by rw [hrec];exact lB,dB,bB⟩
 refine ⟨A.heap.size+1,[{target:= .collected A.heap.size,args:= #[]}],B,{target:= .fn (.func g) lb,args:= #[.func (.yield (A.heap.size+1)) #[] #[]]},B,g,#[.func (.yield (A.heap.size+1)) #[] #[]]++lb,B,?_,?_,?_,?_,fun _=>(by omega),?_⟩
 ·rw [←hB,←hrec];exact run_enterLoop_outer _ _ _ _ _
 ·simp [resolve,go_sem]
 ·intro f' h';simp [Target.leads] at h';exact h'▸hg
 ·simp [invoke,go_sem,eg]
 refine (hseq _ (AnyZ.ApAt ρ w fn (.func (.func g) #[] lb) w.heap.size (A.heap.size+1) A.heap.size) B bB (AnyZ.ap_abides ρ _ _ _ _ _ _ _ bB.size) (fun _ _ h=>h.below)
  (fun pre x W h hl=>AnyZ.apYield {L with} F _ w fn hfn _ _ _ _ (by omega) (by omega) (by omega) (Nat.le_refl _) (by omega) ss.length hN hNb pre x W h hl) start).mono ?_
 rintro e C ⟨⟨_,rfl⟩,hC⟩
 obtain ⟨v,hv,hrow,_⟩:=hC.box
 have hend:=run_endLoop (P:=P) hC.L (by simp [AnyZ.apRec])
 generalize hD:C.putObj (A.heap.size+1) (.loop {AnyZ.apRec ρ fn (.func (.func g) #[] lb) w.heap.size A.heap.size .ready none with state:= .exhausted})=D at hend
 have rowD:D.ownsRow w.heap.size (ρ.t 26) 1 v ss.length (ss.map encStr):=by rw [←hD];exact w8y hrow hC.L (fun _ h=>by cases h) _
 have boxD:D.heap[w.heap.size]? =some (.cells #[v] (ρ.t 24) (0,0)):=by rw [←hD];exact (World.putObj_heap_other (by omega)).trans hv
 have defD:D.heap[A.heap.size]? =some (.deferred (some [])):=by rw [←hD];exact (World.putObj_heap_other (by omega)).trans hC.K
 have belD:Below w.heap.size w D:=by rw [←hD];exact hC.below.grown (grownBy_putObj_a _ _ _) hC.below.size (fun k h=>by cases h;omega)
 obtain ⟨cellD,markD⟩:=cell_of_box_a boxD
 clear hD
 refine ⟨none,D,hend,?_⟩
 gi_wp2
 rw [←sA]
 refine ⟨by simp,.inl ⟨_,_,rfl,run_takeDeferred defD,?_⟩⟩
 exact ⟨_,results_tmp rfl _ _ _,v,rfl,w8y rowD defD (fun _ h=>by cases h) _,belD.grown (grownBy_putObj_a _ _ _) belD.size (fun k h=>by cases h;omega)⟩
end Go.Fl
end
noncomputable section
set_option maxRecDepth 100000
namespace Go.Proofs.YtfiomedjdipbgaaGreatDoor
open Go Go.Proofs Go.RowKit Go.Fl Go.Maps Go.Sort Go.Shelf
attribute [local go_sem] Oper.semAt_some
set_option maxHeartbeats 2000000 in
theorem v9g (n:Nat) (hn:1<=n) (w W:World) (l Bs b off cap:Nat) (zs:List (List UInt8)) (hreach:zs.length<=140737488355328) (hBs:Bs<w.heap.size) (hb:b<w.heap.size) (J:List (List UInt8)->World->Prop)
  (hJ: ∀pre W1,J pre W1->Below w.heap.size w W1) (hc:w.cell? ⟨Bs,0,none⟩=some (.slice (some ⟨b,off,none⟩) zs.length cap)) (hcs: ∀j,j<zs.length->w.cell? ⟨b,off+j,none⟩=some (encStr (zs[j]?.getD [])))
  (hY: ∀pre x W1,J pre W1->pre.length<zs.length->YieldAt Fence.wide (n - 1) Tryz.prog l #[encStr x] W1 fun e W'=>e= .returned (.bool true)/\J (pre++[x]) W'/\KeepsWalks W1 W') (h0:J [] W):
  CallsIn Fence.wide n Tryz.prog 237 #[.func (.yield l) #[] #[],.pointer (some ⟨Bs,0,none⟩)] W fun e W'=>(∃v,e= .returned v)/\J zs W':=by
 have hc0:=((hJ _ _ h0).cell (p:=⟨Bs,0,none⟩) hBs).trans hc
 refine callsIn_of_wp Tryz.func237 rfl trivial ?_ rfl
 simp only [Tryz.ntmps237,List.size_toArray,List.length_cons,List.length_nil,Nat.reduceAdd,Nat.reduceSub,Array.replicate_succ,Array.replicate_zero,List.push_toArray,List.append_toArray,List.nil_append,List.cons_append]
 gi_wp2
 gi_loopw [7] (fun i wr=> ∃k:Nat,k<=zs.length/\i= .int .i64 k/\J (zs.take k) wr) (fun i _=>zs.length - (intOf i).toNat)
 case atStart=>exact ⟨0,Nat.zero_le _,rfl,h0⟩
 case round=>
  obtain ⟨k,hk,rfl,hJk⟩:=hrel
  by_cases hlt:k<zs.length
  ·have hck:=((hJ _ _ hJk).cell (p:=⟨b,off+k,none⟩) hb).trans (hcs k hlt)
   obtain ⟨fn,tmps,assign,body,hy,hR⟩:=hY _ zs[k] wr hJk (by rw [List.length_take];omega)
   gi_wp2
   refine hR.mono ?_
   rintro e W3 ⟨rfl,hJ3,_⟩
   gi_wp2
   go_roundw
   case rel=>exact ⟨k+1,by omega,by simp,by rw [List.take_succ_eq_append_getElem hlt];exact hJ3⟩
   case measure=>simp [intOf];omega
  ·obtain rfl:k=zs.length:=by omega
   rw [List.take_length] at hJk
   gi_wp2
   go_end0
   exact ⟨⟨_,rfl⟩,hJk⟩
set_option maxHeartbeats 2000000 in
theorem v9h (n:Nat) (w W:World) (l Bs cap:Nat) (a:Option Addr) (hBs:Bs<w.heap.size) (J:List (List UInt8)->World->Prop) (hJ: ∀pre W1,J pre W1->Below w.heap.size w W1) (hc:w.cell? ⟨Bs,0,none⟩=some (.slice a 0 cap)) (h0:J [] W):
  CallsIn Fence.wide n Tryz.prog 237 #[.func (.yield l) #[] #[],.pointer (some ⟨Bs,0,none⟩)] W fun e W'=>(∃v,e= .returned v)/\J [] W':=by
 have hc0:=((hJ _ _ h0).cell (p:=⟨Bs,0,none⟩) hBs).trans hc
 refine callsIn_of_wp Tryz.func237 rfl trivial ?_ rfl
 simp only [Tryz.ntmps237,List.size_toArray,List.length_cons,List.length_nil,Nat.reduceAdd,Nat.reduceSub,Array.replicate_succ,Array.replicate_zero,List.push_toArray,List.append_toArray,List.nil_append,List.cons_append]
 gi_wp2
 gi_loopw [7] (fun i wr=>i= .int .i64 0/\J [] wr) (fun _ _=>0)
 case atStart=>exact ⟨rfl,h0⟩
 case round=>
  obtain ⟨rfl,hJs⟩:=hrel
  gi_wp2
  go_end0
  exact ⟨⟨_,rfl⟩,hJs⟩
theorem qa3l {σ:Hv} {w:World} (Bs:Nat) (v:Value) (l:List ByteArray) (hV:View σ w) (hB:σ Bs=some (.cells #[v] 44 (0,0))) (hr:RSl 1 (REnc Qp) σ v l) (hs:Sml l.length):
  Calls Tryz.prog 274 #[.slice none 0 0,.func (.func 237) #[] #[.pointer (some ⟨Bs,0,none⟩)]] w fun e w1=> ∃v1,e= .returned v1/\Grow [] σ w σ w1/\((vec v1 9 1 l.length (l.flatMap Qp)).ok w1/\ ∀k,(vec v1 9 1 l.length (l.flatMap Qp)).foot=some k->w.heap.size<=k/\σ k=none):=by
 have hBw:=hV _ _ hB
 have hBl:=lt_of_block hBw
 have hBc:w.cell? ⟨Bs,0,none⟩=some v:=by simp [World.cell?,hBw]
 have hlen:(l.map (·.data.toList)).length=l.length:=List.length_map _
 have hgive:u0n Fence.wide 2 Tryz.prog 237 #[.pointer (some ⟨Bs,0,none⟩)] (l.map (·.data.toList)) w:=by
  intro lp J W _ _ hJB hY h0
  obtain ⟨a,cap,rfl,h1,h2,hel⟩:=hr
  cases hl0:l with
  |nil=>
   subst hl0
   exact v9h 2 w W lp Bs cap a hBl J hJB hBc h0
  |cons x l'=>
   obtain ⟨ad,cs,rfl,_,hrow0,hcs0⟩:=hel 0 x (by rw [hl0];rfl)
   have cell0:=(hrow0.row hV) 0 _ (by rw [hcs0];rfl)
   obtain ⟨ab,ao,asp⟩:=ad
   have hsp:asp=none:=by
    cases asp with
    |none=>rfl
    |some s=>
     have:=hrow0 0 (.string x) (by rw [hcs0];rfl)
     simp [Hv.cell,Addr.add] at this
     split at this<;>simp at this
   subst hsp
   have hbl:ab<w.heap.size:=by
    have:=hrow0 0 (.string x) (by rw [hcs0];rfl)
    simp only [G2] at this
    unfold Hv.cell at this
    simp only at this
    cases hq:σ ab with
    |none=>rw [hq] at this;simp at this
    |some o=>exact lt_of_block (hV _ _ hq)
   rw [←hl0]
   have hcome:=v9g 2 (by omega) w W lp Bs ab ao cap (l.map (·.data.toList)) (by rw [hlen];exact h2) hBl hbl J hJB (by rw [hlen];exact hBc) (fun j hj=>by
    rw [hlen] at hj
    obtain ⟨y,hy⟩:=getq hj
    obtain ⟨ad',cs',had,_,hrow,hcs⟩:=hel j y hy
    cases had
    have hc:=(hrow.row hV) 0 (.string y) (by rw [hcs];rfl)
    rw [q3k,G2] at hc
    rw [List.getElem?_map,hy]
    simpa [encStr] using hc) hY h0
   exact hcome
 refine (callsIn_wide (n:=3)).1 ((w2o (ρ:=Tryz.sorted185_ren) {Tryz.sorted185 with} Fence.wide 3 trivial rfl (by omega) 237 _ trivial (enters_of Tryz.func237 (by kernel_rfl) rfl) (l.map (·.data.toList)) (by rw [hlen];exact (q6k hs (show 16<=32768 by omega)).2) (by rw [hlen];exact (q6k hs (by omega)).1) w hgive).mono ?_)
 rintro e w1 ⟨v1,rfl,hown,hbel⟩
 rw [hlen] at hown
 have hfl:(l.map (·.data.toList)).map encStr=l.flatMap Qp:=(q0v l).symm
 rw [hfl] at hown
 have hsame: ∀b,b<w.heap.size->w1.heap[b]? =w.heap[b]? :=fun b hb=>hbel.block b hb
 refine ⟨v1,rfl,⟨⟨hbel.os,hbel.tape,hbel.output,hbel.size,fun k hk _=>hbel.block k hk⟩,fun b o hb=>(hbel.block b (lt_of_block (hV b o hb))).trans (hV b o hb),.refl _,fun _ _ _=>rfl⟩,?_,?_⟩
 ·exact ⟨hown.1,hown.2.imp id fun ⟨g,cap,cur,e1,_,e3⟩=>⟨g,cap,cur,e1,Nat.zero_le _,e3⟩⟩
 ·intro k hk
  have hge:w.heap.size<=k:=(hown.lt k hk).1
  refine ⟨hge,?_⟩
  cases hq:σ k with
  |none=>rfl
  |some o=>have:=lt_of_block (hV k o hq);omega
end Go.Proofs.YtfiomedjdipbgaaGreatDoor
end
