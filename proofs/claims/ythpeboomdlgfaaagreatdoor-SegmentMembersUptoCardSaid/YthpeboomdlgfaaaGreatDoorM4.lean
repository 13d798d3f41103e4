/- SegmentMembers: for every input of bulk at most 1048576 the law returns true and leaves its arguments as they were. This is part 4 of 7. Conditions: those in the statements. -/
import Derived.Test.YthpeboomdlgfaaaGreatDoorProg
import Derived.Test.YthpeboomdlgfaaaGreatDoorM3
import Derived.Lib.ValidU
import Derived.KernelRfl
import Derived.Conc.MuLone
import Derived.Shelf.Small.Bits
import Derived.Shelf.Utf8.RuneCount
import Derived.Shelf.Strconv.Atoi
import Derived.Shelf.Strconv.Itoa0
import Derived.Shelf.Strconv.Itoa1
import Derived.Shelf.LaysM
import Derived.Shelf.Strconv.AtoiErrFast
import Derived.Shelf.Strconv.ParseIntEmpty
import Derived.Shelf.Strconv.AtoiFail
import Derived.Shelf.Strconv.Clone
import Derived.Shelf.Strconv.SyntaxError
import Derived.Shelf.LaysC
import Derived.Shelf.Strconv.ToError
import Derived.Shelf.Strconv.Lower
import Derived.Shelf.Strconv.ParseUint10
import Derived.Shelf.Strconv.ParseUint10Empty
import Derived.Shelf.Strconv.ParseUint10Any
import Derived.Shelf.Strconv.ParseInt10
import Derived.Shelf.Strconv.AtoiLong
import Derived.Shelf.Strconv.AtoiInnerAll
import Derived.Shelf.Strconv.RangeError
import Derived.Shelf.Strconv.ToErrorRange
import Derived.Shelf.Strconv.AtoiAll
import Derived.Shelf.Strconv.ErrVarAll
import Derived.Shelf.Strings.Search1
import Derived.Shelf.Strings.Search2
import Derived.Shelf.Strings.Search3
import Derived.Shelf.Strings.Count
import Derived.Shelf.Strings.Shaped
import Derived.Shelf.Sort.Plain
import Derived.Shelf.Strings.Split
import Derived.Shelf.Unicode.DecodeSlow
import Derived.Shelf.Unicode.DecodeAny
import Derived.Ground.Names2Prog
import Derived.Shelf.Slices.Clone
import Derived.Shelf.Slices.CompactS
import Derived.Shelf.Slices.SearchI
import Derived.Shelf.Slices.Delete
import Derived.Shelf.Slices.Cells
import Derived.Shelf.Slices.In.SortNone
import Derived.Shelf.Slices.Empties
import Derived.Ground.SlgnProg
import Derived.Shelf.SlicesE.Clone
import Derived.Ground.NamesProg
import Derived.Shelf.Unicode.ValidAny
import Derived.Shelf.SlIter.Sorted
import Derived.Ground.GgzProg
import Derived.Shelf.SlIter.Collect
import Derived.WalkKit
import Derived.OwnWalkIn
import Derived.TacticsInMore
import Derived.LoopNIn
import Derived.LoopIn
import Derived.RangeFuncLeaves
noncomputable section
set_option maxRecDepth 100000
open Go Go.RowKit Go.Fl Go.Fl.Lk Go.Fx
namespace Go.En
abbrev Wj:Type:=(List (Decl)->Prop)->Prop
def Jg (K:List (Decl)->Prop):Prop:=K [Decl.mk (ByteArray.mk (Array.mk [100,101,118,105,99,101])) (ByteArray.mk (Array.mk [99,111,114,101,115])) (2:Int),Decl.mk (ByteArray.mk (Array.mk [100,101,118,105,99,101])) (ByteArray.mk (Array.mk [111,115])) (3:Int),Decl.mk (ByteArray.mk (Array.mk [117,115,101,114])) (ByteArray.mk (Array.mk [97,103,101])) (2:Int),Decl.mk (ByteArray.mk (Array.mk [117,115,101,114])) (ByteArray.mk (Array.mk [97,112,112])) (4:Int),Decl.mk (ByteArray.mk (Array.mk [117,115,101,114])) (ByteArray.mk (Array.mk [98,101,116,97])) (1:Int),Decl.mk (ByteArray.mk (Array.mk [117,115,101,114])) (ByteArray.mk (Array.mk [99,111,117,110,116,114,121])) (3:Int),Decl.mk (ByteArray.mk (Array.mk [117,115,101,114])) (ByteArray.mk (Array.mk [112,108,97,110])) (3:Int),Decl.mk (ByteArray.mk (Array.mk [117,115,101,114])) (ByteArray.mk (Array.mk [116,97,103,115])) (5:Int)]
abbrev j9v:Type:=List (Int)->Int->(Bool->Int->Prop)->Prop
def z6y (list:List (Int)) (at_:Int) (K:Bool->Int->Prop):Prop:=list.length<=(9223372036854775807:Nat)->K (decide (at_<(↑list.length:Int))) at_
abbrev Zf:Type:=List (Int)->Int->Int->(Int->Int->Prop)->Prop
def w94 (z7k:j9v) (list:List (Int)) (at_:Int) (n:Int) (K:Int->Int->Prop):Prop:=z7k list at_ fun Qb Zj=>Cnd (Qb=true) (InI (Zj+(1:Int))/\InI (Zj+(1:Int) - (1:Int))/\((0:Int)<=Zj+(1:Int) - (1:Int)/\Zj+(1:Int) - (1:Int)<(↑list.length:Int))/\ ∀y1,list[(Zj+(1:Int) - (1:Int)).toNat]? =some y1->InI y1/\n≠(0:Int)/\K (y1.tmod n) (Zj+(1:Int))) (K (0:Int) Zj)
def Zc (list:List (Int)) (at_:Int) (n:Int) (K:Int->Int->Prop):Prop:=w94 z6y list at_ n K
abbrev B6:Type:=List (Int)->Int->(ByteArray->Int->Prop)->Prop
def w95 (Qa:Zf) (list:List (Int)) (at_:Int) (K:ByteArray->Int->Prop):Prop:=Qa list at_ (11:Int) fun Qb Zj=>((0:Int)<=Qb/\Qb<(↑(11:Nat):Int))/\ ∀y1,j6n[Qb.toNat]? =some y1->K y1 Zj
def Hr (list:List (Int)) (at_:Int) (K:ByteArray->Int->Prop):Prop:=w95 Zc list at_ K
abbrev q45:Type:=List (Int)->Int->Int->(Int->Int->Prop)->Prop
def w96 (Qa:Zf) (list:List (Int)) (at_:Int) (n:Int) (K:Int->Int->Prop):Prop:=Qa list at_ (256:Int) fun Qb Zj=>InI ((256:Int)*Qb)/\Qa list Zj (256:Int) fun Qd Jk=>InI ((256:Int)*Qb+Qd)/\n≠(0:Int)/\K (((256:Int)*Qb+Qd).tmod n) Jk
def q08 (list:List (Int)) (at_:Int) (n:Int) (K:Int->Int->Prop):Prop:=w96 Zc list at_ n K
abbrev z1q:Type:=Int->List (ByteArray)->(List (ByteArray)->Prop)->Prop
def q6d (n:Int) (l:List (ByteArray)) (K:List (ByteArray)->Prop):Prop:=((0:Int)<=n/\n<=(↑l.length:Int))/\K (List.take n.toNat l)
abbrev z1r:Type:=List (Int)->Int->(List (ByteArray)->Int->Prop)->Prop
def w97 (Qa:Zf) (list:List (Int)) (at_:Int) (K:List (ByteArray)->Int->Prop):Prop:=Qa list at_ (10:Int) fun Qb Zj=>Lp3 (fun Qd Jk z9c u2x=>Qa list z9c (4:Int) fun Qg Z1=>Cnd (Jk<Qg) (InI (Qb+Jk)/\(10:Int)≠(0:Int)/\InI ((48:Int)+(Qb+Jk).tmod (10:Int))/\(↑((ByteArray.mk (Array.mk [107])).size+(Go.Utf8.encode (Go.IntKind.i32.wrap ((48:Int)+(Qb+Jk).tmod (10:Int)))).size):Int)<=(9223372036854775807:Int)/\Sml (Qd++[ByteArray.mk (Array.mk [107])++Go.Utf8.encode (Go.IntKind.i32.wrap ((48:Int)+(Qb+Jk).tmod (10:Int)))]).length/\InI (Jk+(1:Int))/\u2x (Qd++[ByteArray.mk (Array.mk [107])++Go.Utf8.encode (Go.IntKind.i32.wrap ((48:Int)+(Qb+Jk).tmod (10:Int)))]) (Jk+(1:Int)) Z1) (Lp2 (fun Qm Bj w5f=>Bj.length<=(9223372036854775807:Nat)->Cnd (Qm<(↑Bj.length:Int)) (((0:Int)<=Qm/\Qm<(↑Bj.length:Int))/\ ∀y5,Bj[Qm.toNat]? =some y5->InI (Qm - (1:Int))/\((0:Int)<=Qm - (1:Int)/\Qm - (1:Int)<(↑Bj.length:Int))/\ ∀y7,Bj[(Qm - (1:Int)).toNat]? =some y7->Cnd (Lk.blt y7 y5) (InI (Qm+(1:Int))/\w5f (Qm+(1:Int)) Bj) (((0:Int)<=Qm/\Qm<=(↑Bj.length:Int))/\K (List.take Qm.toNat Bj) Z1)) (K Bj Z1)) (1:Int) Qd)) [] (0:Int) Zj
def q6e (list:List (Int)) (at_:Int) (K:List (ByteArray)->Int->Prop):Prop:=w97 Zc list at_ K
abbrev z9l:Type:=List (Int)->Int->(ByteArray->Int->Prop)->Prop
def v8w (Qa:Zf) (list:List (Int)) (at_:Int) (K:ByteArray->Int->Prop):Prop:=Qa list at_ (10:Int) fun Qb Zj=>InI ((48:Int)+Qb)/\(↑((ByteArray.mk (Array.mk [107])).size+(Go.Utf8.encode (Go.IntKind.i32.wrap ((48:Int)+Qb))).size):Int)<=(9223372036854775807:Int)/\K (ByteArray.mk (Array.mk [107])++Go.Utf8.encode (Go.IntKind.i32.wrap ((48:Int)+Qb))) Zj
def z1s (list:List (Int)) (at_:Int) (K:ByteArray->Int->Prop):Prop:=v8w Zc list at_ K
abbrev q02:Type:=List (Int)->Int->Int->(Val->Int->Prop)->Prop
def w03 (Qa:Zf) (Jv:B6) (list:List (Int)) (at_:Int) (kind:Int) (K:Val->Int->Prop):Prop:=Cnd (kind=(1:Int)) (Qa list at_ (2:Int) fun Qb Zj=>K (Val.mk kind Qb (ByteArray.mk (Array.mk [])) []) Zj) (Cnd (kind=(2:Int)) ([(0:Int),(1:Int),(17:Int),(18:Int),(19:Int),(-5:Int),(64:Int),(1099511627776:Int),(-1099511627776:Int)].length<=(9223372036854775807:Nat)->Qa list at_ (↑[(0:Int),(1:Int),(17:Int),(18:Int),(19:Int),(-5:Int),(64:Int),(1099511627776:Int),(-1099511627776:Int)].length:Int) fun Qd Jk=>((0:Int)<=Qd/\Qd<(↑[(0:Int),(1:Int),(17:Int),(18:Int),(19:Int),(-5:Int),(64:Int),(1099511627776:Int),(-1099511627776:Int)].length:Int))/\ ∀y2,[(0:Int),(1:Int),(17:Int),(18:Int),(19:Int),(-5:Int),(64:Int),(1099511627776:Int),(-1099511627776:Int)][Qd.toNat]? =some y2->K (Val.mk kind y2 (ByteArray.mk (Array.mk [])) []) Jk) (Cnd (kind=(3:Int)) (Jv list at_ fun Qb Zj=>K (Val.mk kind (0:Int) Qb []) Zj) (Cnd (kind=(4:Int)) (Qa list at_ (6:Int) fun Qb Zj=>((0:Int)<=Qb/\Qb<(↑(6:Nat):Int))/\ ∀y1,j1e[Qb.toNat]? =some y1->K (Val.mk kind (0:Int) y1 []) Zj) (Qa list at_ (5:Int) fun Qb Zj=>((0:Int)<=Qb/\Qb<(↑(5:Nat):Int))/\ ∀y1,w7v[Qb.toNat]? =some y1->Sml ([]++y1).length/\K (Val.mk (5:Int) (0:Int) (ByteArray.mk (Array.mk [])) ([]++y1)) Zj))))
def U5 (list:List (Int)) (at_:Int) (kind:Int) (K:Val->Int->Prop):Prop:=w03 Zc Hr list at_ kind K
abbrev j9w:Type:=List (Int)->Int->(Ex->Int->Prop)->Prop
def w98 (Q3:Wj) (Qa:Zf) (q4v:z9l) (Ja:q02) (list:List (Int)) (at_:Int) (K:Ex->Int->Prop):Prop:=Q3 fun Qb=>Qb.length<=(9223372036854775807:Nat)->InI ((↑Qb.length:Int)+(1:Int))/\Qa list at_ ((↑Qb.length:Int)+(1:Int)) fun Qg Z1=>Qb.length<=(9223372036854775807:Nat)->Cnd (Qg=(↑Qb.length:Int)) (q4v list Z1 fun Qj Ud=>K (Ex.mk (7:Int) (ByteArray.mk (Array.mk [117,115,101,114])) (ByteArray.mk (Array.mk [107,101,121])) [Val.mk (3:Int) (0:Int) Qj []] []) Ud) (((0:Int)<=Qg/\Qg<(↑Qb.length:Int))/\ ∀y4,Qb[Qg.toNat]? =some y4->Jn1 (fun (Js:Int×ByteArray×ByteArray×List Val×List Ex×Int×Int×ByteArray×ByteArray×List Val×List Ex×Unit)=>Ja list Js.snd.snd.snd.snd.snd.fst y4.3 fun Vf z4d=>K (Ex.mk (7:Int) Js.snd.fst Js.snd.snd.fst [Vf] Js.snd.snd.snd.snd.fst) z4d) fun (u8v:Int×ByteArray×ByteArray×List Val×List Ex×Int×Int×ByteArray×ByteArray×List Val×List Ex×Unit->Prop)=>Qa list Z1 (5:Int) fun Vf z4d=>Jn1 (fun (Uq:Int×Int×ByteArray×ByteArray×List Val×List Ex×Int×ByteArray×ByteArray×List Val×List Ex×Unit)=>Cnd (y4.3=(2:Int)) (Qa list Uq.fst (4:Int) fun Q7 j70=>InI ((12:Int)+Q7)/\Ja list j70 y4.3 fun R8 q3s=>K (Ex.mk ((12:Int)+Q7) Uq.snd.snd.fst Uq.snd.snd.snd.fst [R8] Uq.snd.snd.snd.snd.snd.fst) q3s) (Cnd (y4.3=(3:Int)) (Qa list Uq.fst (4:Int) fun Q7 j70=>InI ((12:Int)+Q7)/\Ja list j70 y4.3 fun R8 q3s=>K (Ex.mk ((12:Int)+Q7) Uq.snd.snd.fst Uq.snd.snd.snd.fst [R8] Uq.snd.snd.snd.snd.snd.fst) q3s) (Cnd (y4.3=(4:Int)) (Qa list Uq.fst (4:Int) fun Q7 j70=>InI ((12:Int)+Q7)/\Ja list j70 y4.3 fun R8 q3s=>K (Ex.mk ((12:Int)+Q7) Uq.snd.snd.fst Uq.snd.snd.snd.fst [R8] Uq.snd.snd.snd.snd.snd.fst) q3s) (u8v (Uq.snd.fst,Uq.snd.snd.fst,Uq.snd.snd.snd.fst,Uq.snd.snd.snd.snd.fst,Uq.snd.snd.snd.snd.snd.fst,Uq.fst,Uq.snd.snd.snd.snd.snd.snd.fst,Uq.snd.snd.snd.snd.snd.snd.snd.fst,Uq.snd.snd.snd.snd.snd.snd.snd.snd.fst,Uq.snd.snd.snd.snd.snd.snd.snd.snd.snd.fst,Uq.snd.snd.snd.snd.snd.snd.snd.snd.snd.snd.fst,()))))) fun (u2y:Int×Int×ByteArray×ByteArray×List Val×List Ex×Int×ByteArray×ByteArray×List Val×List Ex×Unit->Prop)=>Cnd (Vf=(0:Int)) (K (Ex.mk (6:Int) y4.1 y4.2 [] []) z4d) (Cnd (Vf=(1:Int)) (Cnd (y4.3=(5:Int)) (u8v ((0:Int),y4.1,y4.2,[],[],z4d,(0:Int),ByteArray.mk (Array.mk []),ByteArray.mk (Array.mk []),[],[],())) (Lp3 (fun Q7 j70 x9_2 Y9_3=>Qa list x9_2 (3:Int) fun R8 q3s=>Cnd (Q7<=R8) (Ja list q3s y4.3 fun G6 w5g=>Sml (j70++[G6]).length/\InI (Q7+(1:Int))/\Y9_3 (Q7+(1:Int)) (j70++[G6]) w5g) (K (Ex.mk (8:Int) y4.1 y4.2 j70 []) q3s)) (0:Int) [] z4d)) (Cnd (Vf=(2:Int)) (Cnd (y4.3=(3:Int)) (Ja list z4d (3:Int) fun Q7 j70=>K (Ex.mk (11:Int) y4.1 y4.2 [Q7] []) j70) (Cnd (y4.3=(5:Int)) (Ja list z4d (3:Int) fun Q7 j70=>K (Ex.mk (11:Int) y4.1 y4.2 [Q7] []) j70) (u8v ((0:Int),y4.1,y4.2,[],[],z4d,(0:Int),ByteArray.mk (Array.mk []),ByteArray.mk (Array.mk []),[],[],())))) (Cnd (Vf=(3:Int)) (Cnd (y4.3=(3:Int)) (Qa list z4d (2:Int) fun Q7 j70=>InI ((9:Int)+Q7)/\Ja list j70 (3:Int) fun R8 q3s=>K (Ex.mk ((9:Int)+Q7) y4.1 y4.2 [R8] []) q3s) (u2y (z4d,(0:Int),y4.1,y4.2,[],[],(0:Int),ByteArray.mk (Array.mk []),ByteArray.mk (Array.mk []),[],[],()))) (Cnd (Vf=(4:Int)) (u2y (z4d,(0:Int),y4.1,y4.2,[],[],(0:Int),ByteArray.mk (Array.mk []),ByteArray.mk (Array.mk []),[],[],())) (u8v ((0:Int),y4.1,y4.2,[],[],z4d,(0:Int),ByteArray.mk (Array.mk []),ByteArray.mk (Array.mk []),[],[],())))))))
def z6z (list:List (Int)) (at_:Int) (K:Ex->Int->Prop):Prop:=w98 Jg Zc z1s U5 list at_ K
abbrev q46:Type:=List (Int)->Int->List (ByteArray)->Int->(Ex->Int->Prop)->Prop
def z60 (Qa:Zf) (z23:j9w) (X:q46) (list:List (Int)) (at_:Int) (segments:List (ByteArray)) (levels:Int) (K:Ex->Int->Prop):Prop:=Qa list at_ (8:Int) fun Qb Zj=>Jn1 (fun Qd=>Cnd (Qd=(0:Int)) (K (Ex.mk (1:Int) (ByteArray.mk (Array.mk [])) (ByteArray.mk (Array.mk [])) [] []) Zj) (Cnd (Qd=(3:Int)) (segments.length<=(9223372036854775807:Nat)->Cnd ((0:Int)<(↑segments.length:Int)) (segments.length<=(9223372036854775807:Nat)->Qa list Zj (↑segments.length:Int) fun Qj Ud=>((0:Int)<=Qj/\Qj<(↑segments.length:Int))/\ ∀y5,segments[Qj.toNat]? =some y5->K (Ex.mk (5:Int) (ByteArray.mk (Array.mk [])) y5 [] []) Ud) (z23 list Zj fun Qm Bj=>K (Ex.mk Qm.1 Qm.2 Qm.3 Qm.4 Qm.5) Bj)) (Cnd (Qd=(4:Int)) (InI (levels - (1:Int))/\X list Zj segments (levels - (1:Int)) fun Qg Z1=>K (Ex.mk (4:Int) (ByteArray.mk (Array.mk [])) (ByteArray.mk (Array.mk [])) [] [Ex.mk Qg.1 Qg.2 Qg.3 Qg.4 Qg.5]) Z1) (Jn1 (fun Qg=>Cnd (Qg=true) (Qa list Zj (2:Int) fun Qm Bj=>InI ((2:Int)+Qm)/\Qa list Bj (2:Int) fun Qj Ud=>InI ((2:Int)+Qj)/\LpH (fun (Zb:Int×Int×Int×ByteArray×ByteArray×List Val×List Ex×Unit) (w9d:Int×Int×Int×ByteArray×ByteArray×List Val×List Ex×Unit->Prop)=>Cnd (Zb.fst<(2:Int)+Qj) (InI (levels - (1:Int))/\X list Zb.snd.fst segments (levels - (1:Int)) fun Js j0w=>Jn1 (fun (Vf:Int×ByteArray×ByteArray×List Val×List Ex×Unit)=>Sml (Zb.snd.snd.snd.snd.snd.snd.fst++[Ex.mk Vf.fst Vf.snd.fst Vf.snd.snd.fst Vf.snd.snd.snd.fst Vf.snd.snd.snd.snd.fst]).length/\InI (Zb.fst+(1:Int))/\w9d (Zb.fst+(1:Int),j0w,Zb.snd.snd.fst,Zb.snd.snd.snd.fst,Zb.snd.snd.snd.snd.fst,Zb.snd.snd.snd.snd.snd.fst,Zb.snd.snd.snd.snd.snd.snd.fst++[Ex.mk Vf.fst Vf.snd.fst Vf.snd.snd.fst Vf.snd.snd.snd.fst Vf.snd.snd.snd.snd.fst],())) fun (Y7_0:Int×ByteArray×ByteArray×List Val×List Ex×Unit->Prop)=>Cnd (Js.1=(2:Int)+Qm) (Y7_0 ((4:Int),ByteArray.mk (Array.mk []),ByteArray.mk (Array.mk []),[],[Ex.mk Js.1 Js.2 Js.3 Js.4 Js.5],())) (Y7_0 (Js.1,Js.2,Js.3,Js.4,Js.5,()))) (K (Ex.mk Zb.snd.snd.fst Zb.snd.snd.snd.fst Zb.snd.snd.snd.snd.fst Zb.snd.snd.snd.snd.snd.fst Zb.snd.snd.snd.snd.snd.snd.fst) Zb.snd.fst)) ((0:Int),Ud,(2:Int)+Qm,ByteArray.mk (Array.mk []),ByteArray.mk (Array.mk []),[],[],())) (z23 list Zj fun Qm Bj=>K (Ex.mk Qm.1 Qm.2 Qm.3 Qm.4 Qm.5) Bj)) fun v7h=>Cnd (Qd=(5:Int)) (v7h (decide (Qd=(5:Int)))) (v7h (decide (Qd=(6:Int)))))))) fun w9e=>Cnd (levels<=(1:Int)) (Cnd ((4:Int)<=Qb) (InI (Qb - (4:Int))/\w9e (Qb - (4:Int))) (w9e Qb)) (w9e Qb)
def q47 (list:List (Int)) (at_:Int) (segments:List (ByteArray)) (levels:Int) (K:Ex->Int->Prop):Prop:= ∀X:q46,(∀list at_ segments levels K,z60 Zc z6z X list at_ segments levels K->X list at_ segments levels K)->X list at_ segments levels K
abbrev q8w:Type:=List (Int)->Int->ByteArray->ByteArray->Int->List (Decl)->List (Seg)->List (Flg)->List (Lay_)->List (Exper)->(Int->ByteArray->ByteArray->Int->List (Decl)->List (Seg)->List (Flg)->List (Lay_)->List (Exper)->Prop)->Prop
def z4n (Qa:Zf) (Ra:z1q) (Bg:z1r) (Bh:q46) (list:List (Int)) (at_:Int) (salt:ByteArray) (hkind:ByteArray) (hold:Int) (attrs:List (Decl)) (segs:List (Seg)) (flags:List (Flg)) (layers:List (Lay_)) (expers:List (Exper)) (K:Int->ByteArray->ByteArray->Int->List (Decl)->List (Seg)->List (Flg)->List (Lay_)->List (Exper)->Prop):Prop:=Qa list at_ (4:Int) fun Qb Zj=>Ra Qb [ByteArray.mk (Array.mk [97,108,112,104,97]),ByteArray.mk (Array.mk [98,101,116,97]),ByteArray.mk (Array.mk [103,97,109,109,97])] fun Qd=>Lp3 (fun Qg Z1 v2v u79=>Qd.length<=(9223372036854775807:Nat)->Cnd (Qg<(↑Qd.length:Int)) (((0:Int)<=Qg/\Qg<(↑Qd.length:Int))/\ ∀y4,Qd[Qg.toNat]? =some y4->Bg list Z1 fun Js j0w=>Bg list j0w fun Vf z4d=>Jn2 (fun Uq u3v=>Jn1 (fun (Q7:Int×ByteArray×ByteArray×List Val×List Ex×Int×Unit)=>Sml (v2v++[Seg.mk y4 Uq Js Vf (Ex.mk Q7.fst Q7.snd.fst Q7.snd.snd.fst Q7.snd.snd.snd.fst Q7.snd.snd.snd.snd.fst)]).length/\InI (Qg+(1:Int))/\u79 (Qg+(1:Int)) Q7.snd.snd.snd.snd.snd.fst (v2v++[Seg.mk y4 Uq Js Vf (Ex.mk Q7.fst Q7.snd.fst Q7.snd.snd.fst Q7.snd.snd.snd.fst Q7.snd.snd.snd.snd.fst)])) fun (Y9_0:Int×ByteArray×ByteArray×List Val×List Ex×Int×Unit->Prop)=>Qa list u3v (3:Int) fun R8 q3s=>Cnd ((0:Int)<R8) (((0:Int)<=(0:Int)/\(0:Int)<=Qg/\Qg<=(↑Qd.length:Int))/\Bh list q3s (List.drop (Int.toNat (0:Int)) (List.take Qg.toNat Qd)) (3:Int) fun G6 w5g=>Y9_0 (G6.1,G6.2,G6.3,G6.4,G6.5,w5g,())) (Y9_0 ((0:Int),ByteArray.mk (Array.mk []),ByteArray.mk (Array.mk []),[],[],q3s,()))) fun u2y=>Qa list z4d (4:Int) fun Q7 j70=>Cnd (Q7=(1:Int)) (u2y (ByteArray.mk (Array.mk [100,101,118,105,99,101])) j70) (u2y (ByteArray.mk (Array.mk [117,115,101,114])) j70)) (K Z1 salt hkind hold attrs v2v flags layers expers)) (0:Int) Zj segs
def q11 (list:List (Int)) (at_:Int) (salt:ByteArray) (hkind:ByteArray) (hold:Int) (attrs:List (Decl)) (segs:List (Seg)) (flags:List (Flg)) (layers:List (Lay_)) (expers:List (Exper)) (K:Int->ByteArray->ByteArray->Int->List (Decl)->List (Seg)->List (Flg)->List (Lay_)->List (Exper)->Prop):Prop:=z4n Zc q6d q6e q47 list at_ salt hkind hold attrs segs flags layers expers K
abbrev q2t:Type:=Envt->(List (ByteArray)->Prop)->Prop
def Uf (v:Envt) (K:List (ByteArray)->Prop):Prop:=Lp2 (fun Qb Zj q5i=>v.3.length<=(9223372036854775807:Nat)->Cnd (Zj<(↑v.3.length:Int)) (((0:Int)<=Zj/\Zj<(↑v.3.length:Int))/\ ∀y2,v.3[Zj.toNat]? =some y2->Sml (Qb++[y2.1]).length/\InI (Zj+(1:Int))/\q5i (Qb++[y2.1]) (Zj+(1:Int))) (K Qb)) [] (0:Int)
abbrev q7p:Type:=List (Int)->Int->Int->(List (Rng)->Int->Prop)->Prop
def w04 (Qa:Zf) (Wh:q45) (list:List (Int)) (at_:Int) (n:Int) (K:List (Rng)->Int->Prop):Prop:=Jn4 (fun Qb Zj u8a j30=>Qa list j30 n fun Qd Jk=>InI ((1:Int)+Qd)/\Jn1 (fun Qg=>Sml (Qb++[Rng.mk Zj (10000:Int) Qg]).length/\K (Qb++[Rng.mk Zj (10000:Int) Qg]) Jk) fun v7h=>Cnd ((1:Int)+Qd=u8a) (n≠(0:Int)/\InI ((1:Int)+((1:Int)+Qd).tmod n)/\v7h ((1:Int)+((1:Int)+Qd).tmod n)) (v7h ((1:Int)+Qd))) fun z4e=>Lp5 (fun Qd Jk z9c w5h u9t u9u=>Qa list u9t (4:Int) fun Qg Z1=>Cnd (w5h<Qg) (Cnd ((1:Int)<n) (InI (Jk+(1:Int))/\Wh list Z1 (5000:Int) fun Qm Bj=>InI (Jk+(1:Int)+Qm)/\Qa list Bj n fun Qj Ud=>InI ((1:Int)+Qj)/\Jn1 (fun Zb=>Cnd ((10000:Int)<=Jk+(1:Int)+Qm) (z4e Qd Jk z9c Ud) (Sml (Qd++[Rng.mk Jk (Jk+(1:Int)+Qm) Zb]).length/\InI (w5h+(1:Int))/\u9u (Qd++[Rng.mk Jk (Jk+(1:Int)+Qm) Zb]) (Jk+(1:Int)+Qm) Zb (w5h+(1:Int)) Ud)) fun Y5_0=>Cnd ((1:Int)+Qj=z9c) (n≠(0:Int)/\InI ((1:Int)+((1:Int)+Qj).tmod n)/\Y5_0 ((1:Int)+((1:Int)+Qj).tmod n)) (Y5_0 ((1:Int)+Qj))) (z4e Qd Jk z9c Z1)) (z4e Qd Jk z9c Z1)) [] (0:Int) (0:Int) (0:Int) at_
def q2u (list:List (Int)) (at_:Int) (n:Int) (K:List (Rng)->Int->Prop):Prop:=w04 Zc q08 list at_ n K
abbrev j1g:Type:=List (Int)->Int->Int->(Srv->Int->Prop)->Prop
def w05 (Qa:Zf) (Jv:B6) (G7:q7p) (Q3:Wj) (list:List (Int)) (at_:Int) (n:Int) (K:Srv->Int->Prop):Prop:=Qa list at_ (2:Int) fun Qb Zj=>Cnd (Qb=(0:Int)) (Qa list Zj n fun Qd Jk=>InI ((1:Int)+Qd)/\K (Srv.mk ((1:Int)+Qd) (ByteArray.mk (Array.mk [])) (ByteArray.mk (Array.mk [])) (ByteArray.mk (Array.mk [])) []) Jk) (Jv list Zj fun Qd Jk=>G7 list Jk n fun Qg Z1=>Q3 fun Qm=>Qa list Z1 (12:Int) fun Qj Ud=>Qm.length<=(9223372036854775807:Nat)->Cnd (Qj<(↑Qm.length:Int)) (((0:Int)<=Qj/\Qj<(↑Qm.length:Int))/\ ∀y6,Qm[Qj.toNat]? =some y6->Cnd (y6.3=(5:Int)) (K (Srv.mk (0:Int) (ByteArray.mk (Array.mk [117,115,101,114])) (ByteArray.mk (Array.mk [107,101,121])) Qd Qg) Ud) (((0:Int)<=Qj/\Qj<(↑Qm.length:Int))/\ ∀y8,Qm[Qj.toNat]? =some y8->((0:Int)<=Qj/\Qj<(↑Qm.length:Int))/\ ∀y10,Qm[Qj.toNat]? =some y10->K (Srv.mk (0:Int) y8.1 y10.2 Qd Qg) Ud)) (K (Srv.mk (0:Int) (ByteArray.mk (Array.mk [117,115,101,114])) (ByteArray.mk (Array.mk [107,101,121])) Qd Qg) Ud))
def z0h (list:List (Int)) (at_:Int) (n:Int) (K:Srv->Int->Prop):Prop:=w05 Zc Hr q2u Jg list at_ n K
abbrev j1h:Type:=(List (Nd)->(Nd->Option (Int))->Bool->Prop)->Prop
def z4o (K:List (Nd)->(Nd->Option (Int))->Bool->Prop):Prop:=K [] (fun _=>none) false
abbrev Wa:Type:=Int->(Bool->Prop)->Prop
def Z8 (op:Int) (K:Bool->Prop):Prop:=Cnd ((6:Int)<=op) (K (decide (op<=(15:Int)))) (K false)
abbrev q7q:Type:=List (ByteArray)->List (ByteArray)->(Bool->Prop)->Prop
def q03 (a:List (ByteArray)) (b:List (ByteArray)) (K:Bool->Prop):Prop:=a.length<=(9223372036854775807:Nat)->b.length<=(9223372036854775807:Nat)->Cnd ((↑a.length:Int)=(↑b.length:Int)) (Lp1 (fun Qg j3z=>a.length<=(9223372036854775807:Nat)->Cnd (Qg<(↑a.length:Int)) (((0:Int)<=Qg/\Qg<(↑a.length:Int))/\ ∀y4,a[Qg.toNat]? =some y4->((0:Int)<=Qg/\Qg<(↑b.length:Int))/\ ∀y6,b[Qg.toNat]? =some y6->Cnd (y4=y6) (InI (Qg+(1:Int))/\j3z (Qg+(1:Int))) (K false)) (K true)) (0:Int)) (K false)
abbrev q3u:Type:=Val->Val->(Bool->Prop)->Prop
def j4j (G8:q7q) (a:Val) (b:Val) (K:Bool->Prop):Prop:=Cnd (a.1=b.1) (Cnd (a.2=b.2) (Cnd (a.3=b.3) (G8 a.4 b.4 fun Qb=>K Qb) (K false)) (K false)) (K false)
def Rl (a:Val) (b:Val) (K:Bool->Prop):Prop:=j4j q03 a b K
abbrev q2v:Type:=List (Val)->List (Val)->(Bool->Prop)->Prop
def q7r (W6:q3u) (a:List (Val)) (b:List (Val)) (K:Bool->Prop):Prop:=a.length<=(9223372036854775807:Nat)->b.length<=(9223372036854775807:Nat)->Cnd ((↑a.length:Int)=(↑b.length:Int)) (Lp1 (fun Qg j3z=>a.length<=(9223372036854775807:Nat)->Cnd (Qg<(↑a.length:Int)) (((0:Int)<=Qg/\Qg<(↑a.length:Int))/\ ∀y4,a[Qg.toNat]? =some y4->((0:Int)<=Qg/\Qg<(↑b.length:Int))/\ ∀y6,b[Qg.toNat]? =some y6->W6 y4 y6 fun Uq=>Cnd (Uq=true) (InI (Qg+(1:Int))/\j3z (Qg+(1:Int))) (K false)) (K true)) (0:Int)) (K false)
def Gm (a:List (Val)) (b:List (Val)) (K:Bool->Prop):Prop:=q7r Rl a b K
abbrev Hs:Type:=Ex->Ex->(Bool->Prop)->Prop
def z1t (G9:q2v) (X:Hs) (a:Ex) (b:Ex) (K:Bool->Prop):Prop:=Cnd (a.1=b.1) (Cnd (a.2=b.2) (Cnd (a.3=b.3) (G9 a.4 b.4 fun Qb=>Cnd (Qb=true) (a.5.length<=(9223372036854775807:Nat)->b.5.length<=(9223372036854775807:Nat)->Cnd ((↑a.5.length:Int)=(↑b.5.length:Int)) (Lp1 (fun Qm j0z=>a.5.length<=(9223372036854775807:Nat)->Cnd (Qm<(↑a.5.length:Int)) (((0:Int)<=Qm/\Qm<(↑a.5.length:Int))/\ ∀y5,a.5[Qm.toNat]? =some y5->((0:Int)<=Qm/\Qm<(↑b.5.length:Int))/\ ∀y7,b.5[Qm.toNat]? =some y7->X (Ex.mk y5.1 y5.2 y5.3 y5.4 y5.5) (Ex.mk y7.1 y7.2 y7.3 y7.4 y7.5) fun Q7=>Cnd (Q7=true) (InI (Qm+(1:Int))/\j0z (Qm+(1:Int))) (K false)) (K true)) (0:Int)) (K false)) (K false)) (K false)) (K false)) (K false)
def Ht (a:Ex) (b:Ex) (K:Bool->Prop):Prop:= ∀X:Hs,(∀a b K,z1t Gm X a b K->X a b K)->X a b K
abbrev q1j:Type:=List (Ex)->Ex->(Int->Prop)->Prop
def z9m (q0o:Hs) (l:List (Ex)) (e:Ex) (K:Int->Prop):Prop:=Lp1 (fun Qb q3r=>l.length<=(9223372036854775807:Nat)->Cnd (Qb<(↑l.length:Int)) (((0:Int)<=Qb/\Qb<(↑l.length:Int))/\ ∀y2,l[Qb.toNat]? =some y2->q0o (Ex.mk y2.1 y2.2 y2.3 y2.4 y2.5) (Ex.mk e.1 e.2 e.3 e.4 e.5) fun Qj=>Cnd (Qj=true) (K Qb) (InI (Qb+(1:Int))/\q3r (Qb+(1:Int)))) (K (-1:Int))) (0:Int)
def Gd (l:List (Ex)) (e:Ex) (K:Int->Prop):Prop:=z9m Ht l e K
abbrev Ge:Type:=List (Ex)->Ex->(List (Ex)->Prop)->Prop
def q9s (Wv:q1j) (Qw:Wa) (X:Ge) (l:List (Ex)) (e:Ex) (K:List (Ex)->Prop):Prop:=Jn1 (fun Qb=>Lp2 (fun Qd Jk j0x=>e.5.length<=(9223372036854775807:Nat)->Cnd (Jk<(↑e.5.length:Int)) (((0:Int)<=Jk/\Jk<(↑e.5.length:Int))/\ ∀y3,e.5[Jk.toNat]? =some y3->X Qd (Ex.mk y3.1 y3.2 y3.3 y3.4 y3.5) fun Zb=>InI (Jk+(1:Int))/\j0x Zb (Jk+(1:Int))) (K Qd)) Qb (0:Int)) fun z4e=>Cnd (e.1=(5:Int)) (Wv l (Ex.mk e.1 e.2 e.3 e.4 e.5) fun Qd=>Cnd (Qd<(0:Int)) ((Sml ([]++l).length/\Sml ([]++l++[Ex.mk e.1 e.2 e.3 e.4 e.5]).length/\z4e ([]++l++[Ex.mk e.1 e.2 e.3 e.4 e.5]))/\Sml ([]++l).length/\Sml ([]++l++[Ex.mk e.1 e.2 e.3 e.4 e.5]).length/\z4e ([]++l++[Ex.mk e.1 e.2 e.3 e.4 e.5])) (z4e l)) (Qw e.1 fun Qd=>Cnd (Qd=true) (Wv l (Ex.mk e.1 e.2 e.3 e.4 e.5) fun Qg=>Cnd (Qg<(0:Int)) ((Sml ([]++l).length/\Sml ([]++l++[Ex.mk e.1 e.2 e.3 e.4 e.5]).length/\z4e ([]++l++[Ex.mk e.1 e.2 e.3 e.4 e.5]))/\Sml ([]++l).length/\Sml ([]++l++[Ex.mk e.1 e.2 e.3 e.4 e.5]).length/\z4e ([]++l++[Ex.mk e.1 e.2 e.3 e.4 e.5])) (z4e l)) (z4e l))
def Rm (l:List (Ex)) (e:Ex) (K:List (Ex)->Prop):Prop:= ∀X:Ge,(∀l e K,q9s Gd Z8 X l e K->X l e K)->X l e K
abbrev q2w:Type:=List (Rul)->(List (Ex)->Prop)->Prop
def q7s (Rx:Ge) (l:List (Rul)) (K:List (Ex)->Prop):Prop:=Lp2 (fun Qb Zj q5i=>l.length<=(9223372036854775807:Nat)->Cnd (Zj<(↑l.length:Int)) (((0:Int)<=Zj/\Zj<(↑l.length:Int))/\ ∀y2,l[Zj.toNat]? =some y2->Rx Qb (Ex.mk y2.2.1 y2.2.2 y2.2.3 y2.2.4 y2.2.5) fun Qj=>InI (Zj+(1:Int))/\q5i Qj (Zj+(1:Int))) (K Qb)) [] (0:Int)
def Gn (l:List (Rul)) (K:List (Ex)->Prop):Prop:=q7s Rm l K
abbrev Jy:Type:=List (Nd)->(Nd->Option (Int))->Bool->Int->(Bool->List (Nd)->(Nd->Option (Int))->Bool->Prop)->Prop
def Z5 (ns:List (Nd)) (ids:(Nd->Option (Int))) (full:Bool) (id:Int) (K:Bool->List (Nd)->(Nd->Option (Int))->Bool->Prop):Prop:=Cnd ((-1002:Int)<id) (ns.length<=(9223372036854775807:Nat)->K (decide (id<(↑ns.length:Int))) ns ids full) (K false ns ids full)
abbrev q09:Type:=List (Nd)->(Nd->Option (Int))->Bool->Int->((Int->Option (Bool))->List (Nd)->(Nd->Option (Int))->Bool->Prop)->Prop
def Vq (ns:List (Nd)) (ids:(Nd->Option (Int))) (full:Bool) (id:Int) (K:(Int->Option (Bool))->List (Nd)->(Nd->Option (Int))->Bool->Prop):Prop:=Lp2 (fun Qb q3r q5i=>Qb.length<=(9223372036854775807:Nat)->Cnd ((0:Int)<(↑Qb.length:Int)) (Qb.length<=(9223372036854775807:Nat)->InI ((↑Qb.length:Int) - (1:Int))/\((0:Int)<=(↑Qb.length:Int) - (1:Int)/\(↑Qb.length:Int) - (1:Int)<(↑Qb.length:Int))/\ ∀y3,Qb[((↑Qb.length:Int) - (1:Int)).toNat]? =some y3->Qb.length<=(9223372036854775807:Nat)->InI ((↑Qb.length:Int) - (1:Int))/\((0:Int)<=(↑Qb.length:Int) - (1:Int)/\(↑Qb.length:Int) - (1:Int)<=(↑Qb.length:Int))/\Cnd ((q3r y3).getD false=true) (q5i (List.take ((↑Qb.length:Int) - (1:Int)).toNat Qb) q3r) (Cnd ((0:Int)<=y3) (((0:Int)<=y3/\y3<(↑ns.length:Int))/\ ∀y6,ns[y3.toNat]? =some y6->((0:Int)<=y3/\y3<(↑ns.length:Int))/\ ∀y8,ns[y3.toNat]? =some y8->Sml (List.take ((↑Qb.length:Int) - (1:Int)).toNat Qb++[y6.snd.fst,y8.snd.snd]).length/\q5i (List.take ((↑Qb.length:Int) - (1:Int)).toNat Qb++[y6.snd.fst,y8.snd.snd]) (put q3r y3 true)) (q5i (List.take ((↑Qb.length:Int) - (1:Int)).toNat Qb) (put q3r y3 true)))) (K q3r ns ids full)) [id] fun _=>none
abbrev B7:Type:=List (Nd)->(Nd->Option (Int))->Bool->Int->(List (Int)->List (Nd)->(Nd->Option (Int))->Bool->Prop)->Prop
def z0i (Qx:Jy) (Uy:q09) (ns:List (Nd)) (ids:(Nd->Option (Int))) (full:Bool) (id:Int) (K:List (Int)->List (Nd)->(Nd->Option (Int))->Bool->Prop):Prop:=Qx ns ids full id fun Qb (Zj:List (Int×Int×Int)) q5i j30=>Cnd (Qb=true) (Uy Zj q5i j30 id fun w9e (Jk:List (Int×Int×Int)) j0x w5h=>Lp2 (fun Qg Z1 q8r=>Cnd (Z1<=(1000:Int)) (InI ((-1:Int) - Z1)/\Cnd ((w9e ((-1:Int) - Z1)).getD false=true) (Sml (Qg++[Z1]).length/\InI (Z1+(1:Int))/\q8r (Qg++[Z1]) (Z1+(1:Int))) (InI (Z1+(1:Int))/\q8r Qg (Z1+(1:Int)))) (K Qg Jk j0x w5h)) [] (0:Int)) (K [] Zj q5i j30)
def V2 (ns:List (Nd)) (ids:(Nd->Option (Int))) (full:Bool) (id:Int) (K:List (Int)->List (Nd)->(Nd->Option (Int))->Bool->Prop):Prop:=z0i Z5 Vq ns ids full id K
abbrev Zv:Type:=List (Nd)->(Nd->Option (Int))->Bool->Int->(Bool->List (Nd)->(Nd->Option (Int))->Bool->Prop)->Prop
def q53 (Qx:Jy) (V7:B7) (ns:List (Nd)) (ids:(Nd->Option (Int))) (full:Bool) (id:Int) (K:Bool->List (Nd)->(Nd->Option (Int))->Bool->Prop):Prop:=Qx ns ids full id fun Qb (Zj:List (Int×Int×Int)) q5i j30=>Cnd (Qb=true) (V7 Zj q5i j30 id fun Qd (Jk:List (Int×Int×Int)) j0x w5h=>Lp1 (fun Qg j3z=>Qd.length<=(9223372036854775807:Nat)->Cnd (Qg<(↑Qd.length:Int)) (((0:Int)<=Qg/\Qg<(↑Qd.length:Int))/\ ∀y4,Qd[Qg.toNat]? =some y4->Cnd ((1:Int)<y4) (K false Jk j0x w5h) (InI (Qg+(1:Int))/\j3z (Qg+(1:Int)))) (K true Jk j0x w5h)) (0:Int)) (K false Zj q5i j30)
def Ze (ns:List (Nd)) (ids:(Nd->Option (Int))) (full:Bool) (id:Int) (K:Bool->List (Nd)->(Nd->Option (Int))->Bool->Prop):Prop:=q53 Z5 V2 ns ids full id K
abbrev Wr:Type:=List (Nd)->(Nd->Option (Int))->Bool->Int->(Int->List (Nd)->(Nd->Option (Int))->Bool->Prop)->Prop
def Jd (ns:List (Nd)) (ids:(Nd->Option (Int))) (full:Bool) (id:Int) (K:Int->List (Nd)->(Nd->Option (Int))->Bool->Prop):Prop:=Cnd (id<(0:Int)) (K (1001:Int) ns ids full) (((0:Int)<=id/\id<(↑ns.length:Int))/\ ∀y0,ns[id.toNat]? =some y0->K y0.fst ns ids full)
abbrev q1a:Type:=List (Nd)->(Nd->Option (Int))->Bool->Int->Int->(Int->Int->List (Nd)->(Nd->Option (Int))->Bool->Prop)->Prop
def z3a (Q6:Wr) (ns:List (Nd)) (ids:(Nd->Option (Int))) (full:Bool) (id:Int) (test:Int) (K:Int->Int->List (Nd)->(Nd->Option (Int))->Bool->Prop):Prop:=Q6 ns ids full id fun Qb (Zj:List (Int×Int×Int)) q5i j30=>Cnd (Qb=test) (((0:Int)<=id/\id<(↑Zj.length:Int))/\ ∀y1,Zj[id.toNat]? =some y1->((0:Int)<=id/\id<(↑Zj.length:Int))/\ ∀y3,Zj[id.toNat]? =some y3->K y1.snd.fst y3.snd.snd Zj q5i j30) (K id id Zj q5i j30)
def Vr (ns:List (Nd)) (ids:(Nd->Option (Int))) (full:Bool) (id:Int) (test:Int) (K:Int->Int->List (Nd)->(Nd->Option (Int))->Bool->Prop):Prop:=z3a Jd ns ids full id test K
abbrev Ug:Type:=List (Nd)->(Nd->Option (Int))->Bool->Int->Int->Int->(Int->List (Nd)->(Nd->Option (Int))->Bool->Prop)->Prop
def z4p (Qx:Jy) (Q6:Wr) (ns:List (Nd)) (ids:(Nd->Option (Int))) (full:Bool) (test:Int) (yes:Int) (no:Int) (K:Int->List (Nd)->(Nd->Option (Int))->Bool->Prop):Prop:=Cnd (test<(0:Int)) (K (-1002:Int) ns ids full) (Cnd ((1000:Int)<test) (K (-1002:Int) ns ids full) (Qx ns ids full yes fun Qb (Zj:List (Int×Int×Int)) q5i j30=>Cnd (Qb=true) (Qx Zj q5i j30 no fun Qd (Jk:List (Int×Int×Int)) j0x w5h=>Cnd (Qd=true) (Q6 Jk j0x w5h yes fun Qg (Z1:List (Int×Int×Int)) q8r w5i=>Cnd (Qg<=test) (K (-1002:Int) Z1 q8r w5i) (Q6 Z1 q8r w5i no fun Qm (Bj:List (Int×Int×Int)) w5f u0k=>Cnd (Qm<=test) (K (-1002:Int) Bj w5f u0k) (Cnd (yes=no) (K yes Bj w5f u0k) (Cnd ((w5f (test,yes,no)).isSome=true) (K ((w5f (test,yes,no)).getD (0:Int)) Bj w5f u0k) (Bj.length<=(9223372036854775807:Nat)->Cnd ((4000:Int)<=(↑Bj.length:Int)) (K (-1002:Int) Bj w5f true) (Bj.length<=(9223372036854775807:Nat)->Sml (Bj++[(test,yes,no)]).length/\((Bj++[(test,yes,no)]).length<=(9223372036854775807:Nat)->InI ((↑(Bj++[(test,yes,no)]).length:Int) - (1:Int))/\K ((↑(Bj++[(test,yes,no)]).length:Int) - (1:Int)) (Bj++[(test,yes,no)]) (put w5f (test,yes,no) (↑Bj.length:Int)) u0k))))))) (K (-1002:Int) Jk j0x w5h)) (K (-1002:Int) Zj q5i j30)))
def We (ns:List (Nd)) (ids:(Nd->Option (Int))) (full:Bool) (test:Int) (yes:Int) (no:Int) (K:Int->List (Nd)->(Nd->Option (Int))->Bool->Prop):Prop:=z4p Z5 Jd ns ids full test yes no K
abbrev Wy:Type:=List (Nd)->(Nd->Option (Int))->Bool->Int->Int->Int->(A3->Option (Int))->(Int->List (Nd)->(Nd->Option (Int))->Bool->(A3->Option (Int))->Prop)->Prop
def Gq (Q6:Wr) (Ww:q1a) (Jb:Ug) (X:Wy) (ns:List (Nd)) (ids:(Nd->Option (Int))) (full:Bool) (f:Int) (g:Int) (h:Int) (known:(A3->Option (Int))) (K:Int->List (Nd)->(Nd->Option (Int))->Bool->(A3->Option (Int))->Prop):Prop:=Cnd (f=(-2:Int)) (K g ns ids full known) (Cnd (g=h) (K g ns ids full known) (Cnd (f=(-1:Int)) (K h ns ids full known) (Cnd ((known (f,g,h)).isSome=true) (K ((known (f,g,h)).getD (0:Int)) ns ids full known) (Q6 ns ids full f fun Qb (Zj:List (Int×Int×Int)) q5i j30=>Q6 Zj q5i j30 g fun Qd (Jk:List (Int×Int×Int)) j0x w5h=>Q6 Jk j0x w5h h fun Qg (Z1:List (Int×Int×Int)) q8r w5i=>Ww Z1 q8r w5i f (Min.min (Min.min Qb Qd) Qg) fun Qm Bj (x3_2:List (Int×Int×Int)) Y3_3 x3_4=>Ww x3_2 Y3_3 x3_4 g (Min.min (Min.min Qb Qd) Qg) fun Qj Ud (z7z:List (Int×Int×Int)) u6s u9v=>Ww z7z u6s u9v h (Min.min (Min.min Qb Qd) Qg) fun Zb z4f (x5_2:List (Int×Int×Int)) Y5_3 x5_4=>X x5_2 Y5_3 x5_4 Qm Qj Zb known fun Js (j0w:List (Int×Int×Int)) u6f u9w Y6_4=>X j0w u6f u9w Bj Ud z4f Y6_4 fun Vf (z4d:List (Int×Int×Int)) u3w y1k u6t=>Jn4 (fun Uq (u3v:List (Int×Int×Int)) x8_2 Y8_3=>K Uq u3v Y8_3 x8_2 (put u6t (f,g,h) Uq)) fun u2y=>Cnd (Js=(-1002:Int)) (u2y (-1002:Int) z4d y1k u3w) (Cnd (Vf=(-1002:Int)) (u2y (-1002:Int) z4d y1k u3w) (Jb z4d u3w y1k (Min.min (Min.min Qb Qd) Qg) Js Vf fun Q7 (j70:List (Int×Int×Int)) u8b u8c=>u2y Q7 j70 u8c u8b))))))
def V3 (ns:List (Nd)) (ids:(Nd->Option (Int))) (full:Bool) (f:Int) (g:Int) (h:Int) (known:(A3->Option (Int))) (K:Int->List (Nd)->(Nd->Option (Int))->Bool->(A3->Option (Int))->Prop):Prop:= ∀X:Wy,(∀ns ids full f g h known K,Gq Jd Vr We X ns ids full f g h known K->X ns ids full f g h known K)->X ns ids full f g h known K
abbrev Jl:Type:=List (Nd)->(Nd->Option (Int))->Bool->Int->Int->Int->(Int->List (Nd)->(Nd->Option (Int))->Bool->Prop)->Prop
def z0j (Qr:Zv) (Qx:Jy) (V8:Wy) (ns:List (Nd)) (ids:(Nd->Option (Int))) (full:Bool) (f:Int) (g:Int) (h:Int) (K:Int->List (Nd)->(Nd->Option (Int))->Bool->Prop):Prop:=Qr ns ids full f fun Qb (Zj:List (Int×Int×Int)) q5i j30=>Cnd (Qb=true) (Qx Zj q5i j30 g fun Qd (Jk:List (Int×Int×Int)) j0x w5h=>Cnd (Qd=true) (Qx Jk j0x w5h h fun Qg (Z1:List (Int×Int×Int)) q8r w5i=>Cnd (Qg=true) (V8 Z1 q8r w5i f g h (fun _=>none) fun Qm (Bj:List (Int×Int×Int)) w5f u0k _=>K Qm Bj w5f u0k) (K (-1002:Int) Z1 q8r w5i)) (K (-1002:Int) Jk j0x w5h)) (K (-1002:Int) Zj q5i j30)
def Zy (ns:List (Nd)) (ids:(Nd->Option (Int))) (full:Bool) (f:Int) (g:Int) (h:Int) (K:Int->List (Nd)->(Nd->Option (Int))->Bool->Prop):Prop:=z0j Ze Z5 V3 ns ids full f g h K
abbrev q48:Type:=List (Nd)->(Nd->Option (Int))->Bool->Int->(Int->List (Nd)->(Nd->Option (Int))->Bool->Prop)->Prop
def z78 (Qy:Jl) (ns:List (Nd)) (ids:(Nd->Option (Int))) (full:Bool) (f:Int) (K:Int->List (Nd)->(Nd->Option (Int))->Bool->Prop):Prop:=Qy ns ids full f (-1:Int) (-2:Int) fun Qb (Zj:List (Int×Int×Int)) q5i j30=>K Qb Zj q5i j30
def Rn (ns:List (Nd)) (ids:(Nd->Option (Int))) (full:Bool) (f:Int) (K:Int->List (Nd)->(Nd->Option (Int))->Bool->Prop):Prop:=z78 Zy ns ids full f K
abbrev q49:Type:=List (Nd)->(Nd->Option (Int))->Bool->Int->Int->(Int->List (Nd)->(Nd->Option (Int))->Bool->Prop)->Prop
def z79 (Qr:Zv) (Qy:Jl) (ns:List (Nd)) (ids:(Nd->Option (Int))) (full:Bool) (f:Int) (g:Int) (K:Int->List (Nd)->(Nd->Option (Int))->Bool->Prop):Prop:=Qr ns ids full g fun Qb (Zj:List (Int×Int×Int)) q5i j30=>Cnd (Qb=true) (Qy Zj q5i j30 f g (-1:Int) fun Qd (Jk:List (Int×Int×Int)) j0x w5h=>K Qd Jk j0x w5h) (K (-1002:Int) Zj q5i j30)
def Rp (ns:List (Nd)) (ids:(Nd->Option (Int))) (full:Bool) (f:Int) (g:Int) (K:Int->List (Nd)->(Nd->Option (Int))->Bool->Prop):Prop:=z79 Ze Zy ns ids full f g K
abbrev Hu:Type:=List (Nd)->(Nd->Option (Int))->Bool->Int->Int->(Int->List (Nd)->(Nd->Option (Int))->Bool->Prop)->Prop
def j1i (Qr:Zv) (Qy:Jl) (ns:List (Nd)) (ids:(Nd->Option (Int))) (full:Bool) (f:Int) (g:Int) (K:Int->List (Nd)->(Nd->Option (Int))->Bool->Prop):Prop:=Qr ns ids full g fun Qb (Zj:List (Int×Int×Int)) q5i j30=>Cnd (Qb=true) (Qy Zj q5i j30 f (-2:Int) g fun Qd (Jk:List (Int×Int×Int)) j0x w5h=>K Qd Jk j0x w5h) (K (-1002:Int) Zj q5i j30)
def Vv (ns:List (Nd)) (ids:(Nd->Option (Int))) (full:Bool) (f:Int) (g:Int) (K:Int->List (Nd)->(Nd->Option (Int))->Bool->Prop):Prop:=j1i Ze Zy ns ids full f g K
abbrev Uh:Type:=List (Nd)->(Nd->Option (Int))->Bool->List (Ex)->Ex->(Int->List (Nd)->(Nd->Option (Int))->Bool->Prop)->Prop
def q7t (Ry:q48) (Rz:q49) (J3:Hu) (Wv:q1j) (Jb:Ug) (X:Uh) (ns:List (Nd)) (ids:(Nd->Option (Int))) (full:Bool) (atoms:List (Ex)) (e:Ex) (K:Int->List (Nd)->(Nd->Option (Int))->Bool->Prop):Prop:=Cnd (e.1=(1:Int)) (K (-2:Int) ns ids full) (Cnd (e.1=(4:Int)) (((0:Int)<=(0:Int)/\(0:Int)<(↑e.5.length:Int))/\ ∀y0,e.5[Int.toNat (0:Int)]? =some y0->X ns ids full atoms (Ex.mk y0.1 y0.2 y0.3 y0.4 y0.5) fun Qg (Z1:List (Int×Int×Int)) q8r w5i=>Ry Z1 q8r w5i Qg fun Qm (Bj:List (Int×Int×Int)) w5f u0k=>K Qm Bj w5f u0k) (Jn1 (fun Qb=>Cnd (Qb=true) (((0:Int)<=(0:Int)/\(0:Int)<(↑e.5.length:Int))/\ ∀y1,e.5[Int.toNat (0:Int)]? =some y1->X ns ids full atoms (Ex.mk y1.1 y1.2 y1.3 y1.4 y1.5) fun Qm (Bj:List (Int×Int×Int)) w5f u0k=>Lp5 (fun Qj Ud (z7z:List (Int×Int×Int)) u6u u8w u8x=>e.5.length<=(9223372036854775807:Nat)->Cnd (Ud<(↑e.5.length:Int)) (((0:Int)<=Ud/\Ud<(↑e.5.length:Int))/\ ∀y6,e.5[Ud.toNat]? =some y6->X z7z u8w u6u atoms (Ex.mk y6.1 y6.2 y6.3 y6.4 y6.5) fun Uq (u3v:List (Int×Int×Int)) Y8_2 x8_3=>Cnd (e.1=(2:Int)) (Rz u3v Y8_2 x8_3 Qj Uq fun Q7 (j70:List (Int×Int×Int)) u8b u8c=>InI (Ud+(1:Int))/\u8x Q7 (Ud+(1:Int)) j70 u8c u8b) (J3 u3v Y8_2 x8_3 Qj Uq fun Q7 (j70:List (Int×Int×Int)) u8b u8c=>InI (Ud+(1:Int))/\u8x Q7 (Ud+(1:Int)) j70 u8c u8b)) (K Qj z7z u8w u6u)) Qm (1:Int) Bj u0k w5f) (Wv atoms (Ex.mk e.1 e.2 e.3 e.4 e.5) fun Qd=>Cnd (Qd<(0:Int)) (K (-1002:Int) ns ids full) (Jb ns ids full Qd (-2:Int) (-1:Int) fun Qg (Z1:List (Int×Int×Int)) q8r w5i=>K Qg Z1 q8r w5i))) fun z4e=>Cnd (e.1=(2:Int)) (z4e (decide (e.1=(2:Int)))) (z4e (decide (e.1=(3:Int))))))
def Gs (ns:List (Nd)) (ids:(Nd->Option (Int))) (full:Bool) (atoms:List (Ex)) (e:Ex) (K:Int->List (Nd)->(Nd->Option (Int))->Bool->Prop):Prop:= ∀X:Uh,(∀ns ids full atoms e K,q7t Rn Rp Vv Gd We X ns ids full atoms e K->X ns ids full atoms e K)->X ns ids full atoms e K
abbrev Wz:Type:=List (Rul)->(List (Int)->Int->Bool->Prop)->Prop
def q3v (z09:j1h) (Ha:q2w) (Hb:Uh) (J3:Hu) (l:List (Rul)) (K:List (Int)->Int->Bool->Prop):Prop:=z09 fun (Qb:List (Int×Int×Int)) q3r u8a=>Ha l fun Qd=>LpH (fun Qg j3z=>l.length<=(9223372036854775807:Nat)->Cnd (Qg.snd.snd.fst<(↑l.length:Int)) (((0:Int)<=Qg.snd.snd.fst/\Qg.snd.snd.fst<(↑l.length:Int))/\ ∀y4,l[Qg.snd.snd.fst.toNat]? =some y4->Hb Qg.snd.snd.snd.fst Qg.snd.snd.snd.snd.snd.fst Qg.snd.snd.snd.snd.fst Qd (Ex.mk y4.2.1 y4.2.2 y4.2.3 y4.2.4 y4.2.5) fun Js (j0w:List (Int×Int×Int)) u6f u9w=>J3 j0w u6f u9w Qg.fst Js fun Vf (z4d:List (Int×Int×Int)) u3w y1k=>Cnd (Vf=(-1002:Int)) (z4d.length<=(9223372036854775807:Nat)->K [] (↑z4d.length:Int) false) (Cnd (Vf=Qg.fst) (InI (Qg.snd.snd.fst+(1:Int))/\Sml (Qg.snd.fst++[Qg.snd.snd.fst+(1:Int)]).length/\InI (Qg.snd.snd.fst+(1:Int))/\j3z (Vf,Qg.snd.fst++[Qg.snd.snd.fst+(1:Int)],Qg.snd.snd.fst+(1:Int),z4d,y1k,u3w,())) (InI (Qg.snd.snd.fst+(1:Int))/\j3z (Vf,Qg.snd.fst,Qg.snd.snd.fst+(1:Int),z4d,y1k,u3w,())))) (Qg.snd.snd.snd.fst.length<=(9223372036854775807:Nat)->K Qg.snd.fst (↑Qg.snd.snd.snd.fst.length:Int) true)) ((-1:Int),[],(0:Int),Qb,u8a,q3r,())
def Jz (l:List (Rul)) (K:List (Int)->Int->Bool->Prop):Prop:=q3v z4o Gn Gs Vv l K
abbrev j1j:Type:=List (Int)->Int->ByteArray->(Lay_->Int->Prop)->Prop
def w06 (Jv:B6) (Qa:Zf) (Wh:q45) (list:List (Int)) (at_:Int) (key:ByteArray) (K:Lay_->Int->Prop):Prop:=Jv list at_ fun Qb Zj=>Qa list Zj (3:Int) fun Qd Jk=>InI (Qd*(50:Int))/\Jn2 (fun Qg Z1=>Jn2 (fun Qm Bj=>Lp4 (fun Qj Ud z7z u6u u8w=>Qa list u6u (3:Int) fun Zb z4f=>Cnd (Ud<Zb) (Wh list z4f (3000:Int) fun Js j0w=>InI (Qj+Js)/\InI (Qj+Js+(1:Int))/\Wh list j0w (2000:Int) fun Vf z4d=>InI (Qj+Js+(1:Int)+Vf)/\Cnd ((10000:Int)<Qj+Js+(1:Int)+Vf) (K (Lay_.mk key Qg Qb Qm (Qd*(50:Int)) z7z) z4d) (Qa list z4d (200:Int) fun Uq u3v=>Sml (z7z++[Col.mk (Qj+Js) (Qj+Js+(1:Int)+Vf) Uq]).length/\InI (Ud+(1:Int))/\u8w (Qj+Js+(1:Int)+Vf) (Ud+(1:Int)) (z7z++[Col.mk (Qj+Js) (Qj+Js+(1:Int)+Vf) Uq]) u3v)) (K (Lay_.mk key Qg Qb Qm (Qd*(50:Int)) z7z) z4f)) (0:Int) (0:Int) [] Bj) fun u8d=>Qa list Z1 (2:Int) fun Qj Ud=>Cnd (Qj=(1:Int)) (Wh list Ud (3000:Int) fun Zb z4f=>u8d Zb z4f) (u8d (0:Int) Ud)) fun v7h=>Qa list Jk (4:Int) fun Qm Bj=>Cnd (Qm=(1:Int)) (v7h (ByteArray.mk (Array.mk [100,101,118,105,99,101])) Bj) (v7h (ByteArray.mk (Array.mk [117,115,101,114])) Bj)
def z0k (list:List (Int)) (at_:Int) (key:ByteArray) (K:Lay_->Int->Prop):Prop:=w06 Hr Zc q08 list at_ key K
abbrev z61:Type:=Int->(Bool->Prop)->Prop
def q3w (now:Int) (K:Bool->Prop):Prop:=Cnd ((0:Int)<=now) (K (decide (now<=(1099511627776:Int)))) (K false)
abbrev Vc:Type:=Envt->ByteArray->(Int->Prop)->Prop
def Wg (v:Envt) (key:ByteArray) (K:Int->Prop):Prop:=Lp1 (fun Qb q3r=>v.5.length<=(9223372036854775807:Nat)->Cnd (Qb<(↑v.5.length:Int)) (((0:Int)<=Qb/\Qb<(↑v.5.length:Int))/\ ∀y2,v.5[Qb.toNat]? =some y2->Cnd (y2.1=key) (K Qb) (InI (Qb+(1:Int))/\q3r (Qb+(1:Int)))) (K (-1:Int))) (0:Int)
abbrev q2x:Type:=List (Col)->Int->(List (Int)->Prop)->Prop
def Ui (l:List (Col)) (now:Int) (K:List (Int)->Prop):Prop:=((0:Int)<=(10000:Int)/\(10000:Int)<=(10000:Int)/\Sml (Int.toNat (10000:Int)))/\Lp2 (fun Qb Zj q5i=>Zj.length<=(9223372036854775807:Nat)->Cnd (Qb<(↑Zj.length:Int)) (((0:Int)<=Qb/\Qb<(↑Zj.length:Int))/\ ∀y2,Zj[Qb.toNat]? =some y2->InI (Qb+(1:Int))/\q5i (Qb+(1:Int)) (Zj.set Qb.toNat now)) (Lp2 (fun Qg Z1 q8r=>l.length<=(9223372036854775807:Nat)->Cnd (Qg<(↑l.length:Int)) (((0:Int)<=Qg/\Qg<(↑l.length:Int))/\ ∀y4,l[Qg.toNat]? =some y4->Lp2 (fun Js j0w u6f=>((0:Int)<=Qg/\Qg<(↑l.length:Int))/\ ∀y7,l[Qg.toNat]? =some y7->Cnd (Js<Min.min y7.2 (10000:Int)) (((0:Int)<=Js/\Js<(↑j0w.length:Int))/\ ∀y9,j0w[Js.toNat]? =some y9->((0:Int)<=Qg/\Qg<(↑l.length:Int))/\ ∀y11,l[Qg.toNat]? =some y11->((0:Int)<=Js/\Js<(↑j0w.length:Int))/\ ∀y13,j0w[Js.toNat]? =some y13->InI (Js+(1:Int))/\u6f (Js+(1:Int)) (j0w.set Js.toNat (Max.max y9 y11.3))) (InI (Qg+(1:Int))/\q8r (Qg+(1:Int)) j0w)) (Max.max y4.1 (0:Int)) Z1) (K Z1)) (0:Int) Zj)) (0:Int) (List.replicate (Int.toNat (10000:Int)) (0:Int))
abbrev Wb:Type:=List (Bool)->(List (Spn)->Prop)->Prop
def Ji (set_:List (Bool)) (K:List (Spn)->Prop):Prop:=Lp2 (fun Qb Zj q5i=>set_.length<=(9223372036854775807:Nat)->Cnd (Zj<(↑set_.length:Int)) (((0:Int)<=Zj/\Zj<(↑set_.length:Int))/\ ∀y2,set_[Zj.toNat]? =some y2->Cnd (y2=true) (Cnd ((0:Int)<Zj) (InI (Zj - (1:Int))/\((0:Int)<=Zj - (1:Int)/\Zj - (1:Int)<(↑set_.length:Int))/\ ∀y4,set_[(Zj - (1:Int)).toNat]? =some y4->Cnd (y4=true) (Qb.length<=(9223372036854775807:Nat)->InI ((↑Qb.length:Int) - (1:Int))/\InI (Zj+(1:Int))/\((0:Int)<=(↑Qb.length:Int) - (1:Int)/\(↑Qb.length:Int) - (1:Int)<(↑Qb.length:Int))/\ ∀y7,Qb[((↑Qb.length:Int) - (1:Int)).toNat]? =some y7->InI (Zj+(1:Int))/\q5i (Qb.set ((↑Qb.length:Int) - (1:Int)).toNat (Spn.mk y7.1 (Zj+(1:Int)))) (Zj+(1:Int))) (InI (Zj+(1:Int))/\Sml (Qb++[Spn.mk Zj (Zj+(1:Int))]).length/\InI (Zj+(1:Int))/\q5i (Qb++[Spn.mk Zj (Zj+(1:Int))]) (Zj+(1:Int)))) (InI (Zj+(1:Int))/\Sml (Qb++[Spn.mk Zj (Zj+(1:Int))]).length/\InI (Zj+(1:Int))/\q5i (Qb++[Spn.mk Zj (Zj+(1:Int))]) (Zj+(1:Int)))) (InI (Zj+(1:Int))/\q5i Qb (Zj+(1:Int)))) (K Qb)) [] (0:Int)
abbrev z1u:Type:=List (Int)->Int->(List (Spn)->Prop)->Prop
def z9n (Q1:Wb) (until_:List (Int)) (now:Int) (K:List (Spn)->Prop):Prop:=until_.length<=(9223372036854775807:Nat)->((0:Int)<=(↑until_.length:Int)/\(↑until_.length:Int)<=(↑until_.length:Int)/\Sml (↑until_.length:Int).toNat)/\Lp2 (fun Qd Jk j0x=>until_.length<=(9223372036854775807:Nat)->Cnd (Qd<(↑until_.length:Int)) (((0:Int)<=Qd/\Qd<(↑until_.length:Int))/\ ∀y3,until_[Qd.toNat]? =some y3->((0:Int)<=Qd/\Qd<(↑Jk.length:Int))/\ ∀y5,Jk[Qd.toNat]? =some y5->InI (Qd+(1:Int))/\j0x (Qd+(1:Int)) (Jk.set Qd.toNat (decide (now<y3)))) (Q1 Jk fun Qm=>K Qm)) (0:Int) (List.replicate (↑until_.length:Int).toNat false)
def q3x (until_:List (Int)) (now:Int) (K:List (Spn)->Prop):Prop:=z9n Ji until_ now K
abbrev Gt:Type:=List (Spn)->(List (Bool)->Prop)->Prop
def Vu (l:List (Spn)) (K:List (Bool)->Prop):Prop:=((0:Int)<=(10000:Int)/\(10000:Int)<=(10000:Int)/\Sml (Int.toNat (10000:Int)))/\Lp2 (fun Qb Zj q5i=>l.length<=(9223372036854775807:Nat)->Cnd (Qb<(↑l.length:Int)) (((0:Int)<=Qb/\Qb<(↑l.length:Int))/\ ∀y2,l[Qb.toNat]? =some y2->Lp2 (fun Qj Ud y6b=>((0:Int)<=Qb/\Qb<(↑l.length:Int))/\ ∀y5,l[Qb.toNat]? =some y5->Cnd (Qj<Min.min y5.2 (10000:Int)) (((0:Int)<=Qj/\Qj<(↑Ud.length:Int))/\ ∀y7,Ud[Qj.toNat]? =some y7->InI (Qj+(1:Int))/\y6b (Qj+(1:Int)) (Ud.set Qj.toNat true)) (InI (Qb+(1:Int))/\q5i (Qb+(1:Int)) Ud)) (Max.max y2.1 (0:Int)) Zj) (K Zj)) (0:Int) (List.replicate (Int.toNat (10000:Int)) false)
abbrev z1v:Type:=List (Spn)->List (Spn)->(List (Spn)->Prop)->Prop
def z9o (Zw:Gt) (Q1:Wb) (a:List (Spn)) (b:List (Spn)) (K:List (Spn)->Prop):Prop:=Zw a fun Qb=>Zw b fun Qd=>Lp2 (fun Qg Z1 q8r=>Z1.length<=(9223372036854775807:Nat)->Cnd (Qg<(↑Z1.length:Int)) (((0:Int)<=Qg/\Qg<(↑Z1.length:Int))/\ ∀y4,Z1[Qg.toNat]? =some y4->Cnd (y4=true) (((0:Int)<=Qg/\Qg<(↑Z1.length:Int))/\ ∀y6,Z1[Qg.toNat]? =some y6->InI (Qg+(1:Int))/\q8r (Qg+(1:Int)) (Z1.set Qg.toNat true)) (((0:Int)<=Qg/\Qg<(↑Qd.length:Int))/\ ∀y6,Qd[Qg.toNat]? =some y6->((0:Int)<=Qg/\Qg<(↑Z1.length:Int))/\ ∀y8,Z1[Qg.toNat]? =some y8->InI (Qg+(1:Int))/\q8r (Qg+(1:Int)) (Z1.set Qg.toNat y6))) (Q1 Z1 fun Qj=>K Qj)) (0:Int) Qb
def q3y (a:List (Spn)) (b:List (Spn)) (K:List (Spn)->Prop):Prop:=z9o Vu Ji a b K
abbrev z1w:Type:=Envt->ByteArray->ByteArray->Int->(List (Spn)->Prop)->Prop
def z9p (Zk:Vc) (Rb:z1v) (Un:q2x) (Bx:z1u) (v:Envt) (layer:ByteArray) (but:ByteArray) (now:Int) (K:List (Spn)->Prop):Prop:=Zk (Envt.mk (Sett.mk v.1.1 v.1.2 v.1.3) v.2 v.3 v.4 v.5 v.6) layer fun Qb=>Cnd (Qb<(0:Int)) (K []) (Jn1 (fun Qd=>Lp2 (fun Qg Z1 q8r=>v.6.length<=(9223372036854775807:Nat)->Cnd (Z1<(↑v.6.length:Int)) (((0:Int)<=Z1/\Z1<(↑v.6.length:Int))/\ ∀y4,v.6[Z1.toNat]? =some y4->Cnd (y4.2=layer) (Cnd (y4.1=but) (InI (Z1+(1:Int))/\q8r Qg (Z1+(1:Int))) (Cnd (y4.5=(3:Int)) (InI (Z1+(1:Int))/\q8r Qg (Z1+(1:Int))) (Rb Qg y4.6 fun Js=>InI (Z1+(1:Int))/\q8r Js (Z1+(1:Int))))) (InI (Z1+(1:Int))/\q8r Qg (Z1+(1:Int)))) (K Qg)) Qd (0:Int)) fun w9e=>((0:Int)<=Qb/\Qb<(↑v.5.length:Int))/\ ∀y2,v.5[Qb.toNat]? =some y2->((0:Int)<=Qb/\Qb<(↑v.5.length:Int))/\ ∀y4,v.5[Qb.toNat]? =some y4->(Un y4.6 now fun Js=>Bx Js now fun Vf=>Rb [Spn.mk (0:Int) y2.4] Vf fun Uq=>w9e Uq)/\Un y4.6 now fun Js=>(Bx Js now fun Vf=>Rb [Spn.mk (0:Int) y2.4] Vf fun Uq=>w9e Uq)/\Bx Js now fun Vf=>Rb [Spn.mk (0:Int) y2.4] Vf fun Uq=>w9e Uq)
def q3z (v:Envt) (layer:ByteArray) (but:ByteArray) (now:Int) (K:List (Spn)->Prop):Prop:=z9p Wg q3y Ui q3x v layer but now K
abbrev q1k:Type:=List (Spn)->List (Spn)->(List (Spn)->Prop)->Prop
def z9q (Zw:Gt) (Q1:Wb) (a:List (Spn)) (b:List (Spn)) (K:List (Spn)->Prop):Prop:=Zw a fun Qb=>Zw b fun Qd=>Lp2 (fun Qg Z1 q8r=>Z1.length<=(9223372036854775807:Nat)->Cnd (Qg<(↑Z1.length:Int)) (((0:Int)<=Qg/\Qg<(↑Z1.length:Int))/\ ∀y4,Z1[Qg.toNat]? =some y4->Cnd (y4=true) (((0:Int)<=Qg/\Qg<(↑Qd.length:Int))/\ ∀y6,Qd[Qg.toNat]? =some y6->((0:Int)<=Qg/\Qg<(↑Z1.length:Int))/\ ∀y8,Z1[Qg.toNat]? =some y8->InI (Qg+(1:Int))/\q8r (Qg+(1:Int)) (Z1.set Qg.toNat (match decide (y6=true) with|true=>false|false=>true))) (((0:Int)<=Qg/\Qg<(↑Z1.length:Int))/\ ∀y6,Z1[Qg.toNat]? =some y6->InI (Qg+(1:Int))/\q8r (Qg+(1:Int)) (Z1.set Qg.toNat false))) (Q1 Z1 fun Qj=>K Qj)) (0:Int) Qb
def Hw (a:List (Spn)) (b:List (Spn)) (K:List (Spn)->Prop):Prop:=z9q Vu Ji a b K
abbrev z62:Type:=Envt->ByteArray->Int->(List (Spn)->Int->Prop)->Prop
def j4k (q66:z61) (Zk:Vc) (q4w:z1w) (W7:q1k) (v:Envt) (layer:ByteArray) (now:Int) (K:List (Spn)->Int->Prop):Prop:=q66 now fun Qb=>Cnd (Qb=true) (Zk (Envt.mk (Sett.mk v.1.1 v.1.2 v.1.3) v.2 v.3 v.4 v.5 v.6) layer fun Qd=>Cnd (Qd<(0:Int)) (K [] (11:Int)) (q4w (Envt.mk (Sett.mk v.1.1 v.1.2 v.1.3) v.2 v.3 v.4 v.5 v.6) layer (ByteArray.mk (Array.mk [])) now fun Qg=>W7 [Spn.mk (0:Int) (10000:Int)] Qg fun Qm=>K Qm (0:Int))) (K [] (3:Int))
def q6w (v:Envt) (layer:ByteArray) (now:Int) (K:List (Spn)->Int->Prop):Prop:=j4k q3w Wg q3z Hw v layer now K
abbrev z1x:Type:=List (Spn)->Int->(List (Spn)->Prop)->Prop
def z9r (Zw:Gt) (Q1:Wb) (l:List (Spn)) (n:Int) (K:List (Spn)->Prop):Prop:=Zw l fun Qb=>Lp3 (fun Qd Jk z9c u2x=>z9c.length<=(9223372036854775807:Nat)->Cnd (Jk<(↑z9c.length:Int)) (((0:Int)<=Jk/\Jk<(↑z9c.length:Int))/\ ∀y3,z9c[Jk.toNat]? =some y3->Cnd (y3=true) (Cnd (Qd<=(0:Int)) (((0:Int)<=Jk/\Jk<(↑z9c.length:Int))/\ ∀y5,z9c[Jk.toNat]? =some y5->InI (Jk+(1:Int))/\u2x Qd (Jk+(1:Int)) (z9c.set Jk.toNat false)) (((0:Int)<=Jk/\Jk<(↑z9c.length:Int))/\ ∀y5,z9c[Jk.toNat]? =some y5->Cnd (y5=true) (InI (Qd - (1:Int))/\InI (Jk+(1:Int))/\u2x (Qd - (1:Int)) (Jk+(1:Int)) z9c) (InI (Jk+(1:Int))/\u2x Qd (Jk+(1:Int)) z9c))) (((0:Int)<=Jk/\Jk<(↑z9c.length:Int))/\ ∀y5,z9c[Jk.toNat]? =some y5->Cnd (y5=true) (InI (Qd - (1:Int))/\InI (Jk+(1:Int))/\u2x (Qd - (1:Int)) (Jk+(1:Int)) z9c) (InI (Jk+(1:Int))/\u2x Qd (Jk+(1:Int)) z9c))) (Q1 z9c fun Qm=>K Qm)) n (0:Int) Qb
def q30 (l:List (Spn)) (n:Int) (K:List (Spn)->Prop):Prop:=z9r Vu Ji l n K
abbrev Ws:Type:=ByteArray->(Bool->Prop)->Prop
def Jp (s:ByteArray) (K:Bool->Prop):Prop:=s.size<=(9223372036854775807:Nat)/\K (Go.Lib.validD s.data.toList)
abbrev Jh:Type:=ByteArray->(Bool->Prop)->Prop
def z63 (Zl:Ws) (s:ByteArray) (K:Bool->Prop):Prop:=Cnd ((200:Int)<(↑s.size:Int)) (K false) (Zl s fun Qb=>Cnd (Qb=true) (Lp1 (fun Qd q59=>Cnd (Qd<(↑s.size:Int)) (((0:Int)<=Qd/\Qd<(↑s.size:Int))/\ ∀b2,s[Qd.toNat]? =some b2->Cnd ((↑b2.toNat:Int)<(32:Int)) (K false) (((0:Int)<=Qd/\Qd<(↑s.size:Int))/\ ∀b4,s[Qd.toNat]? =some b4->Cnd ((↑b4.toNat:Int)=(127:Int)) (K false) (InI (Qd+(1:Int))/\q59 (Qd+(1:Int))))) (K true)) (0:Int)) (K false))
def Zt (s:ByteArray) (K:Bool->Prop):Prop:=z63 Jp s K
abbrev j1k:Type:=ByteArray->(Bool->Prop)->Prop
def q7u (s:ByteArray) (K:Bool->Prop):Prop:=Lp1 (fun Qb q3r=>Cnd (Qb<(↑s.size:Int)) (((0:Int)<=Qb/\Qb<(↑s.size:Int))/\ ∀b1,s[Qb.toNat]? =some b1->Cnd ((97:Int)<=(↑b1.toNat:Int)) (Cnd ((↑b1.toNat:Int)<=(122:Int)) (InI (Qb+(1:Int))/\q3r (Qb+(1:Int))) (Cnd (Qb=(0:Int)) (K false) (Cnd ((48:Int)<=(↑b1.toNat:Int)) (Cnd ((↑b1.toNat:Int)<=(57:Int)) (InI (Qb+(1:Int))/\q3r (Qb+(1:Int))) (Cnd ((↑b1.toNat:Int)=(45:Int)) (InI (Qb+(1:Int))/\q3r (Qb+(1:Int))) (Cnd ((↑b1.toNat:Int)=(95:Int)) (InI (Qb+(1:Int))/\q3r (Qb+(1:Int))) (K false)))) (Cnd ((↑b1.toNat:Int)=(45:Int)) (InI (Qb+(1:Int))/\q3r (Qb+(1:Int))) (Cnd ((↑b1.toNat:Int)=(95:Int)) (InI (Qb+(1:Int))/\q3r (Qb+(1:Int))) (K false)))))) (Cnd (Qb=(0:Int)) (K false) (Cnd ((48:Int)<=(↑b1.toNat:Int)) (Cnd ((↑b1.toNat:Int)<=(57:Int)) (InI (Qb+(1:Int))/\q3r (Qb+(1:Int))) (Cnd ((↑b1.toNat:Int)=(45:Int)) (InI (Qb+(1:Int))/\q3r (Qb+(1:Int))) (Cnd ((↑b1.toNat:Int)=(95:Int)) (InI (Qb+(1:Int))/\q3r (Qb+(1:Int))) (K false)))) (Cnd ((↑b1.toNat:Int)=(45:Int)) (InI (Qb+(1:Int))/\q3r (Qb+(1:Int))) (Cnd ((↑b1.toNat:Int)=(95:Int)) (InI (Qb+(1:Int))/\q3r (Qb+(1:Int))) (K false)))))) (K (decide ((0:Int)<(↑s.size:Int))))) (0:Int)
abbrev q6f:Type:=(List (ByteArray)->Prop)->Prop
def Hx (K:List (ByteArray)->Prop):Prop:=K [ByteArray.mk (Array.mk [97,110,100]),ByteArray.mk (Array.mk [97,114,109,115]),ByteArray.mk (Array.mk [97,116,116,114,105,98,117,116,101]),ByteArray.mk (Array.mk [98,111,111,108]),ByteArray.mk (Array.mk [99,108,97,105,109,115]),ByteArray.mk (Array.mk [99,111,110,116,97,105,110,115]),ByteArray.mk (Array.mk [99,111,111,108]),ByteArray.mk (Array.mk [99,111,111,108,105,110,103]),ByteArray.mk (Array.mk [100,101,102,97,117,108,116]),ByteArray.mk (Array.mk [100,114,97,102,116]),ByteArray.mk (Array.mk [101,110,100,115]),ByteArray.mk (Array.mk [101,120,99,108,117,100,101]),ByteArray.mk (Array.mk [101,120,105,115,116,115]),ByteArray.mk (Array.mk [101,120,112,101,114,105,109,101,110,116]),ByteArray.mk (Array.mk [102,97,108,115,101]),ByteArray.mk (Array.mk [102,108,97,103]),ByteArray.mk (Array.mk [104,111,108,100,111,117,116]),ByteArray.mk (Array.mk [105,110]),ByteArray.mk (Array.mk [105,110,99,108,117,100,101]),ByteArray.mk (Array.mk [105,115]),ByteArray.mk (Array.mk [108,97,121,101,114]),ByteArray.mk (Array.mk [108,105,115,116]),ByteArray.mk (Array.mk [109,101,109,98,101,114]),ByteArray.mk (Array.mk [110,101,101,100,115]),ByteArray.mk (Array.mk [110,111,116]),ByteArray.mk (Array.mk [110,117,109,98,101,114]),ByteArray.mk (Array.mk [111,102,102]),ByteArray.mk (Array.mk [111,110]),ByteArray.mk (Array.mk [111,114]),ByteArray.mk (Array.mk [114,117,108,101]),ByteArray.mk (Array.mk [114,117,110,110,105,110,103]),ByteArray.mk (Array.mk [115,97,108,116]),ByteArray.mk (Array.mk [115,101,103,109,101,110,116]),ByteArray.mk (Array.mk [115,101,114,118,101]),ByteArray.mk (Array.mk [115,101,116,116,105,110,103,115]),ByteArray.mk (Array.mk [115,112,108,105,116]),ByteArray.mk (Array.mk [115,116,97,114,116,115]),ByteArray.mk (Array.mk [115,116,111,112,112,101,100]),ByteArray.mk (Array.mk [116,97,114,103,101,116]),ByteArray.mk (Array.mk [116,101,120,116]),ByteArray.mk (Array.mk [116,111]),ByteArray.mk (Array.mk [116,114,117,101]),ByteArray.mk (Array.mk [117,110,116,105,108]),ByteArray.mk (Array.mk [118,97,114,105,97,116,105,111,110,115]),ByteArray.mk (Array.mk [118,101,114,115,105,111,110]),ByteArray.mk (Array.mk [119,104,101,110])]
abbrev Z2:Type:=ByteArray->(Bool->Prop)->Prop
def w99 (z1a:j1k) (q0p:q6f) (s:ByteArray) (K:Bool->Prop):Prop:=z1a s fun Qb=>Cnd (Qb=true) (Cnd ((32:Int)<(↑s.size:Int)) (K false) (q0p fun Qd=>Lp1 (fun Qg j3z=>Qd.length<=(9223372036854775807:Nat)->Cnd (Qg<(↑Qd.length:Int)) (((0:Int)<=Qg/\Qg<(↑Qd.length:Int))/\ ∀y4,Qd[Qg.toNat]? =some y4->Cnd (y4=s) (K false) (InI (Qg+(1:Int))/\j3z (Qg+(1:Int)))) (K true)) (0:Int))) (K false)
def Zx (s:ByteArray) (K:Bool->Prop):Prop:=w99 q7u Hx s K
abbrev q6g:Type:=Sett->(Int->Prop)->Prop
def z1y (Qu:Jh) (Qk:Z2) (s:Sett) (K:Int->Prop):Prop:=Qu s.1 fun Qb=>Cnd (Qb=true) (Cnd (s.3<(0:Int)) (K (3:Int)) (Cnd ((10000:Int)<s.3) (K (3:Int)) (Qk s.2 fun Qd=>Cnd (Qd=true) (K (0:Int)) (Cnd (s.2=ByteArray.mk (Array.mk [])) (Cnd (s.3=(0:Int)) (K (0:Int)) (K (6:Int))) (K (6:Int)))))) (K (2:Int))
def B8 (s:Sett) (K:Int->Prop):Prop:=z1y Zt Zx s K
abbrev q6h:Type:=List (Decl)->(Int->Prop)->Prop
def z1z (Qk:Z2) (l:List (Decl)) (K:Int->Prop):Prop:=l.length<=(9223372036854775807:Nat)->Cnd ((30:Int)<(↑l.length:Int)) (K (5:Int)) (Lp1 (fun Qd q59=>l.length<=(9223372036854775807:Nat)->Cnd (Qd<(↑l.length:Int)) (((0:Int)<=Qd/\Qd<(↑l.length:Int))/\ ∀y3,l[Qd.toNat]? =some y3->Qk y3.1 fun Zb=>Cnd (Zb=true) (((0:Int)<=Qd/\Qd<(↑l.length:Int))/\ ∀y6,l[Qd.toNat]? =some y6->Qk y6.2 fun Uq=>Cnd (Uq=true) (((0:Int)<=Qd/\Qd<(↑l.length:Int))/\ ∀y9,l[Qd.toNat]? =some y9->Cnd (y9.2=ByteArray.mk (Array.mk [107,101,121])) (K (6:Int)) (((0:Int)<=Qd/\Qd<(↑l.length:Int))/\ ∀y11,l[Qd.toNat]? =some y11->Cnd (y11.3<(1:Int)) (K (7:Int)) (((0:Int)<=Qd/\Qd<(↑l.length:Int))/\ ∀y13,l[Qd.toNat]? =some y13->Cnd ((5:Int)<y13.3) (K (7:Int)) (Cnd ((0:Int)<Qd) (((0:Int)<=Qd/\Qd<(↑l.length:Int))/\ ∀y15,l[Qd.toNat]? =some y15->InI (Qd - (1:Int))/\((0:Int)<=Qd - (1:Int)/\Qd - (1:Int)<(↑l.length:Int))/\ ∀y17,l[(Qd - (1:Int)).toNat]? =some y17->Cnd (Lk.blt y15.1 y17.1) (K (9:Int)) (((0:Int)<=Qd/\Qd<(↑l.length:Int))/\ ∀y19,l[Qd.toNat]? =some y19->InI (Qd - (1:Int))/\((0:Int)<=Qd - (1:Int)/\Qd - (1:Int)<(↑l.length:Int))/\ ∀y21,l[(Qd - (1:Int)).toNat]? =some y21->Cnd (y19.1=y21.1) (((0:Int)<=Qd/\Qd<(↑l.length:Int))/\ ∀y23,l[Qd.toNat]? =some y23->InI (Qd - (1:Int))/\((0:Int)<=Qd - (1:Int)/\Qd - (1:Int)<(↑l.length:Int))/\ ∀y25,l[(Qd - (1:Int)).toNat]? =some y25->Cnd (Lk.blt y25.2 y23.2) (InI (Qd+(1:Int))/\q59 (Qd+(1:Int))) (K (9:Int))) (InI (Qd+(1:Int))/\q59 (Qd+(1:Int))))) (InI (Qd+(1:Int))/\q59 (Qd+(1:Int))))))) (K (6:Int))) (K (6:Int))) (K (0:Int))) (0:Int))
def B9 (l:List (Decl)) (K:Int->Prop):Prop:=z1z Zx l K
abbrev Bl:Type:=List (ByteArray)->(Int->Prop)->Prop
def z4q (Qu:Jh) (l:List (ByteArray)) (K:Int->Prop):Prop:=l.length<=(9223372036854775807:Nat)->Cnd ((40:Int)<(↑l.length:Int)) (K (5:Int)) (Lp1 (fun Qd q59=>l.length<=(9223372036854775807:Nat)->Cnd (Qd<(↑l.length:Int)) (((0:Int)<=Qd/\Qd<(↑l.length:Int))/\ ∀y3,l[Qd.toNat]? =some y3->Cnd (y3=ByteArray.mk (Array.mk [])) (K (2:Int)) (((0:Int)<=Qd/\Qd<(↑l.length:Int))/\ ∀y5,l[Qd.toNat]? =some y5->Qu y5 fun Vf=>Cnd (Vf=true) (Cnd ((0:Int)<Qd) (((0:Int)<=Qd/\Qd<(↑l.length:Int))/\ ∀y8,l[Qd.toNat]? =some y8->InI (Qd - (1:Int))/\((0:Int)<=Qd - (1:Int)/\Qd - (1:Int)<(↑l.length:Int))/\ ∀y10,l[(Qd - (1:Int)).toNat]? =some y10->Cnd (Lk.blt y10 y8) (InI (Qd+(1:Int))/\q59 (Qd+(1:Int))) (K (9:Int))) (InI (Qd+(1:Int))/\q59 (Qd+(1:Int)))) (K (2:Int)))) (K (0:Int))) (0:Int))
def U6 (l:List (ByteArray)) (K:Int->Prop):Prop:=z4q Zt l K
abbrev j1l:Type:=Ex->(Bool->Prop)->Prop
def q7v (e:Ex) (K:Bool->Prop):Prop:=Cnd (e.1=(0:Int)) (Cnd (e.2=ByteArray.mk (Array.mk [])) (Cnd (e.3=ByteArray.mk (Array.mk [])) (e.4.length<=(9223372036854775807:Nat)->Cnd ((↑e.4.length:Int)=(0:Int)) (e.5.length<=(9223372036854775807:Nat)->K (decide ((↑e.5.length:Int)=(0:Int)))) (K false)) (K false)) (K false)) (K false)
abbrev z10:Type:=Ex->(Bool->Prop)->Prop
def z9s (Qw:Wa) (e:Ex) (K:Bool->Prop):Prop:=e.5.length<=(9223372036854775807:Nat)->e.4.length<=(9223372036854775807:Nat)->Jn2 (fun Qg Z1=>Qw e.1 fun Qm=>Cnd (Qg=true) (Cnd (Z1=true) (Cnd (Qm=true) (Cnd (Qm=true) (K true) (Cnd (e.1=(5:Int)) (K true) (K (decide (e.3=ByteArray.mk (Array.mk [])))))) (Cnd (e.2=ByteArray.mk (Array.mk [])) (Cnd (Qm=true) (K true) (Cnd (e.1=(5:Int)) (K true) (K (decide (e.3=ByteArray.mk (Array.mk [])))))) (K false))) (K false)) (K false)) fun v7h=>Cnd (e.1=(2:Int)) (e.5.length<=(9223372036854775807:Nat)->v7h (decide ((2:Int)<=(↑e.5.length:Int))) (decide ((↑e.4.length:Int)=(0:Int)))) (Cnd (e.1=(3:Int)) (e.5.length<=(9223372036854775807:Nat)->v7h (decide ((2:Int)<=(↑e.5.length:Int))) (decide ((↑e.4.length:Int)=(0:Int)))) (Cnd (e.1=(4:Int)) (e.5.length<=(9223372036854775807:Nat)->v7h (decide ((↑e.5.length:Int)=(1:Int))) (decide ((↑e.4.length:Int)=(0:Int)))) (Cnd (e.1=(8:Int)) (e.4.length<=(9223372036854775807:Nat)->v7h (decide ((↑e.5.length:Int)=(0:Int))) (decide ((0:Int)<(↑e.4.length:Int)))) (Qw e.1 fun Qm=>Cnd (Qm=true) (Cnd (e.1=(6:Int)) (v7h (decide ((↑e.5.length:Int)=(0:Int))) (decide ((↑e.4.length:Int)=(0:Int)))) (e.4.length<=(9223372036854775807:Nat)->v7h (decide ((↑e.5.length:Int)=(0:Int))) (decide ((↑e.4.length:Int)=(1:Int))))) (v7h (decide ((↑e.5.length:Int)=(0:Int))) (decide ((↑e.4.length:Int)=(0:Int))))))))
def q31 (e:Ex) (K:Bool->Prop):Prop:=z9s Z8 e K
abbrev z64:Type:=Val->(Bool->Prop)->Prop
def q0a (v:Val) (K:Bool->Prop):Prop:=Cnd (v.1=(1:Int)) (Cnd (v.1=(3:Int)) (Cnd (v.1=(5:Int)) (K true) (v.4.length<=(9223372036854775807:Nat)->K (decide ((↑v.4.length:Int)=(0:Int))))) (Cnd (v.1=(4:Int)) (Cnd (v.1=(5:Int)) (K true) (v.4.length<=(9223372036854775807:Nat)->K (decide ((↑v.4.length:Int)=(0:Int))))) (Cnd (v.3=ByteArray.mk (Array.mk [])) (Cnd (v.1=(5:Int)) (K true) (v.4.length<=(9223372036854775807:Nat)->K (decide ((↑v.4.length:Int)=(0:Int))))) (K false)))) (Cnd (v.1=(3:Int)) (Cnd (v.1=(2:Int)) (Cnd (v.1=(5:Int)) (K true) (v.4.length<=(9223372036854775807:Nat)->K (decide ((↑v.4.length:Int)=(0:Int))))) (Cnd (v.2=(0:Int)) (Cnd (v.1=(5:Int)) (K true) (v.4.length<=(9223372036854775807:Nat)->K (decide ((↑v.4.length:Int)=(0:Int))))) (K false))) (Cnd (v.1=(2:Int)) (Cnd (v.1=(4:Int)) (Cnd (v.1=(5:Int)) (K true) (v.4.length<=(9223372036854775807:Nat)->K (decide ((↑v.4.length:Int)=(0:Int))))) (Cnd (v.3=ByteArray.mk (Array.mk [])) (Cnd (v.1=(5:Int)) (K true) (v.4.length<=(9223372036854775807:Nat)->K (decide ((↑v.4.length:Int)=(0:Int))))) (K false))) (Cnd (v.2=(0:Int)) (Cnd (v.1=(4:Int)) (Cnd (v.1=(5:Int)) (K true) (v.4.length<=(9223372036854775807:Nat)->K (decide ((↑v.4.length:Int)=(0:Int))))) (Cnd (v.3=ByteArray.mk (Array.mk [])) (Cnd (v.1=(5:Int)) (K true) (v.4.length<=(9223372036854775807:Nat)->K (decide ((↑v.4.length:Int)=(0:Int))))) (K false))) (K false))))
abbrev q1b:Type:=ByteArray->(Int->Int->Prop)->Prop
def Jx (s:ByteArray) (K:Int->Int->Prop):Prop:=Jn1 (fun Qb=>Lp1 (fun Qd q59=>Cnd (Qd<(↑Qb.size:Int)) (((0:Int)<=Qd/\Qd<(↑Qb.size:Int))/\ ∀b2,Qb[Qd.toNat]? =some b2->Cnd ((↑b2.toNat:Int)<(48:Int)) (K (0:Int) (1:Int)) (((0:Int)<=Qd/\Qd<(↑Qb.size:Int))/\ ∀b4,Qb[Qd.toNat]? =some b4->Cnd ((57:Int)<(↑b4.toNat:Int)) (K (0:Int) (1:Int)) (InI (Qd+(1:Int))/\q59 (Qd+(1:Int))))) (Cnd (Qb=ByteArray.mk (Array.mk [])) (K (0:Int) (1:Int)) (((0:Int)<=(0:Int)/\(0:Int)<(↑Qb.size:Int))/\ ∀b2,Qb[Int.toNat (0:Int)]? =some b2->Cnd ((↑b2.toNat:Int)=(48:Int)) (Cnd (s=ByteArray.mk (Array.mk [48])) (Cnd ((13:Int)<(↑Qb.size:Int)) (K (0:Int) (3:Int)) (Lp2 (fun Qj Ud y6b=>Cnd (Ud<(↑Qb.size:Int)) (InI ((10:Int)*Qj)/\((0:Int)<=Ud/\Ud<(↑Qb.size:Int))/\ ∀b5,Qb[Ud.toNat]? =some b5->InI (Go.IntKind.u8.wrap ((↑b5.toNat:Int) - (48:Int)))/\InI ((10:Int)*Qj+Go.IntKind.u8.wrap ((↑b5.toNat:Int) - (48:Int)))/\InI (Ud+(1:Int))/\y6b ((10:Int)*Qj+Go.IntKind.u8.wrap ((↑b5.toNat:Int) - (48:Int))) (Ud+(1:Int))) (Cnd ((1099511627776:Int)<Qj) (K (0:Int) (3:Int)) (Cnd ((↑Qb.size:Int)<(↑s.size:Int)) (InI ((0:Int) - Qj)/\K ((0:Int) - Qj) (0:Int)) (K Qj (0:Int))))) (0:Int) (0:Int))) (K (0:Int) (1:Int))) (Cnd ((13:Int)<(↑Qb.size:Int)) (K (0:Int) (3:Int)) (Lp2 (fun Qj Ud y6b=>Cnd (Ud<(↑Qb.size:Int)) (InI ((10:Int)*Qj)/\((0:Int)<=Ud/\Ud<(↑Qb.size:Int))/\ ∀b5,Qb[Ud.toNat]? =some b5->InI (Go.IntKind.u8.wrap ((↑b5.toNat:Int) - (48:Int)))/\InI ((10:Int)*Qj+Go.IntKind.u8.wrap ((↑b5.toNat:Int) - (48:Int)))/\InI (Ud+(1:Int))/\y6b ((10:Int)*Qj+Go.IntKind.u8.wrap ((↑b5.toNat:Int) - (48:Int))) (Ud+(1:Int))) (Cnd ((1099511627776:Int)<Qj) (K (0:Int) (3:Int)) (Cnd ((↑Qb.size:Int)<(↑s.size:Int)) (InI ((0:Int) - Qj)/\K ((0:Int) - Qj) (0:Int)) (K Qj (0:Int))))) (0:Int) (0:Int)))))) (0:Int)) fun z4e=>Cnd ((0:Int)<(↑s.size:Int)) (((0:Int)<=(0:Int)/\(0:Int)<(↑s.size:Int))/\ ∀b1,s[Int.toNat (0:Int)]? =some b1->Cnd ((↑b1.toNat:Int)=(45:Int)) (((0:Int)<=(1:Int)/\(1:Int)<=(↑s.size:Int)/\(↑s.size:Int)<=(↑s.size:Int))/\z4e (s.extract (Int.toNat (1:Int)) (↑s.size:Int).toNat)) (z4e s)) (z4e s)
abbrev q32:Type:=ByteArray->(A3->Bool->Prop)->Prop
def z65 (Vt:q1b) (s:ByteArray) (K:A3->Bool->Prop):Prop:=LpH (fun (Qb:Int×Int×Int×Int×Int×Int×Int×Int×Unit) q3r=>Cnd (Qb.snd.fst<(3:Int)) (Lp1 (fun Qd q59=>Cnd (Qd<(↑s.size:Int)) (((0:Int)<=Qd/\Qd<(↑s.size:Int))/\ ∀b2,s[Qd.toNat]? =some b2->Cnd ((↑b2.toNat:Int)=(46:Int)) (((0:Int)<=Qb.fst/\Qb.fst<=Qd/\Qd<=(↑s.size:Int))/\Vt (s.extract Qb.fst.toNat Qd.toNat) fun Qj Ud=>Cnd (Ud=(0:Int)) (Cnd (Qj<(0:Int)) (K ((0:Int),(0:Int),(0:Int)) false) (Cnd ((999999:Int)<Qj) (K ((0:Int),(0:Int),(0:Int)) false) (Cnd (decide (Qb.snd.fst<(2:Int))=decide (Qd<(↑s.size:Int))) (((0:Int)<=Qb.snd.fst/\Qb.snd.fst<(↑(3:Nat):Int))/\((True/\(Qb.snd.fst=(↑(nat_lit 0):Int)->InI (Qd+(1:Int))/\InI (Qb.snd.fst+(1:Int))/\q3r (Qd+(1:Int),Qb.snd.fst+(1:Int),Qj,Qb.snd.snd.snd.fst,Qb.snd.snd.snd.snd.fst,Qb.snd.snd.snd.snd.snd.fst,Qb.snd.snd.snd.snd.snd.snd.fst,Qb.snd.snd.snd.snd.snd.snd.snd.fst,())))/\(Qb.snd.fst=(↑(nat_lit 1):Int)->InI (Qd+(1:Int))/\InI (Qb.snd.fst+(1:Int))/\q3r (Qd+(1:Int),Qb.snd.fst+(1:Int),Qb.snd.snd.fst,Qj,Qb.snd.snd.snd.snd.fst,Qb.snd.snd.snd.snd.snd.fst,Qb.snd.snd.snd.snd.snd.snd.fst,Qb.snd.snd.snd.snd.snd.snd.snd.fst,())))/\(Qb.snd.fst=(↑(nat_lit 2):Int)->InI (Qd+(1:Int))/\InI (Qb.snd.fst+(1:Int))/\q3r (Qd+(1:Int),Qb.snd.fst+(1:Int),Qb.snd.snd.fst,Qb.snd.snd.snd.fst,Qj,Qb.snd.snd.snd.snd.snd.fst,Qb.snd.snd.snd.snd.snd.snd.fst,Qb.snd.snd.snd.snd.snd.snd.snd.fst,()))) (K ((0:Int),(0:Int),(0:Int)) false)))) (K ((0:Int),(0:Int),(0:Int)) false)) (InI (Qd+(1:Int))/\q59 (Qd+(1:Int)))) (((0:Int)<=Qb.fst/\Qb.fst<=Qd/\Qd<=(↑s.size:Int))/\Vt (s.extract Qb.fst.toNat Qd.toNat) fun Qg Z1=>Cnd (Z1=(0:Int)) (Cnd (Qg<(0:Int)) (K ((0:Int),(0:Int),(0:Int)) false) (Cnd ((999999:Int)<Qg) (K ((0:Int),(0:Int),(0:Int)) false) (Cnd (decide (Qb.snd.fst<(2:Int))=decide (Qd<(↑s.size:Int))) (((0:Int)<=Qb.snd.fst/\Qb.snd.fst<(↑(3:Nat):Int))/\((True/\(Qb.snd.fst=(↑(nat_lit 0):Int)->InI (Qd+(1:Int))/\InI (Qb.snd.fst+(1:Int))/\q3r (Qd+(1:Int),Qb.snd.fst+(1:Int),Qg,Qb.snd.snd.snd.fst,Qb.snd.snd.snd.snd.fst,Qb.snd.snd.snd.snd.snd.fst,Qb.snd.snd.snd.snd.snd.snd.fst,Qb.snd.snd.snd.snd.snd.snd.snd.fst,())))/\(Qb.snd.fst=(↑(nat_lit 1):Int)->InI (Qd+(1:Int))/\InI (Qb.snd.fst+(1:Int))/\q3r (Qd+(1:Int),Qb.snd.fst+(1:Int),Qb.snd.snd.fst,Qg,Qb.snd.snd.snd.snd.fst,Qb.snd.snd.snd.snd.snd.fst,Qb.snd.snd.snd.snd.snd.snd.fst,Qb.snd.snd.snd.snd.snd.snd.snd.fst,())))/\(Qb.snd.fst=(↑(nat_lit 2):Int)->InI (Qd+(1:Int))/\InI (Qb.snd.fst+(1:Int))/\q3r (Qd+(1:Int),Qb.snd.fst+(1:Int),Qb.snd.snd.fst,Qb.snd.snd.snd.fst,Qg,Qb.snd.snd.snd.snd.snd.fst,Qb.snd.snd.snd.snd.snd.snd.fst,Qb.snd.snd.snd.snd.snd.snd.snd.fst,()))) (K ((0:Int),(0:Int),(0:Int)) false)))) (K ((0:Int),(0:Int),(0:Int)) false))) Qb.fst) (K (Qb.snd.snd.fst,Qb.snd.snd.snd.fst,Qb.snd.snd.snd.snd.fst) true)) ((0:Int),(0:Int),(0:Int),(0:Int),(0:Int),(0:Int),(0:Int),(0:Int),())
def Gu (s:ByteArray) (K:A3->Bool->Prop):Prop:=z65 Jx s K
abbrev j1m:Type:=List (ByteArray)->(Int->Prop)->Prop
def j1n (Qu:Jh) (l:List (ByteArray)) (K:Int->Prop):Prop:=l.length<=(9223372036854775807:Nat)->Cnd ((20:Int)<(↑l.length:Int)) (K (5:Int)) (Lp1 (fun Qd q59=>l.length<=(9223372036854775807:Nat)->Cnd (Qd<(↑l.length:Int)) (((0:Int)<=Qd/\Qd<(↑l.length:Int))/\ ∀y3,l[Qd.toNat]? =some y3->Qu y3 fun Zb=>Cnd (Zb=true) (InI (Qd+(1:Int))/\q59 (Qd+(1:Int))) (K (2:Int))) (Lp1 (fun Qm j0z=>l.length<=(9223372036854775807:Nat)->Cnd (Qm<(↑l.length:Int)) (((0:Int)<=Qm/\Qm<(↑l.length:Int))/\ ∀y5,l[Qm.toNat]? =some y5->InI (Qm - (1:Int))/\((0:Int)<=Qm - (1:Int)/\Qm - (1:Int)<(↑l.length:Int))/\ ∀y7,l[(Qm - (1:Int)).toNat]? =some y7->Cnd (Lk.blt y7 y5) (InI (Qm+(1:Int))/\j0z (Qm+(1:Int))) (K (9:Int))) (K (0:Int))) (1:Int))) (0:Int))
def q5m (l:List (ByteArray)) (K:Int->Prop):Prop:=j1n Zt l K
abbrev Rq:Type:=Val->(Int->Prop)->Prop
def z66 (q67:z64) (Qu:Jh) (Vl:q32) (z1b:j1m) (v:Val) (K:Int->Prop):Prop:=Cnd (v.1<(1:Int)) (K (7:Int)) (Cnd ((5:Int)<v.1) (K (7:Int)) (q67 v fun Qb=>Cnd (Qb=true) (Cnd (v.1=(1:Int)) (Cnd (v.2=(0:Int)) (K (0:Int)) (Cnd (v.2=(1:Int)) (K (0:Int)) (K (3:Int)))) (Cnd (v.1=(2:Int)) (Cnd (v.2<(-1099511627776:Int)) (K (3:Int)) (Cnd ((1099511627776:Int)<v.2) (K (3:Int)) (K (0:Int)))) (Cnd (v.1=(3:Int)) (Qu v.3 fun Qd=>Cnd (Qd=true) (K (0:Int)) (K (2:Int))) (Cnd (v.1=(4:Int)) (Vl v.3 fun (_:Int×Int×Int) Jk=>Cnd (Jk=true) (K (0:Int)) (K (1:Int))) (Cnd (v.1=(5:Int)) (z1b v.4 fun Qd=>K Qd) (K (0:Int))))))) (K (15:Int))))
def Vg (v:Val) (K:Int->Prop):Prop:=z66 q0a Zt Gu q5m v K
abbrev j1o:Type:=Ex->(Int->Prop)->Prop
def w07 (q4x:z10) (Qw:Wa) (Qk:Z2) (Zu:Rq) (e:Ex) (K:Int->Prop):Prop:=Cnd (e.1<(1:Int)) (K (7:Int)) (Cnd ((15:Int)<e.1) (K (7:Int)) (q4x (Ex.mk e.1 e.2 e.3 e.4 e.5) fun Qb=>Cnd (Qb=true) (e.5.length<=(9223372036854775807:Nat)->Cnd ((12:Int)<(↑e.5.length:Int)) (K (5:Int)) (e.4.length<=(9223372036854775807:Nat)->Cnd ((20:Int)<(↑e.4.length:Int)) (K (5:Int)) (Lp1 (fun Qm j0z=>e.5.length<=(9223372036854775807:Nat)->Cnd (Qm<(↑e.5.length:Int)) (((0:Int)<=Qm/\Qm<(↑e.5.length:Int))/\ ∀y5,e.5[Qm.toNat]? =some y5->Cnd (y5.1=e.1) (Cnd (e.1=(4:Int)) (InI (Qm+(1:Int))/\j0z (Qm+(1:Int))) (K (15:Int))) (InI (Qm+(1:Int))/\j0z (Qm+(1:Int)))) (Qw e.1 fun Zb=>Cnd (Zb=true) (Qk e.2 fun Js=>Cnd (Js=true) (Qw e.1 fun Vf=>Cnd (Vf=true) (Qk e.3 fun Uq=>Cnd (Uq=true) (Lp1 (fun Q7 u8e=>e.4.length<=(9223372036854775807:Nat)->Cnd (Q7<(↑e.4.length:Int)) (((0:Int)<=Q7/\Q7<(↑e.4.length:Int))/\ ∀y11,e.4[Q7.toNat]? =some y11->Zu y11 fun Zo=>Cnd (Zo=(0:Int)) (InI (Q7+(1:Int))/\u8e (Q7+(1:Int))) (K Zo)) (Cnd (e.1=(9:Int)) (((0:Int)<=(0:Int)/\(0:Int)<(↑e.4.length:Int))/\ ∀y11,e.4[Int.toNat (0:Int)]? =some y11->Cnd (y11.1=(3:Int)) (K (0:Int)) (K (8:Int))) (Cnd (e.1=(10:Int)) (((0:Int)<=(0:Int)/\(0:Int)<(↑e.4.length:Int))/\ ∀y11,e.4[Int.toNat (0:Int)]? =some y11->Cnd (y11.1=(3:Int)) (K (0:Int)) (K (8:Int))) (Cnd (e.1=(11:Int)) (((0:Int)<=(0:Int)/\(0:Int)<(↑e.4.length:Int))/\ ∀y11,e.4[Int.toNat (0:Int)]? =some y11->Cnd (y11.1=(3:Int)) (K (0:Int)) (K (8:Int))) (K (0:Int)))))) (0:Int)) (K (6:Int))) (Cnd (e.1=(5:Int)) (Qk e.3 fun Uq=>Cnd (Uq=true) (Lp1 (fun Q7 u8e=>e.4.length<=(9223372036854775807:Nat)->Cnd (Q7<(↑e.4.length:Int)) (((0:Int)<=Q7/\Q7<(↑e.4.length:Int))/\ ∀y11,e.4[Q7.toNat]? =some y11->Zu y11 fun Zo=>Cnd (Zo=(0:Int)) (InI (Q7+(1:Int))/\u8e (Q7+(1:Int))) (K Zo)) (Cnd (e.1=(9:Int)) (((0:Int)<=(0:Int)/\(0:Int)<(↑e.4.length:Int))/\ ∀y11,e.4[Int.toNat (0:Int)]? =some y11->Cnd (y11.1=(3:Int)) (K (0:Int)) (K (8:Int))) (Cnd (e.1=(10:Int)) (((0:Int)<=(0:Int)/\(0:Int)<(↑e.4.length:Int))/\ ∀y11,e.4[Int.toNat (0:Int)]? =some y11->Cnd (y11.1=(3:Int)) (K (0:Int)) (K (8:Int))) (Cnd (e.1=(11:Int)) (((0:Int)<=(0:Int)/\(0:Int)<(↑e.4.length:Int))/\ ∀y11,e.4[Int.toNat (0:Int)]? =some y11->Cnd (y11.1=(3:Int)) (K (0:Int)) (K (8:Int))) (K (0:Int)))))) (0:Int)) (K (6:Int))) (Lp1 (fun Uq u8f=>e.4.length<=(9223372036854775807:Nat)->Cnd (Uq<(↑e.4.length:Int)) (((0:Int)<=Uq/\Uq<(↑e.4.length:Int))/\ ∀y10,e.4[Uq.toNat]? =some y10->Zu y10 fun R9=>Cnd (R9=(0:Int)) (InI (Uq+(1:Int))/\u8f (Uq+(1:Int))) (K R9)) (Cnd (e.1=(9:Int)) (((0:Int)<=(0:Int)/\(0:Int)<(↑e.4.length:Int))/\ ∀y10,e.4[Int.toNat (0:Int)]? =some y10->Cnd (y10.1=(3:Int)) (K (0:Int)) (K (8:Int))) (Cnd (e.1=(10:Int)) (((0:Int)<=(0:Int)/\(0:Int)<(↑e.4.length:Int))/\ ∀y10,e.4[Int.toNat (0:Int)]? =some y10->Cnd (y10.1=(3:Int)) (K (0:Int)) (K (8:Int))) (Cnd (e.1=(11:Int)) (((0:Int)<=(0:Int)/\(0:Int)<(↑e.4.length:Int))/\ ∀y10,e.4[Int.toNat (0:Int)]? =some y10->Cnd (y10.1=(3:Int)) (K (0:Int)) (K (8:Int))) (K (0:Int)))))) (0:Int)))) (K (6:Int))) (Qw e.1 fun Js=>Cnd (Js=true) (Qk e.3 fun Vf=>Cnd (Vf=true) (Lp1 (fun Uq u8f=>e.4.length<=(9223372036854775807:Nat)->Cnd (Uq<(↑e.4.length:Int)) (((0:Int)<=Uq/\Uq<(↑e.4.length:Int))/\ ∀y10,e.4[Uq.toNat]? =some y10->Zu y10 fun R9=>Cnd (R9=(0:Int)) (InI (Uq+(1:Int))/\u8f (Uq+(1:Int))) (K R9)) (Cnd (e.1=(9:Int)) (((0:Int)<=(0:Int)/\(0:Int)<(↑e.4.length:Int))/\ ∀y10,e.4[Int.toNat (0:Int)]? =some y10->Cnd (y10.1=(3:Int)) (K (0:Int)) (K (8:Int))) (Cnd (e.1=(10:Int)) (((0:Int)<=(0:Int)/\(0:Int)<(↑e.4.length:Int))/\ ∀y10,e.4[Int.toNat (0:Int)]? =some y10->Cnd (y10.1=(3:Int)) (K (0:Int)) (K (8:Int))) (Cnd (e.1=(11:Int)) (((0:Int)<=(0:Int)/\(0:Int)<(↑e.4.length:Int))/\ ∀y10,e.4[Int.toNat (0:Int)]? =some y10->Cnd (y10.1=(3:Int)) (K (0:Int)) (K (8:Int))) (K (0:Int)))))) (0:Int)) (K (6:Int))) (Cnd (e.1=(5:Int)) (Qk e.3 fun Vf=>Cnd (Vf=true) (Lp1 (fun Uq u8f=>e.4.length<=(9223372036854775807:Nat)->Cnd (Uq<(↑e.4.length:Int)) (((0:Int)<=Uq/\Uq<(↑e.4.length:Int))/\ ∀y10,e.4[Uq.toNat]? =some y10->Zu y10 fun R9=>Cnd (R9=(0:Int)) (InI (Uq+(1:Int))/\u8f (Uq+(1:Int))) (K R9)) (Cnd (e.1=(9:Int)) (((0:Int)<=(0:Int)/\(0:Int)<(↑e.4.length:Int))/\ ∀y10,e.4[Int.toNat (0:Int)]? =some y10->Cnd (y10.1=(3:Int)) (K (0:Int)) (K (8:Int))) (Cnd (e.1=(10:Int)) (((0:Int)<=(0:Int)/\(0:Int)<(↑e.4.length:Int))/\ ∀y10,e.4[Int.toNat (0:Int)]? =some y10->Cnd (y10.1=(3:Int)) (K (0:Int)) (K (8:Int))) (Cnd (e.1=(11:Int)) (((0:Int)<=(0:Int)/\(0:Int)<(↑e.4.length:Int))/\ ∀y10,e.4[Int.toNat (0:Int)]? =some y10->Cnd (y10.1=(3:Int)) (K (0:Int)) (K (8:Int))) (K (0:Int)))))) (0:Int)) (K (6:Int))) (Lp1 (fun Vf u8g=>e.4.length<=(9223372036854775807:Nat)->Cnd (Vf<(↑e.4.length:Int)) (((0:Int)<=Vf/\Vf<(↑e.4.length:Int))/\ ∀y9,e.4[Vf.toNat]? =some y9->Zu y9 fun G6=>Cnd (G6=(0:Int)) (InI (Vf+(1:Int))/\u8g (Vf+(1:Int))) (K G6)) (Cnd (e.1=(9:Int)) (((0:Int)<=(0:Int)/\(0:Int)<(↑e.4.length:Int))/\ ∀y9,e.4[Int.toNat (0:Int)]? =some y9->Cnd (y9.1=(3:Int)) (K (0:Int)) (K (8:Int))) (Cnd (e.1=(10:Int)) (((0:Int)<=(0:Int)/\(0:Int)<(↑e.4.length:Int))/\ ∀y9,e.4[Int.toNat (0:Int)]? =some y9->Cnd (y9.1=(3:Int)) (K (0:Int)) (K (8:Int))) (Cnd (e.1=(11:Int)) (((0:Int)<=(0:Int)/\(0:Int)<(↑e.4.length:Int))/\ ∀y9,e.4[Int.toNat (0:Int)]? =some y9->Cnd (y9.1=(3:Int)) (K (0:Int)) (K (8:Int))) (K (0:Int)))))) (0:Int)))))) (0:Int)))) (K (15:Int))))
def z0l (e:Ex) (K:Int->Prop):Prop:=w07 q31 Z8 Zx Vg e K
abbrev q7w:Type:=Ex->Int->Int->(Int->Int->Prop)->Prop
def w08 (z1c:j1o) (X:q7w) (e:Ex) (depth:Int) (n:Int) (K:Int->Int->Prop):Prop:=Cnd ((60:Int)<=n) (K (5:Int) n) (InI (n+(1:Int))/\Cnd ((10:Int)<depth) (K (18:Int) (n+(1:Int))) (z1c (Ex.mk e.1 e.2 e.3 e.4 e.5) fun Qb=>Cnd (Qb=(0:Int)) (Lp2 (fun Qd Jk j0x=>e.5.length<=(9223372036854775807:Nat)->Cnd (Qd<(↑e.5.length:Int)) (((0:Int)<=Qd/\Qd<(↑e.5.length:Int))/\ ∀y3,e.5[Qd.toNat]? =some y3->InI (depth+(1:Int))/\X (Ex.mk y3.1 y3.2 y3.3 y3.4 y3.5) (depth+(1:Int)) Jk fun Zb z4f=>Cnd (Zb=(0:Int)) (InI (Qd+(1:Int))/\j0x (Qd+(1:Int)) z4f) (K Zb z4f)) (K (0:Int) Jk)) (0:Int) (n+(1:Int))) (K Qb (n+(1:Int)))))
def z0m (e:Ex) (depth:Int) (n:Int) (K:Int->Int->Prop):Prop:= ∀X:q7w,(∀e depth n K,w08 z0l X e depth n K->X e depth n K)->X e depth n K
abbrev q04:Type:=Ex->(Int->Prop)->Prop
def w09 (z1d:q7w) (e:Ex) (K:Int->Prop):Prop:=z1d (Ex.mk e.1 e.2 e.3 e.4 e.5) (1:Int) (0:Int) fun Qb _=>K Qb
def Rg (e:Ex) (K:Int->Prop):Prop:=w09 z0m e K
abbrev q8x:Type:=Seg->(Int->Prop)->Prop
def z4r (Qk:Z2) (Wc:Bl) (z1e:j1l) (Wl:q04) (g:Seg) (K:Int->Prop):Prop:=Qk g.1 fun Qb=>Cnd (Qb=true) (Qk g.2 fun Qd=>Cnd (Qd=true) (Wc g.3 fun Qg=>Cnd (Qg=(0:Int)) (Wc g.4 fun Qm=>Cnd (Qm=(0:Int)) (z1e (Ex.mk g.5.1 g.5.2 g.5.3 g.5.4 g.5.5) fun Qj=>Cnd (Qj=true) (K (0:Int)) (Wl (Ex.mk g.5.1 g.5.2 g.5.3 g.5.4 g.5.5) fun Zb=>K Zb)) (K Qm)) (K Qg)) (K (6:Int))) (K (6:Int))
def q12 (g:Seg) (K:Int->Prop):Prop:=z4r Zx U6 q7v Rg g K
abbrev q6i:Type:=List (Seg)->(Int->Prop)->Prop
def z11 (q2e:q8x) (l:List (Seg)) (K:Int->Prop):Prop:=l.length<=(9223372036854775807:Nat)->Cnd ((20:Int)<(↑l.length:Int)) (K (5:Int)) (Lp1 (fun Qd q59=>l.length<=(9223372036854775807:Nat)->Cnd (Qd<(↑l.length:Int)) (((0:Int)<=Qd/\Qd<(↑l.length:Int))/\ ∀y3,l[Qd.toNat]? =some y3->q2e (Seg.mk y3.1 y3.2 y3.3 y3.4 (Ex.mk y3.5.1 y3.5.2 y3.5.3 y3.5.4 y3.5.5)) fun Zb=>Cnd (Zb=(0:Int)) (Cnd ((0:Int)<Qd) (((0:Int)<=Qd/\Qd<(↑l.length:Int))/\ ∀y6,l[Qd.toNat]? =some y6->InI (Qd - (1:Int))/\((0:Int)<=Qd - (1:Int)/\Qd - (1:Int)<(↑l.length:Int))/\ ∀y8,l[(Qd - (1:Int)).toNat]? =some y8->Cnd (Lk.blt y8.1 y6.1) (InI (Qd+(1:Int))/\q59 (Qd+(1:Int))) (K (9:Int))) (InI (Qd+(1:Int))/\q59 (Qd+(1:Int)))) (K Zb)) (K (0:Int))) (0:Int))
def q0b (l:List (Seg)) (K:Int->Prop):Prop:=z11 q12 l K
abbrev q2y:Type:=Flg->(Int->Prop)->Prop
def q7x (Zu:Rq) (f:Flg) (K:Int->Prop):Prop:=f.3.length<=(9223372036854775807:Nat)->Cnd ((8:Int)<(↑f.3.length:Int)) (K (5:Int)) (Cnd ((↑f.3.length:Int)=(0:Int)) (K (3:Int)) (Lp1 (fun Qd q59=>Cnd (Qd<(↑f.3.length:Int)) (((0:Int)<=Qd/\Qd<(↑f.3.length:Int))/\ ∀y2,f.3[Qd.toNat]? =some y2->Zu y2 fun Qj=>Cnd (Qj=(0:Int)) (((0:Int)<=Qd/\Qd<(↑f.3.length:Int))/\ ∀y5,f.3[Qd.toNat]? =some y5->Cnd (y5.1=f.2) (InI (Qd+(1:Int))/\q59 (Qd+(1:Int))) (K (8:Int))) (K Qj)) (Cnd (f.5<(1:Int)) (K (3:Int)) (Cnd ((↑f.3.length:Int)<f.5) (K (3:Int)) (K (0:Int))))) (0:Int)))
def Gv (f:Flg) (K:Int->Prop):Prop:=q7x Vg f K
abbrev Ba:Type:=List (Prq)->(Int->Prop)->Prop
def q2z (Qk:Z2) (l:List (Prq)) (K:Int->Prop):Prop:=l.length<=(9223372036854775807:Nat)->Cnd ((4:Int)<(↑l.length:Int)) (K (5:Int)) (Lp1 (fun Qd q59=>l.length<=(9223372036854775807:Nat)->Cnd (Qd<(↑l.length:Int)) (((0:Int)<=Qd/\Qd<(↑l.length:Int))/\ ∀y3,l[Qd.toNat]? =some y3->Qk y3.1 fun Zb=>Cnd (Zb=true) (Cnd ((0:Int)<Qd) (((0:Int)<=Qd/\Qd<(↑l.length:Int))/\ ∀y6,l[Qd.toNat]? =some y6->InI (Qd - (1:Int))/\((0:Int)<=Qd - (1:Int)/\Qd - (1:Int)<(↑l.length:Int))/\ ∀y8,l[(Qd - (1:Int)).toNat]? =some y8->Cnd (Lk.blt y8.1 y6.1) (((0:Int)<=Qd/\Qd<(↑l.length:Int))/\ ∀y10,l[Qd.toNat]? =some y10->Cnd (y10.2<(1:Int)) (K (3:Int)) (((0:Int)<=Qd/\Qd<(↑l.length:Int))/\ ∀y12,l[Qd.toNat]? =some y12->Cnd ((8:Int)<y12.2) (K (3:Int)) (InI (Qd+(1:Int))/\q59 (Qd+(1:Int))))) (K (9:Int))) (((0:Int)<=Qd/\Qd<(↑l.length:Int))/\ ∀y6,l[Qd.toNat]? =some y6->Cnd (y6.2<(1:Int)) (K (3:Int)) (((0:Int)<=Qd/\Qd<(↑l.length:Int))/\ ∀y8,l[Qd.toNat]? =some y8->Cnd ((8:Int)<y8.2) (K (3:Int)) (InI (Qd+(1:Int))/\q59 (Qd+(1:Int)))))) (K (6:Int))) (K (0:Int))) (0:Int))
def Vh (l:List (Prq)) (K:Int->Prop):Prop:=q2z Zx l K
abbrev q8y:Type:=List (Tgt)->Int->(Int->Prop)->Prop
def z4s (Qk:Z2) (Wc:Bl) (l:List (Tgt)) (n:Int) (K:Int->Prop):Prop:=l.length<=(9223372036854775807:Nat)->Cnd ((8:Int)<(↑l.length:Int)) (K (5:Int)) (Lp1 (fun Qd q59=>l.length<=(9223372036854775807:Nat)->Cnd (Qd<(↑l.length:Int)) (((0:Int)<=Qd/\Qd<(↑l.length:Int))/\ ∀y3,l[Qd.toNat]? =some y3->Qk y3.1 fun Zb=>Cnd (Zb=true) (((0:Int)<=Qd/\Qd<(↑l.length:Int))/\ ∀y6,l[Qd.toNat]? =some y6->Cnd (y6.2<(1:Int)) (K (3:Int)) (((0:Int)<=Qd/\Qd<(↑l.length:Int))/\ ∀y8,l[Qd.toNat]? =some y8->Cnd (n<y8.2) (K (3:Int)) (((0:Int)<=Qd/\Qd<(↑l.length:Int))/\ ∀y10,l[Qd.toNat]? =some y10->y10.3.length<=(9223372036854775807:Nat)->Cnd ((↑y10.3.length:Int)=(0:Int)) (K (3:Int)) (((0:Int)<=Qd/\Qd<(↑l.length:Int))/\ ∀y13,l[Qd.toNat]? =some y13->Wc y13.3 fun y59=>Cnd (y59=(0:Int)) (InI (Qd+(1:Int))/\q59 (Qd+(1:Int))) (K y59))))) (K (6:Int))) (K (0:Int))) (0:Int))
def q13 (l:List (Tgt)) (n:Int) (K:Int->Prop):Prop:=z4s Zx U6 l n K
abbrev q33:Type:=List (Rng)->Int->(Int->Prop)->Prop
def Rr (l:List (Rng)) (variations:Int) (K:Int->Prop):Prop:=l.length<=(9223372036854775807:Nat)->Cnd ((16:Int)<(↑l.length:Int)) (K (5:Int)) (Lp2 (fun Qd Jk j0x=>l.length<=(9223372036854775807:Nat)->Cnd (Jk<(↑l.length:Int)) (((0:Int)<=Jk/\Jk<(↑l.length:Int))/\ ∀y3,l[Jk.toNat]? =some y3->Cnd (y3.3<(1:Int)) (K (3:Int)) (((0:Int)<=Jk/\Jk<(↑l.length:Int))/\ ∀y5,l[Jk.toNat]? =some y5->Cnd (variations<y5.3) (K (3:Int)) (((0:Int)<=Jk/\Jk<(↑l.length:Int))/\ ∀y7,l[Jk.toNat]? =some y7->Cnd (y7.1=Qd) (((0:Int)<=Jk/\Jk<(↑l.length:Int))/\ ∀y9,l[Jk.toNat]? =some y9->Cnd (y9.2<=Qd) (K (9:Int)) (Cnd ((0:Int)<Jk) (((0:Int)<=Jk/\Jk<(↑l.length:Int))/\ ∀y11,l[Jk.toNat]? =some y11->InI (Jk - (1:Int))/\((0:Int)<=Jk - (1:Int)/\Jk - (1:Int)<(↑l.length:Int))/\ ∀y13,l[(Jk - (1:Int)).toNat]? =some y13->Cnd (y11.3=y13.3) (K (9:Int)) (((0:Int)<=Jk/\Jk<(↑l.length:Int))/\ ∀y15,l[Jk.toNat]? =some y15->InI (Jk+(1:Int))/\j0x y15.2 (Jk+(1:Int)))) (((0:Int)<=Jk/\Jk<(↑l.length:Int))/\ ∀y11,l[Jk.toNat]? =some y11->InI (Jk+(1:Int))/\j0x y11.2 (Jk+(1:Int))))) (K (9:Int))))) (Cnd (Qd=(10000:Int)) (K (0:Int)) (K (3:Int)))) (0:Int) (0:Int))
abbrev q34:Type:=Srv->Int->(Int->Prop)->Prop
def j4l (Qk:Z2) (Qu:Jh) (V9:q33) (v:Srv) (variations:Int) (K:Int->Prop):Prop:=Cnd (v.1=(0:Int)) (Qk v.2 fun Qb=>Cnd (Qb=true) (Qk v.3 fun Qd=>Cnd (Qd=true) (Qu v.4 fun Qg=>Cnd (Qg=true) (V9 v.5 variations fun Qm=>K Qm) (K (2:Int))) (K (6:Int))) (K (6:Int))) (Cnd (v.1<(1:Int)) (K (3:Int)) (Cnd (variations<v.1) (K (3:Int)) (Cnd (v.2=ByteArray.mk (Array.mk [])) (Cnd (v.3=ByteArray.mk (Array.mk [])) (Cnd (v.4=ByteArray.mk (Array.mk [])) (v.5.length<=(9223372036854775807:Nat)->Cnd ((0:Int)<(↑v.5.length:Int)) (K (15:Int)) (K (0:Int))) (K (15:Int))) (K (15:Int))) (K (15:Int)))))
def q0c (v:Srv) (variations:Int) (K:Int->Prop):Prop:=j4l Zx Zt Rr v variations K
abbrev z67:Type:=List (Rul)->Int->(Int->Prop)->Prop
def j4m (Qk:Z2) (Wl:q04) (Ua:q34) (l:List (Rul)) (n:Int) (K:Int->Prop):Prop:=l.length<=(9223372036854775807:Nat)->Cnd ((12:Int)<(↑l.length:Int)) (K (5:Int)) (Lp1 (fun Qd q59=>l.length<=(9223372036854775807:Nat)->Cnd (Qd<(↑l.length:Int)) (((0:Int)<=Qd/\Qd<(↑l.length:Int))/\ ∀y3,l[Qd.toNat]? =some y3->Qk y3.1 fun Zb=>Cnd (Zb=true) (Lp1 (fun Js u6g=>Cnd (Js<Qd) (((0:Int)<=Js/\Js<(↑l.length:Int))/\ ∀y7,l[Js.toNat]? =some y7->((0:Int)<=Qd/\Qd<(↑l.length:Int))/\ ∀y9,l[Qd.toNat]? =some y9->Cnd (y7.1=y9.1) (K (10:Int)) (InI (Js+(1:Int))/\u6g (Js+(1:Int)))) (((0:Int)<=Qd/\Qd<(↑l.length:Int))/\ ∀y7,l[Qd.toNat]? =some y7->Wl (Ex.mk y7.2.1 y7.2.2 y7.2.3 y7.2.4 y7.2.5) fun Q7=>Cnd (Q7=(0:Int)) (((0:Int)<=Qd/\Qd<(↑l.length:Int))/\ ∀y10,l[Qd.toNat]? =some y10->Ua (Srv.mk y10.3.1 y10.3.2 y10.3.3 y10.3.4 y10.3.5) n fun R9=>Cnd (R9=(0:Int)) (InI (Qd+(1:Int))/\q59 (Qd+(1:Int))) (K R9)) (K Q7))) (0:Int)) (K (6:Int))) (K (0:Int))) (0:Int))
def q6x (l:List (Rul)) (n:Int) (K:Int->Prop):Prop:=j4m Zx Rg q0c l n K
abbrev j1p:Type:=Flg->(Int->Prop)->Prop
def w1a (Qk:Z2) (Hc:q2y) (Vm:Ba) (q2f:q8y) (q68:z67) (Ua:q34) (f:Flg) (K:Int->Prop):Prop:=f.3.length<=(9223372036854775807:Nat)->Qk f.1 fun Qd=>Cnd (Qd=true) (Cnd (f.2<(1:Int)) (K (7:Int)) (Cnd ((5:Int)<f.2) (K (7:Int)) (Hc (Flg.mk f.1 f.2 f.3 f.4 f.5 f.6 f.7 f.8 (Srv.mk f.9.1 f.9.2 f.9.3 f.9.4 f.9.5)) fun Qg=>Cnd (Qg=(0:Int)) (Vm f.6 fun Qm=>Cnd (Qm=(0:Int)) (q2f f.7 (↑f.3.length:Int) fun Qj=>Cnd (Qj=(0:Int)) (q68 f.8 (↑f.3.length:Int) fun Zb=>Cnd (Zb=(0:Int)) (Ua (Srv.mk f.9.1 f.9.2 f.9.3 f.9.4 f.9.5) (↑f.3.length:Int) fun Js=>K Js) (K Zb)) (K Qj)) (K Qm)) (K Qg)))) (K (6:Int))
def z0n (f:Flg) (K:Int->Prop):Prop:=w1a Zx Gv Vh q13 q6x q0c f K
abbrev z68:Type:=List (Flg)->(Int->Prop)->Prop
def j4n (z1f:j1p) (l:List (Flg)) (K:Int->Prop):Prop:=l.length<=(9223372036854775807:Nat)->Cnd ((30:Int)<(↑l.length:Int)) (K (5:Int)) (Lp1 (fun Qd q59=>l.length<=(9223372036854775807:Nat)->Cnd (Qd<(↑l.length:Int)) (((0:Int)<=Qd/\Qd<(↑l.length:Int))/\ ∀y3,l[Qd.toNat]? =some y3->z1f (Flg.mk y3.1 y3.2 y3.3 y3.4 y3.5 y3.6 y3.7 y3.8 (Srv.mk y3.9.1 y3.9.2 y3.9.3 y3.9.4 y3.9.5)) fun Zb=>Cnd (Zb=(0:Int)) (Cnd ((0:Int)<Qd) (((0:Int)<=Qd/\Qd<(↑l.length:Int))/\ ∀y6,l[Qd.toNat]? =some y6->InI (Qd - (1:Int))/\((0:Int)<=Qd - (1:Int)/\Qd - (1:Int)<(↑l.length:Int))/\ ∀y8,l[(Qd - (1:Int)).toNat]? =some y8->Cnd (Lk.blt y8.1 y6.1) (InI (Qd+(1:Int))/\q59 (Qd+(1:Int))) (K (9:Int))) (InI (Qd+(1:Int))/\q59 (Qd+(1:Int)))) (K Zb)) (K (0:Int))) (0:Int))
def q6y (l:List (Flg)) (K:Int->Prop):Prop:=j4n z0n l K
abbrev z69:Type:=Lay_->(Int->Prop)->Prop
def j4o (Qk:Z2) (Qu:Jh) (l:Lay_) (K:Int->Prop):Prop:=Qk l.1 fun Qb=>Cnd (Qb=true) (Qk l.2 fun Qd=>Cnd (Qd=true) (Qu l.3 fun Qg=>Cnd (Qg=true) (Cnd (l.4<(0:Int)) (K (3:Int)) (Cnd ((10000:Int)<l.4) (K (3:Int)) (Cnd (l.5<(0:Int)) (K (3:Int)) (Cnd ((1099511627776:Int)<l.5) (K (3:Int)) (l.6.length<=(9223372036854775807:Nat)->Cnd ((32:Int)<(↑l.6.length:Int)) (K (5:Int)) (Lp1 (fun Qj v2w=>l.6.length<=(9223372036854775807:Nat)->Cnd (Qj<(↑l.6.length:Int)) (((0:Int)<=Qj/\Qj<(↑l.6.length:Int))/\ ∀y6,l.6[Qj.toNat]? =some y6->Cnd (y6.1<(0:Int)) (K (3:Int)) (Cnd (y6.2<=y6.1) (K (3:Int)) (Cnd ((10000:Int)<y6.2) (K (3:Int)) (Cnd (y6.3<(0:Int)) (K (3:Int)) (Cnd ((1099511627776:Int)<y6.3) (K (3:Int)) (Cnd ((0:Int)<Qj) (InI (Qj - (1:Int))/\((0:Int)<=Qj - (1:Int)/\Qj - (1:Int)<(↑l.6.length:Int))/\ ∀y8,l.6[(Qj - (1:Int)).toNat]? =some y8->Cnd (y6.1<y8.2) (K (9:Int)) (InI (Qj+(1:Int))/\v2w (Qj+(1:Int)))) (InI (Qj+(1:Int))/\v2w (Qj+(1:Int))))))))) (K (0:Int))) (0:Int))))))) (K (2:Int))) (K (6:Int))) (K (6:Int))
def q6z (l:Lay_) (K:Int->Prop):Prop:=j4o Zx Zt l K
abbrev z13:Type:=List (Lay_)->(Int->Prop)->Prop
def z9t (q69:z69) (l:List (Lay_)) (K:Int->Prop):Prop:=l.length<=(9223372036854775807:Nat)->Cnd ((6:Int)<(↑l.length:Int)) (K (5:Int)) (Lp1 (fun Qd q59=>l.length<=(9223372036854775807:Nat)->Cnd (Qd<(↑l.length:Int)) (((0:Int)<=Qd/\Qd<(↑l.length:Int))/\ ∀y3,l[Qd.toNat]? =some y3->q69 y3 fun Zb=>Cnd (Zb=(0:Int)) (Cnd ((0:Int)<Qd) (((0:Int)<=Qd/\Qd<(↑l.length:Int))/\ ∀y6,l[Qd.toNat]? =some y6->InI (Qd - (1:Int))/\((0:Int)<=Qd - (1:Int)/\Qd - (1:Int)<(↑l.length:Int))/\ ∀y8,l[(Qd - (1:Int)).toNat]? =some y8->Cnd (Lk.blt y8.1 y6.1) (InI (Qd+(1:Int))/\q59 (Qd+(1:Int))) (K (9:Int))) (InI (Qd+(1:Int))/\q59 (Qd+(1:Int)))) (K Zb)) (K (0:Int))) (0:Int))
def q35 (l:List (Lay_)) (K:Int->Prop):Prop:=z9t q6z l K
abbrev z7a:Type:=List (Spn)->(Int->Prop)->Prop
def q36 (l:List (Spn)) (K:Int->Prop):Prop:=l.length<=(9223372036854775807:Nat)->Cnd ((16:Int)<(↑l.length:Int)) (K (5:Int)) (Lp1 (fun Qd q59=>l.length<=(9223372036854775807:Nat)->Cnd (Qd<(↑l.length:Int)) (((0:Int)<=Qd/\Qd<(↑l.length:Int))/\ ∀y3,l[Qd.toNat]? =some y3->Cnd (y3.1<(0:Int)) (K (3:Int)) (((0:Int)<=Qd/\Qd<(↑l.length:Int))/\ ∀y5,l[Qd.toNat]? =some y5->((0:Int)<=Qd/\Qd<(↑l.length:Int))/\ ∀y7,l[Qd.toNat]? =some y7->Cnd (y7.2<=y5.1) (K (3:Int)) (((0:Int)<=Qd/\Qd<(↑l.length:Int))/\ ∀y9,l[Qd.toNat]? =some y9->Cnd ((10000:Int)<y9.2) (K (3:Int)) (Cnd ((0:Int)<Qd) (((0:Int)<=Qd/\Qd<(↑l.length:Int))/\ ∀y11,l[Qd.toNat]? =some y11->InI (Qd - (1:Int))/\((0:Int)<=Qd - (1:Int)/\Qd - (1:Int)<(↑l.length:Int))/\ ∀y13,l[(Qd - (1:Int)).toNat]? =some y13->Cnd (y11.1<=y13.2) (K (9:Int)) (InI (Qd+(1:Int))/\q59 (Qd+(1:Int)))) (InI (Qd+(1:Int))/\q59 (Qd+(1:Int))))))) (K (0:Int))) (0:Int))
abbrev q20:Type:=Exper->(Int->Prop)->Prop
def q7y (Qk:Z2) (Qu:Jh) (q7a:z7a) (V9:q33) (Wl:q04) (x:Exper) (K:Int->Prop):Prop:=Qk x.1 fun Qb=>Cnd (Qb=true) (Qk x.2 fun Qd=>Cnd (Qd=true) (Qk x.3 fun Qg=>Cnd (Qg=true) (Qu x.4 fun Qm=>Cnd (Qm=true) (Cnd (x.5<(1:Int)) (K (7:Int)) (Cnd ((3:Int)<x.5) (K (7:Int)) (q7a x.6 fun Qj=>Cnd (Qj=(0:Int)) (V9 x.7 (8:Int) fun Zb=>Cnd (Zb=(0:Int)) (Wl (Ex.mk x.8.1 x.8.2 x.8.3 x.8.4 x.8.5) fun Js=>K Js) (K Zb)) (K Qj)))) (K (2:Int))) (K (6:Int))) (K (6:Int))) (K (6:Int))
def Gw (x:Exper) (K:Int->Prop):Prop:=q7y Zx Zt q36 Rr Rg x K
abbrev q1c:Type:=List (Exper)->(Int->Prop)->Prop
def q5x (Hd:q20) (l:List (Exper)) (K:Int->Prop):Prop:=l.length<=(9223372036854775807:Nat)->Cnd ((16:Int)<(↑l.length:Int)) (K (5:Int)) (Lp1 (fun Qd q59=>l.length<=(9223372036854775807:Nat)->Cnd (Qd<(↑l.length:Int)) (((0:Int)<=Qd/\Qd<(↑l.length:Int))/\ ∀y3,l[Qd.toNat]? =some y3->Hd (Exper.mk y3.1 y3.2 y3.3 y3.4 y3.5 y3.6 y3.7 (Ex.mk y3.8.1 y3.8.2 y3.8.3 y3.8.4 y3.8.5)) fun Zb=>Cnd (Zb=(0:Int)) (Cnd ((0:Int)<Qd) (((0:Int)<=Qd/\Qd<(↑l.length:Int))/\ ∀y6,l[Qd.toNat]? =some y6->InI (Qd - (1:Int))/\((0:Int)<=Qd - (1:Int)/\Qd - (1:Int)<(↑l.length:Int))/\ ∀y8,l[(Qd - (1:Int)).toNat]? =some y8->Cnd (Lk.blt y8.1 y6.1) (InI (Qd+(1:Int))/\q59 (Qd+(1:Int))) (K (9:Int))) (InI (Qd+(1:Int))/\q59 (Qd+(1:Int)))) (K Zb)) (K (0:Int))) (0:Int))
def Uu (l:List (Exper)) (K:Int->Prop):Prop:=q5x Gw l K
abbrev q1d:Type:=Envt->(Int->Prop)->Prop
def q5y (q0q:q6g) (q0r:q6h) (q0s:q6i) (q7b:z68) (q4y:z13) (Uz:q1c) (v:Envt) (K:Int->Prop):Prop:=q0q (Sett.mk v.1.1 v.1.2 v.1.3) fun Qb=>Cnd (Qb=(0:Int)) (q0r v.2 fun Qd=>Cnd (Qd=(0:Int)) (q0s v.3 fun Qg=>Cnd (Qg=(0:Int)) (q7b v.4 fun Qm=>Cnd (Qm=(0:Int)) (q4y v.5 fun Qj=>Cnd (Qj=(0:Int)) (Uz v.6 fun Zb=>K Zb) (K Qj)) (K Qm)) (K Qg)) (K Qd)) (K Qb)
def Uv (v:Envt) (K:Int->Prop):Prop:=q5y B8 B9 q0b q6y q35 Uu v K
abbrev V4:Type:=List (Seg)->(List (ByteArray)->Prop)->Prop
def W0 (l:List (Seg)) (K:List (ByteArray)->Prop):Prop:=Lp2 (fun Qb Zj q5i=>l.length<=(9223372036854775807:Nat)->Cnd (Zj<(↑l.length:Int)) (((0:Int)<=Zj/\Zj<(↑l.length:Int))/\ ∀y2,l[Zj.toNat]? =some y2->Sml (Qb++[y2.1]).length/\InI (Zj+(1:Int))/\q5i (Qb++[y2.1]) (Zj+(1:Int))) (K Qb)) [] (0:Int)
abbrev Ju:Type:=List (ByteArray)->ByteArray->(Bool->Prop)->Prop
def Je (l:List (ByteArray)) (s:ByteArray) (K:Bool->Prop):Prop:=Lp1 (fun Qb q3r=>l.length<=(9223372036854775807:Nat)->Cnd (Qb<(↑l.length:Int)) (((0:Int)<=Qb/\Qb<(↑l.length:Int))/\ ∀y2,l[Qb.toNat]? =some y2->Cnd (y2=s) (K true) (InI (Qb+(1:Int))/\q3r (Qb+(1:Int)))) (K false)) (0:Int)
abbrev q7z:Type:=List (Decl)->ByteArray->ByteArray->(Int->Prop)->Prop
def Bm (l:List (Decl)) (kind:ByteArray) (name:ByteArray) (K:Int->Prop):Prop:=Lp1 (fun Qb q3r=>l.length<=(9223372036854775807:Nat)->Cnd (Qb<(↑l.length:Int)) (((0:Int)<=Qb/\Qb<(↑l.length:Int))/\ ∀y2,l[Qb.toNat]? =some y2->Cnd (y2.1=kind) (((0:Int)<=Qb/\Qb<(↑l.length:Int))/\ ∀y4,l[Qb.toNat]? =some y4->Cnd (y4.2=name) (((0:Int)<=Qb/\Qb<(↑l.length:Int))/\ ∀y6,l[Qb.toNat]? =some y6->K y6.3) (InI (Qb+(1:Int))/\q3r (Qb+(1:Int)))) (InI (Qb+(1:Int))/\q3r (Qb+(1:Int)))) (Cnd (name=ByteArray.mk (Array.mk [107,101,121])) (K (3:Int)) (K (0:Int)))) (0:Int)
abbrev j1q:Type:=Int->Ex->(Bool->Prop)->Prop
def q5n (t:Int) (e:Ex) (K:Bool->Prop):Prop:=Cnd (e.1=(6:Int)) (K true) (Cnd (e.1=(8:Int)) (Lp1 (fun Qb q3r=>e.4.length<=(9223372036854775807:Nat)->Cnd (Qb<(↑e.4.length:Int)) (((0:Int)<=Qb/\Qb<(↑e.4.length:Int))/\ ∀y2,e.4[Qb.toNat]? =some y2->Cnd (y2.1=t) (InI (Qb+(1:Int))/\q3r (Qb+(1:Int))) (K false)) (K (match decide ((t,e,()).fst=(5:Int)) with|true=>false|false=>true))) (0:Int)) (e.4.length<=(9223372036854775807:Nat)->Cnd ((↑e.4.length:Int)=(0:Int)) (K false) (((0:Int)<=(0:Int)/\(0:Int)<(↑e.4.length:Int))/\ ∀y1,e.4[Int.toNat (0:Int)]? =some y1->Cnd (e.1=(7:Int)) (K (decide (y1.1=t))) (Jn1 (fun Qm=>Cnd (Qm=true) (Cnd (t=(3:Int)) (K (decide (y1.1=(3:Int)))) (K false)) (Cnd (e.1=(11:Int)) (Cnd (t=(3:Int)) (K (decide (y1.1=(3:Int)))) (Cnd (t=(5:Int)) (K (decide (y1.1=(3:Int)))) (K false))) (Cnd (t=(2:Int)) (K (decide (y1.1=t))) (Cnd (t=(3:Int)) (K (decide (y1.1=t))) (Cnd (t=(4:Int)) (K (decide (y1.1=t))) (K false)))))) fun u8d=>Cnd (e.1=(9:Int)) (u8d (decide (e.1=(9:Int)))) (u8d (decide (e.1=(10:Int))))))))
abbrev Gx:Type:=List (Decl)->List (ByteArray)->Ex->(Int->Prop)->Prop
def w1b (Qv:Ju) (Qw:Wa) (Ga:q7z) (q8p:j1q) (X:Gx) (l:List (Decl)) (segments:List (ByteArray)) (e:Ex) (K:Int->Prop):Prop:=Cnd (e.1=(5:Int)) (Qv segments e.3 fun Qb=>Cnd (Qb=true) (Jn0 (Lp1 (fun Qd q59=>e.5.length<=(9223372036854775807:Nat)->Cnd (Qd<(↑e.5.length:Int)) (((0:Int)<=Qd/\Qd<(↑e.5.length:Int))/\ ∀y3,e.5[Qd.toNat]? =some y3->X l segments (Ex.mk y3.1 y3.2 y3.3 y3.4 y3.5) fun Zb=>Cnd (Zb=(0:Int)) (InI (Qd+(1:Int))/\q59 (Qd+(1:Int))) (K Zb)) (K (0:Int))) (0:Int)) fun Qd=>Qw e.1 fun Qg=>Cnd (Qg=true) (Ga l e.2 e.3 fun Qm=>Cnd (Qm=(0:Int)) (K (11:Int)) (q8p Qm (Ex.mk e.1 e.2 e.3 e.4 e.5) fun Qj=>Cnd (Qj=true) Qd (K (8:Int)))) Qd) (K (11:Int))) (Jn0 (Lp1 (fun Qb q3r=>e.5.length<=(9223372036854775807:Nat)->Cnd (Qb<(↑e.5.length:Int)) (((0:Int)<=Qb/\Qb<(↑e.5.length:Int))/\ ∀y2,e.5[Qb.toNat]? =some y2->X l segments (Ex.mk y2.1 y2.2 y2.3 y2.4 y2.5) fun Qj=>Cnd (Qj=(0:Int)) (InI (Qb+(1:Int))/\q3r (Qb+(1:Int))) (K Qj)) (K (0:Int))) (0:Int)) fun Qb=>Qw e.1 fun Qd=>Cnd (Qd=true) (Ga l e.2 e.3 fun Qg=>Cnd (Qg=(0:Int)) (K (11:Int)) (q8p Qg (Ex.mk e.1 e.2 e.3 e.4 e.5) fun Qm=>Cnd (Qm=true) Qb (K (8:Int)))) Qb)
def Rh (l:List (Decl)) (segments:List (ByteArray)) (e:Ex) (K:Int->Prop):Prop:= ∀X:Gx,(∀l segments e K,w1b Je Z8 Bm q5n X l segments e K->X l segments e K)->X l segments e K
abbrev q0d:Type:=List (ByteArray)->ByteArray->(List (ByteArray)->Prop)->Prop
def Gi (l:List (ByteArray)) (s:ByteArray) (K:List (ByteArray)->Prop):Prop:=Lp1 (fun Qb q3r=>l.length<=(9223372036854775807:Nat)->Cnd (Qb<(↑l.length:Int)) (((0:Int)<=Qb/\Qb<(↑l.length:Int))/\ ∀y2,l[Qb.toNat]? =some y2->Cnd (Lk.blt y2 s) (InI (Qb+(1:Int))/\q3r (Qb+(1:Int))) (l.length<=(9223372036854775807:Nat)->Cnd (Qb<(↑l.length:Int)) (((0:Int)<=Qb/\Qb<(↑l.length:Int))/\ ∀y5,l[Qb.toNat]? =some y5->Cnd (y5=s) (K l) (((0:Int)<=(0:Int)/\(0:Int)<=Qb/\Qb<=(↑l.length:Int))/\Sml ([]++List.drop (Int.toNat (0:Int)) (List.take Qb.toNat l)).length/\((0:Int)<=Qb/\Qb<=(↑l.length:Int)/\(↑l.length:Int)<=(↑l.length:Int))/\Sml ([]++List.drop (Int.toNat (0:Int)) (List.take Qb.toNat l)++[s]).length/\Sml ([]++List.drop (Int.toNat (0:Int)) (List.take Qb.toNat l)++[s]++List.drop Qb.toNat (List.take (↑l.length:Int).toNat l)).length/\K ([]++List.drop (Int.toNat (0:Int)) (List.take Qb.toNat l)++[s]++List.drop Qb.toNat (List.take (↑l.length:Int).toNat l)))) (((0:Int)<=(0:Int)/\(0:Int)<=Qb/\Qb<=(↑l.length:Int))/\Sml ([]++List.drop (Int.toNat (0:Int)) (List.take Qb.toNat l)).length/\((0:Int)<=Qb/\Qb<=(↑l.length:Int)/\(↑l.length:Int)<=(↑l.length:Int))/\Sml ([]++List.drop (Int.toNat (0:Int)) (List.take Qb.toNat l)++[s]).length/\Sml ([]++List.drop (Int.toNat (0:Int)) (List.take Qb.toNat l)++[s]++List.drop Qb.toNat (List.take (↑l.length:Int).toNat l)).length/\K ([]++List.drop (Int.toNat (0:Int)) (List.take Qb.toNat l)++[s]++List.drop Qb.toNat (List.take (↑l.length:Int).toNat l))))) (l.length<=(9223372036854775807:Nat)->Cnd (Qb<(↑l.length:Int)) (((0:Int)<=Qb/\Qb<(↑l.length:Int))/\ ∀y3,l[Qb.toNat]? =some y3->Cnd (y3=s) (K l) (((0:Int)<=(0:Int)/\(0:Int)<=Qb/\Qb<=(↑l.length:Int))/\Sml ([]++List.drop (Int.toNat (0:Int)) (List.take Qb.toNat l)).length/\((0:Int)<=Qb/\Qb<=(↑l.length:Int)/\(↑l.length:Int)<=(↑l.length:Int))/\Sml ([]++List.drop (Int.toNat (0:Int)) (List.take Qb.toNat l)++[s]).length/\Sml ([]++List.drop (Int.toNat (0:Int)) (List.take Qb.toNat l)++[s]++List.drop Qb.toNat (List.take (↑l.length:Int).toNat l)).length/\K ([]++List.drop (Int.toNat (0:Int)) (List.take Qb.toNat l)++[s]++List.drop Qb.toNat (List.take (↑l.length:Int).toNat l)))) (((0:Int)<=(0:Int)/\(0:Int)<=Qb/\Qb<=(↑l.length:Int))/\Sml ([]++List.drop (Int.toNat (0:Int)) (List.take Qb.toNat l)).length/\((0:Int)<=Qb/\Qb<=(↑l.length:Int)/\(↑l.length:Int)<=(↑l.length:Int))/\Sml ([]++List.drop (Int.toNat (0:Int)) (List.take Qb.toNat l)++[s]).length/\Sml ([]++List.drop (Int.toNat (0:Int)) (List.take Qb.toNat l)++[s]++List.drop Qb.toNat (List.take (↑l.length:Int).toNat l)).length/\K ([]++List.drop (Int.toNat (0:Int)) (List.take Qb.toNat l)++[s]++List.drop Qb.toNat (List.take (↑l.length:Int).toNat l))))) (0:Int)
abbrev Bn:Type:=List (ByteArray)->Ex->(List (ByteArray)->Prop)->Prop
def q8z (J4:q0d) (X:Bn) (l:List (ByteArray)) (e:Ex) (K:List (ByteArray)->Prop):Prop:=Jn1 (fun Qb=>Lp2 (fun Qd Jk j0x=>e.5.length<=(9223372036854775807:Nat)->Cnd (Jk<(↑e.5.length:Int)) (((0:Int)<=Jk/\Jk<(↑e.5.length:Int))/\ ∀y3,e.5[Jk.toNat]? =some y3->X Qd (Ex.mk y3.1 y3.2 y3.3 y3.4 y3.5) fun Zb=>InI (Jk+(1:Int))/\j0x Zb (Jk+(1:Int))) (K Qd)) Qb (0:Int)) fun z4e=>Cnd (e.1=(5:Int)) (J4 l e.3 fun Qd=>z4e Qd) (z4e l)
def Bo (l:List (ByteArray)) (e:Ex) (K:List (ByteArray)->Prop):Prop:= ∀X:Bn,(∀l e K,q8z Gi X l e K->X l e K)->X l e K
abbrev q80:Type:=Ex->(List (ByteArray)->Prop)->Prop
def q81 (q2g:Bn) (e:Ex) (K:List (ByteArray)->Prop):Prop:=q2g [] (Ex.mk e.1 e.2 e.3 e.4 e.5) fun Qb=>K Qb
def Hm (e:Ex) (K:List (ByteArray)->Prop):Prop:=q81 Bo e K
abbrev q1l:Type:=List (Seg)->(List (Edg)->Prop)->Prop
def z14 (q2h:q80) (l:List (Seg)) (K:List (Edg)->Prop):Prop:=Lp2 (fun Qb Zj q5i=>l.length<=(9223372036854775807:Nat)->Cnd (Zj<(↑l.length:Int)) (((0:Int)<=Zj/\Zj<(↑l.length:Int))/\ ∀y2,l[Zj.toNat]? =some y2->q2h (Ex.mk y2.5.1 y2.5.2 y2.5.3 y2.5.4 y2.5.5) fun Qj=>Lp2 (fun Zb z4f u9x=>Qj.length<=(9223372036854775807:Nat)->Cnd (z4f<(↑Qj.length:Int)) (((0:Int)<=Zj/\Zj<(↑l.length:Int))/\ ∀y7,l[Zj.toNat]? =some y7->((0:Int)<=z4f/\z4f<(↑Qj.length:Int))/\ ∀y9,Qj[z4f.toNat]? =some y9->Sml (Zb++[Edg.mk y7.1 y9]).length/\InI (z4f+(1:Int))/\u9x (Zb++[Edg.mk y7.1 y9]) (z4f+(1:Int))) (InI (Zj+(1:Int))/\q5i Zb (Zj+(1:Int)))) Qb (0:Int)) (K Qb)) [] (0:Int)
def Uj (l:List (Seg)) (K:List (Edg)->Prop):Prop:=z14 Hm l K
abbrev z7b:Type:=List (Edg)->ByteArray->(List (ByteArray)->Prop)->Prop
def j4p (Qv:Ju) (J4:q0d) (edges:List (Edg)) (node:ByteArray) (K:List (ByteArray)->Prop):Prop:=Lp2 (fun Qb Zj q5i=>Zj.length<=(9223372036854775807:Nat)->Cnd ((0:Int)<(↑Zj.length:Int)) (((0:Int)<=(0:Int)/\(0:Int)<(↑Zj.length:Int))/\ ∀y2,Zj[Int.toNat (0:Int)]? =some y2->((0:Int)<=(1:Int)/\(1:Int)<=(↑Zj.length:Int)/\(↑Zj.length:Int)<=(↑Zj.length:Int))/\Lp3 (fun Qj Ud z7z u6s=>edges.length<=(9223372036854775807:Nat)->Cnd (z7z<(↑edges.length:Int)) (((0:Int)<=z7z/\z7z<(↑edges.length:Int))/\ ∀y6,edges[z7z.toNat]? =some y6->Cnd (y6.1=y2) (((0:Int)<=z7z/\z7z<(↑edges.length:Int))/\ ∀y8,edges[z7z.toNat]? =some y8->Qv Qj y8.2 fun R8=>Cnd (R8=true) (InI (z7z+(1:Int))/\u6s Qj Ud (z7z+(1:Int))) (((0:Int)<=z7z/\z7z<(↑edges.length:Int))/\ ∀y11,edges[z7z.toNat]? =some y11->J4 Qj y11.2 fun Zo=>((0:Int)<=z7z/\z7z<(↑edges.length:Int))/\ ∀y14,edges[z7z.toNat]? =some y14->(Sml ([]++Ud).length/\Sml ([]++Ud++[y14.2]).length/\InI (z7z+(1:Int))/\u6s Zo ([]++Ud++[y14.2]) (z7z+(1:Int)))/\Sml ([]++Ud).length/\Sml ([]++Ud++[y14.2]).length/\InI (z7z+(1:Int))/\u6s Zo ([]++Ud++[y14.2]) (z7z+(1:Int)))) (InI (z7z+(1:Int))/\u6s Qj Ud (z7z+(1:Int)))) (q5i Qj Ud)) Qb (List.drop (Int.toNat (1:Int)) (List.take (↑Zj.length:Int).toNat Zj)) (0:Int)) (K Qb)) [] [node]
def q60 (edges:List (Edg)) (node:ByteArray) (K:List (ByteArray)->Prop):Prop:=j4p Je Gi edges node K
abbrev z15:Type:=List (ByteArray)->List (Edg)->(List (ByteArray)->Prop)->Prop
def z9u (q7c:z7b) (Qv:Ju) (J4:q0d) (nodes:List (ByteArray)) (edges:List (Edg)) (K:List (ByteArray)->Prop):Prop:=Lp2 (fun Qb Zj q5i=>nodes.length<=(9223372036854775807:Nat)->Cnd (Zj<(↑nodes.length:Int)) (((0:Int)<=Zj/\Zj<(↑nodes.length:Int))/\ ∀y2,nodes[Zj.toNat]? =some y2->((0:Int)<=Zj/\Zj<(↑nodes.length:Int))/\ ∀y4,nodes[Zj.toNat]? =some y4->q7c edges y2 fun Js=>Qv Js y4 fun Vf=>Cnd (Vf=true) (((0:Int)<=Zj/\Zj<(↑nodes.length:Int))/\ ∀y8,nodes[Zj.toNat]? =some y8->J4 Qb y8 fun R8=>InI (Zj+(1:Int))/\q5i R8 (Zj+(1:Int))) (InI (Zj+(1:Int))/\q5i Qb (Zj+(1:Int)))) (K Qb)) [] (0:Int)
def q37 (nodes:List (ByteArray)) (edges:List (Edg)) (K:List (ByteArray)->Prop):Prop:=z9u q60 Je Gi nodes edges K
abbrev z16:Type:=List (ByteArray)->List (Edg)->(ByteArray->Bool->Prop)->Prop
def z9v (q4z:z15) (nodes:List (ByteArray)) (edges:List (Edg)) (K:ByteArray->Bool->Prop):Prop:=q4z nodes edges fun Qb=>Qb.length<=(9223372036854775807:Nat)->Cnd ((↑Qb.length:Int)=(0:Int)) (K (ByteArray.mk (Array.mk [])) false) (((0:Int)<=(0:Int)/\(0:Int)<(↑Qb.length:Int))/\ ∀y2,Qb[Int.toNat (0:Int)]? =some y2->K y2 true)
def q38 (nodes:List (ByteArray)) (edges:List (Edg)) (K:ByteArray->Bool->Prop):Prop:=z9v q37 nodes edges K
abbrev Bp:Type:=Envt->ByteArray->(Int->Prop)->Prop
def U7 (v:Envt) (key:ByteArray) (K:Int->Prop):Prop:=Lp1 (fun Qb q3r=>v.4.length<=(9223372036854775807:Nat)->Cnd (Qb<(↑v.4.length:Int)) (((0:Int)<=Qb/\Qb<(↑v.4.length:Int))/\ ∀y2,v.4[Qb.toNat]? =some y2->Cnd (y2.1=key) (K Qb) (InI (Qb+(1:Int))/\q3r (Qb+(1:Int)))) (K (-1:Int))) (0:Int)
abbrev z7c:Type:=List (Decl)->Srv->(Int->Prop)->Prop
def j4q (Ga:q7z) (l:List (Decl)) (v:Srv) (K:Int->Prop):Prop:=Cnd (v.1=(0:Int)) (Ga l v.2 v.3 fun Qb=>Cnd (Qb=(0:Int)) (K (11:Int)) (Cnd (Qb=(5:Int)) (K (8:Int)) (K (0:Int)))) (K (0:Int))
def q61 (l:List (Decl)) (v:Srv) (K:Int->Prop):Prop:=j4q Bm l v K
abbrev q21:Type:=Envt->Flg->(Int->Prop)->Prop
def q70 (Zq:V4) (Wm:Bp) (Wn:Gx) (q40:z7c) (Zr:Wz) (v:Envt) (f:Flg) (K:Int->Prop):Prop:=Zq v.3 fun Qb=>Lp2 (fun Qd Jk j0x=>f.6.length<=(9223372036854775807:Nat)->Cnd (Qd<(↑f.6.length:Int)) (((0:Int)<=Qd/\Qd<(↑f.6.length:Int))/\ ∀y3,f.6[Qd.toNat]? =some y3->Wm (Envt.mk (Sett.mk v.1.1 v.1.2 v.1.3) v.2 v.3 v.4 v.5 v.6) y3.1 fun Zb=>Cnd (Zb<(0:Int)) (K (11:Int)) (((0:Int)<=Qd/\Qd<(↑f.6.length:Int))/\ ∀y6,f.6[Qd.toNat]? =some y6->((0:Int)<=Zb/\Zb<(↑v.4.length:Int))/\ ∀y8,v.4[Zb.toNat]? =some y8->y8.3.length<=(9223372036854775807:Nat)->Cnd ((↑y8.3.length:Int)<y6.2) (K (3:Int)) (InI (Qd+(1:Int))/\j0x (Qd+(1:Int)) Jk))) (Lp2 (fun Qm Bj w5f=>f.8.length<=(9223372036854775807:Nat)->Cnd (Qm<(↑f.8.length:Int)) (((0:Int)<=Qm/\Qm<(↑f.8.length:Int))/\ ∀y5,f.8[Qm.toNat]? =some y5->Wn v.2 Bj (Ex.mk y5.2.1 y5.2.2 y5.2.3 y5.2.4 y5.2.5) fun Vf=>Cnd (Vf=(0:Int)) (((0:Int)<=Qm/\Qm<(↑f.8.length:Int))/\ ∀y8,f.8[Qm.toNat]? =some y8->q40 v.2 (Srv.mk y8.3.1 y8.3.2 y8.3.3 y8.3.4 y8.3.5) fun R8=>Cnd (R8=(0:Int)) (InI (Qm+(1:Int))/\w5f (Qm+(1:Int)) Bj) (K R8)) (K Vf)) (q40 v.2 (Srv.mk f.9.1 f.9.2 f.9.3 f.9.4 f.9.5) fun Zb=>Cnd (Zb=(0:Int)) (Zr f.8 fun Js _ u8y=>Cnd (u8y=true) (Js.length<=(9223372036854775807:Nat)->Cnd ((0:Int)<(↑Js.length:Int)) (K (13:Int)) (K (0:Int))) (K (19:Int))) (K Zb))) (0:Int) Jk)) (0:Int) Qb
def Gy (v:Envt) (f:Flg) (K:Int->Prop):Prop:=q70 W0 U7 Rh q61 Jz v f K
abbrev q5a:Type:=Envt->(List (ByteArray)->Prop)->Prop
def Rs (v:Envt) (K:List (ByteArray)->Prop):Prop:=Lp2 (fun Qb Zj q5i=>v.4.length<=(9223372036854775807:Nat)->Cnd (Zj<(↑v.4.length:Int)) (((0:Int)<=Zj/\Zj<(↑v.4.length:Int))/\ ∀y2,v.4[Zj.toNat]? =some y2->Sml (Qb++[y2.1]).length/\InI (Zj+(1:Int))/\q5i (Qb++[y2.1]) (Zj+(1:Int))) (K Qb)) [] (0:Int)
abbrev q22:Type:=Envt->(List (Edg)->Prop)->Prop
def Uk (v:Envt) (K:List (Edg)->Prop):Prop:=Lp2 (fun Qb Zj q5i=>v.4.length<=(9223372036854775807:Nat)->Cnd (Zj<(↑v.4.length:Int)) (Lp2 (fun Qg Z1 q8r=>((0:Int)<=Zj/\Zj<(↑v.4.length:Int))/\ ∀y3,v.4[Zj.toNat]? =some y3->y3.6.length<=(9223372036854775807:Nat)->Cnd (Z1<(↑y3.6.length:Int)) (((0:Int)<=Zj/\Zj<(↑v.4.length:Int))/\ ∀y6,v.4[Zj.toNat]? =some y6->((0:Int)<=Zj/\Zj<(↑v.4.length:Int))/\ ∀y8,v.4[Zj.toNat]? =some y8->((0:Int)<=Z1/\Z1<(↑y8.6.length:Int))/\ ∀y10,y8.6[Z1.toNat]? =some y10->Sml (Qg++[Edg.mk y6.1 y10.1]).length/\InI (Z1+(1:Int))/\q8r (Qg++[Edg.mk y6.1 y10.1]) (Z1+(1:Int))) (InI (Zj+(1:Int))/\q5i Qg (Zj+(1:Int)))) Qb (0:Int)) (K Qb)) [] (0:Int)
abbrev q82:Type:=List (Spn)->List (Spn)->(List (Spn)->Prop)->Prop
def z4t (Zw:Gt) (Q1:Wb) (a:List (Spn)) (b:List (Spn)) (K:List (Spn)->Prop):Prop:=Zw a fun Qb=>Zw b fun Qd=>Lp2 (fun Qg Z1 q8r=>Z1.length<=(9223372036854775807:Nat)->Cnd (Qg<(↑Z1.length:Int)) (((0:Int)<=Qg/\Qg<(↑Z1.length:Int))/\ ∀y4,Z1[Qg.toNat]? =some y4->Cnd (y4=true) (((0:Int)<=Qg/\Qg<(↑Qd.length:Int))/\ ∀y6,Qd[Qg.toNat]? =some y6->((0:Int)<=Qg/\Qg<(↑Z1.length:Int))/\ ∀y8,Z1[Qg.toNat]? =some y8->InI (Qg+(1:Int))/\q8r (Qg+(1:Int)) (Z1.set Qg.toNat y6)) (((0:Int)<=Qg/\Qg<(↑Z1.length:Int))/\ ∀y6,Z1[Qg.toNat]? =some y6->InI (Qg+(1:Int))/\q8r (Qg+(1:Int)) (Z1.set Qg.toNat false))) (Q1 Z1 fun Qj=>K Qj)) (0:Int) Qb
def q14 (a:List (Spn)) (b:List (Spn)) (K:List (Spn)->Prop):Prop:=z4t Vu Ji a b K
abbrev U8:Type:=Envt->Int->(Int->Prop)->Prop
def Bq (Zk:Vc) (Wm:Bp) (Zq:V4) (Wn:Gx) (q2i:q82) (v:Envt) (i:Int) (K:Int->Prop):Prop:=((0:Int)<=i/\i<(↑v.6.length:Int))/\ ∀y0,v.6[i.toNat]? =some y0->Zk (Envt.mk (Sett.mk v.1.1 v.1.2 v.1.3) v.2 v.3 v.4 v.5 v.6) y0.2 fun Qg=>Wm (Envt.mk (Sett.mk v.1.1 v.1.2 v.1.3) v.2 v.3 v.4 v.5 v.6) y0.3 fun Qm=>Cnd (Qg<(0:Int)) (K (11:Int)) (Cnd (Qm<(0:Int)) (K (11:Int)) (Lp1 (fun Qj v2w=>y0.7.length<=(9223372036854775807:Nat)->Cnd (Qj<(↑y0.7.length:Int)) (((0:Int)<=Qj/\Qj<(↑y0.7.length:Int))/\ ∀y6,y0.7[Qj.toNat]? =some y6->((0:Int)<=Qm/\Qm<(↑v.4.length:Int))/\ ∀y8,v.4[Qm.toNat]? =some y8->y8.3.length<=(9223372036854775807:Nat)->Cnd ((↑y8.3.length:Int)<y6.3) (K (3:Int)) (InI (Qj+(1:Int))/\v2w (Qj+(1:Int)))) (Zq v.3 fun Js=>Wn v.2 Js (Ex.mk y0.8.1 y0.8.2 y0.8.3 y0.8.4 y0.8.5) fun Vf=>Cnd (Vf=(0:Int)) (Cnd (y0.5=(3:Int)) (K (0:Int)) (((0:Int)<=Qg/\Qg<(↑v.5.length:Int))/\ ∀y8,v.5[Qg.toNat]? =some y8->Lp3 (fun R8 q3s u2z u6h=>Cnd (q3s<i) (((0:Int)<=q3s/\q3s<(↑v.6.length:Int))/\ ∀y11,v.6[q3s.toNat]? =some y11->Cnd (y11.2=y0.2) (Cnd (y11.5=(3:Int)) (InI (q3s+(1:Int))/\u6h R8 (q3s+(1:Int)) u2z) (Sml (R8++y11.6).length/\InI (q3s+(1:Int))/\u6h (R8++y11.6) (q3s+(1:Int)) u2z)) (InI (q3s+(1:Int))/\u6h R8 (q3s+(1:Int)) u2z)) (q2i y0.6 R8 fun G6=>G6.length<=(9223372036854775807:Nat)->Cnd ((0:Int)<(↑G6.length:Int)) (K (14:Int)) (Lp4 (fun Zo j6j y6a u6i u6j=>Cnd (Zo<i) (Cnd (y0.5=(2:Int)) (((0:Int)<=Zo/\Zo<(↑v.6.length:Int))/\ ∀y14,v.6[Zo.toNat]? =some y14->Cnd (y14.5=(2:Int)) (Cnd (y14.3=y0.3) (Cnd (y14.2=y0.2) (InI (Zo+(1:Int))/\u6j (Zo+(1:Int)) j6j y6a u6i) (K (14:Int))) (InI (Zo+(1:Int))/\u6j (Zo+(1:Int)) j6j y6a u6i)) (InI (Zo+(1:Int))/\u6j (Zo+(1:Int)) j6j y6a u6i)) (K (0:Int))) (K (0:Int))) (0:Int) G6 R8 u2z))) [Spn.mk (0:Int) y8.4] (0:Int) Js)) (K Vf))) (0:Int)))
def Wk (v:Envt) (i:Int) (K:Int->Prop):Prop:=Bq Wg U7 W0 Rh q14 v i K
abbrev q0e:Type:=Envt->(ByteArray->Int->Prop)->Prop
def q39 (U0:q1d) (Zq:V4) (Wn:Gx) (W8:q1l) (q1y:z16) (He:q21) (R0:q5a) (Hf:q22) (Wo:U8) (v:Envt) (K:ByteArray->Int->Prop):Prop:=U0 (Envt.mk (Sett.mk v.1.1 v.1.2 v.1.3) v.2 v.3 v.4 v.5 v.6) fun Qb=>Cnd (Qb=(0:Int)) (Zq v.3 fun Qd=>Lp2 (fun Qg Z1 q8r=>v.3.length<=(9223372036854775807:Nat)->Cnd (Qg<(↑v.3.length:Int)) (((0:Int)<=Qg/\Qg<(↑v.3.length:Int))/\ ∀y4,v.3[Qg.toNat]? =some y4->Cnd (y4.5.1=(0:Int)) (InI (Qg+(1:Int))/\q8r (Qg+(1:Int)) Z1) (((0:Int)<=Qg/\Qg<(↑v.3.length:Int))/\ ∀y6,v.3[Qg.toNat]? =some y6->Wn v.2 Z1 (Ex.mk y6.5.1 y6.5.2 y6.5.3 y6.5.4 y6.5.5) fun Uq=>Cnd (Uq=(0:Int)) (InI (Qg+(1:Int))/\q8r (Qg+(1:Int)) Z1) (((0:Int)<=Qg/\Qg<(↑v.3.length:Int))/\ ∀y9,v.3[Qg.toNat]? =some y9->(↑((ByteArray.mk (Array.mk [115,101,103,109,101,110,116,32])).size+y9.1.size):Int)<=(9223372036854775807:Int)/\K (ByteArray.mk (Array.mk [115,101,103,109,101,110,116,32])++y9.1) Uq))) (W8 v.3 fun Qj=>q1y Z1 Qj fun Zb z4f=>Cnd (z4f=true) ((↑((ByteArray.mk (Array.mk [115,101,103,109,101,110,116,32])).size+Zb.size):Int)<=(9223372036854775807:Int)/\K (ByteArray.mk (Array.mk [115,101,103,109,101,110,116,32])++Zb) (12:Int)) (Lp3 (fun Js j0w u8y Y6_3=>v.4.length<=(9223372036854775807:Nat)->Cnd (Js<(↑v.4.length:Int)) (((0:Int)<=Js/\Js<(↑v.4.length:Int))/\ ∀y8,v.4[Js.toNat]? =some y8->He (Envt.mk (Sett.mk v.1.1 v.1.2 v.1.3) v.2 v.3 v.4 v.5 v.6) (Flg.mk y8.1 y8.2 y8.3 y8.4 y8.5 y8.6 y8.7 y8.8 (Srv.mk y8.9.1 y8.9.2 y8.9.3 y8.9.4 y8.9.5)) fun R8=>Cnd (R8=(0:Int)) (InI (Js+(1:Int))/\Y6_3 (Js+(1:Int)) j0w u8y) (((0:Int)<=Js/\Js<(↑v.4.length:Int))/\ ∀y11,v.4[Js.toNat]? =some y11->(↑((ByteArray.mk (Array.mk [102,108,97,103,32])).size+y11.1.size):Int)<=(9223372036854775807:Int)/\K (ByteArray.mk (Array.mk [102,108,97,103,32])++y11.1) R8)) (R0 (Envt.mk (Sett.mk v.1.1 v.1.2 v.1.3) v.2 v.3 v.4 v.5 v.6) fun Uq=>Hf (Envt.mk (Sett.mk v.1.1 v.1.2 v.1.3) v.2 v.3 v.4 v.5 v.6) fun Q7=>q1y Uq Q7 fun R8 q3s=>Cnd (q3s=true) ((↑((ByteArray.mk (Array.mk [102,108,97,103,32])).size+R8.size):Int)<=(9223372036854775807:Int)/\K (ByteArray.mk (Array.mk [102,108,97,103,32])++R8) (12:Int)) (Lp5 (fun G6 w5g u9y u9z u90 u91=>v.6.length<=(9223372036854775807:Nat)->Cnd (G6<(↑v.6.length:Int)) (Wo (Envt.mk (Sett.mk v.1.1 v.1.2 v.1.3) v.2 v.3 v.4 v.5 v.6) G6 fun Zo=>Cnd (Zo=(0:Int)) (InI (G6+(1:Int))/\u91 (G6+(1:Int)) w5g u9y u9z u90) (((0:Int)<=G6/\G6<(↑v.6.length:Int))/\ ∀y14,v.6[G6.toNat]? =some y14->(↑((ByteArray.mk (Array.mk [101,120,112,101,114,105,109,101,110,116,32])).size+y14.1.size):Int)<=(9223372036854775807:Int)/\K (ByteArray.mk (Array.mk [101,120,112,101,114,105,109,101,110,116,32])++y14.1) Zo)) (K (ByteArray.mk (Array.mk [])) (0:Int))) (0:Int) Uq Q7 u8y j0w))) (0:Int) Z1 Qj))) (0:Int) Qd) (K (ByteArray.mk (Array.mk [])) Qb)
def V5 (v:Envt) (K:ByteArray->Int->Prop):Prop:=q39 Uv W0 Rh Uj q38 Gy Rs Uk Wk v K
abbrev z17:Type:=Envt->(Bool->Prop)->Prop
def z9w (Ub:q0e) (v:Envt) (K:Bool->Prop):Prop:=Ub (Envt.mk (Sett.mk v.1.1 v.1.2 v.1.3) v.2 v.3 v.4 v.5 v.6) fun _ Zj=>K (decide (Zj=(0:Int)))
def q1m (v:Envt) (K:Bool->Prop):Prop:=z9w V5 v K
abbrev q23:Type:=List (Int)->Int->Int->(Envt->Int->Prop)->Prop
def q71 (Q3:Wj) (q2j:q8w) (Qa:Zf) (Ra:z1q) (Ja:q02) (Bg:z1r) (q8q:j1g) (Uo:q2t) (Bh:q46) (Zr:Wz) (z1g:j1j) (Jv:B6) (G7:q7p) (q7d:z62) (Wh:q45) (W7:q1k) (q41:z1x) (Rd:z17) (list:List (Int)) (at_:Int) (now:Int) (K:Envt->Int->Prop):Prop:=Q3 fun Qb=>Jn1 (fun (Qd:ByteArray×ByteArray×Int×Int×List Decl×Unit)=>q2j list Qd.snd.snd.snd.fst Qd.fst Qd.snd.fst Qd.snd.snd.fst Qd.snd.snd.snd.snd.fst [] [] [] [] fun Qg Z1 v2v w5i u0l x2_5 x2_6 x2_7 x2_8=>Qa list Qg (5:Int) fun Qm Bj=>Ra Qm [ByteArray.mk (Array.mk [102,97]),ByteArray.mk (Array.mk [102,98]),ByteArray.mk (Array.mk [102,99]),ByteArray.mk (Array.mk [102,100])] fun Qj=>LpH (fun (Zb:Int×Int×List Flg×List Seg×List Lay_×List Exper×Unit) w9d=>Qj.length<=(9223372036854775807:Nat)->Cnd (Zb.fst<(↑Qj.length:Int)) (((0:Int)<=Zb.fst/\Zb.fst<(↑Qj.length:Int))/\ ∀y7,Qj[Zb.fst.toNat]? =some y7->Qa list Zb.snd.fst (5:Int) fun Q7 j70=>InI ((1:Int)+Q7)/\Qa list j70 (6:Int) fun R8 q3s=>Qa list q3s (4:Int) fun G6 w5g=>InI ((1:Int)+G6)/\LpH (fun (R9:Int×Int×List Val×List Exper×List Lay_×List Flg×List Seg×Unit) (u92:Int×Int×List Val×List Exper×List Lay_×List Flg×List Seg×Unit->Prop)=>Cnd (R9.fst<(1:Int)+G6) (Ja list R9.snd.fst ((1:Int)+Q7) fun Zo j6j=>Sml (R9.snd.snd.fst++[Zo]).length/\InI (R9.fst+(1:Int))/\u92 (R9.fst+(1:Int),j6j,R9.snd.snd.fst++[Zo],R9.snd.snd.snd.fst,R9.snd.snd.snd.snd.fst,R9.snd.snd.snd.snd.snd.fst,R9.snd.snd.snd.snd.snd.snd.fst,())) (Qa list R9.snd.fst ((1:Int)+G6) fun Zo j6j=>InI ((1:Int)+Zo)/\LpH (fun (Hl:Int×List Prq×Int×List Seg×List Flg×List Lay_×List Exper×List Val×Unit) (u8h:Int×List Prq×Int×List Seg×List Flg×List Lay_×List Exper×List Val×Unit->Prop)=>Hl.snd.snd.snd.snd.fst.length<=(9223372036854775807:Nat)->Cnd (Hl.fst<(↑Hl.snd.snd.snd.snd.fst.length:Int)) (Qa list Hl.snd.snd.fst (4:Int) fun By u8i=>Cnd (By=(1:Int)) (((0:Int)<=Hl.fst/\Hl.fst<(↑Hl.snd.snd.snd.snd.fst.length:Int))/\ ∀y17,Hl.snd.snd.snd.snd.fst[Hl.fst.toNat]? =some y17->((0:Int)<=Hl.fst/\Hl.fst<(↑Hl.snd.snd.snd.snd.fst.length:Int))/\ ∀y19,Hl.snd.snd.snd.snd.fst[Hl.fst.toNat]? =some y19->y19.3.length<=(9223372036854775807:Nat)->Qa list u8i (↑y19.3.length:Int) fun u6k u93=>InI ((1:Int)+u6k)/\Sml (Hl.snd.fst++[Prq.mk y17.1 ((1:Int)+u6k)]).length/\InI (Hl.fst+(1:Int))/\u8h (Hl.fst+(1:Int),Hl.snd.fst++[Prq.mk y17.1 ((1:Int)+u6k)],u93,Hl.snd.snd.snd.fst,Hl.snd.snd.snd.snd.fst,Hl.snd.snd.snd.snd.snd.fst,Hl.snd.snd.snd.snd.snd.snd.fst,Hl.snd.snd.snd.snd.snd.snd.snd.fst,())) (InI (Hl.fst+(1:Int))/\u8h (Hl.fst+(1:Int),Hl.snd.fst,u8i,Hl.snd.snd.snd.fst,Hl.snd.snd.snd.snd.fst,Hl.snd.snd.snd.snd.snd.fst,Hl.snd.snd.snd.snd.snd.snd.fst,Hl.snd.snd.snd.snd.snd.snd.snd.fst,()))) (LpH (fun (By:Int×List Tgt×Int×List Val×List Exper×List Lay_×List Flg×List Seg×List Prq×Unit) (u8j:Int×List Tgt×Int×List Val×List Exper×List Lay_×List Flg×List Seg×List Prq×Unit->Prop)=>Qa list By.snd.snd.fst (3:Int) fun y1l u8k=>Cnd (By.fst<y1l) (Qa list u8k ((1:Int)+G6) fun q8s u94=>InI ((1:Int)+q8s)/\Bg list u94 fun J5 u6l=>Jn1 (fun (q3q:ByteArray×Int×List ByteArray×List Prq×List Seg×List Flg×List Lay_×List Exper×List Val×List Tgt×Unit)=>q3q.snd.snd.fst.length<=(9223372036854775807:Nat)->Cnd ((0:Int)<(↑q3q.snd.snd.fst.length:Int)) (Sml (q3q.snd.snd.snd.snd.snd.snd.snd.snd.snd.fst++[Tgt.mk q3q.fst ((1:Int)+q8s) q3q.snd.snd.fst]).length/\InI (By.fst+(1:Int))/\u8j (By.fst+(1:Int),q3q.snd.snd.snd.snd.snd.snd.snd.snd.snd.fst++[Tgt.mk q3q.fst ((1:Int)+q8s) q3q.snd.snd.fst],q3q.snd.fst,q3q.snd.snd.snd.snd.snd.snd.snd.snd.fst,q3q.snd.snd.snd.snd.snd.snd.snd.fst,q3q.snd.snd.snd.snd.snd.snd.fst,q3q.snd.snd.snd.snd.snd.fst,q3q.snd.snd.snd.snd.fst,q3q.snd.snd.snd.fst,())) (InI (By.fst+(1:Int))/\u8j (By.fst+(1:Int),q3q.snd.snd.snd.snd.snd.snd.snd.snd.snd.fst,q3q.snd.fst,q3q.snd.snd.snd.snd.snd.snd.snd.snd.fst,q3q.snd.snd.snd.snd.snd.snd.snd.fst,q3q.snd.snd.snd.snd.snd.snd.fst,q3q.snd.snd.snd.snd.snd.fst,q3q.snd.snd.snd.snd.fst,q3q.snd.snd.snd.fst,()))) fun (u8l:ByteArray×Int×List ByteArray×List Prq×List Seg×List Flg×List Lay_×List Exper×List Val×List Tgt×Unit->Prop)=>Qa list u6l (4:Int) fun u95 u8m=>Cnd (u95=(1:Int)) (u8l (ByteArray.mk (Array.mk [100,101,118,105,99,101]),u8m,J5,By.snd.snd.snd.snd.snd.snd.snd.snd.fst,By.snd.snd.snd.snd.snd.snd.snd.fst,By.snd.snd.snd.snd.snd.snd.fst,By.snd.snd.snd.snd.snd.fst,By.snd.snd.snd.snd.fst,By.snd.snd.snd.fst,By.snd.fst,())) (u8l (ByteArray.mk (Array.mk [117,115,101,114]),u8m,J5,By.snd.snd.snd.snd.snd.snd.snd.snd.fst,By.snd.snd.snd.snd.snd.snd.snd.fst,By.snd.snd.snd.snd.snd.snd.fst,By.snd.snd.snd.snd.snd.fst,By.snd.snd.snd.snd.fst,By.snd.snd.snd.fst,By.snd.fst,()))) (Jn1 (fun (q8s:Int×List Rul×List ByteArray×List Prq×List Seg×List Flg×List Lay_×List Exper×List Val×List Tgt×Unit)=>q8q list q8s.fst ((1:Int)+G6) fun J5 u6l=>Sml (q8s.snd.snd.snd.snd.snd.fst++[Flg.mk y7 ((1:Int)+Q7) q8s.snd.snd.snd.snd.snd.snd.snd.snd.fst (decide (R8<(5:Int))) ((1:Int)+Zo) q8s.snd.snd.snd.fst q8s.snd.snd.snd.snd.snd.snd.snd.snd.snd.fst q8s.snd.fst J5]).length/\InI (Zb.fst+(1:Int))/\w9d (Zb.fst+(1:Int),u6l,q8s.snd.snd.snd.snd.snd.fst++[Flg.mk y7 ((1:Int)+Q7) q8s.snd.snd.snd.snd.snd.snd.snd.snd.fst (decide (R8<(5:Int))) ((1:Int)+Zo) q8s.snd.snd.snd.fst q8s.snd.snd.snd.snd.snd.snd.snd.snd.snd.fst q8s.snd.fst J5],q8s.snd.snd.snd.snd.fst,q8s.snd.snd.snd.snd.snd.snd.fst,q8s.snd.snd.snd.snd.snd.snd.snd.fst,())) fun (u6m:Int×List Rul×List ByteArray×List Prq×List Seg×List Flg×List Lay_×List Exper×List Val×List Tgt×Unit->Prop)=>LpH (fun (J5:Int×Int×List Rul×List ByteArray×List Prq×List Seg×List Flg×List Lay_×List Exper×List Val×List Tgt×Unit) (u96:Int×Int×List Rul×List ByteArray×List Prq×List Seg×List Flg×List Lay_×List Exper×List Val×List Tgt×Unit->Prop)=>Qa list J5.snd.fst (5:Int) fun q3q u20=>Cnd (J5.fst<q3q) (((0:Int)<=J5.fst/\J5.fst<(↑J5.snd.snd.snd.fst.length:Int))/\ ∀y21,J5.snd.snd.snd.fst[J5.fst.toNat]? =some y21->Uo (Envt.mk (Sett.mk Z1 v2v w5i) u0l J5.snd.snd.snd.snd.snd.fst J5.snd.snd.snd.snd.snd.snd.fst J5.snd.snd.snd.snd.snd.snd.snd.fst J5.snd.snd.snd.snd.snd.snd.snd.snd.fst) fun u97=>Bh list u20 u97 (3:Int) fun Z4 u98=>q8q list u98 ((1:Int)+G6) fun q99 u0j=>Sml (J5.snd.snd.fst++[Rul.mk y21 (Ex.mk Z4.1 Z4.2 Z4.3 Z4.4 Z4.5) q99]).length/\Zr (J5.snd.snd.fst++[Rul.mk y21 (Ex.mk Z4.1 Z4.2 Z4.3 Z4.4 Z4.5) q99]) fun u8n _ u99=>Cnd (u99=true) (u8n.length<=(9223372036854775807:Nat)->Cnd ((0:Int)<(↑u8n.length:Int)) ((J5.snd.snd.fst++[Rul.mk y21 (Ex.mk Z4.1 Z4.2 Z4.3 Z4.4 Z4.5) q99]).length<=(9223372036854775807:Nat)->InI ((↑(J5.snd.snd.fst++[Rul.mk y21 (Ex.mk Z4.1 Z4.2 Z4.3 Z4.4 Z4.5) q99]).length:Int) - (1:Int))/\((0:Int)<=(↑(J5.snd.snd.fst++[Rul.mk y21 (Ex.mk Z4.1 Z4.2 Z4.3 Z4.4 Z4.5) q99]).length:Int) - (1:Int)/\(↑(J5.snd.snd.fst++[Rul.mk y21 (Ex.mk Z4.1 Z4.2 Z4.3 Z4.4 Z4.5) q99]).length:Int) - (1:Int)<=(↑(J5.snd.snd.fst++[Rul.mk y21 (Ex.mk Z4.1 Z4.2 Z4.3 Z4.4 Z4.5) q99]).length:Int))/\u6m (u0j,List.take ((↑(J5.snd.snd.fst++[Rul.mk y21 (Ex.mk Z4.1 Z4.2 Z4.3 Z4.4 Z4.5) q99]).length:Int) - (1:Int)).toNat (J5.snd.snd.fst++[Rul.mk y21 (Ex.mk Z4.1 Z4.2 Z4.3 Z4.4 Z4.5) q99]),J5.snd.snd.snd.fst,J5.snd.snd.snd.snd.fst,J5.snd.snd.snd.snd.snd.fst,J5.snd.snd.snd.snd.snd.snd.fst,J5.snd.snd.snd.snd.snd.snd.snd.fst,J5.snd.snd.snd.snd.snd.snd.snd.snd.fst,J5.snd.snd.snd.snd.snd.snd.snd.snd.snd.fst,J5.snd.snd.snd.snd.snd.snd.snd.snd.snd.snd.fst,())) (InI (J5.fst+(1:Int))/\u96 (J5.fst+(1:Int),u0j,J5.snd.snd.fst++[Rul.mk y21 (Ex.mk Z4.1 Z4.2 Z4.3 Z4.4 Z4.5) q99],J5.snd.snd.snd.fst,J5.snd.snd.snd.snd.fst,J5.snd.snd.snd.snd.snd.fst,J5.snd.snd.snd.snd.snd.snd.fst,J5.snd.snd.snd.snd.snd.snd.snd.fst,J5.snd.snd.snd.snd.snd.snd.snd.snd.fst,J5.snd.snd.snd.snd.snd.snd.snd.snd.snd.fst,J5.snd.snd.snd.snd.snd.snd.snd.snd.snd.snd.fst,()))) ((J5.snd.snd.fst++[Rul.mk y21 (Ex.mk Z4.1 Z4.2 Z4.3 Z4.4 Z4.5) q99]).length<=(9223372036854775807:Nat)->InI ((↑(J5.snd.snd.fst++[Rul.mk y21 (Ex.mk Z4.1 Z4.2 Z4.3 Z4.4 Z4.5) q99]).length:Int) - (1:Int))/\((0:Int)<=(↑(J5.snd.snd.fst++[Rul.mk y21 (Ex.mk Z4.1 Z4.2 Z4.3 Z4.4 Z4.5) q99]).length:Int) - (1:Int)/\(↑(J5.snd.snd.fst++[Rul.mk y21 (Ex.mk Z4.1 Z4.2 Z4.3 Z4.4 Z4.5) q99]).length:Int) - (1:Int)<=(↑(J5.snd.snd.fst++[Rul.mk y21 (Ex.mk Z4.1 Z4.2 Z4.3 Z4.4 Z4.5) q99]).length:Int))/\u6m (u0j,List.take ((↑(J5.snd.snd.fst++[Rul.mk y21 (Ex.mk Z4.1 Z4.2 Z4.3 Z4.4 Z4.5) q99]).length:Int) - (1:Int)).toNat (J5.snd.snd.fst++[Rul.mk y21 (Ex.mk Z4.1 Z4.2 Z4.3 Z4.4 Z4.5) q99]),J5.snd.snd.snd.fst,J5.snd.snd.snd.snd.fst,J5.snd.snd.snd.snd.snd.fst,J5.snd.snd.snd.snd.snd.snd.fst,J5.snd.snd.snd.snd.snd.snd.snd.fst,J5.snd.snd.snd.snd.snd.snd.snd.snd.fst,J5.snd.snd.snd.snd.snd.snd.snd.snd.snd.fst,J5.snd.snd.snd.snd.snd.snd.snd.snd.snd.snd.fst,()))) (u6m (u20,J5.snd.snd.fst,J5.snd.snd.snd.fst,J5.snd.snd.snd.snd.fst,J5.snd.snd.snd.snd.snd.fst,J5.snd.snd.snd.snd.snd.snd.fst,J5.snd.snd.snd.snd.snd.snd.snd.fst,J5.snd.snd.snd.snd.snd.snd.snd.snd.fst,J5.snd.snd.snd.snd.snd.snd.snd.snd.snd.fst,J5.snd.snd.snd.snd.snd.snd.snd.snd.snd.snd.fst,()))) ((0:Int),u8k,[],[ByteArray.mk (Array.mk [102,105,114,115,116]),ByteArray.mk (Array.mk [115,101,99,111,110,100]),ByteArray.mk (Array.mk [116,104,105,114,100]),ByteArray.mk (Array.mk [102,111,117,114,116,104])],By.snd.snd.snd.snd.snd.snd.snd.snd.fst,By.snd.snd.snd.snd.snd.snd.snd.fst,By.snd.snd.snd.snd.snd.snd.fst,By.snd.snd.snd.snd.snd.fst,By.snd.snd.snd.snd.fst,By.snd.snd.snd.fst,By.snd.fst,()))) ((0:Int),[],Hl.snd.snd.fst,Hl.snd.snd.snd.snd.snd.snd.snd.fst,Hl.snd.snd.snd.snd.snd.snd.fst,Hl.snd.snd.snd.snd.snd.fst,Hl.snd.snd.snd.snd.fst,Hl.snd.snd.snd.fst,Hl.snd.fst,()))) ((0:Int),[],j6j,R9.snd.snd.snd.snd.snd.snd.fst,R9.snd.snd.snd.snd.snd.fst,R9.snd.snd.snd.snd.fst,R9.snd.snd.snd.fst,R9.snd.snd.fst,()))) ((0:Int),w5g,[],Zb.snd.snd.snd.snd.snd.fst,Zb.snd.snd.snd.snd.fst,Zb.snd.snd.fst,Zb.snd.snd.snd.fst,())) (Qa list Zb.snd.fst (3:Int) fun Vf z4d=>Ra Vf [ByteArray.mk (Array.mk [108,97]),ByteArray.mk (Array.mk [108,98])] fun Uq=>LpH (fun (Q7:Int×Int×List Lay_×List Exper×List Seg×List Flg×Unit) (u8e:Int×Int×List Lay_×List Exper×List Seg×List Flg×Unit->Prop)=>Uq.length<=(9223372036854775807:Nat)->Cnd (Q7.fst<(↑Uq.length:Int)) (((0:Int)<=Q7.fst/\Q7.fst<(↑Uq.length:Int))/\ ∀y11,Uq[Q7.fst.toNat]? =some y11->z1g list Q7.snd.fst y11 fun Zo j6j=>Sml (Q7.snd.snd.fst++[Zo]).length/\InI (Q7.fst+(1:Int))/\u8e (Q7.fst+(1:Int),j6j,Q7.snd.snd.fst++[Zo],Q7.snd.snd.snd.fst,Q7.snd.snd.snd.snd.fst,Q7.snd.snd.snd.snd.snd.fst,())) (Qa list Q7.snd.fst (4:Int) fun G6 w5g=>Ra G6 [ByteArray.mk (Array.mk [120,97]),ByteArray.mk (Array.mk [120,98]),ByteArray.mk (Array.mk [120,99])] fun R9=>LpH (fun (Zo:Int×Int×List Exper×List Flg×List Seg×List Lay_×Unit) (u8o:Int×Int×List Exper×List Flg×List Seg×List Lay_×Unit->Prop)=>R9.length<=(9223372036854775807:Nat)->Cnd (Zo.fst<(↑R9.length:Int)) (Zo.snd.snd.snd.fst.length<=(9223372036854775807:Nat)->Cnd ((0:Int)<(↑Zo.snd.snd.snd.fst.length:Int)) (Zo.snd.snd.snd.snd.snd.fst.length<=(9223372036854775807:Nat)->Cnd ((0:Int)<(↑Zo.snd.snd.snd.snd.snd.fst.length:Int)) (((0:Int)<=Zo.fst/\Zo.fst<(↑R9.length:Int))/\ ∀y17,R9[Zo.fst.toNat]? =some y17->Zo.snd.snd.snd.fst.length<=(9223372036854775807:Nat)->Qa list Zo.snd.fst (↑Zo.snd.snd.snd.fst.length:Int) fun q3q u20=>((0:Int)<=q3q/\q3q<(↑Zo.snd.snd.snd.fst.length:Int))/\ ∀y21,Zo.snd.snd.snd.fst[q3q.toNat]? =some y21->Zo.snd.snd.snd.snd.snd.fst.length<=(9223372036854775807:Nat)->y21.3.length<=(9223372036854775807:Nat)->Qa list u20 (↑Zo.snd.snd.snd.snd.snd.fst.length:Int) fun q99 u0j=>((0:Int)<=q99/\q99<(↑Zo.snd.snd.snd.snd.snd.fst.length:Int))/\ ∀y26,Zo.snd.snd.snd.snd.snd.fst[q99.toNat]? =some y26->Jv list u0j fun w7b qa0a=>Qa list qa0a (3:Int) fun u21 qa0b=>InI ((1:Int)+u21)/\G7 list qa0b (↑y21.3.length:Int) fun u6n u8p=>Jn1 (fun (q52:Int×Int×List Rng×List Exper×List Lay_×List Flg×List Seg×Unit)=>Jn1 (fun (Z3:Int×ByteArray×ByteArray×List Val×List Ex×Int×List Seg×List Flg×List Lay_×List Exper×List Rng×Unit)=>q7d (Envt.mk (Sett.mk Z1 v2v w5i) u0l Z3.snd.snd.snd.snd.snd.snd.fst Z3.snd.snd.snd.snd.snd.snd.snd.fst Z3.snd.snd.snd.snd.snd.snd.snd.snd.fst Z3.snd.snd.snd.snd.snd.snd.snd.snd.snd.fst) y26.1 now fun (u6o:List Spn) (_:Int)=>Wh list Z3.snd.snd.snd.snd.snd.fst (8000:Int) fun (u6p qa0c:Int)=>Wh list qa0c (8000:Int) fun (y1m u6q:Int)=>W7 u6o [Spn.mk u6p y1m] fun (qa0d:List Spn)=>Wh list u6q (7000:Int) fun (qa0e u8q:Int)=>q41 qa0d qa0e fun (w7c:List Spn)=>Sml (Z3.snd.snd.snd.snd.snd.snd.snd.snd.snd.fst++[Exper.mk y17 y26.1 y21.1 w7b q52.fst w7c Z3.snd.snd.snd.snd.snd.snd.snd.snd.snd.snd.fst (Ex.mk Z3.fst Z3.snd.fst Z3.snd.snd.fst Z3.snd.snd.snd.fst Z3.snd.snd.snd.snd.fst)]).length/\Rd (Envt.mk (Sett.mk Z1 v2v w5i) u0l Z3.snd.snd.snd.snd.snd.snd.fst Z3.snd.snd.snd.snd.snd.snd.snd.fst Z3.snd.snd.snd.snd.snd.snd.snd.snd.fst (Z3.snd.snd.snd.snd.snd.snd.snd.snd.snd.fst++[Exper.mk y17 y26.1 y21.1 w7b q52.fst w7c Z3.snd.snd.snd.snd.snd.snd.snd.snd.snd.snd.fst (Ex.mk Z3.fst Z3.snd.fst Z3.snd.snd.fst Z3.snd.snd.snd.fst Z3.snd.snd.snd.snd.fst)])) fun (qa0f:Bool)=>Cnd (qa0f=true) (InI (Zo.fst+(1:Int))/\u8o (Zo.fst+(1:Int),u8q,Z3.snd.snd.snd.snd.snd.snd.snd.snd.snd.fst++[Exper.mk y17 y26.1 y21.1 w7b q52.fst w7c Z3.snd.snd.snd.snd.snd.snd.snd.snd.snd.snd.fst (Ex.mk Z3.fst Z3.snd.fst Z3.snd.snd.fst Z3.snd.snd.snd.fst Z3.snd.snd.snd.snd.fst)],Z3.snd.snd.snd.snd.snd.snd.snd.fst,Z3.snd.snd.snd.snd.snd.snd.fst,Z3.snd.snd.snd.snd.snd.snd.snd.snd.fst,())) ((Z3.snd.snd.snd.snd.snd.snd.snd.snd.snd.fst++[Exper.mk y17 y26.1 y21.1 w7b q52.fst w7c Z3.snd.snd.snd.snd.snd.snd.snd.snd.snd.snd.fst (Ex.mk Z3.fst Z3.snd.fst Z3.snd.snd.fst Z3.snd.snd.snd.fst Z3.snd.snd.snd.snd.fst)]).length<=(9223372036854775807:Nat)->InI ((↑(Z3.snd.snd.snd.snd.snd.snd.snd.snd.snd.fst++[Exper.mk y17 y26.1 y21.1 w7b q52.fst w7c Z3.snd.snd.snd.snd.snd.snd.snd.snd.snd.snd.fst (Ex.mk Z3.fst Z3.snd.fst Z3.snd.snd.fst Z3.snd.snd.snd.fst Z3.snd.snd.snd.snd.fst)]).length:Int) - (1:Int))/\((0:Int)<=(↑(Z3.snd.snd.snd.snd.snd.snd.snd.snd.snd.fst++[Exper.mk y17 y26.1 y21.1 w7b q52.fst w7c Z3.snd.snd.snd.snd.snd.snd.snd.snd.snd.snd.fst (Ex.mk Z3.fst Z3.snd.fst Z3.snd.snd.fst Z3.snd.snd.snd.fst Z3.snd.snd.snd.snd.fst)]).length:Int) - (1:Int)/\(↑(Z3.snd.snd.snd.snd.snd.snd.snd.snd.snd.fst++[Exper.mk y17 y26.1 y21.1 w7b q52.fst w7c Z3.snd.snd.snd.snd.snd.snd.snd.snd.snd.snd.fst (Ex.mk Z3.fst Z3.snd.fst Z3.snd.snd.fst Z3.snd.snd.snd.fst Z3.snd.snd.snd.snd.fst)]).length:Int) - (1:Int)<=(↑(Z3.snd.snd.snd.snd.snd.snd.snd.snd.snd.fst++[Exper.mk y17 y26.1 y21.1 w7b q52.fst w7c Z3.snd.snd.snd.snd.snd.snd.snd.snd.snd.snd.fst (Ex.mk Z3.fst Z3.snd.fst Z3.snd.snd.fst Z3.snd.snd.snd.fst Z3.snd.snd.snd.snd.fst)]).length:Int))/\InI (Zo.fst+(1:Int))/\u8o (Zo.fst+(1:Int),u8q,List.take ((↑(Z3.snd.snd.snd.snd.snd.snd.snd.snd.snd.fst++[Exper.mk y17 y26.1 y21.1 w7b q52.fst w7c Z3.snd.snd.snd.snd.snd.snd.snd.snd.snd.snd.fst (Ex.mk Z3.fst Z3.snd.fst Z3.snd.snd.fst Z3.snd.snd.snd.fst Z3.snd.snd.snd.snd.fst)]).length:Int) - (1:Int)).toNat (Z3.snd.snd.snd.snd.snd.snd.snd.snd.snd.fst++[Exper.mk y17 y26.1 y21.1 w7b q52.fst w7c Z3.snd.snd.snd.snd.snd.snd.snd.snd.snd.snd.fst (Ex.mk Z3.fst Z3.snd.fst Z3.snd.snd.fst Z3.snd.snd.snd.fst Z3.snd.snd.snd.snd.fst)]),Z3.snd.snd.snd.snd.snd.snd.snd.fst,Z3.snd.snd.snd.snd.snd.snd.fst,Z3.snd.snd.snd.snd.snd.snd.snd.snd.fst,()))) fun (u8r:Int×ByteArray×ByteArray×List Val×List Ex×Int×List Seg×List Flg×List Lay_×List Exper×List Rng×Unit->Prop)=>Qa list q52.snd.fst (2:Int) fun (u6o u8t:Int)=>Cnd (u6o=(1:Int)) (Uo (Envt.mk (Sett.mk Z1 v2v w5i) u0l q52.snd.snd.snd.snd.snd.snd.fst q52.snd.snd.snd.snd.snd.fst q52.snd.snd.snd.snd.fst q52.snd.snd.snd.fst) fun (u6p:List ByteArray)=>Bh list u8t u6p (2:Int) fun (y1m:Ex) (u6q:Int)=>u8r (y1m.1,y1m.2,y1m.3,y1m.4,y1m.5,u6q,q52.snd.snd.snd.snd.snd.snd.fst,q52.snd.snd.snd.snd.snd.fst,q52.snd.snd.snd.snd.fst,q52.snd.snd.snd.fst,q52.snd.snd.fst,())) (u8r ((1:Int),ByteArray.mk (Array.mk []),ByteArray.mk (Array.mk []),[],[],u8t,q52.snd.snd.snd.snd.snd.snd.fst,q52.snd.snd.snd.snd.snd.fst,q52.snd.snd.snd.snd.fst,q52.snd.snd.snd.fst,q52.snd.snd.fst,()))) fun (u6r:Int×Int×List Rng×List Exper×List Lay_×List Flg×List Seg×Unit->Prop)=>Cnd ((1:Int)+u21=(1:Int)) (Qa list u8p (2:Int) fun Z3 u8u=>Cnd (Z3=(0:Int)) (u6r ((2:Int),u8u,u6n,Zo.snd.snd.fst,Zo.snd.snd.snd.snd.snd.fst,Zo.snd.snd.snd.fst,Zo.snd.snd.snd.snd.fst,())) (u6r ((1:Int)+u21,u8u,u6n,Zo.snd.snd.fst,Zo.snd.snd.snd.snd.snd.fst,Zo.snd.snd.snd.fst,Zo.snd.snd.snd.snd.fst,()))) (u6r ((1:Int)+u21,u8p,u6n,Zo.snd.snd.fst,Zo.snd.snd.snd.snd.snd.fst,Zo.snd.snd.snd.fst,Zo.snd.snd.snd.snd.fst,()))) (Rd (Envt.mk (Sett.mk Z1 v2v w5i) u0l Zo.snd.snd.snd.snd.fst Zo.snd.snd.snd.fst Zo.snd.snd.snd.snd.snd.fst Zo.snd.snd.fst) fun y1l=>Cnd (y1l=true) (K (Envt.mk (Sett.mk Z1 v2v w5i) u0l Zo.snd.snd.snd.snd.fst Zo.snd.snd.snd.fst Zo.snd.snd.snd.snd.snd.fst Zo.snd.snd.fst) Zo.snd.fst) (Q3 fun q8s=>K (Envt.mk (Sett.mk (ByteArray.mk (Array.mk [])) (ByteArray.mk (Array.mk [])) (0:Int)) q8s [] [] [] []) Zo.snd.fst))) (Rd (Envt.mk (Sett.mk Z1 v2v w5i) u0l Zo.snd.snd.snd.snd.fst Zo.snd.snd.snd.fst Zo.snd.snd.snd.snd.snd.fst Zo.snd.snd.fst) fun By=>Cnd (By=true) (K (Envt.mk (Sett.mk Z1 v2v w5i) u0l Zo.snd.snd.snd.snd.fst Zo.snd.snd.snd.fst Zo.snd.snd.snd.snd.snd.fst Zo.snd.snd.fst) Zo.snd.fst) (Q3 fun y1l=>K (Envt.mk (Sett.mk (ByteArray.mk (Array.mk [])) (ByteArray.mk (Array.mk [])) (0:Int)) y1l [] [] [] []) Zo.snd.fst))) (Rd (Envt.mk (Sett.mk Z1 v2v w5i) u0l Zo.snd.snd.snd.snd.fst Zo.snd.snd.snd.fst Zo.snd.snd.snd.snd.snd.fst Zo.snd.snd.fst) fun y59=>Cnd (y59=true) (K (Envt.mk (Sett.mk Z1 v2v w5i) u0l Zo.snd.snd.snd.snd.fst Zo.snd.snd.snd.fst Zo.snd.snd.snd.snd.snd.fst Zo.snd.snd.fst) Zo.snd.fst) (Q3 fun By=>K (Envt.mk (Sett.mk (ByteArray.mk (Array.mk [])) (ByteArray.mk (Array.mk [])) (0:Int)) By [] [] [] []) Zo.snd.fst))) ((0:Int),w5g,Q7.snd.snd.snd.fst,Q7.snd.snd.snd.snd.snd.fst,Q7.snd.snd.snd.snd.fst,Q7.snd.snd.fst,()))) ((0:Int),z4d,Zb.snd.snd.snd.snd.fst,Zb.snd.snd.snd.snd.snd.fst,Zb.snd.snd.snd.fst,Zb.snd.snd.fst,()))) ((0:Int),Bj,x2_6,x2_5,x2_7,x2_8,())) fun w9e=>Qa list at_ (2:Int) fun Qg Z1=>Cnd (Qg=(1:Int)) (Jv list Z1 fun Qm Bj=>Wh list Bj (2500:Int) fun Qj Ud=>w9e (Qm,ByteArray.mk (Array.mk [117,115,101,114]),Qj,Ud,Qb,())) (w9e (ByteArray.mk (Array.mk []),ByteArray.mk (Array.mk []),(0:Int),Z1,Qb,()))
def Gz (list:List (Int)) (at_:Int) (now:Int) (K:Envt->Int->Prop):Prop:=q71 Jg q11 Zc q6d U5 q6e z0h Uf q47 Jz z0k Hr q2u q6w q08 Hw q30 q1m list at_ now K
abbrev Hy:Type:=Int->(Bool->Prop)->Prop
def Vd (op:Int) (K:Bool->Prop):Prop:=Cnd ((6:Int)<=op) (K (decide (op<=(15:Int)))) (K false)
abbrev Zn:Type:=List (ByteArray)->List (ByteArray)->(Bool->Prop)->Prop
def Q0 (s1:List (ByteArray)) (s2:List (ByteArray)) (K:Bool->Prop):Prop:=s1.length<=(9223372036854775807:Nat)->s2.length<=(9223372036854775807:Nat)->Cnd ((↑s1.length:Int)=(↑s2.length:Int)) (s1.length<=(9223372036854775807:Nat)->Lp1 (fun Qm j0z=>Cnd (Qm<(↑s1.length:Int)) (((0:Int)<=Qm/\Qm<(↑s1.length:Int))/\ ∀y4,s1[Qm.toNat]? =some y4->((0:Int)<=Qm/\Qm<(↑s2.length:Int))/\ ∀y6,s2[Qm.toNat]? =some y6->Cnd (y4=y6) (InI (Qm+(1:Int))/\j0z (Qm+(1:Int))) (K false)) (K true)) (0:Int)) (K false)
abbrev q83:Type:=Val->Val->(Bool->Prop)->Prop
def z4u (Qq:Zn) (a:Val) (b:Val) (K:Bool->Prop):Prop:=Cnd (a.1=b.1) (Cnd (a.2=b.2) (Cnd (a.3=b.3) (Qq a.4 b.4 fun Qb=>K Qb) (K false)) (K false)) (K false)
def q15 (a:Val) (b:Val) (K:Bool->Prop):Prop:=z4u Q0 a b K
abbrev q1n:Type:=Ex->Ex->(Bool->Prop)->Prop
def z9x (q2k:q83) (X:q1n) (a:Ex) (b:Ex) (K:Bool->Prop):Prop:=Cnd (a.1=b.1) (Cnd (a.2=b.2) (Cnd (a.3=b.3) (a.4.length<=(9223372036854775807:Nat)->b.4.length<=(9223372036854775807:Nat)->Cnd ((↑a.4.length:Int)=(↑b.4.length:Int)) (a.4.length<=(9223372036854775807:Nat)->Lp1 (fun Qm j0z=>Cnd (Qm<(↑a.4.length:Int)) (((0:Int)<=Qm/\Qm<(↑a.4.length:Int))/\ ∀y4,a.4[Qm.toNat]? =some y4->((0:Int)<=Qm/\Qm<(↑b.4.length:Int))/\ ∀y6,b.4[Qm.toNat]? =some y6->q2k y4 y6 fun Uq=>Cnd (Uq=true) (InI (Qm+(1:Int))/\j0z (Qm+(1:Int))) (K false)) (a.5.length<=(9223372036854775807:Nat)->b.5.length<=(9223372036854775807:Nat)->Cnd ((↑a.5.length:Int)=(↑b.5.length:Int)) (a.5.length<=(9223372036854775807:Nat)->Lp1 (fun Vf u8g=>Cnd (Vf<(↑a.5.length:Int)) (((0:Int)<=Vf/\Vf<(↑a.5.length:Int))/\ ∀y8,a.5[Vf.toNat]? =some y8->((0:Int)<=Vf/\Vf<(↑b.5.length:Int))/\ ∀y10,b.5[Vf.toNat]? =some y10->X (Ex.mk y8.1 y8.2 y8.3 y8.4 y8.5) (Ex.mk y10.1 y10.2 y10.3 y10.4 y10.5) fun R9=>Cnd (R9=true) (InI (Vf+(1:Int))/\u8g (Vf+(1:Int))) (K false)) (K true)) (0:Int)) (K false))) (0:Int)) (K false)) (K false)) (K false)) (K false)
def q1o (a:Ex) (b:Ex) (K:Bool->Prop):Prop:= ∀X:q1n,(∀a b K,z9x q15 X a b K->X a b K)->X a b K
abbrev Gf:Type:=List (Ex)->Ex->(List (Ex)->Prop)->Prop
def q9t (J6:Hy) (q1z:q1n) (X:Gf) (l:List (Ex)) (e:Ex) (K:List (Ex)->Prop):Prop:=Jn1 (fun Qb=>e.5.length<=(9223372036854775807:Nat)->Lp2 (fun Qg Z1 q8r=>Cnd (Z1<(↑e.5.length:Int)) (((0:Int)<=Z1/\Z1<(↑e.5.length:Int))/\ ∀y3,e.5[Z1.toNat]? =some y3->X Qg (Ex.mk y3.1 y3.2 y3.3 y3.4 y3.5) fun Zb=>InI (Z1+(1:Int))/\q8r Zb (Z1+(1:Int))) (K Qg)) Qb (0:Int)) fun z4e=>J6 e.1 fun Qd=>Cnd (Qd=true) (l.length<=(9223372036854775807:Nat)->Lp1 (fun Qm j0z=>Cnd (Qm<(↑l.length:Int)) (((0:Int)<=Qm/\Qm<(↑l.length:Int))/\ ∀y4,l[Qm.toNat]? =some y4->q1z (Ex.mk y4.1 y4.2 y4.3 y4.4 y4.5) (Ex.mk e.1 e.2 e.3 e.4 e.5) fun Js=>Cnd (Js=true) (Cnd ((0:Int)<=Qm) (z4e l) (Sml (l++[Ex.mk e.1 e.2 e.3 e.4 e.5]).length/\z4e (l++[Ex.mk e.1 e.2 e.3 e.4 e.5]))) (InI (Qm+(1:Int))/\j0z (Qm+(1:Int)))) (Cnd ((0:Int)<=(-1:Int)) (z4e l) (Sml (l++[Ex.mk e.1 e.2 e.3 e.4 e.5]).length/\z4e (l++[Ex.mk e.1 e.2 e.3 e.4 e.5])))) (0:Int)) (Cnd (e.1=(5:Int)) (l.length<=(9223372036854775807:Nat)->Lp1 (fun Qm j0z=>Cnd (Qm<(↑l.length:Int)) (((0:Int)<=Qm/\Qm<(↑l.length:Int))/\ ∀y4,l[Qm.toNat]? =some y4->q1z (Ex.mk y4.1 y4.2 y4.3 y4.4 y4.5) (Ex.mk e.1 e.2 e.3 e.4 e.5) fun Js=>Cnd (Js=true) (Cnd ((0:Int)<=Qm) (z4e l) (Sml (l++[Ex.mk e.1 e.2 e.3 e.4 e.5]).length/\z4e (l++[Ex.mk e.1 e.2 e.3 e.4 e.5]))) (InI (Qm+(1:Int))/\j0z (Qm+(1:Int)))) (Cnd ((0:Int)<=(-1:Int)) (z4e l) (Sml (l++[Ex.mk e.1 e.2 e.3 e.4 e.5]).length/\z4e (l++[Ex.mk e.1 e.2 e.3 e.4 e.5])))) (0:Int)) (z4e l))
def Rt (l:List (Ex)) (e:Ex) (K:List (Ex)->Prop):Prop:= ∀X:Gf,(∀l e K,q9t Vd q1o X l e K->X l e K)->X l e K
abbrev Ve:Type:=Val->(Val->Prop)->Prop
def J0 (v:Val) (K:Val->Prop):Prop:= ∀n0,(n0=true->v.4=[])->Cnd (n0=true) (K (Val.mk v.1 v.2 v.3 [])) (Sml ([]++v.4).length/\K (Val.mk v.1 v.2 v.3 ([]++v.4)))
abbrev Br:Type:=Ex->(Ex->Prop)->Prop
def z4v (Zm:Ve) (X:Br) (e:Ex) (K:Ex->Prop):Prop:=e.4.length<=(9223372036854775807:Nat)->((0:Int)<=(0:Int)/\(0:Int)<=(↑e.4.length:Int)/\Sml (↑e.4.length:Int).toNat)/\(e.4.length<=(9223372036854775807:Nat)->Lp2 (fun Qg Z1 q8r=>Cnd (Z1<(↑e.4.length:Int)) (((0:Int)<=Z1/\Z1<(↑e.4.length:Int))/\ ∀y3,e.4[Z1.toNat]? =some y3->Zm y3 fun Zb=>Sml (Qg++[Zb]).length/\InI (Z1+(1:Int))/\q8r (Qg++[Zb]) (Z1+(1:Int))) (e.5.length<=(9223372036854775807:Nat)->((0:Int)<=(0:Int)/\(0:Int)<=(↑e.5.length:Int)/\Sml (↑e.5.length:Int).toNat)/\(e.5.length<=(9223372036854775807:Nat)->Lp2 (fun Zb z4f u9x=>Cnd (z4f<(↑e.5.length:Int)) (((0:Int)<=z4f/\z4f<(↑e.5.length:Int))/\ ∀y6,e.5[z4f.toNat]? =some y6->X (Ex.mk y6.1 y6.2 y6.3 y6.4 y6.5) fun Uq=>Sml (Zb++[Ex.mk Uq.1 Uq.2 Uq.3 Uq.4 Uq.5]).length/\InI (z4f+(1:Int))/\u9x (Zb++[Ex.mk Uq.1 Uq.2 Uq.3 Uq.4 Uq.5]) (z4f+(1:Int))) (K (Ex.mk e.1 e.2 e.3 Qg Zb))) (List.replicate (Int.toNat (0:Int)) (Ex.mk (0:Int) (ByteArray.mk (Array.mk [])) (ByteArray.mk (Array.mk [])) [] [])) (0:Int)))) (List.replicate (Int.toNat (0:Int)) (Val.mk (0:Int) (0:Int) (ByteArray.mk (Array.mk [])) [])) (0:Int))
def q16 (e:Ex) (K:Ex->Prop):Prop:= ∀X:Br,(∀e K,z4v J0 X e K->X e K)->X e K
abbrev q5b:Type:=Ex->(List (Ex)->Prop)->Prop
def q9u (R1:Gf) (q2l:Br) (e:Ex) (K:List (Ex)->Prop):Prop:=R1 [] (Ex.mk e.1 e.2 e.3 e.4 e.5) fun Qb=>Qb.length<=(9223372036854775807:Nat)->((0:Int)<=(0:Int)/\(0:Int)<=(↑Qb.length:Int)/\Sml (↑Qb.length:Int).toNat)/\(Qb.length<=(9223372036854775807:Nat)->Lp2 (fun Qm Bj w5f=>Cnd (Bj<(↑Qb.length:Int)) (((0:Int)<=Bj/\Bj<(↑Qb.length:Int))/\ ∀y4,Qb[Bj.toNat]? =some y4->q2l (Ex.mk y4.1 y4.2 y4.3 y4.4 y4.5) fun Js=>Sml (Qm++[Ex.mk Js.1 Js.2 Js.3 Js.4 Js.5]).length/\InI (Bj+(1:Int))/\w5f (Qm++[Ex.mk Js.1 Js.2 Js.3 Js.4 Js.5]) (Bj+(1:Int))) (K Qm)) (List.replicate (Int.toNat (0:Int)) (Ex.mk (0:Int) (ByteArray.mk (Array.mk [])) (ByteArray.mk (Array.mk [])) [] [])) (0:Int))
def q05 (e:Ex) (K:List (Ex)->Prop):Prop:=q9u Rt q16 e K
abbrev Zp:Type:=List (ByteArray)->(List (ByteArray)->Prop)->Prop
def Zd (x:List (ByteArray)) (K:List (ByteArray)->Prop):Prop:=K (srt x)
abbrev J1:Type:=List (ByteArray)->(List (ByteArray)->Prop)->Prop
def Z9 (s:List (ByteArray)) (K:List (ByteArray)->Prop):Prop:=K (cpt s)
abbrev q1e:Type:=Ex->(List (ByteArray)->Prop)->Prop
def q5z (R2:q5b) (Qt:Zp) (Zs:J1) (e:Ex) (K:List (ByteArray)->Prop):Prop:=R2 (Ex.mk e.1 e.2 e.3 e.4 e.5) fun Qb=>Qb.length<=(9223372036854775807:Nat)->Lp2 (fun Qg Z1 q8r=>Cnd (Z1<(↑Qb.length:Int)) (((0:Int)<=Z1/\Z1<(↑Qb.length:Int))/\ ∀y3,Qb[Z1.toNat]? =some y3->Cnd (y3.1=(5:Int)) (Sml (Qg++[y3.3]).length/\InI (Z1+(1:Int))/\q8r (Qg++[y3.3]) (Z1+(1:Int))) (InI (Z1+(1:Int))/\q8r Qg (Z1+(1:Int)))) (Qt Qg fun Qm=>Zs Qm fun Qj=>K Qj)) [] (0:Int)
def Uw (e:Ex) (K:List (ByteArray)->Prop):Prop:=q5z q05 Zd Z9 e K
abbrev q6j:Type:=List (ByteArray)->List (Edg)->(List (ByteArray)->Int->Prop)->Prop
def P_graph_Order (nodes:List (ByteArray)) (edges:List (Edg)) (K:List (ByteArray)->Int->Prop):Prop:=Go.Fl.P_graph_Order nodes (edges.map fun e=>(e.1,e.2)) K
abbrev q24:Type:=List (Seg)->(List (ByteArray)->Int->Prop)->Prop
def q72 (U1:q1e) (q0t:q6j) (l:List (Seg)) (K:List (ByteArray)->Int->Prop):Prop:=l.length<=(9223372036854775807:Nat)->Lp3 (fun Qd Jk z9c u2x=>Cnd (z9c<(↑l.length:Int)) (((0:Int)<=z9c/\z9c<(↑l.length:Int))/\ ∀y2,l[z9c.toNat]? =some y2->Sml (Qd++[y2.1]).length/\U1 (Ex.mk y2.5.1 y2.5.2 y2.5.3 y2.5.4 y2.5.5) fun Qj=>Qj.length<=(9223372036854775807:Nat)->Lp2 (fun Js j0w u6f=>Cnd (j0w<(↑Qj.length:Int)) (((0:Int)<=j0w/\j0w<(↑Qj.length:Int))/\ ∀y7,Qj[j0w.toNat]? =some y7->Sml (Js++[Edg.mk y2.1 y7]).length/\InI (j0w+(1:Int))/\u6f (Js++[Edg.mk y2.1 y7]) (j0w+(1:Int))) (InI (z9c+(1:Int))/\u2x (Qd++[y2.1]) Js (z9c+(1:Int)))) Jk (0:Int)) (q0t Qd Jk fun Qg Z1=>K Qg Z1)) [] [] (0:Int)
def G0 (l:List (Seg)) (K:List (ByteArray)->Int->Prop):Prop:=q72 Uw P_graph_Order l K
abbrev Ul:Type:=Subj->ByteArray->(Int->Prop)->Prop
def Wf (s:Subj) (kind:ByteArray) (K:Int->Prop):Prop:=s.1.length<=(9223372036854775807:Nat)->Lp1 (fun Qd q59=>Cnd (Qd<(↑s.1.length:Int)) (((0:Int)<=Qd/\Qd<(↑s.1.length:Int))/\ ∀y2,s.1[Qd.toNat]? =some y2->Cnd (y2.1=kind) (K Qd) (InI (Qd+(1:Int))/\q59 (Qd+(1:Int)))) (K (-1:Int))) (0:Int)
abbrev q0f:Type:=Attr->(Attr->Prop)->Prop
def q4a (Zm:Ve) (a:Attr) (K:Attr->Prop):Prop:=Zm (Val.mk a.2.1 a.2.2 a.2.3 a.2.4) fun Qb=>K (Attr.mk a.1 Qb)
def V6 (a:Attr) (K:Attr->Prop):Prop:=q4a J0 a K
abbrev q25:Type:=Ctxt->(Ctxt->Prop)->Prop
def q73 (Uc:q0f) (c:Ctxt) (K:Ctxt->Prop):Prop:=c.3.length<=(9223372036854775807:Nat)->((0:Int)<=(0:Int)/\(0:Int)<=(↑c.3.length:Int)/\Sml (↑c.3.length:Int).toNat)/\(c.3.length<=(9223372036854775807:Nat)->Lp2 (fun Qg Z1 q8r=>Cnd (Z1<(↑c.3.length:Int)) (((0:Int)<=Z1/\Z1<(↑c.3.length:Int))/\ ∀y3,c.3[Z1.toNat]? =some y3->Uc (Attr.mk y3.1 (Val.mk y3.2.1 y3.2.2 y3.2.3 y3.2.4)) fun Zb=>Sml (Qg++[Attr.mk Zb.1 (Val.mk Zb.2.1 Zb.2.2 Zb.2.3 Zb.2.4)]).length/\InI (Z1+(1:Int))/\q8r (Qg++[Attr.mk Zb.1 (Val.mk Zb.2.1 Zb.2.2 Zb.2.3 Zb.2.4)]) (Z1+(1:Int))) (K (Ctxt.mk c.1 c.2 Qg))) (List.replicate (Int.toNat (0:Int)) (Attr.mk (ByteArray.mk (Array.mk [])) (Val.mk (0:Int) (0:Int) (ByteArray.mk (Array.mk [])) []))) (0:Int))
def G1 (c:Ctxt) (K:Ctxt->Prop):Prop:=q73 V6 c K
abbrev q5c:Type:=Subj->ByteArray->(Ctxt->Bool->Prop)->Prop
def q9v (Jc:Ul) (Hg:q25) (s:Subj) (kind:ByteArray) (K:Ctxt->Bool->Prop):Prop:=Jc (Subj.mk s.1) kind fun Qb=>Cnd (Qb<(0:Int)) (K (Ctxt.mk (ByteArray.mk (Array.mk [])) (ByteArray.mk (Array.mk [])) []) false) (((0:Int)<=Qb/\Qb<(↑s.1.length:Int))/\ ∀y1,s.1[Qb.toNat]? =some y1->Hg y1 fun Qm=>K Qm true)
def Ru (s:Subj) (kind:ByteArray) (K:Ctxt->Bool->Prop):Prop:=q9v Wf G1 s kind K
abbrev q1f:Type:=Subj->ByteArray->ByteArray->(Val->Bool->Prop)->Prop
def q50 (Jc:Ul) (Zm:Ve) (s:Subj) (kind:ByteArray) (name:ByteArray) (K:Val->Bool->Prop):Prop:=Jc (Subj.mk s.1) kind fun Qb=>Cnd (Qb<(0:Int)) (K (Val.mk (0:Int) (0:Int) (ByteArray.mk (Array.mk [])) []) false) (((0:Int)<=Qb/\Qb<(↑s.1.length:Int))/\ ∀y1,s.1[Qb.toNat]? =some y1->Cnd (name=ByteArray.mk (Array.mk [107,101,121])) (K (Val.mk (3:Int) (0:Int) y1.2 []) true) (y1.3.length<=(9223372036854775807:Nat)->Lp5 (fun Qj Ud z7z u6u (u9v:List ByteArray) u8x=>Cnd (Qj<(↑y1.3.length:Int)) (((0:Int)<=Qj/\Qj<(↑y1.3.length:Int))/\ ∀y5,y1.3[Qj.toNat]? =some y5->Cnd (y5.1=name) (Zm (Val.mk y5.2.1 y5.2.2 y5.2.3 y5.2.4) fun Vf=>K Vf true) (InI (Qj+(1:Int))/\u8x (Qj+(1:Int)) Ud z7z u6u u9v)) (K (Val.mk (0:Int) (0:Int) (ByteArray.mk (Array.mk [])) []) false)) (0:Int) (0:Int) (0:Int) (ByteArray.mk (Array.mk [])) []))
def Ux (s:Subj) (kind:ByteArray) (name:ByteArray) (K:Val->Bool->Prop):Prop:=q50 Wf J0 s kind name K
abbrev q6k:Type:=Val->Val->(Bool->Prop)->Prop
def z18 (Qq:Zn) (a:Val) (b:Val) (K:Bool->Prop):Prop:=Cnd (a.1=b.1) (Cnd (a.2=b.2) (Cnd (a.3=b.3) (Qq a.4 b.4 fun Qb=>K Qb) (K false)) (K false)) (K false)
def Hz (a:Val) (b:Val) (K:Bool->Prop):Prop:=z18 Q0 a b K
abbrev Jj:Type:=ByteArray->ByteArray->(Bool->Prop)->Prop
def Zg (s:ByteArray) (prefix_:ByteArray) (K:Bool->Prop):Prop:=Cnd ((↑prefix_.size:Int)<=(↑s.size:Int)) (((0:Int)<=(0:Int)/\(0:Int)<=(↑prefix_.size:Int)/\(↑prefix_.size:Int)<=(↑s.size:Int))/\K (decide (s.extract (Int.toNat (0:Int)) (↑prefix_.size:Int).toNat=prefix_))) (K false)
abbrev H0:Type:=ByteArray->ByteArray->(Bool->Prop)->Prop
def q1p (Q2:Jj) (s:ByteArray) (prefix_:ByteArray) (K:Bool->Prop):Prop:=Q2 s prefix_ fun Qb=>K Qb
def W2 (s:ByteArray) (prefix_:ByteArray) (K:Bool->Prop):Prop:=q1p Zg s prefix_ K
abbrev Vw:Type:=ByteArray->ByteArray->(Bool->Prop)->Prop
def J2 (s:ByteArray) (suffix:ByteArray) (K:Bool->Prop):Prop:=Cnd ((↑suffix.size:Int)<=(↑s.size:Int)) (InI ((↑s.size:Int) - (↑suffix.size:Int))/\((0:Int)<=(↑s.size:Int) - (↑suffix.size:Int)/\(↑s.size:Int) - (↑suffix.size:Int)<=(↑s.size:Int)/\(↑s.size:Int)<=(↑s.size:Int))/\K (decide (s.extract ((↑s.size:Int) - (↑suffix.size:Int)).toNat (↑s.size:Int).toNat=suffix))) (K false)
abbrev H1:Type:=ByteArray->ByteArray->(Bool->Prop)->Prop
def q1q (J7:Vw) (s:ByteArray) (suffix:ByteArray) (K:Bool->Prop):Prop:=J7 s suffix fun Qb=>K Qb
def W4 (s:ByteArray) (suffix:ByteArray) (K:Bool->Prop):Prop:=q1q J2 s suffix K
abbrev Bb:Type:=ByteArray->ByteArray->(Bool->Prop)->Prop
def U9 (s:ByteArray) (substr:ByteArray) (K:Bool->Prop):Prop:=s.size<4294967281/\K (Go.Lib.contains s.data.toList substr.data.toList)
abbrev q6l:Type:=Val->(Bool->Prop)->Prop
def H2 (v:Val) (K:Bool->Prop):Prop:=Jn1 (fun Qb=>Cnd (Qb=true) (Cnd (v.3=ByteArray.mk (Array.mk [])) (v.4.length<=(9223372036854775807:Nat)->K (decide ((↑v.4.length:Int)=(0:Int)))) (K false)) (Jn1 (fun Qd=>Cnd (Qd=true) (Cnd (v.2=(0:Int)) (v.4.length<=(9223372036854775807:Nat)->K (decide ((↑v.4.length:Int)=(0:Int)))) (K false)) (Cnd (v.2=(0:Int)) (K (decide (v.3=ByteArray.mk (Array.mk [])))) (K false))) fun w9e=>Cnd (v.1=(3:Int)) (w9e (decide (v.1=(3:Int)))) (w9e (decide (v.1=(4:Int)))))) fun z4e=>Cnd (v.1=(1:Int)) (z4e (decide (v.1=(1:Int)))) (z4e (decide (v.1=(2:Int))))
abbrev q84:Type:=ByteArray->(Bool->Prop)->Prop
def z4w (Zl:Ws) (s:ByteArray) (K:Bool->Prop):Prop:=Cnd ((200:Int)<(↑s.size:Int)) (K false) (Zl s fun Qb=>Cnd (Qb=true) (Lp1 (fun (Qd:ByteArray×Nat) q59=>Cnd (Qd.snd<Qd.fst.size) (Cnd ((↑(Go.Utf8.decode Qd.fst Qd.snd).fst:Int)<(32:Int)) (K false) (Cnd ((↑(Go.Utf8.decode Qd.fst Qd.snd).fst:Int)=(127:Int)) (K false) (q59 (Qd.fst,Qd.snd+(Go.Utf8.decode Qd.fst Qd.snd).snd)))) (K true)) (s,(0:Nat))) (K false))
def q17 (s:ByteArray) (K:Bool->Prop):Prop:=z4w Jp s K
abbrev q26:Type:=ByteArray->ByteArray->(List (ByteArray)->Prop)->Prop
def Bt (s:ByteArray) (sep:ByteArray) (K:List (ByteArray)->Prop):Prop:=sep.size=1/\s.size<4294967281/\K (q10 s sep)
abbrev Vx:Type:=ByteArray->ByteArray->(ByteArray->Bool->Prop)->Prop
def H3 (Q2:Jj) (s:ByteArray) (prefix_:ByteArray) (K:ByteArray->Bool->Prop):Prop:=Q2 s prefix_ fun Qb=>Cnd (Qb=true) (((0:Int)<=(↑prefix_.size:Int)/\(↑prefix_.size:Int)<=(↑s.size:Int)/\(↑s.size:Int)<=(↑s.size:Int))/\K (s.extract (↑prefix_.size:Int).toNat (↑s.size:Int).toNat) true) (K s false)
def Wt (s:ByteArray) (prefix_:ByteArray) (K:ByteArray->Bool->Prop):Prop:=H3 Zg s prefix_ K
abbrev H4:Type:=ByteArray->ByteArray->(ByteArray->Bool->Prop)->Prop
def q1r (J8:Vx) (s:ByteArray) (prefix_:ByteArray) (K:ByteArray->Bool->Prop):Prop:=J8 s prefix_ fun Qb Zj=>K Qb Zj
def W5 (s:ByteArray) (prefix_:ByteArray) (K:ByteArray->Bool->Prop):Prop:=q1r Wt s prefix_ K
abbrev q5d:Type:=ByteArray->(Int->Bool->Prop)->Prop
def Rv (s:ByteArray) (K:Int->Bool->Prop):Prop:=s.size<=281474976710656/\u2a s K
abbrev Bc:Type:=ByteArray->(Int->Int->Prop)->Prop
def q27 (W9:H4) (Gg:q5d) (s:ByteArray) (K:Int->Int->Prop):Prop:=W9 s (ByteArray.mk (Array.mk [45])) fun Qb Zj=>Cnd (Qb=ByteArray.mk (Array.mk [])) (K (0:Int) (1:Int)) (((0:Int)<=(0:Int)/\(0:Int)<(↑Qb.size:Int))/\ ∀b1,Qb[Int.toNat (0:Int)]? =some b1->Cnd ((↑b1.toNat:Int)=(48:Int)) (Cnd ((1:Int)<(↑Qb.size:Int)) (K (0:Int) (1:Int)) (Cnd (Zj=true) (K (0:Int) (1:Int)) (Lp1 (fun (Qm:ByteArray×Nat) j0z=>Cnd (Qm.snd<Qm.fst.size) (Cnd ((↑(Go.Utf8.decode Qm.fst Qm.snd).fst:Int)<(48:Int)) (K (0:Int) (1:Int)) (Cnd ((57:Int)<(↑(Go.Utf8.decode Qm.fst Qm.snd).fst:Int)) (K (0:Int) (1:Int)) (j0z (Qm.fst,Qm.snd+(Go.Utf8.decode Qm.fst Qm.snd).snd)))) (Gg s fun Qj Ud=>Cnd ((match (Qj,Ud,()).snd.fst with|true=>false|false=>true)=true) (K (0:Int) (3:Int)) (Cnd (Qj<(-1099511627776:Int)) (K (0:Int) (3:Int)) (Cnd ((1099511627776:Int)<Qj) (K (0:Int) (3:Int)) (K Qj (0:Int)))))) (Qb,(0:Nat))))) (Lp1 (fun (Qm:ByteArray×Nat) j0z=>Cnd (Qm.snd<Qm.fst.size) (Cnd ((↑(Go.Utf8.decode Qm.fst Qm.snd).fst:Int)<(48:Int)) (K (0:Int) (1:Int)) (Cnd ((57:Int)<(↑(Go.Utf8.decode Qm.fst Qm.snd).fst:Int)) (K (0:Int) (1:Int)) (j0z (Qm.fst,Qm.snd+(Go.Utf8.decode Qm.fst Qm.snd).snd)))) (Gg s fun Qj Ud=>Cnd ((match (Qj,Ud,()).snd.fst with|true=>false|false=>true)=true) (K (0:Int) (3:Int)) (Cnd (Qj<(-1099511627776:Int)) (K (0:Int) (3:Int)) (Cnd ((1099511627776:Int)<Qj) (K (0:Int) (3:Int)) (K Qj (0:Int)))))) (Qb,(0:Nat))))
def Vi (s:ByteArray) (K:Int->Int->Prop):Prop:=q27 W5 Rv s K
abbrev H5:Type:=ByteArray->(A3->Bool->Prop)->Prop
def z19 (Hh:q26) (Vn:Bc) (s:ByteArray) (K:A3->Bool->Prop):Prop:=Hh s (ByteArray.mk (Array.mk [46])) fun Qb=>Qb.length<=(9223372036854775807:Nat)->Cnd ((↑Qb.length:Int)=(3:Int)) (Qb.length<=(9223372036854775807:Nat)->LpH (fun (Qm:Int×Int×Int×Int×Int×Int×Int×Unit) j0z=>Cnd (Qm.fst<(↑Qb.length:Int)) (((0:Int)<=Qm.fst/\Qm.fst<(↑Qb.length:Int))/\ ∀y4,Qb[Qm.fst.toNat]? =some y4->Vn y4 fun Js j0w=>Cnd (j0w=(0:Int)) (Cnd (Js<(0:Int)) (K ((0:Int),(0:Int),(0:Int)) false) (Cnd ((999999:Int)<Js) (K ((0:Int),(0:Int),(0:Int)) false) (((0:Int)<=Qm.fst/\Qm.fst<(↑(3:Nat):Int))/\((True/\(Qm.fst=(↑(nat_lit 0):Int)->InI (Qm.fst+(1:Int))/\j0z (Qm.fst+(1:Int),Js,Qm.snd.snd.fst,Qm.snd.snd.snd.fst,Qm.snd.snd.snd.snd.fst,Qm.snd.snd.snd.snd.snd.fst,Qm.snd.snd.snd.snd.snd.snd.fst,())))/\(Qm.fst=(↑(nat_lit 1):Int)->InI (Qm.fst+(1:Int))/\j0z (Qm.fst+(1:Int),Qm.snd.fst,Js,Qm.snd.snd.snd.fst,Qm.snd.snd.snd.snd.fst,Qm.snd.snd.snd.snd.snd.fst,Qm.snd.snd.snd.snd.snd.snd.fst,())))/\(Qm.fst=(↑(nat_lit 2):Int)->InI (Qm.fst+(1:Int))/\j0z (Qm.fst+(1:Int),Qm.snd.fst,Qm.snd.snd.fst,Js,Qm.snd.snd.snd.snd.fst,Qm.snd.snd.snd.snd.snd.fst,Qm.snd.snd.snd.snd.snd.snd.fst,()))))) (K ((0:Int),(0:Int),(0:Int)) false)) (K (Qm.snd.fst,Qm.snd.snd.fst,Qm.snd.snd.snd.fst) true)) ((0:Int),(0:Int),(0:Int),(0:Int),(0:Int),(0:Int),(0:Int),())) (K ((0:Int),(0:Int),(0:Int)) false)
def Vy (s:ByteArray) (K:A3->Bool->Prop):Prop:=z19 Bt Vi s K
abbrev q6m:Type:=Val->(Int->Prop)->Prop
def z2a (q0u:q6l) (Bz:q84) (Jr:H5) (v:Val) (K:Int->Prop):Prop:=Cnd (v.1<(1:Int)) (K (7:Int)) (Cnd ((5:Int)<v.1) (K (7:Int)) (q0u v fun Qb=>Cnd (Qb=true) (Cnd (v.1=(1:Int)) (Cnd (v.2=(0:Int)) (K (0:Int)) (Cnd (v.2=(1:Int)) (K (0:Int)) (K (3:Int)))) (Cnd (v.1=(2:Int)) (Cnd (v.2<(-1099511627776:Int)) (K (3:Int)) (Cnd ((1099511627776:Int)<v.2) (K (3:Int)) (K (0:Int)))) (Cnd (v.1=(3:Int)) (Bz v.3 fun Qd=>Cnd (Qd=true) (K (0:Int)) (K (2:Int))) (Cnd (v.1=(4:Int)) (Jr v.3 fun (_:Int×Int×Int) Jk=>Cnd (Jk=true) (K (0:Int)) (K (1:Int))) (Cnd (v.1=(5:Int)) (v.4.length<=(9223372036854775807:Nat)->Cnd ((20:Int)<(↑v.4.length:Int)) (K (5:Int)) (v.4.length<=(9223372036854775807:Nat)->Lp1 (fun Qm j0z=>Cnd (Qm<(↑v.4.length:Int)) (((0:Int)<=Qm/\Qm<(↑v.4.length:Int))/\ ∀y4,v.4[Qm.toNat]? =some y4->Bz y4 fun Js=>Cnd (Js=true) (InI (Qm+(1:Int))/\j0z (Qm+(1:Int))) (K (2:Int))) (v.4.length<=(9223372036854775807:Nat)->Lp1 (fun Zb w9d=>Cnd (Zb<(↑v.4.length:Int)) (Cnd ((0:Int)<Zb) (InI (Zb - (1:Int))/\((0:Int)<=Zb - (1:Int)/\Zb - (1:Int)<(↑v.4.length:Int))/\ ∀y6,v.4[(Zb - (1:Int)).toNat]? =some y6->((0:Int)<=Zb/\Zb<(↑v.4.length:Int))/\ ∀y8,v.4[Zb.toNat]? =some y8->Cnd (Lk.blt y6 y8) (InI (Zb+(1:Int))/\w9d (Zb+(1:Int))) (K (9:Int))) (InI (Zb+(1:Int))/\w9d (Zb+(1:Int)))) (K (0:Int))) (0:Int))) (0:Int))) (K (0:Int))))))) (K (15:Int))))
def q0g (v:Val) (K:Int->Prop):Prop:=z2a H2 q17 Vy v K
abbrev q28:Type:=Val->Val->(Int->Int->Prop)->Prop
def q74 (Re:q6m) (Jr:H5) (a:Val) (b:Val) (K:Int->Int->Prop):Prop:=Re a fun Qb=>Cnd (Qb=(0:Int)) (Re b fun Qd=>Cnd (Qd=(0:Int)) (Cnd (a.1=b.1) (Cnd (a.1=(1:Int)) (K (0:Int) (8:Int)) (Cnd (a.1=(5:Int)) (K (0:Int) (8:Int)) (Cnd (a.1=(2:Int)) (Cnd (a.2=a.2) (Cnd (b.2=b.2) (Cnd (a.2<b.2) (K (-1:Int) (0:Int)) (Cnd (b.2<a.2) (K (1:Int) (0:Int)) (K (0:Int) (0:Int)))) (K (1:Int) (0:Int))) (Cnd (b.2=b.2) (K (-1:Int) (0:Int)) (K (0:Int) (0:Int)))) (Cnd (a.1=(3:Int)) (Cnd (a.3=a.3) (Cnd (b.3=b.3) (Cnd (Lk.blt a.3 b.3) (K (-1:Int) (0:Int)) (Cnd (Lk.blt b.3 a.3) (K (1:Int) (0:Int)) (K (0:Int) (0:Int)))) (K (1:Int) (0:Int))) (Cnd (b.3=b.3) (K (-1:Int) (0:Int)) (K (0:Int) (0:Int)))) (Jr a.3 fun (Qg:Int×Int×Int) _=>Jr b.3 fun (Qm:Int×Int×Int) _=>([Qg.fst,Qg.snd.fst,Qg.snd.snd].length<=(9223372036854775807:Nat)->Lp1 (fun Zb w9d=>Cnd (Zb<(↑[Qg.fst,Qg.snd.fst,Qg.snd.snd].length:Int)) (((0:Int)<=Zb/\Zb<(↑[Qg.fst,Qg.snd.fst,Qg.snd.snd].length:Int))/\ ∀y6,[Qg.fst,Qg.snd.fst,Qg.snd.snd][Zb.toNat]? =some y6->[Qm.fst,Qm.snd.fst,Qm.snd.snd].length<=(9223372036854775807:Nat)->Cnd ((↑[Qm.fst,Qm.snd.fst,Qm.snd.snd].length:Int)<=Zb) (K (1:Int) (0:Int)) (((0:Int)<=Zb/\Zb<(↑[Qm.fst,Qm.snd.fst,Qm.snd.snd].length:Int))/\ ∀y9,[Qm.fst,Qm.snd.fst,Qm.snd.snd][Zb.toNat]? =some y9->Cnd (y6=y6) (Cnd (y9=y9) (Cnd (y6<y9) (Cnd ((-1:Int)=(0:Int)) (InI (Zb+(1:Int))/\w9d (Zb+(1:Int))) (K (-1:Int) (0:Int))) (Cnd (y9<y6) (Cnd ((1:Int)=(0:Int)) (InI (Zb+(1:Int))/\w9d (Zb+(1:Int))) (K (1:Int) (0:Int))) (Cnd ((0:Int)=(0:Int)) (InI (Zb+(1:Int))/\w9d (Zb+(1:Int))) (K (0:Int) (0:Int))))) (Cnd ((1:Int)=(0:Int)) (InI (Zb+(1:Int))/\w9d (Zb+(1:Int))) (K (1:Int) (0:Int)))) (Cnd (y9=y9) (Cnd ((-1:Int)=(0:Int)) (InI (Zb+(1:Int))/\w9d (Zb+(1:Int))) (K (-1:Int) (0:Int))) (Cnd ((0:Int)=(0:Int)) (InI (Zb+(1:Int))/\w9d (Zb+(1:Int))) (K (0:Int) (0:Int)))))) ([Qg.fst,Qg.snd.fst,Qg.snd.snd].length<=(9223372036854775807:Nat)->[Qm.fst,Qm.snd.fst,Qm.snd.snd].length<=(9223372036854775807:Nat)->Cnd ((↑[Qg.fst,Qg.snd.fst,Qg.snd.snd].length:Int)<(↑[Qm.fst,Qm.snd.fst,Qm.snd.snd].length:Int)) (K (-1:Int) (0:Int)) (K (0:Int) (0:Int)))) (0:Int))/\([Qg.fst,Qg.snd.fst,Qg.snd.snd].length<=(9223372036854775807:Nat)->Lp1 (fun Zb w9d=>Cnd (Zb<(↑[Qg.fst,Qg.snd.fst,Qg.snd.snd].length:Int)) (((0:Int)<=Zb/\Zb<(↑[Qg.fst,Qg.snd.fst,Qg.snd.snd].length:Int))/\ ∀y6,[Qg.fst,Qg.snd.fst,Qg.snd.snd][Zb.toNat]? =some y6->[Qm.fst,Qm.snd.fst,Qm.snd.snd].length<=(9223372036854775807:Nat)->Cnd ((↑[Qm.fst,Qm.snd.fst,Qm.snd.snd].length:Int)<=Zb) (K (1:Int) (0:Int)) (((0:Int)<=Zb/\Zb<(↑[Qm.fst,Qm.snd.fst,Qm.snd.snd].length:Int))/\ ∀y9,[Qm.fst,Qm.snd.fst,Qm.snd.snd][Zb.toNat]? =some y9->Cnd (y6=y6) (Cnd (y9=y9) (Cnd (y6<y9) (Cnd ((-1:Int)=(0:Int)) (InI (Zb+(1:Int))/\w9d (Zb+(1:Int))) (K (-1:Int) (0:Int))) (Cnd (y9<y6) (Cnd ((1:Int)=(0:Int)) (InI (Zb+(1:Int))/\w9d (Zb+(1:Int))) (K (1:Int) (0:Int))) (Cnd ((0:Int)=(0:Int)) (InI (Zb+(1:Int))/\w9d (Zb+(1:Int))) (K (0:Int) (0:Int))))) (Cnd ((1:Int)=(0:Int)) (InI (Zb+(1:Int))/\w9d (Zb+(1:Int))) (K (1:Int) (0:Int)))) (Cnd (y9=y9) (Cnd ((-1:Int)=(0:Int)) (InI (Zb+(1:Int))/\w9d (Zb+(1:Int))) (K (-1:Int) (0:Int))) (Cnd ((0:Int)=(0:Int)) (InI (Zb+(1:Int))/\w9d (Zb+(1:Int))) (K (0:Int) (0:Int)))))) ([Qg.fst,Qg.snd.fst,Qg.snd.snd].length<=(9223372036854775807:Nat)->[Qm.fst,Qm.snd.fst,Qm.snd.snd].length<=(9223372036854775807:Nat)->Cnd ((↑[Qg.fst,Qg.snd.fst,Qg.snd.snd].length:Int)<(↑[Qm.fst,Qm.snd.fst,Qm.snd.snd].length:Int)) (K (-1:Int) (0:Int)) (K (0:Int) (0:Int)))) (0:Int))))))) (K (0:Int) (8:Int))) (K (0:Int) Qd)) (K (0:Int) Qb)
def Um (a:Val) (b:Val) (K:Int->Int->Prop):Prop:=q74 q0g Vy a b K
abbrev q6n:Type:=Subj->Ex->(Bool->Prop)->Prop
def z2b (U2:q1f) (J6:Hy) (Gb:q6k) (Va:H0) (Vb:H1) (Vo:Bb) (Up:q28) (s:Subj) (e:Ex) (K:Bool->Prop):Prop:=U2 (Subj.mk s.1) e.2 e.3 fun Qb Zj=>Cnd (Zj=true) (J6 e.1 fun Qd=>Cnd (Qd=true) (Cnd (e.1=(6:Int)) (K true) (Cnd (e.1=(8:Int)) (e.4.length<=(9223372036854775807:Nat)->Lp1 (fun Qm j0z=>Cnd (Qm<(↑e.4.length:Int)) (((0:Int)<=Qm/\Qm<(↑e.4.length:Int))/\ ∀y4,e.4[Qm.toNat]? =some y4->Gb Qb y4 fun Js=>Cnd (Js=true) (K (decide ((0:Int)<=Qm))) (InI (Qm+(1:Int))/\j0z (Qm+(1:Int)))) (K (decide ((0:Int)<=(-1:Int))))) (0:Int)) (e.4.length<=(9223372036854775807:Nat)->Cnd ((↑e.4.length:Int)=(0:Int)) (K false) (((0:Int)<=(0:Int)/\(0:Int)<(↑e.4.length:Int))/\ ∀y3,e.4[Int.toNat (0:Int)]? =some y3->Cnd (Qb.1=(3:Int)) (Cnd (e.1=(7:Int)) (Gb Qb y3 fun Zb=>K Zb) (Cnd (e.1=(9:Int)) (Cnd (y3.1=(3:Int)) (Va Qb.3 y3.3 fun Zb=>K Zb) (K false)) (Cnd (e.1=(10:Int)) (Cnd (y3.1=(3:Int)) (Vb Qb.3 y3.3 fun Zb=>K Zb) (K false)) (Cnd (e.1=(11:Int)) (Cnd (y3.1=(3:Int)) (Vo Qb.3 y3.3 fun Zb=>Cnd (Zb=true) (K true) (Cnd (y3.1=(3:Int)) (Cnd (Qb.1=(5:Int)) (Qb.4.length<=(9223372036854775807:Nat)->Lp1 (fun Vf u8g=>Cnd (Vf<(↑Qb.4.length:Int)) (((0:Int)<=Vf/\Vf<(↑Qb.4.length:Int))/\ ∀y8,Qb.4[Vf.toNat]? =some y8->Cnd (y3.3=y8) (K (decide ((0:Int)<=Vf))) (InI (Vf+(1:Int))/\u8g (Vf+(1:Int)))) (K (decide ((0:Int)<=(-1:Int))))) (0:Int)) (K false)) (K false))) (Cnd (y3.1=(3:Int)) (Cnd (Qb.1=(5:Int)) (Qb.4.length<=(9223372036854775807:Nat)->Lp1 (fun Js u6g=>Cnd (Js<(↑Qb.4.length:Int)) (((0:Int)<=Js/\Js<(↑Qb.4.length:Int))/\ ∀y7,Qb.4[Js.toNat]? =some y7->Cnd (y3.3=y7) (K (decide ((0:Int)<=Js))) (InI (Js+(1:Int))/\u6g (Js+(1:Int)))) (K (decide ((0:Int)<=(-1:Int))))) (0:Int)) (K false)) (K false))) (Up Qb y3 fun Zb z4f=>Cnd (z4f=(0:Int)) (Cnd (e.1=(12:Int)) (K (decide (Zb<(0:Int)))) (Cnd (e.1=(13:Int)) (K (decide (Zb<=(0:Int)))) (Cnd (e.1=(14:Int)) (K (decide ((0:Int)<Zb))) (K (decide ((0:Int)<=Zb)))))) (K false)))))) (Cnd (e.1=(7:Int)) (Gb Qb y3 fun Zb=>K Zb) (Cnd (e.1=(9:Int)) (K false) (Cnd (e.1=(10:Int)) (K false) (Cnd (e.1=(11:Int)) (Cnd (y3.1=(3:Int)) (Cnd (Qb.1=(5:Int)) (Qb.4.length<=(9223372036854775807:Nat)->Lp1 (fun Js u6g=>Cnd (Js<(↑Qb.4.length:Int)) (((0:Int)<=Js/\Js<(↑Qb.4.length:Int))/\ ∀y7,Qb.4[Js.toNat]? =some y7->Cnd (y3.3=y7) (K (decide ((0:Int)<=Js))) (InI (Js+(1:Int))/\u6g (Js+(1:Int)))) (K (decide ((0:Int)<=(-1:Int))))) (0:Int)) (K false)) (K false)) (Up Qb y3 fun Zb z4f=>Cnd (z4f=(0:Int)) (Cnd (e.1=(12:Int)) (K (decide (Zb<(0:Int)))) (Cnd (e.1=(13:Int)) (K (decide (Zb<=(0:Int)))) (Cnd (e.1=(14:Int)) (K (decide ((0:Int)<Zb))) (K (decide ((0:Int)<=Zb)))))) (K false)))))))))) (K false)) (K false)
def q0h (s:Subj) (e:Ex) (K:Bool->Prop):Prop:=z2b Ux Vd Hz W2 W4 U9 Um s e K
abbrev H6:Type:=Subj->List (ByteArray)->Ex->(Bool->Prop)->Prop
def z2c (q0v:q6n) (X:H6) (s:Subj) (in_:List (ByteArray)) (e:Ex) (K:Bool->Prop):Prop:=Cnd (e.1=(1:Int)) (K true) (Cnd (e.1=(2:Int)) (e.5.length<=(9223372036854775807:Nat)->Lp1 (fun Qd q59=>Cnd (Qd<(↑e.5.length:Int)) (((0:Int)<=Qd/\Qd<(↑e.5.length:Int))/\ ∀y2,e.5[Qd.toNat]? =some y2->X (Subj.mk s.1) in_ (Ex.mk y2.1 y2.2 y2.3 y2.4 y2.5) fun Qj=>Cnd (Qj=true) (InI (Qd+(1:Int))/\q59 (Qd+(1:Int))) (K (match decide ((0:Int)<=Qd) with|true=>false|false=>true))) (K true)) (0:Int)) (Cnd (e.1=(3:Int)) (e.5.length<=(9223372036854775807:Nat)->Lp1 (fun Qd q59=>Cnd (Qd<(↑e.5.length:Int)) (((0:Int)<=Qd/\Qd<(↑e.5.length:Int))/\ ∀y2,e.5[Qd.toNat]? =some y2->X (Subj.mk s.1) in_ (Ex.mk y2.1 y2.2 y2.3 y2.4 y2.5) fun Qj=>Cnd (Qj=true) (K (decide ((0:Int)<=Qd))) (InI (Qd+(1:Int))/\q59 (Qd+(1:Int)))) (K (decide ((0:Int)<=(-1:Int))))) (0:Int)) (Cnd (e.1=(4:Int)) (e.5.length<=(9223372036854775807:Nat)->Cnd ((0:Int)<(↑e.5.length:Int)) (((0:Int)<=(0:Int)/\(0:Int)<(↑e.5.length:Int))/\ ∀y1,e.5[Int.toNat (0:Int)]? =some y1->X (Subj.mk s.1) in_ (Ex.mk y1.1 y1.2 y1.3 y1.4 y1.5) fun Qm=>K (match decide ((Qm,()).fst=true) with|true=>false|false=>true)) (K false)) (Cnd (e.1=(5:Int)) (in_.length<=(9223372036854775807:Nat)->Lp1 (fun Qd q59=>Cnd (Qd<(↑in_.length:Int)) (((0:Int)<=Qd/\Qd<(↑in_.length:Int))/\ ∀y2,in_[Qd.toNat]? =some y2->Cnd (e.3=y2) (K (decide ((0:Int)<=Qd))) (InI (Qd+(1:Int))/\q59 (Qd+(1:Int)))) (K (decide ((0:Int)<=(-1:Int))))) (0:Int)) (q0v (Subj.mk s.1) (Ex.mk e.1 e.2 e.3 e.4 e.5) fun Qb=>K Qb)))))
def q0i (s:Subj) (in_:List (ByteArray)) (e:Ex) (K:Bool->Prop):Prop:= ∀X:H6,(∀s in_ e K,z2c q0h X s in_ e K->X s in_ e K)->X s in_ e K
abbrev Bd:Type:=Seg->Subj->List (ByteArray)->(Bool->Prop)->Prop
def q29 (R3:q5c) (V0:H6) (g:Seg) (s:Subj) (in_:List (ByteArray)) (K:Bool->Prop):Prop:=R3 (Subj.mk s.1) g.2 fun Qb Zj=>Cnd (Zj=true) (g.4.length<=(9223372036854775807:Nat)->Lp1 (fun Qg j3z=>Cnd (Qg<(↑g.4.length:Int)) (((0:Int)<=Qg/\Qg<(↑g.4.length:Int))/\ ∀y3,g.4[Qg.toNat]? =some y3->Cnd (Qb.2=y3) (Cnd ((0:Int)<=Qg) (K false) (g.3.length<=(9223372036854775807:Nat)->Lp1 (fun Js u6g=>Cnd (Js<(↑g.3.length:Int)) (((0:Int)<=Js/\Js<(↑g.3.length:Int))/\ ∀y7,g.3[Js.toNat]? =some y7->Cnd (Qb.2=y7) (Cnd ((0:Int)<=Js) (K true) (Cnd (g.5.1=(0:Int)) (K false) (V0 (Subj.mk s.1) in_ (Ex.mk g.5.1 g.5.2 g.5.3 g.5.4 g.5.5) fun Q7=>K Q7))) (InI (Js+(1:Int))/\u6g (Js+(1:Int)))) (Cnd ((0:Int)<=(-1:Int)) (K true) (Cnd (g.5.1=(0:Int)) (K false) (V0 (Subj.mk s.1) in_ (Ex.mk g.5.1 g.5.2 g.5.3 g.5.4 g.5.5) fun Vf=>K Vf)))) (0:Int))) (InI (Qg+(1:Int))/\j3z (Qg+(1:Int)))) (Cnd ((0:Int)<=(-1:Int)) (K false) (g.3.length<=(9223372036854775807:Nat)->Lp1 (fun Qj v2w=>Cnd (Qj<(↑g.3.length:Int)) (((0:Int)<=Qj/\Qj<(↑g.3.length:Int))/\ ∀y5,g.3[Qj.toNat]? =some y5->Cnd (Qb.2=y5) (Cnd ((0:Int)<=Qj) (K true) (Cnd (g.5.1=(0:Int)) (K false) (V0 (Subj.mk s.1) in_ (Ex.mk g.5.1 g.5.2 g.5.3 g.5.4 g.5.5) fun Vf=>K Vf))) (InI (Qj+(1:Int))/\v2w (Qj+(1:Int)))) (Cnd ((0:Int)<=(-1:Int)) (K true) (Cnd (g.5.1=(0:Int)) (K false) (V0 (Subj.mk s.1) in_ (Ex.mk g.5.1 g.5.2 g.5.3 g.5.4 g.5.5) fun Zb=>K Zb)))) (0:Int)))) (0:Int)) (K false)
def Vj (g:Seg) (s:Subj) (in_:List (ByteArray)) (K:Bool->Prop):Prop:=q29 Ru q0i g s in_ K
abbrev Jm:Type:=List (Seg)->Subj->(List (ByteArray)->Prop)->Prop
def q4b (Hi:q24) (Vp:Bd) (Qt:Zp) (l:List (Seg)) (s:Subj) (K:List (ByteArray)->Prop):Prop:=Hi l fun Qb Zj=>Cnd (Zj=(0:Int)) (l.length<=(9223372036854775807:Nat)->Lp2 (fun Qg j3z q8r=>Cnd (Qg<(↑l.length:Int)) (((0:Int)<=Qg/\Qg<(↑l.length:Int))/\ ∀y3,l[Qg.toNat]? =some y3->InI (Qg+(1:Int))/\q8r (Qg+(1:Int)) (put j3z y3.1 (Seg.mk y3.1 y3.2 y3.3 y3.4 (Ex.mk y3.5.1 y3.5.2 y3.5.3 y3.5.4 y3.5.5)))) (Qb.length<=(9223372036854775807:Nat)->Lp2 (fun Qj Ud y6b=>Cnd (Ud<(↑Qb.length:Int)) (((0:Int)<=Ud/\Ud<(↑Qb.length:Int))/\ ∀y5,Qb[Ud.toNat]? =some y5->Vp (Seg.mk ((j3z y5).getD (Seg.mk (ByteArray.mk (Array.mk [])) (ByteArray.mk (Array.mk [])) [] [] (Ex.mk (0:Int) (ByteArray.mk (Array.mk [])) (ByteArray.mk (Array.mk [])) [] []))).1 ((j3z y5).getD (Seg.mk (ByteArray.mk (Array.mk [])) (ByteArray.mk (Array.mk [])) [] [] (Ex.mk (0:Int) (ByteArray.mk (Array.mk [])) (ByteArray.mk (Array.mk [])) [] []))).2 ((j3z y5).getD (Seg.mk (ByteArray.mk (Array.mk [])) (ByteArray.mk (Array.mk [])) [] [] (Ex.mk (0:Int) (ByteArray.mk (Array.mk [])) (ByteArray.mk (Array.mk [])) [] []))).3 ((j3z y5).getD (Seg.mk (ByteArray.mk (Array.mk [])) (ByteArray.mk (Array.mk [])) [] [] (Ex.mk (0:Int) (ByteArray.mk (Array.mk [])) (ByteArray.mk (Array.mk [])) [] []))).4 (Ex.mk ((j3z y5).getD (Seg.mk (ByteArray.mk (Array.mk [])) (ByteArray.mk (Array.mk [])) [] [] (Ex.mk (0:Int) (ByteArray.mk (Array.mk [])) (ByteArray.mk (Array.mk [])) [] []))).5.1 ((j3z y5).getD (Seg.mk (ByteArray.mk (Array.mk [])) (ByteArray.mk (Array.mk [])) [] [] (Ex.mk (0:Int) (ByteArray.mk (Array.mk [])) (ByteArray.mk (Array.mk [])) [] []))).5.2 ((j3z y5).getD (Seg.mk (ByteArray.mk (Array.mk [])) (ByteArray.mk (Array.mk [])) [] [] (Ex.mk (0:Int) (ByteArray.mk (Array.mk [])) (ByteArray.mk (Array.mk [])) [] []))).5.3 ((j3z y5).getD (Seg.mk (ByteArray.mk (Array.mk [])) (ByteArray.mk (Array.mk [])) [] [] (Ex.mk (0:Int) (ByteArray.mk (Array.mk [])) (ByteArray.mk (Array.mk [])) [] []))).5.4 ((j3z y5).getD (Seg.mk (ByteArray.mk (Array.mk [])) (ByteArray.mk (Array.mk [])) [] [] (Ex.mk (0:Int) (ByteArray.mk (Array.mk [])) (ByteArray.mk (Array.mk [])) [] []))).5.5)) (Subj.mk s.1) Qj fun Vf=>Cnd (Vf=true) (Sml (Qj++[y5]).length/\InI (Ud+(1:Int))/\y6b (Qj++[y5]) (Ud+(1:Int))) (InI (Ud+(1:Int))/\y6b Qj (Ud+(1:Int)))) (Qt Qj fun Zb=>K Zb)) [] (0:Int))) (0:Int) fun _=>none) (K [])
def Zz (l:List (Seg)) (s:Subj) (K:List (ByteArray)->Prop):Prop:=q4b G0 Vj Zd l s K
abbrev Wu:Type:=List (Seg)->Subj->ByteArray->(Bool->Prop)->Prop
def q3a (Qz:Jm) (l:List (Seg)) (s:Subj) (key:ByteArray) (K:Bool->Prop):Prop:=Qz l (Subj.mk s.1) fun Qb=>Qb.length<=(9223372036854775807:Nat)->Lp1 (fun Qg j3z=>Cnd (Qg<(↑Qb.length:Int)) (((0:Int)<=Qg/\Qg<(↑Qb.length:Int))/\ ∀y3,Qb[Qg.toNat]? =some y3->Cnd (key=y3) (K (decide ((0:Int)<=Qg))) (InI (Qg+(1:Int))/\j3z (Qg+(1:Int)))) (K (decide ((0:Int)<=(-1:Int))))) (0:Int)
def Jf (l:List (Seg)) (s:Subj) (key:ByteArray) (K:Bool->Prop):Prop:=q3a Zz l s key K
abbrev q6o:Type:=(Bool->Prop)->Prop
def z2d (Za:Wu) (Qz:Jm) (K:Bool->Prop):Prop:=Za [Seg.mk (ByteArray.mk (Array.mk [98,101,116,97])) (ByteArray.mk (Array.mk [117,115,101,114])) [ByteArray.mk (Array.mk [97]),ByteArray.mk (Array.mk [98])] [ByteArray.mk (Array.mk [98])] (Ex.mk (0:Int) (ByteArray.mk (Array.mk [])) (ByteArray.mk (Array.mk [])) [] [])] (Subj.mk [Ctxt.mk (ByteArray.mk (Array.mk [117,115,101,114])) (ByteArray.mk (Array.mk [97])) []]) (ByteArray.mk (Array.mk [98,101,116,97])) fun Qb=>Cnd (Qb=true) (Za [Seg.mk (ByteArray.mk (Array.mk [98,101,116,97])) (ByteArray.mk (Array.mk [117,115,101,114])) [ByteArray.mk (Array.mk [97]),ByteArray.mk (Array.mk [98])] [ByteArray.mk (Array.mk [98])] (Ex.mk (0:Int) (ByteArray.mk (Array.mk [])) (ByteArray.mk (Array.mk [])) [] [])] (Subj.mk [Ctxt.mk (ByteArray.mk (Array.mk [117,115,101,114])) (ByteArray.mk (Array.mk [98])) []]) (ByteArray.mk (Array.mk [98,101,116,97])) fun Qd=>Cnd (Qd=true) (K false) (Qz [Seg.mk (ByteArray.mk (Array.mk [98,101,116,97])) (ByteArray.mk (Array.mk [117,115,101,114])) [ByteArray.mk (Array.mk [97]),ByteArray.mk (Array.mk [98])] [ByteArray.mk (Array.mk [98])] (Ex.mk (0:Int) (ByteArray.mk (Array.mk [])) (ByteArray.mk (Array.mk [])) [] [])] (Subj.mk [Ctxt.mk (ByteArray.mk (Array.mk [117,115,101,114])) (ByteArray.mk (Array.mk [97])) []]) fun Qg=>Qg.length<=(9223372036854775807:Nat)->K (decide ((↑Qg.length:Int)=(1:Int))))) (K false)
def q0j (K:Bool->Prop):Prop:=z2d Jf Zz K
abbrev v0a:Type:=List (Int)->Int->(List (Int)->Int->Prop)->Prop
def z9y (list_:List (Int)) (most:Int) (K:List (Int)->Int->Prop):Prop:=Jn1 (fun Qb=>K Qb (0:Int)) fun z4e=>list_.length<=(9223372036854775807:Nat)->Cnd (most<(↑list_.length:Int)) (((0:Int)<=(0:Int)/\(0:Int)<=most/\most<=(↑list_.length:Int))/\z4e (List.drop (Int.toNat (0:Int)) (List.take most.toNat list_))) (z4e list_)
abbrev z2e:Type:=List (Int)->Int->ByteArray->(Ctxt->Int->Prop)->Prop
def z9z (q4v:z9l) (Q3:Wj) (Qa:Zf) (Ja:q02) (list:List (Int)) (at_:Int) (kind:ByteArray) (K:Ctxt->Int->Prop):Prop:=q4v list at_ fun Qb Zj=>Q3 fun Qd=>Lp3 (fun Qg Z1 v2v u79=>Qd.length<=(9223372036854775807:Nat)->Cnd (Qg<(↑Qd.length:Int)) (((0:Int)<=Qg/\Qg<(↑Qd.length:Int))/\ ∀y4,Qd[Qg.toNat]? =some y4->Cnd (y4.1=kind) (Qa list v2v (4:Int) fun Js j0w=>Cnd ((0:Int)<Js) (((0:Int)<=Qg/\Qg<(↑Qd.length:Int))/\ ∀y7,Qd[Qg.toNat]? =some y7->((0:Int)<=Qg/\Qg<(↑Qd.length:Int))/\ ∀y9,Qd[Qg.toNat]? =some y9->Ja list j0w y9.3 fun G6 w5g=>Sml (Z1++[Attr.mk y7.2 G6]).length/\InI (Qg+(1:Int))/\u79 (Qg+(1:Int)) (Z1++[Attr.mk y7.2 G6]) w5g) (InI (Qg+(1:Int))/\u79 (Qg+(1:Int)) Z1 j0w)) (InI (Qg+(1:Int))/\u79 (Qg+(1:Int)) Z1 v2v)) (K (Ctxt.mk kind Qb Z1) v2v)) (0:Int) [] Zj
def q1s (list:List (Int)) (at_:Int) (kind:ByteArray) (K:Ctxt->Int->Prop):Prop:=z9z z1s Jg Zc U5 list at_ kind K
abbrev z2f:Type:=List (Int)->Int->(Subj->Int->Prop)->Prop
def z90 (Qa:Zf) (Rf:z2e) (list:List (Int)) (at_:Int) (K:Subj->Int->Prop):Prop:=Qa list at_ (6:Int) fun Qb Zj=>Jn2 (fun Qd Jk=>Cnd (Qb=(1:Int)) (K (Subj.mk Jk) Qd) (Cnd (Qb=(5:Int)) (K (Subj.mk Jk) Qd) (Rf list Qd (ByteArray.mk (Array.mk [117,115,101,114])) fun Qg Z1=>Sml (Jk++[Qg]).length/\K (Subj.mk (Jk++[Qg])) Z1))) fun w9e=>Cnd (Qb=(1:Int)) (Rf list Zj (ByteArray.mk (Array.mk [100,101,118,105,99,101])) fun Qg Z1=>Sml ([]++[Qg]).length/\w9e Z1 ([]++[Qg])) (Cnd (Qb=(2:Int)) (Rf list Zj (ByteArray.mk (Array.mk [100,101,118,105,99,101])) fun Qg Z1=>Sml ([]++[Qg]).length/\w9e Z1 ([]++[Qg])) (Cnd (Qb=(4:Int)) (Rf list Zj (ByteArray.mk (Array.mk [100,101,118,105,99,101])) fun Qg Z1=>Sml ([]++[Qg]).length/\w9e Z1 ([]++[Qg])) (w9e Zj [])))
def q4c (list:List (Int)) (at_:Int) (K:Subj->Int->Prop):Prop:=z90 Zc q1s list at_ K
abbrev q75:Type:=Subj->ByteArray->(Ctxt->Bool->Prop)->Prop
def q06 (s:Subj) (kind:ByteArray) (K:Ctxt->Bool->Prop):Prop:=Lp4 (fun Qb Zj u8a (j30:List Attr) Y0_4=>s.1.length<=(9223372036854775807:Nat)->Cnd (Qb<(↑s.1.length:Int)) (((0:Int)<=Qb/\Qb<(↑s.1.length:Int))/\ ∀y2,s.1[Qb.toNat]? =some y2->Cnd (y2.1=kind) (((0:Int)<=Qb/\Qb<(↑s.1.length:Int))/\ ∀y4,s.1[Qb.toNat]? =some y4->K y4 true) (InI (Qb+(1:Int))/\Y0_4 (Qb+(1:Int)) Zj u8a j30)) (K (Ctxt.mk (ByteArray.mk (Array.mk [])) (ByteArray.mk (Array.mk [])) []) false)) (0:Int) (ByteArray.mk (Array.mk [])) (ByteArray.mk (Array.mk [])) []
abbrev z2g:Type:=Subj->ByteArray->ByteArray->(Val->Bool->Prop)->Prop
def z91 (Hj:q75) (s:Subj) (kind:ByteArray) (name:ByteArray) (K:Val->Bool->Prop):Prop:=Hj (Subj.mk s.1) kind fun Qb Zj=>Cnd (Zj=true) (Cnd (name=ByteArray.mk (Array.mk [107,101,121])) (K (Val.mk (3:Int) (0:Int) Qb.2 []) true) (Lp5 (fun Qd Jk z9c w5h (u9t:List ByteArray) u9u=>Qb.3.length<=(9223372036854775807:Nat)->Cnd (Qd<(↑Qb.3.length:Int)) (((0:Int)<=Qd/\Qd<(↑Qb.3.length:Int))/\ ∀y3,Qb.3[Qd.toNat]? =some y3->Cnd (y3.1=name) (((0:Int)<=Qd/\Qd<(↑Qb.3.length:Int))/\ ∀y5,Qb.3[Qd.toNat]? =some y5->K (Val.mk y5.2.1 y5.2.2 y5.2.3 y5.2.4) true) (InI (Qd+(1:Int))/\u9u (Qd+(1:Int)) Jk z9c w5h u9t)) (K (Val.mk (0:Int) (0:Int) (ByteArray.mk (Array.mk [])) []) false)) (0:Int) (0:Int) (0:Int) (ByteArray.mk (Array.mk [])) [])) (K (Val.mk (0:Int) (0:Int) (ByteArray.mk (Array.mk [])) []) false)
def q4d (s:Subj) (kind:ByteArray) (name:ByteArray) (K:Val->Bool->Prop):Prop:=z91 q06 s kind name K
abbrev Bu:Type:=ByteArray->ByteArray->Int->(Bool->Prop)->Prop
def V1 (s:ByteArray) (t:ByteArray) (i:Int) (K:Bool->Prop):Prop:=Cnd ((0:Int)<=i) (InI (i+(↑t.size:Int))/\Cnd (i+(↑t.size:Int)<=(↑s.size:Int)) (InI (i+(↑t.size:Int))/\((0:Int)<=i/\i<=i+(↑t.size:Int)/\i+(↑t.size:Int)<=(↑s.size:Int))/\K (decide (s.extract i.toNat (i+(↑t.size:Int)).toNat=t))) (K false)) (K false)
abbrev q5e:Type:=Val->Val->(Bool->Prop)->Prop
def q9w (Qv:Ju) (Wd:Bu) (v:Val) (w:Val) (K:Bool->Prop):Prop:=Cnd (w.1=(3:Int)) (Cnd (v.1=(5:Int)) (Qv v.4 w.3 fun Qb=>K Qb) (Lp1 (fun Qb q3r=>Cnd (v.1=(3:Int)) (InI (Qb+(↑w.3.size:Int))/\Cnd (Qb+(↑w.3.size:Int)<=(↑v.3.size:Int)) (Wd v.3 w.3 Qb fun Qd=>Cnd (Qd=true) (K true) (InI (Qb+(1:Int))/\q3r (Qb+(1:Int)))) (K false)) (K false)) (0:Int))) (K false)
def Rw (v:Val) (w:Val) (K:Bool->Prop):Prop:=q9w Je V1 v w K
abbrev j1r:Type:=Bool->Bool->(Int->Prop)->Prop
def q3b (less:Bool) (greater:Bool) (K:Int->Prop):Prop:=Cnd (less=true) (K (-1:Int)) (Cnd (greater=true) (K (1:Int)) (K (0:Int)))
abbrev q85:Type:=Val->Val->(Int->Int->Prop)->Prop
def z4x (Zu:Rq) (Qf:j1r) (Vl:q32) (a:Val) (b:Val) (K:Int->Int->Prop):Prop:=Zu a fun Qb=>Cnd (Qb=(0:Int)) (Zu b fun Qd=>Cnd (Qd=(0:Int)) (Cnd (a.1=b.1) (Cnd (a.1=(1:Int)) (K (0:Int) (8:Int)) (Cnd (a.1=(5:Int)) (K (0:Int) (8:Int)) (Cnd (a.1=(2:Int)) (Qf (decide (a.2<b.2)) (decide (b.2<a.2)) fun Qg=>K Qg (0:Int)) (Cnd (a.1=(3:Int)) (Qf (decide (Lk.blt a.3 b.3)) (decide (Lk.blt b.3 a.3)) fun Qg=>K Qg (0:Int)) (Vl a.3 fun (Qg:Int×Int×Int) _=>Vl b.3 fun (Qm:Int×Int×Int) _=>Lp1 (fun Qj v2w=>Cnd (Qj<(3:Int)) (((0:Int)<=Qj/\Qj<(↑(3:Nat):Int))/\((True/\(Qj=(↑(nat_lit 0):Int)->((0:Int)<=Qj/\Qj<(↑(3:Nat):Int))/\((True/\(Qj=(↑(nat_lit 0):Int)->Cnd (Qg.fst=Qm.fst) (InI (Qj+(1:Int))/\v2w (Qj+(1:Int))) (((0:Int)<=Qj/\Qj<(↑(3:Nat):Int))/\((True/\(Qj=(↑(nat_lit 0):Int)->((0:Int)<=Qj/\Qj<(↑(3:Nat):Int))/\((True/\(Qj=(↑(nat_lit 0):Int)->Qf (decide (Qg.fst<Qm.fst)) true fun Q7=>K Q7 (0:Int)))/\(Qj=(↑(nat_lit 1):Int)->Qf (decide (Qg.fst<Qm.snd.fst)) true fun Q7=>K Q7 (0:Int)))/\(Qj=(↑(nat_lit 2):Int)->Qf (decide (Qg.fst<Qm.snd.snd)) true fun Q7=>K Q7 (0:Int))))/\(Qj=(↑(nat_lit 1):Int)->((0:Int)<=Qj/\Qj<(↑(3:Nat):Int))/\((True/\(Qj=(↑(nat_lit 0):Int)->Qf (decide (Qg.snd.fst<Qm.fst)) true fun Q7=>K Q7 (0:Int)))/\(Qj=(↑(nat_lit 1):Int)->Qf (decide (Qg.snd.fst<Qm.snd.fst)) true fun Q7=>K Q7 (0:Int)))/\(Qj=(↑(nat_lit 2):Int)->Qf (decide (Qg.snd.fst<Qm.snd.snd)) true fun Q7=>K Q7 (0:Int))))/\(Qj=(↑(nat_lit 2):Int)->((0:Int)<=Qj/\Qj<(↑(3:Nat):Int))/\((True/\(Qj=(↑(nat_lit 0):Int)->Qf (decide (Qg.snd.snd<Qm.fst)) true fun Q7=>K Q7 (0:Int)))/\(Qj=(↑(nat_lit 1):Int)->Qf (decide (Qg.snd.snd<Qm.snd.fst)) true fun Q7=>K Q7 (0:Int)))/\(Qj=(↑(nat_lit 2):Int)->Qf (decide (Qg.snd.snd<Qm.snd.snd)) true fun Q7=>K Q7 (0:Int))))))/\(Qj=(↑(nat_lit 1):Int)->Cnd (Qg.fst=Qm.snd.fst) (InI (Qj+(1:Int))/\v2w (Qj+(1:Int))) (((0:Int)<=Qj/\Qj<(↑(3:Nat):Int))/\((True/\(Qj=(↑(nat_lit 0):Int)->((0:Int)<=Qj/\Qj<(↑(3:Nat):Int))/\((True/\(Qj=(↑(nat_lit 0):Int)->Qf (decide (Qg.fst<Qm.fst)) true fun Q7=>K Q7 (0:Int)))/\(Qj=(↑(nat_lit 1):Int)->Qf (decide (Qg.fst<Qm.snd.fst)) true fun Q7=>K Q7 (0:Int)))/\(Qj=(↑(nat_lit 2):Int)->Qf (decide (Qg.fst<Qm.snd.snd)) true fun Q7=>K Q7 (0:Int))))/\(Qj=(↑(nat_lit 1):Int)->((0:Int)<=Qj/\Qj<(↑(3:Nat):Int))/\((True/\(Qj=(↑(nat_lit 0):Int)->Qf (decide (Qg.snd.fst<Qm.fst)) true fun Q7=>K Q7 (0:Int)))/\(Qj=(↑(nat_lit 1):Int)->Qf (decide (Qg.snd.fst<Qm.snd.fst)) true fun Q7=>K Q7 (0:Int)))/\(Qj=(↑(nat_lit 2):Int)->Qf (decide (Qg.snd.fst<Qm.snd.snd)) true fun Q7=>K Q7 (0:Int))))/\(Qj=(↑(nat_lit 2):Int)->((0:Int)<=Qj/\Qj<(↑(3:Nat):Int))/\((True/\(Qj=(↑(nat_lit 0):Int)->Qf (decide (Qg.snd.snd<Qm.fst)) true fun Q7=>K Q7 (0:Int)))/\(Qj=(↑(nat_lit 1):Int)->Qf (decide (Qg.snd.snd<Qm.snd.fst)) true fun Q7=>K Q7 (0:Int)))/\(Qj=(↑(nat_lit 2):Int)->Qf (decide (Qg.snd.snd<Qm.snd.snd)) true fun Q7=>K Q7 (0:Int))))))/\(Qj=(↑(nat_lit 2):Int)->Cnd (Qg.fst=Qm.snd.snd) (InI (Qj+(1:Int))/\v2w (Qj+(1:Int))) (((0:Int)<=Qj/\Qj<(↑(3:Nat):Int))/\((True/\(Qj=(↑(nat_lit 0):Int)->((0:Int)<=Qj/\Qj<(↑(3:Nat):Int))/\((True/\(Qj=(↑(nat_lit 0):Int)->Qf (decide (Qg.fst<Qm.fst)) true fun Q7=>K Q7 (0:Int)))/\(Qj=(↑(nat_lit 1):Int)->Qf (decide (Qg.fst<Qm.snd.fst)) true fun Q7=>K Q7 (0:Int)))/\(Qj=(↑(nat_lit 2):Int)->Qf (decide (Qg.fst<Qm.snd.snd)) true fun Q7=>K Q7 (0:Int))))/\(Qj=(↑(nat_lit 1):Int)->((0:Int)<=Qj/\Qj<(↑(3:Nat):Int))/\((True/\(Qj=(↑(nat_lit 0):Int)->Qf (decide (Qg.snd.fst<Qm.fst)) true fun Q7=>K Q7 (0:Int)))/\(Qj=(↑(nat_lit 1):Int)->Qf (decide (Qg.snd.fst<Qm.snd.fst)) true fun Q7=>K Q7 (0:Int)))/\(Qj=(↑(nat_lit 2):Int)->Qf (decide (Qg.snd.fst<Qm.snd.snd)) true fun Q7=>K Q7 (0:Int))))/\(Qj=(↑(nat_lit 2):Int)->((0:Int)<=Qj/\Qj<(↑(3:Nat):Int))/\((True/\(Qj=(↑(nat_lit 0):Int)->Qf (decide (Qg.snd.snd<Qm.fst)) true fun Q7=>K Q7 (0:Int)))/\(Qj=(↑(nat_lit 1):Int)->Qf (decide (Qg.snd.snd<Qm.snd.fst)) true fun Q7=>K Q7 (0:Int)))/\(Qj=(↑(nat_lit 2):Int)->Qf (decide (Qg.snd.snd<Qm.snd.snd)) true fun Q7=>K Q7 (0:Int)))))))/\(Qj=(↑(nat_lit 1):Int)->((0:Int)<=Qj/\Qj<(↑(3:Nat):Int))/\((True/\(Qj=(↑(nat_lit 0):Int)->Cnd (Qg.snd.fst=Qm.fst) (InI (Qj+(1:Int))/\v2w (Qj+(1:Int))) (((0:Int)<=Qj/\Qj<(↑(3:Nat):Int))/\((True/\(Qj=(↑(nat_lit 0):Int)->((0:Int)<=Qj/\Qj<(↑(3:Nat):Int))/\((True/\(Qj=(↑(nat_lit 0):Int)->Qf (decide (Qg.fst<Qm.fst)) true fun Q7=>K Q7 (0:Int)))/\(Qj=(↑(nat_lit 1):Int)->Qf (decide (Qg.fst<Qm.snd.fst)) true fun Q7=>K Q7 (0:Int)))/\(Qj=(↑(nat_lit 2):Int)->Qf (decide (Qg.fst<Qm.snd.snd)) true fun Q7=>K Q7 (0:Int))))/\(Qj=(↑(nat_lit 1):Int)->((0:Int)<=Qj/\Qj<(↑(3:Nat):Int))/\((True/\(Qj=(↑(nat_lit 0):Int)->Qf (decide (Qg.snd.fst<Qm.fst)) true fun Q7=>K Q7 (0:Int)))/\(Qj=(↑(nat_lit 1):Int)->Qf (decide (Qg.snd.fst<Qm.snd.fst)) true fun Q7=>K Q7 (0:Int)))/\(Qj=(↑(nat_lit 2):Int)->Qf (decide (Qg.snd.fst<Qm.snd.snd)) true fun Q7=>K Q7 (0:Int))))/\(Qj=(↑(nat_lit 2):Int)->((0:Int)<=Qj/\Qj<(↑(3:Nat):Int))/\((True/\(Qj=(↑(nat_lit 0):Int)->Qf (decide (Qg.snd.snd<Qm.fst)) true fun Q7=>K Q7 (0:Int)))/\(Qj=(↑(nat_lit 1):Int)->Qf (decide (Qg.snd.snd<Qm.snd.fst)) true fun Q7=>K Q7 (0:Int)))/\(Qj=(↑(nat_lit 2):Int)->Qf (decide (Qg.snd.snd<Qm.snd.snd)) true fun Q7=>K Q7 (0:Int))))))/\(Qj=(↑(nat_lit 1):Int)->Cnd (Qg.snd.fst=Qm.snd.fst) (InI (Qj+(1:Int))/\v2w (Qj+(1:Int))) (((0:Int)<=Qj/\Qj<(↑(3:Nat):Int))/\((True/\(Qj=(↑(nat_lit 0):Int)->((0:Int)<=Qj/\Qj<(↑(3:Nat):Int))/\((True/\(Qj=(↑(nat_lit 0):Int)->Qf (decide (Qg.fst<Qm.fst)) true fun Q7=>K Q7 (0:Int)))/\(Qj=(↑(nat_lit 1):Int)->Qf (decide (Qg.fst<Qm.snd.fst)) true fun Q7=>K Q7 (0:Int)))/\(Qj=(↑(nat_lit 2):Int)->Qf (decide (Qg.fst<Qm.snd.snd)) true fun Q7=>K Q7 (0:Int))))/\(Qj=(↑(nat_lit 1):Int)->((0:Int)<=Qj/\Qj<(↑(3:Nat):Int))/\((True/\(Qj=(↑(nat_lit 0):Int)->Qf (decide (Qg.snd.fst<Qm.fst)) true fun Q7=>K Q7 (0:Int)))/\(Qj=(↑(nat_lit 1):Int)->Qf (decide (Qg.snd.fst<Qm.snd.fst)) true fun Q7=>K Q7 (0:Int)))/\(Qj=(↑(nat_lit 2):Int)->Qf (decide (Qg.snd.fst<Qm.snd.snd)) true fun Q7=>K Q7 (0:Int))))/\(Qj=(↑(nat_lit 2):Int)->((0:Int)<=Qj/\Qj<(↑(3:Nat):Int))/\((True/\(Qj=(↑(nat_lit 0):Int)->Qf (decide (Qg.snd.snd<Qm.fst)) true fun Q7=>K Q7 (0:Int)))/\(Qj=(↑(nat_lit 1):Int)->Qf (decide (Qg.snd.snd<Qm.snd.fst)) true fun Q7=>K Q7 (0:Int)))/\(Qj=(↑(nat_lit 2):Int)->Qf (decide (Qg.snd.snd<Qm.snd.snd)) true fun Q7=>K Q7 (0:Int))))))/\(Qj=(↑(nat_lit 2):Int)->Cnd (Qg.snd.fst=Qm.snd.snd) (InI (Qj+(1:Int))/\v2w (Qj+(1:Int))) (((0:Int)<=Qj/\Qj<(↑(3:Nat):Int))/\((True/\(Qj=(↑(nat_lit 0):Int)->((0:Int)<=Qj/\Qj<(↑(3:Nat):Int))/\((True/\(Qj=(↑(nat_lit 0):Int)->Qf (decide (Qg.fst<Qm.fst)) true fun Q7=>K Q7 (0:Int)))/\(Qj=(↑(nat_lit 1):Int)->Qf (decide (Qg.fst<Qm.snd.fst)) true fun Q7=>K Q7 (0:Int)))/\(Qj=(↑(nat_lit 2):Int)->Qf (decide (Qg.fst<Qm.snd.snd)) true fun Q7=>K Q7 (0:Int))))/\(Qj=(↑(nat_lit 1):Int)->((0:Int)<=Qj/\Qj<(↑(3:Nat):Int))/\((True/\(Qj=(↑(nat_lit 0):Int)->Qf (decide (Qg.snd.fst<Qm.fst)) true fun Q7=>K Q7 (0:Int)))/\(Qj=(↑(nat_lit 1):Int)->Qf (decide (Qg.snd.fst<Qm.snd.fst)) true fun Q7=>K Q7 (0:Int)))/\(Qj=(↑(nat_lit 2):Int)->Qf (decide (Qg.snd.fst<Qm.snd.snd)) true fun Q7=>K Q7 (0:Int))))/\(Qj=(↑(nat_lit 2):Int)->((0:Int)<=Qj/\Qj<(↑(3:Nat):Int))/\((True/\(Qj=(↑(nat_lit 0):Int)->Qf (decide (Qg.snd.snd<Qm.fst)) true fun Q7=>K Q7 (0:Int)))/\(Qj=(↑(nat_lit 1):Int)->Qf (decide (Qg.snd.snd<Qm.snd.fst)) true fun Q7=>K Q7 (0:Int)))/\(Qj=(↑(nat_lit 2):Int)->Qf (decide (Qg.snd.snd<Qm.snd.snd)) true fun Q7=>K Q7 (0:Int)))))))/\(Qj=(↑(nat_lit 2):Int)->((0:Int)<=Qj/\Qj<(↑(3:Nat):Int))/\((True/\(Qj=(↑(nat_lit 0):Int)->Cnd (Qg.snd.snd=Qm.fst) (InI (Qj+(1:Int))/\v2w (Qj+(1:Int))) (((0:Int)<=Qj/\Qj<(↑(3:Nat):Int))/\((True/\(Qj=(↑(nat_lit 0):Int)->((0:Int)<=Qj/\Qj<(↑(3:Nat):Int))/\((True/\(Qj=(↑(nat_lit 0):Int)->Qf (decide (Qg.fst<Qm.fst)) true fun Q7=>K Q7 (0:Int)))/\(Qj=(↑(nat_lit 1):Int)->Qf (decide (Qg.fst<Qm.snd.fst)) true fun Q7=>K Q7 (0:Int)))/\(Qj=(↑(nat_lit 2):Int)->Qf (decide (Qg.fst<Qm.snd.snd)) true fun Q7=>K Q7 (0:Int))))/\(Qj=(↑(nat_lit 1):Int)->((0:Int)<=Qj/\Qj<(↑(3:Nat):Int))/\((True/\(Qj=(↑(nat_lit 0):Int)->Qf (decide (Qg.snd.fst<Qm.fst)) true fun Q7=>K Q7 (0:Int)))/\(Qj=(↑(nat_lit 1):Int)->Qf (decide (Qg.snd.fst<Qm.snd.fst)) true fun Q7=>K Q7 (0:Int)))/\(Qj=(↑(nat_lit 2):Int)->Qf (decide (Qg.snd.fst<Qm.snd.snd)) true fun Q7=>K Q7 (0:Int))))/\(Qj=(↑(nat_lit 2):Int)->((0:Int)<=Qj/\Qj<(↑(3:Nat):Int))/\((True/\(Qj=(↑(nat_lit 0):Int)->Qf (decide (Qg.snd.snd<Qm.fst)) true fun Q7=>K Q7 (0:Int)))/\(Qj=(↑(nat_lit 1):Int)->Qf (decide (Qg.snd.snd<Qm.snd.fst)) true fun Q7=>K Q7 (0:Int)))/\(Qj=(↑(nat_lit 2):Int)->Qf (decide (Qg.snd.snd<Qm.snd.snd)) true fun Q7=>K Q7 (0:Int))))))/\(Qj=(↑(nat_lit 1):Int)->Cnd (Qg.snd.snd=Qm.snd.fst) (InI (Qj+(1:Int))/\v2w (Qj+(1:Int))) (((0:Int)<=Qj/\Qj<(↑(3:Nat):Int))/\((True/\(Qj=(↑(nat_lit 0):Int)->((0:Int)<=Qj/\Qj<(↑(3:Nat):Int))/\((True/\(Qj=(↑(nat_lit 0):Int)->Qf (decide (Qg.fst<Qm.fst)) true fun Q7=>K Q7 (0:Int)))/\(Qj=(↑(nat_lit 1):Int)->Qf (decide (Qg.fst<Qm.snd.fst)) true fun Q7=>K Q7 (0:Int)))/\(Qj=(↑(nat_lit 2):Int)->Qf (decide (Qg.fst<Qm.snd.snd)) true fun Q7=>K Q7 (0:Int))))/\(Qj=(↑(nat_lit 1):Int)->((0:Int)<=Qj/\Qj<(↑(3:Nat):Int))/\((True/\(Qj=(↑(nat_lit 0):Int)->Qf (decide (Qg.snd.fst<Qm.fst)) true fun Q7=>K Q7 (0:Int)))/\(Qj=(↑(nat_lit 1):Int)->Qf (decide (Qg.snd.fst<Qm.snd.fst)) true fun Q7=>K Q7 (0:Int)))/\(Qj=(↑(nat_lit 2):Int)->Qf (decide (Qg.snd.fst<Qm.snd.snd)) true fun Q7=>K Q7 (0:Int))))/\(Qj=(↑(nat_lit 2):Int)->((0:Int)<=Qj/\Qj<(↑(3:Nat):Int))/\((True/\(Qj=(↑(nat_lit 0):Int)->Qf (decide (Qg.snd.snd<Qm.fst)) true fun Q7=>K Q7 (0:Int)))/\(Qj=(↑(nat_lit 1):Int)->Qf (decide (Qg.snd.snd<Qm.snd.fst)) true fun Q7=>K Q7 (0:Int)))/\(Qj=(↑(nat_lit 2):Int)->Qf (decide (Qg.snd.snd<Qm.snd.snd)) true fun Q7=>K Q7 (0:Int))))))/\(Qj=(↑(nat_lit 2):Int)->Cnd (Qg.snd.snd=Qm.snd.snd) (InI (Qj+(1:Int))/\v2w (Qj+(1:Int))) (((0:Int)<=Qj/\Qj<(↑(3:Nat):Int))/\((True/\(Qj=(↑(nat_lit 0):Int)->((0:Int)<=Qj/\Qj<(↑(3:Nat):Int))/\((True/\(Qj=(↑(nat_lit 0):Int)->Qf (decide (Qg.fst<Qm.fst)) true fun Q7=>K Q7 (0:Int)))/\(Qj=(↑(nat_lit 1):Int)->Qf (decide (Qg.fst<Qm.snd.fst)) true fun Q7=>K Q7 (0:Int)))/\(Qj=(↑(nat_lit 2):Int)->Qf (decide (Qg.fst<Qm.snd.snd)) true fun Q7=>K Q7 (0:Int))))/\(Qj=(↑(nat_lit 1):Int)->((0:Int)<=Qj/\Qj<(↑(3:Nat):Int))/\((True/\(Qj=(↑(nat_lit 0):Int)->Qf (decide (Qg.snd.fst<Qm.fst)) true fun Q7=>K Q7 (0:Int)))/\(Qj=(↑(nat_lit 1):Int)->Qf (decide (Qg.snd.fst<Qm.snd.fst)) true fun Q7=>K Q7 (0:Int)))/\(Qj=(↑(nat_lit 2):Int)->Qf (decide (Qg.snd.fst<Qm.snd.snd)) true fun Q7=>K Q7 (0:Int))))/\(Qj=(↑(nat_lit 2):Int)->((0:Int)<=Qj/\Qj<(↑(3:Nat):Int))/\((True/\(Qj=(↑(nat_lit 0):Int)->Qf (decide (Qg.snd.snd<Qm.fst)) true fun Q7=>K Q7 (0:Int)))/\(Qj=(↑(nat_lit 1):Int)->Qf (decide (Qg.snd.snd<Qm.snd.fst)) true fun Q7=>K Q7 (0:Int)))/\(Qj=(↑(nat_lit 2):Int)->Qf (decide (Qg.snd.snd<Qm.snd.snd)) true fun Q7=>K Q7 (0:Int))))))) (K (0:Int) (0:Int))) (0:Int)))))) (K (0:Int) (8:Int))) (K (0:Int) Qd)) (K (0:Int) Qb)
def Bv (a:Val) (b:Val) (K:Int->Int->Prop):Prop:=z4x Vg q3b Gu a b K
abbrev z7d:Type:=Subj->Ex->(Bool->Prop)->Prop
def j4r (q42:z2g) (Qw:Wa) (W6:q3u) (Wd:Bu) (Gh:q5e) (B0:q85) (s:Subj) (e:Ex) (K:Bool->Prop):Prop:=q42 (Subj.mk s.1) e.2 e.3 fun Qb Zj=>Cnd (Zj=true) (Qw e.1 fun Qd=>Cnd (Qd=true) (Cnd (e.1=(6:Int)) (K true) (Cnd (e.1=(8:Int)) (Lp1 (fun Qg j3z=>e.4.length<=(9223372036854775807:Nat)->Cnd (Qg<(↑e.4.length:Int)) (((0:Int)<=Qg/\Qg<(↑e.4.length:Int))/\ ∀y4,e.4[Qg.toNat]? =some y4->W6 Qb y4 fun Js=>Cnd (Js=true) (K true) (InI (Qg+(1:Int))/\j3z (Qg+(1:Int)))) (K false)) (0:Int)) (e.4.length<=(9223372036854775807:Nat)->Cnd ((↑e.4.length:Int)=(0:Int)) (K false) (((0:Int)<=(0:Int)/\(0:Int)<(↑e.4.length:Int))/\ ∀y3,e.4[Int.toNat (0:Int)]? =some y3->Cnd (Qb.1=(3:Int)) (Cnd (e.1=(7:Int)) (W6 Qb y3 fun Zb=>K Zb) (Cnd (e.1=(9:Int)) (Cnd (y3.1=(3:Int)) (Wd Qb.3 y3.3 (0:Int) fun Zb=>K Zb) (K false)) (Cnd (e.1=(10:Int)) (Cnd (y3.1=(3:Int)) (InI ((↑Qb.3.size:Int) - (↑y3.3.size:Int))/\Wd Qb.3 y3.3 ((↑Qb.3.size:Int) - (↑y3.3.size:Int)) fun Zb=>K Zb) (K false)) (Cnd (e.1=(11:Int)) (Gh Qb y3 fun Zb=>K Zb) (B0 Qb y3 fun Zb z4f=>Cnd (z4f=(0:Int)) (Cnd (e.1=(12:Int)) (K (decide (Zb<(0:Int)))) (Cnd (e.1=(13:Int)) (K (decide (Zb<=(0:Int)))) (Cnd (e.1=(14:Int)) (K (decide ((0:Int)<Zb))) (K (decide ((0:Int)<=Zb)))))) (K false)))))) (Cnd (e.1=(7:Int)) (W6 Qb y3 fun Zb=>K Zb) (Cnd (e.1=(9:Int)) (K false) (Cnd (e.1=(10:Int)) (K false) (Cnd (e.1=(11:Int)) (Gh Qb y3 fun Zb=>K Zb) (B0 Qb y3 fun Zb z4f=>Cnd (z4f=(0:Int)) (Cnd (e.1=(12:Int)) (K (decide (Zb<(0:Int)))) (Cnd (e.1=(13:Int)) (K (decide (Zb<=(0:Int)))) (Cnd (e.1=(14:Int)) (K (decide ((0:Int)<Zb))) (K (decide ((0:Int)<=Zb)))))) (K false)))))))))) (K false)) (K false)
def q62 (s:Subj) (e:Ex) (K:Bool->Prop):Prop:=j4r q4d Z8 Rl V1 Rw Bv s e K
abbrev q4e:Type:=Subj->List (ByteArray)->Ex->(Bool->Prop)->Prop
def j4s (Qv:Ju) (q7e:z7d) (X:q4e) (s:Subj) (in_:List (ByteArray)) (e:Ex) (K:Bool->Prop):Prop:=Cnd (e.1=(1:Int)) (K true) (Cnd (e.1=(2:Int)) (Lp1 (fun Qb q3r=>e.5.length<=(9223372036854775807:Nat)->Cnd (Qb<(↑e.5.length:Int)) (((0:Int)<=Qb/\Qb<(↑e.5.length:Int))/\ ∀y2,e.5[Qb.toNat]? =some y2->X (Subj.mk s.1) in_ (Ex.mk y2.1 y2.2 y2.3 y2.4 y2.5) fun Qj=>Cnd (Qj=true) (InI (Qb+(1:Int))/\q3r (Qb+(1:Int))) (K false)) (K true)) (0:Int)) (Cnd (e.1=(3:Int)) (Lp1 (fun Qb q3r=>e.5.length<=(9223372036854775807:Nat)->Cnd (Qb<(↑e.5.length:Int)) (((0:Int)<=Qb/\Qb<(↑e.5.length:Int))/\ ∀y2,e.5[Qb.toNat]? =some y2->X (Subj.mk s.1) in_ (Ex.mk y2.1 y2.2 y2.3 y2.4 y2.5) fun Qj=>Cnd (Qj=true) (K true) (InI (Qb+(1:Int))/\q3r (Qb+(1:Int)))) (K false)) (0:Int)) (Cnd (e.1=(4:Int)) (e.5.length<=(9223372036854775807:Nat)->Cnd ((0:Int)<(↑e.5.length:Int)) (((0:Int)<=(0:Int)/\(0:Int)<(↑e.5.length:Int))/\ ∀y1,e.5[Int.toNat (0:Int)]? =some y1->X (Subj.mk s.1) in_ (Ex.mk y1.1 y1.2 y1.3 y1.4 y1.5) fun Qm=>K (match decide ((Qm,()).fst=true) with|true=>false|false=>true)) (K false)) (Cnd (e.1=(5:Int)) (Qv in_ e.3 fun Qb=>K Qb) (q7e (Subj.mk s.1) (Ex.mk e.1 e.2 e.3 e.4 e.5) fun Qb=>K Qb)))))
def q63 (s:Subj) (in_:List (ByteArray)) (e:Ex) (K:Bool->Prop):Prop:= ∀X:q4e,(∀s in_ e K,j4s Je q62 X s in_ e K->X s in_ e K)->X s in_ e K
abbrev z7e:Type:=List (ByteArray)->List (Edg)->ByteArray->(Bool->Prop)->Prop
def j4t (Qv:Ju) (order:List (ByteArray)) (edges:List (Edg)) (node:ByteArray) (K:Bool->Prop):Prop:=Lp1 (fun Qb q3r=>edges.length<=(9223372036854775807:Nat)->Cnd (Qb<(↑edges.length:Int)) (((0:Int)<=Qb/\Qb<(↑edges.length:Int))/\ ∀y2,edges[Qb.toNat]? =some y2->Cnd (y2.1=node) (((0:Int)<=Qb/\Qb<(↑edges.length:Int))/\ ∀y4,edges[Qb.toNat]? =some y4->Qv order y4.2 fun Js=>Cnd (Js=true) (InI (Qb+(1:Int))/\q3r (Qb+(1:Int))) (K false)) (InI (Qb+(1:Int))/\q3r (Qb+(1:Int)))) (Qv order node fun Qg=>K (match decide ((Qg,()).fst=true) with|true=>false|false=>true))) (0:Int)
def q64 (order:List (ByteArray)) (edges:List (Edg)) (node:ByteArray) (K:Bool->Prop):Prop:=j4t Je order edges node K
abbrev z7f:Type:=List (ByteArray)->List (Edg)->(List (ByteArray)->Int->Prop)->Prop
def j4u (Qv:Ju) (q7f:z7e) (nodes:List (ByteArray)) (edges:List (Edg)) (K:List (ByteArray)->Int->Prop):Prop:=Lp1 (fun Qb q3r=>nodes.length<=(9223372036854775807:Nat)->Cnd (Qb<(↑nodes.length:Int)) (((0:Int)<=(0:Int)/\(0:Int)<=Qb/\Qb<=(↑nodes.length:Int))/\((0:Int)<=Qb/\Qb<(↑nodes.length:Int))/\ ∀y2,nodes[Qb.toNat]? =some y2->Qv (List.drop (Int.toNat (0:Int)) (List.take Qb.toNat nodes)) y2 fun Qj=>Cnd (Qj=true) (K [] (10:Int)) (InI (Qb+(1:Int))/\q3r (Qb+(1:Int)))) (Lp1 (fun Qg j3z=>edges.length<=(9223372036854775807:Nat)->Cnd (Qg<(↑edges.length:Int)) (((0:Int)<=Qg/\Qg<(↑edges.length:Int))/\ ∀y4,edges[Qg.toNat]? =some y4->Qv nodes y4.1 fun Js=>Cnd (Js=true) (((0:Int)<=Qg/\Qg<(↑edges.length:Int))/\ ∀y7,edges[Qg.toNat]? =some y7->Qv nodes y7.2 fun Q7=>Cnd (Q7=true) (InI (Qg+(1:Int))/\j3z (Qg+(1:Int))) (K [] (11:Int))) (K [] (11:Int))) (Lp1 (fun Qj v2w=>Qj.length<=(9223372036854775807:Nat)->nodes.length<=(9223372036854775807:Nat)->Cnd ((↑Qj.length:Int)<(↑nodes.length:Int)) (Lp4 (fun Vf z4d w7d y1k u6t=>nodes.length<=(9223372036854775807:Nat)->Cnd (w7d<(↑nodes.length:Int)) (((0:Int)<=w7d/\w7d<(↑nodes.length:Int))/\ ∀y9,nodes[w7d.toNat]? =some y9->q7f y1k edges y9 fun G6=>Cnd (G6=true) (Cnd (z4d=true) (((0:Int)<=w7d/\w7d<(↑nodes.length:Int))/\ ∀y12,nodes[w7d.toNat]? =some y12->Cnd (Lk.blt y12 Vf) (((0:Int)<=w7d/\w7d<(↑nodes.length:Int))/\ ∀y14,nodes[w7d.toNat]? =some y14->InI (w7d+(1:Int))/\u6t y14 true (w7d+(1:Int)) y1k) (InI (w7d+(1:Int))/\u6t Vf z4d (w7d+(1:Int)) y1k)) (((0:Int)<=w7d/\w7d<(↑nodes.length:Int))/\ ∀y12,nodes[w7d.toNat]? =some y12->InI (w7d+(1:Int))/\u6t y12 true (w7d+(1:Int)) y1k)) (InI (w7d+(1:Int))/\u6t Vf z4d (w7d+(1:Int)) y1k)) (Cnd (z4d=true) (Sml ([]++y1k).length/\Sml ([]++y1k++[Vf]).length/\v2w ([]++y1k++[Vf])) (K [] (12:Int)))) (ByteArray.mk (Array.mk [])) false (0:Int) Qj) (K Qj (0:Int))) [])) (0:Int))) (0:Int)
def q65 (nodes:List (ByteArray)) (edges:List (Edg)) (K:List (ByteArray)->Int->Prop):Prop:=j4u Je q64 nodes edges K
abbrev z2h:Type:=List (Seg)->(List (ByteArray)->Int->Prop)->Prop
def z92 (Zq:V4) (W8:q1l) (q7g:z7f) (l:List (Seg)) (K:List (ByteArray)->Int->Prop):Prop:=Zq l fun Qb=>W8 l fun Qd=>q7g Qb Qd fun Qg Z1=>K Qg Z1
def q4f (l:List (Seg)) (K:List (ByteArray)->Int->Prop):Prop:=z92 W0 Uj q65 l K
abbrev q86:Type:=Seg->Subj->List (ByteArray)->(Bool->Prop)->Prop
def z4y (Hj:q75) (Qv:Ju) (q7h:q4e) (g:Seg) (s:Subj) (in_:List (ByteArray)) (K:Bool->Prop):Prop:=Hj (Subj.mk s.1) g.2 fun Qb Zj=>Cnd (Zj=true) (Qv g.4 Qb.2 fun Qd=>Cnd (Qd=true) (K false) (Qv g.3 Qb.2 fun Qg=>Cnd (Qg=true) (K true) (Cnd (g.5.1=(0:Int)) (K false) (q7h (Subj.mk s.1) in_ (Ex.mk g.5.1 g.5.2 g.5.3 g.5.4 g.5.5) fun Qm=>K Qm)))) (K false)
def q18 (g:Seg) (s:Subj) (in_:List (ByteArray)) (K:Bool->Prop):Prop:=z4y q06 Je q63 g s in_ K
abbrev q6p:Type:=List (Seg)->Subj->(List (ByteArray)->Prop)->Prop
def z2i (q43:z2h) (q2m:q86) (J4:q0d) (l:List (Seg)) (s:Subj) (K:List (ByteArray)->Prop):Prop:=q43 l fun Qb _=>Lp2 (fun Qd Jk j0x=>Qb.length<=(9223372036854775807:Nat)->Cnd (Jk<(↑Qb.length:Int)) (Lp2 (fun Qm Bj w5f=>l.length<=(9223372036854775807:Nat)->Cnd (Bj<(↑l.length:Int)) (((0:Int)<=Bj/\Bj<(↑l.length:Int))/\ ∀y5,l[Bj.toNat]? =some y5->((0:Int)<=Jk/\Jk<(↑Qb.length:Int))/\ ∀y7,Qb[Jk.toNat]? =some y7->Cnd (y5.1=y7) (((0:Int)<=Bj/\Bj<(↑l.length:Int))/\ ∀y9,l[Bj.toNat]? =some y9->q2m (Seg.mk y9.1 y9.2 y9.3 y9.4 (Ex.mk y9.5.1 y9.5.2 y9.5.3 y9.5.4 y9.5.5)) (Subj.mk s.1) Qm fun G6=>Cnd (G6=true) (((0:Int)<=Jk/\Jk<(↑Qb.length:Int))/\ ∀y12,Qb[Jk.toNat]? =some y12->J4 Qm y12 fun Hl=>InI (Bj+(1:Int))/\w5f Hl (Bj+(1:Int))) (InI (Bj+(1:Int))/\w5f Qm (Bj+(1:Int)))) (InI (Bj+(1:Int))/\w5f Qm (Bj+(1:Int)))) (InI (Jk+(1:Int))/\j0x Qm (Jk+(1:Int)))) Qd (0:Int)) (K Qd)) [] (0:Int)
def q0k (l:List (Seg)) (s:Subj) (K:List (ByteArray)->Prop):Prop:=z2i q4f q18 Gi l s K
abbrev z36:Type:=List (Int)->List (Int)->Subj->ByteArray->(Bool->Prop)->Prop
def R5 (q0w:q6o) (j0y:v0a) (Hk:q23) (q44:z2f) (Qz:Jm) (q0x:q6p) (G8:q7q) (Za:Wu) (Qv:Ju) (codes:List (Int)) (who:List (Int)) (s:Subj) (key:ByteArray) (K:Bool->Prop):Prop:=q0w fun Qb=>Cnd (Qb=true) (s.1.length<=(9223372036854775807:Nat)->Cnd ((8:Int)<(↑s.1.length:Int)) (K true) (j0y codes (300:Int) fun Qg Z1=>Hk Qg Z1 (10:Int) fun Qm _=>j0y who (60:Int) fun Qj Ud=>q44 Qj Ud fun Zb _=>[Subj.mk Zb.1,Subj.mk s.1].length<=(9223372036854775807:Nat)->Lp2 (fun Vf z4d u3w=>Cnd (Vf<(↑[Subj.mk Zb.1,Subj.mk s.1].length:Int)) (((0:Int)<=Vf/\Vf<(↑z4d.length:Int))/\ ∀y8,z4d[Vf.toNat]? =some y8->Qz Qm.3 (Subj.mk y8.1) fun R8=>q0x Qm.3 (Subj.mk y8.1) fun G6=>G8 R8 G6 fun R9=>Cnd (R9=true) (Lp3 (fun Zo j6j y6a qa0g=>Qm.3.length<=(9223372036854775807:Nat)->Cnd (Zo<(↑Qm.3.length:Int)) (((0:Int)<=Zo/\Zo<(↑Qm.3.length:Int))/\ ∀y15,Qm.3[Zo.toNat]? =some y15->Za Qm.3 (Subj.mk y8.1) y15.1 fun y1l=>Qv j6j y15.1 fun q8s=>Cnd (y1l=q8s) (InI (Zo+(1:Int))/\qa0g (Zo+(1:Int)) j6j y6a) (K false)) (Za Qm.3 (Subj.mk y8.1) key fun y59=>Qv j6j key fun By=>Cnd (y59=By) (InI (Vf+(1:Int))/\u3w (Vf+(1:Int)) y6a) (K false))) (0:Int) R8 z4d) (K false)) (K true)) (0:Int) [Subj.mk Zb.1,Subj.mk s.1])) (K false)
def Jo (codes:List (Int)) (who:List (Int)) (s:Subj) (key:ByteArray) (K:Bool->Prop):Prop:=R5 q0j z9y Gz q4c Zz q0k q03 Jf Je codes who s key K
end Go.En
end
noncomputable section
set_option maxRecDepth 100000
namespace Go.Proofs
open Go.Shelf
def Tryz.laysC172_ren:Go.Shelf.Ren:=⟨fun|172=>231|244=>238|245=>239|247=>244|279=>245|280=>246|281=>247|282=>248|287=>250|316=>251|171=>253|205=>252|321=>254|322=>255|243=>256|246=>257|283=>258|284=>259|285=>260|286=>261|129=>102|317=>262|318=>263|319=>264|320=>265|337=>266|338=>267|n=>n,fun|9=>9|3=>3|75=>288|76=>289|4=>4|5=>5|167=>298|37=>22|0=>0|85=>299|2=>2|168=>301|53=>187|175=>304|46=>121|210=>308|127=>312|145=>315|143=>313|21=>21|171=>317|173=>319|212=>322|51=>185|20=>20|213=>323|232=>324|233=>325|80=>84|n=>n,fun|15=>6|16=>7|17=>8|18=>9|19=>10|n=>n⟩
theorem Tryz.laysC172:Go.Proofs.LaysC.n172 Tryz.prog Tryz.laysC172_ren:={
 mixed:=by kernel_rfl
 f129:=Tryz.func102.trans (congrArg some (by kernel_rfl))
 f171:=Tryz.func253.trans (congrArg some (by kernel_rfl))
 f172:=Tryz.func231.trans (congrArg some (by kernel_rfl))
 f205:=Tryz.func252.trans (congrArg some (by kernel_rfl))
 f243:=Tryz.func256.trans (congrArg some (by kernel_rfl))
 f244:=Tryz.func238.trans (congrArg some (by kernel_rfl))
 f245:=Tryz.func239.trans (congrArg some (by kernel_rfl))
 f246:=Tryz.func257.trans (congrArg some (by kernel_rfl))
 f247:=Tryz.func244.trans (congrArg some (by kernel_rfl))
 f279:=Tryz.func245.trans (congrArg some (by kernel_rfl))
 f280:=Tryz.func246.trans (congrArg some (by kernel_rfl))
 f281:=Tryz.func247.trans (congrArg some (by kernel_rfl))
 f282:=Tryz.func248.trans (congrArg some (by kernel_rfl))
 f283:=Tryz.func258.trans (congrArg some (by kernel_rfl))
 f284:=Tryz.func259.trans (congrArg some (by kernel_rfl))
 f285:=Tryz.func260.trans (congrArg some (by kernel_rfl))
 f286:=Tryz.func261.trans (congrArg some (by kernel_rfl))
 f287:=Tryz.func250.trans (congrArg some (by kernel_rfl))
 f316:=Tryz.func251.trans (congrArg some (by kernel_rfl))
 f317:=Tryz.func262.trans (congrArg some (by kernel_rfl))
 f318:=Tryz.func263.trans (congrArg some (by kernel_rfl))
 f319:=Tryz.func264.trans (congrArg some (by kernel_rfl))
 f320:=Tryz.func265.trans (congrArg some (by kernel_rfl))
 f321:=Tryz.func254.trans (congrArg some (by kernel_rfl))
 f322:=Tryz.func255.trans (congrArg some (by kernel_rfl))
 f337:=Tryz.func266.trans (congrArg some (by kernel_rfl))
 f338:=Tryz.func267.trans (congrArg some (by kernel_rfl))
 t0:=Tryz.underlying0
 a0:=Tryz.isAgg0
 z0:=Tryz.sizeOf0
 v0:=Tryz.zeroValue0
 t2:=Tryz.underlying2
 a2:=Tryz.isAgg2
 z2:=Tryz.sizeOf2
 v2:=Tryz.zeroValue2
 t3:=Tryz.underlying3
 a3:=Tryz.isAgg3
 z3:=Tryz.sizeOf3
 v3:=Tryz.zeroValue3
 t4:=Tryz.underlying4
 a4:=Tryz.isAgg4
 z4:=Tryz.sizeOf4
 v4:=Tryz.zeroValue4
 t5:=Tryz.underlying5
 a5:=Tryz.isAgg5
 z5:=Tryz.sizeOf5
 v5:=Tryz.zeroValue5
 t9:=Tryz.underlying9
 a9:=Tryz.isAgg9
 z9:=Tryz.sizeOf9
 v9:=Tryz.zeroValue9
 t20:=Tryz.underlying20
 a20:=Tryz.isAgg20
 z20:=Tryz.sizeOf20
 v20:=Tryz.zeroValue20
 t21:=Tryz.underlying21
 a21:=Tryz.isAgg21
 z21:=Tryz.sizeOf21
 v21:=Tryz.zeroValue21
 t37:=Tryz.underlying22
 a37:=Tryz.isAgg22
 z37:=Tryz.sizeOf22
 v37:=Tryz.zeroValue22
 t46:=Tryz.underlying121
 a46:=Tryz.isAgg121
 z46:=Tryz.sizeOf121
 v46:=Tryz.zeroValue121
 t51:=Tryz.underlying185
 a51:=Tryz.isAgg185
 z51:=Tryz.sizeOf185
 v51:=Tryz.zeroValue185
 t53:=Tryz.underlying187
 a53:=Tryz.isAgg187
 z53:=Tryz.sizeOf187
 v53:=Tryz.zeroValue187
 t75:=Tryz.underlying288
 a75:=Tryz.isAgg288
 z75:=Tryz.sizeOf288
 v75:=Tryz.zeroValue288
 t76:=Tryz.underlying289
 a76:=Tryz.isAgg289
 z76:=Tryz.sizeOf289
 v76:=Tryz.zeroValue289
 t85:=Tryz.underlying299
 a85:=Tryz.isAgg299
 z85:=Tryz.sizeOf299
 v85:=Tryz.zeroValue299
 t127:=Tryz.underlying312
 a127:=Tryz.isAgg312
 z127:=Tryz.sizeOf312
 v127:=Tryz.zeroValue312
 t143:=Tryz.underlying313
 a143:=Tryz.isAgg313
 z143:=Tryz.sizeOf313
 v143:=Tryz.zeroValue313
 t145:=Tryz.underlying315
 a145:=Tryz.isAgg315
 z145:=Tryz.sizeOf315
 v145:=Tryz.zeroValue315
 t167:=Tryz.underlying298
 a167:=Tryz.isAgg298
 z167:=Tryz.sizeOf298
 v167:=Tryz.zeroValue298
 t168:=Tryz.underlying301
 a168:=Tryz.isAgg301
 z168:=Tryz.sizeOf301
 v168:=Tryz.zeroValue301
 t171:=Tryz.underlying317
 a171:=Tryz.isAgg317
 z171:=Tryz.sizeOf317
 v171:=Tryz.zeroValue317
 t173:=Tryz.underlying319
 a173:=Tryz.isAgg319
 z173:=Tryz.sizeOf319
 v173:=Tryz.zeroValue319
 t175:=Tryz.underlying304
 a175:=Tryz.isAgg304
 z175:=Tryz.sizeOf304
 v175:=Tryz.zeroValue304
 t210:=Tryz.underlying308
 a210:=Tryz.isAgg308
 z210:=Tryz.sizeOf308
 v210:=Tryz.zeroValue308
 t212:=Tryz.underlying322
 a212:=Tryz.isAgg322
 z212:=Tryz.sizeOf322
 v212:=Tryz.zeroValue322
 t213:=Tryz.underlying323
 a213:=Tryz.isAgg323
 z213:=Tryz.sizeOf323
 t232:=Tryz.underlying324
 a232:=Tryz.isAgg324
 z232:=Tryz.sizeOf324
 v232:=Tryz.zeroValue324
 t233:=Tryz.underlying325
 a233:=Tryz.isAgg325
 z233:=Tryz.sizeOf325
 v233:=Tryz.zeroValue325
 g15:=by kernel_rfl
 g16:=by kernel_rfl
 g17:=by kernel_rfl
 g18:=by kernel_rfl
 g19:=by kernel_rfl
 t80:=Tryz.underlying84
 a80:=Tryz.isAgg84
 z80:=Tryz.sizeOf84
 v80:=Tryz.zeroValue84
 i0:=by kernel_rfl
 i2:=by kernel_rfl
 i3:=by kernel_rfl
 i4:=by kernel_rfl
 i5:=by kernel_rfl
 i9:=by kernel_rfl
 i20:=by kernel_rfl
 i21:=by kernel_rfl
 i37:=by kernel_rfl
 i46:=by kernel_rfl
 i51:=by kernel_rfl
 i53:=by kernel_rfl
 i75:=by kernel_rfl
 i76:=by kernel_rfl
 i80:=by kernel_rfl
 i85:=by kernel_rfl
 i127:=by kernel_rfl
 i143:=by kernel_rfl
 i145:=by kernel_rfl
 i167:=by kernel_rfl
 i168:=by kernel_rfl
 i171:=by kernel_rfl
 i173:=by kernel_rfl
 i175:=by kernel_rfl
 i210:=by kernel_rfl
 i212:=by kernel_rfl
 i232:=by kernel_rfl
 i233:=by kernel_rfl
 m15:=by kernel_rfl
 m16:=by kernel_rfl
 m17:=by kernel_rfl
 m18:=by kernel_rfl
 m19:=by kernel_rfl
 c0:=by kernel_rfl
 c2:=by kernel_rfl
 c3:=by kernel_rfl
 c4:=by kernel_rfl
 c5:=by kernel_rfl
 c9:=by kernel_rfl
 c20:=by kernel_rfl
 c21:=by kernel_rfl
 c37:=by kernel_rfl
 c46:=by kernel_rfl
 c51:=by kernel_rfl
 c53:=by kernel_rfl
 c75:=by kernel_rfl
 c76:=by kernel_rfl
 c80:=by kernel_rfl
 c85:=by kernel_rfl
 c127:=by kernel_rfl
 c143:=by kernel_rfl
 c145:=by kernel_rfl
 c167:=by kernel_rfl
 c168:=by kernel_rfl
 c171:=by kernel_rfl
 c173:=by kernel_rfl
 c175:=by kernel_rfl
 c210:=by kernel_rfl
 c212:=by kernel_rfl
 c213:=by kernel_rfl
 c232:=by kernel_rfl
 c233:=by kernel_rfl}
open Go.RowKit in
theorem Tryz.strconv_Atoi_ok (s:ByteArray) (hmax:s.size<=9223372036854775806) (v:Int) (h:Lib.atoiAll s.data.toList= .ok v) (w:World):
  Calls Tryz.prog 231 #[.string s] w fun e w'=>e= .returned (.tuple #[.int .i64 v,.nilIface])/\(w'=w∨ ∃t,w'=Lib.bytesWorld w 5 t):=Any.strconv_Atoi_ok Tryz.laysC172 s hmax v h w
open Go.RowKit in
theorem Tryz.strconv_Atoi_syntax (s:ByteArray) (hlim:s.size<=281474976710656) (h:Lib.atoiAll s.data.toList=Go.Lib.NumEnd.syntax) (ev:Value) (w:World) (hv:w.cell? ⟨6,0,none⟩=some ev) (hev:ev= .nilIface∨ ∃te pe,ev= .iface te pe):
  Calls Tryz.prog 231 #[.string s] w fun e w'=> ∃N,e= .returned (.tuple #[.int .i64 (0),.iface 301 (.pointer (some ⟨N,0,none⟩))])/\w.heap.size<=N/\w'.heap[N]? =some (.cells #[.string ⟨#[65,116,111,105]⟩,.string s,ev] 308 (0,0))/\Below w.heap.size w w':=Any.strconv_Atoi_syntax Tryz.laysC172 s hlim h ev w hv hev
open Go.RowKit in
theorem Tryz.strconv_Atoi_range (s:ByteArray) (hlim:s.size<=281474976710656) (h:Lib.atoiAll s.data.toList= .range) (ev:Value) (w:World) (hv:w.cell? ⟨7,0,none⟩=some ev) (hev:ev= .nilIface∨ ∃te pe,ev= .iface te pe):
  Calls Tryz.prog 231 #[.string s] w fun e w'=> ∃N,e= .returned (.tuple #[.int .i64 (Lib.atoiSat s.data.toList),.iface 301 (.pointer (some ⟨N,0,none⟩))])/\w.heap.size<=N/\w'.heap[N]? =some (.cells #[.string ⟨#[65,116,111,105]⟩,.string s,ev] 308 (0,0))/\Below w.heap.size w w':=Any.strconv_Atoi_range Tryz.laysC172 s hlim h ev w hv hev
def Tryz.lays144_ren:Go.Shelf.Ren:=⟨fun|144=>172|143=>194|219=>217|217=>225|225=>226|224=>227|267=>228|266=>233|314=>234|n=>n,fun|9=>9|4=>4|3=>3|5=>5|46=>121|146=>291|51=>185|n=>n,fun|1=>5|n=>n⟩
theorem Tryz.lays144:Go.Proofs.Lays.n144 Tryz.prog Tryz.lays144_ren:={
 mixed:=by kernel_rfl
 f143:=Tryz.func194.trans (congrArg some (by kernel_rfl))
 f144:=Tryz.func172.trans (congrArg some (by kernel_rfl))
 f217:=Tryz.func225.trans (congrArg some (by kernel_rfl))
 f219:=Tryz.func217.trans (congrArg some (by kernel_rfl))
 f224:=Tryz.func227.trans (congrArg some (by kernel_rfl))
 f225:=Tryz.func226.trans (congrArg some (by kernel_rfl))
 f266:=Tryz.func233.trans (congrArg some (by kernel_rfl))
 f267:=Tryz.func228.trans (congrArg some (by kernel_rfl))
 f314:=Tryz.func234.trans (congrArg some (by kernel_rfl))
 t3:=Tryz.underlying3
 a3:=Tryz.isAgg3
 z3:=Tryz.sizeOf3
 v3:=Tryz.zeroValue3
 t4:=Tryz.underlying4
 a4:=Tryz.isAgg4
 z4:=Tryz.sizeOf4
 v4:=Tryz.zeroValue4
 t5:=Tryz.underlying5
 a5:=Tryz.isAgg5
 z5:=Tryz.sizeOf5
 v5:=Tryz.zeroValue5
 t9:=Tryz.underlying9
 a9:=Tryz.isAgg9
 z9:=Tryz.sizeOf9
 v9:=Tryz.zeroValue9
 t46:=Tryz.underlying121
 a46:=Tryz.isAgg121
 z46:=Tryz.sizeOf121
 v46:=Tryz.zeroValue121
 t51:=Tryz.underlying185
 a51:=Tryz.isAgg185
 z51:=Tryz.sizeOf185
 v51:=Tryz.zeroValue185
 t146:=Tryz.underlying291
 a146:=Tryz.isAgg291
 z146:=Tryz.sizeOf291
 v146:=Tryz.zeroValue291
 g1:=by kernel_rfl}
open Go.RowKit Go.Lib in
theorem Tryz.strings_Contains (s sub:ByteArray) (m:Int) (w:World) (hs:s.size<4294967281) (hm:w.cell? ⟨5,0,none⟩=some (.int .i64 m)):
  Calls Tryz.prog 172 #[.string s,.string sub] w fun e w'=>e= .returned (.bool (Lib.contains s.data.toList sub.data.toList))/\w'=w:=Any.strings_Contains Tryz.lays144 s sub m w hs hm
def Tryz.lays190_ren:Go.Shelf.Ren:=⟨fun|190=>30|125=>58|258=>57|128=>101|129=>102|302=>92|303=>93|304=>94|305=>95|306=>96|307=>97|308=>98|309=>99|310=>100|333=>133|329=>134|330=>135|334=>136|335=>137|336=>138|344=>179|n=>n,fun|31=>30|9=>9|3=>3|46=>121|0=>0|51=>185|53=>187|4=>4|183=>177|182=>176|131=>182|5=>5|218=>220|222=>224|228=>249|229=>250|n=>n,fun|n=>n⟩
theorem Tryz.lays190:Go.Proofs.Lays.n190 Tryz.prog Tryz.lays190_ren:={
 mixed:=by kernel_rfl
 f125:=Tryz.func58.trans (congrArg some (by kernel_rfl))
 f128:=Tryz.func101.trans (congrArg some (by kernel_rfl))
 f129:=Tryz.func102.trans (congrArg some (by kernel_rfl))
 f190:=Tryz.func30.trans (congrArg some (by kernel_rfl))
 f258:=Tryz.func57.trans (congrArg some (by kernel_rfl))
 f302:=Tryz.func92.trans (congrArg some (by kernel_rfl))
 f303:=Tryz.func93.trans (congrArg some (by kernel_rfl))
 f304:=Tryz.func94.trans (congrArg some (by kernel_rfl))
 f305:=Tryz.func95.trans (congrArg some (by kernel_rfl))
 f306:=Tryz.func96.trans (congrArg some (by kernel_rfl))
 f307:=Tryz.func97.trans (congrArg some (by kernel_rfl))
 f308:=Tryz.func98.trans (congrArg some (by kernel_rfl))
 f309:=Tryz.func99.trans (congrArg some (by kernel_rfl))
 f310:=Tryz.func100.trans (congrArg some (by kernel_rfl))
 f329:=Tryz.func134.trans (congrArg some (by kernel_rfl))
 f330:=Tryz.func135.trans (congrArg some (by kernel_rfl))
 f333:=Tryz.func133.trans (congrArg some (by kernel_rfl))
 f334:=Tryz.func136.trans (congrArg some (by kernel_rfl))
 f335:=Tryz.func137.trans (congrArg some (by kernel_rfl))
 f336:=Tryz.func138.trans (congrArg some (by kernel_rfl))
 f344:=Tryz.func179.trans (congrArg some (by kernel_rfl))
 t0:=Tryz.underlying0
 a0:=Tryz.isAgg0
 z0:=Tryz.sizeOf0
 v0:=Tryz.zeroValue0
 t3:=Tryz.underlying3
 a3:=Tryz.isAgg3
 z3:=Tryz.sizeOf3
 v3:=Tryz.zeroValue3
 t4:=Tryz.underlying4
 a4:=Tryz.isAgg4
 z4:=Tryz.sizeOf4
 v4:=Tryz.zeroValue4
 t5:=Tryz.underlying5
 a5:=Tryz.isAgg5
 z5:=Tryz.sizeOf5
 v5:=Tryz.zeroValue5
 t9:=Tryz.underlying9
 a9:=Tryz.isAgg9
 z9:=Tryz.sizeOf9
 v9:=Tryz.zeroValue9
 t31:=Tryz.underlying30
 a31:=Tryz.isAgg30
 z31:=Tryz.sizeOf30
 v31:=Tryz.zeroValue30
 t46:=Tryz.underlying121
 a46:=Tryz.isAgg121
 z46:=Tryz.sizeOf121
 v46:=Tryz.zeroValue121
 t51:=Tryz.underlying185
 a51:=Tryz.isAgg185
 z51:=Tryz.sizeOf185
 v51:=Tryz.zeroValue185
 t53:=Tryz.underlying187
 a53:=Tryz.isAgg187
 z53:=Tryz.sizeOf187
 v53:=Tryz.zeroValue187
 t131:=Tryz.underlying182
 a131:=Tryz.isAgg182
 z131:=Tryz.sizeOf182
 v131:=Tryz.zeroValue182
 t182:=Tryz.underlying176
 a182:=Tryz.isAgg176
 z182:=Tryz.sizeOf176
 v182:=Tryz.zeroValue176
 t183:=Tryz.underlying177
 a183:=Tryz.isAgg177
 z183:=Tryz.sizeOf177
 v183:=Tryz.zeroValue177
 t218:=Tryz.underlying220
 a218:=Tryz.isAgg220
 z218:=Tryz.sizeOf220
 v218:=Tryz.zeroValue220
 t222:=Tryz.underlying224
 a222:=Tryz.isAgg224
 z222:=Tryz.sizeOf224
 v222:=Tryz.zeroValue224
 t228:=Tryz.underlying249
 a228:=Tryz.isAgg249
 z228:=Tryz.sizeOf249
 v228:=Tryz.zeroValue249
 t229:=Tryz.underlying250
 a229:=Tryz.isAgg250
 z229:=Tryz.sizeOf250
 v229:=Tryz.zeroValue250}
open Go.Sort Go.RowKit in
theorem Tryz.slices_Sort_string (blk off cap:Nat) (ss:List (List UInt8)) (w:World) (hH:Holds encStr w blk off ss.toArray) (hblk:blk<w.heap.size) (hsz:ss.length<4611686018427387904):
  Calls Tryz.prog 30 #[.slice (some ⟨blk,off,none⟩) ss.length cap] w fun e w'=>
   e= .returned (.tuple #[])/\ ∃n os,w'=grow (putRow encStr (Sort.ahead w n) blk off (ss.mergeSort fun x y=>decide (x<=y)).toArray) os:=Any.slices_Sort_string Tryz.lays190 blk off cap ss w hH hblk hsz
def Tryz.lays146_ren:Go.Shelf.Ren:=⟨fun|146=>221|221=>229|268=>235|138=>236|143=>194|195=>241|197=>242|218=>243|219=>217|260=>249|217=>225|225=>226|224=>227|267=>228|266=>233|314=>234|n=>n,fun|9=>9|31=>30|3=>3|4=>4|0=>0|105=>296|21=>21|5=>5|46=>121|119=>279|139=>282|138=>281|146=>291|51=>185|n=>n,fun|1=>5|3=>3|4=>4|n=>n⟩
theorem Tryz.lays146:Go.Proofs.Lays.n146 Tryz.prog Tryz.lays146_ren:={
 mixed:=by kernel_rfl
 f138:=Tryz.func236.trans (congrArg some (by kernel_rfl))
 f143:=Tryz.func194.trans (congrArg some (by kernel_rfl))
 f146:=Tryz.func221.trans (congrArg some (by kernel_rfl))
 f195:=Tryz.func241.trans (congrArg some (by kernel_rfl))
 f197:=Tryz.func242.trans (congrArg some (by kernel_rfl))
 f217:=Tryz.func225.trans (congrArg some (by kernel_rfl))
 f218:=Tryz.func243.trans (congrArg some (by kernel_rfl))
 f219:=Tryz.func217.trans (congrArg some (by kernel_rfl))
 f221:=Tryz.func229.trans (congrArg some (by kernel_rfl))
 f224:=Tryz.func227.trans (congrArg some (by kernel_rfl))
 f225:=Tryz.func226.trans (congrArg some (by kernel_rfl))
 f260:=Tryz.func249.trans (congrArg some (by kernel_rfl))
 f266:=Tryz.func233.trans (congrArg some (by kernel_rfl))
 f267:=Tryz.func228.trans (congrArg some (by kernel_rfl))
 f268:=Tryz.func235.trans (congrArg some (by kernel_rfl))
 f314:=Tryz.func234.trans (congrArg some (by kernel_rfl))
 t0:=Tryz.underlying0
 a0:=Tryz.isAgg0
 z0:=Tryz.sizeOf0
 v0:=Tryz.zeroValue0
 t3:=Tryz.underlying3
 a3:=Tryz.isAgg3
 z3:=Tryz.sizeOf3
 v3:=Tryz.zeroValue3
 t4:=Tryz.underlying4
 a4:=Tryz.isAgg4
 z4:=Tryz.sizeOf4
 v4:=Tryz.zeroValue4
 t5:=Tryz.underlying5
 a5:=Tryz.isAgg5
 z5:=Tryz.sizeOf5
 v5:=Tryz.zeroValue5
 t9:=Tryz.underlying9
 a9:=Tryz.isAgg9
 z9:=Tryz.sizeOf9
 v9:=Tryz.zeroValue9
 t21:=Tryz.underlying21
 a21:=Tryz.isAgg21
 z21:=Tryz.sizeOf21
 v21:=Tryz.zeroValue21
 t31:=Tryz.underlying30
 a31:=Tryz.isAgg30
 z31:=Tryz.sizeOf30
 v31:=Tryz.zeroValue30
 t46:=Tryz.underlying121
 a46:=Tryz.isAgg121
 z46:=Tryz.sizeOf121
 v46:=Tryz.zeroValue121
 t51:=Tryz.underlying185
 a51:=Tryz.isAgg185
 z51:=Tryz.sizeOf185
 v51:=Tryz.zeroValue185
 t105:=Tryz.underlying296
 a105:=Tryz.isAgg296
 z105:=Tryz.sizeOf296
 v105:=Tryz.zeroValue296
 t119:=Tryz.underlying279
 a119:=Tryz.isAgg279
 z119:=Tryz.sizeOf279
 t138:=Tryz.underlying281
 a138:=Tryz.isAgg281
 z138:=Tryz.sizeOf281
 v138:=Tryz.zeroValue281
 t139:=Tryz.underlying282
 a139:=Tryz.isAgg282
 z139:=Tryz.sizeOf282
 v139:=Tryz.zeroValue282
 t146:=Tryz.underlying291
 a146:=Tryz.isAgg291
 z146:=Tryz.sizeOf291
 v146:=Tryz.zeroValue291
 g1:=by kernel_rfl
 g3:=by kernel_rfl
 g4:=by kernel_rfl}
open Go.RowKit Go.Lib in
theorem Tryz.strings_Split (s sep:ByteArray) (m:Int) (w:World) (hs:s.size<4294967281) (hm:w.cell? ⟨5,0,none⟩=some (.int .i64 m)) (h1:1<=sep.size):
  Calls Tryz.prog 221 #[.string s,.string sep] w fun e w'=>
   e= .returned (.slice (some ⟨w.heap.size,0,none⟩) (Lib.countB s sep+1) (Lib.countB s sep+1))/\w'=w.alloc (.cells ((Lib.splitB sep 0 (Lib.countB s sep) s).map Value.string).toArray 9):=Any.strings_Split Tryz.lays146 (by kernel_rfl) s sep m w hs hm h1
def Tryz.lays194_ren:Go.Shelf.Ren:=⟨fun|194=>31|n=>n,fun|31=>30|9=>9|3=>3|4=>4|0=>0|n=>n,fun|n=>n⟩
theorem Tryz.lays194:Go.Proofs.Lays.n194 Tryz.prog Tryz.lays194_ren:={
 mixed:=by kernel_rfl
 f194:=Tryz.func31.trans (congrArg some (by kernel_rfl))
 t0:=Tryz.underlying0
 a0:=Tryz.isAgg0
 z0:=Tryz.sizeOf0
 v0:=Tryz.zeroValue0
 t3:=Tryz.underlying3
 a3:=Tryz.isAgg3
 z3:=Tryz.sizeOf3
 v3:=Tryz.zeroValue3
 t4:=Tryz.underlying4
 a4:=Tryz.isAgg4
 z4:=Tryz.sizeOf4
 v4:=Tryz.zeroValue4
 t9:=Tryz.underlying9
 a9:=Tryz.isAgg9
 z9:=Tryz.sizeOf9
 v9:=Tryz.zeroValue9
 t31:=Tryz.underlying30
 a31:=Tryz.isAgg30
 z31:=Tryz.sizeOf30
 v31:=Tryz.zeroValue30}
open Go.RowKit Go.Lib Go.Sort in
theorem Tryz.slices_Compact_string (blk off cap:Nat) (zs:List (List UInt8)) (w:World) (hH:Holds encStr w blk off zs.toArray) (hsz:zs.length<=9223372036854775807) (hcap:zs.length<=cap):
  Calls Tryz.prog 31 #[.slice (some ⟨blk,off,none⟩) zs.length cap] w fun e w'=>e= .returned (.slice (some ⟨blk,off,none⟩) (Lib.compact zs).length cap)/\ ∃q,w'=putRow encStr (Sort.ahead w q) blk off (Lib.compact zs++List.replicate (zs.length - (Lib.compact zs).length) []).toArray:=Any.slices_Compact_string Tryz.lays194 blk off cap zs w hH hsz hcap
open Go.RowKit Go.Lib Go.Sort in
theorem Tryz.slices_Compact_string_empty (a:Option Addr) (cap:Nat) (w:World):
  Calls Tryz.prog 31 #[.slice a 0 cap] w fun e w'=>e= .returned (.slice a 0 cap)/\w'=w:=Any.slices_Compact_string_empty Tryz.lays194 a cap w
def Tryz.laysNm224_ren:Go.Shelf.Ren:=⟨fun|24=>66|n=>n,fun|24=>30|9=>9|3=>3|4=>4|0=>0|n=>n,fun|n=>n⟩
theorem Tryz.laysNm224:Go.Proofs.Lays2.n24 Tryz.prog Tryz.laysNm224_ren:={
 mixed:=by kernel_rfl
 f24:=Tryz.func66.trans (congrArg some (by kernel_rfl))
 t0:=Tryz.underlying0
 a0:=Tryz.isAgg0
 z0:=Tryz.sizeOf0
 v0:=Tryz.zeroValue0
 t3:=Tryz.underlying3
 a3:=Tryz.isAgg3
 z3:=Tryz.sizeOf3
 v3:=Tryz.zeroValue3
 t4:=Tryz.underlying4
 a4:=Tryz.isAgg4
 z4:=Tryz.sizeOf4
 v4:=Tryz.zeroValue4
 t9:=Tryz.underlying9
 a9:=Tryz.isAgg9
 z9:=Tryz.sizeOf9
 v9:=Tryz.zeroValue9
 t24:=Tryz.underlying30
 a24:=Tryz.isAgg30
 z24:=Tryz.sizeOf30
 v24:=Tryz.zeroValue30
 i9:=by kernel_rfl}
open Go.RowKit Go.Lib Go.Sort in
theorem Tryz.slices_Delete_string (blk off cap i j:Nat) (zs:List (List UInt8)) (w:World) (hH:Holds encStr w blk off zs.toArray) (hcap:zs.length<=cap) (hm:cap<=9223372036854775807) (hij:i<=j) (hj:j<=zs.length):
  Calls Tryz.prog 66 #[.slice (some ⟨blk,off,none⟩) zs.length cap,.int .i64 i,.int .i64 j] w fun e w'=>e= .returned (.slice (some ⟨blk,off,none⟩) (zs.length - (j - i)) cap)/\ ∃q,w'=putRow encStr (Sort.ahead w q) blk off (zs.take i++zs.drop j++List.replicate (j - i) []).toArray:=Any.slices_Delete_string Tryz.laysNm224 blk off cap i j zs w hH hcap hm hij hj
open Go.RowKit Go.Sort in
theorem Tryz.slices_Sort_string_none (p:Option Addr) (cap:Nat) (w:World):
  Calls Tryz.prog 30 #[.slice p 0 cap] w fun e w'=>e= .returned (.tuple #[])/\w'=w:=Any.slices_Sort_string_none Tryz.lays190 p cap w
def Tryz.lays196_ren:Go.Shelf.Ren:=⟨fun|196=>200|259=>223|n=>n,fun|9=>9|4=>4|3=>3|5=>5|12=>12|119=>279|0=>0|46=>121|139=>282|138=>281|53=>187|n=>n,fun|3=>3|4=>4|n=>n⟩
theorem Tryz.lays196:Go.Proofs.Lays.n196 Tryz.prog Tryz.lays196_ren:={
 mixed:=by kernel_rfl
 f196:=Tryz.func200.trans (congrArg some (by kernel_rfl))
 f259:=Tryz.func223.trans (congrArg some (by kernel_rfl))
 t0:=Tryz.underlying0
 a0:=Tryz.isAgg0
 z0:=Tryz.sizeOf0
 v0:=Tryz.zeroValue0
 t3:=Tryz.underlying3
 a3:=Tryz.isAgg3
 z3:=Tryz.sizeOf3
 v3:=Tryz.zeroValue3
 t4:=Tryz.underlying4
 a4:=Tryz.isAgg4
 z4:=Tryz.sizeOf4
 v4:=Tryz.zeroValue4
 t5:=Tryz.underlying5
 a5:=Tryz.isAgg5
 z5:=Tryz.sizeOf5
 v5:=Tryz.zeroValue5
 t9:=Tryz.underlying9
 a9:=Tryz.isAgg9
 z9:=Tryz.sizeOf9
 v9:=Tryz.zeroValue9
 t12:=Tryz.underlying12
 a12:=Tryz.isAgg12
 z12:=Tryz.sizeOf12
 v12:=Tryz.zeroValue12
 t46:=Tryz.underlying121
 a46:=Tryz.isAgg121
 z46:=Tryz.sizeOf121
 v46:=Tryz.zeroValue121
 t53:=Tryz.underlying187
 a53:=Tryz.isAgg187
 z53:=Tryz.sizeOf187
 v53:=Tryz.zeroValue187
 t119:=Tryz.underlying279
 a119:=Tryz.isAgg279
 z119:=Tryz.sizeOf279
 t138:=Tryz.underlying281
 a138:=Tryz.isAgg281
 z138:=Tryz.sizeOf281
 v138:=Tryz.zeroValue281
 t139:=Tryz.underlying282
 a139:=Tryz.isAgg282
 z139:=Tryz.sizeOf282
 v139:=Tryz.zeroValue282
 g3:=by kernel_rfl
 g4:=by kernel_rfl}
def Tryz.sorted59_ren:Go.Shelf.Ren:=⟨fun|6=>59|8=>103|9=>30|11=>139|13=>58|12=>57|23=>101|24=>102|14=>92|15=>93|16=>94|17=>95|18=>96|19=>97|20=>98|21=>99|22=>100|25=>133|26=>134|27=>135|28=>136|29=>137|30=>138|31=>179|n=>n,fun|26=>9|28=>124|24=>30|0=>0|3=>3|37=>121|48=>185|50=>187|4=>4|40=>177|39=>176|45=>182|5=>5|9=>9|51=>220|55=>224|57=>249|58=>250|33=>130|n=>n,fun|n=>n⟩
theorem Tryz.sorted59:Go.Proofs.SlLaysZ.n6 Tryz.prog Tryz.sorted59_ren:={
 mixed:=by kernel_rfl
 f6:=⟨Tryz.f59.name,by decide,Tryz.func59.trans (congrArg some (by kernel_rfl))⟩
 f8:=⟨Tryz.f103.name,by decide,Tryz.func103.trans (congrArg some (by kernel_rfl))⟩
 f11:=⟨Tryz.f139.name,by decide,Tryz.func139.trans (congrArg some (by kernel_rfl))⟩
 t0:=Tryz.underlying0
 a0:=Tryz.isAgg0
 z0:=Tryz.sizeOf0
 v0:=Tryz.zeroValue0
 t24:=Tryz.underlying30
 a24:=Tryz.isAgg30
 z24:=Tryz.sizeOf30
 v24:=Tryz.zeroValue30
 t26:=Tryz.underlying9
 a26:=Tryz.isAgg9
 z26:=Tryz.sizeOf9
 v26:=Tryz.zeroValue9
 t28:=Tryz.underlying124
 a28:=Tryz.isAgg124
 z28:=Tryz.sizeOf124
 v28:=Tryz.zeroValue124
 i26:=by kernel_rfl}
end Go.Proofs
end
noncomputable section
set_option maxRecDepth 100000
namespace Go.Fl
open Go Go.Proofs Go.RowKit Go.Maps Go.Sort Go.Shelf
variable {P:Program} {ρ:Ren}
def y8w (F:Fence) (n:Nat) (P:Program) (g:Nat) (lb:Array Value) (ss:List (List UInt8)) (w:World):Prop:=
 ∀(l:Nat) (J:List (List UInt8)->World->Prop) (W:World),Below w.heap.size w W->AbidesFrom W.heap.size J->(∀pre W1,J pre W1->Below w.heap.size w W1)->
  (∀pre x W1,J pre W1->pre.length<ss.length->YieldAt F (n - 1) P l #[encStr x] W1 fun e W'=>e= .returned (.bool true)/\J (pre++[x]) W'/\KeepsWalks W1 W')->
  J [] W->CallsIn F n P g (#[.func (.yield l) #[] #[]]++lb) W fun e W'=>(∃v,e= .returned v)/\J ss W'
theorem w7w {W:World} {base j:Nat} {e:TypeId} {v:Value} {k:Nat} {xs:List Value} {o:Obj} (h:W.ownsRow base e 1 v k xs) (hj:W.heap[j]? =some o) (hno: ∀cur,o≠ .cells cur e (0,0)) (o':Obj):(W.putObj j o').ownsRow base e 1 v k xs:=
 h.kept (grownBy_putObj_a W j o') (ownsRow_ne_a h hj hno)
set_option maxHeartbeats 2000000 in
theorem w1c (L:SlLaysZ.n11 P ρ) (F:Fence) (n:Nat) (hf:F.fn (ρ.f 11)) (hro:F.round=none) (hn:2<=n) (g:Nat) (lb:Array Value) (hg:F.fn g) (eg: ∀args w,(callFunc g args).run P w= .ok (.enter g args) w)
  (ss:List (List UInt8)) (hN:ss.length<=maxLen) (hNb:ss.length*16<=140737488355328) (w:World) (hseq:y8w F (n - 1) P g lb ss w):
  CallsIn F n P (ρ.f 11) #[.slice none 0 0,.func (.func g) #[] lb] w fun e w'=> ∃v,e= .returned v/\w'.ownsRow w.heap.size (ρ.t 26) 1 v ss.length (ss.map encStr)/\Below w.heap.size w w':=by
 have mixed:=L.mixed;have t0:=L.t0;have a0:=L.a0;have z0:=L.z0;have v0:=L.v0;have t24:=L.t24;have a24:=L.a24;have z24:=L.z24;have v24:=L.v24;have t26:=L.t26;have a26:=L.a26;have z26:=L.z26;have v26:=L.v26
 have u0:=run_underlying L.t0;have u24:=run_underlying L.t24;have u26:=run_underlying L.t26
 have apart:ρ.t 24≠ρ.t 26:=fun e=>by have h:=L.t24;rw [e,L.t26] at h;cases h
 obtain ⟨_,_,body⟩:=L.f11
 refine callsIn_of_wp_marks body rfl hf ?_ hro
 simp only [SlBodyZ.n11_ntmps ρ,List.size_toArray,List.length_cons,List.length_nil,Nat.reduceAdd,Nat.reduceSub,Array.replicate_succ,Array.replicate_zero,List.push_toArray,List.append_toArray,List.nil_append,List.cons_append]
 gi_wp2
 refine wpIn_rangeFunc fun fn hfn=> ?_
 rw [hro]
 generalize hA:w.alloc (.cells #[.slice none 0 0] (ρ.t 24))=A
 have sA:A.heap.size=w.heap.size+1:=by rw [←hA];simp
 have bA:Below w.heap.size w A:=by rw [←hA];exact (Below.refl _ w).alloc (Nat.le_refl _) _
 have xA:A.heap[w.heap.size]? =some (.cells #[.slice none 0 0] (ρ.t 24) (0,0)):=by rw [←hA];exact World.alloc_heap_new w _
 generalize hrec:AnyZ.apRec ρ fn (.func (.func g) #[] lb) w.heap.size A.heap.size .ready none=rec
 generalize hB:(A.alloc (.deferred (some []))).alloc (.loop rec)=B
 have oldB: ∀k,k<A.heap.size->B.heap[k]? =A.heap[k]? :=fun k hk=>by rw [←hB];exact (Below.heap_alloc _ _ k (by simp;omega)).trans (Below.heap_alloc _ _ k hk)
 have bB:Below w.heap.size w B:=by rw [←hB];exact (bA.alloc bA.size _).alloc (by have:=bA.size;simp;omega) _
 have dB:B.heap[A.heap.size]? =some (.deferred (some [])):=by rw [←hB];exact (Below.heap_alloc _ _ _ (by simp)).trans (World.alloc_heap_new A _)
 have lB:B.heap[A.heap.size+1]? =some (.loop rec):=by rw [←hB];have:=World.alloc_heap_new (A.alloc (.deferred (some []))) (.loop rec);rwa [World.size_alloc] at this
 have start:AnyZ.ApAt ρ w fn (.func (.func g) #[] lb) w.heap.size (A.heap.size+1) A.heap.size [] B:=
  ⟨⟨_,(oldB _ (by omega)).trans xA,⟨rfl,.inl ⟨rfl,rfl⟩⟩,by simp⟩,by rw [hrec];exact lB,dB,bB⟩
 refine ⟨A.heap.size+1,[{target:= .collected A.heap.size,args:= #[]}],B,{target:= .fn (.func g) lb,args:= #[.func (.yield (A.heap.size+1)) #[] #[]]},B,g,#[.func (.yield (A.heap.size+1)) #[] #[]]++lb,B,?_,?_,?_,?_,fun _=>(by omega),?_⟩
 ·rw [←hB,←hrec];exact run_enterLoop_outer _ _ _ _ _
 ·simp [resolve,go_sem]
 ·intro f' h';simp [Target.leads] at h';exact h'▸hg
 ·simp [invoke,go_sem,eg]
 refine (hseq _ (AnyZ.ApAt ρ w fn (.func (.func g) #[] lb) w.heap.size (A.heap.size+1) A.heap.size) B bB (AnyZ.ap_abides ρ _ _ _ _ _ _ _ bB.size) (fun _ _ h=>h.below)
  (fun pre x W h hl=>AnyZ.apYield {L with} F _ w fn hfn _ _ _ _ (by omega) (by omega) (by omega) (Nat.le_refl _) (by omega) ss.length hN hNb pre x W h hl) start).mono ?_
 rintro e C ⟨⟨_,rfl⟩,hC⟩
 obtain ⟨v,hv,hrow,_⟩:=hC.box
 have hend:=run_endLoop (P:=P) hC.L (by simp [AnyZ.apRec])
 generalize hD:C.putObj (A.heap.size+1) (.loop {AnyZ.apRec ρ fn (.func (.func g) #[] lb) w.heap.size A.heap.size .ready none with state:= .exhausted})=D at hend
 have rowD:D.ownsRow w.heap.size (ρ.t 26) 1 v ss.length (ss.map encStr):=by rw [←hD];exact w7w hrow hC.L (fun _ h=>by cases h) _
 have boxD:D.heap[w.heap.size]? =some (.cells #[v] (ρ.t 24) (0,0)):=by rw [←hD];exact (World.putObj_heap_other (by omega)).trans hv
 have defD:D.heap[A.heap.size]? =some (.deferred (some [])):=by rw [←hD];exact (World.putObj_heap_other (by omega)).trans hC.K
 have belD:Below w.heap.size w D:=by rw [←hD];exact hC.below.grown (grownBy_putObj_a _ _ _) hC.below.size (fun k h=>by cases h;omega)
 obtain ⟨cellD,markD⟩:=cell_of_box_a boxD
 clear hD
 refine ⟨none,D,hend,?_⟩
 gi_wp2
 rw [←sA]
 refine ⟨by simp,.inl ⟨_,_,rfl,run_takeDeferred defD,?_⟩⟩
 exact ⟨_,results_tmp rfl _ _ _,v,rfl,w7w rowD defD (fun _ h=>by cases h) _,belD.grown (grownBy_putObj_a _ _ _) belD.size (fun k h=>by cases h;omega)⟩
end Go.Fl
end
noncomputable section
set_option maxRecDepth 100000
namespace Go.Proofs.YthpeboomdlgfaaaGreatDoor
open Go Go.Proofs Go.RowKit Go.Fl Go.Maps Go.Sort Go.Shelf
attribute [local go_sem] Oper.semAt_some
set_option maxHeartbeats 2000000 in
theorem v8x (n:Nat) (hn:1<=n) (w W:World) (l Bs b off cap:Nat) (zs:List (List UInt8)) (hreach:zs.length<=140737488355328) (hBs:Bs<w.heap.size) (hb:b<w.heap.size) (J:List (List UInt8)->World->Prop)
  (hJ: ∀pre W1,J pre W1->Below w.heap.size w W1) (hc:w.cell? ⟨Bs,0,none⟩=some (.slice (some ⟨b,off,none⟩) zs.length cap)) (hcs: ∀j,j<zs.length->w.cell? ⟨b,off+j,none⟩=some (encStr (zs[j]?.getD [])))
  (hY: ∀pre x W1,J pre W1->pre.length<zs.length->YieldAt Fence.wide (n - 1) Tryz.prog l #[encStr x] W1 fun e W'=>e= .returned (.bool true)/\J (pre++[x]) W'/\KeepsWalks W1 W') (h0:J [] W):
  CallsIn Fence.wide n Tryz.prog 104 #[.func (.yield l) #[] #[],.pointer (some ⟨Bs,0,none⟩)] W fun e W'=>(∃v,e= .returned v)/\J zs W':=by
 have hc0:=((hJ _ _ h0).cell (p:=⟨Bs,0,none⟩) hBs).trans hc
 refine callsIn_of_wp Tryz.func104 rfl trivial ?_ rfl
 simp only [Tryz.ntmps104,List.size_toArray,List.length_cons,List.length_nil,Nat.reduceAdd,Nat.reduceSub,Array.replicate_succ,Array.replicate_zero,List.push_toArray,List.append_toArray,List.nil_append,List.cons_append]
 gi_wp2
 gi_loopw [7] (fun i wr=> ∃k:Nat,k<=zs.length/\i= .int .i64 k/\J (zs.take k) wr) (fun i _=>zs.length - (intOf i).toNat)
 case atStart=>exact ⟨0,Nat.zero_le _,rfl,h0⟩
 case round=>
  obtain ⟨k,hk,rfl,hJk⟩:=hrel
  by_cases hlt:k<zs.length
  ·have hck:=((hJ _ _ hJk).cell (p:=⟨b,off+k,none⟩) hb).trans (hcs k hlt)
   obtain ⟨fn,tmps,assign,body,hy,hR⟩:=hY _ zs[k] wr hJk (by rw [List.length_take];omega)
   gi_wp2
   refine hR.mono ?_
   rintro e W3 ⟨rfl,hJ3,_⟩
   gi_wp2
   go_roundw
   case rel=>exact ⟨k+1,by omega,by simp,by rw [List.take_succ_eq_append_getElem hlt];exact hJ3⟩
   case measure=>simp [intOf];omega
  ·obtain rfl:k=zs.length:=by omega
   rw [List.take_length] at hJk
   gi_wp2
   go_end0
   exact ⟨⟨_,rfl⟩,hJk⟩
set_option maxHeartbeats 2000000 in
theorem v8y (n:Nat) (w W:World) (l Bs cap:Nat) (a:Option Addr) (hBs:Bs<w.heap.size) (J:List (List UInt8)->World->Prop) (hJ: ∀pre W1,J pre W1->Below w.heap.size w W1) (hc:w.cell? ⟨Bs,0,none⟩=some (.slice a 0 cap)) (h0:J [] W):
  CallsIn Fence.wide n Tryz.prog 104 #[.func (.yield l) #[] #[],.pointer (some ⟨Bs,0,none⟩)] W fun e W'=>(∃v,e= .returned v)/\J [] W':=by
 have hc0:=((hJ _ _ h0).cell (p:=⟨Bs,0,none⟩) hBs).trans hc
 refine callsIn_of_wp Tryz.func104 rfl trivial ?_ rfl
 simp only [Tryz.ntmps104,List.size_toArray,List.length_cons,List.length_nil,Nat.reduceAdd,Nat.reduceSub,Array.replicate_succ,Array.replicate_zero,List.push_toArray,List.append_toArray,List.nil_append,List.cons_append]
 gi_wp2
 gi_loopw [7] (fun i wr=>i= .int .i64 0/\J [] wr) (fun _ _=>0)
 case atStart=>exact ⟨rfl,h0⟩
 case round=>
  obtain ⟨rfl,hJs⟩:=hrel
  gi_wp2
  go_end0
  exact ⟨⟨_,rfl⟩,hJs⟩
theorem u9q {σ:Hv} {w:World} (Bs:Nat) (v:Value) (l:List ByteArray) (hV:View σ w) (hB:σ Bs=some (.cells #[v] 30 (0,0))) (hr:RSl 1 (REnc Qp) σ v l) (hs:Sml l.length):
  Calls Tryz.prog 139 #[.slice none 0 0,.func (.func 104) #[] #[.pointer (some ⟨Bs,0,none⟩)]] w fun e w1=> ∃v1,e= .returned v1/\Grow [] σ w σ w1/\((vec v1 9 1 l.length (l.flatMap Qp)).ok w1/\ ∀k,(vec v1 9 1 l.length (l.flatMap Qp)).foot=some k->w.heap.size<=k/\σ k=none):=by
 have hBw:=hV _ _ hB
 have hBl:=lt_of_block hBw
 have hBc:w.cell? ⟨Bs,0,none⟩=some v:=by simp [World.cell?,hBw]
 have hlen:(l.map (·.data.toList)).length=l.length:=List.length_map _
 have hgive:y8w Fence.wide 2 Tryz.prog 104 #[.pointer (some ⟨Bs,0,none⟩)] (l.map (·.data.toList)) w:=by
  intro lp J W _ _ hJB hY h0
  obtain ⟨a,cap,rfl,h1,h2,hel⟩:=hr
  cases hl0:l with
  |nil=>
   subst hl0
   exact v8y 2 w W lp Bs cap a hBl J hJB hBc h0
  |cons x l'=>
   obtain ⟨ad,cs,rfl,_,hrow0,hcs0⟩:=hel 0 x (by rw [hl0];rfl)
   have cell0:=(hrow0.row hV) 0 _ (by rw [hcs0];rfl)
   obtain ⟨ab,ao,asp⟩:=ad
   have hsp:asp=none:=by
    cases asp with
    |none=>rfl
    |some s=>
     have:=hrow0 0 (.string x) (by rw [hcs0];rfl)
     simp [Hv.cell,Addr.add] at this
     split at this<;>simp at this
   subst hsp
   have hbl:ab<w.heap.size:=by
    have:=hrow0 0 (.string x) (by rw [hcs0];rfl)
    simp only [Hp] at this
    unfold Hv.cell at this
    simp only at this
    cases hq:σ ab with
    |none=>rw [hq] at this;simp at this
    |some o=>exact lt_of_block (hV _ _ hq)
   rw [←hl0]
   have hcome:=v8x 2 (by omega) w W lp Bs ab ao cap (l.map (·.data.toList)) (by rw [hlen];exact h2) hBl hbl J hJB (by rw [hlen];exact hBc) (fun j hj=>by
    rw [hlen] at hj
    obtain ⟨y,hy⟩:=getq hj
    obtain ⟨ad',cs',had,_,hrow,hcs⟩:=hel j y hy
    cases had
    have hc:=(hrow.row hV) 0 (.string y) (by rw [hcs];rfl)
    rw [q2o,Hp] at hc
    rw [List.getElem?_map,hy]
    simpa [encStr] using hc) hY h0
   exact hcome
 refine (callsIn_wide (n:=3)).1 ((w1c (ρ:=Tryz.sorted59_ren) {Tryz.sorted59 with} Fence.wide 3 trivial rfl (by omega) 104 _ trivial (enters_of Tryz.func104 (by kernel_rfl) rfl) (l.map (·.data.toList)) (by rw [hlen];exact (q5l hs (show 16<=32768 by omega)).2) (by rw [hlen];exact (q5l hs (by omega)).1) w hgive).mono ?_)
 rintro e w1 ⟨v1,rfl,hown,hbel⟩
 rw [hlen] at hown
 have hfl:(l.map (·.data.toList)).map encStr=l.flatMap Qp:=(B2 l).symm
 rw [hfl] at hown
 have hsame: ∀b,b<w.heap.size->w1.heap[b]? =w.heap[b]? :=fun b hb=>hbel.block b hb
 refine ⟨v1,rfl,⟨⟨hbel.os,hbel.tape,hbel.output,hbel.size,fun k hk _=>hbel.block k hk⟩,fun b o hb=>(hbel.block b (lt_of_block (hV b o hb))).trans (hV b o hb),.refl _,fun _ _ _=>rfl⟩,?_,?_⟩
 ·exact ⟨hown.1,hown.2.imp id fun ⟨g,cap,cur,e1,_,e3⟩=>⟨g,cap,cur,e1,Nat.zero_le _,e3⟩⟩
 ·intro k hk
  have hge:w.heap.size<=k:=(hown.lt k hk).1
  refine ⟨hge,?_⟩
  cases hq:σ k with
  |none=>rfl
  |some o=>have:=lt_of_block (hV k o hq);omega
end Go.Proofs.YthpeboomdlgfaaaGreatDoor
end
