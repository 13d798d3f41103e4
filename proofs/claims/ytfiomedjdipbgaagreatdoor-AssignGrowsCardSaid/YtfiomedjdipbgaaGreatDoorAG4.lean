/- A subject stays in its experiment when experiments claim more, start or stop. This is part 4 of 7. Conditions: those in the statements. -/
import Derived.Test.YtfiomedjdipbgaaGreatDoorProg
import Derived.Test.YtfiomedjdipbgaaGreatDoorAG3
import Derived.Lib.ValidU
import Derived.KernelRfl
import Derived.Conc.MuLone
import Derived.Shelf.Small.Bits
import Derived.Shelf.Utf8.RuneCount
import Derived.Shelf.Strconv.Atoi
import Derived.Shelf.Strconv.Itoa0
import Derived.Shelf.Strconv.Itoa1
import Derived.Shelf.LaysM
import Derived.Shelf.Strconv.Itoa2
import Derived.Shelf.Strconv.Itoa3
import Derived.Shelf.Strconv.AtoiErrFast
import Derived.Shelf.Strconv.ParseIntEmpty
import Derived.Shelf.Strconv.AtoiFail
import Derived.Shelf.Strconv.Clone
import Derived.Shelf.Strconv.SyntaxError
import Derived.Shelf.LaysC
import Derived.Shelf.Strconv.ToError
import Derived.Shelf.Strconv.Lower
import Derived.Shelf.Strconv.ParseUint10
import Derived.Shelf.Strconv.ParseUint10Empty
import Derived.Shelf.Strconv.ParseUint10Any
import Derived.Shelf.Strconv.ParseInt10
import Derived.Shelf.Strconv.AtoiLong
import Derived.Shelf.Strconv.AtoiInnerAll
import Derived.Shelf.Strconv.RangeError
import Derived.Shelf.Strconv.ToErrorRange
import Derived.Shelf.Strconv.AtoiAll
import Derived.Shelf.Strconv.ErrVarAll
import Derived.Shelf.Strings.Search1
import Derived.Shelf.Strings.Search2
import Derived.Shelf.Strings.Search3
import Derived.Shelf.Strings.Count
import Derived.Shelf.Strings.Shaped
import Derived.Shelf.Sort.Plain
import Derived.Shelf.Strings.Split
import Derived.Shelf.Strings.SplitShaped
import Derived.Shelf.Unicode.Decode
import Derived.Shelf.Strings.RuneCount
import Derived.Shelf.Strings.Explode
import Derived.Shelf.Unicode.DecodeSlow
import Derived.Shelf.Unicode.DecodeAny
import Derived.Ground.Names2Prog
import Derived.Shelf.Slices.Clone
import Derived.Shelf.Slices.CompactS
import Derived.Shelf.Slices.SearchI
import Derived.Shelf.Slices.Delete
import Derived.Shelf.Slices.Cells
import Derived.Shelf.Slices.In.SortNone
import Derived.Shelf.Slices.Empties
import Derived.Ground.SlgnProg
import Derived.Shelf.SlicesE.Clone
import Derived.Ground.NamesProg
import Derived.Shelf.Unicode.ValidAny
import Derived.Shelf.SlIter.Sorted
import Derived.Ground.GgzProg
import Derived.Shelf.SlIter.Collect
import Derived.WalkKit
import Derived.OwnWalkIn
import Derived.TacticsInMore
import Derived.LoopNIn
import Derived.LoopIn
import Derived.RangeFuncLeaves
noncomputable section
set_option maxRecDepth 100000
open Go Go.RowKit Go.Fl Go.Fl.Lk Go.Fx
namespace Go.En
abbrev W9:Type:=(List (Decl)->Prop)->Prop
def J3:W9:=fun K=>K [Decl.mk (ByteArray.mk (Array.mk [100,101,118,105,99,101])) (ByteArray.mk (Array.mk [99,111,114,101,115])) (2:Int),Decl.mk (ByteArray.mk (Array.mk [100,101,118,105,99,101])) (ByteArray.mk (Array.mk [111,115])) (3:Int),Decl.mk (ByteArray.mk (Array.mk [117,115,101,114])) (ByteArray.mk (Array.mk [97,103,101])) (2:Int),Decl.mk (ByteArray.mk (Array.mk [117,115,101,114])) (ByteArray.mk (Array.mk [97,112,112])) (4:Int),Decl.mk (ByteArray.mk (Array.mk [117,115,101,114])) (ByteArray.mk (Array.mk [98,101,116,97])) (1:Int),Decl.mk (ByteArray.mk (Array.mk [117,115,101,114])) (ByteArray.mk (Array.mk [99,111,117,110,116,114,121])) (3:Int),Decl.mk (ByteArray.mk (Array.mk [117,115,101,114])) (ByteArray.mk (Array.mk [112,108,97,110])) (3:Int),Decl.mk (ByteArray.mk (Array.mk [117,115,101,114])) (ByteArray.mk (Array.mk [116,97,103,115])) (5:Int)]
abbrev j6f:Type:=List (Int)->Int->(Bool->Int->Prop)->Prop
def j6g:j6f:=fun list at_ K=>Fits list->K (decide (at_<(↑list.length:Int))) at_
abbrev Zf:Type:=List (Int)->Int->Int->(Int->Int->Prop)->Prop
def w3k(j6s:j6f):Zf:=fun list at_ n K=>j6s list at_ fun Qa Qv=>Cnd (Qa=true) (InI (Qv+1)/\InI (Qv+1 - (1:Int))/\((0:Int)<=Qv+1 - (1:Int)/\Qv+1 - (1:Int)<(↑list.length:Int))/\ ∀y1,list[(Qv+1 - (1:Int)).toNat]? =some y1->InI y1/\n≠(0:Int)/\K (y1.tmod n) (Qv+1)) (K (0:Int) Qv)
def Zb:Zf:=w3k j6g
abbrev q1r:Type:=List (Int)->Int->(ByteArray->Int->Prop)->Prop
def w3l(Qb:Zf):q1r:=fun list at_ K=>Qb list at_ (11:Int) fun Qa Qv=>((0:Int)<=Qa/\Qa<(↑(11:Nat):Int))/\ ∀y1,j0d[Qa.toNat]? =some y1->K y1 Qv
def q1s:q1r:=w3l Zb
abbrev q1t:Type:=List (Int)->Int->Int->(Int->Int->Prop)->Prop
def w3m(Qb:Zf):q1t:=fun list at_ n K=>Qb list at_ (256:Int) fun Qa Qv=>InI ((256:Int)*Qa)/\Qb list Qv (256:Int) fun Qc Z0=>InI ((256:Int)*Qa+Qc)/\n≠(0:Int)/\K (((256:Int)*Qa+Qc).tmod n) Z0
def q1u:q1t:=w3m Zb
abbrev z6l:Type:=Int->List (ByteArray)->(List (ByteArray)->Prop)->Prop
def z6m:z6l:=fun n l K=>((0:Int)<=n/\n<=(↑l.length:Int))/\K (List.take n.toNat l)
abbrev z1x:Type:=List (Int)->Int->(List (ByteArray)->Int->Prop)->Prop
def w3n(Qb:Zf):z1x:=fun list at_ K=>Qb list at_ (10:Int) fun Qa Qv=>Lp3 (fun Qc Z0 z63 y2i=>Qb list z63 (4:Int) fun Qg Zj=>Cnd (Z0<Qg) (InI (Qa+Z0)/\(10:Int)≠(0:Int)/\InI ((48:Int)+(Qa+Z0).tmod (10:Int))/\(↑((ByteArray.mk (Array.mk [107])).size+(Go.Utf8.encode (Go.IntKind.i32.wrap ((48:Int)+(Qa+Z0).tmod (10:Int)))).size):Int)<=(9223372036854775807:Int)/\Sml (Qc++[ByteArray.mk (Array.mk [107])++Go.Utf8.encode (Go.IntKind.i32.wrap ((48:Int)+(Qa+Z0).tmod (10:Int)))]).length/\InI (Z0+1)/\y2i (Qc++[ByteArray.mk (Array.mk [107])++Go.Utf8.encode (Go.IntKind.i32.wrap ((48:Int)+(Qa+Z0).tmod (10:Int)))]) (Z0+1) Zj) (Lp2 (fun Qi Hz w1c=>Fits Hz->CAt Hz Qi (fun y5=>InI (Qi - 1)/\((0:Int)<=Qi - 1/\Qi - 1<(↑Hz.length:Int))/\ ∀y7,Hz[(Qi - 1).toNat]? =some y7->Cnd (Lk.blt y7 y5) (InI (Qi+1)/\w1c (Qi+1) Hz) (((0:Int)<=Qi/\Qi<=(↑Hz.length:Int))/\K (List.take Qi.toNat Hz) Zj)) (K Hz Zj)) (1:Int) Qc)) [] (0:Int) Qv
def z1y:z1x:=w3n Zb
abbrev z8i:Type:=List (Int)->Int->(ByteArray->Int->Prop)->Prop
def w83(Qb:Zf):z8i:=fun list at_ K=>Qb list at_ (10:Int) fun Qa Qv=>InI ((48:Int)+Qa)/\(↑((ByteArray.mk (Array.mk [107])).size+(Go.Utf8.encode (Go.IntKind.i32.wrap ((48:Int)+Qa))).size):Int)<=(9223372036854775807:Int)/\K (ByteArray.mk (Array.mk [107])++Go.Utf8.encode (Go.IntKind.i32.wrap ((48:Int)+Qa))) Qv
def z8j:z8i:=w83 Zb
abbrev q1v:Type:=List (Int)->Int->Int->(Val->Int->Prop)->Prop
def j0e(Qb:Zf)(Wo:q1r):q1v:=fun list at_ kind K=>Cnd (kind=1) (Qb list at_ (2:Int) fun Qa Qv=>K (Val.mk kind Qa (ByteArray.mk (Array.mk [])) []) Qv) (Cnd (kind=2) ([(0:Int),(1:Int),(17:Int),(18:Int),(19:Int),(-5:Int),(64:Int),(1099511627776:Int),(-1099511627776:Int)].length<=(9223372036854775807:Nat)->Qb list at_ (↑[(0:Int),(1:Int),(17:Int),(18:Int),(19:Int),(-5:Int),(64:Int),(1099511627776:Int),(-1099511627776:Int)].length:Int) fun Qc Z0=>((0:Int)<=Qc/\Qc<(↑[(0:Int),(1:Int),(17:Int),(18:Int),(19:Int),(-5:Int),(64:Int),(1099511627776:Int),(-1099511627776:Int)].length:Int))/\ ∀y2,[(0:Int),(1:Int),(17:Int),(18:Int),(19:Int),(-5:Int),(64:Int),(1099511627776:Int),(-1099511627776:Int)][Qc.toNat]? =some y2->K (Val.mk kind y2 (ByteArray.mk (Array.mk [])) []) Z0) (Cnd (kind=3) (Wo list at_ fun Qa Qv=>K (Val.mk kind (0:Int) Qa []) Qv) (Cnd (kind=4) (Qb list at_ (6:Int) fun Qa Qv=>((0:Int)<=Qa/\Qa<(↑(6:Nat):Int))/\ ∀y1,z4e[Qa.toNat]? =some y1->K (Val.mk kind (0:Int) y1 []) Qv) (Qb list at_ (5:Int) fun Qa Qv=>((0:Int)<=Qa/\Qa<(↑(5:Nat):Int))/\ ∀y1,j7s[Qa.toNat]? =some y1->Sml ([]++y1).length/\K (Val.mk (5:Int) (0:Int) (ByteArray.mk (Array.mk [])) ([]++y1)) Qv))))
def Uu:q1v:=j0e Zb q1s
abbrev j0f:Type:=List (Int)->Int->(Ex->Int->Prop)->Prop
def w3o(Q3:W9)(Qb:Zf)(z3e:z8i)(Jf:q1v):j0f:=fun list at_ K=>Q3 fun Qa=>Fits Qa->InI ((↑Qa.length:Int)+1)/\Qb list at_ ((↑Qa.length:Int)+1) fun Qg Zj=>Fits Qa->Cnd (Qg=(↑Qa.length:Int)) (z3e list Zj fun Qe J5=>K (Ex.mk (7:Int) (ByteArray.mk (Array.mk [117,115,101,114])) (ByteArray.mk (Array.mk [107,101,121])) [Val.mk (3:Int) (0:Int) Qe []] []) J5) (At Qa Qg fun y4=>Jn1 (fun (Q4:Int×ByteArray×ByteArray×List Val×List Ex×Int×Int×ByteArray×ByteArray×List Val×List Ex×Unit)=>Jf list Q4.2.2.2.2.2.1 y4.3 fun Ju z33=>K (Ex.mk (7:Int) Q4.2.1 Q4.2.2.1 [Ju] Q4.2.2.2.2.1) z33) fun (y3s:Int×ByteArray×ByteArray×List Val×List Ex×Int×Int×ByteArray×ByteArray×List Val×List Ex×Unit->Prop)=>Qb list Zj (5:Int) fun Ju z33=>Jn1 (fun (J7:Int×Int×ByteArray×ByteArray×List Val×List Ex×Int×ByteArray×ByteArray×List Val×List Ex×Unit)=>Cnd (y4.3=2) (Qb list J7.1 (4:Int) fun Qs z9y=>InI ((12:Int)+Qs)/\Jf list z9y y4.3 fun Jv q3b=>K (Ex.mk ((12:Int)+Qs) J7.2.2.1 J7.2.2.2.1 [Jv] J7.2.2.2.2.2.1) q3b) (Cnd (y4.3=3) (Qb list J7.1 (4:Int) fun Qs z9y=>InI ((12:Int)+Qs)/\Jf list z9y y4.3 fun Jv q3b=>K (Ex.mk ((12:Int)+Qs) J7.2.2.1 J7.2.2.2.1 [Jv] J7.2.2.2.2.2.1) q3b) (Cnd (y4.3=4) (Qb list J7.1 (4:Int) fun Qs z9y=>InI ((12:Int)+Qs)/\Jf list z9y y4.3 fun Jv q3b=>K (Ex.mk ((12:Int)+Qs) J7.2.2.1 J7.2.2.2.1 [Jv] J7.2.2.2.2.2.1) q3b) (y3s (J7.2.1,J7.2.2.1,J7.2.2.2.1,J7.2.2.2.2.1,J7.2.2.2.2.2.1,J7.1,J7.2.2.2.2.2.2.1,J7.2.2.2.2.2.2.2.1,J7.2.2.2.2.2.2.2.2.1,J7.2.2.2.2.2.2.2.2.2.1,J7.2.2.2.2.2.2.2.2.2.2.1,()))))) fun (y2j:Int×Int×ByteArray×ByteArray×List Val×List Ex×Int×ByteArray×ByteArray×List Val×List Ex×Unit->Prop)=>Cnd (Ju=0) (K (Ex.mk (6:Int) y4.1 y4.2 [] []) z33) (Cnd (Ju=1) (Cnd (y4.3=5) (y3s ((0:Int),y4.1,y4.2,[],[],z33,(0:Int),ByteArray.mk (Array.mk []),ByteArray.mk (Array.mk []),[],[],())) (Lp3 (fun Qs z9y y9e u0d=>Qb list y9e (3:Int) fun Jv q3b=>Cnd (Qs<=Jv) (Jf list q3b y4.3 fun Vt w0a=>Sml (z9y++[Vt]).length/\InI (Qs+1)/\u0d (Qs+1) (z9y++[Vt]) w0a) (K (Ex.mk (8:Int) y4.1 y4.2 z9y []) q3b)) (0:Int) [] z33)) (Cnd (Ju=2) (Cnd (y4.3=3) (Jf list z33 (3:Int) fun Qs z9y=>K (Ex.mk (11:Int) y4.1 y4.2 [Qs] []) z9y) (Cnd (y4.3=5) (Jf list z33 (3:Int) fun Qs z9y=>K (Ex.mk (11:Int) y4.1 y4.2 [Qs] []) z9y) (y3s ((0:Int),y4.1,y4.2,[],[],z33,(0:Int),ByteArray.mk (Array.mk []),ByteArray.mk (Array.mk []),[],[],())))) (Cnd (Ju=3) (Cnd (y4.3=3) (Qb list z33 (2:Int) fun Qs z9y=>InI ((9:Int)+Qs)/\Jf list z9y (3:Int) fun Jv q3b=>K (Ex.mk ((9:Int)+Qs) y4.1 y4.2 [Jv] []) q3b) (y2j (z33,(0:Int),y4.1,y4.2,[],[],(0:Int),ByteArray.mk (Array.mk []),ByteArray.mk (Array.mk []),[],[],()))) (Cnd (Ju=4) (y2j (z33,(0:Int),y4.1,y4.2,[],[],(0:Int),ByteArray.mk (Array.mk []),ByteArray.mk (Array.mk []),[],[],())) (y3s ((0:Int),y4.1,y4.2,[],[],z33,(0:Int),ByteArray.mk (Array.mk []),ByteArray.mk (Array.mk []),[],[],())))))))
def z6n:j0f:=w3o J3 Zb z8j Uu
abbrev q4n:Type:=List (Int)->Int->List (ByteArray)->Int->(Ex->Int->Prop)->Prop
def j6h(Qb:Zf)(j10:j0f)(X:q4n):q4n:=fun list at_ segments levels K=>Qb list at_ (8:Int) fun Qa Qv=>Jn1 (fun Qc=>Cnd (Qc=0) (K (Ex.mk (1:Int) (ByteArray.mk (Array.mk [])) (ByteArray.mk (Array.mk [])) [] []) Qv) (Cnd (Qc=3) (Fits segments->Cnd ((0:Int)<(↑segments.length:Int)) (Fits segments->Qb list Qv (↑segments.length:Int) fun Qe J5=>At segments Qe fun y5=>K (Ex.mk (5:Int) (ByteArray.mk (Array.mk [])) y5 [] []) J5) (j10 list Qv fun Qi Hz=>K (Ex.mk Qi.1 Qi.2 Qi.3 Qi.4 Qi.5) Hz)) (Cnd (Qc=4) (InI (levels - 1)/\X list Qv segments (levels - 1) fun Qg Zj=>K (Ex.mk (4:Int) (ByteArray.mk (Array.mk [])) (ByteArray.mk (Array.mk [])) [] [Ex.mk Qg.1 Qg.2 Qg.3 Qg.4 Qg.5]) Zj) (Jn1 (fun Qg=>Cnd (Qg=true) (Qb list Qv (2:Int) fun Qi Hz=>InI ((2:Int)+Qi)/\Qb list Hz (2:Int) fun Qe J5=>InI ((2:Int)+Qe)/\LpH (fun (Ql:Int×Int×Int×ByteArray×ByteArray×List Val×List Ex×Unit) (j6t:Int×Int×Int×ByteArray×ByteArray×List Val×List Ex×Unit->Prop)=>Cnd (Ql.1<2+Qe) (InI (levels - 1)/\X list Ql.2.1 segments (levels - 1) fun Q4 z32=>Jn1 (fun (Ju:Int×ByteArray×ByteArray×List Val×List Ex×Unit)=>Sml (Ql.2.2.2.2.2.2.1++[Ex.mk Ju.1 Ju.2.1 Ju.2.2.1 Ju.2.2.2.1 Ju.2.2.2.2.1]).length/\InI (Ql.1+1)/\j6t (Ql.1+1,z32,Ql.2.2.1,Ql.2.2.2.1,Ql.2.2.2.2.1,Ql.2.2.2.2.2.1,Ql.2.2.2.2.2.2.1++[Ex.mk Ju.1 Ju.2.1 Ju.2.2.1 Ju.2.2.2.1 Ju.2.2.2.2.1],())) fun (y6z:Int×ByteArray×ByteArray×List Val×List Ex×Unit->Prop)=>Cnd (Q4.1=2+Qi) (y6z ((4:Int),ByteArray.mk (Array.mk []),ByteArray.mk (Array.mk []),[],[Ex.mk Q4.1 Q4.2 Q4.3 Q4.4 Q4.5],())) (y6z (Q4.1,Q4.2,Q4.3,Q4.4,Q4.5,()))) (K (Ex.mk Ql.2.2.1 Ql.2.2.2.1 Ql.2.2.2.2.1 Ql.2.2.2.2.2.1 Ql.2.2.2.2.2.2.1) Ql.2.1)) ((0:Int),J5,(2:Int)+Qi,ByteArray.mk (Array.mk []),ByteArray.mk (Array.mk []),[],[],())) (j10 list Qv fun Qi Hz=>K (Ex.mk Qi.1 Qi.2 Qi.3 Qi.4 Qi.5) Hz)) fun w78=>Cnd (Qc=5) (w78 (decide (Qc=5))) (w78 (decide (Qc=6))))))) fun w2q=>Cnd (levels<=1) (Cnd ((4:Int)<=Qa) (InI (Qa - 4)/\w2q (Qa - 4)) (w2q Qa)) (w2q Qa)
def z1z:q4n:=fun list at_ segments levels K=> ∀X:q4n,(∀list at_ segments levels K,j6h Zb z6n X list at_ segments levels K->X list at_ segments levels K)->X list at_ segments levels K
abbrev q5c:Type:=List (Int)->Int->ByteArray->ByteArray->Int->List (Decl)->List (Seg)->List (Flg)->List (Lay_)->List (Exper)->(Int->ByteArray->ByteArray->Int->List (Decl)->List (Seg)->List (Flg)->List (Lay_)->List (Exper)->Prop)->Prop
def z4f(Qb:Zf)(q3c:z6l)(q40:z1x)(q41:q4n):q5c:=fun list at_ salt hkind hold attrs segs flags layers expers K=>Qb list at_ (4:Int) fun Qa Qv=>q3c Qa [ByteArray.mk (Array.mk [97,108,112,104,97]),ByteArray.mk (Array.mk [98,101,116,97]),ByteArray.mk (Array.mk [103,97,109,109,97])] fun Qc=>Lp3 (fun Qg Zj w5m y8r=>Fits Qc->CAt Qc Qg (fun y4=>q40 list Zj fun Q4 z32=>q40 list z32 fun Ju z33=>Jn2 (fun J7 w5j=>Jn1 (fun (Qs:Int×ByteArray×ByteArray×List Val×List Ex×Int×Unit)=>Sml (w5m++[Seg.mk y4 J7 Q4 Ju (Ex.mk Qs.1 Qs.2.1 Qs.2.2.1 Qs.2.2.2.1 Qs.2.2.2.2.1)]).length/\InI (Qg+1)/\y8r (Qg+1) Qs.2.2.2.2.2.1 (w5m++[Seg.mk y4 J7 Q4 Ju (Ex.mk Qs.1 Qs.2.1 Qs.2.2.1 Qs.2.2.2.1 Qs.2.2.2.2.1)])) fun (y8s:Int×ByteArray×ByteArray×List Val×List Ex×Int×Unit->Prop)=>Qb list w5j (3:Int) fun Jv q3b=>Cnd ((0:Int)<Jv) (((0:Int)<=(0:Int)/\(0:Int)<=Qg/\Qg<=(↑Qc.length:Int))/\q41 list q3b (List.drop (Int.toNat (0:Int)) (List.take Qg.toNat Qc)) (3:Int) fun Vt w0a=>y8s (Vt.1,Vt.2,Vt.3,Vt.4,Vt.5,w0a,())) (y8s ((0:Int),ByteArray.mk (Array.mk []),ByteArray.mk (Array.mk []),[],[],q3b,()))) fun y2j=>Qb list z33 (4:Int) fun Qs z9y=>Cnd (Qs=1) (y2j (ByteArray.mk (Array.mk [100,101,118,105,99,101])) z9y) (y2j (ByteArray.mk (Array.mk [117,115,101,114])) z9y)) (K Zj salt hkind hold attrs w5m flags layers expers)) (0:Int) Qv segs
def q5d:q5c:=z4f Zb z6m z1y z1z
abbrev q1w:Type:=Envt->(List (ByteArray)->Prop)->Prop
def H1:q1w:=fun v K=>Lp2 (fun Qa Qv q1k=>Fits v.3->CAt v.3 Qv (fun y2=>Sml (Qa++[y2.1]).length/\InI (Qv+1)/\q1k (Qa++[y2.1]) (Qv+1)) (K Qa)) [] (0:Int)
abbrev q7o:Type:=List (Int)->Int->Int->(List (Rng)->Int->Prop)->Prop
def j7u(Qb:Zf)(Jt:q1t):q7o:=fun list at_ n K=>Jn4 (fun Qa Qv j4l q7e=>Qb list q7e n fun Qc Z0=>InI ((1:Int)+Qc)/\Jn1 (fun Qg=>Sml (Qa++[Rng.mk Qv (10000:Int) Qg]).length/\K (Qa++[Rng.mk Qv (10000:Int) Qg]) Z0) fun w78=>Cnd ((1:Int)+Qc=j4l) (n≠(0:Int)/\InI ((1:Int)+((1:Int)+Qc).tmod n)/\w78 ((1:Int)+((1:Int)+Qc).tmod n)) (w78 ((1:Int)+Qc))) fun z1o=>Lp5 (fun Qc Z0 z63 j4m y60 y8t=>Qb list y60 (4:Int) fun Qg Zj=>Cnd (j4m<Qg) (Cnd ((1:Int)<n) (InI (Z0+1)/\Jt list Zj (5000:Int) fun Qi Hz=>InI (Z0+1+Qi)/\Qb list Hz n fun Qe J5=>InI ((1:Int)+Qe)/\Jn1 (fun Ql=>Cnd ((10000:Int)<=Z0+1+Qi) (z1o Qc Z0 z63 J5) (Sml (Qc++[Rng.mk Z0 (Z0+1+Qi) Ql]).length/\InI (j4m+1)/\y8t (Qc++[Rng.mk Z0 (Z0+1+Qi) Ql]) (Z0+1+Qi) Ql (j4m+1) J5)) fun y6h=>Cnd ((1:Int)+Qe=z63) (n≠(0:Int)/\InI ((1:Int)+((1:Int)+Qe).tmod n)/\y6h ((1:Int)+((1:Int)+Qe).tmod n)) (y6h ((1:Int)+Qe))) (z1o Qc Z0 z63 Zj)) (z1o Qc Z0 z63 Zj)) [] (0:Int) (0:Int) (0:Int) at_
def q7p:q7o:=j7u Zb q1u
abbrev z4g:Type:=List (Int)->Int->Int->(Srv->Int->Prop)->Prop
def j7v(Qb:Zf)(Wo:q1r)(q3d:q7o)(Q3:W9):z4g:=fun list at_ n K=>Qb list at_ (2:Int) fun Qa Qv=>Cnd (Qa=0) (Qb list Qv n fun Qc Z0=>InI ((1:Int)+Qc)/\K (Srv.mk ((1:Int)+Qc) (ByteArray.mk (Array.mk [])) (ByteArray.mk (Array.mk [])) (ByteArray.mk (Array.mk [])) []) Z0) (Wo list Qv fun Qc Z0=>q3d list Z0 n fun Qg Zj=>Q3 fun Qi=>Qb list Zj (12:Int) fun Qe J5=>Fits Qi->CAt Qi Qe (fun y6=>Cnd (y6.3=5) (K (Srv.mk (0:Int) (ByteArray.mk (Array.mk [117,115,101,114])) (ByteArray.mk (Array.mk [107,101,121])) Qc Qg) J5) (At Qi Qe fun y8=>At Qi Qe fun y10=>K (Srv.mk (0:Int) y8.1 y10.2 Qc Qg) J5)) (K (Srv.mk (0:Int) (ByteArray.mk (Array.mk [117,115,101,114])) (ByteArray.mk (Array.mk [107,101,121])) Qc Qg) J5))
def z4h:z4g:=j7v Zb q1s q7p J3
abbrev j0g:Type:=(List (Nd)->(Nd->Option (Int))->Bool->Prop)->Prop
def j7w:j0g:=fun K=>K [] (fun _=>none) false
abbrev Vg:Type:=Int->(Bool->Prop)->Prop
def Jm:Vg:=fun op K=>Cnd ((6:Int)<=op) (K (decide (op<=15))) (K false)
abbrev j0h:Type:=List (ByteArray)->List (ByteArray)->(Bool->Prop)->Prop
def z4i:j0h:=fun a b K=>Fits a->Fits b->Cnd ((↑a.length:Int)=(↑b.length:Int)) (Lp1 (fun Qg j4n=>Fits a->CAt a Qg (fun y4=>At b Qg fun y6=>Cnd (y4=y6) (InI (Qg+1)/\j4n (Qg+1)) (K false)) (K true)) (0:Int)) (K false)
abbrev q69:Type:=Val->Val->(Bool->Prop)->Prop
def j2w(j11:j0h):q69:=fun a b K=>Cnd (a.1=b.1) (Cnd (a.2=b.2) (Cnd (a.3=b.3) (j11 a.4 b.4 fun Qa=>K Qa) (K false)) (K false)) (K false)
def q3s:q69:=j2w z4i
abbrev H2:Type:=List (Val)->List (Val)->(Bool->Prop)->Prop
def q7q(q1j:q69):H2:=fun a b K=>Fits a->Fits b->Cnd ((↑a.length:Int)=(↑b.length:Int)) (Lp1 (fun Qg j4n=>Fits a->CAt a Qg (fun y4=>At b Qg fun y6=>q1j y4 y6 fun J7=>Cnd (J7=true) (InI (Qg+1)/\j4n (Qg+1)) (K false)) (K true)) (0:Int)) (K false)
def Uv:H2:=q7q q3s
abbrev Vy:Type:=Ex->Ex->(Bool->Prop)->Prop
def z10(q3e:H2)(X:Vy):Vy:=fun a b K=>Cnd (a.1=b.1) (Cnd (a.2=b.2) (Cnd (a.3=b.3) (q3e a.4 b.4 fun Qa=>Cnd (Qa=true) (Fits a.5->Fits b.5->Cnd ((↑a.5.length:Int)=(↑b.5.length:Int)) (Lp1 (fun Qi z9z=>Fits a.5->CAt a.5 Qi (fun y5=>At b.5 Qi fun y7=>X (Ex.mk y5.1 y5.2 y5.3 y5.4 y5.5) (Ex.mk y7.1 y7.2 y7.3 y7.4 y7.5) fun Qs=>Cnd (Qs=true) (InI (Qi+1)/\z9z (Qi+1)) (K false)) (K true)) (0:Int)) (K false)) (K false)) (K false)) (K false)) (K false)
def R1:Vy:=fun a b K=> ∀X:Vy,(∀a b K,z10 Uv X a b K->X a b K)->X a b K
abbrev q0k:Type:=List (Ex)->Ex->(Int->Prop)->Prop
def z8k(q6t:Vy):q0k:=fun l e K=>Lp1 (fun Qa q4j=>Fits l->CAt l Qa (fun y2=>q6t (Ex.mk y2.1 y2.2 y2.3 y2.4 y2.5) (Ex.mk e.1 e.2 e.3 e.4 e.5) fun Qe=>Cnd (Qe=true) (K Qa) (InI (Qa+1)/\q4j (Qa+1))) (K (-1:Int))) (0:Int)
def Ul:q0k:=z8k R1
abbrev Va:Type:=List (Ex)->Ex->(List (Ex)->Prop)->Prop
def q97(Uo:q0k)(Q2:Vg)(X:Va):Va:=fun l e K=>Jn1 (fun Qa=>Lp2 (fun Qc Z0 z34=>Fits e.5->CAt e.5 Z0 (fun y3=>X Qc (Ex.mk y3.1 y3.2 y3.3 y3.4 y3.5) fun Ql=>InI (Z0+1)/\z34 Ql (Z0+1)) (K Qc)) Qa (0:Int)) fun z1o=>Cnd (e.1=5) (Uo l (Ex.mk e.1 e.2 e.3 e.4 e.5) fun Qc=>Cnd (Qc<0) ((Sml ([]++l).length/\Sml ([]++l++[Ex.mk e.1 e.2 e.3 e.4 e.5]).length/\z1o ([]++l++[Ex.mk e.1 e.2 e.3 e.4 e.5]))/\Sml ([]++l).length/\Sml ([]++l++[Ex.mk e.1 e.2 e.3 e.4 e.5]).length/\z1o ([]++l++[Ex.mk e.1 e.2 e.3 e.4 e.5])) (z1o l)) (Q2 e.1 fun Qc=>Cnd (Qc=true) (Uo l (Ex.mk e.1 e.2 e.3 e.4 e.5) fun Qg=>Cnd (Qg<0) ((Sml ([]++l).length/\Sml ([]++l++[Ex.mk e.1 e.2 e.3 e.4 e.5]).length/\z1o ([]++l++[Ex.mk e.1 e.2 e.3 e.4 e.5]))/\Sml ([]++l).length/\Sml ([]++l++[Ex.mk e.1 e.2 e.3 e.4 e.5]).length/\z1o ([]++l++[Ex.mk e.1 e.2 e.3 e.4 e.5])) (z1o l)) (z1o l))
def Bx:Va:=fun l e K=> ∀X:Va,(∀l e K,q97 Ul Jm X l e K->X l e K)->X l e K
abbrev H3:Type:=List (Rul)->(List (Ex)->Prop)->Prop
def q7r(q42:Va):H3:=fun l K=>Lp2 (fun Qa Qv q1k=>Fits l->CAt l Qv (fun y2=>q42 Qa (Ex.mk y2.2.1 y2.2.2 y2.2.3 y2.2.4 y2.2.5) fun Qe=>InI (Qv+1)/\q1k Qe (Qv+1)) (K Qa)) [] (0:Int)
def H4:H3:=q7r Bx
abbrev We:Type:=List (Nd)->(Nd->Option (Int))->Bool->Int->(Bool->List (Nd)->(Nd->Option (Int))->Bool->Prop)->Prop
def Jx:We:=fun ns ids full id K=>Cnd ((-1002:Int)<id) (Fits ns->K (decide (id<(↑ns.length:Int))) ns ids full) (K false ns ids full)
abbrev B9:Type:=List (Nd)->(Nd->Option (Int))->Bool->Int->((Int->Option (Bool))->List (Nd)->(Nd->Option (Int))->Bool->Prop)->Prop
def G4:B9:=fun ns ids full id K=>Lp2 (fun Qa q4j q1k=>Fits Qa->Cnd ((0:Int)<(↑Qa.length:Int)) (Fits Qa->InI ((↑Qa.length:Int) - 1)/\((0:Int)<=(↑Qa.length:Int) - 1/\(↑Qa.length:Int) - 1<(↑Qa.length:Int))/\ ∀y3,Qa[((↑Qa.length:Int) - 1).toNat]? =some y3->Fits Qa->InI ((↑Qa.length:Int) - 1)/\((0:Int)<=(↑Qa.length:Int) - 1/\(↑Qa.length:Int) - 1<=(↑Qa.length:Int))/\Cnd ((q4j y3).getD false=true) (q1k (List.take ((↑Qa.length:Int) - 1).toNat Qa) q4j) (Cnd ((0:Int)<=y3) (At ns y3 fun y6=>At ns y3 fun y8=>Sml (List.take ((↑Qa.length:Int) - 1).toNat Qa++[y6.2.1,y8.2.2]).length/\q1k (List.take ((↑Qa.length:Int) - 1).toNat Qa++[y6.2.1,y8.2.2]) (put q4j y3 true)) (q1k (List.take ((↑Qa.length:Int) - 1).toNat Qa) (put q4j y3 true)))) (K q4j ns ids full)) [id] fun _=>none
abbrev Uw:Type:=List (Nd)->(Nd->Option (Int))->Bool->Int->(List (Int)->List (Nd)->(Nd->Option (Int))->Bool->Prop)->Prop
def z0s(Qx:We)(q0e:B9):Uw:=fun ns ids full id K=>Qx ns ids full id fun Qa (Qv:List (Int×Int×Int)) q1k q7e=>Cnd (Qa=true) (q0e Qv q1k q7e id fun w2q (Z0:List (Int×Int×Int)) z34 j4m=>Lp2 (fun Qg Zj q5w=>Cnd (Zj<=1000) (InI ((-1:Int) - Zj)/\Cnd ((w2q ((-1:Int) - Zj)).getD false=true) (Sml (Qg++[Zj]).length/\InI (Zj+1)/\q5w (Qg++[Zj]) (Zj+1)) (InI (Zj+1)/\q5w Qg (Zj+1))) (K Qg Z0 z34 j4m)) [] (0:Int)) (K [] Qv q1k q7e)
def Ux:Uw:=z0s Jx G4
abbrev Zl:Type:=List (Nd)->(Nd->Option (Int))->Bool->Int->(Bool->List (Nd)->(Nd->Option (Int))->Bool->Prop)->Prop
def q6d(Qx:We)(Be:Uw):Zl:=fun ns ids full id K=>Qx ns ids full id fun Qa (Qv:List (Int×Int×Int)) q1k q7e=>Cnd (Qa=true) (Be Qv q1k q7e id fun Qc (Z0:List (Int×Int×Int)) z34 j4m=>Lp1 (fun Qg j4n=>Fits Qc->CAt Qc Qg (fun y4=>Cnd ((1:Int)<y4) (K false Z0 z34 j4m) (InI (Qg+1)/\j4n (Qg+1))) (K true Z0 z34 j4m)) (0:Int)) (K false Qv q1k q7e)
def Zm:Zl:=q6d Jx Ux
abbrev Vb:Type:=List (Nd)->(Nd->Option (Int))->Bool->Int->(Int->List (Nd)->(Nd->Option (Int))->Bool->Prop)->Prop
def Jd:Vb:=fun ns ids full id K=>Cnd (id<0) (K (1001:Int) ns ids full) (At ns id fun y0=>K y0.1 ns ids full)
abbrev G5:Type:=List (Nd)->(Nd->Option (Int))->Bool->Int->Int->(Int->Int->List (Nd)->(Nd->Option (Int))->Bool->Prop)->Prop
def z3q(Q8:Vb):G5:=fun ns ids full id test K=>Q8 ns ids full id fun Qa (Qv:List (Int×Int×Int)) q1k q7e=>Cnd (Qa=test) (At Qv id fun y1=>At Qv id fun y3=>K y1.2.1 y3.2.2 Qv q1k q7e) (K id id Qv q1k q7e)
def Wr:G5:=z3q Jd
abbrev Vh:Type:=List (Nd)->(Nd->Option (Int))->Bool->Int->Int->Int->(Int->List (Nd)->(Nd->Option (Int))->Bool->Prop)->Prop
def z4j(Qx:We)(Q8:Vb):Vh:=fun ns ids full test yes no K=>Cnd (test<0) (K (-1002:Int) ns ids full) (Cnd ((1000:Int)<test) (K (-1002:Int) ns ids full) (Qx ns ids full yes fun Qa (Qv:List (Int×Int×Int)) q1k q7e=>Cnd (Qa=true) (Qx Qv q1k q7e no fun Qc (Z0:List (Int×Int×Int)) z34 j4m=>Cnd (Qc=true) (Q8 Z0 z34 j4m yes fun Qg (Zj:List (Int×Int×Int)) q5w w0b=>Cnd (Qg<=test) (K (-1002:Int) Zj q5w w0b) (Q8 Zj q5w w0b no fun Qi (Hz:List (Int×Int×Int)) w1c v9m=>Cnd (Qi<=test) (K (-1002:Int) Hz w1c v9m) (Cnd (yes=no) (K yes Hz w1c v9m) (Cnd ((w1c (test,yes,no)).isSome=true) (K ((w1c (test,yes,no)).getD (0:Int)) Hz w1c v9m) (Fits Hz->Cnd ((4000:Int)<=(↑Hz.length:Int)) (K (-1002:Int) Hz w1c true) (Fits Hz->Sml (Hz++[(test,yes,no)]).length/\((Hz++[(test,yes,no)]).length<=(9223372036854775807:Nat)->InI ((↑(Hz++[(test,yes,no)]).length:Int) - 1)/\K ((↑(Hz++[(test,yes,no)]).length:Int) - 1) (Hz++[(test,yes,no)]) (put w1c (test,yes,no) (↑Hz.length:Int)) v9m))))))) (K (-1002:Int) Z0 z34 j4m)) (K (-1002:Int) Qv q1k q7e)))
def Je:Vh:=z4j Jx Jd
abbrev Jp:Type:=List (Nd)->(Nd->Option (Int))->Bool->Int->Int->Int->(A3->Option (Int))->(Int->List (Nd)->(Nd->Option (Int))->Bool->(A3->Option (Int))->Prop)->Prop
def Uy(Q8:Vb)(Vu:G5)(J1:Vh)(X:Jp):Jp:=fun ns ids full f g h known K=>Cnd (f=(-2:Int)) (K g ns ids full known) (Cnd (g=h) (K g ns ids full known) (Cnd (f=(-1:Int)) (K h ns ids full known) (Cnd ((known (f,g,h)).isSome=true) (K ((known (f,g,h)).getD (0:Int)) ns ids full known) (Q8 ns ids full f fun Qa (Qv:List (Int×Int×Int)) q1k q7e=>Q8 Qv q1k q7e g fun Qc (Z0:List (Int×Int×Int)) z34 j4m=>Q8 Z0 z34 j4m h fun Qg (Zj:List (Int×Int×Int)) q5w w0b=>Vu Zj q5w w0b f (Min.min (Min.min Qa Qc) Qg) fun Qi Hz (u01:List (Int×Int×Int)) u02 u03=>Vu u01 u02 u03 g (Min.min (Min.min Qa Qc) Qg) fun Qe J5 (j12:List (Int×Int×Int)) y61 u0e=>Vu j12 y61 u0e h (Min.min (Min.min Qa Qc) Qg) fun Ql q7f (u0f:List (Int×Int×Int)) u04 u05=>X u0f u04 u05 Qi Qe Ql known fun Q4 (z32:List (Int×Int×Int)) y6i y6j u06=>X z32 y6i y6j Hz J5 q7f u06 fun Ju (z33:List (Int×Int×Int)) y62 y63 u07=>Jn4 (fun J7 (w5j:List (Int×Int×Int)) u08 u09=>K J7 w5j u09 u08 (put u07 (f,g,h) J7)) fun y2j=>Cnd (Q4=(-1002:Int)) (y2j (-1002:Int) z33 y63 y62) (Cnd (Ju=(-1002:Int)) (y2j (-1002:Int) z33 y63 y62) (J1 z33 y62 y63 (Min.min (Min.min Qa Qc) Qg) Q4 Ju fun Qs (z9y:List (Int×Int×Int)) y8u y8v=>y2j Qs z9y y8v y8u))))))
def Uz:Jp:=fun ns ids full f g h known K=> ∀X:Jp,(∀ns ids full f g h known K,Uy Jd Wr Je X ns ids full f g h known K->X ns ids full f g h known K)->X ns ids full f g h known K
abbrev Z2:Type:=List (Nd)->(Nd->Option (Int))->Bool->Int->Int->Int->(Int->List (Nd)->(Nd->Option (Int))->Bool->Prop)->Prop
def z0t(Qp:Zl)(Qx:We)(Bf:Jp):Z2:=fun ns ids full f g h K=>Qp ns ids full f fun Qa (Qv:List (Int×Int×Int)) q1k q7e=>Cnd (Qa=true) (Qx Qv q1k q7e g fun Qc (Z0:List (Int×Int×Int)) z34 j4m=>Cnd (Qc=true) (Qx Z0 z34 j4m h fun Qg (Zj:List (Int×Int×Int)) q5w w0b=>Cnd (Qg=true) (Bf Zj q5w w0b f g h (fun _=>none) fun Qi (Hz:List (Int×Int×Int)) w1c v9m _=>K Qi Hz w1c v9m) (K (-1002:Int) Zj q5w w0b)) (K (-1002:Int) Z0 z34 j4m)) (K (-1002:Int) Qv q1k q7e)
def Z3:Z2:=z0t Zm Jx Uz
abbrev By:Type:=List (Nd)->(Nd->Option (Int))->Bool->Int->(Int->List (Nd)->(Nd->Option (Int))->Bool->Prop)->Prop
def z7p(Q0:Z2):By:=fun ns ids full f K=>Q0 ns ids full f (-1:Int) (-2:Int) fun Qa (Qv:List (Int×Int×Int)) q1k q7e=>K Qa Qv q1k q7e
def Hk:By:=z7p Z3
abbrev Bz:Type:=List (Nd)->(Nd->Option (Int))->Bool->Int->Int->(Int->List (Nd)->(Nd->Option (Int))->Bool->Prop)->Prop
def z7q(Qp:Zl)(Q0:Z2):Bz:=fun ns ids full f g K=>Qp ns ids full g fun Qa (Qv:List (Int×Int×Int)) q1k q7e=>Cnd (Qa=true) (Q0 Qv q1k q7e f g (-1:Int) fun Qc (Z0:List (Int×Int×Int)) z34 j4m=>K Qc Z0 z34 j4m) (K (-1002:Int) Qv q1k q7e)
def Hl:Bz:=z7q Zm Z3
abbrev Gh:Type:=List (Nd)->(Nd->Option (Int))->Bool->Int->Int->(Int->List (Nd)->(Nd->Option (Int))->Bool->Prop)->Prop
def j0i(Qp:Zl)(Q0:Z2):Gh:=fun ns ids full f g K=>Qp ns ids full g fun Qa (Qv:List (Int×Int×Int)) q1k q7e=>Cnd (Qa=true) (Q0 Qv q1k q7e f (-2:Int) g fun Qc (Z0:List (Int×Int×Int)) z34 j4m=>K Qc Z0 z34 j4m) (K (-1002:Int) Qv q1k q7e)
def Vz:Gh:=j0i Zm Z3
abbrev Wk:Type:=List (Nd)->(Nd->Option (Int))->Bool->List (Ex)->Ex->(Int->List (Nd)->(Nd->Option (Int))->Bool->Prop)->Prop
def q7s(q43:By)(q44:Bz)(W5:Gh)(Uo:q0k)(J1:Vh)(X:Wk):Wk:=fun ns ids full atoms e K=>Cnd (e.1=1) (K (-2:Int) ns ids full) (Cnd (e.1=4) (((0:Int)<=(0:Int)/\(0:Int)<(↑e.5.length:Int))/\ ∀y0,e.5[Int.toNat (0:Int)]? =some y0->X ns ids full atoms (Ex.mk y0.1 y0.2 y0.3 y0.4 y0.5) fun Qg (Zj:List (Int×Int×Int)) q5w w0b=>q43 Zj q5w w0b Qg fun Qi (Hz:List (Int×Int×Int)) w1c v9m=>K Qi Hz w1c v9m) (Jn1 (fun Qa=>Cnd (Qa=true) (((0:Int)<=(0:Int)/\(0:Int)<(↑e.5.length:Int))/\ ∀y1,e.5[Int.toNat (0:Int)]? =some y1->X ns ids full atoms (Ex.mk y1.1 y1.2 y1.3 y1.4 y1.5) fun Qi (Hz:List (Int×Int×Int)) w1c v9m=>Lp5 (fun Qe J5 (j12:List (Int×Int×Int)) v9n y9f y9g=>Fits e.5->CAt e.5 J5 (fun y6=>X j12 y9f v9n atoms (Ex.mk y6.1 y6.2 y6.3 y6.4 y6.5) fun J7 (w5j:List (Int×Int×Int)) y8w u00=>Cnd (e.1=2) (q44 w5j y8w u00 Qe J7 fun Qs (z9y:List (Int×Int×Int)) y8u y8v=>InI (J5+1)/\y9g Qs (J5+1) z9y y8v y8u) (W5 w5j y8w u00 Qe J7 fun Qs (z9y:List (Int×Int×Int)) y8u y8v=>InI (J5+1)/\y9g Qs (J5+1) z9y y8v y8u)) (K Qe j12 y9f v9n)) Qi (1:Int) Hz v9m w1c) (Uo atoms (Ex.mk e.1 e.2 e.3 e.4 e.5) fun Qc=>Cnd (Qc<0) (K (-1002:Int) ns ids full) (J1 ns ids full Qc (-2:Int) (-1:Int) fun Qg (Zj:List (Int×Int×Int)) q5w w0b=>K Qg Zj q5w w0b))) fun z1o=>Cnd (e.1=2) (z1o (decide (e.1=2))) (z1o (decide (e.1=3)))))
def H5:Wk:=fun ns ids full atoms e K=> ∀X:Wk,(∀ns ids full atoms e K,q7s Hk Hl Vz Ul Je X ns ids full atoms e K->X ns ids full atoms e K)->X ns ids full atoms e K
abbrev J9:Type:=List (Rul)->(List (Int)->Int->Bool->Prop)->Prop
def q3t(j13:j0g)(q3f:H3)(q3g:Wk)(W5:Gh):J9:=fun l K=>j13 fun (Qa:List (Int×Int×Int)) q4j j4l=>q3f l fun Qc=>LpH (fun Qg j4n=>Fits l->CAt l Qg.2.2.1 (fun y4=>q3g Qg.2.2.2.1 Qg.2.2.2.2.2.1 Qg.2.2.2.2.1 Qc (Ex.mk y4.2.1 y4.2.2 y4.2.3 y4.2.4 y4.2.5) fun Q4 (z32:List (Int×Int×Int)) y6i y6j=>W5 z32 y6i y6j Qg.1 Q4 fun Ju (z33:List (Int×Int×Int)) y62 y63=>Cnd (Ju=(-1002:Int)) (Fits z33->K [] (↑z33.length:Int) false) (Cnd (Ju=Qg.1) (InI (Qg.2.2.1+1)/\Sml (Qg.2.1++[Qg.2.2.1+1]).length/\InI (Qg.2.2.1+1)/\j4n (Ju,Qg.2.1++[Qg.2.2.1+1],Qg.2.2.1+1,z33,y63,y62,())) (InI (Qg.2.2.1+1)/\j4n (Ju,Qg.2.1,Qg.2.2.1+1,z33,y63,y62,())))) (Fits Qg.2.2.2.1->K Qg.2.1 (↑Qg.2.2.2.1.length:Int) true)) ((-1:Int),[],(0:Int),Qa,j4l,q4j,())
def Wa:J9:=q3t j7w H4 H5 Vz
abbrev z4k:Type:=List (Int)->Int->ByteArray->(Lay_->Int->Prop)->Prop
def j7x(Wo:q1r)(Qb:Zf)(Jt:q1t):z4k:=fun list at_ key K=>Wo list at_ fun Qa Qv=>Qb list Qv (3:Int) fun Qc Z0=>InI (Qc*50)/\Jn2 (fun Qg Zj=>Jn2 (fun Qi Hz=>Lp4 (fun Qe J5 j12 v9n y9f=>Qb list v9n (3:Int) fun Ql q7f=>Cnd (J5<Ql) (Jt list q7f (3000:Int) fun Q4 z32=>InI (Qe+Q4)/\InI (Qe+Q4+1)/\Jt list z32 (2000:Int) fun Ju z33=>InI (Qe+Q4+1+Ju)/\Cnd ((10000:Int)<Qe+Q4+1+Ju) (K (Lay_.mk key Qg Qa Qi (Qc*50) j12) z33) (Qb list z33 (200:Int) fun J7 w5j=>Sml (j12++[Col.mk (Qe+Q4) (Qe+Q4+1+Ju) J7]).length/\InI (J5+1)/\y9f (Qe+Q4+1+Ju) (J5+1) (j12++[Col.mk (Qe+Q4) (Qe+Q4+1+Ju) J7]) w5j)) (K (Lay_.mk key Qg Qa Qi (Qc*50) j12) q7f)) (0:Int) (0:Int) [] Hz) fun v9h=>Qb list Zj (2:Int) fun Qe J5=>Cnd (Qe=1) (Jt list J5 (3000:Int) fun Ql q7f=>v9h Ql q7f) (v9h (0:Int) J5)) fun w78=>Qb list Z0 (4:Int) fun Qi Hz=>Cnd (Qi=1) (w78 (ByteArray.mk (Array.mk [100,101,118,105,99,101])) Hz) (w78 (ByteArray.mk (Array.mk [117,115,101,114])) Hz)
def z4l:z4k:=j7x q1s Zb q1u
abbrev q7a:Type:=Int->(Bool->Prop)->Prop
def q09:q7a:=fun now K=>Cnd ((0:Int)<=now) (K (decide (now<=1099511627776))) (K false)
abbrev Jh:Type:=Envt->ByteArray->(Int->Prop)->Prop
def Zr:Jh:=fun v key K=>Lp1 (fun Qa q4j=>Fits v.5->CAt v.5 Qa (fun y2=>Cnd (y2.1=key) (K Qa) (InI (Qa+1)/\q4j (Qa+1))) (K (-1:Int))) (0:Int)
abbrev U0:Type:=List (Col)->Int->(List (Int)->Prop)->Prop
def Vi:U0:=fun l now K=>((0:Int)<=(10000:Int)/\(10000:Int)<=(10000:Int)/\Sml (Int.toNat (10000:Int)))/\Lp2 (fun Qa Qv q1k=>Fits Qv->CAt Qv Qa (fun _=>InI (Qa+1)/\q1k (Qa+1) (Qv.set Qa.toNat now)) (Lp2 (fun Qg Zj q5w=>Fits l->CAt l Qg (fun y4=>Lp2 (fun Q4 z32 y6i=>At l Qg fun y7=>Cnd (Q4<Min.min y7.2 (10000:Int)) (At z32 Q4 fun y9=>At l Qg fun y11=>At z32 Q4 fun _=>InI (Q4+1)/\y6i (Q4+1) (z32.set Q4.toNat (Max.max y9 y11.3))) (InI (Qg+1)/\q5w (Qg+1) z32)) (Max.max y4.1 (0:Int)) Zj) (K Zj)) (0:Int) Qv)) (0:Int) (List.replicate (Int.toNat (10000:Int)) (0:Int))
abbrev Ws:Type:=List (Bool)->(List (Spn)->Prop)->Prop
def Jn:Ws:=fun set_ K=>Lp2 (fun Qa Qv q1k=>Fits set_->CAt set_ Qv (fun y2=>Cnd (y2=true) (Cnd ((0:Int)<Qv) (InI (Qv - 1)/\((0:Int)<=Qv - 1/\Qv - 1<(↑set_.length:Int))/\ ∀y4,set_[(Qv - 1).toNat]? =some y4->Cnd (y4=true) (Fits Qa->InI ((↑Qa.length:Int) - 1)/\InI (Qv+1)/\((0:Int)<=(↑Qa.length:Int) - 1/\(↑Qa.length:Int) - 1<(↑Qa.length:Int))/\ ∀y7,Qa[((↑Qa.length:Int) - 1).toNat]? =some y7->InI (Qv+1)/\q1k (Qa.set ((↑Qa.length:Int) - 1).toNat (Spn.mk y7.1 (Qv+1))) (Qv+1)) (InI (Qv+1)/\Sml (Qa++[Spn.mk Qv (Qv+1)]).length/\InI (Qv+1)/\q1k (Qa++[Spn.mk Qv (Qv+1)]) (Qv+1))) (InI (Qv+1)/\Sml (Qa++[Spn.mk Qv (Qv+1)]).length/\InI (Qv+1)/\q1k (Qa++[Spn.mk Qv (Qv+1)]) (Qv+1))) (InI (Qv+1)/\q1k Qa (Qv+1))) (K Qa)) [] (0:Int)
abbrev q7t:Type:=List (Int)->Int->(List (Spn)->Prop)->Prop
def z8l(Q6:Ws):q7t:=fun until_ now K=>Fits until_->((0:Int)<=(↑until_.length:Int)/\(↑until_.length:Int)<=(↑until_.length:Int)/\Sml (↑until_.length:Int).toNat)/\Lp2 (fun Qc Z0 z34=>Fits until_->CAt until_ Qc (fun y3=>At Z0 Qc fun _=>InI (Qc+1)/\z34 (Qc+1) (Z0.set Qc.toNat (decide (now<y3)))) (Q6 Z0 fun Qi=>K Qi)) (0:Int) (List.replicate (↑until_.length:Int).toNat false)
def q7u:q7t:=z8l Jn
abbrev V0:Type:=List (Spn)->(List (Bool)->Prop)->Prop
def Wl:V0:=fun l K=>((0:Int)<=(10000:Int)/\(10000:Int)<=(10000:Int)/\Sml (Int.toNat (10000:Int)))/\Lp2 (fun Qa Qv q1k=>Fits l->CAt l Qa (fun y2=>Lp2 (fun Qe J5 w79=>At l Qa fun y5=>Cnd (Qe<Min.min y5.2 (10000:Int)) (At J5 Qe fun _=>InI (Qe+1)/\w79 (Qe+1) (J5.set Qe.toNat true)) (InI (Qa+1)/\q1k (Qa+1) J5)) (Max.max y2.1 (0:Int)) Qv) (K Qv)) (0:Int) (List.replicate (Int.toNat (10000:Int)) false)
abbrev q0l:Type:=List (Spn)->List (Spn)->(List (Spn)->Prop)->Prop
def z11(Q9:V0)(Q6:Ws):q0l:=fun a b K=>Q9 a fun Qa=>Q9 b fun Qc=>Lp2 (fun Qg Zj q5w=>Fits Zj->CAt Zj Qg (fun y4=>Cnd (y4=true) (At Zj Qg fun _=>InI (Qg+1)/\q5w (Qg+1) (Zj.set Qg.toNat true)) (At Qc Qg fun y6=>At Zj Qg fun _=>InI (Qg+1)/\q5w (Qg+1) (Zj.set Qg.toNat y6))) (Q6 Zj fun Qe=>K Qe)) (0:Int) Qa
def Gi:q0l:=z11 Wl Jn
abbrev q0m:Type:=Envt->ByteArray->ByteArray->Int->(List (Spn)->Prop)->Prop
def z8m(Qq:Jh)(Wv:q0l)(Jg:U0)(q4k:q7t):q0m:=fun v layer but now K=>Qq (Envt.mk (Sett.mk v.1.1 v.1.2 v.1.3) v.2 v.3 v.4 v.5 v.6) layer fun Qa=>Cnd (Qa<0) (K []) (Jn1 (fun Qc=>Lp2 (fun Qg Zj q5w=>Fits v.6->CAt v.6 Zj (fun y4=>Cnd (y4.2=layer) (Cnd (y4.1=but) (InI (Zj+1)/\q5w Qg (Zj+1)) (Cnd (y4.5=3) (InI (Zj+1)/\q5w Qg (Zj+1)) (Wv Qg y4.6 fun Q4=>InI (Zj+1)/\q5w Q4 (Zj+1)))) (InI (Zj+1)/\q5w Qg (Zj+1))) (K Qg)) Qc (0:Int)) fun w2q=>At v.5 Qa fun y2=>At v.5 Qa fun y4=>(Jg y4.6 now fun Q4=>q4k Q4 now fun Ju=>Wv [Spn.mk (0:Int) y2.4] Ju fun J7=>w2q J7)/\Jg y4.6 now fun Q4=>(q4k Q4 now fun Ju=>Wv [Spn.mk (0:Int) y2.4] Ju fun J7=>w2q J7)/\q4k Q4 now fun Ju=>Wv [Spn.mk (0:Int) y2.4] Ju fun J7=>w2q J7)
def q0n:q0m:=z8m Zr Gi Vi q7u
abbrev q0o:Type:=List (Spn)->List (Spn)->(List (Spn)->Prop)->Prop
def z8n(Q9:V0)(Q6:Ws):q0o:=fun a b K=>Q9 a fun Qa=>Q9 b fun Qc=>Lp2 (fun Qg Zj q5w=>Fits Zj->CAt Zj Qg (fun y4=>Cnd (y4=true) (At Qc Qg fun y6=>At Zj Qg fun _=>InI (Qg+1)/\q5w (Qg+1) (Zj.set Qg.toNat (match decide (y6=true) with|true=>false|false=>true))) (At Zj Qg fun _=>InI (Qg+1)/\q5w (Qg+1) (Zj.set Qg.toNat false))) (Q6 Zj fun Qe=>K Qe)) (0:Int) Qa
def q0p:q0o:=z8n Wl Jn
abbrev q3u:Type:=Envt->ByteArray->Int->(List (Spn)->Int->Prop)->Prop
def j2x(Bg:q7a)(Qq:Jh)(Gw:q0m)(Gx:q0o):q3u:=fun v layer now K=>Bg now fun Qa=>Cnd (Qa=true) (Qq (Envt.mk (Sett.mk v.1.1 v.1.2 v.1.3) v.2 v.3 v.4 v.5 v.6) layer fun Qc=>Cnd (Qc<0) (K [] (11:Int)) (Gw (Envt.mk (Sett.mk v.1.1 v.1.2 v.1.3) v.2 v.3 v.4 v.5 v.6) layer (ByteArray.mk (Array.mk [])) now fun Qg=>Gx [Spn.mk (0:Int) (10000:Int)] Qg fun Qi=>K Qi (0:Int))) (K [] (3:Int))
def q3v:q3u:=j2x q09 Zr q0n q0p
abbrev q0q:Type:=List (Spn)->Int->(List (Spn)->Prop)->Prop
def z8o(Q9:V0)(Q6:Ws):q0q:=fun l n K=>Q9 l fun Qa=>Lp3 (fun Qc Z0 z63 y2i=>Fits z63->CAt z63 Z0 (fun y3=>Cnd (y3=true) (Cnd (Qc<=0) (At z63 Z0 fun _=>InI (Z0+1)/\y2i Qc (Z0+1) (z63.set Z0.toNat false)) (At z63 Z0 fun y5=>Cnd (y5=true) (InI (Qc - 1)/\InI (Z0+1)/\y2i (Qc - 1) (Z0+1) z63) (InI (Z0+1)/\y2i Qc (Z0+1) z63))) (At z63 Z0 fun y5=>Cnd (y5=true) (InI (Qc - 1)/\InI (Z0+1)/\y2i (Qc - 1) (Z0+1) z63) (InI (Z0+1)/\y2i Qc (Z0+1) z63))) (Q6 z63 fun Qi=>K Qi)) n (0:Int) Qa
def q0r:q0q:=z8o Wl Jn
abbrev V1:Type:=ByteArray->(Bool->Prop)->Prop
def Jy(s:ByteArray)(K:Bool->Prop):Prop:=s.size<=(9223372036854775807:Nat)/\K (Go.Lib.validD s.data.toList)
abbrev Jq:Type:=ByteArray->(Bool->Prop)->Prop
def z6o(Zv:V1):Jq:=fun s K=>Cnd ((200:Int)<(↑s.size:Int)) (K false) (Zv s fun Qa=>Cnd (Qa=true) (Lp1 (fun Qc q1l=>Cnd (Qc<(↑s.size:Int)) (((0:Int)<=Qc/\Qc<(↑s.size:Int))/\ ∀b2,s[Qc.toNat]? =some b2->Cnd ((↑b2.toNat:Int)<32) (K false) (((0:Int)<=Qc/\Qc<(↑s.size:Int))/\ ∀b4,s[Qc.toNat]? =some b4->Cnd ((↑b4.toNat:Int)=127) (K false) (InI (Qc+1)/\q1l (Qc+1)))) (K true)) (0:Int)) (K false))
def Z4:Jq:=z6o Jy
abbrev j0j:Type:=ByteArray->(Bool->Prop)->Prop
def z4m:j0j:=fun s K=>Lp1 (fun Qa q4j=>Cnd (Qa<(↑s.size:Int)) (((0:Int)<=Qa/\Qa<(↑s.size:Int))/\ ∀b1,s[Qa.toNat]? =some b1->Cnd ((97:Int)<=(↑b1.toNat:Int)) (Cnd ((↑b1.toNat:Int)<=122) (InI (Qa+1)/\q4j (Qa+1)) (Cnd (Qa=0) (K false) (Cnd ((48:Int)<=(↑b1.toNat:Int)) (Cnd ((↑b1.toNat:Int)<=57) (InI (Qa+1)/\q4j (Qa+1)) (Cnd ((↑b1.toNat:Int)=45) (InI (Qa+1)/\q4j (Qa+1)) (Cnd ((↑b1.toNat:Int)=95) (InI (Qa+1)/\q4j (Qa+1)) (K false)))) (Cnd ((↑b1.toNat:Int)=45) (InI (Qa+1)/\q4j (Qa+1)) (Cnd ((↑b1.toNat:Int)=95) (InI (Qa+1)/\q4j (Qa+1)) (K false)))))) (Cnd (Qa=0) (K false) (Cnd ((48:Int)<=(↑b1.toNat:Int)) (Cnd ((↑b1.toNat:Int)<=57) (InI (Qa+1)/\q4j (Qa+1)) (Cnd ((↑b1.toNat:Int)=45) (InI (Qa+1)/\q4j (Qa+1)) (Cnd ((↑b1.toNat:Int)=95) (InI (Qa+1)/\q4j (Qa+1)) (K false)))) (Cnd ((↑b1.toNat:Int)=45) (InI (Qa+1)/\q4j (Qa+1)) (Cnd ((↑b1.toNat:Int)=95) (InI (Qa+1)/\q4j (Qa+1)) (K false)))))) (K (decide ((0:Int)<(↑s.size:Int))))) (0:Int)
abbrev q6i:Type:=(List (ByteArray)->Prop)->Prop
def q1x:q6i:=fun K=>K [ByteArray.mk (Array.mk [97,110,100]),ByteArray.mk (Array.mk [97,114,109,115]),ByteArray.mk (Array.mk [97,116,116,114,105,98,117,116,101]),ByteArray.mk (Array.mk [98,111,111,108]),ByteArray.mk (Array.mk [99,108,97,105,109,115]),ByteArray.mk (Array.mk [99,111,110,116,97,105,110,115]),ByteArray.mk (Array.mk [99,111,111,108]),ByteArray.mk (Array.mk [99,111,111,108,105,110,103]),ByteArray.mk (Array.mk [100,101,102,97,117,108,116]),ByteArray.mk (Array.mk [100,114,97,102,116]),ByteArray.mk (Array.mk [101,110,100,115]),ByteArray.mk (Array.mk [101,120,99,108,117,100,101]),ByteArray.mk (Array.mk [101,120,105,115,116,115]),ByteArray.mk (Array.mk [101,120,112,101,114,105,109,101,110,116]),ByteArray.mk (Array.mk [102,97,108,115,101]),ByteArray.mk (Array.mk [102,108,97,103]),ByteArray.mk (Array.mk [104,111,108,100,111,117,116]),ByteArray.mk (Array.mk [105,110]),ByteArray.mk (Array.mk [105,110,99,108,117,100,101]),ByteArray.mk (Array.mk [105,115]),ByteArray.mk (Array.mk [108,97,121,101,114]),ByteArray.mk (Array.mk [108,105,115,116]),ByteArray.mk (Array.mk [109,101,109,98,101,114]),ByteArray.mk (Array.mk [110,101,101,100,115]),ByteArray.mk (Array.mk [110,111,116]),ByteArray.mk (Array.mk [110,117,109,98,101,114]),ByteArray.mk (Array.mk [111,102,102]),ByteArray.mk (Array.mk [111,110]),ByteArray.mk (Array.mk [111,114]),ByteArray.mk (Array.mk [114,117,108,101]),ByteArray.mk (Array.mk [114,117,110,110,105,110,103]),ByteArray.mk (Array.mk [115,97,108,116]),ByteArray.mk (Array.mk [115,101,103,109,101,110,116]),ByteArray.mk (Array.mk [115,101,114,118,101]),ByteArray.mk (Array.mk [115,101,116,116,105,110,103,115]),ByteArray.mk (Array.mk [115,112,108,105,116]),ByteArray.mk (Array.mk [115,116,97,114,116,115]),ByteArray.mk (Array.mk [115,116,111,112,112,101,100]),ByteArray.mk (Array.mk [116,97,114,103,101,116]),ByteArray.mk (Array.mk [116,101,120,116]),ByteArray.mk (Array.mk [116,111]),ByteArray.mk (Array.mk [116,114,117,101]),ByteArray.mk (Array.mk [117,110,116,105,108]),ByteArray.mk (Array.mk [118,97,114,105,97,116,105,111,110,115]),ByteArray.mk (Array.mk [118,101,114,115,105,111,110]),ByteArray.mk (Array.mk [119,104,101,110])]
abbrev Ji:Type:=ByteArray->(Bool->Prop)->Prop
def w3p(j14:j0j)(q6u:q6i):Ji:=fun s K=>j14 s fun Qa=>Cnd (Qa=true) (Cnd ((32:Int)<(↑s.size:Int)) (K false) (q6u fun Qc=>Lp1 (fun Qg j4n=>Fits Qc->CAt Qc Qg (fun y4=>Cnd (y4=s) (K false) (InI (Qg+1)/\j4n (Qg+1))) (K true)) (0:Int))) (K false)
def Jj:Ji:=w3p z4m q1x
abbrev q1y:Type:=Sett->(Int->Prop)->Prop
def z13(Qt:Jq)(Qm:Ji):q1y:=fun s K=>Qt s.1 fun Qa=>Cnd (Qa=true) (Cnd (s.3<0) (K (3:Int)) (Cnd ((10000:Int)<s.3) (K (3:Int)) (Qm s.2 fun Qc=>Cnd (Qc=true) (K (0:Int)) (Cnd (s.2=ByteArray.mk (Array.mk [])) (Cnd (s.3=0) (K (0:Int)) (K (6:Int))) (K (6:Int)))))) (K (2:Int))
def q1z:q1y:=z13 Z4 Jj
abbrev q10:Type:=List (Decl)->(Int->Prop)->Prop
def z14(Qm:Ji):q10:=fun l K=>Fits l->Cnd ((30:Int)<(↑l.length:Int)) (K (5:Int)) (Lp1 (fun Qc q1l=>Fits l->CAt l Qc (fun y3=>Qm y3.1 fun Ql=>Cnd (Ql=true) (At l Qc fun y6=>Qm y6.2 fun J7=>Cnd (J7=true) (At l Qc fun y9=>Cnd (y9.2=ByteArray.mk (Array.mk [107,101,121])) (K (6:Int)) (At l Qc fun y11=>Cnd (y11.3<1) (K (7:Int)) (At l Qc fun y13=>Cnd ((5:Int)<y13.3) (K (7:Int)) (Cnd ((0:Int)<Qc) (At l Qc fun y15=>InI (Qc - 1)/\((0:Int)<=Qc - 1/\Qc - 1<(↑l.length:Int))/\ ∀y17,l[(Qc - 1).toNat]? =some y17->Cnd (Lk.blt y15.1 y17.1) (K (9:Int)) (At l Qc fun y19=>InI (Qc - 1)/\((0:Int)<=Qc - 1/\Qc - 1<(↑l.length:Int))/\ ∀y21,l[(Qc - 1).toNat]? =some y21->Cnd (y19.1=y21.1) (At l Qc fun y23=>InI (Qc - 1)/\((0:Int)<=Qc - 1/\Qc - 1<(↑l.length:Int))/\ ∀y25,l[(Qc - 1).toNat]? =some y25->Cnd (Lk.blt y25.2 y23.2) (InI (Qc+1)/\q1l (Qc+1)) (K (9:Int))) (InI (Qc+1)/\q1l (Qc+1)))) (InI (Qc+1)/\q1l (Qc+1)))))) (K (6:Int))) (K (6:Int))) (K (0:Int))) (0:Int))
def q11:q10:=z14 Jj
abbrev H6:Type:=List (ByteArray)->(Int->Prop)->Prop
def z4n(Qt:Jq):H6:=fun l K=>Fits l->Cnd ((40:Int)<(↑l.length:Int)) (K (5:Int)) (Lp1 (fun Qc q1l=>Fits l->CAt l Qc (fun y3=>Cnd (y3=ByteArray.mk (Array.mk [])) (K (2:Int)) (At l Qc fun y5=>Qt y5 fun Ju=>Cnd (Ju=true) (Cnd ((0:Int)<Qc) (At l Qc fun y8=>InI (Qc - 1)/\((0:Int)<=Qc - 1/\Qc - 1<(↑l.length:Int))/\ ∀y10,l[(Qc - 1).toNat]? =some y10->Cnd (Lk.blt y10 y8) (InI (Qc+1)/\q1l (Qc+1)) (K (9:Int))) (InI (Qc+1)/\q1l (Qc+1))) (K (2:Int)))) (K (0:Int))) (0:Int))
def H7:H6:=z4n Z4
abbrev j0k:Type:=Ex->(Bool->Prop)->Prop
def z4o:j0k:=fun e K=>Cnd (e.1=0) (Cnd (e.2=ByteArray.mk (Array.mk [])) (Cnd (e.3=ByteArray.mk (Array.mk [])) (Fits e.4->Cnd ((↑e.4.length:Int)=0) (Fits e.5->K (decide ((↑e.5.length:Int)=0))) (K false)) (K false)) (K false)) (K false)
abbrev q7v:Type:=Ex->(Bool->Prop)->Prop
def z8p(Q2:Vg):q7v:=fun e K=>Fits e.5->Fits e.4->Jn2 (fun Qg Zj=>Q2 e.1 fun Qi=>Cnd (Qg=true) (Cnd (Zj=true) (Cnd (Qi=true) (Cnd (Qi=true) (K true) (Cnd (e.1=5) (K true) (K (decide (e.3=ByteArray.mk (Array.mk [])))))) (Cnd (e.2=ByteArray.mk (Array.mk [])) (Cnd (Qi=true) (K true) (Cnd (e.1=5) (K true) (K (decide (e.3=ByteArray.mk (Array.mk [])))))) (K false))) (K false)) (K false)) fun w78=>Cnd (e.1=2) (Fits e.5->w78 (decide ((2:Int)<=(↑e.5.length:Int))) (decide ((↑e.4.length:Int)=0))) (Cnd (e.1=3) (Fits e.5->w78 (decide ((2:Int)<=(↑e.5.length:Int))) (decide ((↑e.4.length:Int)=0))) (Cnd (e.1=4) (Fits e.5->w78 (decide ((↑e.5.length:Int)=1)) (decide ((↑e.4.length:Int)=0))) (Cnd (e.1=8) (Fits e.4->w78 (decide ((↑e.5.length:Int)=0)) (decide ((0:Int)<(↑e.4.length:Int)))) (Q2 e.1 fun Qi=>Cnd (Qi=true) (Cnd (e.1=6) (w78 (decide ((↑e.5.length:Int)=0)) (decide ((↑e.4.length:Int)=0))) (Fits e.4->w78 (decide ((↑e.5.length:Int)=0)) (decide ((↑e.4.length:Int)=1)))) (w78 (decide ((↑e.5.length:Int)=0)) (decide ((↑e.4.length:Int)=0)))))))
def q7w:q7v:=z8p Jm
abbrev z6p:Type:=Val->(Bool->Prop)->Prop
def q3w:z6p:=fun v K=>Cnd (v.1=1) (Cnd (v.1=3) (Cnd (v.1=5) (K true) (Fits v.4->K (decide ((↑v.4.length:Int)=0)))) (Cnd (v.1=4) (Cnd (v.1=5) (K true) (Fits v.4->K (decide ((↑v.4.length:Int)=0)))) (Cnd (v.3=ByteArray.mk (Array.mk [])) (Cnd (v.1=5) (K true) (Fits v.4->K (decide ((↑v.4.length:Int)=0)))) (K false)))) (Cnd (v.1=3) (Cnd (v.1=2) (Cnd (v.1=5) (K true) (Fits v.4->K (decide ((↑v.4.length:Int)=0)))) (Cnd (v.2=0) (Cnd (v.1=5) (K true) (Fits v.4->K (decide ((↑v.4.length:Int)=0)))) (K false))) (Cnd (v.1=2) (Cnd (v.1=4) (Cnd (v.1=5) (K true) (Fits v.4->K (decide ((↑v.4.length:Int)=0)))) (Cnd (v.3=ByteArray.mk (Array.mk [])) (Cnd (v.1=5) (K true) (Fits v.4->K (decide ((↑v.4.length:Int)=0)))) (K false))) (Cnd (v.2=0) (Cnd (v.1=4) (Cnd (v.1=5) (K true) (Fits v.4->K (decide ((↑v.4.length:Int)=0)))) (Cnd (v.3=ByteArray.mk (Array.mk [])) (Cnd (v.1=5) (K true) (Fits v.4->K (decide ((↑v.4.length:Int)=0)))) (K false))) (K false))))
abbrev q0a:Type:=ByteArray->(Int->Int->Prop)->Prop
def J4:q0a:=fun s K=>Jn1 (fun Qa=>Lp1 (fun Qc q1l=>Cnd (Qc<(↑Qa.size:Int)) (((0:Int)<=Qc/\Qc<(↑Qa.size:Int))/\ ∀b2,Qa[Qc.toNat]? =some b2->Cnd ((↑b2.toNat:Int)<48) (K (0:Int) (1:Int)) (((0:Int)<=Qc/\Qc<(↑Qa.size:Int))/\ ∀b4,Qa[Qc.toNat]? =some b4->Cnd ((57:Int)<(↑b4.toNat:Int)) (K (0:Int) (1:Int)) (InI (Qc+1)/\q1l (Qc+1)))) (Cnd (Qa=ByteArray.mk (Array.mk [])) (K (0:Int) (1:Int)) (((0:Int)<=(0:Int)/\(0:Int)<(↑Qa.size:Int))/\ ∀b2,Qa[Int.toNat (0:Int)]? =some b2->Cnd ((↑b2.toNat:Int)=48) (Cnd (s=ByteArray.mk (Array.mk [48])) (Cnd ((13:Int)<(↑Qa.size:Int)) (K (0:Int) (3:Int)) (Lp2 (fun Qe J5 w79=>Cnd (J5<(↑Qa.size:Int)) (InI ((10:Int)*Qe)/\((0:Int)<=J5/\J5<(↑Qa.size:Int))/\ ∀b5,Qa[J5.toNat]? =some b5->InI (Go.IntKind.u8.wrap ((↑b5.toNat:Int) - 48))/\InI ((10:Int)*Qe+Go.IntKind.u8.wrap ((↑b5.toNat:Int) - 48))/\InI (J5+1)/\w79 ((10:Int)*Qe+Go.IntKind.u8.wrap ((↑b5.toNat:Int) - 48)) (J5+1)) (Cnd ((1099511627776:Int)<Qe) (K (0:Int) (3:Int)) (Cnd ((↑Qa.size:Int)<(↑s.size:Int)) (InI ((0:Int) - Qe)/\K ((0:Int) - Qe) (0:Int)) (K Qe (0:Int))))) (0:Int) (0:Int))) (K (0:Int) (1:Int))) (Cnd ((13:Int)<(↑Qa.size:Int)) (K (0:Int) (3:Int)) (Lp2 (fun Qe J5 w79=>Cnd (J5<(↑Qa.size:Int)) (InI ((10:Int)*Qe)/\((0:Int)<=J5/\J5<(↑Qa.size:Int))/\ ∀b5,Qa[J5.toNat]? =some b5->InI (Go.IntKind.u8.wrap ((↑b5.toNat:Int) - 48))/\InI ((10:Int)*Qe+Go.IntKind.u8.wrap ((↑b5.toNat:Int) - 48))/\InI (J5+1)/\w79 ((10:Int)*Qe+Go.IntKind.u8.wrap ((↑b5.toNat:Int) - 48)) (J5+1)) (Cnd ((1099511627776:Int)<Qe) (K (0:Int) (3:Int)) (Cnd ((↑Qa.size:Int)<(↑s.size:Int)) (InI ((0:Int) - Qe)/\K ((0:Int) - Qe) (0:Int)) (K Qe (0:Int))))) (0:Int) (0:Int)))))) (0:Int)) fun z1o=>Cnd ((0:Int)<(↑s.size:Int)) (((0:Int)<=(0:Int)/\(0:Int)<(↑s.size:Int))/\ ∀b1,s[Int.toNat (0:Int)]? =some b1->Cnd ((↑b1.toNat:Int)=45) (((0:Int)<=(1:Int)/\(1:Int)<=(↑s.size:Int)/\(↑s.size:Int)<=(↑s.size:Int))/\z1o (s.extract (Int.toNat (1:Int)) (↑s.size:Int).toNat)) (z1o s)) (z1o s)
abbrev q7b:Type:=ByteArray->(A3->Bool->Prop)->Prop
def z6q(Hi:q0a):q7b:=fun s K=>LpH (fun (Qa:Int×Int×Int×Int×Int×Int×Int×Int×Unit) q4j=>Cnd (Qa.2.1<3) (Lp1 (fun Qc q1l=>Cnd (Qc<(↑s.size:Int)) (((0:Int)<=Qc/\Qc<(↑s.size:Int))/\ ∀b2,s[Qc.toNat]? =some b2->Cnd ((↑b2.toNat:Int)=46) (((0:Int)<=Qa.1/\Qa.1<=Qc/\Qc<=(↑s.size:Int))/\Hi (s.extract Qa.1.toNat Qc.toNat) fun Qe J5=>Cnd (J5=0) (Cnd (Qe<0) (K ((0:Int),(0:Int),(0:Int)) false) (Cnd ((999999:Int)<Qe) (K ((0:Int),(0:Int),(0:Int)) false) (Cnd (decide (Qa.2.1<2)=decide (Qc<(↑s.size:Int))) (((0:Int)<=Qa.2.1/\Qa.2.1<(↑(3:Nat):Int))/\((True/\(Qa.2.1=(↑(nat_lit 0):Int)->InI (Qc+1)/\InI (Qa.2.1+1)/\q4j (Qc+1,Qa.2.1+1,Qe,Qa.2.2.2.1,Qa.2.2.2.2.1,Qa.2.2.2.2.2.1,Qa.2.2.2.2.2.2.1,Qa.2.2.2.2.2.2.2.1,())))/\(Qa.2.1=(↑(nat_lit 1):Int)->InI (Qc+1)/\InI (Qa.2.1+1)/\q4j (Qc+1,Qa.2.1+1,Qa.2.2.1,Qe,Qa.2.2.2.2.1,Qa.2.2.2.2.2.1,Qa.2.2.2.2.2.2.1,Qa.2.2.2.2.2.2.2.1,())))/\(Qa.2.1=(↑(nat_lit 2):Int)->InI (Qc+1)/\InI (Qa.2.1+1)/\q4j (Qc+1,Qa.2.1+1,Qa.2.2.1,Qa.2.2.2.1,Qe,Qa.2.2.2.2.2.1,Qa.2.2.2.2.2.2.1,Qa.2.2.2.2.2.2.2.1,()))) (K ((0:Int),(0:Int),(0:Int)) false)))) (K ((0:Int),(0:Int),(0:Int)) false)) (InI (Qc+1)/\q1l (Qc+1))) (((0:Int)<=Qa.1/\Qa.1<=Qc/\Qc<=(↑s.size:Int))/\Hi (s.extract Qa.1.toNat Qc.toNat) fun Qg Zj=>Cnd (Zj=0) (Cnd (Qg<0) (K ((0:Int),(0:Int),(0:Int)) false) (Cnd ((999999:Int)<Qg) (K ((0:Int),(0:Int),(0:Int)) false) (Cnd (decide (Qa.2.1<2)=decide (Qc<(↑s.size:Int))) (((0:Int)<=Qa.2.1/\Qa.2.1<(↑(3:Nat):Int))/\((True/\(Qa.2.1=(↑(nat_lit 0):Int)->InI (Qc+1)/\InI (Qa.2.1+1)/\q4j (Qc+1,Qa.2.1+1,Qg,Qa.2.2.2.1,Qa.2.2.2.2.1,Qa.2.2.2.2.2.1,Qa.2.2.2.2.2.2.1,Qa.2.2.2.2.2.2.2.1,())))/\(Qa.2.1=(↑(nat_lit 1):Int)->InI (Qc+1)/\InI (Qa.2.1+1)/\q4j (Qc+1,Qa.2.1+1,Qa.2.2.1,Qg,Qa.2.2.2.2.1,Qa.2.2.2.2.2.1,Qa.2.2.2.2.2.2.1,Qa.2.2.2.2.2.2.2.1,())))/\(Qa.2.1=(↑(nat_lit 2):Int)->InI (Qc+1)/\InI (Qa.2.1+1)/\q4j (Qc+1,Qa.2.1+1,Qa.2.2.1,Qa.2.2.2.1,Qg,Qa.2.2.2.2.2.1,Qa.2.2.2.2.2.2.1,Qa.2.2.2.2.2.2.2.1,()))) (K ((0:Int),(0:Int),(0:Int)) false)))) (K ((0:Int),(0:Int),(0:Int)) false))) Qa.1) (K (Qa.2.2.1,Qa.2.2.2.1,Qa.2.2.2.2.1) true)) ((0:Int),(0:Int),(0:Int),(0:Int),(0:Int),(0:Int),(0:Int),(0:Int),())
def q1a:q7b:=z6q J4
abbrev z4p:Type:=List (ByteArray)->(Int->Prop)->Prop
def j0l(Qt:Jq):z4p:=fun l K=>Fits l->Cnd ((20:Int)<(↑l.length:Int)) (K (5:Int)) (Lp1 (fun Qc q1l=>Fits l->CAt l Qc (fun y3=>Qt y3 fun Ql=>Cnd (Ql=true) (InI (Qc+1)/\q1l (Qc+1)) (K (2:Int))) (Lp1 (fun Qi z9z=>Fits l->CAt l Qi (fun y5=>InI (Qi - 1)/\((0:Int)<=Qi - 1/\Qi - 1<(↑l.length:Int))/\ ∀y7,l[(Qi - 1).toNat]? =some y7->Cnd (Lk.blt y7 y5) (InI (Qi+1)/\z9z (Qi+1)) (K (9:Int))) (K (0:Int))) (1:Int))) (0:Int))
def q7x:z4p:=j0l Z4
abbrev q1b:Type:=Val->(Int->Prop)->Prop
def z6r(z64:z6p)(Qt:Jq)(q4l:q7b)(j15:z4p):q1b:=fun v K=>Cnd (v.1<1) (K (7:Int)) (Cnd ((5:Int)<v.1) (K (7:Int)) (z64 v fun Qa=>Cnd (Qa=true) (Cnd (v.1=1) (Cnd (v.2=0) (K (0:Int)) (Cnd (v.2=1) (K (0:Int)) (K (3:Int)))) (Cnd (v.1=2) (Cnd (v.2<(-1099511627776:Int)) (K (3:Int)) (Cnd ((1099511627776:Int)<v.2) (K (3:Int)) (K (0:Int)))) (Cnd (v.1=3) (Qt v.3 fun Qc=>Cnd (Qc=true) (K (0:Int)) (K (2:Int))) (Cnd (v.1=4) (q4l v.3 fun (_:Int×Int×Int) Z0=>Cnd (Z0=true) (K (0:Int)) (K (1:Int))) (Cnd (v.1=5) (j15 v.4 fun Qc=>K Qc) (K (0:Int))))))) (K (15:Int))))
def Hm:q1b:=z6r q3w Z4 q1a q7x
abbrev z4q:Type:=Ex->(Int->Prop)->Prop
def j7y(z3f:q7v)(Q2:Vg)(Qm:Ji)(Jr:q1b):z4q:=fun e K=>Cnd (e.1<1) (K (7:Int)) (Cnd ((15:Int)<e.1) (K (7:Int)) (z3f (Ex.mk e.1 e.2 e.3 e.4 e.5) fun Qa=>Cnd (Qa=true) (Fits e.5->Cnd ((12:Int)<(↑e.5.length:Int)) (K (5:Int)) (Fits e.4->Cnd ((20:Int)<(↑e.4.length:Int)) (K (5:Int)) (Lp1 (fun Qi z9z=>Fits e.5->CAt e.5 Qi (fun y5=>Cnd (y5.1=e.1) (Cnd (e.1=4) (InI (Qi+1)/\z9z (Qi+1)) (K (15:Int))) (InI (Qi+1)/\z9z (Qi+1))) (Q2 e.1 fun Ql=>Cnd (Ql=true) (Qm e.2 fun Q4=>Cnd (Q4=true) (Q2 e.1 fun Ju=>Cnd (Ju=true) (Qm e.3 fun J7=>Cnd (J7=true) (Lp1 (fun Qs y8x=>Fits e.4->CAt e.4 Qs (fun y11=>Jr y11 fun Za=>Cnd (Za=0) (InI (Qs+1)/\y8x (Qs+1)) (K Za)) (Cnd (e.1=9) (((0:Int)<=(0:Int)/\(0:Int)<(↑e.4.length:Int))/\ ∀y11,e.4[Int.toNat (0:Int)]? =some y11->Cnd (y11.1=3) (K (0:Int)) (K (8:Int))) (Cnd (e.1=10) (((0:Int)<=(0:Int)/\(0:Int)<(↑e.4.length:Int))/\ ∀y11,e.4[Int.toNat (0:Int)]? =some y11->Cnd (y11.1=3) (K (0:Int)) (K (8:Int))) (Cnd (e.1=11) (((0:Int)<=(0:Int)/\(0:Int)<(↑e.4.length:Int))/\ ∀y11,e.4[Int.toNat (0:Int)]? =some y11->Cnd (y11.1=3) (K (0:Int)) (K (8:Int))) (K (0:Int)))))) (0:Int)) (K (6:Int))) (Cnd (e.1=5) (Qm e.3 fun J7=>Cnd (J7=true) (Lp1 (fun Qs y8x=>Fits e.4->CAt e.4 Qs (fun y11=>Jr y11 fun Za=>Cnd (Za=0) (InI (Qs+1)/\y8x (Qs+1)) (K Za)) (Cnd (e.1=9) (((0:Int)<=(0:Int)/\(0:Int)<(↑e.4.length:Int))/\ ∀y11,e.4[Int.toNat (0:Int)]? =some y11->Cnd (y11.1=3) (K (0:Int)) (K (8:Int))) (Cnd (e.1=10) (((0:Int)<=(0:Int)/\(0:Int)<(↑e.4.length:Int))/\ ∀y11,e.4[Int.toNat (0:Int)]? =some y11->Cnd (y11.1=3) (K (0:Int)) (K (8:Int))) (Cnd (e.1=11) (((0:Int)<=(0:Int)/\(0:Int)<(↑e.4.length:Int))/\ ∀y11,e.4[Int.toNat (0:Int)]? =some y11->Cnd (y11.1=3) (K (0:Int)) (K (8:Int))) (K (0:Int)))))) (0:Int)) (K (6:Int))) (Lp1 (fun J7 y8y=>Fits e.4->CAt e.4 J7 (fun y10=>Jr y10 fun Zw=>Cnd (Zw=0) (InI (J7+1)/\y8y (J7+1)) (K Zw)) (Cnd (e.1=9) (((0:Int)<=(0:Int)/\(0:Int)<(↑e.4.length:Int))/\ ∀y10,e.4[Int.toNat (0:Int)]? =some y10->Cnd (y10.1=3) (K (0:Int)) (K (8:Int))) (Cnd (e.1=10) (((0:Int)<=(0:Int)/\(0:Int)<(↑e.4.length:Int))/\ ∀y10,e.4[Int.toNat (0:Int)]? =some y10->Cnd (y10.1=3) (K (0:Int)) (K (8:Int))) (Cnd (e.1=11) (((0:Int)<=(0:Int)/\(0:Int)<(↑e.4.length:Int))/\ ∀y10,e.4[Int.toNat (0:Int)]? =some y10->Cnd (y10.1=3) (K (0:Int)) (K (8:Int))) (K (0:Int)))))) (0:Int)))) (K (6:Int))) (Q2 e.1 fun Q4=>Cnd (Q4=true) (Qm e.3 fun Ju=>Cnd (Ju=true) (Lp1 (fun J7 y8y=>Fits e.4->CAt e.4 J7 (fun y10=>Jr y10 fun Zw=>Cnd (Zw=0) (InI (J7+1)/\y8y (J7+1)) (K Zw)) (Cnd (e.1=9) (((0:Int)<=(0:Int)/\(0:Int)<(↑e.4.length:Int))/\ ∀y10,e.4[Int.toNat (0:Int)]? =some y10->Cnd (y10.1=3) (K (0:Int)) (K (8:Int))) (Cnd (e.1=10) (((0:Int)<=(0:Int)/\(0:Int)<(↑e.4.length:Int))/\ ∀y10,e.4[Int.toNat (0:Int)]? =some y10->Cnd (y10.1=3) (K (0:Int)) (K (8:Int))) (Cnd (e.1=11) (((0:Int)<=(0:Int)/\(0:Int)<(↑e.4.length:Int))/\ ∀y10,e.4[Int.toNat (0:Int)]? =some y10->Cnd (y10.1=3) (K (0:Int)) (K (8:Int))) (K (0:Int)))))) (0:Int)) (K (6:Int))) (Cnd (e.1=5) (Qm e.3 fun Ju=>Cnd (Ju=true) (Lp1 (fun J7 y8y=>Fits e.4->CAt e.4 J7 (fun y10=>Jr y10 fun Zw=>Cnd (Zw=0) (InI (J7+1)/\y8y (J7+1)) (K Zw)) (Cnd (e.1=9) (((0:Int)<=(0:Int)/\(0:Int)<(↑e.4.length:Int))/\ ∀y10,e.4[Int.toNat (0:Int)]? =some y10->Cnd (y10.1=3) (K (0:Int)) (K (8:Int))) (Cnd (e.1=10) (((0:Int)<=(0:Int)/\(0:Int)<(↑e.4.length:Int))/\ ∀y10,e.4[Int.toNat (0:Int)]? =some y10->Cnd (y10.1=3) (K (0:Int)) (K (8:Int))) (Cnd (e.1=11) (((0:Int)<=(0:Int)/\(0:Int)<(↑e.4.length:Int))/\ ∀y10,e.4[Int.toNat (0:Int)]? =some y10->Cnd (y10.1=3) (K (0:Int)) (K (8:Int))) (K (0:Int)))))) (0:Int)) (K (6:Int))) (Lp1 (fun Ju y8z=>Fits e.4->CAt e.4 Ju (fun y9=>Jr y9 fun Vt=>Cnd (Vt=0) (InI (Ju+1)/\y8z (Ju+1)) (K Vt)) (Cnd (e.1=9) (((0:Int)<=(0:Int)/\(0:Int)<(↑e.4.length:Int))/\ ∀y9,e.4[Int.toNat (0:Int)]? =some y9->Cnd (y9.1=3) (K (0:Int)) (K (8:Int))) (Cnd (e.1=10) (((0:Int)<=(0:Int)/\(0:Int)<(↑e.4.length:Int))/\ ∀y9,e.4[Int.toNat (0:Int)]? =some y9->Cnd (y9.1=3) (K (0:Int)) (K (8:Int))) (Cnd (e.1=11) (((0:Int)<=(0:Int)/\(0:Int)<(↑e.4.length:Int))/\ ∀y9,e.4[Int.toNat (0:Int)]? =some y9->Cnd (y9.1=3) (K (0:Int)) (K (8:Int))) (K (0:Int)))))) (0:Int)))))) (0:Int)))) (K (15:Int))))
def z0u:z4q:=j7y q7w Jm Jj Hm
abbrev q5e:Type:=Ex->Int->Int->(Int->Int->Prop)->Prop
def j7z(j16:z4q)(X:q5e):q5e:=fun e depth n K=>Cnd ((60:Int)<=n) (K (5:Int) n) (InI (n+1)/\Cnd ((10:Int)<depth) (K (18:Int) (n+1)) (j16 (Ex.mk e.1 e.2 e.3 e.4 e.5) fun Qa=>Cnd (Qa=0) (Lp2 (fun Qc Z0 z34=>Fits e.5->CAt e.5 Qc (fun y3=>InI (depth+1)/\X (Ex.mk y3.1 y3.2 y3.3 y3.4 y3.5) (depth+1) Z0 fun Ql q7f=>Cnd (Ql=0) (InI (Qc+1)/\z34 (Qc+1) q7f) (K Ql q7f)) (K (0:Int) Z0)) (0:Int) (n+1)) (K Qa (n+1))))
def z4r:q5e:=fun e depth n K=> ∀X:q5e,(∀e depth n K,j7z z0u X e depth n K->X e depth n K)->X e depth n K
abbrev q12:Type:=Ex->(Int->Prop)->Prop
def j70(j17:q5e):q12:=fun e K=>j17 (Ex.mk e.1 e.2 e.3 e.4 e.5) (1:Int) (0:Int) fun Qa _=>K Qa
def q13:q12:=j70 z4r
abbrev q5f:Type:=Seg->(Int->Prop)->Prop
def z4s(Qm:Ji)(Vd:H6)(j18:j0k)(Ue:q12):q5f:=fun g K=>Qm g.1 fun Qa=>Cnd (Qa=true) (Qm g.2 fun Qc=>Cnd (Qc=true) (Vd g.3 fun Qg=>Cnd (Qg=0) (Vd g.4 fun Qi=>Cnd (Qi=0) (j18 (Ex.mk g.5.1 g.5.2 g.5.3 g.5.4 g.5.5) fun Qe=>Cnd (Qe=true) (K (0:Int)) (Ue (Ex.mk g.5.1 g.5.2 g.5.3 g.5.4 g.5.5) fun Ql=>K Ql)) (K Qi)) (K Qg)) (K (6:Int))) (K (6:Int))
def q5g:q5f:=z4s Jj H7 z4o q13
abbrev q14:Type:=List (Seg)->(Int->Prop)->Prop
def z15(q9w:q5f):q14:=fun l K=>Fits l->Cnd ((20:Int)<(↑l.length:Int)) (K (5:Int)) (Lp1 (fun Qc q1l=>Fits l->CAt l Qc (fun y3=>q9w (Seg.mk y3.1 y3.2 y3.3 y3.4 (Ex.mk y3.5.1 y3.5.2 y3.5.3 y3.5.4 y3.5.5)) fun Ql=>Cnd (Ql=0) (Cnd ((0:Int)<Qc) (At l Qc fun y6=>InI (Qc - 1)/\((0:Int)<=Qc - 1/\Qc - 1<(↑l.length:Int))/\ ∀y8,l[(Qc - 1).toNat]? =some y8->Cnd (Lk.blt y8.1 y6.1) (InI (Qc+1)/\q1l (Qc+1)) (K (9:Int))) (InI (Qc+1)/\q1l (Qc+1))) (K Ql)) (K (0:Int))) (0:Int))
def q15:q14:=z15 q5g
abbrev H8:Type:=Flg->(Int->Prop)->Prop
def q7y(Jr:q1b):H8:=fun f K=>Fits f.3->Cnd ((8:Int)<(↑f.3.length:Int)) (K (5:Int)) (Cnd ((↑f.3.length:Int)=0) (K (3:Int)) (Lp1 (fun Qc q1l=>CAt f.3 Qc (fun y2=>Jr y2 fun Qe=>Cnd (Qe=0) (At f.3 Qc fun y5=>Cnd (y5.1=f.2) (InI (Qc+1)/\q1l (Qc+1)) (K (8:Int))) (K Qe)) (Cnd (f.5<1) (K (3:Int)) (Cnd ((↑f.3.length:Int)<f.5) (K (3:Int)) (K (0:Int))))) (0:Int)))
def H9:H8:=q7y Hm
abbrev V2:Type:=List (Prq)->(Int->Prop)->Prop
def q16(Qm:Ji):V2:=fun l K=>Fits l->Cnd ((4:Int)<(↑l.length:Int)) (K (5:Int)) (Lp1 (fun Qc q1l=>Fits l->CAt l Qc (fun y3=>Qm y3.1 fun Ql=>Cnd (Ql=true) (Cnd ((0:Int)<Qc) (At l Qc fun y6=>InI (Qc - 1)/\((0:Int)<=Qc - 1/\Qc - 1<(↑l.length:Int))/\ ∀y8,l[(Qc - 1).toNat]? =some y8->Cnd (Lk.blt y8.1 y6.1) (At l Qc fun y10=>Cnd (y10.2<1) (K (3:Int)) (At l Qc fun y12=>Cnd ((8:Int)<y12.2) (K (3:Int)) (InI (Qc+1)/\q1l (Qc+1)))) (K (9:Int))) (At l Qc fun y6=>Cnd (y6.2<1) (K (3:Int)) (At l Qc fun y8=>Cnd ((8:Int)<y8.2) (K (3:Int)) (InI (Qc+1)/\q1l (Qc+1))))) (K (6:Int))) (K (0:Int))) (0:Int))
def V3:V2:=q16 Jj
abbrev q5h:Type:=List (Tgt)->Int->(Int->Prop)->Prop
def z4t(Qm:Ji)(Vd:H6):q5h:=fun l n K=>Fits l->Cnd ((8:Int)<(↑l.length:Int)) (K (5:Int)) (Lp1 (fun Qc q1l=>Fits l->CAt l Qc (fun y3=>Qm y3.1 fun Ql=>Cnd (Ql=true) (At l Qc fun y6=>Cnd (y6.2<1) (K (3:Int)) (At l Qc fun y8=>Cnd (n<y8.2) (K (3:Int)) (At l Qc fun y10=>Fits y10.3->Cnd ((↑y10.3.length:Int)=0) (K (3:Int)) (At l Qc fun y13=>Vd y13.3 fun w77=>Cnd (w77=0) (InI (Qc+1)/\q1l (Qc+1)) (K w77))))) (K (6:Int))) (K (0:Int))) (0:Int))
def q5i:q5h:=z4t Jj H7
abbrev q7c:Type:=List (Rng)->Int->(Int->Prop)->Prop
def q3x:q7c:=fun l variations K=>Fits l->Cnd ((16:Int)<(↑l.length:Int)) (K (5:Int)) (Lp2 (fun Qc Z0 z34=>Fits l->CAt l Z0 (fun y3=>Cnd (y3.3<1) (K (3:Int)) (At l Z0 fun y5=>Cnd (variations<y5.3) (K (3:Int)) (At l Z0 fun y7=>Cnd (y7.1=Qc) (At l Z0 fun y9=>Cnd (y9.2<=Qc) (K (9:Int)) (Cnd ((0:Int)<Z0) (At l Z0 fun y11=>InI (Z0 - 1)/\((0:Int)<=Z0 - 1/\Z0 - 1<(↑l.length:Int))/\ ∀y13,l[(Z0 - 1).toNat]? =some y13->Cnd (y11.3=y13.3) (K (9:Int)) (At l Z0 fun y15=>InI (Z0+1)/\z34 y15.2 (Z0+1))) (At l Z0 fun y11=>InI (Z0+1)/\z34 y11.2 (Z0+1)))) (K (9:Int))))) (Cnd (Qc=10000) (K (0:Int)) (K (3:Int)))) (0:Int) (0:Int))
abbrev q3y:Type:=Srv->Int->(Int->Prop)->Prop
def j2y(Qm:Ji)(Qt:Jq)(Bh:q7c):q3y:=fun v variations K=>Cnd (v.1=0) (Qm v.2 fun Qa=>Cnd (Qa=true) (Qm v.3 fun Qc=>Cnd (Qc=true) (Qt v.4 fun Qg=>Cnd (Qg=true) (Bh v.5 variations fun Qi=>K Qi) (K (2:Int))) (K (6:Int))) (K (6:Int))) (Cnd (v.1<1) (K (3:Int)) (Cnd (variations<v.1) (K (3:Int)) (Cnd (v.2=ByteArray.mk (Array.mk [])) (Cnd (v.3=ByteArray.mk (Array.mk [])) (Cnd (v.4=ByteArray.mk (Array.mk [])) (Fits v.5->Cnd ((0:Int)<(↑v.5.length:Int)) (K (15:Int)) (K (0:Int))) (K (15:Int))) (K (15:Int))) (K (15:Int)))))
def q3z:q3y:=j2y Jj Z4 q3x
abbrev z0v:Type:=List (Rul)->Int->(Int->Prop)->Prop
def j2z(Qm:Ji)(Ue:q12)(Bi:q3y):z0v:=fun l n K=>Fits l->Cnd ((12:Int)<(↑l.length:Int)) (K (5:Int)) (Lp1 (fun Qc q1l=>Fits l->CAt l Qc (fun y3=>Qm y3.1 fun Ql=>Cnd (Ql=true) (Lp1 (fun Q4 y2k=>Cnd (Q4<Qc) (At l Q4 fun y7=>At l Qc fun y9=>Cnd (y7.1=y9.1) (K (10:Int)) (InI (Q4+1)/\y2k (Q4+1))) (At l Qc fun y7=>Ue (Ex.mk y7.2.1 y7.2.2 y7.2.3 y7.2.4 y7.2.5) fun Qs=>Cnd (Qs=0) (At l Qc fun y10=>Bi (Srv.mk y10.3.1 y10.3.2 y10.3.3 y10.3.4 y10.3.5) n fun Zw=>Cnd (Zw=0) (InI (Qc+1)/\q1l (Qc+1)) (K Zw)) (K Qs))) (0:Int)) (K (6:Int))) (K (0:Int))) (0:Int))
def z0w:z0v:=j2z Jj q13 q3z
abbrev z4u:Type:=Flg->(Int->Prop)->Prop
def j71(Qm:Ji)(q3h:H8)(Hs:V2)(q9x:q5h)(z65:z0v)(Bi:q3y):z4u:=fun f K=>Fits f.3->Qm f.1 fun Qc=>Cnd (Qc=true) (Cnd (f.2<1) (K (7:Int)) (Cnd ((5:Int)<f.2) (K (7:Int)) (q3h (Flg.mk f.1 f.2 f.3 f.4 f.5 f.6 f.7 f.8 (Srv.mk f.9.1 f.9.2 f.9.3 f.9.4 f.9.5)) fun Qg=>Cnd (Qg=0) (Hs f.6 fun Qi=>Cnd (Qi=0) (q9x f.7 (↑f.3.length:Int) fun Qe=>Cnd (Qe=0) (z65 f.8 (↑f.3.length:Int) fun Ql=>Cnd (Ql=0) (Bi (Srv.mk f.9.1 f.9.2 f.9.3 f.9.4 f.9.5) (↑f.3.length:Int) fun Q4=>K Q4) (K Ql)) (K Qe)) (K Qi)) (K Qg)))) (K (6:Int))
def z4v:z4u:=j71 Jj H9 V3 q5i z0w q3z
abbrev z0x:Type:=List (Flg)->(Int->Prop)->Prop
def j20(j19:z4u):z0x:=fun l K=>Fits l->Cnd ((30:Int)<(↑l.length:Int)) (K (5:Int)) (Lp1 (fun Qc q1l=>Fits l->CAt l Qc (fun y3=>j19 (Flg.mk y3.1 y3.2 y3.3 y3.4 y3.5 y3.6 y3.7 y3.8 (Srv.mk y3.9.1 y3.9.2 y3.9.3 y3.9.4 y3.9.5)) fun Ql=>Cnd (Ql=0) (Cnd ((0:Int)<Qc) (At l Qc fun y6=>InI (Qc - 1)/\((0:Int)<=Qc - 1/\Qc - 1<(↑l.length:Int))/\ ∀y8,l[(Qc - 1).toNat]? =some y8->Cnd (Lk.blt y8.1 y6.1) (InI (Qc+1)/\q1l (Qc+1)) (K (9:Int))) (InI (Qc+1)/\q1l (Qc+1))) (K Ql)) (K (0:Int))) (0:Int))
def z0y:z0x:=j20 z4v
abbrev z0z:Type:=Lay_->(Int->Prop)->Prop
def j21(Qm:Ji)(Qt:Jq):z0z:=fun l K=>Qm l.1 fun Qa=>Cnd (Qa=true) (Qm l.2 fun Qc=>Cnd (Qc=true) (Qt l.3 fun Qg=>Cnd (Qg=true) (Cnd (l.4<0) (K (3:Int)) (Cnd ((10000:Int)<l.4) (K (3:Int)) (Cnd (l.5<0) (K (3:Int)) (Cnd ((1099511627776:Int)<l.5) (K (3:Int)) (Fits l.6->Cnd ((32:Int)<(↑l.6.length:Int)) (K (5:Int)) (Lp1 (fun Qe w8a=>Fits l.6->CAt l.6 Qe (fun y6=>Cnd (y6.1<0) (K (3:Int)) (Cnd (y6.2<=y6.1) (K (3:Int)) (Cnd ((10000:Int)<y6.2) (K (3:Int)) (Cnd (y6.3<0) (K (3:Int)) (Cnd ((1099511627776:Int)<y6.3) (K (3:Int)) (Cnd ((0:Int)<Qe) (InI (Qe - 1)/\((0:Int)<=Qe - 1/\Qe - 1<(↑l.6.length:Int))/\ ∀y8,l.6[(Qe - 1).toNat]? =some y8->Cnd (y6.1<y8.2) (K (9:Int)) (InI (Qe+1)/\w8a (Qe+1))) (InI (Qe+1)/\w8a (Qe+1)))))))) (K (0:Int))) (0:Int))))))) (K (2:Int))) (K (6:Int))) (K (6:Int))
def z00:z0z:=j21 Jj Z4
abbrev q7z:Type:=List (Lay_)->(Int->Prop)->Prop
def z8q(z66:z0z):q7z:=fun l K=>Fits l->Cnd ((6:Int)<(↑l.length:Int)) (K (5:Int)) (Lp1 (fun Qc q1l=>Fits l->CAt l Qc (fun y3=>z66 y3 fun Ql=>Cnd (Ql=0) (Cnd ((0:Int)<Qc) (At l Qc fun y6=>InI (Qc - 1)/\((0:Int)<=Qc - 1/\Qc - 1<(↑l.length:Int))/\ ∀y8,l[(Qc - 1).toNat]? =some y8->Cnd (Lk.blt y8.1 y6.1) (InI (Qc+1)/\q1l (Qc+1)) (K (9:Int))) (InI (Qc+1)/\q1l (Qc+1))) (K Ql)) (K (0:Int))) (0:Int))
def q70:q7z:=z8q z00
abbrev z6s:Type:=List (Spn)->(Int->Prop)->Prop
def z01:z6s:=fun l K=>Fits l->Cnd ((16:Int)<(↑l.length:Int)) (K (5:Int)) (Lp1 (fun Qc q1l=>Fits l->CAt l Qc (fun y3=>Cnd (y3.1<0) (K (3:Int)) (At l Qc fun y5=>At l Qc fun y7=>Cnd (y7.2<=y5.1) (K (3:Int)) (At l Qc fun y9=>Cnd ((10000:Int)<y9.2) (K (3:Int)) (Cnd ((0:Int)<Qc) (At l Qc fun y11=>InI (Qc - 1)/\((0:Int)<=Qc - 1/\Qc - 1<(↑l.length:Int))/\ ∀y13,l[(Qc - 1).toNat]? =some y13->Cnd (y11.1<=y13.2) (K (9:Int)) (InI (Qc+1)/\q1l (Qc+1))) (InI (Qc+1)/\q1l (Qc+1)))))) (K (0:Int))) (0:Int))
abbrev Ra:Type:=Exper->(Int->Prop)->Prop
def q71(Qm:Ji)(Qt:Jq)(z67:z6s)(Bh:q7c)(Ue:q12):Ra:=fun x K=>Qm x.1 fun Qa=>Cnd (Qa=true) (Qm x.2 fun Qc=>Cnd (Qc=true) (Qm x.3 fun Qg=>Cnd (Qg=true) (Qt x.4 fun Qi=>Cnd (Qi=true) (Cnd (x.5<1) (K (7:Int)) (Cnd ((3:Int)<x.5) (K (7:Int)) (z67 x.6 fun Qe=>Cnd (Qe=0) (Bh x.7 (8:Int) fun Ql=>Cnd (Ql=0) (Ue (Ex.mk x.8.1 x.8.2 x.8.3 x.8.4 x.8.5) fun Q4=>K Q4) (K Ql)) (K Qe)))) (K (2:Int))) (K (6:Int))) (K (6:Int))) (K (6:Int))
def Rb:Ra:=q71 Jj Z4 z01 q3x q13
abbrev G6:Type:=List (Exper)->(Int->Prop)->Prop
def q50(q3i:Ra):G6:=fun l K=>Fits l->Cnd ((16:Int)<(↑l.length:Int)) (K (5:Int)) (Lp1 (fun Qc q1l=>Fits l->CAt l Qc (fun y3=>q3i (Exper.mk y3.1 y3.2 y3.3 y3.4 y3.5 y3.6 y3.7 (Ex.mk y3.8.1 y3.8.2 y3.8.3 y3.8.4 y3.8.5)) fun Ql=>Cnd (Ql=0) (Cnd ((0:Int)<Qc) (At l Qc fun y6=>InI (Qc - 1)/\((0:Int)<=Qc - 1/\Qc - 1<(↑l.length:Int))/\ ∀y8,l[(Qc - 1).toNat]? =some y8->Cnd (Lk.blt y8.1 y6.1) (InI (Qc+1)/\q1l (Qc+1)) (K (9:Int))) (InI (Qc+1)/\q1l (Qc+1))) (K Ql)) (K (0:Int))) (0:Int))
def G7:G6:=q50 Rb
abbrev G8:Type:=Envt->(Int->Prop)->Prop
def q51(q6v:q1y)(q6w:q10)(q6x:q14)(z68:z0x)(z3g:q7z)(q0f:G6):G8:=fun v K=>q6v (Sett.mk v.1.1 v.1.2 v.1.3) fun Qa=>Cnd (Qa=0) (q6w v.2 fun Qc=>Cnd (Qc=0) (q6x v.3 fun Qg=>Cnd (Qg=0) (z68 v.4 fun Qi=>Cnd (Qi=0) (z3g v.5 fun Qe=>Cnd (Qe=0) (q0f v.6 fun Ql=>K Ql) (K Qe)) (K Qi)) (K Qg)) (K Qc)) (K Qa)
def G9:G8:=q51 q1z q11 q15 z0y q70 G7
abbrev q1c:Type:=List (Seg)->(List (ByteArray)->Prop)->Prop
def q1d:q1c:=fun l K=>Lp2 (fun Qa Qv q1k=>Fits l->CAt l Qv (fun y2=>Sml (Qa++[y2.1]).length/\InI (Qv+1)/\q1k (Qa++[y2.1]) (Qv+1)) (K Qa)) [] (0:Int)
abbrev q4o:Type:=List (ByteArray)->ByteArray->(Bool->Prop)->Prop
def q0b:q4o:=fun l s K=>Lp1 (fun Qa q4j=>Fits l->CAt l Qa (fun y2=>Cnd (y2=s) (K true) (InI (Qa+1)/\q4j (Qa+1))) (K false)) (0:Int)
abbrev z02:Type:=List (Decl)->ByteArray->ByteArray->(Int->Prop)->Prop
def q17:z02:=fun l kind name K=>Lp1 (fun Qa q4j=>Fits l->CAt l Qa (fun y2=>Cnd (y2.1=kind) (At l Qa fun y4=>Cnd (y4.2=name) (At l Qa fun y6=>K y6.3) (InI (Qa+1)/\q4j (Qa+1))) (InI (Qa+1)/\q4j (Qa+1))) (Cnd (name=ByteArray.mk (Array.mk [107,101,121])) (K (3:Int)) (K (0:Int)))) (0:Int)
abbrev j0m:Type:=Int->Ex->(Bool->Prop)->Prop
def q72:j0m:=fun t e K=>Cnd (e.1=6) (K true) (Cnd (e.1=8) (Lp1 (fun Qa q4j=>Fits e.4->CAt e.4 Qa (fun y2=>Cnd (y2.1=t) (InI (Qa+1)/\q4j (Qa+1)) (K false)) (K (match decide ((t,e,()).1=5) with|true=>false|false=>true))) (0:Int)) (Fits e.4->Cnd ((↑e.4.length:Int)=0) (K false) (((0:Int)<=(0:Int)/\(0:Int)<(↑e.4.length:Int))/\ ∀y1,e.4[Int.toNat (0:Int)]? =some y1->Cnd (e.1=7) (K (decide (y1.1=t))) (Jn1 (fun Qi=>Cnd (Qi=true) (Cnd (t=3) (K (decide (y1.1=3))) (K false)) (Cnd (e.1=11) (Cnd (t=3) (K (decide (y1.1=3))) (Cnd (t=5) (K (decide (y1.1=3))) (K false))) (Cnd (t=2) (K (decide (y1.1=t))) (Cnd (t=3) (K (decide (y1.1=t))) (Cnd (t=4) (K (decide (y1.1=t))) (K false)))))) fun v9h=>Cnd (e.1=9) (v9h (decide (e.1=9))) (v9h (decide (e.1=10)))))))
abbrev Ha:Type:=List (Decl)->List (ByteArray)->Ex->(Int->Prop)->Prop
def j72(Vr:q4o)(Q2:Vg)(B6:z02)(z59:j0m)(X:Ha):Ha:=fun l segments e K=>Cnd (e.1=5) (Vr segments e.3 fun Qa=>Cnd (Qa=true) (Jn0 (Lp1 (fun Qc q1l=>Fits e.5->CAt e.5 Qc (fun y3=>X l segments (Ex.mk y3.1 y3.2 y3.3 y3.4 y3.5) fun Ql=>Cnd (Ql=0) (InI (Qc+1)/\q1l (Qc+1)) (K Ql)) (K (0:Int))) (0:Int)) fun Qc=>Q2 e.1 fun Qg=>Cnd (Qg=true) (B6 l e.2 e.3 fun Qi=>Cnd (Qi=0) (K (11:Int)) (z59 Qi (Ex.mk e.1 e.2 e.3 e.4 e.5) fun Qe=>Cnd (Qe=true) Qc (K (8:Int)))) Qc) (K (11:Int))) (Jn0 (Lp1 (fun Qa q4j=>Fits e.5->CAt e.5 Qa (fun y2=>X l segments (Ex.mk y2.1 y2.2 y2.3 y2.4 y2.5) fun Qe=>Cnd (Qe=0) (InI (Qa+1)/\q4j (Qa+1)) (K Qe)) (K (0:Int))) (0:Int)) fun Qa=>Q2 e.1 fun Qc=>Cnd (Qc=true) (B6 l e.2 e.3 fun Qg=>Cnd (Qg=0) (K (11:Int)) (z59 Qg (Ex.mk e.1 e.2 e.3 e.4 e.5) fun Qi=>Cnd (Qi=true) Qa (K (8:Int)))) Qa)
def q18:Ha:=fun l segments e K=> ∀X:Ha,(∀l segments e K,j72 q0b Jm q17 q72 X l segments e K->X l segments e K)->X l segments e K
abbrev q9f:Type:=List (ByteArray)->ByteArray->(List (ByteArray)->Prop)->Prop
def q4p:q9f:=fun l s K=>Lp1 (fun Qa q4j=>Fits l->CAt l Qa (fun y2=>Cnd (Lk.blt y2 s) (InI (Qa+1)/\q4j (Qa+1)) (Fits l->CAt l Qa (fun y5=>Cnd (y5=s) (K l) (((0:Int)<=(0:Int)/\(0:Int)<=Qa/\Qa<=(↑l.length:Int))/\Sml ([]++List.drop (Int.toNat (0:Int)) (List.take Qa.toNat l)).length/\((0:Int)<=Qa/\Qa<=(↑l.length:Int)/\(↑l.length:Int)<=(↑l.length:Int))/\Sml ([]++List.drop (Int.toNat (0:Int)) (List.take Qa.toNat l)++[s]).length/\Sml ([]++List.drop (Int.toNat (0:Int)) (List.take Qa.toNat l)++[s]++List.drop Qa.toNat (List.take (↑l.length:Int).toNat l)).length/\K ([]++List.drop (Int.toNat (0:Int)) (List.take Qa.toNat l)++[s]++List.drop Qa.toNat (List.take (↑l.length:Int).toNat l)))) (((0:Int)<=(0:Int)/\(0:Int)<=Qa/\Qa<=(↑l.length:Int))/\Sml ([]++List.drop (Int.toNat (0:Int)) (List.take Qa.toNat l)).length/\((0:Int)<=Qa/\Qa<=(↑l.length:Int)/\(↑l.length:Int)<=(↑l.length:Int))/\Sml ([]++List.drop (Int.toNat (0:Int)) (List.take Qa.toNat l)++[s]).length/\Sml ([]++List.drop (Int.toNat (0:Int)) (List.take Qa.toNat l)++[s]++List.drop Qa.toNat (List.take (↑l.length:Int).toNat l)).length/\K ([]++List.drop (Int.toNat (0:Int)) (List.take Qa.toNat l)++[s]++List.drop Qa.toNat (List.take (↑l.length:Int).toNat l))))) (Fits l->CAt l Qa (fun y3=>Cnd (y3=s) (K l) (((0:Int)<=(0:Int)/\(0:Int)<=Qa/\Qa<=(↑l.length:Int))/\Sml ([]++List.drop (Int.toNat (0:Int)) (List.take Qa.toNat l)).length/\((0:Int)<=Qa/\Qa<=(↑l.length:Int)/\(↑l.length:Int)<=(↑l.length:Int))/\Sml ([]++List.drop (Int.toNat (0:Int)) (List.take Qa.toNat l)++[s]).length/\Sml ([]++List.drop (Int.toNat (0:Int)) (List.take Qa.toNat l)++[s]++List.drop Qa.toNat (List.take (↑l.length:Int).toNat l)).length/\K ([]++List.drop (Int.toNat (0:Int)) (List.take Qa.toNat l)++[s]++List.drop Qa.toNat (List.take (↑l.length:Int).toNat l)))) (((0:Int)<=(0:Int)/\(0:Int)<=Qa/\Qa<=(↑l.length:Int))/\Sml ([]++List.drop (Int.toNat (0:Int)) (List.take Qa.toNat l)).length/\((0:Int)<=Qa/\Qa<=(↑l.length:Int)/\(↑l.length:Int)<=(↑l.length:Int))/\Sml ([]++List.drop (Int.toNat (0:Int)) (List.take Qa.toNat l)++[s]).length/\Sml ([]++List.drop (Int.toNat (0:Int)) (List.take Qa.toNat l)++[s]++List.drop Qa.toNat (List.take (↑l.length:Int).toNat l)).length/\K ([]++List.drop (Int.toNat (0:Int)) (List.take Qa.toNat l)++[s]++List.drop Qa.toNat (List.take (↑l.length:Int).toNat l))))) (0:Int)
abbrev Gd:Type:=List (ByteArray)->Ex->(List (ByteArray)->Prop)->Prop
def z4w(Ht:q9f)(X:Gd):Gd:=fun l e K=>Jn1 (fun Qa=>Lp2 (fun Qc Z0 z34=>Fits e.5->CAt e.5 Z0 (fun y3=>X Qc (Ex.mk y3.1 y3.2 y3.3 y3.4 y3.5) fun Ql=>InI (Z0+1)/\z34 Ql (Z0+1)) (K Qc)) Qa (0:Int)) fun z1o=>Cnd (e.1=5) (Ht l e.3 fun Qc=>z1o Qc) (z1o l)
def q5j:Gd:=fun l e K=> ∀X:Gd,(∀l e K,z4w q4p X l e K->X l e K)->X l e K
abbrev q5k:Type:=Ex->(List (ByteArray)->Prop)->Prop
def z4x(q9y:Gd):q5k:=fun e K=>q9y [] (Ex.mk e.1 e.2 e.3 e.4 e.5) fun Qa=>K Qa
def q5l:q5k:=z4x q5j
abbrev q73:Type:=List (Seg)->(List (Edg)->Prop)->Prop
def z8r(q9z:q5k):q73:=fun l K=>Lp2 (fun Qa Qv q1k=>Fits l->CAt l Qv (fun y2=>q9z (Ex.mk y2.5.1 y2.5.2 y2.5.3 y2.5.4 y2.5.5) fun Qe=>Lp2 (fun Ql q7f y80=>Fits Qe->Cnd (q7f<(↑Qe.length:Int)) (At l Qv fun y7=>At Qe q7f fun y9=>Sml (Ql++[Edg.mk y7.1 y9]).length/\InI (q7f+1)/\y80 (Ql++[Edg.mk y7.1 y9]) (q7f+1)) (InI (Qv+1)/\q1k Ql (Qv+1))) Qa (0:Int)) (K Qa)) [] (0:Int)
def q74:q73:=z8r q5l
abbrev z03:Type:=List (Edg)->ByteArray->(List (ByteArray)->Prop)->Prop
def j22(Vr:q4o)(Ht:q9f):z03:=fun edges node K=>Lp2 (fun Qa Qv q1k=>Fits Qv->Cnd ((0:Int)<(↑Qv.length:Int)) (((0:Int)<=(0:Int)/\(0:Int)<(↑Qv.length:Int))/\ ∀y2,Qv[Int.toNat (0:Int)]? =some y2->((0:Int)<=(1:Int)/\(1:Int)<=(↑Qv.length:Int)/\(↑Qv.length:Int)<=(↑Qv.length:Int))/\Lp3 (fun Qe J5 j12 y61=>Fits edges->CAt edges j12 (fun y6=>Cnd (y6.1=y2) (At edges j12 fun y8=>Vr Qe y8.2 fun Jv=>Cnd (Jv=true) (InI (j12+1)/\y61 Qe J5 (j12+1)) (At edges j12 fun y11=>Ht Qe y11.2 fun Za=>At edges j12 fun y14=>(Sml ([]++J5).length/\Sml ([]++J5++[y14.2]).length/\InI (j12+1)/\y61 Za ([]++J5++[y14.2]) (j12+1))/\Sml ([]++J5).length/\Sml ([]++J5++[y14.2]).length/\InI (j12+1)/\y61 Za ([]++J5++[y14.2]) (j12+1))) (InI (j12+1)/\y61 Qe J5 (j12+1))) (q1k Qe J5)) Qa (List.drop (Int.toNat (1:Int)) (List.take (↑Qv.length:Int).toNat Qv)) (0:Int)) (K Qa)) [] [node]
def z04:z03:=j22 q0b q4p
abbrev q75:Type:=List (ByteArray)->List (Edg)->(List (ByteArray)->Prop)->Prop
def z8s(z69:z03)(Vr:q4o)(Ht:q9f):q75:=fun nodes edges K=>Lp2 (fun Qa Qv q1k=>Fits nodes->CAt nodes Qv (fun y2=>At nodes Qv fun y4=>z69 edges y2 fun Q4=>Vr Q4 y4 fun Ju=>Cnd (Ju=true) (At nodes Qv fun y8=>Ht Qa y8 fun Jv=>InI (Qv+1)/\q1k Jv (Qv+1)) (InI (Qv+1)/\q1k Qa (Qv+1))) (K Qa)) [] (0:Int)
def q76:q75:=z8s z04 q0b q4p
abbrev q77:Type:=List (ByteArray)->List (Edg)->(ByteArray->Bool->Prop)->Prop
def z8t(z3h:q75):q77:=fun nodes edges K=>z3h nodes edges fun Qa=>Fits Qa->Cnd ((↑Qa.length:Int)=0) (K (ByteArray.mk (Array.mk [])) false) (((0:Int)<=(0:Int)/\(0:Int)<(↑Qa.length:Int))/\ ∀y2,Qa[Int.toNat (0:Int)]? =some y2->K y2 true)
def q78:q77:=z8t q76
abbrev q1e:Type:=Envt->ByteArray->(Int->Prop)->Prop
def q1f:q1e:=fun v key K=>Lp1 (fun Qa q4j=>Fits v.4->CAt v.4 Qa (fun y2=>Cnd (y2.1=key) (K Qa) (InI (Qa+1)/\q4j (Qa+1))) (K (-1:Int))) (0:Int)
abbrev z05:Type:=List (Decl)->Srv->(Int->Prop)->Prop
def j23(B6:z02):z05:=fun l v K=>Cnd (v.1=0) (B6 l v.2 v.3 fun Qa=>Cnd (Qa=0) (K (11:Int)) (Cnd (Qa=5) (K (8:Int)) (K (0:Int)))) (K (0:Int))
def z06:z05:=j23 q17
abbrev Rd:Type:=Envt->Flg->(Int->Prop)->Prop
def q79(Wp:q1c)(Uf:q1e)(Ug:Ha)(z1m:z05)(Z7:J9):Rd:=fun v f K=>Wp v.3 fun Qa=>Lp2 (fun Qc Z0 z34=>Fits f.6->CAt f.6 Qc (fun y3=>Uf (Envt.mk (Sett.mk v.1.1 v.1.2 v.1.3) v.2 v.3 v.4 v.5 v.6) y3.1 fun Ql=>Cnd (Ql<0) (K (11:Int)) (At f.6 Qc fun y6=>At v.4 Ql fun y8=>Fits y8.3->Cnd ((↑y8.3.length:Int)<y6.2) (K (3:Int)) (InI (Qc+1)/\z34 (Qc+1) Z0))) (Lp2 (fun Qi Hz w1c=>Fits f.8->CAt f.8 Qi (fun y5=>Ug v.2 Hz (Ex.mk y5.2.1 y5.2.2 y5.2.3 y5.2.4 y5.2.5) fun Ju=>Cnd (Ju=0) (At f.8 Qi fun y8=>z1m v.2 (Srv.mk y8.3.1 y8.3.2 y8.3.3 y8.3.4 y8.3.5) fun Jv=>Cnd (Jv=0) (InI (Qi+1)/\w1c (Qi+1) Hz) (K Jv)) (K Ju)) (z1m v.2 (Srv.mk f.9.1 f.9.2 f.9.3 f.9.4 f.9.5) fun Ql=>Cnd (Ql=0) (Z7 f.8 fun Q4 _ y3t=>Cnd (y3t=true) (Fits Q4->Cnd ((0:Int)<(↑Q4.length:Int)) (K (13:Int)) (K (0:Int))) (K (19:Int))) (K Ql))) (0:Int) Z0)) (0:Int) Qa
def Re:Rd:=q79 q1d q1f q18 z06 Wa
abbrev q4q:Type:=Envt->(List (ByteArray)->Prop)->Prop
def q4r:q4q:=fun v K=>Lp2 (fun Qa Qv q1k=>Fits v.4->CAt v.4 Qv (fun y2=>Sml (Qa++[y2.1]).length/\InI (Qv+1)/\q1k (Qa++[y2.1]) (Qv+1)) (K Qa)) [] (0:Int)
abbrev q19:Type:=Envt->(List (Edg)->Prop)->Prop
def Rf:q19:=fun v K=>Lp2 (fun Qa Qv q1k=>Fits v.4->Cnd (Qv<(↑v.4.length:Int)) (Lp2 (fun Qg Zj q5w=>At v.4 Qv fun y3=>Fits y3.6->Cnd (Zj<(↑y3.6.length:Int)) (At v.4 Qv fun y6=>At v.4 Qv fun y8=>At y8.6 Zj fun y10=>Sml (Qg++[Edg.mk y6.1 y10.1]).length/\InI (Zj+1)/\q5w (Qg++[Edg.mk y6.1 y10.1]) (Zj+1)) (InI (Qv+1)/\q1k Qg (Qv+1))) Qa (0:Int)) (K Qa)) [] (0:Int)
abbrev Rg:Type:=List (Spn)->List (Spn)->(List (Spn)->Prop)->Prop
def q9g(Q9:V0)(Q6:Ws):Rg:=fun a b K=>Q9 a fun Qa=>Q9 b fun Qc=>Lp2 (fun Qg Zj q5w=>Fits Zj->CAt Zj Qg (fun y4=>Cnd (y4=true) (At Qc Qg fun y6=>At Zj Qg fun _=>InI (Qg+1)/\q5w (Qg+1) (Zj.set Qg.toNat y6)) (At Zj Qg fun _=>InI (Qg+1)/\q5w (Qg+1) (Zj.set Qg.toNat false))) (Q6 Zj fun Qe=>K Qe)) (0:Int) Qa
def V4:Rg:=q9g Wl Jn
abbrev Wm:Type:=Envt->Int->(Int->Prop)->Prop
def V5(Qq:Jh)(Uf:q1e)(Wp:q1c)(Ug:Ha)(Uh:Rg):Wm:=fun v i K=>At v.6 i fun y0=>Qq (Envt.mk (Sett.mk v.1.1 v.1.2 v.1.3) v.2 v.3 v.4 v.5 v.6) y0.2 fun Qg=>Uf (Envt.mk (Sett.mk v.1.1 v.1.2 v.1.3) v.2 v.3 v.4 v.5 v.6) y0.3 fun Qi=>Cnd (Qg<0) (K (11:Int)) (Cnd (Qi<0) (K (11:Int)) (Lp1 (fun Qe w8a=>Fits y0.7->CAt y0.7 Qe (fun y6=>At v.4 Qi fun y8=>Fits y8.3->Cnd ((↑y8.3.length:Int)<y6.3) (K (3:Int)) (InI (Qe+1)/\w8a (Qe+1))) (Wp v.3 fun Q4=>Ug v.2 Q4 (Ex.mk y0.8.1 y0.8.2 y0.8.3 y0.8.4 y0.8.5) fun Ju=>Cnd (Ju=0) (Cnd (y0.5=3) (K (0:Int)) (At v.5 Qg fun y8=>Lp3 (fun Jv q3b y2l y6k=>Cnd (q3b<i) (At v.6 q3b fun y11=>Cnd (y11.2=y0.2) (Cnd (y11.5=3) (InI (q3b+1)/\y6k Jv (q3b+1) y2l) (Sml (Jv++y11.6).length/\InI (q3b+1)/\y6k (Jv++y11.6) (q3b+1) y2l)) (InI (q3b+1)/\y6k Jv (q3b+1) y2l)) (Uh y0.6 Jv fun Vt=>Fits Vt->Cnd ((0:Int)<(↑Vt.length:Int)) (K (14:Int)) (Lp4 (fun Za w5k y6l y6m y6n=>Cnd (Za<i) (Cnd (y0.5=2) (At v.6 Za fun y14=>Cnd (y14.5=2) (Cnd (y14.3=y0.3) (Cnd (y14.2=y0.2) (InI (Za+1)/\y6n (Za+1) w5k y6l y6m) (K (14:Int))) (InI (Za+1)/\y6n (Za+1) w5k y6l y6m)) (InI (Za+1)/\y6n (Za+1) w5k y6l y6m)) (K (0:Int))) (K (0:Int))) (0:Int) Vt Jv y2l))) [Spn.mk (0:Int) y8.4] (0:Int) Q4)) (K Ju))) (0:Int)))
def Zz:Wm:=V5 Zr q1f q1d q18 V4
abbrev U1:Type:=Envt->(ByteArray->Int->Prop)->Prop
def R2(q0g:G8)(Wp:q1c)(Ug:Ha)(z3i:q73)(q88:q77)(q3j:Rd)(q45:q4q)(q3k:q19)(Ui:Wm):U1:=fun v K=>q0g (Envt.mk (Sett.mk v.1.1 v.1.2 v.1.3) v.2 v.3 v.4 v.5 v.6) fun Qa=>Cnd (Qa=0) (Wp v.3 fun Qc=>Lp2 (fun Qg Zj q5w=>Fits v.3->CAt v.3 Qg (fun y4=>Cnd (y4.5.1=0) (InI (Qg+1)/\q5w (Qg+1) Zj) (At v.3 Qg fun y6=>Ug v.2 Zj (Ex.mk y6.5.1 y6.5.2 y6.5.3 y6.5.4 y6.5.5) fun J7=>Cnd (J7=0) (InI (Qg+1)/\q5w (Qg+1) Zj) (At v.3 Qg fun y9=>(↑((ByteArray.mk (Array.mk [115,101,103,109,101,110,116,32])).size+y9.1.size):Int)<=(9223372036854775807:Int)/\K (ByteArray.mk (Array.mk [115,101,103,109,101,110,116,32])++y9.1) J7))) (z3i v.3 fun Qe=>q88 Zj Qe fun Ql q7f=>Cnd (q7f=true) ((↑((ByteArray.mk (Array.mk [115,101,103,109,101,110,116,32])).size+Ql.size):Int)<=(9223372036854775807:Int)/\K (ByteArray.mk (Array.mk [115,101,103,109,101,110,116,32])++Ql) (12:Int)) (Lp3 (fun Q4 z32 y3t u1a=>Fits v.4->CAt v.4 Q4 (fun y8=>q3j (Envt.mk (Sett.mk v.1.1 v.1.2 v.1.3) v.2 v.3 v.4 v.5 v.6) (Flg.mk y8.1 y8.2 y8.3 y8.4 y8.5 y8.6 y8.7 y8.8 (Srv.mk y8.9.1 y8.9.2 y8.9.3 y8.9.4 y8.9.5)) fun Jv=>Cnd (Jv=0) (InI (Q4+1)/\u1a (Q4+1) z32 y3t) (At v.4 Q4 fun y11=>(↑((ByteArray.mk (Array.mk [102,108,97,103,32])).size+y11.1.size):Int)<=(9223372036854775807:Int)/\K (ByteArray.mk (Array.mk [102,108,97,103,32])++y11.1) Jv)) (q45 (Envt.mk (Sett.mk v.1.1 v.1.2 v.1.3) v.2 v.3 v.4 v.5 v.6) fun J7=>q3k (Envt.mk (Sett.mk v.1.1 v.1.2 v.1.3) v.2 v.3 v.4 v.5 v.6) fun Qs=>q88 J7 Qs fun Jv q3b=>Cnd (q3b=true) ((↑((ByteArray.mk (Array.mk [102,108,97,103,32])).size+Jv.size):Int)<=(9223372036854775807:Int)/\K (ByteArray.mk (Array.mk [102,108,97,103,32])++Jv) (12:Int)) (Lp5 (fun Vt w0a u0g u0h u0i u0j=>Fits v.6->Cnd (Vt<(↑v.6.length:Int)) (Ui (Envt.mk (Sett.mk v.1.1 v.1.2 v.1.3) v.2 v.3 v.4 v.5 v.6) Vt fun Za=>Cnd (Za=0) (InI (Vt+1)/\u0j (Vt+1) w0a u0g u0h u0i) (At v.6 Vt fun y14=>(↑((ByteArray.mk (Array.mk [101,120,112,101,114,105,109,101,110,116,32])).size+y14.1.size):Int)<=(9223372036854775807:Int)/\K (ByteArray.mk (Array.mk [101,120,112,101,114,105,109,101,110,116,32])++y14.1) Za)) (K (ByteArray.mk (Array.mk [])) (0:Int))) (0:Int) J7 Qs y3t z32))) (0:Int) Zj Qe))) (0:Int) Qc) (K (ByteArray.mk (Array.mk [])) Qa)
def Wb:U1:=R2 G9 q1d q18 q74 q78 Re q4r Rf Zz
abbrev q0s:Type:=Envt->(Bool->Prop)->Prop
def z16(Bj:U1):q0s:=fun v K=>Bj (Envt.mk (Sett.mk v.1.1 v.1.2 v.1.3) v.2 v.3 v.4 v.5 v.6) fun _ Qv=>K (decide (Qv=0))
def Wt:q0s:=z16 Wb
abbrev Rh:Type:=List (Int)->Int->Int->(Envt->Int->Prop)->Prop
def q8a(Q3:W9)(q90:q5c)(Qb:Zf)(q3c:z6l)(Jf:q1v)(q40:z1x)(z6a:z4g)(Ru:q1w)(q41:q4n)(Z7:J9)(j2a:z4k)(Wo:q1r)(q3d:q7o)(Bk:q3u)(Jt:q1t)(Gx:q0o)(Gy:q0q)(Ww:q0s):Rh:=fun list at_ now K=>Q3 fun Qa=>Jn1 (fun (Qc:ByteArray×ByteArray×Int×Int×List Decl×Unit)=>q90 list Qc.2.2.2.1 Qc.1 Qc.2.1 Qc.2.2.1 Qc.2.2.2.2.1 [] [] [] [] fun Qg Zj w5m w0b v9o u1b u1c u1d u1e=>Qb list Qg (5:Int) fun Qi Hz=>q3c Qi [ByteArray.mk (Array.mk [102,97]),ByteArray.mk (Array.mk [102,98]),ByteArray.mk (Array.mk [102,99]),ByteArray.mk (Array.mk [102,100])] fun Qe=>LpH (fun (Ql:Int×Int×List Flg×List Seg×List Lay_×List Exper×Unit) j6t=>Fits Qe->CAt Qe Ql.1 (fun y7=>Qb list Ql.2.1 (5:Int) fun Qs z9y=>InI ((1:Int)+Qs)/\Qb list z9y (6:Int) fun Jv q3b=>Qb list q3b (4:Int) fun Vt w0a=>InI ((1:Int)+Vt)/\LpH (fun (Zw:Int×Int×List Val×List Exper×List Lay_×List Flg×List Seg×Unit) (u0k:Int×Int×List Val×List Exper×List Lay_×List Flg×List Seg×Unit->Prop)=>Cnd (Zw.1<1+Vt) (Jf list Zw.2.1 ((1:Int)+Qs) fun Za w5k=>Sml (Zw.2.2.1++[Za]).length/\InI (Zw.1+1)/\u0k (Zw.1+1,w5k,Zw.2.2.1++[Za],Zw.2.2.2.1,Zw.2.2.2.2.1,Zw.2.2.2.2.2.1,Zw.2.2.2.2.2.2.1,())) (Qb list Zw.2.1 ((1:Int)+Vt) fun Za w5k=>InI ((1:Int)+Za)/\LpH (fun (Ve:Int×List Prq×Int×List Seg×List Flg×List Lay_×List Exper×List Val×Unit) (v9i:Int×List Prq×Int×List Seg×List Flg×List Lay_×List Exper×List Val×Unit->Prop)=>Fits Ve.2.2.2.2.1->Cnd (Ve.1<(↑Ve.2.2.2.2.1.length:Int)) (Qb list Ve.2.2.1 (4:Int) fun Bt y81=>Cnd (Bt=1) (At Ve.2.2.2.2.1 Ve.1 fun y17=>At Ve.2.2.2.2.1 Ve.1 fun y19=>Fits y19.3->Qb list y81 (↑y19.3.length:Int) fun y6o u0l=>InI ((1:Int)+y6o)/\Sml (Ve.2.1++[Prq.mk y17.1 ((1:Int)+y6o)]).length/\InI (Ve.1+1)/\v9i (Ve.1+1,Ve.2.1++[Prq.mk y17.1 ((1:Int)+y6o)],u0l,Ve.2.2.2.1,Ve.2.2.2.2.1,Ve.2.2.2.2.2.1,Ve.2.2.2.2.2.2.1,Ve.2.2.2.2.2.2.2.1,())) (InI (Ve.1+1)/\v9i (Ve.1+1,Ve.2.1,y81,Ve.2.2.2.1,Ve.2.2.2.2.1,Ve.2.2.2.2.2.1,Ve.2.2.2.2.2.2.1,Ve.2.2.2.2.2.2.2.1,()))) (LpH (fun (Bt:Int×List Tgt×Int×List Val×List Exper×List Lay_×List Flg×List Seg×List Prq×Unit) (y82:Int×List Tgt×Int×List Val×List Exper×List Lay_×List Flg×List Seg×List Prq×Unit->Prop)=>Qb list Bt.2.2.1 (3:Int) fun v9j y83=>Cnd (Bt.1<v9j) (Qb list y83 ((1:Int)+Vt) fun z1n u0m=>InI ((1:Int)+z1n)/\q40 list u0m fun Jc y6p=>Jn1 (fun (q4m:ByteArray×Int×List ByteArray×List Prq×List Seg×List Flg×List Lay_×List Exper×List Val×List Tgt×Unit)=>Fits q4m.2.2.1->Cnd ((0:Int)<(↑q4m.2.2.1.length:Int)) (Sml (q4m.2.2.2.2.2.2.2.2.2.1++[Tgt.mk q4m.1 ((1:Int)+z1n) q4m.2.2.1]).length/\InI (Bt.1+1)/\y82 (Bt.1+1,q4m.2.2.2.2.2.2.2.2.2.1++[Tgt.mk q4m.1 ((1:Int)+z1n) q4m.2.2.1],q4m.2.1,q4m.2.2.2.2.2.2.2.2.1,q4m.2.2.2.2.2.2.2.1,q4m.2.2.2.2.2.2.1,q4m.2.2.2.2.2.1,q4m.2.2.2.2.1,q4m.2.2.2.1,())) (InI (Bt.1+1)/\y82 (Bt.1+1,q4m.2.2.2.2.2.2.2.2.2.1,q4m.2.1,q4m.2.2.2.2.2.2.2.2.1,q4m.2.2.2.2.2.2.2.1,q4m.2.2.2.2.2.2.1,q4m.2.2.2.2.2.1,q4m.2.2.2.2.1,q4m.2.2.2.1,()))) fun (y84:ByteArray×Int×List ByteArray×List Prq×List Seg×List Flg×List Lay_×List Exper×List Val×List Tgt×Unit->Prop)=>Qb list y6p (4:Int) fun u0n y85=>Cnd (u0n=1) (y84 (ByteArray.mk (Array.mk [100,101,118,105,99,101]),y85,Jc,Bt.2.2.2.2.2.2.2.2.1,Bt.2.2.2.2.2.2.2.1,Bt.2.2.2.2.2.2.1,Bt.2.2.2.2.2.1,Bt.2.2.2.2.1,Bt.2.2.2.1,Bt.2.1,())) (y84 (ByteArray.mk (Array.mk [117,115,101,114]),y85,Jc,Bt.2.2.2.2.2.2.2.2.1,Bt.2.2.2.2.2.2.2.1,Bt.2.2.2.2.2.2.1,Bt.2.2.2.2.2.1,Bt.2.2.2.2.1,Bt.2.2.2.1,Bt.2.1,()))) (Jn1 (fun (z1n:Int×List Rul×List ByteArray×List Prq×List Seg×List Flg×List Lay_×List Exper×List Val×List Tgt×Unit)=>z6a list z1n.1 ((1:Int)+Vt) fun Jc y6p=>Sml (z1n.2.2.2.2.2.1++[Flg.mk y7 ((1:Int)+Qs) z1n.2.2.2.2.2.2.2.2.1 (decide (Jv<5)) ((1:Int)+Za) z1n.2.2.2.1 z1n.2.2.2.2.2.2.2.2.2.1 z1n.2.1 Jc]).length/\InI (Ql.1+1)/\j6t (Ql.1+1,y6p,z1n.2.2.2.2.2.1++[Flg.mk y7 ((1:Int)+Qs) z1n.2.2.2.2.2.2.2.2.1 (decide (Jv<5)) ((1:Int)+Za) z1n.2.2.2.1 z1n.2.2.2.2.2.2.2.2.2.1 z1n.2.1 Jc],z1n.2.2.2.2.1,z1n.2.2.2.2.2.2.1,z1n.2.2.2.2.2.2.2.1,())) fun (y6q:Int×List Rul×List ByteArray×List Prq×List Seg×List Flg×List Lay_×List Exper×List Val×List Tgt×Unit->Prop)=>LpH (fun (Jc:Int×Int×List Rul×List ByteArray×List Prq×List Seg×List Flg×List Lay_×List Exper×List Val×List Tgt×Unit) (u0o:Int×Int×List Rul×List ByteArray×List Prq×List Seg×List Flg×List Lay_×List Exper×List Val×List Tgt×Unit->Prop)=>Qb list Jc.2.1 (5:Int) fun q4m y2m=>Cnd (Jc.1<q4m) (At Jc.2.2.2.1 Jc.1 fun y21=>Ru (Envt.mk (Sett.mk Zj w5m w0b) v9o Jc.2.2.2.2.2.1 Jc.2.2.2.2.2.2.1 Jc.2.2.2.2.2.2.2.1 Jc.2.2.2.2.2.2.2.2.1) fun u0p=>q41 list y2m u0p (3:Int) fun Zk u0q=>z6a list u0q ((1:Int)+Vt) fun z3j v9k=>Sml (Jc.2.2.1++[Rul.mk y21 (Ex.mk Zk.1 Zk.2 Zk.3 Zk.4 Zk.5) z3j]).length/\Z7 (Jc.2.2.1++[Rul.mk y21 (Ex.mk Zk.1 Zk.2 Zk.3 Zk.4 Zk.5) z3j]) fun y86 _ u0r=>Cnd (u0r=true) (Fits y86->Cnd ((0:Int)<(↑y86.length:Int)) ((Jc.2.2.1++[Rul.mk y21 (Ex.mk Zk.1 Zk.2 Zk.3 Zk.4 Zk.5) z3j]).length<=(9223372036854775807:Nat)->InI ((↑(Jc.2.2.1++[Rul.mk y21 (Ex.mk Zk.1 Zk.2 Zk.3 Zk.4 Zk.5) z3j]).length:Int) - 1)/\((0:Int)<=(↑(Jc.2.2.1++[Rul.mk y21 (Ex.mk Zk.1 Zk.2 Zk.3 Zk.4 Zk.5) z3j]).length:Int) - 1/\(↑(Jc.2.2.1++[Rul.mk y21 (Ex.mk Zk.1 Zk.2 Zk.3 Zk.4 Zk.5) z3j]).length:Int) - 1<=(↑(Jc.2.2.1++[Rul.mk y21 (Ex.mk Zk.1 Zk.2 Zk.3 Zk.4 Zk.5) z3j]).length:Int))/\y6q (v9k,List.take ((↑(Jc.2.2.1++[Rul.mk y21 (Ex.mk Zk.1 Zk.2 Zk.3 Zk.4 Zk.5) z3j]).length:Int) - 1).toNat (Jc.2.2.1++[Rul.mk y21 (Ex.mk Zk.1 Zk.2 Zk.3 Zk.4 Zk.5) z3j]),Jc.2.2.2.1,Jc.2.2.2.2.1,Jc.2.2.2.2.2.1,Jc.2.2.2.2.2.2.1,Jc.2.2.2.2.2.2.2.1,Jc.2.2.2.2.2.2.2.2.1,Jc.2.2.2.2.2.2.2.2.2.1,Jc.2.2.2.2.2.2.2.2.2.2.1,())) (InI (Jc.1+1)/\u0o (Jc.1+1,v9k,Jc.2.2.1++[Rul.mk y21 (Ex.mk Zk.1 Zk.2 Zk.3 Zk.4 Zk.5) z3j],Jc.2.2.2.1,Jc.2.2.2.2.1,Jc.2.2.2.2.2.1,Jc.2.2.2.2.2.2.1,Jc.2.2.2.2.2.2.2.1,Jc.2.2.2.2.2.2.2.2.1,Jc.2.2.2.2.2.2.2.2.2.1,Jc.2.2.2.2.2.2.2.2.2.2.1,()))) ((Jc.2.2.1++[Rul.mk y21 (Ex.mk Zk.1 Zk.2 Zk.3 Zk.4 Zk.5) z3j]).length<=(9223372036854775807:Nat)->InI ((↑(Jc.2.2.1++[Rul.mk y21 (Ex.mk Zk.1 Zk.2 Zk.3 Zk.4 Zk.5) z3j]).length:Int) - 1)/\((0:Int)<=(↑(Jc.2.2.1++[Rul.mk y21 (Ex.mk Zk.1 Zk.2 Zk.3 Zk.4 Zk.5) z3j]).length:Int) - 1/\(↑(Jc.2.2.1++[Rul.mk y21 (Ex.mk Zk.1 Zk.2 Zk.3 Zk.4 Zk.5) z3j]).length:Int) - 1<=(↑(Jc.2.2.1++[Rul.mk y21 (Ex.mk Zk.1 Zk.2 Zk.3 Zk.4 Zk.5) z3j]).length:Int))/\y6q (v9k,List.take ((↑(Jc.2.2.1++[Rul.mk y21 (Ex.mk Zk.1 Zk.2 Zk.3 Zk.4 Zk.5) z3j]).length:Int) - 1).toNat (Jc.2.2.1++[Rul.mk y21 (Ex.mk Zk.1 Zk.2 Zk.3 Zk.4 Zk.5) z3j]),Jc.2.2.2.1,Jc.2.2.2.2.1,Jc.2.2.2.2.2.1,Jc.2.2.2.2.2.2.1,Jc.2.2.2.2.2.2.2.1,Jc.2.2.2.2.2.2.2.2.1,Jc.2.2.2.2.2.2.2.2.2.1,Jc.2.2.2.2.2.2.2.2.2.2.1,()))) (y6q (y2m,Jc.2.2.1,Jc.2.2.2.1,Jc.2.2.2.2.1,Jc.2.2.2.2.2.1,Jc.2.2.2.2.2.2.1,Jc.2.2.2.2.2.2.2.1,Jc.2.2.2.2.2.2.2.2.1,Jc.2.2.2.2.2.2.2.2.2.1,Jc.2.2.2.2.2.2.2.2.2.2.1,()))) ((0:Int),y83,[],[ByteArray.mk (Array.mk [102,105,114,115,116]),ByteArray.mk (Array.mk [115,101,99,111,110,100]),ByteArray.mk (Array.mk [116,104,105,114,100]),ByteArray.mk (Array.mk [102,111,117,114,116,104])],Bt.2.2.2.2.2.2.2.2.1,Bt.2.2.2.2.2.2.2.1,Bt.2.2.2.2.2.2.1,Bt.2.2.2.2.2.1,Bt.2.2.2.2.1,Bt.2.2.2.1,Bt.2.1,()))) ((0:Int),[],Ve.2.2.1,Ve.2.2.2.2.2.2.2.1,Ve.2.2.2.2.2.2.1,Ve.2.2.2.2.2.1,Ve.2.2.2.2.1,Ve.2.2.2.1,Ve.2.1,()))) ((0:Int),[],w5k,Zw.2.2.2.2.2.2.1,Zw.2.2.2.2.2.1,Zw.2.2.2.2.1,Zw.2.2.2.1,Zw.2.2.1,()))) ((0:Int),w0a,[],Ql.2.2.2.2.2.1,Ql.2.2.2.2.1,Ql.2.2.1,Ql.2.2.2.1,())) (Qb list Ql.2.1 (3:Int) fun Ju z33=>q3c Ju [ByteArray.mk (Array.mk [108,97]),ByteArray.mk (Array.mk [108,98])] fun J7=>LpH (fun (Qs:Int×Int×List Lay_×List Exper×List Seg×List Flg×Unit) (y8x:Int×Int×List Lay_×List Exper×List Seg×List Flg×Unit->Prop)=>Fits J7->CAt J7 Qs.1 (fun y11=>j2a list Qs.2.1 y11 fun Za w5k=>Sml (Qs.2.2.1++[Za]).length/\InI (Qs.1+1)/\y8x (Qs.1+1,w5k,Qs.2.2.1++[Za],Qs.2.2.2.1,Qs.2.2.2.2.1,Qs.2.2.2.2.2.1,())) (Qb list Qs.2.1 (4:Int) fun Vt w0a=>q3c Vt [ByteArray.mk (Array.mk [120,97]),ByteArray.mk (Array.mk [120,98]),ByteArray.mk (Array.mk [120,99])] fun Zw=>LpH (fun (Za:Int×Int×List Exper×List Flg×List Seg×List Lay_×Unit) (y87:Int×Int×List Exper×List Flg×List Seg×List Lay_×Unit->Prop)=>Fits Zw->Cnd (Za.1<(↑Zw.length:Int)) (Fits Za.2.2.2.1->Cnd ((0:Int)<(↑Za.2.2.2.1.length:Int)) (Fits Za.2.2.2.2.2.1->Cnd ((0:Int)<(↑Za.2.2.2.2.2.1.length:Int)) (At Zw Za.1 fun y17=>Fits Za.2.2.2.1->Qb list Za.2.1 (↑Za.2.2.2.1.length:Int) fun q4m y2m=>At Za.2.2.2.1 q4m fun y21=>Fits Za.2.2.2.2.2.1->Fits y21.3->Qb list y2m (↑Za.2.2.2.2.2.1.length:Int) fun z3j v9k=>At Za.2.2.2.2.2.1 z3j fun y26=>Wo list v9k fun w1d u0s=>Qb list u0s (3:Int) fun y2n u0t=>InI ((1:Int)+y2n)/\q3d list u0t (↑y21.3.length:Int) fun y6r y88=>Jn1 (fun (q6c:Int×Int×List Rng×List Exper×List Lay_×List Flg×List Seg×Unit)=>Jn1 (fun (Zi:Int×ByteArray×ByteArray×List Val×List Ex×Int×List Seg×List Flg×List Lay_×List Exper×List Rng×Unit)=>Bk (Envt.mk (Sett.mk Zj w5m w0b) v9o Zi.2.2.2.2.2.2.1 Zi.2.2.2.2.2.2.2.1 Zi.2.2.2.2.2.2.2.2.1 Zi.2.2.2.2.2.2.2.2.2.1) y26.1 now fun (y6s:List Spn) (_:Int)=>Jt list Zi.2.2.2.2.2.1 (8000:Int) fun (y6t u0u:Int)=>Jt list u0u (8000:Int) fun (v0y y6u:Int)=>Gx y6s [Spn.mk y6t v0y] fun (u0v:List Spn)=>Jt list y6u (7000:Int) fun (u0w y89:Int)=>Gy u0v u0w fun (w1e:List Spn)=>Sml (Zi.2.2.2.2.2.2.2.2.2.1++[Exper.mk y17 y26.1 y21.1 w1d q6c.1 w1e Zi.2.2.2.2.2.2.2.2.2.2.1 (Ex.mk Zi.1 Zi.2.1 Zi.2.2.1 Zi.2.2.2.1 Zi.2.2.2.2.1)]).length/\Ww (Envt.mk (Sett.mk Zj w5m w0b) v9o Zi.2.2.2.2.2.2.1 Zi.2.2.2.2.2.2.2.1 Zi.2.2.2.2.2.2.2.2.1 (Zi.2.2.2.2.2.2.2.2.2.1++[Exper.mk y17 y26.1 y21.1 w1d q6c.1 w1e Zi.2.2.2.2.2.2.2.2.2.2.1 (Ex.mk Zi.1 Zi.2.1 Zi.2.2.1 Zi.2.2.2.1 Zi.2.2.2.2.1)])) fun (u0x:Bool)=>Cnd (u0x=true) (InI (Za.1+1)/\y87 (Za.1+1,y89,Zi.2.2.2.2.2.2.2.2.2.1++[Exper.mk y17 y26.1 y21.1 w1d q6c.1 w1e Zi.2.2.2.2.2.2.2.2.2.2.1 (Ex.mk Zi.1 Zi.2.1 Zi.2.2.1 Zi.2.2.2.1 Zi.2.2.2.2.1)],Zi.2.2.2.2.2.2.2.1,Zi.2.2.2.2.2.2.1,Zi.2.2.2.2.2.2.2.2.1,())) ((Zi.2.2.2.2.2.2.2.2.2.1++[Exper.mk y17 y26.1 y21.1 w1d q6c.1 w1e Zi.2.2.2.2.2.2.2.2.2.2.1 (Ex.mk Zi.1 Zi.2.1 Zi.2.2.1 Zi.2.2.2.1 Zi.2.2.2.2.1)]).length<=(9223372036854775807:Nat)->InI ((↑(Zi.2.2.2.2.2.2.2.2.2.1++[Exper.mk y17 y26.1 y21.1 w1d q6c.1 w1e Zi.2.2.2.2.2.2.2.2.2.2.1 (Ex.mk Zi.1 Zi.2.1 Zi.2.2.1 Zi.2.2.2.1 Zi.2.2.2.2.1)]).length:Int) - 1)/\((0:Int)<=(↑(Zi.2.2.2.2.2.2.2.2.2.1++[Exper.mk y17 y26.1 y21.1 w1d q6c.1 w1e Zi.2.2.2.2.2.2.2.2.2.2.1 (Ex.mk Zi.1 Zi.2.1 Zi.2.2.1 Zi.2.2.2.1 Zi.2.2.2.2.1)]).length:Int) - 1/\(↑(Zi.2.2.2.2.2.2.2.2.2.1++[Exper.mk y17 y26.1 y21.1 w1d q6c.1 w1e Zi.2.2.2.2.2.2.2.2.2.2.1 (Ex.mk Zi.1 Zi.2.1 Zi.2.2.1 Zi.2.2.2.1 Zi.2.2.2.2.1)]).length:Int) - 1<=(↑(Zi.2.2.2.2.2.2.2.2.2.1++[Exper.mk y17 y26.1 y21.1 w1d q6c.1 w1e Zi.2.2.2.2.2.2.2.2.2.2.1 (Ex.mk Zi.1 Zi.2.1 Zi.2.2.1 Zi.2.2.2.1 Zi.2.2.2.2.1)]).length:Int))/\InI (Za.1+1)/\y87 (Za.1+1,y89,List.take ((↑(Zi.2.2.2.2.2.2.2.2.2.1++[Exper.mk y17 y26.1 y21.1 w1d q6c.1 w1e Zi.2.2.2.2.2.2.2.2.2.2.1 (Ex.mk Zi.1 Zi.2.1 Zi.2.2.1 Zi.2.2.2.1 Zi.2.2.2.2.1)]).length:Int) - 1).toNat (Zi.2.2.2.2.2.2.2.2.2.1++[Exper.mk y17 y26.1 y21.1 w1d q6c.1 w1e Zi.2.2.2.2.2.2.2.2.2.2.1 (Ex.mk Zi.1 Zi.2.1 Zi.2.2.1 Zi.2.2.2.1 Zi.2.2.2.2.1)]),Zi.2.2.2.2.2.2.2.1,Zi.2.2.2.2.2.2.1,Zi.2.2.2.2.2.2.2.2.1,()))) fun (y9a:Int×ByteArray×ByteArray×List Val×List Ex×Int×List Seg×List Flg×List Lay_×List Exper×List Rng×Unit->Prop)=>Qb list q6c.2.1 (2:Int) fun (y6s y9b:Int)=>Cnd (y6s=1) (Ru (Envt.mk (Sett.mk Zj w5m w0b) v9o q6c.2.2.2.2.2.2.1 q6c.2.2.2.2.2.1 q6c.2.2.2.2.1 q6c.2.2.2.1) fun (y6t:List ByteArray)=>q41 list y9b y6t (2:Int) fun (v0y:Ex) (y6u:Int)=>y9a (v0y.1,v0y.2,v0y.3,v0y.4,v0y.5,y6u,q6c.2.2.2.2.2.2.1,q6c.2.2.2.2.2.1,q6c.2.2.2.2.1,q6c.2.2.2.1,q6c.2.2.1,())) (y9a ((1:Int),ByteArray.mk (Array.mk []),ByteArray.mk (Array.mk []),[],[],y9b,q6c.2.2.2.2.2.2.1,q6c.2.2.2.2.2.1,q6c.2.2.2.2.1,q6c.2.2.2.1,q6c.2.2.1,()))) fun (y6v:Int×Int×List Rng×List Exper×List Lay_×List Flg×List Seg×Unit->Prop)=>Cnd ((1:Int)+y2n=1) (Qb list y88 (2:Int) fun Zi y9c=>Cnd (Zi=0) (y6v ((2:Int),y9c,y6r,Za.2.2.1,Za.2.2.2.2.2.1,Za.2.2.2.1,Za.2.2.2.2.1,())) (y6v ((1:Int)+y2n,y9c,y6r,Za.2.2.1,Za.2.2.2.2.2.1,Za.2.2.2.1,Za.2.2.2.2.1,()))) (y6v ((1:Int)+y2n,y88,y6r,Za.2.2.1,Za.2.2.2.2.2.1,Za.2.2.2.1,Za.2.2.2.2.1,()))) (Ww (Envt.mk (Sett.mk Zj w5m w0b) v9o Za.2.2.2.2.1 Za.2.2.2.1 Za.2.2.2.2.2.1 Za.2.2.1) fun v9j=>Cnd (v9j=true) (K (Envt.mk (Sett.mk Zj w5m w0b) v9o Za.2.2.2.2.1 Za.2.2.2.1 Za.2.2.2.2.2.1 Za.2.2.1) Za.2.1) (Q3 fun z1n=>K (Envt.mk (Sett.mk (ByteArray.mk (Array.mk [])) (ByteArray.mk (Array.mk [])) (0:Int)) z1n [] [] [] []) Za.2.1))) (Ww (Envt.mk (Sett.mk Zj w5m w0b) v9o Za.2.2.2.2.1 Za.2.2.2.1 Za.2.2.2.2.2.1 Za.2.2.1) fun Bt=>Cnd (Bt=true) (K (Envt.mk (Sett.mk Zj w5m w0b) v9o Za.2.2.2.2.1 Za.2.2.2.1 Za.2.2.2.2.2.1 Za.2.2.1) Za.2.1) (Q3 fun v9j=>K (Envt.mk (Sett.mk (ByteArray.mk (Array.mk [])) (ByteArray.mk (Array.mk [])) (0:Int)) v9j [] [] [] []) Za.2.1))) (Ww (Envt.mk (Sett.mk Zj w5m w0b) v9o Za.2.2.2.2.1 Za.2.2.2.1 Za.2.2.2.2.2.1 Za.2.2.1) fun w77=>Cnd (w77=true) (K (Envt.mk (Sett.mk Zj w5m w0b) v9o Za.2.2.2.2.1 Za.2.2.2.1 Za.2.2.2.2.2.1 Za.2.2.1) Za.2.1) (Q3 fun Bt=>K (Envt.mk (Sett.mk (ByteArray.mk (Array.mk [])) (ByteArray.mk (Array.mk [])) (0:Int)) Bt [] [] [] []) Za.2.1))) ((0:Int),w0a,Qs.2.2.2.1,Qs.2.2.2.2.2.1,Qs.2.2.2.2.1,Qs.2.2.1,()))) ((0:Int),z33,Ql.2.2.2.2.1,Ql.2.2.2.2.2.1,Ql.2.2.2.1,Ql.2.2.1,()))) ((0:Int),Hz,u1c,u1b,u1d,u1e,())) fun w2q=>Qb list at_ (2:Int) fun Qg Zj=>Cnd (Qg=1) (Wo list Zj fun Qi Hz=>Jt list Hz (2500:Int) fun Qe J5=>w2q (Qi,ByteArray.mk (Array.mk [117,115,101,114]),Qe,J5,Qa,())) (w2q (ByteArray.mk (Array.mk []),ByteArray.mk (Array.mk []),(0:Int),Zj,Qa,()))
def Ri:Rh:=q8a J3 q5d Zb z6m Uu z1y z4h H1 z1z Wa z4l q1s q7p q3v q1u q0p q0r Wt
abbrev q4s:Type:=(Envt->Prop)->Prop
def q4t:q4s:=fun K=>K (Envt.mk (Sett.mk (ByteArray.mk (Array.mk [])) (ByteArray.mk (Array.mk [])) (0:Int)) [] [] [Flg.mk (ByteArray.mk (Array.mk [102])) (1:Int) [Val.mk (1:Int) (0:Int) (ByteArray.mk (Array.mk [])) [],Val.mk (1:Int) (1:Int) (ByteArray.mk (Array.mk [])) []] true (1:Int) [] [] [] (Srv.mk (1:Int) (ByteArray.mk (Array.mk [])) (ByteArray.mk (Array.mk [])) (ByteArray.mk (Array.mk [])) [])] [Lay_.mk (ByteArray.mk (Array.mk [108])) (ByteArray.mk (Array.mk [117,115,101,114])) (ByteArray.mk (Array.mk [])) (0:Int) (0:Int) []] [Exper.mk (ByteArray.mk (Array.mk [120])) (ByteArray.mk (Array.mk [108])) (ByteArray.mk (Array.mk [102])) (ByteArray.mk (Array.mk [])) (2:Int) [Spn.mk (0:Int) (10000:Int)] [Rng.mk (0:Int) (10000:Int) (2:Int)] (Ex.mk (1:Int) (ByteArray.mk (Array.mk [])) (ByteArray.mk (Array.mk [])) [] [])])
abbrev U2:Type:=Subj->ByteArray->(Int->Prop)->Prop
def Vj:U2:=fun s kind K=>Fits s.1->Lp1 (fun Qc q1l=>CAt s.1 Qc (fun y2=>Cnd (y2.1=kind) (K Qc) (InI (Qc+1)/\q1l (Qc+1))) (K (-1:Int))) (0:Int)
abbrev V6:Type:=Val->(Val->Prop)->Prop
def Wf:V6:=fun v K=> ∀n0,(n0=true->v.4=[])->Cnd (n0=true) (K (Val.mk v.1 v.2 v.3 [])) (Sml ([]++v.4).length/\K (Val.mk v.1 v.2 v.3 ([]++v.4)))
abbrev U3:Type:=Attr->(Attr->Prop)->Prop
def q30(Zx:V6):U3:=fun a K=>Zx (Val.mk a.2.1 a.2.2 a.2.3 a.2.4) fun Qa=>K (Attr.mk a.1 Qa)
def U4:U3:=q30 Wf
abbrev Rj:Type:=Ctxt->(Ctxt->Prop)->Prop
def q8b(Bl:U3):Rj:=fun c K=>Fits c.3->((0:Int)<=(0:Int)/\(0:Int)<=(↑c.3.length:Int)/\Sml (↑c.3.length:Int).toNat)/\(Fits c.3->Lp2 (fun Qg Zj q5w=>CAt c.3 Zj (fun y3=>Bl (Attr.mk y3.1 (Val.mk y3.2.1 y3.2.2 y3.2.3 y3.2.4)) fun Ql=>Sml (Qg++[Attr.mk Ql.1 (Val.mk Ql.2.1 Ql.2.2 Ql.2.3 Ql.2.4)]).length/\InI (Zj+1)/\q5w (Qg++[Attr.mk Ql.1 (Val.mk Ql.2.1 Ql.2.2 Ql.2.3 Ql.2.4)]) (Zj+1)) (K (Ctxt.mk c.1 c.2 Qg))) (List.replicate (Int.toNat (0:Int)) (Attr.mk (ByteArray.mk (Array.mk [])) (Val.mk (0:Int) (0:Int) (ByteArray.mk (Array.mk [])) []))) (0:Int))
def Rk:Rj:=q8b U4
abbrev Wg:Type:=Subj->ByteArray->(Ctxt->Bool->Prop)->Prop
def q98(J2:U2)(q3l:Rj):Wg:=fun s kind K=>J2 (Subj.mk s.1) kind fun Qa=>Cnd (Qa<0) (K (Ctxt.mk (ByteArray.mk (Array.mk [])) (ByteArray.mk (Array.mk [])) []) false) (At s.1 Qa fun y1=>q3l y1 fun Qi=>K Qi true)
def Wh:Wg:=q98 Vj Rk
abbrev q4u:Type:=List (List Int)->(List (Int)->Prop)->Prop
def B0:q4u:=fun fields K=>Fits fields->Lp2 (fun Qc Z0 z34=>CAt fields Z0 (fun y2=>Lp2 (fun Qe J5 w79=>Cnd ((0:Int)<=J5) (Fits y2->InI ((8:Int)*J5)/\(0:Int)<=(8:Int)*J5/\Sml (Qe++[Go.IntKind.u8.wrap ((Go.IntKind.u64.wrap (↑y2.length:Int)).fdiv ((2:Int) ^ Min.min ((8:Int)*J5).toNat (64:Nat)))]).length/\InI (J5 - 1)/\w79 (Qe++[Go.IntKind.u8.wrap ((Go.IntKind.u64.wrap (↑y2.length:Int)).fdiv ((2:Int) ^ Min.min ((8:Int)*J5).toNat (64:Nat)))]) (J5 - 1)) (Sml (Qe++y2).length/\InI (Z0+1)/\z34 (Qe++y2) (Z0+1))) Qc (7:Int)) (K Qc)) [] (0:Int)
abbrev Gj:Type:=Int->Int->(Int->Prop)->Prop
def Vk:Gj:=fun x k K=>(0:Int)<=Go.IntKind.u64.wrap (↑(BitVec.ofInt (64:Nat) (Go.IntKind.u64.wrap k) &&& BitVec.ofInt (64:Nat) (63:Int)).toNat:Int)/\(0:Int)<=Go.IntKind.u64.wrap ((64:Int) - Go.IntKind.u64.wrap (↑(BitVec.ofInt (64:Nat) (Go.IntKind.u64.wrap k) &&& BitVec.ofInt (64:Nat) (63:Int)).toNat:Int))/\K (Go.IntKind.u64.wrap (↑(BitVec.ofInt (64:Nat) (Go.IntKind.u64.wrap (x*2 ^ Min.min (Go.IntKind.u64.wrap (↑(BitVec.ofInt (64:Nat) (Go.IntKind.u64.wrap k) &&& BitVec.ofInt (64:Nat) (63:Int)).toNat:Int)).toNat (64:Nat)))|||BitVec.ofInt (64:Nat) (x.fdiv ((2:Int) ^ Min.min (Go.IntKind.u64.wrap ((64:Int) - Go.IntKind.u64.wrap (↑(BitVec.ofInt (64:Nat) (Go.IntKind.u64.wrap k) &&& BitVec.ofInt (64:Nat) (63:Int)).toNat:Int))).toNat (64:Nat)))).toNat:Int))
abbrev Ja:Type:=Int->Int->Int->Int->Int->(Int->Int->Int->Int->Prop)->Prop
def Bq(Zt:Gj):Ja:=fun v0 v1 v2 v3 n K=>Lp5 (fun Qa Qv j4l q7e w5l y64=>Cnd (Qa<n) (Zt j4l (13:Int) fun Qc=>Zt (Go.IntKind.u64.wrap (Qv+j4l)) (32:Int) fun Qg=>Zt w5l (16:Int) fun Qi=>Zt (Go.IntKind.u64.wrap (↑(BitVec.ofInt (64:Nat) Qi ^^^ BitVec.ofInt (64:Nat) (Go.IntKind.u64.wrap (q7e+w5l))).toNat:Int)) (21:Int) fun Qe=>Zt (Go.IntKind.u64.wrap (↑(BitVec.ofInt (64:Nat) Qc ^^^ BitVec.ofInt (64:Nat) (Go.IntKind.u64.wrap (Qv+j4l))).toNat:Int)) (17:Int) fun Ql=>Zt (Go.IntKind.u64.wrap (Go.IntKind.u64.wrap (q7e+w5l)+Go.IntKind.u64.wrap (↑(BitVec.ofInt (64:Nat) Qc ^^^ BitVec.ofInt (64:Nat) (Go.IntKind.u64.wrap (Qv+j4l))).toNat:Int))) (32:Int) fun Q4=>InI (Qa+1)/\y64 (Qa+1) (Go.IntKind.u64.wrap (Qg+Go.IntKind.u64.wrap (↑(BitVec.ofInt (64:Nat) Qi ^^^ BitVec.ofInt (64:Nat) (Go.IntKind.u64.wrap (q7e+w5l))).toNat:Int))) (Go.IntKind.u64.wrap (↑(BitVec.ofInt (64:Nat) Ql ^^^ BitVec.ofInt (64:Nat) (Go.IntKind.u64.wrap (Go.IntKind.u64.wrap (q7e+w5l)+Go.IntKind.u64.wrap (↑(BitVec.ofInt (64:Nat) Qc ^^^ BitVec.ofInt (64:Nat) (Go.IntKind.u64.wrap (Qv+j4l))).toNat:Int)))).toNat:Int)) Q4 (Go.IntKind.u64.wrap (↑(BitVec.ofInt (64:Nat) Qe ^^^ BitVec.ofInt (64:Nat) (Go.IntKind.u64.wrap (Qg+Go.IntKind.u64.wrap (↑(BitVec.ofInt (64:Nat) Qi ^^^ BitVec.ofInt (64:Nat) (Go.IntKind.u64.wrap (q7e+w5l))).toNat:Int)))).toNat:Int))) (K Qv j4l q7e w5l)) (0:Int) v0 v1 v2 v3
def Zc:Ja:=Bq Vk
abbrev V7:Type:=Int->Int->Int->Int->Int->(Int->Int->Int->Int->Prop)->Prop
def q2a(Zn:Ja):V7:=fun v0 v1 v2 v3 m K=>Zn v0 v1 v2 (Go.IntKind.u64.wrap (↑(BitVec.ofInt (64:Nat) v3 ^^^ BitVec.ofInt (64:Nat) m).toNat:Int)) (2:Int) fun Qa Qv j4l q7e=>K (Go.IntKind.u64.wrap (↑(BitVec.ofInt (64:Nat) Qa ^^^ BitVec.ofInt (64:Nat) m).toNat:Int)) Qv j4l q7e
def V8:V7:=q2a Zc
abbrev q5m:Type:=Int->Int->List (Int)->(Int->Prop)->Prop
def z4y(Uj:V7)(Zn:Ja):q5m:=fun k0 k1 b K=>Fits b->(0:Int)<=(56:Int)/\Lp5 (fun Qc Z0 z63 j4m y60 y8t=>InI (Qc+8)/\(Fits b->Cnd (Qc+8<=(↑b.length:Int)) (Lp2 (fun Qi Hz w1c=>Cnd (Hz<8) (InI (Qc+Hz)/\At b (Qc+Hz) fun y4=>InI ((8:Int)*Hz)/\(0:Int)<=(8:Int)*Hz/\InI (Hz+1)/\w1c (Go.IntKind.u64.wrap (↑(BitVec.ofInt (64:Nat) Qi|||BitVec.ofInt (64:Nat) (Go.IntKind.u64.wrap (Go.IntKind.u64.wrap y4*2 ^ Min.min ((8:Int)*Hz).toNat (64:Nat)))).toNat:Int)) (Hz+1)) (Uj Z0 z63 j4m y60 Qi fun Qe J5 j12 v9n=>InI (Qc+8)/\y8t (Qc+8) Qe J5 j12 v9n)) (0:Int) (0:Int)) (Fits b->(8:Int)≠(0:Int)/\Lp2 (fun Qe J5 w79=>Cnd (J5<(↑b.length:Int).tmod (8:Int)) (Fits b->Fits b->(8:Int)≠(0:Int)/\InI ((↑b.length:Int) - (↑b.length:Int).tmod (8:Int))/\InI ((↑b.length:Int) - (↑b.length:Int).tmod (8:Int)+J5)/\((0:Int)<=(↑b.length:Int) - (↑b.length:Int).tmod (8:Int)+J5/\(↑b.length:Int) - (↑b.length:Int).tmod (8:Int)+J5<(↑b.length:Int))/\ ∀y7,b[((↑b.length:Int) - (↑b.length:Int).tmod (8:Int)+J5).toNat]? =some y7->InI ((8:Int)*J5)/\(0:Int)<=(8:Int)*J5/\InI (J5+1)/\w79 (Go.IntKind.u64.wrap (↑(BitVec.ofInt (64:Nat) Qe|||BitVec.ofInt (64:Nat) (Go.IntKind.u64.wrap (Go.IntKind.u64.wrap y7*2 ^ Min.min ((8:Int)*J5).toNat (64:Nat)))).toNat:Int)) (J5+1)) (Uj Z0 z63 j4m y60 Qe fun Ql q7f u0f u1f=>Zn Ql q7f (Go.IntKind.u64.wrap (↑(BitVec.ofInt (64:Nat) u0f ^^^ BitVec.ofInt (64:Nat) (255:Int)).toNat:Int)) u1f (4:Int) fun Q4 z32 y3t y6j=>K (Go.IntKind.u64.wrap (↑(BitVec.ofInt (64:Nat) (Go.IntKind.u64.wrap (↑(BitVec.ofInt (64:Nat) (Go.IntKind.u64.wrap (↑(BitVec.ofInt (64:Nat) Q4 ^^^ BitVec.ofInt (64:Nat) z32).toNat:Int)) ^^^ BitVec.ofInt (64:Nat) y3t).toNat:Int)) ^^^ BitVec.ofInt (64:Nat) y6j).toNat:Int)))) (Go.IntKind.u64.wrap (Go.IntKind.u64.wrap (↑b.length:Int)*2 ^ Min.min (Int.toNat (56:Int)) (64:Nat))) (0:Int)))) (0:Int) (Go.IntKind.u64.wrap (↑(BitVec.ofInt (64:Nat) k0 ^^^ BitVec.ofInt (64:Nat) (8317987319222330741:Int)).toNat:Int)) (Go.IntKind.u64.wrap (↑(BitVec.ofInt (64:Nat) k1 ^^^ BitVec.ofInt (64:Nat) (7237128888997146477:Int)).toNat:Int)) (Go.IntKind.u64.wrap (↑(BitVec.ofInt (64:Nat) k0 ^^^ BitVec.ofInt (64:Nat) (7816392313619706465:Int)).toNat:Int)) (Go.IntKind.u64.wrap (↑(BitVec.ofInt (64:Nat) k1 ^^^ BitVec.ofInt (64:Nat) (8387220255154660723:Int)).toNat:Int))
def q5n:q5m:=z4y V8 Zc
abbrev q2b:Type:=Int->List (List Int)->(Int->Prop)->Prop
def z17(q46:q4u)(q91:q5m):q2b:=fun domain fields K=>q46 fields fun Qa=>q91 domain (0:Int) Qa fun Qc=>K Qc
def q2c:q2b:=z17 B0 q5n
abbrev q0t:Type:=ByteArray->ByteArray->(Int->Prop)->Prop
def z8u(q6y:q2b):q0t:=fun salt key K=>Sml salt.size/\Sml key.size/\q6y (1:Int) [List.map (fun b=>(↑b.toNat:Int)) (salt,key,()).1.data.toList,List.map (fun b=>(↑b.toNat:Int)) (salt,key,()).2.1.data.toList] fun Qa=>(10000:Int)≠(0:Int)/\InI (Qa.tmod (10000:Int))/\K (Qa.tmod (10000:Int))
def Gk:q0t:=z8u q2c
abbrev q2d:Type:=List (Frc)->ByteArray->(Frc->Bool->Prop)->Prop
def Rl:q2d:=fun l layer K=>Fits l->Lp4 (fun Qc Z0 z63 j4m u1g=>CAt l Qc (fun y2=>Cnd (y2.1=layer) (K y2 true) (InI (Qc+1)/\u1g (Qc+1) Z0 z63 j4m)) (K (Frc.mk (ByteArray.mk (Array.mk [])) (ByteArray.mk (Array.mk [])) (0:Int)) false)) (0:Int) (ByteArray.mk (Array.mk [])) (ByteArray.mk (Array.mk [])) (0:Int)
abbrev q6j:Type:=Envt->Frc->(Bool->Prop)->Prop
def q2e:q6j:=fun v f K=>Fits v.6->Lp1 (fun Qc q1l=>CAt v.6 Qc (fun y2=>Cnd (y2.1=f.2) (Cnd (y2.2=f.1) (Cnd (y2.5=2) (Fits y2.7->Lp1 (fun Ql j6t=>CAt y2.7 Ql (fun y6=>Cnd (y6.3=f.3) (Cnd ((0:Int)<=Ql) (K (decide ((0:Int)<=Qc))) (InI (Qc+1)/\q1l (Qc+1))) (InI (Ql+1)/\j6t (Ql+1))) (Cnd ((0:Int)<=(-1:Int)) (K (decide ((0:Int)<=Qc))) (InI (Qc+1)/\q1l (Qc+1)))) (0:Int)) (InI (Qc+1)/\q1l (Qc+1))) (InI (Qc+1)/\q1l (Qc+1))) (InI (Qc+1)/\q1l (Qc+1))) (K (decide ((0:Int)<=(-1:Int))))) (0:Int)
abbrev q2f:Type:=Envt->Subj->(Bool->Prop)->Prop
def z18(Zq:Wg)(Up:q0t):q2f:=fun v s K=>Cnd (v.1.3<=0) (K false) (Zq (Subj.mk s.1) v.1.2 fun Qa Qv=>Cnd (Qv=true) (Up v.1.1 Qa.2 fun Qc=>K (decide (Qc<v.1.3))) (K false))
def q2g:q2f:=z18 Wh Gk
abbrev R3:Type:=Int->(Bool->Prop)->Prop
def V9:R3:=fun op K=>Cnd ((6:Int)<=op) (K (decide (op<=15))) (K false)
abbrev Zd:Type:=List (ByteArray)->List (ByteArray)->(Bool->Prop)->Prop
def Q1:Zd:=fun s1 s2 K=>Fits s1->Fits s2->Cnd ((↑s1.length:Int)=(↑s2.length:Int)) (Fits s1->Lp1 (fun Qi z9z=>CAt s1 Qi (fun y4=>At s2 Qi fun y6=>Cnd (y4=y6) (InI (Qi+1)/\z9z (Qi+1)) (K false)) (K true)) (0:Int)) (K false)
abbrev q5o:Type:=Val->Val->(Bool->Prop)->Prop
def z4z(Qo:Zd):q5o:=fun a b K=>Cnd (a.1=b.1) (Cnd (a.2=b.2) (Cnd (a.3=b.3) (Qo a.4 b.4 fun Qa=>K Qa) (K false)) (K false)) (K false)
def q1g:q5o:=z4z Q1
abbrev Rm:Type:=Ex->Ex->(Bool->Prop)->Prop
def z8v(q92:q5o)(X:Rm):Rm:=fun a b K=>Cnd (a.1=b.1) (Cnd (a.2=b.2) (Cnd (a.3=b.3) (Fits a.4->Fits b.4->Cnd ((↑a.4.length:Int)=(↑b.4.length:Int)) (Fits a.4->Lp1 (fun Qi z9z=>CAt a.4 Qi (fun y4=>At b.4 Qi fun y6=>q92 y4 y6 fun J7=>Cnd (J7=true) (InI (Qi+1)/\z9z (Qi+1)) (K false)) (Fits a.5->Fits b.5->Cnd ((↑a.5.length:Int)=(↑b.5.length:Int)) (Fits a.5->Lp1 (fun Ju y8z=>CAt a.5 Ju (fun y8=>At b.5 Ju fun y10=>X (Ex.mk y8.1 y8.2 y8.3 y8.4 y8.5) (Ex.mk y10.1 y10.2 y10.3 y10.4 y10.5) fun Zw=>Cnd (Zw=true) (InI (Ju+1)/\y8z (Ju+1)) (K false)) (K true)) (0:Int)) (K false))) (0:Int)) (K false)) (K false)) (K false)) (K false)
def q0u:Rm:=fun a b K=> ∀X:Rm,(∀a b K,z8v q1g X a b K->X a b K)->X a b K
abbrev Vc:Type:=List (Ex)->Ex->(List (Ex)->Prop)->Prop
def q99(W6:R3)(q89:Rm)(X:Vc):Vc:=fun l e K=>Jn1 (fun Qa=>Fits e.5->Lp2 (fun Qg Zj q5w=>CAt e.5 Zj (fun y3=>X Qg (Ex.mk y3.1 y3.2 y3.3 y3.4 y3.5) fun Ql=>InI (Zj+1)/\q5w Ql (Zj+1)) (K Qg)) Qa (0:Int)) fun z1o=>W6 e.1 fun Qc=>Cnd (Qc=true) (Fits l->Lp1 (fun Qi z9z=>CAt l Qi (fun y4=>q89 (Ex.mk y4.1 y4.2 y4.3 y4.4 y4.5) (Ex.mk e.1 e.2 e.3 e.4 e.5) fun Q4=>Cnd (Q4=true) (Cnd ((0:Int)<=Qi) (z1o l) (Sml (l++[Ex.mk e.1 e.2 e.3 e.4 e.5]).length/\z1o (l++[Ex.mk e.1 e.2 e.3 e.4 e.5]))) (InI (Qi+1)/\z9z (Qi+1))) (Cnd ((0:Int)<=(-1:Int)) (z1o l) (Sml (l++[Ex.mk e.1 e.2 e.3 e.4 e.5]).length/\z1o (l++[Ex.mk e.1 e.2 e.3 e.4 e.5])))) (0:Int)) (Cnd (e.1=5) (Fits l->Lp1 (fun Qi z9z=>CAt l Qi (fun y4=>q89 (Ex.mk y4.1 y4.2 y4.3 y4.4 y4.5) (Ex.mk e.1 e.2 e.3 e.4 e.5) fun Q4=>Cnd (Q4=true) (Cnd ((0:Int)<=Qi) (z1o l) (Sml (l++[Ex.mk e.1 e.2 e.3 e.4 e.5]).length/\z1o (l++[Ex.mk e.1 e.2 e.3 e.4 e.5]))) (InI (Qi+1)/\z9z (Qi+1))) (Cnd ((0:Int)<=(-1:Int)) (z1o l) (Sml (l++[Ex.mk e.1 e.2 e.3 e.4 e.5]).length/\z1o (l++[Ex.mk e.1 e.2 e.3 e.4 e.5])))) (0:Int)) (z1o l))
def B1:Vc:=fun l e K=> ∀X:Vc,(∀l e K,q99 V9 q0u X l e K->X l e K)->X l e K
abbrev Ge:Type:=Ex->(Ex->Prop)->Prop
def z40(Zx:V6)(X:Ge):Ge:=fun e K=>Fits e.4->((0:Int)<=(0:Int)/\(0:Int)<=(↑e.4.length:Int)/\Sml (↑e.4.length:Int).toNat)/\(Fits e.4->Lp2 (fun Qg Zj q5w=>CAt e.4 Zj (fun y3=>Zx y3 fun Ql=>Sml (Qg++[Ql]).length/\InI (Zj+1)/\q5w (Qg++[Ql]) (Zj+1)) (Fits e.5->((0:Int)<=(0:Int)/\(0:Int)<=(↑e.5.length:Int)/\Sml (↑e.5.length:Int).toNat)/\(Fits e.5->Lp2 (fun Ql q7f y80=>CAt e.5 q7f (fun y6=>X (Ex.mk y6.1 y6.2 y6.3 y6.4 y6.5) fun J7=>Sml (Ql++[Ex.mk J7.1 J7.2 J7.3 J7.4 J7.5]).length/\InI (q7f+1)/\y80 (Ql++[Ex.mk J7.1 J7.2 J7.3 J7.4 J7.5]) (q7f+1)) (K (Ex.mk e.1 e.2 e.3 Qg Ql))) (List.replicate (Int.toNat (0:Int)) (Ex.mk (0:Int) (ByteArray.mk (Array.mk [])) (ByteArray.mk (Array.mk [])) [] [])) (0:Int)))) (List.replicate (Int.toNat (0:Int)) (Val.mk (0:Int) (0:Int) (ByteArray.mk (Array.mk [])) [])) (0:Int))
def q5p:Ge:=fun e K=> ∀X:Ge,(∀e K,z40 Wf X e K->X e K)->X e K
abbrev B2:Type:=Ex->(List (Ex)->Prop)->Prop
def z0a(q47:Vc)(q93:Ge):B2:=fun e K=>q47 [] (Ex.mk e.1 e.2 e.3 e.4 e.5) fun Qa=>Fits Qa->((0:Int)<=(0:Int)/\(0:Int)<=(↑Qa.length:Int)/\Sml (↑Qa.length:Int).toNat)/\(Fits Qa->Lp2 (fun Qi Hz w1c=>CAt Qa Hz (fun y4=>q93 (Ex.mk y4.1 y4.2 y4.3 y4.4 y4.5) fun Q4=>Sml (Qi++[Ex.mk Q4.1 Q4.2 Q4.3 Q4.4 Q4.5]).length/\InI (Hz+1)/\w1c (Qi++[Ex.mk Q4.1 Q4.2 Q4.3 Q4.4 Q4.5]) (Hz+1)) (K Qi)) (List.replicate (Int.toNat (0:Int)) (Ex.mk (0:Int) (ByteArray.mk (Array.mk [])) (ByteArray.mk (Array.mk [])) [] [])) (0:Int))
def q4v:B2:=z0a B1 q5p
abbrev Zu:Type:=List (ByteArray)->(List (ByteArray)->Prop)->Prop
def Zh(x:List (ByteArray))(K:List (ByteArray)->Prop):Prop:=K (srt x)
abbrev Wc:Type:=List (ByteArray)->(List (ByteArray)->Prop)->Prop
def Z5(s:List (ByteArray))(K:List (ByteArray)->Prop):Prop:=K (cpt s)
abbrev Hb:Type:=Ex->(List (ByteArray)->Prop)->Prop
def q52(q48:B2)(Qr:Zu)(Z8:Wc):Hb:=fun e K=>q48 (Ex.mk e.1 e.2 e.3 e.4 e.5) fun Qa=>Fits Qa->Lp2 (fun Qg Zj q5w=>CAt Qa Zj (fun y3=>Cnd (y3.1=5) (Sml (Qg++[y3.3]).length/\InI (Zj+1)/\q5w (Qg++[y3.3]) (Zj+1)) (InI (Zj+1)/\q5w Qg (Zj+1))) (Qr Qg fun Qi=>Z8 Qi fun Qe=>K Qe)) [] (0:Int)
def Hc:Hb:=q52 q4v Zh Z5
abbrev z19:Type:=List (ByteArray)->List (Edg)->(List (ByteArray)->Int->Prop)->Prop
def P_graph_Order(nodes:List (ByteArray))(edges:List (Edg))(K:List (ByteArray)->Int->Prop):Prop:=Go.Fl.P_graph_Order nodes (edges.map fun e=>(e.1,e.2)) K
abbrev Rn:Type:=List (Seg)->(List (ByteArray)->Int->Prop)->Prop
def q8c(q0h:Hb)(q6z:z19):Rn:=fun l K=>Fits l->Lp3 (fun Qc Z0 z63 y2i=>CAt l z63 (fun y2=>Sml (Qc++[y2.1]).length/\q0h (Ex.mk y2.5.1 y2.5.2 y2.5.3 y2.5.4 y2.5.5) fun Qe=>Fits Qe->Lp2 (fun Q4 z32 y6i=>CAt Qe z32 (fun y7=>Sml (Q4++[Edg.mk y2.1 y7]).length/\InI (z32+1)/\y6i (Q4++[Edg.mk y2.1 y7]) (z32+1)) (InI (z63+1)/\y2i (Qc++[y2.1]) Q4 (z63+1))) Z0 (0:Int)) (q6z Qc Z0 fun Qg Zj=>K Qg Zj)) [] [] (0:Int)
def Rp:Rn:=q8c Hc P_graph_Order
abbrev Hd:Type:=Subj->ByteArray->ByteArray->(Val->Bool->Prop)->Prop
def q53(J2:U2)(Zx:V6):Hd:=fun s kind name K=>J2 (Subj.mk s.1) kind fun Qa=>Cnd (Qa<0) (K (Val.mk (0:Int) (0:Int) (ByteArray.mk (Array.mk [])) []) false) (At s.1 Qa fun y1=>Cnd (name=ByteArray.mk (Array.mk [107,101,121])) (K (Val.mk (3:Int) (0:Int) y1.2 []) true) (Fits y1.3->Lp5 (fun Qe J5 j12 v9n (u0e:List ByteArray) y9g=>CAt y1.3 Qe (fun y5=>Cnd (y5.1=name) (Zx (Val.mk y5.2.1 y5.2.2 y5.2.3 y5.2.4) fun Ju=>K Ju true) (InI (Qe+1)/\y9g (Qe+1) J5 j12 v9n u0e)) (K (Val.mk (0:Int) (0:Int) (ByteArray.mk (Array.mk [])) []) false)) (0:Int) (0:Int) (0:Int) (ByteArray.mk (Array.mk [])) []))
def He:Hd:=q53 Vj Wf
abbrev q2h:Type:=Val->Val->(Bool->Prop)->Prop
def z2a(Qo:Zd):q2h:=fun a b K=>Cnd (a.1=b.1) (Cnd (a.2=b.2) (Cnd (a.3=b.3) (Qo a.4 b.4 fun Qa=>K Qa) (K false)) (K false)) (K false)
def R4:q2h:=z2a Q1
abbrev Z6:Type:=ByteArray->ByteArray->(Bool->Prop)->Prop
def Zs:Z6:=fun s prefix_ K=>Cnd ((↑prefix_.size:Int)<=(↑s.size:Int)) (((0:Int)<=(0:Int)/\(0:Int)<=(↑prefix_.size:Int)/\(↑prefix_.size:Int)<=(↑s.size:Int))/\K (decide (s.extract (Int.toNat (0:Int)) (↑prefix_.size:Int).toNat=prefix_))) (K false)
abbrev Vl:Type:=ByteArray->ByteArray->(Bool->Prop)->Prop
def q0v(Q7:Z6):Vl:=fun s prefix_ K=>Q7 s prefix_ fun Qa=>K Qa
def Vm:Vl:=q0v Zs
abbrev Wy:Type:=ByteArray->ByteArray->(Bool->Prop)->Prop
def Wz:Wy:=fun s suffix K=>Cnd ((↑suffix.size:Int)<=(↑s.size:Int)) (InI ((↑s.size:Int) - (↑suffix.size:Int))/\((0:Int)<=(↑s.size:Int) - (↑suffix.size:Int)/\(↑s.size:Int) - (↑suffix.size:Int)<=(↑s.size:Int)/\(↑s.size:Int)<=(↑s.size:Int))/\K (decide (s.extract ((↑s.size:Int) - (↑suffix.size:Int)).toNat (↑s.size:Int).toNat=suffix))) (K false)
abbrev Vn:Type:=ByteArray->ByteArray->(Bool->Prop)->Prop
def q0w(W7:Wy):Vn:=fun s suffix K=>W7 s suffix fun Qa=>K Qa
def Vo:Vn:=q0w Wz
abbrev q2i:Type:=ByteArray->ByteArray->(Bool->Prop)->Prop
def Hq(s:ByteArray)(substr:ByteArray)(K:Bool->Prop):Prop:=s.size<4294967281/\K (Go.Lib.contains s.data.toList substr.data.toList)
abbrev q6k:Type:=Val->(Bool->Prop)->Prop
def q2j:q6k:=fun v K=>Jn1 (fun Qa=>Cnd (Qa=true) (Cnd (v.3=ByteArray.mk (Array.mk [])) (Fits v.4->K (decide ((↑v.4.length:Int)=0))) (K false)) (Jn1 (fun Qc=>Cnd (Qc=true) (Cnd (v.2=0) (Fits v.4->K (decide ((↑v.4.length:Int)=0))) (K false)) (Cnd (v.2=0) (K (decide (v.3=ByteArray.mk (Array.mk [])))) (K false))) fun w2q=>Cnd (v.1=3) (w2q (decide (v.1=3))) (w2q (decide (v.1=4))))) fun z1o=>Cnd (v.1=1) (z1o (decide (v.1=1))) (z1o (decide (v.1=2)))
abbrev q5q:Type:=ByteArray->(Bool->Prop)->Prop
def z41(Zv:V1):q5q:=fun s K=>Cnd ((200:Int)<(↑s.size:Int)) (K false) (Zv s fun Qa=>Cnd (Qa=true) (Lp1 (fun (Qc:ByteArray×Nat) q1l=>Cnd (Qc.2<Qc.1.size) (Cnd ((↑(Go.Utf8.decode Qc.1 Qc.2).1:Int)<(32:Int)) (K false) (Cnd ((↑(Go.Utf8.decode Qc.1 Qc.2).1:Int)=(127:Int)) (K false) (q1l (Qc.1,Qc.2+(Go.Utf8.decode Qc.1 Qc.2).2)))) (K true)) (s,(0:Nat))) (K false))
def q5r:q5q:=z41 Jy
abbrev q8d:Type:=ByteArray->ByteArray->(List (ByteArray)->Prop)->Prop
def q2k(s:ByteArray)(sep:ByteArray)(K:List (ByteArray)->Prop):Prop:=sep.size=1/\s.size<4294967281/\K (q08 s sep)
abbrev Jz:Type:=ByteArray->ByteArray->(ByteArray->Bool->Prop)->Prop
def Gl(Q7:Z6):Jz:=fun s prefix_ K=>Q7 s prefix_ fun Qa=>Cnd (Qa=true) (((0:Int)<=(↑prefix_.size:Int)/\(↑prefix_.size:Int)<=(↑s.size:Int)/\(↑s.size:Int)<=(↑s.size:Int))/\K (s.extract (↑prefix_.size:Int).toNat (↑s.size:Int).toNat) true) (K s false)
def W0:Jz:=Gl Zs
abbrev Vp:Type:=ByteArray->ByteArray->(ByteArray->Bool->Prop)->Prop
def q0x(W8:Jz):Vp:=fun s prefix_ K=>W8 s prefix_ fun Qa Qv=>K Qa Qv
def Vq:Vp:=q0x W0
abbrev z0b:Type:=ByteArray->(Int->Bool->Prop)->Prop
def B3(s:ByteArray)(K:Int->Bool->Prop):Prop:=s.size<=281474976710656/\y06 s K
abbrev Ua:Type:=ByteArray->(Int->Int->Prop)->Prop
def q2l(Gz:Vp)(B7:z0b):Ua:=fun s K=>Gz s (ByteArray.mk (Array.mk [45])) fun Qa Qv=>Cnd (Qa=ByteArray.mk (Array.mk [])) (K (0:Int) (1:Int)) (((0:Int)<=(0:Int)/\(0:Int)<(↑Qa.size:Int))/\ ∀b1,Qa[Int.toNat (0:Int)]? =some b1->Cnd ((↑b1.toNat:Int)=48) (Cnd ((1:Int)<(↑Qa.size:Int)) (K (0:Int) (1:Int)) (Cnd (Qv=true) (K (0:Int) (1:Int)) (Lp1 (fun (Qi:ByteArray×Nat) z9z=>Cnd (Qi.2<Qi.1.size) (Cnd ((↑(Go.Utf8.decode Qi.1 Qi.2).1:Int)<(48:Int)) (K (0:Int) (1:Int)) (Cnd ((57:Int)<(↑(Go.Utf8.decode Qi.1 Qi.2).1:Int)) (K (0:Int) (1:Int)) (z9z (Qi.1,Qi.2+(Go.Utf8.decode Qi.1 Qi.2).2)))) (B7 s fun Qe J5=>Cnd ((match (Qe,J5,()).2.1 with|true=>false|false=>true)=true) (K (0:Int) (3:Int)) (Cnd (Qe<(-1099511627776:Int)) (K (0:Int) (3:Int)) (Cnd ((1099511627776:Int)<Qe) (K (0:Int) (3:Int)) (K Qe (0:Int)))))) (Qa,(0:Nat))))) (Lp1 (fun (Qi:ByteArray×Nat) z9z=>Cnd (Qi.2<Qi.1.size) (Cnd ((↑(Go.Utf8.decode Qi.1 Qi.2).1:Int)<(48:Int)) (K (0:Int) (1:Int)) (Cnd ((57:Int)<(↑(Go.Utf8.decode Qi.1 Qi.2).1:Int)) (K (0:Int) (1:Int)) (z9z (Qi.1,Qi.2+(Go.Utf8.decode Qi.1 Qi.2).2)))) (B7 s fun Qe J5=>Cnd ((match (Qe,J5,()).2.1 with|true=>false|false=>true)=true) (K (0:Int) (3:Int)) (Cnd (Qe<(-1099511627776:Int)) (K (0:Int) (3:Int)) (Cnd ((1099511627776:Int)<Qe) (K (0:Int) (3:Int)) (K Qe (0:Int)))))) (Qa,(0:Nat))))
def Ub:Ua:=q2l Vq B3
abbrev Gm:Type:=ByteArray->(A3->Bool->Prop)->Prop
def z2b(q3m:q8d)(Hu:Ua):Gm:=fun s K=>q3m s (ByteArray.mk (Array.mk [46])) fun Qa=>Fits Qa->Cnd ((↑Qa.length:Int)=3) (Fits Qa->LpH (fun (Qi:Int×Int×Int×Int×Int×Int×Int×Unit) z9z=>CAt Qa Qi.1 (fun y4=>Hu y4 fun Q4 z32=>Cnd (z32=0) (Cnd (Q4<0) (K ((0:Int),(0:Int),(0:Int)) false) (Cnd ((999999:Int)<Q4) (K ((0:Int),(0:Int),(0:Int)) false) (((0:Int)<=Qi.1/\Qi.1<(↑(3:Nat):Int))/\((True/\(Qi.1=(↑(nat_lit 0):Int)->InI (Qi.1+1)/\z9z (Qi.1+1,Q4,Qi.2.2.1,Qi.2.2.2.1,Qi.2.2.2.2.1,Qi.2.2.2.2.2.1,Qi.2.2.2.2.2.2.1,())))/\(Qi.1=(↑(nat_lit 1):Int)->InI (Qi.1+1)/\z9z (Qi.1+1,Qi.2.1,Q4,Qi.2.2.2.1,Qi.2.2.2.2.1,Qi.2.2.2.2.2.1,Qi.2.2.2.2.2.2.1,())))/\(Qi.1=(↑(nat_lit 2):Int)->InI (Qi.1+1)/\z9z (Qi.1+1,Qi.2.1,Qi.2.2.1,Q4,Qi.2.2.2.2.1,Qi.2.2.2.2.2.1,Qi.2.2.2.2.2.2.1,()))))) (K ((0:Int),(0:Int),(0:Int)) false)) (K (Qi.2.1,Qi.2.2.1,Qi.2.2.2.1) true)) ((0:Int),(0:Int),(0:Int),(0:Int),(0:Int),(0:Int),(0:Int),())) (K ((0:Int),(0:Int),(0:Int)) false)
def Gn:Gm:=z2b q2k Ub
abbrev q2m:Type:=Val->(Int->Prop)->Prop
def z2c(q60:q6k)(q5v:q5q)(Wj:Gm):q2m:=fun v K=>Cnd (v.1<1) (K (7:Int)) (Cnd ((5:Int)<v.1) (K (7:Int)) (q60 v fun Qa=>Cnd (Qa=true) (Cnd (v.1=1) (Cnd (v.2=0) (K (0:Int)) (Cnd (v.2=1) (K (0:Int)) (K (3:Int)))) (Cnd (v.1=2) (Cnd (v.2<(-1099511627776:Int)) (K (3:Int)) (Cnd ((1099511627776:Int)<v.2) (K (3:Int)) (K (0:Int)))) (Cnd (v.1=3) (q5v v.3 fun Qc=>Cnd (Qc=true) (K (0:Int)) (K (2:Int))) (Cnd (v.1=4) (Wj v.3 fun (_:Int×Int×Int) Z0=>Cnd (Z0=true) (K (0:Int)) (K (1:Int))) (Cnd (v.1=5) (Fits v.4->Cnd ((20:Int)<(↑v.4.length:Int)) (K (5:Int)) (Fits v.4->Lp1 (fun Qi z9z=>CAt v.4 Qi (fun y4=>q5v y4 fun Q4=>Cnd (Q4=true) (InI (Qi+1)/\z9z (Qi+1)) (K (2:Int))) (Fits v.4->Lp1 (fun Ql j6t=>Cnd (Ql<(↑v.4.length:Int)) (Cnd ((0:Int)<Ql) (InI (Ql - 1)/\((0:Int)<=Ql - 1/\Ql - 1<(↑v.4.length:Int))/\ ∀y6,v.4[(Ql - 1).toNat]? =some y6->At v.4 Ql fun y8=>Cnd (Lk.blt y6 y8) (InI (Ql+1)/\j6t (Ql+1)) (K (9:Int))) (InI (Ql+1)/\j6t (Ql+1))) (K (0:Int))) (0:Int))) (0:Int))) (K (0:Int))))))) (K (15:Int))))
def q2n:q2m:=z2c q2j q5r Gn
abbrev Rq:Type:=Val->Val->(Int->Int->Prop)->Prop
def q8e(q3n:q2m)(Wj:Gm):Rq:=fun a b K=>q3n a fun Qa=>Cnd (Qa=0) (q3n b fun Qc=>Cnd (Qc=0) (Cnd (a.1=b.1) (Cnd (a.1=1) (K (0:Int) (8:Int)) (Cnd (a.1=5) (K (0:Int) (8:Int)) (Cnd (a.1=2) (Cnd (a.2=a.2) (Cnd (b.2=b.2) (Cnd (a.2<b.2) (K (-1:Int) (0:Int)) (Cnd (b.2<a.2) (K (1:Int) (0:Int)) (K (0:Int) (0:Int)))) (K (1:Int) (0:Int))) (Cnd (b.2=b.2) (K (-1:Int) (0:Int)) (K (0:Int) (0:Int)))) (Cnd (a.1=3) (Cnd (a.3=a.3) (Cnd (b.3=b.3) (Cnd (Lk.blt a.3 b.3) (K (-1:Int) (0:Int)) (Cnd (Lk.blt b.3 a.3) (K (1:Int) (0:Int)) (K (0:Int) (0:Int)))) (K (1:Int) (0:Int))) (Cnd (b.3=b.3) (K (-1:Int) (0:Int)) (K (0:Int) (0:Int)))) (Wj a.3 fun (Qg:Int×Int×Int) _=>Wj b.3 fun (Qi:Int×Int×Int) _=>([Qg.1,Qg.2.1,Qg.2.2].length<=(9223372036854775807:Nat)->Lp1 (fun Ql j6t=>Cnd (Ql<(↑[Qg.1,Qg.2.1,Qg.2.2].length:Int)) (((0:Int)<=Ql/\Ql<(↑[Qg.1,Qg.2.1,Qg.2.2].length:Int))/\ ∀y6,[Qg.1,Qg.2.1,Qg.2.2][Ql.toNat]? =some y6->[Qi.1,Qi.2.1,Qi.2.2].length<=(9223372036854775807:Nat)->Cnd ((↑[Qi.1,Qi.2.1,Qi.2.2].length:Int)<=Ql) (K (1:Int) (0:Int)) (((0:Int)<=Ql/\Ql<(↑[Qi.1,Qi.2.1,Qi.2.2].length:Int))/\ ∀y9,[Qi.1,Qi.2.1,Qi.2.2][Ql.toNat]? =some y9->Cnd (y6=y6) (Cnd (y9=y9) (Cnd (y6<y9) (Cnd ((-1:Int)=(0:Int)) (InI (Ql+1)/\j6t (Ql+1)) (K (-1:Int) (0:Int))) (Cnd (y9<y6) (Cnd ((1:Int)=(0:Int)) (InI (Ql+1)/\j6t (Ql+1)) (K (1:Int) (0:Int))) (Cnd ((0:Int)=(0:Int)) (InI (Ql+1)/\j6t (Ql+1)) (K (0:Int) (0:Int))))) (Cnd ((1:Int)=(0:Int)) (InI (Ql+1)/\j6t (Ql+1)) (K (1:Int) (0:Int)))) (Cnd (y9=y9) (Cnd ((-1:Int)=(0:Int)) (InI (Ql+1)/\j6t (Ql+1)) (K (-1:Int) (0:Int))) (Cnd ((0:Int)=(0:Int)) (InI (Ql+1)/\j6t (Ql+1)) (K (0:Int) (0:Int)))))) ([Qg.1,Qg.2.1,Qg.2.2].length<=(9223372036854775807:Nat)->[Qi.1,Qi.2.1,Qi.2.2].length<=(9223372036854775807:Nat)->Cnd ((↑[Qg.1,Qg.2.1,Qg.2.2].length:Int)<(↑[Qi.1,Qi.2.1,Qi.2.2].length:Int)) (K (-1:Int) (0:Int)) (K (0:Int) (0:Int)))) (0:Int))/\([Qg.1,Qg.2.1,Qg.2.2].length<=(9223372036854775807:Nat)->Lp1 (fun Ql j6t=>Cnd (Ql<(↑[Qg.1,Qg.2.1,Qg.2.2].length:Int)) (((0:Int)<=Ql/\Ql<(↑[Qg.1,Qg.2.1,Qg.2.2].length:Int))/\ ∀y6,[Qg.1,Qg.2.1,Qg.2.2][Ql.toNat]? =some y6->[Qi.1,Qi.2.1,Qi.2.2].length<=(9223372036854775807:Nat)->Cnd ((↑[Qi.1,Qi.2.1,Qi.2.2].length:Int)<=Ql) (K (1:Int) (0:Int)) (((0:Int)<=Ql/\Ql<(↑[Qi.1,Qi.2.1,Qi.2.2].length:Int))/\ ∀y9,[Qi.1,Qi.2.1,Qi.2.2][Ql.toNat]? =some y9->Cnd (y6=y6) (Cnd (y9=y9) (Cnd (y6<y9) (Cnd ((-1:Int)=(0:Int)) (InI (Ql+1)/\j6t (Ql+1)) (K (-1:Int) (0:Int))) (Cnd (y9<y6) (Cnd ((1:Int)=(0:Int)) (InI (Ql+1)/\j6t (Ql+1)) (K (1:Int) (0:Int))) (Cnd ((0:Int)=(0:Int)) (InI (Ql+1)/\j6t (Ql+1)) (K (0:Int) (0:Int))))) (Cnd ((1:Int)=(0:Int)) (InI (Ql+1)/\j6t (Ql+1)) (K (1:Int) (0:Int)))) (Cnd (y9=y9) (Cnd ((-1:Int)=(0:Int)) (InI (Ql+1)/\j6t (Ql+1)) (K (-1:Int) (0:Int))) (Cnd ((0:Int)=(0:Int)) (InI (Ql+1)/\j6t (Ql+1)) (K (0:Int) (0:Int)))))) ([Qg.1,Qg.2.1,Qg.2.2].length<=(9223372036854775807:Nat)->[Qi.1,Qi.2.1,Qi.2.2].length<=(9223372036854775807:Nat)->Cnd ((↑[Qg.1,Qg.2.1,Qg.2.2].length:Int)<(↑[Qi.1,Qi.2.1,Qi.2.2].length:Int)) (K (-1:Int) (0:Int)) (K (0:Int) (0:Int)))) (0:Int))))))) (K (0:Int) (8:Int))) (K (0:Int) Qc)) (K (0:Int) Qa)
def U5:Rq:=q8e q2n Gn
abbrev q2o:Type:=Subj->Ex->(Bool->Prop)->Prop
def z2d(q0i:Hd)(W6:R3)(Bm:q2h)(G0:Vl)(G1:Vn)(Hw:q2i)(Rv:Rq):q2o:=fun s e K=>q0i (Subj.mk s.1) e.2 e.3 fun Qa Qv=>Cnd (Qv=true) (W6 e.1 fun Qc=>Cnd (Qc=true) (Cnd (e.1=6) (K true) (Cnd (e.1=8) (Fits e.4->Lp1 (fun Qi z9z=>CAt e.4 Qi (fun y4=>Bm Qa y4 fun Q4=>Cnd (Q4=true) (K (decide ((0:Int)<=Qi))) (InI (Qi+1)/\z9z (Qi+1))) (K (decide ((0:Int)<=(-1:Int))))) (0:Int)) (Fits e.4->Cnd ((↑e.4.length:Int)=0) (K false) (((0:Int)<=(0:Int)/\(0:Int)<(↑e.4.length:Int))/\ ∀y3,e.4[Int.toNat (0:Int)]? =some y3->Cnd (Qa.1=3) (Cnd (e.1=7) (Bm Qa y3 fun Ql=>K Ql) (Cnd (e.1=9) (Cnd (y3.1=3) (G0 Qa.3 y3.3 fun Ql=>K Ql) (K false)) (Cnd (e.1=10) (Cnd (y3.1=3) (G1 Qa.3 y3.3 fun Ql=>K Ql) (K false)) (Cnd (e.1=11) (Cnd (y3.1=3) (Hw Qa.3 y3.3 fun Ql=>Cnd (Ql=true) (K true) (Cnd (y3.1=3) (Cnd (Qa.1=5) (Fits Qa.4->Lp1 (fun Ju y8z=>CAt Qa.4 Ju (fun y8=>Cnd (y3.3=y8) (K (decide ((0:Int)<=Ju))) (InI (Ju+1)/\y8z (Ju+1))) (K (decide ((0:Int)<=(-1:Int))))) (0:Int)) (K false)) (K false))) (Cnd (y3.1=3) (Cnd (Qa.1=5) (Fits Qa.4->Lp1 (fun Q4 y2k=>CAt Qa.4 Q4 (fun y7=>Cnd (y3.3=y7) (K (decide ((0:Int)<=Q4))) (InI (Q4+1)/\y2k (Q4+1))) (K (decide ((0:Int)<=(-1:Int))))) (0:Int)) (K false)) (K false))) (Rv Qa y3 fun Ql q7f=>Cnd (q7f=0) (Cnd (e.1=12) (K (decide (Ql<0))) (Cnd (e.1=13) (K (decide (Ql<=0))) (Cnd (e.1=14) (K (decide ((0:Int)<Ql))) (K (decide ((0:Int)<=Ql)))))) (K false)))))) (Cnd (e.1=7) (Bm Qa y3 fun Ql=>K Ql) (Cnd (e.1=9) (K false) (Cnd (e.1=10) (K false) (Cnd (e.1=11) (Cnd (y3.1=3) (Cnd (Qa.1=5) (Fits Qa.4->Lp1 (fun Q4 y2k=>CAt Qa.4 Q4 (fun y7=>Cnd (y3.3=y7) (K (decide ((0:Int)<=Q4))) (InI (Q4+1)/\y2k (Q4+1))) (K (decide ((0:Int)<=(-1:Int))))) (0:Int)) (K false)) (K false)) (Rv Qa y3 fun Ql q7f=>Cnd (q7f=0) (Cnd (e.1=12) (K (decide (Ql<0))) (Cnd (e.1=13) (K (decide (Ql<=0))) (Cnd (e.1=14) (K (decide ((0:Int)<Ql))) (K (decide ((0:Int)<=Ql)))))) (K false)))))))))) (K false)) (K false)
def R5:q2o:=z2d He V9 R4 Vm Vo Hq U5
abbrev Wi:Type:=Subj->List (ByteArray)->Ex->(Bool->Prop)->Prop
def z2e(q61:q2o)(X:Wi):Wi:=fun s in_ e K=>Cnd (e.1=1) (K true) (Cnd (e.1=2) (Fits e.5->Lp1 (fun Qc q1l=>CAt e.5 Qc (fun y2=>X (Subj.mk s.1) in_ (Ex.mk y2.1 y2.2 y2.3 y2.4 y2.5) fun Qe=>Cnd (Qe=true) (InI (Qc+1)/\q1l (Qc+1)) (K (match decide ((0:Int)<=Qc) with|true=>false|false=>true))) (K true)) (0:Int)) (Cnd (e.1=3) (Fits e.5->Lp1 (fun Qc q1l=>CAt e.5 Qc (fun y2=>X (Subj.mk s.1) in_ (Ex.mk y2.1 y2.2 y2.3 y2.4 y2.5) fun Qe=>Cnd (Qe=true) (K (decide ((0:Int)<=Qc))) (InI (Qc+1)/\q1l (Qc+1))) (K (decide ((0:Int)<=(-1:Int))))) (0:Int)) (Cnd (e.1=4) (Fits e.5->Cnd ((0:Int)<(↑e.5.length:Int)) (((0:Int)<=(0:Int)/\(0:Int)<(↑e.5.length:Int))/\ ∀y1,e.5[Int.toNat (0:Int)]? =some y1->X (Subj.mk s.1) in_ (Ex.mk y1.1 y1.2 y1.3 y1.4 y1.5) fun Qi=>K (match decide ((Qi,()).1=true) with|true=>false|false=>true)) (K false)) (Cnd (e.1=5) (Fits in_->Lp1 (fun Qc q1l=>CAt in_ Qc (fun y2=>Cnd (e.3=y2) (K (decide ((0:Int)<=Qc))) (InI (Qc+1)/\q1l (Qc+1))) (K (decide ((0:Int)<=(-1:Int))))) (0:Int)) (q61 (Subj.mk s.1) (Ex.mk e.1 e.2 e.3 e.4 e.5) fun Qa=>K Qa)))))
def Gq:Wi:=fun s in_ e K=> ∀X:Wi,(∀s in_ e K,z2e R5 X s in_ e K->X s in_ e K)->X s in_ e K
abbrev Uc:Type:=Seg->Subj->List (ByteArray)->(Bool->Prop)->Prop
def q2p(Zq:Wg)(Jk:Wi):Uc:=fun g s in_ K=>Zq (Subj.mk s.1) g.2 fun Qa Qv=>Cnd (Qv=true) (Fits g.4->Lp1 (fun Qg j4n=>CAt g.4 Qg (fun y3=>Cnd (Qa.2=y3) (Cnd ((0:Int)<=Qg) (K false) (Fits g.3->Lp1 (fun Q4 y2k=>CAt g.3 Q4 (fun y7=>Cnd (Qa.2=y7) (Cnd ((0:Int)<=Q4) (K true) (Cnd (g.5.1=0) (K false) (Jk (Subj.mk s.1) in_ (Ex.mk g.5.1 g.5.2 g.5.3 g.5.4 g.5.5) fun Qs=>K Qs))) (InI (Q4+1)/\y2k (Q4+1))) (Cnd ((0:Int)<=(-1:Int)) (K true) (Cnd (g.5.1=0) (K false) (Jk (Subj.mk s.1) in_ (Ex.mk g.5.1 g.5.2 g.5.3 g.5.4 g.5.5) fun Ju=>K Ju)))) (0:Int))) (InI (Qg+1)/\j4n (Qg+1))) (Cnd ((0:Int)<=(-1:Int)) (K false) (Fits g.3->Lp1 (fun Qe w8a=>CAt g.3 Qe (fun y5=>Cnd (Qa.2=y5) (Cnd ((0:Int)<=Qe) (K true) (Cnd (g.5.1=0) (K false) (Jk (Subj.mk s.1) in_ (Ex.mk g.5.1 g.5.2 g.5.3 g.5.4 g.5.5) fun Ju=>K Ju))) (InI (Qe+1)/\w8a (Qe+1))) (Cnd ((0:Int)<=(-1:Int)) (K true) (Cnd (g.5.1=0) (K false) (Jk (Subj.mk s.1) in_ (Ex.mk g.5.1 g.5.2 g.5.3 g.5.4 g.5.5) fun Ql=>K Ql)))) (0:Int)))) (0:Int)) (K false)
def Ud:Uc:=q2p Wh Gq
abbrev U6:Type:=List (Seg)->Subj->(List (ByteArray)->Prop)->Prop
def q31(q3o:Rn)(Hx:Uc)(Qr:Zu):U6:=fun l s K=>q3o l fun Qa Qv=>Cnd (Qv=0) (Fits l->Lp2 (fun Qg j4n q5w=>CAt l Qg (fun y3=>InI (Qg+1)/\q5w (Qg+1) (put j4n y3.1 (Seg.mk y3.1 y3.2 y3.3 y3.4 (Ex.mk y3.5.1 y3.5.2 y3.5.3 y3.5.4 y3.5.5)))) (Fits Qa->Lp2 (fun Qe J5 w79=>CAt Qa J5 (fun y5=>Hx (Seg.mk ((j4n y5).getD (Seg.mk (ByteArray.mk (Array.mk [])) (ByteArray.mk (Array.mk [])) [] [] (Ex.mk (0:Int) (ByteArray.mk (Array.mk [])) (ByteArray.mk (Array.mk [])) [] []))).1 ((j4n y5).getD (Seg.mk (ByteArray.mk (Array.mk [])) (ByteArray.mk (Array.mk [])) [] [] (Ex.mk (0:Int) (ByteArray.mk (Array.mk [])) (ByteArray.mk (Array.mk [])) [] []))).2 ((j4n y5).getD (Seg.mk (ByteArray.mk (Array.mk [])) (ByteArray.mk (Array.mk [])) [] [] (Ex.mk (0:Int) (ByteArray.mk (Array.mk [])) (ByteArray.mk (Array.mk [])) [] []))).3 ((j4n y5).getD (Seg.mk (ByteArray.mk (Array.mk [])) (ByteArray.mk (Array.mk [])) [] [] (Ex.mk (0:Int) (ByteArray.mk (Array.mk [])) (ByteArray.mk (Array.mk [])) [] []))).4 (Ex.mk ((j4n y5).getD (Seg.mk (ByteArray.mk (Array.mk [])) (ByteArray.mk (Array.mk [])) [] [] (Ex.mk (0:Int) (ByteArray.mk (Array.mk [])) (ByteArray.mk (Array.mk [])) [] []))).5.1 ((j4n y5).getD (Seg.mk (ByteArray.mk (Array.mk [])) (ByteArray.mk (Array.mk [])) [] [] (Ex.mk (0:Int) (ByteArray.mk (Array.mk [])) (ByteArray.mk (Array.mk [])) [] []))).5.2 ((j4n y5).getD (Seg.mk (ByteArray.mk (Array.mk [])) (ByteArray.mk (Array.mk [])) [] [] (Ex.mk (0:Int) (ByteArray.mk (Array.mk [])) (ByteArray.mk (Array.mk [])) [] []))).5.3 ((j4n y5).getD (Seg.mk (ByteArray.mk (Array.mk [])) (ByteArray.mk (Array.mk [])) [] [] (Ex.mk (0:Int) (ByteArray.mk (Array.mk [])) (ByteArray.mk (Array.mk [])) [] []))).5.4 ((j4n y5).getD (Seg.mk (ByteArray.mk (Array.mk [])) (ByteArray.mk (Array.mk [])) [] [] (Ex.mk (0:Int) (ByteArray.mk (Array.mk [])) (ByteArray.mk (Array.mk [])) [] []))).5.5)) (Subj.mk s.1) Qe fun Ju=>Cnd (Ju=true) (Sml (Qe++[y5]).length/\InI (J5+1)/\w79 (Qe++[y5]) (J5+1)) (InI (J5+1)/\w79 Qe (J5+1))) (Qr Qe fun Ql=>K Ql)) [] (0:Int))) (0:Int) fun _=>none) (K [])
def U7:U6:=q31 Rp Ud Zh
abbrev U8:Type:=Envt->Subj->ByteArray->(Bool->Prop)->Prop
def q32(Bn:U6)(Jk:Wi):U8:=fun v s experiment K=>Fits v.6->Lp1 (fun Qc q1l=>CAt v.6 Qc (fun y2=>Cnd (y2.1=experiment) (Bn v.3 (Subj.mk s.1) fun Qe=>Jk (Subj.mk s.1) Qe (Ex.mk y2.8.1 y2.8.2 y2.8.3 y2.8.4 y2.8.5) fun Ql=>K Ql) (InI (Qc+1)/\q1l (Qc+1))) (K false)) (0:Int)
def U9:U8:=q32 U7 Gq
abbrev q6l:Type:=List (Rng)->Int->(Int->Prop)->Prop
def q2q:q6l:=fun l bucket K=>Fits l->Lp1 (fun Qc q1l=>CAt l Qc (fun y2=>Cnd (y2.1<=bucket) (Cnd (bucket<y2.2) (K y2.3) (InI (Qc+1)/\q1l (Qc+1))) (InI (Qc+1)/\q1l (Qc+1))) (K (0:Int))) (0:Int)
abbrev Um:Type:=Envt->Subj->List (Frc)->ByteArray->(Asg->Int->Prop)->Prop
def z0c(Zq:Wg)(q3p:q2d)(Up:q0t)(q62:q6l)(Bo:U8)(q63:q2f)(q64:q6j):Um:=fun v s forced key K=>Jn1 (fun Qa=>Cnd (Qa<0) (K (Asg.mk (ByteArray.mk (Array.mk [])) (ByteArray.mk (Array.mk [])) (0:Int) (0:Int) false) (11:Int)) (At v.5 Qa fun y1=>Zq (Subj.mk s.1) y1.2 fun Qi Hz=>Jn1 (fun Qe=>q3p forced key fun Ql q7f=>Jn1 (fun Q4=>Cnd (Q4=true) (Cnd (Ql.2=ByteArray.mk (Array.mk [])) (K (Asg.mk key (ByteArray.mk (Array.mk [])) Qe (0:Int) false) (0:Int)) (K (Asg.mk key Ql.2 Qe Ql.3 false) (0:Int))) (Jn1 (fun Ju=>Cnd (Ju=true) (K (Asg.mk key (ByteArray.mk (Array.mk [])) Qe (0:Int) true) (0:Int)) (Cnd (Hz=true) (Fits v.6->Lp3 (fun Qs z9y y9e u0d=>CAt v.6 Qs (fun y10=>Jn1 (fun Zw=>Jn1 (fun Za=>Cnd (Za=true) (Up y10.4 Qi.2 fun Ve=>q62 y10.7 Ve fun w77=>K (Asg.mk key y10.1 Qe w77 false) (0:Int)) (InI (Qs+1)/\u0d (Qs+1) z9y y9e)) fun y2o=>Cnd (y10.2=key) (Cnd (y10.5=2) (Cnd (Zw=true) (Bo (Envt.mk (Sett.mk v.1.1 v.1.2 v.1.3) v.2 v.3 v.4 v.5 v.6) (Subj.mk s.1) y10.1 fun Ve=>y2o Ve) (y2o false)) (y2o false)) (y2o false)) fun y9d=>Fits y10.6->Lp1 (fun Ve v9i=>CAt y10.6 Ve (fun y15=>Cnd (y15.1<=Qe) (Cnd (Qe<y15.2) (y9d (decide ((0:Int)<=Ve))) (InI (Ve+1)/\v9i (Ve+1))) (InI (Ve+1)/\v9i (Ve+1))) (y9d (decide ((0:Int)<=(-1:Int))))) (0:Int)) (K (Asg.mk key z9y Qe y9e false) (0:Int))) (0:Int) (ByteArray.mk (Array.mk [])) (0:Int)) (K (Asg.mk key (ByteArray.mk (Array.mk [])) Qe (0:Int) false) (0:Int)))) fun y6z=>q63 (Envt.mk (Sett.mk v.1.1 v.1.2 v.1.3) v.2 v.3 v.4 v.5 v.6) (Subj.mk s.1) fun J7=>Cnd (J7=true) (y6z true) (Cnd (Hz=true) (y6z (decide (Qe<y1.4))) (y6z false)))) fun y3s=>Cnd (q7f=true) (Cnd (Ql.2=ByteArray.mk (Array.mk [])) (y3s true) (q64 (Envt.mk (Sett.mk v.1.1 v.1.2 v.1.3) v.2 v.3 v.4 v.5 v.6) Ql fun Ju=>y3s Ju)) (y3s false)) fun v4z=>Cnd (Hz=true) (Up y1.3 Qi.2 fun Ql=>v4z Ql) (v4z (-1:Int)))) fun z1o=>Fits v.5->Lp1 (fun Qg j4n=>CAt v.5 Qg (fun y3=>Cnd (y3.1=key) (z1o Qg) (InI (Qg+1)/\j4n (Qg+1))) (z1o (-1:Int))) (0:Int)
def Un:Um:=z0c Wh Rl Gk q2q U9 q2g q2e
abbrev z6t:Type:=List (List Int)->(List (Int)->Prop)->Prop
def z07:z6t:=fun fields K=>Lp2 (fun Qa Qv q1k=>Fits fields->CAt fields Qv (fun y2=>Fits y2->Lp2 (fun Ql q7f y80=>Cnd ((0:Int)<=q7f) ((0:Int)<=Go.IntKind.u64.wrap q7f/\Sml (Ql++[Go.IntKind.u8.wrap ((Go.IntKind.u64.wrap (↑y2.length:Int)).fdiv ((2:Int) ^ Min.min (Go.IntKind.u64.wrap q7f).toNat (64:Nat)))]).length/\InI (q7f - 8)/\y80 (Ql++[Go.IntKind.u8.wrap ((Go.IntKind.u64.wrap (↑y2.length:Int)).fdiv ((2:Int) ^ Min.min (Go.IntKind.u64.wrap q7f).toNat (64:Nat)))]) (q7f - 8)) (At fields Qv fun y6=>Sml (Ql++y6).length/\InI (Qv+1)/\q1k (Ql++y6) (Qv+1))) Qa (56:Int)) (K Qa)) [] (0:Int)
abbrev z2f:Type:=Int->Int->(Int->Prop)->Prop
def q8f:z2f:=fun x n K=>(0:Int)<=n/\(0:Int)<=Go.IntKind.u64.wrap ((64:Int) - n)/\K (Go.IntKind.u64.wrap (↑(BitVec.ofInt (64:Nat) (Go.IntKind.u64.wrap (x*2 ^ Min.min n.toNat (64:Nat)))|||BitVec.ofInt (64:Nat) (x.fdiv ((2:Int) ^ Min.min (Go.IntKind.u64.wrap ((64:Int) - n)).toNat (64:Nat)))).toNat:Int))
abbrev Hf:Type:=Sip->Int->(Sip->Prop)->Prop
def q54(G2:z2f):Hf:=fun v n K=>Lp5 (fun Qa Qv j4l q7e w5l y64=>Cnd (Qa<n) (G2 j4l (13:Int) fun Qc=>G2 (Go.IntKind.u64.wrap (Qv+j4l)) (32:Int) fun Qg=>G2 w5l (16:Int) fun Qi=>G2 (Go.IntKind.u64.wrap (↑(BitVec.ofInt (64:Nat) Qi ^^^ BitVec.ofInt (64:Nat) (Go.IntKind.u64.wrap (q7e+w5l))).toNat:Int)) (21:Int) fun Qe=>G2 (Go.IntKind.u64.wrap (↑(BitVec.ofInt (64:Nat) Qc ^^^ BitVec.ofInt (64:Nat) (Go.IntKind.u64.wrap (Qv+j4l))).toNat:Int)) (17:Int) fun Ql=>G2 (Go.IntKind.u64.wrap (Go.IntKind.u64.wrap (q7e+w5l)+Go.IntKind.u64.wrap (↑(BitVec.ofInt (64:Nat) Qc ^^^ BitVec.ofInt (64:Nat) (Go.IntKind.u64.wrap (Qv+j4l))).toNat:Int))) (32:Int) fun Q4=>InI (Qa+1)/\y64 (Qa+1) (Go.IntKind.u64.wrap (Qg+Go.IntKind.u64.wrap (↑(BitVec.ofInt (64:Nat) Qi ^^^ BitVec.ofInt (64:Nat) (Go.IntKind.u64.wrap (q7e+w5l))).toNat:Int))) (Go.IntKind.u64.wrap (↑(BitVec.ofInt (64:Nat) Ql ^^^ BitVec.ofInt (64:Nat) (Go.IntKind.u64.wrap (Go.IntKind.u64.wrap (q7e+w5l)+Go.IntKind.u64.wrap (↑(BitVec.ofInt (64:Nat) Qc ^^^ BitVec.ofInt (64:Nat) (Go.IntKind.u64.wrap (Qv+j4l))).toNat:Int)))).toNat:Int)) Q4 (Go.IntKind.u64.wrap (↑(BitVec.ofInt (64:Nat) Qe ^^^ BitVec.ofInt (64:Nat) (Go.IntKind.u64.wrap (Qg+Go.IntKind.u64.wrap (↑(BitVec.ofInt (64:Nat) Qi ^^^ BitVec.ofInt (64:Nat) (Go.IntKind.u64.wrap (q7e+w5l))).toNat:Int)))).toNat:Int))) (K (Sip.mk Qv j4l q7e w5l))) (0:Int) v.1 v.2 v.3 v.4
def Z1:Hf:=q54 q8f
abbrev j0n:Type:=Int->Int->List (Int)->(Int->Prop)->Prop
def w3q(Vv:Hf):j0n:=fun k0 k1 b K=>Lp5 (fun Qa Qv j4l q7e w5l y64=>Fits b->(8:Int)≠(0:Int)/\InI ((↑b.length:Int).tdiv (8:Int))/\Cnd (Qa<=(↑b.length:Int).tdiv (8:Int)) (Lp2 (fun Qg Zj q5w=>Cnd (Zj<8) (InI ((8:Int)*Qa)/\InI ((8:Int)*Qa+Zj)/\(Fits b->Cnd ((8:Int)*Qa+Zj<(↑b.length:Int)) (InI ((8:Int)*Qa)/\InI ((8:Int)*Qa+Zj)/\((0:Int)<=(8:Int)*Qa+Zj/\(8:Int)*Qa+Zj<(↑b.length:Int))/\ ∀y4,b[((8:Int)*Qa+Zj).toNat]? =some y4->InI ((8:Int)*Zj)/\(0:Int)<=Go.IntKind.u64.wrap ((8:Int)*Zj)/\InI (Zj+1)/\q5w (Go.IntKind.u64.wrap (↑(BitVec.ofInt (64:Nat) Qg|||BitVec.ofInt (64:Nat) (Go.IntKind.u64.wrap (Go.IntKind.u64.wrap y4*2 ^ Min.min (Go.IntKind.u64.wrap ((8:Int)*Zj)).toNat (64:Nat)))).toNat:Int)) (Zj+1)) (Jn1 (fun Qe=>Vv (Sip.mk Qv j4l q7e (Go.IntKind.u64.wrap (↑(BitVec.ofInt (64:Nat) w5l ^^^ BitVec.ofInt (64:Nat) Qe).toNat:Int))) (2:Int) fun Ql=>InI (Qa+1)/\y64 (Qa+1) (Go.IntKind.u64.wrap (↑(BitVec.ofInt (64:Nat) Ql.1 ^^^ BitVec.ofInt (64:Nat) Qe).toNat:Int)) Ql.2 Ql.3 Ql.4) fun v4z=>Fits b->(8:Int)≠(0:Int)/\InI ((↑b.length:Int).tdiv (8:Int))/\Cnd (Qa=(↑b.length:Int).tdiv (8:Int)) (Fits b->(256:Int)≠(0:Int)/\(0:Int)<=(56:Int)/\v4z (Go.IntKind.u64.wrap (↑(BitVec.ofInt (64:Nat) Qg|||BitVec.ofInt (64:Nat) (Go.IntKind.u64.wrap (Go.IntKind.u64.wrap ((↑b.length:Int).tmod (256:Int))*(2:Int) ^ Min.min (Int.toNat (56:Int)) (64:Nat)))).toNat:Int))) (v4z Qg)))) (Jn1 (fun Qi=>Vv (Sip.mk Qv j4l q7e (Go.IntKind.u64.wrap (↑(BitVec.ofInt (64:Nat) w5l ^^^ BitVec.ofInt (64:Nat) Qi).toNat:Int))) (2:Int) fun Qe=>InI (Qa+1)/\y64 (Qa+1) (Go.IntKind.u64.wrap (↑(BitVec.ofInt (64:Nat) Qe.1 ^^^ BitVec.ofInt (64:Nat) Qi).toNat:Int)) Qe.2 Qe.3 Qe.4) fun v9h=>Fits b->(8:Int)≠(0:Int)/\InI ((↑b.length:Int).tdiv (8:Int))/\Cnd (Qa=(↑b.length:Int).tdiv (8:Int)) (Fits b->(256:Int)≠(0:Int)/\(0:Int)<=(56:Int)/\v9h (Go.IntKind.u64.wrap (↑(BitVec.ofInt (64:Nat) Qg|||BitVec.ofInt (64:Nat) (Go.IntKind.u64.wrap (Go.IntKind.u64.wrap ((↑b.length:Int).tmod (256:Int))*(2:Int) ^ Min.min (Int.toNat (56:Int)) (64:Nat)))).toNat:Int))) (v9h Qg))) (0:Int) (0:Int)) (Vv (Sip.mk Qv j4l (Go.IntKind.u64.wrap (↑(BitVec.ofInt (64:Nat) q7e ^^^ BitVec.ofInt (64:Nat) (255:Int)).toNat:Int)) w5l) (4:Int) fun Qg=>K (Go.IntKind.u64.wrap (↑(BitVec.ofInt (64:Nat) (Go.IntKind.u64.wrap (↑(BitVec.ofInt (64:Nat) (Go.IntKind.u64.wrap (↑(BitVec.ofInt (64:Nat) Qg.1 ^^^ BitVec.ofInt (64:Nat) Qg.2).toNat:Int)) ^^^ BitVec.ofInt (64:Nat) Qg.3).toNat:Int)) ^^^ BitVec.ofInt (64:Nat) Qg.4).toNat:Int)))) (0:Int) (Go.IntKind.u64.wrap (↑(BitVec.ofInt (64:Nat) k0 ^^^ BitVec.ofInt (64:Nat) (8317987319222330741:Int)).toNat:Int)) (Go.IntKind.u64.wrap (↑(BitVec.ofInt (64:Nat) k1 ^^^ BitVec.ofInt (64:Nat) (7237128888997146477:Int)).toNat:Int)) (Go.IntKind.u64.wrap (↑(BitVec.ofInt (64:Nat) k0 ^^^ BitVec.ofInt (64:Nat) (7816392313619706465:Int)).toNat:Int)) (Go.IntKind.u64.wrap (↑(BitVec.ofInt (64:Nat) k1 ^^^ BitVec.ofInt (64:Nat) (8387220255154660723:Int)).toNat:Int))
def j0o:j0n:=w3q Z1
abbrev z42:Type:=Int->List (List Int)->(Int->Prop)->Prop
def j73(z7a:z6t)(j6u:j0n):z42:=fun domain fields K=>z7a fields fun Qa=>j6u domain (0:Int) Qa fun Qc=>K Qc
def z43:z42:=j73 z07 j0o
abbrev j0p:Type:=ByteArray->ByteArray->(Int->Prop)->Prop
def w3r(j2b:z42):j0p:=fun salt key K=>Sml salt.size/\Sml key.size/\j2b (1:Int) [List.map (fun b=>(↑b.toNat:Int)) (salt,key,()).1.data.toList,List.map (fun b=>(↑b.toNat:Int)) (salt,key,()).2.1.data.toList] fun Qa=>(10000:Int)≠(0:Int)/\InI (Qa.tmod (10000:Int))/\K (Qa.tmod (10000:Int))
def z2g:j0p:=w3r z43
abbrev Rr:Type:=Envt->Subj->List (Frc)->(List (Asg)->Prop)->Prop
def z44(Jw:Um):Rr:=fun v s forced K=>Fits v.5->Lp2 (fun Qc Z0 z34=>CAt v.5 Z0 (fun y2=>Jw (Envt.mk (Sett.mk v.1.1 v.1.2 v.1.3) v.2 v.3 v.4 v.5 v.6) (Subj.mk s.1) forced y2.1 fun Qe _=>Sml (Qc++[Qe]).length/\InI (Z0+1)/\z34 (Qc++[Qe]) (Z0+1)) (K Qc)) [] (0:Int)
def Rs:Rr:=z44 Un
abbrev q2r:Type:=(Bool->Prop)->Prop
def z2h(B8:q4s)(Jw:Um)(j6v:j0p)(J6:Rr):q2r:=fun K=>B8 fun Qa=>Jw (Envt.mk (Sett.mk Qa.1.1 Qa.1.2 Qa.1.3) Qa.2 Qa.3 Qa.4 Qa.5 Qa.6) (Subj.mk [Ctxt.mk (ByteArray.mk (Array.mk [117,115,101,114])) (ByteArray.mk (Array.mk [117])) []]) [] (ByteArray.mk (Array.mk [108])) fun Qc Z0=>B8 fun Qg=>Jw (Envt.mk (Sett.mk Qg.1.1 Qg.1.2 Qg.1.3) Qg.2 Qg.3 Qg.4 Qg.5 Qg.6) (Subj.mk []) [] (ByteArray.mk (Array.mk [108])) fun Qi Hz=>Cnd (Z0=0) (Cnd (Qc.2=ByteArray.mk (Array.mk [120])) (Cnd (Qc.4=2) (j6v (ByteArray.mk (Array.mk [])) (ByteArray.mk (Array.mk [117])) fun Qe=>Cnd (Qc.3=Qe) (Cnd (Hz=0) (Cnd (Qi.1=ByteArray.mk (Array.mk [108])/\Qi.2=ByteArray.mk (Array.mk [])/\Qi.3=(-1:Int)/\Qi.4=0/\Qi.5=false) (J6 (Envt.mk (Sett.mk (ByteArray.mk (Array.mk [])) (ByteArray.mk (Array.mk [])) (0:Int)) [] [] [] [] []) (Subj.mk []) [] fun Ql=>Fits Ql->K (decide ((↑Ql.length:Int)=0))) (K false)) (K false)) (K false)) (K false)) (K false)) (K false)
def q2s:q2r:=z2h q4t Un z2g Rs
abbrev j24:Type:=List (Int)->Int->(List (Int)->Int->Prop)->Prop
def z8w:j24:=fun list_ most K=>Jn1 (fun Qa=>K Qa (0:Int)) fun z1o=>Fits list_->Cnd (most<(↑list_.length:Int)) (((0:Int)<=(0:Int)/\(0:Int)<=most/\most<=(↑list_.length:Int))/\z1o (List.drop (Int.toNat (0:Int)) (List.take most.toNat list_))) (z1o list_)
abbrev q8g:Type:=List (Int)->Int->ByteArray->(Ctxt->Int->Prop)->Prop
def z8x(z3e:z8i)(Q3:W9)(Qb:Zf)(Jf:q1v):q8g:=fun list at_ kind K=>z3e list at_ fun Qa Qv=>Q3 fun Qc=>Lp3 (fun Qg Zj w5m y8r=>Fits Qc->CAt Qc Qg (fun y4=>Cnd (y4.1=kind) (Qb list w5m (4:Int) fun Q4 z32=>Cnd ((0:Int)<Q4) (At Qc Qg fun y7=>At Qc Qg fun y9=>Jf list z32 y9.3 fun Vt w0a=>Sml (Zj++[Attr.mk y7.2 Vt]).length/\InI (Qg+1)/\y8r (Qg+1) (Zj++[Attr.mk y7.2 Vt]) w0a) (InI (Qg+1)/\y8r (Qg+1) Zj z32)) (InI (Qg+1)/\y8r (Qg+1) Zj w5m)) (K (Ctxt.mk kind Qa Zj) w5m)) (0:Int) [] Qv
def q33:q8g:=z8x z8j J3 Zb Uu
abbrev q8h:Type:=List (Int)->Int->(Subj->Int->Prop)->Prop
def z8y(Qb:Zf)(q07:q8g):q8h:=fun list at_ K=>Qb list at_ (6:Int) fun Qa Qv=>Jn2 (fun Qc Z0=>Cnd (Qa=1) (K (Subj.mk Z0) Qc) (Cnd (Qa=5) (K (Subj.mk Z0) Qc) (q07 list Qc (ByteArray.mk (Array.mk [117,115,101,114])) fun Qg Zj=>Sml (Z0++[Qg]).length/\K (Subj.mk (Z0++[Qg])) Zj))) fun w2q=>Cnd (Qa=1) (q07 list Qv (ByteArray.mk (Array.mk [100,101,118,105,99,101])) fun Qg Zj=>Sml ([]++[Qg]).length/\w2q Zj ([]++[Qg])) (Cnd (Qa=2) (q07 list Qv (ByteArray.mk (Array.mk [100,101,118,105,99,101])) fun Qg Zj=>Sml ([]++[Qg]).length/\w2q Zj ([]++[Qg])) (Cnd (Qa=4) (q07 list Qv (ByteArray.mk (Array.mk [100,101,118,105,99,101])) fun Qg Zj=>Sml ([]++[Qg]).length/\w2q Zj ([]++[Qg])) (w2q Qv [])))
def q8i:q8h:=z8y Zb q33
abbrev z08:Type:=List (Int)->Int->Envt->(List (Frc)->Int->Prop)->Prop
def j25(Qb:Zf):z08:=fun list at_ v K=>Lp3 (fun Qa Qv j4l u1h=>Qb list j4l (3:Int) fun Qc Z0=>Cnd (Qv<Qc) (Qb list Z0 (4:Int) fun Qg Zj=>InI ((1:Int)+Qg)/\Jn2 (fun Qi Hz=>Jn4 (fun Qe J5 j12 v9n=>Sml (Qa++[Frc.mk Qe J5 j12]).length/\InI (Qv+1)/\u1h (Qa++[Frc.mk Qe J5 j12]) (Qv+1) v9n) fun v4z=>Qb list Hz (4:Int) fun Ql q7f=>Fits v.6->CAt v.6 Ql (fun y7=>Jn2 (fun Qs z9y=>At v.6 Ql fun y10=>Qb list z9y (4:Int) fun Zw y6w=>Cnd ((0:Int)<Zw) (Fits y10.7->Cnd ((0:Int)<(↑y10.7.length:Int)) (Fits y10.7->Qb list y6w (↑y10.7.length:Int) fun w77 u0y=>At y10.7 w77 fun y16=>v4z Qs y7.1 y16.3 u0y) (v4z Qs y7.1 ((1:Int)+Qg) y6w)) (v4z Qs y7.1 ((1:Int)+Qg) y6w)) fun y8s=>Qb list q7f (4:Int) fun Jv q3b=>Cnd ((0:Int)<Jv) (At v.6 Ql fun y11=>y8s y11.2 q3b) (y8s Qi q3b)) (v4z Qi (ByteArray.mk (Array.mk [])) ((1:Int)+Qg) q7f)) fun v9h=>Qb list Zj (3:Int) fun Qe J5=>Cnd (Qe=1) (v9h (ByteArray.mk (Array.mk [108,98])) J5) (v9h (ByteArray.mk (Array.mk [108,97])) J5)) (K Qa Z0)) [] (0:Int) at_
def z09:z08:=j25 Zb
abbrev q2t:Type:=List (Int)->List (Int)->(Envt->Subj->List (Frc)->Prop)->Prop
def z2i(q9a:j24)(q3q:Rh)(z3k:q8h)(z7b:z08):q2t:=fun codes who K=>q9a codes (400:Int) fun Qa Qv=>q3q Qa Qv (10:Int) fun Qc _=>q9a who (80:Int) fun Qg Zj=>z3k Qg Zj fun Qi Hz=>z7b Qg Hz (Envt.mk (Sett.mk Qc.1.1 Qc.1.2 Qc.1.3) Qc.2 Qc.3 Qc.4 Qc.5 Qc.6) fun Qe _=>K (Envt.mk (Sett.mk Qc.1.1 Qc.1.2 Qc.1.3) Qc.2 Qc.3 Qc.4 Qc.5 Qc.6) (Subj.mk Qi.1) Qe
def q2u:q2t:=z2i z8w Ri q8i z09
abbrev w6o:Type:=Subj->ByteArray->(Ctxt->Bool->Prop)->Prop
def j74:w6o:=fun s kind K=>Lp4 (fun Qa Qv j4l (q7e:List Attr) u1i=>Fits s.1->CAt s.1 Qa (fun y2=>Cnd (y2.1=kind) (At s.1 Qa fun y4=>K y4 true) (InI (Qa+1)/\u1i (Qa+1) Qv j4l q7e)) (K (Ctxt.mk (ByteArray.mk (Array.mk [])) (ByteArray.mk (Array.mk [])) []) false)) (0:Int) (ByteArray.mk (Array.mk [])) (ByteArray.mk (Array.mk [])) []
abbrev Wn:Type:=Envt->ByteArray->(Int->Prop)->Prop
def J0:Wn:=fun v key K=>Lp1 (fun Qa q4j=>Fits v.6->CAt v.6 Qa (fun y2=>Cnd (y2.1=key) (K Qa) (InI (Qa+1)/\q4j (Qa+1))) (K (-1:Int))) (0:Int)
abbrev z8z:Type:=Subj->ByteArray->ByteArray->(Val->Bool->Prop)->Prop
def j75(v9l:w6o):z8z:=fun s kind name K=>v9l (Subj.mk s.1) kind fun Qa Qv=>Cnd (Qv=true) (Cnd (name=ByteArray.mk (Array.mk [107,101,121])) (K (Val.mk (3:Int) (0:Int) Qa.2 []) true) (Lp5 (fun Qc Z0 z63 j4m (y60:List ByteArray) y8t=>Fits Qa.3->CAt Qa.3 Qc (fun y3=>Cnd (y3.1=name) (At Qa.3 Qc fun y5=>K (Val.mk y5.2.1 y5.2.2 y5.2.3 y5.2.4) true) (InI (Qc+1)/\y8t (Qc+1) Z0 z63 j4m y60)) (K (Val.mk (0:Int) (0:Int) (ByteArray.mk (Array.mk [])) []) false)) (0:Int) (0:Int) (0:Int) (ByteArray.mk (Array.mk [])) [])) (K (Val.mk (0:Int) (0:Int) (ByteArray.mk (Array.mk [])) []) false)
def z81:z8z:=j75 j74
abbrev z45:Type:=ByteArray->ByteArray->Int->(Bool->Prop)->Prop
def q9h:z45:=fun s t i K=>Cnd ((0:Int)<=i) (InI (i+(↑t.size:Int))/\Cnd (i+(↑t.size:Int)<=(↑s.size:Int)) (InI (i+(↑t.size:Int))/\((0:Int)<=i/\i<=i+(↑t.size:Int)/\i+(↑t.size:Int)<=(↑s.size:Int))/\K (decide (s.extract i.toNat (i+(↑t.size:Int)).toNat=t))) (K false)) (K false)
abbrev z0d:Type:=Val->Val->(Bool->Prop)->Prop
def z7r(Vr:q4o)(q94:z45):z0d:=fun v w K=>Cnd (w.1=3) (Cnd (v.1=5) (Vr v.4 w.3 fun Qa=>K Qa) (Lp1 (fun Qa q4j=>Cnd (v.1=3) (InI (Qa+(↑w.3.size:Int))/\Cnd (Qa+(↑w.3.size:Int)<=(↑v.3.size:Int)) (q94 v.3 w.3 Qa fun Qc=>Cnd (Qc=true) (K true) (InI (Qa+1)/\q4j (Qa+1))) (K false)) (K false)) (0:Int))) (K false)
def z0e:z0d:=z7r q0b q9h
abbrev w6p:Type:=Bool->Bool->(Int->Prop)->Prop
def z47:w6p:=fun less greater K=>Cnd (less=true) (K (-1:Int)) (Cnd (greater=true) (K (1:Int)) (K (0:Int)))
abbrev z48:Type:=Val->Val->(Int->Int->Prop)->Prop
def j4q(Jr:q1b)(Qd:w6p)(q4l:q7b):z48:=fun a b K=>Jr a fun Qa=>Cnd (Qa=0) (Jr b fun Qc=>Cnd (Qc=0) (Cnd (a.1=b.1) (Cnd (a.1=1) (K (0:Int) (8:Int)) (Cnd (a.1=5) (K (0:Int) (8:Int)) (Cnd (a.1=2) (Qd (decide (a.2<b.2)) (decide (b.2<a.2)) fun Qg=>K Qg (0:Int)) (Cnd (a.1=3) (Qd (decide (Lk.blt a.3 b.3)) (decide (Lk.blt b.3 a.3)) fun Qg=>K Qg (0:Int)) (q4l a.3 fun (Qg:Int×Int×Int) _=>q4l b.3 fun (Qi:Int×Int×Int) _=>Lp1 (fun Qe w8a=>Cnd (Qe<3) (((0:Int)<=Qe/\Qe<(↑(3:Nat):Int))/\((True/\(Qe=(↑(nat_lit 0):Int)->((0:Int)<=Qe/\Qe<(↑(3:Nat):Int))/\((True/\(Qe=(↑(nat_lit 0):Int)->Cnd (Qg.1=Qi.1) (InI (Qe+1)/\w8a (Qe+1)) (((0:Int)<=Qe/\Qe<(↑(3:Nat):Int))/\((True/\(Qe=(↑(nat_lit 0):Int)->((0:Int)<=Qe/\Qe<(↑(3:Nat):Int))/\((True/\(Qe=(↑(nat_lit 0):Int)->Qd (decide (Qg.1<Qi.1)) true fun Qs=>K Qs (0:Int)))/\(Qe=(↑(nat_lit 1):Int)->Qd (decide (Qg.1<Qi.2.1)) true fun Qs=>K Qs (0:Int)))/\(Qe=(↑(nat_lit 2):Int)->Qd (decide (Qg.1<Qi.2.2)) true fun Qs=>K Qs (0:Int))))/\(Qe=(↑(nat_lit 1):Int)->((0:Int)<=Qe/\Qe<(↑(3:Nat):Int))/\((True/\(Qe=(↑(nat_lit 0):Int)->Qd (decide (Qg.2.1<Qi.1)) true fun Qs=>K Qs (0:Int)))/\(Qe=(↑(nat_lit 1):Int)->Qd (decide (Qg.2.1<Qi.2.1)) true fun Qs=>K Qs (0:Int)))/\(Qe=(↑(nat_lit 2):Int)->Qd (decide (Qg.2.1<Qi.2.2)) true fun Qs=>K Qs (0:Int))))/\(Qe=(↑(nat_lit 2):Int)->((0:Int)<=Qe/\Qe<(↑(3:Nat):Int))/\((True/\(Qe=(↑(nat_lit 0):Int)->Qd (decide (Qg.2.2<Qi.1)) true fun Qs=>K Qs (0:Int)))/\(Qe=(↑(nat_lit 1):Int)->Qd (decide (Qg.2.2<Qi.2.1)) true fun Qs=>K Qs (0:Int)))/\(Qe=(↑(nat_lit 2):Int)->Qd (decide (Qg.2.2<Qi.2.2)) true fun Qs=>K Qs (0:Int))))))/\(Qe=(↑(nat_lit 1):Int)->Cnd (Qg.1=Qi.2.1) (InI (Qe+1)/\w8a (Qe+1)) (((0:Int)<=Qe/\Qe<(↑(3:Nat):Int))/\((True/\(Qe=(↑(nat_lit 0):Int)->((0:Int)<=Qe/\Qe<(↑(3:Nat):Int))/\((True/\(Qe=(↑(nat_lit 0):Int)->Qd (decide (Qg.1<Qi.1)) true fun Qs=>K Qs (0:Int)))/\(Qe=(↑(nat_lit 1):Int)->Qd (decide (Qg.1<Qi.2.1)) true fun Qs=>K Qs (0:Int)))/\(Qe=(↑(nat_lit 2):Int)->Qd (decide (Qg.1<Qi.2.2)) true fun Qs=>K Qs (0:Int))))/\(Qe=(↑(nat_lit 1):Int)->((0:Int)<=Qe/\Qe<(↑(3:Nat):Int))/\((True/\(Qe=(↑(nat_lit 0):Int)->Qd (decide (Qg.2.1<Qi.1)) true fun Qs=>K Qs (0:Int)))/\(Qe=(↑(nat_lit 1):Int)->Qd (decide (Qg.2.1<Qi.2.1)) true fun Qs=>K Qs (0:Int)))/\(Qe=(↑(nat_lit 2):Int)->Qd (decide (Qg.2.1<Qi.2.2)) true fun Qs=>K Qs (0:Int))))/\(Qe=(↑(nat_lit 2):Int)->((0:Int)<=Qe/\Qe<(↑(3:Nat):Int))/\((True/\(Qe=(↑(nat_lit 0):Int)->Qd (decide (Qg.2.2<Qi.1)) true fun Qs=>K Qs (0:Int)))/\(Qe=(↑(nat_lit 1):Int)->Qd (decide (Qg.2.2<Qi.2.1)) true fun Qs=>K Qs (0:Int)))/\(Qe=(↑(nat_lit 2):Int)->Qd (decide (Qg.2.2<Qi.2.2)) true fun Qs=>K Qs (0:Int))))))/\(Qe=(↑(nat_lit 2):Int)->Cnd (Qg.1=Qi.2.2) (InI (Qe+1)/\w8a (Qe+1)) (((0:Int)<=Qe/\Qe<(↑(3:Nat):Int))/\((True/\(Qe=(↑(nat_lit 0):Int)->((0:Int)<=Qe/\Qe<(↑(3:Nat):Int))/\((True/\(Qe=(↑(nat_lit 0):Int)->Qd (decide (Qg.1<Qi.1)) true fun Qs=>K Qs (0:Int)))/\(Qe=(↑(nat_lit 1):Int)->Qd (decide (Qg.1<Qi.2.1)) true fun Qs=>K Qs (0:Int)))/\(Qe=(↑(nat_lit 2):Int)->Qd (decide (Qg.1<Qi.2.2)) true fun Qs=>K Qs (0:Int))))/\(Qe=(↑(nat_lit 1):Int)->((0:Int)<=Qe/\Qe<(↑(3:Nat):Int))/\((True/\(Qe=(↑(nat_lit 0):Int)->Qd (decide (Qg.2.1<Qi.1)) true fun Qs=>K Qs (0:Int)))/\(Qe=(↑(nat_lit 1):Int)->Qd (decide (Qg.2.1<Qi.2.1)) true fun Qs=>K Qs (0:Int)))/\(Qe=(↑(nat_lit 2):Int)->Qd (decide (Qg.2.1<Qi.2.2)) true fun Qs=>K Qs (0:Int))))/\(Qe=(↑(nat_lit 2):Int)->((0:Int)<=Qe/\Qe<(↑(3:Nat):Int))/\((True/\(Qe=(↑(nat_lit 0):Int)->Qd (decide (Qg.2.2<Qi.1)) true fun Qs=>K Qs (0:Int)))/\(Qe=(↑(nat_lit 1):Int)->Qd (decide (Qg.2.2<Qi.2.1)) true fun Qs=>K Qs (0:Int)))/\(Qe=(↑(nat_lit 2):Int)->Qd (decide (Qg.2.2<Qi.2.2)) true fun Qs=>K Qs (0:Int)))))))/\(Qe=(↑(nat_lit 1):Int)->((0:Int)<=Qe/\Qe<(↑(3:Nat):Int))/\((True/\(Qe=(↑(nat_lit 0):Int)->Cnd (Qg.2.1=Qi.1) (InI (Qe+1)/\w8a (Qe+1)) (((0:Int)<=Qe/\Qe<(↑(3:Nat):Int))/\((True/\(Qe=(↑(nat_lit 0):Int)->((0:Int)<=Qe/\Qe<(↑(3:Nat):Int))/\((True/\(Qe=(↑(nat_lit 0):Int)->Qd (decide (Qg.1<Qi.1)) true fun Qs=>K Qs (0:Int)))/\(Qe=(↑(nat_lit 1):Int)->Qd (decide (Qg.1<Qi.2.1)) true fun Qs=>K Qs (0:Int)))/\(Qe=(↑(nat_lit 2):Int)->Qd (decide (Qg.1<Qi.2.2)) true fun Qs=>K Qs (0:Int))))/\(Qe=(↑(nat_lit 1):Int)->((0:Int)<=Qe/\Qe<(↑(3:Nat):Int))/\((True/\(Qe=(↑(nat_lit 0):Int)->Qd (decide (Qg.2.1<Qi.1)) true fun Qs=>K Qs (0:Int)))/\(Qe=(↑(nat_lit 1):Int)->Qd (decide (Qg.2.1<Qi.2.1)) true fun Qs=>K Qs (0:Int)))/\(Qe=(↑(nat_lit 2):Int)->Qd (decide (Qg.2.1<Qi.2.2)) true fun Qs=>K Qs (0:Int))))/\(Qe=(↑(nat_lit 2):Int)->((0:Int)<=Qe/\Qe<(↑(3:Nat):Int))/\((True/\(Qe=(↑(nat_lit 0):Int)->Qd (decide (Qg.2.2<Qi.1)) true fun Qs=>K Qs (0:Int)))/\(Qe=(↑(nat_lit 1):Int)->Qd (decide (Qg.2.2<Qi.2.1)) true fun Qs=>K Qs (0:Int)))/\(Qe=(↑(nat_lit 2):Int)->Qd (decide (Qg.2.2<Qi.2.2)) true fun Qs=>K Qs (0:Int))))))/\(Qe=(↑(nat_lit 1):Int)->Cnd (Qg.2.1=Qi.2.1) (InI (Qe+1)/\w8a (Qe+1)) (((0:Int)<=Qe/\Qe<(↑(3:Nat):Int))/\((True/\(Qe=(↑(nat_lit 0):Int)->((0:Int)<=Qe/\Qe<(↑(3:Nat):Int))/\((True/\(Qe=(↑(nat_lit 0):Int)->Qd (decide (Qg.1<Qi.1)) true fun Qs=>K Qs (0:Int)))/\(Qe=(↑(nat_lit 1):Int)->Qd (decide (Qg.1<Qi.2.1)) true fun Qs=>K Qs (0:Int)))/\(Qe=(↑(nat_lit 2):Int)->Qd (decide (Qg.1<Qi.2.2)) true fun Qs=>K Qs (0:Int))))/\(Qe=(↑(nat_lit 1):Int)->((0:Int)<=Qe/\Qe<(↑(3:Nat):Int))/\((True/\(Qe=(↑(nat_lit 0):Int)->Qd (decide (Qg.2.1<Qi.1)) true fun Qs=>K Qs (0:Int)))/\(Qe=(↑(nat_lit 1):Int)->Qd (decide (Qg.2.1<Qi.2.1)) true fun Qs=>K Qs (0:Int)))/\(Qe=(↑(nat_lit 2):Int)->Qd (decide (Qg.2.1<Qi.2.2)) true fun Qs=>K Qs (0:Int))))/\(Qe=(↑(nat_lit 2):Int)->((0:Int)<=Qe/\Qe<(↑(3:Nat):Int))/\((True/\(Qe=(↑(nat_lit 0):Int)->Qd (decide (Qg.2.2<Qi.1)) true fun Qs=>K Qs (0:Int)))/\(Qe=(↑(nat_lit 1):Int)->Qd (decide (Qg.2.2<Qi.2.1)) true fun Qs=>K Qs (0:Int)))/\(Qe=(↑(nat_lit 2):Int)->Qd (decide (Qg.2.2<Qi.2.2)) true fun Qs=>K Qs (0:Int))))))/\(Qe=(↑(nat_lit 2):Int)->Cnd (Qg.2.1=Qi.2.2) (InI (Qe+1)/\w8a (Qe+1)) (((0:Int)<=Qe/\Qe<(↑(3:Nat):Int))/\((True/\(Qe=(↑(nat_lit 0):Int)->((0:Int)<=Qe/\Qe<(↑(3:Nat):Int))/\((True/\(Qe=(↑(nat_lit 0):Int)->Qd (decide (Qg.1<Qi.1)) true fun Qs=>K Qs (0:Int)))/\(Qe=(↑(nat_lit 1):Int)->Qd (decide (Qg.1<Qi.2.1)) true fun Qs=>K Qs (0:Int)))/\(Qe=(↑(nat_lit 2):Int)->Qd (decide (Qg.1<Qi.2.2)) true fun Qs=>K Qs (0:Int))))/\(Qe=(↑(nat_lit 1):Int)->((0:Int)<=Qe/\Qe<(↑(3:Nat):Int))/\((True/\(Qe=(↑(nat_lit 0):Int)->Qd (decide (Qg.2.1<Qi.1)) true fun Qs=>K Qs (0:Int)))/\(Qe=(↑(nat_lit 1):Int)->Qd (decide (Qg.2.1<Qi.2.1)) true fun Qs=>K Qs (0:Int)))/\(Qe=(↑(nat_lit 2):Int)->Qd (decide (Qg.2.1<Qi.2.2)) true fun Qs=>K Qs (0:Int))))/\(Qe=(↑(nat_lit 2):Int)->((0:Int)<=Qe/\Qe<(↑(3:Nat):Int))/\((True/\(Qe=(↑(nat_lit 0):Int)->Qd (decide (Qg.2.2<Qi.1)) true fun Qs=>K Qs (0:Int)))/\(Qe=(↑(nat_lit 1):Int)->Qd (decide (Qg.2.2<Qi.2.1)) true fun Qs=>K Qs (0:Int)))/\(Qe=(↑(nat_lit 2):Int)->Qd (decide (Qg.2.2<Qi.2.2)) true fun Qs=>K Qs (0:Int)))))))/\(Qe=(↑(nat_lit 2):Int)->((0:Int)<=Qe/\Qe<(↑(3:Nat):Int))/\((True/\(Qe=(↑(nat_lit 0):Int)->Cnd (Qg.2.2=Qi.1) (InI (Qe+1)/\w8a (Qe+1)) (((0:Int)<=Qe/\Qe<(↑(3:Nat):Int))/\((True/\(Qe=(↑(nat_lit 0):Int)->((0:Int)<=Qe/\Qe<(↑(3:Nat):Int))/\((True/\(Qe=(↑(nat_lit 0):Int)->Qd (decide (Qg.1<Qi.1)) true fun Qs=>K Qs (0:Int)))/\(Qe=(↑(nat_lit 1):Int)->Qd (decide (Qg.1<Qi.2.1)) true fun Qs=>K Qs (0:Int)))/\(Qe=(↑(nat_lit 2):Int)->Qd (decide (Qg.1<Qi.2.2)) true fun Qs=>K Qs (0:Int))))/\(Qe=(↑(nat_lit 1):Int)->((0:Int)<=Qe/\Qe<(↑(3:Nat):Int))/\((True/\(Qe=(↑(nat_lit 0):Int)->Qd (decide (Qg.2.1<Qi.1)) true fun Qs=>K Qs (0:Int)))/\(Qe=(↑(nat_lit 1):Int)->Qd (decide (Qg.2.1<Qi.2.1)) true fun Qs=>K Qs (0:Int)))/\(Qe=(↑(nat_lit 2):Int)->Qd (decide (Qg.2.1<Qi.2.2)) true fun Qs=>K Qs (0:Int))))/\(Qe=(↑(nat_lit 2):Int)->((0:Int)<=Qe/\Qe<(↑(3:Nat):Int))/\((True/\(Qe=(↑(nat_lit 0):Int)->Qd (decide (Qg.2.2<Qi.1)) true fun Qs=>K Qs (0:Int)))/\(Qe=(↑(nat_lit 1):Int)->Qd (decide (Qg.2.2<Qi.2.1)) true fun Qs=>K Qs (0:Int)))/\(Qe=(↑(nat_lit 2):Int)->Qd (decide (Qg.2.2<Qi.2.2)) true fun Qs=>K Qs (0:Int))))))/\(Qe=(↑(nat_lit 1):Int)->Cnd (Qg.2.2=Qi.2.1) (InI (Qe+1)/\w8a (Qe+1)) (((0:Int)<=Qe/\Qe<(↑(3:Nat):Int))/\((True/\(Qe=(↑(nat_lit 0):Int)->((0:Int)<=Qe/\Qe<(↑(3:Nat):Int))/\((True/\(Qe=(↑(nat_lit 0):Int)->Qd (decide (Qg.1<Qi.1)) true fun Qs=>K Qs (0:Int)))/\(Qe=(↑(nat_lit 1):Int)->Qd (decide (Qg.1<Qi.2.1)) true fun Qs=>K Qs (0:Int)))/\(Qe=(↑(nat_lit 2):Int)->Qd (decide (Qg.1<Qi.2.2)) true fun Qs=>K Qs (0:Int))))/\(Qe=(↑(nat_lit 1):Int)->((0:Int)<=Qe/\Qe<(↑(3:Nat):Int))/\((True/\(Qe=(↑(nat_lit 0):Int)->Qd (decide (Qg.2.1<Qi.1)) true fun Qs=>K Qs (0:Int)))/\(Qe=(↑(nat_lit 1):Int)->Qd (decide (Qg.2.1<Qi.2.1)) true fun Qs=>K Qs (0:Int)))/\(Qe=(↑(nat_lit 2):Int)->Qd (decide (Qg.2.1<Qi.2.2)) true fun Qs=>K Qs (0:Int))))/\(Qe=(↑(nat_lit 2):Int)->((0:Int)<=Qe/\Qe<(↑(3:Nat):Int))/\((True/\(Qe=(↑(nat_lit 0):Int)->Qd (decide (Qg.2.2<Qi.1)) true fun Qs=>K Qs (0:Int)))/\(Qe=(↑(nat_lit 1):Int)->Qd (decide (Qg.2.2<Qi.2.1)) true fun Qs=>K Qs (0:Int)))/\(Qe=(↑(nat_lit 2):Int)->Qd (decide (Qg.2.2<Qi.2.2)) true fun Qs=>K Qs (0:Int))))))/\(Qe=(↑(nat_lit 2):Int)->Cnd (Qg.2.2=Qi.2.2) (InI (Qe+1)/\w8a (Qe+1)) (((0:Int)<=Qe/\Qe<(↑(3:Nat):Int))/\((True/\(Qe=(↑(nat_lit 0):Int)->((0:Int)<=Qe/\Qe<(↑(3:Nat):Int))/\((True/\(Qe=(↑(nat_lit 0):Int)->Qd (decide (Qg.1<Qi.1)) true fun Qs=>K Qs (0:Int)))/\(Qe=(↑(nat_lit 1):Int)->Qd (decide (Qg.1<Qi.2.1)) true fun Qs=>K Qs (0:Int)))/\(Qe=(↑(nat_lit 2):Int)->Qd (decide (Qg.1<Qi.2.2)) true fun Qs=>K Qs (0:Int))))/\(Qe=(↑(nat_lit 1):Int)->((0:Int)<=Qe/\Qe<(↑(3:Nat):Int))/\((True/\(Qe=(↑(nat_lit 0):Int)->Qd (decide (Qg.2.1<Qi.1)) true fun Qs=>K Qs (0:Int)))/\(Qe=(↑(nat_lit 1):Int)->Qd (decide (Qg.2.1<Qi.2.1)) true fun Qs=>K Qs (0:Int)))/\(Qe=(↑(nat_lit 2):Int)->Qd (decide (Qg.2.1<Qi.2.2)) true fun Qs=>K Qs (0:Int))))/\(Qe=(↑(nat_lit 2):Int)->((0:Int)<=Qe/\Qe<(↑(3:Nat):Int))/\((True/\(Qe=(↑(nat_lit 0):Int)->Qd (decide (Qg.2.2<Qi.1)) true fun Qs=>K Qs (0:Int)))/\(Qe=(↑(nat_lit 1):Int)->Qd (decide (Qg.2.2<Qi.2.1)) true fun Qs=>K Qs (0:Int)))/\(Qe=(↑(nat_lit 2):Int)->Qd (decide (Qg.2.2<Qi.2.2)) true fun Qs=>K Qs (0:Int))))))) (K (0:Int) (0:Int))) (0:Int)))))) (K (0:Int) (8:Int))) (K (0:Int) Qc)) (K (0:Int) Qa)
def q9i:z48:=j4q Hm z47 q1a
abbrev j26:Type:=Subj->Ex->(Bool->Prop)->Prop
def w1x(v0z:z8z)(Q2:Vg)(q1j:q69)(q94:z45)(z8b:z0d)(j49:z48):j26:=fun s e K=>v0z (Subj.mk s.1) e.2 e.3 fun Qa Qv=>Cnd (Qv=true) (Q2 e.1 fun Qc=>Cnd (Qc=true) (Cnd (e.1=6) (K true) (Cnd (e.1=8) (Lp1 (fun Qg j4n=>Fits e.4->CAt e.4 Qg (fun y4=>q1j Qa y4 fun Q4=>Cnd (Q4=true) (K true) (InI (Qg+1)/\j4n (Qg+1))) (K false)) (0:Int)) (Fits e.4->Cnd ((↑e.4.length:Int)=0) (K false) (((0:Int)<=(0:Int)/\(0:Int)<(↑e.4.length:Int))/\ ∀y3,e.4[Int.toNat (0:Int)]? =some y3->Cnd (Qa.1=3) (Cnd (e.1=7) (q1j Qa y3 fun Ql=>K Ql) (Cnd (e.1=9) (Cnd (y3.1=3) (q94 Qa.3 y3.3 (0:Int) fun Ql=>K Ql) (K false)) (Cnd (e.1=10) (Cnd (y3.1=3) (InI ((↑Qa.3.size:Int) - (↑y3.3.size:Int))/\q94 Qa.3 y3.3 ((↑Qa.3.size:Int) - (↑y3.3.size:Int)) fun Ql=>K Ql) (K false)) (Cnd (e.1=11) (z8b Qa y3 fun Ql=>K Ql) (j49 Qa y3 fun Ql q7f=>Cnd (q7f=0) (Cnd (e.1=12) (K (decide (Ql<0))) (Cnd (e.1=13) (K (decide (Ql<=0))) (Cnd (e.1=14) (K (decide ((0:Int)<Ql))) (K (decide ((0:Int)<=Ql)))))) (K false)))))) (Cnd (e.1=7) (q1j Qa y3 fun Ql=>K Ql) (Cnd (e.1=9) (K false) (Cnd (e.1=10) (K false) (Cnd (e.1=11) (z8b Qa y3 fun Ql=>K Ql) (j49 Qa y3 fun Ql q7f=>Cnd (q7f=0) (Cnd (e.1=12) (K (decide (Ql<0))) (Cnd (e.1=13) (K (decide (Ql<=0))) (Cnd (e.1=14) (K (decide ((0:Int)<Ql))) (K (decide ((0:Int)<=Ql)))))) (K false)))))))))) (K false)) (K false)
def j27:j26:=w1x z81 Jm q3s q9h z0e q9i
abbrev z6u:Type:=Subj->List (ByteArray)->Ex->(Bool->Prop)->Prop
def w1y(Vr:q4o)(v40:j26)(X:z6u):z6u:=fun s in_ e K=>Cnd (e.1=1) (K true) (Cnd (e.1=2) (Lp1 (fun Qa q4j=>Fits e.5->CAt e.5 Qa (fun y2=>X (Subj.mk s.1) in_ (Ex.mk y2.1 y2.2 y2.3 y2.4 y2.5) fun Qe=>Cnd (Qe=true) (InI (Qa+1)/\q4j (Qa+1)) (K false)) (K true)) (0:Int)) (Cnd (e.1=3) (Lp1 (fun Qa q4j=>Fits e.5->CAt e.5 Qa (fun y2=>X (Subj.mk s.1) in_ (Ex.mk y2.1 y2.2 y2.3 y2.4 y2.5) fun Qe=>Cnd (Qe=true) (K true) (InI (Qa+1)/\q4j (Qa+1))) (K false)) (0:Int)) (Cnd (e.1=4) (Fits e.5->Cnd ((0:Int)<(↑e.5.length:Int)) (((0:Int)<=(0:Int)/\(0:Int)<(↑e.5.length:Int))/\ ∀y1,e.5[Int.toNat (0:Int)]? =some y1->X (Subj.mk s.1) in_ (Ex.mk y1.1 y1.2 y1.3 y1.4 y1.5) fun Qi=>K (match decide ((Qi,()).1=true) with|true=>false|false=>true)) (K false)) (Cnd (e.1=5) (Vr in_ e.3 fun Qa=>K Qa) (v40 (Subj.mk s.1) (Ex.mk e.1 e.2 e.3 e.4 e.5) fun Qa=>K Qa)))))
def v3g:z6u:=fun s in_ e K=> ∀X:z6u,(∀s in_ e K,w1y q0b j27 X s in_ e K->X s in_ e K)->X s in_ e K
abbrev R6:Type:=Envt->ByteArray->Int->(Int->Int->Prop)->Prop
def j28(Zg:Wn)(Bg:q7a)(Qq:Jh):R6:=fun v key now K=>Zg (Envt.mk (Sett.mk v.1.1 v.1.2 v.1.3) v.2 v.3 v.4 v.5 v.6) key fun Qa=>Bg now fun Qc=>Cnd (Qc=true) (Cnd (Qa<0) (K (0:Int) (11:Int)) (At v.6 Qa fun y2=>Qq (Envt.mk (Sett.mk v.1.1 v.1.2 v.1.3) v.2 v.3 v.4 v.5 v.6) y2.2 fun Qe=>Cnd (Qe<0) (K (0:Int) (11:Int)) (K Qa (0:Int)))) (K (0:Int) (3:Int))
def R7:R6:=j28 J0 q09 Zr
abbrev z1a:Type:=List (Spn)->(Int->Prop)->Prop
def j29(Q9:V0):z1a:=fun l K=>Q9 l fun Qa=>Lp2 (fun Qc Z0 z34=>Fits Qa->CAt Qa Z0 (fun y3=>Cnd (y3=true) (InI (Qc+1)/\InI (Z0+1)/\z34 (Qc+1) (Z0+1)) (InI (Z0+1)/\z34 Qc (Z0+1))) (K Qc)) (0:Int) (0:Int)
def z1b:z1a:=j29 Wl
abbrev q1h:Type:=Envt->Int->Exper->(Envt->Prop)->Prop
def Hn:q1h:=fun v i x K=>Sml ([]++v.6).length/\((0:Int)<=i/\i<(↑([]++v.6).length:Int))/\ ∀y0,([]++v.6)[i.toNat]? =some y0->K (Envt.mk (Sett.mk v.1.1 v.1.2 v.1.3) v.2 v.3 v.4 v.5 (([]++v.6).set i.toNat (Exper.mk x.1 x.2 x.3 x.4 x.5 x.6 x.7 (Ex.mk x.8.1 x.8.2 x.8.3 x.8.4 x.8.5))))
abbrev q8j:Type:=Envt->ByteArray->Int->Int->(Envt->Int->Prop)->Prop
def z82(Wq:R6)(Bk:q3u)(z7c:z1a)(Gy:q0q)(Wv:q0l)(Wd:q1h):q8j:=fun v experiment size now K=>Wq (Envt.mk (Sett.mk v.1.1 v.1.2 v.1.3) v.2 v.3 v.4 v.5 v.6) experiment now fun Qa Qv=>Cnd (Qv=0) (At v.6 Qa fun y1=>Cnd (y1.5=3) (K (Envt.mk (Sett.mk (ByteArray.mk (Array.mk [])) (ByteArray.mk (Array.mk [])) (0:Int)) [] [] [] [] []) (25:Int)) (Cnd (size<1) (K (Envt.mk (Sett.mk (ByteArray.mk (Array.mk [])) (ByteArray.mk (Array.mk [])) (0:Int)) [] [] [] [] []) (3:Int)) (Bk (Envt.mk (Sett.mk v.1.1 v.1.2 v.1.3) v.2 v.3 v.4 v.5 v.6) y1.2 now fun Qi _=>z7c Qi fun Qe=>Cnd (Qe<size) (K (Envt.mk (Sett.mk (ByteArray.mk (Array.mk [])) (ByteArray.mk (Array.mk [])) (0:Int)) [] [] [] [] []) (19:Int)) (Gy Qi size fun Ql=>Wv y1.6 Ql fun Q4=>Fits Q4->Cnd ((16:Int)<(↑Q4.length:Int)) (K (Envt.mk (Sett.mk (ByteArray.mk (Array.mk [])) (ByteArray.mk (Array.mk [])) (0:Int)) [] [] [] [] []) (5:Int)) (Wd (Envt.mk (Sett.mk v.1.1 v.1.2 v.1.3) v.2 v.3 v.4 v.5 v.6) Qa (Exper.mk y1.1 y1.2 y1.3 y1.4 y1.5 Q4 y1.7 (Ex.mk y1.8.1 y1.8.2 y1.8.3 y1.8.4 y1.8.5)) fun J7=>K (Envt.mk (Sett.mk J7.1.1 J7.1.2 J7.1.3) J7.2 J7.3 J7.4 J7.5 J7.6) (0:Int)))))) (K (Envt.mk (Sett.mk (ByteArray.mk (Array.mk [])) (ByteArray.mk (Array.mk [])) (0:Int)) [] [] [] [] []) Qv)
def q8k:q8j:=z82 R7 q3v z1b q0r Gi Hn
abbrev q8l:Type:=Envt->ByteArray->Int->(Envt->Int->Prop)->Prop
def z83(Wq:R6)(Gw:q0m)(Uh:Rg)(Wd:q1h):q8l:=fun v experiment now K=>Wq (Envt.mk (Sett.mk v.1.1 v.1.2 v.1.3) v.2 v.3 v.4 v.5 v.6) experiment now fun Qa Qv=>Cnd (Qv=0) (At v.6 Qa fun y1=>Cnd (y1.5=1) (Gw (Envt.mk (Sett.mk v.1.1 v.1.2 v.1.3) v.2 v.3 v.4 v.5 v.6) y1.2 y1.1 now fun Qi=>Uh y1.6 Qi fun Qe=>Fits Qe->Cnd ((0:Int)<(↑Qe.length:Int)) (K (Envt.mk (Sett.mk (ByteArray.mk (Array.mk [])) (ByteArray.mk (Array.mk [])) (0:Int)) [] [] [] [] []) (14:Int)) (Wd (Envt.mk (Sett.mk v.1.1 v.1.2 v.1.3) v.2 v.3 v.4 v.5 v.6) Qa (Exper.mk y1.1 y1.2 y1.3 y1.4 (2:Int) y1.6 y1.7 (Ex.mk y1.8.1 y1.8.2 y1.8.3 y1.8.4 y1.8.5)) fun Q4=>K (Envt.mk (Sett.mk Q4.1.1 Q4.1.2 Q4.1.3) Q4.2 Q4.3 Q4.4 Q4.5 Q4.6) (0:Int))) (K (Envt.mk (Sett.mk (ByteArray.mk (Array.mk [])) (ByteArray.mk (Array.mk [])) (0:Int)) [] [] [] [] []) (25:Int))) (K (Envt.mk (Sett.mk (ByteArray.mk (Array.mk [])) (ByteArray.mk (Array.mk [])) (0:Int)) [] [] [] [] []) Qv)
def q8m:q8l:=z83 R7 q0n V4 Hn
abbrev j0q:Type:=Int->Int->(Int->Prop)->Prop
def j0r:j0q:=fun now cool K=>InI ((1099511627776:Int) - now)/\Cnd ((1099511627776:Int) - now<cool) (K (1099511627776:Int)) (InI (now+cool)/\K (now+cool))
abbrev q6m:Type:=List (Int)->Int->(List (Col)->Prop)->Prop
def R8:q6m:=fun until_ now K=>Lp2 (fun Qa Qv q1k=>Fits until_->CAt until_ Qv (fun y2=>Cnd (y2<=now) (InI (Qv+1)/\q1k Qa (Qv+1)) (Cnd ((0:Int)<Qv) (InI (Qv - 1)/\((0:Int)<=Qv - 1/\Qv - 1<(↑until_.length:Int))/\ ∀y4,until_[(Qv - 1).toNat]? =some y4->At until_ Qv fun y6=>Cnd (y4=y6) (Fits Qa->InI ((↑Qa.length:Int) - 1)/\InI (Qv+1)/\((0:Int)<=(↑Qa.length:Int) - 1/\(↑Qa.length:Int) - 1<(↑Qa.length:Int))/\ ∀y9,Qa[((↑Qa.length:Int) - 1).toNat]? =some y9->InI (Qv+1)/\q1k (Qa.set ((↑Qa.length:Int) - 1).toNat (Col.mk y9.1 (Qv+1) y9.3)) (Qv+1)) (InI (Qv+1)/\At until_ Qv fun y8=>Sml (Qa++[Col.mk Qv (Qv+1) y8]).length/\InI (Qv+1)/\q1k (Qa++[Col.mk Qv (Qv+1) y8]) (Qv+1))) (InI (Qv+1)/\At until_ Qv fun y4=>Sml (Qa++[Col.mk Qv (Qv+1) y4]).length/\InI (Qv+1)/\q1k (Qa++[Col.mk Qv (Qv+1) y4]) (Qv+1)))) (K Qa)) [] (0:Int)
abbrev z1c:Type:=Envt->ByteArray->Int->(Envt->Int->Prop)->Prop
def j3a(Wq:R6)(Qq:Jh)(Jg:U0)(Q9:V0)(j2c:j0q)(q3r:q6m)(Wd:q1h):z1c:=fun v experiment now K=>Wq (Envt.mk (Sett.mk v.1.1 v.1.2 v.1.3) v.2 v.3 v.4 v.5 v.6) experiment now fun Qa Qv=>Cnd (Qv=0) (At v.6 Qa fun y1=>Cnd (y1.5=2) (Qq (Envt.mk (Sett.mk v.1.1 v.1.2 v.1.3) v.2 v.3 v.4 v.5 v.6) y1.2 fun Qi=>At v.5 Qi fun y4=>Jg y4.6 now fun Q4=>Q9 y1.6 fun Ju=>Lp2 (fun J7 w5j y8w=>Fits w5j->Cnd (J7<(↑w5j.length:Int)) (Cnd ((0:Int)<y4.5) (At Ju J7 fun y10=>Cnd (y10=true) (At w5j J7 fun y12=>j2c now y4.5 fun Ve=>At w5j J7 fun _=>InI (J7+1)/\y8w (J7+1) (w5j.set J7.toNat (Max.max y12 Ve))) (InI (J7+1)/\y8w (J7+1) w5j)) (q3r w5j now fun Jv=>Fits Jv->Cnd ((32:Int)<(↑Jv.length:Int)) (K (Envt.mk (Sett.mk (ByteArray.mk (Array.mk [])) (ByteArray.mk (Array.mk [])) (0:Int)) [] [] [] [] []) (5:Int)) (Wd (Envt.mk (Sett.mk v.1.1 v.1.2 v.1.3) v.2 v.3 v.4 v.5 v.6) Qa (Exper.mk y1.1 y1.2 y1.3 y1.4 (3:Int) y1.6 y1.7 (Ex.mk y1.8.1 y1.8.2 y1.8.3 y1.8.4 y1.8.5)) fun Zw=>Sml ([]++Zw.5).length/\((0:Int)<=Qi/\Qi<(↑([]++Zw.5).length:Int))/\ ∀y13,([]++Zw.5)[Qi.toNat]? =some y13->K (Envt.mk (Sett.mk Zw.1.1 Zw.1.2 Zw.1.3) Zw.2 Zw.3 Zw.4 (([]++Zw.5).set Qi.toNat (Lay_.mk y4.1 y4.2 y4.3 y4.4 y4.5 Jv)) Zw.6) (0:Int)))) (q3r w5j now fun Jv=>Fits Jv->Cnd ((32:Int)<(↑Jv.length:Int)) (K (Envt.mk (Sett.mk (ByteArray.mk (Array.mk [])) (ByteArray.mk (Array.mk [])) (0:Int)) [] [] [] [] []) (5:Int)) (Wd (Envt.mk (Sett.mk v.1.1 v.1.2 v.1.3) v.2 v.3 v.4 v.5 v.6) Qa (Exper.mk y1.1 y1.2 y1.3 y1.4 (3:Int) y1.6 y1.7 (Ex.mk y1.8.1 y1.8.2 y1.8.3 y1.8.4 y1.8.5)) fun Zw=>Sml ([]++Zw.5).length/\((0:Int)<=Qi/\Qi<(↑([]++Zw.5).length:Int))/\ ∀y13,([]++Zw.5)[Qi.toNat]? =some y13->K (Envt.mk (Sett.mk Zw.1.1 Zw.1.2 Zw.1.3) Zw.2 Zw.3 Zw.4 (([]++Zw.5).set Qi.toNat (Lay_.mk y4.1 y4.2 y4.3 y4.4 y4.5 Jv)) Zw.6) (0:Int)))) (0:Int) Q4) (K (Envt.mk (Sett.mk (ByteArray.mk (Array.mk [])) (ByteArray.mk (Array.mk [])) (0:Int)) [] [] [] [] []) (25:Int))) (K (Envt.mk (Sett.mk (ByteArray.mk (Array.mk [])) (ByteArray.mk (Array.mk [])) (0:Int)) [] [] [] [] []) Qv)
def z1d:z1c:=j3a R7 Zr Vi Wl j0r R8 Hn
abbrev j0s:Type:=List (Int)->Int->Envt->Int->(Envt->Int->Prop)->Prop
def w3s(Qb:Zf)(Ww:q0s)(Jt:q1t)(z3l:q8j)(z3m:q8l)(z7d:z1c):j0s:=fun list at_ v now K=>Fits v.6->Cnd ((↑v.6.length:Int)=0) (K (Envt.mk (Sett.mk v.1.1 v.1.2 v.1.3) v.2 v.3 v.4 v.5 v.6) at_) (Fits v.6->Qb list at_ (↑v.6.length:Int) fun Qg Zj=>At v.6 Qg fun y3=>Jn1 (fun (Ql:Int×ByteArray×ByteArray×Int×List Decl×List Seg×List Flg×List Lay_×List Exper×Int×Unit)=>Cnd (Ql.1=0) (Ww (Envt.mk (Sett.mk Ql.2.1 Ql.2.2.1 Ql.2.2.2.1) Ql.2.2.2.2.1 Ql.2.2.2.2.2.1 Ql.2.2.2.2.2.2.1 Ql.2.2.2.2.2.2.2.1 Ql.2.2.2.2.2.2.2.2.1) fun Q4=>Cnd (Q4=true) (K (Envt.mk (Sett.mk Ql.2.1 Ql.2.2.1 Ql.2.2.2.1) Ql.2.2.2.2.1 Ql.2.2.2.2.2.1 Ql.2.2.2.2.2.2.1 Ql.2.2.2.2.2.2.2.1 Ql.2.2.2.2.2.2.2.2.1) Ql.2.2.2.2.2.2.2.2.2.1) (K (Envt.mk (Sett.mk v.1.1 v.1.2 v.1.3) v.2 v.3 v.4 v.5 v.6) Ql.2.2.2.2.2.2.2.2.2.1)) (K (Envt.mk (Sett.mk v.1.1 v.1.2 v.1.3) v.2 v.3 v.4 v.5 v.6) Ql.2.2.2.2.2.2.2.2.2.1)) fun (y6h:Int×ByteArray×ByteArray×Int×List Decl×List Seg×List Flg×List Lay_×List Exper×Int×Unit->Prop)=>Qb list Zj (3:Int) fun Q4 z32=>Cnd (Q4=0) (Jt list z32 (1500:Int) fun Ju z33=>InI ((1:Int)+Ju)/\z3l (Envt.mk (Sett.mk v.1.1 v.1.2 v.1.3) v.2 v.3 v.4 v.5 v.6) y3.1 ((1:Int)+Ju) now fun J7 w5j=>y6h (w5j,J7.1.1,J7.1.2,J7.1.3,J7.2,J7.3,J7.4,J7.5,J7.6,z33,())) (Cnd (Q4=1) (z3m (Envt.mk (Sett.mk v.1.1 v.1.2 v.1.3) v.2 v.3 v.4 v.5 v.6) y3.1 now fun Ju z33=>y6h (z33,Ju.1.1,Ju.1.2,Ju.1.3,Ju.2,Ju.3,Ju.4,Ju.5,Ju.6,z32,())) (Cnd (Q4=2) (z7d (Envt.mk (Sett.mk v.1.1 v.1.2 v.1.3) v.2 v.3 v.4 v.5 v.6) y3.1 now fun Ju z33=>y6h (z33,Ju.1.1,Ju.1.2,Ju.1.3,Ju.2,Ju.3,Ju.4,Ju.5,Ju.6,z32,())) (y6h ((0:Int),ByteArray.mk (Array.mk []),ByteArray.mk (Array.mk []),(0:Int),[],[],[],[],[],z32,())))))
def j0t:j0s:=w3s Zb Wt q1u q8k q8m z1d
abbrev q0y:Type:=List (Int)->List (Int)->List (Int)->Bool->(Bool->Prop)->Prop
def q0z(q65:q2r)(q66:q2t)(Zg:Wn)(J6:Rr)(q9a:j24)(j2d:j0s):q0y:=fun codes who acts force K=>q65 fun Qa=>Cnd (Qa=true) (q66 codes who fun Qc Z0 z63=>Lp2 (fun Qg Zj q5w=>Cnd (force=true) (Fits z63->CAt z63 Zj (fun y4=>Zg (Envt.mk (Sett.mk Qc.1.1 Qc.1.2 Qc.1.3) Qc.2 Qc.3 Qc.4 Qc.5 Qc.6) y4.2 fun Q4=>Cnd (Q4<0) (At z63 Zj fun y7=>Sml (Qg++[y7]).length/\InI (Zj+1)/\q5w (Qg++[y7]) (Zj+1)) (At Qc.6 Q4 fun y7=>Cnd (y7.5=2) (At z63 Zj fun y9=>Sml (Qg++[y9]).length/\InI (Zj+1)/\q5w (Qg++[y9]) (Zj+1)) (InI (Zj+1)/\q5w Qg (Zj+1)))) (J6 (Envt.mk (Sett.mk Qc.1.1 Qc.1.2 Qc.1.3) Qc.2 Qc.3 Qc.4 Qc.5 Qc.6) (Subj.mk Z0.1) Qg fun Qe=>q9a acts (30:Int) fun Ql q7f=>LpH (fun (Q4:Int×ByteArray×ByteArray×Int×List Decl×List Seg×List Flg×List Lay_×List Exper×Int×Unit) (y2k:Int×ByteArray×ByteArray×Int×List Decl×List Seg×List Flg×List Lay_×List Exper×Int×Unit->Prop)=>Cnd (Q4.1<5) (j2d Ql Q4.2.2.2.2.2.2.2.2.2.1 (Envt.mk (Sett.mk Q4.2.1 Q4.2.2.1 Q4.2.2.2.1) Q4.2.2.2.2.1 Q4.2.2.2.2.2.1 Q4.2.2.2.2.2.2.1 Q4.2.2.2.2.2.2.2.1 Q4.2.2.2.2.2.2.2.2.1) (10:Int) fun Ju z33=>InI (Q4.1+1)/\y2k (Q4.1+1,Ju.1.1,Ju.1.2,Ju.1.3,Ju.2,Ju.3,Ju.4,Ju.5,Ju.6,z33,())) (J6 (Envt.mk (Sett.mk Q4.2.1 Q4.2.2.1 Q4.2.2.2.1) Q4.2.2.2.2.1 Q4.2.2.2.2.2.1 Q4.2.2.2.2.2.2.1 Q4.2.2.2.2.2.2.2.1 Q4.2.2.2.2.2.2.2.2.1) (Subj.mk Z0.1) Qg fun Ju=>Fits Qe->Fits Ju->Cnd ((↑Qe.length:Int)=(↑Ju.length:Int)) (Fits Qe->Lp1 (fun Vt y6x=>CAt Qe Vt (fun y12=>Zg (Envt.mk (Sett.mk Q4.2.1 Q4.2.2.1 Q4.2.2.2.1) Q4.2.2.2.2.1 Q4.2.2.2.2.2.1 Q4.2.2.2.2.2.2.1 Q4.2.2.2.2.2.2.2.1 Q4.2.2.2.2.2.2.2.2.1) y12.2 fun Ve=>Cnd (Ve<0) (InI (Vt+1)/\y6x (Vt+1)) (At Q4.2.2.2.2.2.2.2.2.1 Ve fun y15=>Cnd (y15.5=2) (At Ju Vt fun y17=>At Qe Vt fun y19=>Cnd (y17.2=y19.2) (At Ju Vt fun y21=>At Qe Vt fun y23=>Cnd (y21.4=y23.4) (InI (Vt+1)/\y6x (Vt+1)) (K false)) (K false)) (InI (Vt+1)/\y6x (Vt+1)))) (K true)) (0:Int)) (K false))) ((0:Int),Qc.1.1,Qc.1.2,Qc.1.3,Qc.2,Qc.3,Qc.4,Qc.5,Qc.6,q7f,()))) (J6 (Envt.mk (Sett.mk Qc.1.1 Qc.1.2 Qc.1.3) Qc.2 Qc.3 Qc.4 Qc.5 Qc.6) (Subj.mk Z0.1) Qg fun Qi=>q9a acts (30:Int) fun Qe J5=>LpH (fun (Ql:Int×ByteArray×ByteArray×Int×List Decl×List Seg×List Flg×List Lay_×List Exper×Int×Unit) (j6t:Int×ByteArray×ByteArray×Int×List Decl×List Seg×List Flg×List Lay_×List Exper×Int×Unit->Prop)=>Cnd (Ql.1<5) (j2d Qe Ql.2.2.2.2.2.2.2.2.2.1 (Envt.mk (Sett.mk Ql.2.1 Ql.2.2.1 Ql.2.2.2.1) Ql.2.2.2.2.1 Ql.2.2.2.2.2.1 Ql.2.2.2.2.2.2.1 Ql.2.2.2.2.2.2.2.1 Ql.2.2.2.2.2.2.2.2.1) (10:Int) fun Q4 z32=>InI (Ql.1+1)/\j6t (Ql.1+1,Q4.1.1,Q4.1.2,Q4.1.3,Q4.2,Q4.3,Q4.4,Q4.5,Q4.6,z32,())) (J6 (Envt.mk (Sett.mk Ql.2.1 Ql.2.2.1 Ql.2.2.2.1) Ql.2.2.2.2.1 Ql.2.2.2.2.2.1 Ql.2.2.2.2.2.2.1 Ql.2.2.2.2.2.2.2.1 Ql.2.2.2.2.2.2.2.2.1) (Subj.mk Z0.1) Qg fun Q4=>Fits Qi->Fits Q4->Cnd ((↑Qi.length:Int)=(↑Q4.length:Int)) (Fits Qi->Lp1 (fun Jv y6y=>CAt Qi Jv (fun y11=>Zg (Envt.mk (Sett.mk Ql.2.1 Ql.2.2.1 Ql.2.2.2.1) Ql.2.2.2.2.1 Ql.2.2.2.2.2.1 Ql.2.2.2.2.2.2.1 Ql.2.2.2.2.2.2.2.1 Ql.2.2.2.2.2.2.2.2.1) y11.2 fun Za=>Cnd (Za<0) (InI (Jv+1)/\y6y (Jv+1)) (At Ql.2.2.2.2.2.2.2.2.1 Za fun y14=>Cnd (y14.5=2) (At Q4 Jv fun y16=>At Qi Jv fun y18=>Cnd (y16.2=y18.2) (At Q4 Jv fun y20=>At Qi Jv fun y22=>Cnd (y20.4=y22.4) (InI (Jv+1)/\y6y (Jv+1)) (K false)) (K false)) (InI (Jv+1)/\y6y (Jv+1)))) (K true)) (0:Int)) (K false))) ((0:Int),Qc.1.1,Qc.1.2,Qc.1.3,Qc.2,Qc.3,Qc.4,Qc.5,Qc.6,J5,()))) [] (0:Int)) (K false)
def Jo:q0y:=q0z q2s q2u J0 Rs z8w j0t
end Go.En
end
noncomputable section
set_option maxRecDepth 100000
namespace Go.Proofs
open Go.Shelf
def Tryz.laysC172_ren:Go.Shelf.Ren:=⟨fun|172=>270|244=>287|245=>288|247=>296|279=>297|280=>298|281=>299|282=>300|287=>303|316=>304|171=>306|205=>305|321=>307|322=>308|243=>309|246=>310|283=>311|284=>312|285=>313|286=>314|129=>203|317=>315|318=>316|319=>317|320=>318|337=>319|338=>320|n=>n,fun|9=>9|3=>3|75=>326|76=>327|4=>4|5=>5|167=>354|37=>22|0=>0|85=>355|2=>2|168=>357|53=>112|175=>360|46=>221|210=>364|127=>368|145=>371|143=>369|21=>21|171=>373|173=>375|212=>378|51=>282|20=>20|213=>379|232=>380|233=>381|80=>124|n=>n,fun|15=>6|16=>7|17=>8|18=>9|19=>10|n=>n⟩
theorem Tryz.laysC172:Go.Proofs.LaysC.n172 Tryz.prog Tryz.laysC172_ren:={
 mixed:=by kernel_rfl
 f129:=Tryz.func203.trans (congrArg some (by kernel_rfl))
 f171:=Tryz.func306.trans (congrArg some (by kernel_rfl))
 f172:=Tryz.func270.trans (congrArg some (by kernel_rfl))
 f205:=Tryz.func305.trans (congrArg some (by kernel_rfl))
 f243:=Tryz.func309.trans (congrArg some (by kernel_rfl))
 f244:=Tryz.func287.trans (congrArg some (by kernel_rfl))
 f245:=Tryz.func288.trans (congrArg some (by kernel_rfl))
 f246:=Tryz.func310.trans (congrArg some (by kernel_rfl))
 f247:=Tryz.func296.trans (congrArg some (by kernel_rfl))
 f279:=Tryz.func297.trans (congrArg some (by kernel_rfl))
 f280:=Tryz.func298.trans (congrArg some (by kernel_rfl))
 f281:=Tryz.func299.trans (congrArg some (by kernel_rfl))
 f282:=Tryz.func300.trans (congrArg some (by kernel_rfl))
 f283:=Tryz.func311.trans (congrArg some (by kernel_rfl))
 f284:=Tryz.func312.trans (congrArg some (by kernel_rfl))
 f285:=Tryz.func313.trans (congrArg some (by kernel_rfl))
 f286:=Tryz.func314.trans (congrArg some (by kernel_rfl))
 f287:=Tryz.func303.trans (congrArg some (by kernel_rfl))
 f316:=Tryz.func304.trans (congrArg some (by kernel_rfl))
 f317:=Tryz.func315.trans (congrArg some (by kernel_rfl))
 f318:=Tryz.func316.trans (congrArg some (by kernel_rfl))
 f319:=Tryz.func317.trans (congrArg some (by kernel_rfl))
 f320:=Tryz.func318.trans (congrArg some (by kernel_rfl))
 f321:=Tryz.func307.trans (congrArg some (by kernel_rfl))
 f322:=Tryz.func308.trans (congrArg some (by kernel_rfl))
 f337:=Tryz.func319.trans (congrArg some (by kernel_rfl))
 f338:=Tryz.func320.trans (congrArg some (by kernel_rfl))
 t0:=Tryz.underlying0
 a0:=Tryz.isAgg0
 z0:=Tryz.sizeOf0
 v0:=Tryz.zeroValue0
 t2:=Tryz.underlying2
 a2:=Tryz.isAgg2
 z2:=Tryz.sizeOf2
 v2:=Tryz.zeroValue2
 t3:=Tryz.underlying3
 a3:=Tryz.isAgg3
 z3:=Tryz.sizeOf3
 v3:=Tryz.zeroValue3
 t4:=Tryz.underlying4
 a4:=Tryz.isAgg4
 z4:=Tryz.sizeOf4
 v4:=Tryz.zeroValue4
 t5:=Tryz.underlying5
 a5:=Tryz.isAgg5
 z5:=Tryz.sizeOf5
 v5:=Tryz.zeroValue5
 t9:=Tryz.underlying9
 a9:=Tryz.isAgg9
 z9:=Tryz.sizeOf9
 v9:=Tryz.zeroValue9
 t20:=Tryz.underlying20
 a20:=Tryz.isAgg20
 z20:=Tryz.sizeOf20
 v20:=Tryz.zeroValue20
 t21:=Tryz.underlying21
 a21:=Tryz.isAgg21
 z21:=Tryz.sizeOf21
 v21:=Tryz.zeroValue21
 t37:=Tryz.underlying22
 a37:=Tryz.isAgg22
 z37:=Tryz.sizeOf22
 v37:=Tryz.zeroValue22
 t46:=Tryz.underlying221
 a46:=Tryz.isAgg221
 z46:=Tryz.sizeOf221
 v46:=Tryz.zeroValue221
 t51:=Tryz.underlying282
 a51:=Tryz.isAgg282
 z51:=Tryz.sizeOf282
 v51:=Tryz.zeroValue282
 t53:=Tryz.underlying112
 a53:=Tryz.isAgg112
 z53:=Tryz.sizeOf112
 v53:=Tryz.zeroValue112
 t75:=Tryz.underlying326
 a75:=Tryz.isAgg326
 z75:=Tryz.sizeOf326
 v75:=Tryz.zeroValue326
 t76:=Tryz.underlying327
 a76:=Tryz.isAgg327
 z76:=Tryz.sizeOf327
 v76:=Tryz.zeroValue327
 t85:=Tryz.underlying355
 a85:=Tryz.isAgg355
 z85:=Tryz.sizeOf355
 v85:=Tryz.zeroValue355
 t127:=Tryz.underlying368
 a127:=Tryz.isAgg368
 z127:=Tryz.sizeOf368
 v127:=Tryz.zeroValue368
 t143:=Tryz.underlying369
 a143:=Tryz.isAgg369
 z143:=Tryz.sizeOf369
 v143:=Tryz.zeroValue369
 t145:=Tryz.underlying371
 a145:=Tryz.isAgg371
 z145:=Tryz.sizeOf371
 v145:=Tryz.zeroValue371
 t167:=Tryz.underlying354
 a167:=Tryz.isAgg354
 z167:=Tryz.sizeOf354
 v167:=Tryz.zeroValue354
 t168:=Tryz.underlying357
 a168:=Tryz.isAgg357
 z168:=Tryz.sizeOf357
 v168:=Tryz.zeroValue357
 t171:=Tryz.underlying373
 a171:=Tryz.isAgg373
 z171:=Tryz.sizeOf373
 v171:=Tryz.zeroValue373
 t173:=Tryz.underlying375
 a173:=Tryz.isAgg375
 z173:=Tryz.sizeOf375
 v173:=Tryz.zeroValue375
 t175:=Tryz.underlying360
 a175:=Tryz.isAgg360
 z175:=Tryz.sizeOf360
 v175:=Tryz.zeroValue360
 t210:=Tryz.underlying364
 a210:=Tryz.isAgg364
 z210:=Tryz.sizeOf364
 v210:=Tryz.zeroValue364
 t212:=Tryz.underlying378
 a212:=Tryz.isAgg378
 z212:=Tryz.sizeOf378
 v212:=Tryz.zeroValue378
 t213:=Tryz.underlying379
 a213:=Tryz.isAgg379
 z213:=Tryz.sizeOf379
 t232:=Tryz.underlying380
 a232:=Tryz.isAgg380
 z232:=Tryz.sizeOf380
 v232:=Tryz.zeroValue380
 t233:=Tryz.underlying381
 a233:=Tryz.isAgg381
 z233:=Tryz.sizeOf381
 v233:=Tryz.zeroValue381
 g15:=by kernel_rfl
 g16:=by kernel_rfl
 g17:=by kernel_rfl
 g18:=by kernel_rfl
 g19:=by kernel_rfl
 t80:=Tryz.underlying124
 a80:=Tryz.isAgg124
 z80:=Tryz.sizeOf124
 v80:=Tryz.zeroValue124
 i0:=by kernel_rfl
 i2:=by kernel_rfl
 i3:=by kernel_rfl
 i4:=by kernel_rfl
 i5:=by kernel_rfl
 i9:=by kernel_rfl
 i20:=by kernel_rfl
 i21:=by kernel_rfl
 i37:=by kernel_rfl
 i46:=by kernel_rfl
 i51:=by kernel_rfl
 i53:=by kernel_rfl
 i75:=by kernel_rfl
 i76:=by kernel_rfl
 i80:=by kernel_rfl
 i85:=by kernel_rfl
 i127:=by kernel_rfl
 i143:=by kernel_rfl
 i145:=by kernel_rfl
 i167:=by kernel_rfl
 i168:=by kernel_rfl
 i171:=by kernel_rfl
 i173:=by kernel_rfl
 i175:=by kernel_rfl
 i210:=by kernel_rfl
 i212:=by kernel_rfl
 i232:=by kernel_rfl
 i233:=by kernel_rfl
 m15:=by kernel_rfl
 m16:=by kernel_rfl
 m17:=by kernel_rfl
 m18:=by kernel_rfl
 m19:=by kernel_rfl
 c0:=by kernel_rfl
 c2:=by kernel_rfl
 c3:=by kernel_rfl
 c4:=by kernel_rfl
 c5:=by kernel_rfl
 c9:=by kernel_rfl
 c20:=by kernel_rfl
 c21:=by kernel_rfl
 c37:=by kernel_rfl
 c46:=by kernel_rfl
 c51:=by kernel_rfl
 c53:=by kernel_rfl
 c75:=by kernel_rfl
 c76:=by kernel_rfl
 c80:=by kernel_rfl
 c85:=by kernel_rfl
 c127:=by kernel_rfl
 c143:=by kernel_rfl
 c145:=by kernel_rfl
 c167:=by kernel_rfl
 c168:=by kernel_rfl
 c171:=by kernel_rfl
 c173:=by kernel_rfl
 c175:=by kernel_rfl
 c210:=by kernel_rfl
 c212:=by kernel_rfl
 c213:=by kernel_rfl
 c232:=by kernel_rfl
 c233:=by kernel_rfl}
open Go.RowKit in
theorem Tryz.strconv_Atoi_ok(s:ByteArray)(hmax:s.size<=9223372036854775806)(v:Int)(h:Lib.atoiAll s.data.toList= .ok v)(w:World):
  Calls Tryz.prog 270 #[.string s] w fun e w'=>e= .returned (.tuple #[.int .i64 v,.nilIface])/\(w'=w∨ ∃t,w'=Lib.bytesWorld w 5 t):=Any.strconv_Atoi_ok Tryz.laysC172 s hmax v h w
open Go.RowKit in
theorem Tryz.strconv_Atoi_syntax(s:ByteArray)(hlim:s.size<=281474976710656)(h:Lib.atoiAll s.data.toList=Go.Lib.NumEnd.syntax)(ev:Value)(w:World)(hv:w.cell? ⟨6,0,none⟩=some ev)(hev:ev= .nilIface∨ ∃te pe,ev= .iface te pe):
  Calls Tryz.prog 270 #[.string s] w fun e w'=> ∃N,e= .returned (.tuple #[.int .i64 (0),.iface 357 (.pointer (some ⟨N,0,none⟩))])/\w.heap.size<=N/\w'.heap[N]? =some (.cells #[.string ⟨#[65,116,111,105]⟩,.string s,ev] 364 (0,0))/\Below w.heap.size w w':=Any.strconv_Atoi_syntax Tryz.laysC172 s hlim h ev w hv hev
open Go.RowKit in
theorem Tryz.strconv_Atoi_range(s:ByteArray)(hlim:s.size<=281474976710656)(h:Lib.atoiAll s.data.toList= .range)(ev:Value)(w:World)(hv:w.cell? ⟨7,0,none⟩=some ev)(hev:ev= .nilIface∨ ∃te pe,ev= .iface te pe):
  Calls Tryz.prog 270 #[.string s] w fun e w'=> ∃N,e= .returned (.tuple #[.int .i64 (Lib.atoiSat s.data.toList),.iface 357 (.pointer (some ⟨N,0,none⟩))])/\w.heap.size<=N/\w'.heap[N]? =some (.cells #[.string ⟨#[65,116,111,105]⟩,.string s,ev] 364 (0,0))/\Below w.heap.size w w':=Any.strconv_Atoi_range Tryz.laysC172 s hlim h ev w hv hev
def Tryz.lays144_ren:Go.Shelf.Ren:=⟨fun|144=>136|143=>177|219=>226|217=>264|225=>265|224=>266|267=>267|266=>282|314=>283|n=>n,fun|9=>9|4=>4|3=>3|5=>5|46=>221|146=>345|51=>282|n=>n,fun|1=>3|n=>n⟩
theorem Tryz.lays144:Go.Proofs.Lays.n144 Tryz.prog Tryz.lays144_ren:={
 mixed:=by kernel_rfl
 f143:=Tryz.func177.trans (congrArg some (by kernel_rfl))
 f144:=Tryz.func136.trans (congrArg some (by kernel_rfl))
 f217:=Tryz.func264.trans (congrArg some (by kernel_rfl))
 f219:=Tryz.func226.trans (congrArg some (by kernel_rfl))
 f224:=Tryz.func266.trans (congrArg some (by kernel_rfl))
 f225:=Tryz.func265.trans (congrArg some (by kernel_rfl))
 f266:=Tryz.func282.trans (congrArg some (by kernel_rfl))
 f267:=Tryz.func267.trans (congrArg some (by kernel_rfl))
 f314:=Tryz.func283.trans (congrArg some (by kernel_rfl))
 t3:=Tryz.underlying3
 a3:=Tryz.isAgg3
 z3:=Tryz.sizeOf3
 v3:=Tryz.zeroValue3
 t4:=Tryz.underlying4
 a4:=Tryz.isAgg4
 z4:=Tryz.sizeOf4
 v4:=Tryz.zeroValue4
 t5:=Tryz.underlying5
 a5:=Tryz.isAgg5
 z5:=Tryz.sizeOf5
 v5:=Tryz.zeroValue5
 t9:=Tryz.underlying9
 a9:=Tryz.isAgg9
 z9:=Tryz.sizeOf9
 v9:=Tryz.zeroValue9
 t46:=Tryz.underlying221
 a46:=Tryz.isAgg221
 z46:=Tryz.sizeOf221
 v46:=Tryz.zeroValue221
 t51:=Tryz.underlying282
 a51:=Tryz.isAgg282
 z51:=Tryz.sizeOf282
 v51:=Tryz.zeroValue282
 t146:=Tryz.underlying345
 a146:=Tryz.isAgg345
 z146:=Tryz.sizeOf345
 v146:=Tryz.zeroValue345
 g1:=by kernel_rfl}
open Go.RowKit Go.Lib in
theorem Tryz.strings_Contains(s sub:ByteArray)(m:Int)(w:World)(hs:s.size<4294967281)(hm:w.cell? ⟨3,0,none⟩=some (.int .i64 m)):
  Calls Tryz.prog 136 #[.string s,.string sub] w fun e w'=>e= .returned (.bool (Lib.contains s.data.toList sub.data.toList))/\w'=w:=Any.strings_Contains Tryz.lays144 s sub m w hs hm
def Tryz.lays190_ren:Go.Shelf.Ren:=⟨fun|190=>80|125=>141|258=>140|128=>202|129=>203|302=>193|303=>194|304=>195|305=>196|306=>197|307=>198|308=>199|309=>200|310=>201|333=>238|329=>239|330=>240|334=>241|335=>242|336=>230|344=>275|n=>n,fun|31=>44|9=>9|3=>3|46=>221|0=>0|51=>282|53=>112|4=>4|183=>275|182=>274|131=>279|5=>5|218=>302|222=>306|228=>331|229=>332|n=>n,fun|n=>n⟩
theorem Tryz.lays190:Go.Proofs.Lays.n190 Tryz.prog Tryz.lays190_ren:={
 mixed:=by kernel_rfl
 f125:=Tryz.func141.trans (congrArg some (by kernel_rfl))
 f128:=Tryz.func202.trans (congrArg some (by kernel_rfl))
 f129:=Tryz.func203.trans (congrArg some (by kernel_rfl))
 f190:=Tryz.func80.trans (congrArg some (by kernel_rfl))
 f258:=Tryz.func140.trans (congrArg some (by kernel_rfl))
 f302:=Tryz.func193.trans (congrArg some (by kernel_rfl))
 f303:=Tryz.func194.trans (congrArg some (by kernel_rfl))
 f304:=Tryz.func195.trans (congrArg some (by kernel_rfl))
 f305:=Tryz.func196.trans (congrArg some (by kernel_rfl))
 f306:=Tryz.func197.trans (congrArg some (by kernel_rfl))
 f307:=Tryz.func198.trans (congrArg some (by kernel_rfl))
 f308:=Tryz.func199.trans (congrArg some (by kernel_rfl))
 f309:=Tryz.func200.trans (congrArg some (by kernel_rfl))
 f310:=Tryz.func201.trans (congrArg some (by kernel_rfl))
 f329:=Tryz.func239.trans (congrArg some (by kernel_rfl))
 f330:=Tryz.func240.trans (congrArg some (by kernel_rfl))
 f333:=Tryz.func238.trans (congrArg some (by kernel_rfl))
 f334:=Tryz.func241.trans (congrArg some (by kernel_rfl))
 f335:=Tryz.func242.trans (congrArg some (by kernel_rfl))
 f336:=Tryz.func230.trans (congrArg some (by kernel_rfl))
 f344:=Tryz.func275.trans (congrArg some (by kernel_rfl))
 t0:=Tryz.underlying0
 a0:=Tryz.isAgg0
 z0:=Tryz.sizeOf0
 v0:=Tryz.zeroValue0
 t3:=Tryz.underlying3
 a3:=Tryz.isAgg3
 z3:=Tryz.sizeOf3
 v3:=Tryz.zeroValue3
 t4:=Tryz.underlying4
 a4:=Tryz.isAgg4
 z4:=Tryz.sizeOf4
 v4:=Tryz.zeroValue4
 t5:=Tryz.underlying5
 a5:=Tryz.isAgg5
 z5:=Tryz.sizeOf5
 v5:=Tryz.zeroValue5
 t9:=Tryz.underlying9
 a9:=Tryz.isAgg9
 z9:=Tryz.sizeOf9
 v9:=Tryz.zeroValue9
 t31:=Tryz.underlying44
 a31:=Tryz.isAgg44
 z31:=Tryz.sizeOf44
 v31:=Tryz.zeroValue44
 t46:=Tryz.underlying221
 a46:=Tryz.isAgg221
 z46:=Tryz.sizeOf221
 v46:=Tryz.zeroValue221
 t51:=Tryz.underlying282
 a51:=Tryz.isAgg282
 z51:=Tryz.sizeOf282
 v51:=Tryz.zeroValue282
 t53:=Tryz.underlying112
 a53:=Tryz.isAgg112
 z53:=Tryz.sizeOf112
 v53:=Tryz.zeroValue112
 t131:=Tryz.underlying279
 a131:=Tryz.isAgg279
 z131:=Tryz.sizeOf279
 v131:=Tryz.zeroValue279
 t182:=Tryz.underlying274
 a182:=Tryz.isAgg274
 z182:=Tryz.sizeOf274
 v182:=Tryz.zeroValue274
 t183:=Tryz.underlying275
 a183:=Tryz.isAgg275
 z183:=Tryz.sizeOf275
 v183:=Tryz.zeroValue275
 t218:=Tryz.underlying302
 a218:=Tryz.isAgg302
 z218:=Tryz.sizeOf302
 v218:=Tryz.zeroValue302
 t222:=Tryz.underlying306
 a222:=Tryz.isAgg306
 z222:=Tryz.sizeOf306
 v222:=Tryz.zeroValue306
 t228:=Tryz.underlying331
 a228:=Tryz.isAgg331
 z228:=Tryz.sizeOf331
 v228:=Tryz.zeroValue331
 t229:=Tryz.underlying332
 a229:=Tryz.isAgg332
 z229:=Tryz.sizeOf332
 v229:=Tryz.zeroValue332}
open Go.Sort Go.RowKit in
theorem Tryz.slices_Sort_string(blk off cap:Nat)(ss:List (List UInt8))(w:World)(hH:Holds encStr w blk off ss.toArray)(hblk:blk<w.heap.size)(hsz:ss.length<4611686018427387904):
  Calls Tryz.prog 80 #[.slice (some ⟨blk,off,none⟩) ss.length cap] w fun e w'=>
   e= .returned (.tuple #[])/\ ∃n os,w'=grow (putRow encStr (Sort.ahead w n) blk off (ss.mergeSort fun x y=>decide (x<=y)).toArray) os:=Any.slices_Sort_string Tryz.lays190 blk off cap ss w hH hblk hsz
def Tryz.lays146_ren:Go.Shelf.Ren:=⟨fun|146=>231|221=>268|268=>284|138=>285|143=>177|195=>293|197=>294|218=>295|219=>226|260=>302|217=>264|225=>265|224=>266|267=>267|266=>282|314=>283|n=>n,fun|9=>9|31=>44|3=>3|4=>4|0=>0|105=>352|21=>21|5=>5|46=>221|119=>335|139=>338|138=>337|146=>345|51=>282|n=>n,fun|1=>3|3=>4|4=>5|n=>n⟩
theorem Tryz.lays146:Go.Proofs.Lays.n146 Tryz.prog Tryz.lays146_ren:={
 mixed:=by kernel_rfl
 f138:=Tryz.func285.trans (congrArg some (by kernel_rfl))
 f143:=Tryz.func177.trans (congrArg some (by kernel_rfl))
 f146:=Tryz.func231.trans (congrArg some (by kernel_rfl))
 f195:=Tryz.func293.trans (congrArg some (by kernel_rfl))
 f197:=Tryz.func294.trans (congrArg some (by kernel_rfl))
 f217:=Tryz.func264.trans (congrArg some (by kernel_rfl))
 f218:=Tryz.func295.trans (congrArg some (by kernel_rfl))
 f219:=Tryz.func226.trans (congrArg some (by kernel_rfl))
 f221:=Tryz.func268.trans (congrArg some (by kernel_rfl))
 f224:=Tryz.func266.trans (congrArg some (by kernel_rfl))
 f225:=Tryz.func265.trans (congrArg some (by kernel_rfl))
 f260:=Tryz.func302.trans (congrArg some (by kernel_rfl))
 f266:=Tryz.func282.trans (congrArg some (by kernel_rfl))
 f267:=Tryz.func267.trans (congrArg some (by kernel_rfl))
 f268:=Tryz.func284.trans (congrArg some (by kernel_rfl))
 f314:=Tryz.func283.trans (congrArg some (by kernel_rfl))
 t0:=Tryz.underlying0
 a0:=Tryz.isAgg0
 z0:=Tryz.sizeOf0
 v0:=Tryz.zeroValue0
 t3:=Tryz.underlying3
 a3:=Tryz.isAgg3
 z3:=Tryz.sizeOf3
 v3:=Tryz.zeroValue3
 t4:=Tryz.underlying4
 a4:=Tryz.isAgg4
 z4:=Tryz.sizeOf4
 v4:=Tryz.zeroValue4
 t5:=Tryz.underlying5
 a5:=Tryz.isAgg5
 z5:=Tryz.sizeOf5
 v5:=Tryz.zeroValue5
 t9:=Tryz.underlying9
 a9:=Tryz.isAgg9
 z9:=Tryz.sizeOf9
 v9:=Tryz.zeroValue9
 t21:=Tryz.underlying21
 a21:=Tryz.isAgg21
 z21:=Tryz.sizeOf21
 v21:=Tryz.zeroValue21
 t31:=Tryz.underlying44
 a31:=Tryz.isAgg44
 z31:=Tryz.sizeOf44
 v31:=Tryz.zeroValue44
 t46:=Tryz.underlying221
 a46:=Tryz.isAgg221
 z46:=Tryz.sizeOf221
 v46:=Tryz.zeroValue221
 t51:=Tryz.underlying282
 a51:=Tryz.isAgg282
 z51:=Tryz.sizeOf282
 v51:=Tryz.zeroValue282
 t105:=Tryz.underlying352
 a105:=Tryz.isAgg352
 z105:=Tryz.sizeOf352
 v105:=Tryz.zeroValue352
 t119:=Tryz.underlying335
 a119:=Tryz.isAgg335
 z119:=Tryz.sizeOf335
 t138:=Tryz.underlying337
 a138:=Tryz.isAgg337
 z138:=Tryz.sizeOf337
 v138:=Tryz.zeroValue337
 t139:=Tryz.underlying338
 a139:=Tryz.isAgg338
 z139:=Tryz.sizeOf338
 v139:=Tryz.zeroValue338
 t146:=Tryz.underlying345
 a146:=Tryz.isAgg345
 z146:=Tryz.sizeOf345
 v146:=Tryz.zeroValue345
 g1:=by kernel_rfl
 g3:=by kernel_rfl
 g4:=by kernel_rfl}
open Go.RowKit Go.Lib in
theorem Tryz.strings_Split(s sep:ByteArray)(m:Int)(w:World)(hs:s.size<4294967281)(hm:w.cell? ⟨3,0,none⟩=some (.int .i64 m))(h1:1<=sep.size):
  Calls Tryz.prog 231 #[.string s,.string sep] w fun e w'=>
   e= .returned (.slice (some ⟨w.heap.size,0,none⟩) (Lib.countB s sep+1) (Lib.countB s sep+1))/\w'=w.alloc (.cells ((Lib.splitB sep 0 (Lib.countB s sep) s).map Value.string).toArray 9):=Any.strings_Split Tryz.lays146 (by kernel_rfl) s sep m w hs hm h1
def Tryz.lays194_ren:Go.Shelf.Ren:=⟨fun|194=>184|n=>n,fun|31=>44|9=>9|3=>3|4=>4|0=>0|n=>n,fun|n=>n⟩
theorem Tryz.lays194:Go.Proofs.Lays.n194 Tryz.prog Tryz.lays194_ren:={
 mixed:=by kernel_rfl
 f194:=Tryz.func184.trans (congrArg some (by kernel_rfl))
 t0:=Tryz.underlying0
 a0:=Tryz.isAgg0
 z0:=Tryz.sizeOf0
 v0:=Tryz.zeroValue0
 t3:=Tryz.underlying3
 a3:=Tryz.isAgg3
 z3:=Tryz.sizeOf3
 v3:=Tryz.zeroValue3
 t4:=Tryz.underlying4
 a4:=Tryz.isAgg4
 z4:=Tryz.sizeOf4
 v4:=Tryz.zeroValue4
 t9:=Tryz.underlying9
 a9:=Tryz.isAgg9
 z9:=Tryz.sizeOf9
 v9:=Tryz.zeroValue9
 t31:=Tryz.underlying44
 a31:=Tryz.isAgg44
 z31:=Tryz.sizeOf44
 v31:=Tryz.zeroValue44}
open Go.RowKit Go.Lib Go.Sort in
theorem Tryz.slices_Compact_string(blk off cap:Nat)(zs:List (List UInt8))(w:World)(hH:Holds encStr w blk off zs.toArray)(hsz:zs.length<=9223372036854775807)(hcap:zs.length<=cap):
  Calls Tryz.prog 184 #[.slice (some ⟨blk,off,none⟩) zs.length cap] w fun e w'=>e= .returned (.slice (some ⟨blk,off,none⟩) (Lib.compact zs).length cap)/\ ∃q,w'=putRow encStr (Sort.ahead w q) blk off (Lib.compact zs++List.replicate (zs.length - (Lib.compact zs).length) []).toArray:=Any.slices_Compact_string Tryz.lays194 blk off cap zs w hH hsz hcap
open Go.RowKit Go.Lib Go.Sort in
theorem Tryz.slices_Compact_string_empty(a:Option Addr)(cap:Nat)(w:World):
  Calls Tryz.prog 184 #[.slice a 0 cap] w fun e w'=>e= .returned (.slice a 0 cap)/\w'=w:=Any.slices_Compact_string_empty Tryz.lays194 a cap w
def Tryz.laysNm224_ren:Go.Shelf.Ren:=⟨fun|24=>192|n=>n,fun|24=>44|9=>9|3=>3|4=>4|0=>0|n=>n,fun|n=>n⟩
theorem Tryz.laysNm224:Go.Proofs.Lays2.n24 Tryz.prog Tryz.laysNm224_ren:={
 mixed:=by kernel_rfl
 f24:=Tryz.func192.trans (congrArg some (by kernel_rfl))
 t0:=Tryz.underlying0
 a0:=Tryz.isAgg0
 z0:=Tryz.sizeOf0
 v0:=Tryz.zeroValue0
 t3:=Tryz.underlying3
 a3:=Tryz.isAgg3
 z3:=Tryz.sizeOf3
 v3:=Tryz.zeroValue3
 t4:=Tryz.underlying4
 a4:=Tryz.isAgg4
 z4:=Tryz.sizeOf4
 v4:=Tryz.zeroValue4
 t9:=Tryz.underlying9
 a9:=Tryz.isAgg9
 z9:=Tryz.sizeOf9
 v9:=Tryz.zeroValue9
 t24:=Tryz.underlying44
 a24:=Tryz.isAgg44
 z24:=Tryz.sizeOf44
 v24:=Tryz.zeroValue44
 i9:=by kernel_rfl}
open Go.RowKit Go.Lib Go.Sort in
theorem Tryz.slices_Delete_string(blk off cap i j:Nat)(zs:List (List UInt8))(w:World)(hH:Holds encStr w blk off zs.toArray)(hcap:zs.length<=cap)(hm:cap<=9223372036854775807)(hij:i<=j)(hj:j<=zs.length):
  Calls Tryz.prog 192 #[.slice (some ⟨blk,off,none⟩) zs.length cap,.int .i64 i,.int .i64 j] w fun e w'=>e= .returned (.slice (some ⟨blk,off,none⟩) (zs.length - (j - i)) cap)/\ ∃q,w'=putRow encStr (Sort.ahead w q) blk off (zs.take i++zs.drop j++List.replicate (j - i) []).toArray:=Any.slices_Delete_string Tryz.laysNm224 blk off cap i j zs w hH hcap hm hij hj
open Go.RowKit Go.Sort in
theorem Tryz.slices_Sort_string_none(p:Option Addr)(cap:Nat)(w:World):
  Calls Tryz.prog 80 #[.slice p 0 cap] w fun e w'=>e= .returned (.tuple #[])/\w'=w:=Any.slices_Sort_string_none Tryz.lays190 p cap w
def Tryz.lays196_ren:Go.Shelf.Ren:=⟨fun|196=>246|259=>276|n=>n,fun|9=>9|4=>4|3=>3|5=>5|12=>12|119=>335|0=>0|46=>221|139=>338|138=>337|53=>112|n=>n,fun|3=>4|4=>5|n=>n⟩
theorem Tryz.lays196:Go.Proofs.Lays.n196 Tryz.prog Tryz.lays196_ren:={
 mixed:=by kernel_rfl
 f196:=Tryz.func246.trans (congrArg some (by kernel_rfl))
 f259:=Tryz.func276.trans (congrArg some (by kernel_rfl))
 t0:=Tryz.underlying0
 a0:=Tryz.isAgg0
 z0:=Tryz.sizeOf0
 v0:=Tryz.zeroValue0
 t3:=Tryz.underlying3
 a3:=Tryz.isAgg3
 z3:=Tryz.sizeOf3
 v3:=Tryz.zeroValue3
 t4:=Tryz.underlying4
 a4:=Tryz.isAgg4
 z4:=Tryz.sizeOf4
 v4:=Tryz.zeroValue4
 t5:=Tryz.underlying5
 a5:=Tryz.isAgg5
 z5:=Tryz.sizeOf5
 v5:=Tryz.zeroValue5
 t9:=Tryz.underlying9
 a9:=Tryz.isAgg9
 z9:=Tryz.sizeOf9
 v9:=Tryz.zeroValue9
 t12:=Tryz.underlying12
 a12:=Tryz.isAgg12
 z12:=Tryz.sizeOf12
 v12:=Tryz.zeroValue12
 t46:=Tryz.underlying221
 a46:=Tryz.isAgg221
 z46:=Tryz.sizeOf221
 v46:=Tryz.zeroValue221
 t53:=Tryz.underlying112
 a53:=Tryz.isAgg112
 z53:=Tryz.sizeOf112
 v53:=Tryz.zeroValue112
 t119:=Tryz.underlying335
 a119:=Tryz.isAgg335
 z119:=Tryz.sizeOf335
 t138:=Tryz.underlying337
 a138:=Tryz.isAgg337
 z138:=Tryz.sizeOf337
 v138:=Tryz.zeroValue337
 t139:=Tryz.underlying338
 a139:=Tryz.isAgg338
 z139:=Tryz.sizeOf338
 v139:=Tryz.zeroValue338
 g3:=by kernel_rfl
 g4:=by kernel_rfl}
def Tryz.sorted185_ren:Go.Shelf.Ren:=⟨fun|6=>185|8=>236|9=>80|11=>274|13=>141|12=>140|23=>202|24=>203|14=>193|15=>194|16=>195|17=>196|18=>197|19=>198|20=>199|21=>200|22=>201|25=>238|26=>239|27=>240|28=>241|29=>242|30=>230|31=>275|n=>n,fun|26=>9|28=>265|24=>44|0=>0|3=>3|37=>221|48=>282|50=>112|4=>4|40=>275|39=>274|45=>279|5=>5|9=>9|51=>302|55=>306|57=>331|58=>332|33=>271|n=>n,fun|n=>n⟩
theorem Tryz.sorted185:Go.Proofs.SlLaysZ.n6 Tryz.prog Tryz.sorted185_ren:={
 mixed:=by kernel_rfl
 f6:=⟨Tryz.f185.name,by decide,Tryz.func185.trans (congrArg some (by kernel_rfl))⟩
 f8:=⟨Tryz.f236.name,by decide,Tryz.func236.trans (congrArg some (by kernel_rfl))⟩
 f11:=⟨Tryz.f274.name,by decide,Tryz.func274.trans (congrArg some (by kernel_rfl))⟩
 t0:=Tryz.underlying0
 a0:=Tryz.isAgg0
 z0:=Tryz.sizeOf0
 v0:=Tryz.zeroValue0
 t24:=Tryz.underlying44
 a24:=Tryz.isAgg44
 z24:=Tryz.sizeOf44
 v24:=Tryz.zeroValue44
 t26:=Tryz.underlying9
 a26:=Tryz.isAgg9
 z26:=Tryz.sizeOf9
 v26:=Tryz.zeroValue9
 t28:=Tryz.underlying265
 a28:=Tryz.isAgg265
 z28:=Tryz.sizeOf265
 v28:=Tryz.zeroValue265
 i26:=by kernel_rfl}
end Go.Proofs
end
noncomputable section
set_option maxRecDepth 100000
namespace Go.Fl
open Go Go.Proofs Go.RowKit Go.Maps Go.Sort Go.Shelf
variable {P:Program}{ρ:Ren}
def v67(F:Fence)(n:Nat)(P:Program)(g:Nat)(lb:Array Value)(ss:List (List UInt8))(w:World):Prop:=
 ∀(l:Nat) (J:List (List UInt8)->World->Prop) (W:World),Below w.heap.size w W->AbidesFrom W.heap.size J->(∀pre W1,J pre W1->Below w.heap.size w W1)->
  (∀pre x W1,J pre W1->pre.length<ss.length->YieldAt F (n - 1) P l #[encStr x] W1 fun e W'=>e= .returned (.bool true)/\J (pre++[x]) W'/\KeepsWalks W1 W')->
  J [] W->CallsIn F n P g (#[.func (.yield l) #[] #[]]++lb) W fun e W'=>(∃v,e= .returned v)/\J ss W'
theorem w1z{W:World}{base j:Nat}{e:TypeId}{v:Value}{k:Nat}{xs:List Value}{o:Obj}(h:W.ownsRow base e 1 v k xs)(hj:W.heap[j]? =some o)(hno: ∀cur,o≠ .cells cur e (0,0))(o':Obj):(W.putObj j o').ownsRow base e 1 v k xs:=
 h.kept (grownBy_putObj_a W j o') (ownsRow_ne_a h hj hno)
set_option maxHeartbeats 2000000 in
theorem j76(L:SlLaysZ.n11 P ρ)(F:Fence)(n:Nat)(hf:F.fn (ρ.f 11))(hro:F.round=none)(hn:2<=n)(g:Nat)(lb:Array Value)(hg:F.fn g)(eg: ∀args w,(callFunc g args).run P w= .ok (.enter g args) w)
  (ss:List (List UInt8))(hN:ss.length<=maxLen)(hNb:ss.length*16<=140737488355328)(w:World)(hseq:v67 F (n - 1) P g lb ss w):
  CallsIn F n P (ρ.f 11) #[.slice none 0 0,.func (.func g) #[] lb] w fun e w'=> ∃v,e= .returned v/\w'.ownsRow w.heap.size (ρ.t 26) 1 v ss.length (ss.map encStr)/\Below w.heap.size w w':=by
 have mixed:=L.mixed;have t0:=L.t0;have a0:=L.a0;have z0:=L.z0;have v0:=L.v0;have t24:=L.t24;have a24:=L.a24;have z24:=L.z24;have v24:=L.v24;have t26:=L.t26;have a26:=L.a26;have z26:=L.z26;have v26:=L.v26
 have u0:=run_underlying L.t0;have u24:=run_underlying L.t24;have u26:=run_underlying L.t26
 have apart:ρ.t 24≠ρ.t 26:=fun e=>by have h:=L.t24;rw[e,L.t26] at h;cases h
 obtain⟨_,_,body⟩:=L.f11
 refine callsIn_of_wp_marks body rfl hf ?_ hro
 simp only[SlBodyZ.n11_ntmps ρ,List.size_toArray,List.length_cons,List.length_nil,Nat.reduceAdd,Nat.reduceSub,Array.replicate_succ,Array.replicate_zero,List.push_toArray,List.append_toArray,List.nil_append,List.cons_append]
 gi_wp2
 refine wpIn_rangeFunc fun fn hfn=> ?_
 rw[hro]
 generalize hA:w.alloc (.cells #[.slice none 0 0] (ρ.t 24))=A
 have sA:A.heap.size=w.heap.size+1:=by rw[←hA];simp
 have bA:Below w.heap.size w A:=by rw[←hA];exact (Below.refl _ w).alloc (Nat.le_refl _) _
 have xA:A.heap[w.heap.size]? =some (.cells #[.slice none 0 0] (ρ.t 24) (0,0)):=by rw[←hA];exact World.alloc_heap_new w _
 generalize hrec:AnyZ.apRec ρ fn (.func (.func g) #[] lb) w.heap.size A.heap.size .ready none=rec
 generalize hB:(A.alloc (.deferred (some []))).alloc (.loop rec)=B
 have oldB: ∀k,k<A.heap.size->B.heap[k]? =A.heap[k]? :=fun k hk=>by rw[←hB];exact (Below.heap_alloc _ _ k (by simp;omega)).trans (Below.heap_alloc _ _ k hk)
 have bB:Below w.heap.size w B:=by rw[←hB];exact (bA.alloc bA.size _).alloc (by have:=bA.size;simp;omega) _
 have dB:B.heap[A.heap.size]? =some (.deferred (some [])):=by rw[←hB];exact (Below.heap_alloc _ _ _ (by simp)).trans (World.alloc_heap_new A _)
 have lB:B.heap[A.heap.size+1]? =some (.loop rec):=by rw[←hB];have:=World.alloc_heap_new (A.alloc (.deferred (some []))) (.loop rec);rwa [World.size_alloc] at this
 have start:AnyZ.ApAt ρ w fn (.func (.func g) #[] lb) w.heap.size (A.heap.size+1) A.heap.size [] B:=
  ⟨⟨_,(oldB _ (by omega)).trans xA,⟨rfl,.inl ⟨rfl,rfl⟩⟩,by simp⟩,by rw[hrec];exact lB,dB,bB⟩
 refine⟨A.heap.size+1,[{target:= .collected A.heap.size,args:= #[]}],B,{target:= .fn (.func g) lb,args:= #[.func (.yield (A.heap.size+1)) #[] #[]]},B,g,#[.func (.yield (A.heap.size+1)) #[] #[]]++lb,B,?_,?_,?_,?_,fun _=>(by omega),?_⟩
 ·rw[←hB,←hrec];exact run_enterLoop_outer _ _ _ _ _
 ·simp[resolve,go_sem]
 ·intro f' h';simp[Target.leads] at h';exact h'▸hg
 ·simp[invoke,go_sem,eg]
 refine (hseq _ (AnyZ.ApAt ρ w fn (.func (.func g) #[] lb) w.heap.size (A.heap.size+1) A.heap.size) B bB (AnyZ.ap_abides ρ _ _ _ _ _ _ _ bB.size) (fun _ _ h=>h.below)
  (fun pre x W h hl=>AnyZ.apYield {L with} F _ w fn hfn _ _ _ _ (by omega) (by omega) (by omega) (Nat.le_refl _) (by omega) ss.length hN hNb pre x W h hl) start).mono ?_
 rintro e C ⟨⟨_,rfl⟩,hC⟩
 obtain⟨v,hv,hrow,_⟩:=hC.box
 have hend:=run_endLoop (P:=P) hC.L (by simp[AnyZ.apRec])
 generalize hD:C.putObj (A.heap.size+1) (.loop {AnyZ.apRec ρ fn (.func (.func g) #[] lb) w.heap.size A.heap.size .ready none with state:= .exhausted})=D at hend
 have rowD:D.ownsRow w.heap.size (ρ.t 26) 1 v ss.length (ss.map encStr):=by rw[←hD];exact w1z hrow hC.L (fun _ h=>by cases h) _
 have boxD:D.heap[w.heap.size]? =some (.cells #[v] (ρ.t 24) (0,0)):=by rw[←hD];exact (World.putObj_heap_other (by omega)).trans hv
 have defD:D.heap[A.heap.size]? =some (.deferred (some [])):=by rw[←hD];exact (World.putObj_heap_other (by omega)).trans hC.K
 have belD:Below w.heap.size w D:=by rw[←hD];exact hC.below.grown (grownBy_putObj_a _ _ _) hC.below.size (fun k h=>by cases h;omega)
 obtain⟨cellD,markD⟩:=cell_of_box_a boxD
 clear hD
 refine⟨none,D,hend,?_⟩
 gi_wp2
 rw[←sA]
 refine⟨by simp,.inl ⟨_,_,rfl,run_takeDeferred defD,?_⟩⟩
 exact⟨_,results_tmp rfl _ _ _,v,rfl,w1z rowD defD (fun _ h=>by cases h) _,belD.grown (grownBy_putObj_a _ _ _) belD.size (fun k h=>by cases h;omega)⟩
end Go.Fl
end
noncomputable section
set_option maxRecDepth 100000
namespace Go.Proofs.YtfiomedjdipbgaaGreatDoor
open Go Go.Proofs Go.RowKit Go.Fl Go.Maps Go.Sort Go.Shelf
attribute [local go_sem] Oper.semAt_some
set_option maxHeartbeats 2000000 in
theorem w84(n:Nat)(hn:1<=n)(w W:World)(l Bs b off cap:Nat)(zs:List (List UInt8))(hreach:zs.length<=140737488355328)(hBs:Bs<w.heap.size)(hb:b<w.heap.size)(J:List (List UInt8)->World->Prop)
  (hJ: ∀pre W1,J pre W1->Below w.heap.size w W1)(hc:w.cell? ⟨Bs,0,none⟩=some (.slice (some ⟨b,off,none⟩) zs.length cap))(hcs: ∀j,j<zs.length->w.cell? ⟨b,off+j,none⟩=some (encStr (zs[j]?.getD [])))
  (hY: ∀pre x W1,J pre W1->pre.length<zs.length->YieldAt Fence.wide (n - 1) Tryz.prog l #[encStr x] W1 fun e W'=>e= .returned (.bool true)/\J (pre++[x]) W'/\KeepsWalks W1 W')(h0:J [] W):
  CallsIn Fence.wide n Tryz.prog 237 #[.func (.yield l) #[] #[],.pointer (some ⟨Bs,0,none⟩)] W fun e W'=>(∃v,e= .returned v)/\J zs W':=by
 have hc0:=((hJ _ _ h0).cell (p:=⟨Bs,0,none⟩) hBs).trans hc
 refine callsIn_of_wp Tryz.func237 rfl trivial ?_ rfl
 simp only[Tryz.ntmps237,List.size_toArray,List.length_cons,List.length_nil,Nat.reduceAdd,Nat.reduceSub,Array.replicate_succ,Array.replicate_zero,List.push_toArray,List.append_toArray,List.nil_append,List.cons_append]
 gi_wp2
 gi_loopw [7] (fun i wr=> ∃k:Nat,k<=zs.length/\i= .int .i64 k/\J (zs.take k) wr) (fun i _=>zs.length - (intOf i).toNat)
 case atStart=>exact⟨0,Nat.zero_le _,rfl,h0⟩
 case round=>
  obtain⟨k,hk,rfl,hJk⟩:=hrel
  by_cases hlt:k<zs.length
  ·have hck:=((hJ _ _ hJk).cell (p:=⟨b,off+k,none⟩) hb).trans (hcs k hlt)
   obtain⟨fn,tmps,assign,body,hy,hR⟩:=hY _ zs[k] wr hJk (by rw[List.length_take];omega)
   gi_wp2
   refine hR.mono ?_
   rintro e W3 ⟨rfl,hJ3,_⟩
   gi_wp2
   go_roundw
   case rel=>exact⟨k+1,by omega,by simp,by rw[List.take_succ_eq_append_getElem hlt];exact hJ3⟩
   case measure=>simp[intOf];omega
  ·obtain rfl:k=zs.length:=by omega
   rw[List.take_length] at hJk
   gi_wp2
   go_end0
   exact⟨⟨_,rfl⟩,hJk⟩
set_option maxHeartbeats 2000000 in
theorem w85(n:Nat)(w W:World)(l Bs cap:Nat)(a:Option Addr)(hBs:Bs<w.heap.size)(J:List (List UInt8)->World->Prop)(hJ: ∀pre W1,J pre W1->Below w.heap.size w W1)(hc:w.cell? ⟨Bs,0,none⟩=some (.slice a 0 cap))(h0:J [] W):
  CallsIn Fence.wide n Tryz.prog 237 #[.func (.yield l) #[] #[],.pointer (some ⟨Bs,0,none⟩)] W fun e W'=>(∃v,e= .returned v)/\J [] W':=by
 have hc0:=((hJ _ _ h0).cell (p:=⟨Bs,0,none⟩) hBs).trans hc
 refine callsIn_of_wp Tryz.func237 rfl trivial ?_ rfl
 simp only[Tryz.ntmps237,List.size_toArray,List.length_cons,List.length_nil,Nat.reduceAdd,Nat.reduceSub,Array.replicate_succ,Array.replicate_zero,List.push_toArray,List.append_toArray,List.nil_append,List.cons_append]
 gi_wp2
 gi_loopw [7] (fun i wr=>i= .int .i64 0/\J [] wr) (fun _ _=>0)
 case atStart=>exact⟨rfl,h0⟩
 case round=>
  obtain⟨rfl,hJs⟩:=hrel
  gi_wp2
  go_end0
  exact⟨⟨_,rfl⟩,hJs⟩
theorem y99{σ:Hv}{w:World}(Bs:Nat)(v:Value)(l:List ByteArray)(hV:View σ w)(hB:σ Bs=some (.cells #[v] 44 (0,0)))(hr:RSl 1 (REnc Qj) σ v l)(hs:Sml l.length):
  Calls Tryz.prog 274 #[.slice none 0 0,.func (.func 237) #[] #[.pointer (some ⟨Bs,0,none⟩)]] w fun e w1=> ∃v1,e= .returned v1/\Grow [] σ w σ w1/\((vec v1 9 1 l.length (l.flatMap Qj)).ok w1/\ ∀k,(vec v1 9 1 l.length (l.flatMap Qj)).foot=some k->w.heap.size<=k/\σ k=none):=by
 have hBw:=hV _ _ hB
 have hBl:=lt_of_block hBw
 have hBc:w.cell? ⟨Bs,0,none⟩=some v:=by simp[World.cell?,hBw]
 have hlen:(l.map (·.data.toList)).length=l.length:=List.length_map _
 have hgive:v67 Fence.wide 2 Tryz.prog 237 #[.pointer (some ⟨Bs,0,none⟩)] (l.map (·.data.toList)) w:=by
  intro lp J W _ _ hJB hY h0
  obtain⟨a,cap,rfl,h1,h2,hel⟩:=hr
  cases hl0:l with
  |nil=>
   subst hl0
   exact w85 2 w W lp Bs cap a hBl J hJB hBc h0
  |cons x l'=>
   obtain⟨ad,cs,rfl,_,hrow0,hcs0⟩:=hel 0 x (by rw[hl0];rfl)
   have cell0:=(hrow0.row hV) 0 _ (by rw[hcs0];rfl)
   obtain⟨ab,ao,asp⟩:=ad
   have hsp:asp=none:=by
    cases asp with
    |none=>rfl
    |some s=>
     have:=hrow0 0 (.string x) (by rw[hcs0];rfl)
     simp[Hv.cell,Addr.add] at this
     split at this<;>simp at this
   subst hsp
   have hbl:ab<w.heap.size:=by
    have:=hrow0 0 (.string x) (by rw[hcs0];rfl)
    simp only[Uq] at this
    unfold Hv.cell at this
    simp only at this
    cases hq:σ ab with
    |none=>rw[hq] at this;simp at this
    |some o=>exact lt_of_block (hV _ _ hq)
   rw[←hl0]
   have hcome:=w84 2 (by omega) w W lp Bs ab ao cap (l.map (·.data.toList)) (by rw[hlen];exact h2) hBl hbl J hJB (by rw[hlen];exact hBc) (fun j hj=>by
    rw[hlen] at hj
    obtain⟨y,hy⟩:=getq hj
    obtain⟨ad',cs',had,_,hrow,hcs⟩:=hel j y hy
    cases had
    have hc:=(hrow.row hV) 0 (.string y) (by rw[hcs];rfl)
    rw[q1n,Uq] at hc
    rw[List.getElem?_map,hy]
    simpa [encStr] using hc) hY h0
   exact hcome
 refine (callsIn_wide (n:=3)).1 ((j76 (ρ:=Tryz.sorted185_ren) {Tryz.sorted185 with} Fence.wide 3 trivial rfl (by omega) 237 _ trivial (enters_of Tryz.func237 (by kernel_rfl) rfl) (l.map (·.data.toList)) (by rw[hlen];exact (q5b hs (show 16<=32768 by omega)).2) (by rw[hlen];exact (q5b hs (by omega)).1) w hgive).mono ?_)
 rintro e w1 ⟨v1,rfl,hown,hbel⟩
 rw[hlen] at hown
 have hfl:(l.map (·.data.toList)).map encStr=l.flatMap Qj:=(Ry l).symm
 rw[hfl] at hown
 have hsame: ∀b,b<w.heap.size->w1.heap[b]? =w.heap[b]? :=fun b hb=>hbel.block b hb
 refine⟨v1,rfl,⟨⟨hbel.os,hbel.tape,hbel.output,hbel.size,fun k hk _=>hbel.block k hk⟩,fun b o hb=>(hbel.block b (lt_of_block (hV b o hb))).trans (hV b o hb),.refl _,fun _ _ _=>rfl⟩,?_,?_⟩
 ·exact⟨hown.1,hown.2.imp id fun ⟨g,cap,cur,e1,_,e3⟩=>⟨g,cap,cur,e1,Nat.zero_le _,e3⟩⟩
 ·intro k hk
  have hge:w.heap.size<=k:=(hown.lt k hk).1
  refine⟨hge,?_⟩
  cases hq:σ k with
  |none=>rfl
  |some o=>have:=lt_of_block (hV k o hq);omega
end Go.Proofs.YtfiomedjdipbgaaGreatDoor
end
