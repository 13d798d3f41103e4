/- A forced assignment outlasts every change. This is part 4 of 7. Conditions: those in the statements. -/
import Derived.Test.YtfiomedjdipbgaaGreatDoorProg
import Derived.Test.YtfiomedjdipbgaaGreatDoorAT3
import Derived.Lib.ValidU
import Derived.KernelRfl
import Derived.Conc.MuLone
import Derived.Shelf.Small.Bits
import Derived.Shelf.Utf8.RuneCount
import Derived.Shelf.Strconv.Atoi
import Derived.Shelf.Strconv.Itoa0
import Derived.Shelf.Strconv.Itoa1
import Derived.Shelf.LaysM
import Derived.Shelf.Strconv.Itoa2
import Derived.Shelf.Strconv.Itoa3
import Derived.Shelf.Strconv.AtoiErrFast
import Derived.Shelf.Strconv.ParseIntEmpty
import Derived.Shelf.Strconv.AtoiFail
import Derived.Shelf.Strconv.Clone
import Derived.Shelf.Strconv.SyntaxError
import Derived.Shelf.LaysC
import Derived.Shelf.Strconv.ToError
import Derived.Shelf.Strconv.Lower
import Derived.Shelf.Strconv.ParseUint10
import Derived.Shelf.Strconv.ParseUint10Empty
import Derived.Shelf.Strconv.ParseUint10Any
import Derived.Shelf.Strconv.ParseInt10
import Derived.Shelf.Strconv.AtoiLong
import Derived.Shelf.Strconv.AtoiInnerAll
import Derived.Shelf.Strconv.RangeError
import Derived.Shelf.Strconv.ToErrorRange
import Derived.Shelf.Strconv.AtoiAll
import Derived.Shelf.Strconv.ErrVarAll
import Derived.Shelf.Strings.Search1
import Derived.Shelf.Strings.Search2
import Derived.Shelf.Strings.Search3
import Derived.Shelf.Strings.Count
import Derived.Shelf.Strings.Shaped
import Derived.Shelf.Sort.Plain
import Derived.Shelf.Strings.Split
import Derived.Shelf.Strings.SplitShaped
import Derived.Shelf.Unicode.Decode
import Derived.Shelf.Strings.RuneCount
import Derived.Shelf.Strings.Explode
import Derived.Shelf.Unicode.DecodeSlow
import Derived.Shelf.Unicode.DecodeAny
import Derived.Ground.Names2Prog
import Derived.Shelf.Slices.Clone
import Derived.Shelf.Slices.CompactS
import Derived.Shelf.Slices.SearchI
import Derived.Shelf.Slices.Delete
import Derived.Shelf.Slices.Cells
import Derived.Shelf.Slices.In.SortNone
import Derived.Shelf.Slices.Empties
import Derived.Ground.SlgnProg
import Derived.Shelf.SlicesE.Clone
import Derived.Ground.NamesProg
import Derived.Shelf.Unicode.ValidAny
import Derived.Shelf.SlIter.Sorted
import Derived.Ground.GgzProg
import Derived.Shelf.SlIter.Collect
import Derived.WalkKit
import Derived.OwnWalkIn
import Derived.TacticsInMore
import Derived.LoopNIn
import Derived.LoopIn
import Derived.RangeFuncLeaves
noncomputable section
set_option maxRecDepth 100000
open Go Go.RowKit Go.Fl Go.Fl.Lk Go.Fx
namespace Go.En
abbrev Wu:Type:=(List (Decl)->Prop)->Prop
def Ju:Wu:=fun K=>K [Decl.mk (ByteArray.mk (Array.mk [100,101,118,105,99,101])) (ByteArray.mk (Array.mk [99,111,114,101,115])) (2:Int),Decl.mk (ByteArray.mk (Array.mk [100,101,118,105,99,101])) (ByteArray.mk (Array.mk [111,115])) (3:Int),Decl.mk (ByteArray.mk (Array.mk [117,115,101,114])) (ByteArray.mk (Array.mk [97,103,101])) (2:Int),Decl.mk (ByteArray.mk (Array.mk [117,115,101,114])) (ByteArray.mk (Array.mk [97,112,112])) (4:Int),Decl.mk (ByteArray.mk (Array.mk [117,115,101,114])) (ByteArray.mk (Array.mk [98,101,116,97])) (1:Int),Decl.mk (ByteArray.mk (Array.mk [117,115,101,114])) (ByteArray.mk (Array.mk [99,111,117,110,116,114,121])) (3:Int),Decl.mk (ByteArray.mk (Array.mk [117,115,101,114])) (ByteArray.mk (Array.mk [112,108,97,110])) (3:Int),Decl.mk (ByteArray.mk (Array.mk [117,115,101,114])) (ByteArray.mk (Array.mk [116,97,103,115])) (5:Int)]
abbrev j5s:Type:=List (Int)->Int->(Bool->Int->Prop)->Prop
def j5t:j5s:=fun list at_ K=>Fits list->K (decide (at_<(↑list.length:Int))) at_
abbrev Zg:Type:=List (Int)->Int->Int->(Int->Int->Prop)->Prop
def w2k(j55:j5s):Zg:=fun list at_ n K=>j55 list at_ fun Qa Qy=>Cnd (Qa=true) (InI (Qy+1)/\InI (Qy+1 - (1:Int))/\((0:Int)<=Qy+1 - (1:Int)/\Qy+1 - (1:Int)<(↑list.length:Int))/\ ∀y1,list[(Qy+1 - (1:Int)).toNat]? =some y1->InI y1/\n≠(0:Int)/\K (y1.tmod n) (Qy+1)) (K (0:Int) Qy)
def Zc:Zg:=w2k j5t
abbrev q1h:Type:=List (Int)->Int->(ByteArray->Int->Prop)->Prop
def w2l(Qb:Zg):q1h:=fun list at_ K=>Qb list at_ (11:Int) fun Qa Qy=>((0:Int)<=Qa/\Qa<(↑(11:Nat):Int))/\ ∀y1,z9p[Qa.toNat]? =some y1->K y1 Qy
def q1i:q1h:=w2l Zc
abbrev q5y:Type:=List (Int)->Int->Int->(Int->Int->Prop)->Prop
def w2m(Qb:Zg):q5y:=fun list at_ n K=>Qb list at_ (256:Int) fun Qa Qy=>InI ((256:Int)*Qa)/\Qb list Qy (256:Int) fun Qc Zy=>InI ((256:Int)*Qa+Qc)/\n≠(0:Int)/\K (((256:Int)*Qa+Qc).tmod n) Zy
def q5z:q5y:=w2m Zc
abbrev z5v:Type:=Int->List (ByteArray)->(List (ByteArray)->Prop)->Prop
def z5w:z5v:=fun n l K=>((0:Int)<=n/\n<=(↑l.length:Int))/\K (List.take n.toNat l)
abbrev z04:Type:=List (Int)->Int->(List (ByteArray)->Int->Prop)->Prop
def w2n(Qb:Zg):z04:=fun list at_ K=>Qb list at_ (10:Int) fun Qa Qy=>Lp3 (fun Qc Zy j09 y1d=>Qb list j09 (4:Int) fun Qf Zn=>Cnd (Zy<Qf) (InI (Qa+Zy)/\(10:Int)≠(0:Int)/\InI ((48:Int)+(Qa+Zy).tmod (10:Int))/\(↑((ByteArray.mk (Array.mk [107])).size+(Go.Utf8.encode (Go.IntKind.i32.wrap ((48:Int)+(Qa+Zy).tmod (10:Int)))).size):Int)<=(9223372036854775807:Int)/\Sml (Qc++[ByteArray.mk (Array.mk [107])++Go.Utf8.encode (Go.IntKind.i32.wrap ((48:Int)+(Qa+Zy).tmod (10:Int)))]).length/\InI (Zy+1)/\y1d (Qc++[ByteArray.mk (Array.mk [107])++Go.Utf8.encode (Go.IntKind.i32.wrap ((48:Int)+(Qa+Zy).tmod (10:Int)))]) (Zy+1) Zn) (Lp2 (fun Qg V9 j5g=>Fits V9->CAt V9 Qg (fun y5=>InI (Qg - 1)/\((0:Int)<=Qg - 1/\Qg - 1<(↑V9.length:Int))/\ ∀y7,V9[(Qg - 1).toNat]? =some y7->Cnd (Lk.blt y7 y5) (InI (Qg+1)/\j5g (Qg+1) V9) (((0:Int)<=Qg/\Qg<=(↑V9.length:Int))/\K (List.take Qg.toNat V9) Zn)) (K V9 Zn)) (1:Int) Qc)) [] (0:Int) Qy
def z05:z04:=w2n Zc
abbrev z7n:Type:=List (Int)->Int->(ByteArray->Int->Prop)->Prop
def w8m(Qb:Zg):z7n:=fun list at_ K=>Qb list at_ (10:Int) fun Qa Qy=>InI ((48:Int)+Qa)/\(↑((ByteArray.mk (Array.mk [107])).size+(Go.Utf8.encode (Go.IntKind.i32.wrap ((48:Int)+Qa))).size):Int)<=(9223372036854775807:Int)/\K (ByteArray.mk (Array.mk [107])++Go.Utf8.encode (Go.IntKind.i32.wrap ((48:Int)+Qa))) Qy
def z7o:z7n:=w8m Zc
abbrev q1j:Type:=List (Int)->Int->Int->(Val->Int->Prop)->Prop
def z9q(Qb:Zg)(Wf:q1h):q1j:=fun list at_ kind K=>Cnd (kind=1) (Qb list at_ (2:Int) fun Qa Qy=>K (Val.mk kind Qa (ByteArray.mk (Array.mk [])) []) Qy) (Cnd (kind=2) ([(0:Int),(1:Int),(17:Int),(18:Int),(19:Int),(-5:Int),(64:Int),(1099511627776:Int),(-1099511627776:Int)].length<=(9223372036854775807:Nat)->Qb list at_ (↑[(0:Int),(1:Int),(17:Int),(18:Int),(19:Int),(-5:Int),(64:Int),(1099511627776:Int),(-1099511627776:Int)].length:Int) fun Qc Zy=>((0:Int)<=Qc/\Qc<(↑[(0:Int),(1:Int),(17:Int),(18:Int),(19:Int),(-5:Int),(64:Int),(1099511627776:Int),(-1099511627776:Int)].length:Int))/\ ∀y2,[(0:Int),(1:Int),(17:Int),(18:Int),(19:Int),(-5:Int),(64:Int),(1099511627776:Int),(-1099511627776:Int)][Qc.toNat]? =some y2->K (Val.mk kind y2 (ByteArray.mk (Array.mk [])) []) Zy) (Cnd (kind=3) (Wf list at_ fun Qa Qy=>K (Val.mk kind (0:Int) Qa []) Qy) (Cnd (kind=4) (Qb list at_ (6:Int) fun Qa Qy=>((0:Int)<=Qa/\Qa<(↑(6:Nat):Int))/\ ∀y1,z3e[Qa.toNat]? =some y1->K (Val.mk kind (0:Int) y1 []) Qy) (Qb list at_ (5:Int) fun Qa Qy=>((0:Int)<=Qa/\Qa<(↑(5:Nat):Int))/\ ∀y1,j60[Qa.toNat]? =some y1->Sml ([]++y1).length/\K (Val.mk (5:Int) (0:Int) (ByteArray.mk (Array.mk [])) ([]++y1)) Qy))))
def Ui:q1j:=z9q Zc q1i
abbrev z9r:Type:=List (Int)->Int->(Ex->Int->Prop)->Prop
def w2o(Q2:Wu)(Qb:Zg)(z2f:z7n)(Je:q1j):z9r:=fun list at_ K=>Q2 fun Qa=>Fits Qa->InI ((↑Qa.length:Int)+1)/\Qb list at_ ((↑Qa.length:Int)+1) fun Qf Zn=>Fits Qa->Cnd (Qf=(↑Qa.length:Int)) (z2f list Zn fun Qe Jw=>K (Ex.mk (7:Int) (ByteArray.mk (Array.mk [117,115,101,114])) (ByteArray.mk (Array.mk [107,101,121])) [Val.mk (3:Int) (0:Int) Qe []] []) Jw) (At Qa Qf fun y4=>Jn1 (fun (Z7:Int×ByteArray×ByteArray×List Val×List Ex×Int×Int×ByteArray×ByteArray×List Val×List Ex×Unit)=>Je list Z7.2.2.2.2.2.1 y4.3 fun Wy z6s=>K (Ex.mk (7:Int) Z7.2.1 Z7.2.2.1 [Wy] Z7.2.2.2.2.1) z6s) fun (y2r:Int×ByteArray×ByteArray×List Val×List Ex×Int×Int×ByteArray×ByteArray×List Val×List Ex×Unit->Prop)=>Qb list Zn (5:Int) fun Wy z6s=>Jn1 (fun (Ua:Int×Int×ByteArray×ByteArray×List Val×List Ex×Int×ByteArray×ByteArray×List Val×List Ex×Unit)=>Cnd (y4.3=2) (Qb list Ua.1 (4:Int) fun Qq z86=>InI ((12:Int)+Qq)/\Je list z86 y4.3 fun Ho q2v=>K (Ex.mk ((12:Int)+Qq) Ua.2.2.1 Ua.2.2.2.1 [Ho] Ua.2.2.2.2.2.1) q2v) (Cnd (y4.3=3) (Qb list Ua.1 (4:Int) fun Qq z86=>InI ((12:Int)+Qq)/\Je list z86 y4.3 fun Ho q2v=>K (Ex.mk ((12:Int)+Qq) Ua.2.2.1 Ua.2.2.2.1 [Ho] Ua.2.2.2.2.2.1) q2v) (Cnd (y4.3=4) (Qb list Ua.1 (4:Int) fun Qq z86=>InI ((12:Int)+Qq)/\Je list z86 y4.3 fun Ho q2v=>K (Ex.mk ((12:Int)+Qq) Ua.2.2.1 Ua.2.2.2.1 [Ho] Ua.2.2.2.2.2.1) q2v) (y2r (Ua.2.1,Ua.2.2.1,Ua.2.2.2.1,Ua.2.2.2.2.1,Ua.2.2.2.2.2.1,Ua.1,Ua.2.2.2.2.2.2.1,Ua.2.2.2.2.2.2.2.1,Ua.2.2.2.2.2.2.2.2.1,Ua.2.2.2.2.2.2.2.2.2.1,Ua.2.2.2.2.2.2.2.2.2.2.1,()))))) fun (y1e:Int×Int×ByteArray×ByteArray×List Val×List Ex×Int×ByteArray×ByteArray×List Val×List Ex×Unit->Prop)=>Cnd (Wy=0) (K (Ex.mk (6:Int) y4.1 y4.2 [] []) z6s) (Cnd (Wy=1) (Cnd (y4.3=5) (y2r ((0:Int),y4.1,y4.2,[],[],z6s,(0:Int),ByteArray.mk (Array.mk []),ByteArray.mk (Array.mk []),[],[],())) (Lp3 (fun Qq z86 y8a y89=>Qb list y8a (3:Int) fun Ho q2v=>Cnd (Qq<=Ho) (Je list q2v y4.3 fun J2 j9h=>Sml (z86++[J2]).length/\InI (Qq+1)/\y89 (Qq+1) (z86++[J2]) j9h) (K (Ex.mk (8:Int) y4.1 y4.2 z86 []) q2v)) (0:Int) [] z6s)) (Cnd (Wy=2) (Cnd (y4.3=3) (Je list z6s (3:Int) fun Qq z86=>K (Ex.mk (11:Int) y4.1 y4.2 [Qq] []) z86) (Cnd (y4.3=5) (Je list z6s (3:Int) fun Qq z86=>K (Ex.mk (11:Int) y4.1 y4.2 [Qq] []) z86) (y2r ((0:Int),y4.1,y4.2,[],[],z6s,(0:Int),ByteArray.mk (Array.mk []),ByteArray.mk (Array.mk []),[],[],())))) (Cnd (Wy=3) (Cnd (y4.3=3) (Qb list z6s (2:Int) fun Qq z86=>InI ((9:Int)+Qq)/\Je list z86 (3:Int) fun Ho q2v=>K (Ex.mk ((9:Int)+Qq) y4.1 y4.2 [Ho] []) q2v) (y1e (z6s,(0:Int),y4.1,y4.2,[],[],(0:Int),ByteArray.mk (Array.mk []),ByteArray.mk (Array.mk []),[],[],()))) (Cnd (Wy=4) (y1e (z6s,(0:Int),y4.1,y4.2,[],[],(0:Int),ByteArray.mk (Array.mk []),ByteArray.mk (Array.mk []),[],[],())) (y2r ((0:Int),y4.1,y4.2,[],[],z6s,(0:Int),ByteArray.mk (Array.mk []),ByteArray.mk (Array.mk []),[],[],())))))))
def z5x:z9r:=w2o Ju Zc z7o Ui
abbrev q36:Type:=List (Int)->Int->List (ByteArray)->Int->(Ex->Int->Prop)->Prop
def j5u(Qb:Zg)(j1a:z9r)(X:q36):q36:=fun list at_ segments levels K=>Qb list at_ (8:Int) fun Qa Qy=>Jn1 (fun Qc=>Cnd (Qc=0) (K (Ex.mk (1:Int) (ByteArray.mk (Array.mk [])) (ByteArray.mk (Array.mk [])) [] []) Qy) (Cnd (Qc=3) (Fits segments->Cnd ((0:Int)<(↑segments.length:Int)) (Fits segments->Qb list Qy (↑segments.length:Int) fun Qe Jw=>At segments Qe fun y5=>K (Ex.mk (5:Int) (ByteArray.mk (Array.mk [])) y5 [] []) Jw) (j1a list Qy fun Qg V9=>K (Ex.mk Qg.1 Qg.2 Qg.3 Qg.4 Qg.5) V9)) (Cnd (Qc=4) (InI (levels - 1)/\X list Qy segments (levels - 1) fun Qf Zn=>K (Ex.mk (4:Int) (ByteArray.mk (Array.mk [])) (ByteArray.mk (Array.mk [])) [] [Ex.mk Qf.1 Qf.2 Qf.3 Qf.4 Qf.5]) Zn) (Jn1 (fun Qf=>Cnd (Qf=true) (Qb list Qy (2:Int) fun Qg V9=>InI ((2:Int)+Qg)/\Qb list V9 (2:Int) fun Qe Jw=>InI ((2:Int)+Qe)/\LpH (fun (Qm:Int×Int×Int×ByteArray×ByteArray×List Val×List Ex×Unit) (j56:Int×Int×Int×ByteArray×ByteArray×List Val×List Ex×Unit->Prop)=>Cnd (Qm.1<2+Qe) (InI (levels - 1)/\X list Qm.2.1 segments (levels - 1) fun Z7 z87=>Jn1 (fun (Wy:Int×ByteArray×ByteArray×List Val×List Ex×Unit)=>Sml (Qm.2.2.2.2.2.2.1++[Ex.mk Wy.1 Wy.2.1 Wy.2.2.1 Wy.2.2.2.1 Wy.2.2.2.2.1]).length/\InI (Qm.1+1)/\j56 (Qm.1+1,z87,Qm.2.2.1,Qm.2.2.2.1,Qm.2.2.2.2.1,Qm.2.2.2.2.2.1,Qm.2.2.2.2.2.2.1++[Ex.mk Wy.1 Wy.2.1 Wy.2.2.1 Wy.2.2.2.1 Wy.2.2.2.2.1],())) fun (y50:Int×ByteArray×ByteArray×List Val×List Ex×Unit->Prop)=>Cnd (Z7.1=2+Qg) (y50 ((4:Int),ByteArray.mk (Array.mk []),ByteArray.mk (Array.mk []),[],[Ex.mk Z7.1 Z7.2 Z7.3 Z7.4 Z7.5],())) (y50 (Z7.1,Z7.2,Z7.3,Z7.4,Z7.5,()))) (K (Ex.mk Qm.2.2.1 Qm.2.2.2.1 Qm.2.2.2.2.1 Qm.2.2.2.2.2.1 Qm.2.2.2.2.2.2.1) Qm.2.1)) ((0:Int),Jw,(2:Int)+Qg,ByteArray.mk (Array.mk []),ByteArray.mk (Array.mk []),[],[],())) (j1a list Qy fun Qg V9=>K (Ex.mk Qg.1 Qg.2 Qg.3 Qg.4 Qg.5) V9)) fun w7s=>Cnd (Qc=5) (w7s (decide (Qc=5))) (w7s (decide (Qc=6))))))) fun w1p=>Cnd (levels<=1) (Cnd ((4:Int)<=Qa) (InI (Qa - 4)/\w1p (Qa - 4)) (w1p Qa)) (w1p Qa)
def z06:q36:=fun list at_ segments levels K=> ∀X:q36,(∀list at_ segments levels K,j5u Zc z5x X list at_ segments levels K->X list at_ segments levels K)->X list at_ segments levels K
abbrev q4r:Type:=List (Int)->Int->ByteArray->ByteArray->Int->List (Decl)->List (Seg)->List (Flg)->List (Lay_)->List (Exper)->(Int->ByteArray->ByteArray->Int->List (Decl)->List (Seg)->List (Flg)->List (Lay_)->List (Exper)->Prop)->Prop
def z3f(Qb:Zg)(q2w:z5v)(q4f:z04)(q4g:q36):q4r:=fun list at_ salt hkind hold attrs segs flags layers expers K=>Qb list at_ (4:Int) fun Qa Qy=>q2w Qa [ByteArray.mk (Array.mk [97,108,112,104,97]),ByteArray.mk (Array.mk [98,101,116,97]),ByteArray.mk (Array.mk [103,97,109,109,97])] fun Qc=>Lp3 (fun Qf Zn w4x y7p=>Fits Qc->CAt Qc Qf (fun y4=>q4f list Zn fun Z7 z87=>q4f list z87 fun Wy z6s=>Jn2 (fun Ua y2s=>Jn1 (fun (Qq:Int×ByteArray×ByteArray×List Val×List Ex×Int×Unit)=>Sml (w4x++[Seg.mk y4 Ua Z7 Wy (Ex.mk Qq.1 Qq.2.1 Qq.2.2.1 Qq.2.2.2.1 Qq.2.2.2.2.1)]).length/\InI (Qf+1)/\y7p (Qf+1) Qq.2.2.2.2.2.1 (w4x++[Seg.mk y4 Ua Z7 Wy (Ex.mk Qq.1 Qq.2.1 Qq.2.2.1 Qq.2.2.2.1 Qq.2.2.2.2.1)])) fun (y7q:Int×ByteArray×ByteArray×List Val×List Ex×Int×Unit->Prop)=>Qb list y2s (3:Int) fun Ho q2v=>Cnd ((0:Int)<Ho) (((0:Int)<=(0:Int)/\(0:Int)<=Qf/\Qf<=(↑Qc.length:Int))/\q4g list q2v (List.drop (Int.toNat (0:Int)) (List.take Qf.toNat Qc)) (3:Int) fun J2 j9h=>y7q (J2.1,J2.2,J2.3,J2.4,J2.5,j9h,())) (y7q ((0:Int),ByteArray.mk (Array.mk []),ByteArray.mk (Array.mk []),[],[],q2v,()))) fun y1e=>Qb list z6s (4:Int) fun Qq z86=>Cnd (Qq=1) (y1e (ByteArray.mk (Array.mk [100,101,118,105,99,101])) z86) (y1e (ByteArray.mk (Array.mk [117,115,101,114])) z86)) (K Zn salt hkind hold attrs w4x flags layers expers)) (0:Int) Qy segs
def q4s:q4r:=z3f Zc z5w z05 z06
abbrev q1k:Type:=Envt->(List (ByteArray)->Prop)->Prop
def Hq:q1k:=fun v K=>Lp2 (fun Qa Qy q3a=>Fits v.3->CAt v.3 Qy (fun y2=>Sml (Qa++[y2.1]).length/\InI (Qy+1)/\q3a (Qa++[y2.1]) (Qy+1)) (K Qa)) [] (0:Int)
abbrev q63:Type:=List (Int)->Int->Int->(List (Rng)->Int->Prop)->Prop
def j62(Qb:Zg)(Wp:q5y):q63:=fun list at_ n K=>Jn4 (fun Qa Qy j1b q5u=>Qb list q5u n fun Qc Zy=>InI ((1:Int)+Qc)/\Jn1 (fun Qf=>Sml (Qa++[Rng.mk Qy (10000:Int) Qf]).length/\K (Qa++[Rng.mk Qy (10000:Int) Qf]) Zy) fun w7s=>Cnd ((1:Int)+Qc=j1b) (n≠(0:Int)/\InI ((1:Int)+((1:Int)+Qc).tmod n)/\w7s ((1:Int)+((1:Int)+Qc).tmod n)) (w7s ((1:Int)+Qc))) fun z0v=>Lp5 (fun Qc Zy j09 j3z y51 y7r=>Qb list y51 (4:Int) fun Qf Zn=>Cnd (j3z<Qf) (Cnd ((1:Int)<n) (InI (Zy+1)/\Wp list Zn (5000:Int) fun Qg V9=>InI (Zy+1+Qg)/\Qb list V9 n fun Qe Jw=>InI ((1:Int)+Qe)/\Jn1 (fun Qm=>Cnd ((10000:Int)<=Zy+1+Qg) (z0v Qc Zy j09 Jw) (Sml (Qc++[Rng.mk Zy (Zy+1+Qg) Qm]).length/\InI (j3z+1)/\y7r (Qc++[Rng.mk Zy (Zy+1+Qg) Qm]) (Zy+1+Qg) Qm (j3z+1) Jw)) fun y9y=>Cnd ((1:Int)+Qe=j09) (n≠(0:Int)/\InI ((1:Int)+((1:Int)+Qe).tmod n)/\y9y ((1:Int)+((1:Int)+Qe).tmod n)) (y9y ((1:Int)+Qe))) (z0v Qc Zy j09 Zn)) (z0v Qc Zy j09 Zn)) [] (0:Int) (0:Int) (0:Int) at_
def q64:q63:=j62 Zc q5z
abbrev z3g:Type:=List (Int)->Int->Int->(Srv->Int->Prop)->Prop
def j63(Qb:Zg)(Wf:q1h)(q2x:q63)(Q2:Wu):z3g:=fun list at_ n K=>Qb list at_ (2:Int) fun Qa Qy=>Cnd (Qa=0) (Qb list Qy n fun Qc Zy=>InI ((1:Int)+Qc)/\K (Srv.mk ((1:Int)+Qc) (ByteArray.mk (Array.mk [])) (ByteArray.mk (Array.mk [])) (ByteArray.mk (Array.mk [])) []) Zy) (Wf list Qy fun Qc Zy=>q2x list Zy n fun Qf Zn=>Q2 fun Qg=>Qb list Zn (12:Int) fun Qe Jw=>Fits Qg->CAt Qg Qe (fun y6=>Cnd (y6.3=5) (K (Srv.mk (0:Int) (ByteArray.mk (Array.mk [117,115,101,114])) (ByteArray.mk (Array.mk [107,101,121])) Qc Qf) Jw) (At Qg Qe fun y8=>At Qg Qe fun y10=>K (Srv.mk (0:Int) y8.1 y10.2 Qc Qf) Jw)) (K (Srv.mk (0:Int) (ByteArray.mk (Array.mk [117,115,101,114])) (ByteArray.mk (Array.mk [107,101,121])) Qc Qf) Jw))
def z3h:z3g:=j63 Zc q1i q64 Ju
abbrev z9s:Type:=(List (Nd)->(Nd->Option (Int))->Bool->Prop)->Prop
def j64:z9s:=fun K=>K [] (fun _=>none) false
abbrev W6:Type:=Int->(Bool->Prop)->Prop
def Jj:W6:=fun op K=>Cnd ((6:Int)<=op) (K (decide (op<=15))) (K false)
abbrev z9t:Type:=List (ByteArray)->List (ByteArray)->(Bool->Prop)->Prop
def z3i:z9t:=fun a b K=>Fits a->Fits b->Cnd ((↑a.length:Int)=(↑b.length:Int)) (Lp1 (fun Qf j1c=>Fits a->CAt a Qf (fun y4=>At b Qf fun y6=>Cnd (y4=y6) (InI (Qf+1)/\j1c (Qf+1)) (K false)) (K true)) (0:Int)) (K false)
abbrev q6p:Type:=Val->Val->(Bool->Prop)->Prop
def j2a(j1d:z9t):q6p:=fun a b K=>Cnd (a.1=b.1) (Cnd (a.2=b.2) (Cnd (a.3=b.3) (j1d a.4 b.4 fun Qa=>K Qa) (K false)) (K false)) (K false)
def q3b:q6p:=j2a z3i
abbrev Hr:Type:=List (Val)->List (Val)->(Bool->Prop)->Prop
def q65(q09:q6p):Hr:=fun a b K=>Fits a->Fits b->Cnd ((↑a.length:Int)=(↑b.length:Int)) (Lp1 (fun Qf j1c=>Fits a->CAt a Qf (fun y4=>At b Qf fun y6=>q09 y4 y6 fun Ua=>Cnd (Ua=true) (InI (Qf+1)/\j1c (Qf+1)) (K false)) (K true)) (0:Int)) (K false)
def Uj:Hr:=q65 q3b
abbrev Vm:Type:=Ex->Ex->(Bool->Prop)->Prop
def z07(q2y:Hr)(X:Vm):Vm:=fun a b K=>Cnd (a.1=b.1) (Cnd (a.2=b.2) (Cnd (a.3=b.3) (q2y a.4 b.4 fun Qa=>Cnd (Qa=true) (Fits a.5->Fits b.5->Cnd ((↑a.5.length:Int)=(↑b.5.length:Int)) (Lp1 (fun Qg z88=>Fits a.5->CAt a.5 Qg (fun y5=>At b.5 Qg fun y7=>X (Ex.mk y5.1 y5.2 y5.3 y5.4 y5.5) (Ex.mk y7.1 y7.2 y7.3 y7.4 y7.5) fun Qq=>Cnd (Qq=true) (InI (Qg+1)/\z88 (Qg+1)) (K false)) (K true)) (0:Int)) (K false)) (K false)) (K false)) (K false)) (K false)
def Rv:Vm:=fun a b K=> ∀X:Vm,(∀a b K,z07 Uj X a b K->X a b K)->X a b K
abbrev q0g:Type:=List (Ex)->Ex->(Int->Prop)->Prop
def z7p(q6c:Vm):q0g:=fun l e K=>Lp1 (fun Qa q1b=>Fits l->CAt l Qa (fun y2=>q6c (Ex.mk y2.1 y2.2 y2.3 y2.4 y2.5) (Ex.mk e.1 e.2 e.3 e.4 e.5) fun Qe=>Cnd (Qe=true) (K Qa) (InI (Qa+1)/\q1b (Qa+1))) (K (-1:Int))) (0:Int)
def V7:q0g:=z7p Rv
abbrev Wv:Type:=List (Ex)->Ex->(List (Ex)->Prop)->Prop
def q9f(Ub:q0g)(Q1:W6)(X:Wv):Wv:=fun l e K=>Jn1 (fun Qa=>Lp2 (fun Qc Zy z5h=>Fits e.5->CAt e.5 Zy (fun y3=>X Qc (Ex.mk y3.1 y3.2 y3.3 y3.4 y3.5) fun Qm=>InI (Zy+1)/\z5h Qm (Zy+1)) (K Qc)) Qa (0:Int)) fun z0v=>Cnd (e.1=5) (Ub l (Ex.mk e.1 e.2 e.3 e.4 e.5) fun Qc=>Cnd (Qc<0) ((Sml ([]++l).length/\Sml ([]++l++[Ex.mk e.1 e.2 e.3 e.4 e.5]).length/\z0v ([]++l++[Ex.mk e.1 e.2 e.3 e.4 e.5]))/\Sml ([]++l).length/\Sml ([]++l++[Ex.mk e.1 e.2 e.3 e.4 e.5]).length/\z0v ([]++l++[Ex.mk e.1 e.2 e.3 e.4 e.5])) (z0v l)) (Q1 e.1 fun Qc=>Cnd (Qc=true) (Ub l (Ex.mk e.1 e.2 e.3 e.4 e.5) fun Qf=>Cnd (Qf<0) ((Sml ([]++l).length/\Sml ([]++l++[Ex.mk e.1 e.2 e.3 e.4 e.5]).length/\z0v ([]++l++[Ex.mk e.1 e.2 e.3 e.4 e.5]))/\Sml ([]++l).length/\Sml ([]++l++[Ex.mk e.1 e.2 e.3 e.4 e.5]).length/\z0v ([]++l++[Ex.mk e.1 e.2 e.3 e.4 e.5])) (z0v l)) (z0v l))
def Br:Wv:=fun l e K=> ∀X:Wv,(∀l e K,q9f V7 Jj X l e K->X l e K)->X l e K
abbrev Hs:Type:=List (Rul)->(List (Ex)->Prop)->Prop
def q66(q4h:Wv):Hs:=fun l K=>Lp2 (fun Qa Qy q3a=>Fits l->CAt l Qy (fun y2=>q4h Qa (Ex.mk y2.2.1 y2.2.2 y2.2.3 y2.2.4 y2.2.5) fun Qe=>InI (Qy+1)/\q3a Qe (Qy+1)) (K Qa)) [] (0:Int)
def Ht:Hs:=q66 Br
abbrev J4:Type:=List (Nd)->(Nd->Option (Int))->Bool->Int->(Bool->List (Nd)->(Nd->Option (Int))->Bool->Prop)->Prop
def Jo:J4:=fun ns ids full id K=>Cnd ((-1002:Int)<id) (Fits ns->K (decide (id<(↑ns.length:Int))) ns ids full) (K false ns ids full)
abbrev B6:Type:=List (Nd)->(Nd->Option (Int))->Bool->Int->((Int->Option (Bool))->List (Nd)->(Nd->Option (Int))->Bool->Prop)->Prop
def Gu:B6:=fun ns ids full id K=>Lp2 (fun Qa q1b q3a=>Fits Qa->Cnd ((0:Int)<(↑Qa.length:Int)) (Fits Qa->InI ((↑Qa.length:Int) - 1)/\((0:Int)<=(↑Qa.length:Int) - 1/\(↑Qa.length:Int) - 1<(↑Qa.length:Int))/\ ∀y3,Qa[((↑Qa.length:Int) - 1).toNat]? =some y3->Fits Qa->InI ((↑Qa.length:Int) - 1)/\((0:Int)<=(↑Qa.length:Int) - 1/\(↑Qa.length:Int) - 1<=(↑Qa.length:Int))/\Cnd ((q1b y3).getD false=true) (q3a (List.take ((↑Qa.length:Int) - 1).toNat Qa) q1b) (Cnd ((0:Int)<=y3) (At ns y3 fun y6=>At ns y3 fun y8=>Sml (List.take ((↑Qa.length:Int) - 1).toNat Qa++[y6.2.1,y8.2.2]).length/\q3a (List.take ((↑Qa.length:Int) - 1).toNat Qa++[y6.2.1,y8.2.2]) (put q1b y3 true)) (q3a (List.take ((↑Qa.length:Int) - 1).toNat Qa) (put q1b y3 true)))) (K q1b ns ids full)) [id] fun _=>none
abbrev Uk:Type:=List (Nd)->(Nd->Option (Int))->Bool->Int->(List (Int)->List (Nd)->(Nd->Option (Int))->Bool->Prop)->Prop
def q95(Qv:J4)(q0a:B6):Uk:=fun ns ids full id K=>Qv ns ids full id fun Qa (Qy:List (Int×Int×Int)) q3a q5u=>Cnd (Qa=true) (q0a Qy q3a q5u id fun w1p (Zy:List (Int×Int×Int)) z5h j3z=>Lp2 (fun Qf Zn q6u=>Cnd (Zn<=1000) (InI ((-1:Int) - Zn)/\Cnd ((w1p ((-1:Int) - Zn)).getD false=true) (Sml (Qf++[Zn]).length/\InI (Zn+1)/\q6u (Qf++[Zn]) (Zn+1)) (InI (Zn+1)/\q6u Qf (Zn+1))) (K Qf Zy z5h j3z)) [] (0:Int)) (K [] Qy q3a q5u)
def Ul:Uk:=q95 Jo Gu
abbrev Zh:Type:=List (Nd)->(Nd->Option (Int))->Bool->Int->(Bool->List (Nd)->(Nd->Option (Int))->Bool->Prop)->Prop
def q5s(Qv:J4)(Ba:Uk):Zh:=fun ns ids full id K=>Qv ns ids full id fun Qa (Qy:List (Int×Int×Int)) q3a q5u=>Cnd (Qa=true) (Ba Qy q3a q5u id fun Qc (Zy:List (Int×Int×Int)) z5h j3z=>Lp1 (fun Qf j1c=>Fits Qc->CAt Qc Qf (fun y4=>Cnd ((1:Int)<y4) (K false Zy z5h j3z) (InI (Qf+1)/\j1c (Qf+1))) (K true Zy z5h j3z)) (0:Int)) (K false Qy q3a q5u)
def Zi:Zh:=q5s Jo Ul
abbrev Ww:Type:=List (Nd)->(Nd->Option (Int))->Bool->Int->(Int->List (Nd)->(Nd->Option (Int))->Bool->Prop)->Prop
def Jc:Ww:=fun ns ids full id K=>Cnd (id<0) (K (1001:Int) ns ids full) (At ns id fun y0=>K y0.1 ns ids full)
abbrev Gv:Type:=List (Nd)->(Nd->Option (Int))->Bool->Int->Int->(Int->Int->List (Nd)->(Nd->Option (Int))->Bool->Prop)->Prop
def z2p(Q6:Ww):Gv:=fun ns ids full id test K=>Q6 ns ids full id fun Qa (Qy:List (Int×Int×Int)) q3a q5u=>Cnd (Qa=test) (At Qy id fun y1=>At Qy id fun y3=>K y1.2.1 y3.2.2 Qy q3a q5u) (K id id Qy q3a q5u)
def Wg:Gv:=z2p Jc
abbrev W7:Type:=List (Nd)->(Nd->Option (Int))->Bool->Int->Int->Int->(Int->List (Nd)->(Nd->Option (Int))->Bool->Prop)->Prop
def z3j(Qv:J4)(Q6:Ww):W7:=fun ns ids full test yes no K=>Cnd (test<0) (K (-1002:Int) ns ids full) (Cnd ((1000:Int)<test) (K (-1002:Int) ns ids full) (Qv ns ids full yes fun Qa (Qy:List (Int×Int×Int)) q3a q5u=>Cnd (Qa=true) (Qv Qy q3a q5u no fun Qc (Zy:List (Int×Int×Int)) z5h j3z=>Cnd (Qc=true) (Q6 Zy z5h j3z yes fun Qf (Zn:List (Int×Int×Int)) q6u j9k=>Cnd (Qf<=test) (K (-1002:Int) Zn q6u j9k) (Q6 Zn q6u j9k no fun Qg (V9:List (Int×Int×Int)) j5g v8x=>Cnd (Qg<=test) (K (-1002:Int) V9 j5g v8x) (Cnd (yes=no) (K yes V9 j5g v8x) (Cnd ((j5g (test,yes,no)).isSome=true) (K ((j5g (test,yes,no)).getD (0:Int)) V9 j5g v8x) (Fits V9->Cnd ((4000:Int)<=(↑V9.length:Int)) (K (-1002:Int) V9 j5g true) (Fits V9->Sml (V9++[(test,yes,no)]).length/\((V9++[(test,yes,no)]).length<=(9223372036854775807:Nat)->InI ((↑(V9++[(test,yes,no)]).length:Int) - 1)/\K ((↑(V9++[(test,yes,no)]).length:Int) - 1) (V9++[(test,yes,no)]) (put j5g (test,yes,no) (↑V9.length:Int)) v8x))))))) (K (-1002:Int) Zy z5h j3z)) (K (-1002:Int) Qy q3a q5u)))
def Jd:W7:=z3j Jo Jc
abbrev Jl:Type:=List (Nd)->(Nd->Option (Int))->Bool->Int->Int->Int->(A3->Option (Int))->(Int->List (Nd)->(Nd->Option (Int))->Bool->(A3->Option (Int))->Prop)->Prop
def Um(Q6:Ww)(Vi:Gv)(Jr:W7)(X:Jl):Jl:=fun ns ids full f g h known K=>Cnd (f=(-2:Int)) (K g ns ids full known) (Cnd (g=h) (K g ns ids full known) (Cnd (f=(-1:Int)) (K h ns ids full known) (Cnd ((known (f,g,h)).isSome=true) (K ((known (f,g,h)).getD (0:Int)) ns ids full known) (Q6 ns ids full f fun Qa (Qy:List (Int×Int×Int)) q3a q5u=>Q6 Qy q3a q5u g fun Qc (Zy:List (Int×Int×Int)) z5h j3z=>Q6 Zy z5h j3z h fun Qf (Zn:List (Int×Int×Int)) q6u j9k=>Vi Zn q6u j9k f (Min.min (Min.min Qa Qc) Qf) fun Qg V9 (y52:List (Int×Int×Int)) y91 y92=>Vi y52 y91 y92 g (Min.min (Min.min Qa Qc) Qf) fun Qe Jw (j1e:List (Int×Int×Int)) y53 y9a=>Vi j1e y53 y9a h (Min.min (Min.min Qa Qc) Qf) fun Qm q8i (y9b:List (Int×Int×Int)) y93 y94=>X y9b y93 y94 Qg Qe Qm known fun Z7 (z87:List (Int×Int×Int)) y5i y5j y95=>X z87 y5i y5j V9 Jw q8i y95 fun Wy (z6s:List (Int×Int×Int)) y54 v0c y55=>Jn4 (fun Ua (y2s:List (Int×Int×Int)) y96 y97=>K Ua y2s y97 y96 (put y55 (f,g,h) Ua)) fun y1e=>Cnd (Z7=(-1002:Int)) (y1e (-1002:Int) z6s v0c y54) (Cnd (Wy=(-1002:Int)) (y1e (-1002:Int) z6s v0c y54) (Jr z6s y54 v0c (Min.min (Min.min Qa Qc) Qf) Z7 Wy fun Qq (z86:List (Int×Int×Int)) y7s y7t=>y1e Qq z86 y7t y7s))))))
def Un:Jl:=fun ns ids full f g h known K=> ∀X:Jl,(∀ns ids full f g h known K,Um Jc Wg Jd X ns ids full f g h known K->X ns ids full f g h known K)->X ns ids full f g h known K
abbrev Z0:Type:=List (Nd)->(Nd->Option (Int))->Bool->Int->Int->Int->(Int->List (Nd)->(Nd->Option (Int))->Bool->Prop)->Prop
def q96(Qp:Zh)(Qv:J4)(Bb:Jl):Z0:=fun ns ids full f g h K=>Qp ns ids full f fun Qa (Qy:List (Int×Int×Int)) q3a q5u=>Cnd (Qa=true) (Qv Qy q3a q5u g fun Qc (Zy:List (Int×Int×Int)) z5h j3z=>Cnd (Qc=true) (Qv Zy z5h j3z h fun Qf (Zn:List (Int×Int×Int)) q6u j9k=>Cnd (Qf=true) (Bb Zn q6u j9k f g h (fun _=>none) fun Qg (V9:List (Int×Int×Int)) j5g v8x _=>K Qg V9 j5g v8x) (K (-1002:Int) Zn q6u j9k)) (K (-1002:Int) Zy z5h j3z)) (K (-1002:Int) Qy q3a q5u)
def Z1:Z0:=q96 Zi Jo Un
abbrev Bt:Type:=List (Nd)->(Nd->Option (Int))->Bool->Int->(Int->List (Nd)->(Nd->Option (Int))->Bool->Prop)->Prop
def z6z(Qz:Z0):Bt:=fun ns ids full f K=>Qz ns ids full f (-1:Int) (-2:Int) fun Qa (Qy:List (Int×Int×Int)) q3a q5u=>K Qa Qy q3a q5u
def Hc:Bt:=z6z Z1
abbrev Bu:Type:=List (Nd)->(Nd->Option (Int))->Bool->Int->Int->(Int->List (Nd)->(Nd->Option (Int))->Bool->Prop)->Prop
def z60(Qp:Zh)(Qz:Z0):Bu:=fun ns ids full f g K=>Qp ns ids full g fun Qa (Qy:List (Int×Int×Int)) q3a q5u=>Cnd (Qa=true) (Qz Qy q3a q5u f g (-1:Int) fun Qc (Zy:List (Int×Int×Int)) z5h j3z=>K Qc Zy z5h j3z) (K (-1002:Int) Qy q3a q5u)
def Hd:Bu:=z60 Zi Z1
abbrev U6:Type:=List (Nd)->(Nd->Option (Int))->Bool->Int->Int->(Int->List (Nd)->(Nd->Option (Int))->Bool->Prop)->Prop
def z9u(Qp:Zh)(Qz:Z0):U6:=fun ns ids full f g K=>Qp ns ids full g fun Qa (Qy:List (Int×Int×Int)) q3a q5u=>Cnd (Qa=true) (Qz Qy q3a q5u f (-2:Int) g fun Qc (Zy:List (Int×Int×Int)) z5h j3z=>K Qc Zy z5h j3z) (K (-1002:Int) Qy q3a q5u)
def Vn:U6:=z9u Zi Z1
abbrev Wc:Type:=List (Nd)->(Nd->Option (Int))->Bool->List (Ex)->Ex->(Int->List (Nd)->(Nd->Option (Int))->Bool->Prop)->Prop
def q67(q4i:Bt)(q4j:Bu)(Wq:U6)(Ub:q0g)(Jr:W7)(X:Wc):Wc:=fun ns ids full atoms e K=>Cnd (e.1=1) (K (-2:Int) ns ids full) (Cnd (e.1=4) (((0:Int)<=(0:Int)/\(0:Int)<(↑e.5.length:Int))/\ ∀y0,e.5[Int.toNat (0:Int)]? =some y0->X ns ids full atoms (Ex.mk y0.1 y0.2 y0.3 y0.4 y0.5) fun Qf (Zn:List (Int×Int×Int)) q6u j9k=>q4i Zn q6u j9k Qf fun Qg (V9:List (Int×Int×Int)) j5g v8x=>K Qg V9 j5g v8x) (Jn1 (fun Qa=>Cnd (Qa=true) (((0:Int)<=(0:Int)/\(0:Int)<(↑e.5.length:Int))/\ ∀y1,e.5[Int.toNat (0:Int)]? =some y1->X ns ids full atoms (Ex.mk y1.1 y1.2 y1.3 y1.4 y1.5) fun Qg (V9:List (Int×Int×Int)) j5g v8x=>Lp5 (fun Qe Jw (j1e:List (Int×Int×Int)) v8y y8b y8c=>Fits e.5->CAt e.5 Jw (fun y6=>X j1e y8b v8y atoms (Ex.mk y6.1 y6.2 y6.3 y6.4 y6.5) fun Ua (y2s:List (Int×Int×Int)) y9z y90=>Cnd (e.1=2) (q4j y2s y9z y90 Qe Ua fun Qq (z86:List (Int×Int×Int)) y7s y7t=>InI (Jw+1)/\y8c Qq (Jw+1) z86 y7t y7s) (Wq y2s y9z y90 Qe Ua fun Qq (z86:List (Int×Int×Int)) y7s y7t=>InI (Jw+1)/\y8c Qq (Jw+1) z86 y7t y7s)) (K Qe j1e y8b v8y)) Qg (1:Int) V9 v8x j5g) (Ub atoms (Ex.mk e.1 e.2 e.3 e.4 e.5) fun Qc=>Cnd (Qc<0) (K (-1002:Int) ns ids full) (Jr ns ids full Qc (-2:Int) (-1:Int) fun Qf (Zn:List (Int×Int×Int)) q6u j9k=>K Qf Zn q6u j9k))) fun z0v=>Cnd (e.1=2) (z0v (decide (e.1=2))) (z0v (decide (e.1=3)))))
def Hu:Wc:=fun ns ids full atoms e K=> ∀X:Wc,(∀ns ids full atoms e K,q67 Hc Hd Vn V7 Jd X ns ids full atoms e K->X ns ids full atoms e K)->X ns ids full atoms e K
abbrev Jy:Type:=List (Rul)->(List (Int)->Int->Bool->Prop)->Prop
def q3c(j1f:z9s)(q2z:Hs)(q20:Wc)(Wq:U6):Jy:=fun l K=>j1f fun (Qa:List (Int×Int×Int)) q1b j1b=>q2z l fun Qc=>LpH (fun Qf j1c=>Fits l->CAt l Qf.2.2.1 (fun y4=>q20 Qf.2.2.2.1 Qf.2.2.2.2.2.1 Qf.2.2.2.2.1 Qc (Ex.mk y4.2.1 y4.2.2 y4.2.3 y4.2.4 y4.2.5) fun Z7 (z87:List (Int×Int×Int)) y5i y5j=>Wq z87 y5i y5j Qf.1 Z7 fun Wy (z6s:List (Int×Int×Int)) y54 v0c=>Cnd (Wy=(-1002:Int)) (Fits z6s->K [] (↑z6s.length:Int) false) (Cnd (Wy=Qf.1) (InI (Qf.2.2.1+1)/\Sml (Qf.2.1++[Qf.2.2.1+1]).length/\InI (Qf.2.2.1+1)/\j1c (Wy,Qf.2.1++[Qf.2.2.1+1],Qf.2.2.1+1,z6s,v0c,y54,())) (InI (Qf.2.2.1+1)/\j1c (Wy,Qf.2.1,Qf.2.2.1+1,z6s,v0c,y54,())))) (Fits Qf.2.2.2.1->K Qf.2.1 (↑Qf.2.2.2.1.length:Int) true)) ((-1:Int),[],(0:Int),Qa,j1b,q1b,())
def Jz:Jy:=q3c j64 Ht Hu Vn
abbrev z3k:Type:=List (Int)->Int->ByteArray->(Lay_->Int->Prop)->Prop
def j65(Wf:q1h)(Qb:Zg)(Wp:q5y):z3k:=fun list at_ key K=>Wf list at_ fun Qa Qy=>Qb list Qy (3:Int) fun Qc Zy=>InI (Qc*50)/\Jn2 (fun Qf Zn=>Jn2 (fun Qg V9=>Lp4 (fun Qe Jw j1e v8y y8b=>Qb list v8y (3:Int) fun Qm q8i=>Cnd (Jw<Qm) (Wp list q8i (3000:Int) fun Z7 z87=>InI (Qe+Z7)/\InI (Qe+Z7+1)/\Wp list z87 (2000:Int) fun Wy z6s=>InI (Qe+Z7+1+Wy)/\Cnd ((10000:Int)<Qe+Z7+1+Wy) (K (Lay_.mk key Qf Qa Qg (Qc*50) j1e) z6s) (Qb list z6s (200:Int) fun Ua y2s=>Sml (j1e++[Col.mk (Qe+Z7) (Qe+Z7+1+Wy) Ua]).length/\InI (Jw+1)/\y8b (Qe+Z7+1+Wy) (Jw+1) (j1e++[Col.mk (Qe+Z7) (Qe+Z7+1+Wy) Ua]) y2s)) (K (Lay_.mk key Qf Qa Qg (Qc*50) j1e) q8i)) (0:Int) (0:Int) [] V9) fun v8r=>Qb list Zn (2:Int) fun Qe Jw=>Cnd (Qe=1) (Wp list Jw (3000:Int) fun Qm q8i=>v8r Qm q8i) (v8r (0:Int) Jw)) fun w7s=>Qb list Zy (4:Int) fun Qg V9=>Cnd (Qg=1) (w7s (ByteArray.mk (Array.mk [100,101,118,105,99,101])) V9) (w7s (ByteArray.mk (Array.mk [117,115,101,114])) V9)
def z3l:z3k:=j65 q1i Zc q5z
abbrev z5y:Type:=Int->(Bool->Prop)->Prop
def q97:z5y:=fun now K=>Cnd ((0:Int)<=now) (K (decide (now<=1099511627776))) (K false)
abbrev Vo:Type:=Envt->ByteArray->(Int->Prop)->Prop
def Vp:Vo:=fun v key K=>Lp1 (fun Qa q1b=>Fits v.5->CAt v.5 Qa (fun y2=>Cnd (y2.1=key) (K Qa) (InI (Qa+1)/\q1b (Qa+1))) (K (-1:Int))) (0:Int)
abbrev q1l:Type:=List (Col)->Int->(List (Int)->Prop)->Prop
def Hw:q1l:=fun l now K=>((0:Int)<=(10000:Int)/\(10000:Int)<=(10000:Int)/\Sml (Int.toNat (10000:Int)))/\Lp2 (fun Qa Qy q3a=>Fits Qy->CAt Qy Qa (fun _=>InI (Qa+1)/\q3a (Qa+1) (Qy.set Qa.toNat now)) (Lp2 (fun Qf Zn q6u=>Fits l->CAt l Qf (fun y4=>Lp2 (fun Z7 z87 y5i=>At l Qf fun y7=>Cnd (Z7<Min.min y7.2 (10000:Int)) (At z87 Z7 fun y9=>At l Qf fun y11=>At z87 Z7 fun _=>InI (Z7+1)/\y5i (Z7+1) (z87.set Z7.toNat (Max.max y9 y11.3))) (InI (Qf+1)/\q6u (Qf+1) z87)) (Max.max y4.1 (0:Int)) Zn) (K Zn)) (0:Int) Qy)) (0:Int) (List.replicate (Int.toNat (10000:Int)) (0:Int))
abbrev Wh:Type:=List (Bool)->(List (Spn)->Prop)->Prop
def J0:Wh:=fun set_ K=>Lp2 (fun Qa Qy q3a=>Fits set_->CAt set_ Qy (fun y2=>Cnd (y2=true) (Cnd ((0:Int)<Qy) (InI (Qy - 1)/\((0:Int)<=Qy - 1/\Qy - 1<(↑set_.length:Int))/\ ∀y4,set_[(Qy - 1).toNat]? =some y4->Cnd (y4=true) (Fits Qa->InI ((↑Qa.length:Int) - 1)/\InI (Qy+1)/\((0:Int)<=(↑Qa.length:Int) - 1/\(↑Qa.length:Int) - 1<(↑Qa.length:Int))/\ ∀y7,Qa[((↑Qa.length:Int) - 1).toNat]? =some y7->InI (Qy+1)/\q3a (Qa.set ((↑Qa.length:Int) - 1).toNat (Spn.mk y7.1 (Qy+1))) (Qy+1)) (InI (Qy+1)/\Sml (Qa++[Spn.mk Qy (Qy+1)]).length/\InI (Qy+1)/\q3a (Qa++[Spn.mk Qy (Qy+1)]) (Qy+1))) (InI (Qy+1)/\Sml (Qa++[Spn.mk Qy (Qy+1)]).length/\InI (Qy+1)/\q3a (Qa++[Spn.mk Qy (Qy+1)]) (Qy+1))) (InI (Qy+1)/\q3a Qa (Qy+1))) (K Qa)) [] (0:Int)
abbrev q68:Type:=List (Int)->Int->(List (Spn)->Prop)->Prop
def z7q(Q4:Wh):q68:=fun until_ now K=>Fits until_->((0:Int)<=(↑until_.length:Int)/\(↑until_.length:Int)<=(↑until_.length:Int)/\Sml (↑until_.length:Int).toNat)/\Lp2 (fun Qc Zy z5h=>Fits until_->CAt until_ Qc (fun y3=>At Zy Qc fun _=>InI (Qc+1)/\z5h (Qc+1) (Zy.set Qc.toNat (decide (now<y3)))) (Q4 Zy fun Qg=>K Qg)) (0:Int) (List.replicate (↑until_.length:Int).toNat false)
def q69:q68:=z7q J0
abbrev Bv:Type:=List (Spn)->(List (Bool)->Prop)->Prop
def Hx:Bv:=fun l K=>((0:Int)<=(10000:Int)/\(10000:Int)<=(10000:Int)/\Sml (Int.toNat (10000:Int)))/\Lp2 (fun Qa Qy q3a=>Fits l->CAt l Qa (fun y2=>Lp2 (fun Qe Jw w7t=>At l Qa fun y5=>Cnd (Qe<Min.min y5.2 (10000:Int)) (At Jw Qe fun _=>InI (Qe+1)/\w7t (Qe+1) (Jw.set Qe.toNat true)) (InI (Qa+1)/\q3a (Qa+1) Jw)) (Max.max y2.1 (0:Int)) Qy) (K Qy)) (0:Int) (List.replicate (Int.toNat (10000:Int)) false)
abbrev q7a:Type:=List (Spn)->List (Spn)->(List (Spn)->Prop)->Prop
def z7r(Z9:Bv)(Q4:Wh):q7a:=fun a b K=>Z9 a fun Qa=>Z9 b fun Qc=>Lp2 (fun Qf Zn q6u=>Fits Zn->CAt Zn Qf (fun y4=>Cnd (y4=true) (At Zn Qf fun _=>InI (Qf+1)/\q6u (Qf+1) (Zn.set Qf.toNat true)) (At Qc Qf fun y6=>At Zn Qf fun _=>InI (Qf+1)/\q6u (Qf+1) (Zn.set Qf.toNat y6))) (Q4 Zn fun Qe=>K Qe)) (0:Int) Qa
def q7b:q7a:=z7r Hx J0
abbrev q7c:Type:=Envt->ByteArray->ByteArray->Int->(List (Spn)->Prop)->Prop
def z7s(Zs:Vo)(q0y:q7a)(Rn:q1l)(q33:q68):q7c:=fun v layer but now K=>Zs (Envt.mk (Sett.mk v.1.1 v.1.2 v.1.3) v.2 v.3 v.4 v.5 v.6) layer fun Qa=>Cnd (Qa<0) (K []) (Jn1 (fun Qc=>Lp2 (fun Qf Zn q6u=>Fits v.6->CAt v.6 Zn (fun y4=>Cnd (y4.2=layer) (Cnd (y4.1=but) (InI (Zn+1)/\q6u Qf (Zn+1)) (Cnd (y4.5=3) (InI (Zn+1)/\q6u Qf (Zn+1)) (q0y Qf y4.6 fun Z7=>InI (Zn+1)/\q6u Z7 (Zn+1)))) (InI (Zn+1)/\q6u Qf (Zn+1))) (K Qf)) Qc (0:Int)) fun w1p=>At v.5 Qa fun y2=>At v.5 Qa fun y4=>(Rn y4.6 now fun Z7=>q33 Z7 now fun Wy=>q0y [Spn.mk (0:Int) y2.4] Wy fun Ua=>w1p Ua)/\Rn y4.6 now fun Z7=>(q33 Z7 now fun Wy=>q0y [Spn.mk (0:Int) y2.4] Wy fun Ua=>w1p Ua)/\q33 Z7 now fun Wy=>q0y [Spn.mk (0:Int) y2.4] Wy fun Ua=>w1p Ua)
def q7d:q7c:=z7s Vp q7b Hw q69
abbrev q0h:Type:=List (Spn)->List (Spn)->(List (Spn)->Prop)->Prop
def z7t(Z9:Bv)(Q4:Wh):q0h:=fun a b K=>Z9 a fun Qa=>Z9 b fun Qc=>Lp2 (fun Qf Zn q6u=>Fits Zn->CAt Zn Qf (fun y4=>Cnd (y4=true) (At Qc Qf fun y6=>At Zn Qf fun _=>InI (Qf+1)/\q6u (Qf+1) (Zn.set Qf.toNat (match decide (y6=true) with|true=>false|false=>true))) (At Zn Qf fun _=>InI (Qf+1)/\q6u (Qf+1) (Zn.set Qf.toNat false))) (Q4 Zn fun Qe=>K Qe)) (0:Int) Qa
def q0i:q0h:=z7t Hx J0
abbrev q98:Type:=Envt->ByteArray->Int->(List (Spn)->Int->Prop)->Prop
def j2b(z6d:z5y)(Zs:Vo)(z2g:q7c)(Gk:q0h):q98:=fun v layer now K=>z6d now fun Qa=>Cnd (Qa=true) (Zs (Envt.mk (Sett.mk v.1.1 v.1.2 v.1.3) v.2 v.3 v.4 v.5 v.6) layer fun Qc=>Cnd (Qc<0) (K [] (11:Int)) (z2g (Envt.mk (Sett.mk v.1.1 v.1.2 v.1.3) v.2 v.3 v.4 v.5 v.6) layer (ByteArray.mk (Array.mk [])) now fun Qf=>Gk [Spn.mk (0:Int) (10000:Int)] Qf fun Qg=>K Qg (0:Int))) (K [] (3:Int))
def q99:q98:=j2b q97 Vp q7d q0i
abbrev q7e:Type:=List (Spn)->Int->(List (Spn)->Prop)->Prop
def z7u(Z9:Bv)(Q4:Wh):q7e:=fun l n K=>Z9 l fun Qa=>Lp3 (fun Qc Zy j09 y1d=>Fits j09->CAt j09 Zy (fun y3=>Cnd (y3=true) (Cnd (Qc<=0) (At j09 Zy fun _=>InI (Zy+1)/\y1d Qc (Zy+1) (j09.set Zy.toNat false)) (At j09 Zy fun y5=>Cnd (y5=true) (InI (Qc - 1)/\InI (Zy+1)/\y1d (Qc - 1) (Zy+1) j09) (InI (Zy+1)/\y1d Qc (Zy+1) j09))) (At j09 Zy fun y5=>Cnd (y5=true) (InI (Qc - 1)/\InI (Zy+1)/\y1d (Qc - 1) (Zy+1) j09) (InI (Zy+1)/\y1d Qc (Zy+1) j09))) (Q4 j09 fun Qg=>K Qg)) n (0:Int) Qa
def q7f:q7e:=z7u Hx J0
abbrev Vq:Type:=ByteArray->(Bool->Prop)->Prop
def Jp(s:ByteArray)(K:Bool->Prop):Prop:=s.size<=(9223372036854775807:Nat)/\K (Go.Lib.validD s.data.toList)
abbrev Jm:Type:=ByteArray->(Bool->Prop)->Prop
def z5z(Zt:Vq):Jm:=fun s K=>Cnd ((200:Int)<(↑s.size:Int)) (K false) (Zt s fun Qa=>Cnd (Qa=true) (Lp1 (fun Qc q1a=>Cnd (Qc<(↑s.size:Int)) (((0:Int)<=Qc/\Qc<(↑s.size:Int))/\ ∀b2,s[Qc.toNat]? =some b2->Cnd ((↑b2.toNat:Int)<32) (K false) (((0:Int)<=Qc/\Qc<(↑s.size:Int))/\ ∀b4,s[Qc.toNat]? =some b4->Cnd ((↑b4.toNat:Int)=127) (K false) (InI (Qc+1)/\q1a (Qc+1)))) (K true)) (0:Int)) (K false))
def Z2:Jm:=z5z Jp
abbrev z9v:Type:=ByteArray->(Bool->Prop)->Prop
def z3m:z9v:=fun s K=>Lp1 (fun Qa q1b=>Cnd (Qa<(↑s.size:Int)) (((0:Int)<=Qa/\Qa<(↑s.size:Int))/\ ∀b1,s[Qa.toNat]? =some b1->Cnd ((97:Int)<=(↑b1.toNat:Int)) (Cnd ((↑b1.toNat:Int)<=122) (InI (Qa+1)/\q1b (Qa+1)) (Cnd (Qa=0) (K false) (Cnd ((48:Int)<=(↑b1.toNat:Int)) (Cnd ((↑b1.toNat:Int)<=57) (InI (Qa+1)/\q1b (Qa+1)) (Cnd ((↑b1.toNat:Int)=45) (InI (Qa+1)/\q1b (Qa+1)) (Cnd ((↑b1.toNat:Int)=95) (InI (Qa+1)/\q1b (Qa+1)) (K false)))) (Cnd ((↑b1.toNat:Int)=45) (InI (Qa+1)/\q1b (Qa+1)) (Cnd ((↑b1.toNat:Int)=95) (InI (Qa+1)/\q1b (Qa+1)) (K false)))))) (Cnd (Qa=0) (K false) (Cnd ((48:Int)<=(↑b1.toNat:Int)) (Cnd ((↑b1.toNat:Int)<=57) (InI (Qa+1)/\q1b (Qa+1)) (Cnd ((↑b1.toNat:Int)=45) (InI (Qa+1)/\q1b (Qa+1)) (Cnd ((↑b1.toNat:Int)=95) (InI (Qa+1)/\q1b (Qa+1)) (K false)))) (Cnd ((↑b1.toNat:Int)=45) (InI (Qa+1)/\q1b (Qa+1)) (Cnd ((↑b1.toNat:Int)=95) (InI (Qa+1)/\q1b (Qa+1)) (K false)))))) (K (decide ((0:Int)<(↑s.size:Int))))) (0:Int)
abbrev q50:Type:=(List (ByteArray)->Prop)->Prop
def q1m:q50:=fun K=>K [ByteArray.mk (Array.mk [97,110,100]),ByteArray.mk (Array.mk [97,114,109,115]),ByteArray.mk (Array.mk [97,116,116,114,105,98,117,116,101]),ByteArray.mk (Array.mk [98,111,111,108]),ByteArray.mk (Array.mk [99,108,97,105,109,115]),ByteArray.mk (Array.mk [99,111,110,116,97,105,110,115]),ByteArray.mk (Array.mk [99,111,111,108]),ByteArray.mk (Array.mk [99,111,111,108,105,110,103]),ByteArray.mk (Array.mk [100,101,102,97,117,108,116]),ByteArray.mk (Array.mk [100,114,97,102,116]),ByteArray.mk (Array.mk [101,110,100,115]),ByteArray.mk (Array.mk [101,120,99,108,117,100,101]),ByteArray.mk (Array.mk [101,120,105,115,116,115]),ByteArray.mk (Array.mk [101,120,112,101,114,105,109,101,110,116]),ByteArray.mk (Array.mk [102,97,108,115,101]),ByteArray.mk (Array.mk [102,108,97,103]),ByteArray.mk (Array.mk [104,111,108,100,111,117,116]),ByteArray.mk (Array.mk [105,110]),ByteArray.mk (Array.mk [105,110,99,108,117,100,101]),ByteArray.mk (Array.mk [105,115]),ByteArray.mk (Array.mk [108,97,121,101,114]),ByteArray.mk (Array.mk [108,105,115,116]),ByteArray.mk (Array.mk [109,101,109,98,101,114]),ByteArray.mk (Array.mk [110,101,101,100,115]),ByteArray.mk (Array.mk [110,111,116]),ByteArray.mk (Array.mk [110,117,109,98,101,114]),ByteArray.mk (Array.mk [111,102,102]),ByteArray.mk (Array.mk [111,110]),ByteArray.mk (Array.mk [111,114]),ByteArray.mk (Array.mk [114,117,108,101]),ByteArray.mk (Array.mk [114,117,110,110,105,110,103]),ByteArray.mk (Array.mk [115,97,108,116]),ByteArray.mk (Array.mk [115,101,103,109,101,110,116]),ByteArray.mk (Array.mk [115,101,114,118,101]),ByteArray.mk (Array.mk [115,101,116,116,105,110,103,115]),ByteArray.mk (Array.mk [115,112,108,105,116]),ByteArray.mk (Array.mk [115,116,97,114,116,115]),ByteArray.mk (Array.mk [115,116,111,112,112,101,100]),ByteArray.mk (Array.mk [116,97,114,103,101,116]),ByteArray.mk (Array.mk [116,101,120,116]),ByteArray.mk (Array.mk [116,111]),ByteArray.mk (Array.mk [116,114,117,101]),ByteArray.mk (Array.mk [117,110,116,105,108]),ByteArray.mk (Array.mk [118,97,114,105,97,116,105,111,110,115]),ByteArray.mk (Array.mk [118,101,114,115,105,111,110]),ByteArray.mk (Array.mk [119,104,101,110])]
abbrev Jf:Type:=ByteArray->(Bool->Prop)->Prop
def w2p(j1g:z9v)(q6d:q50):Jf:=fun s K=>j1g s fun Qa=>Cnd (Qa=true) (Cnd ((32:Int)<(↑s.size:Int)) (K false) (q6d fun Qc=>Lp1 (fun Qf j1c=>Fits Qc->CAt Qc Qf (fun y4=>Cnd (y4=s) (K false) (InI (Qf+1)/\j1c (Qf+1))) (K true)) (0:Int))) (K false)
def Jg:Jf:=w2p z3m q1m
abbrev q1n:Type:=Sett->(Int->Prop)->Prop
def z08(Qs:Jm)(Qk:Jf):q1n:=fun s K=>Qs s.1 fun Qa=>Cnd (Qa=true) (Cnd (s.3<0) (K (3:Int)) (Cnd ((10000:Int)<s.3) (K (3:Int)) (Qk s.2 fun Qc=>Cnd (Qc=true) (K (0:Int)) (Cnd (s.2=ByteArray.mk (Array.mk [])) (Cnd (s.3=0) (K (0:Int)) (K (6:Int))) (K (6:Int)))))) (K (2:Int))
def q1o:q1n:=z08 Z2 Jg
abbrev q1p:Type:=List (Decl)->(Int->Prop)->Prop
def z09(Qk:Jf):q1p:=fun l K=>Fits l->Cnd ((30:Int)<(↑l.length:Int)) (K (5:Int)) (Lp1 (fun Qc q1a=>Fits l->CAt l Qc (fun y3=>Qk y3.1 fun Qm=>Cnd (Qm=true) (At l Qc fun y6=>Qk y6.2 fun Ua=>Cnd (Ua=true) (At l Qc fun y9=>Cnd (y9.2=ByteArray.mk (Array.mk [107,101,121])) (K (6:Int)) (At l Qc fun y11=>Cnd (y11.3<1) (K (7:Int)) (At l Qc fun y13=>Cnd ((5:Int)<y13.3) (K (7:Int)) (Cnd ((0:Int)<Qc) (At l Qc fun y15=>InI (Qc - 1)/\((0:Int)<=Qc - 1/\Qc - 1<(↑l.length:Int))/\ ∀y17,l[(Qc - 1).toNat]? =some y17->Cnd (Lk.blt y15.1 y17.1) (K (9:Int)) (At l Qc fun y19=>InI (Qc - 1)/\((0:Int)<=Qc - 1/\Qc - 1<(↑l.length:Int))/\ ∀y21,l[(Qc - 1).toNat]? =some y21->Cnd (y19.1=y21.1) (At l Qc fun y23=>InI (Qc - 1)/\((0:Int)<=Qc - 1/\Qc - 1<(↑l.length:Int))/\ ∀y25,l[(Qc - 1).toNat]? =some y25->Cnd (Lk.blt y25.2 y23.2) (InI (Qc+1)/\q1a (Qc+1)) (K (9:Int))) (InI (Qc+1)/\q1a (Qc+1)))) (InI (Qc+1)/\q1a (Qc+1)))))) (K (6:Int))) (K (6:Int))) (K (0:Int))) (0:Int))
def q1q:q1p:=z09 Jg
abbrev Hy:Type:=List (ByteArray)->(Int->Prop)->Prop
def z3n(Qs:Jm):Hy:=fun l K=>Fits l->Cnd ((40:Int)<(↑l.length:Int)) (K (5:Int)) (Lp1 (fun Qc q1a=>Fits l->CAt l Qc (fun y3=>Cnd (y3=ByteArray.mk (Array.mk [])) (K (2:Int)) (At l Qc fun y5=>Qs y5 fun Wy=>Cnd (Wy=true) (Cnd ((0:Int)<Qc) (At l Qc fun y8=>InI (Qc - 1)/\((0:Int)<=Qc - 1/\Qc - 1<(↑l.length:Int))/\ ∀y10,l[(Qc - 1).toNat]? =some y10->Cnd (Lk.blt y10 y8) (InI (Qc+1)/\q1a (Qc+1)) (K (9:Int))) (InI (Qc+1)/\q1a (Qc+1))) (K (2:Int)))) (K (0:Int))) (0:Int))
def Hz:Hy:=z3n Z2
abbrev z9w:Type:=Ex->(Bool->Prop)->Prop
def z3o:z9w:=fun e K=>Cnd (e.1=0) (Cnd (e.2=ByteArray.mk (Array.mk [])) (Cnd (e.3=ByteArray.mk (Array.mk [])) (Fits e.4->Cnd ((↑e.4.length:Int)=0) (Fits e.5->K (decide ((↑e.5.length:Int)=0))) (K false)) (K false)) (K false)) (K false)
abbrev q7g:Type:=Ex->(Bool->Prop)->Prop
def z7v(Q1:W6):q7g:=fun e K=>Fits e.5->Fits e.4->Jn2 (fun Qf Zn=>Q1 e.1 fun Qg=>Cnd (Qf=true) (Cnd (Zn=true) (Cnd (Qg=true) (Cnd (Qg=true) (K true) (Cnd (e.1=5) (K true) (K (decide (e.3=ByteArray.mk (Array.mk [])))))) (Cnd (e.2=ByteArray.mk (Array.mk [])) (Cnd (Qg=true) (K true) (Cnd (e.1=5) (K true) (K (decide (e.3=ByteArray.mk (Array.mk [])))))) (K false))) (K false)) (K false)) fun w7s=>Cnd (e.1=2) (Fits e.5->w7s (decide ((2:Int)<=(↑e.5.length:Int))) (decide ((↑e.4.length:Int)=0))) (Cnd (e.1=3) (Fits e.5->w7s (decide ((2:Int)<=(↑e.5.length:Int))) (decide ((↑e.4.length:Int)=0))) (Cnd (e.1=4) (Fits e.5->w7s (decide ((↑e.5.length:Int)=1)) (decide ((↑e.4.length:Int)=0))) (Cnd (e.1=8) (Fits e.4->w7s (decide ((↑e.5.length:Int)=0)) (decide ((0:Int)<(↑e.4.length:Int)))) (Q1 e.1 fun Qg=>Cnd (Qg=true) (Cnd (e.1=6) (w7s (decide ((↑e.5.length:Int)=0)) (decide ((↑e.4.length:Int)=0))) (Fits e.4->w7s (decide ((↑e.5.length:Int)=0)) (decide ((↑e.4.length:Int)=1)))) (w7s (decide ((↑e.5.length:Int)=0)) (decide ((↑e.4.length:Int)=0)))))))
def q7h:q7g:=z7v Jj
abbrev z50:Type:=Val->(Bool->Prop)->Prop
def q3d:z50:=fun v K=>Cnd (v.1=1) (Cnd (v.1=3) (Cnd (v.1=5) (K true) (Fits v.4->K (decide ((↑v.4.length:Int)=0)))) (Cnd (v.1=4) (Cnd (v.1=5) (K true) (Fits v.4->K (decide ((↑v.4.length:Int)=0)))) (Cnd (v.3=ByteArray.mk (Array.mk [])) (Cnd (v.1=5) (K true) (Fits v.4->K (decide ((↑v.4.length:Int)=0)))) (K false)))) (Cnd (v.1=3) (Cnd (v.1=2) (Cnd (v.1=5) (K true) (Fits v.4->K (decide ((↑v.4.length:Int)=0)))) (Cnd (v.2=0) (Cnd (v.1=5) (K true) (Fits v.4->K (decide ((↑v.4.length:Int)=0)))) (K false))) (Cnd (v.1=2) (Cnd (v.1=4) (Cnd (v.1=5) (K true) (Fits v.4->K (decide ((↑v.4.length:Int)=0)))) (Cnd (v.3=ByteArray.mk (Array.mk [])) (Cnd (v.1=5) (K true) (Fits v.4->K (decide ((↑v.4.length:Int)=0)))) (K false))) (Cnd (v.2=0) (Cnd (v.1=4) (Cnd (v.1=5) (K true) (Fits v.4->K (decide ((↑v.4.length:Int)=0)))) (Cnd (v.3=ByteArray.mk (Array.mk [])) (Cnd (v.1=5) (K true) (Fits v.4->K (decide ((↑v.4.length:Int)=0)))) (K false))) (K false))))
abbrev B7:Type:=ByteArray->(Int->Int->Prop)->Prop
def Jv:B7:=fun s K=>Jn1 (fun Qa=>Lp1 (fun Qc q1a=>Cnd (Qc<(↑Qa.size:Int)) (((0:Int)<=Qc/\Qc<(↑Qa.size:Int))/\ ∀b2,Qa[Qc.toNat]? =some b2->Cnd ((↑b2.toNat:Int)<48) (K (0:Int) (1:Int)) (((0:Int)<=Qc/\Qc<(↑Qa.size:Int))/\ ∀b4,Qa[Qc.toNat]? =some b4->Cnd ((57:Int)<(↑b4.toNat:Int)) (K (0:Int) (1:Int)) (InI (Qc+1)/\q1a (Qc+1)))) (Cnd (Qa=ByteArray.mk (Array.mk [])) (K (0:Int) (1:Int)) (((0:Int)<=(0:Int)/\(0:Int)<(↑Qa.size:Int))/\ ∀b2,Qa[Int.toNat (0:Int)]? =some b2->Cnd ((↑b2.toNat:Int)=48) (Cnd (s=ByteArray.mk (Array.mk [48])) (Cnd ((13:Int)<(↑Qa.size:Int)) (K (0:Int) (3:Int)) (Lp2 (fun Qe Jw w7t=>Cnd (Jw<(↑Qa.size:Int)) (InI ((10:Int)*Qe)/\((0:Int)<=Jw/\Jw<(↑Qa.size:Int))/\ ∀b5,Qa[Jw.toNat]? =some b5->InI (Go.IntKind.u8.wrap ((↑b5.toNat:Int) - 48))/\InI ((10:Int)*Qe+Go.IntKind.u8.wrap ((↑b5.toNat:Int) - 48))/\InI (Jw+1)/\w7t ((10:Int)*Qe+Go.IntKind.u8.wrap ((↑b5.toNat:Int) - 48)) (Jw+1)) (Cnd ((1099511627776:Int)<Qe) (K (0:Int) (3:Int)) (Cnd ((↑Qa.size:Int)<(↑s.size:Int)) (InI ((0:Int) - Qe)/\K ((0:Int) - Qe) (0:Int)) (K Qe (0:Int))))) (0:Int) (0:Int))) (K (0:Int) (1:Int))) (Cnd ((13:Int)<(↑Qa.size:Int)) (K (0:Int) (3:Int)) (Lp2 (fun Qe Jw w7t=>Cnd (Jw<(↑Qa.size:Int)) (InI ((10:Int)*Qe)/\((0:Int)<=Jw/\Jw<(↑Qa.size:Int))/\ ∀b5,Qa[Jw.toNat]? =some b5->InI (Go.IntKind.u8.wrap ((↑b5.toNat:Int) - 48))/\InI ((10:Int)*Qe+Go.IntKind.u8.wrap ((↑b5.toNat:Int) - 48))/\InI (Jw+1)/\w7t ((10:Int)*Qe+Go.IntKind.u8.wrap ((↑b5.toNat:Int) - 48)) (Jw+1)) (Cnd ((1099511627776:Int)<Qe) (K (0:Int) (3:Int)) (Cnd ((↑Qa.size:Int)<(↑s.size:Int)) (InI ((0:Int) - Qe)/\K ((0:Int) - Qe) (0:Int)) (K Qe (0:Int))))) (0:Int) (0:Int)))))) (0:Int)) fun z0v=>Cnd ((0:Int)<(↑s.size:Int)) (((0:Int)<=(0:Int)/\(0:Int)<(↑s.size:Int))/\ ∀b1,s[Int.toNat (0:Int)]? =some b1->Cnd ((↑b1.toNat:Int)=45) (((0:Int)<=(1:Int)/\(1:Int)<=(↑s.size:Int)/\(↑s.size:Int)<=(↑s.size:Int))/\z0v (s.extract (Int.toNat (1:Int)) (↑s.size:Int).toNat)) (z0v s)) (z0v s)
abbrev q6q:Type:=ByteArray->(A3->Bool->Prop)->Prop
def z52(G9:B7):q6q:=fun s K=>LpH (fun (Qa:Int×Int×Int×Int×Int×Int×Int×Int×Unit) q1b=>Cnd (Qa.2.1<3) (Lp1 (fun Qc q1a=>Cnd (Qc<(↑s.size:Int)) (((0:Int)<=Qc/\Qc<(↑s.size:Int))/\ ∀b2,s[Qc.toNat]? =some b2->Cnd ((↑b2.toNat:Int)=46) (((0:Int)<=Qa.1/\Qa.1<=Qc/\Qc<=(↑s.size:Int))/\G9 (s.extract Qa.1.toNat Qc.toNat) fun Qe Jw=>Cnd (Jw=0) (Cnd (Qe<0) (K ((0:Int),(0:Int),(0:Int)) false) (Cnd ((999999:Int)<Qe) (K ((0:Int),(0:Int),(0:Int)) false) (Cnd (decide (Qa.2.1<2)=decide (Qc<(↑s.size:Int))) (((0:Int)<=Qa.2.1/\Qa.2.1<(↑(3:Nat):Int))/\((True/\(Qa.2.1=(↑(nat_lit 0):Int)->InI (Qc+1)/\InI (Qa.2.1+1)/\q1b (Qc+1,Qa.2.1+1,Qe,Qa.2.2.2.1,Qa.2.2.2.2.1,Qa.2.2.2.2.2.1,Qa.2.2.2.2.2.2.1,Qa.2.2.2.2.2.2.2.1,())))/\(Qa.2.1=(↑(nat_lit 1):Int)->InI (Qc+1)/\InI (Qa.2.1+1)/\q1b (Qc+1,Qa.2.1+1,Qa.2.2.1,Qe,Qa.2.2.2.2.1,Qa.2.2.2.2.2.1,Qa.2.2.2.2.2.2.1,Qa.2.2.2.2.2.2.2.1,())))/\(Qa.2.1=(↑(nat_lit 2):Int)->InI (Qc+1)/\InI (Qa.2.1+1)/\q1b (Qc+1,Qa.2.1+1,Qa.2.2.1,Qa.2.2.2.1,Qe,Qa.2.2.2.2.2.1,Qa.2.2.2.2.2.2.1,Qa.2.2.2.2.2.2.2.1,()))) (K ((0:Int),(0:Int),(0:Int)) false)))) (K ((0:Int),(0:Int),(0:Int)) false)) (InI (Qc+1)/\q1a (Qc+1))) (((0:Int)<=Qa.1/\Qa.1<=Qc/\Qc<=(↑s.size:Int))/\G9 (s.extract Qa.1.toNat Qc.toNat) fun Qf Zn=>Cnd (Zn=0) (Cnd (Qf<0) (K ((0:Int),(0:Int),(0:Int)) false) (Cnd ((999999:Int)<Qf) (K ((0:Int),(0:Int),(0:Int)) false) (Cnd (decide (Qa.2.1<2)=decide (Qc<(↑s.size:Int))) (((0:Int)<=Qa.2.1/\Qa.2.1<(↑(3:Nat):Int))/\((True/\(Qa.2.1=(↑(nat_lit 0):Int)->InI (Qc+1)/\InI (Qa.2.1+1)/\q1b (Qc+1,Qa.2.1+1,Qf,Qa.2.2.2.1,Qa.2.2.2.2.1,Qa.2.2.2.2.2.1,Qa.2.2.2.2.2.2.1,Qa.2.2.2.2.2.2.2.1,())))/\(Qa.2.1=(↑(nat_lit 1):Int)->InI (Qc+1)/\InI (Qa.2.1+1)/\q1b (Qc+1,Qa.2.1+1,Qa.2.2.1,Qf,Qa.2.2.2.2.1,Qa.2.2.2.2.2.1,Qa.2.2.2.2.2.2.1,Qa.2.2.2.2.2.2.2.1,())))/\(Qa.2.1=(↑(nat_lit 2):Int)->InI (Qc+1)/\InI (Qa.2.1+1)/\q1b (Qc+1,Qa.2.1+1,Qa.2.2.1,Qa.2.2.2.1,Qf,Qa.2.2.2.2.2.1,Qa.2.2.2.2.2.2.1,Qa.2.2.2.2.2.2.2.1,()))) (K ((0:Int),(0:Int),(0:Int)) false)))) (K ((0:Int),(0:Int),(0:Int)) false))) Qa.1) (K (Qa.2.2.1,Qa.2.2.2.1,Qa.2.2.2.2.1) true)) ((0:Int),(0:Int),(0:Int),(0:Int),(0:Int),(0:Int),(0:Int),(0:Int),())
def q02:q6q:=z52 Jv
abbrev z3p:Type:=List (ByteArray)->(Int->Prop)->Prop
def z9x(Qs:Jm):z3p:=fun l K=>Fits l->Cnd ((20:Int)<(↑l.length:Int)) (K (5:Int)) (Lp1 (fun Qc q1a=>Fits l->CAt l Qc (fun y3=>Qs y3 fun Qm=>Cnd (Qm=true) (InI (Qc+1)/\q1a (Qc+1)) (K (2:Int))) (Lp1 (fun Qg z88=>Fits l->CAt l Qg (fun y5=>InI (Qg - 1)/\((0:Int)<=Qg - 1/\Qg - 1<(↑l.length:Int))/\ ∀y7,l[(Qg - 1).toNat]? =some y7->Cnd (Lk.blt y7 y5) (InI (Qg+1)/\z88 (Qg+1)) (K (9:Int))) (K (0:Int))) (1:Int))) (0:Int))
def q7i:z3p:=z9x Z2
abbrev q03:Type:=Val->(Int->Prop)->Prop
def z54(z6e:z50)(Qs:Jm)(q34:q6q)(j1h:z3p):q03:=fun v K=>Cnd (v.1<1) (K (7:Int)) (Cnd ((5:Int)<v.1) (K (7:Int)) (z6e v fun Qa=>Cnd (Qa=true) (Cnd (v.1=1) (Cnd (v.2=0) (K (0:Int)) (Cnd (v.2=1) (K (0:Int)) (K (3:Int)))) (Cnd (v.1=2) (Cnd (v.2<(-1099511627776:Int)) (K (3:Int)) (Cnd ((1099511627776:Int)<v.2) (K (3:Int)) (K (0:Int)))) (Cnd (v.1=3) (Qs v.3 fun Qc=>Cnd (Qc=true) (K (0:Int)) (K (2:Int))) (Cnd (v.1=4) (q34 v.3 fun (_:Int×Int×Int) Zy=>Cnd (Zy=true) (K (0:Int)) (K (1:Int))) (Cnd (v.1=5) (j1h v.4 fun Qc=>K Qc) (K (0:Int))))))) (K (15:Int))))
def He:q03:=z54 q3d Z2 q02 q7i
abbrev z3q:Type:=Ex->(Int->Prop)->Prop
def j66(z2h:q7g)(Q1:W6)(Qk:Jf)(Jn:q03):z3q:=fun e K=>Cnd (e.1<1) (K (7:Int)) (Cnd ((15:Int)<e.1) (K (7:Int)) (z2h (Ex.mk e.1 e.2 e.3 e.4 e.5) fun Qa=>Cnd (Qa=true) (Fits e.5->Cnd ((12:Int)<(↑e.5.length:Int)) (K (5:Int)) (Fits e.4->Cnd ((20:Int)<(↑e.4.length:Int)) (K (5:Int)) (Lp1 (fun Qg z88=>Fits e.5->CAt e.5 Qg (fun y5=>Cnd (y5.1=e.1) (Cnd (e.1=4) (InI (Qg+1)/\z88 (Qg+1)) (K (15:Int))) (InI (Qg+1)/\z88 (Qg+1))) (Q1 e.1 fun Qm=>Cnd (Qm=true) (Qk e.2 fun Z7=>Cnd (Z7=true) (Q1 e.1 fun Wy=>Cnd (Wy=true) (Qk e.3 fun Ua=>Cnd (Ua=true) (Lp1 (fun Qq y7u=>Fits e.4->CAt e.4 Qq (fun y11=>Jn y11 fun Q7=>Cnd (Q7=0) (InI (Qq+1)/\y7u (Qq+1)) (K Q7)) (Cnd (e.1=9) (((0:Int)<=(0:Int)/\(0:Int)<(↑e.4.length:Int))/\ ∀y11,e.4[Int.toNat (0:Int)]? =some y11->Cnd (y11.1=3) (K (0:Int)) (K (8:Int))) (Cnd (e.1=10) (((0:Int)<=(0:Int)/\(0:Int)<(↑e.4.length:Int))/\ ∀y11,e.4[Int.toNat (0:Int)]? =some y11->Cnd (y11.1=3) (K (0:Int)) (K (8:Int))) (Cnd (e.1=11) (((0:Int)<=(0:Int)/\(0:Int)<(↑e.4.length:Int))/\ ∀y11,e.4[Int.toNat (0:Int)]? =some y11->Cnd (y11.1=3) (K (0:Int)) (K (8:Int))) (K (0:Int)))))) (0:Int)) (K (6:Int))) (Cnd (e.1=5) (Qk e.3 fun Ua=>Cnd (Ua=true) (Lp1 (fun Qq y7u=>Fits e.4->CAt e.4 Qq (fun y11=>Jn y11 fun Q7=>Cnd (Q7=0) (InI (Qq+1)/\y7u (Qq+1)) (K Q7)) (Cnd (e.1=9) (((0:Int)<=(0:Int)/\(0:Int)<(↑e.4.length:Int))/\ ∀y11,e.4[Int.toNat (0:Int)]? =some y11->Cnd (y11.1=3) (K (0:Int)) (K (8:Int))) (Cnd (e.1=10) (((0:Int)<=(0:Int)/\(0:Int)<(↑e.4.length:Int))/\ ∀y11,e.4[Int.toNat (0:Int)]? =some y11->Cnd (y11.1=3) (K (0:Int)) (K (8:Int))) (Cnd (e.1=11) (((0:Int)<=(0:Int)/\(0:Int)<(↑e.4.length:Int))/\ ∀y11,e.4[Int.toNat (0:Int)]? =some y11->Cnd (y11.1=3) (K (0:Int)) (K (8:Int))) (K (0:Int)))))) (0:Int)) (K (6:Int))) (Lp1 (fun Ua y7v=>Fits e.4->CAt e.4 Ua (fun y10=>Jn y10 fun U1=>Cnd (U1=0) (InI (Ua+1)/\y7v (Ua+1)) (K U1)) (Cnd (e.1=9) (((0:Int)<=(0:Int)/\(0:Int)<(↑e.4.length:Int))/\ ∀y10,e.4[Int.toNat (0:Int)]? =some y10->Cnd (y10.1=3) (K (0:Int)) (K (8:Int))) (Cnd (e.1=10) (((0:Int)<=(0:Int)/\(0:Int)<(↑e.4.length:Int))/\ ∀y10,e.4[Int.toNat (0:Int)]? =some y10->Cnd (y10.1=3) (K (0:Int)) (K (8:Int))) (Cnd (e.1=11) (((0:Int)<=(0:Int)/\(0:Int)<(↑e.4.length:Int))/\ ∀y10,e.4[Int.toNat (0:Int)]? =some y10->Cnd (y10.1=3) (K (0:Int)) (K (8:Int))) (K (0:Int)))))) (0:Int)))) (K (6:Int))) (Q1 e.1 fun Z7=>Cnd (Z7=true) (Qk e.3 fun Wy=>Cnd (Wy=true) (Lp1 (fun Ua y7v=>Fits e.4->CAt e.4 Ua (fun y10=>Jn y10 fun U1=>Cnd (U1=0) (InI (Ua+1)/\y7v (Ua+1)) (K U1)) (Cnd (e.1=9) (((0:Int)<=(0:Int)/\(0:Int)<(↑e.4.length:Int))/\ ∀y10,e.4[Int.toNat (0:Int)]? =some y10->Cnd (y10.1=3) (K (0:Int)) (K (8:Int))) (Cnd (e.1=10) (((0:Int)<=(0:Int)/\(0:Int)<(↑e.4.length:Int))/\ ∀y10,e.4[Int.toNat (0:Int)]? =some y10->Cnd (y10.1=3) (K (0:Int)) (K (8:Int))) (Cnd (e.1=11) (((0:Int)<=(0:Int)/\(0:Int)<(↑e.4.length:Int))/\ ∀y10,e.4[Int.toNat (0:Int)]? =some y10->Cnd (y10.1=3) (K (0:Int)) (K (8:Int))) (K (0:Int)))))) (0:Int)) (K (6:Int))) (Cnd (e.1=5) (Qk e.3 fun Wy=>Cnd (Wy=true) (Lp1 (fun Ua y7v=>Fits e.4->CAt e.4 Ua (fun y10=>Jn y10 fun U1=>Cnd (U1=0) (InI (Ua+1)/\y7v (Ua+1)) (K U1)) (Cnd (e.1=9) (((0:Int)<=(0:Int)/\(0:Int)<(↑e.4.length:Int))/\ ∀y10,e.4[Int.toNat (0:Int)]? =some y10->Cnd (y10.1=3) (K (0:Int)) (K (8:Int))) (Cnd (e.1=10) (((0:Int)<=(0:Int)/\(0:Int)<(↑e.4.length:Int))/\ ∀y10,e.4[Int.toNat (0:Int)]? =some y10->Cnd (y10.1=3) (K (0:Int)) (K (8:Int))) (Cnd (e.1=11) (((0:Int)<=(0:Int)/\(0:Int)<(↑e.4.length:Int))/\ ∀y10,e.4[Int.toNat (0:Int)]? =some y10->Cnd (y10.1=3) (K (0:Int)) (K (8:Int))) (K (0:Int)))))) (0:Int)) (K (6:Int))) (Lp1 (fun Wy y5k=>Fits e.4->CAt e.4 Wy (fun y9=>Jn y9 fun J2=>Cnd (J2=0) (InI (Wy+1)/\y5k (Wy+1)) (K J2)) (Cnd (e.1=9) (((0:Int)<=(0:Int)/\(0:Int)<(↑e.4.length:Int))/\ ∀y9,e.4[Int.toNat (0:Int)]? =some y9->Cnd (y9.1=3) (K (0:Int)) (K (8:Int))) (Cnd (e.1=10) (((0:Int)<=(0:Int)/\(0:Int)<(↑e.4.length:Int))/\ ∀y9,e.4[Int.toNat (0:Int)]? =some y9->Cnd (y9.1=3) (K (0:Int)) (K (8:Int))) (Cnd (e.1=11) (((0:Int)<=(0:Int)/\(0:Int)<(↑e.4.length:Int))/\ ∀y9,e.4[Int.toNat (0:Int)]? =some y9->Cnd (y9.1=3) (K (0:Int)) (K (8:Int))) (K (0:Int)))))) (0:Int)))))) (0:Int)))) (K (15:Int))))
def z0a:z3q:=j66 q7h Jj Jg He
abbrev q4t:Type:=Ex->Int->Int->(Int->Int->Prop)->Prop
def j67(j1i:z3q)(X:q4t):q4t:=fun e depth n K=>Cnd ((60:Int)<=n) (K (5:Int) n) (InI (n+1)/\Cnd ((10:Int)<depth) (K (18:Int) (n+1)) (j1i (Ex.mk e.1 e.2 e.3 e.4 e.5) fun Qa=>Cnd (Qa=0) (Lp2 (fun Qc Zy z5h=>Fits e.5->CAt e.5 Qc (fun y3=>InI (depth+1)/\X (Ex.mk y3.1 y3.2 y3.3 y3.4 y3.5) (depth+1) Zy fun Qm q8i=>Cnd (Qm=0) (InI (Qc+1)/\z5h (Qc+1) q8i) (K Qm q8i)) (K (0:Int) Zy)) (0:Int) (n+1)) (K Qa (n+1))))
def z3r:q4t:=fun e depth n K=> ∀X:q4t,(∀e depth n K,j67 z0a X e depth n K->X e depth n K)->X e depth n K
abbrev q1r:Type:=Ex->(Int->Prop)->Prop
def j68(j1j:q4t):q1r:=fun e K=>j1j (Ex.mk e.1 e.2 e.3 e.4 e.5) (1:Int) (0:Int) fun Qa _=>K Qa
def q1s:q1r:=j68 z3r
abbrev q4u:Type:=Seg->(Int->Prop)->Prop
def z3s(Qk:Jf)(Wz:Hy)(j1k:z9w)(V1:q1r):q4u:=fun g K=>Qk g.1 fun Qa=>Cnd (Qa=true) (Qk g.2 fun Qc=>Cnd (Qc=true) (Wz g.3 fun Qf=>Cnd (Qf=0) (Wz g.4 fun Qg=>Cnd (Qg=0) (j1k (Ex.mk g.5.1 g.5.2 g.5.3 g.5.4 g.5.5) fun Qe=>Cnd (Qe=true) (K (0:Int)) (V1 (Ex.mk g.5.1 g.5.2 g.5.3 g.5.4 g.5.5) fun Qm=>K Qm)) (K Qg)) (K Qf)) (K (6:Int))) (K (6:Int))
def q4v:q4u:=z3s Jg Hz z3o q1s
abbrev q1t:Type:=List (Seg)->(Int->Prop)->Prop
def z1a(q82:q4u):q1t:=fun l K=>Fits l->Cnd ((20:Int)<(↑l.length:Int)) (K (5:Int)) (Lp1 (fun Qc q1a=>Fits l->CAt l Qc (fun y3=>q82 (Seg.mk y3.1 y3.2 y3.3 y3.4 (Ex.mk y3.5.1 y3.5.2 y3.5.3 y3.5.4 y3.5.5)) fun Qm=>Cnd (Qm=0) (Cnd ((0:Int)<Qc) (At l Qc fun y6=>InI (Qc - 1)/\((0:Int)<=Qc - 1/\Qc - 1<(↑l.length:Int))/\ ∀y8,l[(Qc - 1).toNat]? =some y8->Cnd (Lk.blt y8.1 y6.1) (InI (Qc+1)/\q1a (Qc+1)) (K (9:Int))) (InI (Qc+1)/\q1a (Qc+1))) (K Qm)) (K (0:Int))) (0:Int))
def q1u:q1t:=z1a q4v
abbrev H0:Type:=Flg->(Int->Prop)->Prop
def q7j(Jn:q03):H0:=fun f K=>Fits f.3->Cnd ((8:Int)<(↑f.3.length:Int)) (K (5:Int)) (Cnd ((↑f.3.length:Int)=0) (K (3:Int)) (Lp1 (fun Qc q1a=>CAt f.3 Qc (fun y2=>Jn y2 fun Qe=>Cnd (Qe=0) (At f.3 Qc fun y5=>Cnd (y5.1=f.2) (InI (Qc+1)/\q1a (Qc+1)) (K (8:Int))) (K Qe)) (Cnd (f.5<1) (K (3:Int)) (Cnd ((↑f.3.length:Int)<f.5) (K (3:Int)) (K (0:Int))))) (0:Int)))
def H1:H0:=q7j He
abbrev Vr:Type:=List (Prq)->(Int->Prop)->Prop
def q1v(Qk:Jf):Vr:=fun l K=>Fits l->Cnd ((4:Int)<(↑l.length:Int)) (K (5:Int)) (Lp1 (fun Qc q1a=>Fits l->CAt l Qc (fun y3=>Qk y3.1 fun Qm=>Cnd (Qm=true) (Cnd ((0:Int)<Qc) (At l Qc fun y6=>InI (Qc - 1)/\((0:Int)<=Qc - 1/\Qc - 1<(↑l.length:Int))/\ ∀y8,l[(Qc - 1).toNat]? =some y8->Cnd (Lk.blt y8.1 y6.1) (At l Qc fun y10=>Cnd (y10.2<1) (K (3:Int)) (At l Qc fun y12=>Cnd ((8:Int)<y12.2) (K (3:Int)) (InI (Qc+1)/\q1a (Qc+1)))) (K (9:Int))) (At l Qc fun y6=>Cnd (y6.2<1) (K (3:Int)) (At l Qc fun y8=>Cnd ((8:Int)<y8.2) (K (3:Int)) (InI (Qc+1)/\q1a (Qc+1))))) (K (6:Int))) (K (0:Int))) (0:Int))
def Vs:Vr:=q1v Jg
abbrev q4w:Type:=List (Tgt)->Int->(Int->Prop)->Prop
def z3t(Qk:Jf)(Wz:Hy):q4w:=fun l n K=>Fits l->Cnd ((8:Int)<(↑l.length:Int)) (K (5:Int)) (Lp1 (fun Qc q1a=>Fits l->CAt l Qc (fun y3=>Qk y3.1 fun Qm=>Cnd (Qm=true) (At l Qc fun y6=>Cnd (y6.2<1) (K (3:Int)) (At l Qc fun y8=>Cnd (n<y8.2) (K (3:Int)) (At l Qc fun y10=>Fits y10.3->Cnd ((↑y10.3.length:Int)=0) (K (3:Int)) (At l Qc fun y13=>Wz y13.3 fun j1l=>Cnd (j1l=0) (InI (Qc+1)/\q1a (Qc+1)) (K j1l))))) (K (6:Int))) (K (0:Int))) (0:Int))
def q4x:q4w:=z3t Jg Hz
abbrev q6r:Type:=List (Rng)->Int->(Int->Prop)->Prop
def q3e:q6r:=fun l variations K=>Fits l->Cnd ((16:Int)<(↑l.length:Int)) (K (5:Int)) (Lp2 (fun Qc Zy z5h=>Fits l->CAt l Zy (fun y3=>Cnd (y3.3<1) (K (3:Int)) (At l Zy fun y5=>Cnd (variations<y5.3) (K (3:Int)) (At l Zy fun y7=>Cnd (y7.1=Qc) (At l Zy fun y9=>Cnd (y9.2<=Qc) (K (9:Int)) (Cnd ((0:Int)<Zy) (At l Zy fun y11=>InI (Zy - 1)/\((0:Int)<=Zy - 1/\Zy - 1<(↑l.length:Int))/\ ∀y13,l[(Zy - 1).toNat]? =some y13->Cnd (y11.3=y13.3) (K (9:Int)) (At l Zy fun y15=>InI (Zy+1)/\z5h y15.2 (Zy+1))) (At l Zy fun y11=>InI (Zy+1)/\z5h y11.2 (Zy+1)))) (K (9:Int))))) (Cnd (Qc=10000) (K (0:Int)) (K (3:Int)))) (0:Int) (0:Int))
abbrev q3f:Type:=Srv->Int->(Int->Prop)->Prop
def j2c(Qk:Jf)(Qs:Jm)(Bc:q6r):q3f:=fun v variations K=>Cnd (v.1=0) (Qk v.2 fun Qa=>Cnd (Qa=true) (Qk v.3 fun Qc=>Cnd (Qc=true) (Qs v.4 fun Qf=>Cnd (Qf=true) (Bc v.5 variations fun Qg=>K Qg) (K (2:Int))) (K (6:Int))) (K (6:Int))) (Cnd (v.1<1) (K (3:Int)) (Cnd (variations<v.1) (K (3:Int)) (Cnd (v.2=ByteArray.mk (Array.mk [])) (Cnd (v.3=ByteArray.mk (Array.mk [])) (Cnd (v.4=ByteArray.mk (Array.mk [])) (Fits v.5->Cnd ((0:Int)<(↑v.5.length:Int)) (K (15:Int)) (K (0:Int))) (K (15:Int))) (K (15:Int))) (K (15:Int)))))
def q3g:q3f:=j2c Jg Z2 q3e
abbrev z0b:Type:=List (Rul)->Int->(Int->Prop)->Prop
def j2d(Qk:Jf)(V1:q1r)(Bd:q3f):z0b:=fun l n K=>Fits l->Cnd ((12:Int)<(↑l.length:Int)) (K (5:Int)) (Lp1 (fun Qc q1a=>Fits l->CAt l Qc (fun y3=>Qk y3.1 fun Qm=>Cnd (Qm=true) (Lp1 (fun Z7 y5l=>Cnd (Z7<Qc) (At l Z7 fun y7=>At l Qc fun y9=>Cnd (y7.1=y9.1) (K (10:Int)) (InI (Z7+1)/\y5l (Z7+1))) (At l Qc fun y7=>V1 (Ex.mk y7.2.1 y7.2.2 y7.2.3 y7.2.4 y7.2.5) fun Qq=>Cnd (Qq=0) (At l Qc fun y10=>Bd (Srv.mk y10.3.1 y10.3.2 y10.3.3 y10.3.4 y10.3.5) n fun U1=>Cnd (U1=0) (InI (Qc+1)/\q1a (Qc+1)) (K U1)) (K Qq))) (0:Int)) (K (6:Int))) (K (0:Int))) (0:Int))
def z0c:z0b:=j2d Jg q1s q3g
abbrev z3u:Type:=Flg->(Int->Prop)->Prop
def j69(Qk:Jf)(q21:H0)(Hj:Vr)(q83:q4w)(z6f:z0b)(Bd:q3f):z3u:=fun f K=>Fits f.3->Qk f.1 fun Qc=>Cnd (Qc=true) (Cnd (f.2<1) (K (7:Int)) (Cnd ((5:Int)<f.2) (K (7:Int)) (q21 (Flg.mk f.1 f.2 f.3 f.4 f.5 f.6 f.7 f.8 (Srv.mk f.9.1 f.9.2 f.9.3 f.9.4 f.9.5)) fun Qf=>Cnd (Qf=0) (Hj f.6 fun Qg=>Cnd (Qg=0) (q83 f.7 (↑f.3.length:Int) fun Qe=>Cnd (Qe=0) (z6f f.8 (↑f.3.length:Int) fun Qm=>Cnd (Qm=0) (Bd (Srv.mk f.9.1 f.9.2 f.9.3 f.9.4 f.9.5) (↑f.3.length:Int) fun Z7=>K Z7) (K Qm)) (K Qe)) (K Qg)) (K Qf)))) (K (6:Int))
def z3v:z3u:=j69 Jg H1 Vs q4x z0c q3g
abbrev z0d:Type:=List (Flg)->(Int->Prop)->Prop
def j2e(j1m:z3u):z0d:=fun l K=>Fits l->Cnd ((30:Int)<(↑l.length:Int)) (K (5:Int)) (Lp1 (fun Qc q1a=>Fits l->CAt l Qc (fun y3=>j1m (Flg.mk y3.1 y3.2 y3.3 y3.4 y3.5 y3.6 y3.7 y3.8 (Srv.mk y3.9.1 y3.9.2 y3.9.3 y3.9.4 y3.9.5)) fun Qm=>Cnd (Qm=0) (Cnd ((0:Int)<Qc) (At l Qc fun y6=>InI (Qc - 1)/\((0:Int)<=Qc - 1/\Qc - 1<(↑l.length:Int))/\ ∀y8,l[(Qc - 1).toNat]? =some y8->Cnd (Lk.blt y8.1 y6.1) (InI (Qc+1)/\q1a (Qc+1)) (K (9:Int))) (InI (Qc+1)/\q1a (Qc+1))) (K Qm)) (K (0:Int))) (0:Int))
def z0e:z0d:=j2e z3v
abbrev z0f:Type:=Lay_->(Int->Prop)->Prop
def j2f(Qk:Jf)(Qs:Jm):z0f:=fun l K=>Qk l.1 fun Qa=>Cnd (Qa=true) (Qk l.2 fun Qc=>Cnd (Qc=true) (Qs l.3 fun Qf=>Cnd (Qf=true) (Cnd (l.4<0) (K (3:Int)) (Cnd ((10000:Int)<l.4) (K (3:Int)) (Cnd (l.5<0) (K (3:Int)) (Cnd ((1099511627776:Int)<l.5) (K (3:Int)) (Fits l.6->Cnd ((32:Int)<(↑l.6.length:Int)) (K (5:Int)) (Lp1 (fun Qe w4y=>Fits l.6->CAt l.6 Qe (fun y6=>Cnd (y6.1<0) (K (3:Int)) (Cnd (y6.2<=y6.1) (K (3:Int)) (Cnd ((10000:Int)<y6.2) (K (3:Int)) (Cnd (y6.3<0) (K (3:Int)) (Cnd ((1099511627776:Int)<y6.3) (K (3:Int)) (Cnd ((0:Int)<Qe) (InI (Qe - 1)/\((0:Int)<=Qe - 1/\Qe - 1<(↑l.6.length:Int))/\ ∀y8,l.6[(Qe - 1).toNat]? =some y8->Cnd (y6.1<y8.2) (K (9:Int)) (InI (Qe+1)/\w4y (Qe+1))) (InI (Qe+1)/\w4y (Qe+1)))))))) (K (0:Int))) (0:Int))))))) (K (2:Int))) (K (6:Int))) (K (6:Int))
def z0g:z0f:=j2f Jg Z2
abbrev q7k:Type:=List (Lay_)->(Int->Prop)->Prop
def z7w(z6g:z0f):q7k:=fun l K=>Fits l->Cnd ((6:Int)<(↑l.length:Int)) (K (5:Int)) (Lp1 (fun Qc q1a=>Fits l->CAt l Qc (fun y3=>z6g y3 fun Qm=>Cnd (Qm=0) (Cnd ((0:Int)<Qc) (At l Qc fun y6=>InI (Qc - 1)/\((0:Int)<=Qc - 1/\Qc - 1<(↑l.length:Int))/\ ∀y8,l[(Qc - 1).toNat]? =some y8->Cnd (Lk.blt y8.1 y6.1) (InI (Qc+1)/\q1a (Qc+1)) (K (9:Int))) (InI (Qc+1)/\q1a (Qc+1))) (K Qm)) (K (0:Int))) (0:Int))
def q7l:q7k:=z7w z0g
abbrev z55:Type:=List (Spn)->(Int->Prop)->Prop
def z0h:z55:=fun l K=>Fits l->Cnd ((16:Int)<(↑l.length:Int)) (K (5:Int)) (Lp1 (fun Qc q1a=>Fits l->CAt l Qc (fun y3=>Cnd (y3.1<0) (K (3:Int)) (At l Qc fun y5=>At l Qc fun y7=>Cnd (y7.2<=y5.1) (K (3:Int)) (At l Qc fun y9=>Cnd ((10000:Int)<y9.2) (K (3:Int)) (Cnd ((0:Int)<Qc) (At l Qc fun y11=>InI (Qc - 1)/\((0:Int)<=Qc - 1/\Qc - 1<(↑l.length:Int))/\ ∀y13,l[(Qc - 1).toNat]? =some y13->Cnd (y11.1<=y13.2) (K (9:Int)) (InI (Qc+1)/\q1a (Qc+1))) (InI (Qc+1)/\q1a (Qc+1)))))) (K (0:Int))) (0:Int))
abbrev H2:Type:=Exper->(Int->Prop)->Prop
def q7m(Qk:Jf)(Qs:Jm)(z6h:z55)(Bc:q6r)(V1:q1r):H2:=fun x K=>Qk x.1 fun Qa=>Cnd (Qa=true) (Qk x.2 fun Qc=>Cnd (Qc=true) (Qk x.3 fun Qf=>Cnd (Qf=true) (Qs x.4 fun Qg=>Cnd (Qg=true) (Cnd (x.5<1) (K (7:Int)) (Cnd ((3:Int)<x.5) (K (7:Int)) (z6h x.6 fun Qe=>Cnd (Qe=0) (Bc x.7 (8:Int) fun Qm=>Cnd (Qm=0) (V1 (Ex.mk x.8.1 x.8.2 x.8.3 x.8.4 x.8.5) fun Z7=>K Z7) (K Qm)) (K Qe)))) (K (2:Int))) (K (6:Int))) (K (6:Int))) (K (6:Int))
def H3:H2:=q7m Jg Z2 z0h q3e q1s
abbrev Gw:Type:=List (Exper)->(Int->Prop)->Prop
def q5h(q22:H2):Gw:=fun l K=>Fits l->Cnd ((16:Int)<(↑l.length:Int)) (K (5:Int)) (Lp1 (fun Qc q1a=>Fits l->CAt l Qc (fun y3=>q22 (Exper.mk y3.1 y3.2 y3.3 y3.4 y3.5 y3.6 y3.7 (Ex.mk y3.8.1 y3.8.2 y3.8.3 y3.8.4 y3.8.5)) fun Qm=>Cnd (Qm=0) (Cnd ((0:Int)<Qc) (At l Qc fun y6=>InI (Qc - 1)/\((0:Int)<=Qc - 1/\Qc - 1<(↑l.length:Int))/\ ∀y8,l[(Qc - 1).toNat]? =some y8->Cnd (Lk.blt y8.1 y6.1) (InI (Qc+1)/\q1a (Qc+1)) (K (9:Int))) (InI (Qc+1)/\q1a (Qc+1))) (K Qm)) (K (0:Int))) (0:Int))
def Gx:Gw:=q5h H3
abbrev Gy:Type:=Envt->(Int->Prop)->Prop
def q5i(q6e:q1n)(q6f:q1p)(q6g:q1t)(z6i:z0d)(z2i:q7k)(q0b:Gw):Gy:=fun v K=>q6e (Sett.mk v.1.1 v.1.2 v.1.3) fun Qa=>Cnd (Qa=0) (q6f v.2 fun Qc=>Cnd (Qc=0) (q6g v.3 fun Qf=>Cnd (Qf=0) (z6i v.4 fun Qg=>Cnd (Qg=0) (z2i v.5 fun Qe=>Cnd (Qe=0) (q0b v.6 fun Qm=>K Qm) (K Qe)) (K Qg)) (K Qf)) (K Qc)) (K Qa)
def Gz:Gy:=q5i q1o q1q q1u z0e q7l Gx
abbrev Rw:Type:=List (Seg)->(List (ByteArray)->Prop)->Prop
def Rx:Rw:=fun l K=>Lp2 (fun Qa Qy q3a=>Fits l->CAt l Qy (fun y2=>Sml (Qa++[y2.1]).length/\InI (Qy+1)/\q3a (Qa++[y2.1]) (Qy+1)) (K Qa)) [] (0:Int)
abbrev Ry:Type:=List (ByteArray)->ByteArray->(Bool->Prop)->Prop
def U7:Ry:=fun l s K=>Lp1 (fun Qa q1b=>Fits l->CAt l Qa (fun y2=>Cnd (y2=s) (K true) (InI (Qa+1)/\q1b (Qa+1))) (K false)) (0:Int)
abbrev z0i:Type:=List (Decl)->ByteArray->ByteArray->(Int->Prop)->Prop
def q1w:z0i:=fun l kind name K=>Lp1 (fun Qa q1b=>Fits l->CAt l Qa (fun y2=>Cnd (y2.1=kind) (At l Qa fun y4=>Cnd (y4.2=name) (At l Qa fun y6=>K y6.3) (InI (Qa+1)/\q1b (Qa+1))) (InI (Qa+1)/\q1b (Qa+1))) (Cnd (name=ByteArray.mk (Array.mk [107,101,121])) (K (3:Int)) (K (0:Int)))) (0:Int)
abbrev z9y:Type:=Int->Ex->(Bool->Prop)->Prop
def q7n:z9y:=fun t e K=>Cnd (e.1=6) (K true) (Cnd (e.1=8) (Lp1 (fun Qa q1b=>Fits e.4->CAt e.4 Qa (fun y2=>Cnd (y2.1=t) (InI (Qa+1)/\q1b (Qa+1)) (K false)) (K (match decide ((t,e,()).1=5) with|true=>false|false=>true))) (0:Int)) (Fits e.4->Cnd ((↑e.4.length:Int)=0) (K false) (((0:Int)<=(0:Int)/\(0:Int)<(↑e.4.length:Int))/\ ∀y1,e.4[Int.toNat (0:Int)]? =some y1->Cnd (e.1=7) (K (decide (y1.1=t))) (Jn1 (fun Qg=>Cnd (Qg=true) (Cnd (t=3) (K (decide (y1.1=3))) (K false)) (Cnd (e.1=11) (Cnd (t=3) (K (decide (y1.1=3))) (Cnd (t=5) (K (decide (y1.1=3))) (K false))) (Cnd (t=2) (K (decide (y1.1=t))) (Cnd (t=3) (K (decide (y1.1=t))) (Cnd (t=4) (K (decide (y1.1=t))) (K false)))))) fun v8r=>Cnd (e.1=9) (v8r (decide (e.1=9))) (v8r (decide (e.1=10)))))))
abbrev G0:Type:=List (Decl)->List (ByteArray)->Ex->(Int->Prop)->Prop
def j7a(Zv:Ry)(Q1:W6)(B3:z0i)(z5i:z9y)(X:G0):G0:=fun l segments e K=>Cnd (e.1=5) (Zv segments e.3 fun Qa=>Cnd (Qa=true) (Jn0 (Lp1 (fun Qc q1a=>Fits e.5->CAt e.5 Qc (fun y3=>X l segments (Ex.mk y3.1 y3.2 y3.3 y3.4 y3.5) fun Qm=>Cnd (Qm=0) (InI (Qc+1)/\q1a (Qc+1)) (K Qm)) (K (0:Int))) (0:Int)) fun Qc=>Q1 e.1 fun Qf=>Cnd (Qf=true) (B3 l e.2 e.3 fun Qg=>Cnd (Qg=0) (K (11:Int)) (z5i Qg (Ex.mk e.1 e.2 e.3 e.4 e.5) fun Qe=>Cnd (Qe=true) Qc (K (8:Int)))) Qc) (K (11:Int))) (Jn0 (Lp1 (fun Qa q1b=>Fits e.5->CAt e.5 Qa (fun y2=>X l segments (Ex.mk y2.1 y2.2 y2.3 y2.4 y2.5) fun Qe=>Cnd (Qe=0) (InI (Qa+1)/\q1b (Qa+1)) (K Qe)) (K (0:Int))) (0:Int)) fun Qa=>Q1 e.1 fun Qc=>Cnd (Qc=true) (B3 l e.2 e.3 fun Qf=>Cnd (Qf=0) (K (11:Int)) (z5i Qf (Ex.mk e.1 e.2 e.3 e.4 e.5) fun Qg=>Cnd (Qg=true) Qa (K (8:Int)))) Qa)
def q1x:G0:=fun l segments e K=> ∀X:G0,(∀l segments e K,j7a U7 Jj q1w q7n X l segments e K->X l segments e K)->X l segments e K
abbrev q51:Type:=List (ByteArray)->ByteArray->(List (ByteArray)->Prop)->Prop
def q1y:q51:=fun l s K=>Lp1 (fun Qa q1b=>Fits l->CAt l Qa (fun y2=>Cnd (Lk.blt y2 s) (InI (Qa+1)/\q1b (Qa+1)) (Fits l->CAt l Qa (fun y5=>Cnd (y5=s) (K l) (((0:Int)<=(0:Int)/\(0:Int)<=Qa/\Qa<=(↑l.length:Int))/\Sml ([]++List.drop (Int.toNat (0:Int)) (List.take Qa.toNat l)).length/\((0:Int)<=Qa/\Qa<=(↑l.length:Int)/\(↑l.length:Int)<=(↑l.length:Int))/\Sml ([]++List.drop (Int.toNat (0:Int)) (List.take Qa.toNat l)++[s]).length/\Sml ([]++List.drop (Int.toNat (0:Int)) (List.take Qa.toNat l)++[s]++List.drop Qa.toNat (List.take (↑l.length:Int).toNat l)).length/\K ([]++List.drop (Int.toNat (0:Int)) (List.take Qa.toNat l)++[s]++List.drop Qa.toNat (List.take (↑l.length:Int).toNat l)))) (((0:Int)<=(0:Int)/\(0:Int)<=Qa/\Qa<=(↑l.length:Int))/\Sml ([]++List.drop (Int.toNat (0:Int)) (List.take Qa.toNat l)).length/\((0:Int)<=Qa/\Qa<=(↑l.length:Int)/\(↑l.length:Int)<=(↑l.length:Int))/\Sml ([]++List.drop (Int.toNat (0:Int)) (List.take Qa.toNat l)++[s]).length/\Sml ([]++List.drop (Int.toNat (0:Int)) (List.take Qa.toNat l)++[s]++List.drop Qa.toNat (List.take (↑l.length:Int).toNat l)).length/\K ([]++List.drop (Int.toNat (0:Int)) (List.take Qa.toNat l)++[s]++List.drop Qa.toNat (List.take (↑l.length:Int).toNat l))))) (Fits l->CAt l Qa (fun y3=>Cnd (y3=s) (K l) (((0:Int)<=(0:Int)/\(0:Int)<=Qa/\Qa<=(↑l.length:Int))/\Sml ([]++List.drop (Int.toNat (0:Int)) (List.take Qa.toNat l)).length/\((0:Int)<=Qa/\Qa<=(↑l.length:Int)/\(↑l.length:Int)<=(↑l.length:Int))/\Sml ([]++List.drop (Int.toNat (0:Int)) (List.take Qa.toNat l)++[s]).length/\Sml ([]++List.drop (Int.toNat (0:Int)) (List.take Qa.toNat l)++[s]++List.drop Qa.toNat (List.take (↑l.length:Int).toNat l)).length/\K ([]++List.drop (Int.toNat (0:Int)) (List.take Qa.toNat l)++[s]++List.drop Qa.toNat (List.take (↑l.length:Int).toNat l)))) (((0:Int)<=(0:Int)/\(0:Int)<=Qa/\Qa<=(↑l.length:Int))/\Sml ([]++List.drop (Int.toNat (0:Int)) (List.take Qa.toNat l)).length/\((0:Int)<=Qa/\Qa<=(↑l.length:Int)/\(↑l.length:Int)<=(↑l.length:Int))/\Sml ([]++List.drop (Int.toNat (0:Int)) (List.take Qa.toNat l)++[s]).length/\Sml ([]++List.drop (Int.toNat (0:Int)) (List.take Qa.toNat l)++[s]++List.drop Qa.toNat (List.take (↑l.length:Int).toNat l)).length/\K ([]++List.drop (Int.toNat (0:Int)) (List.take Qa.toNat l)++[s]++List.drop Qa.toNat (List.take (↑l.length:Int).toNat l))))) (0:Int)
abbrev U2:Type:=List (ByteArray)->Ex->(List (ByteArray)->Prop)->Prop
def q8n(Uf:q51)(X:U2):U2:=fun l e K=>Jn1 (fun Qa=>Lp2 (fun Qc Zy z5h=>Fits e.5->CAt e.5 Zy (fun y3=>X Qc (Ex.mk y3.1 y3.2 y3.3 y3.4 y3.5) fun Qm=>InI (Zy+1)/\z5h Qm (Zy+1)) (K Qc)) Qa (0:Int)) fun z0v=>Cnd (e.1=5) (Uf l e.3 fun Qc=>z0v Qc) (z0v l)
def q04:U2:=fun l e K=> ∀X:U2,(∀l e K,q8n q1y X l e K->X l e K)->X l e K
abbrev q4y:Type:=Ex->(List (ByteArray)->Prop)->Prop
def q8o(q84:U2):q4y:=fun e K=>q84 [] (Ex.mk e.1 e.2 e.3 e.4 e.5) fun Qa=>K Qa
def H4:q4y:=q8o q04
abbrev q3h:Type:=List (Seg)->(List (Edg)->Prop)->Prop
def z1b(q85:q4y):q3h:=fun l K=>Lp2 (fun Qa Qy q3a=>Fits l->CAt l Qy (fun y2=>q85 (Ex.mk y2.5.1 y2.5.2 y2.5.3 y2.5.4 y2.5.5) fun Qe=>Lp2 (fun Qm q8i y7w=>Fits Qe->Cnd (q8i<(↑Qe.length:Int)) (At l Qy fun y7=>At Qe q8i fun y9=>Sml (Qm++[Edg.mk y7.1 y9]).length/\InI (q8i+1)/\y7w (Qm++[Edg.mk y7.1 y9]) (q8i+1)) (InI (Qy+1)/\q3a Qm (Qy+1))) Qa (0:Int)) (K Qa)) [] (0:Int)
def H5:q3h:=z1b H4
abbrev z0j:Type:=List (Edg)->ByteArray->(List (ByteArray)->Prop)->Prop
def j2g(Zv:Ry)(Uf:q51):z0j:=fun edges node K=>Lp2 (fun Qa Qy q3a=>Fits Qy->Cnd ((0:Int)<(↑Qy.length:Int)) (((0:Int)<=(0:Int)/\(0:Int)<(↑Qy.length:Int))/\ ∀y2,Qy[Int.toNat (0:Int)]? =some y2->((0:Int)<=(1:Int)/\(1:Int)<=(↑Qy.length:Int)/\(↑Qy.length:Int)<=(↑Qy.length:Int))/\Lp3 (fun Qe Jw j1e y53=>Fits edges->CAt edges j1e (fun y6=>Cnd (y6.1=y2) (At edges j1e fun y8=>Zv Qe y8.2 fun Ho=>Cnd (Ho=true) (InI (j1e+1)/\y53 Qe Jw (j1e+1)) (At edges j1e fun y11=>Uf Qe y11.2 fun Q7=>At edges j1e fun y14=>(Sml ([]++Jw).length/\Sml ([]++Jw++[y14.2]).length/\InI (j1e+1)/\y53 Q7 ([]++Jw++[y14.2]) (j1e+1))/\Sml ([]++Jw).length/\Sml ([]++Jw++[y14.2]).length/\InI (j1e+1)/\y53 Q7 ([]++Jw++[y14.2]) (j1e+1))) (InI (j1e+1)/\y53 Qe Jw (j1e+1))) (q3a Qe Jw)) Qa (List.drop (Int.toNat (1:Int)) (List.take (↑Qy.length:Int).toNat Qy)) (0:Int)) (K Qa)) [] [node]
def z0k:z0j:=j2g U7 q1y
abbrev q7o:Type:=List (ByteArray)->List (Edg)->(List (ByteArray)->Prop)->Prop
def z7x(z6j:z0j)(Zv:Ry)(Uf:q51):q7o:=fun nodes edges K=>Lp2 (fun Qa Qy q3a=>Fits nodes->CAt nodes Qy (fun y2=>At nodes Qy fun y4=>z6j edges y2 fun Z7=>Zv Z7 y4 fun Wy=>Cnd (Wy=true) (At nodes Qy fun y8=>Uf Qa y8 fun Ho=>InI (Qy+1)/\q3a Ho (Qy+1)) (InI (Qy+1)/\q3a Qa (Qy+1))) (K Qa)) [] (0:Int)
def q7p:q7o:=z7x z0k U7 q1y
abbrev q7q:Type:=List (ByteArray)->List (Edg)->(ByteArray->Bool->Prop)->Prop
def z7y(z2j:q7o):q7q:=fun nodes edges K=>z2j nodes edges fun Qa=>Fits Qa->Cnd ((↑Qa.length:Int)=0) (K (ByteArray.mk (Array.mk [])) false) (((0:Int)<=(0:Int)/\(0:Int)<(↑Qa.length:Int))/\ ∀y2,Qa[Int.toNat (0:Int)]? =some y2->K y2 true)
def q7r:q7q:=z7y q7p
abbrev q05:Type:=Envt->ByteArray->(Int->Prop)->Prop
def q06:q05:=fun v key K=>Lp1 (fun Qa q1b=>Fits v.4->CAt v.4 Qa (fun y2=>Cnd (y2.1=key) (K Qa) (InI (Qa+1)/\q1b (Qa+1))) (K (-1:Int))) (0:Int)
abbrev z0l:Type:=List (Decl)->Srv->(Int->Prop)->Prop
def j2h(B3:z0i):z0l:=fun l v K=>Cnd (v.1=0) (B3 l v.2 v.3 fun Qa=>Cnd (Qa=0) (K (11:Int)) (Cnd (Qa=5) (K (8:Int)) (K (0:Int)))) (K (0:Int))
def z0m:z0l:=j2h q1w
abbrev H6:Type:=Envt->Flg->(Int->Prop)->Prop
def q7s(Jt:Rw)(V2:q05)(V3:G0)(z0t:z0l)(Z5:Jy):H6:=fun v f K=>Jt v.3 fun Qa=>Lp2 (fun Qc Zy z5h=>Fits f.6->CAt f.6 Qc (fun y3=>V2 (Envt.mk (Sett.mk v.1.1 v.1.2 v.1.3) v.2 v.3 v.4 v.5 v.6) y3.1 fun Qm=>Cnd (Qm<0) (K (11:Int)) (At f.6 Qc fun y6=>At v.4 Qm fun y8=>Fits y8.3->Cnd ((↑y8.3.length:Int)<y6.2) (K (3:Int)) (InI (Qc+1)/\z5h (Qc+1) Zy))) (Lp2 (fun Qg V9 j5g=>Fits f.8->CAt f.8 Qg (fun y5=>V3 v.2 V9 (Ex.mk y5.2.1 y5.2.2 y5.2.3 y5.2.4 y5.2.5) fun Wy=>Cnd (Wy=0) (At f.8 Qg fun y8=>z0t v.2 (Srv.mk y8.3.1 y8.3.2 y8.3.3 y8.3.4 y8.3.5) fun Ho=>Cnd (Ho=0) (InI (Qg+1)/\j5g (Qg+1) V9) (K Ho)) (K Wy)) (z0t v.2 (Srv.mk f.9.1 f.9.2 f.9.3 f.9.4 f.9.5) fun Qm=>Cnd (Qm=0) (Z5 f.8 fun Z7 _ y2t=>Cnd (y2t=true) (Fits Z7->Cnd ((0:Int)<(↑Z7.length:Int)) (K (13:Int)) (K (0:Int))) (K (19:Int))) (K Qm))) (0:Int) Zy)) (0:Int) Qa
def H7:H6:=q7s Rx q06 q1x z0m Jz
abbrev q37:Type:=Envt->(List (ByteArray)->Prop)->Prop
def q38:q37:=fun v K=>Lp2 (fun Qa Qy q3a=>Fits v.4->CAt v.4 Qy (fun y2=>Sml (Qa++[y2.1]).length/\InI (Qy+1)/\q3a (Qa++[y2.1]) (Qy+1)) (K Qa)) [] (0:Int)
abbrev q1z:Type:=Envt->(List (Edg)->Prop)->Prop
def H8:q1z:=fun v K=>Lp2 (fun Qa Qy q3a=>Fits v.4->Cnd (Qy<(↑v.4.length:Int)) (Lp2 (fun Qf Zn q6u=>At v.4 Qy fun y3=>Fits y3.6->Cnd (Zn<(↑y3.6.length:Int)) (At v.4 Qy fun y6=>At v.4 Qy fun y8=>At y8.6 Zn fun y10=>Sml (Qf++[Edg.mk y6.1 y10.1]).length/\InI (Zn+1)/\q6u (Qf++[Edg.mk y6.1 y10.1]) (Zn+1)) (InI (Qy+1)/\q3a Qf (Qy+1))) Qa (0:Int)) (K Qa)) [] (0:Int)
abbrev q4z:Type:=List (Spn)->List (Spn)->(List (Spn)->Prop)->Prop
def z3w(Z9:Bv)(Q4:Wh):q4z:=fun a b K=>Z9 a fun Qa=>Z9 b fun Qc=>Lp2 (fun Qf Zn q6u=>Fits Zn->CAt Zn Qf (fun y4=>Cnd (y4=true) (At Qc Qf fun y6=>At Zn Qf fun _=>InI (Qf+1)/\q6u (Qf+1) (Zn.set Qf.toNat y6)) (At Zn Qf fun _=>InI (Qf+1)/\q6u (Qf+1) (Zn.set Qf.toNat false))) (Q4 Zn fun Qe=>K Qe)) (0:Int) Qa
def q40:q4z:=z3w Hx J0
abbrev Wd:Type:=Envt->Int->(Int->Prop)->Prop
def H9(Zs:Vo)(V2:q05)(Jt:Rw)(V3:G0)(q86:q4z):Wd:=fun v i K=>At v.6 i fun y0=>Zs (Envt.mk (Sett.mk v.1.1 v.1.2 v.1.3) v.2 v.3 v.4 v.5 v.6) y0.2 fun Qf=>V2 (Envt.mk (Sett.mk v.1.1 v.1.2 v.1.3) v.2 v.3 v.4 v.5 v.6) y0.3 fun Qg=>Cnd (Qf<0) (K (11:Int)) (Cnd (Qg<0) (K (11:Int)) (Lp1 (fun Qe w4y=>Fits y0.7->CAt y0.7 Qe (fun y6=>At v.4 Qg fun y8=>Fits y8.3->Cnd ((↑y8.3.length:Int)<y6.3) (K (3:Int)) (InI (Qe+1)/\w4y (Qe+1))) (Jt v.3 fun Z7=>V3 v.2 Z7 (Ex.mk y0.8.1 y0.8.2 y0.8.3 y0.8.4 y0.8.5) fun Wy=>Cnd (Wy=0) (Cnd (y0.5=3) (K (0:Int)) (At v.5 Qf fun y8=>Lp3 (fun Ho q2v y1f y5m=>Cnd (q2v<i) (At v.6 q2v fun y11=>Cnd (y11.2=y0.2) (Cnd (y11.5=3) (InI (q2v+1)/\y5m Ho (q2v+1) y1f) (Sml (Ho++y11.6).length/\InI (q2v+1)/\y5m (Ho++y11.6) (q2v+1) y1f)) (InI (q2v+1)/\y5m Ho (q2v+1) y1f)) (q86 y0.6 Ho fun J2=>Fits J2->Cnd ((0:Int)<(↑J2.length:Int)) (K (14:Int)) (Lp4 (fun Q7 j9i y5n y5o y5p=>Cnd (Q7<i) (Cnd (y0.5=2) (At v.6 Q7 fun y14=>Cnd (y14.5=2) (Cnd (y14.3=y0.3) (Cnd (y14.2=y0.2) (InI (Q7+1)/\y5p (Q7+1) j9i y5n y5o) (K (14:Int))) (InI (Q7+1)/\y5p (Q7+1) j9i y5n y5o)) (InI (Q7+1)/\y5p (Q7+1) j9i y5n y5o)) (K (0:Int))) (K (0:Int))) (0:Int) J2 Ho y1f))) [Spn.mk (0:Int) y8.4] (0:Int) Z7)) (K Wy))) (0:Int)))
def We:Wd:=H9 Vp q06 Rx q1x q40
abbrev Uo:Type:=Envt->(ByteArray->Int->Prop)->Prop
def q3i(q0c:Gy)(Jt:Rw)(V3:G0)(q35:q3h)(q8g:q7q)(q23:H6)(q4k:q37)(q24:q1z)(V4:Wd):Uo:=fun v K=>q0c (Envt.mk (Sett.mk v.1.1 v.1.2 v.1.3) v.2 v.3 v.4 v.5 v.6) fun Qa=>Cnd (Qa=0) (Jt v.3 fun Qc=>Lp2 (fun Qf Zn q6u=>Fits v.3->CAt v.3 Qf (fun y4=>Cnd (y4.5.1=0) (InI (Qf+1)/\q6u (Qf+1) Zn) (At v.3 Qf fun y6=>V3 v.2 Zn (Ex.mk y6.5.1 y6.5.2 y6.5.3 y6.5.4 y6.5.5) fun Ua=>Cnd (Ua=0) (InI (Qf+1)/\q6u (Qf+1) Zn) (At v.3 Qf fun y9=>(↑((ByteArray.mk (Array.mk [115,101,103,109,101,110,116,32])).size+y9.1.size):Int)<=(9223372036854775807:Int)/\K (ByteArray.mk (Array.mk [115,101,103,109,101,110,116,32])++y9.1) Ua))) (q35 v.3 fun Qe=>q8g Zn Qe fun Qm q8i=>Cnd (q8i=true) ((↑((ByteArray.mk (Array.mk [115,101,103,109,101,110,116,32])).size+Qm.size):Int)<=(9223372036854775807:Int)/\K (ByteArray.mk (Array.mk [115,101,103,109,101,110,116,32])++Qm) (12:Int)) (Lp3 (fun Z7 z87 y2t y98=>Fits v.4->CAt v.4 Z7 (fun y8=>q23 (Envt.mk (Sett.mk v.1.1 v.1.2 v.1.3) v.2 v.3 v.4 v.5 v.6) (Flg.mk y8.1 y8.2 y8.3 y8.4 y8.5 y8.6 y8.7 y8.8 (Srv.mk y8.9.1 y8.9.2 y8.9.3 y8.9.4 y8.9.5)) fun Ho=>Cnd (Ho=0) (InI (Z7+1)/\y98 (Z7+1) z87 y2t) (At v.4 Z7 fun y11=>(↑((ByteArray.mk (Array.mk [102,108,97,103,32])).size+y11.1.size):Int)<=(9223372036854775807:Int)/\K (ByteArray.mk (Array.mk [102,108,97,103,32])++y11.1) Ho)) (q4k (Envt.mk (Sett.mk v.1.1 v.1.2 v.1.3) v.2 v.3 v.4 v.5 v.6) fun Ua=>q24 (Envt.mk (Sett.mk v.1.1 v.1.2 v.1.3) v.2 v.3 v.4 v.5 v.6) fun Qq=>q8g Ua Qq fun Ho q2v=>Cnd (q2v=true) ((↑((ByteArray.mk (Array.mk [102,108,97,103,32])).size+Ho.size):Int)<=(9223372036854775807:Int)/\K (ByteArray.mk (Array.mk [102,108,97,103,32])++Ho) (12:Int)) (Lp5 (fun J2 j9h y9c y9d y9e y9f=>Fits v.6->Cnd (J2<(↑v.6.length:Int)) (V4 (Envt.mk (Sett.mk v.1.1 v.1.2 v.1.3) v.2 v.3 v.4 v.5 v.6) J2 fun Q7=>Cnd (Q7=0) (InI (J2+1)/\y9f (J2+1) j9h y9c y9d y9e) (At v.6 J2 fun y14=>(↑((ByteArray.mk (Array.mk [101,120,112,101,114,105,109,101,110,116,32])).size+y14.1.size):Int)<=(9223372036854775807:Int)/\K (ByteArray.mk (Array.mk [101,120,112,101,114,105,109,101,110,116,32])++y14.1) Q7)) (K (ByteArray.mk (Array.mk [])) (0:Int))) (0:Int) Ua Qq y2t z87))) (0:Int) Zn Qe))) (0:Int) Qc) (K (ByteArray.mk (Array.mk [])) Qa)
def Up:Uo:=q3i Gz Rx q1x H5 q7r H7 q38 H8 We
abbrev q0j:Type:=Envt->(Bool->Prop)->Prop
def z7z(Be:Uo):q0j:=fun v K=>Be (Envt.mk (Sett.mk v.1.1 v.1.2 v.1.3) v.2 v.3 v.4 v.5 v.6) fun _ Qy=>K (decide (Qy=0))
def V8:q0j:=z7z Up
abbrev Ra:Type:=List (Int)->Int->Int->(Envt->Int->Prop)->Prop
def q7t(Q2:Wu)(q87:q4r)(Qb:Zg)(q2w:z5v)(Je:q1j)(q4f:z04)(z5j:z3g)(Rp:q1k)(q4g:q36)(Z5:Jy)(j1n:z3k)(Wf:q1h)(q2x:q63)(z6k:q98)(Wp:q5y)(Gk:q0h)(z2k:q7e)(Wj:q0j):Ra:=fun list at_ now K=>Q2 fun Qa=>Jn1 (fun (Qc:ByteArray×ByteArray×Int×Int×List Decl×Unit)=>q87 list Qc.2.2.2.1 Qc.1 Qc.2.1 Qc.2.2.1 Qc.2.2.2.2.1 [] [] [] [] fun Qf Zn w4x j9k v8z y99 u0a u0b u0c=>Qb list Qf (5:Int) fun Qg V9=>q2w Qg [ByteArray.mk (Array.mk [102,97]),ByteArray.mk (Array.mk [102,98]),ByteArray.mk (Array.mk [102,99]),ByteArray.mk (Array.mk [102,100])] fun Qe=>LpH (fun (Qm:Int×Int×List Flg×List Seg×List Lay_×List Exper×Unit) j56=>Fits Qe->CAt Qe Qm.1 (fun y7=>Qb list Qm.2.1 (5:Int) fun Qq z86=>InI ((1:Int)+Qq)/\Qb list z86 (6:Int) fun Ho q2v=>Qb list q2v (4:Int) fun J2 j9h=>InI ((1:Int)+J2)/\LpH (fun (U1:Int×Int×List Val×List Exper×List Lay_×List Flg×List Seg×Unit) (y9g:Int×Int×List Val×List Exper×List Lay_×List Flg×List Seg×Unit->Prop)=>Cnd (U1.1<1+J2) (Je list U1.2.1 ((1:Int)+Qq) fun Q7 j9i=>Sml (U1.2.2.1++[Q7]).length/\InI (U1.1+1)/\y9g (U1.1+1,j9i,U1.2.2.1++[Q7],U1.2.2.2.1,U1.2.2.2.2.1,U1.2.2.2.2.2.1,U1.2.2.2.2.2.2.1,())) (Qb list U1.2.1 ((1:Int)+J2) fun Q7 j9i=>InI ((1:Int)+Q7)/\LpH (fun (J3:Int×List Prq×Int×List Seg×List Flg×List Lay_×List Exper×List Val×Unit) (v8s:Int×List Prq×Int×List Seg×List Flg×List Lay_×List Exper×List Val×Unit->Prop)=>Fits J3.2.2.2.2.1->Cnd (J3.1<(↑J3.2.2.2.2.1.length:Int)) (Qb list J3.2.2.1 (4:Int) fun Ha v8t=>Cnd (Ha=1) (At J3.2.2.2.2.1 J3.1 fun y17=>At J3.2.2.2.2.1 J3.1 fun y19=>Fits y19.3->Qb list v8t (↑y19.3.length:Int) fun y5q y9h=>InI ((1:Int)+y5q)/\Sml (J3.2.1++[Prq.mk y17.1 ((1:Int)+y5q)]).length/\InI (J3.1+1)/\v8s (J3.1+1,J3.2.1++[Prq.mk y17.1 ((1:Int)+y5q)],y9h,J3.2.2.2.1,J3.2.2.2.2.1,J3.2.2.2.2.2.1,J3.2.2.2.2.2.2.1,J3.2.2.2.2.2.2.2.1,())) (InI (J3.1+1)/\v8s (J3.1+1,J3.2.1,v8t,J3.2.2.2.1,J3.2.2.2.2.1,J3.2.2.2.2.2.1,J3.2.2.2.2.2.2.1,J3.2.2.2.2.2.2.2.1,()))) (LpH (fun (Ha:Int×List Tgt×Int×List Val×List Exper×List Lay_×List Flg×List Seg×List Prq×Unit) (y7x:Int×List Tgt×Int×List Val×List Exper×List Lay_×List Flg×List Seg×List Prq×Unit->Prop)=>Qb list Ha.2.2.1 (3:Int) fun v8u y7y=>Cnd (Ha.1<v8u) (Qb list y7y ((1:Int)+J2) fun z0u y9i=>InI ((1:Int)+z0u)/\q4f list y9i fun Zz v8v=>Jn1 (fun (q0z:ByteArray×Int×List ByteArray×List Prq×List Seg×List Flg×List Lay_×List Exper×List Val×List Tgt×Unit)=>Fits q0z.2.2.1->Cnd ((0:Int)<(↑q0z.2.2.1.length:Int)) (Sml (q0z.2.2.2.2.2.2.2.2.2.1++[Tgt.mk q0z.1 ((1:Int)+z0u) q0z.2.2.1]).length/\InI (Ha.1+1)/\y7x (Ha.1+1,q0z.2.2.2.2.2.2.2.2.2.1++[Tgt.mk q0z.1 ((1:Int)+z0u) q0z.2.2.1],q0z.2.1,q0z.2.2.2.2.2.2.2.2.1,q0z.2.2.2.2.2.2.2.1,q0z.2.2.2.2.2.2.1,q0z.2.2.2.2.2.1,q0z.2.2.2.2.1,q0z.2.2.2.1,())) (InI (Ha.1+1)/\y7x (Ha.1+1,q0z.2.2.2.2.2.2.2.2.2.1,q0z.2.1,q0z.2.2.2.2.2.2.2.2.1,q0z.2.2.2.2.2.2.2.1,q0z.2.2.2.2.2.2.1,q0z.2.2.2.2.2.1,q0z.2.2.2.2.1,q0z.2.2.2.1,()))) fun (y7z:ByteArray×Int×List ByteArray×List Prq×List Seg×List Flg×List Lay_×List Exper×List Val×List Tgt×Unit->Prop)=>Qb list v8v (4:Int) fun y9j y70=>Cnd (y9j=1) (y7z (ByteArray.mk (Array.mk [100,101,118,105,99,101]),y70,Zz,Ha.2.2.2.2.2.2.2.2.1,Ha.2.2.2.2.2.2.2.1,Ha.2.2.2.2.2.2.1,Ha.2.2.2.2.2.1,Ha.2.2.2.2.1,Ha.2.2.2.1,Ha.2.1,())) (y7z (ByteArray.mk (Array.mk [117,115,101,114]),y70,Zz,Ha.2.2.2.2.2.2.2.2.1,Ha.2.2.2.2.2.2.2.1,Ha.2.2.2.2.2.2.1,Ha.2.2.2.2.2.1,Ha.2.2.2.2.1,Ha.2.2.2.1,Ha.2.1,()))) (Jn1 (fun (z0u:Int×List Rul×List ByteArray×List Prq×List Seg×List Flg×List Lay_×List Exper×List Val×List Tgt×Unit)=>z5j list z0u.1 ((1:Int)+J2) fun Zz v8v=>Sml (z0u.2.2.2.2.2.1++[Flg.mk y7 ((1:Int)+Qq) z0u.2.2.2.2.2.2.2.2.1 (decide (Ho<5)) ((1:Int)+Q7) z0u.2.2.2.1 z0u.2.2.2.2.2.2.2.2.2.1 z0u.2.1 Zz]).length/\InI (Qm.1+1)/\j56 (Qm.1+1,v8v,z0u.2.2.2.2.2.1++[Flg.mk y7 ((1:Int)+Qq) z0u.2.2.2.2.2.2.2.2.1 (decide (Ho<5)) ((1:Int)+Q7) z0u.2.2.2.1 z0u.2.2.2.2.2.2.2.2.2.1 z0u.2.1 Zz],z0u.2.2.2.2.1,z0u.2.2.2.2.2.2.1,z0u.2.2.2.2.2.2.2.1,())) fun (y5r:Int×List Rul×List ByteArray×List Prq×List Seg×List Flg×List Lay_×List Exper×List Val×List Tgt×Unit->Prop)=>LpH (fun (Zz:Int×Int×List Rul×List ByteArray×List Prq×List Seg×List Flg×List Lay_×List Exper×List Val×List Tgt×Unit) (y9k:Int×Int×List Rul×List ByteArray×List Prq×List Seg×List Flg×List Lay_×List Exper×List Val×List Tgt×Unit->Prop)=>Qb list Zz.2.1 (5:Int) fun q0z v4a=>Cnd (Zz.1<q0z) (At Zz.2.2.2.1 Zz.1 fun y21=>Rp (Envt.mk (Sett.mk Zn w4x j9k) v8z Zz.2.2.2.2.2.1 Zz.2.2.2.2.2.2.1 Zz.2.2.2.2.2.2.2.1 Zz.2.2.2.2.2.2.2.2.1) fun y9l=>q4g list v4a y9l (3:Int) fun Zf y9m=>z5j list y9m ((1:Int)+J2) fun z2l v8w=>Sml (Zz.2.2.1++[Rul.mk y21 (Ex.mk Zf.1 Zf.2 Zf.3 Zf.4 Zf.5) z2l]).length/\Z5 (Zz.2.2.1++[Rul.mk y21 (Ex.mk Zf.1 Zf.2 Zf.3 Zf.4 Zf.5) z2l]) fun y71 _ y9n=>Cnd (y9n=true) (Fits y71->Cnd ((0:Int)<(↑y71.length:Int)) ((Zz.2.2.1++[Rul.mk y21 (Ex.mk Zf.1 Zf.2 Zf.3 Zf.4 Zf.5) z2l]).length<=(9223372036854775807:Nat)->InI ((↑(Zz.2.2.1++[Rul.mk y21 (Ex.mk Zf.1 Zf.2 Zf.3 Zf.4 Zf.5) z2l]).length:Int) - 1)/\((0:Int)<=(↑(Zz.2.2.1++[Rul.mk y21 (Ex.mk Zf.1 Zf.2 Zf.3 Zf.4 Zf.5) z2l]).length:Int) - 1/\(↑(Zz.2.2.1++[Rul.mk y21 (Ex.mk Zf.1 Zf.2 Zf.3 Zf.4 Zf.5) z2l]).length:Int) - 1<=(↑(Zz.2.2.1++[Rul.mk y21 (Ex.mk Zf.1 Zf.2 Zf.3 Zf.4 Zf.5) z2l]).length:Int))/\y5r (v8w,List.take ((↑(Zz.2.2.1++[Rul.mk y21 (Ex.mk Zf.1 Zf.2 Zf.3 Zf.4 Zf.5) z2l]).length:Int) - 1).toNat (Zz.2.2.1++[Rul.mk y21 (Ex.mk Zf.1 Zf.2 Zf.3 Zf.4 Zf.5) z2l]),Zz.2.2.2.1,Zz.2.2.2.2.1,Zz.2.2.2.2.2.1,Zz.2.2.2.2.2.2.1,Zz.2.2.2.2.2.2.2.1,Zz.2.2.2.2.2.2.2.2.1,Zz.2.2.2.2.2.2.2.2.2.1,Zz.2.2.2.2.2.2.2.2.2.2.1,())) (InI (Zz.1+1)/\y9k (Zz.1+1,v8w,Zz.2.2.1++[Rul.mk y21 (Ex.mk Zf.1 Zf.2 Zf.3 Zf.4 Zf.5) z2l],Zz.2.2.2.1,Zz.2.2.2.2.1,Zz.2.2.2.2.2.1,Zz.2.2.2.2.2.2.1,Zz.2.2.2.2.2.2.2.1,Zz.2.2.2.2.2.2.2.2.1,Zz.2.2.2.2.2.2.2.2.2.1,Zz.2.2.2.2.2.2.2.2.2.2.1,()))) ((Zz.2.2.1++[Rul.mk y21 (Ex.mk Zf.1 Zf.2 Zf.3 Zf.4 Zf.5) z2l]).length<=(9223372036854775807:Nat)->InI ((↑(Zz.2.2.1++[Rul.mk y21 (Ex.mk Zf.1 Zf.2 Zf.3 Zf.4 Zf.5) z2l]).length:Int) - 1)/\((0:Int)<=(↑(Zz.2.2.1++[Rul.mk y21 (Ex.mk Zf.1 Zf.2 Zf.3 Zf.4 Zf.5) z2l]).length:Int) - 1/\(↑(Zz.2.2.1++[Rul.mk y21 (Ex.mk Zf.1 Zf.2 Zf.3 Zf.4 Zf.5) z2l]).length:Int) - 1<=(↑(Zz.2.2.1++[Rul.mk y21 (Ex.mk Zf.1 Zf.2 Zf.3 Zf.4 Zf.5) z2l]).length:Int))/\y5r (v8w,List.take ((↑(Zz.2.2.1++[Rul.mk y21 (Ex.mk Zf.1 Zf.2 Zf.3 Zf.4 Zf.5) z2l]).length:Int) - 1).toNat (Zz.2.2.1++[Rul.mk y21 (Ex.mk Zf.1 Zf.2 Zf.3 Zf.4 Zf.5) z2l]),Zz.2.2.2.1,Zz.2.2.2.2.1,Zz.2.2.2.2.2.1,Zz.2.2.2.2.2.2.1,Zz.2.2.2.2.2.2.2.1,Zz.2.2.2.2.2.2.2.2.1,Zz.2.2.2.2.2.2.2.2.2.1,Zz.2.2.2.2.2.2.2.2.2.2.1,()))) (y5r (v4a,Zz.2.2.1,Zz.2.2.2.1,Zz.2.2.2.2.1,Zz.2.2.2.2.2.1,Zz.2.2.2.2.2.2.1,Zz.2.2.2.2.2.2.2.1,Zz.2.2.2.2.2.2.2.2.1,Zz.2.2.2.2.2.2.2.2.2.1,Zz.2.2.2.2.2.2.2.2.2.2.1,()))) ((0:Int),y7y,[],[ByteArray.mk (Array.mk [102,105,114,115,116]),ByteArray.mk (Array.mk [115,101,99,111,110,100]),ByteArray.mk (Array.mk [116,104,105,114,100]),ByteArray.mk (Array.mk [102,111,117,114,116,104])],Ha.2.2.2.2.2.2.2.2.1,Ha.2.2.2.2.2.2.2.1,Ha.2.2.2.2.2.2.1,Ha.2.2.2.2.2.1,Ha.2.2.2.2.1,Ha.2.2.2.1,Ha.2.1,()))) ((0:Int),[],J3.2.2.1,J3.2.2.2.2.2.2.2.1,J3.2.2.2.2.2.2.1,J3.2.2.2.2.2.1,J3.2.2.2.2.1,J3.2.2.2.1,J3.2.1,()))) ((0:Int),[],j9i,U1.2.2.2.2.2.2.1,U1.2.2.2.2.2.1,U1.2.2.2.2.1,U1.2.2.2.1,U1.2.2.1,()))) ((0:Int),j9h,[],Qm.2.2.2.2.2.1,Qm.2.2.2.2.1,Qm.2.2.1,Qm.2.2.2.1,())) (Qb list Qm.2.1 (3:Int) fun Wy z6s=>q2w Wy [ByteArray.mk (Array.mk [108,97]),ByteArray.mk (Array.mk [108,98])] fun Ua=>LpH (fun (Qq:Int×Int×List Lay_×List Exper×List Seg×List Flg×Unit) (y7u:Int×Int×List Lay_×List Exper×List Seg×List Flg×Unit->Prop)=>Fits Ua->CAt Ua Qq.1 (fun y11=>j1n list Qq.2.1 y11 fun Q7 j9i=>Sml (Qq.2.2.1++[Q7]).length/\InI (Qq.1+1)/\y7u (Qq.1+1,j9i,Qq.2.2.1++[Q7],Qq.2.2.2.1,Qq.2.2.2.2.1,Qq.2.2.2.2.2.1,())) (Qb list Qq.2.1 (4:Int) fun J2 j9h=>q2w J2 [ByteArray.mk (Array.mk [120,97]),ByteArray.mk (Array.mk [120,98]),ByteArray.mk (Array.mk [120,99])] fun U1=>LpH (fun (Q7:Int×Int×List Exper×List Flg×List Seg×List Lay_×Unit) (y72:Int×Int×List Exper×List Flg×List Seg×List Lay_×Unit->Prop)=>Fits U1->Cnd (Q7.1<(↑U1.length:Int)) (Fits Q7.2.2.2.1->Cnd ((0:Int)<(↑Q7.2.2.2.1.length:Int)) (Fits Q7.2.2.2.2.2.1->Cnd ((0:Int)<(↑Q7.2.2.2.2.2.1.length:Int)) (At U1 Q7.1 fun y17=>Fits Q7.2.2.2.1->Qb list Q7.2.1 (↑Q7.2.2.2.1.length:Int) fun q0z v4a=>At Q7.2.2.2.1 q0z fun y21=>Fits Q7.2.2.2.2.2.1->Fits y21.3->Qb list v4a (↑Q7.2.2.2.2.2.1.length:Int) fun z2l v8w=>At Q7.2.2.2.2.2.1 z2l fun y26=>Wf list v8w fun w0i y9o=>Qb list y9o (3:Int) fun y1g y9p=>InI ((1:Int)+y1g)/\q2x list y9p (↑y21.3.length:Int) fun y5s y73=>Jn1 (fun (q5r:Int×Int×List Rng×List Exper×List Lay_×List Flg×List Seg×Unit)=>Jn1 (fun (Ze:Int×ByteArray×ByteArray×List Val×List Ex×Int×List Seg×List Flg×List Lay_×List Exper×List Rng×Unit)=>z6k (Envt.mk (Sett.mk Zn w4x j9k) v8z Ze.2.2.2.2.2.2.1 Ze.2.2.2.2.2.2.2.1 Ze.2.2.2.2.2.2.2.2.1 Ze.2.2.2.2.2.2.2.2.2.1) y26.1 now fun (y5t:List Spn) (_:Int)=>Wp list Ze.2.2.2.2.2.1 (8000:Int) fun (y5u y9q:Int)=>Wp list y9q (8000:Int) fun (v0d y5v:Int)=>Gk y5t [Spn.mk y5u v0d] fun (y9r:List Spn)=>Wp list y5v (7000:Int) fun (y9s y74:Int)=>z2k y9r y9s fun (w0j:List Spn)=>Sml (Ze.2.2.2.2.2.2.2.2.2.1++[Exper.mk y17 y26.1 y21.1 w0i q5r.1 w0j Ze.2.2.2.2.2.2.2.2.2.2.1 (Ex.mk Ze.1 Ze.2.1 Ze.2.2.1 Ze.2.2.2.1 Ze.2.2.2.2.1)]).length/\Wj (Envt.mk (Sett.mk Zn w4x j9k) v8z Ze.2.2.2.2.2.2.1 Ze.2.2.2.2.2.2.2.1 Ze.2.2.2.2.2.2.2.2.1 (Ze.2.2.2.2.2.2.2.2.2.1++[Exper.mk y17 y26.1 y21.1 w0i q5r.1 w0j Ze.2.2.2.2.2.2.2.2.2.2.1 (Ex.mk Ze.1 Ze.2.1 Ze.2.2.1 Ze.2.2.2.1 Ze.2.2.2.2.1)])) fun (y9t:Bool)=>Cnd (y9t=true) (InI (Q7.1+1)/\y72 (Q7.1+1,y74,Ze.2.2.2.2.2.2.2.2.2.1++[Exper.mk y17 y26.1 y21.1 w0i q5r.1 w0j Ze.2.2.2.2.2.2.2.2.2.2.1 (Ex.mk Ze.1 Ze.2.1 Ze.2.2.1 Ze.2.2.2.1 Ze.2.2.2.2.1)],Ze.2.2.2.2.2.2.2.1,Ze.2.2.2.2.2.2.1,Ze.2.2.2.2.2.2.2.2.1,())) ((Ze.2.2.2.2.2.2.2.2.2.1++[Exper.mk y17 y26.1 y21.1 w0i q5r.1 w0j Ze.2.2.2.2.2.2.2.2.2.2.1 (Ex.mk Ze.1 Ze.2.1 Ze.2.2.1 Ze.2.2.2.1 Ze.2.2.2.2.1)]).length<=(9223372036854775807:Nat)->InI ((↑(Ze.2.2.2.2.2.2.2.2.2.1++[Exper.mk y17 y26.1 y21.1 w0i q5r.1 w0j Ze.2.2.2.2.2.2.2.2.2.2.1 (Ex.mk Ze.1 Ze.2.1 Ze.2.2.1 Ze.2.2.2.1 Ze.2.2.2.2.1)]).length:Int) - 1)/\((0:Int)<=(↑(Ze.2.2.2.2.2.2.2.2.2.1++[Exper.mk y17 y26.1 y21.1 w0i q5r.1 w0j Ze.2.2.2.2.2.2.2.2.2.2.1 (Ex.mk Ze.1 Ze.2.1 Ze.2.2.1 Ze.2.2.2.1 Ze.2.2.2.2.1)]).length:Int) - 1/\(↑(Ze.2.2.2.2.2.2.2.2.2.1++[Exper.mk y17 y26.1 y21.1 w0i q5r.1 w0j Ze.2.2.2.2.2.2.2.2.2.2.1 (Ex.mk Ze.1 Ze.2.1 Ze.2.2.1 Ze.2.2.2.1 Ze.2.2.2.2.1)]).length:Int) - 1<=(↑(Ze.2.2.2.2.2.2.2.2.2.1++[Exper.mk y17 y26.1 y21.1 w0i q5r.1 w0j Ze.2.2.2.2.2.2.2.2.2.2.1 (Ex.mk Ze.1 Ze.2.1 Ze.2.2.1 Ze.2.2.2.1 Ze.2.2.2.2.1)]).length:Int))/\InI (Q7.1+1)/\y72 (Q7.1+1,y74,List.take ((↑(Ze.2.2.2.2.2.2.2.2.2.1++[Exper.mk y17 y26.1 y21.1 w0i q5r.1 w0j Ze.2.2.2.2.2.2.2.2.2.2.1 (Ex.mk Ze.1 Ze.2.1 Ze.2.2.1 Ze.2.2.2.1 Ze.2.2.2.2.1)]).length:Int) - 1).toNat (Ze.2.2.2.2.2.2.2.2.2.1++[Exper.mk y17 y26.1 y21.1 w0i q5r.1 w0j Ze.2.2.2.2.2.2.2.2.2.2.1 (Ex.mk Ze.1 Ze.2.1 Ze.2.2.1 Ze.2.2.2.1 Ze.2.2.2.2.1)]),Ze.2.2.2.2.2.2.2.1,Ze.2.2.2.2.2.2.1,Ze.2.2.2.2.2.2.2.2.1,()))) fun (y75:Int×ByteArray×ByteArray×List Val×List Ex×Int×List Seg×List Flg×List Lay_×List Exper×List Rng×Unit->Prop)=>Qb list q5r.2.1 (2:Int) fun (y5t y76:Int)=>Cnd (y5t=1) (Rp (Envt.mk (Sett.mk Zn w4x j9k) v8z q5r.2.2.2.2.2.2.1 q5r.2.2.2.2.2.1 q5r.2.2.2.2.1 q5r.2.2.2.1) fun (y5u:List ByteArray)=>q4g list y76 y5u (2:Int) fun (v0d:Ex) (y5v:Int)=>y75 (v0d.1,v0d.2,v0d.3,v0d.4,v0d.5,y5v,q5r.2.2.2.2.2.2.1,q5r.2.2.2.2.2.1,q5r.2.2.2.2.1,q5r.2.2.2.1,q5r.2.2.1,())) (y75 ((1:Int),ByteArray.mk (Array.mk []),ByteArray.mk (Array.mk []),[],[],y76,q5r.2.2.2.2.2.2.1,q5r.2.2.2.2.2.1,q5r.2.2.2.2.1,q5r.2.2.2.1,q5r.2.2.1,()))) fun (y5w:Int×Int×List Rng×List Exper×List Lay_×List Flg×List Seg×Unit->Prop)=>Cnd ((1:Int)+y1g=1) (Qb list y73 (2:Int) fun Ze y77=>Cnd (Ze=0) (y5w ((2:Int),y77,y5s,Q7.2.2.1,Q7.2.2.2.2.2.1,Q7.2.2.2.1,Q7.2.2.2.2.1,())) (y5w ((1:Int)+y1g,y77,y5s,Q7.2.2.1,Q7.2.2.2.2.2.1,Q7.2.2.2.1,Q7.2.2.2.2.1,()))) (y5w ((1:Int)+y1g,y73,y5s,Q7.2.2.1,Q7.2.2.2.2.2.1,Q7.2.2.2.1,Q7.2.2.2.2.1,()))) (Wj (Envt.mk (Sett.mk Zn w4x j9k) v8z Q7.2.2.2.2.1 Q7.2.2.2.1 Q7.2.2.2.2.2.1 Q7.2.2.1) fun v8u=>Cnd (v8u=true) (K (Envt.mk (Sett.mk Zn w4x j9k) v8z Q7.2.2.2.2.1 Q7.2.2.2.1 Q7.2.2.2.2.2.1 Q7.2.2.1) Q7.2.1) (Q2 fun z0u=>K (Envt.mk (Sett.mk (ByteArray.mk (Array.mk [])) (ByteArray.mk (Array.mk [])) (0:Int)) z0u [] [] [] []) Q7.2.1))) (Wj (Envt.mk (Sett.mk Zn w4x j9k) v8z Q7.2.2.2.2.1 Q7.2.2.2.1 Q7.2.2.2.2.2.1 Q7.2.2.1) fun Ha=>Cnd (Ha=true) (K (Envt.mk (Sett.mk Zn w4x j9k) v8z Q7.2.2.2.2.1 Q7.2.2.2.1 Q7.2.2.2.2.2.1 Q7.2.2.1) Q7.2.1) (Q2 fun v8u=>K (Envt.mk (Sett.mk (ByteArray.mk (Array.mk [])) (ByteArray.mk (Array.mk [])) (0:Int)) v8u [] [] [] []) Q7.2.1))) (Wj (Envt.mk (Sett.mk Zn w4x j9k) v8z Q7.2.2.2.2.1 Q7.2.2.2.1 Q7.2.2.2.2.2.1 Q7.2.2.1) fun j1l=>Cnd (j1l=true) (K (Envt.mk (Sett.mk Zn w4x j9k) v8z Q7.2.2.2.2.1 Q7.2.2.2.1 Q7.2.2.2.2.2.1 Q7.2.2.1) Q7.2.1) (Q2 fun Ha=>K (Envt.mk (Sett.mk (ByteArray.mk (Array.mk [])) (ByteArray.mk (Array.mk [])) (0:Int)) Ha [] [] [] []) Q7.2.1))) ((0:Int),j9h,Qq.2.2.2.1,Qq.2.2.2.2.2.1,Qq.2.2.2.2.1,Qq.2.2.1,()))) ((0:Int),z6s,Qm.2.2.2.2.1,Qm.2.2.2.2.2.1,Qm.2.2.2.1,Qm.2.2.1,()))) ((0:Int),V9,u0a,y99,u0b,u0c,())) fun w1p=>Qb list at_ (2:Int) fun Qf Zn=>Cnd (Qf=1) (Wf list Zn fun Qg V9=>Wp list V9 (2500:Int) fun Qe Jw=>w1p (Qg,ByteArray.mk (Array.mk [117,115,101,114]),Qe,Jw,Qa,())) (w1p (ByteArray.mk (Array.mk []),ByteArray.mk (Array.mk []),(0:Int),Zn,Qa,()))
def Rb:Ra:=q7t Ju q4s Zc z5w Ui z05 z3h Hq z06 Jz z3l q1i q64 q99 q5z q0i q7f V8
abbrev q39:Type:=(Envt->Prop)->Prop
def q4a:q39:=fun K=>K (Envt.mk (Sett.mk (ByteArray.mk (Array.mk [])) (ByteArray.mk (Array.mk [])) (0:Int)) [] [] [Flg.mk (ByteArray.mk (Array.mk [102])) (1:Int) [Val.mk (1:Int) (0:Int) (ByteArray.mk (Array.mk [])) [],Val.mk (1:Int) (1:Int) (ByteArray.mk (Array.mk [])) []] true (1:Int) [] [] [] (Srv.mk (1:Int) (ByteArray.mk (Array.mk [])) (ByteArray.mk (Array.mk [])) (ByteArray.mk (Array.mk [])) [])] [Lay_.mk (ByteArray.mk (Array.mk [108])) (ByteArray.mk (Array.mk [117,115,101,114])) (ByteArray.mk (Array.mk [])) (0:Int) (0:Int) []] [Exper.mk (ByteArray.mk (Array.mk [120])) (ByteArray.mk (Array.mk [108])) (ByteArray.mk (Array.mk [102])) (ByteArray.mk (Array.mk [])) (2:Int) [Spn.mk (0:Int) (10000:Int)] [Rng.mk (0:Int) (10000:Int) (2:Int)] (Ex.mk (1:Int) (ByteArray.mk (Array.mk [])) (ByteArray.mk (Array.mk [])) [] [])])
abbrev Uq:Type:=Subj->ByteArray->(Int->Prop)->Prop
def W8:Uq:=fun s kind K=>Fits s.1->Lp1 (fun Qc q1a=>CAt s.1 Qc (fun y2=>Cnd (y2.1=kind) (K Qc) (InI (Qc+1)/\q1a (Qc+1))) (K (-1:Int))) (0:Int)
abbrev Vt:Type:=Val->(Val->Prop)->Prop
def J5:Vt:=fun v K=> ∀n0,(n0=true->v.4=[])->Cnd (n0=true) (K (Val.mk v.1 v.2 v.3 [])) (Sml ([]++v.4).length/\K (Val.mk v.1 v.2 v.3 ([]++v.4)))
abbrev Ur:Type:=Attr->(Attr->Prop)->Prop
def q3j(Zu:Vt):Ur:=fun a K=>Zu (Val.mk a.2.1 a.2.2 a.2.3 a.2.4) fun Qa=>K (Attr.mk a.1 Qa)
def Us:Ur:=q3j J5
abbrev Rd:Type:=Ctxt->(Ctxt->Prop)->Prop
def q7u(Bf:Ur):Rd:=fun c K=>Fits c.3->((0:Int)<=(0:Int)/\(0:Int)<=(↑c.3.length:Int)/\Sml (↑c.3.length:Int).toNat)/\(Fits c.3->Lp2 (fun Qf Zn q6u=>CAt c.3 Zn (fun y3=>Bf (Attr.mk y3.1 (Val.mk y3.2.1 y3.2.2 y3.2.3 y3.2.4)) fun Qm=>Sml (Qf++[Attr.mk Qm.1 (Val.mk Qm.2.1 Qm.2.2 Qm.2.3 Qm.2.4)]).length/\InI (Zn+1)/\q6u (Qf++[Attr.mk Qm.1 (Val.mk Qm.2.1 Qm.2.2 Qm.2.3 Qm.2.4)]) (Zn+1)) (K (Ctxt.mk c.1 c.2 Qf))) (List.replicate (Int.toNat (0:Int)) (Attr.mk (ByteArray.mk (Array.mk [])) (Val.mk (0:Int) (0:Int) (ByteArray.mk (Array.mk [])) []))) (0:Int))
def Re:Rd:=q7u Us
abbrev J6:Type:=Subj->ByteArray->(Ctxt->Bool->Prop)->Prop
def q9g(Js:Uq)(q25:Rd):J6:=fun s kind K=>Js (Subj.mk s.1) kind fun Qa=>Cnd (Qa<0) (K (Ctxt.mk (ByteArray.mk (Array.mk [])) (ByteArray.mk (Array.mk [])) []) false) (At s.1 Qa fun y1=>q25 y1 fun Qg=>K Qg true)
def J7:J6:=q9g W8 Re
abbrev q4b:Type:=List (List Int)->(List (Int)->Prop)->Prop
def Bw:q4b:=fun fields K=>Fits fields->Lp2 (fun Qc Zy z5h=>CAt fields Zy (fun y2=>Lp2 (fun Qe Jw w7t=>Cnd ((0:Int)<=Jw) (Fits y2->InI ((8:Int)*Jw)/\(0:Int)<=(8:Int)*Jw/\Sml (Qe++[Go.IntKind.u8.wrap ((Go.IntKind.u64.wrap (↑y2.length:Int)).fdiv ((2:Int) ^ Min.min ((8:Int)*Jw).toNat (64:Nat)))]).length/\InI (Jw - 1)/\w7t (Qe++[Go.IntKind.u8.wrap ((Go.IntKind.u64.wrap (↑y2.length:Int)).fdiv ((2:Int) ^ Min.min ((8:Int)*Jw).toNat (64:Nat)))]) (Jw - 1)) (Sml (Qe++y2).length/\InI (Zy+1)/\z5h (Qe++y2) (Zy+1))) Qc (7:Int)) (K Qc)) [] (0:Int)
abbrev U8:Type:=Int->Int->(Int->Prop)->Prop
def W9:U8:=fun x k K=>(0:Int)<=Go.IntKind.u64.wrap (↑(BitVec.ofInt (64:Nat) (Go.IntKind.u64.wrap k) &&& BitVec.ofInt (64:Nat) (63:Int)).toNat:Int)/\(0:Int)<=Go.IntKind.u64.wrap ((64:Int) - Go.IntKind.u64.wrap (↑(BitVec.ofInt (64:Nat) (Go.IntKind.u64.wrap k) &&& BitVec.ofInt (64:Nat) (63:Int)).toNat:Int))/\K (Go.IntKind.u64.wrap (↑(BitVec.ofInt (64:Nat) (Go.IntKind.u64.wrap (x*2 ^ Min.min (Go.IntKind.u64.wrap (↑(BitVec.ofInt (64:Nat) (Go.IntKind.u64.wrap k) &&& BitVec.ofInt (64:Nat) (63:Int)).toNat:Int)).toNat (64:Nat)))|||BitVec.ofInt (64:Nat) (x.fdiv ((2:Int) ^ Min.min (Go.IntKind.u64.wrap ((64:Int) - Go.IntKind.u64.wrap (↑(BitVec.ofInt (64:Nat) (Go.IntKind.u64.wrap k) &&& BitVec.ofInt (64:Nat) (63:Int)).toNat:Int))).toNat (64:Nat)))).toNat:Int))
abbrev Ja:Type:=Int->Int->Int->Int->Int->(Int->Int->Int->Int->Prop)->Prop
def Bm(Zp:U8):Ja:=fun v0 v1 v2 v3 n K=>Lp5 (fun Qa Qy j1b q5u w4v y56=>Cnd (Qa<n) (Zp j1b (13:Int) fun Qc=>Zp (Go.IntKind.u64.wrap (Qy+j1b)) (32:Int) fun Qf=>Zp w4v (16:Int) fun Qg=>Zp (Go.IntKind.u64.wrap (↑(BitVec.ofInt (64:Nat) Qg ^^^ BitVec.ofInt (64:Nat) (Go.IntKind.u64.wrap (q5u+w4v))).toNat:Int)) (21:Int) fun Qe=>Zp (Go.IntKind.u64.wrap (↑(BitVec.ofInt (64:Nat) Qc ^^^ BitVec.ofInt (64:Nat) (Go.IntKind.u64.wrap (Qy+j1b))).toNat:Int)) (17:Int) fun Qm=>Zp (Go.IntKind.u64.wrap (Go.IntKind.u64.wrap (q5u+w4v)+Go.IntKind.u64.wrap (↑(BitVec.ofInt (64:Nat) Qc ^^^ BitVec.ofInt (64:Nat) (Go.IntKind.u64.wrap (Qy+j1b))).toNat:Int))) (32:Int) fun Z7=>InI (Qa+1)/\y56 (Qa+1) (Go.IntKind.u64.wrap (Qf+Go.IntKind.u64.wrap (↑(BitVec.ofInt (64:Nat) Qg ^^^ BitVec.ofInt (64:Nat) (Go.IntKind.u64.wrap (q5u+w4v))).toNat:Int))) (Go.IntKind.u64.wrap (↑(BitVec.ofInt (64:Nat) Qm ^^^ BitVec.ofInt (64:Nat) (Go.IntKind.u64.wrap (Go.IntKind.u64.wrap (q5u+w4v)+Go.IntKind.u64.wrap (↑(BitVec.ofInt (64:Nat) Qc ^^^ BitVec.ofInt (64:Nat) (Go.IntKind.u64.wrap (Qy+j1b))).toNat:Int)))).toNat:Int)) Z7 (Go.IntKind.u64.wrap (↑(BitVec.ofInt (64:Nat) Qe ^^^ BitVec.ofInt (64:Nat) (Go.IntKind.u64.wrap (Qf+Go.IntKind.u64.wrap (↑(BitVec.ofInt (64:Nat) Qg ^^^ BitVec.ofInt (64:Nat) (Go.IntKind.u64.wrap (q5u+w4v))).toNat:Int)))).toNat:Int))) (K Qy j1b q5u w4v)) (0:Int) v0 v1 v2 v3
def Q8:Ja:=Bm W9
abbrev Vu:Type:=Int->Int->Int->Int->Int->(Int->Int->Int->Int->Prop)->Prop
def q10(Zj:Ja):Vu:=fun v0 v1 v2 v3 m K=>Zj v0 v1 v2 (Go.IntKind.u64.wrap (↑(BitVec.ofInt (64:Nat) v3 ^^^ BitVec.ofInt (64:Nat) m).toNat:Int)) (2:Int) fun Qa Qy j1b q5u=>K (Go.IntKind.u64.wrap (↑(BitVec.ofInt (64:Nat) Qa ^^^ BitVec.ofInt (64:Nat) m).toNat:Int)) Qy j1b q5u
def Vv:Vu:=q10 Q8
abbrev q41:Type:=Int->Int->List (Int)->(Int->Prop)->Prop
def z3x(V5:Vu)(Zj:Ja):q41:=fun k0 k1 b K=>Fits b->(0:Int)<=(56:Int)/\Lp5 (fun Qc Zy j09 j3z y51 y7r=>InI (Qc+8)/\(Fits b->Cnd (Qc+8<=(↑b.length:Int)) (Lp2 (fun Qg V9 j5g=>Cnd (V9<8) (InI (Qc+V9)/\At b (Qc+V9) fun y4=>InI ((8:Int)*V9)/\(0:Int)<=(8:Int)*V9/\InI (V9+1)/\j5g (Go.IntKind.u64.wrap (↑(BitVec.ofInt (64:Nat) Qg|||BitVec.ofInt (64:Nat) (Go.IntKind.u64.wrap (Go.IntKind.u64.wrap y4*2 ^ Min.min ((8:Int)*V9).toNat (64:Nat)))).toNat:Int)) (V9+1)) (V5 Zy j09 j3z y51 Qg fun Qe Jw j1e v8y=>InI (Qc+8)/\y7r (Qc+8) Qe Jw j1e v8y)) (0:Int) (0:Int)) (Fits b->(8:Int)≠(0:Int)/\Lp2 (fun Qe Jw w7t=>Cnd (Jw<(↑b.length:Int).tmod (8:Int)) (Fits b->Fits b->(8:Int)≠(0:Int)/\InI ((↑b.length:Int) - (↑b.length:Int).tmod (8:Int))/\InI ((↑b.length:Int) - (↑b.length:Int).tmod (8:Int)+Jw)/\((0:Int)<=(↑b.length:Int) - (↑b.length:Int).tmod (8:Int)+Jw/\(↑b.length:Int) - (↑b.length:Int).tmod (8:Int)+Jw<(↑b.length:Int))/\ ∀y7,b[((↑b.length:Int) - (↑b.length:Int).tmod (8:Int)+Jw).toNat]? =some y7->InI ((8:Int)*Jw)/\(0:Int)<=(8:Int)*Jw/\InI (Jw+1)/\w7t (Go.IntKind.u64.wrap (↑(BitVec.ofInt (64:Nat) Qe|||BitVec.ofInt (64:Nat) (Go.IntKind.u64.wrap (Go.IntKind.u64.wrap y7*2 ^ Min.min ((8:Int)*Jw).toNat (64:Nat)))).toNat:Int)) (Jw+1)) (V5 Zy j09 j3z y51 Qe fun Qm q8i y9b u0d=>Zj Qm q8i (Go.IntKind.u64.wrap (↑(BitVec.ofInt (64:Nat) y9b ^^^ BitVec.ofInt (64:Nat) (255:Int)).toNat:Int)) u0d (4:Int) fun Z7 z87 y2t y5j=>K (Go.IntKind.u64.wrap (↑(BitVec.ofInt (64:Nat) (Go.IntKind.u64.wrap (↑(BitVec.ofInt (64:Nat) (Go.IntKind.u64.wrap (↑(BitVec.ofInt (64:Nat) Z7 ^^^ BitVec.ofInt (64:Nat) z87).toNat:Int)) ^^^ BitVec.ofInt (64:Nat) y2t).toNat:Int)) ^^^ BitVec.ofInt (64:Nat) y5j).toNat:Int)))) (Go.IntKind.u64.wrap (Go.IntKind.u64.wrap (↑b.length:Int)*2 ^ Min.min (Int.toNat (56:Int)) (64:Nat))) (0:Int)))) (0:Int) (Go.IntKind.u64.wrap (↑(BitVec.ofInt (64:Nat) k0 ^^^ BitVec.ofInt (64:Nat) (8317987319222330741:Int)).toNat:Int)) (Go.IntKind.u64.wrap (↑(BitVec.ofInt (64:Nat) k1 ^^^ BitVec.ofInt (64:Nat) (7237128888997146477:Int)).toNat:Int)) (Go.IntKind.u64.wrap (↑(BitVec.ofInt (64:Nat) k0 ^^^ BitVec.ofInt (64:Nat) (7816392313619706465:Int)).toNat:Int)) (Go.IntKind.u64.wrap (↑(BitVec.ofInt (64:Nat) k1 ^^^ BitVec.ofInt (64:Nat) (8387220255154660723:Int)).toNat:Int))
def q42:q41:=z3x Vv Q8
abbrev q11:Type:=Int->List (List Int)->(Int->Prop)->Prop
def z1c(q4l:q4b)(q88:q41):q11:=fun domain fields K=>q4l fields fun Qa=>q88 domain (0:Int) Qa fun Qc=>K Qc
def q12:q11:=z1c Bw q42
abbrev q0k:Type:=ByteArray->ByteArray->(Int->Prop)->Prop
def z70(q6h:q11):q0k:=fun salt key K=>Sml salt.size/\Sml key.size/\q6h (1:Int) [List.map (fun b=>(↑b.toNat:Int)) (salt,key,()).1.data.toList,List.map (fun b=>(↑b.toNat:Int)) (salt,key,()).2.1.data.toList] fun Qa=>(10000:Int)≠(0:Int)/\InI (Qa.tmod (10000:Int))/\K (Qa.tmod (10000:Int))
def U9:q0k:=z70 q12
abbrev Rf:Type:=List (Frc)->ByteArray->(Frc->Bool->Prop)->Prop
def Ut:Rf:=fun l layer K=>Fits l->Lp4 (fun Qc Zy j09 j3z u0e=>CAt l Qc (fun y2=>Cnd (y2.1=layer) (K y2 true) (InI (Qc+1)/\u0e (Qc+1) Zy j09 j3z)) (K (Frc.mk (ByteArray.mk (Array.mk [])) (ByteArray.mk (Array.mk [])) (0:Int)) false)) (0:Int) (ByteArray.mk (Array.mk [])) (ByteArray.mk (Array.mk [])) (0:Int)
abbrev q52:Type:=Envt->Frc->(Bool->Prop)->Prop
def q13:q52:=fun v f K=>Fits v.6->Lp1 (fun Qc q1a=>CAt v.6 Qc (fun y2=>Cnd (y2.1=f.2) (Cnd (y2.2=f.1) (Cnd (y2.5=2) (Fits y2.7->Lp1 (fun Qm j56=>CAt y2.7 Qm (fun y6=>Cnd (y6.3=f.3) (Cnd ((0:Int)<=Qm) (K (decide ((0:Int)<=Qc))) (InI (Qc+1)/\q1a (Qc+1))) (InI (Qm+1)/\j56 (Qm+1))) (Cnd ((0:Int)<=(-1:Int)) (K (decide ((0:Int)<=Qc))) (InI (Qc+1)/\q1a (Qc+1)))) (0:Int)) (InI (Qc+1)/\q1a (Qc+1))) (InI (Qc+1)/\q1a (Qc+1))) (InI (Qc+1)/\q1a (Qc+1))) (K (decide ((0:Int)<=(-1:Int))))) (0:Int)
abbrev Rz:Type:=Envt->Subj->(Bool->Prop)->Prop
def z1d(Zm:J6)(Uc:q0k):Rz:=fun v s K=>Cnd (v.1.3<=0) (K false) (Zm (Subj.mk s.1) v.1.2 fun Qa Qy=>Cnd (Qy=true) (Uc v.1.1 Qa.2 fun Qc=>K (decide (Qc<v.1.3))) (K false))
def R0:Rz:=z1d J7 U9
abbrev R1:Type:=Int->(Bool->Prop)->Prop
def Vw:R1:=fun op K=>Cnd ((6:Int)<=op) (K (decide (op<=15))) (K false)
abbrev Za:Type:=List (ByteArray)->List (ByteArray)->(Bool->Prop)->Prop
def Q0:Za:=fun s1 s2 K=>Fits s1->Fits s2->Cnd ((↑s1.length:Int)=(↑s2.length:Int)) (Fits s1->Lp1 (fun Qg z88=>CAt s1 Qg (fun y4=>At s2 Qg fun y6=>Cnd (y4=y6) (InI (Qg+1)/\z88 (Qg+1)) (K false)) (K true)) (0:Int)) (K false)
abbrev q43:Type:=Val->Val->(Bool->Prop)->Prop
def z3y(Qo:Za):q43:=fun a b K=>Cnd (a.1=b.1) (Cnd (a.2=b.2) (Cnd (a.3=b.3) (Qo a.4 b.4 fun Qa=>K Qa) (K false)) (K false)) (K false)
def q07:q43:=z3y Q0
abbrev Rg:Type:=Ex->Ex->(Bool->Prop)->Prop
def z71(q89:q43)(X:Rg):Rg:=fun a b K=>Cnd (a.1=b.1) (Cnd (a.2=b.2) (Cnd (a.3=b.3) (Fits a.4->Fits b.4->Cnd ((↑a.4.length:Int)=(↑b.4.length:Int)) (Fits a.4->Lp1 (fun Qg z88=>CAt a.4 Qg (fun y4=>At b.4 Qg fun y6=>q89 y4 y6 fun Ua=>Cnd (Ua=true) (InI (Qg+1)/\z88 (Qg+1)) (K false)) (Fits a.5->Fits b.5->Cnd ((↑a.5.length:Int)=(↑b.5.length:Int)) (Fits a.5->Lp1 (fun Wy y5k=>CAt a.5 Wy (fun y8=>At b.5 Wy fun y10=>X (Ex.mk y8.1 y8.2 y8.3 y8.4 y8.5) (Ex.mk y10.1 y10.2 y10.3 y10.4 y10.5) fun U1=>Cnd (U1=true) (InI (Wy+1)/\y5k (Wy+1)) (K false)) (K true)) (0:Int)) (K false))) (0:Int)) (K false)) (K false)) (K false)) (K false)
def q0l:Rg:=fun a b K=> ∀X:Rg,(∀a b K,z71 q07 X a b K->X a b K)->X a b K
abbrev Wx:Type:=List (Ex)->Ex->(List (Ex)->Prop)->Prop
def q9h(Wr:R1)(q8h:Rg)(X:Wx):Wx:=fun l e K=>Jn1 (fun Qa=>Fits e.5->Lp2 (fun Qf Zn q6u=>CAt e.5 Zn (fun y3=>X Qf (Ex.mk y3.1 y3.2 y3.3 y3.4 y3.5) fun Qm=>InI (Zn+1)/\q6u Qm (Zn+1)) (K Qf)) Qa (0:Int)) fun z0v=>Wr e.1 fun Qc=>Cnd (Qc=true) (Fits l->Lp1 (fun Qg z88=>CAt l Qg (fun y4=>q8h (Ex.mk y4.1 y4.2 y4.3 y4.4 y4.5) (Ex.mk e.1 e.2 e.3 e.4 e.5) fun Z7=>Cnd (Z7=true) (Cnd ((0:Int)<=Qg) (z0v l) (Sml (l++[Ex.mk e.1 e.2 e.3 e.4 e.5]).length/\z0v (l++[Ex.mk e.1 e.2 e.3 e.4 e.5]))) (InI (Qg+1)/\z88 (Qg+1))) (Cnd ((0:Int)<=(-1:Int)) (z0v l) (Sml (l++[Ex.mk e.1 e.2 e.3 e.4 e.5]).length/\z0v (l++[Ex.mk e.1 e.2 e.3 e.4 e.5])))) (0:Int)) (Cnd (e.1=5) (Fits l->Lp1 (fun Qg z88=>CAt l Qg (fun y4=>q8h (Ex.mk y4.1 y4.2 y4.3 y4.4 y4.5) (Ex.mk e.1 e.2 e.3 e.4 e.5) fun Z7=>Cnd (Z7=true) (Cnd ((0:Int)<=Qg) (z0v l) (Sml (l++[Ex.mk e.1 e.2 e.3 e.4 e.5]).length/\z0v (l++[Ex.mk e.1 e.2 e.3 e.4 e.5]))) (InI (Qg+1)/\z88 (Qg+1))) (Cnd ((0:Int)<=(-1:Int)) (z0v l) (Sml (l++[Ex.mk e.1 e.2 e.3 e.4 e.5]).length/\z0v (l++[Ex.mk e.1 e.2 e.3 e.4 e.5])))) (0:Int)) (z0v l))
def Bx:Wx:=fun l e K=> ∀X:Wx,(∀l e K,q9h Vw q0l X l e K->X l e K)->X l e K
abbrev U3:Type:=Ex->(Ex->Prop)->Prop
def z3z(Zu:Vt)(X:U3):U3:=fun e K=>Fits e.4->((0:Int)<=(0:Int)/\(0:Int)<=(↑e.4.length:Int)/\Sml (↑e.4.length:Int).toNat)/\(Fits e.4->Lp2 (fun Qf Zn q6u=>CAt e.4 Zn (fun y3=>Zu y3 fun Qm=>Sml (Qf++[Qm]).length/\InI (Zn+1)/\q6u (Qf++[Qm]) (Zn+1)) (Fits e.5->((0:Int)<=(0:Int)/\(0:Int)<=(↑e.5.length:Int)/\Sml (↑e.5.length:Int).toNat)/\(Fits e.5->Lp2 (fun Qm q8i y7w=>CAt e.5 q8i (fun y6=>X (Ex.mk y6.1 y6.2 y6.3 y6.4 y6.5) fun Ua=>Sml (Qm++[Ex.mk Ua.1 Ua.2 Ua.3 Ua.4 Ua.5]).length/\InI (q8i+1)/\y7w (Qm++[Ex.mk Ua.1 Ua.2 Ua.3 Ua.4 Ua.5]) (q8i+1)) (K (Ex.mk e.1 e.2 e.3 Qf Qm))) (List.replicate (Int.toNat (0:Int)) (Ex.mk (0:Int) (ByteArray.mk (Array.mk [])) (ByteArray.mk (Array.mk [])) [] [])) (0:Int)))) (List.replicate (Int.toNat (0:Int)) (Val.mk (0:Int) (0:Int) (ByteArray.mk (Array.mk [])) [])) (0:Int))
def q44:U3:=fun e K=> ∀X:U3,(∀e K,z3z J5 X e K->X e K)->X e K
abbrev By:Type:=Ex->(List (Ex)->Prop)->Prop
def q9i(q4m:Wx)(q9a:U3):By:=fun e K=>q4m [] (Ex.mk e.1 e.2 e.3 e.4 e.5) fun Qa=>Fits Qa->((0:Int)<=(0:Int)/\(0:Int)<=(↑Qa.length:Int)/\Sml (↑Qa.length:Int).toNat)/\(Fits Qa->Lp2 (fun Qg V9 j5g=>CAt Qa V9 (fun y4=>q9a (Ex.mk y4.1 y4.2 y4.3 y4.4 y4.5) fun Z7=>Sml (Qg++[Ex.mk Z7.1 Z7.2 Z7.3 Z7.4 Z7.5]).length/\InI (V9+1)/\j5g (Qg++[Ex.mk Z7.1 Z7.2 Z7.3 Z7.4 Z7.5]) (V9+1)) (K Qg)) (List.replicate (Int.toNat (0:Int)) (Ex.mk (0:Int) (ByteArray.mk (Array.mk [])) (ByteArray.mk (Array.mk [])) [] [])) (0:Int))
def q4c:By:=q9i Bx q44
abbrev Zr:Type:=List (ByteArray)->(List (ByteArray)->Prop)->Prop
def Zd(x:List (ByteArray))(K:List (ByteArray)->Prop):Prop:=K (srt x)
abbrev J1:Type:=List (ByteArray)->(List (ByteArray)->Prop)->Prop
def Z3(s:List (ByteArray))(K:List (ByteArray)->Prop):Prop:=K (cpt s)
abbrev G1:Type:=Ex->(List (ByteArray)->Prop)->Prop
def q5j(q4n:By)(Qr:Zr)(Z6:J1):G1:=fun e K=>q4n (Ex.mk e.1 e.2 e.3 e.4 e.5) fun Qa=>Fits Qa->Lp2 (fun Qf Zn q6u=>CAt Qa Zn (fun y3=>Cnd (y3.1=5) (Sml (Qf++[y3.3]).length/\InI (Zn+1)/\q6u (Qf++[y3.3]) (Zn+1)) (InI (Zn+1)/\q6u Qf (Zn+1))) (Qr Qf fun Qg=>Z6 Qg fun Qe=>K Qe)) [] (0:Int)
def G2:G1:=q5j q4c Zd Z3
abbrev z1e:Type:=List (ByteArray)->List (Edg)->(List (ByteArray)->Int->Prop)->Prop
def P_graph_Order(nodes:List (ByteArray))(edges:List (Edg))(K:List (ByteArray)->Int->Prop):Prop:=Go.Fl.P_graph_Order nodes (edges.map fun e=>(e.1,e.2)) K
abbrev Rh:Type:=List (Seg)->(List (ByteArray)->Int->Prop)->Prop
def q7v(q0d:G1)(q6i:z1e):Rh:=fun l K=>Fits l->Lp3 (fun Qc Zy j09 y1d=>CAt l j09 (fun y2=>Sml (Qc++[y2.1]).length/\q0d (Ex.mk y2.5.1 y2.5.2 y2.5.3 y2.5.4 y2.5.5) fun Qe=>Fits Qe->Lp2 (fun Z7 z87 y5i=>CAt Qe z87 (fun y7=>Sml (Z7++[Edg.mk y2.1 y7]).length/\InI (z87+1)/\y5i (Z7++[Edg.mk y2.1 y7]) (z87+1)) (InI (j09+1)/\y1d (Qc++[y2.1]) Z7 (j09+1))) Zy (0:Int)) (q6i Qc Zy fun Qf Zn=>K Qf Zn)) [] [] (0:Int)
def Ri:Rh:=q7v G2 P_graph_Order
abbrev G3:Type:=Subj->ByteArray->ByteArray->(Val->Bool->Prop)->Prop
def q5k(Js:Uq)(Zu:Vt):G3:=fun s kind name K=>Js (Subj.mk s.1) kind fun Qa=>Cnd (Qa<0) (K (Val.mk (0:Int) (0:Int) (ByteArray.mk (Array.mk [])) []) false) (At s.1 Qa fun y1=>Cnd (name=ByteArray.mk (Array.mk [107,101,121])) (K (Val.mk (3:Int) (0:Int) y1.2 []) true) (Fits y1.3->Lp5 (fun Qe Jw j1e v8y (y9a:List ByteArray) y8c=>CAt y1.3 Qe (fun y5=>Cnd (y5.1=name) (Zu (Val.mk y5.2.1 y5.2.2 y5.2.3 y5.2.4) fun Wy=>K Wy true) (InI (Qe+1)/\y8c (Qe+1) Jw j1e v8y y9a)) (K (Val.mk (0:Int) (0:Int) (ByteArray.mk (Array.mk [])) []) false)) (0:Int) (0:Int) (0:Int) (ByteArray.mk (Array.mk [])) []))
def G4:G3:=q5k W8 J5
abbrev q14:Type:=Val->Val->(Bool->Prop)->Prop
def z1f(Qo:Za):q14:=fun a b K=>Cnd (a.1=b.1) (Cnd (a.2=b.2) (Cnd (a.3=b.3) (Qo a.4 b.4 fun Qa=>K Qa) (K false)) (K false)) (K false)
def R2:q14:=z1f Q0
abbrev Z4:Type:=ByteArray->ByteArray->(Bool->Prop)->Prop
def Zo:Z4:=fun s prefix_ K=>Cnd ((↑prefix_.size:Int)<=(↑s.size:Int)) (((0:Int)<=(0:Int)/\(0:Int)<=(↑prefix_.size:Int)/\(↑prefix_.size:Int)<=(↑s.size:Int))/\K (decide (s.extract (Int.toNat (0:Int)) (↑prefix_.size:Int).toNat=prefix_))) (K false)
abbrev Va:Type:=ByteArray->ByteArray->(Bool->Prop)->Prop
def q0m(Q5:Z4):Va:=fun s prefix_ K=>Q5 s prefix_ fun Qa=>K Qa
def Vb:Va:=q0m Zo
abbrev Wl:Type:=ByteArray->ByteArray->(Bool->Prop)->Prop
def Wm:Wl:=fun s suffix K=>Cnd ((↑suffix.size:Int)<=(↑s.size:Int)) (InI ((↑s.size:Int) - (↑suffix.size:Int))/\((0:Int)<=(↑s.size:Int) - (↑suffix.size:Int)/\(↑s.size:Int) - (↑suffix.size:Int)<=(↑s.size:Int)/\(↑s.size:Int)<=(↑s.size:Int))/\K (decide (s.extract ((↑s.size:Int) - (↑suffix.size:Int)).toNat (↑s.size:Int).toNat=suffix))) (K false)
abbrev Vc:Type:=ByteArray->ByteArray->(Bool->Prop)->Prop
def q0n(Ws:Wl):Vc:=fun s suffix K=>Ws s suffix fun Qa=>K Qa
def Vd:Vc:=q0n Wm
abbrev q15:Type:=ByteArray->ByteArray->(Bool->Prop)->Prop
def Hh(s:ByteArray)(substr:ByteArray)(K:Bool->Prop):Prop:=s.size<4294967281/\K (Go.Lib.contains s.data.toList substr.data.toList)
abbrev q53:Type:=Val->(Bool->Prop)->Prop
def q16:q53:=fun v K=>Jn1 (fun Qa=>Cnd (Qa=true) (Cnd (v.3=ByteArray.mk (Array.mk [])) (Fits v.4->K (decide ((↑v.4.length:Int)=0))) (K false)) (Jn1 (fun Qc=>Cnd (Qc=true) (Cnd (v.2=0) (Fits v.4->K (decide ((↑v.4.length:Int)=0))) (K false)) (Cnd (v.2=0) (K (decide (v.3=ByteArray.mk (Array.mk [])))) (K false))) fun w1p=>Cnd (v.1=3) (w1p (decide (v.1=3))) (w1p (decide (v.1=4))))) fun z0v=>Cnd (v.1=1) (z0v (decide (v.1=1))) (z0v (decide (v.1=2)))
abbrev q45:Type:=ByteArray->(Bool->Prop)->Prop
def z30(Zt:Vq):q45:=fun s K=>Cnd ((200:Int)<(↑s.size:Int)) (K false) (Zt s fun Qa=>Cnd (Qa=true) (Lp1 (fun (Qc:ByteArray×Nat) q1a=>Cnd (Qc.2<Qc.1.size) (Cnd ((↑(Go.Utf8.decode Qc.1 Qc.2).1:Int)<(32:Int)) (K false) (Cnd ((↑(Go.Utf8.decode Qc.1 Qc.2).1:Int)=(127:Int)) (K false) (q1a (Qc.1,Qc.2+(Go.Utf8.decode Qc.1 Qc.2).2)))) (K true)) (s,(0:Nat))) (K false))
def q46:q45:=z30 Jp
abbrev q7w:Type:=ByteArray->ByteArray->(List (ByteArray)->Prop)->Prop
def q17(s:ByteArray)(sep:ByteArray)(K:List (ByteArray)->Prop):Prop:=sep.size=1/\s.size<4294967281/\K (q01 s sep)
abbrev Jq:Type:=ByteArray->ByteArray->(ByteArray->Bool->Prop)->Prop
def Ga(Q5:Z4):Jq:=fun s prefix_ K=>Q5 s prefix_ fun Qa=>Cnd (Qa=true) (((0:Int)<=(↑prefix_.size:Int)/\(↑prefix_.size:Int)<=(↑s.size:Int)/\(↑s.size:Int)<=(↑s.size:Int))/\K (s.extract (↑prefix_.size:Int).toNat (↑s.size:Int).toNat) true) (K s false)
def Wn:Jq:=Ga Zo
abbrev Ve:Type:=ByteArray->ByteArray->(ByteArray->Bool->Prop)->Prop
def q0o(Wt:Jq):Ve:=fun s prefix_ K=>Wt s prefix_ fun Qa Qy=>K Qa Qy
def Vf:Ve:=q0o Wn
abbrev q9j:Type:=ByteArray->(Int->Bool->Prop)->Prop
def Bz(s:ByteArray)(K:Int->Bool->Prop):Prop:=s.size<=281474976710656/\y0j s K
abbrev Vx:Type:=ByteArray->(Int->Int->Prop)->Prop
def q18(Gl:Ve)(B4:q9j):Vx:=fun s K=>Gl s (ByteArray.mk (Array.mk [45])) fun Qa Qy=>Cnd (Qa=ByteArray.mk (Array.mk [])) (K (0:Int) (1:Int)) (((0:Int)<=(0:Int)/\(0:Int)<(↑Qa.size:Int))/\ ∀b1,Qa[Int.toNat (0:Int)]? =some b1->Cnd ((↑b1.toNat:Int)=48) (Cnd ((1:Int)<(↑Qa.size:Int)) (K (0:Int) (1:Int)) (Cnd (Qy=true) (K (0:Int) (1:Int)) (Lp1 (fun (Qg:ByteArray×Nat) z88=>Cnd (Qg.2<Qg.1.size) (Cnd ((↑(Go.Utf8.decode Qg.1 Qg.2).1:Int)<(48:Int)) (K (0:Int) (1:Int)) (Cnd ((57:Int)<(↑(Go.Utf8.decode Qg.1 Qg.2).1:Int)) (K (0:Int) (1:Int)) (z88 (Qg.1,Qg.2+(Go.Utf8.decode Qg.1 Qg.2).2)))) (B4 s fun Qe Jw=>Cnd ((match (Qe,Jw,()).2.1 with|true=>false|false=>true)=true) (K (0:Int) (3:Int)) (Cnd (Qe<(-1099511627776:Int)) (K (0:Int) (3:Int)) (Cnd ((1099511627776:Int)<Qe) (K (0:Int) (3:Int)) (K Qe (0:Int)))))) (Qa,(0:Nat))))) (Lp1 (fun (Qg:ByteArray×Nat) z88=>Cnd (Qg.2<Qg.1.size) (Cnd ((↑(Go.Utf8.decode Qg.1 Qg.2).1:Int)<(48:Int)) (K (0:Int) (1:Int)) (Cnd ((57:Int)<(↑(Go.Utf8.decode Qg.1 Qg.2).1:Int)) (K (0:Int) (1:Int)) (z88 (Qg.1,Qg.2+(Go.Utf8.decode Qg.1 Qg.2).2)))) (B4 s fun Qe Jw=>Cnd ((match (Qe,Jw,()).2.1 with|true=>false|false=>true)=true) (K (0:Int) (3:Int)) (Cnd (Qe<(-1099511627776:Int)) (K (0:Int) (3:Int)) (Cnd ((1099511627776:Int)<Qe) (K (0:Int) (3:Int)) (K Qe (0:Int)))))) (Qa,(0:Nat))))
def Vy:Vx:=q18 Vf Bz
abbrev Gb:Type:=ByteArray->(A3->Bool->Prop)->Prop
def z1g(q26:q7w)(Hk:Vx):Gb:=fun s K=>q26 s (ByteArray.mk (Array.mk [46])) fun Qa=>Fits Qa->Cnd ((↑Qa.length:Int)=3) (Fits Qa->LpH (fun (Qg:Int×Int×Int×Int×Int×Int×Int×Unit) z88=>CAt Qa Qg.1 (fun y4=>Hk y4 fun Z7 z87=>Cnd (z87=0) (Cnd (Z7<0) (K ((0:Int),(0:Int),(0:Int)) false) (Cnd ((999999:Int)<Z7) (K ((0:Int),(0:Int),(0:Int)) false) (((0:Int)<=Qg.1/\Qg.1<(↑(3:Nat):Int))/\((True/\(Qg.1=(↑(nat_lit 0):Int)->InI (Qg.1+1)/\z88 (Qg.1+1,Z7,Qg.2.2.1,Qg.2.2.2.1,Qg.2.2.2.2.1,Qg.2.2.2.2.2.1,Qg.2.2.2.2.2.2.1,())))/\(Qg.1=(↑(nat_lit 1):Int)->InI (Qg.1+1)/\z88 (Qg.1+1,Qg.2.1,Z7,Qg.2.2.2.1,Qg.2.2.2.2.1,Qg.2.2.2.2.2.1,Qg.2.2.2.2.2.2.1,())))/\(Qg.1=(↑(nat_lit 2):Int)->InI (Qg.1+1)/\z88 (Qg.1+1,Qg.2.1,Qg.2.2.1,Z7,Qg.2.2.2.2.1,Qg.2.2.2.2.2.1,Qg.2.2.2.2.2.2.1,()))))) (K ((0:Int),(0:Int),(0:Int)) false)) (K (Qg.2.1,Qg.2.2.1,Qg.2.2.2.1) true)) ((0:Int),(0:Int),(0:Int),(0:Int),(0:Int),(0:Int),(0:Int),())) (K ((0:Int),(0:Int),(0:Int)) false)
def Gc:Gb:=z1g q17 Vy
abbrev q19:Type:=Val->(Int->Prop)->Prop
def z1h(q6j:q53)(q5d:q45)(Wb:Gb):q19:=fun v K=>Cnd (v.1<1) (K (7:Int)) (Cnd ((5:Int)<v.1) (K (7:Int)) (q6j v fun Qa=>Cnd (Qa=true) (Cnd (v.1=1) (Cnd (v.2=0) (K (0:Int)) (Cnd (v.2=1) (K (0:Int)) (K (3:Int)))) (Cnd (v.1=2) (Cnd (v.2<(-1099511627776:Int)) (K (3:Int)) (Cnd ((1099511627776:Int)<v.2) (K (3:Int)) (K (0:Int)))) (Cnd (v.1=3) (q5d v.3 fun Qc=>Cnd (Qc=true) (K (0:Int)) (K (2:Int))) (Cnd (v.1=4) (Wb v.3 fun (_:Int×Int×Int) Zy=>Cnd (Zy=true) (K (0:Int)) (K (1:Int))) (Cnd (v.1=5) (Fits v.4->Cnd ((20:Int)<(↑v.4.length:Int)) (K (5:Int)) (Fits v.4->Lp1 (fun Qg z88=>CAt v.4 Qg (fun y4=>q5d y4 fun Z7=>Cnd (Z7=true) (InI (Qg+1)/\z88 (Qg+1)) (K (2:Int))) (Fits v.4->Lp1 (fun Qm j56=>Cnd (Qm<(↑v.4.length:Int)) (Cnd ((0:Int)<Qm) (InI (Qm - 1)/\((0:Int)<=Qm - 1/\Qm - 1<(↑v.4.length:Int))/\ ∀y6,v.4[(Qm - 1).toNat]? =some y6->At v.4 Qm fun y8=>Cnd (Lk.blt y6 y8) (InI (Qm+1)/\j56 (Qm+1)) (K (9:Int))) (InI (Qm+1)/\j56 (Qm+1))) (K (0:Int))) (0:Int))) (0:Int))) (K (0:Int))))))) (K (15:Int))))
def q2a:q19:=z1h q16 q46 Gc
abbrev Rj:Type:=Val->Val->(Int->Int->Prop)->Prop
def q7x(q27:q19)(Wb:Gb):Rj:=fun a b K=>q27 a fun Qa=>Cnd (Qa=0) (q27 b fun Qc=>Cnd (Qc=0) (Cnd (a.1=b.1) (Cnd (a.1=1) (K (0:Int) (8:Int)) (Cnd (a.1=5) (K (0:Int) (8:Int)) (Cnd (a.1=2) (Cnd (a.2=a.2) (Cnd (b.2=b.2) (Cnd (a.2<b.2) (K (-1:Int) (0:Int)) (Cnd (b.2<a.2) (K (1:Int) (0:Int)) (K (0:Int) (0:Int)))) (K (1:Int) (0:Int))) (Cnd (b.2=b.2) (K (-1:Int) (0:Int)) (K (0:Int) (0:Int)))) (Cnd (a.1=3) (Cnd (a.3=a.3) (Cnd (b.3=b.3) (Cnd (Lk.blt a.3 b.3) (K (-1:Int) (0:Int)) (Cnd (Lk.blt b.3 a.3) (K (1:Int) (0:Int)) (K (0:Int) (0:Int)))) (K (1:Int) (0:Int))) (Cnd (b.3=b.3) (K (-1:Int) (0:Int)) (K (0:Int) (0:Int)))) (Wb a.3 fun (Qf:Int×Int×Int) _=>Wb b.3 fun (Qg:Int×Int×Int) _=>([Qf.1,Qf.2.1,Qf.2.2].length<=(9223372036854775807:Nat)->Lp1 (fun Qm j56=>Cnd (Qm<(↑[Qf.1,Qf.2.1,Qf.2.2].length:Int)) (((0:Int)<=Qm/\Qm<(↑[Qf.1,Qf.2.1,Qf.2.2].length:Int))/\ ∀y6,[Qf.1,Qf.2.1,Qf.2.2][Qm.toNat]? =some y6->[Qg.1,Qg.2.1,Qg.2.2].length<=(9223372036854775807:Nat)->Cnd ((↑[Qg.1,Qg.2.1,Qg.2.2].length:Int)<=Qm) (K (1:Int) (0:Int)) (((0:Int)<=Qm/\Qm<(↑[Qg.1,Qg.2.1,Qg.2.2].length:Int))/\ ∀y9,[Qg.1,Qg.2.1,Qg.2.2][Qm.toNat]? =some y9->Cnd (y6=y6) (Cnd (y9=y9) (Cnd (y6<y9) (Cnd ((-1:Int)=(0:Int)) (InI (Qm+1)/\j56 (Qm+1)) (K (-1:Int) (0:Int))) (Cnd (y9<y6) (Cnd ((1:Int)=(0:Int)) (InI (Qm+1)/\j56 (Qm+1)) (K (1:Int) (0:Int))) (Cnd ((0:Int)=(0:Int)) (InI (Qm+1)/\j56 (Qm+1)) (K (0:Int) (0:Int))))) (Cnd ((1:Int)=(0:Int)) (InI (Qm+1)/\j56 (Qm+1)) (K (1:Int) (0:Int)))) (Cnd (y9=y9) (Cnd ((-1:Int)=(0:Int)) (InI (Qm+1)/\j56 (Qm+1)) (K (-1:Int) (0:Int))) (Cnd ((0:Int)=(0:Int)) (InI (Qm+1)/\j56 (Qm+1)) (K (0:Int) (0:Int)))))) ([Qf.1,Qf.2.1,Qf.2.2].length<=(9223372036854775807:Nat)->[Qg.1,Qg.2.1,Qg.2.2].length<=(9223372036854775807:Nat)->Cnd ((↑[Qf.1,Qf.2.1,Qf.2.2].length:Int)<(↑[Qg.1,Qg.2.1,Qg.2.2].length:Int)) (K (-1:Int) (0:Int)) (K (0:Int) (0:Int)))) (0:Int))/\([Qf.1,Qf.2.1,Qf.2.2].length<=(9223372036854775807:Nat)->Lp1 (fun Qm j56=>Cnd (Qm<(↑[Qf.1,Qf.2.1,Qf.2.2].length:Int)) (((0:Int)<=Qm/\Qm<(↑[Qf.1,Qf.2.1,Qf.2.2].length:Int))/\ ∀y6,[Qf.1,Qf.2.1,Qf.2.2][Qm.toNat]? =some y6->[Qg.1,Qg.2.1,Qg.2.2].length<=(9223372036854775807:Nat)->Cnd ((↑[Qg.1,Qg.2.1,Qg.2.2].length:Int)<=Qm) (K (1:Int) (0:Int)) (((0:Int)<=Qm/\Qm<(↑[Qg.1,Qg.2.1,Qg.2.2].length:Int))/\ ∀y9,[Qg.1,Qg.2.1,Qg.2.2][Qm.toNat]? =some y9->Cnd (y6=y6) (Cnd (y9=y9) (Cnd (y6<y9) (Cnd ((-1:Int)=(0:Int)) (InI (Qm+1)/\j56 (Qm+1)) (K (-1:Int) (0:Int))) (Cnd (y9<y6) (Cnd ((1:Int)=(0:Int)) (InI (Qm+1)/\j56 (Qm+1)) (K (1:Int) (0:Int))) (Cnd ((0:Int)=(0:Int)) (InI (Qm+1)/\j56 (Qm+1)) (K (0:Int) (0:Int))))) (Cnd ((1:Int)=(0:Int)) (InI (Qm+1)/\j56 (Qm+1)) (K (1:Int) (0:Int)))) (Cnd (y9=y9) (Cnd ((-1:Int)=(0:Int)) (InI (Qm+1)/\j56 (Qm+1)) (K (-1:Int) (0:Int))) (Cnd ((0:Int)=(0:Int)) (InI (Qm+1)/\j56 (Qm+1)) (K (0:Int) (0:Int)))))) ([Qf.1,Qf.2.1,Qf.2.2].length<=(9223372036854775807:Nat)->[Qg.1,Qg.2.1,Qg.2.2].length<=(9223372036854775807:Nat)->Cnd ((↑[Qf.1,Qf.2.1,Qf.2.2].length:Int)<(↑[Qg.1,Qg.2.1,Qg.2.2].length:Int)) (K (-1:Int) (0:Int)) (K (0:Int) (0:Int)))) (0:Int))))))) (K (0:Int) (8:Int))) (K (0:Int) Qc)) (K (0:Int) Qa)
def Uu:Rj:=q7x q2a Gc
abbrev q2b:Type:=Subj->Ex->(Bool->Prop)->Prop
def z1i(q0e:G3)(Wr:R1)(Bg:q14)(Gm:Va)(Gn:Vc)(Hl:q15)(Rq:Rj):q2b:=fun s e K=>q0e (Subj.mk s.1) e.2 e.3 fun Qa Qy=>Cnd (Qy=true) (Wr e.1 fun Qc=>Cnd (Qc=true) (Cnd (e.1=6) (K true) (Cnd (e.1=8) (Fits e.4->Lp1 (fun Qg z88=>CAt e.4 Qg (fun y4=>Bg Qa y4 fun Z7=>Cnd (Z7=true) (K (decide ((0:Int)<=Qg))) (InI (Qg+1)/\z88 (Qg+1))) (K (decide ((0:Int)<=(-1:Int))))) (0:Int)) (Fits e.4->Cnd ((↑e.4.length:Int)=0) (K false) (((0:Int)<=(0:Int)/\(0:Int)<(↑e.4.length:Int))/\ ∀y3,e.4[Int.toNat (0:Int)]? =some y3->Cnd (Qa.1=3) (Cnd (e.1=7) (Bg Qa y3 fun Qm=>K Qm) (Cnd (e.1=9) (Cnd (y3.1=3) (Gm Qa.3 y3.3 fun Qm=>K Qm) (K false)) (Cnd (e.1=10) (Cnd (y3.1=3) (Gn Qa.3 y3.3 fun Qm=>K Qm) (K false)) (Cnd (e.1=11) (Cnd (y3.1=3) (Hl Qa.3 y3.3 fun Qm=>Cnd (Qm=true) (K true) (Cnd (y3.1=3) (Cnd (Qa.1=5) (Fits Qa.4->Lp1 (fun Wy y5k=>CAt Qa.4 Wy (fun y8=>Cnd (y3.3=y8) (K (decide ((0:Int)<=Wy))) (InI (Wy+1)/\y5k (Wy+1))) (K (decide ((0:Int)<=(-1:Int))))) (0:Int)) (K false)) (K false))) (Cnd (y3.1=3) (Cnd (Qa.1=5) (Fits Qa.4->Lp1 (fun Z7 y5l=>CAt Qa.4 Z7 (fun y7=>Cnd (y3.3=y7) (K (decide ((0:Int)<=Z7))) (InI (Z7+1)/\y5l (Z7+1))) (K (decide ((0:Int)<=(-1:Int))))) (0:Int)) (K false)) (K false))) (Rq Qa y3 fun Qm q8i=>Cnd (q8i=0) (Cnd (e.1=12) (K (decide (Qm<0))) (Cnd (e.1=13) (K (decide (Qm<=0))) (Cnd (e.1=14) (K (decide ((0:Int)<Qm))) (K (decide ((0:Int)<=Qm)))))) (K false)))))) (Cnd (e.1=7) (Bg Qa y3 fun Qm=>K Qm) (Cnd (e.1=9) (K false) (Cnd (e.1=10) (K false) (Cnd (e.1=11) (Cnd (y3.1=3) (Cnd (Qa.1=5) (Fits Qa.4->Lp1 (fun Z7 y5l=>CAt Qa.4 Z7 (fun y7=>Cnd (y3.3=y7) (K (decide ((0:Int)<=Z7))) (InI (Z7+1)/\y5l (Z7+1))) (K (decide ((0:Int)<=(-1:Int))))) (0:Int)) (K false)) (K false)) (Rq Qa y3 fun Qm q8i=>Cnd (q8i=0) (Cnd (e.1=12) (K (decide (Qm<0))) (Cnd (e.1=13) (K (decide (Qm<=0))) (Cnd (e.1=14) (K (decide ((0:Int)<Qm))) (K (decide ((0:Int)<=Qm)))))) (K false)))))))))) (K false)) (K false)
def R3:q2b:=z1i G4 Vw R2 Vb Vd Hh Uu
abbrev J8:Type:=Subj->List (ByteArray)->Ex->(Bool->Prop)->Prop
def z1j(q6k:q2b)(X:J8):J8:=fun s in_ e K=>Cnd (e.1=1) (K true) (Cnd (e.1=2) (Fits e.5->Lp1 (fun Qc q1a=>CAt e.5 Qc (fun y2=>X (Subj.mk s.1) in_ (Ex.mk y2.1 y2.2 y2.3 y2.4 y2.5) fun Qe=>Cnd (Qe=true) (InI (Qc+1)/\q1a (Qc+1)) (K (match decide ((0:Int)<=Qc) with|true=>false|false=>true))) (K true)) (0:Int)) (Cnd (e.1=3) (Fits e.5->Lp1 (fun Qc q1a=>CAt e.5 Qc (fun y2=>X (Subj.mk s.1) in_ (Ex.mk y2.1 y2.2 y2.3 y2.4 y2.5) fun Qe=>Cnd (Qe=true) (K (decide ((0:Int)<=Qc))) (InI (Qc+1)/\q1a (Qc+1))) (K (decide ((0:Int)<=(-1:Int))))) (0:Int)) (Cnd (e.1=4) (Fits e.5->Cnd ((0:Int)<(↑e.5.length:Int)) (((0:Int)<=(0:Int)/\(0:Int)<(↑e.5.length:Int))/\ ∀y1,e.5[Int.toNat (0:Int)]? =some y1->X (Subj.mk s.1) in_ (Ex.mk y1.1 y1.2 y1.3 y1.4 y1.5) fun Qg=>K (match decide ((Qg,()).1=true) with|true=>false|false=>true)) (K false)) (Cnd (e.1=5) (Fits in_->Lp1 (fun Qc q1a=>CAt in_ Qc (fun y2=>Cnd (e.3=y2) (K (decide ((0:Int)<=Qc))) (InI (Qc+1)/\q1a (Qc+1))) (K (decide ((0:Int)<=(-1:Int))))) (0:Int)) (q6k (Subj.mk s.1) (Ex.mk e.1 e.2 e.3 e.4 e.5) fun Qa=>K Qa)))))
def Gd:J8:=fun s in_ e K=> ∀X:J8,(∀s in_ e K,z1j R3 X s in_ e K->X s in_ e K)->X s in_ e K
abbrev Vz:Type:=Seg->Subj->List (ByteArray)->(Bool->Prop)->Prop
def q2c(Zm:J6)(Jh:J8):Vz:=fun g s in_ K=>Zm (Subj.mk s.1) g.2 fun Qa Qy=>Cnd (Qy=true) (Fits g.4->Lp1 (fun Qf j1c=>CAt g.4 Qf (fun y3=>Cnd (Qa.2=y3) (Cnd ((0:Int)<=Qf) (K false) (Fits g.3->Lp1 (fun Z7 y5l=>CAt g.3 Z7 (fun y7=>Cnd (Qa.2=y7) (Cnd ((0:Int)<=Z7) (K true) (Cnd (g.5.1=0) (K false) (Jh (Subj.mk s.1) in_ (Ex.mk g.5.1 g.5.2 g.5.3 g.5.4 g.5.5) fun Qq=>K Qq))) (InI (Z7+1)/\y5l (Z7+1))) (Cnd ((0:Int)<=(-1:Int)) (K true) (Cnd (g.5.1=0) (K false) (Jh (Subj.mk s.1) in_ (Ex.mk g.5.1 g.5.2 g.5.3 g.5.4 g.5.5) fun Wy=>K Wy)))) (0:Int))) (InI (Qf+1)/\j1c (Qf+1))) (Cnd ((0:Int)<=(-1:Int)) (K false) (Fits g.3->Lp1 (fun Qe w4y=>CAt g.3 Qe (fun y5=>Cnd (Qa.2=y5) (Cnd ((0:Int)<=Qe) (K true) (Cnd (g.5.1=0) (K false) (Jh (Subj.mk s.1) in_ (Ex.mk g.5.1 g.5.2 g.5.3 g.5.4 g.5.5) fun Wy=>K Wy))) (InI (Qe+1)/\w4y (Qe+1))) (Cnd ((0:Int)<=(-1:Int)) (K true) (Cnd (g.5.1=0) (K false) (Jh (Subj.mk s.1) in_ (Ex.mk g.5.1 g.5.2 g.5.3 g.5.4 g.5.5) fun Qm=>K Qm)))) (0:Int)))) (0:Int)) (K false)
def V0:Vz:=q2c J7 Gd
abbrev Uv:Type:=List (Seg)->Subj->(List (ByteArray)->Prop)->Prop
def q3k(q28:Rh)(Hm:Vz)(Qr:Zr):Uv:=fun l s K=>q28 l fun Qa Qy=>Cnd (Qy=0) (Fits l->Lp2 (fun Qf j1c q6u=>CAt l Qf (fun y3=>InI (Qf+1)/\q6u (Qf+1) (put j1c y3.1 (Seg.mk y3.1 y3.2 y3.3 y3.4 (Ex.mk y3.5.1 y3.5.2 y3.5.3 y3.5.4 y3.5.5)))) (Fits Qa->Lp2 (fun Qe Jw w7t=>CAt Qa Jw (fun y5=>Hm (Seg.mk ((j1c y5).getD (Seg.mk (ByteArray.mk (Array.mk [])) (ByteArray.mk (Array.mk [])) [] [] (Ex.mk (0:Int) (ByteArray.mk (Array.mk [])) (ByteArray.mk (Array.mk [])) [] []))).1 ((j1c y5).getD (Seg.mk (ByteArray.mk (Array.mk [])) (ByteArray.mk (Array.mk [])) [] [] (Ex.mk (0:Int) (ByteArray.mk (Array.mk [])) (ByteArray.mk (Array.mk [])) [] []))).2 ((j1c y5).getD (Seg.mk (ByteArray.mk (Array.mk [])) (ByteArray.mk (Array.mk [])) [] [] (Ex.mk (0:Int) (ByteArray.mk (Array.mk [])) (ByteArray.mk (Array.mk [])) [] []))).3 ((j1c y5).getD (Seg.mk (ByteArray.mk (Array.mk [])) (ByteArray.mk (Array.mk [])) [] [] (Ex.mk (0:Int) (ByteArray.mk (Array.mk [])) (ByteArray.mk (Array.mk [])) [] []))).4 (Ex.mk ((j1c y5).getD (Seg.mk (ByteArray.mk (Array.mk [])) (ByteArray.mk (Array.mk [])) [] [] (Ex.mk (0:Int) (ByteArray.mk (Array.mk [])) (ByteArray.mk (Array.mk [])) [] []))).5.1 ((j1c y5).getD (Seg.mk (ByteArray.mk (Array.mk [])) (ByteArray.mk (Array.mk [])) [] [] (Ex.mk (0:Int) (ByteArray.mk (Array.mk [])) (ByteArray.mk (Array.mk [])) [] []))).5.2 ((j1c y5).getD (Seg.mk (ByteArray.mk (Array.mk [])) (ByteArray.mk (Array.mk [])) [] [] (Ex.mk (0:Int) (ByteArray.mk (Array.mk [])) (ByteArray.mk (Array.mk [])) [] []))).5.3 ((j1c y5).getD (Seg.mk (ByteArray.mk (Array.mk [])) (ByteArray.mk (Array.mk [])) [] [] (Ex.mk (0:Int) (ByteArray.mk (Array.mk [])) (ByteArray.mk (Array.mk [])) [] []))).5.4 ((j1c y5).getD (Seg.mk (ByteArray.mk (Array.mk [])) (ByteArray.mk (Array.mk [])) [] [] (Ex.mk (0:Int) (ByteArray.mk (Array.mk [])) (ByteArray.mk (Array.mk [])) [] []))).5.5)) (Subj.mk s.1) Qe fun Wy=>Cnd (Wy=true) (Sml (Qe++[y5]).length/\InI (Jw+1)/\w7t (Qe++[y5]) (Jw+1)) (InI (Jw+1)/\w7t Qe (Jw+1))) (Qr Qe fun Qm=>K Qm)) [] (0:Int))) (0:Int) fun _=>none) (K [])
def Uw:Uv:=q3k Ri V0 Zd
abbrev W0:Type:=Envt->Subj->ByteArray->(Bool->Prop)->Prop
def q3l(Bh:Uv)(Jh:J8):W0:=fun v s experiment K=>Fits v.6->Lp1 (fun Qc q1a=>CAt v.6 Qc (fun y2=>Cnd (y2.1=experiment) (Bh v.3 (Subj.mk s.1) fun Qe=>Jh (Subj.mk s.1) Qe (Ex.mk y2.8.1 y2.8.2 y2.8.3 y2.8.4 y2.8.5) fun Qm=>K Qm) (InI (Qc+1)/\q1a (Qc+1))) (K false)) (0:Int)
def W2:W0:=q3l Uw Gd
abbrev q54:Type:=List (Rng)->Int->(Int->Prop)->Prop
def q2d:q54:=fun l bucket K=>Fits l->Lp1 (fun Qc q1a=>CAt l Qc (fun y2=>Cnd (y2.1<=bucket) (Cnd (bucket<y2.2) (K y2.3) (InI (Qc+1)/\q1a (Qc+1))) (InI (Qc+1)/\q1a (Qc+1))) (K (0:Int))) (0:Int)
abbrev J9:Type:=Envt->Subj->List (Frc)->ByteArray->(Asg->Int->Prop)->Prop
def q9k(Zm:J6)(U0:Rf)(Uc:q0k)(q6l:q54)(W4:W0)(Bi:Rz)(q6m:q52):J9:=fun v s forced key K=>Jn1 (fun Qa=>Cnd (Qa<0) (K (Asg.mk (ByteArray.mk (Array.mk [])) (ByteArray.mk (Array.mk [])) (0:Int) (0:Int) false) (11:Int)) (At v.5 Qa fun y1=>Zm (Subj.mk s.1) y1.2 fun Qg V9=>Jn1 (fun Qe=>U0 forced key fun Qm q8i=>Jn1 (fun Z7=>Cnd (Z7=true) (Cnd (Qm.2=ByteArray.mk (Array.mk [])) (K (Asg.mk key (ByteArray.mk (Array.mk [])) Qe (0:Int) false) (0:Int)) (K (Asg.mk key Qm.2 Qe Qm.3 false) (0:Int))) (Jn1 (fun Wy=>Cnd (Wy=true) (K (Asg.mk key (ByteArray.mk (Array.mk [])) Qe (0:Int) true) (0:Int)) (Cnd (V9=true) (Fits v.6->Lp3 (fun Qq z86 y8a y89=>CAt v.6 Qq (fun y10=>Jn1 (fun U1=>Jn1 (fun Q7=>Cnd (Q7=true) (Uc y10.4 Qg.2 fun J3=>q6l y10.7 J3 fun j1l=>K (Asg.mk key y10.1 Qe j1l false) (0:Int)) (InI (Qq+1)/\y89 (Qq+1) z86 y8a)) fun y1h=>Cnd (y10.2=key) (Cnd (y10.5=2) (Cnd (U1=true) (W4 (Envt.mk (Sett.mk v.1.1 v.1.2 v.1.3) v.2 v.3 v.4 v.5 v.6) (Subj.mk s.1) y10.1 fun J3=>y1h J3) (y1h false)) (y1h false)) (y1h false)) fun y78=>Fits y10.6->Lp1 (fun J3 v8s=>CAt y10.6 J3 (fun y15=>Cnd (y15.1<=Qe) (Cnd (Qe<y15.2) (y78 (decide ((0:Int)<=J3))) (InI (J3+1)/\v8s (J3+1))) (InI (J3+1)/\v8s (J3+1))) (y78 (decide ((0:Int)<=(-1:Int))))) (0:Int)) (K (Asg.mk key z86 Qe y8a false) (0:Int))) (0:Int) (ByteArray.mk (Array.mk [])) (0:Int)) (K (Asg.mk key (ByteArray.mk (Array.mk [])) Qe (0:Int) false) (0:Int)))) fun y50=>Bi (Envt.mk (Sett.mk v.1.1 v.1.2 v.1.3) v.2 v.3 v.4 v.5 v.6) (Subj.mk s.1) fun Ua=>Cnd (Ua=true) (y50 true) (Cnd (V9=true) (y50 (decide (Qe<y1.4))) (y50 false)))) fun y2r=>Cnd (q8i=true) (Cnd (Qm.2=ByteArray.mk (Array.mk [])) (y2r true) (q6m (Envt.mk (Sett.mk v.1.1 v.1.2 v.1.3) v.2 v.3 v.4 v.5 v.6) Qm fun Wy=>y2r Wy)) (y2r false)) fun v4b=>Cnd (V9=true) (Uc y1.3 Qg.2 fun Qm=>v4b Qm) (v4b (-1:Int)))) fun z0v=>Fits v.5->Lp1 (fun Qf j1c=>CAt v.5 Qf (fun y3=>Cnd (y3.1=key) (z0v Qf) (InI (Qf+1)/\j1c (Qf+1))) (z0v (-1:Int))) (0:Int)
def Wa:J9:=q9k J7 Ut U9 q2d W2 R0 q13
abbrev z56:Type:=List (List Int)->(List (Int)->Prop)->Prop
def z0n:z56:=fun fields K=>Lp2 (fun Qa Qy q3a=>Fits fields->CAt fields Qy (fun y2=>Fits y2->Lp2 (fun Qm q8i y7w=>Cnd ((0:Int)<=q8i) ((0:Int)<=Go.IntKind.u64.wrap q8i/\Sml (Qm++[Go.IntKind.u8.wrap ((Go.IntKind.u64.wrap (↑y2.length:Int)).fdiv ((2:Int) ^ Min.min (Go.IntKind.u64.wrap q8i).toNat (64:Nat)))]).length/\InI (q8i - 8)/\y7w (Qm++[Go.IntKind.u8.wrap ((Go.IntKind.u64.wrap (↑y2.length:Int)).fdiv ((2:Int) ^ Min.min (Go.IntKind.u64.wrap q8i).toNat (64:Nat)))]) (q8i - 8)) (At fields Qy fun y6=>Sml (Qm++y6).length/\InI (Qy+1)/\q3a (Qm++y6) (Qy+1))) Qa (56:Int)) (K Qa)) [] (0:Int)
abbrev z1k:Type:=Int->Int->(Int->Prop)->Prop
def q7y:z1k:=fun x n K=>(0:Int)<=n/\(0:Int)<=Go.IntKind.u64.wrap ((64:Int) - n)/\K (Go.IntKind.u64.wrap (↑(BitVec.ofInt (64:Nat) (Go.IntKind.u64.wrap (x*2 ^ Min.min n.toNat (64:Nat)))|||BitVec.ofInt (64:Nat) (x.fdiv ((2:Int) ^ Min.min (Go.IntKind.u64.wrap ((64:Int) - n)).toNat (64:Nat)))).toNat:Int))
abbrev G5:Type:=Sip->Int->(Sip->Prop)->Prop
def q5l(Gq:z1k):G5:=fun v n K=>Lp5 (fun Qa Qy j1b q5u w4v y56=>Cnd (Qa<n) (Gq j1b (13:Int) fun Qc=>Gq (Go.IntKind.u64.wrap (Qy+j1b)) (32:Int) fun Qf=>Gq w4v (16:Int) fun Qg=>Gq (Go.IntKind.u64.wrap (↑(BitVec.ofInt (64:Nat) Qg ^^^ BitVec.ofInt (64:Nat) (Go.IntKind.u64.wrap (q5u+w4v))).toNat:Int)) (21:Int) fun Qe=>Gq (Go.IntKind.u64.wrap (↑(BitVec.ofInt (64:Nat) Qc ^^^ BitVec.ofInt (64:Nat) (Go.IntKind.u64.wrap (Qy+j1b))).toNat:Int)) (17:Int) fun Qm=>Gq (Go.IntKind.u64.wrap (Go.IntKind.u64.wrap (q5u+w4v)+Go.IntKind.u64.wrap (↑(BitVec.ofInt (64:Nat) Qc ^^^ BitVec.ofInt (64:Nat) (Go.IntKind.u64.wrap (Qy+j1b))).toNat:Int))) (32:Int) fun Z7=>InI (Qa+1)/\y56 (Qa+1) (Go.IntKind.u64.wrap (Qf+Go.IntKind.u64.wrap (↑(BitVec.ofInt (64:Nat) Qg ^^^ BitVec.ofInt (64:Nat) (Go.IntKind.u64.wrap (q5u+w4v))).toNat:Int))) (Go.IntKind.u64.wrap (↑(BitVec.ofInt (64:Nat) Qm ^^^ BitVec.ofInt (64:Nat) (Go.IntKind.u64.wrap (Go.IntKind.u64.wrap (q5u+w4v)+Go.IntKind.u64.wrap (↑(BitVec.ofInt (64:Nat) Qc ^^^ BitVec.ofInt (64:Nat) (Go.IntKind.u64.wrap (Qy+j1b))).toNat:Int)))).toNat:Int)) Z7 (Go.IntKind.u64.wrap (↑(BitVec.ofInt (64:Nat) Qe ^^^ BitVec.ofInt (64:Nat) (Go.IntKind.u64.wrap (Qf+Go.IntKind.u64.wrap (↑(BitVec.ofInt (64:Nat) Qg ^^^ BitVec.ofInt (64:Nat) (Go.IntKind.u64.wrap (q5u+w4v))).toNat:Int)))).toNat:Int))) (K (Sip.mk Qy j1b q5u w4v))) (0:Int) v.1 v.2 v.3 v.4
def Zx:G5:=q5l q7y
abbrev z9z:Type:=Int->Int->List (Int)->(Int->Prop)->Prop
def w2q(Vj:G5):z9z:=fun k0 k1 b K=>Lp5 (fun Qa Qy j1b q5u w4v y56=>Fits b->(8:Int)≠(0:Int)/\InI ((↑b.length:Int).tdiv (8:Int))/\Cnd (Qa<=(↑b.length:Int).tdiv (8:Int)) (Lp2 (fun Qf Zn q6u=>Cnd (Zn<8) (InI ((8:Int)*Qa)/\InI ((8:Int)*Qa+Zn)/\(Fits b->Cnd ((8:Int)*Qa+Zn<(↑b.length:Int)) (InI ((8:Int)*Qa)/\InI ((8:Int)*Qa+Zn)/\((0:Int)<=(8:Int)*Qa+Zn/\(8:Int)*Qa+Zn<(↑b.length:Int))/\ ∀y4,b[((8:Int)*Qa+Zn).toNat]? =some y4->InI ((8:Int)*Zn)/\(0:Int)<=Go.IntKind.u64.wrap ((8:Int)*Zn)/\InI (Zn+1)/\q6u (Go.IntKind.u64.wrap (↑(BitVec.ofInt (64:Nat) Qf|||BitVec.ofInt (64:Nat) (Go.IntKind.u64.wrap (Go.IntKind.u64.wrap y4*2 ^ Min.min (Go.IntKind.u64.wrap ((8:Int)*Zn)).toNat (64:Nat)))).toNat:Int)) (Zn+1)) (Jn1 (fun Qe=>Vj (Sip.mk Qy j1b q5u (Go.IntKind.u64.wrap (↑(BitVec.ofInt (64:Nat) w4v ^^^ BitVec.ofInt (64:Nat) Qe).toNat:Int))) (2:Int) fun Qm=>InI (Qa+1)/\y56 (Qa+1) (Go.IntKind.u64.wrap (↑(BitVec.ofInt (64:Nat) Qm.1 ^^^ BitVec.ofInt (64:Nat) Qe).toNat:Int)) Qm.2 Qm.3 Qm.4) fun v4b=>Fits b->(8:Int)≠(0:Int)/\InI ((↑b.length:Int).tdiv (8:Int))/\Cnd (Qa=(↑b.length:Int).tdiv (8:Int)) (Fits b->(256:Int)≠(0:Int)/\(0:Int)<=(56:Int)/\v4b (Go.IntKind.u64.wrap (↑(BitVec.ofInt (64:Nat) Qf|||BitVec.ofInt (64:Nat) (Go.IntKind.u64.wrap (Go.IntKind.u64.wrap ((↑b.length:Int).tmod (256:Int))*(2:Int) ^ Min.min (Int.toNat (56:Int)) (64:Nat)))).toNat:Int))) (v4b Qf)))) (Jn1 (fun Qg=>Vj (Sip.mk Qy j1b q5u (Go.IntKind.u64.wrap (↑(BitVec.ofInt (64:Nat) w4v ^^^ BitVec.ofInt (64:Nat) Qg).toNat:Int))) (2:Int) fun Qe=>InI (Qa+1)/\y56 (Qa+1) (Go.IntKind.u64.wrap (↑(BitVec.ofInt (64:Nat) Qe.1 ^^^ BitVec.ofInt (64:Nat) Qg).toNat:Int)) Qe.2 Qe.3 Qe.4) fun v8r=>Fits b->(8:Int)≠(0:Int)/\InI ((↑b.length:Int).tdiv (8:Int))/\Cnd (Qa=(↑b.length:Int).tdiv (8:Int)) (Fits b->(256:Int)≠(0:Int)/\(0:Int)<=(56:Int)/\v8r (Go.IntKind.u64.wrap (↑(BitVec.ofInt (64:Nat) Qf|||BitVec.ofInt (64:Nat) (Go.IntKind.u64.wrap (Go.IntKind.u64.wrap ((↑b.length:Int).tmod (256:Int))*(2:Int) ^ Min.min (Int.toNat (56:Int)) (64:Nat)))).toNat:Int))) (v8r Qf))) (0:Int) (0:Int)) (Vj (Sip.mk Qy j1b (Go.IntKind.u64.wrap (↑(BitVec.ofInt (64:Nat) q5u ^^^ BitVec.ofInt (64:Nat) (255:Int)).toNat:Int)) w4v) (4:Int) fun Qf=>K (Go.IntKind.u64.wrap (↑(BitVec.ofInt (64:Nat) (Go.IntKind.u64.wrap (↑(BitVec.ofInt (64:Nat) (Go.IntKind.u64.wrap (↑(BitVec.ofInt (64:Nat) Qf.1 ^^^ BitVec.ofInt (64:Nat) Qf.2).toNat:Int)) ^^^ BitVec.ofInt (64:Nat) Qf.3).toNat:Int)) ^^^ BitVec.ofInt (64:Nat) Qf.4).toNat:Int)))) (0:Int) (Go.IntKind.u64.wrap (↑(BitVec.ofInt (64:Nat) k0 ^^^ BitVec.ofInt (64:Nat) (8317987319222330741:Int)).toNat:Int)) (Go.IntKind.u64.wrap (↑(BitVec.ofInt (64:Nat) k1 ^^^ BitVec.ofInt (64:Nat) (7237128888997146477:Int)).toNat:Int)) (Go.IntKind.u64.wrap (↑(BitVec.ofInt (64:Nat) k0 ^^^ BitVec.ofInt (64:Nat) (7816392313619706465:Int)).toNat:Int)) (Go.IntKind.u64.wrap (↑(BitVec.ofInt (64:Nat) k1 ^^^ BitVec.ofInt (64:Nat) (8387220255154660723:Int)).toNat:Int))
def z90:z9z:=w2q Zx
abbrev z32:Type:=Int->List (List Int)->(Int->Prop)->Prop
def j7b(z6l:z56)(j57:z9z):z32:=fun domain fields K=>z6l fields fun Qa=>j57 domain (0:Int) Qa fun Qc=>K Qc
def z33:z32:=j7b z0n z90
abbrev z57:Type:=ByteArray->ByteArray->(Int->Prop)->Prop
def w2r(j1o:z32):z57:=fun salt key K=>Sml salt.size/\Sml key.size/\j1o (1:Int) [List.map (fun b=>(↑b.toNat:Int)) (salt,key,()).1.data.toList,List.map (fun b=>(↑b.toNat:Int)) (salt,key,()).2.1.data.toList] fun Qa=>(10000:Int)≠(0:Int)/\InI (Qa.tmod (10000:Int))/\K (Qa.tmod (10000:Int))
def q8p:z57:=w2r z33
abbrev q47:Type:=Envt->Subj->List (Frc)->(List (Asg)->Prop)->Prop
def z34(Q9:J9):q47:=fun v s forced K=>Fits v.5->Lp2 (fun Qc Zy z5h=>CAt v.5 Zy (fun y2=>Q9 (Envt.mk (Sett.mk v.1.1 v.1.2 v.1.3) v.2 v.3 v.4 v.5 v.6) (Subj.mk s.1) forced y2.1 fun Qe _=>Sml (Qc++[Qe]).length/\InI (Zy+1)/\z5h (Qc++[Qe]) (Zy+1)) (K Qc)) [] (0:Int)
def q48:q47:=z34 Wa
abbrev R4:Type:=(Bool->Prop)->Prop
def z1l(B5:q39)(Q9:J9)(z6m:z57)(q9b:q47):R4:=fun K=>B5 fun Qa=>Q9 (Envt.mk (Sett.mk Qa.1.1 Qa.1.2 Qa.1.3) Qa.2 Qa.3 Qa.4 Qa.5 Qa.6) (Subj.mk [Ctxt.mk (ByteArray.mk (Array.mk [117,115,101,114])) (ByteArray.mk (Array.mk [117])) []]) [] (ByteArray.mk (Array.mk [108])) fun Qc Zy=>B5 fun Qf=>Q9 (Envt.mk (Sett.mk Qf.1.1 Qf.1.2 Qf.1.3) Qf.2 Qf.3 Qf.4 Qf.5 Qf.6) (Subj.mk []) [] (ByteArray.mk (Array.mk [108])) fun Qg V9=>Cnd (Zy=0) (Cnd (Qc.2=ByteArray.mk (Array.mk [120])) (Cnd (Qc.4=2) (z6m (ByteArray.mk (Array.mk [])) (ByteArray.mk (Array.mk [117])) fun Qe=>Cnd (Qc.3=Qe) (Cnd (V9=0) (Cnd (Qg.1=ByteArray.mk (Array.mk [108])/\Qg.2=ByteArray.mk (Array.mk [])/\Qg.3=(-1:Int)/\Qg.4=0/\Qg.5=false) (q9b (Envt.mk (Sett.mk (ByteArray.mk (Array.mk [])) (ByteArray.mk (Array.mk [])) (0:Int)) [] [] [] [] []) (Subj.mk []) [] fun Qm=>Fits Qm->K (decide ((↑Qm.length:Int)=0))) (K false)) (K false)) (K false)) (K false)) (K false)) (K false)
def R5:R4:=z1l q4a Wa q8p q48
abbrev j2i:Type:=List (Int)->Int->(List (Int)->Int->Prop)->Prop
def z72:j2i:=fun list_ most K=>Jn1 (fun Qa=>K Qa (0:Int)) fun z0v=>Fits list_->Cnd (most<(↑list_.length:Int)) (((0:Int)<=(0:Int)/\(0:Int)<=most/\most<=(↑list_.length:Int))/\z0v (List.drop (Int.toNat (0:Int)) (List.take most.toNat list_))) (z0v list_)
abbrev q7z:Type:=List (Int)->Int->ByteArray->(Ctxt->Int->Prop)->Prop
def z73(z2f:z7n)(Q2:Wu)(Qb:Zg)(Je:q1j):q7z:=fun list at_ kind K=>z2f list at_ fun Qa Qy=>Q2 fun Qc=>Lp3 (fun Qf Zn w4x y7p=>Fits Qc->CAt Qc Qf (fun y4=>Cnd (y4.1=kind) (Qb list w4x (4:Int) fun Z7 z87=>Cnd ((0:Int)<Z7) (At Qc Qf fun y7=>At Qc Qf fun y9=>Je list z87 y9.3 fun J2 j9h=>Sml (Zn++[Attr.mk y7.2 J2]).length/\InI (Qf+1)/\y7p (Qf+1) (Zn++[Attr.mk y7.2 J2]) j9h) (InI (Qf+1)/\y7p (Qf+1) Zn z87)) (InI (Qf+1)/\y7p (Qf+1) Zn w4x)) (K (Ctxt.mk kind Qa Zn) w4x)) (0:Int) [] Qy
def q3m:q7z:=z73 z7o Ju Zc Ui
abbrev q0p:Type:=List (Int)->Int->(Subj->Int->Prop)->Prop
def z74(Qb:Zg)(q00:q7z):q0p:=fun list at_ K=>Qb list at_ (6:Int) fun Qa Qy=>Jn2 (fun Qc Zy=>Cnd (Qa=1) (K (Subj.mk Zy) Qc) (Cnd (Qa=5) (K (Subj.mk Zy) Qc) (q00 list Qc (ByteArray.mk (Array.mk [117,115,101,114])) fun Qf Zn=>Sml (Zy++[Qf]).length/\K (Subj.mk (Zy++[Qf])) Zn))) fun w1p=>Cnd (Qa=1) (q00 list Qy (ByteArray.mk (Array.mk [100,101,118,105,99,101])) fun Qf Zn=>Sml ([]++[Qf]).length/\w1p Zn ([]++[Qf])) (Cnd (Qa=2) (q00 list Qy (ByteArray.mk (Array.mk [100,101,118,105,99,101])) fun Qf Zn=>Sml ([]++[Qf]).length/\w1p Zn ([]++[Qf])) (Cnd (Qa=4) (q00 list Qy (ByteArray.mk (Array.mk [100,101,118,105,99,101])) fun Qf Zn=>Sml ([]++[Qf]).length/\w1p Zn ([]++[Qf])) (w1p Qy [])))
def Rk:q0p:=z74 Zc q3m
abbrev z0o:Type:=List (Int)->Int->Envt->(List (Frc)->Int->Prop)->Prop
def j2j(Qb:Zg):z0o:=fun list at_ v K=>Lp3 (fun Qa Qy j1b u0f=>Qb list j1b (3:Int) fun Qc Zy=>Cnd (Qy<Qc) (Qb list Zy (4:Int) fun Qf Zn=>InI ((1:Int)+Qf)/\Jn2 (fun Qg V9=>Jn4 (fun Qe Jw j1e v8y=>Sml (Qa++[Frc.mk Qe Jw j1e]).length/\InI (Qy+1)/\u0f (Qa++[Frc.mk Qe Jw j1e]) (Qy+1) v8y) fun v4b=>Qb list V9 (4:Int) fun Qm q8i=>Fits v.6->CAt v.6 Qm (fun y7=>Jn2 (fun Qq z86=>At v.6 Qm fun y10=>Qb list z86 (4:Int) fun U1 y5x=>Cnd ((0:Int)<U1) (Fits y10.7->Cnd ((0:Int)<(↑y10.7.length:Int)) (Fits y10.7->Qb list y5x (↑y10.7.length:Int) fun j1l y5y=>At y10.7 j1l fun y16=>v4b Qq y7.1 y16.3 y5y) (v4b Qq y7.1 ((1:Int)+Qf) y5x)) (v4b Qq y7.1 ((1:Int)+Qf) y5x)) fun y7q=>Qb list q8i (4:Int) fun Ho q2v=>Cnd ((0:Int)<Ho) (At v.6 Qm fun y11=>y7q y11.2 q2v) (y7q Qg q2v)) (v4b Qg (ByteArray.mk (Array.mk [])) ((1:Int)+Qf) q8i)) fun v8r=>Qb list Zn (3:Int) fun Qe Jw=>Cnd (Qe=1) (v8r (ByteArray.mk (Array.mk [108,98])) Jw) (v8r (ByteArray.mk (Array.mk [108,97])) Jw)) (K Qa Zy)) [] (0:Int) at_
def z0p:z0o:=j2j Zc
abbrev R6:Type:=List (Int)->List (Int)->(Envt->Subj->List (Frc)->Prop)->Prop
def z1m(q9z:j2i)(q29:Ra)(Gs:q0p)(z6n:z0o):R6:=fun codes who K=>q9z codes (400:Int) fun Qa Qy=>q29 Qa Qy (10:Int) fun Qc _=>q9z who (80:Int) fun Qf Zn=>Gs Qf Zn fun Qg V9=>z6n Qf V9 (Envt.mk (Sett.mk Qc.1.1 Qc.1.2 Qc.1.3) Qc.2 Qc.3 Qc.4 Qc.5 Qc.6) fun Qe _=>K (Envt.mk (Sett.mk Qc.1.1 Qc.1.2 Qc.1.3) Qc.2 Qc.3 Qc.4 Qc.5 Qc.6) (Subj.mk Qg.1) Qe
def Ge:R6:=z1m z72 Rb Rk z0p
abbrev z91:Type:=Subj->ByteArray->(Ctxt->Bool->Prop)->Prop
def z35:z91:=fun s kind K=>Lp4 (fun Qa Qy j1b (q5u:List Attr) y9u=>Fits s.1->CAt s.1 Qa (fun y2=>Cnd (y2.1=kind) (At s.1 Qa fun y4=>K y4 true) (InI (Qa+1)/\y9u (Qa+1) Qy j1b q5u)) (K (Ctxt.mk (ByteArray.mk (Array.mk [])) (ByteArray.mk (Array.mk [])) []) false)) (0:Int) (ByteArray.mk (Array.mk [])) (ByteArray.mk (Array.mk [])) []
abbrev j33:Type:=List (Frc)->ByteArray->(Frc->Bool->Prop)->Prop
def z36:j33:=fun l layer K=>Lp4 (fun Qa Qy j1b q5u y9u=>Fits l->CAt l Qa (fun y2=>Cnd (y2.1=layer) (At l Qa fun y4=>K y4 true) (InI (Qa+1)/\y9u (Qa+1) Qy j1b q5u)) (K (Frc.mk (ByteArray.mk (Array.mk [])) (ByteArray.mk (Array.mk [])) (0:Int)) false)) (0:Int) (ByteArray.mk (Array.mk [])) (ByteArray.mk (Array.mk [])) (0:Int)
abbrev q8q:Type:=Envt->ByteArray->(Int->Prop)->Prop
def q2e:q8q:=fun v key K=>Lp1 (fun Qa q1b=>Fits v.6->CAt v.6 Qa (fun y2=>Cnd (y2.1=key) (K Qa) (InI (Qa+1)/\q1b (Qa+1))) (K (-1:Int))) (0:Int)
abbrev j2k:Type:=Envt->Subj->(Bool->Prop)->Prop
def w02(z5k:z91)(z6m:z57):j2k:=fun v s K=>z5k (Subj.mk s.1) v.1.2 fun Qa Qy=>Cnd (Qy=true) (Cnd ((0:Int)<v.1.3) (z6m v.1.1 Qa.2 fun Qc=>K (decide (Qc<v.1.3))) (K false)) (K false)
def j2l:j2k:=w02 z35 q8p
abbrev j2m:Type:=List (ByteArray)->List (Edg)->ByteArray->(Bool->Prop)->Prop
def w03(Zv:Ry):j2m:=fun order edges node K=>Lp1 (fun Qa q1b=>Fits edges->CAt edges Qa (fun y2=>Cnd (y2.1=node) (At edges Qa fun y4=>Zv order y4.2 fun Z7=>Cnd (Z7=true) (InI (Qa+1)/\q1b (Qa+1)) (K false)) (InI (Qa+1)/\q1b (Qa+1))) (Zv order node fun Qf=>K (match decide ((Qf,()).1=true) with|true=>false|false=>true))) (0:Int)
def j2n:j2m:=w03 U7
abbrev j2o:Type:=List (ByteArray)->List (Edg)->(List (ByteArray)->Int->Prop)->Prop
def w04(Zv:Ry)(v4c:j2m):j2o:=fun nodes edges K=>Lp1 (fun Qa q1b=>Fits nodes->Cnd (Qa<(↑nodes.length:Int)) (((0:Int)<=(0:Int)/\(0:Int)<=Qa/\Qa<=(↑nodes.length:Int))/\At nodes Qa fun y2=>Zv (List.drop (Int.toNat (0:Int)) (List.take Qa.toNat nodes)) y2 fun Qe=>Cnd (Qe=true) (K [] (10:Int)) (InI (Qa+1)/\q1b (Qa+1))) (Lp1 (fun Qf j1c=>Fits edges->CAt edges Qf (fun y4=>Zv nodes y4.1 fun Z7=>Cnd (Z7=true) (At edges Qf fun y7=>Zv nodes y7.2 fun Qq=>Cnd (Qq=true) (InI (Qf+1)/\j1c (Qf+1)) (K [] (11:Int))) (K [] (11:Int))) (Lp1 (fun Qe w4y=>Fits Qe->Fits nodes->Cnd ((↑Qe.length:Int)<(↑nodes.length:Int)) (Lp4 (fun Wy z6s v4g v0c y55=>Fits nodes->CAt nodes v4g (fun y9=>v4c v0c edges y9 fun J2=>Cnd (J2=true) (Cnd (z6s=true) (At nodes v4g fun y12=>Cnd (Lk.blt y12 Wy) (At nodes v4g fun y14=>InI (v4g+1)/\y55 y14 true (v4g+1) v0c) (InI (v4g+1)/\y55 Wy z6s (v4g+1) v0c)) (At nodes v4g fun y12=>InI (v4g+1)/\y55 y12 true (v4g+1) v0c)) (InI (v4g+1)/\y55 Wy z6s (v4g+1) v0c)) (Cnd (z6s=true) (Sml ([]++v0c).length/\Sml ([]++v0c++[Wy]).length/\w4y ([]++v0c++[Wy])) (K [] (12:Int)))) (ByteArray.mk (Array.mk [])) false (0:Int) Qe) (K Qe (0:Int))) [])) (0:Int))) (0:Int)
def j2p:j2o:=w04 U7 j2n
abbrev z77:Type:=List (Seg)->(List (ByteArray)->Int->Prop)->Prop
def j7c(Jt:Rw)(q35:q3h)(v4d:j2o):z77:=fun l K=>Jt l fun Qa=>q35 l fun Qc=>v4d Qa Qc fun Qf Zn=>K Qf Zn
def z78:z77:=j7c Rx H5 j2p
abbrev z79:Type:=Subj->ByteArray->ByteArray->(Val->Bool->Prop)->Prop
def j7d(z5k:z91):z79:=fun s kind name K=>z5k (Subj.mk s.1) kind fun Qa Qy=>Cnd (Qy=true) (Cnd (name=ByteArray.mk (Array.mk [107,101,121])) (K (Val.mk (3:Int) (0:Int) Qa.2 []) true) (Lp5 (fun Qc Zy j09 j3z (y51:List ByteArray) y7r=>Fits Qa.3->CAt Qa.3 Qc (fun y3=>Cnd (y3.1=name) (At Qa.3 Qc fun y5=>K (Val.mk y5.2.1 y5.2.2 y5.2.3 y5.2.4) true) (InI (Qc+1)/\y7r (Qc+1) Zy j09 j3z y51)) (K (Val.mk (0:Int) (0:Int) (ByteArray.mk (Array.mk [])) []) false)) (0:Int) (0:Int) (0:Int) (ByteArray.mk (Array.mk [])) [])) (K (Val.mk (0:Int) (0:Int) (ByteArray.mk (Array.mk [])) []) false)
def z8a:z79:=j7d z35
abbrev z38:Type:=ByteArray->ByteArray->Int->(Bool->Prop)->Prop
def q8r:z38:=fun s t i K=>Cnd ((0:Int)<=i) (InI (i+(↑t.size:Int))/\Cnd (i+(↑t.size:Int)<=(↑s.size:Int)) (InI (i+(↑t.size:Int))/\((0:Int)<=i/\i<=i+(↑t.size:Int)/\i+(↑t.size:Int)<=(↑s.size:Int))/\K (decide (s.extract i.toNat (i+(↑t.size:Int)).toNat=t))) (K false)) (K false)
abbrev q9l:Type:=Val->Val->(Bool->Prop)->Prop
def z61(Zv:Ry)(q9c:z38):q9l:=fun v w K=>Cnd (w.1=3) (Cnd (v.1=5) (Zv v.4 w.3 fun Qa=>K Qa) (Lp1 (fun Qa q1b=>Cnd (v.1=3) (InI (Qa+(↑w.3.size:Int))/\Cnd (Qa+(↑w.3.size:Int)<=(↑v.3.size:Int)) (q9c v.3 w.3 Qa fun Qc=>Cnd (Qc=true) (K true) (InI (Qa+1)/\q1b (Qa+1))) (K false)) (K false)) (0:Int))) (K false)
def q9m:q9l:=z61 U7 q8r
abbrev w50:Type:=Bool->Bool->(Int->Prop)->Prop
def z39:w50:=fun less greater K=>Cnd (less=true) (K (-1:Int)) (Cnd (greater=true) (K (1:Int)) (K (0:Int)))
abbrev z4a:Type:=Val->Val->(Int->Int->Prop)->Prop
def j34(Jn:q03)(Qd:w50)(q34:q6q):z4a:=fun a b K=>Jn a fun Qa=>Cnd (Qa=0) (Jn b fun Qc=>Cnd (Qc=0) (Cnd (a.1=b.1) (Cnd (a.1=1) (K (0:Int) (8:Int)) (Cnd (a.1=5) (K (0:Int) (8:Int)) (Cnd (a.1=2) (Qd (decide (a.2<b.2)) (decide (b.2<a.2)) fun Qf=>K Qf (0:Int)) (Cnd (a.1=3) (Qd (decide (Lk.blt a.3 b.3)) (decide (Lk.blt b.3 a.3)) fun Qf=>K Qf (0:Int)) (q34 a.3 fun (Qf:Int×Int×Int) _=>q34 b.3 fun (Qg:Int×Int×Int) _=>Lp1 (fun Qe w4y=>Cnd (Qe<3) (((0:Int)<=Qe/\Qe<(↑(3:Nat):Int))/\((True/\(Qe=(↑(nat_lit 0):Int)->((0:Int)<=Qe/\Qe<(↑(3:Nat):Int))/\((True/\(Qe=(↑(nat_lit 0):Int)->Cnd (Qf.1=Qg.1) (InI (Qe+1)/\w4y (Qe+1)) (((0:Int)<=Qe/\Qe<(↑(3:Nat):Int))/\((True/\(Qe=(↑(nat_lit 0):Int)->((0:Int)<=Qe/\Qe<(↑(3:Nat):Int))/\((True/\(Qe=(↑(nat_lit 0):Int)->Qd (decide (Qf.1<Qg.1)) true fun Qq=>K Qq (0:Int)))/\(Qe=(↑(nat_lit 1):Int)->Qd (decide (Qf.1<Qg.2.1)) true fun Qq=>K Qq (0:Int)))/\(Qe=(↑(nat_lit 2):Int)->Qd (decide (Qf.1<Qg.2.2)) true fun Qq=>K Qq (0:Int))))/\(Qe=(↑(nat_lit 1):Int)->((0:Int)<=Qe/\Qe<(↑(3:Nat):Int))/\((True/\(Qe=(↑(nat_lit 0):Int)->Qd (decide (Qf.2.1<Qg.1)) true fun Qq=>K Qq (0:Int)))/\(Qe=(↑(nat_lit 1):Int)->Qd (decide (Qf.2.1<Qg.2.1)) true fun Qq=>K Qq (0:Int)))/\(Qe=(↑(nat_lit 2):Int)->Qd (decide (Qf.2.1<Qg.2.2)) true fun Qq=>K Qq (0:Int))))/\(Qe=(↑(nat_lit 2):Int)->((0:Int)<=Qe/\Qe<(↑(3:Nat):Int))/\((True/\(Qe=(↑(nat_lit 0):Int)->Qd (decide (Qf.2.2<Qg.1)) true fun Qq=>K Qq (0:Int)))/\(Qe=(↑(nat_lit 1):Int)->Qd (decide (Qf.2.2<Qg.2.1)) true fun Qq=>K Qq (0:Int)))/\(Qe=(↑(nat_lit 2):Int)->Qd (decide (Qf.2.2<Qg.2.2)) true fun Qq=>K Qq (0:Int))))))/\(Qe=(↑(nat_lit 1):Int)->Cnd (Qf.1=Qg.2.1) (InI (Qe+1)/\w4y (Qe+1)) (((0:Int)<=Qe/\Qe<(↑(3:Nat):Int))/\((True/\(Qe=(↑(nat_lit 0):Int)->((0:Int)<=Qe/\Qe<(↑(3:Nat):Int))/\((True/\(Qe=(↑(nat_lit 0):Int)->Qd (decide (Qf.1<Qg.1)) true fun Qq=>K Qq (0:Int)))/\(Qe=(↑(nat_lit 1):Int)->Qd (decide (Qf.1<Qg.2.1)) true fun Qq=>K Qq (0:Int)))/\(Qe=(↑(nat_lit 2):Int)->Qd (decide (Qf.1<Qg.2.2)) true fun Qq=>K Qq (0:Int))))/\(Qe=(↑(nat_lit 1):Int)->((0:Int)<=Qe/\Qe<(↑(3:Nat):Int))/\((True/\(Qe=(↑(nat_lit 0):Int)->Qd (decide (Qf.2.1<Qg.1)) true fun Qq=>K Qq (0:Int)))/\(Qe=(↑(nat_lit 1):Int)->Qd (decide (Qf.2.1<Qg.2.1)) true fun Qq=>K Qq (0:Int)))/\(Qe=(↑(nat_lit 2):Int)->Qd (decide (Qf.2.1<Qg.2.2)) true fun Qq=>K Qq (0:Int))))/\(Qe=(↑(nat_lit 2):Int)->((0:Int)<=Qe/\Qe<(↑(3:Nat):Int))/\((True/\(Qe=(↑(nat_lit 0):Int)->Qd (decide (Qf.2.2<Qg.1)) true fun Qq=>K Qq (0:Int)))/\(Qe=(↑(nat_lit 1):Int)->Qd (decide (Qf.2.2<Qg.2.1)) true fun Qq=>K Qq (0:Int)))/\(Qe=(↑(nat_lit 2):Int)->Qd (decide (Qf.2.2<Qg.2.2)) true fun Qq=>K Qq (0:Int))))))/\(Qe=(↑(nat_lit 2):Int)->Cnd (Qf.1=Qg.2.2) (InI (Qe+1)/\w4y (Qe+1)) (((0:Int)<=Qe/\Qe<(↑(3:Nat):Int))/\((True/\(Qe=(↑(nat_lit 0):Int)->((0:Int)<=Qe/\Qe<(↑(3:Nat):Int))/\((True/\(Qe=(↑(nat_lit 0):Int)->Qd (decide (Qf.1<Qg.1)) true fun Qq=>K Qq (0:Int)))/\(Qe=(↑(nat_lit 1):Int)->Qd (decide (Qf.1<Qg.2.1)) true fun Qq=>K Qq (0:Int)))/\(Qe=(↑(nat_lit 2):Int)->Qd (decide (Qf.1<Qg.2.2)) true fun Qq=>K Qq (0:Int))))/\(Qe=(↑(nat_lit 1):Int)->((0:Int)<=Qe/\Qe<(↑(3:Nat):Int))/\((True/\(Qe=(↑(nat_lit 0):Int)->Qd (decide (Qf.2.1<Qg.1)) true fun Qq=>K Qq (0:Int)))/\(Qe=(↑(nat_lit 1):Int)->Qd (decide (Qf.2.1<Qg.2.1)) true fun Qq=>K Qq (0:Int)))/\(Qe=(↑(nat_lit 2):Int)->Qd (decide (Qf.2.1<Qg.2.2)) true fun Qq=>K Qq (0:Int))))/\(Qe=(↑(nat_lit 2):Int)->((0:Int)<=Qe/\Qe<(↑(3:Nat):Int))/\((True/\(Qe=(↑(nat_lit 0):Int)->Qd (decide (Qf.2.2<Qg.1)) true fun Qq=>K Qq (0:Int)))/\(Qe=(↑(nat_lit 1):Int)->Qd (decide (Qf.2.2<Qg.2.1)) true fun Qq=>K Qq (0:Int)))/\(Qe=(↑(nat_lit 2):Int)->Qd (decide (Qf.2.2<Qg.2.2)) true fun Qq=>K Qq (0:Int)))))))/\(Qe=(↑(nat_lit 1):Int)->((0:Int)<=Qe/\Qe<(↑(3:Nat):Int))/\((True/\(Qe=(↑(nat_lit 0):Int)->Cnd (Qf.2.1=Qg.1) (InI (Qe+1)/\w4y (Qe+1)) (((0:Int)<=Qe/\Qe<(↑(3:Nat):Int))/\((True/\(Qe=(↑(nat_lit 0):Int)->((0:Int)<=Qe/\Qe<(↑(3:Nat):Int))/\((True/\(Qe=(↑(nat_lit 0):Int)->Qd (decide (Qf.1<Qg.1)) true fun Qq=>K Qq (0:Int)))/\(Qe=(↑(nat_lit 1):Int)->Qd (decide (Qf.1<Qg.2.1)) true fun Qq=>K Qq (0:Int)))/\(Qe=(↑(nat_lit 2):Int)->Qd (decide (Qf.1<Qg.2.2)) true fun Qq=>K Qq (0:Int))))/\(Qe=(↑(nat_lit 1):Int)->((0:Int)<=Qe/\Qe<(↑(3:Nat):Int))/\((True/\(Qe=(↑(nat_lit 0):Int)->Qd (decide (Qf.2.1<Qg.1)) true fun Qq=>K Qq (0:Int)))/\(Qe=(↑(nat_lit 1):Int)->Qd (decide (Qf.2.1<Qg.2.1)) true fun Qq=>K Qq (0:Int)))/\(Qe=(↑(nat_lit 2):Int)->Qd (decide (Qf.2.1<Qg.2.2)) true fun Qq=>K Qq (0:Int))))/\(Qe=(↑(nat_lit 2):Int)->((0:Int)<=Qe/\Qe<(↑(3:Nat):Int))/\((True/\(Qe=(↑(nat_lit 0):Int)->Qd (decide (Qf.2.2<Qg.1)) true fun Qq=>K Qq (0:Int)))/\(Qe=(↑(nat_lit 1):Int)->Qd (decide (Qf.2.2<Qg.2.1)) true fun Qq=>K Qq (0:Int)))/\(Qe=(↑(nat_lit 2):Int)->Qd (decide (Qf.2.2<Qg.2.2)) true fun Qq=>K Qq (0:Int))))))/\(Qe=(↑(nat_lit 1):Int)->Cnd (Qf.2.1=Qg.2.1) (InI (Qe+1)/\w4y (Qe+1)) (((0:Int)<=Qe/\Qe<(↑(3:Nat):Int))/\((True/\(Qe=(↑(nat_lit 0):Int)->((0:Int)<=Qe/\Qe<(↑(3:Nat):Int))/\((True/\(Qe=(↑(nat_lit 0):Int)->Qd (decide (Qf.1<Qg.1)) true fun Qq=>K Qq (0:Int)))/\(Qe=(↑(nat_lit 1):Int)->Qd (decide (Qf.1<Qg.2.1)) true fun Qq=>K Qq (0:Int)))/\(Qe=(↑(nat_lit 2):Int)->Qd (decide (Qf.1<Qg.2.2)) true fun Qq=>K Qq (0:Int))))/\(Qe=(↑(nat_lit 1):Int)->((0:Int)<=Qe/\Qe<(↑(3:Nat):Int))/\((True/\(Qe=(↑(nat_lit 0):Int)->Qd (decide (Qf.2.1<Qg.1)) true fun Qq=>K Qq (0:Int)))/\(Qe=(↑(nat_lit 1):Int)->Qd (decide (Qf.2.1<Qg.2.1)) true fun Qq=>K Qq (0:Int)))/\(Qe=(↑(nat_lit 2):Int)->Qd (decide (Qf.2.1<Qg.2.2)) true fun Qq=>K Qq (0:Int))))/\(Qe=(↑(nat_lit 2):Int)->((0:Int)<=Qe/\Qe<(↑(3:Nat):Int))/\((True/\(Qe=(↑(nat_lit 0):Int)->Qd (decide (Qf.2.2<Qg.1)) true fun Qq=>K Qq (0:Int)))/\(Qe=(↑(nat_lit 1):Int)->Qd (decide (Qf.2.2<Qg.2.1)) true fun Qq=>K Qq (0:Int)))/\(Qe=(↑(nat_lit 2):Int)->Qd (decide (Qf.2.2<Qg.2.2)) true fun Qq=>K Qq (0:Int))))))/\(Qe=(↑(nat_lit 2):Int)->Cnd (Qf.2.1=Qg.2.2) (InI (Qe+1)/\w4y (Qe+1)) (((0:Int)<=Qe/\Qe<(↑(3:Nat):Int))/\((True/\(Qe=(↑(nat_lit 0):Int)->((0:Int)<=Qe/\Qe<(↑(3:Nat):Int))/\((True/\(Qe=(↑(nat_lit 0):Int)->Qd (decide (Qf.1<Qg.1)) true fun Qq=>K Qq (0:Int)))/\(Qe=(↑(nat_lit 1):Int)->Qd (decide (Qf.1<Qg.2.1)) true fun Qq=>K Qq (0:Int)))/\(Qe=(↑(nat_lit 2):Int)->Qd (decide (Qf.1<Qg.2.2)) true fun Qq=>K Qq (0:Int))))/\(Qe=(↑(nat_lit 1):Int)->((0:Int)<=Qe/\Qe<(↑(3:Nat):Int))/\((True/\(Qe=(↑(nat_lit 0):Int)->Qd (decide (Qf.2.1<Qg.1)) true fun Qq=>K Qq (0:Int)))/\(Qe=(↑(nat_lit 1):Int)->Qd (decide (Qf.2.1<Qg.2.1)) true fun Qq=>K Qq (0:Int)))/\(Qe=(↑(nat_lit 2):Int)->Qd (decide (Qf.2.1<Qg.2.2)) true fun Qq=>K Qq (0:Int))))/\(Qe=(↑(nat_lit 2):Int)->((0:Int)<=Qe/\Qe<(↑(3:Nat):Int))/\((True/\(Qe=(↑(nat_lit 0):Int)->Qd (decide (Qf.2.2<Qg.1)) true fun Qq=>K Qq (0:Int)))/\(Qe=(↑(nat_lit 1):Int)->Qd (decide (Qf.2.2<Qg.2.1)) true fun Qq=>K Qq (0:Int)))/\(Qe=(↑(nat_lit 2):Int)->Qd (decide (Qf.2.2<Qg.2.2)) true fun Qq=>K Qq (0:Int)))))))/\(Qe=(↑(nat_lit 2):Int)->((0:Int)<=Qe/\Qe<(↑(3:Nat):Int))/\((True/\(Qe=(↑(nat_lit 0):Int)->Cnd (Qf.2.2=Qg.1) (InI (Qe+1)/\w4y (Qe+1)) (((0:Int)<=Qe/\Qe<(↑(3:Nat):Int))/\((True/\(Qe=(↑(nat_lit 0):Int)->((0:Int)<=Qe/\Qe<(↑(3:Nat):Int))/\((True/\(Qe=(↑(nat_lit 0):Int)->Qd (decide (Qf.1<Qg.1)) true fun Qq=>K Qq (0:Int)))/\(Qe=(↑(nat_lit 1):Int)->Qd (decide (Qf.1<Qg.2.1)) true fun Qq=>K Qq (0:Int)))/\(Qe=(↑(nat_lit 2):Int)->Qd (decide (Qf.1<Qg.2.2)) true fun Qq=>K Qq (0:Int))))/\(Qe=(↑(nat_lit 1):Int)->((0:Int)<=Qe/\Qe<(↑(3:Nat):Int))/\((True/\(Qe=(↑(nat_lit 0):Int)->Qd (decide (Qf.2.1<Qg.1)) true fun Qq=>K Qq (0:Int)))/\(Qe=(↑(nat_lit 1):Int)->Qd (decide (Qf.2.1<Qg.2.1)) true fun Qq=>K Qq (0:Int)))/\(Qe=(↑(nat_lit 2):Int)->Qd (decide (Qf.2.1<Qg.2.2)) true fun Qq=>K Qq (0:Int))))/\(Qe=(↑(nat_lit 2):Int)->((0:Int)<=Qe/\Qe<(↑(3:Nat):Int))/\((True/\(Qe=(↑(nat_lit 0):Int)->Qd (decide (Qf.2.2<Qg.1)) true fun Qq=>K Qq (0:Int)))/\(Qe=(↑(nat_lit 1):Int)->Qd (decide (Qf.2.2<Qg.2.1)) true fun Qq=>K Qq (0:Int)))/\(Qe=(↑(nat_lit 2):Int)->Qd (decide (Qf.2.2<Qg.2.2)) true fun Qq=>K Qq (0:Int))))))/\(Qe=(↑(nat_lit 1):Int)->Cnd (Qf.2.2=Qg.2.1) (InI (Qe+1)/\w4y (Qe+1)) (((0:Int)<=Qe/\Qe<(↑(3:Nat):Int))/\((True/\(Qe=(↑(nat_lit 0):Int)->((0:Int)<=Qe/\Qe<(↑(3:Nat):Int))/\((True/\(Qe=(↑(nat_lit 0):Int)->Qd (decide (Qf.1<Qg.1)) true fun Qq=>K Qq (0:Int)))/\(Qe=(↑(nat_lit 1):Int)->Qd (decide (Qf.1<Qg.2.1)) true fun Qq=>K Qq (0:Int)))/\(Qe=(↑(nat_lit 2):Int)->Qd (decide (Qf.1<Qg.2.2)) true fun Qq=>K Qq (0:Int))))/\(Qe=(↑(nat_lit 1):Int)->((0:Int)<=Qe/\Qe<(↑(3:Nat):Int))/\((True/\(Qe=(↑(nat_lit 0):Int)->Qd (decide (Qf.2.1<Qg.1)) true fun Qq=>K Qq (0:Int)))/\(Qe=(↑(nat_lit 1):Int)->Qd (decide (Qf.2.1<Qg.2.1)) true fun Qq=>K Qq (0:Int)))/\(Qe=(↑(nat_lit 2):Int)->Qd (decide (Qf.2.1<Qg.2.2)) true fun Qq=>K Qq (0:Int))))/\(Qe=(↑(nat_lit 2):Int)->((0:Int)<=Qe/\Qe<(↑(3:Nat):Int))/\((True/\(Qe=(↑(nat_lit 0):Int)->Qd (decide (Qf.2.2<Qg.1)) true fun Qq=>K Qq (0:Int)))/\(Qe=(↑(nat_lit 1):Int)->Qd (decide (Qf.2.2<Qg.2.1)) true fun Qq=>K Qq (0:Int)))/\(Qe=(↑(nat_lit 2):Int)->Qd (decide (Qf.2.2<Qg.2.2)) true fun Qq=>K Qq (0:Int))))))/\(Qe=(↑(nat_lit 2):Int)->Cnd (Qf.2.2=Qg.2.2) (InI (Qe+1)/\w4y (Qe+1)) (((0:Int)<=Qe/\Qe<(↑(3:Nat):Int))/\((True/\(Qe=(↑(nat_lit 0):Int)->((0:Int)<=Qe/\Qe<(↑(3:Nat):Int))/\((True/\(Qe=(↑(nat_lit 0):Int)->Qd (decide (Qf.1<Qg.1)) true fun Qq=>K Qq (0:Int)))/\(Qe=(↑(nat_lit 1):Int)->Qd (decide (Qf.1<Qg.2.1)) true fun Qq=>K Qq (0:Int)))/\(Qe=(↑(nat_lit 2):Int)->Qd (decide (Qf.1<Qg.2.2)) true fun Qq=>K Qq (0:Int))))/\(Qe=(↑(nat_lit 1):Int)->((0:Int)<=Qe/\Qe<(↑(3:Nat):Int))/\((True/\(Qe=(↑(nat_lit 0):Int)->Qd (decide (Qf.2.1<Qg.1)) true fun Qq=>K Qq (0:Int)))/\(Qe=(↑(nat_lit 1):Int)->Qd (decide (Qf.2.1<Qg.2.1)) true fun Qq=>K Qq (0:Int)))/\(Qe=(↑(nat_lit 2):Int)->Qd (decide (Qf.2.1<Qg.2.2)) true fun Qq=>K Qq (0:Int))))/\(Qe=(↑(nat_lit 2):Int)->((0:Int)<=Qe/\Qe<(↑(3:Nat):Int))/\((True/\(Qe=(↑(nat_lit 0):Int)->Qd (decide (Qf.2.2<Qg.1)) true fun Qq=>K Qq (0:Int)))/\(Qe=(↑(nat_lit 1):Int)->Qd (decide (Qf.2.2<Qg.2.1)) true fun Qq=>K Qq (0:Int)))/\(Qe=(↑(nat_lit 2):Int)->Qd (decide (Qf.2.2<Qg.2.2)) true fun Qq=>K Qq (0:Int))))))) (K (0:Int) (0:Int))) (0:Int)))))) (K (0:Int) (8:Int))) (K (0:Int) Qc)) (K (0:Int) Qa)
def q8s:z4a:=j34 He z39 q02
abbrev j2q:Type:=Subj->Ex->(Bool->Prop)->Prop
def w05(v0e:z79)(Q1:W6)(q09:q6p)(q9c:z38)(z7g:q9l)(j4k:z4a):j2q:=fun s e K=>v0e (Subj.mk s.1) e.2 e.3 fun Qa Qy=>Cnd (Qy=true) (Q1 e.1 fun Qc=>Cnd (Qc=true) (Cnd (e.1=6) (K true) (Cnd (e.1=8) (Lp1 (fun Qf j1c=>Fits e.4->CAt e.4 Qf (fun y4=>q09 Qa y4 fun Z7=>Cnd (Z7=true) (K true) (InI (Qf+1)/\j1c (Qf+1))) (K false)) (0:Int)) (Fits e.4->Cnd ((↑e.4.length:Int)=0) (K false) (((0:Int)<=(0:Int)/\(0:Int)<(↑e.4.length:Int))/\ ∀y3,e.4[Int.toNat (0:Int)]? =some y3->Cnd (Qa.1=3) (Cnd (e.1=7) (q09 Qa y3 fun Qm=>K Qm) (Cnd (e.1=9) (Cnd (y3.1=3) (q9c Qa.3 y3.3 (0:Int) fun Qm=>K Qm) (K false)) (Cnd (e.1=10) (Cnd (y3.1=3) (InI ((↑Qa.3.size:Int) - (↑y3.3.size:Int))/\q9c Qa.3 y3.3 ((↑Qa.3.size:Int) - (↑y3.3.size:Int)) fun Qm=>K Qm) (K false)) (Cnd (e.1=11) (z7g Qa y3 fun Qm=>K Qm) (j4k Qa y3 fun Qm q8i=>Cnd (q8i=0) (Cnd (e.1=12) (K (decide (Qm<0))) (Cnd (e.1=13) (K (decide (Qm<=0))) (Cnd (e.1=14) (K (decide ((0:Int)<Qm))) (K (decide ((0:Int)<=Qm)))))) (K false)))))) (Cnd (e.1=7) (q09 Qa y3 fun Qm=>K Qm) (Cnd (e.1=9) (K false) (Cnd (e.1=10) (K false) (Cnd (e.1=11) (z7g Qa y3 fun Qm=>K Qm) (j4k Qa y3 fun Qm q8i=>Cnd (q8i=0) (Cnd (e.1=12) (K (decide (Qm<0))) (Cnd (e.1=13) (K (decide (Qm<=0))) (Cnd (e.1=14) (K (decide ((0:Int)<Qm))) (K (decide ((0:Int)<=Qm)))))) (K false)))))))))) (K false)) (K false)
def j2r:j2q:=w05 z8a Jj q3b q8r q9m q8s
abbrev q6s:Type:=Subj->List (ByteArray)->Ex->(Bool->Prop)->Prop
def w06(Zv:Ry)(v4e:j2q)(X:q6s):q6s:=fun s in_ e K=>Cnd (e.1=1) (K true) (Cnd (e.1=2) (Lp1 (fun Qa q1b=>Fits e.5->CAt e.5 Qa (fun y2=>X (Subj.mk s.1) in_ (Ex.mk y2.1 y2.2 y2.3 y2.4 y2.5) fun Qe=>Cnd (Qe=true) (InI (Qa+1)/\q1b (Qa+1)) (K false)) (K true)) (0:Int)) (Cnd (e.1=3) (Lp1 (fun Qa q1b=>Fits e.5->CAt e.5 Qa (fun y2=>X (Subj.mk s.1) in_ (Ex.mk y2.1 y2.2 y2.3 y2.4 y2.5) fun Qe=>Cnd (Qe=true) (K true) (InI (Qa+1)/\q1b (Qa+1))) (K false)) (0:Int)) (Cnd (e.1=4) (Fits e.5->Cnd ((0:Int)<(↑e.5.length:Int)) (((0:Int)<=(0:Int)/\(0:Int)<(↑e.5.length:Int))/\ ∀y1,e.5[Int.toNat (0:Int)]? =some y1->X (Subj.mk s.1) in_ (Ex.mk y1.1 y1.2 y1.3 y1.4 y1.5) fun Qg=>K (match decide ((Qg,()).1=true) with|true=>false|false=>true)) (K false)) (Cnd (e.1=5) (Zv in_ e.3 fun Qa=>K Qa) (v4e (Subj.mk s.1) (Ex.mk e.1 e.2 e.3 e.4 e.5) fun Qa=>K Qa)))))
def j2s:q6s:=fun s in_ e K=> ∀X:q6s,(∀s in_ e K,w06 U7 j2r X s in_ e K->X s in_ e K)->X s in_ e K
abbrev z4b:Type:=Seg->Subj->List (ByteArray)->(Bool->Prop)->Prop
def j35(z5k:z91)(Zv:Ry)(j30:q6s):z4b:=fun g s in_ K=>z5k (Subj.mk s.1) g.2 fun Qa Qy=>Cnd (Qy=true) (Zv g.4 Qa.2 fun Qc=>Cnd (Qc=true) (K false) (Zv g.3 Qa.2 fun Qf=>Cnd (Qf=true) (K true) (Cnd (g.5.1=0) (K false) (j30 (Subj.mk s.1) in_ (Ex.mk g.5.1 g.5.2 g.5.3 g.5.4 g.5.5) fun Qg=>K Qg)))) (K false)
def z4c:z4b:=j35 z35 U7 j2s
abbrev z1n:Type:=List (Seg)->Subj->(List (ByteArray)->Prop)->Prop
def z92(v0f:z77)(w7q:z4b)(Uf:q51):z1n:=fun l s K=>v0f l fun Qa _=>Lp2 (fun Qc Zy z5h=>Fits Qa->Cnd (Zy<(↑Qa.length:Int)) (Lp2 (fun Qg V9 j5g=>Fits l->CAt l V9 (fun y5=>At Qa Zy fun y7=>Cnd (y5.1=y7) (At l V9 fun y9=>w7q (Seg.mk y9.1 y9.2 y9.3 y9.4 (Ex.mk y9.5.1 y9.5.2 y9.5.3 y9.5.4 y9.5.5)) (Subj.mk s.1) Qg fun J2=>Cnd (J2=true) (At Qa Zy fun y12=>Uf Qg y12 fun J3=>InI (V9+1)/\j5g J3 (V9+1)) (InI (V9+1)/\j5g Qg (V9+1))) (InI (V9+1)/\j5g Qg (V9+1))) (InI (Zy+1)/\z5h Qg (Zy+1))) Qc (0:Int)) (K Qc)) [] (0:Int)
def z1o:z1n:=z92 z78 z4c q1y
abbrev q9n:Type:=Envt->Subj->ByteArray->(Bool->Prop)->Prop
def z62(j1p:q8q)(w4w:z1n)(j30:q6s):q9n:=fun v s experiment K=>j1p (Envt.mk (Sett.mk v.1.1 v.1.2 v.1.3) v.2 v.3 v.4 v.5 v.6) experiment fun Qa=>Cnd ((0:Int)<=Qa) (At v.6 Qa fun y1=>w4w v.3 (Subj.mk s.1) fun Qg=>j30 (Subj.mk s.1) Qg (Ex.mk y1.8.1 y1.8.2 y1.8.3 y1.8.4 y1.8.5) fun Qe=>K Qe) (K false)
def q9o:q9n:=z62 q2e z1o j2s
abbrev q2f:Type:=List (Int)->List (Int)->Subj->List (Frc)->ByteArray->(Bool->Prop)->Prop
def q2g(Bj:R4)(Bk:R6)(Bi:Rz)(v4f:j2k)(W4:W0)(w0k:q9n)(U0:Rf)(w7r:j33):q2f:=fun codes who s forced key K=>Bj fun Qa=>Cnd (Qa=true) (Fits s.1->Cnd ((8:Int)<(↑s.1.length:Int)) (K true) (Fits forced->Cnd ((8:Int)<(↑forced.length:Int)) (K true) (Bk codes who fun Qg V9 y52=>[Subj.mk V9.1,Subj.mk s.1].length<=(9223372036854775807:Nat)->Lp1 (fun Qm j56=>Cnd (Qm<(↑[Subj.mk V9.1,Subj.mk s.1].length:Int)) (((0:Int)<=Qm/\Qm<(↑[Subj.mk V9.1,Subj.mk s.1].length:Int))/\ ∀y6,[Subj.mk V9.1,Subj.mk s.1][Qm.toNat]? =some y6->Bi (Envt.mk (Sett.mk Qg.1.1 Qg.1.2 Qg.1.3) Qg.2 Qg.3 Qg.4 Qg.5 Qg.6) (Subj.mk y6.1) fun Ua=>v4f (Envt.mk (Sett.mk Qg.1.1 Qg.1.2 Qg.1.3) Qg.2 Qg.3 Qg.4 Qg.5 Qg.6) (Subj.mk y6.1) fun Qq=>Cnd (Ua=Qq) ([ByteArray.mk (Array.mk [120,97]),ByteArray.mk (Array.mk [120,98]),ByteArray.mk (Array.mk [120,99]),key].length<=(9223372036854775807:Nat)->Lp1 (fun J2 y5z=>Cnd (J2<(↑[ByteArray.mk (Array.mk [120,97]),ByteArray.mk (Array.mk [120,98]),ByteArray.mk (Array.mk [120,99]),key].length:Int)) (((0:Int)<=J2/\J2<(↑[ByteArray.mk (Array.mk [120,97]),ByteArray.mk (Array.mk [120,98]),ByteArray.mk (Array.mk [120,99]),key].length:Int))/\ ∀y12,[ByteArray.mk (Array.mk [120,97]),ByteArray.mk (Array.mk [120,98]),ByteArray.mk (Array.mk [120,99]),key][J2.toNat]? =some y12->W4 (Envt.mk (Sett.mk Qg.1.1 Qg.1.2 Qg.1.3) Qg.2 Qg.3 Qg.4 Qg.5 Qg.6) (Subj.mk y6.1) y12 fun J3=>w0k (Envt.mk (Sett.mk Qg.1.1 Qg.1.2 Qg.1.3) Qg.2 Qg.3 Qg.4 Qg.5 Qg.6) (Subj.mk y6.1) y12 fun j1l=>Cnd (J3=j1l) (InI (J2+1)/\y5z (J2+1)) (K false)) (InI (Qm+1)/\j56 (Qm+1))) (0:Int)) (K false)) ([y52,forced].length<=(9223372036854775807:Nat)->Lp1 (fun Wy y5k=>Cnd (Wy<(↑[y52,forced].length:Int)) (((0:Int)<=Wy/\Wy<(↑[y52,forced].length:Int))/\ ∀y8,[y52,forced][Wy.toNat]? =some y8->[ByteArray.mk (Array.mk [108,97]),ByteArray.mk (Array.mk [108,98]),key].length<=(9223372036854775807:Nat)->Lp1 (fun J2 y5z=>Cnd (J2<(↑[ByteArray.mk (Array.mk [108,97]),ByteArray.mk (Array.mk [108,98]),key].length:Int)) (((0:Int)<=J2/\J2<(↑[ByteArray.mk (Array.mk [108,97]),ByteArray.mk (Array.mk [108,98]),key].length:Int))/\ ∀y12,[ByteArray.mk (Array.mk [108,97]),ByteArray.mk (Array.mk [108,98]),key][J2.toNat]? =some y12->U0 y8 y12 fun J3 y9v=>w7r y8 y12 fun j1l y5y=>Cnd (J3.1=j1l.1/\J3.2=j1l.2/\J3.3=j1l.3) (Cnd (y9v=y5y) (InI (J2+1)/\y5z (J2+1)) (K false)) (K false)) (InI (Wy+1)/\y5k (Wy+1))) (0:Int)) (K true)) (0:Int))) (0:Int)))) (K false)
def q2h:q2f:=q2g R5 Ge R0 j2l W2 q9o Ut z36
abbrev w2s:Type:=Int->Int->(Int->Prop)->Prop
def z8b:w2s:=fun x n K=>n≠(0:Int)/\Cnd (x.tmod n<0) (InI (x.tmod n+n)/\K (x.tmod n+n)) (K (x.tmod n))
abbrev q0q:Type:=List (Int)->List (Int)->List (Int)->Int->Int->(Bool->Prop)->Prop
def q0r(Bj:R4)(Bk:R6)(j9j:w2s)(Wj:q0j)(q9z:j2i)(Gs:q0p)(Q9:J9):q0q:=fun codes who later which holdout K=>Bj fun Qa=>Cnd (Qa=true) (Bk codes who fun Qc Zy _=>j9j which (4:Int) fun Qf=>Fits Qc.6->Cnd ((↑Qc.6.length:Int)<=Qf) (K true) (At Qc.6 Qf fun y4=>Cnd (y4.5=2) (At Qc.6 Qf fun y6=>Fits y6.7->InI ((↑y6.7.length:Int) - 1)/\((0:Int)<=(↑y6.7.length:Int) - 1/\(↑y6.7.length:Int) - 1<(↑y6.7.length:Int))/\ ∀y9,y6.7[((↑y6.7.length:Int) - 1).toNat]? =some y9->j9j holdout (10001:Int) fun J2=>Wj (Envt.mk (Sett.mk (ByteArray.mk (Array.mk [122])) (ByteArray.mk (Array.mk [117,115,101,114])) J2) Qc.2 Qc.3 Qc.4 Qc.5 Qc.6) fun U1=>Cnd (U1=true) (q9z later (80:Int) fun Q7 j9i=>Gs Q7 j9i fun J3 _=>[Subj.mk Zy.1,Subj.mk J3.1,Subj.mk []].length<=(9223372036854775807:Nat)->Lp4 (fun Ha v8t y79 y1i y9w=>Cnd (Ha<(↑[Subj.mk Zy.1,Subj.mk J3.1,Subj.mk []].length:Int)) (At v8t Ha fun y17=>Q9 (Envt.mk (Sett.mk (ByteArray.mk (Array.mk [122])) (ByteArray.mk (Array.mk [117,115,101,114])) J2) Qc.2 Qc.3 Qc.4 Qc.5 Qc.6) (Subj.mk y17.1) y1i y6.2 fun Zz v8v=>Q9 (Envt.mk (Sett.mk (ByteArray.mk (Array.mk [122])) (ByteArray.mk (Array.mk [117,115,101,114])) J2) Qc.2 Qc.3 Qc.4 Qc.5 Qc.6) (Subj.mk y17.1) y79 y6.2 fun q0z v4a=>Cnd (v8v=0) (Cnd (v4a=0) (Cnd (Zz.2=y6.1) (((0:Int)<=(0:Int)/\(0:Int)<(↑y1i.length:Int))/\ ∀y21,y1i[Int.toNat (0:Int)]? =some y21->Cnd (Zz.4=y21.3) (Cnd (Zz.5=true) (K false) (Cnd (q0z.2=ByteArray.mk (Array.mk [])) (Cnd (q0z.4=0) (Cnd (q0z.5=true) (K false) (InI (Ha+1)/\y9w (Ha+1) v8t y79 y1i)) (K false)) (K false))) (K false)) (K false)) (K false)) (K false)) (K true)) (0:Int) [Subj.mk Zy.1,Subj.mk J3.1,Subj.mk []] [Frc.mk y6.2 (ByteArray.mk (Array.mk [])) (0:Int)] [Frc.mk y6.2 y6.1 y9.3]) (K true)) (K true))) (K false)
def Jk:q0q:=q0r R5 Ge z8b V8 z72 Rk Wa
end Go.En
end
noncomputable section
set_option maxRecDepth 100000
namespace Go.Proofs
open Go.Shelf
def Tryz.laysC172_ren:Go.Shelf.Ren:=⟨fun|172=>270|244=>287|245=>288|247=>296|279=>297|280=>298|281=>299|282=>300|287=>303|316=>304|171=>306|205=>305|321=>307|322=>308|243=>309|246=>310|283=>311|284=>312|285=>313|286=>314|129=>203|317=>315|318=>316|319=>317|320=>318|337=>319|338=>320|n=>n,fun|9=>9|3=>3|75=>326|76=>327|4=>4|5=>5|167=>354|37=>22|0=>0|85=>355|2=>2|168=>357|53=>112|175=>360|46=>221|210=>364|127=>368|145=>371|143=>369|21=>21|171=>373|173=>375|212=>378|51=>282|20=>20|213=>379|232=>380|233=>381|80=>124|n=>n,fun|15=>6|16=>7|17=>8|18=>9|19=>10|n=>n⟩
theorem Tryz.laysC172:Go.Proofs.LaysC.n172 Tryz.prog Tryz.laysC172_ren:={
 mixed:=by kernel_rfl
 f129:=Tryz.func203.trans (congrArg some (by kernel_rfl))
 f171:=Tryz.func306.trans (congrArg some (by kernel_rfl))
 f172:=Tryz.func270.trans (congrArg some (by kernel_rfl))
 f205:=Tryz.func305.trans (congrArg some (by kernel_rfl))
 f243:=Tryz.func309.trans (congrArg some (by kernel_rfl))
 f244:=Tryz.func287.trans (congrArg some (by kernel_rfl))
 f245:=Tryz.func288.trans (congrArg some (by kernel_rfl))
 f246:=Tryz.func310.trans (congrArg some (by kernel_rfl))
 f247:=Tryz.func296.trans (congrArg some (by kernel_rfl))
 f279:=Tryz.func297.trans (congrArg some (by kernel_rfl))
 f280:=Tryz.func298.trans (congrArg some (by kernel_rfl))
 f281:=Tryz.func299.trans (congrArg some (by kernel_rfl))
 f282:=Tryz.func300.trans (congrArg some (by kernel_rfl))
 f283:=Tryz.func311.trans (congrArg some (by kernel_rfl))
 f284:=Tryz.func312.trans (congrArg some (by kernel_rfl))
 f285:=Tryz.func313.trans (congrArg some (by kernel_rfl))
 f286:=Tryz.func314.trans (congrArg some (by kernel_rfl))
 f287:=Tryz.func303.trans (congrArg some (by kernel_rfl))
 f316:=Tryz.func304.trans (congrArg some (by kernel_rfl))
 f317:=Tryz.func315.trans (congrArg some (by kernel_rfl))
 f318:=Tryz.func316.trans (congrArg some (by kernel_rfl))
 f319:=Tryz.func317.trans (congrArg some (by kernel_rfl))
 f320:=Tryz.func318.trans (congrArg some (by kernel_rfl))
 f321:=Tryz.func307.trans (congrArg some (by kernel_rfl))
 f322:=Tryz.func308.trans (congrArg some (by kernel_rfl))
 f337:=Tryz.func319.trans (congrArg some (by kernel_rfl))
 f338:=Tryz.func320.trans (congrArg some (by kernel_rfl))
 t0:=Tryz.underlying0
 a0:=Tryz.isAgg0
 z0:=Tryz.sizeOf0
 v0:=Tryz.zeroValue0
 t2:=Tryz.underlying2
 a2:=Tryz.isAgg2
 z2:=Tryz.sizeOf2
 v2:=Tryz.zeroValue2
 t3:=Tryz.underlying3
 a3:=Tryz.isAgg3
 z3:=Tryz.sizeOf3
 v3:=Tryz.zeroValue3
 t4:=Tryz.underlying4
 a4:=Tryz.isAgg4
 z4:=Tryz.sizeOf4
 v4:=Tryz.zeroValue4
 t5:=Tryz.underlying5
 a5:=Tryz.isAgg5
 z5:=Tryz.sizeOf5
 v5:=Tryz.zeroValue5
 t9:=Tryz.underlying9
 a9:=Tryz.isAgg9
 z9:=Tryz.sizeOf9
 v9:=Tryz.zeroValue9
 t20:=Tryz.underlying20
 a20:=Tryz.isAgg20
 z20:=Tryz.sizeOf20
 v20:=Tryz.zeroValue20
 t21:=Tryz.underlying21
 a21:=Tryz.isAgg21
 z21:=Tryz.sizeOf21
 v21:=Tryz.zeroValue21
 t37:=Tryz.underlying22
 a37:=Tryz.isAgg22
 z37:=Tryz.sizeOf22
 v37:=Tryz.zeroValue22
 t46:=Tryz.underlying221
 a46:=Tryz.isAgg221
 z46:=Tryz.sizeOf221
 v46:=Tryz.zeroValue221
 t51:=Tryz.underlying282
 a51:=Tryz.isAgg282
 z51:=Tryz.sizeOf282
 v51:=Tryz.zeroValue282
 t53:=Tryz.underlying112
 a53:=Tryz.isAgg112
 z53:=Tryz.sizeOf112
 v53:=Tryz.zeroValue112
 t75:=Tryz.underlying326
 a75:=Tryz.isAgg326
 z75:=Tryz.sizeOf326
 v75:=Tryz.zeroValue326
 t76:=Tryz.underlying327
 a76:=Tryz.isAgg327
 z76:=Tryz.sizeOf327
 v76:=Tryz.zeroValue327
 t85:=Tryz.underlying355
 a85:=Tryz.isAgg355
 z85:=Tryz.sizeOf355
 v85:=Tryz.zeroValue355
 t127:=Tryz.underlying368
 a127:=Tryz.isAgg368
 z127:=Tryz.sizeOf368
 v127:=Tryz.zeroValue368
 t143:=Tryz.underlying369
 a143:=Tryz.isAgg369
 z143:=Tryz.sizeOf369
 v143:=Tryz.zeroValue369
 t145:=Tryz.underlying371
 a145:=Tryz.isAgg371
 z145:=Tryz.sizeOf371
 v145:=Tryz.zeroValue371
 t167:=Tryz.underlying354
 a167:=Tryz.isAgg354
 z167:=Tryz.sizeOf354
 v167:=Tryz.zeroValue354
 t168:=Tryz.underlying357
 a168:=Tryz.isAgg357
 z168:=Tryz.sizeOf357
 v168:=Tryz.zeroValue357
 t171:=Tryz.underlying373
 a171:=Tryz.isAgg373
 z171:=Tryz.sizeOf373
 v171:=Tryz.zeroValue373
 t173:=Tryz.underlying375
 a173:=Tryz.isAgg375
 z173:=Tryz.sizeOf375
 v173:=Tryz.zeroValue375
 t175:=Tryz.underlying360
 a175:=Tryz.isAgg360
 z175:=Tryz.sizeOf360
 v175:=Tryz.zeroValue360
 t210:=Tryz.underlying364
 a210:=Tryz.isAgg364
 z210:=Tryz.sizeOf364
 v210:=Tryz.zeroValue364
 t212:=Tryz.underlying378
 a212:=Tryz.isAgg378
 z212:=Tryz.sizeOf378
 v212:=Tryz.zeroValue378
 t213:=Tryz.underlying379
 a213:=Tryz.isAgg379
 z213:=Tryz.sizeOf379
 t232:=Tryz.underlying380
 a232:=Tryz.isAgg380
 z232:=Tryz.sizeOf380
 v232:=Tryz.zeroValue380
 t233:=Tryz.underlying381
 a233:=Tryz.isAgg381
 z233:=Tryz.sizeOf381
 v233:=Tryz.zeroValue381
 g15:=by kernel_rfl
 g16:=by kernel_rfl
 g17:=by kernel_rfl
 g18:=by kernel_rfl
 g19:=by kernel_rfl
 t80:=Tryz.underlying124
 a80:=Tryz.isAgg124
 z80:=Tryz.sizeOf124
 v80:=Tryz.zeroValue124
 i0:=by kernel_rfl
 i2:=by kernel_rfl
 i3:=by kernel_rfl
 i4:=by kernel_rfl
 i5:=by kernel_rfl
 i9:=by kernel_rfl
 i20:=by kernel_rfl
 i21:=by kernel_rfl
 i37:=by kernel_rfl
 i46:=by kernel_rfl
 i51:=by kernel_rfl
 i53:=by kernel_rfl
 i75:=by kernel_rfl
 i76:=by kernel_rfl
 i80:=by kernel_rfl
 i85:=by kernel_rfl
 i127:=by kernel_rfl
 i143:=by kernel_rfl
 i145:=by kernel_rfl
 i167:=by kernel_rfl
 i168:=by kernel_rfl
 i171:=by kernel_rfl
 i173:=by kernel_rfl
 i175:=by kernel_rfl
 i210:=by kernel_rfl
 i212:=by kernel_rfl
 i232:=by kernel_rfl
 i233:=by kernel_rfl
 m15:=by kernel_rfl
 m16:=by kernel_rfl
 m17:=by kernel_rfl
 m18:=by kernel_rfl
 m19:=by kernel_rfl
 c0:=by kernel_rfl
 c2:=by kernel_rfl
 c3:=by kernel_rfl
 c4:=by kernel_rfl
 c5:=by kernel_rfl
 c9:=by kernel_rfl
 c20:=by kernel_rfl
 c21:=by kernel_rfl
 c37:=by kernel_rfl
 c46:=by kernel_rfl
 c51:=by kernel_rfl
 c53:=by kernel_rfl
 c75:=by kernel_rfl
 c76:=by kernel_rfl
 c80:=by kernel_rfl
 c85:=by kernel_rfl
 c127:=by kernel_rfl
 c143:=by kernel_rfl
 c145:=by kernel_rfl
 c167:=by kernel_rfl
 c168:=by kernel_rfl
 c171:=by kernel_rfl
 c173:=by kernel_rfl
 c175:=by kernel_rfl
 c210:=by kernel_rfl
 c212:=by kernel_rfl
 c213:=by kernel_rfl
 c232:=by kernel_rfl
 c233:=by kernel_rfl}
open Go.RowKit in
theorem Tryz.strconv_Atoi_ok(s:ByteArray)(hmax:s.size<=9223372036854775806)(v:Int)(h:Lib.atoiAll s.data.toList= .ok v)(w:World):
  Calls Tryz.prog 270 #[.string s] w fun e w'=>e= .returned (.tuple #[.int .i64 v,.nilIface])/\(w'=w∨ ∃t,w'=Lib.bytesWorld w 5 t):=Any.strconv_Atoi_ok Tryz.laysC172 s hmax v h w
open Go.RowKit in
theorem Tryz.strconv_Atoi_syntax(s:ByteArray)(hlim:s.size<=281474976710656)(h:Lib.atoiAll s.data.toList=Go.Lib.NumEnd.syntax)(ev:Value)(w:World)(hv:w.cell? ⟨6,0,none⟩=some ev)(hev:ev= .nilIface∨ ∃te pe,ev= .iface te pe):
  Calls Tryz.prog 270 #[.string s] w fun e w'=> ∃N,e= .returned (.tuple #[.int .i64 (0),.iface 357 (.pointer (some ⟨N,0,none⟩))])/\w.heap.size<=N/\w'.heap[N]? =some (.cells #[.string ⟨#[65,116,111,105]⟩,.string s,ev] 364 (0,0))/\Below w.heap.size w w':=Any.strconv_Atoi_syntax Tryz.laysC172 s hlim h ev w hv hev
open Go.RowKit in
theorem Tryz.strconv_Atoi_range(s:ByteArray)(hlim:s.size<=281474976710656)(h:Lib.atoiAll s.data.toList= .range)(ev:Value)(w:World)(hv:w.cell? ⟨7,0,none⟩=some ev)(hev:ev= .nilIface∨ ∃te pe,ev= .iface te pe):
  Calls Tryz.prog 270 #[.string s] w fun e w'=> ∃N,e= .returned (.tuple #[.int .i64 (Lib.atoiSat s.data.toList),.iface 357 (.pointer (some ⟨N,0,none⟩))])/\w.heap.size<=N/\w'.heap[N]? =some (.cells #[.string ⟨#[65,116,111,105]⟩,.string s,ev] 364 (0,0))/\Below w.heap.size w w':=Any.strconv_Atoi_range Tryz.laysC172 s hlim h ev w hv hev
def Tryz.lays144_ren:Go.Shelf.Ren:=⟨fun|144=>136|143=>177|219=>226|217=>264|225=>265|224=>266|267=>267|266=>282|314=>283|n=>n,fun|9=>9|4=>4|3=>3|5=>5|46=>221|146=>345|51=>282|n=>n,fun|1=>3|n=>n⟩
theorem Tryz.lays144:Go.Proofs.Lays.n144 Tryz.prog Tryz.lays144_ren:={
 mixed:=by kernel_rfl
 f143:=Tryz.func177.trans (congrArg some (by kernel_rfl))
 f144:=Tryz.func136.trans (congrArg some (by kernel_rfl))
 f217:=Tryz.func264.trans (congrArg some (by kernel_rfl))
 f219:=Tryz.func226.trans (congrArg some (by kernel_rfl))
 f224:=Tryz.func266.trans (congrArg some (by kernel_rfl))
 f225:=Tryz.func265.trans (congrArg some (by kernel_rfl))
 f266:=Tryz.func282.trans (congrArg some (by kernel_rfl))
 f267:=Tryz.func267.trans (congrArg some (by kernel_rfl))
 f314:=Tryz.func283.trans (congrArg some (by kernel_rfl))
 t3:=Tryz.underlying3
 a3:=Tryz.isAgg3
 z3:=Tryz.sizeOf3
 v3:=Tryz.zeroValue3
 t4:=Tryz.underlying4
 a4:=Tryz.isAgg4
 z4:=Tryz.sizeOf4
 v4:=Tryz.zeroValue4
 t5:=Tryz.underlying5
 a5:=Tryz.isAgg5
 z5:=Tryz.sizeOf5
 v5:=Tryz.zeroValue5
 t9:=Tryz.underlying9
 a9:=Tryz.isAgg9
 z9:=Tryz.sizeOf9
 v9:=Tryz.zeroValue9
 t46:=Tryz.underlying221
 a46:=Tryz.isAgg221
 z46:=Tryz.sizeOf221
 v46:=Tryz.zeroValue221
 t51:=Tryz.underlying282
 a51:=Tryz.isAgg282
 z51:=Tryz.sizeOf282
 v51:=Tryz.zeroValue282
 t146:=Tryz.underlying345
 a146:=Tryz.isAgg345
 z146:=Tryz.sizeOf345
 v146:=Tryz.zeroValue345
 g1:=by kernel_rfl}
open Go.RowKit Go.Lib in
theorem Tryz.strings_Contains(s sub:ByteArray)(m:Int)(w:World)(hs:s.size<4294967281)(hm:w.cell? ⟨3,0,none⟩=some (.int .i64 m)):
  Calls Tryz.prog 136 #[.string s,.string sub] w fun e w'=>e= .returned (.bool (Lib.contains s.data.toList sub.data.toList))/\w'=w:=Any.strings_Contains Tryz.lays144 s sub m w hs hm
def Tryz.lays190_ren:Go.Shelf.Ren:=⟨fun|190=>80|125=>141|258=>140|128=>202|129=>203|302=>193|303=>194|304=>195|305=>196|306=>197|307=>198|308=>199|309=>200|310=>201|333=>238|329=>239|330=>240|334=>241|335=>242|336=>230|344=>275|n=>n,fun|31=>44|9=>9|3=>3|46=>221|0=>0|51=>282|53=>112|4=>4|183=>275|182=>274|131=>279|5=>5|218=>302|222=>306|228=>331|229=>332|n=>n,fun|n=>n⟩
theorem Tryz.lays190:Go.Proofs.Lays.n190 Tryz.prog Tryz.lays190_ren:={
 mixed:=by kernel_rfl
 f125:=Tryz.func141.trans (congrArg some (by kernel_rfl))
 f128:=Tryz.func202.trans (congrArg some (by kernel_rfl))
 f129:=Tryz.func203.trans (congrArg some (by kernel_rfl))
 f190:=Tryz.func80.trans (congrArg some (by kernel_rfl))
 f258:=Tryz.func140.trans (congrArg some (by kernel_rfl))
 f302:=Tryz.func193.trans (congrArg some (by kernel_rfl))
 f303:=Tryz.func194.trans (congrArg some (by kernel_rfl))
 f304:=Tryz.func195.trans (congrArg some (by kernel_rfl))
 f305:=Tryz.func196.trans (congrArg some (by kernel_rfl))
 f306:=Tryz.func197.trans (congrArg some (by kernel_rfl))
 f307:=Tryz.func198.trans (congrArg some (by kernel_rfl))
 f308:=Tryz.func199.trans (congrArg some (by kernel_rfl))
 f309:=Tryz.func200.trans (congrArg some (by kernel_rfl))
 f310:=Tryz.func201.trans (congrArg some (by kernel_rfl))
 f329:=Tryz.func239.trans (congrArg some (by kernel_rfl))
 f330:=Tryz.func240.trans (congrArg some (by kernel_rfl))
 f333:=Tryz.func238.trans (congrArg some (by kernel_rfl))
 f334:=Tryz.func241.trans (congrArg some (by kernel_rfl))
 f335:=Tryz.func242.trans (congrArg some (by kernel_rfl))
 f336:=Tryz.func230.trans (congrArg some (by kernel_rfl))
 f344:=Tryz.func275.trans (congrArg some (by kernel_rfl))
 t0:=Tryz.underlying0
 a0:=Tryz.isAgg0
 z0:=Tryz.sizeOf0
 v0:=Tryz.zeroValue0
 t3:=Tryz.underlying3
 a3:=Tryz.isAgg3
 z3:=Tryz.sizeOf3
 v3:=Tryz.zeroValue3
 t4:=Tryz.underlying4
 a4:=Tryz.isAgg4
 z4:=Tryz.sizeOf4
 v4:=Tryz.zeroValue4
 t5:=Tryz.underlying5
 a5:=Tryz.isAgg5
 z5:=Tryz.sizeOf5
 v5:=Tryz.zeroValue5
 t9:=Tryz.underlying9
 a9:=Tryz.isAgg9
 z9:=Tryz.sizeOf9
 v9:=Tryz.zeroValue9
 t31:=Tryz.underlying44
 a31:=Tryz.isAgg44
 z31:=Tryz.sizeOf44
 v31:=Tryz.zeroValue44
 t46:=Tryz.underlying221
 a46:=Tryz.isAgg221
 z46:=Tryz.sizeOf221
 v46:=Tryz.zeroValue221
 t51:=Tryz.underlying282
 a51:=Tryz.isAgg282
 z51:=Tryz.sizeOf282
 v51:=Tryz.zeroValue282
 t53:=Tryz.underlying112
 a53:=Tryz.isAgg112
 z53:=Tryz.sizeOf112
 v53:=Tryz.zeroValue112
 t131:=Tryz.underlying279
 a131:=Tryz.isAgg279
 z131:=Tryz.sizeOf279
 v131:=Tryz.zeroValue279
 t182:=Tryz.underlying274
 a182:=Tryz.isAgg274
 z182:=Tryz.sizeOf274
 v182:=Tryz.zeroValue274
 t183:=Tryz.underlying275
 a183:=Tryz.isAgg275
 z183:=Tryz.sizeOf275
 v183:=Tryz.zeroValue275
 t218:=Tryz.underlying302
 a218:=Tryz.isAgg302
 z218:=Tryz.sizeOf302
 v218:=Tryz.zeroValue302
 t222:=Tryz.underlying306
 a222:=Tryz.isAgg306
 z222:=Tryz.sizeOf306
 v222:=Tryz.zeroValue306
 t228:=Tryz.underlying331
 a228:=Tryz.isAgg331
 z228:=Tryz.sizeOf331
 v228:=Tryz.zeroValue331
 t229:=Tryz.underlying332
 a229:=Tryz.isAgg332
 z229:=Tryz.sizeOf332
 v229:=Tryz.zeroValue332}
open Go.Sort Go.RowKit in
theorem Tryz.slices_Sort_string(blk off cap:Nat)(ss:List (List UInt8))(w:World)(hH:Holds encStr w blk off ss.toArray)(hblk:blk<w.heap.size)(hsz:ss.length<4611686018427387904):
  Calls Tryz.prog 80 #[.slice (some ⟨blk,off,none⟩) ss.length cap] w fun e w'=>
   e= .returned (.tuple #[])/\ ∃n os,w'=grow (putRow encStr (Sort.ahead w n) blk off (ss.mergeSort fun x y=>decide (x<=y)).toArray) os:=Any.slices_Sort_string Tryz.lays190 blk off cap ss w hH hblk hsz
def Tryz.lays146_ren:Go.Shelf.Ren:=⟨fun|146=>231|221=>268|268=>284|138=>285|143=>177|195=>293|197=>294|218=>295|219=>226|260=>302|217=>264|225=>265|224=>266|267=>267|266=>282|314=>283|n=>n,fun|9=>9|31=>44|3=>3|4=>4|0=>0|105=>352|21=>21|5=>5|46=>221|119=>335|139=>338|138=>337|146=>345|51=>282|n=>n,fun|1=>3|3=>4|4=>5|n=>n⟩
theorem Tryz.lays146:Go.Proofs.Lays.n146 Tryz.prog Tryz.lays146_ren:={
 mixed:=by kernel_rfl
 f138:=Tryz.func285.trans (congrArg some (by kernel_rfl))
 f143:=Tryz.func177.trans (congrArg some (by kernel_rfl))
 f146:=Tryz.func231.trans (congrArg some (by kernel_rfl))
 f195:=Tryz.func293.trans (congrArg some (by kernel_rfl))
 f197:=Tryz.func294.trans (congrArg some (by kernel_rfl))
 f217:=Tryz.func264.trans (congrArg some (by kernel_rfl))
 f218:=Tryz.func295.trans (congrArg some (by kernel_rfl))
 f219:=Tryz.func226.trans (congrArg some (by kernel_rfl))
 f221:=Tryz.func268.trans (congrArg some (by kernel_rfl))
 f224:=Tryz.func266.trans (congrArg some (by kernel_rfl))
 f225:=Tryz.func265.trans (congrArg some (by kernel_rfl))
 f260:=Tryz.func302.trans (congrArg some (by kernel_rfl))
 f266:=Tryz.func282.trans (congrArg some (by kernel_rfl))
 f267:=Tryz.func267.trans (congrArg some (by kernel_rfl))
 f268:=Tryz.func284.trans (congrArg some (by kernel_rfl))
 f314:=Tryz.func283.trans (congrArg some (by kernel_rfl))
 t0:=Tryz.underlying0
 a0:=Tryz.isAgg0
 z0:=Tryz.sizeOf0
 v0:=Tryz.zeroValue0
 t3:=Tryz.underlying3
 a3:=Tryz.isAgg3
 z3:=Tryz.sizeOf3
 v3:=Tryz.zeroValue3
 t4:=Tryz.underlying4
 a4:=Tryz.isAgg4
 z4:=Tryz.sizeOf4
 v4:=Tryz.zeroValue4
 t5:=Tryz.underlying5
 a5:=Tryz.isAgg5
 z5:=Tryz.sizeOf5
 v5:=Tryz.zeroValue5
 t9:=Tryz.underlying9
 a9:=Tryz.isAgg9
 z9:=Tryz.sizeOf9
 v9:=Tryz.zeroValue9
 t21:=Tryz.underlying21
 a21:=Tryz.isAgg21
 z21:=Tryz.sizeOf21
 v21:=Tryz.zeroValue21
 t31:=Tryz.underlying44
 a31:=Tryz.isAgg44
 z31:=Tryz.sizeOf44
 v31:=Tryz.zeroValue44
 t46:=Tryz.underlying221
 a46:=Tryz.isAgg221
 z46:=Tryz.sizeOf221
 v46:=Tryz.zeroValue221
 t51:=Tryz.underlying282
 a51:=Tryz.isAgg282
 z51:=Tryz.sizeOf282
 v51:=Tryz.zeroValue282
 t105:=Tryz.underlying352
 a105:=Tryz.isAgg352
 z105:=Tryz.sizeOf352
 v105:=Tryz.zeroValue352
 t119:=Tryz.underlying335
 a119:=Tryz.isAgg335
 z119:=Tryz.sizeOf335
 t138:=Tryz.underlying337
 a138:=Tryz.isAgg337
 z138:=Tryz.sizeOf337
 v138:=Tryz.zeroValue337
 t139:=Tryz.underlying338
 a139:=Tryz.isAgg338
 z139:=Tryz.sizeOf338
 v139:=Tryz.zeroValue338
 t146:=Tryz.underlying345
 a146:=Tryz.isAgg345
 z146:=Tryz.sizeOf345
 v146:=Tryz.zeroValue345
 g1:=by kernel_rfl
 g3:=by kernel_rfl
 g4:=by kernel_rfl}
open Go.RowKit Go.Lib in
theorem Tryz.strings_Split(s sep:ByteArray)(m:Int)(w:World)(hs:s.size<4294967281)(hm:w.cell? ⟨3,0,none⟩=some (.int .i64 m))(h1:1<=sep.size):
  Calls Tryz.prog 231 #[.string s,.string sep] w fun e w'=>
   e= .returned (.slice (some ⟨w.heap.size,0,none⟩) (Lib.countB s sep+1) (Lib.countB s sep+1))/\w'=w.alloc (.cells ((Lib.splitB sep 0 (Lib.countB s sep) s).map Value.string).toArray 9):=Any.strings_Split Tryz.lays146 (by kernel_rfl) s sep m w hs hm h1
def Tryz.lays194_ren:Go.Shelf.Ren:=⟨fun|194=>184|n=>n,fun|31=>44|9=>9|3=>3|4=>4|0=>0|n=>n,fun|n=>n⟩
theorem Tryz.lays194:Go.Proofs.Lays.n194 Tryz.prog Tryz.lays194_ren:={
 mixed:=by kernel_rfl
 f194:=Tryz.func184.trans (congrArg some (by kernel_rfl))
 t0:=Tryz.underlying0
 a0:=Tryz.isAgg0
 z0:=Tryz.sizeOf0
 v0:=Tryz.zeroValue0
 t3:=Tryz.underlying3
 a3:=Tryz.isAgg3
 z3:=Tryz.sizeOf3
 v3:=Tryz.zeroValue3
 t4:=Tryz.underlying4
 a4:=Tryz.isAgg4
 z4:=Tryz.sizeOf4
 v4:=Tryz.zeroValue4
 t9:=Tryz.underlying9
 a9:=Tryz.isAgg9
 z9:=Tryz.sizeOf9
 v9:=Tryz.zeroValue9
 t31:=Tryz.underlying44
 a31:=Tryz.isAgg44
 z31:=Tryz.sizeOf44
 v31:=Tryz.zeroValue44}
open Go.RowKit Go.Lib Go.Sort in
theorem Tryz.slices_Compact_string(blk off cap:Nat)(zs:List (List UInt8))(w:World)(hH:Holds encStr w blk off zs.toArray)(hsz:zs.length<=9223372036854775807)(hcap:zs.length<=cap):
  Calls Tryz.prog 184 #[.slice (some ⟨blk,off,none⟩) zs.length cap] w fun e w'=>e= .returned (.slice (some ⟨blk,off,none⟩) (Lib.compact zs).length cap)/\ ∃q,w'=putRow encStr (Sort.ahead w q) blk off (Lib.compact zs++List.replicate (zs.length - (Lib.compact zs).length) []).toArray:=Any.slices_Compact_string Tryz.lays194 blk off cap zs w hH hsz hcap
open Go.RowKit Go.Lib Go.Sort in
theorem Tryz.slices_Compact_string_empty(a:Option Addr)(cap:Nat)(w:World):
  Calls Tryz.prog 184 #[.slice a 0 cap] w fun e w'=>e= .returned (.slice a 0 cap)/\w'=w:=Any.slices_Compact_string_empty Tryz.lays194 a cap w
def Tryz.laysNm224_ren:Go.Shelf.Ren:=⟨fun|24=>192|n=>n,fun|24=>44|9=>9|3=>3|4=>4|0=>0|n=>n,fun|n=>n⟩
theorem Tryz.laysNm224:Go.Proofs.Lays2.n24 Tryz.prog Tryz.laysNm224_ren:={
 mixed:=by kernel_rfl
 f24:=Tryz.func192.trans (congrArg some (by kernel_rfl))
 t0:=Tryz.underlying0
 a0:=Tryz.isAgg0
 z0:=Tryz.sizeOf0
 v0:=Tryz.zeroValue0
 t3:=Tryz.underlying3
 a3:=Tryz.isAgg3
 z3:=Tryz.sizeOf3
 v3:=Tryz.zeroValue3
 t4:=Tryz.underlying4
 a4:=Tryz.isAgg4
 z4:=Tryz.sizeOf4
 v4:=Tryz.zeroValue4
 t9:=Tryz.underlying9
 a9:=Tryz.isAgg9
 z9:=Tryz.sizeOf9
 v9:=Tryz.zeroValue9
 t24:=Tryz.underlying44
 a24:=Tryz.isAgg44
 z24:=Tryz.sizeOf44
 v24:=Tryz.zeroValue44
 i9:=by kernel_rfl}
open Go.RowKit Go.Lib Go.Sort in
theorem Tryz.slices_Delete_string(blk off cap i j:Nat)(zs:List (List UInt8))(w:World)(hH:Holds encStr w blk off zs.toArray)(hcap:zs.length<=cap)(hm:cap<=9223372036854775807)(hij:i<=j)(hj:j<=zs.length):
  Calls Tryz.prog 192 #[.slice (some ⟨blk,off,none⟩) zs.length cap,.int .i64 i,.int .i64 j] w fun e w'=>e= .returned (.slice (some ⟨blk,off,none⟩) (zs.length - (j - i)) cap)/\ ∃q,w'=putRow encStr (Sort.ahead w q) blk off (zs.take i++zs.drop j++List.replicate (j - i) []).toArray:=Any.slices_Delete_string Tryz.laysNm224 blk off cap i j zs w hH hcap hm hij hj
open Go.RowKit Go.Sort in
theorem Tryz.slices_Sort_string_none(p:Option Addr)(cap:Nat)(w:World):
  Calls Tryz.prog 80 #[.slice p 0 cap] w fun e w'=>e= .returned (.tuple #[])/\w'=w:=Any.slices_Sort_string_none Tryz.lays190 p cap w
def Tryz.lays196_ren:Go.Shelf.Ren:=⟨fun|196=>246|259=>276|n=>n,fun|9=>9|4=>4|3=>3|5=>5|12=>12|119=>335|0=>0|46=>221|139=>338|138=>337|53=>112|n=>n,fun|3=>4|4=>5|n=>n⟩
theorem Tryz.lays196:Go.Proofs.Lays.n196 Tryz.prog Tryz.lays196_ren:={
 mixed:=by kernel_rfl
 f196:=Tryz.func246.trans (congrArg some (by kernel_rfl))
 f259:=Tryz.func276.trans (congrArg some (by kernel_rfl))
 t0:=Tryz.underlying0
 a0:=Tryz.isAgg0
 z0:=Tryz.sizeOf0
 v0:=Tryz.zeroValue0
 t3:=Tryz.underlying3
 a3:=Tryz.isAgg3
 z3:=Tryz.sizeOf3
 v3:=Tryz.zeroValue3
 t4:=Tryz.underlying4
 a4:=Tryz.isAgg4
 z4:=Tryz.sizeOf4
 v4:=Tryz.zeroValue4
 t5:=Tryz.underlying5
 a5:=Tryz.isAgg5
 z5:=Tryz.sizeOf5
 v5:=Tryz.zeroValue5
 t9:=Tryz.underlying9
 a9:=Tryz.isAgg9
 z9:=Tryz.sizeOf9
 v9:=Tryz.zeroValue9
 t12:=Tryz.underlying12
 a12:=Tryz.isAgg12
 z12:=Tryz.sizeOf12
 v12:=Tryz.zeroValue12
 t46:=Tryz.underlying221
 a46:=Tryz.isAgg221
 z46:=Tryz.sizeOf221
 v46:=Tryz.zeroValue221
 t53:=Tryz.underlying112
 a53:=Tryz.isAgg112
 z53:=Tryz.sizeOf112
 v53:=Tryz.zeroValue112
 t119:=Tryz.underlying335
 a119:=Tryz.isAgg335
 z119:=Tryz.sizeOf335
 t138:=Tryz.underlying337
 a138:=Tryz.isAgg337
 z138:=Tryz.sizeOf337
 v138:=Tryz.zeroValue337
 t139:=Tryz.underlying338
 a139:=Tryz.isAgg338
 z139:=Tryz.sizeOf338
 v139:=Tryz.zeroValue338
 g3:=by kernel_rfl
 g4:=by kernel_rfl}
def Tryz.sorted185_ren:Go.Shelf.Ren:=⟨fun|6=>185|8=>236|9=>80|11=>274|13=>141|12=>140|23=>202|24=>203|14=>193|15=>194|16=>195|17=>196|18=>197|19=>198|20=>199|21=>200|22=>201|25=>238|26=>239|27=>240|28=>241|29=>242|30=>230|31=>275|n=>n,fun|26=>9|28=>265|24=>44|0=>0|3=>3|37=>221|48=>282|50=>112|4=>4|40=>275|39=>274|45=>279|5=>5|9=>9|51=>302|55=>306|57=>331|58=>332|33=>271|n=>n,fun|n=>n⟩
theorem Tryz.sorted185:Go.Proofs.SlLaysZ.n6 Tryz.prog Tryz.sorted185_ren:={
 mixed:=by kernel_rfl
 f6:=⟨Tryz.f185.name,by decide,Tryz.func185.trans (congrArg some (by kernel_rfl))⟩
 f8:=⟨Tryz.f236.name,by decide,Tryz.func236.trans (congrArg some (by kernel_rfl))⟩
 f11:=⟨Tryz.f274.name,by decide,Tryz.func274.trans (congrArg some (by kernel_rfl))⟩
 t0:=Tryz.underlying0
 a0:=Tryz.isAgg0
 z0:=Tryz.sizeOf0
 v0:=Tryz.zeroValue0
 t24:=Tryz.underlying44
 a24:=Tryz.isAgg44
 z24:=Tryz.sizeOf44
 v24:=Tryz.zeroValue44
 t26:=Tryz.underlying9
 a26:=Tryz.isAgg9
 z26:=Tryz.sizeOf9
 v26:=Tryz.zeroValue9
 t28:=Tryz.underlying265
 a28:=Tryz.isAgg265
 z28:=Tryz.sizeOf265
 v28:=Tryz.zeroValue265
 i26:=by kernel_rfl}
end Go.Proofs
end
noncomputable section
set_option maxRecDepth 100000
namespace Go.Fl
open Go Go.Proofs Go.RowKit Go.Maps Go.Sort Go.Shelf
variable {P:Program}{ρ:Ren}
def v6n(F:Fence)(n:Nat)(P:Program)(g:Nat)(lb:Array Value)(ss:List (List UInt8))(w:World):Prop:=
 ∀(l:Nat) (J:List (List UInt8)->World->Prop) (W:World),Below w.heap.size w W->AbidesFrom W.heap.size J->(∀pre W1,J pre W1->Below w.heap.size w W1)->
  (∀pre x W1,J pre W1->pre.length<ss.length->YieldAt F (n - 1) P l #[encStr x] W1 fun e W'=>e= .returned (.bool true)/\J (pre++[x]) W'/\KeepsWalks W1 W')->
  J [] W->CallsIn F n P g (#[.func (.yield l) #[] #[]]++lb) W fun e W'=>(∃v,e= .returned v)/\J ss W'
theorem w07{W:World}{base j:Nat}{e:TypeId}{v:Value}{k:Nat}{xs:List Value}{o:Obj}(h:W.ownsRow base e 1 v k xs)(hj:W.heap[j]? =some o)(hno: ∀cur,o≠ .cells cur e (0,0))(o':Obj):(W.putObj j o').ownsRow base e 1 v k xs:=
 h.kept (grownBy_putObj_a W j o') (ownsRow_ne_a h hj hno)
set_option maxHeartbeats 2000000 in
theorem j7e(L:SlLaysZ.n11 P ρ)(F:Fence)(n:Nat)(hf:F.fn (ρ.f 11))(hro:F.round=none)(hn:2<=n)(g:Nat)(lb:Array Value)(hg:F.fn g)(eg: ∀args w,(callFunc g args).run P w= .ok (.enter g args) w)
  (ss:List (List UInt8))(hN:ss.length<=maxLen)(hNb:ss.length*16<=140737488355328)(w:World)(hseq:v6n F (n - 1) P g lb ss w):
  CallsIn F n P (ρ.f 11) #[.slice none 0 0,.func (.func g) #[] lb] w fun e w'=> ∃v,e= .returned v/\w'.ownsRow w.heap.size (ρ.t 26) 1 v ss.length (ss.map encStr)/\Below w.heap.size w w':=by
 have mixed:=L.mixed;have t0:=L.t0;have a0:=L.a0;have z0:=L.z0;have v0:=L.v0;have t24:=L.t24;have a24:=L.a24;have z24:=L.z24;have v24:=L.v24;have t26:=L.t26;have a26:=L.a26;have z26:=L.z26;have v26:=L.v26
 have u0:=run_underlying L.t0;have u24:=run_underlying L.t24;have u26:=run_underlying L.t26
 have apart:ρ.t 24≠ρ.t 26:=fun e=>by have h:=L.t24;rw[e,L.t26] at h;cases h
 obtain⟨_,_,body⟩:=L.f11
 refine callsIn_of_wp_marks body rfl hf ?_ hro
 simp only[SlBodyZ.n11_ntmps ρ,List.size_toArray,List.length_cons,List.length_nil,Nat.reduceAdd,Nat.reduceSub,Array.replicate_succ,Array.replicate_zero,List.push_toArray,List.append_toArray,List.nil_append,List.cons_append]
 gi_wp2
 refine wpIn_rangeFunc fun fn hfn=> ?_
 rw[hro]
 generalize hA:w.alloc (.cells #[.slice none 0 0] (ρ.t 24))=A
 have sA:A.heap.size=w.heap.size+1:=by rw[←hA];simp
 have bA:Below w.heap.size w A:=by rw[←hA];exact (Below.refl _ w).alloc (Nat.le_refl _) _
 have xA:A.heap[w.heap.size]? =some (.cells #[.slice none 0 0] (ρ.t 24) (0,0)):=by rw[←hA];exact World.alloc_heap_new w _
 generalize hrec:AnyZ.apRec ρ fn (.func (.func g) #[] lb) w.heap.size A.heap.size .ready none=rec
 generalize hB:(A.alloc (.deferred (some []))).alloc (.loop rec)=B
 have oldB: ∀k,k<A.heap.size->B.heap[k]? =A.heap[k]? :=fun k hk=>by rw[←hB];exact (Below.heap_alloc _ _ k (by simp;omega)).trans (Below.heap_alloc _ _ k hk)
 have bB:Below w.heap.size w B:=by rw[←hB];exact (bA.alloc bA.size _).alloc (by have:=bA.size;simp;omega) _
 have dB:B.heap[A.heap.size]? =some (.deferred (some [])):=by rw[←hB];exact (Below.heap_alloc _ _ _ (by simp)).trans (World.alloc_heap_new A _)
 have lB:B.heap[A.heap.size+1]? =some (.loop rec):=by rw[←hB];have:=World.alloc_heap_new (A.alloc (.deferred (some []))) (.loop rec);rwa [World.size_alloc] at this
 have start:AnyZ.ApAt ρ w fn (.func (.func g) #[] lb) w.heap.size (A.heap.size+1) A.heap.size [] B:=
  ⟨⟨_,(oldB _ (by omega)).trans xA,⟨rfl,.inl ⟨rfl,rfl⟩⟩,by simp⟩,by rw[hrec];exact lB,dB,bB⟩
 refine⟨A.heap.size+1,[{target:= .collected A.heap.size,args:= #[]}],B,{target:= .fn (.func g) lb,args:= #[.func (.yield (A.heap.size+1)) #[] #[]]},B,g,#[.func (.yield (A.heap.size+1)) #[] #[]]++lb,B,?_,?_,?_,?_,fun _=>(by omega),?_⟩
 ·rw[←hB,←hrec];exact run_enterLoop_outer _ _ _ _ _
 ·simp[resolve,go_sem]
 ·intro f' h';simp[Target.leads] at h';exact h'▸hg
 ·simp[invoke,go_sem,eg]
 refine (hseq _ (AnyZ.ApAt ρ w fn (.func (.func g) #[] lb) w.heap.size (A.heap.size+1) A.heap.size) B bB (AnyZ.ap_abides ρ _ _ _ _ _ _ _ bB.size) (fun _ _ h=>h.below)
  (fun pre x W h hl=>AnyZ.apYield {L with} F _ w fn hfn _ _ _ _ (by omega) (by omega) (by omega) (Nat.le_refl _) (by omega) ss.length hN hNb pre x W h hl) start).mono ?_
 rintro e C ⟨⟨_,rfl⟩,hC⟩
 obtain⟨v,hv,hrow,_⟩:=hC.box
 have hend:=run_endLoop (P:=P) hC.L (by simp[AnyZ.apRec])
 generalize hD:C.putObj (A.heap.size+1) (.loop {AnyZ.apRec ρ fn (.func (.func g) #[] lb) w.heap.size A.heap.size .ready none with state:= .exhausted})=D at hend
 have rowD:D.ownsRow w.heap.size (ρ.t 26) 1 v ss.length (ss.map encStr):=by rw[←hD];exact w07 hrow hC.L (fun _ h=>by cases h) _
 have boxD:D.heap[w.heap.size]? =some (.cells #[v] (ρ.t 24) (0,0)):=by rw[←hD];exact (World.putObj_heap_other (by omega)).trans hv
 have defD:D.heap[A.heap.size]? =some (.deferred (some [])):=by rw[←hD];exact (World.putObj_heap_other (by omega)).trans hC.K
 have belD:Below w.heap.size w D:=by rw[←hD];exact hC.below.grown (grownBy_putObj_a _ _ _) hC.below.size (fun k h=>by cases h;omega)
 obtain⟨cellD,markD⟩:=cell_of_box_a boxD
 clear hD
 refine⟨none,D,hend,?_⟩
 gi_wp2
 rw[←sA]
 refine⟨by simp,.inl ⟨_,_,rfl,run_takeDeferred defD,?_⟩⟩
 exact⟨_,results_tmp rfl _ _ _,v,rfl,w07 rowD defD (fun _ h=>by cases h) _,belD.grown (grownBy_putObj_a _ _ _) belD.size (fun k h=>by cases h;omega)⟩
end Go.Fl
end
noncomputable section
set_option maxRecDepth 100000
namespace Go.Proofs.YtfiomedjdipbgaaGreatDoor
open Go Go.Proofs Go.RowKit Go.Fl Go.Maps Go.Sort Go.Shelf
attribute [local go_sem] Oper.semAt_some
set_option maxHeartbeats 2000000 in
theorem w8n(n:Nat)(hn:1<=n)(w W:World)(l Bs b off cap:Nat)(zs:List (List UInt8))(hreach:zs.length<=140737488355328)(hBs:Bs<w.heap.size)(hb:b<w.heap.size)(J:List (List UInt8)->World->Prop)
  (hJ: ∀pre W1,J pre W1->Below w.heap.size w W1)(hc:w.cell? ⟨Bs,0,none⟩=some (.slice (some ⟨b,off,none⟩) zs.length cap))(hcs: ∀j,j<zs.length->w.cell? ⟨b,off+j,none⟩=some (encStr (zs[j]?.getD [])))
  (hY: ∀pre x W1,J pre W1->pre.length<zs.length->YieldAt Fence.wide (n - 1) Tryz.prog l #[encStr x] W1 fun e W'=>e= .returned (.bool true)/\J (pre++[x]) W'/\KeepsWalks W1 W')(h0:J [] W):
  CallsIn Fence.wide n Tryz.prog 237 #[.func (.yield l) #[] #[],.pointer (some ⟨Bs,0,none⟩)] W fun e W'=>(∃v,e= .returned v)/\J zs W':=by
 have hc0:=((hJ _ _ h0).cell (p:=⟨Bs,0,none⟩) hBs).trans hc
 refine callsIn_of_wp Tryz.func237 rfl trivial ?_ rfl
 simp only[Tryz.ntmps237,List.size_toArray,List.length_cons,List.length_nil,Nat.reduceAdd,Nat.reduceSub,Array.replicate_succ,Array.replicate_zero,List.push_toArray,List.append_toArray,List.nil_append,List.cons_append]
 gi_wp2
 gi_loopw [7] (fun i wr=> ∃k:Nat,k<=zs.length/\i= .int .i64 k/\J (zs.take k) wr) (fun i _=>zs.length - (intOf i).toNat)
 case atStart=>exact⟨0,Nat.zero_le _,rfl,h0⟩
 case round=>
  obtain⟨k,hk,rfl,hJk⟩:=hrel
  by_cases hlt:k<zs.length
  ·have hck:=((hJ _ _ hJk).cell (p:=⟨b,off+k,none⟩) hb).trans (hcs k hlt)
   obtain⟨fn,tmps,assign,body,hy,hR⟩:=hY _ zs[k] wr hJk (by rw[List.length_take];omega)
   gi_wp2
   refine hR.mono ?_
   rintro e W3 ⟨rfl,hJ3,_⟩
   gi_wp2
   go_roundw
   case rel=>exact⟨k+1,by omega,by simp,by rw[List.take_succ_eq_append_getElem hlt];exact hJ3⟩
   case measure=>simp[intOf];omega
  ·obtain rfl:k=zs.length:=by omega
   rw[List.take_length] at hJk
   gi_wp2
   go_end0
   exact⟨⟨_,rfl⟩,hJk⟩
set_option maxHeartbeats 2000000 in
theorem w8o(n:Nat)(w W:World)(l Bs cap:Nat)(a:Option Addr)(hBs:Bs<w.heap.size)(J:List (List UInt8)->World->Prop)(hJ: ∀pre W1,J pre W1->Below w.heap.size w W1)(hc:w.cell? ⟨Bs,0,none⟩=some (.slice a 0 cap))(h0:J [] W):
  CallsIn Fence.wide n Tryz.prog 237 #[.func (.yield l) #[] #[],.pointer (some ⟨Bs,0,none⟩)] W fun e W'=>(∃v,e= .returned v)/\J [] W':=by
 have hc0:=((hJ _ _ h0).cell (p:=⟨Bs,0,none⟩) hBs).trans hc
 refine callsIn_of_wp Tryz.func237 rfl trivial ?_ rfl
 simp only[Tryz.ntmps237,List.size_toArray,List.length_cons,List.length_nil,Nat.reduceAdd,Nat.reduceSub,Array.replicate_succ,Array.replicate_zero,List.push_toArray,List.append_toArray,List.nil_append,List.cons_append]
 gi_wp2
 gi_loopw [7] (fun i wr=>i= .int .i64 0/\J [] wr) (fun _ _=>0)
 case atStart=>exact⟨rfl,h0⟩
 case round=>
  obtain⟨rfl,hJs⟩:=hrel
  gi_wp2
  go_end0
  exact⟨⟨_,rfl⟩,hJs⟩
theorem y85{σ:Hv}{w:World}(Bs:Nat)(v:Value)(l:List ByteArray)(hV:View σ w)(hB:σ Bs=some (.cells #[v] 44 (0,0)))(hr:RSl 1 (REnc Qi) σ v l)(hs:Sml l.length):
  Calls Tryz.prog 274 #[.slice none 0 0,.func (.func 237) #[] #[.pointer (some ⟨Bs,0,none⟩)]] w fun e w1=> ∃v1,e= .returned v1/\Grow [] σ w σ w1/\((vec v1 9 1 l.length (l.flatMap Qi)).ok w1/\ ∀k,(vec v1 9 1 l.length (l.flatMap Qi)).foot=some k->w.heap.size<=k/\σ k=none):=by
 have hBw:=hV _ _ hB
 have hBl:=lt_of_block hBw
 have hBc:w.cell? ⟨Bs,0,none⟩=some v:=by simp[World.cell?,hBw]
 have hlen:(l.map (·.data.toList)).length=l.length:=List.length_map _
 have hgive:v6n Fence.wide 2 Tryz.prog 237 #[.pointer (some ⟨Bs,0,none⟩)] (l.map (·.data.toList)) w:=by
  intro lp J W _ _ hJB hY h0
  obtain⟨a,cap,rfl,h1,h2,hel⟩:=hr
  cases hl0:l with
  |nil=>
   subst hl0
   exact w8o 2 w W lp Bs cap a hBl J hJB hBc h0
  |cons x l'=>
   obtain⟨ad,cs,rfl,_,hrow0,hcs0⟩:=hel 0 x (by rw[hl0];rfl)
   have cell0:=(hrow0.row hV) 0 _ (by rw[hcs0];rfl)
   obtain⟨ab,ao,asp⟩:=ad
   have hsp:asp=none:=by
    cases asp with
    |none=>rfl
    |some s=>
     have:=hrow0 0 (.string x) (by rw[hcs0];rfl)
     simp[Hv.cell,Addr.add] at this
     split at this<;>simp at this
   subst hsp
   have hbl:ab<w.heap.size:=by
    have:=hrow0 0 (.string x) (by rw[hcs0];rfl)
    simp only[Ud] at this
    unfold Hv.cell at this
    simp only at this
    cases hq:σ ab with
    |none=>rw[hq] at this;simp at this
    |some o=>exact lt_of_block (hV _ _ hq)
   rw[←hl0]
   have hcome:=w8n 2 (by omega) w W lp Bs ab ao cap (l.map (·.data.toList)) (by rw[hlen];exact h2) hBl hbl J hJB (by rw[hlen];exact hBc) (fun j hj=>by
    rw[hlen] at hj
    obtain⟨y,hy⟩:=getq hj
    obtain⟨ad',cs',had,_,hrow,hcs⟩:=hel j y hy
    cases had
    have hc:=(hrow.row hV) 0 (.string y) (by rw[hcs];rfl)
    rw[q1d,Ud] at hc
    rw[List.getElem?_map,hy]
    simpa [encStr] using hc) hY h0
   exact hcome
 refine (callsIn_wide (n:=3)).1 ((j7e (ρ:=Tryz.sorted185_ren) {Tryz.sorted185 with} Fence.wide 3 trivial rfl (by omega) 237 _ trivial (enters_of Tryz.func237 (by kernel_rfl) rfl) (l.map (·.data.toList)) (by rw[hlen];exact (q4q hs (show 16<=32768 by omega)).2) (by rw[hlen];exact (q4q hs (by omega)).1) w hgive).mono ?_)
 rintro e w1 ⟨v1,rfl,hown,hbel⟩
 rw[hlen] at hown
 have hfl:(l.map (·.data.toList)).map encStr=l.flatMap Qi:=(Rs l).symm
 rw[hfl] at hown
 have hsame: ∀b,b<w.heap.size->w1.heap[b]? =w.heap[b]? :=fun b hb=>hbel.block b hb
 refine⟨v1,rfl,⟨⟨hbel.os,hbel.tape,hbel.output,hbel.size,fun k hk _=>hbel.block k hk⟩,fun b o hb=>(hbel.block b (lt_of_block (hV b o hb))).trans (hV b o hb),.refl _,fun _ _ _=>rfl⟩,?_,?_⟩
 ·exact⟨hown.1,hown.2.imp id fun ⟨g,cap,cur,e1,_,e3⟩=>⟨g,cap,cur,e1,Nat.zero_le _,e3⟩⟩
 ·intro k hk
  have hge:w.heap.size<=k:=(hown.lt k hk).1
  refine⟨hge,?_⟩
  cases hq:σ k with
  |none=>rfl
  |some o=>have:=lt_of_block (hV k o hq);omega
end Go.Proofs.YtfiomedjdipbgaaGreatDoor
end
