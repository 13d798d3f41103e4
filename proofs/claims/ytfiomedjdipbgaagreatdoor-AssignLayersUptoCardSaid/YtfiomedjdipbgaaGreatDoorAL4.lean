/- The assignment of any subject in any layer, and in all of them; the arguments are of bounded bulk. This is part 4 of 7. Conditions: those in the statements. -/
import Derived.Test.YtfiomedjdipbgaaGreatDoorProg
import Derived.Test.YtfiomedjdipbgaaGreatDoorAL3
import Derived.Lib.ValidU
import Derived.KernelRfl
import Derived.Conc.MuLone
import Derived.Shelf.Small.Bits
import Derived.Shelf.Utf8.RuneCount
import Derived.Shelf.Strconv.Atoi
import Derived.Shelf.Strconv.Itoa0
import Derived.Shelf.Strconv.Itoa1
import Derived.Shelf.LaysM
import Derived.Shelf.Strconv.Itoa2
import Derived.Shelf.Strconv.Itoa3
import Derived.Shelf.Strconv.AtoiErrFast
import Derived.Shelf.Strconv.ParseIntEmpty
import Derived.Shelf.Strconv.AtoiFail
import Derived.Shelf.Strconv.Clone
import Derived.Shelf.Strconv.SyntaxError
import Derived.Shelf.LaysC
import Derived.Shelf.Strconv.ToError
import Derived.Shelf.Strconv.Lower
import Derived.Shelf.Strconv.ParseUint10
import Derived.Shelf.Strconv.ParseUint10Empty
import Derived.Shelf.Strconv.ParseUint10Any
import Derived.Shelf.Strconv.ParseInt10
import Derived.Shelf.Strconv.AtoiLong
import Derived.Shelf.Strconv.AtoiInnerAll
import Derived.Shelf.Strconv.RangeError
import Derived.Shelf.Strconv.ToErrorRange
import Derived.Shelf.Strconv.AtoiAll
import Derived.Shelf.Strconv.ErrVarAll
import Derived.Shelf.Strings.Search1
import Derived.Shelf.Strings.Search2
import Derived.Shelf.Strings.Search3
import Derived.Shelf.Strings.Count
import Derived.Shelf.Strings.Shaped
import Derived.Shelf.Sort.Plain
import Derived.Shelf.Strings.Split
import Derived.Shelf.Strings.SplitShaped
import Derived.Shelf.Unicode.Decode
import Derived.Shelf.Strings.RuneCount
import Derived.Shelf.Strings.Explode
import Derived.Shelf.Unicode.DecodeSlow
import Derived.Shelf.Unicode.DecodeAny
import Derived.Ground.Names2Prog
import Derived.Shelf.Slices.Clone
import Derived.Shelf.Slices.CompactS
import Derived.Shelf.Slices.SearchI
import Derived.Shelf.Slices.Delete
import Derived.Shelf.Slices.Cells
import Derived.Shelf.Slices.In.SortNone
import Derived.Shelf.Slices.Empties
import Derived.Ground.SlgnProg
import Derived.Shelf.SlicesE.Clone
import Derived.Ground.NamesProg
import Derived.Shelf.Unicode.ValidAny
import Derived.Shelf.SlIter.Sorted
import Derived.Ground.GgzProg
import Derived.Shelf.SlIter.Collect
import Derived.WalkKit
import Derived.OwnWalkIn
import Derived.TacticsInMore
import Derived.LoopNIn
import Derived.LoopIn
import Derived.RangeFuncLeaves
noncomputable section
set_option maxRecDepth 100000
open Go Go.RowKit Go.Fl Go.Fl.Lk Go.Fx
namespace Go.En
abbrev W6:Type:=(List (Decl)->Prop)->Prop
def J0:W6:=fun K=>K [Decl.mk (ByteArray.mk (Array.mk [100,101,118,105,99,101])) (ByteArray.mk (Array.mk [99,111,114,101,115])) (2:Int),Decl.mk (ByteArray.mk (Array.mk [100,101,118,105,99,101])) (ByteArray.mk (Array.mk [111,115])) (3:Int),Decl.mk (ByteArray.mk (Array.mk [117,115,101,114])) (ByteArray.mk (Array.mk [97,103,101])) (2:Int),Decl.mk (ByteArray.mk (Array.mk [117,115,101,114])) (ByteArray.mk (Array.mk [97,112,112])) (4:Int),Decl.mk (ByteArray.mk (Array.mk [117,115,101,114])) (ByteArray.mk (Array.mk [98,101,116,97])) (1:Int),Decl.mk (ByteArray.mk (Array.mk [117,115,101,114])) (ByteArray.mk (Array.mk [99,111,117,110,116,114,121])) (3:Int),Decl.mk (ByteArray.mk (Array.mk [117,115,101,114])) (ByteArray.mk (Array.mk [112,108,97,110])) (3:Int),Decl.mk (ByteArray.mk (Array.mk [117,115,101,114])) (ByteArray.mk (Array.mk [116,97,103,115])) (5:Int)]
abbrev j7n:Type:=List (Int)->Int->(Bool->Int->Prop)->Prop
def j7o:j7n:=fun list at_ K=>Fits list->K (decide (at_<(↑list.length:Int))) at_
abbrev Zj:Type:=List (Int)->Int->Int->(Int->Int->Prop)->Prop
def w4o(j70:j7n):Zj:=fun list at_ n K=>j70 list at_ fun Qa Qz=>Cnd (Qa=true) (InI (Qz+1)/\InI (Qz+1 - (1:Int))/\((0:Int)<=Qz+1 - (1:Int)/\Qz+1 - (1:Int)<(↑list.length:Int))/\ ∀y1,list[(Qz+1 - (1:Int)).toNat]? =some y1->InI y1/\n≠(0:Int)/\K (y1.tmod n) (Qz+1)) (K (0:Int) Qz)
def Ze:Zj:=w4o j7o
abbrev q1z:Type:=List (Int)->Int->(ByteArray->Int->Prop)->Prop
def w4p(Qb:Zj):q1z:=fun list at_ K=>Qb list at_ (11:Int) fun Qa Qz=>((0:Int)<=Qa/\Qa<(↑(11:Nat):Int))/\ ∀y1,j1o[Qa.toNat]? =some y1->K y1 Qz
def q10:q1z:=w4p Ze
abbrev q6w:Type:=List (Int)->Int->Int->(Int->Int->Prop)->Prop
def w4q(Qb:Zj):q6w:=fun list at_ n K=>Qb list at_ (256:Int) fun Qa Qz=>InI ((256:Int)*Qa)/\Qb list Qz (256:Int) fun Qd Jc=>InI ((256:Int)*Qa+Qd)/\n≠(0:Int)/\K (((256:Int)*Qa+Qd).tmod n) Jc
def q6x:q6w:=w4q Ze
abbrev z7o:Type:=Int->List (ByteArray)->(List (ByteArray)->Prop)->Prop
def z7p:z7o:=fun n l K=>((0:Int)<=n/\n<=(↑l.length:Int))/\K (List.take n.toNat l)
abbrev z2v:Type:=List (Int)->Int->(List (ByteArray)->Int->Prop)->Prop
def w4r(Qb:Zj):z2v:=fun list at_ K=>Qb list at_ (10:Int) fun Qa Qz=>Lp3 (fun Qd Jc j29 y4d=>Qb list j29 (4:Int) fun Qg Zq=>Cnd (Jc<Qg) (InI (Qa+Jc)/\(10:Int)≠(0:Int)/\InI ((48:Int)+(Qa+Jc).tmod (10:Int))/\(↑((ByteArray.mk (Array.mk [107])).size+(Go.Utf8.encode (Go.IntKind.i32.wrap ((48:Int)+(Qa+Jc).tmod (10:Int)))).size):Int)<=(9223372036854775807:Int)/\Sml (Qd++[ByteArray.mk (Array.mk [107])++Go.Utf8.encode (Go.IntKind.i32.wrap ((48:Int)+(Qa+Jc).tmod (10:Int)))]).length/\InI (Jc+1)/\y4d (Qd++[ByteArray.mk (Array.mk [107])++Go.Utf8.encode (Go.IntKind.i32.wrap ((48:Int)+(Qa+Jc).tmod (10:Int)))]) (Jc+1) Zq) (Lp2 (fun Qf Vq j7b=>Fits Vq->CAt Vq Qf (fun y5=>InI (Qf - 1)/\((0:Int)<=Qf - 1/\Qf - 1<(↑Vq.length:Int))/\ ∀y7,Vq[(Qf - 1).toNat]? =some y7->Cnd (Lk.blt y7 y5) (InI (Qf+1)/\j7b (Qf+1) Vq) (((0:Int)<=Qf/\Qf<=(↑Vq.length:Int))/\K (List.take Qf.toNat Vq) Zq)) (K Vq Zq)) (1:Int) Qd)) [] (0:Int) Qz
def z2w:z2v:=w4r Ze
abbrev z9p:Type:=List (Int)->Int->(ByteArray->Int->Prop)->Prop
def v0n(Qb:Zj):z9p:=fun list at_ K=>Qb list at_ (10:Int) fun Qa Qz=>InI ((48:Int)+Qa)/\(↑((ByteArray.mk (Array.mk [107])).size+(Go.Utf8.encode (Go.IntKind.i32.wrap ((48:Int)+Qa))).size):Int)<=(9223372036854775807:Int)/\K (ByteArray.mk (Array.mk [107])++Go.Utf8.encode (Go.IntKind.i32.wrap ((48:Int)+Qa))) Qz
def z9q:z9p:=v0n Ze
abbrev q11:Type:=List (Int)->Int->Int->(Val->Int->Prop)->Prop
def j1p(Qb:Zj)(Wn:q1z):q11:=fun list at_ kind K=>Cnd (kind=1) (Qb list at_ (2:Int) fun Qa Qz=>K (Val.mk kind Qa (ByteArray.mk (Array.mk [])) []) Qz) (Cnd (kind=2) ([(0:Int),(1:Int),(17:Int),(18:Int),(19:Int),(-5:Int),(64:Int),(1099511627776:Int),(-1099511627776:Int)].length<=(9223372036854775807:Nat)->Qb list at_ (↑[(0:Int),(1:Int),(17:Int),(18:Int),(19:Int),(-5:Int),(64:Int),(1099511627776:Int),(-1099511627776:Int)].length:Int) fun Qd Jc=>((0:Int)<=Qd/\Qd<(↑[(0:Int),(1:Int),(17:Int),(18:Int),(19:Int),(-5:Int),(64:Int),(1099511627776:Int),(-1099511627776:Int)].length:Int))/\ ∀y2,[(0:Int),(1:Int),(17:Int),(18:Int),(19:Int),(-5:Int),(64:Int),(1099511627776:Int),(-1099511627776:Int)][Qd.toNat]? =some y2->K (Val.mk kind y2 (ByteArray.mk (Array.mk [])) []) Jc) (Cnd (kind=3) (Wn list at_ fun Qa Qz=>K (Val.mk kind (0:Int) Qa []) Qz) (Cnd (kind=4) (Qb list at_ (6:Int) fun Qa Qz=>((0:Int)<=Qa/\Qa<(↑(6:Nat):Int))/\ ∀y1,z49[Qa.toNat]? =some y1->K (Val.mk kind (0:Int) y1 []) Qz) (Qb list at_ (5:Int) fun Qa Qz=>((0:Int)<=Qa/\Qa<(↑(5:Nat):Int))/\ ∀y1,j8v[Qa.toNat]? =some y1->Sml ([]++y1).length/\K (Val.mk (5:Int) (0:Int) (ByteArray.mk (Array.mk [])) ([]++y1)) Qz))))
def Us:q11:=j1p Ze q10
abbrev j1q:Type:=List (Int)->Int->(Ex->Int->Prop)->Prop
def w4s(Q4:W6)(Qb:Zj)(z4a:z9p)(Jm:q11):j1q:=fun list at_ K=>Q4 fun Qa=>Fits Qa->InI ((↑Qa.length:Int)+1)/\Qb list at_ ((↑Qa.length:Int)+1) fun Qg Zq=>Fits Qa->Cnd (Qg=(↑Qa.length:Int)) (z4a list Zq fun Qe J2=>K (Ex.mk (7:Int) (ByteArray.mk (Array.mk [117,115,101,114])) (ByteArray.mk (Array.mk [107,101,121])) [Val.mk (3:Int) (0:Int) Qe []] []) J2) (At Qa Qg fun y4=>Jn1 (fun (Z3:Int×ByteArray×ByteArray×List Val×List Ex×Int×Int×ByteArray×ByteArray×List Val×List Ex×Unit)=>Jm list Z3.2.2.2.2.2.1 y4.3 fun Qw z8x=>K (Ex.mk (7:Int) Z3.2.1 Z3.2.2.1 [Qw] Z3.2.2.2.2.1) z8x) fun (y5h:Int×ByteArray×ByteArray×List Val×List Ex×Int×Int×ByteArray×ByteArray×List Val×List Ex×Unit->Prop)=>Qb list Zq (5:Int) fun Qw z8x=>Jn1 (fun (Uj:Int×Int×ByteArray×ByteArray×List Val×List Ex×Int×ByteArray×ByteArray×List Val×List Ex×Unit)=>Cnd (y4.3=2) (Qb list Uj.1 (4:Int) fun Qp j04=>InI ((12:Int)+Qp)/\Jm list j04 y4.3 fun H2 q3l=>K (Ex.mk ((12:Int)+Qp) Uj.2.2.1 Uj.2.2.2.1 [H2] Uj.2.2.2.2.2.1) q3l) (Cnd (y4.3=3) (Qb list Uj.1 (4:Int) fun Qp j04=>InI ((12:Int)+Qp)/\Jm list j04 y4.3 fun H2 q3l=>K (Ex.mk ((12:Int)+Qp) Uj.2.2.1 Uj.2.2.2.1 [H2] Uj.2.2.2.2.2.1) q3l) (Cnd (y4.3=4) (Qb list Uj.1 (4:Int) fun Qp j04=>InI ((12:Int)+Qp)/\Jm list j04 y4.3 fun H2 q3l=>K (Ex.mk ((12:Int)+Qp) Uj.2.2.1 Uj.2.2.2.1 [H2] Uj.2.2.2.2.2.1) q3l) (y5h (Uj.2.1,Uj.2.2.1,Uj.2.2.2.1,Uj.2.2.2.2.1,Uj.2.2.2.2.2.1,Uj.1,Uj.2.2.2.2.2.2.1,Uj.2.2.2.2.2.2.2.1,Uj.2.2.2.2.2.2.2.2.1,Uj.2.2.2.2.2.2.2.2.2.1,Uj.2.2.2.2.2.2.2.2.2.2.1,()))))) fun (y4e:Int×Int×ByteArray×ByteArray×List Val×List Ex×Int×ByteArray×ByteArray×List Val×List Ex×Unit->Prop)=>Cnd (Qw=0) (K (Ex.mk (6:Int) y4.1 y4.2 [] []) z8x) (Cnd (Qw=1) (Cnd (y4.3=5) (y5h ((0:Int),y4.1,y4.2,[],[],z8x,(0:Int),ByteArray.mk (Array.mk []),ByteArray.mk (Array.mk []),[],[],())) (Lp3 (fun Qp j04 u0w u1u=>Qb list u0w (3:Int) fun H2 q3l=>Cnd (Qp<=H2) (Jm list q3l y4.3 fun Gc w1f=>Sml (j04++[Gc]).length/\InI (Qp+1)/\u1u (Qp+1) (j04++[Gc]) w1f) (K (Ex.mk (8:Int) y4.1 y4.2 j04 []) q3l)) (0:Int) [] z8x)) (Cnd (Qw=2) (Cnd (y4.3=3) (Jm list z8x (3:Int) fun Qp j04=>K (Ex.mk (11:Int) y4.1 y4.2 [Qp] []) j04) (Cnd (y4.3=5) (Jm list z8x (3:Int) fun Qp j04=>K (Ex.mk (11:Int) y4.1 y4.2 [Qp] []) j04) (y5h ((0:Int),y4.1,y4.2,[],[],z8x,(0:Int),ByteArray.mk (Array.mk []),ByteArray.mk (Array.mk []),[],[],())))) (Cnd (Qw=3) (Cnd (y4.3=3) (Qb list z8x (2:Int) fun Qp j04=>InI ((9:Int)+Qp)/\Jm list j04 (3:Int) fun H2 q3l=>K (Ex.mk ((9:Int)+Qp) y4.1 y4.2 [H2] []) q3l) (y4e (z8x,(0:Int),y4.1,y4.2,[],[],(0:Int),ByteArray.mk (Array.mk []),ByteArray.mk (Array.mk []),[],[],()))) (Cnd (Qw=4) (y4e (z8x,(0:Int),y4.1,y4.2,[],[],(0:Int),ByteArray.mk (Array.mk []),ByteArray.mk (Array.mk []),[],[],())) (y5h ((0:Int),y4.1,y4.2,[],[],z8x,(0:Int),ByteArray.mk (Array.mk []),ByteArray.mk (Array.mk []),[],[],())))))))
def z7q:j1q:=w4s J0 Ze z9q Us
abbrev q4w:Type:=List (Int)->Int->List (ByteArray)->Int->(Ex->Int->Prop)->Prop
def j7p(Qb:Zj)(j3a:j1q)(X:q4w):q4w:=fun list at_ segments levels K=>Qb list at_ (8:Int) fun Qa Qz=>Jn1 (fun Qd=>Cnd (Qd=0) (K (Ex.mk (1:Int) (ByteArray.mk (Array.mk [])) (ByteArray.mk (Array.mk [])) [] []) Qz) (Cnd (Qd=3) (Fits segments->Cnd ((0:Int)<(↑segments.length:Int)) (Fits segments->Qb list Qz (↑segments.length:Int) fun Qe J2=>At segments Qe fun y5=>K (Ex.mk (5:Int) (ByteArray.mk (Array.mk [])) y5 [] []) J2) (j3a list Qz fun Qf Vq=>K (Ex.mk Qf.1 Qf.2 Qf.3 Qf.4 Qf.5) Vq)) (Cnd (Qd=4) (InI (levels - 1)/\X list Qz segments (levels - 1) fun Qg Zq=>K (Ex.mk (4:Int) (ByteArray.mk (Array.mk [])) (ByteArray.mk (Array.mk [])) [] [Ex.mk Qg.1 Qg.2 Qg.3 Qg.4 Qg.5]) Zq) (Jn1 (fun Qg=>Cnd (Qg=true) (Qb list Qz (2:Int) fun Qf Vq=>InI ((2:Int)+Qf)/\Qb list Vq (2:Int) fun Qe J2=>InI ((2:Int)+Qe)/\LpH (fun (Qm:Int×Int×Int×ByteArray×ByteArray×List Val×List Ex×Unit) (j71:Int×Int×Int×ByteArray×ByteArray×List Val×List Ex×Unit->Prop)=>Cnd (Qm.1<2+Qe) (InI (levels - 1)/\X list Qm.2.1 segments (levels - 1) fun Z3 j06=>Jn1 (fun (Qw:Int×ByteArray×ByteArray×List Val×List Ex×Unit)=>Sml (Qm.2.2.2.2.2.2.1++[Ex.mk Qw.1 Qw.2.1 Qw.2.2.1 Qw.2.2.2.1 Qw.2.2.2.2.1]).length/\InI (Qm.1+1)/\j71 (Qm.1+1,j06,Qm.2.2.1,Qm.2.2.2.1,Qm.2.2.2.2.1,Qm.2.2.2.2.2.1,Qm.2.2.2.2.2.2.1++[Ex.mk Qw.1 Qw.2.1 Qw.2.2.1 Qw.2.2.2.1 Qw.2.2.2.2.1],())) fun (y8l:Int×ByteArray×ByteArray×List Val×List Ex×Unit->Prop)=>Cnd (Z3.1=2+Qf) (y8l ((4:Int),ByteArray.mk (Array.mk []),ByteArray.mk (Array.mk []),[],[Ex.mk Z3.1 Z3.2 Z3.3 Z3.4 Z3.5],())) (y8l (Z3.1,Z3.2,Z3.3,Z3.4,Z3.5,()))) (K (Ex.mk Qm.2.2.1 Qm.2.2.2.1 Qm.2.2.2.2.1 Qm.2.2.2.2.2.1 Qm.2.2.2.2.2.2.1) Qm.2.1)) ((0:Int),J2,(2:Int)+Qf,ByteArray.mk (Array.mk []),ByteArray.mk (Array.mk []),[],[],())) (j3a list Qz fun Qf Vq=>K (Ex.mk Qf.1 Qf.2 Qf.3 Qf.4 Qf.5) Vq)) fun w9s=>Cnd (Qd=5) (w9s (decide (Qd=5))) (w9s (decide (Qd=6))))))) fun w34=>Cnd (levels<=1) (Cnd ((4:Int)<=Qa) (InI (Qa - 4)/\w34 (Qa - 4)) (w34 Qa)) (w34 Qa)
def z2x:q4w:=fun list at_ segments levels K=> ∀X:q4w,(∀list at_ segments levels K,j7p Ze z7q X list at_ segments levels K->X list at_ segments levels K)->X list at_ segments levels K
abbrev q5i:Type:=List (Int)->Int->ByteArray->ByteArray->Int->List (Decl)->List (Seg)->List (Flg)->List (Lay_)->List (Exper)->(Int->ByteArray->ByteArray->Int->List (Decl)->List (Seg)->List (Flg)->List (Lay_)->List (Exper)->Prop)->Prop
def z5a(Qb:Zj)(q3m:z7o)(q46:z2v)(q47:q4w):q5i:=fun list at_ salt hkind hold attrs segs flags layers expers K=>Qb list at_ (4:Int) fun Qa Qz=>q3m Qa [ByteArray.mk (Array.mk [97,108,112,104,97]),ByteArray.mk (Array.mk [98,101,116,97]),ByteArray.mk (Array.mk [103,97,109,109,97])] fun Qd=>Lp3 (fun Qg Zq w6s u0d=>Fits Qd->CAt Qd Qg (fun y4=>q46 list Zq fun Z3 j06=>q46 list j06 fun Qw z8x=>Jn2 (fun Uj y5i=>Jn1 (fun (Qp:Int×ByteArray×ByteArray×List Val×List Ex×Int×Unit)=>Sml (w6s++[Seg.mk y4 Uj Z3 Qw (Ex.mk Qp.1 Qp.2.1 Qp.2.2.1 Qp.2.2.2.1 Qp.2.2.2.2.1)]).length/\InI (Qg+1)/\u0d (Qg+1) Qp.2.2.2.2.2.1 (w6s++[Seg.mk y4 Uj Z3 Qw (Ex.mk Qp.1 Qp.2.1 Qp.2.2.1 Qp.2.2.2.1 Qp.2.2.2.2.1)])) fun (u0e:Int×ByteArray×ByteArray×List Val×List Ex×Int×Unit->Prop)=>Qb list y5i (3:Int) fun H2 q3l=>Cnd ((0:Int)<H2) (((0:Int)<=(0:Int)/\(0:Int)<=Qg/\Qg<=(↑Qd.length:Int))/\q47 list q3l (List.drop (Int.toNat (0:Int)) (List.take Qg.toNat Qd)) (3:Int) fun Gc w1f=>u0e (Gc.1,Gc.2,Gc.3,Gc.4,Gc.5,w1f,())) (u0e ((0:Int),ByteArray.mk (Array.mk []),ByteArray.mk (Array.mk []),[],[],q3l,()))) fun y4e=>Qb list z8x (4:Int) fun Qp j04=>Cnd (Qp=1) (y4e (ByteArray.mk (Array.mk [100,101,118,105,99,101])) j04) (y4e (ByteArray.mk (Array.mk [117,115,101,114])) j04)) (K Zq salt hkind hold attrs w6s flags layers expers)) (0:Int) Qz segs
def q5j:q5i:=z5a Ze z7p z2w z2x
abbrev q12:Type:=Envt->(List (ByteArray)->Prop)->Prop
def H3:q12:=fun v K=>Lp2 (fun Qa Qz q31=>Fits v.3->CAt v.3 Qz (fun y2=>Sml (Qa++[y2.1]).length/\InI (Qz+1)/\q31 (Qa++[y2.1]) (Qz+1)) (K Qa)) [] (0:Int)
abbrev q75:Type:=List (Int)->Int->Int->(List (Rng)->Int->Prop)->Prop
def j8x(Qb:Zj)(Wy:q6w):q75:=fun list at_ n K=>Jn4 (fun Qa Qz j3b q6s=>Qb list q6s n fun Qd Jc=>InI ((1:Int)+Qd)/\Jn1 (fun Qg=>Sml (Qa++[Rng.mk Qz (10000:Int) Qg]).length/\K (Qa++[Rng.mk Qz (10000:Int) Qg]) Jc) fun w9s=>Cnd ((1:Int)+Qd=j3b) (n≠(0:Int)/\InI ((1:Int)+((1:Int)+Qd).tmod n)/\w9s ((1:Int)+((1:Int)+Qd).tmod n)) (w9s ((1:Int)+Qd))) fun z2m=>Lp5 (fun Qd Jc j29 j5r y8m u0f=>Qb list y8m (4:Int) fun Qg Zq=>Cnd (j5r<Qg) (Cnd ((1:Int)<n) (InI (Jc+1)/\Wy list Zq (5000:Int) fun Qf Vq=>InI (Jc+1+Qf)/\Qb list Vq n fun Qe J2=>InI ((1:Int)+Qe)/\Jn1 (fun Qm=>Cnd ((10000:Int)<=Jc+1+Qf) (z2m Qd Jc j29 J2) (Sml (Qd++[Rng.mk Jc (Jc+1+Qf) Qm]).length/\InI (j5r+1)/\u0f (Qd++[Rng.mk Jc (Jc+1+Qf) Qm]) (Jc+1+Qf) Qm (j5r+1) J2)) fun u2i=>Cnd ((1:Int)+Qe=j29) (n≠(0:Int)/\InI ((1:Int)+((1:Int)+Qe).tmod n)/\u2i ((1:Int)+((1:Int)+Qe).tmod n)) (u2i ((1:Int)+Qe))) (z2m Qd Jc j29 Zq)) (z2m Qd Jc j29 Zq)) [] (0:Int) (0:Int) (0:Int) at_
def q76:q75:=j8x Ze q6x
abbrev z5b:Type:=List (Int)->Int->Int->(Srv->Int->Prop)->Prop
def j8y(Qb:Zj)(Wn:q1z)(q3n:q75)(Q4:W6):z5b:=fun list at_ n K=>Qb list at_ (2:Int) fun Qa Qz=>Cnd (Qa=0) (Qb list Qz n fun Qd Jc=>InI ((1:Int)+Qd)/\K (Srv.mk ((1:Int)+Qd) (ByteArray.mk (Array.mk [])) (ByteArray.mk (Array.mk [])) (ByteArray.mk (Array.mk [])) []) Jc) (Wn list Qz fun Qd Jc=>q3n list Jc n fun Qg Zq=>Q4 fun Qf=>Qb list Zq (12:Int) fun Qe J2=>Fits Qf->CAt Qf Qe (fun y6=>Cnd (y6.3=5) (K (Srv.mk (0:Int) (ByteArray.mk (Array.mk [117,115,101,114])) (ByteArray.mk (Array.mk [107,101,121])) Qd Qg) J2) (At Qf Qe fun y8=>At Qf Qe fun y10=>K (Srv.mk (0:Int) y8.1 y10.2 Qd Qg) J2)) (K (Srv.mk (0:Int) (ByteArray.mk (Array.mk [117,115,101,114])) (ByteArray.mk (Array.mk [107,101,121])) Qd Qg) J2))
def z5c:z5b:=j8y Ze q10 q76 J0
abbrev j1r:Type:=(List (Nd)->(Nd->Option (Int))->Bool->Prop)->Prop
def j8z:j1r:=fun K=>K [] (fun _=>none) false
abbrev Wo:Type:=Int->(Bool->Prop)->Prop
def Jf:Wo:=fun op K=>Cnd ((6:Int)<=op) (K (decide (op<=15))) (K false)
abbrev j1s:Type:=List (ByteArray)->List (ByteArray)->(Bool->Prop)->Prop
def z5d:j1s:=fun a b K=>Fits a->Fits b->Cnd ((↑a.length:Int)=(↑b.length:Int)) (Lp1 (fun Qg j05=>Fits a->CAt a Qg (fun y4=>At b Qg fun y6=>Cnd (y4=y6) (InI (Qg+1)/\j05 (Qg+1)) (K false)) (K true)) (0:Int)) (K false)
abbrev q32:Type:=Val->Val->(Bool->Prop)->Prop
def j37(j3c:j1s):q32:=fun a b K=>Cnd (a.1=b.1) (Cnd (a.2=b.2) (Cnd (a.3=b.3) (j3c a.4 b.4 fun Qa=>K Qa) (K false)) (K false)) (K false)
def q1l:q32:=j37 z5d
abbrev H4:Type:=List (Val)->List (Val)->(Bool->Prop)->Prop
def q77(Gd:q32):H4:=fun a b K=>Fits a->Fits b->Cnd ((↑a.length:Int)=(↑b.length:Int)) (Lp1 (fun Qg j05=>Fits a->CAt a Qg (fun y4=>At b Qg fun y6=>Gd y4 y6 fun Uj=>Cnd (Uj=true) (InI (Qg+1)/\j05 (Qg+1)) (K false)) (K true)) (0:Int)) (K false)
def Ut:H4:=q77 q1l
abbrev Vv:Type:=Ex->Ex->(Bool->Prop)->Prop
def z2y(q3o:H4)(X:Vv):Vv:=fun a b K=>Cnd (a.1=b.1) (Cnd (a.2=b.2) (Cnd (a.3=b.3) (q3o a.4 b.4 fun Qa=>Cnd (Qa=true) (Fits a.5->Fits b.5->Cnd ((↑a.5.length:Int)=(↑b.5.length:Int)) (Lp1 (fun Qf j07=>Fits a.5->CAt a.5 Qf (fun y5=>At b.5 Qf fun y7=>X (Ex.mk y5.1 y5.2 y5.3 y5.4 y5.5) (Ex.mk y7.1 y7.2 y7.3 y7.4 y7.5) fun Qp=>Cnd (Qp=true) (InI (Qf+1)/\j07 (Qf+1)) (K false)) (K true)) (0:Int)) (K false)) (K false)) (K false)) (K false)) (K false)
def Ba:Vv:=fun a b K=> ∀X:Vv,(∀a b K,z2y Ut X a b K->X a b K)->X a b K
abbrev q01:Type:=List (Ex)->Ex->(Int->Prop)->Prop
def z9r(q7a:Vv):q01:=fun l e K=>Lp1 (fun Qa Bw=>Fits l->CAt l Qa (fun y2=>q7a (Ex.mk y2.1 y2.2 y2.3 y2.4 y2.5) (Ex.mk e.1 e.2 e.3 e.4 e.5) fun Qe=>Cnd (Qe=true) (K Qa) (InI (Qa+1)/\Bw (Qa+1))) (K (-1:Int))) (0:Int)
def Ui:q01:=z9r Ba
abbrev W7:Type:=List (Ex)->Ex->(List (Ex)->Prop)->Prop
def z0u(Uk:q01)(Qv:Wo)(X:W7):W7:=fun l e K=>Jn1 (fun Qa=>Lp2 (fun Qd Jc z7b=>Fits e.5->CAt e.5 Jc (fun y3=>X Qd (Ex.mk y3.1 y3.2 y3.3 y3.4 y3.5) fun Qm=>InI (Jc+1)/\z7b Qm (Jc+1)) (K Qd)) Qa (0:Int)) fun z2m=>Cnd (e.1=5) (Uk l (Ex.mk e.1 e.2 e.3 e.4 e.5) fun Qd=>Cnd (Qd<0) ((Sml ([]++l).length/\Sml ([]++l++[Ex.mk e.1 e.2 e.3 e.4 e.5]).length/\z2m ([]++l++[Ex.mk e.1 e.2 e.3 e.4 e.5]))/\Sml ([]++l).length/\Sml ([]++l++[Ex.mk e.1 e.2 e.3 e.4 e.5]).length/\z2m ([]++l++[Ex.mk e.1 e.2 e.3 e.4 e.5])) (z2m l)) (Qv e.1 fun Qd=>Cnd (Qd=true) (Uk l (Ex.mk e.1 e.2 e.3 e.4 e.5) fun Qg=>Cnd (Qg<0) ((Sml ([]++l).length/\Sml ([]++l++[Ex.mk e.1 e.2 e.3 e.4 e.5]).length/\z2m ([]++l++[Ex.mk e.1 e.2 e.3 e.4 e.5]))/\Sml ([]++l).length/\Sml ([]++l++[Ex.mk e.1 e.2 e.3 e.4 e.5]).length/\z2m ([]++l++[Ex.mk e.1 e.2 e.3 e.4 e.5])) (z2m l)) (z2m l))
def B5:W7:=fun l e K=> ∀X:W7,(∀l e K,z0u Ui Jf X l e K->X l e K)->X l e K
abbrev H5:Type:=List (Rul)->(List (Ex)->Prop)->Prop
def q78(q48:W7):H5:=fun l K=>Lp2 (fun Qa Qz q31=>Fits l->CAt l Qz (fun y2=>q48 Qa (Ex.mk y2.2.1 y2.2.2 y2.2.3 y2.2.4 y2.2.5) fun Qe=>InI (Qz+1)/\q31 Qe (Qz+1)) (K Qa)) [] (0:Int)
def H6:H5:=q78 B5
abbrev J8:Type:=List (Nd)->(Nd->Option (Int))->Bool->Int->(Bool->List (Nd)->(Nd->Option (Int))->Bool->Prop)->Prop
def Ju:J8:=fun ns ids full id K=>Cnd ((-1002:Int)<id) (Fits ns->K (decide (id<(↑ns.length:Int))) ns ids full) (K false ns ids full)
abbrev q0q:Type:=List (Nd)->(Nd->Option (Int))->Bool->Int->((Int->Option (Bool))->List (Nd)->(Nd->Option (Int))->Bool->Prop)->Prop
def G5:q0q:=fun ns ids full id K=>Lp2 (fun Qa Bw q31=>Fits Qa->Cnd ((0:Int)<(↑Qa.length:Int)) (Fits Qa->InI ((↑Qa.length:Int) - 1)/\((0:Int)<=(↑Qa.length:Int) - 1/\(↑Qa.length:Int) - 1<(↑Qa.length:Int))/\ ∀y3,Qa[((↑Qa.length:Int) - 1).toNat]? =some y3->Fits Qa->InI ((↑Qa.length:Int) - 1)/\((0:Int)<=(↑Qa.length:Int) - 1/\(↑Qa.length:Int) - 1<=(↑Qa.length:Int))/\Cnd ((Bw y3).getD false=true) (q31 (List.take ((↑Qa.length:Int) - 1).toNat Qa) Bw) (Cnd ((0:Int)<=y3) (At ns y3 fun y6=>At ns y3 fun y8=>Sml (List.take ((↑Qa.length:Int) - 1).toNat Qa++[y6.2.1,y8.2.2]).length/\q31 (List.take ((↑Qa.length:Int) - 1).toNat Qa++[y6.2.1,y8.2.2]) (put Bw y3 true)) (q31 (List.take ((↑Qa.length:Int) - 1).toNat Qa) (put Bw y3 true)))) (K Bw ns ids full)) [id] fun _=>none
abbrev Uu:Type:=List (Nd)->(Nd->Option (Int))->Bool->Int->(List (Int)->List (Nd)->(Nd->Option (Int))->Bool->Prop)->Prop
def z1j(Qx:J8)(q0v:q0q):Uu:=fun ns ids full id K=>Qx ns ids full id fun Qa (Qz:List (Int×Int×Int)) q31 q6s=>Cnd (Qa=true) (q0v Qz q31 q6s id fun w34 (Jc:List (Int×Int×Int)) z7b j5r=>Lp2 (fun Qg Zq q7u=>Cnd (Zq<=1000) (InI ((-1:Int) - Zq)/\Cnd ((w34 ((-1:Int) - Zq)).getD false=true) (Sml (Qg++[Zq]).length/\InI (Zq+1)/\q7u (Qg++[Zq]) (Zq+1)) (InI (Zq+1)/\q7u Qg (Zq+1))) (K Qg Jc z7b j5r)) [] (0:Int)) (K [] Qz q31 q6s)
def Uv:Uu:=z1j Ju G5
abbrev Zk:Type:=List (Nd)->(Nd->Option (Int))->Bool->Int->(Bool->List (Nd)->(Nd->Option (Int))->Bool->Prop)->Prop
def q6q(Qx:J8)(Bk:Uu):Zk:=fun ns ids full id K=>Qx ns ids full id fun Qa (Qz:List (Int×Int×Int)) q31 q6s=>Cnd (Qa=true) (Bk Qz q31 q6s id fun Qd (Jc:List (Int×Int×Int)) z7b j5r=>Lp1 (fun Qg j05=>Fits Qd->CAt Qd Qg (fun y4=>Cnd ((1:Int)<y4) (K false Jc z7b j5r) (InI (Qg+1)/\j05 (Qg+1))) (K true Jc z7b j5r)) (0:Int)) (K false Qz q31 q6s)
def Zl:Zk:=q6q Ju Uv
abbrev W8:Type:=List (Nd)->(Nd->Option (Int))->Bool->Int->(Int->List (Nd)->(Nd->Option (Int))->Bool->Prop)->Prop
def Jk:W8:=fun ns ids full id K=>Cnd (id<0) (K (1001:Int) ns ids full) (At ns id fun y0=>K y0.1 ns ids full)
abbrev G6:Type:=List (Nd)->(Nd->Option (Int))->Bool->Int->Int->(Int->Int->List (Nd)->(Nd->Option (Int))->Bool->Prop)->Prop
def z4o(Q9:W8):G6:=fun ns ids full id test K=>Q9 ns ids full id fun Qa (Qz:List (Int×Int×Int)) q31 q6s=>Cnd (Qa=test) (At Qz id fun y1=>At Qz id fun y3=>K y1.2.1 y3.2.2 Qz q31 q6s) (K id id Qz q31 q6s)
def Wp:G6:=z4o Jk
abbrev Vd:Type:=List (Nd)->(Nd->Option (Int))->Bool->Int->Int->Int->(Int->List (Nd)->(Nd->Option (Int))->Bool->Prop)->Prop
def z5e(Qx:J8)(Q9:W8):Vd:=fun ns ids full test yes no K=>Cnd (test<0) (K (-1002:Int) ns ids full) (Cnd ((1000:Int)<test) (K (-1002:Int) ns ids full) (Qx ns ids full yes fun Qa (Qz:List (Int×Int×Int)) q31 q6s=>Cnd (Qa=true) (Qx Qz q31 q6s no fun Qd (Jc:List (Int×Int×Int)) z7b j5r=>Cnd (Qd=true) (Q9 Jc z7b j5r yes fun Qg (Zq:List (Int×Int×Int)) q7u w1h=>Cnd (Qg<=test) (K (-1002:Int) Zq q7u w1h) (Q9 Zq q7u w1h no fun Qf (Vq:List (Int×Int×Int)) j7b y1j=>Cnd (Qf<=test) (K (-1002:Int) Vq j7b y1j) (Cnd (yes=no) (K yes Vq j7b y1j) (Cnd ((j7b (test,yes,no)).isSome=true) (K ((j7b (test,yes,no)).getD (0:Int)) Vq j7b y1j) (Fits Vq->Cnd ((4000:Int)<=(↑Vq.length:Int)) (K (-1002:Int) Vq j7b true) (Fits Vq->Sml (Vq++[(test,yes,no)]).length/\((Vq++[(test,yes,no)]).length<=(9223372036854775807:Nat)->InI ((↑(Vq++[(test,yes,no)]).length:Int) - 1)/\K ((↑(Vq++[(test,yes,no)]).length:Int) - 1) (Vq++[(test,yes,no)]) (put j7b (test,yes,no) (↑Vq.length:Int)) y1j))))))) (K (-1002:Int) Jc z7b j5r)) (K (-1002:Int) Qz q31 q6s)))
def Jl:Vd:=z5e Ju Jk
abbrev Js:Type:=List (Nd)->(Nd->Option (Int))->Bool->Int->Int->Int->(A3->Option (Int))->(Int->List (Nd)->(Nd->Option (Int))->Bool->(A3->Option (Int))->Prop)->Prop
def Uw(Q9:W8)(Vr:G6)(Jx:Vd)(X:Js):Js:=fun ns ids full f g h known K=>Cnd (f=(-2:Int)) (K g ns ids full known) (Cnd (g=h) (K g ns ids full known) (Cnd (f=(-1:Int)) (K h ns ids full known) (Cnd ((known (f,g,h)).isSome=true) (K ((known (f,g,h)).getD (0:Int)) ns ids full known) (Q9 ns ids full f fun Qa (Qz:List (Int×Int×Int)) q31 q6s=>Q9 Qz q31 q6s g fun Qd (Jc:List (Int×Int×Int)) z7b j5r=>Q9 Jc z7b j5r h fun Qg (Zq:List (Int×Int×Int)) q7u w1h=>Vr Zq q7u w1h f (Min.min (Min.min Qa Qd) Qg) fun Qf Vq (y8n:List (Int×Int×Int)) u2l u2m=>Vr y8n u2l u2m g (Min.min (Min.min Qa Qd) Qg) fun Qe J2 (j3d:List (Int×Int×Int)) y8o u1v=>Vr j3d y8o u1v h (Min.min (Min.min Qa Qd) Qg) fun Qm q7v (u1w:List (Int×Int×Int)) u2n u2o=>X u1w u2n u2o Qf Qe Qm known fun Z3 (j06:List (Int×Int×Int)) y75 y76 u2p=>X j06 y75 y76 Vq J2 q7v u2p fun Qw (z8x:List (Int×Int×Int)) y8p v2t y8q=>Jn4 (fun Uj (y5i:List (Int×Int×Int)) u2q u2r=>K Uj y5i u2r u2q (put y8q (f,g,h) Uj)) fun y4e=>Cnd (Z3=(-1002:Int)) (y4e (-1002:Int) z8x v2t y8p) (Cnd (Qw=(-1002:Int)) (y4e (-1002:Int) z8x v2t y8p) (Jx z8x y8p v2t (Min.min (Min.min Qa Qd) Qg) Z3 Qw fun Qp (j04:List (Int×Int×Int)) u0g u0h=>y4e Qp j04 u0h u0g))))))
def Ux:Js:=fun ns ids full f g h known K=> ∀X:Js,(∀ns ids full f g h known K,Uw Jk Wp Jl X ns ids full f g h known K->X ns ids full f g h known K)->X ns ids full f g h known K
abbrev Z4:Type:=List (Nd)->(Nd->Option (Int))->Bool->Int->Int->Int->(Int->List (Nd)->(Nd->Option (Int))->Bool->Prop)->Prop
def z1k(Qq:Zk)(Qx:J8)(Bl:Js):Z4:=fun ns ids full f g h K=>Qq ns ids full f fun Qa (Qz:List (Int×Int×Int)) q31 q6s=>Cnd (Qa=true) (Qx Qz q31 q6s g fun Qd (Jc:List (Int×Int×Int)) z7b j5r=>Cnd (Qd=true) (Qx Jc z7b j5r h fun Qg (Zq:List (Int×Int×Int)) q7u w1h=>Cnd (Qg=true) (Bl Zq q7u w1h f g h (fun _=>none) fun Qf (Vq:List (Int×Int×Int)) j7b y1j _=>K Qf Vq j7b y1j) (K (-1002:Int) Zq q7u w1h)) (K (-1002:Int) Jc z7b j5r)) (K (-1002:Int) Qz q31 q6s)
def Z5:Z4:=z1k Zl Ju Ux
abbrev B6:Type:=List (Nd)->(Nd->Option (Int))->Bool->Int->(Int->List (Nd)->(Nd->Option (Int))->Bool->Prop)->Prop
def z86(Q2:Z4):B6:=fun ns ids full f K=>Q2 ns ids full f (-1:Int) (-2:Int) fun Qa (Qz:List (Int×Int×Int)) q31 q6s=>K Qa Qz q31 q6s
def Hm:B6:=z86 Z5
abbrev B7:Type:=List (Nd)->(Nd->Option (Int))->Bool->Int->Int->(Int->List (Nd)->(Nd->Option (Int))->Bool->Prop)->Prop
def z87(Qq:Zk)(Q2:Z4):B7:=fun ns ids full f g K=>Qq ns ids full g fun Qa (Qz:List (Int×Int×Int)) q31 q6s=>Cnd (Qa=true) (Q2 Qz q31 q6s f g (-1:Int) fun Qd (Jc:List (Int×Int×Int)) z7b j5r=>K Qd Jc z7b j5r) (K (-1002:Int) Qz q31 q6s)
def Hn:B7:=z87 Zl Z5
abbrev Gi:Type:=List (Nd)->(Nd->Option (Int))->Bool->Int->Int->(Int->List (Nd)->(Nd->Option (Int))->Bool->Prop)->Prop
def j1t(Qq:Zk)(Q2:Z4):Gi:=fun ns ids full f g K=>Qq ns ids full g fun Qa (Qz:List (Int×Int×Int)) q31 q6s=>Cnd (Qa=true) (Q2 Qz q31 q6s f (-2:Int) g fun Qd (Jc:List (Int×Int×Int)) z7b j5r=>K Qd Jc z7b j5r) (K (-1002:Int) Qz q31 q6s)
def Vw:Gi:=j1t Zl Z5
abbrev Wi:Type:=List (Nd)->(Nd->Option (Int))->Bool->List (Ex)->Ex->(Int->List (Nd)->(Nd->Option (Int))->Bool->Prop)->Prop
def q79(q49:B6)(q5a:B7)(Wz:Gi)(Uk:q01)(Jx:Vd)(X:Wi):Wi:=fun ns ids full atoms e K=>Cnd (e.1=1) (K (-2:Int) ns ids full) (Cnd (e.1=4) (((0:Int)<=(0:Int)/\(0:Int)<(↑e.5.length:Int))/\ ∀y0,e.5[Int.toNat (0:Int)]? =some y0->X ns ids full atoms (Ex.mk y0.1 y0.2 y0.3 y0.4 y0.5) fun Qg (Zq:List (Int×Int×Int)) q7u w1h=>q49 Zq q7u w1h Qg fun Qf (Vq:List (Int×Int×Int)) j7b y1j=>K Qf Vq j7b y1j) (Jn1 (fun Qa=>Cnd (Qa=true) (((0:Int)<=(0:Int)/\(0:Int)<(↑e.5.length:Int))/\ ∀y1,e.5[Int.toNat (0:Int)]? =some y1->X ns ids full atoms (Ex.mk y1.1 y1.2 y1.3 y1.4 y1.5) fun Qf (Vq:List (Int×Int×Int)) j7b y1j=>Lp5 (fun Qe J2 (j3d:List (Int×Int×Int)) y1k u0x u0y=>Fits e.5->CAt e.5 J2 (fun y6=>X j3d u0x y1k atoms (Ex.mk y6.1 y6.2 y6.3 y6.4 y6.5) fun Uj (y5i:List (Int×Int×Int)) u2j u2k=>Cnd (e.1=2) (q5a y5i u2j u2k Qe Uj fun Qp (j04:List (Int×Int×Int)) u0g u0h=>InI (J2+1)/\u0y Qp (J2+1) j04 u0h u0g) (Wz y5i u2j u2k Qe Uj fun Qp (j04:List (Int×Int×Int)) u0g u0h=>InI (J2+1)/\u0y Qp (J2+1) j04 u0h u0g)) (K Qe j3d u0x y1k)) Qf (1:Int) Vq y1j j7b) (Uk atoms (Ex.mk e.1 e.2 e.3 e.4 e.5) fun Qd=>Cnd (Qd<0) (K (-1002:Int) ns ids full) (Jx ns ids full Qd (-2:Int) (-1:Int) fun Qg (Zq:List (Int×Int×Int)) q7u w1h=>K Qg Zq q7u w1h))) fun z2m=>Cnd (e.1=2) (z2m (decide (e.1=2))) (z2m (decide (e.1=3)))))
def H7:Wi:=fun ns ids full atoms e K=> ∀X:Wi,(∀ns ids full atoms e K,q79 Hm Hn Vw Ui Jl X ns ids full atoms e K->X ns ids full atoms e K)->X ns ids full atoms e K
abbrev J4:Type:=List (Rul)->(List (Int)->Int->Bool->Prop)->Prop
def q33(j3e:j1r)(q3p:H5)(q3q:Wi)(Wz:Gi):J4:=fun l K=>j3e fun (Qa:List (Int×Int×Int)) Bw j3b=>q3p l fun Qd=>LpH (fun Qg j05=>Fits l->CAt l Qg.2.2.1 (fun y4=>q3q Qg.2.2.2.1 Qg.2.2.2.2.2.1 Qg.2.2.2.2.1 Qd (Ex.mk y4.2.1 y4.2.2 y4.2.3 y4.2.4 y4.2.5) fun Z3 (j06:List (Int×Int×Int)) y75 y76=>Wz j06 y75 y76 Qg.1 Z3 fun Qw (z8x:List (Int×Int×Int)) y8p v2t=>Cnd (Qw=(-1002:Int)) (Fits z8x->K [] (↑z8x.length:Int) false) (Cnd (Qw=Qg.1) (InI (Qg.2.2.1+1)/\Sml (Qg.2.1++[Qg.2.2.1+1]).length/\InI (Qg.2.2.1+1)/\j05 (Qw,Qg.2.1++[Qg.2.2.1+1],Qg.2.2.1+1,z8x,v2t,y8p,())) (InI (Qg.2.2.1+1)/\j05 (Qw,Qg.2.1,Qg.2.2.1+1,z8x,v2t,y8p,())))) (Fits Qg.2.2.2.1->K Qg.2.1 (↑Qg.2.2.2.1.length:Int) true)) ((-1:Int),[],(0:Int),Qa,j3b,Bw,())
def J5:J4:=q33 j8z H6 H7 Vw
abbrev z5f:Type:=List (Int)->Int->ByteArray->(Lay_->Int->Prop)->Prop
def j80(Wn:q1z)(Qb:Zj)(Wy:q6w):z5f:=fun list at_ key K=>Wn list at_ fun Qa Qz=>Qb list Qz (3:Int) fun Qd Jc=>InI (Qd*50)/\Jn2 (fun Qg Zq=>Jn2 (fun Qf Vq=>Lp4 (fun Qe J2 j3d y1k u0x=>Qb list y1k (3:Int) fun Qm q7v=>Cnd (J2<Qm) (Wy list q7v (3000:Int) fun Z3 j06=>InI (Qe+Z3)/\InI (Qe+Z3+1)/\Wy list j06 (2000:Int) fun Qw z8x=>InI (Qe+Z3+1+Qw)/\Cnd ((10000:Int)<Qe+Z3+1+Qw) (K (Lay_.mk key Qg Qa Qf (Qd*50) j3d) z8x) (Qb list z8x (200:Int) fun Uj y5i=>Sml (j3d++[Col.mk (Qe+Z3) (Qe+Z3+1+Qw) Uj]).length/\InI (J2+1)/\u0x (Qe+Z3+1+Qw) (J2+1) (j3d++[Col.mk (Qe+Z3) (Qe+Z3+1+Qw) Uj]) y5i)) (K (Lay_.mk key Qg Qa Qf (Qd*50) j3d) q7v)) (0:Int) (0:Int) [] Vq) fun y1e=>Qb list Zq (2:Int) fun Qe J2=>Cnd (Qe=1) (Wy list J2 (3000:Int) fun Qm q7v=>y1e Qm q7v) (y1e (0:Int) J2)) fun w9s=>Qb list Jc (4:Int) fun Qf Vq=>Cnd (Qf=1) (w9s (ByteArray.mk (Array.mk [100,101,118,105,99,101])) Vq) (w9s (ByteArray.mk (Array.mk [117,115,101,114])) Vq)
def z5g:z5f:=j80 q10 Ze q6x
abbrev z7r:Type:=Int->(Bool->Prop)->Prop
def z1l:z7r:=fun now K=>Cnd ((0:Int)<=now) (K (decide (now<=1099511627776))) (K false)
abbrev J9:Type:=Envt->ByteArray->(Int->Prop)->Prop
def Jn:J9:=fun v key K=>Lp1 (fun Qa Bw=>Fits v.5->CAt v.5 Qa (fun y2=>Cnd (y2.1=key) (K Qa) (InI (Qa+1)/\Bw (Qa+1))) (K (-1:Int))) (0:Int)
abbrev q13:Type:=List (Col)->Int->(List (Int)->Prop)->Prop
def H8:q13:=fun l now K=>((0:Int)<=(10000:Int)/\(10000:Int)<=(10000:Int)/\Sml (Int.toNat (10000:Int)))/\Lp2 (fun Qa Qz q31=>Fits Qz->CAt Qz Qa (fun _=>InI (Qa+1)/\q31 (Qa+1) (Qz.set Qa.toNat now)) (Lp2 (fun Qg Zq q7u=>Fits l->CAt l Qg (fun y4=>Lp2 (fun Z3 j06 y75=>At l Qg fun y7=>Cnd (Z3<Min.min y7.2 (10000:Int)) (At j06 Z3 fun y9=>At l Qg fun y11=>At j06 Z3 fun _=>InI (Z3+1)/\y75 (Z3+1) (j06.set Z3.toNat (Max.max y9 y11.3))) (InI (Qg+1)/\q7u (Qg+1) j06)) (Max.max y4.1 (0:Int)) Zq) (K Zq)) (0:Int) Qz)) (0:Int) (List.replicate (Int.toNat (10000:Int)) (0:Int))
abbrev Wq:Type:=List (Bool)->(List (Spn)->Prop)->Prop
def J6:Wq:=fun set_ K=>Lp2 (fun Qa Qz q31=>Fits set_->CAt set_ Qz (fun y2=>Cnd (y2=true) (Cnd ((0:Int)<Qz) (InI (Qz - 1)/\((0:Int)<=Qz - 1/\Qz - 1<(↑set_.length:Int))/\ ∀y4,set_[(Qz - 1).toNat]? =some y4->Cnd (y4=true) (Fits Qa->InI ((↑Qa.length:Int) - 1)/\InI (Qz+1)/\((0:Int)<=(↑Qa.length:Int) - 1/\(↑Qa.length:Int) - 1<(↑Qa.length:Int))/\ ∀y7,Qa[((↑Qa.length:Int) - 1).toNat]? =some y7->InI (Qz+1)/\q31 (Qa.set ((↑Qa.length:Int) - 1).toNat (Spn.mk y7.1 (Qz+1))) (Qz+1)) (InI (Qz+1)/\Sml (Qa++[Spn.mk Qz (Qz+1)]).length/\InI (Qz+1)/\q31 (Qa++[Spn.mk Qz (Qz+1)]) (Qz+1))) (InI (Qz+1)/\Sml (Qa++[Spn.mk Qz (Qz+1)]).length/\InI (Qz+1)/\q31 (Qa++[Spn.mk Qz (Qz+1)]) (Qz+1))) (InI (Qz+1)/\q31 Qa (Qz+1))) (K Qa)) [] (0:Int)
abbrev q8a:Type:=List (Int)->Int->(List (Spn)->Prop)->Prop
def z9s(Q6:Wq):q8a:=fun until_ now K=>Fits until_->((0:Int)<=(↑until_.length:Int)/\(↑until_.length:Int)<=(↑until_.length:Int)/\Sml (↑until_.length:Int).toNat)/\Lp2 (fun Qd Jc z7b=>Fits until_->CAt until_ Qd (fun y3=>At Jc Qd fun _=>InI (Qd+1)/\z7b (Qd+1) (Jc.set Qd.toNat (decide (now<y3)))) (Q6 Jc fun Qf=>K Qf)) (0:Int) (List.replicate (↑until_.length:Int).toNat false)
def q8b:q8a:=z9s J6
abbrev B8:Type:=List (Spn)->(List (Bool)->Prop)->Prop
def H9:B8:=fun l K=>((0:Int)<=(10000:Int)/\(10000:Int)<=(10000:Int)/\Sml (Int.toNat (10000:Int)))/\Lp2 (fun Qa Qz q31=>Fits l->CAt l Qa (fun y2=>Lp2 (fun Qe J2 w9t=>At l Qa fun y5=>Cnd (Qe<Min.min y5.2 (10000:Int)) (At J2 Qe fun _=>InI (Qe+1)/\w9t (Qe+1) (J2.set Qe.toNat true)) (InI (Qa+1)/\q31 (Qa+1) J2)) (Max.max y2.1 (0:Int)) Qz) (K Qz)) (0:Int) (List.replicate (Int.toNat (10000:Int)) false)
abbrev q8c:Type:=List (Spn)->List (Spn)->(List (Spn)->Prop)->Prop
def z9t(Je:B8)(Q6:Wq):q8c:=fun a b K=>Je a fun Qa=>Je b fun Qd=>Lp2 (fun Qg Zq q7u=>Fits Zq->CAt Zq Qg (fun y4=>Cnd (y4=true) (At Zq Qg fun _=>InI (Qg+1)/\q7u (Qg+1) (Zq.set Qg.toNat true)) (At Qd Qg fun y6=>At Zq Qg fun _=>InI (Qg+1)/\q7u (Qg+1) (Zq.set Qg.toNat y6))) (Q6 Zq fun Qe=>K Qe)) (0:Int) Qa
def q8d:q8c:=z9t H9 J6
abbrev q8e:Type:=Envt->ByteArray->ByteArray->Int->(List (Spn)->Prop)->Prop
def z9u(Q7:J9)(q1h:q8c)(R3:q13)(q4v:q8a):q8e:=fun v layer but now K=>Q7 (Envt.mk (Sett.mk v.1.1 v.1.2 v.1.3) v.2 v.3 v.4 v.5 v.6) layer fun Qa=>Cnd (Qa<0) (K []) (Jn1 (fun Qd=>Lp2 (fun Qg Zq q7u=>Fits v.6->CAt v.6 Zq (fun y4=>Cnd (y4.2=layer) (Cnd (y4.1=but) (InI (Zq+1)/\q7u Qg (Zq+1)) (Cnd (y4.5=3) (InI (Zq+1)/\q7u Qg (Zq+1)) (q1h Qg y4.6 fun Z3=>InI (Zq+1)/\q7u Z3 (Zq+1)))) (InI (Zq+1)/\q7u Qg (Zq+1))) (K Qg)) Qd (0:Int)) fun w34=>At v.5 Qa fun y2=>At v.5 Qa fun y4=>(R3 y4.6 now fun Z3=>q4v Z3 now fun Qw=>q1h [Spn.mk (0:Int) y2.4] Qw fun Uj=>w34 Uj)/\R3 y4.6 now fun Z3=>(q4v Z3 now fun Qw=>q1h [Spn.mk (0:Int) y2.4] Qw fun Uj=>w34 Uj)/\q4v Z3 now fun Qw=>q1h [Spn.mk (0:Int) y2.4] Qw fun Uj=>w34 Uj)
def q8f:q8e:=z9u Jn q8d H8 q8b
abbrev q02:Type:=List (Spn)->List (Spn)->(List (Spn)->Prop)->Prop
def z9v(Je:B8)(Q6:Wq):q02:=fun a b K=>Je a fun Qa=>Je b fun Qd=>Lp2 (fun Qg Zq q7u=>Fits Zq->CAt Zq Qg (fun y4=>Cnd (y4=true) (At Qd Qg fun y6=>At Zq Qg fun _=>InI (Qg+1)/\q7u (Qg+1) (Zq.set Qg.toNat (match decide (y6=true) with|true=>false|false=>true))) (At Zq Qg fun _=>InI (Qg+1)/\q7u (Qg+1) (Zq.set Qg.toNat false))) (Q6 Zq fun Qe=>K Qe)) (0:Int) Qa
def q03:q02:=z9v H9 J6
abbrev z1m:Type:=Envt->ByteArray->Int->(List (Spn)->Int->Prop)->Prop
def j38(z8c:z7r)(Q7:J9)(z4b:q8e)(Gx:q02):z1m:=fun v layer now K=>z8c now fun Qa=>Cnd (Qa=true) (Q7 (Envt.mk (Sett.mk v.1.1 v.1.2 v.1.3) v.2 v.3 v.4 v.5 v.6) layer fun Qd=>Cnd (Qd<0) (K [] (11:Int)) (z4b (Envt.mk (Sett.mk v.1.1 v.1.2 v.1.3) v.2 v.3 v.4 v.5 v.6) layer (ByteArray.mk (Array.mk [])) now fun Qg=>Gx [Spn.mk (0:Int) (10000:Int)] Qg fun Qf=>K Qf (0:Int))) (K [] (3:Int))
def z1n:z1m:=j38 z1l Jn q8f q03
abbrev q8g:Type:=List (Spn)->Int->(List (Spn)->Prop)->Prop
def z9w(Je:B8)(Q6:Wq):q8g:=fun l n K=>Je l fun Qa=>Lp3 (fun Qd Jc j29 y4d=>Fits j29->CAt j29 Jc (fun y3=>Cnd (y3=true) (Cnd (Qd<=0) (At j29 Jc fun _=>InI (Jc+1)/\y4d Qd (Jc+1) (j29.set Jc.toNat false)) (At j29 Jc fun y5=>Cnd (y5=true) (InI (Qd - 1)/\InI (Jc+1)/\y4d (Qd - 1) (Jc+1) j29) (InI (Jc+1)/\y4d Qd (Jc+1) j29))) (At j29 Jc fun y5=>Cnd (y5=true) (InI (Qd - 1)/\InI (Jc+1)/\y4d (Qd - 1) (Jc+1) j29) (InI (Jc+1)/\y4d Qd (Jc+1) j29))) (Q6 j29 fun Qf=>K Qf)) n (0:Int) Qa
def q8h:q8g:=z9w H9 J6
abbrev Vx:Type:=ByteArray->(Bool->Prop)->Prop
def Jv(s:ByteArray)(K:Bool->Prop):Prop:=s.size<=(9223372036854775807:Nat)/\K (Go.Lib.validD s.data.toList)
abbrev Jt:Type:=ByteArray->(Bool->Prop)->Prop
def z7s(Zv:Vx):Jt:=fun s K=>Cnd ((200:Int)<(↑s.size:Int)) (K false) (Zv s fun Qa=>Cnd (Qa=true) (Lp1 (fun Qd q1t=>Cnd (Qd<(↑s.size:Int)) (((0:Int)<=Qd/\Qd<(↑s.size:Int))/\ ∀b2,s[Qd.toNat]? =some b2->Cnd ((↑b2.toNat:Int)<32) (K false) (((0:Int)<=Qd/\Qd<(↑s.size:Int))/\ ∀b4,s[Qd.toNat]? =some b4->Cnd ((↑b4.toNat:Int)=127) (K false) (InI (Qd+1)/\q1t (Qd+1)))) (K true)) (0:Int)) (K false))
def Z6:Jt:=z7s Jv
abbrev j1u:Type:=ByteArray->(Bool->Prop)->Prop
def z5h:j1u:=fun s K=>Lp1 (fun Qa Bw=>Cnd (Qa<(↑s.size:Int)) (((0:Int)<=Qa/\Qa<(↑s.size:Int))/\ ∀b1,s[Qa.toNat]? =some b1->Cnd ((97:Int)<=(↑b1.toNat:Int)) (Cnd ((↑b1.toNat:Int)<=122) (InI (Qa+1)/\Bw (Qa+1)) (Cnd (Qa=0) (K false) (Cnd ((48:Int)<=(↑b1.toNat:Int)) (Cnd ((↑b1.toNat:Int)<=57) (InI (Qa+1)/\Bw (Qa+1)) (Cnd ((↑b1.toNat:Int)=45) (InI (Qa+1)/\Bw (Qa+1)) (Cnd ((↑b1.toNat:Int)=95) (InI (Qa+1)/\Bw (Qa+1)) (K false)))) (Cnd ((↑b1.toNat:Int)=45) (InI (Qa+1)/\Bw (Qa+1)) (Cnd ((↑b1.toNat:Int)=95) (InI (Qa+1)/\Bw (Qa+1)) (K false)))))) (Cnd (Qa=0) (K false) (Cnd ((48:Int)<=(↑b1.toNat:Int)) (Cnd ((↑b1.toNat:Int)<=57) (InI (Qa+1)/\Bw (Qa+1)) (Cnd ((↑b1.toNat:Int)=45) (InI (Qa+1)/\Bw (Qa+1)) (Cnd ((↑b1.toNat:Int)=95) (InI (Qa+1)/\Bw (Qa+1)) (K false)))) (Cnd ((↑b1.toNat:Int)=45) (InI (Qa+1)/\Bw (Qa+1)) (Cnd ((↑b1.toNat:Int)=95) (InI (Qa+1)/\Bw (Qa+1)) (K false)))))) (K (decide ((0:Int)<(↑s.size:Int))))) (0:Int)
abbrev q6y:Type:=(List (ByteArray)->Prop)->Prop
def q14:q6y:=fun K=>K [ByteArray.mk (Array.mk [97,110,100]),ByteArray.mk (Array.mk [97,114,109,115]),ByteArray.mk (Array.mk [97,116,116,114,105,98,117,116,101]),ByteArray.mk (Array.mk [98,111,111,108]),ByteArray.mk (Array.mk [99,108,97,105,109,115]),ByteArray.mk (Array.mk [99,111,110,116,97,105,110,115]),ByteArray.mk (Array.mk [99,111,111,108]),ByteArray.mk (Array.mk [99,111,111,108,105,110,103]),ByteArray.mk (Array.mk [100,101,102,97,117,108,116]),ByteArray.mk (Array.mk [100,114,97,102,116]),ByteArray.mk (Array.mk [101,110,100,115]),ByteArray.mk (Array.mk [101,120,99,108,117,100,101]),ByteArray.mk (Array.mk [101,120,105,115,116,115]),ByteArray.mk (Array.mk [101,120,112,101,114,105,109,101,110,116]),ByteArray.mk (Array.mk [102,97,108,115,101]),ByteArray.mk (Array.mk [102,108,97,103]),ByteArray.mk (Array.mk [104,111,108,100,111,117,116]),ByteArray.mk (Array.mk [105,110]),ByteArray.mk (Array.mk [105,110,99,108,117,100,101]),ByteArray.mk (Array.mk [105,115]),ByteArray.mk (Array.mk [108,97,121,101,114]),ByteArray.mk (Array.mk [108,105,115,116]),ByteArray.mk (Array.mk [109,101,109,98,101,114]),ByteArray.mk (Array.mk [110,101,101,100,115]),ByteArray.mk (Array.mk [110,111,116]),ByteArray.mk (Array.mk [110,117,109,98,101,114]),ByteArray.mk (Array.mk [111,102,102]),ByteArray.mk (Array.mk [111,110]),ByteArray.mk (Array.mk [111,114]),ByteArray.mk (Array.mk [114,117,108,101]),ByteArray.mk (Array.mk [114,117,110,110,105,110,103]),ByteArray.mk (Array.mk [115,97,108,116]),ByteArray.mk (Array.mk [115,101,103,109,101,110,116]),ByteArray.mk (Array.mk [115,101,114,118,101]),ByteArray.mk (Array.mk [115,101,116,116,105,110,103,115]),ByteArray.mk (Array.mk [115,112,108,105,116]),ByteArray.mk (Array.mk [115,116,97,114,116,115]),ByteArray.mk (Array.mk [115,116,111,112,112,101,100]),ByteArray.mk (Array.mk [116,97,114,103,101,116]),ByteArray.mk (Array.mk [116,101,120,116]),ByteArray.mk (Array.mk [116,111]),ByteArray.mk (Array.mk [116,114,117,101]),ByteArray.mk (Array.mk [117,110,116,105,108]),ByteArray.mk (Array.mk [118,97,114,105,97,116,105,111,110,115]),ByteArray.mk (Array.mk [118,101,114,115,105,111,110]),ByteArray.mk (Array.mk [119,104,101,110])]
abbrev Jo:Type:=ByteArray->(Bool->Prop)->Prop
def w4t(j3f:j1u)(q7b:q6y):Jo:=fun s K=>j3f s fun Qa=>Cnd (Qa=true) (Cnd ((32:Int)<(↑s.size:Int)) (K false) (q7b fun Qd=>Lp1 (fun Qg j05=>Fits Qd->CAt Qd Qg (fun y4=>Cnd (y4=s) (K false) (InI (Qg+1)/\j05 (Qg+1))) (K true)) (0:Int))) (K false)
def Jp:Jo:=w4t z5h q14
abbrev q15:Type:=Sett->(Int->Prop)->Prop
def z2z(Qs:Jt)(Ql:Jo):q15:=fun s K=>Qs s.1 fun Qa=>Cnd (Qa=true) (Cnd (s.3<0) (K (3:Int)) (Cnd ((10000:Int)<s.3) (K (3:Int)) (Ql s.2 fun Qd=>Cnd (Qd=true) (K (0:Int)) (Cnd (s.2=ByteArray.mk (Array.mk [])) (Cnd (s.3=0) (K (0:Int)) (K (6:Int))) (K (6:Int)))))) (K (2:Int))
def q16:q15:=z2z Z6 Jp
abbrev q17:Type:=List (Decl)->(Int->Prop)->Prop
def z22(Ql:Jo):q17:=fun l K=>Fits l->Cnd ((30:Int)<(↑l.length:Int)) (K (5:Int)) (Lp1 (fun Qd q1t=>Fits l->CAt l Qd (fun y3=>Ql y3.1 fun Qm=>Cnd (Qm=true) (At l Qd fun y6=>Ql y6.2 fun Uj=>Cnd (Uj=true) (At l Qd fun y9=>Cnd (y9.2=ByteArray.mk (Array.mk [107,101,121])) (K (6:Int)) (At l Qd fun y11=>Cnd (y11.3<1) (K (7:Int)) (At l Qd fun y13=>Cnd ((5:Int)<y13.3) (K (7:Int)) (Cnd ((0:Int)<Qd) (At l Qd fun y15=>InI (Qd - 1)/\((0:Int)<=Qd - 1/\Qd - 1<(↑l.length:Int))/\ ∀y17,l[(Qd - 1).toNat]? =some y17->Cnd (Lk.blt y15.1 y17.1) (K (9:Int)) (At l Qd fun y19=>InI (Qd - 1)/\((0:Int)<=Qd - 1/\Qd - 1<(↑l.length:Int))/\ ∀y21,l[(Qd - 1).toNat]? =some y21->Cnd (y19.1=y21.1) (At l Qd fun y23=>InI (Qd - 1)/\((0:Int)<=Qd - 1/\Qd - 1<(↑l.length:Int))/\ ∀y25,l[(Qd - 1).toNat]? =some y25->Cnd (Lk.blt y25.2 y23.2) (InI (Qd+1)/\q1t (Qd+1)) (K (9:Int))) (InI (Qd+1)/\q1t (Qd+1)))) (InI (Qd+1)/\q1t (Qd+1)))))) (K (6:Int))) (K (6:Int))) (K (0:Int))) (0:Int))
def q18:q17:=z22 Jp
abbrev Ra:Type:=List (ByteArray)->(Int->Prop)->Prop
def z5i(Qs:Jt):Ra:=fun l K=>Fits l->Cnd ((40:Int)<(↑l.length:Int)) (K (5:Int)) (Lp1 (fun Qd q1t=>Fits l->CAt l Qd (fun y3=>Cnd (y3=ByteArray.mk (Array.mk [])) (K (2:Int)) (At l Qd fun y5=>Qs y5 fun Qw=>Cnd (Qw=true) (Cnd ((0:Int)<Qd) (At l Qd fun y8=>InI (Qd - 1)/\((0:Int)<=Qd - 1/\Qd - 1<(↑l.length:Int))/\ ∀y10,l[(Qd - 1).toNat]? =some y10->Cnd (Lk.blt y10 y8) (InI (Qd+1)/\q1t (Qd+1)) (K (9:Int))) (InI (Qd+1)/\q1t (Qd+1))) (K (2:Int)))) (K (0:Int))) (0:Int))
def Rb:Ra:=z5i Z6
abbrev j1v:Type:=Ex->(Bool->Prop)->Prop
def z5j:j1v:=fun e K=>Cnd (e.1=0) (Cnd (e.2=ByteArray.mk (Array.mk [])) (Cnd (e.3=ByteArray.mk (Array.mk [])) (Fits e.4->Cnd ((↑e.4.length:Int)=0) (Fits e.5->K (decide ((↑e.5.length:Int)=0))) (K false)) (K false)) (K false)) (K false)
abbrev q8i:Type:=Ex->(Bool->Prop)->Prop
def z9x(Qv:Wo):q8i:=fun e K=>Fits e.5->Fits e.4->Jn2 (fun Qg Zq=>Qv e.1 fun Qf=>Cnd (Qg=true) (Cnd (Zq=true) (Cnd (Qf=true) (Cnd (Qf=true) (K true) (Cnd (e.1=5) (K true) (K (decide (e.3=ByteArray.mk (Array.mk [])))))) (Cnd (e.2=ByteArray.mk (Array.mk [])) (Cnd (Qf=true) (K true) (Cnd (e.1=5) (K true) (K (decide (e.3=ByteArray.mk (Array.mk [])))))) (K false))) (K false)) (K false)) fun w9s=>Cnd (e.1=2) (Fits e.5->w9s (decide ((2:Int)<=(↑e.5.length:Int))) (decide ((↑e.4.length:Int)=0))) (Cnd (e.1=3) (Fits e.5->w9s (decide ((2:Int)<=(↑e.5.length:Int))) (decide ((↑e.4.length:Int)=0))) (Cnd (e.1=4) (Fits e.5->w9s (decide ((↑e.5.length:Int)=1)) (decide ((↑e.4.length:Int)=0))) (Cnd (e.1=8) (Fits e.4->w9s (decide ((↑e.5.length:Int)=0)) (decide ((0:Int)<(↑e.4.length:Int)))) (Qv e.1 fun Qf=>Cnd (Qf=true) (Cnd (e.1=6) (w9s (decide ((↑e.5.length:Int)=0)) (decide ((↑e.4.length:Int)=0))) (Fits e.4->w9s (decide ((↑e.5.length:Int)=0)) (decide ((↑e.4.length:Int)=1)))) (w9s (decide ((↑e.5.length:Int)=0)) (decide ((↑e.4.length:Int)=0)))))))
def q8j:q8i:=z9x Jf
abbrev z7t:Type:=Val->(Bool->Prop)->Prop
def q34:z7t:=fun v K=>Cnd (v.1=1) (Cnd (v.1=3) (Cnd (v.1=5) (K true) (Fits v.4->K (decide ((↑v.4.length:Int)=0)))) (Cnd (v.1=4) (Cnd (v.1=5) (K true) (Fits v.4->K (decide ((↑v.4.length:Int)=0)))) (Cnd (v.3=ByteArray.mk (Array.mk [])) (Cnd (v.1=5) (K true) (Fits v.4->K (decide ((↑v.4.length:Int)=0)))) (K false)))) (Cnd (v.1=3) (Cnd (v.1=2) (Cnd (v.1=5) (K true) (Fits v.4->K (decide ((↑v.4.length:Int)=0)))) (Cnd (v.2=0) (Cnd (v.1=5) (K true) (Fits v.4->K (decide ((↑v.4.length:Int)=0)))) (K false))) (Cnd (v.1=2) (Cnd (v.1=4) (Cnd (v.1=5) (K true) (Fits v.4->K (decide ((↑v.4.length:Int)=0)))) (Cnd (v.3=ByteArray.mk (Array.mk [])) (Cnd (v.1=5) (K true) (Fits v.4->K (decide ((↑v.4.length:Int)=0)))) (K false))) (Cnd (v.2=0) (Cnd (v.1=4) (Cnd (v.1=5) (K true) (Fits v.4->K (decide ((↑v.4.length:Int)=0)))) (Cnd (v.3=ByteArray.mk (Array.mk [])) (Cnd (v.1=5) (K true) (Fits v.4->K (decide ((↑v.4.length:Int)=0)))) (K false))) (K false))))
abbrev q0r:Type:=ByteArray->(Int->Int->Prop)->Prop
def J1:q0r:=fun s K=>Jn1 (fun Qa=>Lp1 (fun Qd q1t=>Cnd (Qd<(↑Qa.size:Int)) (((0:Int)<=Qd/\Qd<(↑Qa.size:Int))/\ ∀b2,Qa[Qd.toNat]? =some b2->Cnd ((↑b2.toNat:Int)<48) (K (0:Int) (1:Int)) (((0:Int)<=Qd/\Qd<(↑Qa.size:Int))/\ ∀b4,Qa[Qd.toNat]? =some b4->Cnd ((57:Int)<(↑b4.toNat:Int)) (K (0:Int) (1:Int)) (InI (Qd+1)/\q1t (Qd+1)))) (Cnd (Qa=ByteArray.mk (Array.mk [])) (K (0:Int) (1:Int)) (((0:Int)<=(0:Int)/\(0:Int)<(↑Qa.size:Int))/\ ∀b2,Qa[Int.toNat (0:Int)]? =some b2->Cnd ((↑b2.toNat:Int)=48) (Cnd (s=ByteArray.mk (Array.mk [48])) (Cnd ((13:Int)<(↑Qa.size:Int)) (K (0:Int) (3:Int)) (Lp2 (fun Qe J2 w9t=>Cnd (J2<(↑Qa.size:Int)) (InI ((10:Int)*Qe)/\((0:Int)<=J2/\J2<(↑Qa.size:Int))/\ ∀b5,Qa[J2.toNat]? =some b5->InI (Go.IntKind.u8.wrap ((↑b5.toNat:Int) - 48))/\InI ((10:Int)*Qe+Go.IntKind.u8.wrap ((↑b5.toNat:Int) - 48))/\InI (J2+1)/\w9t ((10:Int)*Qe+Go.IntKind.u8.wrap ((↑b5.toNat:Int) - 48)) (J2+1)) (Cnd ((1099511627776:Int)<Qe) (K (0:Int) (3:Int)) (Cnd ((↑Qa.size:Int)<(↑s.size:Int)) (InI ((0:Int) - Qe)/\K ((0:Int) - Qe) (0:Int)) (K Qe (0:Int))))) (0:Int) (0:Int))) (K (0:Int) (1:Int))) (Cnd ((13:Int)<(↑Qa.size:Int)) (K (0:Int) (3:Int)) (Lp2 (fun Qe J2 w9t=>Cnd (J2<(↑Qa.size:Int)) (InI ((10:Int)*Qe)/\((0:Int)<=J2/\J2<(↑Qa.size:Int))/\ ∀b5,Qa[J2.toNat]? =some b5->InI (Go.IntKind.u8.wrap ((↑b5.toNat:Int) - 48))/\InI ((10:Int)*Qe+Go.IntKind.u8.wrap ((↑b5.toNat:Int) - 48))/\InI (J2+1)/\w9t ((10:Int)*Qe+Go.IntKind.u8.wrap ((↑b5.toNat:Int) - 48)) (J2+1)) (Cnd ((1099511627776:Int)<Qe) (K (0:Int) (3:Int)) (Cnd ((↑Qa.size:Int)<(↑s.size:Int)) (InI ((0:Int) - Qe)/\K ((0:Int) - Qe) (0:Int)) (K Qe (0:Int))))) (0:Int) (0:Int)))))) (0:Int)) fun z2m=>Cnd ((0:Int)<(↑s.size:Int)) (((0:Int)<=(0:Int)/\(0:Int)<(↑s.size:Int))/\ ∀b1,s[Int.toNat (0:Int)]? =some b1->Cnd ((↑b1.toNat:Int)=45) (((0:Int)<=(1:Int)/\(1:Int)<=(↑s.size:Int)/\(↑s.size:Int)<=(↑s.size:Int))/\z2m (s.extract (Int.toNat (1:Int)) (↑s.size:Int).toNat)) (z2m s)) (z2m s)
abbrev q35:Type:=ByteArray->(A3->Bool->Prop)->Prop
def z7u(Hk:q0r):q35:=fun s K=>LpH (fun (Qa:Int×Int×Int×Int×Int×Int×Int×Int×Unit) Bw=>Cnd (Qa.2.1<3) (Lp1 (fun Qd q1t=>Cnd (Qd<(↑s.size:Int)) (((0:Int)<=Qd/\Qd<(↑s.size:Int))/\ ∀b2,s[Qd.toNat]? =some b2->Cnd ((↑b2.toNat:Int)=46) (((0:Int)<=Qa.1/\Qa.1<=Qd/\Qd<=(↑s.size:Int))/\Hk (s.extract Qa.1.toNat Qd.toNat) fun Qe J2=>Cnd (J2=0) (Cnd (Qe<0) (K ((0:Int),(0:Int),(0:Int)) false) (Cnd ((999999:Int)<Qe) (K ((0:Int),(0:Int),(0:Int)) false) (Cnd (decide (Qa.2.1<2)=decide (Qd<(↑s.size:Int))) (((0:Int)<=Qa.2.1/\Qa.2.1<(↑(3:Nat):Int))/\((True/\(Qa.2.1=(↑(nat_lit 0):Int)->InI (Qd+1)/\InI (Qa.2.1+1)/\Bw (Qd+1,Qa.2.1+1,Qe,Qa.2.2.2.1,Qa.2.2.2.2.1,Qa.2.2.2.2.2.1,Qa.2.2.2.2.2.2.1,Qa.2.2.2.2.2.2.2.1,())))/\(Qa.2.1=(↑(nat_lit 1):Int)->InI (Qd+1)/\InI (Qa.2.1+1)/\Bw (Qd+1,Qa.2.1+1,Qa.2.2.1,Qe,Qa.2.2.2.2.1,Qa.2.2.2.2.2.1,Qa.2.2.2.2.2.2.1,Qa.2.2.2.2.2.2.2.1,())))/\(Qa.2.1=(↑(nat_lit 2):Int)->InI (Qd+1)/\InI (Qa.2.1+1)/\Bw (Qd+1,Qa.2.1+1,Qa.2.2.1,Qa.2.2.2.1,Qe,Qa.2.2.2.2.2.1,Qa.2.2.2.2.2.2.1,Qa.2.2.2.2.2.2.2.1,()))) (K ((0:Int),(0:Int),(0:Int)) false)))) (K ((0:Int),(0:Int),(0:Int)) false)) (InI (Qd+1)/\q1t (Qd+1))) (((0:Int)<=Qa.1/\Qa.1<=Qd/\Qd<=(↑s.size:Int))/\Hk (s.extract Qa.1.toNat Qd.toNat) fun Qg Zq=>Cnd (Zq=0) (Cnd (Qg<0) (K ((0:Int),(0:Int),(0:Int)) false) (Cnd ((999999:Int)<Qg) (K ((0:Int),(0:Int),(0:Int)) false) (Cnd (decide (Qa.2.1<2)=decide (Qd<(↑s.size:Int))) (((0:Int)<=Qa.2.1/\Qa.2.1<(↑(3:Nat):Int))/\((True/\(Qa.2.1=(↑(nat_lit 0):Int)->InI (Qd+1)/\InI (Qa.2.1+1)/\Bw (Qd+1,Qa.2.1+1,Qg,Qa.2.2.2.1,Qa.2.2.2.2.1,Qa.2.2.2.2.2.1,Qa.2.2.2.2.2.2.1,Qa.2.2.2.2.2.2.2.1,())))/\(Qa.2.1=(↑(nat_lit 1):Int)->InI (Qd+1)/\InI (Qa.2.1+1)/\Bw (Qd+1,Qa.2.1+1,Qa.2.2.1,Qg,Qa.2.2.2.2.1,Qa.2.2.2.2.2.1,Qa.2.2.2.2.2.2.1,Qa.2.2.2.2.2.2.2.1,())))/\(Qa.2.1=(↑(nat_lit 2):Int)->InI (Qd+1)/\InI (Qa.2.1+1)/\Bw (Qd+1,Qa.2.1+1,Qa.2.2.1,Qa.2.2.2.1,Qg,Qa.2.2.2.2.2.1,Qa.2.2.2.2.2.2.1,Qa.2.2.2.2.2.2.2.1,()))) (K ((0:Int),(0:Int),(0:Int)) false)))) (K ((0:Int),(0:Int),(0:Int)) false))) Qa.1) (K (Qa.2.2.1,Qa.2.2.2.1,Qa.2.2.2.2.1) true)) ((0:Int),(0:Int),(0:Int),(0:Int),(0:Int),(0:Int),(0:Int),(0:Int),())
def Bb:q35:=z7u J1
abbrev z5k:Type:=List (ByteArray)->(Int->Prop)->Prop
def j1w(Qs:Jt):z5k:=fun l K=>Fits l->Cnd ((20:Int)<(↑l.length:Int)) (K (5:Int)) (Lp1 (fun Qd q1t=>Fits l->CAt l Qd (fun y3=>Qs y3 fun Qm=>Cnd (Qm=true) (InI (Qd+1)/\q1t (Qd+1)) (K (2:Int))) (Lp1 (fun Qf j07=>Fits l->CAt l Qf (fun y5=>InI (Qf - 1)/\((0:Int)<=Qf - 1/\Qf - 1<(↑l.length:Int))/\ ∀y7,l[(Qf - 1).toNat]? =some y7->Cnd (Lk.blt y7 y5) (InI (Qf+1)/\j07 (Qf+1)) (K (9:Int))) (K (0:Int))) (1:Int))) (0:Int))
def q8k:z5k:=j1w Z6
abbrev Bc:Type:=Val->(Int->Prop)->Prop
def z7v(z8d:z7t)(Qs:Jt)(Hr:q35)(j3g:z5k):Bc:=fun v K=>Cnd (v.1<1) (K (7:Int)) (Cnd ((5:Int)<v.1) (K (7:Int)) (z8d v fun Qa=>Cnd (Qa=true) (Cnd (v.1=1) (Cnd (v.2=0) (K (0:Int)) (Cnd (v.2=1) (K (0:Int)) (K (3:Int)))) (Cnd (v.1=2) (Cnd (v.2<(-1099511627776:Int)) (K (3:Int)) (Cnd ((1099511627776:Int)<v.2) (K (3:Int)) (K (0:Int)))) (Cnd (v.1=3) (Qs v.3 fun Qd=>Cnd (Qd=true) (K (0:Int)) (K (2:Int))) (Cnd (v.1=4) (Hr v.3 fun (_:Int×Int×Int) Jc=>Cnd (Jc=true) (K (0:Int)) (K (1:Int))) (Cnd (v.1=5) (j3g v.4 fun Qd=>K Qd) (K (0:Int))))))) (K (15:Int))))
def Uy:Bc:=z7v q34 Z6 Bb q8k
abbrev z5l:Type:=Ex->(Int->Prop)->Prop
def j81(z4c:q8i)(Qv:Wo)(Ql:Jo)(Zy:Bc):z5l:=fun e K=>Cnd (e.1<1) (K (7:Int)) (Cnd ((15:Int)<e.1) (K (7:Int)) (z4c (Ex.mk e.1 e.2 e.3 e.4 e.5) fun Qa=>Cnd (Qa=true) (Fits e.5->Cnd ((12:Int)<(↑e.5.length:Int)) (K (5:Int)) (Fits e.4->Cnd ((20:Int)<(↑e.4.length:Int)) (K (5:Int)) (Lp1 (fun Qf j07=>Fits e.5->CAt e.5 Qf (fun y5=>Cnd (y5.1=e.1) (Cnd (e.1=4) (InI (Qf+1)/\j07 (Qf+1)) (K (15:Int))) (InI (Qf+1)/\j07 (Qf+1))) (Qv e.1 fun Qm=>Cnd (Qm=true) (Ql e.2 fun Z3=>Cnd (Z3=true) (Qv e.1 fun Qw=>Cnd (Qw=true) (Ql e.3 fun Uj=>Cnd (Uj=true) (Lp1 (fun Qp y77=>Fits e.4->CAt e.4 Qp (fun y11=>Zy y11 fun Za=>Cnd (Za=0) (InI (Qp+1)/\y77 (Qp+1)) (K Za)) (Cnd (e.1=9) (((0:Int)<=(0:Int)/\(0:Int)<(↑e.4.length:Int))/\ ∀y11,e.4[Int.toNat (0:Int)]? =some y11->Cnd (y11.1=3) (K (0:Int)) (K (8:Int))) (Cnd (e.1=10) (((0:Int)<=(0:Int)/\(0:Int)<(↑e.4.length:Int))/\ ∀y11,e.4[Int.toNat (0:Int)]? =some y11->Cnd (y11.1=3) (K (0:Int)) (K (8:Int))) (Cnd (e.1=11) (((0:Int)<=(0:Int)/\(0:Int)<(↑e.4.length:Int))/\ ∀y11,e.4[Int.toNat (0:Int)]? =some y11->Cnd (y11.1=3) (K (0:Int)) (K (8:Int))) (K (0:Int)))))) (0:Int)) (K (6:Int))) (Cnd (e.1=5) (Ql e.3 fun Uj=>Cnd (Uj=true) (Lp1 (fun Qp y77=>Fits e.4->CAt e.4 Qp (fun y11=>Zy y11 fun Za=>Cnd (Za=0) (InI (Qp+1)/\y77 (Qp+1)) (K Za)) (Cnd (e.1=9) (((0:Int)<=(0:Int)/\(0:Int)<(↑e.4.length:Int))/\ ∀y11,e.4[Int.toNat (0:Int)]? =some y11->Cnd (y11.1=3) (K (0:Int)) (K (8:Int))) (Cnd (e.1=10) (((0:Int)<=(0:Int)/\(0:Int)<(↑e.4.length:Int))/\ ∀y11,e.4[Int.toNat (0:Int)]? =some y11->Cnd (y11.1=3) (K (0:Int)) (K (8:Int))) (Cnd (e.1=11) (((0:Int)<=(0:Int)/\(0:Int)<(↑e.4.length:Int))/\ ∀y11,e.4[Int.toNat (0:Int)]? =some y11->Cnd (y11.1=3) (K (0:Int)) (K (8:Int))) (K (0:Int)))))) (0:Int)) (K (6:Int))) (Lp1 (fun Uj u0i=>Fits e.4->CAt e.4 Uj (fun y10=>Zy y10 fun V9=>Cnd (V9=0) (InI (Uj+1)/\u0i (Uj+1)) (K V9)) (Cnd (e.1=9) (((0:Int)<=(0:Int)/\(0:Int)<(↑e.4.length:Int))/\ ∀y10,e.4[Int.toNat (0:Int)]? =some y10->Cnd (y10.1=3) (K (0:Int)) (K (8:Int))) (Cnd (e.1=10) (((0:Int)<=(0:Int)/\(0:Int)<(↑e.4.length:Int))/\ ∀y10,e.4[Int.toNat (0:Int)]? =some y10->Cnd (y10.1=3) (K (0:Int)) (K (8:Int))) (Cnd (e.1=11) (((0:Int)<=(0:Int)/\(0:Int)<(↑e.4.length:Int))/\ ∀y10,e.4[Int.toNat (0:Int)]? =some y10->Cnd (y10.1=3) (K (0:Int)) (K (8:Int))) (K (0:Int)))))) (0:Int)))) (K (6:Int))) (Qv e.1 fun Z3=>Cnd (Z3=true) (Ql e.3 fun Qw=>Cnd (Qw=true) (Lp1 (fun Uj u0i=>Fits e.4->CAt e.4 Uj (fun y10=>Zy y10 fun V9=>Cnd (V9=0) (InI (Uj+1)/\u0i (Uj+1)) (K V9)) (Cnd (e.1=9) (((0:Int)<=(0:Int)/\(0:Int)<(↑e.4.length:Int))/\ ∀y10,e.4[Int.toNat (0:Int)]? =some y10->Cnd (y10.1=3) (K (0:Int)) (K (8:Int))) (Cnd (e.1=10) (((0:Int)<=(0:Int)/\(0:Int)<(↑e.4.length:Int))/\ ∀y10,e.4[Int.toNat (0:Int)]? =some y10->Cnd (y10.1=3) (K (0:Int)) (K (8:Int))) (Cnd (e.1=11) (((0:Int)<=(0:Int)/\(0:Int)<(↑e.4.length:Int))/\ ∀y10,e.4[Int.toNat (0:Int)]? =some y10->Cnd (y10.1=3) (K (0:Int)) (K (8:Int))) (K (0:Int)))))) (0:Int)) (K (6:Int))) (Cnd (e.1=5) (Ql e.3 fun Qw=>Cnd (Qw=true) (Lp1 (fun Uj u0i=>Fits e.4->CAt e.4 Uj (fun y10=>Zy y10 fun V9=>Cnd (V9=0) (InI (Uj+1)/\u0i (Uj+1)) (K V9)) (Cnd (e.1=9) (((0:Int)<=(0:Int)/\(0:Int)<(↑e.4.length:Int))/\ ∀y10,e.4[Int.toNat (0:Int)]? =some y10->Cnd (y10.1=3) (K (0:Int)) (K (8:Int))) (Cnd (e.1=10) (((0:Int)<=(0:Int)/\(0:Int)<(↑e.4.length:Int))/\ ∀y10,e.4[Int.toNat (0:Int)]? =some y10->Cnd (y10.1=3) (K (0:Int)) (K (8:Int))) (Cnd (e.1=11) (((0:Int)<=(0:Int)/\(0:Int)<(↑e.4.length:Int))/\ ∀y10,e.4[Int.toNat (0:Int)]? =some y10->Cnd (y10.1=3) (K (0:Int)) (K (8:Int))) (K (0:Int)))))) (0:Int)) (K (6:Int))) (Lp1 (fun Qw v2u=>Fits e.4->CAt e.4 Qw (fun y9=>Zy y9 fun Gc=>Cnd (Gc=0) (InI (Qw+1)/\v2u (Qw+1)) (K Gc)) (Cnd (e.1=9) (((0:Int)<=(0:Int)/\(0:Int)<(↑e.4.length:Int))/\ ∀y9,e.4[Int.toNat (0:Int)]? =some y9->Cnd (y9.1=3) (K (0:Int)) (K (8:Int))) (Cnd (e.1=10) (((0:Int)<=(0:Int)/\(0:Int)<(↑e.4.length:Int))/\ ∀y9,e.4[Int.toNat (0:Int)]? =some y9->Cnd (y9.1=3) (K (0:Int)) (K (8:Int))) (Cnd (e.1=11) (((0:Int)<=(0:Int)/\(0:Int)<(↑e.4.length:Int))/\ ∀y9,e.4[Int.toNat (0:Int)]? =some y9->Cnd (y9.1=3) (K (0:Int)) (K (8:Int))) (K (0:Int)))))) (0:Int)))))) (0:Int)))) (K (15:Int))))
def z1o:z5l:=j81 q8j Jf Jp Uy
abbrev q5k:Type:=Ex->Int->Int->(Int->Int->Prop)->Prop
def j82(j3h:z5l)(X:q5k):q5k:=fun e depth n K=>Cnd ((60:Int)<=n) (K (5:Int) n) (InI (n+1)/\Cnd ((10:Int)<depth) (K (18:Int) (n+1)) (j3h (Ex.mk e.1 e.2 e.3 e.4 e.5) fun Qa=>Cnd (Qa=0) (Lp2 (fun Qd Jc z7b=>Fits e.5->CAt e.5 Qd (fun y3=>InI (depth+1)/\X (Ex.mk y3.1 y3.2 y3.3 y3.4 y3.5) (depth+1) Jc fun Qm q7v=>Cnd (Qm=0) (InI (Qd+1)/\z7b (Qd+1) q7v) (K Qm q7v)) (K (0:Int) Jc)) (0:Int) (n+1)) (K Qa (n+1))))
def z5m:q5k:=fun e depth n K=> ∀X:q5k,(∀e depth n K,j82 z1o X e depth n K->X e depth n K)->X e depth n K
abbrev q19:Type:=Ex->(Int->Prop)->Prop
def j83(j3i:q5k):q19:=fun e K=>j3i (Ex.mk e.1 e.2 e.3 e.4 e.5) (1:Int) (0:Int) fun Qa _=>K Qa
def q2a:q19:=j83 z5m
abbrev q5l:Type:=Seg->(Int->Prop)->Prop
def z5n(Ql:Jo)(Va:Ra)(j3j:j1v)(Ua:q19):q5l:=fun g K=>Ql g.1 fun Qa=>Cnd (Qa=true) (Ql g.2 fun Qd=>Cnd (Qd=true) (Va g.3 fun Qg=>Cnd (Qg=0) (Va g.4 fun Qf=>Cnd (Qf=0) (j3j (Ex.mk g.5.1 g.5.2 g.5.3 g.5.4 g.5.5) fun Qe=>Cnd (Qe=true) (K (0:Int)) (Ua (Ex.mk g.5.1 g.5.2 g.5.3 g.5.4 g.5.5) fun Qm=>K Qm)) (K Qf)) (K Qg)) (K (6:Int))) (K (6:Int))
def q5m:q5l:=z5n Jp Rb z5j q2a
abbrev q2b:Type:=List (Seg)->(Int->Prop)->Prop
def z23(z0g:q5l):q2b:=fun l K=>Fits l->Cnd ((20:Int)<(↑l.length:Int)) (K (5:Int)) (Lp1 (fun Qd q1t=>Fits l->CAt l Qd (fun y3=>z0g (Seg.mk y3.1 y3.2 y3.3 y3.4 (Ex.mk y3.5.1 y3.5.2 y3.5.3 y3.5.4 y3.5.5)) fun Qm=>Cnd (Qm=0) (Cnd ((0:Int)<Qd) (At l Qd fun y6=>InI (Qd - 1)/\((0:Int)<=Qd - 1/\Qd - 1<(↑l.length:Int))/\ ∀y8,l[(Qd - 1).toNat]? =some y8->Cnd (Lk.blt y8.1 y6.1) (InI (Qd+1)/\q1t (Qd+1)) (K (9:Int))) (InI (Qd+1)/\q1t (Qd+1))) (K Qm)) (K (0:Int))) (0:Int))
def q2c:q2b:=z23 q5m
abbrev Rd:Type:=Flg->(Int->Prop)->Prop
def q8l(Zy:Bc):Rd:=fun f K=>Fits f.3->Cnd ((8:Int)<(↑f.3.length:Int)) (K (5:Int)) (Cnd ((↑f.3.length:Int)=0) (K (3:Int)) (Lp1 (fun Qd q1t=>CAt f.3 Qd (fun y2=>Zy y2 fun Qe=>Cnd (Qe=0) (At f.3 Qd fun y5=>Cnd (y5.1=f.2) (InI (Qd+1)/\q1t (Qd+1)) (K (8:Int))) (K Qe)) (Cnd (f.5<1) (K (3:Int)) (Cnd ((↑f.3.length:Int)<f.5) (K (3:Int)) (K (0:Int))))) (0:Int)))
def Re:Rd:=q8l Uy
abbrev Vy:Type:=List (Prq)->(Int->Prop)->Prop
def q2d(Ql:Jo):Vy:=fun l K=>Fits l->Cnd ((4:Int)<(↑l.length:Int)) (K (5:Int)) (Lp1 (fun Qd q1t=>Fits l->CAt l Qd (fun y3=>Ql y3.1 fun Qm=>Cnd (Qm=true) (Cnd ((0:Int)<Qd) (At l Qd fun y6=>InI (Qd - 1)/\((0:Int)<=Qd - 1/\Qd - 1<(↑l.length:Int))/\ ∀y8,l[(Qd - 1).toNat]? =some y8->Cnd (Lk.blt y8.1 y6.1) (At l Qd fun y10=>Cnd (y10.2<1) (K (3:Int)) (At l Qd fun y12=>Cnd ((8:Int)<y12.2) (K (3:Int)) (InI (Qd+1)/\q1t (Qd+1)))) (K (9:Int))) (At l Qd fun y6=>Cnd (y6.2<1) (K (3:Int)) (At l Qd fun y8=>Cnd ((8:Int)<y8.2) (K (3:Int)) (InI (Qd+1)/\q1t (Qd+1))))) (K (6:Int))) (K (0:Int))) (0:Int))
def Vz:Vy:=q2d Jp
abbrev q5n:Type:=List (Tgt)->Int->(Int->Prop)->Prop
def z5o(Ql:Jo)(Va:Ra):q5n:=fun l n K=>Fits l->Cnd ((8:Int)<(↑l.length:Int)) (K (5:Int)) (Lp1 (fun Qd q1t=>Fits l->CAt l Qd (fun y3=>Ql y3.1 fun Qm=>Cnd (Qm=true) (At l Qd fun y6=>Cnd (y6.2<1) (K (3:Int)) (At l Qd fun y8=>Cnd (n<y8.2) (K (3:Int)) (At l Qd fun y10=>Fits y10.3->Cnd ((↑y10.3.length:Int)=0) (K (3:Int)) (At l Qd fun y13=>Va y13.3 fun w9r=>Cnd (w9r=0) (InI (Qd+1)/\q1t (Qd+1)) (K w9r))))) (K (6:Int))) (K (0:Int))) (0:Int))
def q5o:q5n:=z5o Jp Rb
abbrev q7r:Type:=List (Rng)->Int->(Int->Prop)->Prop
def q36:q7r:=fun l variations K=>Fits l->Cnd ((16:Int)<(↑l.length:Int)) (K (5:Int)) (Lp2 (fun Qd Jc z7b=>Fits l->CAt l Jc (fun y3=>Cnd (y3.3<1) (K (3:Int)) (At l Jc fun y5=>Cnd (variations<y5.3) (K (3:Int)) (At l Jc fun y7=>Cnd (y7.1=Qd) (At l Jc fun y9=>Cnd (y9.2<=Qd) (K (9:Int)) (Cnd ((0:Int)<Jc) (At l Jc fun y11=>InI (Jc - 1)/\((0:Int)<=Jc - 1/\Jc - 1<(↑l.length:Int))/\ ∀y13,l[(Jc - 1).toNat]? =some y13->Cnd (y11.3=y13.3) (K (9:Int)) (At l Jc fun y15=>InI (Jc+1)/\z7b y15.2 (Jc+1))) (At l Jc fun y11=>InI (Jc+1)/\z7b y11.2 (Jc+1)))) (K (9:Int))))) (Cnd (Qd=10000) (K (0:Int)) (K (3:Int)))) (0:Int) (0:Int))
abbrev q37:Type:=Srv->Int->(Int->Prop)->Prop
def j39(Ql:Jo)(Qs:Jt)(Bm:q7r):q37:=fun v variations K=>Cnd (v.1=0) (Ql v.2 fun Qa=>Cnd (Qa=true) (Ql v.3 fun Qd=>Cnd (Qd=true) (Qs v.4 fun Qg=>Cnd (Qg=true) (Bm v.5 variations fun Qf=>K Qf) (K (2:Int))) (K (6:Int))) (K (6:Int))) (Cnd (v.1<1) (K (3:Int)) (Cnd (variations<v.1) (K (3:Int)) (Cnd (v.2=ByteArray.mk (Array.mk [])) (Cnd (v.3=ByteArray.mk (Array.mk [])) (Cnd (v.4=ByteArray.mk (Array.mk [])) (Fits v.5->Cnd ((0:Int)<(↑v.5.length:Int)) (K (15:Int)) (K (0:Int))) (K (15:Int))) (K (15:Int))) (K (15:Int)))))
def q38:q37:=j39 Jp Z6 q36
abbrev z1p:Type:=List (Rul)->Int->(Int->Prop)->Prop
def j4a(Ql:Jo)(Ua:q19)(Bn:q37):z1p:=fun l n K=>Fits l->Cnd ((12:Int)<(↑l.length:Int)) (K (5:Int)) (Lp1 (fun Qd q1t=>Fits l->CAt l Qd (fun y3=>Ql y3.1 fun Qm=>Cnd (Qm=true) (Lp1 (fun Z3 y78=>Cnd (Z3<Qd) (At l Z3 fun y7=>At l Qd fun y9=>Cnd (y7.1=y9.1) (K (10:Int)) (InI (Z3+1)/\y78 (Z3+1))) (At l Qd fun y7=>Ua (Ex.mk y7.2.1 y7.2.2 y7.2.3 y7.2.4 y7.2.5) fun Qp=>Cnd (Qp=0) (At l Qd fun y10=>Bn (Srv.mk y10.3.1 y10.3.2 y10.3.3 y10.3.4 y10.3.5) n fun V9=>Cnd (V9=0) (InI (Qd+1)/\q1t (Qd+1)) (K V9)) (K Qp))) (0:Int)) (K (6:Int))) (K (0:Int))) (0:Int))
def z1q:z1p:=j4a Jp q2a q38
abbrev z5p:Type:=Flg->(Int->Prop)->Prop
def j84(Ql:Jo)(q3r:Rd)(Hx:Vy)(z0h:q5n)(z8e:z1p)(Bn:q37):z5p:=fun f K=>Fits f.3->Ql f.1 fun Qd=>Cnd (Qd=true) (Cnd (f.2<1) (K (7:Int)) (Cnd ((5:Int)<f.2) (K (7:Int)) (q3r (Flg.mk f.1 f.2 f.3 f.4 f.5 f.6 f.7 f.8 (Srv.mk f.9.1 f.9.2 f.9.3 f.9.4 f.9.5)) fun Qg=>Cnd (Qg=0) (Hx f.6 fun Qf=>Cnd (Qf=0) (z0h f.7 (↑f.3.length:Int) fun Qe=>Cnd (Qe=0) (z8e f.8 (↑f.3.length:Int) fun Qm=>Cnd (Qm=0) (Bn (Srv.mk f.9.1 f.9.2 f.9.3 f.9.4 f.9.5) (↑f.3.length:Int) fun Z3=>K Z3) (K Qm)) (K Qe)) (K Qf)) (K Qg)))) (K (6:Int))
def z5q:z5p:=j84 Jp Re Vz q5o z1q q38
abbrev z1r:Type:=List (Flg)->(Int->Prop)->Prop
def j4b(j3k:z5p):z1r:=fun l K=>Fits l->Cnd ((30:Int)<(↑l.length:Int)) (K (5:Int)) (Lp1 (fun Qd q1t=>Fits l->CAt l Qd (fun y3=>j3k (Flg.mk y3.1 y3.2 y3.3 y3.4 y3.5 y3.6 y3.7 y3.8 (Srv.mk y3.9.1 y3.9.2 y3.9.3 y3.9.4 y3.9.5)) fun Qm=>Cnd (Qm=0) (Cnd ((0:Int)<Qd) (At l Qd fun y6=>InI (Qd - 1)/\((0:Int)<=Qd - 1/\Qd - 1<(↑l.length:Int))/\ ∀y8,l[(Qd - 1).toNat]? =some y8->Cnd (Lk.blt y8.1 y6.1) (InI (Qd+1)/\q1t (Qd+1)) (K (9:Int))) (InI (Qd+1)/\q1t (Qd+1))) (K Qm)) (K (0:Int))) (0:Int))
def z1s:z1r:=j4b z5q
abbrev z1t:Type:=Lay_->(Int->Prop)->Prop
def j4c(Ql:Jo)(Qs:Jt):z1t:=fun l K=>Ql l.1 fun Qa=>Cnd (Qa=true) (Ql l.2 fun Qd=>Cnd (Qd=true) (Qs l.3 fun Qg=>Cnd (Qg=true) (Cnd (l.4<0) (K (3:Int)) (Cnd ((10000:Int)<l.4) (K (3:Int)) (Cnd (l.5<0) (K (3:Int)) (Cnd ((1099511627776:Int)<l.5) (K (3:Int)) (Fits l.6->Cnd ((32:Int)<(↑l.6.length:Int)) (K (5:Int)) (Lp1 (fun Qe w6t=>Fits l.6->CAt l.6 Qe (fun y6=>Cnd (y6.1<0) (K (3:Int)) (Cnd (y6.2<=y6.1) (K (3:Int)) (Cnd ((10000:Int)<y6.2) (K (3:Int)) (Cnd (y6.3<0) (K (3:Int)) (Cnd ((1099511627776:Int)<y6.3) (K (3:Int)) (Cnd ((0:Int)<Qe) (InI (Qe - 1)/\((0:Int)<=Qe - 1/\Qe - 1<(↑l.6.length:Int))/\ ∀y8,l.6[(Qe - 1).toNat]? =some y8->Cnd (y6.1<y8.2) (K (9:Int)) (InI (Qe+1)/\w6t (Qe+1))) (InI (Qe+1)/\w6t (Qe+1)))))))) (K (0:Int))) (0:Int))))))) (K (2:Int))) (K (6:Int))) (K (6:Int))
def z1u:z1t:=j4c Jp Z6
abbrev q8m:Type:=List (Lay_)->(Int->Prop)->Prop
def z9y(z8f:z1t):q8m:=fun l K=>Fits l->Cnd ((6:Int)<(↑l.length:Int)) (K (5:Int)) (Lp1 (fun Qd q1t=>Fits l->CAt l Qd (fun y3=>z8f y3 fun Qm=>Cnd (Qm=0) (Cnd ((0:Int)<Qd) (At l Qd fun y6=>InI (Qd - 1)/\((0:Int)<=Qd - 1/\Qd - 1<(↑l.length:Int))/\ ∀y8,l[(Qd - 1).toNat]? =some y8->Cnd (Lk.blt y8.1 y6.1) (InI (Qd+1)/\q1t (Qd+1)) (K (9:Int))) (InI (Qd+1)/\q1t (Qd+1))) (K Qm)) (K (0:Int))) (0:Int))
def q8n:q8m:=z9y z1u
abbrev z7w:Type:=List (Spn)->(Int->Prop)->Prop
def z1v:z7w:=fun l K=>Fits l->Cnd ((16:Int)<(↑l.length:Int)) (K (5:Int)) (Lp1 (fun Qd q1t=>Fits l->CAt l Qd (fun y3=>Cnd (y3.1<0) (K (3:Int)) (At l Qd fun y5=>At l Qd fun y7=>Cnd (y7.2<=y5.1) (K (3:Int)) (At l Qd fun y9=>Cnd ((10000:Int)<y9.2) (K (3:Int)) (Cnd ((0:Int)<Qd) (At l Qd fun y11=>InI (Qd - 1)/\((0:Int)<=Qd - 1/\Qd - 1<(↑l.length:Int))/\ ∀y13,l[(Qd - 1).toNat]? =some y13->Cnd (y11.1<=y13.2) (K (9:Int)) (InI (Qd+1)/\q1t (Qd+1))) (InI (Qd+1)/\q1t (Qd+1)))))) (K (0:Int))) (0:Int))
abbrev Rf:Type:=Exper->(Int->Prop)->Prop
def q8o(Ql:Jo)(Qs:Jt)(z8g:z7w)(Bm:q7r)(Ua:q19):Rf:=fun x K=>Ql x.1 fun Qa=>Cnd (Qa=true) (Ql x.2 fun Qd=>Cnd (Qd=true) (Ql x.3 fun Qg=>Cnd (Qg=true) (Qs x.4 fun Qf=>Cnd (Qf=true) (Cnd (x.5<1) (K (7:Int)) (Cnd ((3:Int)<x.5) (K (7:Int)) (z8g x.6 fun Qe=>Cnd (Qe=0) (Bm x.7 (8:Int) fun Qm=>Cnd (Qm=0) (Ua (Ex.mk x.8.1 x.8.2 x.8.3 x.8.4 x.8.5) fun Z3=>K Z3) (K Qm)) (K Qe)))) (K (2:Int))) (K (6:Int))) (K (6:Int))) (K (6:Int))
def Rg:Rf:=q8o Jp Z6 z1v q36 q2a
abbrev G7:Type:=List (Exper)->(Int->Prop)->Prop
def q6f(q3s:Rf):G7:=fun l K=>Fits l->Cnd ((16:Int)<(↑l.length:Int)) (K (5:Int)) (Lp1 (fun Qd q1t=>Fits l->CAt l Qd (fun y3=>q3s (Exper.mk y3.1 y3.2 y3.3 y3.4 y3.5 y3.6 y3.7 (Ex.mk y3.8.1 y3.8.2 y3.8.3 y3.8.4 y3.8.5)) fun Qm=>Cnd (Qm=0) (Cnd ((0:Int)<Qd) (At l Qd fun y6=>InI (Qd - 1)/\((0:Int)<=Qd - 1/\Qd - 1<(↑l.length:Int))/\ ∀y8,l[(Qd - 1).toNat]? =some y8->Cnd (Lk.blt y8.1 y6.1) (InI (Qd+1)/\q1t (Qd+1)) (K (9:Int))) (InI (Qd+1)/\q1t (Qd+1))) (K Qm)) (K (0:Int))) (0:Int))
def G8:G7:=q6f Rg
abbrev G9:Type:=Envt->(Int->Prop)->Prop
def q6g(q7c:q15)(q7d:q17)(q7e:q2b)(z8h:z1r)(z4d:q8m)(q0w:G7):G9:=fun v K=>q7c (Sett.mk v.1.1 v.1.2 v.1.3) fun Qa=>Cnd (Qa=0) (q7d v.2 fun Qd=>Cnd (Qd=0) (q7e v.3 fun Qg=>Cnd (Qg=0) (z8h v.4 fun Qf=>Cnd (Qf=0) (z4d v.5 fun Qe=>Cnd (Qe=0) (q0w v.6 fun Qm=>K Qm) (K Qe)) (K Qf)) (K Qg)) (K Qd)) (K Qa)
def Ha:G9:=q6g q16 q18 q2c z1s q8n G8
abbrev Ho:Type:=List (Seg)->(List (ByteArray)->Prop)->Prop
def Hp:Ho:=fun l K=>Lp2 (fun Qa Qz q31=>Fits l->CAt l Qz (fun y2=>Sml (Qa++[y2.1]).length/\InI (Qz+1)/\q31 (Qa++[y2.1]) (Qz+1)) (K Qa)) [] (0:Int)
abbrev Vm:Type:=List (ByteArray)->ByteArray->(Bool->Prop)->Prop
def Wa:Vm:=fun l s K=>Lp1 (fun Qa Bw=>Fits l->CAt l Qa (fun y2=>Cnd (y2=s) (K true) (InI (Qa+1)/\Bw (Qa+1))) (K false)) (0:Int)
abbrev z1w:Type:=List (Decl)->ByteArray->ByteArray->(Int->Prop)->Prop
def q2e:z1w:=fun l kind name K=>Lp1 (fun Qa Bw=>Fits l->CAt l Qa (fun y2=>Cnd (y2.1=kind) (At l Qa fun y4=>Cnd (y4.2=name) (At l Qa fun y6=>K y6.3) (InI (Qa+1)/\Bw (Qa+1))) (InI (Qa+1)/\Bw (Qa+1))) (Cnd (name=ByteArray.mk (Array.mk [107,101,121])) (K (3:Int)) (K (0:Int)))) (0:Int)
abbrev j1x:Type:=Int->Ex->(Bool->Prop)->Prop
def q8p:j1x:=fun t e K=>Cnd (e.1=6) (K true) (Cnd (e.1=8) (Lp1 (fun Qa Bw=>Fits e.4->CAt e.4 Qa (fun y2=>Cnd (y2.1=t) (InI (Qa+1)/\Bw (Qa+1)) (K false)) (K (match decide ((t,e,()).1=5) with|true=>false|false=>true))) (0:Int)) (Fits e.4->Cnd ((↑e.4.length:Int)=0) (K false) (((0:Int)<=(0:Int)/\(0:Int)<(↑e.4.length:Int))/\ ∀y1,e.4[Int.toNat (0:Int)]? =some y1->Cnd (e.1=7) (K (decide (y1.1=t))) (Jn1 (fun Qf=>Cnd (Qf=true) (Cnd (t=3) (K (decide (y1.1=3))) (K false)) (Cnd (e.1=11) (Cnd (t=3) (K (decide (y1.1=3))) (Cnd (t=5) (K (decide (y1.1=3))) (K false))) (Cnd (t=2) (K (decide (y1.1=t))) (Cnd (t=3) (K (decide (y1.1=t))) (Cnd (t=4) (K (decide (y1.1=t))) (K false)))))) fun y1e=>Cnd (e.1=9) (y1e (decide (e.1=9))) (y1e (decide (e.1=10)))))))
abbrev Hb:Type:=List (Decl)->List (ByteArray)->Ex->(Int->Prop)->Prop
def j85(Qy:Vm)(Qv:Wo)(q0l:z1w)(z7c:j1x)(X:Hb):Hb:=fun l segments e K=>Cnd (e.1=5) (Qy segments e.3 fun Qa=>Cnd (Qa=true) (Jn0 (Lp1 (fun Qd q1t=>Fits e.5->CAt e.5 Qd (fun y3=>X l segments (Ex.mk y3.1 y3.2 y3.3 y3.4 y3.5) fun Qm=>Cnd (Qm=0) (InI (Qd+1)/\q1t (Qd+1)) (K Qm)) (K (0:Int))) (0:Int)) fun Qd=>Qv e.1 fun Qg=>Cnd (Qg=true) (q0l l e.2 e.3 fun Qf=>Cnd (Qf=0) (K (11:Int)) (z7c Qf (Ex.mk e.1 e.2 e.3 e.4 e.5) fun Qe=>Cnd (Qe=true) Qd (K (8:Int)))) Qd) (K (11:Int))) (Jn0 (Lp1 (fun Qa Bw=>Fits e.5->CAt e.5 Qa (fun y2=>X l segments (Ex.mk y2.1 y2.2 y2.3 y2.4 y2.5) fun Qe=>Cnd (Qe=0) (InI (Qa+1)/\Bw (Qa+1)) (K Qe)) (K (0:Int))) (0:Int)) fun Qa=>Qv e.1 fun Qd=>Cnd (Qd=true) (q0l l e.2 e.3 fun Qg=>Cnd (Qg=0) (K (11:Int)) (z7c Qg (Ex.mk e.1 e.2 e.3 e.4 e.5) fun Qf=>Cnd (Qf=true) Qa (K (8:Int)))) Qa)
def q2f:Hb:=fun l segments e K=> ∀X:Hb,(∀l segments e K,j85 Wa Jf q2e q8p X l segments e K->X l segments e K)->X l segments e K
abbrev q4x:Type:=List (ByteArray)->ByteArray->(List (ByteArray)->Prop)->Prop
def q0s:q4x:=fun l s K=>Lp1 (fun Qa Bw=>Fits l->CAt l Qa (fun y2=>Cnd (Lk.blt y2 s) (InI (Qa+1)/\Bw (Qa+1)) (Fits l->CAt l Qa (fun y5=>Cnd (y5=s) (K l) (((0:Int)<=(0:Int)/\(0:Int)<=Qa/\Qa<=(↑l.length:Int))/\Sml ([]++List.drop (Int.toNat (0:Int)) (List.take Qa.toNat l)).length/\((0:Int)<=Qa/\Qa<=(↑l.length:Int)/\(↑l.length:Int)<=(↑l.length:Int))/\Sml ([]++List.drop (Int.toNat (0:Int)) (List.take Qa.toNat l)++[s]).length/\Sml ([]++List.drop (Int.toNat (0:Int)) (List.take Qa.toNat l)++[s]++List.drop Qa.toNat (List.take (↑l.length:Int).toNat l)).length/\K ([]++List.drop (Int.toNat (0:Int)) (List.take Qa.toNat l)++[s]++List.drop Qa.toNat (List.take (↑l.length:Int).toNat l)))) (((0:Int)<=(0:Int)/\(0:Int)<=Qa/\Qa<=(↑l.length:Int))/\Sml ([]++List.drop (Int.toNat (0:Int)) (List.take Qa.toNat l)).length/\((0:Int)<=Qa/\Qa<=(↑l.length:Int)/\(↑l.length:Int)<=(↑l.length:Int))/\Sml ([]++List.drop (Int.toNat (0:Int)) (List.take Qa.toNat l)++[s]).length/\Sml ([]++List.drop (Int.toNat (0:Int)) (List.take Qa.toNat l)++[s]++List.drop Qa.toNat (List.take (↑l.length:Int).toNat l)).length/\K ([]++List.drop (Int.toNat (0:Int)) (List.take Qa.toNat l)++[s]++List.drop Qa.toNat (List.take (↑l.length:Int).toNat l))))) (Fits l->CAt l Qa (fun y3=>Cnd (y3=s) (K l) (((0:Int)<=(0:Int)/\(0:Int)<=Qa/\Qa<=(↑l.length:Int))/\Sml ([]++List.drop (Int.toNat (0:Int)) (List.take Qa.toNat l)).length/\((0:Int)<=Qa/\Qa<=(↑l.length:Int)/\(↑l.length:Int)<=(↑l.length:Int))/\Sml ([]++List.drop (Int.toNat (0:Int)) (List.take Qa.toNat l)++[s]).length/\Sml ([]++List.drop (Int.toNat (0:Int)) (List.take Qa.toNat l)++[s]++List.drop Qa.toNat (List.take (↑l.length:Int).toNat l)).length/\K ([]++List.drop (Int.toNat (0:Int)) (List.take Qa.toNat l)++[s]++List.drop Qa.toNat (List.take (↑l.length:Int).toNat l)))) (((0:Int)<=(0:Int)/\(0:Int)<=Qa/\Qa<=(↑l.length:Int))/\Sml ([]++List.drop (Int.toNat (0:Int)) (List.take Qa.toNat l)).length/\((0:Int)<=Qa/\Qa<=(↑l.length:Int)/\(↑l.length:Int)<=(↑l.length:Int))/\Sml ([]++List.drop (Int.toNat (0:Int)) (List.take Qa.toNat l)++[s]).length/\Sml ([]++List.drop (Int.toNat (0:Int)) (List.take Qa.toNat l)++[s]++List.drop Qa.toNat (List.take (↑l.length:Int).toNat l)).length/\K ([]++List.drop (Int.toNat (0:Int)) (List.take Qa.toNat l)++[s]++List.drop Qa.toNat (List.take (↑l.length:Int).toNat l))))) (0:Int)
abbrev Gf:Type:=List (ByteArray)->Ex->(List (ByteArray)->Prop)->Prop
def q90(W0:q4x)(X:Gf):Gf:=fun l e K=>Jn1 (fun Qa=>Lp2 (fun Qd Jc z7b=>Fits e.5->CAt e.5 Jc (fun y3=>X Qd (Ex.mk y3.1 y3.2 y3.3 y3.4 y3.5) fun Qm=>InI (Jc+1)/\z7b Qm (Jc+1)) (K Qd)) Qa (0:Int)) fun z2m=>Cnd (e.1=5) (W0 l e.3 fun Qd=>z2m Qd) (z2m l)
def q1m:Gf:=fun l e K=> ∀X:Gf,(∀l e K,q90 q0s X l e K->X l e K)->X l e K
abbrev q5p:Type:=Ex->(List (ByteArray)->Prop)->Prop
def q91(z0i:Gf):q5p:=fun e K=>z0i [] (Ex.mk e.1 e.2 e.3 e.4 e.5) fun Qa=>K Qa
def Rh:q5p:=q91 q1m
abbrev q04:Type:=List (Seg)->(List (Edg)->Prop)->Prop
def z25(z0j:q5p):q04:=fun l K=>Lp2 (fun Qa Qz q31=>Fits l->CAt l Qz (fun y2=>z0j (Ex.mk y2.5.1 y2.5.2 y2.5.3 y2.5.4 y2.5.5) fun Qe=>Lp2 (fun Qm q7v u0j=>Fits Qe->Cnd (q7v<(↑Qe.length:Int)) (At l Qz fun y7=>At Qe q7v fun y9=>Sml (Qm++[Edg.mk y7.1 y9]).length/\InI (q7v+1)/\u0j (Qm++[Edg.mk y7.1 y9]) (q7v+1)) (InI (Qz+1)/\q31 Qm (Qz+1))) Qa (0:Int)) (K Qa)) [] (0:Int)
def Gj:q04:=z25 Rh
abbrev z1x:Type:=List (Edg)->ByteArray->(List (ByteArray)->Prop)->Prop
def j4d(Qy:Vm)(W0:q4x):z1x:=fun edges node K=>Lp2 (fun Qa Qz q31=>Fits Qz->Cnd ((0:Int)<(↑Qz.length:Int)) (((0:Int)<=(0:Int)/\(0:Int)<(↑Qz.length:Int))/\ ∀y2,Qz[Int.toNat (0:Int)]? =some y2->((0:Int)<=(1:Int)/\(1:Int)<=(↑Qz.length:Int)/\(↑Qz.length:Int)<=(↑Qz.length:Int))/\Lp3 (fun Qe J2 j3d y8o=>Fits edges->CAt edges j3d (fun y6=>Cnd (y6.1=y2) (At edges j3d fun y8=>Qy Qe y8.2 fun H2=>Cnd (H2=true) (InI (j3d+1)/\y8o Qe J2 (j3d+1)) (At edges j3d fun y11=>W0 Qe y11.2 fun Za=>At edges j3d fun y14=>(Sml ([]++J2).length/\Sml ([]++J2++[y14.2]).length/\InI (j3d+1)/\y8o Za ([]++J2++[y14.2]) (j3d+1))/\Sml ([]++J2).length/\Sml ([]++J2++[y14.2]).length/\InI (j3d+1)/\y8o Za ([]++J2++[y14.2]) (j3d+1))) (InI (j3d+1)/\y8o Qe J2 (j3d+1))) (q31 Qe J2)) Qa (List.drop (Int.toNat (1:Int)) (List.take (↑Qz.length:Int).toNat Qz)) (0:Int)) (K Qa)) [] [node]
def z1y:z1x:=j4d Wa q0s
abbrev q8q:Type:=List (ByteArray)->List (Edg)->(List (ByteArray)->Prop)->Prop
def z9z(z8i:z1x)(Qy:Vm)(W0:q4x):q8q:=fun nodes edges K=>Lp2 (fun Qa Qz q31=>Fits nodes->CAt nodes Qz (fun y2=>At nodes Qz fun y4=>z8i edges y2 fun Z3=>Qy Z3 y4 fun Qw=>Cnd (Qw=true) (At nodes Qz fun y8=>W0 Qa y8 fun H2=>InI (Qz+1)/\q31 H2 (Qz+1)) (InI (Qz+1)/\q31 Qa (Qz+1))) (K Qa)) [] (0:Int)
def q8r:q8q:=z9z z1y Wa q0s
abbrev q8s:Type:=List (ByteArray)->List (Edg)->(ByteArray->Bool->Prop)->Prop
def z90(z4e:q8q):q8s:=fun nodes edges K=>z4e nodes edges fun Qa=>Fits Qa->Cnd ((↑Qa.length:Int)=0) (K (ByteArray.mk (Array.mk [])) false) (((0:Int)<=(0:Int)/\(0:Int)<(↑Qa.length:Int))/\ ∀y2,Qa[Int.toNat (0:Int)]? =some y2->K y2 true)
def q8t:q8s:=z90 q8r
abbrev q1n:Type:=Envt->ByteArray->(Int->Prop)->Prop
def q1o:q1n:=fun v key K=>Lp1 (fun Qa Bw=>Fits v.4->CAt v.4 Qa (fun y2=>Cnd (y2.1=key) (K Qa) (InI (Qa+1)/\Bw (Qa+1))) (K (-1:Int))) (0:Int)
abbrev z1z:Type:=List (Decl)->Srv->(Int->Prop)->Prop
def j4e(q0l:z1w):z1z:=fun l v K=>Cnd (v.1=0) (q0l l v.2 v.3 fun Qa=>Cnd (Qa=0) (K (11:Int)) (Cnd (Qa=5) (K (8:Int)) (K (0:Int)))) (K (0:Int))
def z10:z1z:=j4e q2e
abbrev Ri:Type:=Envt->Flg->(Int->Prop)->Prop
def q8u(Z9:Ho)(Ub:q1n)(Uc:Hb)(z2j:z1z)(Ja:J4):Ri:=fun v f K=>Z9 v.3 fun Qa=>Lp2 (fun Qd Jc z7b=>Fits f.6->CAt f.6 Qd (fun y3=>Ub (Envt.mk (Sett.mk v.1.1 v.1.2 v.1.3) v.2 v.3 v.4 v.5 v.6) y3.1 fun Qm=>Cnd (Qm<0) (K (11:Int)) (At f.6 Qd fun y6=>At v.4 Qm fun y8=>Fits y8.3->Cnd ((↑y8.3.length:Int)<y6.2) (K (3:Int)) (InI (Qd+1)/\z7b (Qd+1) Jc))) (Lp2 (fun Qf Vq j7b=>Fits f.8->CAt f.8 Qf (fun y5=>Uc v.2 Vq (Ex.mk y5.2.1 y5.2.2 y5.2.3 y5.2.4 y5.2.5) fun Qw=>Cnd (Qw=0) (At f.8 Qf fun y8=>z2j v.2 (Srv.mk y8.3.1 y8.3.2 y8.3.3 y8.3.4 y8.3.5) fun H2=>Cnd (H2=0) (InI (Qf+1)/\j7b (Qf+1) Vq) (K H2)) (K Qw)) (z2j v.2 (Srv.mk f.9.1 f.9.2 f.9.3 f.9.4 f.9.5) fun Qm=>Cnd (Qm=0) (Ja f.8 fun Z3 _ y5j=>Cnd (y5j=true) (Fits Z3->Cnd ((0:Int)<(↑Z3.length:Int)) (K (13:Int)) (K (0:Int))) (K (19:Int))) (K Qm))) (0:Int) Jc)) (0:Int) Qa
def Rj:Ri:=q8u Hp q1o q2f z10 J5
abbrev q4y:Type:=Envt->(List (ByteArray)->Prop)->Prop
def q4z:q4y:=fun v K=>Lp2 (fun Qa Qz q31=>Fits v.4->CAt v.4 Qz (fun y2=>Sml (Qa++[y2.1]).length/\InI (Qz+1)/\q31 (Qa++[y2.1]) (Qz+1)) (K Qa)) [] (0:Int)
abbrev q2g:Type:=Envt->(List (Edg)->Prop)->Prop
def Rk:q2g:=fun v K=>Lp2 (fun Qa Qz q31=>Fits v.4->Cnd (Qz<(↑v.4.length:Int)) (Lp2 (fun Qg Zq q7u=>At v.4 Qz fun y3=>Fits y3.6->Cnd (Zq<(↑y3.6.length:Int)) (At v.4 Qz fun y6=>At v.4 Qz fun y8=>At y8.6 Zq fun y10=>Sml (Qg++[Edg.mk y6.1 y10.1]).length/\InI (Zq+1)/\q7u (Qg++[Edg.mk y6.1 y10.1]) (Zq+1)) (InI (Qz+1)/\q31 Qg (Qz+1))) Qa (0:Int)) (K Qa)) [] (0:Int)
abbrev q5q:Type:=List (Spn)->List (Spn)->(List (Spn)->Prop)->Prop
def z5r(Je:B8)(Q6:Wq):q5q:=fun a b K=>Je a fun Qa=>Je b fun Qd=>Lp2 (fun Qg Zq q7u=>Fits Zq->CAt Zq Qg (fun y4=>Cnd (y4=true) (At Qd Qg fun y6=>At Zq Qg fun _=>InI (Qg+1)/\q7u (Qg+1) (Zq.set Qg.toNat y6)) (At Zq Qg fun _=>InI (Qg+1)/\q7u (Qg+1) (Zq.set Qg.toNat false))) (Q6 Zq fun Qe=>K Qe)) (0:Int) Qa
def q5r:q5q:=z5r H9 J6
abbrev Wj:Type:=Envt->Int->(Int->Prop)->Prop
def Rl(Q7:J9)(Ub:q1n)(Z9:Ho)(Uc:Hb)(z0k:q5q):Wj:=fun v i K=>At v.6 i fun y0=>Q7 (Envt.mk (Sett.mk v.1.1 v.1.2 v.1.3) v.2 v.3 v.4 v.5 v.6) y0.2 fun Qg=>Ub (Envt.mk (Sett.mk v.1.1 v.1.2 v.1.3) v.2 v.3 v.4 v.5 v.6) y0.3 fun Qf=>Cnd (Qg<0) (K (11:Int)) (Cnd (Qf<0) (K (11:Int)) (Lp1 (fun Qe w6t=>Fits y0.7->CAt y0.7 Qe (fun y6=>At v.4 Qf fun y8=>Fits y8.3->Cnd ((↑y8.3.length:Int)<y6.3) (K (3:Int)) (InI (Qe+1)/\w6t (Qe+1))) (Z9 v.3 fun Z3=>Uc v.2 Z3 (Ex.mk y0.8.1 y0.8.2 y0.8.3 y0.8.4 y0.8.5) fun Qw=>Cnd (Qw=0) (Cnd (y0.5=3) (K (0:Int)) (At v.5 Qg fun y8=>Lp3 (fun H2 q3l y4f y79=>Cnd (q3l<i) (At v.6 q3l fun y11=>Cnd (y11.2=y0.2) (Cnd (y11.5=3) (InI (q3l+1)/\y79 H2 (q3l+1) y4f) (Sml (H2++y11.6).length/\InI (q3l+1)/\y79 (H2++y11.6) (q3l+1) y4f)) (InI (q3l+1)/\y79 H2 (q3l+1) y4f)) (z0k y0.6 H2 fun Gc=>Fits Gc->Cnd ((0:Int)<(↑Gc.length:Int)) (K (14:Int)) (Lp4 (fun Za w6q y8a y8b y8c=>Cnd (Za<i) (Cnd (y0.5=2) (At v.6 Za fun y14=>Cnd (y14.5=2) (Cnd (y14.3=y0.3) (Cnd (y14.2=y0.2) (InI (Za+1)/\y8c (Za+1) w6q y8a y8b) (K (14:Int))) (InI (Za+1)/\y8c (Za+1) w6q y8a y8b)) (InI (Za+1)/\y8c (Za+1) w6q y8a y8b)) (K (0:Int))) (K (0:Int))) (0:Int) Gc H2 y4f))) [Spn.mk (0:Int) y8.4] (0:Int) Z3)) (K Qw))) (0:Int)))
def Wk:Wj:=Rl Jn q1o Hp q2f q5r
abbrev Uz:Type:=Envt->(ByteArray->Int->Prop)->Prop
def q39(q0x:G9)(Z9:Ho)(Uc:Hb)(Gy:q04)(q9u:q8s)(q3t:Ri)(q5b:q4y)(q3u:q2g)(Ud:Wj):Uz:=fun v K=>q0x (Envt.mk (Sett.mk v.1.1 v.1.2 v.1.3) v.2 v.3 v.4 v.5 v.6) fun Qa=>Cnd (Qa=0) (Z9 v.3 fun Qd=>Lp2 (fun Qg Zq q7u=>Fits v.3->CAt v.3 Qg (fun y4=>Cnd (y4.5.1=0) (InI (Qg+1)/\q7u (Qg+1) Zq) (At v.3 Qg fun y6=>Uc v.2 Zq (Ex.mk y6.5.1 y6.5.2 y6.5.3 y6.5.4 y6.5.5) fun Uj=>Cnd (Uj=0) (InI (Qg+1)/\q7u (Qg+1) Zq) (At v.3 Qg fun y9=>(↑((ByteArray.mk (Array.mk [115,101,103,109,101,110,116,32])).size+y9.1.size):Int)<=(9223372036854775807:Int)/\K (ByteArray.mk (Array.mk [115,101,103,109,101,110,116,32])++y9.1) Uj))) (Gy v.3 fun Qe=>q9u Zq Qe fun Qm q7v=>Cnd (q7v=true) ((↑((ByteArray.mk (Array.mk [115,101,103,109,101,110,116,32])).size+Qm.size):Int)<=(9223372036854775807:Int)/\K (ByteArray.mk (Array.mk [115,101,103,109,101,110,116,32])++Qm) (12:Int)) (Lp3 (fun Z3 j06 y5j u2s=>Fits v.4->CAt v.4 Z3 (fun y8=>q3t (Envt.mk (Sett.mk v.1.1 v.1.2 v.1.3) v.2 v.3 v.4 v.5 v.6) (Flg.mk y8.1 y8.2 y8.3 y8.4 y8.5 y8.6 y8.7 y8.8 (Srv.mk y8.9.1 y8.9.2 y8.9.3 y8.9.4 y8.9.5)) fun H2=>Cnd (H2=0) (InI (Z3+1)/\u2s (Z3+1) j06 y5j) (At v.4 Z3 fun y11=>(↑((ByteArray.mk (Array.mk [102,108,97,103,32])).size+y11.1.size):Int)<=(9223372036854775807:Int)/\K (ByteArray.mk (Array.mk [102,108,97,103,32])++y11.1) H2)) (q5b (Envt.mk (Sett.mk v.1.1 v.1.2 v.1.3) v.2 v.3 v.4 v.5 v.6) fun Uj=>q3u (Envt.mk (Sett.mk v.1.1 v.1.2 v.1.3) v.2 v.3 v.4 v.5 v.6) fun Qp=>q9u Uj Qp fun H2 q3l=>Cnd (q3l=true) ((↑((ByteArray.mk (Array.mk [102,108,97,103,32])).size+H2.size):Int)<=(9223372036854775807:Int)/\K (ByteArray.mk (Array.mk [102,108,97,103,32])++H2) (12:Int)) (Lp5 (fun Gc w1f u1x u1y u1z u10=>Fits v.6->Cnd (Gc<(↑v.6.length:Int)) (Ud (Envt.mk (Sett.mk v.1.1 v.1.2 v.1.3) v.2 v.3 v.4 v.5 v.6) Gc fun Za=>Cnd (Za=0) (InI (Gc+1)/\u10 (Gc+1) w1f u1x u1y u1z) (At v.6 Gc fun y14=>(↑((ByteArray.mk (Array.mk [101,120,112,101,114,105,109,101,110,116,32])).size+y14.1.size):Int)<=(9223372036854775807:Int)/\K (ByteArray.mk (Array.mk [101,120,112,101,114,105,109,101,110,116,32])++y14.1) Za)) (K (ByteArray.mk (Array.mk [])) (0:Int))) (0:Int) Uj Qp y5j j06))) (0:Int) Zq Qe))) (0:Int) Qd) (K (ByteArray.mk (Array.mk [])) Qa)
def U0:Uz:=q39 Ha Hp q2f Gj q8t Rj q4z Rk Wk
abbrev q8v:Type:=Envt->(Bool->Prop)->Prop
def z91(Bo:Uz):q8v:=fun v K=>Bo (Envt.mk (Sett.mk v.1.1 v.1.2 v.1.3) v.2 v.3 v.4 v.5 v.6) fun _ Qz=>K (decide (Qz=0))
def Rm:q8v:=z91 U0
abbrev Rn:Type:=List (Int)->Int->Int->(Envt->Int->Prop)->Prop
def q8w(Q4:W6)(z0l:q5i)(Qb:Zj)(q3m:z7o)(Jm:q11)(q46:z2v)(z7d:z5b)(R4:q12)(q47:q4w)(Ja:J4)(j3l:z5f)(Wn:q1z)(q3n:q75)(z8j:z1m)(Wy:q6w)(Gx:q02)(z4f:q8g)(q1i:q8v):Rn:=fun list at_ now K=>Q4 fun Qa=>Jn1 (fun (Qd:ByteArray×ByteArray×Int×Int×List Decl×Unit)=>z0l list Qd.2.2.2.1 Qd.1 Qd.2.1 Qd.2.2.1 Qd.2.2.2.2.1 [] [] [] [] fun Qg Zq w6s w1h y1l u2t u2u u2v u2w=>Qb list Qg (5:Int) fun Qf Vq=>q3m Qf [ByteArray.mk (Array.mk [102,97]),ByteArray.mk (Array.mk [102,98]),ByteArray.mk (Array.mk [102,99]),ByteArray.mk (Array.mk [102,100])] fun Qe=>LpH (fun (Qm:Int×Int×List Flg×List Seg×List Lay_×List Exper×Unit) j71=>Fits Qe->CAt Qe Qm.1 (fun y7=>Qb list Qm.2.1 (5:Int) fun Qp j04=>InI ((1:Int)+Qp)/\Qb list j04 (6:Int) fun H2 q3l=>Qb list q3l (4:Int) fun Gc w1f=>InI ((1:Int)+Gc)/\LpH (fun (V9:Int×Int×List Val×List Exper×List Lay_×List Flg×List Seg×Unit) (u11:Int×Int×List Val×List Exper×List Lay_×List Flg×List Seg×Unit->Prop)=>Cnd (V9.1<1+Gc) (Jm list V9.2.1 ((1:Int)+Qp) fun Za w6q=>Sml (V9.2.2.1++[Za]).length/\InI (V9.1+1)/\u11 (V9.1+1,w6q,V9.2.2.1++[Za],V9.2.2.2.1,V9.2.2.2.2.1,V9.2.2.2.2.2.1,V9.2.2.2.2.2.2.1,())) (Qb list V9.2.1 ((1:Int)+Gc) fun Za w6q=>InI ((1:Int)+Za)/\LpH (fun (Ws:Int×List Prq×Int×List Seg×List Flg×List Lay_×List Exper×List Val×Unit) (y1f:Int×List Prq×Int×List Seg×List Flg×List Lay_×List Exper×List Val×Unit->Prop)=>Fits Ws.2.2.2.2.1->Cnd (Ws.1<(↑Ws.2.2.2.2.1.length:Int)) (Qb list Ws.2.2.1 (4:Int) fun Ge u0k=>Cnd (Ge=1) (At Ws.2.2.2.2.1 Ws.1 fun y17=>At Ws.2.2.2.2.1 Ws.1 fun y19=>Fits y19.3->Qb list u0k (↑y19.3.length:Int) fun y8d u12=>InI ((1:Int)+y8d)/\Sml (Ws.2.1++[Prq.mk y17.1 ((1:Int)+y8d)]).length/\InI (Ws.1+1)/\y1f (Ws.1+1,Ws.2.1++[Prq.mk y17.1 ((1:Int)+y8d)],u12,Ws.2.2.2.1,Ws.2.2.2.2.1,Ws.2.2.2.2.2.1,Ws.2.2.2.2.2.2.1,Ws.2.2.2.2.2.2.2.1,())) (InI (Ws.1+1)/\y1f (Ws.1+1,Ws.2.1,u0k,Ws.2.2.2.1,Ws.2.2.2.2.1,Ws.2.2.2.2.2.1,Ws.2.2.2.2.2.2.1,Ws.2.2.2.2.2.2.2.1,()))) (LpH (fun (Ge:Int×List Tgt×Int×List Val×List Exper×List Lay_×List Flg×List Seg×List Prq×Unit) (y4g:Int×List Tgt×Int×List Val×List Exper×List Lay_×List Flg×List Seg×List Prq×Unit->Prop)=>Qb list Ge.2.2.1 (3:Int) fun y1g u0l=>Cnd (Ge.1<y1g) (Qb list u0l ((1:Int)+Gc) fun z2k u13=>InI ((1:Int)+z2k)/\q46 list u13 fun Zz y1h=>Jn1 (fun (B1:ByteArray×Int×List ByteArray×List Prq×List Seg×List Flg×List Lay_×List Exper×List Val×List Tgt×Unit)=>Fits B1.2.2.1->Cnd ((0:Int)<(↑B1.2.2.1.length:Int)) (Sml (B1.2.2.2.2.2.2.2.2.2.1++[Tgt.mk B1.1 ((1:Int)+z2k) B1.2.2.1]).length/\InI (Ge.1+1)/\y4g (Ge.1+1,B1.2.2.2.2.2.2.2.2.2.1++[Tgt.mk B1.1 ((1:Int)+z2k) B1.2.2.1],B1.2.1,B1.2.2.2.2.2.2.2.2.1,B1.2.2.2.2.2.2.2.1,B1.2.2.2.2.2.2.1,B1.2.2.2.2.2.1,B1.2.2.2.2.1,B1.2.2.2.1,())) (InI (Ge.1+1)/\y4g (Ge.1+1,B1.2.2.2.2.2.2.2.2.2.1,B1.2.1,B1.2.2.2.2.2.2.2.2.1,B1.2.2.2.2.2.2.2.1,B1.2.2.2.2.2.2.1,B1.2.2.2.2.2.1,B1.2.2.2.2.1,B1.2.2.2.1,()))) fun (u0m:ByteArray×Int×List ByteArray×List Prq×List Seg×List Flg×List Lay_×List Exper×List Val×List Tgt×Unit->Prop)=>Qb list y1h (4:Int) fun u14 u0n=>Cnd (u14=1) (u0m (ByteArray.mk (Array.mk [100,101,118,105,99,101]),u0n,Zz,Ge.2.2.2.2.2.2.2.2.1,Ge.2.2.2.2.2.2.2.1,Ge.2.2.2.2.2.2.1,Ge.2.2.2.2.2.1,Ge.2.2.2.2.1,Ge.2.2.2.1,Ge.2.1,())) (u0m (ByteArray.mk (Array.mk [117,115,101,114]),u0n,Zz,Ge.2.2.2.2.2.2.2.2.1,Ge.2.2.2.2.2.2.2.1,Ge.2.2.2.2.2.2.1,Ge.2.2.2.2.2.1,Ge.2.2.2.2.1,Ge.2.2.2.1,Ge.2.1,()))) (Jn1 (fun (z2k:Int×List Rul×List ByteArray×List Prq×List Seg×List Flg×List Lay_×List Exper×List Val×List Tgt×Unit)=>z7d list z2k.1 ((1:Int)+Gc) fun Zz y1h=>Sml (z2k.2.2.2.2.2.1++[Flg.mk y7 ((1:Int)+Qp) z2k.2.2.2.2.2.2.2.2.1 (decide (H2<5)) ((1:Int)+Za) z2k.2.2.2.1 z2k.2.2.2.2.2.2.2.2.2.1 z2k.2.1 Zz]).length/\InI (Qm.1+1)/\j71 (Qm.1+1,y1h,z2k.2.2.2.2.2.1++[Flg.mk y7 ((1:Int)+Qp) z2k.2.2.2.2.2.2.2.2.1 (decide (H2<5)) ((1:Int)+Za) z2k.2.2.2.1 z2k.2.2.2.2.2.2.2.2.2.1 z2k.2.1 Zz],z2k.2.2.2.2.1,z2k.2.2.2.2.2.2.1,z2k.2.2.2.2.2.2.2.1,())) fun (y8e:Int×List Rul×List ByteArray×List Prq×List Seg×List Flg×List Lay_×List Exper×List Val×List Tgt×Unit->Prop)=>LpH (fun (Zz:Int×Int×List Rul×List ByteArray×List Prq×List Seg×List Flg×List Lay_×List Exper×List Val×List Tgt×Unit) (u15:Int×Int×List Rul×List ByteArray×List Prq×List Seg×List Flg×List Lay_×List Exper×List Val×List Tgt×Unit->Prop)=>Qb list Zz.2.1 (5:Int) fun B1 v63=>Cnd (Zz.1<B1) (At Zz.2.2.2.1 Zz.1 fun y21=>R4 (Envt.mk (Sett.mk Zq w6s w1h) y1l Zz.2.2.2.2.2.1 Zz.2.2.2.2.2.2.1 Zz.2.2.2.2.2.2.2.1 Zz.2.2.2.2.2.2.2.2.1) fun u16=>q47 list v63 u16 (3:Int) fun Zi u17=>z7d list u17 ((1:Int)+Gc) fun z4g y1i=>Sml (Zz.2.2.1++[Rul.mk y21 (Ex.mk Zi.1 Zi.2 Zi.3 Zi.4 Zi.5) z4g]).length/\Ja (Zz.2.2.1++[Rul.mk y21 (Ex.mk Zi.1 Zi.2 Zi.3 Zi.4 Zi.5) z4g]) fun u0o _ u18=>Cnd (u18=true) (Fits u0o->Cnd ((0:Int)<(↑u0o.length:Int)) ((Zz.2.2.1++[Rul.mk y21 (Ex.mk Zi.1 Zi.2 Zi.3 Zi.4 Zi.5) z4g]).length<=(9223372036854775807:Nat)->InI ((↑(Zz.2.2.1++[Rul.mk y21 (Ex.mk Zi.1 Zi.2 Zi.3 Zi.4 Zi.5) z4g]).length:Int) - 1)/\((0:Int)<=(↑(Zz.2.2.1++[Rul.mk y21 (Ex.mk Zi.1 Zi.2 Zi.3 Zi.4 Zi.5) z4g]).length:Int) - 1/\(↑(Zz.2.2.1++[Rul.mk y21 (Ex.mk Zi.1 Zi.2 Zi.3 Zi.4 Zi.5) z4g]).length:Int) - 1<=(↑(Zz.2.2.1++[Rul.mk y21 (Ex.mk Zi.1 Zi.2 Zi.3 Zi.4 Zi.5) z4g]).length:Int))/\y8e (y1i,List.take ((↑(Zz.2.2.1++[Rul.mk y21 (Ex.mk Zi.1 Zi.2 Zi.3 Zi.4 Zi.5) z4g]).length:Int) - 1).toNat (Zz.2.2.1++[Rul.mk y21 (Ex.mk Zi.1 Zi.2 Zi.3 Zi.4 Zi.5) z4g]),Zz.2.2.2.1,Zz.2.2.2.2.1,Zz.2.2.2.2.2.1,Zz.2.2.2.2.2.2.1,Zz.2.2.2.2.2.2.2.1,Zz.2.2.2.2.2.2.2.2.1,Zz.2.2.2.2.2.2.2.2.2.1,Zz.2.2.2.2.2.2.2.2.2.2.1,())) (InI (Zz.1+1)/\u15 (Zz.1+1,y1i,Zz.2.2.1++[Rul.mk y21 (Ex.mk Zi.1 Zi.2 Zi.3 Zi.4 Zi.5) z4g],Zz.2.2.2.1,Zz.2.2.2.2.1,Zz.2.2.2.2.2.1,Zz.2.2.2.2.2.2.1,Zz.2.2.2.2.2.2.2.1,Zz.2.2.2.2.2.2.2.2.1,Zz.2.2.2.2.2.2.2.2.2.1,Zz.2.2.2.2.2.2.2.2.2.2.1,()))) ((Zz.2.2.1++[Rul.mk y21 (Ex.mk Zi.1 Zi.2 Zi.3 Zi.4 Zi.5) z4g]).length<=(9223372036854775807:Nat)->InI ((↑(Zz.2.2.1++[Rul.mk y21 (Ex.mk Zi.1 Zi.2 Zi.3 Zi.4 Zi.5) z4g]).length:Int) - 1)/\((0:Int)<=(↑(Zz.2.2.1++[Rul.mk y21 (Ex.mk Zi.1 Zi.2 Zi.3 Zi.4 Zi.5) z4g]).length:Int) - 1/\(↑(Zz.2.2.1++[Rul.mk y21 (Ex.mk Zi.1 Zi.2 Zi.3 Zi.4 Zi.5) z4g]).length:Int) - 1<=(↑(Zz.2.2.1++[Rul.mk y21 (Ex.mk Zi.1 Zi.2 Zi.3 Zi.4 Zi.5) z4g]).length:Int))/\y8e (y1i,List.take ((↑(Zz.2.2.1++[Rul.mk y21 (Ex.mk Zi.1 Zi.2 Zi.3 Zi.4 Zi.5) z4g]).length:Int) - 1).toNat (Zz.2.2.1++[Rul.mk y21 (Ex.mk Zi.1 Zi.2 Zi.3 Zi.4 Zi.5) z4g]),Zz.2.2.2.1,Zz.2.2.2.2.1,Zz.2.2.2.2.2.1,Zz.2.2.2.2.2.2.1,Zz.2.2.2.2.2.2.2.1,Zz.2.2.2.2.2.2.2.2.1,Zz.2.2.2.2.2.2.2.2.2.1,Zz.2.2.2.2.2.2.2.2.2.2.1,()))) (y8e (v63,Zz.2.2.1,Zz.2.2.2.1,Zz.2.2.2.2.1,Zz.2.2.2.2.2.1,Zz.2.2.2.2.2.2.1,Zz.2.2.2.2.2.2.2.1,Zz.2.2.2.2.2.2.2.2.1,Zz.2.2.2.2.2.2.2.2.2.1,Zz.2.2.2.2.2.2.2.2.2.2.1,()))) ((0:Int),u0l,[],[ByteArray.mk (Array.mk [102,105,114,115,116]),ByteArray.mk (Array.mk [115,101,99,111,110,100]),ByteArray.mk (Array.mk [116,104,105,114,100]),ByteArray.mk (Array.mk [102,111,117,114,116,104])],Ge.2.2.2.2.2.2.2.2.1,Ge.2.2.2.2.2.2.2.1,Ge.2.2.2.2.2.2.1,Ge.2.2.2.2.2.1,Ge.2.2.2.2.1,Ge.2.2.2.1,Ge.2.1,()))) ((0:Int),[],Ws.2.2.1,Ws.2.2.2.2.2.2.2.1,Ws.2.2.2.2.2.2.1,Ws.2.2.2.2.2.1,Ws.2.2.2.2.1,Ws.2.2.2.1,Ws.2.1,()))) ((0:Int),[],w6q,V9.2.2.2.2.2.2.1,V9.2.2.2.2.2.1,V9.2.2.2.2.1,V9.2.2.2.1,V9.2.2.1,()))) ((0:Int),w1f,[],Qm.2.2.2.2.2.1,Qm.2.2.2.2.1,Qm.2.2.1,Qm.2.2.2.1,())) (Qb list Qm.2.1 (3:Int) fun Qw z8x=>q3m Qw [ByteArray.mk (Array.mk [108,97]),ByteArray.mk (Array.mk [108,98])] fun Uj=>LpH (fun (Qp:Int×Int×List Lay_×List Exper×List Seg×List Flg×Unit) (y77:Int×Int×List Lay_×List Exper×List Seg×List Flg×Unit->Prop)=>Fits Uj->CAt Uj Qp.1 (fun y11=>j3l list Qp.2.1 y11 fun Za w6q=>Sml (Qp.2.2.1++[Za]).length/\InI (Qp.1+1)/\y77 (Qp.1+1,w6q,Qp.2.2.1++[Za],Qp.2.2.2.1,Qp.2.2.2.2.1,Qp.2.2.2.2.2.1,())) (Qb list Qp.2.1 (4:Int) fun Gc w1f=>q3m Gc [ByteArray.mk (Array.mk [120,97]),ByteArray.mk (Array.mk [120,98]),ByteArray.mk (Array.mk [120,99])] fun V9=>LpH (fun (Za:Int×Int×List Exper×List Flg×List Seg×List Lay_×Unit) (u0p:Int×Int×List Exper×List Flg×List Seg×List Lay_×Unit->Prop)=>Fits V9->Cnd (Za.1<(↑V9.length:Int)) (Fits Za.2.2.2.1->Cnd ((0:Int)<(↑Za.2.2.2.1.length:Int)) (Fits Za.2.2.2.2.2.1->Cnd ((0:Int)<(↑Za.2.2.2.2.2.1.length:Int)) (At V9 Za.1 fun y17=>Fits Za.2.2.2.1->Qb list Za.2.1 (↑Za.2.2.2.1.length:Int) fun B1 v63=>At Za.2.2.2.1 B1 fun y21=>Fits Za.2.2.2.2.2.1->Fits y21.3->Qb list v63 (↑Za.2.2.2.2.2.1.length:Int) fun z4g y1i=>At Za.2.2.2.2.2.1 z4g fun y26=>Wn list y1i fun w2u u19=>Qb list u19 (3:Int) fun y4h u2a=>InI ((1:Int)+y4h)/\q3n list u2a (↑y21.3.length:Int) fun y8f u0q=>Jn1 (fun (q6p:Int×Int×List Rng×List Exper×List Lay_×List Flg×List Seg×Unit)=>Jn1 (fun (Zh:Int×ByteArray×ByteArray×List Val×List Ex×Int×List Seg×List Flg×List Lay_×List Exper×List Rng×Unit)=>z8j (Envt.mk (Sett.mk Zq w6s w1h) y1l Zh.2.2.2.2.2.2.1 Zh.2.2.2.2.2.2.2.1 Zh.2.2.2.2.2.2.2.2.1 Zh.2.2.2.2.2.2.2.2.2.1) y26.1 now fun (y8g:List Spn) (_:Int)=>Wy list Zh.2.2.2.2.2.1 (8000:Int) fun (y8h u2b:Int)=>Wy list u2b (8000:Int) fun (v2v y8i:Int)=>Gx y8g [Spn.mk y8h v2v] fun (u2c:List Spn)=>Wy list y8i (7000:Int) fun (u2d u0r:Int)=>z4f u2c u2d fun (w2v:List Spn)=>Sml (Zh.2.2.2.2.2.2.2.2.2.1++[Exper.mk y17 y26.1 y21.1 w2u q6p.1 w2v Zh.2.2.2.2.2.2.2.2.2.2.1 (Ex.mk Zh.1 Zh.2.1 Zh.2.2.1 Zh.2.2.2.1 Zh.2.2.2.2.1)]).length/\q1i (Envt.mk (Sett.mk Zq w6s w1h) y1l Zh.2.2.2.2.2.2.1 Zh.2.2.2.2.2.2.2.1 Zh.2.2.2.2.2.2.2.2.1 (Zh.2.2.2.2.2.2.2.2.2.1++[Exper.mk y17 y26.1 y21.1 w2u q6p.1 w2v Zh.2.2.2.2.2.2.2.2.2.2.1 (Ex.mk Zh.1 Zh.2.1 Zh.2.2.1 Zh.2.2.2.1 Zh.2.2.2.2.1)])) fun (u2e:Bool)=>Cnd (u2e=true) (InI (Za.1+1)/\u0p (Za.1+1,u0r,Zh.2.2.2.2.2.2.2.2.2.1++[Exper.mk y17 y26.1 y21.1 w2u q6p.1 w2v Zh.2.2.2.2.2.2.2.2.2.2.1 (Ex.mk Zh.1 Zh.2.1 Zh.2.2.1 Zh.2.2.2.1 Zh.2.2.2.2.1)],Zh.2.2.2.2.2.2.2.1,Zh.2.2.2.2.2.2.1,Zh.2.2.2.2.2.2.2.2.1,())) ((Zh.2.2.2.2.2.2.2.2.2.1++[Exper.mk y17 y26.1 y21.1 w2u q6p.1 w2v Zh.2.2.2.2.2.2.2.2.2.2.1 (Ex.mk Zh.1 Zh.2.1 Zh.2.2.1 Zh.2.2.2.1 Zh.2.2.2.2.1)]).length<=(9223372036854775807:Nat)->InI ((↑(Zh.2.2.2.2.2.2.2.2.2.1++[Exper.mk y17 y26.1 y21.1 w2u q6p.1 w2v Zh.2.2.2.2.2.2.2.2.2.2.1 (Ex.mk Zh.1 Zh.2.1 Zh.2.2.1 Zh.2.2.2.1 Zh.2.2.2.2.1)]).length:Int) - 1)/\((0:Int)<=(↑(Zh.2.2.2.2.2.2.2.2.2.1++[Exper.mk y17 y26.1 y21.1 w2u q6p.1 w2v Zh.2.2.2.2.2.2.2.2.2.2.1 (Ex.mk Zh.1 Zh.2.1 Zh.2.2.1 Zh.2.2.2.1 Zh.2.2.2.2.1)]).length:Int) - 1/\(↑(Zh.2.2.2.2.2.2.2.2.2.1++[Exper.mk y17 y26.1 y21.1 w2u q6p.1 w2v Zh.2.2.2.2.2.2.2.2.2.2.1 (Ex.mk Zh.1 Zh.2.1 Zh.2.2.1 Zh.2.2.2.1 Zh.2.2.2.2.1)]).length:Int) - 1<=(↑(Zh.2.2.2.2.2.2.2.2.2.1++[Exper.mk y17 y26.1 y21.1 w2u q6p.1 w2v Zh.2.2.2.2.2.2.2.2.2.2.1 (Ex.mk Zh.1 Zh.2.1 Zh.2.2.1 Zh.2.2.2.1 Zh.2.2.2.2.1)]).length:Int))/\InI (Za.1+1)/\u0p (Za.1+1,u0r,List.take ((↑(Zh.2.2.2.2.2.2.2.2.2.1++[Exper.mk y17 y26.1 y21.1 w2u q6p.1 w2v Zh.2.2.2.2.2.2.2.2.2.2.1 (Ex.mk Zh.1 Zh.2.1 Zh.2.2.1 Zh.2.2.2.1 Zh.2.2.2.2.1)]).length:Int) - 1).toNat (Zh.2.2.2.2.2.2.2.2.2.1++[Exper.mk y17 y26.1 y21.1 w2u q6p.1 w2v Zh.2.2.2.2.2.2.2.2.2.2.1 (Ex.mk Zh.1 Zh.2.1 Zh.2.2.1 Zh.2.2.2.1 Zh.2.2.2.2.1)]),Zh.2.2.2.2.2.2.2.1,Zh.2.2.2.2.2.2.1,Zh.2.2.2.2.2.2.2.2.1,()))) fun (u0s:Int×ByteArray×ByteArray×List Val×List Ex×Int×List Seg×List Flg×List Lay_×List Exper×List Rng×Unit->Prop)=>Qb list q6p.2.1 (2:Int) fun (y8g u0t:Int)=>Cnd (y8g=1) (R4 (Envt.mk (Sett.mk Zq w6s w1h) y1l q6p.2.2.2.2.2.2.1 q6p.2.2.2.2.2.1 q6p.2.2.2.2.1 q6p.2.2.2.1) fun (y8h:List ByteArray)=>q47 list u0t y8h (2:Int) fun (v2v:Ex) (y8i:Int)=>u0s (v2v.1,v2v.2,v2v.3,v2v.4,v2v.5,y8i,q6p.2.2.2.2.2.2.1,q6p.2.2.2.2.2.1,q6p.2.2.2.2.1,q6p.2.2.2.1,q6p.2.2.1,())) (u0s ((1:Int),ByteArray.mk (Array.mk []),ByteArray.mk (Array.mk []),[],[],u0t,q6p.2.2.2.2.2.2.1,q6p.2.2.2.2.2.1,q6p.2.2.2.2.1,q6p.2.2.2.1,q6p.2.2.1,()))) fun (y8j:Int×Int×List Rng×List Exper×List Lay_×List Flg×List Seg×Unit->Prop)=>Cnd ((1:Int)+y4h=1) (Qb list u0q (2:Int) fun Zh u0u=>Cnd (Zh=0) (y8j ((2:Int),u0u,y8f,Za.2.2.1,Za.2.2.2.2.2.1,Za.2.2.2.1,Za.2.2.2.2.1,())) (y8j ((1:Int)+y4h,u0u,y8f,Za.2.2.1,Za.2.2.2.2.2.1,Za.2.2.2.1,Za.2.2.2.2.1,()))) (y8j ((1:Int)+y4h,u0q,y8f,Za.2.2.1,Za.2.2.2.2.2.1,Za.2.2.2.1,Za.2.2.2.2.1,()))) (q1i (Envt.mk (Sett.mk Zq w6s w1h) y1l Za.2.2.2.2.1 Za.2.2.2.1 Za.2.2.2.2.2.1 Za.2.2.1) fun y1g=>Cnd (y1g=true) (K (Envt.mk (Sett.mk Zq w6s w1h) y1l Za.2.2.2.2.1 Za.2.2.2.1 Za.2.2.2.2.2.1 Za.2.2.1) Za.2.1) (Q4 fun z2k=>K (Envt.mk (Sett.mk (ByteArray.mk (Array.mk [])) (ByteArray.mk (Array.mk [])) (0:Int)) z2k [] [] [] []) Za.2.1))) (q1i (Envt.mk (Sett.mk Zq w6s w1h) y1l Za.2.2.2.2.1 Za.2.2.2.1 Za.2.2.2.2.2.1 Za.2.2.1) fun Ge=>Cnd (Ge=true) (K (Envt.mk (Sett.mk Zq w6s w1h) y1l Za.2.2.2.2.1 Za.2.2.2.1 Za.2.2.2.2.2.1 Za.2.2.1) Za.2.1) (Q4 fun y1g=>K (Envt.mk (Sett.mk (ByteArray.mk (Array.mk [])) (ByteArray.mk (Array.mk [])) (0:Int)) y1g [] [] [] []) Za.2.1))) (q1i (Envt.mk (Sett.mk Zq w6s w1h) y1l Za.2.2.2.2.1 Za.2.2.2.1 Za.2.2.2.2.2.1 Za.2.2.1) fun w9r=>Cnd (w9r=true) (K (Envt.mk (Sett.mk Zq w6s w1h) y1l Za.2.2.2.2.1 Za.2.2.2.1 Za.2.2.2.2.2.1 Za.2.2.1) Za.2.1) (Q4 fun Ge=>K (Envt.mk (Sett.mk (ByteArray.mk (Array.mk [])) (ByteArray.mk (Array.mk [])) (0:Int)) Ge [] [] [] []) Za.2.1))) ((0:Int),w1f,Qp.2.2.2.1,Qp.2.2.2.2.2.1,Qp.2.2.2.2.1,Qp.2.2.1,()))) ((0:Int),z8x,Qm.2.2.2.2.1,Qm.2.2.2.2.2.1,Qm.2.2.2.1,Qm.2.2.1,()))) ((0:Int),Vq,u2u,u2t,u2v,u2w,())) fun w34=>Qb list at_ (2:Int) fun Qg Zq=>Cnd (Qg=1) (Wn list Zq fun Qf Vq=>Wy list Vq (2500:Int) fun Qe J2=>w34 (Qf,ByteArray.mk (Array.mk [117,115,101,114]),Qe,J2,Qa,())) (w34 (ByteArray.mk (Array.mk []),ByteArray.mk (Array.mk []),(0:Int),Zq,Qa,()))
def Rp:Rn:=q8w J0 q5j Ze z7p Us z2w z5c H3 z2x J5 z5g q10 q76 z1n q6x q03 q8h Rm
abbrev q40:Type:=(Envt->Prop)->Prop
def q41:q40:=fun K=>K (Envt.mk (Sett.mk (ByteArray.mk (Array.mk [])) (ByteArray.mk (Array.mk [])) (0:Int)) [] [] [Flg.mk (ByteArray.mk (Array.mk [102])) (1:Int) [Val.mk (1:Int) (0:Int) (ByteArray.mk (Array.mk [])) [],Val.mk (1:Int) (1:Int) (ByteArray.mk (Array.mk [])) []] true (1:Int) [] [] [] (Srv.mk (1:Int) (ByteArray.mk (Array.mk [])) (ByteArray.mk (Array.mk [])) (ByteArray.mk (Array.mk [])) [])] [Lay_.mk (ByteArray.mk (Array.mk [108])) (ByteArray.mk (Array.mk [117,115,101,114])) (ByteArray.mk (Array.mk [])) (0:Int) (0:Int) []] [Exper.mk (ByteArray.mk (Array.mk [120])) (ByteArray.mk (Array.mk [108])) (ByteArray.mk (Array.mk [102])) (ByteArray.mk (Array.mk [])) (2:Int) [Spn.mk (0:Int) (10000:Int)] [Rng.mk (0:Int) (10000:Int) (2:Int)] (Ex.mk (1:Int) (ByteArray.mk (Array.mk [])) (ByteArray.mk (Array.mk [])) [] [])])
abbrev U1:Type:=Subj->ByteArray->(Int->Prop)->Prop
def Ve:U1:=fun s kind K=>Fits s.1->Lp1 (fun Qd q1t=>CAt s.1 Qd (fun y2=>Cnd (y2.1=kind) (K Qd) (InI (Qd+1)/\q1t (Qd+1))) (K (-1:Int))) (0:Int)
abbrev V0:Type:=Val->(Val->Prop)->Prop
def Wb:V0:=fun v K=> ∀n0,(n0=true->v.4=[])->Cnd (n0=true) (K (Val.mk v.1 v.2 v.3 [])) (Sml ([]++v.4).length/\K (Val.mk v.1 v.2 v.3 ([]++v.4)))
abbrev U2:Type:=Attr->(Attr->Prop)->Prop
def q4a(Zw:V0):U2:=fun a K=>Zw (Val.mk a.2.1 a.2.2 a.2.3 a.2.4) fun Qa=>K (Attr.mk a.1 Qa)
def U3:U2:=q4a Wb
abbrev Rq:Type:=Ctxt->(Ctxt->Prop)->Prop
def q8x(Bp:U2):Rq:=fun c K=>Fits c.3->((0:Int)<=(0:Int)/\(0:Int)<=(↑c.3.length:Int)/\Sml (↑c.3.length:Int).toNat)/\(Fits c.3->Lp2 (fun Qg Zq q7u=>CAt c.3 Zq (fun y3=>Bp (Attr.mk y3.1 (Val.mk y3.2.1 y3.2.2 y3.2.3 y3.2.4)) fun Qm=>Sml (Qg++[Attr.mk Qm.1 (Val.mk Qm.2.1 Qm.2.2 Qm.2.3 Qm.2.4)]).length/\InI (Zq+1)/\q7u (Qg++[Attr.mk Qm.1 (Val.mk Qm.2.1 Qm.2.2 Qm.2.3 Qm.2.4)]) (Zq+1)) (K (Ctxt.mk c.1 c.2 Qg))) (List.replicate (Int.toNat (0:Int)) (Attr.mk (ByteArray.mk (Array.mk [])) (Val.mk (0:Int) (0:Int) (ByteArray.mk (Array.mk [])) []))) (0:Int))
def Rr:Rq:=q8x U3
abbrev Wc:Type:=Subj->ByteArray->(Ctxt->Bool->Prop)->Prop
def z0v(Jy:U1)(q3v:Rq):Wc:=fun s kind K=>Jy (Subj.mk s.1) kind fun Qa=>Cnd (Qa<0) (K (Ctxt.mk (ByteArray.mk (Array.mk [])) (ByteArray.mk (Array.mk [])) []) false) (At s.1 Qa fun y1=>q3v y1 fun Qf=>K Qf true)
def Wd:Wc:=z0v Ve Rr
abbrev q42:Type:=List (List Int)->(List (Int)->Prop)->Prop
def B9:q42:=fun fields K=>Fits fields->Lp2 (fun Qd Jc z7b=>CAt fields Jc (fun y2=>Lp2 (fun Qe J2 w9t=>Cnd ((0:Int)<=J2) (Fits y2->InI ((8:Int)*J2)/\(0:Int)<=(8:Int)*J2/\Sml (Qe++[Go.IntKind.u8.wrap ((Go.IntKind.u64.wrap (↑y2.length:Int)).fdiv ((2:Int) ^ Min.min ((8:Int)*J2).toNat (64:Nat)))]).length/\InI (J2 - 1)/\w9t (Qe++[Go.IntKind.u8.wrap ((Go.IntKind.u64.wrap (↑y2.length:Int)).fdiv ((2:Int) ^ Min.min ((8:Int)*J2).toNat (64:Nat)))]) (J2 - 1)) (Sml (Qe++y2).length/\InI (Jc+1)/\z7b (Qe++y2) (Jc+1))) Qd (7:Int)) (K Qd)) [] (0:Int)
abbrev Gk:Type:=Int->Int->(Int->Prop)->Prop
def Vf:Gk:=fun x k K=>(0:Int)<=Go.IntKind.u64.wrap (↑(BitVec.ofInt (64:Nat) (Go.IntKind.u64.wrap k) &&& BitVec.ofInt (64:Nat) (63:Int)).toNat:Int)/\(0:Int)<=Go.IntKind.u64.wrap ((64:Int) - Go.IntKind.u64.wrap (↑(BitVec.ofInt (64:Nat) (Go.IntKind.u64.wrap k) &&& BitVec.ofInt (64:Nat) (63:Int)).toNat:Int))/\K (Go.IntKind.u64.wrap (↑(BitVec.ofInt (64:Nat) (Go.IntKind.u64.wrap (x*2 ^ Min.min (Go.IntKind.u64.wrap (↑(BitVec.ofInt (64:Nat) (Go.IntKind.u64.wrap k) &&& BitVec.ofInt (64:Nat) (63:Int)).toNat:Int)).toNat (64:Nat)))|||BitVec.ofInt (64:Nat) (x.fdiv ((2:Int) ^ Min.min (Go.IntKind.u64.wrap ((64:Int) - Go.IntKind.u64.wrap (↑(BitVec.ofInt (64:Nat) (Go.IntKind.u64.wrap k) &&& BitVec.ofInt (64:Nat) (63:Int)).toNat:Int))).toNat (64:Nat)))).toNat:Int))
abbrev Jg:Type:=Int->Int->Int->Int->Int->(Int->Int->Int->Int->Prop)->Prop
def Bx(Zs:Gk):Jg:=fun v0 v1 v2 v3 n K=>Lp5 (fun Qa Qz j3b q6s w6r y8r=>Cnd (Qa<n) (Zs j3b (13:Int) fun Qd=>Zs (Go.IntKind.u64.wrap (Qz+j3b)) (32:Int) fun Qg=>Zs w6r (16:Int) fun Qf=>Zs (Go.IntKind.u64.wrap (↑(BitVec.ofInt (64:Nat) Qf ^^^ BitVec.ofInt (64:Nat) (Go.IntKind.u64.wrap (q6s+w6r))).toNat:Int)) (21:Int) fun Qe=>Zs (Go.IntKind.u64.wrap (↑(BitVec.ofInt (64:Nat) Qd ^^^ BitVec.ofInt (64:Nat) (Go.IntKind.u64.wrap (Qz+j3b))).toNat:Int)) (17:Int) fun Qm=>Zs (Go.IntKind.u64.wrap (Go.IntKind.u64.wrap (q6s+w6r)+Go.IntKind.u64.wrap (↑(BitVec.ofInt (64:Nat) Qd ^^^ BitVec.ofInt (64:Nat) (Go.IntKind.u64.wrap (Qz+j3b))).toNat:Int))) (32:Int) fun Z3=>InI (Qa+1)/\y8r (Qa+1) (Go.IntKind.u64.wrap (Qg+Go.IntKind.u64.wrap (↑(BitVec.ofInt (64:Nat) Qf ^^^ BitVec.ofInt (64:Nat) (Go.IntKind.u64.wrap (q6s+w6r))).toNat:Int))) (Go.IntKind.u64.wrap (↑(BitVec.ofInt (64:Nat) Qm ^^^ BitVec.ofInt (64:Nat) (Go.IntKind.u64.wrap (Go.IntKind.u64.wrap (q6s+w6r)+Go.IntKind.u64.wrap (↑(BitVec.ofInt (64:Nat) Qd ^^^ BitVec.ofInt (64:Nat) (Go.IntKind.u64.wrap (Qz+j3b))).toNat:Int)))).toNat:Int)) Z3 (Go.IntKind.u64.wrap (↑(BitVec.ofInt (64:Nat) Qe ^^^ BitVec.ofInt (64:Nat) (Go.IntKind.u64.wrap (Qg+Go.IntKind.u64.wrap (↑(BitVec.ofInt (64:Nat) Qf ^^^ BitVec.ofInt (64:Nat) (Go.IntKind.u64.wrap (q6s+w6r))).toNat:Int)))).toNat:Int))) (K Qz j3b q6s w6r)) (0:Int) v0 v1 v2 v3
def Zb:Jg:=Bx Vf
abbrev V1:Type:=Int->Int->Int->Int->Int->(Int->Int->Int->Int->Prop)->Prop
def q2h(Zm:Jg):V1:=fun v0 v1 v2 v3 m K=>Zm v0 v1 v2 (Go.IntKind.u64.wrap (↑(BitVec.ofInt (64:Nat) v3 ^^^ BitVec.ofInt (64:Nat) m).toNat:Int)) (2:Int) fun Qa Qz j3b q6s=>K (Go.IntKind.u64.wrap (↑(BitVec.ofInt (64:Nat) Qa ^^^ BitVec.ofInt (64:Nat) m).toNat:Int)) Qz j3b q6s
def V2:V1:=q2h Zb
abbrev q5s:Type:=Int->Int->List (Int)->(Int->Prop)->Prop
def z5s(Ue:V1)(Zm:Jg):q5s:=fun k0 k1 b K=>Fits b->(0:Int)<=(56:Int)/\Lp5 (fun Qd Jc j29 j5r y8m u0f=>InI (Qd+8)/\(Fits b->Cnd (Qd+8<=(↑b.length:Int)) (Lp2 (fun Qf Vq j7b=>Cnd (Vq<8) (InI (Qd+Vq)/\At b (Qd+Vq) fun y4=>InI ((8:Int)*Vq)/\(0:Int)<=(8:Int)*Vq/\InI (Vq+1)/\j7b (Go.IntKind.u64.wrap (↑(BitVec.ofInt (64:Nat) Qf|||BitVec.ofInt (64:Nat) (Go.IntKind.u64.wrap (Go.IntKind.u64.wrap y4*2 ^ Min.min ((8:Int)*Vq).toNat (64:Nat)))).toNat:Int)) (Vq+1)) (Ue Jc j29 j5r y8m Qf fun Qe J2 j3d y1k=>InI (Qd+8)/\u0f (Qd+8) Qe J2 j3d y1k)) (0:Int) (0:Int)) (Fits b->(8:Int)≠(0:Int)/\Lp2 (fun Qe J2 w9t=>Cnd (J2<(↑b.length:Int).tmod (8:Int)) (Fits b->Fits b->(8:Int)≠(0:Int)/\InI ((↑b.length:Int) - (↑b.length:Int).tmod (8:Int))/\InI ((↑b.length:Int) - (↑b.length:Int).tmod (8:Int)+J2)/\((0:Int)<=(↑b.length:Int) - (↑b.length:Int).tmod (8:Int)+J2/\(↑b.length:Int) - (↑b.length:Int).tmod (8:Int)+J2<(↑b.length:Int))/\ ∀y7,b[((↑b.length:Int) - (↑b.length:Int).tmod (8:Int)+J2).toNat]? =some y7->InI ((8:Int)*J2)/\(0:Int)<=(8:Int)*J2/\InI (J2+1)/\w9t (Go.IntKind.u64.wrap (↑(BitVec.ofInt (64:Nat) Qe|||BitVec.ofInt (64:Nat) (Go.IntKind.u64.wrap (Go.IntKind.u64.wrap y7*2 ^ Min.min ((8:Int)*J2).toNat (64:Nat)))).toNat:Int)) (J2+1)) (Ue Jc j29 j5r y8m Qe fun Qm q7v u1w u2x=>Zm Qm q7v (Go.IntKind.u64.wrap (↑(BitVec.ofInt (64:Nat) u1w ^^^ BitVec.ofInt (64:Nat) (255:Int)).toNat:Int)) u2x (4:Int) fun Z3 j06 y5j y76=>K (Go.IntKind.u64.wrap (↑(BitVec.ofInt (64:Nat) (Go.IntKind.u64.wrap (↑(BitVec.ofInt (64:Nat) (Go.IntKind.u64.wrap (↑(BitVec.ofInt (64:Nat) Z3 ^^^ BitVec.ofInt (64:Nat) j06).toNat:Int)) ^^^ BitVec.ofInt (64:Nat) y5j).toNat:Int)) ^^^ BitVec.ofInt (64:Nat) y76).toNat:Int)))) (Go.IntKind.u64.wrap (Go.IntKind.u64.wrap (↑b.length:Int)*2 ^ Min.min (Int.toNat (56:Int)) (64:Nat))) (0:Int)))) (0:Int) (Go.IntKind.u64.wrap (↑(BitVec.ofInt (64:Nat) k0 ^^^ BitVec.ofInt (64:Nat) (8317987319222330741:Int)).toNat:Int)) (Go.IntKind.u64.wrap (↑(BitVec.ofInt (64:Nat) k1 ^^^ BitVec.ofInt (64:Nat) (7237128888997146477:Int)).toNat:Int)) (Go.IntKind.u64.wrap (↑(BitVec.ofInt (64:Nat) k0 ^^^ BitVec.ofInt (64:Nat) (7816392313619706465:Int)).toNat:Int)) (Go.IntKind.u64.wrap (↑(BitVec.ofInt (64:Nat) k1 ^^^ BitVec.ofInt (64:Nat) (8387220255154660723:Int)).toNat:Int))
def q5t:q5s:=z5s V2 Zb
abbrev q2i:Type:=Int->List (List Int)->(Int->Prop)->Prop
def z27(q5c:q42)(z0m:q5s):q2i:=fun domain fields K=>q5c fields fun Qa=>z0m domain (0:Int) Qa fun Qd=>K Qd
def q2j:q2i:=z27 B9 q5t
abbrev q05:Type:=ByteArray->ByteArray->(Int->Prop)->Prop
def z92(q7f:q2i):q05:=fun salt key K=>Sml salt.size/\Sml key.size/\q7f (1:Int) [List.map (fun b=>(↑b.toNat:Int)) (salt,key,()).1.data.toList,List.map (fun b=>(↑b.toNat:Int)) (salt,key,()).2.1.data.toList] fun Qa=>(10000:Int)≠(0:Int)/\InI (Qa.tmod (10000:Int))/\K (Qa.tmod (10000:Int))
def Gl:q05:=z92 q2j
abbrev q2k:Type:=List (Frc)->ByteArray->(Frc->Bool->Prop)->Prop
def Rs:q2k:=fun l layer K=>Fits l->Lp4 (fun Qd Jc j29 j5r u2y=>CAt l Qd (fun y2=>Cnd (y2.1=layer) (K y2 true) (InI (Qd+1)/\u2y (Qd+1) Jc j29 j5r)) (K (Frc.mk (ByteArray.mk (Array.mk [])) (ByteArray.mk (Array.mk [])) (0:Int)) false)) (0:Int) (ByteArray.mk (Array.mk [])) (ByteArray.mk (Array.mk [])) (0:Int)
abbrev q6z:Type:=Envt->Frc->(Bool->Prop)->Prop
def q2l:q6z:=fun v f K=>Fits v.6->Lp1 (fun Qd q1t=>CAt v.6 Qd (fun y2=>Cnd (y2.1=f.2) (Cnd (y2.2=f.1) (Cnd (y2.5=2) (Fits y2.7->Lp1 (fun Qm j71=>CAt y2.7 Qm (fun y6=>Cnd (y6.3=f.3) (Cnd ((0:Int)<=Qm) (K (decide ((0:Int)<=Qd))) (InI (Qd+1)/\q1t (Qd+1))) (InI (Qm+1)/\j71 (Qm+1))) (Cnd ((0:Int)<=(-1:Int)) (K (decide ((0:Int)<=Qd))) (InI (Qd+1)/\q1t (Qd+1)))) (0:Int)) (InI (Qd+1)/\q1t (Qd+1))) (InI (Qd+1)/\q1t (Qd+1))) (InI (Qd+1)/\q1t (Qd+1))) (K (decide ((0:Int)<=(-1:Int))))) (0:Int)
abbrev q2m:Type:=Envt->Subj->(Bool->Prop)->Prop
def z29(Zp:Wc)(Ul:q05):q2m:=fun v s K=>Cnd (v.1.3<=0) (K false) (Zp (Subj.mk s.1) v.1.2 fun Qa Qz=>Cnd (Qz=true) (Ul v.1.1 Qa.2 fun Qd=>K (decide (Qd<v.1.3))) (K false))
def q2n:q2m:=z29 Wd Gl
abbrev Bd:Type:=Int->(Bool->Prop)->Prop
def V3:Bd:=fun op K=>Cnd ((6:Int)<=op) (K (decide (op<=15))) (K false)
abbrev Zc:Type:=List (ByteArray)->List (ByteArray)->(Bool->Prop)->Prop
def Q3:Zc:=fun s1 s2 K=>Fits s1->Fits s2->Cnd ((↑s1.length:Int)=(↑s2.length:Int)) (Fits s1->Lp1 (fun Qf j07=>CAt s1 Qf (fun y4=>At s2 Qf fun y6=>Cnd (y4=y6) (InI (Qf+1)/\j07 (Qf+1)) (K false)) (K true)) (0:Int)) (K false)
abbrev q5u:Type:=Val->Val->(Bool->Prop)->Prop
def z5t(Qo:Zc):q5u:=fun a b K=>Cnd (a.1=b.1) (Cnd (a.2=b.2) (Cnd (a.3=b.3) (Qo a.4 b.4 fun Qa=>K Qa) (K false)) (K false)) (K false)
def q1p:q5u:=z5t Q3
abbrev Rt:Type:=Ex->Ex->(Bool->Prop)->Prop
def z93(z0n:q5u)(X:Rt):Rt:=fun a b K=>Cnd (a.1=b.1) (Cnd (a.2=b.2) (Cnd (a.3=b.3) (Fits a.4->Fits b.4->Cnd ((↑a.4.length:Int)=(↑b.4.length:Int)) (Fits a.4->Lp1 (fun Qf j07=>CAt a.4 Qf (fun y4=>At b.4 Qf fun y6=>z0n y4 y6 fun Uj=>Cnd (Uj=true) (InI (Qf+1)/\j07 (Qf+1)) (K false)) (Fits a.5->Fits b.5->Cnd ((↑a.5.length:Int)=(↑b.5.length:Int)) (Fits a.5->Lp1 (fun Qw v2u=>CAt a.5 Qw (fun y8=>At b.5 Qw fun y10=>X (Ex.mk y8.1 y8.2 y8.3 y8.4 y8.5) (Ex.mk y10.1 y10.2 y10.3 y10.4 y10.5) fun V9=>Cnd (V9=true) (InI (Qw+1)/\v2u (Qw+1)) (K false)) (K true)) (0:Int)) (K false))) (0:Int)) (K false)) (K false)) (K false)) (K false)
def q06:Rt:=fun a b K=> ∀X:Rt,(∀a b K,z93 q1p X a b K->X a b K)->X a b K
abbrev W9:Type:=List (Ex)->Ex->(List (Ex)->Prop)->Prop
def z0w(W2:Bd)(q9v:Rt)(X:W9):W9:=fun l e K=>Jn1 (fun Qa=>Fits e.5->Lp2 (fun Qg Zq q7u=>CAt e.5 Zq (fun y3=>X Qg (Ex.mk y3.1 y3.2 y3.3 y3.4 y3.5) fun Qm=>InI (Zq+1)/\q7u Qm (Zq+1)) (K Qg)) Qa (0:Int)) fun z2m=>W2 e.1 fun Qd=>Cnd (Qd=true) (Fits l->Lp1 (fun Qf j07=>CAt l Qf (fun y4=>q9v (Ex.mk y4.1 y4.2 y4.3 y4.4 y4.5) (Ex.mk e.1 e.2 e.3 e.4 e.5) fun Z3=>Cnd (Z3=true) (Cnd ((0:Int)<=Qf) (z2m l) (Sml (l++[Ex.mk e.1 e.2 e.3 e.4 e.5]).length/\z2m (l++[Ex.mk e.1 e.2 e.3 e.4 e.5]))) (InI (Qf+1)/\j07 (Qf+1))) (Cnd ((0:Int)<=(-1:Int)) (z2m l) (Sml (l++[Ex.mk e.1 e.2 e.3 e.4 e.5]).length/\z2m (l++[Ex.mk e.1 e.2 e.3 e.4 e.5])))) (0:Int)) (Cnd (e.1=5) (Fits l->Lp1 (fun Qf j07=>CAt l Qf (fun y4=>q9v (Ex.mk y4.1 y4.2 y4.3 y4.4 y4.5) (Ex.mk e.1 e.2 e.3 e.4 e.5) fun Z3=>Cnd (Z3=true) (Cnd ((0:Int)<=Qf) (z2m l) (Sml (l++[Ex.mk e.1 e.2 e.3 e.4 e.5]).length/\z2m (l++[Ex.mk e.1 e.2 e.3 e.4 e.5]))) (InI (Qf+1)/\j07 (Qf+1))) (Cnd ((0:Int)<=(-1:Int)) (z2m l) (Sml (l++[Ex.mk e.1 e.2 e.3 e.4 e.5]).length/\z2m (l++[Ex.mk e.1 e.2 e.3 e.4 e.5])))) (0:Int)) (z2m l))
def q0a:W9:=fun l e K=> ∀X:W9,(∀l e K,z0w V3 q06 X l e K->X l e K)->X l e K
abbrev Gg:Type:=Ex->(Ex->Prop)->Prop
def z5u(Zw:V0)(X:Gg):Gg:=fun e K=>Fits e.4->((0:Int)<=(0:Int)/\(0:Int)<=(↑e.4.length:Int)/\Sml (↑e.4.length:Int).toNat)/\(Fits e.4->Lp2 (fun Qg Zq q7u=>CAt e.4 Zq (fun y3=>Zw y3 fun Qm=>Sml (Qg++[Qm]).length/\InI (Zq+1)/\q7u (Qg++[Qm]) (Zq+1)) (Fits e.5->((0:Int)<=(0:Int)/\(0:Int)<=(↑e.5.length:Int)/\Sml (↑e.5.length:Int).toNat)/\(Fits e.5->Lp2 (fun Qm q7v u0j=>CAt e.5 q7v (fun y6=>X (Ex.mk y6.1 y6.2 y6.3 y6.4 y6.5) fun Uj=>Sml (Qm++[Ex.mk Uj.1 Uj.2 Uj.3 Uj.4 Uj.5]).length/\InI (q7v+1)/\u0j (Qm++[Ex.mk Uj.1 Uj.2 Uj.3 Uj.4 Uj.5]) (q7v+1)) (K (Ex.mk e.1 e.2 e.3 Qg Qm))) (List.replicate (Int.toNat (0:Int)) (Ex.mk (0:Int) (ByteArray.mk (Array.mk [])) (ByteArray.mk (Array.mk [])) [] [])) (0:Int)))) (List.replicate (Int.toNat (0:Int)) (Val.mk (0:Int) (0:Int) (ByteArray.mk (Array.mk [])) [])) (0:Int))
def q5v:Gg:=fun e K=> ∀X:Gg,(∀e K,z5u Wb X e K->X e K)->X e K
abbrev q0b:Type:=Ex->(List (Ex)->Prop)->Prop
def z0x(q5d:W9)(z0o:Gg):q0b:=fun e K=>q5d [] (Ex.mk e.1 e.2 e.3 e.4 e.5) fun Qa=>Fits Qa->((0:Int)<=(0:Int)/\(0:Int)<=(↑Qa.length:Int)/\Sml (↑Qa.length:Int).toNat)/\(Fits Qa->Lp2 (fun Qf Vq j7b=>CAt Qa Vq (fun y4=>z0o (Ex.mk y4.1 y4.2 y4.3 y4.4 y4.5) fun Z3=>Sml (Qf++[Ex.mk Z3.1 Z3.2 Z3.3 Z3.4 Z3.5]).length/\InI (Vq+1)/\j7b (Qf++[Ex.mk Z3.1 Z3.2 Z3.3 Z3.4 Z3.5]) (Vq+1)) (K Qf)) (List.replicate (Int.toNat (0:Int)) (Ex.mk (0:Int) (ByteArray.mk (Array.mk [])) (ByteArray.mk (Array.mk [])) [] [])) (0:Int))
def q43:q0b:=z0x q0a q5v
abbrev Zu:Type:=List (ByteArray)->(List (ByteArray)->Prop)->Prop
def Zg(x:List (ByteArray))(K:List (ByteArray)->Prop):Prop:=K (srt x)
abbrev J7:Type:=List (ByteArray)->(List (ByteArray)->Prop)->Prop
def Z7(s:List (ByteArray))(K:List (ByteArray)->Prop):Prop:=K (cpt s)
abbrev Hc:Type:=Ex->(List (ByteArray)->Prop)->Prop
def q6h(q5e:q0b)(Qr:Zu)(Jb:J7):Hc:=fun e K=>q5e (Ex.mk e.1 e.2 e.3 e.4 e.5) fun Qa=>Fits Qa->Lp2 (fun Qg Zq q7u=>CAt Qa Zq (fun y3=>Cnd (y3.1=5) (Sml (Qg++[y3.3]).length/\InI (Zq+1)/\q7u (Qg++[y3.3]) (Zq+1)) (InI (Zq+1)/\q7u Qg (Zq+1))) (Qr Qg fun Qf=>Jb Qf fun Qe=>K Qe)) [] (0:Int)
def Hd:Hc:=q6h q43 Zg Z7
abbrev z3a:Type:=List (ByteArray)->List (Edg)->(List (ByteArray)->Int->Prop)->Prop
def P_graph_Order(nodes:List (ByteArray))(edges:List (Edg))(K:List (ByteArray)->Int->Prop):Prop:=Go.Fl.P_graph_Order nodes (edges.map fun e=>(e.1,e.2)) K
abbrev Ru:Type:=List (Seg)->(List (ByteArray)->Int->Prop)->Prop
def q8y(q0y:Hc)(q7g:z3a):Ru:=fun l K=>Fits l->Lp3 (fun Qd Jc j29 y4d=>CAt l j29 (fun y2=>Sml (Qd++[y2.1]).length/\q0y (Ex.mk y2.5.1 y2.5.2 y2.5.3 y2.5.4 y2.5.5) fun Qe=>Fits Qe->Lp2 (fun Z3 j06 y75=>CAt Qe j06 (fun y7=>Sml (Z3++[Edg.mk y2.1 y7]).length/\InI (j06+1)/\y75 (Z3++[Edg.mk y2.1 y7]) (j06+1)) (InI (j29+1)/\y4d (Qd++[y2.1]) Z3 (j29+1))) Jc (0:Int)) (q7g Qd Jc fun Qg Zq=>K Qg Zq)) [] [] (0:Int)
def Rv:Ru:=q8y Hd P_graph_Order
abbrev He:Type:=Subj->ByteArray->ByteArray->(Val->Bool->Prop)->Prop
def q6i(Jy:U1)(Zw:V0):He:=fun s kind name K=>Jy (Subj.mk s.1) kind fun Qa=>Cnd (Qa<0) (K (Val.mk (0:Int) (0:Int) (ByteArray.mk (Array.mk [])) []) false) (At s.1 Qa fun y1=>Cnd (name=ByteArray.mk (Array.mk [107,101,121])) (K (Val.mk (3:Int) (0:Int) y1.2 []) true) (Fits y1.3->Lp5 (fun Qe J2 j3d y1k (u1v:List ByteArray) u0y=>CAt y1.3 Qe (fun y5=>Cnd (y5.1=name) (Zw (Val.mk y5.2.1 y5.2.2 y5.2.3 y5.2.4) fun Qw=>K Qw true) (InI (Qe+1)/\u0y (Qe+1) J2 j3d y1k u1v)) (K (Val.mk (0:Int) (0:Int) (ByteArray.mk (Array.mk [])) []) false)) (0:Int) (0:Int) (0:Int) (ByteArray.mk (Array.mk [])) []))
def Hf:He:=q6i Ve Wb
abbrev q2o:Type:=Val->Val->(Bool->Prop)->Prop
def z3b(Qo:Zc):q2o:=fun a b K=>Cnd (a.1=b.1) (Cnd (a.2=b.2) (Cnd (a.3=b.3) (Qo a.4 b.4 fun Qa=>K Qa) (K false)) (K false)) (K false)
def Be:q2o:=z3b Q3
abbrev Z8:Type:=ByteArray->ByteArray->(Bool->Prop)->Prop
def Zr:Z8:=fun s prefix_ K=>Cnd ((↑prefix_.size:Int)<=(↑s.size:Int)) (((0:Int)<=(0:Int)/\(0:Int)<=(↑prefix_.size:Int)/\(↑prefix_.size:Int)<=(↑s.size:Int))/\K (decide (s.extract (Int.toNat (0:Int)) (↑prefix_.size:Int).toNat=prefix_))) (K false)
abbrev Vg:Type:=ByteArray->ByteArray->(Bool->Prop)->Prop
def q07(Q8:Z8):Vg:=fun s prefix_ K=>Q8 s prefix_ fun Qa=>K Qa
def Vh:Vg:=q07 Zr
abbrev Wu:Type:=ByteArray->ByteArray->(Bool->Prop)->Prop
def Wv:Wu:=fun s suffix K=>Cnd ((↑suffix.size:Int)<=(↑s.size:Int)) (InI ((↑s.size:Int) - (↑suffix.size:Int))/\((0:Int)<=(↑s.size:Int) - (↑suffix.size:Int)/\(↑s.size:Int) - (↑suffix.size:Int)<=(↑s.size:Int)/\(↑s.size:Int)<=(↑s.size:Int))/\K (decide (s.extract ((↑s.size:Int) - (↑suffix.size:Int)).toNat (↑s.size:Int).toNat=suffix))) (K false)
abbrev Vi:Type:=ByteArray->ByteArray->(Bool->Prop)->Prop
def q08(W4:Wu):Vi:=fun s suffix K=>W4 s suffix fun Qa=>K Qa
def Vj:Vi:=q08 Wv
abbrev q2p:Type:=ByteArray->ByteArray->(Bool->Prop)->Prop
def Hu(s:ByteArray)(substr:ByteArray)(K:Bool->Prop):Prop:=s.size<4294967281/\K (Go.Lib.contains s.data.toList substr.data.toList)
abbrev q60:Type:=Val->(Bool->Prop)->Prop
def q2q:q60:=fun v K=>Jn1 (fun Qa=>Cnd (Qa=true) (Cnd (v.3=ByteArray.mk (Array.mk [])) (Fits v.4->K (decide ((↑v.4.length:Int)=0))) (K false)) (Jn1 (fun Qd=>Cnd (Qd=true) (Cnd (v.2=0) (Fits v.4->K (decide ((↑v.4.length:Int)=0))) (K false)) (Cnd (v.2=0) (K (decide (v.3=ByteArray.mk (Array.mk [])))) (K false))) fun w34=>Cnd (v.1=3) (w34 (decide (v.1=3))) (w34 (decide (v.1=4))))) fun z2m=>Cnd (v.1=1) (z2m (decide (v.1=1))) (z2m (decide (v.1=2)))
abbrev q5w:Type:=ByteArray->(Bool->Prop)->Prop
def z5v(Zv:Vx):q5w:=fun s K=>Cnd ((200:Int)<(↑s.size:Int)) (K false) (Zv s fun Qa=>Cnd (Qa=true) (Lp1 (fun (Qd:ByteArray×Nat) q1t=>Cnd (Qd.2<Qd.1.size) (Cnd ((↑(Go.Utf8.decode Qd.1 Qd.2).1:Int)<(32:Int)) (K false) (Cnd ((↑(Go.Utf8.decode Qd.1 Qd.2).1:Int)=(127:Int)) (K false) (q1t (Qd.1,Qd.2+(Go.Utf8.decode Qd.1 Qd.2).2)))) (K true)) (s,(0:Nat))) (K false))
def q5x:q5w:=z5v Jv
abbrev q8z:Type:=ByteArray->ByteArray->(List (ByteArray)->Prop)->Prop
def q2r(s:ByteArray)(sep:ByteArray)(K:List (ByteArray)->Prop):Prop:=sep.size=1/\s.size<4294967281/\K (q1k s sep)
abbrev Jw:Type:=ByteArray->ByteArray->(ByteArray->Bool->Prop)->Prop
def Gm(Q8:Z8):Jw:=fun s prefix_ K=>Q8 s prefix_ fun Qa=>Cnd (Qa=true) (((0:Int)<=(↑prefix_.size:Int)/\(↑prefix_.size:Int)<=(↑s.size:Int)/\(↑s.size:Int)<=(↑s.size:Int))/\K (s.extract (↑prefix_.size:Int).toNat (↑s.size:Int).toNat) true) (K s false)
def Ww:Jw:=Gm Zr
abbrev Vk:Type:=ByteArray->ByteArray->(ByteArray->Bool->Prop)->Prop
def q09(W5:Jw):Vk:=fun s prefix_ K=>W5 s prefix_ fun Qa Qz=>K Qa Qz
def Vl:Vk:=q09 Ww
abbrev z0y:Type:=ByteArray->(Int->Bool->Prop)->Prop
def q0c(s:ByteArray)(K:Int->Bool->Prop):Prop:=s.size<=281474976710656/\y3g s K
abbrev V4:Type:=ByteArray->(Int->Int->Prop)->Prop
def q2s(Gz:Vk)(q0m:z0y):V4:=fun s K=>Gz s (ByteArray.mk (Array.mk [45])) fun Qa Qz=>Cnd (Qa=ByteArray.mk (Array.mk [])) (K (0:Int) (1:Int)) (((0:Int)<=(0:Int)/\(0:Int)<(↑Qa.size:Int))/\ ∀b1,Qa[Int.toNat (0:Int)]? =some b1->Cnd ((↑b1.toNat:Int)=48) (Cnd ((1:Int)<(↑Qa.size:Int)) (K (0:Int) (1:Int)) (Cnd (Qz=true) (K (0:Int) (1:Int)) (Lp1 (fun (Qf:ByteArray×Nat) j07=>Cnd (Qf.2<Qf.1.size) (Cnd ((↑(Go.Utf8.decode Qf.1 Qf.2).1:Int)<(48:Int)) (K (0:Int) (1:Int)) (Cnd ((57:Int)<(↑(Go.Utf8.decode Qf.1 Qf.2).1:Int)) (K (0:Int) (1:Int)) (j07 (Qf.1,Qf.2+(Go.Utf8.decode Qf.1 Qf.2).2)))) (q0m s fun Qe J2=>Cnd ((match (Qe,J2,()).2.1 with|true=>false|false=>true)=true) (K (0:Int) (3:Int)) (Cnd (Qe<(-1099511627776:Int)) (K (0:Int) (3:Int)) (Cnd ((1099511627776:Int)<Qe) (K (0:Int) (3:Int)) (K Qe (0:Int)))))) (Qa,(0:Nat))))) (Lp1 (fun (Qf:ByteArray×Nat) j07=>Cnd (Qf.2<Qf.1.size) (Cnd ((↑(Go.Utf8.decode Qf.1 Qf.2).1:Int)<(48:Int)) (K (0:Int) (1:Int)) (Cnd ((57:Int)<(↑(Go.Utf8.decode Qf.1 Qf.2).1:Int)) (K (0:Int) (1:Int)) (j07 (Qf.1,Qf.2+(Go.Utf8.decode Qf.1 Qf.2).2)))) (q0m s fun Qe J2=>Cnd ((match (Qe,J2,()).2.1 with|true=>false|false=>true)=true) (K (0:Int) (3:Int)) (Cnd (Qe<(-1099511627776:Int)) (K (0:Int) (3:Int)) (Cnd ((1099511627776:Int)<Qe) (K (0:Int) (3:Int)) (K Qe (0:Int)))))) (Qa,(0:Nat))))
def V5:V4:=q2s Vl q0c
abbrev Gn:Type:=ByteArray->(A3->Bool->Prop)->Prop
def z3c(q3w:q8z)(Hy:V4):Gn:=fun s K=>q3w s (ByteArray.mk (Array.mk [46])) fun Qa=>Fits Qa->Cnd ((↑Qa.length:Int)=3) (Fits Qa->LpH (fun (Qf:Int×Int×Int×Int×Int×Int×Int×Unit) j07=>CAt Qa Qf.1 (fun y4=>Hy y4 fun Z3 j06=>Cnd (j06=0) (Cnd (Z3<0) (K ((0:Int),(0:Int),(0:Int)) false) (Cnd ((999999:Int)<Z3) (K ((0:Int),(0:Int),(0:Int)) false) (((0:Int)<=Qf.1/\Qf.1<(↑(3:Nat):Int))/\((True/\(Qf.1=(↑(nat_lit 0):Int)->InI (Qf.1+1)/\j07 (Qf.1+1,Z3,Qf.2.2.1,Qf.2.2.2.1,Qf.2.2.2.2.1,Qf.2.2.2.2.2.1,Qf.2.2.2.2.2.2.1,())))/\(Qf.1=(↑(nat_lit 1):Int)->InI (Qf.1+1)/\j07 (Qf.1+1,Qf.2.1,Z3,Qf.2.2.2.1,Qf.2.2.2.2.1,Qf.2.2.2.2.2.1,Qf.2.2.2.2.2.2.1,())))/\(Qf.1=(↑(nat_lit 2):Int)->InI (Qf.1+1)/\j07 (Qf.1+1,Qf.2.1,Qf.2.2.1,Z3,Qf.2.2.2.2.1,Qf.2.2.2.2.2.1,Qf.2.2.2.2.2.2.1,()))))) (K ((0:Int),(0:Int),(0:Int)) false)) (K (Qf.2.1,Qf.2.2.1,Qf.2.2.2.1) true)) ((0:Int),(0:Int),(0:Int),(0:Int),(0:Int),(0:Int),(0:Int),())) (K ((0:Int),(0:Int),(0:Int)) false)
def Gq:Gn:=z3c q2r V5
abbrev q2t:Type:=Val->(Int->Prop)->Prop
def z3d(q7h:q60)(q59:q5w)(Wh:Gn):q2t:=fun v K=>Cnd (v.1<1) (K (7:Int)) (Cnd ((5:Int)<v.1) (K (7:Int)) (q7h v fun Qa=>Cnd (Qa=true) (Cnd (v.1=1) (Cnd (v.2=0) (K (0:Int)) (Cnd (v.2=1) (K (0:Int)) (K (3:Int)))) (Cnd (v.1=2) (Cnd (v.2<(-1099511627776:Int)) (K (3:Int)) (Cnd ((1099511627776:Int)<v.2) (K (3:Int)) (K (0:Int)))) (Cnd (v.1=3) (q59 v.3 fun Qd=>Cnd (Qd=true) (K (0:Int)) (K (2:Int))) (Cnd (v.1=4) (Wh v.3 fun (_:Int×Int×Int) Jc=>Cnd (Jc=true) (K (0:Int)) (K (1:Int))) (Cnd (v.1=5) (Fits v.4->Cnd ((20:Int)<(↑v.4.length:Int)) (K (5:Int)) (Fits v.4->Lp1 (fun Qf j07=>CAt v.4 Qf (fun y4=>q59 y4 fun Z3=>Cnd (Z3=true) (InI (Qf+1)/\j07 (Qf+1)) (K (2:Int))) (Fits v.4->Lp1 (fun Qm j71=>Cnd (Qm<(↑v.4.length:Int)) (Cnd ((0:Int)<Qm) (InI (Qm - 1)/\((0:Int)<=Qm - 1/\Qm - 1<(↑v.4.length:Int))/\ ∀y6,v.4[(Qm - 1).toNat]? =some y6->At v.4 Qm fun y8=>Cnd (Lk.blt y6 y8) (InI (Qm+1)/\j71 (Qm+1)) (K (9:Int))) (InI (Qm+1)/\j71 (Qm+1))) (K (0:Int))) (0:Int))) (0:Int))) (K (0:Int))))))) (K (15:Int))))
def q2u:q2t:=z3d q2q q5x Gq
abbrev Rw:Type:=Val->Val->(Int->Int->Prop)->Prop
def q80(q3x:q2t)(Wh:Gn):Rw:=fun a b K=>q3x a fun Qa=>Cnd (Qa=0) (q3x b fun Qd=>Cnd (Qd=0) (Cnd (a.1=b.1) (Cnd (a.1=1) (K (0:Int) (8:Int)) (Cnd (a.1=5) (K (0:Int) (8:Int)) (Cnd (a.1=2) (Cnd (a.2=a.2) (Cnd (b.2=b.2) (Cnd (a.2<b.2) (K (-1:Int) (0:Int)) (Cnd (b.2<a.2) (K (1:Int) (0:Int)) (K (0:Int) (0:Int)))) (K (1:Int) (0:Int))) (Cnd (b.2=b.2) (K (-1:Int) (0:Int)) (K (0:Int) (0:Int)))) (Cnd (a.1=3) (Cnd (a.3=a.3) (Cnd (b.3=b.3) (Cnd (Lk.blt a.3 b.3) (K (-1:Int) (0:Int)) (Cnd (Lk.blt b.3 a.3) (K (1:Int) (0:Int)) (K (0:Int) (0:Int)))) (K (1:Int) (0:Int))) (Cnd (b.3=b.3) (K (-1:Int) (0:Int)) (K (0:Int) (0:Int)))) (Wh a.3 fun (Qg:Int×Int×Int) _=>Wh b.3 fun (Qf:Int×Int×Int) _=>([Qg.1,Qg.2.1,Qg.2.2].length<=(9223372036854775807:Nat)->Lp1 (fun Qm j71=>Cnd (Qm<(↑[Qg.1,Qg.2.1,Qg.2.2].length:Int)) (((0:Int)<=Qm/\Qm<(↑[Qg.1,Qg.2.1,Qg.2.2].length:Int))/\ ∀y6,[Qg.1,Qg.2.1,Qg.2.2][Qm.toNat]? =some y6->[Qf.1,Qf.2.1,Qf.2.2].length<=(9223372036854775807:Nat)->Cnd ((↑[Qf.1,Qf.2.1,Qf.2.2].length:Int)<=Qm) (K (1:Int) (0:Int)) (((0:Int)<=Qm/\Qm<(↑[Qf.1,Qf.2.1,Qf.2.2].length:Int))/\ ∀y9,[Qf.1,Qf.2.1,Qf.2.2][Qm.toNat]? =some y9->Cnd (y6=y6) (Cnd (y9=y9) (Cnd (y6<y9) (Cnd ((-1:Int)=(0:Int)) (InI (Qm+1)/\j71 (Qm+1)) (K (-1:Int) (0:Int))) (Cnd (y9<y6) (Cnd ((1:Int)=(0:Int)) (InI (Qm+1)/\j71 (Qm+1)) (K (1:Int) (0:Int))) (Cnd ((0:Int)=(0:Int)) (InI (Qm+1)/\j71 (Qm+1)) (K (0:Int) (0:Int))))) (Cnd ((1:Int)=(0:Int)) (InI (Qm+1)/\j71 (Qm+1)) (K (1:Int) (0:Int)))) (Cnd (y9=y9) (Cnd ((-1:Int)=(0:Int)) (InI (Qm+1)/\j71 (Qm+1)) (K (-1:Int) (0:Int))) (Cnd ((0:Int)=(0:Int)) (InI (Qm+1)/\j71 (Qm+1)) (K (0:Int) (0:Int)))))) ([Qg.1,Qg.2.1,Qg.2.2].length<=(9223372036854775807:Nat)->[Qf.1,Qf.2.1,Qf.2.2].length<=(9223372036854775807:Nat)->Cnd ((↑[Qg.1,Qg.2.1,Qg.2.2].length:Int)<(↑[Qf.1,Qf.2.1,Qf.2.2].length:Int)) (K (-1:Int) (0:Int)) (K (0:Int) (0:Int)))) (0:Int))/\([Qg.1,Qg.2.1,Qg.2.2].length<=(9223372036854775807:Nat)->Lp1 (fun Qm j71=>Cnd (Qm<(↑[Qg.1,Qg.2.1,Qg.2.2].length:Int)) (((0:Int)<=Qm/\Qm<(↑[Qg.1,Qg.2.1,Qg.2.2].length:Int))/\ ∀y6,[Qg.1,Qg.2.1,Qg.2.2][Qm.toNat]? =some y6->[Qf.1,Qf.2.1,Qf.2.2].length<=(9223372036854775807:Nat)->Cnd ((↑[Qf.1,Qf.2.1,Qf.2.2].length:Int)<=Qm) (K (1:Int) (0:Int)) (((0:Int)<=Qm/\Qm<(↑[Qf.1,Qf.2.1,Qf.2.2].length:Int))/\ ∀y9,[Qf.1,Qf.2.1,Qf.2.2][Qm.toNat]? =some y9->Cnd (y6=y6) (Cnd (y9=y9) (Cnd (y6<y9) (Cnd ((-1:Int)=(0:Int)) (InI (Qm+1)/\j71 (Qm+1)) (K (-1:Int) (0:Int))) (Cnd (y9<y6) (Cnd ((1:Int)=(0:Int)) (InI (Qm+1)/\j71 (Qm+1)) (K (1:Int) (0:Int))) (Cnd ((0:Int)=(0:Int)) (InI (Qm+1)/\j71 (Qm+1)) (K (0:Int) (0:Int))))) (Cnd ((1:Int)=(0:Int)) (InI (Qm+1)/\j71 (Qm+1)) (K (1:Int) (0:Int)))) (Cnd (y9=y9) (Cnd ((-1:Int)=(0:Int)) (InI (Qm+1)/\j71 (Qm+1)) (K (-1:Int) (0:Int))) (Cnd ((0:Int)=(0:Int)) (InI (Qm+1)/\j71 (Qm+1)) (K (0:Int) (0:Int)))))) ([Qg.1,Qg.2.1,Qg.2.2].length<=(9223372036854775807:Nat)->[Qf.1,Qf.2.1,Qf.2.2].length<=(9223372036854775807:Nat)->Cnd ((↑[Qg.1,Qg.2.1,Qg.2.2].length:Int)<(↑[Qf.1,Qf.2.1,Qf.2.2].length:Int)) (K (-1:Int) (0:Int)) (K (0:Int) (0:Int)))) (0:Int))))))) (K (0:Int) (8:Int))) (K (0:Int) Qd)) (K (0:Int) Qa)
def U4:Rw:=q80 q2u Gq
abbrev q2v:Type:=Subj->Ex->(Bool->Prop)->Prop
def z3e(q0z:He)(W2:Bd)(Bq:q2o)(G0:Vg)(G1:Vi)(Hz:q2p)(R5:Rw):q2v:=fun s e K=>q0z (Subj.mk s.1) e.2 e.3 fun Qa Qz=>Cnd (Qz=true) (W2 e.1 fun Qd=>Cnd (Qd=true) (Cnd (e.1=6) (K true) (Cnd (e.1=8) (Fits e.4->Lp1 (fun Qf j07=>CAt e.4 Qf (fun y4=>Bq Qa y4 fun Z3=>Cnd (Z3=true) (K (decide ((0:Int)<=Qf))) (InI (Qf+1)/\j07 (Qf+1))) (K (decide ((0:Int)<=(-1:Int))))) (0:Int)) (Fits e.4->Cnd ((↑e.4.length:Int)=0) (K false) (((0:Int)<=(0:Int)/\(0:Int)<(↑e.4.length:Int))/\ ∀y3,e.4[Int.toNat (0:Int)]? =some y3->Cnd (Qa.1=3) (Cnd (e.1=7) (Bq Qa y3 fun Qm=>K Qm) (Cnd (e.1=9) (Cnd (y3.1=3) (G0 Qa.3 y3.3 fun Qm=>K Qm) (K false)) (Cnd (e.1=10) (Cnd (y3.1=3) (G1 Qa.3 y3.3 fun Qm=>K Qm) (K false)) (Cnd (e.1=11) (Cnd (y3.1=3) (Hz Qa.3 y3.3 fun Qm=>Cnd (Qm=true) (K true) (Cnd (y3.1=3) (Cnd (Qa.1=5) (Fits Qa.4->Lp1 (fun Qw v2u=>CAt Qa.4 Qw (fun y8=>Cnd (y3.3=y8) (K (decide ((0:Int)<=Qw))) (InI (Qw+1)/\v2u (Qw+1))) (K (decide ((0:Int)<=(-1:Int))))) (0:Int)) (K false)) (K false))) (Cnd (y3.1=3) (Cnd (Qa.1=5) (Fits Qa.4->Lp1 (fun Z3 y78=>CAt Qa.4 Z3 (fun y7=>Cnd (y3.3=y7) (K (decide ((0:Int)<=Z3))) (InI (Z3+1)/\y78 (Z3+1))) (K (decide ((0:Int)<=(-1:Int))))) (0:Int)) (K false)) (K false))) (R5 Qa y3 fun Qm q7v=>Cnd (q7v=0) (Cnd (e.1=12) (K (decide (Qm<0))) (Cnd (e.1=13) (K (decide (Qm<=0))) (Cnd (e.1=14) (K (decide ((0:Int)<Qm))) (K (decide ((0:Int)<=Qm)))))) (K false)))))) (Cnd (e.1=7) (Bq Qa y3 fun Qm=>K Qm) (Cnd (e.1=9) (K false) (Cnd (e.1=10) (K false) (Cnd (e.1=11) (Cnd (y3.1=3) (Cnd (Qa.1=5) (Fits Qa.4->Lp1 (fun Z3 y78=>CAt Qa.4 Z3 (fun y7=>Cnd (y3.3=y7) (K (decide ((0:Int)<=Z3))) (InI (Z3+1)/\y78 (Z3+1))) (K (decide ((0:Int)<=(-1:Int))))) (0:Int)) (K false)) (K false)) (R5 Qa y3 fun Qm q7v=>Cnd (q7v=0) (Cnd (e.1=12) (K (decide (Qm<0))) (Cnd (e.1=13) (K (decide (Qm<=0))) (Cnd (e.1=14) (K (decide ((0:Int)<Qm))) (K (decide ((0:Int)<=Qm)))))) (K false)))))))))) (K false)) (K false)
def Bf:q2v:=z3e Hf V3 Be Vh Vj Hu U4
abbrev We:Type:=Subj->List (ByteArray)->Ex->(Bool->Prop)->Prop
def z3f(q7i:q2v)(X:We):We:=fun s in_ e K=>Cnd (e.1=1) (K true) (Cnd (e.1=2) (Fits e.5->Lp1 (fun Qd q1t=>CAt e.5 Qd (fun y2=>X (Subj.mk s.1) in_ (Ex.mk y2.1 y2.2 y2.3 y2.4 y2.5) fun Qe=>Cnd (Qe=true) (InI (Qd+1)/\q1t (Qd+1)) (K (match decide ((0:Int)<=Qd) with|true=>false|false=>true))) (K true)) (0:Int)) (Cnd (e.1=3) (Fits e.5->Lp1 (fun Qd q1t=>CAt e.5 Qd (fun y2=>X (Subj.mk s.1) in_ (Ex.mk y2.1 y2.2 y2.3 y2.4 y2.5) fun Qe=>Cnd (Qe=true) (K (decide ((0:Int)<=Qd))) (InI (Qd+1)/\q1t (Qd+1))) (K (decide ((0:Int)<=(-1:Int))))) (0:Int)) (Cnd (e.1=4) (Fits e.5->Cnd ((0:Int)<(↑e.5.length:Int)) (((0:Int)<=(0:Int)/\(0:Int)<(↑e.5.length:Int))/\ ∀y1,e.5[Int.toNat (0:Int)]? =some y1->X (Subj.mk s.1) in_ (Ex.mk y1.1 y1.2 y1.3 y1.4 y1.5) fun Qf=>K (match decide ((Qf,()).1=true) with|true=>false|false=>true)) (K false)) (Cnd (e.1=5) (Fits in_->Lp1 (fun Qd q1t=>CAt in_ Qd (fun y2=>Cnd (e.3=y2) (K (decide ((0:Int)<=Qd))) (InI (Qd+1)/\q1t (Qd+1))) (K (decide ((0:Int)<=(-1:Int))))) (0:Int)) (q7i (Subj.mk s.1) (Ex.mk e.1 e.2 e.3 e.4 e.5) fun Qa=>K Qa)))))
def Gs:We:=fun s in_ e K=> ∀X:We,(∀s in_ e K,z3f Bf X s in_ e K->X s in_ e K)->X s in_ e K
abbrev V6:Type:=Seg->Subj->List (ByteArray)->(Bool->Prop)->Prop
def q2w(Zp:Wc)(Jq:We):V6:=fun g s in_ K=>Zp (Subj.mk s.1) g.2 fun Qa Qz=>Cnd (Qz=true) (Fits g.4->Lp1 (fun Qg j05=>CAt g.4 Qg (fun y3=>Cnd (Qa.2=y3) (Cnd ((0:Int)<=Qg) (K false) (Fits g.3->Lp1 (fun Z3 y78=>CAt g.3 Z3 (fun y7=>Cnd (Qa.2=y7) (Cnd ((0:Int)<=Z3) (K true) (Cnd (g.5.1=0) (K false) (Jq (Subj.mk s.1) in_ (Ex.mk g.5.1 g.5.2 g.5.3 g.5.4 g.5.5) fun Qp=>K Qp))) (InI (Z3+1)/\y78 (Z3+1))) (Cnd ((0:Int)<=(-1:Int)) (K true) (Cnd (g.5.1=0) (K false) (Jq (Subj.mk s.1) in_ (Ex.mk g.5.1 g.5.2 g.5.3 g.5.4 g.5.5) fun Qw=>K Qw)))) (0:Int))) (InI (Qg+1)/\j05 (Qg+1))) (Cnd ((0:Int)<=(-1:Int)) (K false) (Fits g.3->Lp1 (fun Qe w6t=>CAt g.3 Qe (fun y5=>Cnd (Qa.2=y5) (Cnd ((0:Int)<=Qe) (K true) (Cnd (g.5.1=0) (K false) (Jq (Subj.mk s.1) in_ (Ex.mk g.5.1 g.5.2 g.5.3 g.5.4 g.5.5) fun Qw=>K Qw))) (InI (Qe+1)/\w6t (Qe+1))) (Cnd ((0:Int)<=(-1:Int)) (K true) (Cnd (g.5.1=0) (K false) (Jq (Subj.mk s.1) in_ (Ex.mk g.5.1 g.5.2 g.5.3 g.5.4 g.5.5) fun Qm=>K Qm)))) (0:Int)))) (0:Int)) (K false)
def V7:V6:=q2w Wd Gs
abbrev U5:Type:=List (Seg)->Subj->(List (ByteArray)->Prop)->Prop
def q4b(q3y:Ru)(H0:V6)(Qr:Zu):U5:=fun l s K=>q3y l fun Qa Qz=>Cnd (Qz=0) (Fits l->Lp2 (fun Qg j05 q7u=>CAt l Qg (fun y3=>InI (Qg+1)/\q7u (Qg+1) (put j05 y3.1 (Seg.mk y3.1 y3.2 y3.3 y3.4 (Ex.mk y3.5.1 y3.5.2 y3.5.3 y3.5.4 y3.5.5)))) (Fits Qa->Lp2 (fun Qe J2 w9t=>CAt Qa J2 (fun y5=>H0 (Seg.mk ((j05 y5).getD (Seg.mk (ByteArray.mk (Array.mk [])) (ByteArray.mk (Array.mk [])) [] [] (Ex.mk (0:Int) (ByteArray.mk (Array.mk [])) (ByteArray.mk (Array.mk [])) [] []))).1 ((j05 y5).getD (Seg.mk (ByteArray.mk (Array.mk [])) (ByteArray.mk (Array.mk [])) [] [] (Ex.mk (0:Int) (ByteArray.mk (Array.mk [])) (ByteArray.mk (Array.mk [])) [] []))).2 ((j05 y5).getD (Seg.mk (ByteArray.mk (Array.mk [])) (ByteArray.mk (Array.mk [])) [] [] (Ex.mk (0:Int) (ByteArray.mk (Array.mk [])) (ByteArray.mk (Array.mk [])) [] []))).3 ((j05 y5).getD (Seg.mk (ByteArray.mk (Array.mk [])) (ByteArray.mk (Array.mk [])) [] [] (Ex.mk (0:Int) (ByteArray.mk (Array.mk [])) (ByteArray.mk (Array.mk [])) [] []))).4 (Ex.mk ((j05 y5).getD (Seg.mk (ByteArray.mk (Array.mk [])) (ByteArray.mk (Array.mk [])) [] [] (Ex.mk (0:Int) (ByteArray.mk (Array.mk [])) (ByteArray.mk (Array.mk [])) [] []))).5.1 ((j05 y5).getD (Seg.mk (ByteArray.mk (Array.mk [])) (ByteArray.mk (Array.mk [])) [] [] (Ex.mk (0:Int) (ByteArray.mk (Array.mk [])) (ByteArray.mk (Array.mk [])) [] []))).5.2 ((j05 y5).getD (Seg.mk (ByteArray.mk (Array.mk [])) (ByteArray.mk (Array.mk [])) [] [] (Ex.mk (0:Int) (ByteArray.mk (Array.mk [])) (ByteArray.mk (Array.mk [])) [] []))).5.3 ((j05 y5).getD (Seg.mk (ByteArray.mk (Array.mk [])) (ByteArray.mk (Array.mk [])) [] [] (Ex.mk (0:Int) (ByteArray.mk (Array.mk [])) (ByteArray.mk (Array.mk [])) [] []))).5.4 ((j05 y5).getD (Seg.mk (ByteArray.mk (Array.mk [])) (ByteArray.mk (Array.mk [])) [] [] (Ex.mk (0:Int) (ByteArray.mk (Array.mk [])) (ByteArray.mk (Array.mk [])) [] []))).5.5)) (Subj.mk s.1) Qe fun Qw=>Cnd (Qw=true) (Sml (Qe++[y5]).length/\InI (J2+1)/\w9t (Qe++[y5]) (J2+1)) (InI (J2+1)/\w9t Qe (J2+1))) (Qr Qe fun Qm=>K Qm)) [] (0:Int))) (0:Int) fun _=>none) (K [])
def U6:U5:=q4b Rv V7 Zg
abbrev U7:Type:=Envt->Subj->ByteArray->(Bool->Prop)->Prop
def q4c(Br:U5)(Jq:We):U7:=fun v s experiment K=>Fits v.6->Lp1 (fun Qd q1t=>CAt v.6 Qd (fun y2=>Cnd (y2.1=experiment) (Br v.3 (Subj.mk s.1) fun Qe=>Jq (Subj.mk s.1) Qe (Ex.mk y2.8.1 y2.8.2 y2.8.3 y2.8.4 y2.8.5) fun Qm=>K Qm) (InI (Qd+1)/\q1t (Qd+1))) (K false)) (0:Int)
def U8:U7:=q4c U6 Gs
abbrev q61:Type:=List (Rng)->Int->(Int->Prop)->Prop
def q2x:q61:=fun l bucket K=>Fits l->Lp1 (fun Qd q1t=>CAt l Qd (fun y2=>Cnd (y2.1<=bucket) (Cnd (bucket<y2.2) (K y2.3) (InI (Qd+1)/\q1t (Qd+1))) (InI (Qd+1)/\q1t (Qd+1))) (K (0:Int))) (0:Int)
abbrev Wf:Type:=Envt->Subj->List (Frc)->ByteArray->(Asg->Int->Prop)->Prop
def z0z(Zp:Wc)(q3z:q2k)(Ul:q05)(q7j:q61)(Bt:U7)(q7k:q2m)(q7l:q6z):Wf:=fun v s forced key K=>Jn1 (fun Qa=>Cnd (Qa<0) (K (Asg.mk (ByteArray.mk (Array.mk [])) (ByteArray.mk (Array.mk [])) (0:Int) (0:Int) false) (11:Int)) (At v.5 Qa fun y1=>Zp (Subj.mk s.1) y1.2 fun Qf Vq=>Jn1 (fun Qe=>q3z forced key fun Qm q7v=>Jn1 (fun Z3=>Cnd (Z3=true) (Cnd (Qm.2=ByteArray.mk (Array.mk [])) (K (Asg.mk key (ByteArray.mk (Array.mk [])) Qe (0:Int) false) (0:Int)) (K (Asg.mk key Qm.2 Qe Qm.3 false) (0:Int))) (Jn1 (fun Qw=>Cnd (Qw=true) (K (Asg.mk key (ByteArray.mk (Array.mk [])) Qe (0:Int) true) (0:Int)) (Cnd (Vq=true) (Fits v.6->Lp3 (fun Qp j04 u0w u1u=>CAt v.6 Qp (fun y10=>Jn1 (fun V9=>Jn1 (fun Za=>Cnd (Za=true) (Ul y10.4 Qf.2 fun Ws=>q7j y10.7 Ws fun w9r=>K (Asg.mk key y10.1 Qe w9r false) (0:Int)) (InI (Qp+1)/\u1u (Qp+1) j04 u0w)) fun y4i=>Cnd (y10.2=key) (Cnd (y10.5=2) (Cnd (V9=true) (Bt (Envt.mk (Sett.mk v.1.1 v.1.2 v.1.3) v.2 v.3 v.4 v.5 v.6) (Subj.mk s.1) y10.1 fun Ws=>y4i Ws) (y4i false)) (y4i false)) (y4i false)) fun u0v=>Fits y10.6->Lp1 (fun Ws y1f=>CAt y10.6 Ws (fun y15=>Cnd (y15.1<=Qe) (Cnd (Qe<y15.2) (u0v (decide ((0:Int)<=Ws))) (InI (Ws+1)/\y1f (Ws+1))) (InI (Ws+1)/\y1f (Ws+1))) (u0v (decide ((0:Int)<=(-1:Int))))) (0:Int)) (K (Asg.mk key j04 Qe u0w false) (0:Int))) (0:Int) (ByteArray.mk (Array.mk [])) (0:Int)) (K (Asg.mk key (ByteArray.mk (Array.mk [])) Qe (0:Int) false) (0:Int)))) fun y8l=>q7k (Envt.mk (Sett.mk v.1.1 v.1.2 v.1.3) v.2 v.3 v.4 v.5 v.6) (Subj.mk s.1) fun Uj=>Cnd (Uj=true) (y8l true) (Cnd (Vq=true) (y8l (decide (Qe<y1.4))) (y8l false)))) fun y5h=>Cnd (q7v=true) (Cnd (Qm.2=ByteArray.mk (Array.mk [])) (y5h true) (q7l (Envt.mk (Sett.mk v.1.1 v.1.2 v.1.3) v.2 v.3 v.4 v.5 v.6) Qm fun Qw=>y5h Qw)) (y5h false)) fun w9u=>Cnd (Vq=true) (Ul y1.3 Qf.2 fun Qm=>w9u Qm) (w9u (-1:Int)))) fun z2m=>Fits v.5->Lp1 (fun Qg j05=>CAt v.5 Qg (fun y3=>Cnd (y3.1=key) (z2m Qg) (InI (Qg+1)/\j05 (Qg+1))) (z2m (-1:Int))) (0:Int)
def Wg:Wf:=z0z Wd Rs Gl q2x U8 q2n q2l
abbrev z7x:Type:=List (List Int)->(List (Int)->Prop)->Prop
def z11:z7x:=fun fields K=>Lp2 (fun Qa Qz q31=>Fits fields->CAt fields Qz (fun y2=>Fits y2->Lp2 (fun Qm q7v u0j=>Cnd ((0:Int)<=q7v) ((0:Int)<=Go.IntKind.u64.wrap q7v/\Sml (Qm++[Go.IntKind.u8.wrap ((Go.IntKind.u64.wrap (↑y2.length:Int)).fdiv ((2:Int) ^ Min.min (Go.IntKind.u64.wrap q7v).toNat (64:Nat)))]).length/\InI (q7v - 8)/\u0j (Qm++[Go.IntKind.u8.wrap ((Go.IntKind.u64.wrap (↑y2.length:Int)).fdiv ((2:Int) ^ Min.min (Go.IntKind.u64.wrap q7v).toNat (64:Nat)))]) (q7v - 8)) (At fields Qz fun y6=>Sml (Qm++y6).length/\InI (Qz+1)/\q31 (Qm++y6) (Qz+1))) Qa (56:Int)) (K Qa)) [] (0:Int)
abbrev z3g:Type:=Int->Int->(Int->Prop)->Prop
def q81:z3g:=fun x n K=>(0:Int)<=n/\(0:Int)<=Go.IntKind.u64.wrap ((64:Int) - n)/\K (Go.IntKind.u64.wrap (↑(BitVec.ofInt (64:Nat) (Go.IntKind.u64.wrap (x*2 ^ Min.min n.toNat (64:Nat)))|||BitVec.ofInt (64:Nat) (x.fdiv ((2:Int) ^ Min.min (Go.IntKind.u64.wrap ((64:Int) - n)).toNat (64:Nat)))).toNat:Int))
abbrev Hg:Type:=Sip->Int->(Sip->Prop)->Prop
def q6j(G2:z3g):Hg:=fun v n K=>Lp5 (fun Qa Qz j3b q6s w6r y8r=>Cnd (Qa<n) (G2 j3b (13:Int) fun Qd=>G2 (Go.IntKind.u64.wrap (Qz+j3b)) (32:Int) fun Qg=>G2 w6r (16:Int) fun Qf=>G2 (Go.IntKind.u64.wrap (↑(BitVec.ofInt (64:Nat) Qf ^^^ BitVec.ofInt (64:Nat) (Go.IntKind.u64.wrap (q6s+w6r))).toNat:Int)) (21:Int) fun Qe=>G2 (Go.IntKind.u64.wrap (↑(BitVec.ofInt (64:Nat) Qd ^^^ BitVec.ofInt (64:Nat) (Go.IntKind.u64.wrap (Qz+j3b))).toNat:Int)) (17:Int) fun Qm=>G2 (Go.IntKind.u64.wrap (Go.IntKind.u64.wrap (q6s+w6r)+Go.IntKind.u64.wrap (↑(BitVec.ofInt (64:Nat) Qd ^^^ BitVec.ofInt (64:Nat) (Go.IntKind.u64.wrap (Qz+j3b))).toNat:Int))) (32:Int) fun Z3=>InI (Qa+1)/\y8r (Qa+1) (Go.IntKind.u64.wrap (Qg+Go.IntKind.u64.wrap (↑(BitVec.ofInt (64:Nat) Qf ^^^ BitVec.ofInt (64:Nat) (Go.IntKind.u64.wrap (q6s+w6r))).toNat:Int))) (Go.IntKind.u64.wrap (↑(BitVec.ofInt (64:Nat) Qm ^^^ BitVec.ofInt (64:Nat) (Go.IntKind.u64.wrap (Go.IntKind.u64.wrap (q6s+w6r)+Go.IntKind.u64.wrap (↑(BitVec.ofInt (64:Nat) Qd ^^^ BitVec.ofInt (64:Nat) (Go.IntKind.u64.wrap (Qz+j3b))).toNat:Int)))).toNat:Int)) Z3 (Go.IntKind.u64.wrap (↑(BitVec.ofInt (64:Nat) Qe ^^^ BitVec.ofInt (64:Nat) (Go.IntKind.u64.wrap (Qg+Go.IntKind.u64.wrap (↑(BitVec.ofInt (64:Nat) Qf ^^^ BitVec.ofInt (64:Nat) (Go.IntKind.u64.wrap (q6s+w6r))).toNat:Int)))).toNat:Int))) (K (Sip.mk Qz j3b q6s w6r))) (0:Int) v.1 v.2 v.3 v.4
def Z2:Hg:=q6j q81
abbrev j1y:Type:=Int->Int->List (Int)->(Int->Prop)->Prop
def w4u(Vs:Hg):j1y:=fun k0 k1 b K=>Lp5 (fun Qa Qz j3b q6s w6r y8r=>Fits b->(8:Int)≠(0:Int)/\InI ((↑b.length:Int).tdiv (8:Int))/\Cnd (Qa<=(↑b.length:Int).tdiv (8:Int)) (Lp2 (fun Qg Zq q7u=>Cnd (Zq<8) (InI ((8:Int)*Qa)/\InI ((8:Int)*Qa+Zq)/\(Fits b->Cnd ((8:Int)*Qa+Zq<(↑b.length:Int)) (InI ((8:Int)*Qa)/\InI ((8:Int)*Qa+Zq)/\((0:Int)<=(8:Int)*Qa+Zq/\(8:Int)*Qa+Zq<(↑b.length:Int))/\ ∀y4,b[((8:Int)*Qa+Zq).toNat]? =some y4->InI ((8:Int)*Zq)/\(0:Int)<=Go.IntKind.u64.wrap ((8:Int)*Zq)/\InI (Zq+1)/\q7u (Go.IntKind.u64.wrap (↑(BitVec.ofInt (64:Nat) Qg|||BitVec.ofInt (64:Nat) (Go.IntKind.u64.wrap (Go.IntKind.u64.wrap y4*2 ^ Min.min (Go.IntKind.u64.wrap ((8:Int)*Zq)).toNat (64:Nat)))).toNat:Int)) (Zq+1)) (Jn1 (fun Qe=>Vs (Sip.mk Qz j3b q6s (Go.IntKind.u64.wrap (↑(BitVec.ofInt (64:Nat) w6r ^^^ BitVec.ofInt (64:Nat) Qe).toNat:Int))) (2:Int) fun Qm=>InI (Qa+1)/\y8r (Qa+1) (Go.IntKind.u64.wrap (↑(BitVec.ofInt (64:Nat) Qm.1 ^^^ BitVec.ofInt (64:Nat) Qe).toNat:Int)) Qm.2 Qm.3 Qm.4) fun w9u=>Fits b->(8:Int)≠(0:Int)/\InI ((↑b.length:Int).tdiv (8:Int))/\Cnd (Qa=(↑b.length:Int).tdiv (8:Int)) (Fits b->(256:Int)≠(0:Int)/\(0:Int)<=(56:Int)/\w9u (Go.IntKind.u64.wrap (↑(BitVec.ofInt (64:Nat) Qg|||BitVec.ofInt (64:Nat) (Go.IntKind.u64.wrap (Go.IntKind.u64.wrap ((↑b.length:Int).tmod (256:Int))*(2:Int) ^ Min.min (Int.toNat (56:Int)) (64:Nat)))).toNat:Int))) (w9u Qg)))) (Jn1 (fun Qf=>Vs (Sip.mk Qz j3b q6s (Go.IntKind.u64.wrap (↑(BitVec.ofInt (64:Nat) w6r ^^^ BitVec.ofInt (64:Nat) Qf).toNat:Int))) (2:Int) fun Qe=>InI (Qa+1)/\y8r (Qa+1) (Go.IntKind.u64.wrap (↑(BitVec.ofInt (64:Nat) Qe.1 ^^^ BitVec.ofInt (64:Nat) Qf).toNat:Int)) Qe.2 Qe.3 Qe.4) fun y1e=>Fits b->(8:Int)≠(0:Int)/\InI ((↑b.length:Int).tdiv (8:Int))/\Cnd (Qa=(↑b.length:Int).tdiv (8:Int)) (Fits b->(256:Int)≠(0:Int)/\(0:Int)<=(56:Int)/\y1e (Go.IntKind.u64.wrap (↑(BitVec.ofInt (64:Nat) Qg|||BitVec.ofInt (64:Nat) (Go.IntKind.u64.wrap (Go.IntKind.u64.wrap ((↑b.length:Int).tmod (256:Int))*(2:Int) ^ Min.min (Int.toNat (56:Int)) (64:Nat)))).toNat:Int))) (y1e Qg))) (0:Int) (0:Int)) (Vs (Sip.mk Qz j3b (Go.IntKind.u64.wrap (↑(BitVec.ofInt (64:Nat) q6s ^^^ BitVec.ofInt (64:Nat) (255:Int)).toNat:Int)) w6r) (4:Int) fun Qg=>K (Go.IntKind.u64.wrap (↑(BitVec.ofInt (64:Nat) (Go.IntKind.u64.wrap (↑(BitVec.ofInt (64:Nat) (Go.IntKind.u64.wrap (↑(BitVec.ofInt (64:Nat) Qg.1 ^^^ BitVec.ofInt (64:Nat) Qg.2).toNat:Int)) ^^^ BitVec.ofInt (64:Nat) Qg.3).toNat:Int)) ^^^ BitVec.ofInt (64:Nat) Qg.4).toNat:Int)))) (0:Int) (Go.IntKind.u64.wrap (↑(BitVec.ofInt (64:Nat) k0 ^^^ BitVec.ofInt (64:Nat) (8317987319222330741:Int)).toNat:Int)) (Go.IntKind.u64.wrap (↑(BitVec.ofInt (64:Nat) k1 ^^^ BitVec.ofInt (64:Nat) (7237128888997146477:Int)).toNat:Int)) (Go.IntKind.u64.wrap (↑(BitVec.ofInt (64:Nat) k0 ^^^ BitVec.ofInt (64:Nat) (7816392313619706465:Int)).toNat:Int)) (Go.IntKind.u64.wrap (↑(BitVec.ofInt (64:Nat) k1 ^^^ BitVec.ofInt (64:Nat) (8387220255154660723:Int)).toNat:Int))
def j1z:j1y:=w4u Z2
abbrev z5w:Type:=Int->List (List Int)->(Int->Prop)->Prop
def j86(z8k:z7x)(j72:j1y):z5w:=fun domain fields K=>z8k fields fun Qa=>j72 domain (0:Int) Qa fun Qd=>K Qd
def z5x:z5w:=j86 z11 j1z
abbrev q62:Type:=ByteArray->ByteArray->(Int->Prop)->Prop
def w4v(j3m:z5w):q62:=fun salt key K=>Sml salt.size/\Sml key.size/\j3m (1:Int) [List.map (fun b=>(↑b.toNat:Int)) (salt,key,()).1.data.toList,List.map (fun b=>(↑b.toNat:Int)) (salt,key,()).2.1.data.toList] fun Qa=>(10000:Int)≠(0:Int)/\InI (Qa.tmod (10000:Int))/\K (Qa.tmod (10000:Int))
def q2y:q62:=w4v z5x
abbrev Rx:Type:=Envt->Subj->List (Frc)->(List (Asg)->Prop)->Prop
def z5y(Zf:Wf):Rx:=fun v s forced K=>Fits v.5->Lp2 (fun Qd Jc z7b=>CAt v.5 Jc (fun y2=>Zf (Envt.mk (Sett.mk v.1.1 v.1.2 v.1.3) v.2 v.3 v.4 v.5 v.6) (Subj.mk s.1) forced y2.1 fun Qe _=>Sml (Qd++[Qe]).length/\InI (Jc+1)/\z7b (Qd++[Qe]) (Jc+1)) (K Qd)) [] (0:Int)
def Ry:Rx:=z5y Wg
abbrev q2z:Type:=(Bool->Prop)->Prop
def z3h(q0n:q40)(Zf:Wf)(Up:q62)(Uf:Rx):q2z:=fun K=>q0n fun Qa=>Zf (Envt.mk (Sett.mk Qa.1.1 Qa.1.2 Qa.1.3) Qa.2 Qa.3 Qa.4 Qa.5 Qa.6) (Subj.mk [Ctxt.mk (ByteArray.mk (Array.mk [117,115,101,114])) (ByteArray.mk (Array.mk [117])) []]) [] (ByteArray.mk (Array.mk [108])) fun Qd Jc=>q0n fun Qg=>Zf (Envt.mk (Sett.mk Qg.1.1 Qg.1.2 Qg.1.3) Qg.2 Qg.3 Qg.4 Qg.5 Qg.6) (Subj.mk []) [] (ByteArray.mk (Array.mk [108])) fun Qf Vq=>Cnd (Jc=0) (Cnd (Qd.2=ByteArray.mk (Array.mk [120])) (Cnd (Qd.4=2) (Up (ByteArray.mk (Array.mk [])) (ByteArray.mk (Array.mk [117])) fun Qe=>Cnd (Qd.3=Qe) (Cnd (Vq=0) (Cnd (Qf.1=ByteArray.mk (Array.mk [108])/\Qf.2=ByteArray.mk (Array.mk [])/\Qf.3=(-1:Int)/\Qf.4=0/\Qf.5=false) (Uf (Envt.mk (Sett.mk (ByteArray.mk (Array.mk [])) (ByteArray.mk (Array.mk [])) (0:Int)) [] [] [] [] []) (Subj.mk []) [] fun Qm=>Fits Qm->K (decide ((↑Qm.length:Int)=0))) (K false)) (K false)) (K false)) (K false)) (K false)) (K false)
def q20:q2z:=z3h q41 Wg q2y Ry
abbrev w4w:Type:=List (Int)->Int->(List (Int)->Int->Prop)->Prop
def j87:w4w:=fun list_ most K=>Jn1 (fun Qa=>K Qa (0:Int)) fun z2m=>Fits list_->Cnd (most<(↑list_.length:Int)) (((0:Int)<=(0:Int)/\(0:Int)<=most/\most<=(↑list_.length:Int))/\z2m (List.drop (Int.toNat (0:Int)) (List.take most.toNat list_))) (z2m list_)
abbrev q82:Type:=List (Int)->Int->ByteArray->(Ctxt->Int->Prop)->Prop
def z94(z4a:z9p)(Q4:W6)(Qb:Zj)(Jm:q11):q82:=fun list at_ kind K=>z4a list at_ fun Qa Qz=>Q4 fun Qd=>Lp3 (fun Qg Zq w6s u0d=>Fits Qd->CAt Qd Qg (fun y4=>Cnd (y4.1=kind) (Qb list w6s (4:Int) fun Z3 j06=>Cnd ((0:Int)<Z3) (At Qd Qg fun y7=>At Qd Qg fun y9=>Jm list j06 y9.3 fun Gc w1f=>Sml (Zq++[Attr.mk y7.2 Gc]).length/\InI (Qg+1)/\u0d (Qg+1) (Zq++[Attr.mk y7.2 Gc]) w1f) (InI (Qg+1)/\u0d (Qg+1) Zq j06)) (InI (Qg+1)/\u0d (Qg+1) Zq w6s)) (K (Ctxt.mk kind Qa Zq) w6s)) (0:Int) [] Qz
def q4d:q82:=z94 z9q J0 Ze Us
abbrev q83:Type:=List (Int)->Int->(Subj->Int->Prop)->Prop
def z95(Qb:Zj)(q1j:q82):q83:=fun list at_ K=>Qb list at_ (6:Int) fun Qa Qz=>Jn2 (fun Qd Jc=>Cnd (Qa=1) (K (Subj.mk Jc) Qd) (Cnd (Qa=5) (K (Subj.mk Jc) Qd) (q1j list Qd (ByteArray.mk (Array.mk [117,115,101,114])) fun Qg Zq=>Sml (Jc++[Qg]).length/\K (Subj.mk (Jc++[Qg])) Zq))) fun w34=>Cnd (Qa=1) (q1j list Qz (ByteArray.mk (Array.mk [100,101,118,105,99,101])) fun Qg Zq=>Sml ([]++[Qg]).length/\w34 Zq ([]++[Qg])) (Cnd (Qa=2) (q1j list Qz (ByteArray.mk (Array.mk [100,101,118,105,99,101])) fun Qg Zq=>Sml ([]++[Qg]).length/\w34 Zq ([]++[Qg])) (Cnd (Qa=4) (q1j list Qz (ByteArray.mk (Array.mk [100,101,118,105,99,101])) fun Qg Zq=>Sml ([]++[Qg]).length/\w34 Zq ([]++[Qg])) (w34 Qz [])))
def q84:q83:=z95 Ze q4d
abbrev z13:Type:=List (Int)->Int->Envt->(List (Frc)->Int->Prop)->Prop
def j4f(Qb:Zj):z13:=fun list at_ v K=>Lp3 (fun Qa Qz j3b u2z=>Qb list j3b (3:Int) fun Qd Jc=>Cnd (Qz<Qd) (Qb list Jc (4:Int) fun Qg Zq=>InI ((1:Int)+Qg)/\Jn2 (fun Qf Vq=>Jn4 (fun Qe J2 j3d y1k=>Sml (Qa++[Frc.mk Qe J2 j3d]).length/\InI (Qz+1)/\u2z (Qa++[Frc.mk Qe J2 j3d]) (Qz+1) y1k) fun w9u=>Qb list Vq (4:Int) fun Qm q7v=>Fits v.6->CAt v.6 Qm (fun y7=>Jn2 (fun Qp j04=>At v.6 Qm fun y10=>Qb list j04 (4:Int) fun V9 y8k=>Cnd ((0:Int)<V9) (Fits y10.7->Cnd ((0:Int)<(↑y10.7.length:Int)) (Fits y10.7->Qb list y8k (↑y10.7.length:Int) fun w9r u2f=>At y10.7 w9r fun y16=>w9u Qp y7.1 y16.3 u2f) (w9u Qp y7.1 ((1:Int)+Qg) y8k)) (w9u Qp y7.1 ((1:Int)+Qg) y8k)) fun u0e=>Qb list q7v (4:Int) fun H2 q3l=>Cnd ((0:Int)<H2) (At v.6 Qm fun y11=>u0e y11.2 q3l) (u0e Qf q3l)) (w9u Qf (ByteArray.mk (Array.mk [])) ((1:Int)+Qg) q7v)) fun y1e=>Qb list Zq (3:Int) fun Qe J2=>Cnd (Qe=1) (y1e (ByteArray.mk (Array.mk [108,98])) J2) (y1e (ByteArray.mk (Array.mk [108,97])) J2)) (K Qa Jc)) [] (0:Int) at_
def z14:z13:=j4f Ze
abbrev q21:Type:=List (Int)->List (Int)->(Envt->Subj->List (Frc)->Prop)->Prop
def z3i(w1g:w4w)(q30:Rn)(z4h:q83)(z8l:z13):q21:=fun codes who K=>w1g codes (400:Int) fun Qa Qz=>q30 Qa Qz (10:Int) fun Qd _=>w1g who (80:Int) fun Qg Zq=>z4h Qg Zq fun Qf Vq=>z8l Qg Vq (Envt.mk (Sett.mk Qd.1.1 Qd.1.2 Qd.1.3) Qd.2 Qd.3 Qd.4 Qd.5 Qd.6) fun Qe _=>K (Envt.mk (Sett.mk Qd.1.1 Qd.1.2 Qd.1.3) Qd.2 Qd.3 Qd.4 Qd.5 Qd.6) (Subj.mk Qf.1) Qe
def Bg:q21:=z3i j87 Rp q84 z14
abbrev q0d:Type:=Subj->ByteArray->(Ctxt->Bool->Prop)->Prop
def Rz:q0d:=fun s kind K=>Lp4 (fun Qa Qz j3b (q6s:List Attr) u2g=>Fits s.1->CAt s.1 Qa (fun y2=>Cnd (y2.1=kind) (At s.1 Qa fun y4=>K y4 true) (InI (Qa+1)/\u2g (Qa+1) Qz j3b q6s)) (K (Ctxt.mk (ByteArray.mk (Array.mk [])) (ByteArray.mk (Array.mk [])) []) false)) (0:Int) (ByteArray.mk (Array.mk [])) (ByteArray.mk (Array.mk [])) []
abbrev q92:Type:=List (Frc)->ByteArray->(Frc->Bool->Prop)->Prop
def q5y:q92:=fun l layer K=>Lp4 (fun Qa Qz j3b q6s u2g=>Fits l->CAt l Qa (fun y2=>Cnd (y2.1=layer) (At l Qa fun y4=>K y4 true) (InI (Qa+1)/\u2g (Qa+1) Qz j3b q6s)) (K (Frc.mk (ByteArray.mk (Array.mk [])) (ByteArray.mk (Array.mk [])) (0:Int)) false)) (0:Int) (ByteArray.mk (Array.mk [])) (ByteArray.mk (Array.mk [])) (0:Int)
abbrev Wm:Type:=Envt->ByteArray->(Int->Prop)->Prop
def Ji:Wm:=fun v key K=>Lp1 (fun Qa Bw=>Fits v.6->CAt v.6 Qa (fun y2=>Cnd (y2.1=key) (K Qa) (InI (Qa+1)/\Bw (Qa+1))) (K (-1:Int))) (0:Int)
abbrev q93:Type:=List (Rng)->Int->(Bool->Prop)->Prop
def q5z:q93:=fun l arm K=>Lp1 (fun Qa Bw=>Fits l->CAt l Qa (fun y2=>Cnd (y2.3=arm) (K true) (InI (Qa+1)/\Bw (Qa+1))) (K false)) (0:Int)
abbrev q85:Type:=Envt->List (Frc)->Asg->(Asg->Bool->Prop)->Prop
def z96(z0p:q92)(Zx:Wm)(z0q:q93):q85:=fun v forced a K=>z0p forced a.1 fun Qa Qz=>Cnd (Qz=true) (Cnd (Qa.2=ByteArray.mk (Array.mk [])) (K a Qz) (Zx (Envt.mk (Sett.mk v.1.1 v.1.2 v.1.3) v.2 v.3 v.4 v.5 v.6) Qa.2 fun Qd=>Cnd (Qd<0) (K a false) (At v.6 Qd fun y2=>Cnd (y2.5=2) (At v.6 Qd fun y4=>Cnd (y4.2=a.1) (At v.6 Qd fun y6=>z0q y6.7 Qa.3 fun Uj=>Cnd (Uj=true) (K (Asg.mk a.1 Qa.2 a.3 Qa.3 a.5) true) (K a false)) (K a false)) (K a false)))) (K a Qz)
def q86:q85:=z96 q5y Ji q5z
abbrev z15:Type:=Envt->Subj->(Bool->Prop)->Prop
def j4g(Jz:q0d)(Up:q62):z15:=fun v s K=>Jz (Subj.mk s.1) v.1.2 fun Qa Qz=>Cnd (Qz=true) (Cnd ((0:Int)<v.1.3) (Up v.1.1 Qa.2 fun Qd=>K (decide (Qd<v.1.3))) (K false)) (K false)
def z16:z15:=j4g Rz q2y
abbrev q94:Type:=List (Spn)->Int->(Bool->Prop)->Prop
def q50:q94:=fun l bucket K=>Lp1 (fun Qa Bw=>Fits l->CAt l Qa (fun y2=>Cnd (y2.1<=bucket) (At l Qa fun y4=>Cnd (bucket<y4.2) (K true) (InI (Qa+1)/\Bw (Qa+1))) (InI (Qa+1)/\Bw (Qa+1))) (K false)) (0:Int)
abbrev z17:Type:=List (ByteArray)->List (Edg)->ByteArray->(Bool->Prop)->Prop
def j4h(Qy:Vm):z17:=fun order edges node K=>Lp1 (fun Qa Bw=>Fits edges->CAt edges Qa (fun y2=>Cnd (y2.1=node) (At edges Qa fun y4=>Qy order y4.2 fun Z3=>Cnd (Z3=true) (InI (Qa+1)/\Bw (Qa+1)) (K false)) (InI (Qa+1)/\Bw (Qa+1))) (Qy order node fun Qg=>K (match decide ((Qg,()).1=true) with|true=>false|false=>true))) (0:Int)
def z18:z17:=j4h Wa
abbrev z19:Type:=List (ByteArray)->List (Edg)->(List (ByteArray)->Int->Prop)->Prop
def j4i(Qy:Vm)(z8m:z17):z19:=fun nodes edges K=>Lp1 (fun Qa Bw=>Fits nodes->Cnd (Qa<(↑nodes.length:Int)) (((0:Int)<=(0:Int)/\(0:Int)<=Qa/\Qa<=(↑nodes.length:Int))/\At nodes Qa fun y2=>Qy (List.drop (Int.toNat (0:Int)) (List.take Qa.toNat nodes)) y2 fun Qe=>Cnd (Qe=true) (K [] (10:Int)) (InI (Qa+1)/\Bw (Qa+1))) (Lp1 (fun Qg j05=>Fits edges->CAt edges Qg (fun y4=>Qy nodes y4.1 fun Z3=>Cnd (Z3=true) (At edges Qg fun y7=>Qy nodes y7.2 fun Qp=>Cnd (Qp=true) (InI (Qg+1)/\j05 (Qg+1)) (K [] (11:Int))) (K [] (11:Int))) (Lp1 (fun Qe w6t=>Fits Qe->Fits nodes->Cnd ((↑Qe.length:Int)<(↑nodes.length:Int)) (Lp4 (fun Qw z8x v64 v2t y8q=>Fits nodes->CAt nodes v64 (fun y9=>z8m v2t edges y9 fun Gc=>Cnd (Gc=true) (Cnd (z8x=true) (At nodes v64 fun y12=>Cnd (Lk.blt y12 Qw) (At nodes v64 fun y14=>InI (v64+1)/\y8q y14 true (v64+1) v2t) (InI (v64+1)/\y8q Qw z8x (v64+1) v2t)) (At nodes v64 fun y12=>InI (v64+1)/\y8q y12 true (v64+1) v2t)) (InI (v64+1)/\y8q Qw z8x (v64+1) v2t)) (Cnd (z8x=true) (Sml ([]++v2t).length/\Sml ([]++v2t++[Qw]).length/\w6t ([]++v2t++[Qw])) (K [] (12:Int)))) (ByteArray.mk (Array.mk [])) false (0:Int) Qe) (K Qe (0:Int))) [])) (0:Int))) (0:Int)
def z2a:z19:=j4i Wa z18
abbrev q87:Type:=List (Seg)->(List (ByteArray)->Int->Prop)->Prop
def z97(Z9:Ho)(Gy:q04)(z8n:z19):q87:=fun l K=>Z9 l fun Qa=>Gy l fun Qd=>z8n Qa Qd fun Qg Zq=>K Qg Zq
def q88:q87:=z97 Hp Gj z2a
abbrev q89:Type:=Subj->ByteArray->ByteArray->(Val->Bool->Prop)->Prop
def z98(Jz:q0d):q89:=fun s kind name K=>Jz (Subj.mk s.1) kind fun Qa Qz=>Cnd (Qz=true) (Cnd (name=ByteArray.mk (Array.mk [107,101,121])) (K (Val.mk (3:Int) (0:Int) Qa.2 []) true) (Lp5 (fun Qd Jc j29 j5r (y8m:List ByteArray) u0f=>Fits Qa.3->CAt Qa.3 Qd (fun y3=>Cnd (y3.1=name) (At Qa.3 Qd fun y5=>K (Val.mk y5.2.1 y5.2.2 y5.2.3 y5.2.4) true) (InI (Qd+1)/\u0f (Qd+1) Jc j29 j5r y8m)) (K (Val.mk (0:Int) (0:Int) (ByteArray.mk (Array.mk [])) []) false)) (0:Int) (0:Int) (0:Int) (ByteArray.mk (Array.mk [])) [])) (K (Val.mk (0:Int) (0:Int) (ByteArray.mk (Array.mk [])) []) false)
def q9a:q89:=z98 Rz
abbrev q1q:Type:=ByteArray->ByteArray->Int->(Bool->Prop)->Prop
def R0:q1q:=fun s t i K=>Cnd ((0:Int)<=i) (InI (i+(↑t.size:Int))/\Cnd (i+(↑t.size:Int)<=(↑s.size:Int)) (InI (i+(↑t.size:Int))/\((0:Int)<=i/\i<=i+(↑t.size:Int)/\i+(↑t.size:Int)<=(↑s.size:Int))/\K (decide (s.extract i.toNat (i+(↑t.size:Int)).toNat=t))) (K false)) (K false)
abbrev q0e:Type:=Val->Val->(Bool->Prop)->Prop
def z00(Qy:Vm)(Vb:q1q):q0e:=fun v w K=>Cnd (w.1=3) (Cnd (v.1=5) (Qy v.4 w.3 fun Qa=>K Qa) (Lp1 (fun Qa Bw=>Cnd (v.1=3) (InI (Qa+(↑w.3.size:Int))/\Cnd (Qa+(↑w.3.size:Int)<=(↑v.3.size:Int)) (Vb v.3 w.3 Qa fun Qd=>Cnd (Qd=true) (K true) (InI (Qa+1)/\Bw (Qa+1))) (K false)) (K false)) (0:Int))) (K false)
def q0f:q0e:=z00 Wa R0
abbrev j10:Type:=Bool->Bool->(Int->Prop)->Prop
def q9b:j10:=fun less greater K=>Cnd (less=true) (K (-1:Int)) (Cnd (greater=true) (K (1:Int)) (K (0:Int)))
abbrev q51:Type:=Val->Val->(Int->Int->Prop)->Prop
def z5z(Zy:Bc)(Qc:j10)(Hr:q35):q51:=fun a b K=>Zy a fun Qa=>Cnd (Qa=0) (Zy b fun Qd=>Cnd (Qd=0) (Cnd (a.1=b.1) (Cnd (a.1=1) (K (0:Int) (8:Int)) (Cnd (a.1=5) (K (0:Int) (8:Int)) (Cnd (a.1=2) (Qc (decide (a.2<b.2)) (decide (b.2<a.2)) fun Qg=>K Qg (0:Int)) (Cnd (a.1=3) (Qc (decide (Lk.blt a.3 b.3)) (decide (Lk.blt b.3 a.3)) fun Qg=>K Qg (0:Int)) (Hr a.3 fun (Qg:Int×Int×Int) _=>Hr b.3 fun (Qf:Int×Int×Int) _=>Lp1 (fun Qe w6t=>Cnd (Qe<3) (((0:Int)<=Qe/\Qe<(↑(3:Nat):Int))/\((True/\(Qe=(↑(nat_lit 0):Int)->((0:Int)<=Qe/\Qe<(↑(3:Nat):Int))/\((True/\(Qe=(↑(nat_lit 0):Int)->Cnd (Qg.1=Qf.1) (InI (Qe+1)/\w6t (Qe+1)) (((0:Int)<=Qe/\Qe<(↑(3:Nat):Int))/\((True/\(Qe=(↑(nat_lit 0):Int)->((0:Int)<=Qe/\Qe<(↑(3:Nat):Int))/\((True/\(Qe=(↑(nat_lit 0):Int)->Qc (decide (Qg.1<Qf.1)) true fun Qp=>K Qp (0:Int)))/\(Qe=(↑(nat_lit 1):Int)->Qc (decide (Qg.1<Qf.2.1)) true fun Qp=>K Qp (0:Int)))/\(Qe=(↑(nat_lit 2):Int)->Qc (decide (Qg.1<Qf.2.2)) true fun Qp=>K Qp (0:Int))))/\(Qe=(↑(nat_lit 1):Int)->((0:Int)<=Qe/\Qe<(↑(3:Nat):Int))/\((True/\(Qe=(↑(nat_lit 0):Int)->Qc (decide (Qg.2.1<Qf.1)) true fun Qp=>K Qp (0:Int)))/\(Qe=(↑(nat_lit 1):Int)->Qc (decide (Qg.2.1<Qf.2.1)) true fun Qp=>K Qp (0:Int)))/\(Qe=(↑(nat_lit 2):Int)->Qc (decide (Qg.2.1<Qf.2.2)) true fun Qp=>K Qp (0:Int))))/\(Qe=(↑(nat_lit 2):Int)->((0:Int)<=Qe/\Qe<(↑(3:Nat):Int))/\((True/\(Qe=(↑(nat_lit 0):Int)->Qc (decide (Qg.2.2<Qf.1)) true fun Qp=>K Qp (0:Int)))/\(Qe=(↑(nat_lit 1):Int)->Qc (decide (Qg.2.2<Qf.2.1)) true fun Qp=>K Qp (0:Int)))/\(Qe=(↑(nat_lit 2):Int)->Qc (decide (Qg.2.2<Qf.2.2)) true fun Qp=>K Qp (0:Int))))))/\(Qe=(↑(nat_lit 1):Int)->Cnd (Qg.1=Qf.2.1) (InI (Qe+1)/\w6t (Qe+1)) (((0:Int)<=Qe/\Qe<(↑(3:Nat):Int))/\((True/\(Qe=(↑(nat_lit 0):Int)->((0:Int)<=Qe/\Qe<(↑(3:Nat):Int))/\((True/\(Qe=(↑(nat_lit 0):Int)->Qc (decide (Qg.1<Qf.1)) true fun Qp=>K Qp (0:Int)))/\(Qe=(↑(nat_lit 1):Int)->Qc (decide (Qg.1<Qf.2.1)) true fun Qp=>K Qp (0:Int)))/\(Qe=(↑(nat_lit 2):Int)->Qc (decide (Qg.1<Qf.2.2)) true fun Qp=>K Qp (0:Int))))/\(Qe=(↑(nat_lit 1):Int)->((0:Int)<=Qe/\Qe<(↑(3:Nat):Int))/\((True/\(Qe=(↑(nat_lit 0):Int)->Qc (decide (Qg.2.1<Qf.1)) true fun Qp=>K Qp (0:Int)))/\(Qe=(↑(nat_lit 1):Int)->Qc (decide (Qg.2.1<Qf.2.1)) true fun Qp=>K Qp (0:Int)))/\(Qe=(↑(nat_lit 2):Int)->Qc (decide (Qg.2.1<Qf.2.2)) true fun Qp=>K Qp (0:Int))))/\(Qe=(↑(nat_lit 2):Int)->((0:Int)<=Qe/\Qe<(↑(3:Nat):Int))/\((True/\(Qe=(↑(nat_lit 0):Int)->Qc (decide (Qg.2.2<Qf.1)) true fun Qp=>K Qp (0:Int)))/\(Qe=(↑(nat_lit 1):Int)->Qc (decide (Qg.2.2<Qf.2.1)) true fun Qp=>K Qp (0:Int)))/\(Qe=(↑(nat_lit 2):Int)->Qc (decide (Qg.2.2<Qf.2.2)) true fun Qp=>K Qp (0:Int))))))/\(Qe=(↑(nat_lit 2):Int)->Cnd (Qg.1=Qf.2.2) (InI (Qe+1)/\w6t (Qe+1)) (((0:Int)<=Qe/\Qe<(↑(3:Nat):Int))/\((True/\(Qe=(↑(nat_lit 0):Int)->((0:Int)<=Qe/\Qe<(↑(3:Nat):Int))/\((True/\(Qe=(↑(nat_lit 0):Int)->Qc (decide (Qg.1<Qf.1)) true fun Qp=>K Qp (0:Int)))/\(Qe=(↑(nat_lit 1):Int)->Qc (decide (Qg.1<Qf.2.1)) true fun Qp=>K Qp (0:Int)))/\(Qe=(↑(nat_lit 2):Int)->Qc (decide (Qg.1<Qf.2.2)) true fun Qp=>K Qp (0:Int))))/\(Qe=(↑(nat_lit 1):Int)->((0:Int)<=Qe/\Qe<(↑(3:Nat):Int))/\((True/\(Qe=(↑(nat_lit 0):Int)->Qc (decide (Qg.2.1<Qf.1)) true fun Qp=>K Qp (0:Int)))/\(Qe=(↑(nat_lit 1):Int)->Qc (decide (Qg.2.1<Qf.2.1)) true fun Qp=>K Qp (0:Int)))/\(Qe=(↑(nat_lit 2):Int)->Qc (decide (Qg.2.1<Qf.2.2)) true fun Qp=>K Qp (0:Int))))/\(Qe=(↑(nat_lit 2):Int)->((0:Int)<=Qe/\Qe<(↑(3:Nat):Int))/\((True/\(Qe=(↑(nat_lit 0):Int)->Qc (decide (Qg.2.2<Qf.1)) true fun Qp=>K Qp (0:Int)))/\(Qe=(↑(nat_lit 1):Int)->Qc (decide (Qg.2.2<Qf.2.1)) true fun Qp=>K Qp (0:Int)))/\(Qe=(↑(nat_lit 2):Int)->Qc (decide (Qg.2.2<Qf.2.2)) true fun Qp=>K Qp (0:Int)))))))/\(Qe=(↑(nat_lit 1):Int)->((0:Int)<=Qe/\Qe<(↑(3:Nat):Int))/\((True/\(Qe=(↑(nat_lit 0):Int)->Cnd (Qg.2.1=Qf.1) (InI (Qe+1)/\w6t (Qe+1)) (((0:Int)<=Qe/\Qe<(↑(3:Nat):Int))/\((True/\(Qe=(↑(nat_lit 0):Int)->((0:Int)<=Qe/\Qe<(↑(3:Nat):Int))/\((True/\(Qe=(↑(nat_lit 0):Int)->Qc (decide (Qg.1<Qf.1)) true fun Qp=>K Qp (0:Int)))/\(Qe=(↑(nat_lit 1):Int)->Qc (decide (Qg.1<Qf.2.1)) true fun Qp=>K Qp (0:Int)))/\(Qe=(↑(nat_lit 2):Int)->Qc (decide (Qg.1<Qf.2.2)) true fun Qp=>K Qp (0:Int))))/\(Qe=(↑(nat_lit 1):Int)->((0:Int)<=Qe/\Qe<(↑(3:Nat):Int))/\((True/\(Qe=(↑(nat_lit 0):Int)->Qc (decide (Qg.2.1<Qf.1)) true fun Qp=>K Qp (0:Int)))/\(Qe=(↑(nat_lit 1):Int)->Qc (decide (Qg.2.1<Qf.2.1)) true fun Qp=>K Qp (0:Int)))/\(Qe=(↑(nat_lit 2):Int)->Qc (decide (Qg.2.1<Qf.2.2)) true fun Qp=>K Qp (0:Int))))/\(Qe=(↑(nat_lit 2):Int)->((0:Int)<=Qe/\Qe<(↑(3:Nat):Int))/\((True/\(Qe=(↑(nat_lit 0):Int)->Qc (decide (Qg.2.2<Qf.1)) true fun Qp=>K Qp (0:Int)))/\(Qe=(↑(nat_lit 1):Int)->Qc (decide (Qg.2.2<Qf.2.1)) true fun Qp=>K Qp (0:Int)))/\(Qe=(↑(nat_lit 2):Int)->Qc (decide (Qg.2.2<Qf.2.2)) true fun Qp=>K Qp (0:Int))))))/\(Qe=(↑(nat_lit 1):Int)->Cnd (Qg.2.1=Qf.2.1) (InI (Qe+1)/\w6t (Qe+1)) (((0:Int)<=Qe/\Qe<(↑(3:Nat):Int))/\((True/\(Qe=(↑(nat_lit 0):Int)->((0:Int)<=Qe/\Qe<(↑(3:Nat):Int))/\((True/\(Qe=(↑(nat_lit 0):Int)->Qc (decide (Qg.1<Qf.1)) true fun Qp=>K Qp (0:Int)))/\(Qe=(↑(nat_lit 1):Int)->Qc (decide (Qg.1<Qf.2.1)) true fun Qp=>K Qp (0:Int)))/\(Qe=(↑(nat_lit 2):Int)->Qc (decide (Qg.1<Qf.2.2)) true fun Qp=>K Qp (0:Int))))/\(Qe=(↑(nat_lit 1):Int)->((0:Int)<=Qe/\Qe<(↑(3:Nat):Int))/\((True/\(Qe=(↑(nat_lit 0):Int)->Qc (decide (Qg.2.1<Qf.1)) true fun Qp=>K Qp (0:Int)))/\(Qe=(↑(nat_lit 1):Int)->Qc (decide (Qg.2.1<Qf.2.1)) true fun Qp=>K Qp (0:Int)))/\(Qe=(↑(nat_lit 2):Int)->Qc (decide (Qg.2.1<Qf.2.2)) true fun Qp=>K Qp (0:Int))))/\(Qe=(↑(nat_lit 2):Int)->((0:Int)<=Qe/\Qe<(↑(3:Nat):Int))/\((True/\(Qe=(↑(nat_lit 0):Int)->Qc (decide (Qg.2.2<Qf.1)) true fun Qp=>K Qp (0:Int)))/\(Qe=(↑(nat_lit 1):Int)->Qc (decide (Qg.2.2<Qf.2.1)) true fun Qp=>K Qp (0:Int)))/\(Qe=(↑(nat_lit 2):Int)->Qc (decide (Qg.2.2<Qf.2.2)) true fun Qp=>K Qp (0:Int))))))/\(Qe=(↑(nat_lit 2):Int)->Cnd (Qg.2.1=Qf.2.2) (InI (Qe+1)/\w6t (Qe+1)) (((0:Int)<=Qe/\Qe<(↑(3:Nat):Int))/\((True/\(Qe=(↑(nat_lit 0):Int)->((0:Int)<=Qe/\Qe<(↑(3:Nat):Int))/\((True/\(Qe=(↑(nat_lit 0):Int)->Qc (decide (Qg.1<Qf.1)) true fun Qp=>K Qp (0:Int)))/\(Qe=(↑(nat_lit 1):Int)->Qc (decide (Qg.1<Qf.2.1)) true fun Qp=>K Qp (0:Int)))/\(Qe=(↑(nat_lit 2):Int)->Qc (decide (Qg.1<Qf.2.2)) true fun Qp=>K Qp (0:Int))))/\(Qe=(↑(nat_lit 1):Int)->((0:Int)<=Qe/\Qe<(↑(3:Nat):Int))/\((True/\(Qe=(↑(nat_lit 0):Int)->Qc (decide (Qg.2.1<Qf.1)) true fun Qp=>K Qp (0:Int)))/\(Qe=(↑(nat_lit 1):Int)->Qc (decide (Qg.2.1<Qf.2.1)) true fun Qp=>K Qp (0:Int)))/\(Qe=(↑(nat_lit 2):Int)->Qc (decide (Qg.2.1<Qf.2.2)) true fun Qp=>K Qp (0:Int))))/\(Qe=(↑(nat_lit 2):Int)->((0:Int)<=Qe/\Qe<(↑(3:Nat):Int))/\((True/\(Qe=(↑(nat_lit 0):Int)->Qc (decide (Qg.2.2<Qf.1)) true fun Qp=>K Qp (0:Int)))/\(Qe=(↑(nat_lit 1):Int)->Qc (decide (Qg.2.2<Qf.2.1)) true fun Qp=>K Qp (0:Int)))/\(Qe=(↑(nat_lit 2):Int)->Qc (decide (Qg.2.2<Qf.2.2)) true fun Qp=>K Qp (0:Int)))))))/\(Qe=(↑(nat_lit 2):Int)->((0:Int)<=Qe/\Qe<(↑(3:Nat):Int))/\((True/\(Qe=(↑(nat_lit 0):Int)->Cnd (Qg.2.2=Qf.1) (InI (Qe+1)/\w6t (Qe+1)) (((0:Int)<=Qe/\Qe<(↑(3:Nat):Int))/\((True/\(Qe=(↑(nat_lit 0):Int)->((0:Int)<=Qe/\Qe<(↑(3:Nat):Int))/\((True/\(Qe=(↑(nat_lit 0):Int)->Qc (decide (Qg.1<Qf.1)) true fun Qp=>K Qp (0:Int)))/\(Qe=(↑(nat_lit 1):Int)->Qc (decide (Qg.1<Qf.2.1)) true fun Qp=>K Qp (0:Int)))/\(Qe=(↑(nat_lit 2):Int)->Qc (decide (Qg.1<Qf.2.2)) true fun Qp=>K Qp (0:Int))))/\(Qe=(↑(nat_lit 1):Int)->((0:Int)<=Qe/\Qe<(↑(3:Nat):Int))/\((True/\(Qe=(↑(nat_lit 0):Int)->Qc (decide (Qg.2.1<Qf.1)) true fun Qp=>K Qp (0:Int)))/\(Qe=(↑(nat_lit 1):Int)->Qc (decide (Qg.2.1<Qf.2.1)) true fun Qp=>K Qp (0:Int)))/\(Qe=(↑(nat_lit 2):Int)->Qc (decide (Qg.2.1<Qf.2.2)) true fun Qp=>K Qp (0:Int))))/\(Qe=(↑(nat_lit 2):Int)->((0:Int)<=Qe/\Qe<(↑(3:Nat):Int))/\((True/\(Qe=(↑(nat_lit 0):Int)->Qc (decide (Qg.2.2<Qf.1)) true fun Qp=>K Qp (0:Int)))/\(Qe=(↑(nat_lit 1):Int)->Qc (decide (Qg.2.2<Qf.2.1)) true fun Qp=>K Qp (0:Int)))/\(Qe=(↑(nat_lit 2):Int)->Qc (decide (Qg.2.2<Qf.2.2)) true fun Qp=>K Qp (0:Int))))))/\(Qe=(↑(nat_lit 1):Int)->Cnd (Qg.2.2=Qf.2.1) (InI (Qe+1)/\w6t (Qe+1)) (((0:Int)<=Qe/\Qe<(↑(3:Nat):Int))/\((True/\(Qe=(↑(nat_lit 0):Int)->((0:Int)<=Qe/\Qe<(↑(3:Nat):Int))/\((True/\(Qe=(↑(nat_lit 0):Int)->Qc (decide (Qg.1<Qf.1)) true fun Qp=>K Qp (0:Int)))/\(Qe=(↑(nat_lit 1):Int)->Qc (decide (Qg.1<Qf.2.1)) true fun Qp=>K Qp (0:Int)))/\(Qe=(↑(nat_lit 2):Int)->Qc (decide (Qg.1<Qf.2.2)) true fun Qp=>K Qp (0:Int))))/\(Qe=(↑(nat_lit 1):Int)->((0:Int)<=Qe/\Qe<(↑(3:Nat):Int))/\((True/\(Qe=(↑(nat_lit 0):Int)->Qc (decide (Qg.2.1<Qf.1)) true fun Qp=>K Qp (0:Int)))/\(Qe=(↑(nat_lit 1):Int)->Qc (decide (Qg.2.1<Qf.2.1)) true fun Qp=>K Qp (0:Int)))/\(Qe=(↑(nat_lit 2):Int)->Qc (decide (Qg.2.1<Qf.2.2)) true fun Qp=>K Qp (0:Int))))/\(Qe=(↑(nat_lit 2):Int)->((0:Int)<=Qe/\Qe<(↑(3:Nat):Int))/\((True/\(Qe=(↑(nat_lit 0):Int)->Qc (decide (Qg.2.2<Qf.1)) true fun Qp=>K Qp (0:Int)))/\(Qe=(↑(nat_lit 1):Int)->Qc (decide (Qg.2.2<Qf.2.1)) true fun Qp=>K Qp (0:Int)))/\(Qe=(↑(nat_lit 2):Int)->Qc (decide (Qg.2.2<Qf.2.2)) true fun Qp=>K Qp (0:Int))))))/\(Qe=(↑(nat_lit 2):Int)->Cnd (Qg.2.2=Qf.2.2) (InI (Qe+1)/\w6t (Qe+1)) (((0:Int)<=Qe/\Qe<(↑(3:Nat):Int))/\((True/\(Qe=(↑(nat_lit 0):Int)->((0:Int)<=Qe/\Qe<(↑(3:Nat):Int))/\((True/\(Qe=(↑(nat_lit 0):Int)->Qc (decide (Qg.1<Qf.1)) true fun Qp=>K Qp (0:Int)))/\(Qe=(↑(nat_lit 1):Int)->Qc (decide (Qg.1<Qf.2.1)) true fun Qp=>K Qp (0:Int)))/\(Qe=(↑(nat_lit 2):Int)->Qc (decide (Qg.1<Qf.2.2)) true fun Qp=>K Qp (0:Int))))/\(Qe=(↑(nat_lit 1):Int)->((0:Int)<=Qe/\Qe<(↑(3:Nat):Int))/\((True/\(Qe=(↑(nat_lit 0):Int)->Qc (decide (Qg.2.1<Qf.1)) true fun Qp=>K Qp (0:Int)))/\(Qe=(↑(nat_lit 1):Int)->Qc (decide (Qg.2.1<Qf.2.1)) true fun Qp=>K Qp (0:Int)))/\(Qe=(↑(nat_lit 2):Int)->Qc (decide (Qg.2.1<Qf.2.2)) true fun Qp=>K Qp (0:Int))))/\(Qe=(↑(nat_lit 2):Int)->((0:Int)<=Qe/\Qe<(↑(3:Nat):Int))/\((True/\(Qe=(↑(nat_lit 0):Int)->Qc (decide (Qg.2.2<Qf.1)) true fun Qp=>K Qp (0:Int)))/\(Qe=(↑(nat_lit 1):Int)->Qc (decide (Qg.2.2<Qf.2.1)) true fun Qp=>K Qp (0:Int)))/\(Qe=(↑(nat_lit 2):Int)->Qc (decide (Qg.2.2<Qf.2.2)) true fun Qp=>K Qp (0:Int))))))) (K (0:Int) (0:Int))) (0:Int)))))) (K (0:Int) (8:Int))) (K (0:Int) Qd)) (K (0:Int) Qa)
def q1r:q51:=z5z Uy q9b Bb
abbrev z2b:Type:=Subj->Ex->(Bool->Prop)->Prop
def j4j(z4i:q89)(Qv:Wo)(Gd:q32)(Vb:q1q)(q0o:q0e)(q6a:q51):z2b:=fun s e K=>z4i (Subj.mk s.1) e.2 e.3 fun Qa Qz=>Cnd (Qz=true) (Qv e.1 fun Qd=>Cnd (Qd=true) (Cnd (e.1=6) (K true) (Cnd (e.1=8) (Lp1 (fun Qg j05=>Fits e.4->CAt e.4 Qg (fun y4=>Gd Qa y4 fun Z3=>Cnd (Z3=true) (K true) (InI (Qg+1)/\j05 (Qg+1))) (K false)) (0:Int)) (Fits e.4->Cnd ((↑e.4.length:Int)=0) (K false) (((0:Int)<=(0:Int)/\(0:Int)<(↑e.4.length:Int))/\ ∀y3,e.4[Int.toNat (0:Int)]? =some y3->Cnd (Qa.1=3) (Cnd (e.1=7) (Gd Qa y3 fun Qm=>K Qm) (Cnd (e.1=9) (Cnd (y3.1=3) (Vb Qa.3 y3.3 (0:Int) fun Qm=>K Qm) (K false)) (Cnd (e.1=10) (Cnd (y3.1=3) (InI ((↑Qa.3.size:Int) - (↑y3.3.size:Int))/\Vb Qa.3 y3.3 ((↑Qa.3.size:Int) - (↑y3.3.size:Int)) fun Qm=>K Qm) (K false)) (Cnd (e.1=11) (q0o Qa y3 fun Qm=>K Qm) (q6a Qa y3 fun Qm q7v=>Cnd (q7v=0) (Cnd (e.1=12) (K (decide (Qm<0))) (Cnd (e.1=13) (K (decide (Qm<=0))) (Cnd (e.1=14) (K (decide ((0:Int)<Qm))) (K (decide ((0:Int)<=Qm)))))) (K false)))))) (Cnd (e.1=7) (Gd Qa y3 fun Qm=>K Qm) (Cnd (e.1=9) (K false) (Cnd (e.1=10) (K false) (Cnd (e.1=11) (q0o Qa y3 fun Qm=>K Qm) (q6a Qa y3 fun Qm q7v=>Cnd (q7v=0) (Cnd (e.1=12) (K (decide (Qm<0))) (Cnd (e.1=13) (K (decide (Qm<=0))) (Cnd (e.1=14) (K (decide ((0:Int)<Qm))) (K (decide ((0:Int)<=Qm)))))) (K false)))))))))) (K false)) (K false)
def q7s:z2b:=j4j q9a Jf q1l R0 q0f q1r
abbrev Hq:Type:=Subj->List (ByteArray)->Ex->(Bool->Prop)->Prop
def j4k(Qy:Vm)(z8o:z2b)(X:Hq):Hq:=fun s in_ e K=>Cnd (e.1=1) (K true) (Cnd (e.1=2) (Lp1 (fun Qa Bw=>Fits e.5->CAt e.5 Qa (fun y2=>X (Subj.mk s.1) in_ (Ex.mk y2.1 y2.2 y2.3 y2.4 y2.5) fun Qe=>Cnd (Qe=true) (InI (Qa+1)/\Bw (Qa+1)) (K false)) (K true)) (0:Int)) (Cnd (e.1=3) (Lp1 (fun Qa Bw=>Fits e.5->CAt e.5 Qa (fun y2=>X (Subj.mk s.1) in_ (Ex.mk y2.1 y2.2 y2.3 y2.4 y2.5) fun Qe=>Cnd (Qe=true) (K true) (InI (Qa+1)/\Bw (Qa+1))) (K false)) (0:Int)) (Cnd (e.1=4) (Fits e.5->Cnd ((0:Int)<(↑e.5.length:Int)) (((0:Int)<=(0:Int)/\(0:Int)<(↑e.5.length:Int))/\ ∀y1,e.5[Int.toNat (0:Int)]? =some y1->X (Subj.mk s.1) in_ (Ex.mk y1.1 y1.2 y1.3 y1.4 y1.5) fun Qf=>K (match decide ((Qf,()).1=true) with|true=>false|false=>true)) (K false)) (Cnd (e.1=5) (Qy in_ e.3 fun Qa=>K Qa) (z8o (Subj.mk s.1) (Ex.mk e.1 e.2 e.3 e.4 e.5) fun Qa=>K Qa)))))
def q4e:Hq:=fun s in_ e K=> ∀X:Hq,(∀s in_ e K,j4k Wa q7s X s in_ e K->X s in_ e K)->X s in_ e K
abbrev q52:Type:=Seg->Subj->List (ByteArray)->(Bool->Prop)->Prop
def z50(Jz:q0d)(Qy:Vm)(Bu:Hq):q52:=fun g s in_ K=>Jz (Subj.mk s.1) g.2 fun Qa Qz=>Cnd (Qz=true) (Qy g.4 Qa.2 fun Qd=>Cnd (Qd=true) (K false) (Qy g.3 Qa.2 fun Qg=>Cnd (Qg=true) (K true) (Cnd (g.5.1=0) (K false) (Bu (Subj.mk s.1) in_ (Ex.mk g.5.1 g.5.2 g.5.3 g.5.4 g.5.5) fun Qf=>K Qf)))) (K false)
def q53:q52:=z50 Rz Wa q4e
abbrev q22:Type:=List (Seg)->Subj->(List (ByteArray)->Prop)->Prop
def z3j(z4j:q87)(z0r:q52)(W0:q4x):q22:=fun l s K=>z4j l fun Qa _=>Lp2 (fun Qd Jc z7b=>Fits Qa->Cnd (Jc<(↑Qa.length:Int)) (Lp2 (fun Qf Vq j7b=>Fits l->CAt l Vq (fun y5=>At Qa Jc fun y7=>Cnd (y5.1=y7) (At l Vq fun y9=>z0r (Seg.mk y9.1 y9.2 y9.3 y9.4 (Ex.mk y9.5.1 y9.5.2 y9.5.3 y9.5.4 y9.5.5)) (Subj.mk s.1) Qf fun Gc=>Cnd (Gc=true) (At Qa Jc fun y12=>W0 Qf y12 fun Ws=>InI (Vq+1)/\j7b Ws (Vq+1)) (InI (Vq+1)/\j7b Qf (Vq+1))) (InI (Vq+1)/\j7b Qf (Vq+1))) (InI (Jc+1)/\z7b Qf (Jc+1))) Qd (0:Int)) (K Qd)) [] (0:Int)
def q23:q22:=z3j q88 q53 q0s
abbrev q0g:Type:=Envt->Subj->ByteArray->(Bool->Prop)->Prop
def z01(Zx:Wm)(q7m:q22)(Bu:Hq):q0g:=fun v s experiment K=>Zx (Envt.mk (Sett.mk v.1.1 v.1.2 v.1.3) v.2 v.3 v.4 v.5 v.6) experiment fun Qa=>Cnd ((0:Int)<=Qa) (At v.6 Qa fun y1=>q7m v.3 (Subj.mk s.1) fun Qf=>Bu (Subj.mk s.1) Qf (Ex.mk y1.8.1 y1.8.2 y1.8.3 y1.8.4 y1.8.5) fun Qe=>K Qe) (K false)
def q0h:q0g:=z01 Ji q23 q4e
abbrev z7y:Type:=List (Rng)->Int->(Int->Prop)->Prop
def z2c:z7y:=fun l bucket K=>Lp1 (fun Qa Bw=>Fits l->CAt l Qa (fun y2=>Cnd (y2.1<=bucket) (At l Qa fun y4=>Cnd (bucket<y4.2) (At l Qa fun y6=>K y6.3) (InI (Qa+1)/\Bw (Qa+1))) (InI (Qa+1)/\Bw (Qa+1))) (K (0:Int))) (0:Int)
abbrev q1a:Type:=Envt->Subj->List (Frc)->ByteArray->(Asg->Int->Prop)->Prop
def z99(Q7:J9)(Jz:q0d)(z4k:q85)(z8p:z15)(q6b:q94)(q0p:q0g)(Up:q62)(z2l:z7y):q1a:=fun v s forced key K=>Q7 (Envt.mk (Sett.mk v.1.1 v.1.2 v.1.3) v.2 v.3 v.4 v.5 v.6) key fun Qa=>Cnd (Qa<0) (K (Asg.mk (ByteArray.mk (Array.mk [])) (ByteArray.mk (Array.mk [])) (0:Int) (0:Int) false) (11:Int)) (At v.5 Qa fun y1=>Jz (Subj.mk s.1) y1.2 fun Qf Vq=>Jn1 (fun Qe=>z4k (Envt.mk (Sett.mk v.1.1 v.1.2 v.1.3) v.2 v.3 v.4 v.5 v.6) forced (Asg.mk key (ByteArray.mk (Array.mk [])) Qe (0:Int) false) fun Qm q7v=>Cnd (q7v=true) (K Qm (0:Int)) (z8p (Envt.mk (Sett.mk v.1.1 v.1.2 v.1.3) v.2 v.3 v.4 v.5 v.6) (Subj.mk s.1) fun Z3=>Cnd (Z3=true) (K (Asg.mk key (ByteArray.mk (Array.mk [])) Qe (0:Int) true) (0:Int)) (Cnd (Vq=true) (Cnd (Qe<y1.4) (K (Asg.mk key (ByteArray.mk (Array.mk [])) Qe (0:Int) true) (0:Int)) (LpH (fun (Qw:Int×ByteArray×ByteArray×Int×Int×Bool×ByteArray×ByteArray×Int×Int×Bool×Unit) (v2u:Int×ByteArray×ByteArray×Int×Int×Bool×ByteArray×ByteArray×Int×Int×Bool×Unit->Prop)=>Fits v.6->Cnd (Qw.1<(↑v.6.length:Int)) (Cnd (Vq=true) (At v.6 Qw.1 fun y9=>Cnd (y9.2=key) (Cnd (y9.5=2) (q6b y9.6 Qw.2.2.2.1 fun Gc=>Cnd (Gc=true) (q0p (Envt.mk (Sett.mk v.1.1 v.1.2 v.1.3) v.2 v.3 v.4 v.5 v.6) (Subj.mk s.1) y9.1 fun V9=>Cnd (V9=true) (Up y9.4 Qf.2 fun Za=>z2l y9.7 Za fun Ws=>K (Asg.mk Qw.2.1 y9.1 Qw.2.2.2.1 Ws Qw.2.2.2.2.2.1) (0:Int)) (InI (Qw.1+1)/\v2u (Qw.1+1,Qw.2.1,Qw.2.2.1,Qw.2.2.2.1,Qw.2.2.2.2.1,Qw.2.2.2.2.2.1,Qw.2.2.2.2.2.2.1,Qw.2.2.2.2.2.2.2.1,Qw.2.2.2.2.2.2.2.2.1,Qw.2.2.2.2.2.2.2.2.2.1,Qw.2.2.2.2.2.2.2.2.2.2.1,()))) (InI (Qw.1+1)/\v2u (Qw.1+1,Qw.2.1,Qw.2.2.1,Qw.2.2.2.1,Qw.2.2.2.2.1,Qw.2.2.2.2.2.1,Qw.2.2.2.2.2.2.1,Qw.2.2.2.2.2.2.2.1,Qw.2.2.2.2.2.2.2.2.1,Qw.2.2.2.2.2.2.2.2.2.1,Qw.2.2.2.2.2.2.2.2.2.2.1,()))) (InI (Qw.1+1)/\v2u (Qw.1+1,Qw.2.1,Qw.2.2.1,Qw.2.2.2.1,Qw.2.2.2.2.1,Qw.2.2.2.2.2.1,Qw.2.2.2.2.2.2.1,Qw.2.2.2.2.2.2.2.1,Qw.2.2.2.2.2.2.2.2.1,Qw.2.2.2.2.2.2.2.2.2.1,Qw.2.2.2.2.2.2.2.2.2.2.1,()))) (InI (Qw.1+1)/\v2u (Qw.1+1,Qw.2.1,Qw.2.2.1,Qw.2.2.2.1,Qw.2.2.2.2.1,Qw.2.2.2.2.2.1,Qw.2.2.2.2.2.2.1,Qw.2.2.2.2.2.2.2.1,Qw.2.2.2.2.2.2.2.2.1,Qw.2.2.2.2.2.2.2.2.2.1,Qw.2.2.2.2.2.2.2.2.2.2.1,()))) (K (Asg.mk Qw.2.1 Qw.2.2.1 Qw.2.2.2.1 Qw.2.2.2.2.1 Qw.2.2.2.2.2.1) (0:Int))) (K (Asg.mk Qw.2.1 Qw.2.2.1 Qw.2.2.2.1 Qw.2.2.2.2.1 Qw.2.2.2.2.2.1) (0:Int))) ((0:Int),key,ByteArray.mk (Array.mk []),Qe,(0:Int),false,ByteArray.mk (Array.mk []),ByteArray.mk (Array.mk []),(0:Int),(0:Int),false,()))) (LpH (fun (Qw:Int×ByteArray×ByteArray×Int×Int×Bool×ByteArray×ByteArray×Int×Int×Bool×Unit) (v2u:Int×ByteArray×ByteArray×Int×Int×Bool×ByteArray×ByteArray×Int×Int×Bool×Unit->Prop)=>Fits v.6->Cnd (Qw.1<(↑v.6.length:Int)) (Cnd (Vq=true) (At v.6 Qw.1 fun y9=>Cnd (y9.2=key) (Cnd (y9.5=2) (q6b y9.6 Qw.2.2.2.1 fun Gc=>Cnd (Gc=true) (q0p (Envt.mk (Sett.mk v.1.1 v.1.2 v.1.3) v.2 v.3 v.4 v.5 v.6) (Subj.mk s.1) y9.1 fun V9=>Cnd (V9=true) (Up y9.4 Qf.2 fun Za=>z2l y9.7 Za fun Ws=>K (Asg.mk Qw.2.1 y9.1 Qw.2.2.2.1 Ws Qw.2.2.2.2.2.1) (0:Int)) (InI (Qw.1+1)/\v2u (Qw.1+1,Qw.2.1,Qw.2.2.1,Qw.2.2.2.1,Qw.2.2.2.2.1,Qw.2.2.2.2.2.1,Qw.2.2.2.2.2.2.1,Qw.2.2.2.2.2.2.2.1,Qw.2.2.2.2.2.2.2.2.1,Qw.2.2.2.2.2.2.2.2.2.1,Qw.2.2.2.2.2.2.2.2.2.2.1,()))) (InI (Qw.1+1)/\v2u (Qw.1+1,Qw.2.1,Qw.2.2.1,Qw.2.2.2.1,Qw.2.2.2.2.1,Qw.2.2.2.2.2.1,Qw.2.2.2.2.2.2.1,Qw.2.2.2.2.2.2.2.1,Qw.2.2.2.2.2.2.2.2.1,Qw.2.2.2.2.2.2.2.2.2.1,Qw.2.2.2.2.2.2.2.2.2.2.1,()))) (InI (Qw.1+1)/\v2u (Qw.1+1,Qw.2.1,Qw.2.2.1,Qw.2.2.2.1,Qw.2.2.2.2.1,Qw.2.2.2.2.2.1,Qw.2.2.2.2.2.2.1,Qw.2.2.2.2.2.2.2.1,Qw.2.2.2.2.2.2.2.2.1,Qw.2.2.2.2.2.2.2.2.2.1,Qw.2.2.2.2.2.2.2.2.2.2.1,()))) (InI (Qw.1+1)/\v2u (Qw.1+1,Qw.2.1,Qw.2.2.1,Qw.2.2.2.1,Qw.2.2.2.2.1,Qw.2.2.2.2.2.1,Qw.2.2.2.2.2.2.1,Qw.2.2.2.2.2.2.2.1,Qw.2.2.2.2.2.2.2.2.1,Qw.2.2.2.2.2.2.2.2.2.1,Qw.2.2.2.2.2.2.2.2.2.2.1,()))) (K (Asg.mk Qw.2.1 Qw.2.2.1 Qw.2.2.2.1 Qw.2.2.2.2.1 Qw.2.2.2.2.2.1) (0:Int))) (K (Asg.mk Qw.2.1 Qw.2.2.1 Qw.2.2.2.1 Qw.2.2.2.2.1 Qw.2.2.2.2.2.1) (0:Int))) ((0:Int),key,ByteArray.mk (Array.mk []),Qe,(0:Int),false,ByteArray.mk (Array.mk []),ByteArray.mk (Array.mk []),(0:Int),(0:Int),false,()))))) fun w9u=>Cnd (Vq=true) (Up y1.3 Qf.2 fun Qm=>w9u Qm) (w9u (-1:Int)))
def q1b:q1a:=z99 Jn Rz q86 z16 q50 q0h q2y z2c
abbrev z52:Type:=Envt->Subj->List (Frc)->(List (Asg)->Prop)->Prop
def j88(G3:q1a):z52:=fun v s forced K=>Lp2 (fun Qa Qz q31=>Fits v.5->CAt v.5 Qz (fun y2=>G3 (Envt.mk (Sett.mk v.1.1 v.1.2 v.1.3) v.2 v.3 v.4 v.5 v.6) (Subj.mk s.1) forced y2.1 fun Qe _=>Sml (Qa++[Qe]).length/\InI (Qz+1)/\q31 (Qa++[Qe]) (Qz+1)) (K Qa)) [] (0:Int)
def z54:z52:=j88 q1b
abbrev V8:Type:=List (Asg)->List (Asg)->(Bool->Prop)->Prop
def Wl:V8:=fun a b K=>Fits a->Fits b->Cnd ((↑a.length:Int)=(↑b.length:Int)) (Lp1 (fun Qg j05=>Fits a->CAt a Qg (fun y4=>At b Qg fun y6=>Cnd (y4.1=y6.1/\y4.2=y6.2/\y4.3=y6.3/\y4.4=y6.4/\y4.5=y6.5) (InI (Qg+1)/\j05 (Qg+1)) (K false)) (K true)) (0:Int)) (K false)
abbrev By:Type:=List (Int)->List (Int)->Subj->List (Frc)->ByteArray->(Bool->Prop)->Prop
def Bz(q7n:q2z)(q7o:q21)(Uf:Rx)(j3n:z52)(Ug:V8)(Zf:Wf)(G3:q1a):By:=fun codes who s forced key K=>q7n fun Qa=>Cnd (Qa=true) (Fits s.1->Cnd ((8:Int)<(↑s.1.length:Int)) (K true) (Fits forced->Cnd ((8:Int)<(↑forced.length:Int)) (K true) (q7o codes who fun Qf Vq y8n=>[Subj.mk Vq.1,Subj.mk s.1].length<=(9223372036854775807:Nat)->Lp1 (fun Qm j71=>Cnd (Qm<(↑[Subj.mk Vq.1,Subj.mk s.1].length:Int)) (((0:Int)<=Qm/\Qm<(↑[Subj.mk Vq.1,Subj.mk s.1].length:Int))/\ ∀y6,[Subj.mk Vq.1,Subj.mk s.1][Qm.toNat]? =some y6->[[],y8n,forced].length<=(9223372036854775807:Nat)->Lp1 (fun Qp y77=>Cnd (Qp<(↑[[],y8n,forced].length:Int)) (((0:Int)<=Qp/\Qp<(↑[[],y8n,forced].length:Int))/\ ∀y10,[[],y8n,forced][Qp.toNat]? =some y10->Uf (Envt.mk (Sett.mk Qf.1.1 Qf.1.2 Qf.1.3) Qf.2 Qf.3 Qf.4 Qf.5 Qf.6) (Subj.mk y6.1) y10 fun V9=>j3n (Envt.mk (Sett.mk Qf.1.1 Qf.1.2 Qf.1.3) Qf.2 Qf.3 Qf.4 Qf.5 Qf.6) (Subj.mk y6.1) y10 fun Za=>Ug V9 Za fun Ws=>Cnd (Ws=true) ([ByteArray.mk (Array.mk [108,97]),ByteArray.mk (Array.mk [108,98]),key].length<=(9223372036854775807:Nat)->Lp1 (fun Ge y4g=>Cnd (Ge<(↑[ByteArray.mk (Array.mk [108,97]),ByteArray.mk (Array.mk [108,98]),key].length:Int)) (((0:Int)<=Ge/\Ge<(↑[ByteArray.mk (Array.mk [108,97]),ByteArray.mk (Array.mk [108,98]),key].length:Int))/\ ∀y17,[ByteArray.mk (Array.mk [108,97]),ByteArray.mk (Array.mk [108,98]),key][Ge.toNat]? =some y17->Zf (Envt.mk (Sett.mk Qf.1.1 Qf.1.2 Qf.1.3) Qf.2 Qf.3 Qf.4 Qf.5 Qf.6) (Subj.mk y6.1) y10 y17 fun Zz y1h=>G3 (Envt.mk (Sett.mk Qf.1.1 Qf.1.2 Qf.1.3) Qf.2 Qf.3 Qf.4 Qf.5 Qf.6) (Subj.mk y6.1) y10 y17 fun B1 v63=>Cnd (Zz.1=B1.1/\Zz.2=B1.2/\Zz.3=B1.3/\Zz.4=B1.4/\Zz.5=B1.5) (Cnd (y1h=v63) (InI (Ge+1)/\y4g (Ge+1)) (K false)) (K false)) (InI (Qp+1)/\y77 (Qp+1))) (0:Int)) (K false)) (InI (Qm+1)/\j71 (Qm+1))) (0:Int)) (K true)) (0:Int)))) (K false)
def Jh:By:=Bz q20 Bg Ry z54 Wl Wg q1b
end Go.En
end
noncomputable section
set_option maxRecDepth 100000
namespace Go.Proofs
open Go.Shelf
def Tryz.laysC172_ren:Go.Shelf.Ren:=⟨fun|172=>270|244=>287|245=>288|247=>296|279=>297|280=>298|281=>299|282=>300|287=>303|316=>304|171=>306|205=>305|321=>307|322=>308|243=>309|246=>310|283=>311|284=>312|285=>313|286=>314|129=>203|317=>315|318=>316|319=>317|320=>318|337=>319|338=>320|n=>n,fun|9=>9|3=>3|75=>326|76=>327|4=>4|5=>5|167=>354|37=>22|0=>0|85=>355|2=>2|168=>357|53=>112|175=>360|46=>221|210=>364|127=>368|145=>371|143=>369|21=>21|171=>373|173=>375|212=>378|51=>282|20=>20|213=>379|232=>380|233=>381|80=>124|n=>n,fun|15=>6|16=>7|17=>8|18=>9|19=>10|n=>n⟩
theorem Tryz.laysC172:Go.Proofs.LaysC.n172 Tryz.prog Tryz.laysC172_ren:={
 mixed:=by kernel_rfl
 f129:=Tryz.func203.trans (congrArg some (by kernel_rfl))
 f171:=Tryz.func306.trans (congrArg some (by kernel_rfl))
 f172:=Tryz.func270.trans (congrArg some (by kernel_rfl))
 f205:=Tryz.func305.trans (congrArg some (by kernel_rfl))
 f243:=Tryz.func309.trans (congrArg some (by kernel_rfl))
 f244:=Tryz.func287.trans (congrArg some (by kernel_rfl))
 f245:=Tryz.func288.trans (congrArg some (by kernel_rfl))
 f246:=Tryz.func310.trans (congrArg some (by kernel_rfl))
 f247:=Tryz.func296.trans (congrArg some (by kernel_rfl))
 f279:=Tryz.func297.trans (congrArg some (by kernel_rfl))
 f280:=Tryz.func298.trans (congrArg some (by kernel_rfl))
 f281:=Tryz.func299.trans (congrArg some (by kernel_rfl))
 f282:=Tryz.func300.trans (congrArg some (by kernel_rfl))
 f283:=Tryz.func311.trans (congrArg some (by kernel_rfl))
 f284:=Tryz.func312.trans (congrArg some (by kernel_rfl))
 f285:=Tryz.func313.trans (congrArg some (by kernel_rfl))
 f286:=Tryz.func314.trans (congrArg some (by kernel_rfl))
 f287:=Tryz.func303.trans (congrArg some (by kernel_rfl))
 f316:=Tryz.func304.trans (congrArg some (by kernel_rfl))
 f317:=Tryz.func315.trans (congrArg some (by kernel_rfl))
 f318:=Tryz.func316.trans (congrArg some (by kernel_rfl))
 f319:=Tryz.func317.trans (congrArg some (by kernel_rfl))
 f320:=Tryz.func318.trans (congrArg some (by kernel_rfl))
 f321:=Tryz.func307.trans (congrArg some (by kernel_rfl))
 f322:=Tryz.func308.trans (congrArg some (by kernel_rfl))
 f337:=Tryz.func319.trans (congrArg some (by kernel_rfl))
 f338:=Tryz.func320.trans (congrArg some (by kernel_rfl))
 t0:=Tryz.underlying0
 a0:=Tryz.isAgg0
 z0:=Tryz.sizeOf0
 v0:=Tryz.zeroValue0
 t2:=Tryz.underlying2
 a2:=Tryz.isAgg2
 z2:=Tryz.sizeOf2
 v2:=Tryz.zeroValue2
 t3:=Tryz.underlying3
 a3:=Tryz.isAgg3
 z3:=Tryz.sizeOf3
 v3:=Tryz.zeroValue3
 t4:=Tryz.underlying4
 a4:=Tryz.isAgg4
 z4:=Tryz.sizeOf4
 v4:=Tryz.zeroValue4
 t5:=Tryz.underlying5
 a5:=Tryz.isAgg5
 z5:=Tryz.sizeOf5
 v5:=Tryz.zeroValue5
 t9:=Tryz.underlying9
 a9:=Tryz.isAgg9
 z9:=Tryz.sizeOf9
 v9:=Tryz.zeroValue9
 t20:=Tryz.underlying20
 a20:=Tryz.isAgg20
 z20:=Tryz.sizeOf20
 v20:=Tryz.zeroValue20
 t21:=Tryz.underlying21
 a21:=Tryz.isAgg21
 z21:=Tryz.sizeOf21
 v21:=Tryz.zeroValue21
 t37:=Tryz.underlying22
 a37:=Tryz.isAgg22
 z37:=Tryz.sizeOf22
 v37:=Tryz.zeroValue22
 t46:=Tryz.underlying221
 a46:=Tryz.isAgg221
 z46:=Tryz.sizeOf221
 v46:=Tryz.zeroValue221
 t51:=Tryz.underlying282
 a51:=Tryz.isAgg282
 z51:=Tryz.sizeOf282
 v51:=Tryz.zeroValue282
 t53:=Tryz.underlying112
 a53:=Tryz.isAgg112
 z53:=Tryz.sizeOf112
 v53:=Tryz.zeroValue112
 t75:=Tryz.underlying326
 a75:=Tryz.isAgg326
 z75:=Tryz.sizeOf326
 v75:=Tryz.zeroValue326
 t76:=Tryz.underlying327
 a76:=Tryz.isAgg327
 z76:=Tryz.sizeOf327
 v76:=Tryz.zeroValue327
 t85:=Tryz.underlying355
 a85:=Tryz.isAgg355
 z85:=Tryz.sizeOf355
 v85:=Tryz.zeroValue355
 t127:=Tryz.underlying368
 a127:=Tryz.isAgg368
 z127:=Tryz.sizeOf368
 v127:=Tryz.zeroValue368
 t143:=Tryz.underlying369
 a143:=Tryz.isAgg369
 z143:=Tryz.sizeOf369
 v143:=Tryz.zeroValue369
 t145:=Tryz.underlying371
 a145:=Tryz.isAgg371
 z145:=Tryz.sizeOf371
 v145:=Tryz.zeroValue371
 t167:=Tryz.underlying354
 a167:=Tryz.isAgg354
 z167:=Tryz.sizeOf354
 v167:=Tryz.zeroValue354
 t168:=Tryz.underlying357
 a168:=Tryz.isAgg357
 z168:=Tryz.sizeOf357
 v168:=Tryz.zeroValue357
 t171:=Tryz.underlying373
 a171:=Tryz.isAgg373
 z171:=Tryz.sizeOf373
 v171:=Tryz.zeroValue373
 t173:=Tryz.underlying375
 a173:=Tryz.isAgg375
 z173:=Tryz.sizeOf375
 v173:=Tryz.zeroValue375
 t175:=Tryz.underlying360
 a175:=Tryz.isAgg360
 z175:=Tryz.sizeOf360
 v175:=Tryz.zeroValue360
 t210:=Tryz.underlying364
 a210:=Tryz.isAgg364
 z210:=Tryz.sizeOf364
 v210:=Tryz.zeroValue364
 t212:=Tryz.underlying378
 a212:=Tryz.isAgg378
 z212:=Tryz.sizeOf378
 v212:=Tryz.zeroValue378
 t213:=Tryz.underlying379
 a213:=Tryz.isAgg379
 z213:=Tryz.sizeOf379
 t232:=Tryz.underlying380
 a232:=Tryz.isAgg380
 z232:=Tryz.sizeOf380
 v232:=Tryz.zeroValue380
 t233:=Tryz.underlying381
 a233:=Tryz.isAgg381
 z233:=Tryz.sizeOf381
 v233:=Tryz.zeroValue381
 g15:=by kernel_rfl
 g16:=by kernel_rfl
 g17:=by kernel_rfl
 g18:=by kernel_rfl
 g19:=by kernel_rfl
 t80:=Tryz.underlying124
 a80:=Tryz.isAgg124
 z80:=Tryz.sizeOf124
 v80:=Tryz.zeroValue124
 i0:=by kernel_rfl
 i2:=by kernel_rfl
 i3:=by kernel_rfl
 i4:=by kernel_rfl
 i5:=by kernel_rfl
 i9:=by kernel_rfl
 i20:=by kernel_rfl
 i21:=by kernel_rfl
 i37:=by kernel_rfl
 i46:=by kernel_rfl
 i51:=by kernel_rfl
 i53:=by kernel_rfl
 i75:=by kernel_rfl
 i76:=by kernel_rfl
 i80:=by kernel_rfl
 i85:=by kernel_rfl
 i127:=by kernel_rfl
 i143:=by kernel_rfl
 i145:=by kernel_rfl
 i167:=by kernel_rfl
 i168:=by kernel_rfl
 i171:=by kernel_rfl
 i173:=by kernel_rfl
 i175:=by kernel_rfl
 i210:=by kernel_rfl
 i212:=by kernel_rfl
 i232:=by kernel_rfl
 i233:=by kernel_rfl
 m15:=by kernel_rfl
 m16:=by kernel_rfl
 m17:=by kernel_rfl
 m18:=by kernel_rfl
 m19:=by kernel_rfl
 c0:=by kernel_rfl
 c2:=by kernel_rfl
 c3:=by kernel_rfl
 c4:=by kernel_rfl
 c5:=by kernel_rfl
 c9:=by kernel_rfl
 c20:=by kernel_rfl
 c21:=by kernel_rfl
 c37:=by kernel_rfl
 c46:=by kernel_rfl
 c51:=by kernel_rfl
 c53:=by kernel_rfl
 c75:=by kernel_rfl
 c76:=by kernel_rfl
 c80:=by kernel_rfl
 c85:=by kernel_rfl
 c127:=by kernel_rfl
 c143:=by kernel_rfl
 c145:=by kernel_rfl
 c167:=by kernel_rfl
 c168:=by kernel_rfl
 c171:=by kernel_rfl
 c173:=by kernel_rfl
 c175:=by kernel_rfl
 c210:=by kernel_rfl
 c212:=by kernel_rfl
 c213:=by kernel_rfl
 c232:=by kernel_rfl
 c233:=by kernel_rfl}
open Go.RowKit in
theorem Tryz.strconv_Atoi_ok(s:ByteArray)(hmax:s.size<=9223372036854775806)(v:Int)(h:Lib.atoiAll s.data.toList= .ok v)(w:World):
  Calls Tryz.prog 270 #[.string s] w fun e w'=>e= .returned (.tuple #[.int .i64 v,.nilIface])/\(w'=w∨ ∃t,w'=Lib.bytesWorld w 5 t):=Any.strconv_Atoi_ok Tryz.laysC172 s hmax v h w
open Go.RowKit in
theorem Tryz.strconv_Atoi_syntax(s:ByteArray)(hlim:s.size<=281474976710656)(h:Lib.atoiAll s.data.toList=Go.Lib.NumEnd.syntax)(ev:Value)(w:World)(hv:w.cell? ⟨6,0,none⟩=some ev)(hev:ev= .nilIface∨ ∃te pe,ev= .iface te pe):
  Calls Tryz.prog 270 #[.string s] w fun e w'=> ∃N,e= .returned (.tuple #[.int .i64 (0),.iface 357 (.pointer (some ⟨N,0,none⟩))])/\w.heap.size<=N/\w'.heap[N]? =some (.cells #[.string ⟨#[65,116,111,105]⟩,.string s,ev] 364 (0,0))/\Below w.heap.size w w':=Any.strconv_Atoi_syntax Tryz.laysC172 s hlim h ev w hv hev
open Go.RowKit in
theorem Tryz.strconv_Atoi_range(s:ByteArray)(hlim:s.size<=281474976710656)(h:Lib.atoiAll s.data.toList= .range)(ev:Value)(w:World)(hv:w.cell? ⟨7,0,none⟩=some ev)(hev:ev= .nilIface∨ ∃te pe,ev= .iface te pe):
  Calls Tryz.prog 270 #[.string s] w fun e w'=> ∃N,e= .returned (.tuple #[.int .i64 (Lib.atoiSat s.data.toList),.iface 357 (.pointer (some ⟨N,0,none⟩))])/\w.heap.size<=N/\w'.heap[N]? =some (.cells #[.string ⟨#[65,116,111,105]⟩,.string s,ev] 364 (0,0))/\Below w.heap.size w w':=Any.strconv_Atoi_range Tryz.laysC172 s hlim h ev w hv hev
def Tryz.lays144_ren:Go.Shelf.Ren:=⟨fun|144=>136|143=>177|219=>226|217=>264|225=>265|224=>266|267=>267|266=>282|314=>283|n=>n,fun|9=>9|4=>4|3=>3|5=>5|46=>221|146=>345|51=>282|n=>n,fun|1=>3|n=>n⟩
theorem Tryz.lays144:Go.Proofs.Lays.n144 Tryz.prog Tryz.lays144_ren:={
 mixed:=by kernel_rfl
 f143:=Tryz.func177.trans (congrArg some (by kernel_rfl))
 f144:=Tryz.func136.trans (congrArg some (by kernel_rfl))
 f217:=Tryz.func264.trans (congrArg some (by kernel_rfl))
 f219:=Tryz.func226.trans (congrArg some (by kernel_rfl))
 f224:=Tryz.func266.trans (congrArg some (by kernel_rfl))
 f225:=Tryz.func265.trans (congrArg some (by kernel_rfl))
 f266:=Tryz.func282.trans (congrArg some (by kernel_rfl))
 f267:=Tryz.func267.trans (congrArg some (by kernel_rfl))
 f314:=Tryz.func283.trans (congrArg some (by kernel_rfl))
 t3:=Tryz.underlying3
 a3:=Tryz.isAgg3
 z3:=Tryz.sizeOf3
 v3:=Tryz.zeroValue3
 t4:=Tryz.underlying4
 a4:=Tryz.isAgg4
 z4:=Tryz.sizeOf4
 v4:=Tryz.zeroValue4
 t5:=Tryz.underlying5
 a5:=Tryz.isAgg5
 z5:=Tryz.sizeOf5
 v5:=Tryz.zeroValue5
 t9:=Tryz.underlying9
 a9:=Tryz.isAgg9
 z9:=Tryz.sizeOf9
 v9:=Tryz.zeroValue9
 t46:=Tryz.underlying221
 a46:=Tryz.isAgg221
 z46:=Tryz.sizeOf221
 v46:=Tryz.zeroValue221
 t51:=Tryz.underlying282
 a51:=Tryz.isAgg282
 z51:=Tryz.sizeOf282
 v51:=Tryz.zeroValue282
 t146:=Tryz.underlying345
 a146:=Tryz.isAgg345
 z146:=Tryz.sizeOf345
 v146:=Tryz.zeroValue345
 g1:=by kernel_rfl}
open Go.RowKit Go.Lib in
theorem Tryz.strings_Contains(s sub:ByteArray)(m:Int)(w:World)(hs:s.size<4294967281)(hm:w.cell? ⟨3,0,none⟩=some (.int .i64 m)):
  Calls Tryz.prog 136 #[.string s,.string sub] w fun e w'=>e= .returned (.bool (Lib.contains s.data.toList sub.data.toList))/\w'=w:=Any.strings_Contains Tryz.lays144 s sub m w hs hm
def Tryz.lays190_ren:Go.Shelf.Ren:=⟨fun|190=>80|125=>141|258=>140|128=>202|129=>203|302=>193|303=>194|304=>195|305=>196|306=>197|307=>198|308=>199|309=>200|310=>201|333=>238|329=>239|330=>240|334=>241|335=>242|336=>230|344=>275|n=>n,fun|31=>44|9=>9|3=>3|46=>221|0=>0|51=>282|53=>112|4=>4|183=>275|182=>274|131=>279|5=>5|218=>302|222=>306|228=>331|229=>332|n=>n,fun|n=>n⟩
theorem Tryz.lays190:Go.Proofs.Lays.n190 Tryz.prog Tryz.lays190_ren:={
 mixed:=by kernel_rfl
 f125:=Tryz.func141.trans (congrArg some (by kernel_rfl))
 f128:=Tryz.func202.trans (congrArg some (by kernel_rfl))
 f129:=Tryz.func203.trans (congrArg some (by kernel_rfl))
 f190:=Tryz.func80.trans (congrArg some (by kernel_rfl))
 f258:=Tryz.func140.trans (congrArg some (by kernel_rfl))
 f302:=Tryz.func193.trans (congrArg some (by kernel_rfl))
 f303:=Tryz.func194.trans (congrArg some (by kernel_rfl))
 f304:=Tryz.func195.trans (congrArg some (by kernel_rfl))
 f305:=Tryz.func196.trans (congrArg some (by kernel_rfl))
 f306:=Tryz.func197.trans (congrArg some (by kernel_rfl))
 f307:=Tryz.func198.trans (congrArg some (by kernel_rfl))
 f308:=Tryz.func199.trans (congrArg some (by kernel_rfl))
 f309:=Tryz.func200.trans (congrArg some (by kernel_rfl))
 f310:=Tryz.func201.trans (congrArg some (by kernel_rfl))
 f329:=Tryz.func239.trans (congrArg some (by kernel_rfl))
 f330:=Tryz.func240.trans (congrArg some (by kernel_rfl))
 f333:=Tryz.func238.trans (congrArg some (by kernel_rfl))
 f334:=Tryz.func241.trans (congrArg some (by kernel_rfl))
 f335:=Tryz.func242.trans (congrArg some (by kernel_rfl))
 f336:=Tryz.func230.trans (congrArg some (by kernel_rfl))
 f344:=Tryz.func275.trans (congrArg some (by kernel_rfl))
 t0:=Tryz.underlying0
 a0:=Tryz.isAgg0
 z0:=Tryz.sizeOf0
 v0:=Tryz.zeroValue0
 t3:=Tryz.underlying3
 a3:=Tryz.isAgg3
 z3:=Tryz.sizeOf3
 v3:=Tryz.zeroValue3
 t4:=Tryz.underlying4
 a4:=Tryz.isAgg4
 z4:=Tryz.sizeOf4
 v4:=Tryz.zeroValue4
 t5:=Tryz.underlying5
 a5:=Tryz.isAgg5
 z5:=Tryz.sizeOf5
 v5:=Tryz.zeroValue5
 t9:=Tryz.underlying9
 a9:=Tryz.isAgg9
 z9:=Tryz.sizeOf9
 v9:=Tryz.zeroValue9
 t31:=Tryz.underlying44
 a31:=Tryz.isAgg44
 z31:=Tryz.sizeOf44
 v31:=Tryz.zeroValue44
 t46:=Tryz.underlying221
 a46:=Tryz.isAgg221
 z46:=Tryz.sizeOf221
 v46:=Tryz.zeroValue221
 t51:=Tryz.underlying282
 a51:=Tryz.isAgg282
 z51:=Tryz.sizeOf282
 v51:=Tryz.zeroValue282
 t53:=Tryz.underlying112
 a53:=Tryz.isAgg112
 z53:=Tryz.sizeOf112
 v53:=Tryz.zeroValue112
 t131:=Tryz.underlying279
 a131:=Tryz.isAgg279
 z131:=Tryz.sizeOf279
 v131:=Tryz.zeroValue279
 t182:=Tryz.underlying274
 a182:=Tryz.isAgg274
 z182:=Tryz.sizeOf274
 v182:=Tryz.zeroValue274
 t183:=Tryz.underlying275
 a183:=Tryz.isAgg275
 z183:=Tryz.sizeOf275
 v183:=Tryz.zeroValue275
 t218:=Tryz.underlying302
 a218:=Tryz.isAgg302
 z218:=Tryz.sizeOf302
 v218:=Tryz.zeroValue302
 t222:=Tryz.underlying306
 a222:=Tryz.isAgg306
 z222:=Tryz.sizeOf306
 v222:=Tryz.zeroValue306
 t228:=Tryz.underlying331
 a228:=Tryz.isAgg331
 z228:=Tryz.sizeOf331
 v228:=Tryz.zeroValue331
 t229:=Tryz.underlying332
 a229:=Tryz.isAgg332
 z229:=Tryz.sizeOf332
 v229:=Tryz.zeroValue332}
open Go.Sort Go.RowKit in
theorem Tryz.slices_Sort_string(blk off cap:Nat)(ss:List (List UInt8))(w:World)(hH:Holds encStr w blk off ss.toArray)(hblk:blk<w.heap.size)(hsz:ss.length<4611686018427387904):
  Calls Tryz.prog 80 #[.slice (some ⟨blk,off,none⟩) ss.length cap] w fun e w'=>
   e= .returned (.tuple #[])/\ ∃n os,w'=grow (putRow encStr (Sort.ahead w n) blk off (ss.mergeSort fun x y=>decide (x<=y)).toArray) os:=Any.slices_Sort_string Tryz.lays190 blk off cap ss w hH hblk hsz
def Tryz.lays146_ren:Go.Shelf.Ren:=⟨fun|146=>231|221=>268|268=>284|138=>285|143=>177|195=>293|197=>294|218=>295|219=>226|260=>302|217=>264|225=>265|224=>266|267=>267|266=>282|314=>283|n=>n,fun|9=>9|31=>44|3=>3|4=>4|0=>0|105=>352|21=>21|5=>5|46=>221|119=>335|139=>338|138=>337|146=>345|51=>282|n=>n,fun|1=>3|3=>4|4=>5|n=>n⟩
theorem Tryz.lays146:Go.Proofs.Lays.n146 Tryz.prog Tryz.lays146_ren:={
 mixed:=by kernel_rfl
 f138:=Tryz.func285.trans (congrArg some (by kernel_rfl))
 f143:=Tryz.func177.trans (congrArg some (by kernel_rfl))
 f146:=Tryz.func231.trans (congrArg some (by kernel_rfl))
 f195:=Tryz.func293.trans (congrArg some (by kernel_rfl))
 f197:=Tryz.func294.trans (congrArg some (by kernel_rfl))
 f217:=Tryz.func264.trans (congrArg some (by kernel_rfl))
 f218:=Tryz.func295.trans (congrArg some (by kernel_rfl))
 f219:=Tryz.func226.trans (congrArg some (by kernel_rfl))
 f221:=Tryz.func268.trans (congrArg some (by kernel_rfl))
 f224:=Tryz.func266.trans (congrArg some (by kernel_rfl))
 f225:=Tryz.func265.trans (congrArg some (by kernel_rfl))
 f260:=Tryz.func302.trans (congrArg some (by kernel_rfl))
 f266:=Tryz.func282.trans (congrArg some (by kernel_rfl))
 f267:=Tryz.func267.trans (congrArg some (by kernel_rfl))
 f268:=Tryz.func284.trans (congrArg some (by kernel_rfl))
 f314:=Tryz.func283.trans (congrArg some (by kernel_rfl))
 t0:=Tryz.underlying0
 a0:=Tryz.isAgg0
 z0:=Tryz.sizeOf0
 v0:=Tryz.zeroValue0
 t3:=Tryz.underlying3
 a3:=Tryz.isAgg3
 z3:=Tryz.sizeOf3
 v3:=Tryz.zeroValue3
 t4:=Tryz.underlying4
 a4:=Tryz.isAgg4
 z4:=Tryz.sizeOf4
 v4:=Tryz.zeroValue4
 t5:=Tryz.underlying5
 a5:=Tryz.isAgg5
 z5:=Tryz.sizeOf5
 v5:=Tryz.zeroValue5
 t9:=Tryz.underlying9
 a9:=Tryz.isAgg9
 z9:=Tryz.sizeOf9
 v9:=Tryz.zeroValue9
 t21:=Tryz.underlying21
 a21:=Tryz.isAgg21
 z21:=Tryz.sizeOf21
 v21:=Tryz.zeroValue21
 t31:=Tryz.underlying44
 a31:=Tryz.isAgg44
 z31:=Tryz.sizeOf44
 v31:=Tryz.zeroValue44
 t46:=Tryz.underlying221
 a46:=Tryz.isAgg221
 z46:=Tryz.sizeOf221
 v46:=Tryz.zeroValue221
 t51:=Tryz.underlying282
 a51:=Tryz.isAgg282
 z51:=Tryz.sizeOf282
 v51:=Tryz.zeroValue282
 t105:=Tryz.underlying352
 a105:=Tryz.isAgg352
 z105:=Tryz.sizeOf352
 v105:=Tryz.zeroValue352
 t119:=Tryz.underlying335
 a119:=Tryz.isAgg335
 z119:=Tryz.sizeOf335
 t138:=Tryz.underlying337
 a138:=Tryz.isAgg337
 z138:=Tryz.sizeOf337
 v138:=Tryz.zeroValue337
 t139:=Tryz.underlying338
 a139:=Tryz.isAgg338
 z139:=Tryz.sizeOf338
 v139:=Tryz.zeroValue338
 t146:=Tryz.underlying345
 a146:=Tryz.isAgg345
 z146:=Tryz.sizeOf345
 v146:=Tryz.zeroValue345
 g1:=by kernel_rfl
 g3:=by kernel_rfl
 g4:=by kernel_rfl}
open Go.RowKit Go.Lib in
theorem Tryz.strings_Split(s sep:ByteArray)(m:Int)(w:World)(hs:s.size<4294967281)(hm:w.cell? ⟨3,0,none⟩=some (.int .i64 m))(h1:1<=sep.size):
  Calls Tryz.prog 231 #[.string s,.string sep] w fun e w'=>
   e= .returned (.slice (some ⟨w.heap.size,0,none⟩) (Lib.countB s sep+1) (Lib.countB s sep+1))/\w'=w.alloc (.cells ((Lib.splitB sep 0 (Lib.countB s sep) s).map Value.string).toArray 9):=Any.strings_Split Tryz.lays146 (by kernel_rfl) s sep m w hs hm h1
def Tryz.lays194_ren:Go.Shelf.Ren:=⟨fun|194=>184|n=>n,fun|31=>44|9=>9|3=>3|4=>4|0=>0|n=>n,fun|n=>n⟩
theorem Tryz.lays194:Go.Proofs.Lays.n194 Tryz.prog Tryz.lays194_ren:={
 mixed:=by kernel_rfl
 f194:=Tryz.func184.trans (congrArg some (by kernel_rfl))
 t0:=Tryz.underlying0
 a0:=Tryz.isAgg0
 z0:=Tryz.sizeOf0
 v0:=Tryz.zeroValue0
 t3:=Tryz.underlying3
 a3:=Tryz.isAgg3
 z3:=Tryz.sizeOf3
 v3:=Tryz.zeroValue3
 t4:=Tryz.underlying4
 a4:=Tryz.isAgg4
 z4:=Tryz.sizeOf4
 v4:=Tryz.zeroValue4
 t9:=Tryz.underlying9
 a9:=Tryz.isAgg9
 z9:=Tryz.sizeOf9
 v9:=Tryz.zeroValue9
 t31:=Tryz.underlying44
 a31:=Tryz.isAgg44
 z31:=Tryz.sizeOf44
 v31:=Tryz.zeroValue44}
open Go.RowKit Go.Lib Go.Sort in
theorem Tryz.slices_Compact_string(blk off cap:Nat)(zs:List (List UInt8))(w:World)(hH:Holds encStr w blk off zs.toArray)(hsz:zs.length<=9223372036854775807)(hcap:zs.length<=cap):
  Calls Tryz.prog 184 #[.slice (some ⟨blk,off,none⟩) zs.length cap] w fun e w'=>e= .returned (.slice (some ⟨blk,off,none⟩) (Lib.compact zs).length cap)/\ ∃q,w'=putRow encStr (Sort.ahead w q) blk off (Lib.compact zs++List.replicate (zs.length - (Lib.compact zs).length) []).toArray:=Any.slices_Compact_string Tryz.lays194 blk off cap zs w hH hsz hcap
open Go.RowKit Go.Lib Go.Sort in
theorem Tryz.slices_Compact_string_empty(a:Option Addr)(cap:Nat)(w:World):
  Calls Tryz.prog 184 #[.slice a 0 cap] w fun e w'=>e= .returned (.slice a 0 cap)/\w'=w:=Any.slices_Compact_string_empty Tryz.lays194 a cap w
def Tryz.laysNm224_ren:Go.Shelf.Ren:=⟨fun|24=>192|n=>n,fun|24=>44|9=>9|3=>3|4=>4|0=>0|n=>n,fun|n=>n⟩
theorem Tryz.laysNm224:Go.Proofs.Lays2.n24 Tryz.prog Tryz.laysNm224_ren:={
 mixed:=by kernel_rfl
 f24:=Tryz.func192.trans (congrArg some (by kernel_rfl))
 t0:=Tryz.underlying0
 a0:=Tryz.isAgg0
 z0:=Tryz.sizeOf0
 v0:=Tryz.zeroValue0
 t3:=Tryz.underlying3
 a3:=Tryz.isAgg3
 z3:=Tryz.sizeOf3
 v3:=Tryz.zeroValue3
 t4:=Tryz.underlying4
 a4:=Tryz.isAgg4
 z4:=Tryz.sizeOf4
 v4:=Tryz.zeroValue4
 t9:=Tryz.underlying9
 a9:=Tryz.isAgg9
 z9:=Tryz.sizeOf9
 v9:=Tryz.zeroValue9
 t24:=Tryz.underlying44
 a24:=Tryz.isAgg44
 z24:=Tryz.sizeOf44
 v24:=Tryz.zeroValue44
 i9:=by kernel_rfl}
open Go.RowKit Go.Lib Go.Sort in
theorem Tryz.slices_Delete_string(blk off cap i j:Nat)(zs:List (List UInt8))(w:World)(hH:Holds encStr w blk off zs.toArray)(hcap:zs.length<=cap)(hm:cap<=9223372036854775807)(hij:i<=j)(hj:j<=zs.length):
  Calls Tryz.prog 192 #[.slice (some ⟨blk,off,none⟩) zs.length cap,.int .i64 i,.int .i64 j] w fun e w'=>e= .returned (.slice (some ⟨blk,off,none⟩) (zs.length - (j - i)) cap)/\ ∃q,w'=putRow encStr (Sort.ahead w q) blk off (zs.take i++zs.drop j++List.replicate (j - i) []).toArray:=Any.slices_Delete_string Tryz.laysNm224 blk off cap i j zs w hH hcap hm hij hj
open Go.RowKit Go.Sort in
theorem Tryz.slices_Sort_string_none(p:Option Addr)(cap:Nat)(w:World):
  Calls Tryz.prog 80 #[.slice p 0 cap] w fun e w'=>e= .returned (.tuple #[])/\w'=w:=Any.slices_Sort_string_none Tryz.lays190 p cap w
def Tryz.lays196_ren:Go.Shelf.Ren:=⟨fun|196=>246|259=>276|n=>n,fun|9=>9|4=>4|3=>3|5=>5|12=>12|119=>335|0=>0|46=>221|139=>338|138=>337|53=>112|n=>n,fun|3=>4|4=>5|n=>n⟩
theorem Tryz.lays196:Go.Proofs.Lays.n196 Tryz.prog Tryz.lays196_ren:={
 mixed:=by kernel_rfl
 f196:=Tryz.func246.trans (congrArg some (by kernel_rfl))
 f259:=Tryz.func276.trans (congrArg some (by kernel_rfl))
 t0:=Tryz.underlying0
 a0:=Tryz.isAgg0
 z0:=Tryz.sizeOf0
 v0:=Tryz.zeroValue0
 t3:=Tryz.underlying3
 a3:=Tryz.isAgg3
 z3:=Tryz.sizeOf3
 v3:=Tryz.zeroValue3
 t4:=Tryz.underlying4
 a4:=Tryz.isAgg4
 z4:=Tryz.sizeOf4
 v4:=Tryz.zeroValue4
 t5:=Tryz.underlying5
 a5:=Tryz.isAgg5
 z5:=Tryz.sizeOf5
 v5:=Tryz.zeroValue5
 t9:=Tryz.underlying9
 a9:=Tryz.isAgg9
 z9:=Tryz.sizeOf9
 v9:=Tryz.zeroValue9
 t12:=Tryz.underlying12
 a12:=Tryz.isAgg12
 z12:=Tryz.sizeOf12
 v12:=Tryz.zeroValue12
 t46:=Tryz.underlying221
 a46:=Tryz.isAgg221
 z46:=Tryz.sizeOf221
 v46:=Tryz.zeroValue221
 t53:=Tryz.underlying112
 a53:=Tryz.isAgg112
 z53:=Tryz.sizeOf112
 v53:=Tryz.zeroValue112
 t119:=Tryz.underlying335
 a119:=Tryz.isAgg335
 z119:=Tryz.sizeOf335
 t138:=Tryz.underlying337
 a138:=Tryz.isAgg337
 z138:=Tryz.sizeOf337
 v138:=Tryz.zeroValue337
 t139:=Tryz.underlying338
 a139:=Tryz.isAgg338
 z139:=Tryz.sizeOf338
 v139:=Tryz.zeroValue338
 g3:=by kernel_rfl
 g4:=by kernel_rfl}
def Tryz.sorted185_ren:Go.Shelf.Ren:=⟨fun|6=>185|8=>236|9=>80|11=>274|13=>141|12=>140|23=>202|24=>203|14=>193|15=>194|16=>195|17=>196|18=>197|19=>198|20=>199|21=>200|22=>201|25=>238|26=>239|27=>240|28=>241|29=>242|30=>230|31=>275|n=>n,fun|26=>9|28=>265|24=>44|0=>0|3=>3|37=>221|48=>282|50=>112|4=>4|40=>275|39=>274|45=>279|5=>5|9=>9|51=>302|55=>306|57=>331|58=>332|33=>271|n=>n,fun|n=>n⟩
theorem Tryz.sorted185:Go.Proofs.SlLaysZ.n6 Tryz.prog Tryz.sorted185_ren:={
 mixed:=by kernel_rfl
 f6:=⟨Tryz.f185.name,by decide,Tryz.func185.trans (congrArg some (by kernel_rfl))⟩
 f8:=⟨Tryz.f236.name,by decide,Tryz.func236.trans (congrArg some (by kernel_rfl))⟩
 f11:=⟨Tryz.f274.name,by decide,Tryz.func274.trans (congrArg some (by kernel_rfl))⟩
 t0:=Tryz.underlying0
 a0:=Tryz.isAgg0
 z0:=Tryz.sizeOf0
 v0:=Tryz.zeroValue0
 t24:=Tryz.underlying44
 a24:=Tryz.isAgg44
 z24:=Tryz.sizeOf44
 v24:=Tryz.zeroValue44
 t26:=Tryz.underlying9
 a26:=Tryz.isAgg9
 z26:=Tryz.sizeOf9
 v26:=Tryz.zeroValue9
 t28:=Tryz.underlying265
 a28:=Tryz.isAgg265
 z28:=Tryz.sizeOf265
 v28:=Tryz.zeroValue265
 i26:=by kernel_rfl}
end Go.Proofs
end
noncomputable section
set_option maxRecDepth 100000
namespace Go.Fl
open Go Go.Proofs Go.RowKit Go.Maps Go.Sort Go.Shelf
variable {P:Program}{ρ:Ren}
def v9f(F:Fence)(n:Nat)(P:Program)(g:Nat)(lb:Array Value)(ss:List (List UInt8))(w:World):Prop:=
 ∀(l:Nat) (J:List (List UInt8)->World->Prop) (W:World),Below w.heap.size w W->AbidesFrom W.heap.size J->(∀pre W1,J pre W1->Below w.heap.size w W1)->
  (∀pre x W1,J pre W1->pre.length<ss.length->YieldAt F (n - 1) P l #[encStr x] W1 fun e W'=>e= .returned (.bool true)/\J (pre++[x]) W'/\KeepsWalks W1 W')->
  J [] W->CallsIn F n P g (#[.func (.yield l) #[] #[]]++lb) W fun e W'=>(∃v,e= .returned v)/\J ss W'
theorem w3m{W:World}{base j:Nat}{e:TypeId}{v:Value}{k:Nat}{xs:List Value}{o:Obj}(h:W.ownsRow base e 1 v k xs)(hj:W.heap[j]? =some o)(hno: ∀cur,o≠ .cells cur e (0,0))(o':Obj):(W.putObj j o').ownsRow base e 1 v k xs:=
 h.kept (grownBy_putObj_a W j o') (ownsRow_ne_a h hj hno)
set_option maxHeartbeats 2000000 in
theorem j89(L:SlLaysZ.n11 P ρ)(F:Fence)(n:Nat)(hf:F.fn (ρ.f 11))(hro:F.round=none)(hn:2<=n)(g:Nat)(lb:Array Value)(hg:F.fn g)(eg: ∀args w,(callFunc g args).run P w= .ok (.enter g args) w)
  (ss:List (List UInt8))(hN:ss.length<=maxLen)(hNb:ss.length*16<=140737488355328)(w:World)(hseq:v9f F (n - 1) P g lb ss w):
  CallsIn F n P (ρ.f 11) #[.slice none 0 0,.func (.func g) #[] lb] w fun e w'=> ∃v,e= .returned v/\w'.ownsRow w.heap.size (ρ.t 26) 1 v ss.length (ss.map encStr)/\Below w.heap.size w w':=by
 have mixed:=L.mixed;have t0:=L.t0;have a0:=L.a0;have z0:=L.z0;have v0:=L.v0;have t24:=L.t24;have a24:=L.a24;have z24:=L.z24;have v24:=L.v24;have t26:=L.t26;have a26:=L.a26;have z26:=L.z26;have v26:=L.v26
 have u0:=run_underlying L.t0;have u24:=run_underlying L.t24;have u26:=run_underlying L.t26
 have apart:ρ.t 24≠ρ.t 26:=fun e=>by have h:=L.t24;rw[e,L.t26] at h;cases h
 obtain⟨_,_,body⟩:=L.f11
 refine callsIn_of_wp_marks body rfl hf ?_ hro
 simp only[SlBodyZ.n11_ntmps ρ,List.size_toArray,List.length_cons,List.length_nil,Nat.reduceAdd,Nat.reduceSub,Array.replicate_succ,Array.replicate_zero,List.push_toArray,List.append_toArray,List.nil_append,List.cons_append]
 gi_wp2
 refine wpIn_rangeFunc fun fn hfn=> ?_
 rw[hro]
 generalize hA:w.alloc (.cells #[.slice none 0 0] (ρ.t 24))=A
 have sA:A.heap.size=w.heap.size+1:=by rw[←hA];simp
 have bA:Below w.heap.size w A:=by rw[←hA];exact (Below.refl _ w).alloc (Nat.le_refl _) _
 have xA:A.heap[w.heap.size]? =some (.cells #[.slice none 0 0] (ρ.t 24) (0,0)):=by rw[←hA];exact World.alloc_heap_new w _
 generalize hrec:AnyZ.apRec ρ fn (.func (.func g) #[] lb) w.heap.size A.heap.size .ready none=rec
 generalize hB:(A.alloc (.deferred (some []))).alloc (.loop rec)=B
 have oldB: ∀k,k<A.heap.size->B.heap[k]? =A.heap[k]? :=fun k hk=>by rw[←hB];exact (Below.heap_alloc _ _ k (by simp;omega)).trans (Below.heap_alloc _ _ k hk)
 have bB:Below w.heap.size w B:=by rw[←hB];exact (bA.alloc bA.size _).alloc (by have:=bA.size;simp;omega) _
 have dB:B.heap[A.heap.size]? =some (.deferred (some [])):=by rw[←hB];exact (Below.heap_alloc _ _ _ (by simp)).trans (World.alloc_heap_new A _)
 have lB:B.heap[A.heap.size+1]? =some (.loop rec):=by rw[←hB];have:=World.alloc_heap_new (A.alloc (.deferred (some []))) (.loop rec);rwa [World.size_alloc] at this
 have start:AnyZ.ApAt ρ w fn (.func (.func g) #[] lb) w.heap.size (A.heap.size+1) A.heap.size [] B:=
  ⟨⟨_,(oldB _ (by omega)).trans xA,⟨rfl,.inl ⟨rfl,rfl⟩⟩,by simp⟩,by rw[hrec];exact lB,dB,bB⟩
 refine⟨A.heap.size+1,[{target:= .collected A.heap.size,args:= #[]}],B,{target:= .fn (.func g) lb,args:= #[.func (.yield (A.heap.size+1)) #[] #[]]},B,g,#[.func (.yield (A.heap.size+1)) #[] #[]]++lb,B,?_,?_,?_,?_,fun _=>(by omega),?_⟩
 ·rw[←hB,←hrec];exact run_enterLoop_outer _ _ _ _ _
 ·simp[resolve,go_sem]
 ·intro f' h';simp[Target.leads] at h';exact h'▸hg
 ·simp[invoke,go_sem,eg]
 refine (hseq _ (AnyZ.ApAt ρ w fn (.func (.func g) #[] lb) w.heap.size (A.heap.size+1) A.heap.size) B bB (AnyZ.ap_abides ρ _ _ _ _ _ _ _ bB.size) (fun _ _ h=>h.below)
  (fun pre x W h hl=>AnyZ.apYield {L with} F _ w fn hfn _ _ _ _ (by omega) (by omega) (by omega) (Nat.le_refl _) (by omega) ss.length hN hNb pre x W h hl) start).mono ?_
 rintro e C ⟨⟨_,rfl⟩,hC⟩
 obtain⟨v,hv,hrow,_⟩:=hC.box
 have hend:=run_endLoop (P:=P) hC.L (by simp[AnyZ.apRec])
 generalize hD:C.putObj (A.heap.size+1) (.loop {AnyZ.apRec ρ fn (.func (.func g) #[] lb) w.heap.size A.heap.size .ready none with state:= .exhausted})=D at hend
 have rowD:D.ownsRow w.heap.size (ρ.t 26) 1 v ss.length (ss.map encStr):=by rw[←hD];exact w3m hrow hC.L (fun _ h=>by cases h) _
 have boxD:D.heap[w.heap.size]? =some (.cells #[v] (ρ.t 24) (0,0)):=by rw[←hD];exact (World.putObj_heap_other (by omega)).trans hv
 have defD:D.heap[A.heap.size]? =some (.deferred (some [])):=by rw[←hD];exact (World.putObj_heap_other (by omega)).trans hC.K
 have belD:Below w.heap.size w D:=by rw[←hD];exact hC.below.grown (grownBy_putObj_a _ _ _) hC.below.size (fun k h=>by cases h;omega)
 obtain⟨cellD,markD⟩:=cell_of_box_a boxD
 clear hD
 refine⟨none,D,hend,?_⟩
 gi_wp2
 rw[←sA]
 refine⟨by simp,.inl ⟨_,_,rfl,run_takeDeferred defD,?_⟩⟩
 exact⟨_,results_tmp rfl _ _ _,v,rfl,w3m rowD defD (fun _ h=>by cases h) _,belD.grown (grownBy_putObj_a _ _ _) belD.size (fun k h=>by cases h;omega)⟩
end Go.Fl
end
noncomputable section
set_option maxRecDepth 100000
namespace Go.Proofs.YtfiomedjdipbgaaGreatDoor
open Go Go.Proofs Go.RowKit Go.Fl Go.Maps Go.Sort Go.Shelf
attribute [local go_sem] Oper.semAt_some
set_option maxHeartbeats 2000000 in
theorem v0o(n:Nat)(hn:1<=n)(w W:World)(l Bs b off cap:Nat)(zs:List (List UInt8))(hreach:zs.length<=140737488355328)(hBs:Bs<w.heap.size)(hb:b<w.heap.size)(J:List (List UInt8)->World->Prop)
  (hJ: ∀pre W1,J pre W1->Below w.heap.size w W1)(hc:w.cell? ⟨Bs,0,none⟩=some (.slice (some ⟨b,off,none⟩) zs.length cap))(hcs: ∀j,j<zs.length->w.cell? ⟨b,off+j,none⟩=some (encStr (zs[j]?.getD [])))
  (hY: ∀pre x W1,J pre W1->pre.length<zs.length->YieldAt Fence.wide (n - 1) Tryz.prog l #[encStr x] W1 fun e W'=>e= .returned (.bool true)/\J (pre++[x]) W'/\KeepsWalks W1 W')(h0:J [] W):
  CallsIn Fence.wide n Tryz.prog 237 #[.func (.yield l) #[] #[],.pointer (some ⟨Bs,0,none⟩)] W fun e W'=>(∃v,e= .returned v)/\J zs W':=by
 have hc0:=((hJ _ _ h0).cell (p:=⟨Bs,0,none⟩) hBs).trans hc
 refine callsIn_of_wp Tryz.func237 rfl trivial ?_ rfl
 simp only[Tryz.ntmps237,List.size_toArray,List.length_cons,List.length_nil,Nat.reduceAdd,Nat.reduceSub,Array.replicate_succ,Array.replicate_zero,List.push_toArray,List.append_toArray,List.nil_append,List.cons_append]
 gi_wp2
 gi_loopw [7] (fun i wr=> ∃k:Nat,k<=zs.length/\i= .int .i64 k/\J (zs.take k) wr) (fun i _=>zs.length - (intOf i).toNat)
 case atStart=>exact⟨0,Nat.zero_le _,rfl,h0⟩
 case round=>
  obtain⟨k,hk,rfl,hJk⟩:=hrel
  by_cases hlt:k<zs.length
  ·have hck:=((hJ _ _ hJk).cell (p:=⟨b,off+k,none⟩) hb).trans (hcs k hlt)
   obtain⟨fn,tmps,assign,body,hy,hR⟩:=hY _ zs[k] wr hJk (by rw[List.length_take];omega)
   gi_wp2
   refine hR.mono ?_
   rintro e W3 ⟨rfl,hJ3,_⟩
   gi_wp2
   go_roundw
   case rel=>exact⟨k+1,by omega,by simp,by rw[List.take_succ_eq_append_getElem hlt];exact hJ3⟩
   case measure=>simp[intOf];omega
  ·obtain rfl:k=zs.length:=by omega
   rw[List.take_length] at hJk
   gi_wp2
   go_end0
   exact⟨⟨_,rfl⟩,hJk⟩
set_option maxHeartbeats 2000000 in
theorem v0p(n:Nat)(w W:World)(l Bs cap:Nat)(a:Option Addr)(hBs:Bs<w.heap.size)(J:List (List UInt8)->World->Prop)(hJ: ∀pre W1,J pre W1->Below w.heap.size w W1)(hc:w.cell? ⟨Bs,0,none⟩=some (.slice a 0 cap))(h0:J [] W):
  CallsIn Fence.wide n Tryz.prog 237 #[.func (.yield l) #[] #[],.pointer (some ⟨Bs,0,none⟩)] W fun e W'=>(∃v,e= .returned v)/\J [] W':=by
 have hc0:=((hJ _ _ h0).cell (p:=⟨Bs,0,none⟩) hBs).trans hc
 refine callsIn_of_wp Tryz.func237 rfl trivial ?_ rfl
 simp only[Tryz.ntmps237,List.size_toArray,List.length_cons,List.length_nil,Nat.reduceAdd,Nat.reduceSub,Array.replicate_succ,Array.replicate_zero,List.push_toArray,List.append_toArray,List.nil_append,List.cons_append]
 gi_wp2
 gi_loopw [7] (fun i wr=>i= .int .i64 0/\J [] wr) (fun _ _=>0)
 case atStart=>exact⟨rfl,h0⟩
 case round=>
  obtain⟨rfl,hJs⟩:=hrel
  gi_wp2
  go_end0
  exact⟨⟨_,rfl⟩,hJs⟩
theorem u1r{σ:Hv}{w:World}(Bs:Nat)(v:Value)(l:List ByteArray)(hV:View σ w)(hB:σ Bs=some (.cells #[v] 44 (0,0)))(hr:RSl 1 (REnc Qi) σ v l)(hs:Sml l.length):
  Calls Tryz.prog 274 #[.slice none 0 0,.func (.func 237) #[] #[.pointer (some ⟨Bs,0,none⟩)]] w fun e w1=> ∃v1,e= .returned v1/\Grow [] σ w σ w1/\((vec v1 9 1 l.length (l.flatMap Qi)).ok w1/\ ∀k,(vec v1 9 1 l.length (l.flatMap Qi)).foot=some k->w.heap.size<=k/\σ k=none):=by
 have hBw:=hV _ _ hB
 have hBl:=lt_of_block hBw
 have hBc:w.cell? ⟨Bs,0,none⟩=some v:=by simp[World.cell?,hBw]
 have hlen:(l.map (·.data.toList)).length=l.length:=List.length_map _
 have hgive:v9f Fence.wide 2 Tryz.prog 237 #[.pointer (some ⟨Bs,0,none⟩)] (l.map (·.data.toList)) w:=by
  intro lp J W _ _ hJB hY h0
  obtain⟨a,cap,rfl,h1,h2,hel⟩:=hr
  cases hl0:l with
  |nil=>
   subst hl0
   exact v0p 2 w W lp Bs cap a hBl J hJB hBc h0
  |cons x l'=>
   obtain⟨ad,cs,rfl,_,hrow0,hcs0⟩:=hel 0 x (by rw[hl0];rfl)
   have cell0:=(hrow0.row hV) 0 _ (by rw[hcs0];rfl)
   obtain⟨ab,ao,asp⟩:=ad
   have hsp:asp=none:=by
    cases asp with
    |none=>rfl
    |some s=>
     have:=hrow0 0 (.string x) (by rw[hcs0];rfl)
     simp[Hv.cell,Addr.add] at this
     split at this<;>simp at this
   subst hsp
   have hbl:ab<w.heap.size:=by
    have:=hrow0 0 (.string x) (by rw[hcs0];rfl)
    simp only[Um] at this
    unfold Hv.cell at this
    simp only at this
    cases hq:σ ab with
    |none=>rw[hq] at this;simp at this
    |some o=>exact lt_of_block (hV _ _ hq)
   rw[←hl0]
   have hcome:=v0o 2 (by omega) w W lp Bs ab ao cap (l.map (·.data.toList)) (by rw[hlen];exact h2) hBl hbl J hJB (by rw[hlen];exact hBc) (fun j hj=>by
    rw[hlen] at hj
    obtain⟨y,hy⟩:=getq hj
    obtain⟨ad',cs',had,_,hrow,hcs⟩:=hel j y hy
    cases had
    have hc:=(hrow.row hV) 0 (.string y) (by rw[hcs];rfl)
    rw[q1v,Um] at hc
    rw[List.getElem?_map,hy]
    simpa [encStr] using hc) hY h0
   exact hcome
 refine (callsIn_wide (n:=3)).1 ((j89 (ρ:=Tryz.sorted185_ren) {Tryz.sorted185 with} Fence.wide 3 trivial rfl (by omega) 237 _ trivial (enters_of Tryz.func237 (by kernel_rfl) rfl) (l.map (·.data.toList)) (by rw[hlen];exact (q5h hs (show 16<=32768 by omega)).2) (by rw[hlen];exact (q5h hs (by omega)).1) w hgive).mono ?_)
 rintro e w1 ⟨v1,rfl,hown,hbel⟩
 rw[hlen] at hown
 have hfl:(l.map (·.data.toList)).map encStr=l.flatMap Qi:=(R7 l).symm
 rw[hfl] at hown
 have hsame: ∀b,b<w.heap.size->w1.heap[b]? =w.heap[b]? :=fun b hb=>hbel.block b hb
 refine⟨v1,rfl,⟨⟨hbel.os,hbel.tape,hbel.output,hbel.size,fun k hk _=>hbel.block k hk⟩,fun b o hb=>(hbel.block b (lt_of_block (hV b o hb))).trans (hV b o hb),.refl _,fun _ _ _=>rfl⟩,?_,?_⟩
 ·exact⟨hown.1,hown.2.imp id fun ⟨g,cap,cur,e1,_,e3⟩=>⟨g,cap,cur,e1,Nat.zero_le _,e3⟩⟩
 ·intro k hk
  have hge:w.heap.size<=k:=(hown.lt k hk).1
  refine⟨hge,?_⟩
  cases hq:σ k with
  |none=>rfl
  |some o=>have:=lt_of_block (hV k o hq);omega
end Go.Proofs.YtfiomedjdipbgaaGreatDoor
end
