/- TrafficMoves This is part 4 of 10. Conditions: those in the statements. -/
import Derived.Test.YtflilmgifibgoaaGreatDoorProg
import Derived.Test.YtflilmgifibgoaaGreatDoorMov3
import Derived.Lib.ValidU
import Derived.KernelRfl
import Derived.Conc.MuLone
import Derived.Shelf.Slices.Equal
import Derived.Ground.Names2Prog
import Derived.Shelf.Slices.Clone
import Derived.Shelf.Slices.Empties2
import Derived.Ground.SlgnProg
import Derived.Shelf.SlicesE.Clone
import Derived.Ground.NamesProg
import Derived.Shelf.Unicode.ValidAny
import Derived.Shelf.SlIter.Sorted
import Derived.Ground.GgzProg
noncomputable section
set_option maxRecDepth 100000
open Go Go.RowKit Go.Fl Go.Fl.Lk Go.Fx
namespace Go.En
abbrev Gn:Type:=List (Spn)->(List (Spn)->Prop)->Prop
def Gq(l:List (Spn))(K:List (Spn)->Prop):Prop:=K ((Go.Fl.Sp.runs (Go.Fl.Sp.cov (l.map fun s=>(s.lo,s.hi))) 10000).map fun s=>Spn.mk s.1 s.2)
abbrev R6:Type:=List (Spn)->(Int->Prop)->Prop
def G2(l:List (Spn))(K:Int->Prop):Prop:=K ((Go.Fl.Sp.cnt (Go.Fl.Sp.cov (l.map fun s=>(s.lo,s.hi))) 10000:Nat):Int)
abbrev q0q:Type:=(Bool->Prop)->Prop
def q9l(Jr:Gn)(Wj:R6):q0q:=fun K=>Jr [Spn.mk (5:Int) (9:Int),Spn.mk (0:Int) (5:Int),Spn.mk (7:Int) (7:Int)] fun Qc=>Fits Qc->Cnd ((↑Qc.length:Int)=1) (((0:Int)<=(0:Int)/\(0:Int)<(↑Qc.length:Int))/\ ∀y2,Qc[Int.toNat (0:Int)]? =some y2->Cnd (y2.1=0/\y2.2=9) (Wj Qc fun Qy=>K (decide (Qy=9))) (K false)) (K false)
def q4w:q0q:=q9l Gq G2
abbrev z73:Type:=Int->Int->(Int->Prop)->Prop
def j1z:z73:=fun x n K=>n≠(0:Int)/\Cnd (x.tmod n<0) (InI (x.tmod n+n)/\K (x.tmod n+n)) (K (x.tmod n))
abbrev j6u:Type:=List (Int)->Int->(List (Int)->Int->Prop)->Prop
def j6v:j6u:=fun list_ most K=>Jn1 (fun Qc=>K Qc (0:Int)) fun z84=>Fits list_->Cnd (most<(↑list_.length:Int)) (((0:Int)<=(0:Int)/\(0:Int)<=most/\most<=(↑list_.length:Int))/\z84 (List.drop (Int.toNat (0:Int)) (List.take most.toNat list_))) (z84 list_)
abbrev U2:Type:=(List (Decl)->Prop)->Prop
def Hj:U2:=fun K=>K [Decl.mk (B8 [100,101,118,105,99,101]) (B8 [99,111,114,101,115]) (2:Int),Decl.mk (B8 [100,101,118,105,99,101]) (B8 [111,115]) (3:Int),Decl.mk (B8 [117,115,101,114]) (B8 [97,103,101]) (2:Int),Decl.mk (B8 [117,115,101,114]) (B8 [97,112,112]) (4:Int),Decl.mk (B8 [117,115,101,114]) (B8 [98,101,116,97]) (1:Int),Decl.mk (B8 [117,115,101,114]) (B8 [99,111,117,110,116,114,121]) (3:Int),Decl.mk (B8 [117,115,101,114]) (B8 [112,108,97,110]) (3:Int),Decl.mk (B8 [117,115,101,114]) (B8 [116,97,103,115]) (5:Int)]
abbrev z29:Type:=List (Int)->Int->(Bool->Int->Prop)->Prop
def q9m:z29:=fun list at_ K=>Fits list->K (decide (at_<(↑list.length:Int))) at_
abbrev Z3:Type:=List (Int)->Int->Int->(Int->Int->Prop)->Prop
def z54(q5b:z29):Z3:=fun list at_ n K=>q5b list at_ fun Qc Zp=>Cnd (Qc=true) (InI (Zp+1)/\InI (Zp+1 - (1:Int))/\((0:Int)<=Zp+1 - (1:Int)/\Zp+1 - (1:Int)<(↑list.length:Int))/\ ∀y1,list[(Zp+1 - (1:Int)).toNat]? =some y1->InI y1/\n≠(0:Int)/\K (y1.tmod n) (Zp+1)) (K (0:Int) Zp)
def J0:Z3:=z54 q9m
abbrev q0r:Type:=List (Int)->Int->(ByteArray->Int->Prop)->Prop
def j6w(Qb:Z3):q0r:=fun list at_ K=>Qb list at_ (11:Int) fun Qc Zp=>((0:Int)<=Qc/\Qc<(↑(11:Nat):Int))/\ ∀y1,z52[Qc.toNat]? =some y1->K y1 Zp
def q9n:q0r:=j6w J0
abbrev q0s:Type:=List (Int)->Int->Int->(Int->Int->Prop)->Prop
def j0q(Qb:Z3):q0s:=fun list at_ n K=>Qb list at_ (256:Int) fun Qc Zp=>InI ((256:Int)*Qc)/\Qb list Zp (256:Int) fun Qd Z1=>InI ((256:Int)*Qc+Qd)/\n≠(0:Int)/\K (((256:Int)*Qc+Qd).tmod n) Z1
def q4x:q0s:=j0q J0
abbrev z3a:Type:=Int->List (ByteArray)->(List (ByteArray)->Prop)->Prop
def j0r:z3a:=fun n l K=>((0:Int)<=n/\n<=(↑l.length:Int))/\K (List.take n.toNat l)
abbrev q9o:Type:=List (Int)->Int->(List (ByteArray)->Int->Prop)->Prop
def j6x(Qb:Z3):q9o:=fun list at_ K=>Qb list at_ (10:Int) fun Qc Zp=>Lp3 (fun Qd Z1 j31 w69=>Qb list j31 (4:Int) fun Qt Ju=>Cnd (Z1<Qt) (InI (Qc+Z1)/\(10:Int)≠(0:Int)/\InI ((48:Int)+(Qc+Z1).tmod (10:Int))/\(↑((B8 [107]).size+(Go.Utf8.encode (Go.IntKind.i32.wrap ((48:Int)+(Qc+Z1).tmod (10:Int)))).size):Int)<=(9223372036854775807:Int)/\Sml (Qd++[B8 [107]++Go.Utf8.encode (Go.IntKind.i32.wrap ((48:Int)+(Qc+Z1).tmod (10:Int)))]).length/\InI (Z1+1)/\w69 (Qd++[B8 [107]++Go.Utf8.encode (Go.IntKind.i32.wrap ((48:Int)+(Qc+Z1).tmod (10:Int)))]) (Z1+1) Ju) (Lp2 (fun Za He j04=>Fits He->CAt He Za (fun y5=>InI (Za - 1)/\((0:Int)<=Za - 1/\Za - 1<(↑He.length:Int))/\ ∀y7,He[(Za - 1).toNat]? =some y7->Cnd (Lk.blt y7 y5) (InI (Za+1)/\j04 (Za+1) He) (((0:Int)<=Za/\Za<=(↑He.length:Int))/\K (List.take Za.toNat He) Ju)) (K He Ju)) (1:Int) Qd)) [] (0:Int) Zp
def z55:q9o:=j6x J0
abbrev j10:Type:=List (Int)->Int->(ByteArray->Int->Prop)->Prop
def w16(Qb:Z3):j10:=fun list at_ K=>Qb list at_ (10:Int) fun Qc Zp=>InI ((48:Int)+Qc)/\(↑((B8 [107]).size+(Go.Utf8.encode (Go.IntKind.i32.wrap ((48:Int)+Qc))).size):Int)<=(9223372036854775807:Int)/\K (B8 [107]++Go.Utf8.encode (Go.IntKind.i32.wrap ((48:Int)+Qc))) Zp
def j6y:j10:=w16 J0
abbrev q5x:Type:=List (Int)->Int->Int->(Val->Int->Prop)->Prop
def z56(Qb:Z3)(Wt:q0r):q5x:=fun list at_ kind K=>Cnd (kind=1) (Qb list at_ (2:Int) fun Qc Zp=>K (Val.mk kind Qc (B8 []) []) Zp) (Cnd (kind=2) ([(0:Int),(1:Int),(17:Int),(18:Int),(19:Int),(-5:Int),(64:Int),(1099511627776:Int),(-1099511627776:Int)].length<=(9223372036854775807:Nat)->Qb list at_ (↑[(0:Int),(1:Int),(17:Int),(18:Int),(19:Int),(-5:Int),(64:Int),(1099511627776:Int),(-1099511627776:Int)].length:Int) fun Qd Z1=>((0:Int)<=Qd/\Qd<(↑[(0:Int),(1:Int),(17:Int),(18:Int),(19:Int),(-5:Int),(64:Int),(1099511627776:Int),(-1099511627776:Int)].length:Int))/\ ∀y2,[(0:Int),(1:Int),(17:Int),(18:Int),(19:Int),(-5:Int),(64:Int),(1099511627776:Int),(-1099511627776:Int)][Qd.toNat]? =some y2->K (Val.mk kind y2 (B8 []) []) Z1) (Cnd (kind=3) (Wt list at_ fun Qc Zp=>K (Val.mk kind (0:Int) Qc []) Zp) (Cnd (kind=4) (Qb list at_ (6:Int) fun Qc Zp=>((0:Int)<=Qc/\Qc<(↑(6:Nat):Int))/\ ∀y1,z1l[Qc.toNat]? =some y1->K (Val.mk kind (0:Int) y1 []) Zp) (Qb list at_ (5:Int) fun Qc Zp=>((0:Int)<=Qc/\Qc<(↑(5:Nat):Int))/\ ∀y1,j1w[Qc.toNat]? =some y1->Sml ([]++y1).length/\K (Val.mk (5:Int) (0:Int) (B8 []) ([]++y1)) Zp))))
def q0t:q5x:=z56 J0 q9n
abbrev j0s:Type:=List (Int)->Int->(Ex->Int->Prop)->Prop
def j6z(Zs:U2)(Qb:Z3)(j8j:j10)(W6:q5x):j0s:=fun list at_ K=>Zs fun Qc=>Fits Qc->InI ((↑Qc.length:Int)+1)/\Qb list at_ ((↑Qc.length:Int)+1) fun Qt Ju=>Fits Qc->Cnd (Qt=(↑Qc.length:Int)) (j8j list Ju fun Qy Hf=>K (Ex.mk (7:Int) (B8 [117,115,101,114]) (B8 [107,101,121]) [Val.mk (3:Int) (0:Int) Qy []] []) Hf) (At Qc Qt fun y4=>Jn1 (fun (Q9:Int×ByteArray×ByteArray×List Val×List Ex×Int×Int×ByteArray×ByteArray×List Val×List Ex×Unit)=>W6 list Q9.2.2.2.2.2.1 y4.3 fun W7 q8i=>K (Ex.mk (7:Int) Q9.2.1 Q9.2.2.1 [W7] Q9.2.2.2.2.1) q8i) fun (y0a:Int×ByteArray×ByteArray×List Val×List Ex×Int×Int×ByteArray×ByteArray×List Val×List Ex×Unit->Prop)=>Qb list Ju (5:Int) fun W7 q8i=>Jn1 (fun (Wu:Int×Int×ByteArray×ByteArray×List Val×List Ex×Int×ByteArray×ByteArray×List Val×List Ex×Unit)=>Cnd (y4.3=2) (Qb list Wu.1 (4:Int) fun Wd z5o=>InI ((12:Int)+Wd)/\W6 list z5o y4.3 fun Ql Uj=>K (Ex.mk ((12:Int)+Wd) Wu.2.2.1 Wu.2.2.2.1 [Ql] Wu.2.2.2.2.2.1) Uj) (Cnd (y4.3=3) (Qb list Wu.1 (4:Int) fun Wd z5o=>InI ((12:Int)+Wd)/\W6 list z5o y4.3 fun Ql Uj=>K (Ex.mk ((12:Int)+Wd) Wu.2.2.1 Wu.2.2.2.1 [Ql] Wu.2.2.2.2.2.1) Uj) (Cnd (y4.3=4) (Qb list Wu.1 (4:Int) fun Wd z5o=>InI ((12:Int)+Wd)/\W6 list z5o y4.3 fun Ql Uj=>K (Ex.mk ((12:Int)+Wd) Wu.2.2.1 Wu.2.2.2.1 [Ql] Wu.2.2.2.2.2.1) Uj) (y0a (Wu.2.1,Wu.2.2.1,Wu.2.2.2.1,Wu.2.2.2.2.1,Wu.2.2.2.2.2.1,Wu.1,Wu.2.2.2.2.2.2.1,Wu.2.2.2.2.2.2.2.1,Wu.2.2.2.2.2.2.2.2.1,Wu.2.2.2.2.2.2.2.2.2.1,Wu.2.2.2.2.2.2.2.2.2.2.1,()))))) fun (v32:Int×Int×ByteArray×ByteArray×List Val×List Ex×Int×ByteArray×ByteArray×List Val×List Ex×Unit->Prop)=>Cnd (W7=0) (K (Ex.mk (6:Int) y4.1 y4.2 [] []) q8i) (Cnd (W7=1) (Cnd (y4.3=5) (y0a ((0:Int),y4.1,y4.2,[],[],q8i,(0:Int),B8 [],B8 [],[],[],())) (Lp3 (fun Wd z5o y2u y2v=>Qb list y2u (3:Int) fun Ql Uj=>Cnd (Wd<=Ql) (W6 list Uj y4.3 fun W2 z4a=>Sml (z5o++[W2]).length/\InI (Wd+1)/\y2v (Wd+1) (z5o++[W2]) z4a) (K (Ex.mk (8:Int) y4.1 y4.2 z5o []) Uj)) (0:Int) [] q8i)) (Cnd (W7=2) (Cnd (y4.3=3) (W6 list q8i (3:Int) fun Wd z5o=>K (Ex.mk (11:Int) y4.1 y4.2 [Wd] []) z5o) (Cnd (y4.3=5) (W6 list q8i (3:Int) fun Wd z5o=>K (Ex.mk (11:Int) y4.1 y4.2 [Wd] []) z5o) (y0a ((0:Int),y4.1,y4.2,[],[],q8i,(0:Int),B8 [],B8 [],[],[],())))) (Cnd (W7=3) (Cnd (y4.3=3) (Qb list q8i (2:Int) fun Wd z5o=>InI ((9:Int)+Wd)/\W6 list z5o (3:Int) fun Ql Uj=>K (Ex.mk ((9:Int)+Wd) y4.1 y4.2 [Ql] []) Uj) (v32 (q8i,(0:Int),y4.1,y4.2,[],[],(0:Int),B8 [],B8 [],[],[],()))) (Cnd (W7=4) (v32 (q8i,(0:Int),y4.1,y4.2,[],[],(0:Int),B8 [],B8 [],[],[],())) (y0a ((0:Int),y4.1,y4.2,[],[],q8i,(0:Int),B8 [],B8 [],[],[],())))))))
def z3b:j0s:=j6z Hj J0 j6y q0t
abbrev q4y:Type:=List (Int)->Int->List (ByteArray)->Int->(Ex->Int->Prop)->Prop
def j0t(Qb:Z3)(w5b:j0s)(X:q4y):q4y:=fun list at_ segments levels K=>Qb list at_ (8:Int) fun Qc Zp=>Jn1 (fun Qd=>Cnd (Qd=0) (K (Ex.mk (1:Int) (B8 []) (B8 []) [] []) Zp) (Cnd (Qd=3) (Fits segments->Cnd ((0:Int)<(↑segments.length:Int)) (Fits segments->Qb list Zp (↑segments.length:Int) fun Qy Hf=>At segments Qy fun y5=>K (Ex.mk (5:Int) (B8 []) y5 [] []) Hf) (w5b list Zp fun Za He=>K (Ex.mk Za.1 Za.2 Za.3 Za.4 Za.5) He)) (Cnd (Qd=4) (InI (levels - 1)/\X list Zp segments (levels - 1) fun Qt Ju=>K (Ex.mk (4:Int) (B8 []) (B8 []) [] [Ex.mk Qt.1 Qt.2 Qt.3 Qt.4 Qt.5]) Ju) (Jn1 (fun Qt=>Cnd (Qt=true) (Qb list Zp (2:Int) fun Za He=>InI ((2:Int)+Za)/\Qb list He (2:Int) fun Qy Hf=>InI ((2:Int)+Qy)/\LpH (fun (Z0:Int×Int×Int×ByteArray×ByteArray×List Val×List Ex×Unit) (w7a:Int×Int×Int×ByteArray×ByteArray×List Val×List Ex×Unit->Prop)=>Cnd (Z0.1<2+Qy) (InI (levels - 1)/\X list Z0.2.1 segments (levels - 1) fun Q9 z85=>Jn1 (fun (W7:Int×ByteArray×ByteArray×List Val×List Ex×Unit)=>Sml (Z0.2.2.2.2.2.2.1++[Ex.mk W7.1 W7.2.1 W7.2.2.1 W7.2.2.2.1 W7.2.2.2.2.1]).length/\InI (Z0.1+1)/\w7a (Z0.1+1,z85,Z0.2.2.1,Z0.2.2.2.1,Z0.2.2.2.2.1,Z0.2.2.2.2.2.1,Z0.2.2.2.2.2.2.1++[Ex.mk W7.1 W7.2.1 W7.2.2.1 W7.2.2.2.1 W7.2.2.2.2.1],())) fun (y2o:Int×ByteArray×ByteArray×List Val×List Ex×Unit->Prop)=>Cnd (Q9.1=2+Za) (y2o ((4:Int),B8 [],B8 [],[],[Ex.mk Q9.1 Q9.2 Q9.3 Q9.4 Q9.5],())) (y2o (Q9.1,Q9.2,Q9.3,Q9.4,Q9.5,()))) (K (Ex.mk Z0.2.2.1 Z0.2.2.2.1 Z0.2.2.2.2.1 Z0.2.2.2.2.2.1 Z0.2.2.2.2.2.2.1) Z0.2.1)) ((0:Int),Hf,(2:Int)+Za,B8 [],B8 [],[],[],())) (w5b list Zp fun Za He=>K (Ex.mk Za.1 Za.2 Za.3 Za.4 Za.5) He)) fun j8k=>Cnd (Qd=5) (j8k (decide (Qd=5))) (j8k (decide (Qd=6))))))) fun w3q=>Cnd (levels<=1) (Cnd ((4:Int)<=Qc) (InI (Qc - 4)/\w3q (Qc - 4)) (w3q Qc)) (w3q Qc)
def z57:q4y:=fun list at_ segments levels K=> ∀X:q4y,(∀list at_ segments levels K,j0t J0 z3b X list at_ segments levels K->X list at_ segments levels K)->X list at_ segments levels K
abbrev q3s:Type:=List (Int)->Int->ByteArray->ByteArray->Int->List (Decl)->List (Seg)->List (Flg)->List (Lay_)->List (Exper)->(Int->ByteArray->ByteArray->Int->List (Decl)->List (Seg)->List (Flg)->List (Lay_)->List (Exper)->Prop)->Prop
def z1m(Qb:Z3)(q1v:z3a)(q3j:q9o)(q3k:q4y):q3s:=fun list at_ salt hkind hold attrs segs flags layers expers K=>Qb list at_ (4:Int) fun Qc Zp=>q1v Qc [B8 [97,108,112,104,97],B8 [98,101,116,97],B8 [103,97,109,109,97]] fun Qd=>Lp3 (fun Qt Ju q7s y2w=>Fits Qd->CAt Qd Qt (fun y4=>q3j list Ju fun Q9 z85=>q3j list z85 fun W7 q8i=>Jn2 (fun Wu v1f=>Jn1 (fun (Wd:Int×ByteArray×ByteArray×List Val×List Ex×Int×Unit)=>Sml (q7s++[Seg.mk y4 Wu Q9 W7 (Ex.mk Wd.1 Wd.2.1 Wd.2.2.1 Wd.2.2.2.1 Wd.2.2.2.2.1)]).length/\InI (Qt+1)/\y2w (Qt+1) Wd.2.2.2.2.2.1 (q7s++[Seg.mk y4 Wu Q9 W7 (Ex.mk Wd.1 Wd.2.1 Wd.2.2.1 Wd.2.2.2.1 Wd.2.2.2.2.1)])) fun (y2p:Int×ByteArray×ByteArray×List Val×List Ex×Int×Unit->Prop)=>Qb list v1f (3:Int) fun Ql Uj=>Cnd ((0:Int)<Ql) (((0:Int)<=(0:Int)/\(0:Int)<=Qt/\Qt<=(↑Qd.length:Int))/\q3k list Uj (List.drop (Int.toNat (0:Int)) (List.take Qt.toNat Qd)) (3:Int) fun W2 z4a=>y2p (W2.1,W2.2,W2.3,W2.4,W2.5,z4a,())) (y2p ((0:Int),B8 [],B8 [],[],[],Uj,()))) fun v32=>Qb list q8i (4:Int) fun Wd z5o=>Cnd (Wd=1) (v32 (B8 [100,101,118,105,99,101]) z5o) (v32 (B8 [117,115,101,114]) z5o)) (K Ju salt hkind hold attrs q7s flags layers expers)) (0:Int) Zp segs
def q7a:q3s:=z1m J0 j0r z55 z57
abbrev q0u:Type:=Envt->(List (ByteArray)->Prop)->Prop
def q0v:q0u:=fun v K=>Lp2 (fun Qc Zp q3l=>Fits v.3->CAt v.3 Zp (fun y2=>Sml (Qc++[y2.1]).length/\InI (Zp+1)/\q3l (Qc++[y2.1]) (Zp+1)) (K Qc)) [] (0:Int)
abbrev q5y:Type:=List (Int)->Int->Int->(List (Rng)->Int->Prop)->Prop
def j11(Qb:Z3)(J1:q0s):q5y:=fun list at_ n K=>Jn4 (fun Qc Zp w7e z9o=>Qb list z9o n fun Qd Z1=>InI ((1:Int)+Qd)/\Jn1 (fun Qt=>Sml (Qc++[Rng.mk Zp (10000:Int) Qt]).length/\K (Qc++[Rng.mk Zp (10000:Int) Qt]) Z1) fun j8k=>Cnd ((1:Int)+Qd=w7e) (n≠(0:Int)/\InI ((1:Int)+((1:Int)+Qd).tmod n)/\j8k ((1:Int)+((1:Int)+Qd).tmod n)) (j8k ((1:Int)+Qd))) fun z84=>Lp5 (fun Qd Z1 j31 j6e y2x y2y=>Qb list y2x (4:Int) fun Qt Ju=>Cnd (j6e<Qt) (Cnd ((1:Int)<n) (InI (Z1+1)/\J1 list Ju (5000:Int) fun Za He=>InI (Z1+1+Za)/\Qb list He n fun Qy Hf=>InI ((1:Int)+Qy)/\Jn1 (fun Z0=>Cnd ((10000:Int)<=Z1+1+Za) (z84 Qd Z1 j31 Hf) (Sml (Qd++[Rng.mk Z1 (Z1+1+Za) Z0]).length/\InI (j6e+1)/\y2y (Qd++[Rng.mk Z1 (Z1+1+Za) Z0]) (Z1+1+Za) Z0 (j6e+1) Hf)) fun y2q=>Cnd ((1:Int)+Qy=j31) (n≠(0:Int)/\InI ((1:Int)+((1:Int)+Qy).tmod n)/\y2q ((1:Int)+((1:Int)+Qy).tmod n)) (y2q ((1:Int)+Qy))) (z84 Qd Z1 j31 Ju)) (z84 Qd Z1 j31 Ju)) [] (0:Int) (0:Int) (0:Int) at_
def z1n:q5y:=j11 J0 q4x
abbrev z1o:Type:=List (Int)->Int->Int->(Srv->Int->Prop)->Prop
def j12(Qb:Z3)(Wt:q0r)(q1w:q5y)(Zs:U2):z1o:=fun list at_ n K=>Qb list at_ (2:Int) fun Qc Zp=>Cnd (Qc=0) (Qb list Zp n fun Qd Z1=>InI ((1:Int)+Qd)/\K (Srv.mk ((1:Int)+Qd) (B8 []) (B8 []) (B8 []) []) Z1) (Wt list Zp fun Qd Z1=>q1w list Z1 n fun Qt Ju=>Zs fun Za=>Qb list Ju (12:Int) fun Qy Hf=>Fits Za->CAt Za Qy (fun y6=>Cnd (y6.3=5) (K (Srv.mk (0:Int) (B8 [117,115,101,114]) (B8 [107,101,121]) Qd Qt) Hf) (At Za Qy fun y8=>At Za Qy fun y10=>K (Srv.mk (0:Int) y8.1 y10.2 Qd Qt) Hf)) (K (Srv.mk (0:Int) (B8 [117,115,101,114]) (B8 [107,101,121]) Qd Qt) Hf))
def z58:z1o:=j12 J0 q9n z1n Hj
abbrev z59:Type:=(List (Nd)->(Nd->Option (Int))->Bool->Prop)->Prop
def z6a:z59:=fun K=>K [] (fun _=>none) false
abbrev Hk:Type:=Int->(Bool->Prop)->Prop
def Zl:Hk:=fun op K=>Cnd ((6:Int)<=op) (K (decide (op<=15))) (K false)
abbrev z6b:Type:=List (ByteArray)->List (ByteArray)->(Bool->Prop)->Prop
def q8q:z6b:=fun a b K=>Fits a->Fits b->Cnd ((↑a.length:Int)=(↑b.length:Int)) (Lp1 (fun Qt j8l=>Fits a->CAt a Qt (fun y4=>At b Qt fun y6=>Cnd (y4=y6) (InI (Qt+1)/\j8l (Qt+1)) (K false)) (K true)) (0:Int)) (K false)
abbrev q8r:Type:=Val->Val->(Bool->Prop)->Prop
def z3c(z7e:z6b):q8r:=fun a b K=>Cnd (a.1=b.1) (Cnd (a.2=b.2) (Cnd (a.3=b.3) (z7e a.4 b.4 fun Qc=>K Qc) (K false)) (K false)) (K false)
def q5j:q8r:=z3c q8q
abbrev q0w:Type:=List (Val)->List (Val)->(Bool->Prop)->Prop
def q0x(z3v:q8r):q0w:=fun a b K=>Fits a->Fits b->Cnd ((↑a.length:Int)=(↑b.length:Int)) (Lp1 (fun Qt j8l=>Fits a->CAt a Qt (fun y4=>At b Qt fun y6=>z3v y4 y6 fun Wu=>Cnd (Wu=true) (InI (Qt+1)/\j8l (Qt+1)) (K false)) (K true)) (0:Int)) (K false)
def Z4:q0w:=q0x q5j
abbrev Vz:Type:=Ex->Ex->(Bool->Prop)->Prop
def U9(j3x:q0w)(X:Vz):Vz:=fun a b K=>Cnd (a.1=b.1) (Cnd (a.2=b.2) (Cnd (a.3=b.3) (j3x a.4 b.4 fun Qc=>Cnd (Qc=true) (Fits a.5->Fits b.5->Cnd ((↑a.5.length:Int)=(↑b.5.length:Int)) (Lp1 (fun Za w7f=>Fits a.5->CAt a.5 Za (fun y5=>At b.5 Za fun y7=>X (Ex.mk y5.1 y5.2 y5.3 y5.4 y5.5) (Ex.mk y7.1 y7.2 y7.3 y7.4 y7.5) fun Wd=>Cnd (Wd=true) (InI (Za+1)/\w7f (Za+1)) (K false)) (K true)) (0:Int)) (K false)) (K false)) (K false)) (K false)) (K false)
def J3:Vz:=fun a b K=> ∀X:Vz,(∀a b K,U9 Z4 X a b K->X a b K)->X a b K
abbrev q5z:Type:=List (Ex)->Ex->(Int->Prop)->Prop
def q9p(q5c:Vz):q5z:=fun l e K=>Lp1 (fun Qc q4m=>Fits l->CAt l Qc (fun y2=>q5c (Ex.mk y2.1 y2.2 y2.3 y2.4 y2.5) (Ex.mk e.1 e.2 e.3 e.4 e.5) fun Qy=>Cnd (Qy=true) (K Qc) (InI (Qc+1)/\q4m (Qc+1))) (K (-1:Int))) (0:Int)
def Zx:q5z:=q9p J3
abbrev Va:Type:=List (Ex)->Ex->(List (Ex)->Prop)->Prop
def Ug(z0l:q5z)(Z7:Hk)(X:Va):Va:=fun l e K=>Jn1 (fun Qc=>Lp2 (fun Qd Z1 z2w=>Fits e.5->CAt e.5 Z1 (fun y3=>X Qd (Ex.mk y3.1 y3.2 y3.3 y3.4 y3.5) fun Z0=>InI (Z1+1)/\z2w Z0 (Z1+1)) (K Qd)) Qc (0:Int)) fun z84=>Cnd (e.1=5) (z0l l (Ex.mk e.1 e.2 e.3 e.4 e.5) fun Qd=>Cnd (Qd<0) ((Sml ([]++l).length/\Sml ([]++l++[Ex.mk e.1 e.2 e.3 e.4 e.5]).length/\z84 ([]++l++[Ex.mk e.1 e.2 e.3 e.4 e.5]))/\Sml ([]++l).length/\Sml ([]++l++[Ex.mk e.1 e.2 e.3 e.4 e.5]).length/\z84 ([]++l++[Ex.mk e.1 e.2 e.3 e.4 e.5])) (z84 l)) (Z7 e.1 fun Qd=>Cnd (Qd=true) (z0l l (Ex.mk e.1 e.2 e.3 e.4 e.5) fun Qt=>Cnd (Qt<0) ((Sml ([]++l).length/\Sml ([]++l++[Ex.mk e.1 e.2 e.3 e.4 e.5]).length/\z84 ([]++l++[Ex.mk e.1 e.2 e.3 e.4 e.5]))/\Sml ([]++l).length/\Sml ([]++l++[Ex.mk e.1 e.2 e.3 e.4 e.5]).length/\z84 ([]++l++[Ex.mk e.1 e.2 e.3 e.4 e.5])) (z84 l)) (z84 l))
def J2:Va:=fun l e K=> ∀X:Va,(∀l e K,Ug Zx Zl X l e K->X l e K)->X l e K
abbrev Hl:Type:=List (Rul)->(List (Ex)->Prop)->Prop
def q0y(q3m:Va):Hl:=fun l K=>Lp2 (fun Qc Zp q3l=>Fits l->CAt l Zp (fun y2=>q3m Qc (Ex.mk y2.2.1 y2.2.2 y2.2.3 y2.2.4 y2.2.5) fun Qy=>InI (Zp+1)/\q3l Qy (Zp+1)) (K Qc)) [] (0:Int)
def Um:Hl:=q0y J2
abbrev Wh:Type:=List (Nd)->(Nd->Option (Int))->Bool->Int->(Bool->List (Nd)->(Nd->Option (Int))->Bool->Prop)->Prop
def W8:Wh:=fun ns ids full id K=>Cnd ((-1002:Int)<id) (Fits ns->K (decide (id<(↑ns.length:Int))) ns ids full) (K false ns ids full)
abbrev Bf:Type:=List (Nd)->(Nd->Option (Int))->Bool->Int->((Int->Option (Bool))->List (Nd)->(Nd->Option (Int))->Bool->Prop)->Prop
def Vr:Bf:=fun ns ids full id K=>Lp2 (fun Qc q4m q3l=>Fits Qc->Cnd ((0:Int)<(↑Qc.length:Int)) (Fits Qc->InI ((↑Qc.length:Int) - 1)/\((0:Int)<=(↑Qc.length:Int) - 1/\(↑Qc.length:Int) - 1<(↑Qc.length:Int))/\ ∀y3,Qc[((↑Qc.length:Int) - 1).toNat]? =some y3->Fits Qc->InI ((↑Qc.length:Int) - 1)/\((0:Int)<=(↑Qc.length:Int) - 1/\(↑Qc.length:Int) - 1<=(↑Qc.length:Int))/\Cnd ((q4m y3).getD false=true) (q3l (List.take ((↑Qc.length:Int) - 1).toNat Qc) q4m) (Cnd ((0:Int)<=y3) (At ns y3 fun y6=>At ns y3 fun y8=>Sml (List.take ((↑Qc.length:Int) - 1).toNat Qc++[y6.2.1,y8.2.2]).length/\q3l (List.take ((↑Qc.length:Int) - 1).toNat Qc++[y6.2.1,y8.2.2]) (put q4m y3 true)) (q3l (List.take ((↑Qc.length:Int) - 1).toNat Qc) (put q4m y3 true)))) (K q4m ns ids full)) [id] fun _=>none
abbrev Un:Type:=List (Nd)->(Nd->Option (Int))->Bool->Int->(List (Int)->List (Nd)->(Nd->Option (Int))->Bool->Prop)->Prop
def q2f(Q0:Wh)(Bo:Bf):Un:=fun ns ids full id K=>Q0 ns ids full id fun Qc (Zp:List (Int×Int×Int)) q3l z9o=>Cnd (Qc=true) (Bo Zp q3l z9o id fun w3q (Z1:List (Int×Int×Int)) z2w j6e=>Lp2 (fun Qt Ju q8j=>Cnd (Ju<=1000) (InI ((-1:Int) - Ju)/\Cnd ((w3q ((-1:Int) - Ju)).getD false=true) (Sml (Qt++[Ju]).length/\InI (Ju+1)/\q8j (Qt++[Ju]) (Ju+1)) (InI (Ju+1)/\q8j Qt (Ju+1))) (K Qt Z1 z2w j6e)) [] (0:Int)) (K [] Zp q3l z9o)
def Vd:Un:=q2f W8 Vr
abbrev Zj:Type:=List (Nd)->(Nd->Option (Int))->Bool->Int->(Bool->List (Nd)->(Nd->Option (Int))->Bool->Prop)->Prop
def R2(Q0:Wh)(Rt:Un):Zj:=fun ns ids full id K=>Q0 ns ids full id fun Qc (Zp:List (Int×Int×Int)) q3l z9o=>Cnd (Qc=true) (Rt Zp q3l z9o id fun Qd (Z1:List (Int×Int×Int)) z2w j6e=>Lp1 (fun Qt j8l=>Fits Qd->CAt Qd Qt (fun y4=>Cnd ((1:Int)<y4) (K false Z1 z2w j6e) (InI (Qt+1)/\j8l (Qt+1))) (K true Z1 z2w j6e)) (0:Int)) (K false Zp q3l z9o)
def Zw:Zj:=R2 W8 Vd
abbrev Uh:Type:=List (Nd)->(Nd->Option (Int))->Bool->Int->(Int->List (Nd)->(Nd->Option (Int))->Bool->Prop)->Prop
def Zo:Uh:=fun ns ids full id K=>Cnd (id<0) (K (1001:Int) ns ids full) (At ns id fun y0=>K y0.1 ns ids full)
abbrev Bg:Type:=List (Nd)->(Nd->Option (Int))->Bool->Int->Int->(Int->Int->List (Nd)->(Nd->Option (Int))->Bool->Prop)->Prop
def q4b(Zq:Uh):Bg:=fun ns ids full id test K=>Zq ns ids full id fun Qc (Zp:List (Int×Int×Int)) q3l z9o=>Cnd (Qc=test) (At Zp id fun y1=>At Zp id fun y3=>K y1.2.1 y3.2.2 Zp q3l z9o) (K id id Zp q3l z9o)
def Zk:Bg:=q4b Zo
abbrev Hm:Type:=List (Nd)->(Nd->Option (Int))->Bool->Int->Int->Int->(Int->List (Nd)->(Nd->Option (Int))->Bool->Prop)->Prop
def q50(Q0:Wh)(Zq:Uh):Hm:=fun ns ids full test yes no K=>Cnd (test<0) (K (-1002:Int) ns ids full) (Cnd ((1000:Int)<test) (K (-1002:Int) ns ids full) (Q0 ns ids full yes fun Qc (Zp:List (Int×Int×Int)) q3l z9o=>Cnd (Qc=true) (Q0 Zp q3l z9o no fun Qd (Z1:List (Int×Int×Int)) z2w j6e=>Cnd (Qd=true) (Zq Z1 z2w j6e yes fun Qt (Ju:List (Int×Int×Int)) q8j j32=>Cnd (Qt<=test) (K (-1002:Int) Ju q8j j32) (Zq Ju q8j j32 no fun Za (He:List (Int×Int×Int)) j04 v1g=>Cnd (Za<=test) (K (-1002:Int) He j04 v1g) (Cnd (yes=no) (K yes He j04 v1g) (Cnd ((j04 (test,yes,no)).isSome=true) (K ((j04 (test,yes,no)).getD (0:Int)) He j04 v1g) (Fits He->Cnd ((4000:Int)<=(↑He.length:Int)) (K (-1002:Int) He j04 true) (Fits He->Sml (He++[(test,yes,no)]).length/\((He++[(test,yes,no)]).length<=(9223372036854775807:Nat)->InI ((↑(He++[(test,yes,no)]).length:Int) - 1)/\K ((↑(He++[(test,yes,no)]).length:Int) - 1) (He++[(test,yes,no)]) (put j04 (test,yes,no) (↑He.length:Int)) v1g))))))) (K (-1002:Int) Z1 z2w j6e)) (K (-1002:Int) Zp q3l z9o)))
def Qw:Hm:=q50 W8 Zo
abbrev Jv:Type:=List (Nd)->(Nd->Option (Int))->Bool->Int->Int->Int->(A3->Option (Int))->(Int->List (Nd)->(Nd->Option (Int))->Bool->(A3->Option (Int))->Prop)->Prop
def Z8(Zq:Uh)(q4n:Bg)(q64:Hm)(X:Jv):Jv:=fun ns ids full f g h known K=>Cnd (f=(-2:Int)) (K g ns ids full known) (Cnd (g=h) (K g ns ids full known) (Cnd (f=(-1:Int)) (K h ns ids full known) (Cnd ((known (f,g,h)).isSome=true) (K ((known (f,g,h)).getD (0:Int)) ns ids full known) (Zq ns ids full f fun Qc (Zp:List (Int×Int×Int)) q3l z9o=>Zq Zp q3l z9o g fun Qd (Z1:List (Int×Int×Int)) z2w j6e=>Zq Z1 z2w j6e h fun Qt (Ju:List (Int×Int×Int)) q8j j32=>q4n Ju q8j j32 f (Min.min (Min.min Qc Qd) Qt) fun Za He (y2z:List (Int×Int×Int)) y24 y28=>q4n y2z y24 y28 g (Min.min (Min.min Qc Qd) Qt) fun Qy Hf (z7m:List (Int×Int×Int)) v76 y29=>q4n z7m v76 y29 h (Min.min (Min.min Qc Qd) Qt) fun Z0 j05 (y3a:List (Int×Int×Int)) y3b y3c=>X y3a y3b y3c Za Qy Z0 known fun Q9 (z85:List (Int×Int×Int)) v1h y1v y3d=>X z85 v1h y1v He Hf j05 y3d fun W7 (q8i:List (Int×Int×Int)) v1i v77 y3e=>Jn4 (fun Wu (v1f:List (Int×Int×Int)) y3f y3g=>K Wu v1f y3g y3f (put y3e (f,g,h) Wu)) fun v32=>Cnd (Q9=(-1002:Int)) (v32 (-1002:Int) q8i v77 v1i) (Cnd (W7=(-1002:Int)) (v32 (-1002:Int) q8i v77 v1i) (q64 q8i v1i v77 (Min.min (Min.min Qc Qd) Qt) Q9 W7 fun Wd (z5o:List (Int×Int×Int)) v7n v9z=>v32 Wd z5o v9z v7n))))))
def Zu:Jv:=fun ns ids full f g h known K=> ∀X:Jv,(∀ns ids full f g h known K,Z8 Zo Zk Qw X ns ids full f g h known K->X ns ids full f g h known K)->X ns ids full f g h known K
abbrev Z9:Type:=List (Nd)->(Nd->Option (Int))->Bool->Int->Int->Int->(Int->List (Nd)->(Nd->Option (Int))->Bool->Prop)->Prop
def q2g(Qp:Zj)(Q0:Wh)(Ru:Jv):Z9:=fun ns ids full f g h K=>Qp ns ids full f fun Qc (Zp:List (Int×Int×Int)) q3l z9o=>Cnd (Qc=true) (Q0 Zp q3l z9o g fun Qd (Z1:List (Int×Int×Int)) z2w j6e=>Cnd (Qd=true) (Q0 Z1 z2w j6e h fun Qt (Ju:List (Int×Int×Int)) q8j j32=>Cnd (Qt=true) (Ru Ju q8j j32 f g h (fun _=>none) fun Za (He:List (Int×Int×Int)) j04 v1g _=>K Za He j04 v1g) (K (-1002:Int) Ju q8j j32)) (K (-1002:Int) Z1 z2w j6e)) (K (-1002:Int) Zp q3l z9o)
def Jw:Z9:=q2g Zw W8 Zu
abbrev q27:Type:=List (Nd)->(Nd->Option (Int))->Bool->Int->(Int->List (Nd)->(Nd->Option (Int))->Bool->Prop)->Prop
def q71(Q5:Z9):q27:=fun ns ids full f K=>Q5 ns ids full f (-1:Int) (-2:Int) fun Qc (Zp:List (Int×Int×Int)) q3l z9o=>K Qc Zp q3l z9o
def Jh:q27:=q71 Jw
abbrev q28:Type:=List (Nd)->(Nd->Option (Int))->Bool->Int->Int->(Int->List (Nd)->(Nd->Option (Int))->Bool->Prop)->Prop
def q72(Qp:Zj)(Q5:Z9):q28:=fun ns ids full f g K=>Qp ns ids full g fun Qc (Zp:List (Int×Int×Int)) q3l z9o=>Cnd (Qc=true) (Q5 Zp q3l z9o f g (-1:Int) fun Qd (Z1:List (Int×Int×Int)) z2w j6e=>K Qd Z1 z2w j6e) (K (-1002:Int) Zp q3l z9o)
def Ji:q28:=q72 Zw Jw
abbrev Rd:Type:=List (Nd)->(Nd->Option (Int))->Bool->Int->Int->(Int->List (Nd)->(Nd->Option (Int))->Bool->Prop)->Prop
def q9q(Qp:Zj)(Q5:Z9):Rd:=fun ns ids full f g K=>Qp ns ids full g fun Qc (Zp:List (Int×Int×Int)) q3l z9o=>Cnd (Qc=true) (Q5 Zp q3l z9o f (-2:Int) g fun Qd (Z1:List (Int×Int×Int)) z2w j6e=>K Qd Z1 z2w j6e) (K (-1002:Int) Zp q3l z9o)
def Jn:Rd:=q9q Zw Jw
abbrev Wl:Type:=List (Nd)->(Nd->Option (Int))->Bool->List (Ex)->Ex->(Int->List (Nd)->(Nd->Option (Int))->Bool->Prop)->Prop
def Vi(j4y:q27)(j4z:q28)(Rv:Rd)(z0l:q5z)(q64:Hm)(X:Wl):Wl:=fun ns ids full atoms e K=>Cnd (e.1=1) (K (-2:Int) ns ids full) (Cnd (e.1=4) (((0:Int)<=(0:Int)/\(0:Int)<(↑e.5.length:Int))/\ ∀y0,e.5[Int.toNat (0:Int)]? =some y0->X ns ids full atoms (Ex.mk y0.1 y0.2 y0.3 y0.4 y0.5) fun Qt (Ju:List (Int×Int×Int)) q8j j32=>j4y Ju q8j j32 Qt fun Za (He:List (Int×Int×Int)) j04 v1g=>K Za He j04 v1g) (Jn1 (fun Qc=>Cnd (Qc=true) (((0:Int)<=(0:Int)/\(0:Int)<(↑e.5.length:Int))/\ ∀y1,e.5[Int.toNat (0:Int)]? =some y1->X ns ids full atoms (Ex.mk y1.1 y1.2 y1.3 y1.4 y1.5) fun Za (He:List (Int×Int×Int)) j04 v1g=>Lp5 (fun Qy Hf (z7m:List (Int×Int×Int)) v33 v7o y2r=>Fits e.5->CAt e.5 Hf (fun y6=>X z7m v7o v33 atoms (Ex.mk y6.1 y6.2 y6.3 y6.4 y6.5) fun Wu (v1f:List (Int×Int×Int)) y2s y2t=>Cnd (e.1=2) (j4z v1f y2s y2t Qy Wu fun Wd (z5o:List (Int×Int×Int)) v7n v9z=>InI (Hf+1)/\y2r Wd (Hf+1) z5o v9z v7n) (Rv v1f y2s y2t Qy Wu fun Wd (z5o:List (Int×Int×Int)) v7n v9z=>InI (Hf+1)/\y2r Wd (Hf+1) z5o v9z v7n)) (K Qy z7m v7o v33)) Za (1:Int) He v1g j04) (z0l atoms (Ex.mk e.1 e.2 e.3 e.4 e.5) fun Qd=>Cnd (Qd<0) (K (-1002:Int) ns ids full) (q64 ns ids full Qd (-2:Int) (-1:Int) fun Qt (Ju:List (Int×Int×Int)) q8j j32=>K Qt Ju q8j j32))) fun z84=>Cnd (e.1=2) (z84 (decide (e.1=2))) (z84 (decide (e.1=3)))))
def Jj:Wl:=fun ns ids full atoms e K=> ∀X:Wl,(∀ns ids full atoms e K,Vi Jh Ji Jn Zx Qw X ns ids full atoms e K->X ns ids full atoms e K)->X ns ids full atoms e K
abbrev We:Type:=List (Rul)->(List (Int)->Int->Bool->Prop)->Prop
def Re(z7f:z59)(q1x:Hl)(q1y:Wl)(Rv:Rd):We:=fun l K=>z7f fun (Qc:List (Int×Int×Int)) q4m w7e=>q1x l fun Qd=>LpH (fun Qt j8l=>Fits l->CAt l Qt.2.2.1 (fun y4=>q1y Qt.2.2.2.1 Qt.2.2.2.2.2.1 Qt.2.2.2.2.1 Qd (Ex.mk y4.2.1 y4.2.2 y4.2.3 y4.2.4 y4.2.5) fun Q9 (z85:List (Int×Int×Int)) v1h y1v=>Rv z85 v1h y1v Qt.1 Q9 fun W7 (q8i:List (Int×Int×Int)) v1i v77=>Cnd (W7=(-1002:Int)) (Fits q8i->K [] (↑q8i.length:Int) false) (Cnd (W7=Qt.1) (InI (Qt.2.2.1+1)/\Sml (Qt.2.1++[Qt.2.2.1+1]).length/\InI (Qt.2.2.1+1)/\j8l (W7,Qt.2.1++[Qt.2.2.1+1],Qt.2.2.1+1,q8i,v77,v1i,())) (InI (Qt.2.2.1+1)/\j8l (W7,Qt.2.1,Qt.2.2.1+1,q8i,v77,v1i,())))) (Fits Qt.2.2.2.1->K Qt.2.1 (↑Qt.2.2.2.1.length:Int) true)) ((-1:Int),[],(0:Int),Qc,w7e,q4m,())
def Zv:We:=Re z6a Um Jj Jn
abbrev z1p:Type:=List (Int)->Int->ByteArray->(Lay_->Int->Prop)->Prop
def j13(Wt:q0r)(Qb:Z3)(J1:q0s):z1p:=fun list at_ key K=>Wt list at_ fun Qc Zp=>Qb list Zp (3:Int) fun Qd Z1=>InI (Qd*50)/\Jn2 (fun Qt Ju=>Jn2 (fun Za He=>Lp4 (fun Qy Hf z7m v33 v7o=>Qb list v33 (3:Int) fun Z0 j05=>Cnd (Hf<Z0) (J1 list j05 (3000:Int) fun Q9 z85=>InI (Qy+Q9)/\InI (Qy+Q9+1)/\J1 list z85 (2000:Int) fun W7 q8i=>InI (Qy+Q9+1+W7)/\Cnd ((10000:Int)<Qy+Q9+1+W7) (K (Lay_.mk key Qt Qc Za (Qd*50) z7m) q8i) (Qb list q8i (200:Int) fun Wu v1f=>Sml (z7m++[Col.mk (Qy+Q9) (Qy+Q9+1+W7) Wu]).length/\InI (Hf+1)/\v7o (Qy+Q9+1+W7) (Hf+1) (z7m++[Col.mk (Qy+Q9) (Qy+Q9+1+W7) Wu]) v1f)) (K (Lay_.mk key Qt Qc Za (Qd*50) z7m) j05)) (0:Int) (0:Int) [] He) fun v43=>Qb list Ju (2:Int) fun Qy Hf=>Cnd (Qy=1) (J1 list Hf (3000:Int) fun Z0 j05=>v43 Z0 j05) (v43 (0:Int) Hf)) fun j8k=>Qb list Z1 (4:Int) fun Za He=>Cnd (Za=1) (j8k (B8 [100,101,118,105,99,101]) He) (j8k (B8 [117,115,101,114]) He)
def z6c:z1p:=j13 q9n J0 q4x
abbrev z3d:Type:=Int->(Bool->Prop)->Prop
def z3e:z3d:=fun now K=>Cnd ((0:Int)<=now) (K (decide (now<=1099511627776))) (K false)
abbrev V0:Type:=Envt->ByteArray->(Int->Prop)->Prop
def q0z:V0:=fun v key K=>Lp1 (fun Qc q4m=>Fits v.5->CAt v.5 Qc (fun y2=>Cnd (y2.1=key) (K Qc) (InI (Qc+1)/\q4m (Qc+1))) (K (-1:Int))) (0:Int)
abbrev Uo:Type:=List (Col)->Int->(List (Int)->Prop)->Prop
def Vj:Uo:=fun l now K=>((0:Int)<=(10000:Int)/\(10000:Int)<=(10000:Int)/\Sml (Int.toNat (10000:Int)))/\Lp2 (fun Qc Zp q3l=>Fits Zp->CAt Zp Qc (fun _=>InI (Qc+1)/\q3l (Qc+1) (Zp.set Qc.toNat now)) (Lp2 (fun Qt Ju q8j=>Fits l->CAt l Qt (fun y4=>Lp2 (fun Q9 z85 v1h=>At l Qt fun y7=>Cnd (Q9<Min.min y7.2 (10000:Int)) (At z85 Q9 fun y9=>At l Qt fun y11=>At z85 Q9 fun _=>InI (Q9+1)/\v1h (Q9+1) (z85.set Q9.toNat (Max.max y9 y11.3))) (InI (Qt+1)/\q8j (Qt+1) z85)) (Max.max y4.1 (0:Int)) Ju) (K Ju)) (0:Int) Zp)) (0:Int) (List.replicate (Int.toNat (10000:Int)) (0:Int))
abbrev Wy:Type:=List (Bool)->(List (Spn)->Prop)->Prop
def Ui:Wy:=fun set_ K=>Lp2 (fun Qc Zp q3l=>Fits set_->CAt set_ Zp (fun y2=>Cnd (y2=true) (Cnd ((0:Int)<Zp) (InI (Zp - 1)/\((0:Int)<=Zp - 1/\Zp - 1<(↑set_.length:Int))/\ ∀y4,set_[(Zp - 1).toNat]? =some y4->Cnd (y4=true) (Fits Qc->InI ((↑Qc.length:Int) - 1)/\InI (Zp+1)/\((0:Int)<=(↑Qc.length:Int) - 1/\(↑Qc.length:Int) - 1<(↑Qc.length:Int))/\ ∀y7,Qc[((↑Qc.length:Int) - 1).toNat]? =some y7->InI (Zp+1)/\q3l (Qc.set ((↑Qc.length:Int) - 1).toNat (Spn.mk y7.1 (Zp+1))) (Zp+1)) (InI (Zp+1)/\Sml (Qc++[Spn.mk Zp (Zp+1)]).length/\InI (Zp+1)/\q3l (Qc++[Spn.mk Zp (Zp+1)]) (Zp+1))) (InI (Zp+1)/\Sml (Qc++[Spn.mk Zp (Zp+1)]).length/\InI (Zp+1)/\q3l (Qc++[Spn.mk Zp (Zp+1)]) (Zp+1))) (InI (Zp+1)/\q3l Qc (Zp+1))) (K Qc)) [] (0:Int)
abbrev q51:Type:=List (Int)->Int->(List (Spn)->Prop)->Prop
def z4y(Q7:Wy):q51:=fun until_ now K=>Fits until_->((0:Int)<=(↑until_.length:Int)/\(↑until_.length:Int)<=(↑until_.length:Int)/\Sml (↑until_.length:Int).toNat)/\Lp2 (fun Qd Z1 z2w=>Fits until_->CAt until_ Qd (fun y3=>At Z1 Qd fun _=>InI (Qd+1)/\z2w (Qd+1) (Z1.set Qd.toNat (decide (now<y3)))) (Q7 Z1 fun Za=>K Za)) (0:Int) (List.replicate (↑until_.length:Int).toNat false)
def q9r:q51:=z4y Ui
abbrev Gs:Type:=List (Spn)->(List (Bool)->Prop)->Prop
def R7:Gs:=fun l K=>((0:Int)<=(10000:Int)/\(10000:Int)<=(10000:Int)/\Sml (Int.toNat (10000:Int)))/\Lp2 (fun Qc Zp q3l=>Fits l->CAt l Qc (fun y2=>Lp2 (fun Qy Hf v7p=>At l Qc fun y5=>Cnd (Qy<Min.min y5.2 (10000:Int)) (At Hf Qy fun _=>InI (Qy+1)/\v7p (Qy+1) (Hf.set Qy.toNat true)) (InI (Qc+1)/\q3l (Qc+1) Hf)) (Max.max y2.1 (0:Int)) Zp) (K Zp)) (0:Int) (List.replicate (Int.toNat (10000:Int)) false)
abbrev q52:Type:=List (Spn)->List (Spn)->(List (Spn)->Prop)->Prop
def z4z(Zn:Gs)(Q7:Wy):q52:=fun a b K=>Zn a fun Qc=>Zn b fun Qd=>Lp2 (fun Qt Ju q8j=>Fits Ju->CAt Ju Qt (fun y4=>Cnd (y4=true) (At Ju Qt fun _=>InI (Qt+1)/\q8j (Qt+1) (Ju.set Qt.toNat true)) (At Qd Qt fun y6=>At Ju Qt fun _=>InI (Qt+1)/\q8j (Qt+1) (Ju.set Qt.toNat y6))) (Q7 Ju fun Qy=>K Qy)) (0:Int) Qc
def q9s:q52:=z4z R7 Ui
abbrev q53:Type:=Envt->ByteArray->ByteArray->Int->(List (Spn)->Prop)->Prop
def z40(Zz:V0)(B5:q52)(Jl:Uo)(q23:q51):q53:=fun v layer but now K=>Zz (Envt.mk (Sett.mk v.1.1 v.1.2 v.1.3) v.2 v.3 v.4 v.5 v.6) layer fun Qc=>Cnd (Qc<0) (K []) (Jn1 (fun Qd=>Lp2 (fun Qt Ju q8j=>Fits v.6->CAt v.6 Ju (fun y4=>Cnd (y4.2=layer) (Cnd (y4.1=but) (InI (Ju+1)/\q8j Qt (Ju+1)) (Cnd (y4.5=3) (InI (Ju+1)/\q8j Qt (Ju+1)) (B5 Qt y4.6 fun Q9=>InI (Ju+1)/\q8j Q9 (Ju+1)))) (InI (Ju+1)/\q8j Qt (Ju+1))) (K Qt)) Qd (0:Int)) fun w3q=>At v.5 Qc fun y2=>At v.5 Qc fun y4=>(Jl y4.6 now fun Q9=>q23 Q9 now fun W7=>B5 [Spn.mk (0:Int) y2.4] W7 fun Wu=>w3q Wu)/\Jl y4.6 now fun Q9=>(q23 Q9 now fun W7=>B5 [Spn.mk (0:Int) y2.4] W7 fun Wu=>w3q Wu)/\q23 Q9 now fun W7=>B5 [Spn.mk (0:Int) y2.4] W7 fun Wu=>w3q Wu)
def q9t:q53:=z40 q0z q9s Vj q9r
abbrev Ga:Type:=List (Spn)->List (Spn)->(List (Spn)->Prop)->Prop
def q9u(Zn:Gs)(Q7:Wy):Ga:=fun a b K=>Zn a fun Qc=>Zn b fun Qd=>Lp2 (fun Qt Ju q8j=>Fits Ju->CAt Ju Qt (fun y4=>Cnd (y4=true) (At Qd Qt fun y6=>At Ju Qt fun _=>InI (Qt+1)/\q8j (Qt+1) (Ju.set Qt.toNat (match decide ((flC C.bool y6).1=true) with|true=>false|false=>true))) (At Ju Qt fun _=>InI (Qt+1)/\q8j (Qt+1) (Ju.set Qt.toNat false))) (Q7 Ju fun Qy=>K Qy)) (0:Int) Qc
def Hn:Ga:=q9u R7 Ui
abbrev q8s:Type:=Envt->ByteArray->Int->(List (Spn)->Int->Prop)->Prop
def z74(z3w:z3d)(Zz:V0)(z0m:q53)(J8:Ga):q8s:=fun v layer now K=>z3w now fun Qc=>Cnd (Qc=true) (Zz (Envt.mk (Sett.mk v.1.1 v.1.2 v.1.3) v.2 v.3 v.4 v.5 v.6) layer fun Qd=>Cnd (Qd<0) (K [] (11:Int)) (z0m (Envt.mk (Sett.mk v.1.1 v.1.2 v.1.3) v.2 v.3 v.4 v.5 v.6) layer (B8 []) now fun Qt=>J8 [Spn.mk (0:Int) (10000:Int)] Qt fun Za=>K Za (0:Int))) (K [] (3:Int))
def z3f:q8s:=z74 z3e q0z q9t Hn
abbrev q54:Type:=List (Spn)->Int->(List (Spn)->Prop)->Prop
def z41(Zn:Gs)(Q7:Wy):q54:=fun l n K=>Zn l fun Qc=>Lp3 (fun Qd Z1 j31 w69=>Fits j31->CAt j31 Z1 (fun y3=>Cnd (y3=true) (Cnd (Qd<=0) (At j31 Z1 fun _=>InI (Z1+1)/\w69 Qd (Z1+1) (j31.set Z1.toNat false)) (At j31 Z1 fun y5=>Cnd (y5=true) (InI (Qd - 1)/\InI (Z1+1)/\w69 (Qd - 1) (Z1+1) j31) (InI (Z1+1)/\w69 Qd (Z1+1) j31))) (At j31 Z1 fun y5=>Cnd (y5=true) (InI (Qd - 1)/\InI (Z1+1)/\w69 (Qd - 1) (Z1+1) j31) (InI (Z1+1)/\w69 Qd (Z1+1) j31))) (Q7 j31 fun Za=>K Za)) n (0:Int) Qc
def q9v:q54:=z41 R7 Ui
abbrev q00:Type:=ByteArray->(Bool->Prop)->Prop
def V1(s:ByteArray)(K:Bool->Prop):Prop:=s.size<=(9223372036854775807:Nat)/\K (Go.Lib.validD s.data.toList)
abbrev Jx:Type:=ByteArray->(Bool->Prop)->Prop
def z3g(Hb:q00):Jx:=fun s K=>Cnd ((200:Int)<(↑s.size:Int)) (K false) (Hb s fun Qc=>Cnd (Qc=true) (Lp1 (fun Qd q4q=>Cnd (Qd<(↑s.size:Int)) (((0:Int)<=Qd/\Qd<(↑s.size:Int))/\ ∀b2,s[Qd.toNat]? =some b2->Cnd ((↑b2.toNat:Int)<32) (K false) (((0:Int)<=Qd/\Qd<(↑s.size:Int))/\ ∀b4,s[Qd.toNat]? =some b4->Cnd ((↑b4.toNat:Int)=127) (K false) (InI (Qd+1)/\q4q (Qd+1)))) (K true)) (0:Int)) (K false))
def Vs:Jx:=z3g V1
abbrev z6d:Type:=ByteArray->(Bool->Prop)->Prop
def q8t:z6d:=fun s K=>Lp1 (fun Qc q4m=>Cnd (Qc<(↑s.size:Int)) (((0:Int)<=Qc/\Qc<(↑s.size:Int))/\ ∀b1,s[Qc.toNat]? =some b1->Cnd ((97:Int)<=(↑b1.toNat:Int)) (Cnd ((↑b1.toNat:Int)<=122) (InI (Qc+1)/\q4m (Qc+1)) (Cnd (Qc=0) (K false) (Cnd ((48:Int)<=(↑b1.toNat:Int)) (Cnd ((↑b1.toNat:Int)<=57) (InI (Qc+1)/\q4m (Qc+1)) (Cnd ((↑b1.toNat:Int)=45) (InI (Qc+1)/\q4m (Qc+1)) (Cnd ((↑b1.toNat:Int)=95) (InI (Qc+1)/\q4m (Qc+1)) (K false)))) (Cnd ((↑b1.toNat:Int)=45) (InI (Qc+1)/\q4m (Qc+1)) (Cnd ((↑b1.toNat:Int)=95) (InI (Qc+1)/\q4m (Qc+1)) (K false)))))) (Cnd (Qc=0) (K false) (Cnd ((48:Int)<=(↑b1.toNat:Int)) (Cnd ((↑b1.toNat:Int)<=57) (InI (Qc+1)/\q4m (Qc+1)) (Cnd ((↑b1.toNat:Int)=45) (InI (Qc+1)/\q4m (Qc+1)) (Cnd ((↑b1.toNat:Int)=95) (InI (Qc+1)/\q4m (Qc+1)) (K false)))) (Cnd ((↑b1.toNat:Int)=45) (InI (Qc+1)/\q4m (Qc+1)) (Cnd ((↑b1.toNat:Int)=95) (InI (Qc+1)/\q4m (Qc+1)) (K false)))))) (K (decide ((0:Int)<(↑s.size:Int))))) (0:Int)
abbrev q4z:Type:=(List (ByteArray)->Prop)->Prop
def Rf:q4z:=fun K=>K [B8 [97,110,100],B8 [97,114,109,115],B8 [97,116,116,114,105,98,117,116,101],B8 [98,111,111,108],B8 [99,108,97,105,109,115],B8 [99,111,110,116,97,105,110,115],B8 [99,111,111,108],B8 [99,111,111,108,105,110,103],B8 [100,101,102,97,117,108,116],B8 [100,114,97,102,116],B8 [101,110,100,115],B8 [101,120,99,108,117,100,101],B8 [101,120,105,115,116,115],B8 [101,120,112,101,114,105,109,101,110,116],B8 [102,97,108,115,101],B8 [102,108,97,103],B8 [104,111,108,100,111,117,116],B8 [105,110],B8 [105,110,99,108,117,100,101],B8 [105,115],B8 [108,97,121,101,114],B8 [108,105,115,116],B8 [109,101,109,98,101,114],B8 [110,101,101,100,115],B8 [110,111,116],B8 [110,117,109,98,101,114],B8 [111,102,102],B8 [111,110],B8 [111,114],B8 [114,117,108,101],B8 [114,117,110,110,105,110,103],B8 [115,97,108,116],B8 [115,101,103,109,101,110,116],B8 [115,101,114,118,101],B8 [115,101,116,116,105,110,103,115],B8 [115,112,108,105,116],B8 [115,116,97,114,116,115],B8 [115,116,111,112,112,101,100],B8 [116,97,114,103,101,116],B8 [116,101,120,116],B8 [116,111],B8 [116,114,117,101],B8 [117,110,116,105,108],B8 [118,97,114,105,97,116,105,111,110,115],B8 [118,101,114,115,105,111,110],B8 [119,104,101,110]]
abbrev Jo:Type:=ByteArray->(Bool->Prop)->Prop
def j0u(z7g:z6d)(q5d:q4z):Jo:=fun s K=>z7g s fun Qc=>Cnd (Qc=true) (Cnd ((32:Int)<(↑s.size:Int)) (K false) (q5d fun Qd=>Lp1 (fun Qt j8l=>Fits Qd->CAt Qd Qt (fun y4=>Cnd (y4=s) (K false) (InI (Qt+1)/\j8l (Qt+1))) (K true)) (0:Int))) (K false)
def Uk:Jo:=j0u q8t Rf
abbrev q01:Type:=Sett->(Int->Prop)->Prop
def q40(Qr:Jx)(Qj:Jo):q01:=fun s K=>Qr s.1 fun Qc=>Cnd (Qc=true) (Cnd (s.3<0) (K (3:Int)) (Cnd ((10000:Int)<s.3) (K (3:Int)) (Qj s.2 fun Qd=>Cnd (Qd=true) (K (0:Int)) (Cnd (s.2=B8 []) (Cnd (s.3=0) (K (0:Int)) (K (6:Int))) (K (6:Int)))))) (K (2:Int))
def V2:q01:=q40 Vs Uk
abbrev q02:Type:=List (Decl)->(Int->Prop)->Prop
def q41(Qj:Jo):q02:=fun l K=>Fits l->Cnd ((30:Int)<(↑l.length:Int)) (K (5:Int)) (Lp1 (fun Qd q4q=>Fits l->CAt l Qd (fun y3=>Qj y3.1 fun Z0=>Cnd (Z0=true) (At l Qd fun y6=>Qj y6.2 fun Wu=>Cnd (Wu=true) (At l Qd fun y9=>Cnd (y9.2=B8 [107,101,121]) (K (6:Int)) (At l Qd fun y11=>Cnd (y11.3<1) (K (7:Int)) (At l Qd fun y13=>Cnd ((5:Int)<y13.3) (K (7:Int)) (Cnd ((0:Int)<Qd) (At l Qd fun y15=>InI (Qd - 1)/\((0:Int)<=Qd - 1/\Qd - 1<(↑l.length:Int))/\ ∀y17,l[(Qd - 1).toNat]? =some y17->Cnd (Lk.blt y15.1 y17.1) (K (9:Int)) (At l Qd fun y19=>InI (Qd - 1)/\((0:Int)<=Qd - 1/\Qd - 1<(↑l.length:Int))/\ ∀y21,l[(Qd - 1).toNat]? =some y21->Cnd (y19.1=y21.1) (At l Qd fun y23=>InI (Qd - 1)/\((0:Int)<=Qd - 1/\Qd - 1<(↑l.length:Int))/\ ∀y25,l[(Qd - 1).toNat]? =some y25->Cnd (Lk.blt y25.2 y23.2) (InI (Qd+1)/\q4q (Qd+1)) (K (9:Int))) (InI (Qd+1)/\q4q (Qd+1)))) (InI (Qd+1)/\q4q (Qd+1)))))) (K (6:Int))) (K (6:Int))) (K (0:Int))) (0:Int))
def V3:q02:=q41 Uk
abbrev Ho:Type:=List (ByteArray)->(Int->Prop)->Prop
def q7b(Qr:Jx):Ho:=fun l K=>Fits l->Cnd ((40:Int)<(↑l.length:Int)) (K (5:Int)) (Lp1 (fun Qd q4q=>Fits l->CAt l Qd (fun y3=>Cnd (y3=B8 []) (K (2:Int)) (At l Qd fun y5=>Qr y5 fun W7=>Cnd (W7=true) (Cnd ((0:Int)<Qd) (At l Qd fun y8=>InI (Qd - 1)/\((0:Int)<=Qd - 1/\Qd - 1<(↑l.length:Int))/\ ∀y10,l[(Qd - 1).toNat]? =some y10->Cnd (Lk.blt y10 y8) (InI (Qd+1)/\q4q (Qd+1)) (K (9:Int))) (InI (Qd+1)/\q4q (Qd+1))) (K (2:Int)))) (K (0:Int))) (0:Int))
def Hp:Ho:=q7b Vs
abbrev z6e:Type:=Ex->(Bool->Prop)->Prop
def q8u:z6e:=fun e K=>Cnd (e.1=0) (Cnd (e.2=B8 []) (Cnd (e.3=B8 []) (Fits e.4->Cnd ((↑e.4.length:Int)=0) (Fits e.5->K (decide ((↑e.5.length:Int)=0))) (K false)) (K false)) (K false)) (K false)
abbrev q55:Type:=Ex->(Bool->Prop)->Prop
def q9w(Z7:Hk):q55:=fun e K=>Fits e.5->Fits e.4->Jn2 (fun Qt Ju=>Z7 e.1 fun Za=>Cnd (Qt=true) (Cnd (Ju=true) (Cnd (Za=true) (Cnd (Za=true) (K true) (Cnd (e.1=5) (K true) (K (decide (e.3=B8 []))))) (Cnd (e.2=B8 []) (Cnd (Za=true) (K true) (Cnd (e.1=5) (K true) (K (decide (e.3=B8 []))))) (K false))) (K false)) (K false)) fun j8k=>Cnd (e.1=2) (Fits e.5->j8k (decide ((2:Int)<=(↑e.5.length:Int))) (decide ((↑e.4.length:Int)=0))) (Cnd (e.1=3) (Fits e.5->j8k (decide ((2:Int)<=(↑e.5.length:Int))) (decide ((↑e.4.length:Int)=0))) (Cnd (e.1=4) (Fits e.5->j8k (decide ((↑e.5.length:Int)=1)) (decide ((↑e.4.length:Int)=0))) (Cnd (e.1=8) (Fits e.4->j8k (decide ((↑e.5.length:Int)=0)) (decide ((0:Int)<(↑e.4.length:Int)))) (Z7 e.1 fun Za=>Cnd (Za=true) (Cnd (e.1=6) (j8k (decide ((↑e.5.length:Int)=0)) (decide ((↑e.4.length:Int)=0))) (Fits e.4->j8k (decide ((↑e.5.length:Int)=0)) (decide ((↑e.4.length:Int)=1)))) (j8k (decide ((↑e.5.length:Int)=0)) (decide ((↑e.4.length:Int)=0)))))))
def q2h:q55:=q9w Zl
abbrev z3h:Type:=Val->(Bool->Prop)->Prop
def q5k:z3h:=fun v K=>Cnd (v.1=1) (Cnd (v.1=3) (Cnd (v.1=5) (K true) (Fits v.4->K (decide ((↑v.4.length:Int)=0)))) (Cnd (v.1=4) (Cnd (v.1=5) (K true) (Fits v.4->K (decide ((↑v.4.length:Int)=0)))) (Cnd (v.3=B8 []) (Cnd (v.1=5) (K true) (Fits v.4->K (decide ((↑v.4.length:Int)=0)))) (K false)))) (Cnd (v.1=3) (Cnd (v.1=2) (Cnd (v.1=5) (K true) (Fits v.4->K (decide ((↑v.4.length:Int)=0)))) (Cnd (v.2=0) (Cnd (v.1=5) (K true) (Fits v.4->K (decide ((↑v.4.length:Int)=0)))) (K false))) (Cnd (v.1=2) (Cnd (v.1=4) (Cnd (v.1=5) (K true) (Fits v.4->K (decide ((↑v.4.length:Int)=0)))) (Cnd (v.3=B8 []) (Cnd (v.1=5) (K true) (Fits v.4->K (decide ((↑v.4.length:Int)=0)))) (K false))) (Cnd (v.2=0) (Cnd (v.1=4) (Cnd (v.1=5) (K true) (Fits v.4->K (decide ((↑v.4.length:Int)=0)))) (Cnd (v.3=B8 []) (Cnd (v.1=5) (K true) (Fits v.4->K (decide ((↑v.4.length:Int)=0)))) (K false))) (K false))))
abbrev Bh:Type:=ByteArray->(Int->Int->Prop)->Prop
def Vt:Bh:=fun s K=>Jn1 (fun Qc=>Lp1 (fun Qd q4q=>Cnd (Qd<(↑Qc.size:Int)) (((0:Int)<=Qd/\Qd<(↑Qc.size:Int))/\ ∀b2,Qc[Qd.toNat]? =some b2->Cnd ((↑b2.toNat:Int)<48) (K (0:Int) (1:Int)) (((0:Int)<=Qd/\Qd<(↑Qc.size:Int))/\ ∀b4,Qc[Qd.toNat]? =some b4->Cnd ((57:Int)<(↑b4.toNat:Int)) (K (0:Int) (1:Int)) (InI (Qd+1)/\q4q (Qd+1)))) (Cnd (Qc=B8 []) (K (0:Int) (1:Int)) (((0:Int)<=(0:Int)/\(0:Int)<(↑Qc.size:Int))/\ ∀b2,Qc[Int.toNat (0:Int)]? =some b2->Cnd ((↑b2.toNat:Int)=48) (Cnd (s=B8 [48]) (Cnd ((13:Int)<(↑Qc.size:Int)) (K (0:Int) (3:Int)) (Lp2 (fun Qy Hf v7p=>Cnd (Hf<(↑Qc.size:Int)) (InI ((10:Int)*Qy)/\((0:Int)<=Hf/\Hf<(↑Qc.size:Int))/\ ∀b5,Qc[Hf.toNat]? =some b5->InI (Go.IntKind.u8.wrap ((↑b5.toNat:Int) - 48))/\InI ((10:Int)*Qy+Go.IntKind.u8.wrap ((↑b5.toNat:Int) - 48))/\InI (Hf+1)/\v7p ((10:Int)*Qy+Go.IntKind.u8.wrap ((↑b5.toNat:Int) - 48)) (Hf+1)) (Cnd ((1099511627776:Int)<Qy) (K (0:Int) (3:Int)) (Cnd ((↑Qc.size:Int)<(↑s.size:Int)) (InI ((0:Int) - Qy)/\K ((0:Int) - Qy) (0:Int)) (K Qy (0:Int))))) (0:Int) (0:Int))) (K (0:Int) (1:Int))) (Cnd ((13:Int)<(↑Qc.size:Int)) (K (0:Int) (3:Int)) (Lp2 (fun Qy Hf v7p=>Cnd (Hf<(↑Qc.size:Int)) (InI ((10:Int)*Qy)/\((0:Int)<=Hf/\Hf<(↑Qc.size:Int))/\ ∀b5,Qc[Hf.toNat]? =some b5->InI (Go.IntKind.u8.wrap ((↑b5.toNat:Int) - 48))/\InI ((10:Int)*Qy+Go.IntKind.u8.wrap ((↑b5.toNat:Int) - 48))/\InI (Hf+1)/\v7p ((10:Int)*Qy+Go.IntKind.u8.wrap ((↑b5.toNat:Int) - 48)) (Hf+1)) (Cnd ((1099511627776:Int)<Qy) (K (0:Int) (3:Int)) (Cnd ((↑Qc.size:Int)<(↑s.size:Int)) (InI ((0:Int) - Qy)/\K ((0:Int) - Qy) (0:Int)) (K Qy (0:Int))))) (0:Int) (0:Int)))))) (0:Int)) fun z84=>Cnd ((0:Int)<(↑s.size:Int)) (((0:Int)<=(0:Int)/\(0:Int)<(↑s.size:Int))/\ ∀b1,s[Int.toNat (0:Int)]? =some b1->Cnd ((↑b1.toNat:Int)=45) (((0:Int)<=(1:Int)/\(1:Int)<=(↑s.size:Int)/\(↑s.size:Int)<=(↑s.size:Int))/\z84 (s.extract (Int.toNat (1:Int)) (↑s.size:Int).toNat)) (z84 s)) (z84 s)
abbrev q8v:Type:=ByteArray->(A3->Bool->Prop)->Prop
def z3i(G1:Bh):q8v:=fun s K=>LpH (fun (Qc:Int×Int×Int×Int×Int×Int×Int×Int×Unit) q4m=>Cnd (Qc.2.1<3) (Lp1 (fun Qd q4q=>Cnd (Qd<(↑s.size:Int)) (((0:Int)<=Qd/\Qd<(↑s.size:Int))/\ ∀b2,s[Qd.toNat]? =some b2->Cnd ((↑b2.toNat:Int)=46) (((0:Int)<=Qc.1/\Qc.1<=Qd/\Qd<=(↑s.size:Int))/\G1 (s.extract Qc.1.toNat Qd.toNat) fun Qy Hf=>Cnd (Hf=0) (Cnd (Qy<0) (K ((0:Int),(0:Int),(0:Int)) false) (Cnd ((999999:Int)<Qy) (K ((0:Int),(0:Int),(0:Int)) false) (Cnd (decide (Qc.2.1<2)=decide (Qd<(↑s.size:Int))) (((0:Int)<=Qc.2.1/\Qc.2.1<(↑(3:Nat):Int))/\((True/\(Qc.2.1=(↑(nat_lit 0):Int)->InI (Qd+1)/\InI (Qc.2.1+1)/\q4m (Qd+1,Qc.2.1+1,Qy,Qc.2.2.2.1,Qc.2.2.2.2.1,Qc.2.2.2.2.2.1,Qc.2.2.2.2.2.2.1,Qc.2.2.2.2.2.2.2.1,())))/\(Qc.2.1=(↑(nat_lit 1):Int)->InI (Qd+1)/\InI (Qc.2.1+1)/\q4m (Qd+1,Qc.2.1+1,Qc.2.2.1,Qy,Qc.2.2.2.2.1,Qc.2.2.2.2.2.1,Qc.2.2.2.2.2.2.1,Qc.2.2.2.2.2.2.2.1,())))/\(Qc.2.1=(↑(nat_lit 2):Int)->InI (Qd+1)/\InI (Qc.2.1+1)/\q4m (Qd+1,Qc.2.1+1,Qc.2.2.1,Qc.2.2.2.1,Qy,Qc.2.2.2.2.2.1,Qc.2.2.2.2.2.2.1,Qc.2.2.2.2.2.2.2.1,()))) (K ((0:Int),(0:Int),(0:Int)) false)))) (K ((0:Int),(0:Int),(0:Int)) false)) (InI (Qd+1)/\q4q (Qd+1))) (((0:Int)<=Qc.1/\Qc.1<=Qd/\Qd<=(↑s.size:Int))/\G1 (s.extract Qc.1.toNat Qd.toNat) fun Qt Ju=>Cnd (Ju=0) (Cnd (Qt<0) (K ((0:Int),(0:Int),(0:Int)) false) (Cnd ((999999:Int)<Qt) (K ((0:Int),(0:Int),(0:Int)) false) (Cnd (decide (Qc.2.1<2)=decide (Qd<(↑s.size:Int))) (((0:Int)<=Qc.2.1/\Qc.2.1<(↑(3:Nat):Int))/\((True/\(Qc.2.1=(↑(nat_lit 0):Int)->InI (Qd+1)/\InI (Qc.2.1+1)/\q4m (Qd+1,Qc.2.1+1,Qt,Qc.2.2.2.1,Qc.2.2.2.2.1,Qc.2.2.2.2.2.1,Qc.2.2.2.2.2.2.1,Qc.2.2.2.2.2.2.2.1,())))/\(Qc.2.1=(↑(nat_lit 1):Int)->InI (Qd+1)/\InI (Qc.2.1+1)/\q4m (Qd+1,Qc.2.1+1,Qc.2.2.1,Qt,Qc.2.2.2.2.1,Qc.2.2.2.2.2.1,Qc.2.2.2.2.2.2.1,Qc.2.2.2.2.2.2.2.1,())))/\(Qc.2.1=(↑(nat_lit 2):Int)->InI (Qd+1)/\InI (Qc.2.1+1)/\q4m (Qd+1,Qc.2.1+1,Qc.2.2.1,Qc.2.2.2.1,Qt,Qc.2.2.2.2.2.1,Qc.2.2.2.2.2.2.1,Qc.2.2.2.2.2.2.2.1,()))) (K ((0:Int),(0:Int),(0:Int)) false)))) (K ((0:Int),(0:Int),(0:Int)) false))) Qc.1) (K (Qc.2.2.1,Qc.2.2.2.1,Qc.2.2.2.2.1) true)) ((0:Int),(0:Int),(0:Int),(0:Int),(0:Int),(0:Int),(0:Int),(0:Int),())
def q5l:q8v:=z3i Vt
abbrev z1q:Type:=List (ByteArray)->(Int->Prop)->Prop
def z6f(Qr:Jx):z1q:=fun l K=>Fits l->Cnd ((20:Int)<(↑l.length:Int)) (K (5:Int)) (Lp1 (fun Qd q4q=>Fits l->CAt l Qd (fun y3=>Qr y3 fun Z0=>Cnd (Z0=true) (InI (Qd+1)/\q4q (Qd+1)) (K (2:Int))) (Lp1 (fun Za w7f=>Fits l->CAt l Za (fun y5=>InI (Za - 1)/\((0:Int)<=Za - 1/\Za - 1<(↑l.length:Int))/\ ∀y7,l[(Za - 1).toNat]? =some y7->Cnd (Lk.blt y7 y5) (InI (Za+1)/\w7f (Za+1)) (K (9:Int))) (K (0:Int))) (1:Int))) (0:Int))
def q8w:z1q:=z6f Vs
abbrev q2i:Type:=Val->(Int->Prop)->Prop
def z3j(z3x:z3h)(Qr:Jx)(z3y:q8v)(z7h:z1q):q2i:=fun v K=>Cnd (v.1<1) (K (7:Int)) (Cnd ((5:Int)<v.1) (K (7:Int)) (z3x v fun Qc=>Cnd (Qc=true) (Cnd (v.1=1) (Cnd (v.2=0) (K (0:Int)) (Cnd (v.2=1) (K (0:Int)) (K (3:Int)))) (Cnd (v.1=2) (Cnd (v.2<(-1099511627776:Int)) (K (3:Int)) (Cnd ((1099511627776:Int)<v.2) (K (3:Int)) (K (0:Int)))) (Cnd (v.1=3) (Qr v.3 fun Qd=>Cnd (Qd=true) (K (0:Int)) (K (2:Int))) (Cnd (v.1=4) (z3y v.3 fun (_:Int×Int×Int) Z1=>Cnd (Z1=true) (K (0:Int)) (K (1:Int))) (Cnd (v.1=5) (z7h v.4 fun Qd=>K Qd) (K (0:Int))))))) (K (15:Int))))
def q2j:q2i:=z3j q5k Vs q5l q8w
abbrev z6g:Type:=Ex->(Int->Prop)->Prop
def z6h(z0n:q55)(Z7:Hk)(Qj:Jo)(Wv:q2i):z6g:=fun e K=>Cnd (e.1<1) (K (7:Int)) (Cnd ((15:Int)<e.1) (K (7:Int)) (z0n (Ex.mk e.1 e.2 e.3 e.4 e.5) fun Qc=>Cnd (Qc=true) (Fits e.5->Cnd ((12:Int)<(↑e.5.length:Int)) (K (5:Int)) (Fits e.4->Cnd ((20:Int)<(↑e.4.length:Int)) (K (5:Int)) (Lp1 (fun Za w7f=>Fits e.5->CAt e.5 Za (fun y5=>Cnd (y5.1=e.1) (Cnd (e.1=4) (InI (Za+1)/\w7f (Za+1)) (K (15:Int))) (InI (Za+1)/\w7f (Za+1))) (Z7 e.1 fun Z0=>Cnd (Z0=true) (Qj e.2 fun Q9=>Cnd (Q9=true) (Z7 e.1 fun W7=>Cnd (W7=true) (Qj e.3 fun Wu=>Cnd (Wu=true) (Lp1 (fun Wd v44=>Fits e.4->CAt e.4 Wd (fun y11=>Wv y11 fun Qe=>Cnd (Qe=0) (InI (Wd+1)/\v44 (Wd+1)) (K Qe)) (Cnd (e.1=9) (((0:Int)<=(0:Int)/\(0:Int)<(↑e.4.length:Int))/\ ∀y11,e.4[Int.toNat (0:Int)]? =some y11->Cnd (y11.1=3) (K (0:Int)) (K (8:Int))) (Cnd (e.1=10) (((0:Int)<=(0:Int)/\(0:Int)<(↑e.4.length:Int))/\ ∀y11,e.4[Int.toNat (0:Int)]? =some y11->Cnd (y11.1=3) (K (0:Int)) (K (8:Int))) (Cnd (e.1=11) (((0:Int)<=(0:Int)/\(0:Int)<(↑e.4.length:Int))/\ ∀y11,e.4[Int.toNat (0:Int)]? =some y11->Cnd (y11.1=3) (K (0:Int)) (K (8:Int))) (K (0:Int)))))) (0:Int)) (K (6:Int))) (Cnd (e.1=5) (Qj e.3 fun Wu=>Cnd (Wu=true) (Lp1 (fun Wd v44=>Fits e.4->CAt e.4 Wd (fun y11=>Wv y11 fun Qe=>Cnd (Qe=0) (InI (Wd+1)/\v44 (Wd+1)) (K Qe)) (Cnd (e.1=9) (((0:Int)<=(0:Int)/\(0:Int)<(↑e.4.length:Int))/\ ∀y11,e.4[Int.toNat (0:Int)]? =some y11->Cnd (y11.1=3) (K (0:Int)) (K (8:Int))) (Cnd (e.1=10) (((0:Int)<=(0:Int)/\(0:Int)<(↑e.4.length:Int))/\ ∀y11,e.4[Int.toNat (0:Int)]? =some y11->Cnd (y11.1=3) (K (0:Int)) (K (8:Int))) (Cnd (e.1=11) (((0:Int)<=(0:Int)/\(0:Int)<(↑e.4.length:Int))/\ ∀y11,e.4[Int.toNat (0:Int)]? =some y11->Cnd (y11.1=3) (K (0:Int)) (K (8:Int))) (K (0:Int)))))) (0:Int)) (K (6:Int))) (Lp1 (fun Wu v7q=>Fits e.4->CAt e.4 Wu (fun y10=>Wv y10 fun Q1=>Cnd (Q1=0) (InI (Wu+1)/\v7q (Wu+1)) (K Q1)) (Cnd (e.1=9) (((0:Int)<=(0:Int)/\(0:Int)<(↑e.4.length:Int))/\ ∀y10,e.4[Int.toNat (0:Int)]? =some y10->Cnd (y10.1=3) (K (0:Int)) (K (8:Int))) (Cnd (e.1=10) (((0:Int)<=(0:Int)/\(0:Int)<(↑e.4.length:Int))/\ ∀y10,e.4[Int.toNat (0:Int)]? =some y10->Cnd (y10.1=3) (K (0:Int)) (K (8:Int))) (Cnd (e.1=11) (((0:Int)<=(0:Int)/\(0:Int)<(↑e.4.length:Int))/\ ∀y10,e.4[Int.toNat (0:Int)]? =some y10->Cnd (y10.1=3) (K (0:Int)) (K (8:Int))) (K (0:Int)))))) (0:Int)))) (K (6:Int))) (Z7 e.1 fun Q9=>Cnd (Q9=true) (Qj e.3 fun W7=>Cnd (W7=true) (Lp1 (fun Wu v7q=>Fits e.4->CAt e.4 Wu (fun y10=>Wv y10 fun Q1=>Cnd (Q1=0) (InI (Wu+1)/\v7q (Wu+1)) (K Q1)) (Cnd (e.1=9) (((0:Int)<=(0:Int)/\(0:Int)<(↑e.4.length:Int))/\ ∀y10,e.4[Int.toNat (0:Int)]? =some y10->Cnd (y10.1=3) (K (0:Int)) (K (8:Int))) (Cnd (e.1=10) (((0:Int)<=(0:Int)/\(0:Int)<(↑e.4.length:Int))/\ ∀y10,e.4[Int.toNat (0:Int)]? =some y10->Cnd (y10.1=3) (K (0:Int)) (K (8:Int))) (Cnd (e.1=11) (((0:Int)<=(0:Int)/\(0:Int)<(↑e.4.length:Int))/\ ∀y10,e.4[Int.toNat (0:Int)]? =some y10->Cnd (y10.1=3) (K (0:Int)) (K (8:Int))) (K (0:Int)))))) (0:Int)) (K (6:Int))) (Cnd (e.1=5) (Qj e.3 fun W7=>Cnd (W7=true) (Lp1 (fun Wu v7q=>Fits e.4->CAt e.4 Wu (fun y10=>Wv y10 fun Q1=>Cnd (Q1=0) (InI (Wu+1)/\v7q (Wu+1)) (K Q1)) (Cnd (e.1=9) (((0:Int)<=(0:Int)/\(0:Int)<(↑e.4.length:Int))/\ ∀y10,e.4[Int.toNat (0:Int)]? =some y10->Cnd (y10.1=3) (K (0:Int)) (K (8:Int))) (Cnd (e.1=10) (((0:Int)<=(0:Int)/\(0:Int)<(↑e.4.length:Int))/\ ∀y10,e.4[Int.toNat (0:Int)]? =some y10->Cnd (y10.1=3) (K (0:Int)) (K (8:Int))) (Cnd (e.1=11) (((0:Int)<=(0:Int)/\(0:Int)<(↑e.4.length:Int))/\ ∀y10,e.4[Int.toNat (0:Int)]? =some y10->Cnd (y10.1=3) (K (0:Int)) (K (8:Int))) (K (0:Int)))))) (0:Int)) (K (6:Int))) (Lp1 (fun W7 y1w=>Fits e.4->CAt e.4 W7 (fun y9=>Wv y9 fun W2=>Cnd (W2=0) (InI (W7+1)/\y1w (W7+1)) (K W2)) (Cnd (e.1=9) (((0:Int)<=(0:Int)/\(0:Int)<(↑e.4.length:Int))/\ ∀y9,e.4[Int.toNat (0:Int)]? =some y9->Cnd (y9.1=3) (K (0:Int)) (K (8:Int))) (Cnd (e.1=10) (((0:Int)<=(0:Int)/\(0:Int)<(↑e.4.length:Int))/\ ∀y9,e.4[Int.toNat (0:Int)]? =some y9->Cnd (y9.1=3) (K (0:Int)) (K (8:Int))) (Cnd (e.1=11) (((0:Int)<=(0:Int)/\(0:Int)<(↑e.4.length:Int))/\ ∀y9,e.4[Int.toNat (0:Int)]? =some y9->Cnd (y9.1=3) (K (0:Int)) (K (8:Int))) (K (0:Int)))))) (0:Int)))))) (0:Int)))) (K (15:Int))))
def Hq:z6g:=z6h q2h Zl Uk q2j
abbrev q3t:Type:=Ex->Int->Int->(Int->Int->Prop)->Prop
def q56(v1a:z6g)(X:q3t):q3t:=fun e depth n K=>Cnd ((60:Int)<=n) (K (5:Int) n) (InI (n+1)/\Cnd ((10:Int)<depth) (K (18:Int) (n+1)) (v1a (Ex.mk e.1 e.2 e.3 e.4 e.5) fun Qc=>Cnd (Qc=0) (Lp2 (fun Qd Z1 z2w=>Fits e.5->CAt e.5 Qd (fun y3=>InI (depth+1)/\X (Ex.mk y3.1 y3.2 y3.3 y3.4 y3.5) (depth+1) Z1 fun Z0 j05=>Cnd (Z0=0) (InI (Qd+1)/\z2w (Qd+1) j05) (K Z0 j05)) (K (0:Int) Z1)) (0:Int) (n+1)) (K Qc (n+1))))
def R8:q3t:=fun e depth n K=> ∀X:q3t,(∀e depth n K,q56 Hq X e depth n K->X e depth n K)->X e depth n K
abbrev q03:Type:=Ex->(Int->Prop)->Prop
def z6i(z7i:q3t):q03:=fun e K=>z7i (Ex.mk e.1 e.2 e.3 e.4 e.5) (1:Int) (0:Int) fun Qc _=>K Qc
def q3u:q03:=z6i R8
abbrev q3v:Type:=Seg->(Int->Prop)->Prop
def q7c(Qj:Jo)(Vc:Ho)(z7j:z6e)(Ua:q03):q3v:=fun g K=>Qj g.1 fun Qc=>Cnd (Qc=true) (Qj g.2 fun Qd=>Cnd (Qd=true) (Vc g.3 fun Qt=>Cnd (Qt=0) (Vc g.4 fun Za=>Cnd (Za=0) (z7j (Ex.mk g.5.1 g.5.2 g.5.3 g.5.4 g.5.5) fun Qy=>Cnd (Qy=true) (K (0:Int)) (Ua (Ex.mk g.5.1 g.5.2 g.5.3 g.5.4 g.5.5) fun Z0=>K Z0)) (K Za)) (K Qt)) (K (6:Int))) (K (6:Int))
def B9:q3v:=q7c Uk Hp q8u q3u
abbrev q04:Type:=List (Seg)->(Int->Prop)->Prop
def q42(q7t:q3v):q04:=fun l K=>Fits l->Cnd ((20:Int)<(↑l.length:Int)) (K (5:Int)) (Lp1 (fun Qd q4q=>Fits l->CAt l Qd (fun y3=>q7t (Seg.mk y3.1 y3.2 y3.3 y3.4 (Ex.mk y3.5.1 y3.5.2 y3.5.3 y3.5.4 y3.5.5)) fun Z0=>Cnd (Z0=0) (Cnd ((0:Int)<Qd) (At l Qd fun y6=>InI (Qd - 1)/\((0:Int)<=Qd - 1/\Qd - 1<(↑l.length:Int))/\ ∀y8,l[(Qd - 1).toNat]? =some y8->Cnd (Lk.blt y8.1 y6.1) (InI (Qd+1)/\q4q (Qd+1)) (K (9:Int))) (InI (Qd+1)/\q4q (Qd+1))) (K Z0)) (K (0:Int))) (0:Int))
def V4:q04:=q42 B9
abbrev Hr:Type:=Flg->(Int->Prop)->Prop
def q05(Wv:q2i):Hr:=fun f K=>Fits f.3->Cnd ((8:Int)<(↑f.3.length:Int)) (K (5:Int)) (Cnd ((↑f.3.length:Int)=0) (K (3:Int)) (Lp1 (fun Qd q4q=>CAt f.3 Qd (fun y2=>Wv y2 fun Qy=>Cnd (Qy=0) (At f.3 Qd fun y5=>Cnd (y5.1=f.2) (InI (Qd+1)/\q4q (Qd+1)) (K (8:Int))) (K Qy)) (Cnd (f.5<1) (K (3:Int)) (Cnd ((↑f.3.length:Int)<f.5) (K (3:Int)) (K (0:Int))))) (0:Int)))
def Up:Hr:=q05 q2j
abbrev V5:Type:=List (Prq)->(Int->Prop)->Prop
def G8(Qj:Jo):V5:=fun l K=>Fits l->Cnd ((4:Int)<(↑l.length:Int)) (K (5:Int)) (Lp1 (fun Qd q4q=>Fits l->CAt l Qd (fun y3=>Qj y3.1 fun Z0=>Cnd (Z0=true) (Cnd ((0:Int)<Qd) (At l Qd fun y6=>InI (Qd - 1)/\((0:Int)<=Qd - 1/\Qd - 1<(↑l.length:Int))/\ ∀y8,l[(Qd - 1).toNat]? =some y8->Cnd (Lk.blt y8.1 y6.1) (At l Qd fun y10=>Cnd (y10.2<1) (K (3:Int)) (At l Qd fun y12=>Cnd ((8:Int)<y12.2) (K (3:Int)) (InI (Qd+1)/\q4q (Qd+1)))) (K (9:Int))) (At l Qd fun y6=>Cnd (y6.2<1) (K (3:Int)) (At l Qd fun y8=>Cnd ((8:Int)<y8.2) (K (3:Int)) (InI (Qd+1)/\q4q (Qd+1))))) (K (6:Int))) (K (0:Int))) (0:Int))
def Wr:V5:=G8 Uk
abbrev q3w:Type:=List (Tgt)->Int->(Int->Prop)->Prop
def q7d(Qj:Jo)(Vc:Ho):q3w:=fun l n K=>Fits l->Cnd ((8:Int)<(↑l.length:Int)) (K (5:Int)) (Lp1 (fun Qd q4q=>Fits l->CAt l Qd (fun y3=>Qj y3.1 fun Z0=>Cnd (Z0=true) (At l Qd fun y6=>Cnd (y6.2<1) (K (3:Int)) (At l Qd fun y8=>Cnd (n<y8.2) (K (3:Int)) (At l Qd fun y10=>Fits y10.3->Cnd ((↑y10.3.length:Int)=0) (K (3:Int)) (At l Qd fun y13=>Vc y13.3 fun Wq=>Cnd (Wq=0) (InI (Qd+1)/\q4q (Qd+1)) (K Wq))))) (K (6:Int))) (K (0:Int))) (0:Int))
def q0a:q3w:=q7d Uk Hp
abbrev q5m:Type:=List (Rng)->Int->(Int->Prop)->Prop
def q2k:q5m:=fun l variations K=>Fits l->Cnd ((16:Int)<(↑l.length:Int)) (K (5:Int)) (Lp2 (fun Qd Z1 z2w=>Fits l->CAt l Z1 (fun y3=>Cnd (y3.3<1) (K (3:Int)) (At l Z1 fun y5=>Cnd (variations<y5.3) (K (3:Int)) (At l Z1 fun y7=>Cnd (y7.1=Qd) (At l Z1 fun y9=>Cnd (y9.2<=Qd) (K (9:Int)) (Cnd ((0:Int)<Z1) (At l Z1 fun y11=>InI (Z1 - 1)/\((0:Int)<=Z1 - 1/\Z1 - 1<(↑l.length:Int))/\ ∀y13,l[(Z1 - 1).toNat]? =some y13->Cnd (y11.3=y13.3) (K (9:Int)) (At l Z1 fun y15=>InI (Z1+1)/\z2w y15.2 (Z1+1))) (At l Z1 fun y11=>InI (Z1+1)/\z2w y11.2 (Z1+1)))) (K (9:Int))))) (Cnd (Qd=10000) (K (0:Int)) (K (3:Int)))) (0:Int) (0:Int))
abbrev q2l:Type:=Srv->Int->(Int->Prop)->Prop
def z3k(Qj:Jo)(Qr:Jx)(Rw:q5m):q2l:=fun v variations K=>Cnd (v.1=0) (Qj v.2 fun Qc=>Cnd (Qc=true) (Qj v.3 fun Qd=>Cnd (Qd=true) (Qr v.4 fun Qt=>Cnd (Qt=true) (Rw v.5 variations fun Za=>K Za) (K (2:Int))) (K (6:Int))) (K (6:Int))) (Cnd (v.1<1) (K (3:Int)) (Cnd (variations<v.1) (K (3:Int)) (Cnd (v.2=B8 []) (Cnd (v.3=B8 []) (Cnd (v.4=B8 []) (Fits v.5->Cnd ((0:Int)<(↑v.5.length:Int)) (K (15:Int)) (K (0:Int))) (K (15:Int))) (K (15:Int))) (K (15:Int)))))
def q2m:q2l:=z3k Uk Vs q2k
abbrev q8x:Type:=List (Rul)->Int->(Int->Prop)->Prop
def z3l(Qj:Jo)(Ua:q03)(Rx:q2l):q8x:=fun l n K=>Fits l->Cnd ((12:Int)<(↑l.length:Int)) (K (5:Int)) (Lp1 (fun Qd q4q=>Fits l->CAt l Qd (fun y3=>Qj y3.1 fun Z0=>Cnd (Z0=true) (Lp1 (fun Q9 v1j=>Cnd (Q9<Qd) (At l Q9 fun y7=>At l Qd fun y9=>Cnd (y7.1=y9.1) (K (10:Int)) (InI (Q9+1)/\v1j (Q9+1))) (At l Qd fun y7=>Ua (Ex.mk y7.2.1 y7.2.2 y7.2.3 y7.2.4 y7.2.5) fun Wd=>Cnd (Wd=0) (At l Qd fun y10=>Rx (Srv.mk y10.3.1 y10.3.2 y10.3.3 y10.3.4 y10.3.5) n fun Q1=>Cnd (Q1=0) (InI (Qd+1)/\q4q (Qd+1)) (K Q1)) (K Wd))) (0:Int)) (K (6:Int))) (K (0:Int))) (0:Int))
def q5n:q8x:=z3l Uk q3u q2m
abbrev z1r:Type:=Flg->(Int->Prop)->Prop
def z6j(Qj:Jo)(q1z:Hr)(Hc:V5)(q7u:q3w)(z3z:q8x)(Rx:q2l):z1r:=fun f K=>Fits f.3->Qj f.1 fun Qd=>Cnd (Qd=true) (Cnd (f.2<1) (K (7:Int)) (Cnd ((5:Int)<f.2) (K (7:Int)) (q1z (Flg.mk f.1 f.2 f.3 f.4 f.5 f.6 f.7 f.8 (Srv.mk f.9.1 f.9.2 f.9.3 f.9.4 f.9.5)) fun Qt=>Cnd (Qt=0) (Hc f.6 fun Za=>Cnd (Za=0) (q7u f.7 (↑f.3.length:Int) fun Qy=>Cnd (Qy=0) (z3z f.8 (↑f.3.length:Int) fun Z0=>Cnd (Z0=0) (Rx (Srv.mk f.9.1 f.9.2 f.9.3 f.9.4 f.9.5) (↑f.3.length:Int) fun Q9=>K Q9) (K Z0)) (K Qy)) (K Za)) (K Qt)))) (K (6:Int))
def q3x:z1r:=z6j Uk Up Wr q0a q5n q2m
abbrev q8y:Type:=List (Flg)->(Int->Prop)->Prop
def z3m(z7k:z1r):q8y:=fun l K=>Fits l->Cnd ((30:Int)<(↑l.length:Int)) (K (5:Int)) (Lp1 (fun Qd q4q=>Fits l->CAt l Qd (fun y3=>z7k (Flg.mk y3.1 y3.2 y3.3 y3.4 y3.5 y3.6 y3.7 y3.8 (Srv.mk y3.9.1 y3.9.2 y3.9.3 y3.9.4 y3.9.5)) fun Z0=>Cnd (Z0=0) (Cnd ((0:Int)<Qd) (At l Qd fun y6=>InI (Qd - 1)/\((0:Int)<=Qd - 1/\Qd - 1<(↑l.length:Int))/\ ∀y8,l[(Qd - 1).toNat]? =some y8->Cnd (Lk.blt y8.1 y6.1) (InI (Qd+1)/\q4q (Qd+1)) (K (9:Int))) (InI (Qd+1)/\q4q (Qd+1))) (K Z0)) (K (0:Int))) (0:Int))
def q5o:q8y:=z3m q3x
abbrev q8z:Type:=Lay_->(Int->Prop)->Prop
def q80(Qj:Jo)(Qr:Jx):q8z:=fun l K=>Qj l.1 fun Qc=>Cnd (Qc=true) (Qj l.2 fun Qd=>Cnd (Qd=true) (Qr l.3 fun Qt=>Cnd (Qt=true) (Cnd (l.4<0) (K (3:Int)) (Cnd ((10000:Int)<l.4) (K (3:Int)) (Cnd (l.5<0) (K (3:Int)) (Cnd ((1099511627776:Int)<l.5) (K (3:Int)) (Fits l.6->Cnd ((32:Int)<(↑l.6.length:Int)) (K (5:Int)) (Lp1 (fun Qy w7b=>Fits l.6->CAt l.6 Qy (fun y6=>Cnd (y6.1<0) (K (3:Int)) (Cnd (y6.2<=y6.1) (K (3:Int)) (Cnd ((10000:Int)<y6.2) (K (3:Int)) (Cnd (y6.3<0) (K (3:Int)) (Cnd ((1099511627776:Int)<y6.3) (K (3:Int)) (Cnd ((0:Int)<Qy) (InI (Qy - 1)/\((0:Int)<=Qy - 1/\Qy - 1<(↑l.6.length:Int))/\ ∀y8,l.6[(Qy - 1).toNat]? =some y8->Cnd (y6.1<y8.2) (K (9:Int)) (InI (Qy+1)/\w7b (Qy+1))) (InI (Qy+1)/\w7b (Qy+1)))))))) (K (0:Int))) (0:Int))))))) (K (2:Int))) (K (6:Int))) (K (6:Int))
def Rg:q8z:=q80 Uk Vs
abbrev q57:Type:=List (Lay_)->(Int->Prop)->Prop
def q58(z30:q8z):q57:=fun l K=>Fits l->Cnd ((6:Int)<(↑l.length:Int)) (K (5:Int)) (Lp1 (fun Qd q4q=>Fits l->CAt l Qd (fun y3=>z30 y3 fun Z0=>Cnd (Z0=0) (Cnd ((0:Int)<Qd) (At l Qd fun y6=>InI (Qd - 1)/\((0:Int)<=Qd - 1/\Qd - 1<(↑l.length:Int))/\ ∀y8,l[(Qd - 1).toNat]? =some y8->Cnd (Lk.blt y8.1 y6.1) (InI (Qd+1)/\q4q (Qd+1)) (K (9:Int))) (InI (Qd+1)/\q4q (Qd+1))) (K Z0)) (K (0:Int))) (0:Int))
def Wz:q57:=q58 Rg
abbrev z3n:Type:=List (Spn)->(Int->Prop)->Prop
def q5p:z3n:=fun l K=>Fits l->Cnd ((16:Int)<(↑l.length:Int)) (K (5:Int)) (Lp1 (fun Qd q4q=>Fits l->CAt l Qd (fun y3=>Cnd (y3.1<0) (K (3:Int)) (At l Qd fun y5=>At l Qd fun y7=>Cnd (y7.2<=y5.1) (K (3:Int)) (At l Qd fun y9=>Cnd ((10000:Int)<y9.2) (K (3:Int)) (Cnd ((0:Int)<Qd) (At l Qd fun y11=>InI (Qd - 1)/\((0:Int)<=Qd - 1/\Qd - 1<(↑l.length:Int))/\ ∀y13,l[(Qd - 1).toNat]? =some y13->Cnd (y11.1<=y13.2) (K (9:Int)) (InI (Qd+1)/\q4q (Qd+1))) (InI (Qd+1)/\q4q (Qd+1)))))) (K (0:Int))) (0:Int))
abbrev Hs:Type:=Exper->(Int->Prop)->Prop
def Ht(Qj:Jo)(Qr:Jx)(z31:z3n)(Rw:q5m)(Ua:q03):Hs:=fun x K=>Qj x.1 fun Qc=>Cnd (Qc=true) (Qj x.2 fun Qd=>Cnd (Qd=true) (Qj x.3 fun Qt=>Cnd (Qt=true) (Qr x.4 fun Za=>Cnd (Za=true) (Cnd (x.5<1) (K (7:Int)) (Cnd ((3:Int)<x.5) (K (7:Int)) (z31 x.6 fun Qy=>Cnd (Qy=0) (Rw x.7 (8:Int) fun Z0=>Cnd (Z0=0) (Ua (Ex.mk x.8.1 x.8.2 x.8.3 x.8.4 x.8.5) fun Q9=>K Q9) (K Z0)) (K Qy)))) (K (2:Int))) (K (6:Int))) (K (6:Int))) (K (6:Int))
def Jk:Hs:=Ht Uk Vs q5p q2k q3u
abbrev Gt:Type:=List (Exper)->(Int->Prop)->Prop
def Bi(q10:Hs):Gt:=fun l K=>Fits l->Cnd ((16:Int)<(↑l.length:Int)) (K (5:Int)) (Lp1 (fun Qd q4q=>Fits l->CAt l Qd (fun y3=>q10 (Exper.mk y3.1 y3.2 y3.3 y3.4 y3.5 y3.6 y3.7 (Ex.mk y3.8.1 y3.8.2 y3.8.3 y3.8.4 y3.8.5)) fun Z0=>Cnd (Z0=0) (Cnd ((0:Int)<Qd) (At l Qd fun y6=>InI (Qd - 1)/\((0:Int)<=Qd - 1/\Qd - 1<(↑l.length:Int))/\ ∀y8,l[(Qd - 1).toNat]? =some y8->Cnd (Lk.blt y8.1 y6.1) (InI (Qd+1)/\q4q (Qd+1)) (K (9:Int))) (InI (Qd+1)/\q4q (Qd+1))) (K Z0)) (K (0:Int))) (0:Int))
def Vu:Gt:=Bi Jk
abbrev Gu:Type:=Envt->(Int->Prop)->Prop
def Bj(q5e:q01)(q5f:q02)(q5g:q04)(z32:q8y)(z0o:q57)(Bp:Gt):Gu:=fun v K=>q5e (Sett.mk v.1.1 v.1.2 v.1.3) fun Qc=>Cnd (Qc=0) (q5f v.2 fun Qd=>Cnd (Qd=0) (q5g v.3 fun Qt=>Cnd (Qt=0) (z32 v.4 fun Za=>Cnd (Za=0) (z0o v.5 fun Qy=>Cnd (Qy=0) (Bp v.6 fun Z0=>K Z0) (K Qy)) (K Za)) (K Qt)) (K Qd)) (K Qc)
def Vv:Gu:=Bj V2 V3 V4 q5o Wz Vu
abbrev q0b:Type:=List (Seg)->(List (ByteArray)->Prop)->Prop
def q81:q0b:=fun l K=>Lp2 (fun Qc Zp q3l=>Fits l->CAt l Zp (fun y2=>Sml (Qc++[y2.1]).length/\InI (Zp+1)/\q3l (Qc++[y2.1]) (Zp+1)) (K Qc)) [] (0:Int)
abbrev q9x:Type:=List (ByteArray)->ByteArray->(Bool->Prop)->Prop
def Rh:q9x:=fun l s K=>Lp1 (fun Qc q4m=>Fits l->CAt l Qc (fun y2=>Cnd (y2=s) (K true) (InI (Qc+1)/\q4m (Qc+1))) (K false)) (0:Int)
abbrev z1s:Type:=List (Decl)->ByteArray->ByteArray->(Int->Prop)->Prop
def Uq:z1s:=fun l kind name K=>Lp1 (fun Qc q4m=>Fits l->CAt l Qc (fun y2=>Cnd (y2.1=kind) (At l Qc fun y4=>Cnd (y4.2=name) (At l Qc fun y6=>K y6.3) (InI (Qc+1)/\q4m (Qc+1))) (InI (Qc+1)/\q4m (Qc+1))) (Cnd (name=B8 [107,101,121]) (K (3:Int)) (K (0:Int)))) (0:Int)
abbrev j14:Type:=Int->Ex->(Bool->Prop)->Prop
def Gv:j14:=fun t e K=>Cnd (e.1=6) (K true) (Cnd (e.1=8) (Lp1 (fun Qc q4m=>Fits e.4->CAt e.4 Qc (fun y2=>Cnd (y2.1=t) (InI (Qc+1)/\q4m (Qc+1)) (K false)) (K (match decide ((t,e,()).1=5) with|true=>false|false=>true))) (0:Int)) (Fits e.4->Cnd ((↑e.4.length:Int)=0) (K false) (((0:Int)<=(0:Int)/\(0:Int)<(↑e.4.length:Int))/\ ∀y1,e.4[Int.toNat (0:Int)]? =some y1->Cnd (e.1=7) (K (decide (y1.1=t))) (Jn1 (fun Za=>Cnd (Za=true) (Cnd (t=3) (K (decide (y1.1=3))) (K false)) (Cnd (e.1=11) (Cnd (t=3) (K (decide (y1.1=3))) (Cnd (t=5) (K (decide (y1.1=3))) (K false))) (Cnd (t=2) (K (decide (y1.1=t))) (Cnd (t=3) (K (decide (y1.1=t))) (Cnd (t=4) (K (decide (y1.1=t))) (K false)))))) fun v43=>Cnd (e.1=9) (v43 (decide (e.1=9))) (v43 (decide (e.1=10)))))))
abbrev Gw:Type:=List (Decl)->List (ByteArray)->Ex->(Int->Prop)->Prop
def q59(q11:q9x)(Z7:Hk)(q65:z1s)(w04:j14)(X:Gw):Gw:=fun l segments e K=>Cnd (e.1=5) (q11 segments e.3 fun Qc=>Cnd (Qc=true) (Jn0 (Lp1 (fun Qd q4q=>Fits e.5->CAt e.5 Qd (fun y3=>X l segments (Ex.mk y3.1 y3.2 y3.3 y3.4 y3.5) fun Z0=>Cnd (Z0=0) (InI (Qd+1)/\q4q (Qd+1)) (K Z0)) (K (0:Int))) (0:Int)) fun Qd=>Z7 e.1 fun Qt=>Cnd (Qt=true) (q65 l e.2 e.3 fun Za=>Cnd (Za=0) (K (11:Int)) (w04 Za (Ex.mk e.1 e.2 e.3 e.4 e.5) fun Qy=>Cnd (Qy=true) Qd (K (8:Int)))) Qd) (K (11:Int))) (Jn0 (Lp1 (fun Qc q4m=>Fits e.5->CAt e.5 Qc (fun y2=>X l segments (Ex.mk y2.1 y2.2 y2.3 y2.4 y2.5) fun Qy=>Cnd (Qy=0) (InI (Qc+1)/\q4m (Qc+1)) (K Qy)) (K (0:Int))) (0:Int)) fun Qc=>Z7 e.1 fun Qd=>Cnd (Qd=true) (q65 l e.2 e.3 fun Qt=>Cnd (Qt=0) (K (11:Int)) (w04 Qt (Ex.mk e.1 e.2 e.3 e.4 e.5) fun Za=>Cnd (Za=true) Qc (K (8:Int)))) Qc)
def V6:Gw:=fun l segments e K=> ∀X:Gw,(∀l segments e K,q59 Rh Zl Uq Gv X l segments e K->X l segments e K)->X l segments e K
abbrev q9y:Type:=List (ByteArray)->ByteArray->(List (ByteArray)->Prop)->Prop
def Ri:q9y:=fun l s K=>Lp1 (fun Qc q4m=>Fits l->CAt l Qc (fun y2=>Cnd (Lk.blt y2 s) (InI (Qc+1)/\q4m (Qc+1)) (Fits l->CAt l Qc (fun y5=>Cnd (y5=s) (K l) (((0:Int)<=(0:Int)/\(0:Int)<=Qc/\Qc<=(↑l.length:Int))/\Sml ([]++List.drop (Int.toNat (0:Int)) (List.take Qc.toNat l)).length/\((0:Int)<=Qc/\Qc<=(↑l.length:Int)/\(↑l.length:Int)<=(↑l.length:Int))/\Sml ([]++List.drop (Int.toNat (0:Int)) (List.take Qc.toNat l)++[s]).length/\Sml ([]++List.drop (Int.toNat (0:Int)) (List.take Qc.toNat l)++[s]++List.drop Qc.toNat (List.take (↑l.length:Int).toNat l)).length/\K ([]++List.drop (Int.toNat (0:Int)) (List.take Qc.toNat l)++[s]++List.drop Qc.toNat (List.take (↑l.length:Int).toNat l)))) (((0:Int)<=(0:Int)/\(0:Int)<=Qc/\Qc<=(↑l.length:Int))/\Sml ([]++List.drop (Int.toNat (0:Int)) (List.take Qc.toNat l)).length/\((0:Int)<=Qc/\Qc<=(↑l.length:Int)/\(↑l.length:Int)<=(↑l.length:Int))/\Sml ([]++List.drop (Int.toNat (0:Int)) (List.take Qc.toNat l)++[s]).length/\Sml ([]++List.drop (Int.toNat (0:Int)) (List.take Qc.toNat l)++[s]++List.drop Qc.toNat (List.take (↑l.length:Int).toNat l)).length/\K ([]++List.drop (Int.toNat (0:Int)) (List.take Qc.toNat l)++[s]++List.drop Qc.toNat (List.take (↑l.length:Int).toNat l))))) (Fits l->CAt l Qc (fun y3=>Cnd (y3=s) (K l) (((0:Int)<=(0:Int)/\(0:Int)<=Qc/\Qc<=(↑l.length:Int))/\Sml ([]++List.drop (Int.toNat (0:Int)) (List.take Qc.toNat l)).length/\((0:Int)<=Qc/\Qc<=(↑l.length:Int)/\(↑l.length:Int)<=(↑l.length:Int))/\Sml ([]++List.drop (Int.toNat (0:Int)) (List.take Qc.toNat l)++[s]).length/\Sml ([]++List.drop (Int.toNat (0:Int)) (List.take Qc.toNat l)++[s]++List.drop Qc.toNat (List.take (↑l.length:Int).toNat l)).length/\K ([]++List.drop (Int.toNat (0:Int)) (List.take Qc.toNat l)++[s]++List.drop Qc.toNat (List.take (↑l.length:Int).toNat l)))) (((0:Int)<=(0:Int)/\(0:Int)<=Qc/\Qc<=(↑l.length:Int))/\Sml ([]++List.drop (Int.toNat (0:Int)) (List.take Qc.toNat l)).length/\((0:Int)<=Qc/\Qc<=(↑l.length:Int)/\(↑l.length:Int)<=(↑l.length:Int))/\Sml ([]++List.drop (Int.toNat (0:Int)) (List.take Qc.toNat l)++[s]).length/\Sml ([]++List.drop (Int.toNat (0:Int)) (List.take Qc.toNat l)++[s]++List.drop Qc.toNat (List.take (↑l.length:Int).toNat l)).length/\K ([]++List.drop (Int.toNat (0:Int)) (List.take Qc.toNat l)++[s]++List.drop Qc.toNat (List.take (↑l.length:Int).toNat l))))) (0:Int)
abbrev U3:Type:=List (ByteArray)->Ex->(List (ByteArray)->Prop)->Prop
def Hu(q12:q9y)(X:U3):U3:=fun l e K=>Jn1 (fun Qc=>Lp2 (fun Qd Z1 z2w=>Fits e.5->CAt e.5 Z1 (fun y3=>X Qd (Ex.mk y3.1 y3.2 y3.3 y3.4 y3.5) fun Z0=>InI (Z1+1)/\z2w Z0 (Z1+1)) (K Qd)) Qc (0:Int)) fun z84=>Cnd (e.1=5) (q12 l e.3 fun Qd=>z84 Qd) (z84 l)
def Vb:U3:=fun l e K=> ∀X:U3,(∀l e K,Hu Ri X l e K->X l e K)->X l e K
abbrev q3y:Type:=Ex->(List (ByteArray)->Prop)->Prop
def q7e(q7v:U3):q3y:=fun e K=>q7v [] (Ex.mk e.1 e.2 e.3 e.4 e.5) fun Qc=>K Qc
def q0c:q3y:=q7e Vb
abbrev q6a:Type:=List (Seg)->(List (Edg)->Prop)->Prop
def q9z(q7w:q3y):q6a:=fun l K=>Lp2 (fun Qc Zp q3l=>Fits l->CAt l Zp (fun y2=>q7w (Ex.mk y2.5.1 y2.5.2 y2.5.3 y2.5.4 y2.5.5) fun Qy=>Lp2 (fun Z0 j05 y1x=>Fits Qy->Cnd (j05<(↑Qy.length:Int)) (At l Zp fun y7=>At Qy j05 fun y9=>Sml (Z0++[Edg.mk y7.1 y9]).length/\InI (j05+1)/\y1x (Z0++[Edg.mk y7.1 y9]) (j05+1)) (InI (Zp+1)/\q3l Z0 (Zp+1))) Qc (0:Int)) (K Qc)) [] (0:Int)
def Vk:q6a:=q9z q0c
abbrev q82:Type:=List (Edg)->ByteArray->(List (ByteArray)->Prop)->Prop
def q83(q11:q9x)(q12:q9y):q82:=fun edges node K=>Lp2 (fun Qc Zp q3l=>Fits Zp->Cnd ((0:Int)<(↑Zp.length:Int)) (((0:Int)<=(0:Int)/\(0:Int)<(↑Zp.length:Int))/\ ∀y2,Zp[Int.toNat (0:Int)]? =some y2->((0:Int)<=(1:Int)/\(1:Int)<=(↑Zp.length:Int)/\(↑Zp.length:Int)<=(↑Zp.length:Int))/\Lp3 (fun Qy Hf z7m v76=>Fits edges->CAt edges z7m (fun y6=>Cnd (y6.1=y2) (At edges z7m fun y8=>q11 Qy y8.2 fun Ql=>Cnd (Ql=true) (InI (z7m+1)/\v76 Qy Hf (z7m+1)) (At edges z7m fun y11=>q12 Qy y11.2 fun Qe=>At edges z7m fun y14=>(Sml ([]++Hf).length/\Sml ([]++Hf++[y14.2]).length/\InI (z7m+1)/\v76 Qe ([]++Hf++[y14.2]) (z7m+1))/\Sml ([]++Hf).length/\Sml ([]++Hf++[y14.2]).length/\InI (z7m+1)/\v76 Qe ([]++Hf++[y14.2]) (z7m+1))) (InI (z7m+1)/\v76 Qy Hf (z7m+1))) (q3l Qy Hf)) Qc (List.drop (Int.toNat (1:Int)) (List.take (↑Zp.length:Int).toNat Zp)) (0:Int)) (K Qc)) [] [node]
def q0d:q82:=q83 Rh Ri
abbrev q6b:Type:=List (ByteArray)->List (Edg)->(List (ByteArray)->Prop)->Prop
def q6c(z33:q82)(q11:q9x)(q12:q9y):q6b:=fun nodes edges K=>Lp2 (fun Qc Zp q3l=>Fits nodes->CAt nodes Zp (fun y2=>At nodes Zp fun y4=>z33 edges y2 fun Q9=>q11 Q9 y4 fun W7=>Cnd (W7=true) (At nodes Zp fun y8=>q12 Qc y8 fun Ql=>InI (Zp+1)/\q3l Ql (Zp+1)) (InI (Zp+1)/\q3l Qc (Zp+1))) (K Qc)) [] (0:Int)
def Bv:q6b:=q6c q0d Rh Ri
abbrev q6d:Type:=List (ByteArray)->List (Edg)->(ByteArray->Bool->Prop)->Prop
def q6e(z0p:q6b):q6d:=fun nodes edges K=>z0p nodes edges fun Qc=>Fits Qc->Cnd ((↑Qc.length:Int)=0) (K (B8 []) false) (((0:Int)<=(0:Int)/\(0:Int)<(↑Qc.length:Int))/\ ∀y2,Qc[Int.toNat (0:Int)]? =some y2->K y2 true)
def Z5:q6d:=q6e Bv
abbrev q0e:Type:=Envt->ByteArray->(Int->Prop)->Prop
def q7f:q0e:=fun v key K=>Lp1 (fun Qc q4m=>Fits v.4->CAt v.4 Qc (fun y2=>Cnd (y2.1=key) (K Qc) (InI (Qc+1)/\q4m (Qc+1))) (K (-1:Int))) (0:Int)
abbrev q84:Type:=List (Decl)->Srv->(Int->Prop)->Prop
def z3o(q65:z1s):q84:=fun l v K=>Cnd (v.1=0) (q65 l v.2 v.3 fun Qc=>Cnd (Qc=0) (K (11:Int)) (Cnd (Qc=5) (K (8:Int)) (K (0:Int)))) (K (0:Int))
def q0f:q84:=z3o Uq
abbrev Hw:Type:=Envt->Flg->(Int->Prop)->Prop
def q06(Ww:q0b)(Ub:q0e)(Uc:Gw)(q9b:q84)(Ja:We):Hw:=fun v f K=>Ww v.3 fun Qc=>Lp2 (fun Qd Z1 z2w=>Fits f.6->CAt f.6 Qd (fun y3=>Ub (Envt.mk (Sett.mk v.1.1 v.1.2 v.1.3) v.2 v.3 v.4 v.5 v.6) y3.1 fun Z0=>Cnd (Z0<0) (K (11:Int)) (At f.6 Qd fun y6=>At v.4 Z0 fun y8=>Fits y8.3->Cnd ((↑y8.3.length:Int)<y6.2) (K (3:Int)) (InI (Qd+1)/\z2w (Qd+1) Z1))) (Lp2 (fun Za He j04=>Fits f.8->CAt f.8 Za (fun y5=>Uc v.2 He (Ex.mk y5.2.1 y5.2.2 y5.2.3 y5.2.4 y5.2.5) fun W7=>Cnd (W7=0) (At f.8 Za fun y8=>q9b v.2 (Srv.mk y8.3.1 y8.3.2 y8.3.3 y8.3.4 y8.3.5) fun Ql=>Cnd (Ql=0) (InI (Za+1)/\j04 (Za+1) He) (K Ql)) (K W7)) (q9b v.2 (Srv.mk f.9.1 f.9.2 f.9.3 f.9.4 f.9.5) fun Z0=>Cnd (Z0=0) (Ja f.8 fun Q9 _ y0b=>Cnd (y0b=true) (Fits Q9->Cnd ((0:Int)<(↑Q9.length:Int)) (K (13:Int)) (K (0:Int))) (K (19:Int))) (K Z0))) (0:Int) Z1)) (0:Int) Qc
def Ur:Hw:=q06 q81 q7f V6 q0f Zv
abbrev q29:Type:=Envt->(List (ByteArray)->Prop)->Prop
def q73:q29:=fun v K=>Lp2 (fun Qc Zp q3l=>Fits v.4->CAt v.4 Zp (fun y2=>Sml (Qc++[y2.1]).length/\InI (Zp+1)/\q3l (Qc++[y2.1]) (Zp+1)) (K Qc)) [] (0:Int)
abbrev q07:Type:=Envt->(List (Edg)->Prop)->Prop
def q08:q07:=fun v K=>Lp2 (fun Qc Zp q3l=>Fits v.4->Cnd (Zp<(↑v.4.length:Int)) (Lp2 (fun Qt Ju q8j=>At v.4 Zp fun y3=>Fits y3.6->Cnd (Ju<(↑y3.6.length:Int)) (At v.4 Zp fun y6=>At v.4 Zp fun y8=>At y8.6 Ju fun y10=>Sml (Qt++[Edg.mk y6.1 y10.1]).length/\InI (Ju+1)/\q8j (Qt++[Edg.mk y6.1 y10.1]) (Ju+1)) (InI (Zp+1)/\q3l Qt (Zp+1))) Qc (0:Int)) (K Qc)) [] (0:Int)
abbrev q3z:Type:=List (Spn)->List (Spn)->(List (Spn)->Prop)->Prop
def q7g(Zn:Gs)(Q7:Wy):q3z:=fun a b K=>Zn a fun Qc=>Zn b fun Qd=>Lp2 (fun Qt Ju q8j=>Fits Ju->CAt Ju Qt (fun y4=>Cnd (y4=true) (At Qd Qt fun y6=>At Ju Qt fun _=>InI (Qt+1)/\q8j (Qt+1) (Ju.set Qt.toNat y6)) (At Ju Qt fun _=>InI (Qt+1)/\q8j (Qt+1) (Ju.set Qt.toNat false))) (Q7 Ju fun Qy=>K Qy)) (0:Int) Qc
def q0g:q3z:=q7g R7 Ui
abbrev Wm:Type:=Envt->Int->(Int->Prop)->Prop
def V7(Zz:V0)(Ub:q0e)(Ww:q0b)(Uc:Gw)(q7x:q3z):Wm:=fun v i K=>At v.6 i fun y0=>Zz (Envt.mk (Sett.mk v.1.1 v.1.2 v.1.3) v.2 v.3 v.4 v.5 v.6) y0.2 fun Qt=>Ub (Envt.mk (Sett.mk v.1.1 v.1.2 v.1.3) v.2 v.3 v.4 v.5 v.6) y0.3 fun Za=>Cnd (Qt<0) (K (11:Int)) (Cnd (Za<0) (K (11:Int)) (Lp1 (fun Qy w7b=>Fits y0.7->CAt y0.7 Qy (fun y6=>At v.4 Za fun y8=>Fits y8.3->Cnd ((↑y8.3.length:Int)<y6.3) (K (3:Int)) (InI (Qy+1)/\w7b (Qy+1))) (Ww v.3 fun Q9=>Uc v.2 Q9 (Ex.mk y0.8.1 y0.8.2 y0.8.3 y0.8.4 y0.8.5) fun W7=>Cnd (W7=0) (Cnd (y0.5=3) (K (0:Int)) (At v.5 Qt fun y8=>Lp3 (fun Ql Uj v34 v7r=>Cnd (Uj<i) (At v.6 Uj fun y11=>Cnd (y11.2=y0.2) (Cnd (y11.5=3) (InI (Uj+1)/\v7r Ql (Uj+1) v34) (Sml (Ql++y11.6).length/\InI (Uj+1)/\v7r (Ql++y11.6) (Uj+1) v34)) (InI (Uj+1)/\v7r Ql (Uj+1) v34)) (q7x y0.6 Ql fun W2=>Fits W2->Cnd ((0:Int)<(↑W2.length:Int)) (K (14:Int)) (Lp4 (fun Qe q66 v7s v7t v7u=>Cnd (Qe<i) (Cnd (y0.5=2) (At v.6 Qe fun y14=>Cnd (y14.5=2) (Cnd (y14.3=y0.3) (Cnd (y14.2=y0.2) (InI (Qe+1)/\v7u (Qe+1) q66 v7s v7t) (K (14:Int))) (InI (Qe+1)/\v7u (Qe+1) q66 v7s v7t)) (InI (Qe+1)/\v7u (Qe+1) q66 v7s v7t)) (K (0:Int))) (K (0:Int))) (0:Int) W2 Ql v34))) [Spn.mk (0:Int) y8.4] (0:Int) Q9)) (K W7))) (0:Int)))
def Jy:Wm:=V7 q0z q7f q81 V6 q0g
abbrev Us:Type:=Envt->(ByteArray->Int->Prop)->Prop
def Rj(Bq:Gu)(Ww:q0b)(Uc:Gw)(z0q:q6a)(q67:q6d)(q13:Hw)(q3n:q29)(q14:q07)(Ud:Wm):Us:=fun v K=>Bq (Envt.mk (Sett.mk v.1.1 v.1.2 v.1.3) v.2 v.3 v.4 v.5 v.6) fun Qc=>Cnd (Qc=0) (Ww v.3 fun Qd=>Lp2 (fun Qt Ju q8j=>Fits v.3->CAt v.3 Qt (fun y4=>Cnd (y4.5.1=0) (InI (Qt+1)/\q8j (Qt+1) Ju) (At v.3 Qt fun y6=>Uc v.2 Ju (Ex.mk y6.5.1 y6.5.2 y6.5.3 y6.5.4 y6.5.5) fun Wu=>Cnd (Wu=0) (InI (Qt+1)/\q8j (Qt+1) Ju) (At v.3 Qt fun y9=>(↑((B8 [115,101,103,109,101,110,116,32]).size+y9.1.size):Int)<=(9223372036854775807:Int)/\K (B8 [115,101,103,109,101,110,116,32]++y9.1) Wu))) (z0q v.3 fun Qy=>q67 Ju Qy fun Z0 j05=>Cnd (j05=true) ((↑((B8 [115,101,103,109,101,110,116,32]).size+Z0.size):Int)<=(9223372036854775807:Int)/\K (B8 [115,101,103,109,101,110,116,32]++Z0) (12:Int)) (Lp3 (fun Q9 z85 y0b y3h=>Fits v.4->CAt v.4 Q9 (fun y8=>q13 (Envt.mk (Sett.mk v.1.1 v.1.2 v.1.3) v.2 v.3 v.4 v.5 v.6) (Flg.mk y8.1 y8.2 y8.3 y8.4 y8.5 y8.6 y8.7 y8.8 (Srv.mk y8.9.1 y8.9.2 y8.9.3 y8.9.4 y8.9.5)) fun Ql=>Cnd (Ql=0) (InI (Q9+1)/\y3h (Q9+1) z85 y0b) (At v.4 Q9 fun y11=>(↑((B8 [102,108,97,103,32]).size+y11.1.size):Int)<=(9223372036854775807:Int)/\K (B8 [102,108,97,103,32]++y11.1) Ql)) (q3n (Envt.mk (Sett.mk v.1.1 v.1.2 v.1.3) v.2 v.3 v.4 v.5 v.6) fun Wu=>q14 (Envt.mk (Sett.mk v.1.1 v.1.2 v.1.3) v.2 v.3 v.4 v.5 v.6) fun Wd=>q67 Wu Wd fun Ql Uj=>Cnd (Uj=true) ((↑((B8 [102,108,97,103,32]).size+Ql.size):Int)<=(9223372036854775807:Int)/\K (B8 [102,108,97,103,32]++Ql) (12:Int)) (Lp5 (fun W2 z4a y1y y1z y18 y2a=>Fits v.6->Cnd (W2<(↑v.6.length:Int)) (Ud (Envt.mk (Sett.mk v.1.1 v.1.2 v.1.3) v.2 v.3 v.4 v.5 v.6) W2 fun Qe=>Cnd (Qe=0) (InI (W2+1)/\y2a (W2+1) z4a y1y y1z y18) (At v.6 W2 fun y14=>(↑((B8 [101,120,112,101,114,105,109,101,110,116,32]).size+y14.1.size):Int)<=(9223372036854775807:Int)/\K (B8 [101,120,112,101,114,105,109,101,110,116,32]++y14.1) Qe)) (K (B8 []) (0:Int))) (0:Int) Wu Wd y0b z85))) (0:Int) Ju Qy))) (0:Int) Qd) (K (B8 []) Qc)
def Ve:Us:=Rj Vv q81 V6 Vk Z5 Ur q73 q08 Jy
abbrev Bw:Type:=Envt->(Bool->Prop)->Prop
def q90(Ry:Us):Bw:=fun v K=>Ry (Envt.mk (Sett.mk v.1.1 v.1.2 v.1.3) v.2 v.3 v.4 v.5 v.6) fun _ Zp=>K (decide (Zp=0))
def Gb:Bw:=q90 Ve
abbrev Hx:Type:=List (Int)->Int->Int->(Envt->Int->Prop)->Prop
def q6f(Zs:U2)(q7y:q3s)(Qb:Z3)(q1v:z3a)(W6:q5x)(q3j:q9o)(z2x:z1o)(H9:q0u)(q3k:q4y)(Ja:We)(z7l:z1p)(Wt:q0r)(q1w:q5y)(z34:q8s)(J1:q0s)(J8:Ga)(z0r:q54)(J9:Bw):Hx:=fun list at_ now K=>Zs fun Qc=>Jn1 (fun (Qd:ByteArray×ByteArray×Int×Int×List Decl×Unit)=>q7y list Qd.2.2.2.1 Qd.1 Qd.2.1 Qd.2.2.1 Qd.2.2.2.2.1 [] [] [] [] fun Qt Ju q7s j32 v1k y3i y3j y3k y3l=>Qb list Qt (5:Int) fun Za He=>q1v Za [B8 [102,97],B8 [102,98],B8 [102,99],B8 [102,100]] fun Qy=>LpH (fun (Z0:Int×Int×List Flg×List Seg×List Lay_×List Exper×Unit) w7a=>Fits Qy->CAt Qy Z0.1 (fun y7=>Qb list Z0.2.1 (5:Int) fun Wd z5o=>InI ((1:Int)+Wd)/\Qb list z5o (6:Int) fun Ql Uj=>Qb list Uj (4:Int) fun W2 z4a=>InI ((1:Int)+W2)/\LpH (fun (Q1:Int×Int×List Val×List Exper×List Lay_×List Flg×List Seg×Unit) (y2b:Int×Int×List Val×List Exper×List Lay_×List Flg×List Seg×Unit->Prop)=>Cnd (Q1.1<1+W2) (W6 list Q1.2.1 ((1:Int)+Wd) fun Qe q66=>Sml (Q1.2.2.1++[Qe]).length/\InI (Q1.1+1)/\y2b (Q1.1+1,q66,Q1.2.2.1++[Qe],Q1.2.2.2.1,Q1.2.2.2.2.1,Q1.2.2.2.2.2.1,Q1.2.2.2.2.2.2.1,())) (Qb list Q1.2.1 ((1:Int)+W2) fun Qe q66=>InI ((1:Int)+Qe)/\LpH (fun (G7:Int×List Prq×Int×List Seg×List Flg×List Lay_×List Exper×List Val×Unit) (v90:Int×List Prq×Int×List Seg×List Flg×List Lay_×List Exper×List Val×Unit->Prop)=>Fits G7.2.2.2.2.1->Cnd (G7.1<(↑G7.2.2.2.2.1.length:Int)) (Qb list G7.2.2.1 (4:Int) fun Qs j40=>Cnd (Qs=1) (At G7.2.2.2.2.1 G7.1 fun y17=>At G7.2.2.2.2.1 G7.1 fun y19=>Fits y19.3->Qb list j40 (↑y19.3.length:Int) fun Je w3r=>InI ((1:Int)+Je)/\Sml (G7.2.1++[Prq.mk y17.1 ((1:Int)+Je)]).length/\InI (G7.1+1)/\v90 (G7.1+1,G7.2.1++[Prq.mk y17.1 ((1:Int)+Je)],w3r,G7.2.2.2.1,G7.2.2.2.2.1,G7.2.2.2.2.2.1,G7.2.2.2.2.2.2.1,G7.2.2.2.2.2.2.2.1,())) (InI (G7.1+1)/\v90 (G7.1+1,G7.2.1,j40,G7.2.2.2.1,G7.2.2.2.2.1,G7.2.2.2.2.2.1,G7.2.2.2.2.2.2.1,G7.2.2.2.2.2.2.2.1,()))) (LpH (fun (Qs:Int×List Tgt×Int×List Val×List Exper×List Lay_×List Flg×List Seg×List Prq×Unit) (v91:Int×List Tgt×Int×List Val×List Exper×List Lay_×List Flg×List Seg×List Prq×Unit->Prop)=>Qb list Qs.2.2.1 (3:Int) fun j3y v35=>Cnd (Qs.1<j3y) (Qb list v35 ((1:Int)+W2) fun Zd z4b=>InI ((1:Int)+Zd)/\q3j list z4b fun Zi j3z=>Jn1 (fun (q15:ByteArray×Int×List ByteArray×List Prq×List Seg×List Flg×List Lay_×List Exper×List Val×List Tgt×Unit)=>Fits q15.2.2.1->Cnd ((0:Int)<(↑q15.2.2.1.length:Int)) (Sml (q15.2.2.2.2.2.2.2.2.2.1++[Tgt.mk q15.1 ((1:Int)+Zd) q15.2.2.1]).length/\InI (Qs.1+1)/\v91 (Qs.1+1,q15.2.2.2.2.2.2.2.2.2.1++[Tgt.mk q15.1 ((1:Int)+Zd) q15.2.2.1],q15.2.1,q15.2.2.2.2.2.2.2.2.1,q15.2.2.2.2.2.2.2.1,q15.2.2.2.2.2.2.1,q15.2.2.2.2.2.1,q15.2.2.2.2.1,q15.2.2.2.1,())) (InI (Qs.1+1)/\v91 (Qs.1+1,q15.2.2.2.2.2.2.2.2.2.1,q15.2.1,q15.2.2.2.2.2.2.2.2.1,q15.2.2.2.2.2.2.2.1,q15.2.2.2.2.2.2.1,q15.2.2.2.2.2.1,q15.2.2.2.2.1,q15.2.2.2.1,()))) fun (v92:ByteArray×Int×List ByteArray×List Prq×List Seg×List Flg×List Lay_×List Exper×List Val×List Tgt×Unit->Prop)=>Qb list j3z (4:Int) fun z0s j41=>Cnd (z0s=1) (v92 (B8 [100,101,118,105,99,101],j41,Zi,Qs.2.2.2.2.2.2.2.2.1,Qs.2.2.2.2.2.2.2.1,Qs.2.2.2.2.2.2.1,Qs.2.2.2.2.2.1,Qs.2.2.2.2.1,Qs.2.2.2.1,Qs.2.1,())) (v92 (B8 [117,115,101,114],j41,Zi,Qs.2.2.2.2.2.2.2.2.1,Qs.2.2.2.2.2.2.2.1,Qs.2.2.2.2.2.2.1,Qs.2.2.2.2.2.1,Qs.2.2.2.2.1,Qs.2.2.2.1,Qs.2.1,()))) (Jn1 (fun (Zd:Int×List Rul×List ByteArray×List Prq×List Seg×List Flg×List Lay_×List Exper×List Val×List Tgt×Unit)=>z2x list Zd.1 ((1:Int)+W2) fun Zi j3z=>Sml (Zd.2.2.2.2.2.1++[Flg.mk y7 ((1:Int)+Wd) Zd.2.2.2.2.2.2.2.2.1 (decide (Ql<5)) ((1:Int)+Qe) Zd.2.2.2.1 Zd.2.2.2.2.2.2.2.2.2.1 Zd.2.1 Zi]).length/\InI (Z0.1+1)/\w7a (Z0.1+1,j3z,Zd.2.2.2.2.2.1++[Flg.mk y7 ((1:Int)+Wd) Zd.2.2.2.2.2.2.2.2.1 (decide (Ql<5)) ((1:Int)+Qe) Zd.2.2.2.1 Zd.2.2.2.2.2.2.2.2.2.1 Zd.2.1 Zi],Zd.2.2.2.2.1,Zd.2.2.2.2.2.2.1,Zd.2.2.2.2.2.2.2.1,())) fun (w7c:Int×List Rul×List ByteArray×List Prq×List Seg×List Flg×List Lay_×List Exper×List Val×List Tgt×Unit->Prop)=>LpH (fun (Zi:Int×Int×List Rul×List ByteArray×List Prq×List Seg×List Flg×List Lay_×List Exper×List Val×List Tgt×Unit) (y2c:Int×Int×List Rul×List ByteArray×List Prq×List Seg×List Flg×List Lay_×List Exper×List Val×List Tgt×Unit->Prop)=>Qb list Zi.2.1 (5:Int) fun q15 v36=>Cnd (Zi.1<q15) (At Zi.2.2.2.1 Zi.1 fun y21=>H9 (Envt.mk (Sett.mk Ju q7s j32) v1k Zi.2.2.2.2.2.1 Zi.2.2.2.2.2.2.1 Zi.2.2.2.2.2.2.2.1 Zi.2.2.2.2.2.2.2.2.1) fun w3s=>q3k list v36 w3s (3:Int) fun Qm w3t=>z2x list w3t ((1:Int)+W2) fun q8h v1b=>Sml (Zi.2.2.1++[Rul.mk y21 (Ex.mk Qm.1 Qm.2 Qm.3 Qm.4 Qm.5) q8h]).length/\Ja (Zi.2.2.1++[Rul.mk y21 (Ex.mk Qm.1 Qm.2 Qm.3 Qm.4 Qm.5) q8h]) fun v93 _ y2d=>Cnd (y2d=true) (Fits v93->Cnd ((0:Int)<(↑v93.length:Int)) ((Zi.2.2.1++[Rul.mk y21 (Ex.mk Qm.1 Qm.2 Qm.3 Qm.4 Qm.5) q8h]).length<=(9223372036854775807:Nat)->InI ((↑(Zi.2.2.1++[Rul.mk y21 (Ex.mk Qm.1 Qm.2 Qm.3 Qm.4 Qm.5) q8h]).length:Int) - 1)/\((0:Int)<=(↑(Zi.2.2.1++[Rul.mk y21 (Ex.mk Qm.1 Qm.2 Qm.3 Qm.4 Qm.5) q8h]).length:Int) - 1/\(↑(Zi.2.2.1++[Rul.mk y21 (Ex.mk Qm.1 Qm.2 Qm.3 Qm.4 Qm.5) q8h]).length:Int) - 1<=(↑(Zi.2.2.1++[Rul.mk y21 (Ex.mk Qm.1 Qm.2 Qm.3 Qm.4 Qm.5) q8h]).length:Int))/\w7c (v1b,List.take ((↑(Zi.2.2.1++[Rul.mk y21 (Ex.mk Qm.1 Qm.2 Qm.3 Qm.4 Qm.5) q8h]).length:Int) - 1).toNat (Zi.2.2.1++[Rul.mk y21 (Ex.mk Qm.1 Qm.2 Qm.3 Qm.4 Qm.5) q8h]),Zi.2.2.2.1,Zi.2.2.2.2.1,Zi.2.2.2.2.2.1,Zi.2.2.2.2.2.2.1,Zi.2.2.2.2.2.2.2.1,Zi.2.2.2.2.2.2.2.2.1,Zi.2.2.2.2.2.2.2.2.2.1,Zi.2.2.2.2.2.2.2.2.2.2.1,())) (InI (Zi.1+1)/\y2c (Zi.1+1,v1b,Zi.2.2.1++[Rul.mk y21 (Ex.mk Qm.1 Qm.2 Qm.3 Qm.4 Qm.5) q8h],Zi.2.2.2.1,Zi.2.2.2.2.1,Zi.2.2.2.2.2.1,Zi.2.2.2.2.2.2.1,Zi.2.2.2.2.2.2.2.1,Zi.2.2.2.2.2.2.2.2.1,Zi.2.2.2.2.2.2.2.2.2.1,Zi.2.2.2.2.2.2.2.2.2.2.1,()))) ((Zi.2.2.1++[Rul.mk y21 (Ex.mk Qm.1 Qm.2 Qm.3 Qm.4 Qm.5) q8h]).length<=(9223372036854775807:Nat)->InI ((↑(Zi.2.2.1++[Rul.mk y21 (Ex.mk Qm.1 Qm.2 Qm.3 Qm.4 Qm.5) q8h]).length:Int) - 1)/\((0:Int)<=(↑(Zi.2.2.1++[Rul.mk y21 (Ex.mk Qm.1 Qm.2 Qm.3 Qm.4 Qm.5) q8h]).length:Int) - 1/\(↑(Zi.2.2.1++[Rul.mk y21 (Ex.mk Qm.1 Qm.2 Qm.3 Qm.4 Qm.5) q8h]).length:Int) - 1<=(↑(Zi.2.2.1++[Rul.mk y21 (Ex.mk Qm.1 Qm.2 Qm.3 Qm.4 Qm.5) q8h]).length:Int))/\w7c (v1b,List.take ((↑(Zi.2.2.1++[Rul.mk y21 (Ex.mk Qm.1 Qm.2 Qm.3 Qm.4 Qm.5) q8h]).length:Int) - 1).toNat (Zi.2.2.1++[Rul.mk y21 (Ex.mk Qm.1 Qm.2 Qm.3 Qm.4 Qm.5) q8h]),Zi.2.2.2.1,Zi.2.2.2.2.1,Zi.2.2.2.2.2.1,Zi.2.2.2.2.2.2.1,Zi.2.2.2.2.2.2.2.1,Zi.2.2.2.2.2.2.2.2.1,Zi.2.2.2.2.2.2.2.2.2.1,Zi.2.2.2.2.2.2.2.2.2.2.1,()))) (w7c (v36,Zi.2.2.1,Zi.2.2.2.1,Zi.2.2.2.2.1,Zi.2.2.2.2.2.1,Zi.2.2.2.2.2.2.1,Zi.2.2.2.2.2.2.2.1,Zi.2.2.2.2.2.2.2.2.1,Zi.2.2.2.2.2.2.2.2.2.1,Zi.2.2.2.2.2.2.2.2.2.2.1,()))) ((0:Int),v35,[],[B8 [102,105,114,115,116],B8 [115,101,99,111,110,100],B8 [116,104,105,114,100],B8 [102,111,117,114,116,104]],Qs.2.2.2.2.2.2.2.2.1,Qs.2.2.2.2.2.2.2.1,Qs.2.2.2.2.2.2.1,Qs.2.2.2.2.2.1,Qs.2.2.2.2.1,Qs.2.2.2.1,Qs.2.1,()))) ((0:Int),[],G7.2.2.1,G7.2.2.2.2.2.2.2.1,G7.2.2.2.2.2.2.1,G7.2.2.2.2.2.1,G7.2.2.2.2.1,G7.2.2.2.1,G7.2.1,()))) ((0:Int),[],q66,Q1.2.2.2.2.2.2.1,Q1.2.2.2.2.2.1,Q1.2.2.2.2.1,Q1.2.2.2.1,Q1.2.2.1,()))) ((0:Int),z4a,[],Z0.2.2.2.2.2.1,Z0.2.2.2.2.1,Z0.2.2.1,Z0.2.2.2.1,())) (Qb list Z0.2.1 (3:Int) fun W7 q8i=>q1v W7 [B8 [108,97],B8 [108,98]] fun Wu=>LpH (fun (Wd:Int×Int×List Lay_×List Exper×List Seg×List Flg×Unit) (v44:Int×Int×List Lay_×List Exper×List Seg×List Flg×Unit->Prop)=>Fits Wu->CAt Wu Wd.1 (fun y11=>z7l list Wd.2.1 y11 fun Qe q66=>Sml (Wd.2.2.1++[Qe]).length/\InI (Wd.1+1)/\v44 (Wd.1+1,q66,Wd.2.2.1++[Qe],Wd.2.2.2.1,Wd.2.2.2.2.1,Wd.2.2.2.2.2.1,())) (Qb list Wd.2.1 (4:Int) fun W2 z4a=>q1v W2 [B8 [120,97],B8 [120,98],B8 [120,99]] fun Q1=>LpH (fun (Qe:Int×Int×List Exper×List Flg×List Seg×List Lay_×Unit) (v1c:Int×Int×List Exper×List Flg×List Seg×List Lay_×Unit->Prop)=>Fits Q1->Cnd (Qe.1<(↑Q1.length:Int)) (Fits Qe.2.2.2.1->Cnd ((0:Int)<(↑Qe.2.2.2.1.length:Int)) (Fits Qe.2.2.2.2.2.1->Cnd ((0:Int)<(↑Qe.2.2.2.2.2.1.length:Int)) (At Q1 Qe.1 fun y17=>Fits Qe.2.2.2.1->Qb list Qe.2.1 (↑Qe.2.2.2.1.length:Int) fun q15 v36=>At Qe.2.2.2.1 q15 fun y21=>Fits Qe.2.2.2.2.2.1->Fits y21.3->Qb list v36 (↑Qe.2.2.2.2.2.1.length:Int) fun q8h v1b=>At Qe.2.2.2.2.2.1 q8h fun y26=>Wt list v1b fun j42 y2e=>Qb list y2e (3:Int) fun w3u y2f=>InI ((1:Int)+w3u)/\q1w list y2f (↑y21.3.length:Int) fun v7v v94=>Jn1 (fun (q4o:Int×Int×List Rng×List Exper×List Lay_×List Flg×List Seg×Unit)=>Jn1 (fun (Zh:Int×ByteArray×ByteArray×List Val×List Ex×Int×List Seg×List Flg×List Lay_×List Exper×List Rng×Unit)=>z34 (Envt.mk (Sett.mk Ju q7s j32) v1k Zh.2.2.2.2.2.2.1 Zh.2.2.2.2.2.2.2.1 Zh.2.2.2.2.2.2.2.2.1 Zh.2.2.2.2.2.2.2.2.2.1) y26.1 now fun (v7w:List Spn) (_:Int)=>J1 list Zh.2.2.2.2.2.1 (8000:Int) fun (v7x y2g:Int)=>J1 list y2g (8000:Int) fun (w3v v7y:Int)=>J8 v7w [Spn.mk v7x w3v] fun (y2h:List Spn)=>J1 list v7y (7000:Int) fun (y2i v95:Int)=>z0r y2h y2i fun (j43:List Spn)=>Sml (Zh.2.2.2.2.2.2.2.2.2.1++[Exper.mk y17 y26.1 y21.1 j42 q4o.1 j43 Zh.2.2.2.2.2.2.2.2.2.2.1 (Ex.mk Zh.1 Zh.2.1 Zh.2.2.1 Zh.2.2.2.1 Zh.2.2.2.2.1)]).length/\J9 (Envt.mk (Sett.mk Ju q7s j32) v1k Zh.2.2.2.2.2.2.1 Zh.2.2.2.2.2.2.2.1 Zh.2.2.2.2.2.2.2.2.1 (Zh.2.2.2.2.2.2.2.2.2.1++[Exper.mk y17 y26.1 y21.1 j42 q4o.1 j43 Zh.2.2.2.2.2.2.2.2.2.2.1 (Ex.mk Zh.1 Zh.2.1 Zh.2.2.1 Zh.2.2.2.1 Zh.2.2.2.2.1)])) fun (y2j:Bool)=>Cnd (y2j=true) (InI (Qe.1+1)/\v1c (Qe.1+1,v95,Zh.2.2.2.2.2.2.2.2.2.1++[Exper.mk y17 y26.1 y21.1 j42 q4o.1 j43 Zh.2.2.2.2.2.2.2.2.2.2.1 (Ex.mk Zh.1 Zh.2.1 Zh.2.2.1 Zh.2.2.2.1 Zh.2.2.2.2.1)],Zh.2.2.2.2.2.2.2.1,Zh.2.2.2.2.2.2.1,Zh.2.2.2.2.2.2.2.2.1,())) ((Zh.2.2.2.2.2.2.2.2.2.1++[Exper.mk y17 y26.1 y21.1 j42 q4o.1 j43 Zh.2.2.2.2.2.2.2.2.2.2.1 (Ex.mk Zh.1 Zh.2.1 Zh.2.2.1 Zh.2.2.2.1 Zh.2.2.2.2.1)]).length<=(9223372036854775807:Nat)->InI ((↑(Zh.2.2.2.2.2.2.2.2.2.1++[Exper.mk y17 y26.1 y21.1 j42 q4o.1 j43 Zh.2.2.2.2.2.2.2.2.2.2.1 (Ex.mk Zh.1 Zh.2.1 Zh.2.2.1 Zh.2.2.2.1 Zh.2.2.2.2.1)]).length:Int) - 1)/\((0:Int)<=(↑(Zh.2.2.2.2.2.2.2.2.2.1++[Exper.mk y17 y26.1 y21.1 j42 q4o.1 j43 Zh.2.2.2.2.2.2.2.2.2.2.1 (Ex.mk Zh.1 Zh.2.1 Zh.2.2.1 Zh.2.2.2.1 Zh.2.2.2.2.1)]).length:Int) - 1/\(↑(Zh.2.2.2.2.2.2.2.2.2.1++[Exper.mk y17 y26.1 y21.1 j42 q4o.1 j43 Zh.2.2.2.2.2.2.2.2.2.2.1 (Ex.mk Zh.1 Zh.2.1 Zh.2.2.1 Zh.2.2.2.1 Zh.2.2.2.2.1)]).length:Int) - 1<=(↑(Zh.2.2.2.2.2.2.2.2.2.1++[Exper.mk y17 y26.1 y21.1 j42 q4o.1 j43 Zh.2.2.2.2.2.2.2.2.2.2.1 (Ex.mk Zh.1 Zh.2.1 Zh.2.2.1 Zh.2.2.2.1 Zh.2.2.2.2.1)]).length:Int))/\InI (Qe.1+1)/\v1c (Qe.1+1,v95,List.take ((↑(Zh.2.2.2.2.2.2.2.2.2.1++[Exper.mk y17 y26.1 y21.1 j42 q4o.1 j43 Zh.2.2.2.2.2.2.2.2.2.2.1 (Ex.mk Zh.1 Zh.2.1 Zh.2.2.1 Zh.2.2.2.1 Zh.2.2.2.2.1)]).length:Int) - 1).toNat (Zh.2.2.2.2.2.2.2.2.2.1++[Exper.mk y17 y26.1 y21.1 j42 q4o.1 j43 Zh.2.2.2.2.2.2.2.2.2.2.1 (Ex.mk Zh.1 Zh.2.1 Zh.2.2.1 Zh.2.2.2.1 Zh.2.2.2.2.1)]),Zh.2.2.2.2.2.2.2.1,Zh.2.2.2.2.2.2.1,Zh.2.2.2.2.2.2.2.2.1,()))) fun (v96:Int×ByteArray×ByteArray×List Val×List Ex×Int×List Seg×List Flg×List Lay_×List Exper×List Rng×Unit->Prop)=>Qb list q4o.2.1 (2:Int) fun (v7w v97:Int)=>Cnd (v7w=1) (H9 (Envt.mk (Sett.mk Ju q7s j32) v1k q4o.2.2.2.2.2.2.1 q4o.2.2.2.2.2.1 q4o.2.2.2.2.1 q4o.2.2.2.1) fun (v7x:List ByteArray)=>q3k list v97 v7x (2:Int) fun (w3v:Ex) (v7y:Int)=>v96 (w3v.1,w3v.2,w3v.3,w3v.4,w3v.5,v7y,q4o.2.2.2.2.2.2.1,q4o.2.2.2.2.2.1,q4o.2.2.2.2.1,q4o.2.2.2.1,q4o.2.2.1,())) (v96 ((1:Int),B8 [],B8 [],[],[],v97,q4o.2.2.2.2.2.2.1,q4o.2.2.2.2.2.1,q4o.2.2.2.2.1,q4o.2.2.2.1,q4o.2.2.1,()))) fun (v7z:Int×Int×List Rng×List Exper×List Lay_×List Flg×List Seg×Unit->Prop)=>Cnd ((1:Int)+w3u=1) (Qb list v94 (2:Int) fun Zh v98=>Cnd (Zh=0) (v7z ((2:Int),v98,v7v,Qe.2.2.1,Qe.2.2.2.2.2.1,Qe.2.2.2.1,Qe.2.2.2.2.1,())) (v7z ((1:Int)+w3u,v98,v7v,Qe.2.2.1,Qe.2.2.2.2.2.1,Qe.2.2.2.1,Qe.2.2.2.2.1,()))) (v7z ((1:Int)+w3u,v94,v7v,Qe.2.2.1,Qe.2.2.2.2.2.1,Qe.2.2.2.1,Qe.2.2.2.2.1,()))) (J9 (Envt.mk (Sett.mk Ju q7s j32) v1k Qe.2.2.2.2.1 Qe.2.2.2.1 Qe.2.2.2.2.2.1 Qe.2.2.1) fun j3y=>Cnd (j3y=true) (K (Envt.mk (Sett.mk Ju q7s j32) v1k Qe.2.2.2.2.1 Qe.2.2.2.1 Qe.2.2.2.2.2.1 Qe.2.2.1) Qe.2.1) (Zs fun Zd=>K (Envt.mk (Sett.mk (B8 []) (B8 []) (0:Int)) Zd [] [] [] []) Qe.2.1))) (J9 (Envt.mk (Sett.mk Ju q7s j32) v1k Qe.2.2.2.2.1 Qe.2.2.2.1 Qe.2.2.2.2.2.1 Qe.2.2.1) fun Qs=>Cnd (Qs=true) (K (Envt.mk (Sett.mk Ju q7s j32) v1k Qe.2.2.2.2.1 Qe.2.2.2.1 Qe.2.2.2.2.2.1 Qe.2.2.1) Qe.2.1) (Zs fun j3y=>K (Envt.mk (Sett.mk (B8 []) (B8 []) (0:Int)) j3y [] [] [] []) Qe.2.1))) (J9 (Envt.mk (Sett.mk Ju q7s j32) v1k Qe.2.2.2.2.1 Qe.2.2.2.1 Qe.2.2.2.2.2.1 Qe.2.2.1) fun Wq=>Cnd (Wq=true) (K (Envt.mk (Sett.mk Ju q7s j32) v1k Qe.2.2.2.2.1 Qe.2.2.2.1 Qe.2.2.2.2.2.1 Qe.2.2.1) Qe.2.1) (Zs fun Qs=>K (Envt.mk (Sett.mk (B8 []) (B8 []) (0:Int)) Qs [] [] [] []) Qe.2.1))) ((0:Int),z4a,Wd.2.2.2.1,Wd.2.2.2.2.2.1,Wd.2.2.2.2.1,Wd.2.2.1,()))) ((0:Int),q8i,Z0.2.2.2.2.1,Z0.2.2.2.2.2.1,Z0.2.2.2.1,Z0.2.2.1,()))) ((0:Int),He,y3j,y3i,y3k,y3l,())) fun w3q=>Qb list at_ (2:Int) fun Qt Ju=>Cnd (Qt=1) (Wt list Ju fun Za He=>J1 list He (2500:Int) fun Qy Hf=>w3q (Za,B8 [117,115,101,114],Qy,Hf,Qc,())) (w3q (B8 [],B8 [],(0:Int),Ju,Qc,()))
def q09:Hx:=q6f Hj q7a J0 j0r q0t z55 z58 q0v z57 Zv z6c q9n z1n z3f q4x Hn q9v Gb
abbrev Wn:Type:=Envt->Int->(ByteArray->Prop)->Prop
def Hy(z0t:z73):Wn:=fun v n K=>z0t n (4:Int) fun Qc=>Fits v.6->CAt v.6 Qc (fun y2=>K y2.1) (K (B8 [110,111,110,101]))
def V8:Wn:=Hy j1z
abbrev Wc:Type:=Int->(Bool->Prop)->Prop
def W0:Wc:=fun now K=>Cnd ((0:Int)<=now) (K (decide (now<=1099511627776))) (K false)
abbrev Ze:Type:=Envt->ByteArray->(Int->Prop)->Prop
def Zm:Ze:=fun v key K=>Fits v.5->Lp1 (fun Qd q4q=>CAt v.5 Qd (fun y2=>Cnd (y2.1=key) (K Qd) (InI (Qd+1)/\q4q (Qd+1))) (K (-1:Int))) (0:Int)
abbrev Wi:Type:=Envt->ByteArray->Int->(Int->Int->Int->Prop)->Prop
def q74(Q8:Wc)(Qg:Ze):Wi:=fun v experiment now K=>Q8 now fun Qc=>Cnd (Qc=true) (Fits v.6->Lp1 (fun Qt j8l=>CAt v.6 Qt (fun y3=>Cnd (y3.1=experiment) (Cnd (Qt<0) (K (0:Int) (0:Int) (11:Int)) (At v.6 Qt fun y5=>Qg (Envt.mk (Sett.mk v.1.1 v.1.2 v.1.3) v.2 v.3 v.4 v.5 v.6) y5.2 fun W7=>Cnd (W7<0) (K (0:Int) (0:Int) (11:Int)) (K Qt W7 (0:Int)))) (InI (Qt+1)/\j8l (Qt+1))) (Cnd ((-1:Int)<(0:Int)) (K (0:Int) (0:Int) (11:Int)) (At v.6 (-1:Int) fun y3=>Qg (Envt.mk (Sett.mk v.1.1 v.1.2 v.1.3) v.2 v.3 v.4 v.5 v.6) y3.2 fun Z0=>Cnd (Z0<0) (K (0:Int) (0:Int) (11:Int)) (K (-1:Int) Z0 (0:Int))))) (0:Int)) (K (0:Int) (0:Int) (3:Int))
def G3:Wi:=q74 W0 Zm
abbrev q1a:Type:=Val->(Val->Prop)->Prop
def Gc:q1a:=fun v K=> ∀n0,(n0=true->v.4=[])->Cnd (n0=true) (K (Val.mk v.1 v.2 v.3 [])) (Sml ([]++v.4).length/\K (Val.mk v.1 v.2 v.3 ([]++v.4)))
abbrev Wo:Type:=Ex->(Ex->Prop)->Prop
def q7h(Rz:q1a)(X:Wo):Wo:=fun e K=>Fits e.4->((0:Int)<=(0:Int)/\(0:Int)<=(↑e.4.length:Int)/\Sml (↑e.4.length:Int).toNat)/\(Fits e.4->Lp2 (fun Qt Ju q8j=>CAt e.4 Ju (fun y3=>Rz y3 fun Z0=>Sml (Qt++[Z0]).length/\InI (Ju+1)/\q8j (Qt++[Z0]) (Ju+1)) (Fits e.5->((0:Int)<=(0:Int)/\(0:Int)<=(↑e.5.length:Int)/\Sml (↑e.5.length:Int).toNat)/\(Fits e.5->Lp2 (fun Z0 j05 y1x=>CAt e.5 j05 (fun y6=>X (Ex.mk y6.1 y6.2 y6.3 y6.4 y6.5) fun Wu=>Sml (Z0++[Ex.mk Wu.1 Wu.2 Wu.3 Wu.4 Wu.5]).length/\InI (j05+1)/\y1x (Z0++[Ex.mk Wu.1 Wu.2 Wu.3 Wu.4 Wu.5]) (j05+1)) (K (Ex.mk e.1 e.2 e.3 Qt Z0))) (List.replicate (Int.toNat (0:Int)) (Ex.mk (0:Int) (B8 []) (B8 []) [] [])) (0:Int)))) (List.replicate (Int.toNat (0:Int)) (Val.mk (0:Int) (0:Int) (B8 []) [])) (0:Int))
def q0h:Wo:=fun e K=> ∀X:Wo,(∀e K,q7h Gc X e K->X e K)->X e K
abbrev J4:Type:=Seg->(Seg->Prop)->Prop
def q6g(Zc:Wo):J4:=fun g K=> ∀n0,(n0=true->g.3=[])->Cnd (n0=true) (∀n2,(n2=true->g.4=[])->Cnd (n2=true) (Zc (Ex.mk g.5.1 g.5.2 g.5.3 g.5.4 g.5.5) fun Qy=>K (Seg.mk g.1 g.2 [] [] (Ex.mk Qy.1 Qy.2 Qy.3 Qy.4 Qy.5))) (Sml ([]++g.4).length/\Zc (Ex.mk g.5.1 g.5.2 g.5.3 g.5.4 g.5.5) fun Qy=>K (Seg.mk g.1 g.2 [] ([]++g.4) (Ex.mk Qy.1 Qy.2 Qy.3 Qy.4 Qy.5)))) (Sml ([]++g.3).length/\ ∀n2,(n2=true->g.4=[])->Cnd (n2=true) (Zc (Ex.mk g.5.1 g.5.2 g.5.3 g.5.4 g.5.5) fun Qy=>K (Seg.mk g.1 g.2 ([]++g.3) [] (Ex.mk Qy.1 Qy.2 Qy.3 Qy.4 Qy.5))) (Sml ([]++g.4).length/\Zc (Ex.mk g.5.1 g.5.2 g.5.3 g.5.4 g.5.5) fun Qy=>K (Seg.mk g.1 g.2 ([]++g.3) ([]++g.4) (Ex.mk Qy.1 Qy.2 Qy.3 Qy.4 Qy.5))))
def Wp:J4:=q6g q0h
abbrev q3a:Type:=Tgt->(Tgt->Prop)->Prop
def R9:q3a:=fun t K=> ∀n0,(n0=true->t.3=[])->Cnd (n0=true) (K (Tgt.mk t.1 t.2 [])) (Sml ([]++t.3).length/\K (Tgt.mk t.1 t.2 ([]++t.3)))
abbrev Rk:Type:=Srv->(Srv->Prop)->Prop
def q43:Rk:=fun v K=> ∀n0,(n0=true->v.5=[])->Cnd (n0=true) (K (Srv.mk v.1 v.2 v.3 v.4 [])) (Sml ([]++v.5).length/\K (Srv.mk v.1 v.2 v.3 v.4 ([]++v.5)))
abbrev q30:Type:=Rul->(Rul->Prop)->Prop
def z1t(Zc:Wo)(Wk:Rk):q30:=fun r K=>Zc (Ex.mk r.2.1 r.2.2 r.2.3 r.2.4 r.2.5) fun Qc=>Wk (Srv.mk r.3.1 r.3.2 r.3.3 r.3.4 r.3.5) fun Qd=>K (Rul.mk r.1 (Ex.mk Qc.1 Qc.2 Qc.3 Qc.4 Qc.5) Qd)
def q0i:q30:=z1t q0h q43
abbrev V9:Type:=Flg->(Flg->Prop)->Prop
def z1u(Rz:q1a)(Bd:q3a)(q37:q30)(Wk:Rk):V9:=fun f K=>Fits f.3->((0:Int)<=(0:Int)/\(0:Int)<=(↑f.3.length:Int)/\Sml (↑f.3.length:Int).toNat)/\(Fits f.3->Lp2 (fun Qt Ju q8j=>CAt f.3 Ju (fun y3=>Rz y3 fun Z0=>Sml (Qt++[Z0]).length/\InI (Ju+1)/\q8j (Qt++[Z0]) (Ju+1)) (∀n3,(n3=true->f.6=[])->Cnd (n3=true) (Fits f.7->((0:Int)<=(0:Int)/\(0:Int)<=(↑f.7.length:Int)/\Sml (↑f.7.length:Int).toNat)/\(Fits f.7->Lp2 (fun W7 q8i v1i=>CAt f.7 q8i (fun y8=>Bd y8 fun Ql=>Sml (W7++[Ql]).length/\InI (q8i+1)/\v1i (W7++[Ql]) (q8i+1)) (Fits f.8->((0:Int)<=(0:Int)/\(0:Int)<=(↑f.8.length:Int)/\Sml (↑f.8.length:Int).toNat)/\(Fits f.8->Lp2 (fun Ql Uj w3w=>CAt f.8 Uj (fun y11=>q37 (Rul.mk y11.1 (Ex.mk y11.2.1 y11.2.2 y11.2.3 y11.2.4 y11.2.5) (Srv.mk y11.3.1 y11.3.2 y11.3.3 y11.3.4 y11.3.5)) fun Qe=>Sml (Ql++[Rul.mk Qe.1 (Ex.mk Qe.2.1 Qe.2.2 Qe.2.3 Qe.2.4 Qe.2.5) (Srv.mk Qe.3.1 Qe.3.2 Qe.3.3 Qe.3.4 Qe.3.5)]).length/\InI (Uj+1)/\w3w (Ql++[Rul.mk Qe.1 (Ex.mk Qe.2.1 Qe.2.2 Qe.2.3 Qe.2.4 Qe.2.5) (Srv.mk Qe.3.1 Qe.3.2 Qe.3.3 Qe.3.4 Qe.3.5)]) (Uj+1)) (Wk (Srv.mk f.9.1 f.9.2 f.9.3 f.9.4 f.9.5) fun W2=>K (Flg.mk f.1 f.2 Qt f.4 f.5 [] W7 Ql W2))) (List.replicate (Int.toNat (0:Int)) (Rul.mk (B8 []) (Ex.mk (0:Int) (B8 []) (B8 []) [] []) (Srv.mk (0:Int) (B8 []) (B8 []) (B8 []) []))) (0:Int)))) (List.replicate (Int.toNat (0:Int)) (Tgt.mk (B8 []) (0:Int) [])) (0:Int))) (Sml ([]++f.6).length/\(Fits f.7->((0:Int)<=(0:Int)/\(0:Int)<=(↑f.7.length:Int)/\Sml (↑f.7.length:Int).toNat)/\(Fits f.7->Lp2 (fun W7 q8i v1i=>CAt f.7 q8i (fun y8=>Bd y8 fun Ql=>Sml (W7++[Ql]).length/\InI (q8i+1)/\v1i (W7++[Ql]) (q8i+1)) (Fits f.8->((0:Int)<=(0:Int)/\(0:Int)<=(↑f.8.length:Int)/\Sml (↑f.8.length:Int).toNat)/\(Fits f.8->Lp2 (fun Ql Uj w3w=>CAt f.8 Uj (fun y11=>q37 (Rul.mk y11.1 (Ex.mk y11.2.1 y11.2.2 y11.2.3 y11.2.4 y11.2.5) (Srv.mk y11.3.1 y11.3.2 y11.3.3 y11.3.4 y11.3.5)) fun Qe=>Sml (Ql++[Rul.mk Qe.1 (Ex.mk Qe.2.1 Qe.2.2 Qe.2.3 Qe.2.4 Qe.2.5) (Srv.mk Qe.3.1 Qe.3.2 Qe.3.3 Qe.3.4 Qe.3.5)]).length/\InI (Uj+1)/\w3w (Ql++[Rul.mk Qe.1 (Ex.mk Qe.2.1 Qe.2.2 Qe.2.3 Qe.2.4 Qe.2.5) (Srv.mk Qe.3.1 Qe.3.2 Qe.3.3 Qe.3.4 Qe.3.5)]) (Uj+1)) (Wk (Srv.mk f.9.1 f.9.2 f.9.3 f.9.4 f.9.5) fun W2=>K (Flg.mk f.1 f.2 Qt f.4 f.5 ([]++f.6) W7 Ql W2))) (List.replicate (Int.toNat (0:Int)) (Rul.mk (B8 []) (Ex.mk (0:Int) (B8 []) (B8 []) [] []) (Srv.mk (0:Int) (B8 []) (B8 []) (B8 []) []))) (0:Int)))) (List.replicate (Int.toNat (0:Int)) (Tgt.mk (B8 []) (0:Int) [])) (0:Int)))))) (List.replicate (Int.toNat (0:Int)) (Val.mk (0:Int) (0:Int) (B8 []) [])) (0:Int))
def U4:V9:=z1u Gc R9 q0i q43
abbrev Q3:Type:=List (Col)->(List (Col)->Prop)->Prop
def Q4:Q3:=fun s K=> ∀n0,(n0=true->s=[])->Cnd (n0=true) (K []) (Sml ([]++s).length/\K ([]++s))
abbrev Gd:Type:=Lay_->(Lay_->Prop)->Prop
def q91(Qk:Q3):Gd:=fun l K=>Qk l.6 fun Qc=>K (Lay_.mk l.1 l.2 l.3 l.4 l.5 Qc)
def Ge:Gd:=q91 Q4
abbrev Zy:Type:=Exper->(Exper->Prop)->Prop
def q1b(Zc:Wo):Zy:=fun x K=> ∀n0,(n0=true->x.6=[])->Cnd (n0=true) (∀n2,(n2=true->x.7=[])->Cnd (n2=true) (Zc (Ex.mk x.8.1 x.8.2 x.8.3 x.8.4 x.8.5) fun Qy=>K (Exper.mk x.1 x.2 x.3 x.4 x.5 [] [] (Ex.mk Qy.1 Qy.2 Qy.3 Qy.4 Qy.5))) (Sml ([]++x.7).length/\Zc (Ex.mk x.8.1 x.8.2 x.8.3 x.8.4 x.8.5) fun Qy=>K (Exper.mk x.1 x.2 x.3 x.4 x.5 [] ([]++x.7) (Ex.mk Qy.1 Qy.2 Qy.3 Qy.4 Qy.5)))) (Sml ([]++x.6).length/\ ∀n2,(n2=true->x.7=[])->Cnd (n2=true) (Zc (Ex.mk x.8.1 x.8.2 x.8.3 x.8.4 x.8.5) fun Qy=>K (Exper.mk x.1 x.2 x.3 x.4 x.5 ([]++x.6) [] (Ex.mk Qy.1 Qy.2 Qy.3 Qy.4 Qy.5))) (Sml ([]++x.7).length/\Zc (Ex.mk x.8.1 x.8.2 x.8.3 x.8.4 x.8.5) fun Qy=>K (Exper.mk x.1 x.2 x.3 x.4 x.5 ([]++x.6) ([]++x.7) (Ex.mk Qy.1 Qy.2 Qy.3 Qy.4 Qy.5))))
def Jg:Zy:=q1b q0h
abbrev Ut:Type:=Int->Int->(Int->Prop)->Prop
def Hz:Ut:=fun now cool K=>InI ((1099511627776:Int) - now)/\Cnd ((1099511627776:Int) - now<cool) (K (1099511627776:Int)) (InI (now+cool)/\K (now+cool))
abbrev Vl:Type:=List (Col)->(List (Col)->Prop)->Prop
def Bx(Qk:Q3):Vl:=fun l K=>Qk l fun Qc=>Fits Qc->Lp2 (fun Qt Ju q8j=>Cnd (Qt<(↑Qc.length:Int)) (Lp2 (fun Za He j04=>Cnd ((0:Int)<Za) (At He Za fun y4=>InI (Za - 1)/\((0:Int)<=Za - 1/\Za - 1<(↑He.length:Int))/\ ∀y6,He[(Za - 1).toNat]? =some y6->Cnd (y4.1<y6.1) (InI (Za - 1)/\InI (Za - 1)/\((0:Int)<=Za - 1/\Za - 1<(↑He.length:Int))/\ ∀y8,He[(Za - 1).toNat]? =some y8->At He Za fun y10=>At He Za fun _=>((0:Int)<=Za - 1/\Za - 1<(↑(He.set Za.toNat y8).length:Int))/\ ∀y14,(He.set Za.toNat y8)[(Za - 1).toNat]? =some y14->InI (Za - 1)/\j04 (Za - 1) ((He.set Za.toNat y8).set (Za - 1).toNat y10)) (InI (Qt+1)/\q8j (Qt+1) He)) (InI (Qt+1)/\q8j (Qt+1) He)) Qt Ju) (K Ju)) (0:Int) Qc
def Gf:Vl:=Bx Q4
abbrev Uu:Type:=List (Col)->Int->(List (Col)->Prop)->Prop
def q2n(Gl:Vl):Uu:=fun l now K=>Gl l fun Qc=>Lp3 (fun Qd Z1 j31 w69=>Cnd (Z1<10000) (Jn3 (fun Qt Ju q7s=>Cnd (Qt=now) (InI (Z1+1)/\w69 q7s (Z1+1) Ju) (Fits q7s->Cnd ((0:Int)<(↑q7s.length:Int)) (InI ((↑q7s.length:Int) - 1)/\((0:Int)<=(↑q7s.length:Int) - 1/\(↑q7s.length:Int) - 1<(↑q7s.length:Int))/\ ∀y4,q7s[((↑q7s.length:Int) - 1).toNat]? =some y4->Cnd (y4.2=Z1) (InI ((↑q7s.length:Int) - 1)/\((0:Int)<=(↑q7s.length:Int) - 1/\(↑q7s.length:Int) - 1<(↑q7s.length:Int))/\ ∀y6,q7s[((↑q7s.length:Int) - 1).toNat]? =some y6->Cnd (y6.3=Qt) (InI ((↑q7s.length:Int) - 1)/\InI (Z1+1)/\((0:Int)<=(↑q7s.length:Int) - 1/\(↑q7s.length:Int) - 1<(↑q7s.length:Int))/\ ∀y8,q7s[((↑q7s.length:Int) - 1).toNat]? =some y8->InI (Z1+1)/\w69 (q7s.set ((↑q7s.length:Int) - 1).toNat (Col.mk y8.1 (Z1+1) y8.3)) (Z1+1) Ju) (InI (Z1+1)/\Sml (q7s++[Col.mk Z1 (Z1+1) Qt]).length/\InI (Z1+1)/\w69 (q7s++[Col.mk Z1 (Z1+1) Qt]) (Z1+1) Ju)) (InI (Z1+1)/\Sml (q7s++[Col.mk Z1 (Z1+1) Qt]).length/\InI (Z1+1)/\w69 (q7s++[Col.mk Z1 (Z1+1) Qt]) (Z1+1) Ju)) (InI (Z1+1)/\Sml (q7s++[Col.mk Z1 (Z1+1) Qt]).length/\InI (Z1+1)/\w69 (q7s++[Col.mk Z1 (Z1+1) Qt]) (Z1+1) Ju))) fun j8k=>Fits j31->Lp4 (fun Qy Hf z7m v33 v7o=>Cnd (Hf<(↑j31.length:Int)) (At z7m Hf fun y5=>Cnd (Z1<y5.1) (j8k Qy z7m v33) (Cnd (Z1<y5.2) (InI (Hf+1)/\v7o (Max.max Qy y5.3) (Hf+1) z7m v33) (InI (Hf+1)/\v7o Qy (Hf+1) z7m v33))) (j8k Qy z7m v33)) now (0:Int) j31 Qd) (K Qd)) [] (0:Int) Qc
def Rl:Uu:=q2n Gf
abbrev q2o:Type:=List (Lay_)->((List (Lay_)×Nat×List (Col))->Prop)->Prop
def q2p(l:List (Lay_))(K:(List (Lay_)×Nat×List (Col))->Prop):Prop:=Sml l.length/\(∀x∈l,Sml x.6.length)/\ ∃k x,l[k]? =some x/\K (l,k,x.6)
abbrev Ba:Type:=Envt->ByteArray->Int->(Envt->Int->Prop)->Prop
def q75(Zf:Wi)(Q2:J4)(Zt:V9)(Uz:q2o)(Qo:Zy)(U0:Uu)(Jm:Ut):Ba:=fun v experiment now K=>Zf (Envt.mk (Sett.mk v.1.1 v.1.2 v.1.3) v.2 v.3 v.4 v.5 v.6) experiment now fun Qc Zp w7e=>Cnd (w7e=0) (At v.6 Qc fun y1=>Cnd (y1.5=2) (Jn1 (fun Za=>Fits v.3->((0:Int)<=(0:Int)/\(0:Int)<=(↑v.3.length:Int)/\Sml (↑v.3.length:Int).toNat)/\(Fits v.3->Lp2 (fun Q9 z85 v1h=>CAt v.3 z85 (fun y7=>Q2 (Seg.mk y7.1 y7.2 y7.3 y7.4 (Ex.mk y7.5.1 y7.5.2 y7.5.3 y7.5.4 y7.5.5)) fun Wd=>Sml (Q9++[Seg.mk Wd.1 Wd.2 Wd.3 Wd.4 (Ex.mk Wd.5.1 Wd.5.2 Wd.5.3 Wd.5.4 Wd.5.5)]).length/\InI (z85+1)/\v1h (Q9++[Seg.mk Wd.1 Wd.2 Wd.3 Wd.4 (Ex.mk Wd.5.1 Wd.5.2 Wd.5.3 Wd.5.4 Wd.5.5)]) (z85+1)) (Fits v.4->((0:Int)<=(0:Int)/\(0:Int)<=(↑v.4.length:Int)/\Sml (↑v.4.length:Int).toNat)/\(Fits v.4->Lp2 (fun Wd z5o v7n=>CAt v.4 z5o (fun y10=>Zt (Flg.mk y10.1 y10.2 y10.3 y10.4 y10.5 y10.6 y10.7 y10.8 (Srv.mk y10.9.1 y10.9.2 y10.9.3 y10.9.4 y10.9.5)) fun Q1=>Sml (Wd++[Flg.mk Q1.1 Q1.2 Q1.3 Q1.4 Q1.5 Q1.6 Q1.7 Q1.8 (Srv.mk Q1.9.1 Q1.9.2 Q1.9.3 Q1.9.4 Q1.9.5)]).length/\InI (z5o+1)/\v7n (Wd++[Flg.mk Q1.1 Q1.2 Q1.3 Q1.4 Q1.5 Q1.6 Q1.7 Q1.8 (Srv.mk Q1.9.1 Q1.9.2 Q1.9.3 Q1.9.4 Q1.9.5)]) (z5o+1)) (Uz v.5 fun (Ql:List Lay_×Nat×List Col)=>Fits v.6->((0:Int)<=(0:Int)/\(0:Int)<=(↑v.6.length:Int)/\Sml (↑v.6.length:Int).toNat)/\(Fits v.6->Lp2 (fun Qe q66 v1d=>CAt v.6 q66 (fun y14=>Qo (Exper.mk y14.1 y14.2 y14.3 y14.4 y14.5 y14.6 y14.7 (Ex.mk y14.8.1 y14.8.2 y14.8.3 y14.8.4 y14.8.5)) fun Qs=>Sml (Qe++[Exper.mk Qs.1 Qs.2 Qs.3 Qs.4 Qs.5 Qs.6 Qs.7 (Ex.mk Qs.8.1 Qs.8.2 Qs.8.3 Qs.8.4 Qs.8.5)]).length/\InI (q66+1)/\v1d (Qe++[Exper.mk Qs.1 Qs.2 Qs.3 Qs.4 Qs.5 Qs.6 Qs.7 (Ex.mk Qs.8.1 Qs.8.2 Qs.8.3 Qs.8.4 Qs.8.5)]) (q66+1)) (At Qe Qc fun y14=>((0:Int)<=Zp/\Zp<(↑Ql.1.length:Int))/\Zp.toNat=Ql.2.1/\ ∀y16,Ql.1[Zp.toNat]? =some y16->Jn2 (fun Zd (z4b:List Lay_×Nat)=>U0 Zd now fun Zi=>Zp.toNat=z4b.2/\ ∀y20,z4b.1[Zp.toNat]? =some y20-> ∀y22,(z4b.1.set Zp.toNat (Lay_.mk y20.1 y20.2 y20.3 y20.4 y20.5 Zi))[Zp.toNat]? =some y22->Fits y22.6->Cnd ((32:Int)<(↑y22.6.length:Int)) (K (Envt.mk (Sett.mk (B8 []) (B8 []) (0:Int)) [] [] [] [] []) (5:Int)) (K (Envt.mk (Sett.mk v.1.1 v.1.2 v.1.3) Za Q9 Wd (z4b.1.set Zp.toNat (Lay_.mk y20.1 y20.2 y20.3 y20.4 y20.5 Zi)) (Qe.set Qc.toNat (Exper.mk y14.1 y14.2 y14.3 y14.4 (3:Int) y14.6 y14.7 (Ex.mk y14.8.1 y14.8.2 y14.8.3 y14.8.4 y14.8.5)))) (0:Int))) fun (w7c:List Col->List Lay_×Nat->Prop)=>Zp.toNat=Ql.2.1/\ ∀y19,Ql.1[Zp.toNat]? =some y19->Cnd ((0:Int)<y19.5) (At v.6 Qc fun y21=>Fits y21.6->Lp3 (fun Qm w3t (w7d:List Lay_×Nat) y2k=>CAt y21.6 w3t (fun y25=>Zp.toNat=w7d.2/\ ∀y27,w7d.1[Zp.toNat]? =some y27->Jm now y27.5 fun (w3u:Int)=>Sml (Qm++[Col.mk y25.1 y25.2 w3u]).length/\InI (w3t+1)/\y2k (Qm++[Col.mk y25.1 y25.2 w3u]) (w3t+1) (w7d.1,w7d.2)) (w7c Qm (w7d.1,w7d.2))) Ql.2.2 (0:Int) (Ql.1,Ql.2.1)) (w7c Ql.2.2 (Ql.1,Ql.2.1)))) (List.replicate (Int.toNat (0:Int)) (Exper.mk (B8 []) (B8 []) (B8 []) (B8 []) (0:Int) [] [] (Ex.mk (0:Int) (B8 []) (B8 []) [] []))) (0:Int)))) (List.replicate (Int.toNat (0:Int)) (Flg.mk (B8 []) (0:Int) [] false (0:Int) [] [] [] (Srv.mk (0:Int) (B8 []) (B8 []) (B8 []) []))) (0:Int)))) (List.replicate (Int.toNat (0:Int)) (Seg.mk (B8 []) (B8 []) [] [] (Ex.mk (0:Int) (B8 []) (B8 []) [] []))) (0:Int))) fun v43=> ∀n4,(n4=true->v.2=[])->Cnd (n4=true) (v43 []) (Sml ([]++v.2).length/\v43 ([]++v.2))) (K (Envt.mk (Sett.mk (B8 []) (B8 []) (0:Int)) [] [] [] [] []) (25:Int))) (K (Envt.mk (Sett.mk (B8 []) (B8 []) (0:Int)) [] [] [] [] []) w7e)
def q3b:Ba:=q75 G3 Wp U4 q2p Jg Rl Hz
abbrev G9:Type:=Envt->ByteArray->(Int->Prop)->Prop
def Ha:G9:=fun v key K=>Lp1 (fun Qc q4m=>Fits v.6->CAt v.6 Qc (fun y2=>Cnd (y2.1=key) (K Qc) (InI (Qc+1)/\q4m (Qc+1))) (K (-1:Int))) (0:Int)
abbrev Wf:Type:=Lay_->Int->(List (Spn)->Prop)->Prop
def Z6:Wf:=fun l now K=>Fits l.6->Lp2 (fun Qd Z1 z2w=>CAt l.6 Z1 (fun y2=>Cnd (now<y2.3) (Sml (Qd++[Spn.mk y2.1 y2.2]).length/\InI (Z1+1)/\z2w (Qd++[Spn.mk y2.1 y2.2]) (Z1+1)) (InI (Z1+1)/\z2w Qd (Z1+1))) (K Qd)) [] (0:Int)
abbrev Vm:Type:=Envt->ByteArray->ByteArray->Int->(List (Spn)->Prop)->Prop
def q6h(Qg:Ze)(Jr:Gn)(Zg:Wf):Vm:=fun v key but now K=>Qg (Envt.mk (Sett.mk v.1.1 v.1.2 v.1.3) v.2 v.3 v.4 v.5 v.6) key fun Qc=>Cnd (Qc<0) (K []) (Jn1 (fun Qd=>Fits v.6->Lp2 (fun Za He j04=>CAt v.6 He (fun y4=>Cnd (y4.2=key) (Cnd (y4.5=3) (InI (He+1)/\j04 Za (He+1)) (Cnd (y4.1=but) (InI (He+1)/\j04 Za (He+1)) (Sml (Za++y4.6).length/\InI (He+1)/\j04 (Za++y4.6) (He+1)))) (InI (He+1)/\j04 Za (He+1))) (Jr Za fun Qy=>K Qy)) Qd (0:Int)) fun w3q=>At v.5 Qc fun y2=>At v.5 Qc fun y4=>(Zg y2 now fun Q9=>Sml (Q9++[Spn.mk (0:Int) y4.4]).length/\w3q (Q9++[Spn.mk (0:Int) y4.4]))/\Zg y2 now fun Q9=>Sml (Q9++[Spn.mk (0:Int) y4.4]).length/\w3q (Q9++[Spn.mk (0:Int) y4.4]))
def H0:Vm:=q6h Zm Gq Z6
abbrev J5:Type:=List (Spn)->List (Spn)->(List (Spn)->Prop)->Prop
def Vn(a:List (Spn))(b:List (Spn))(K:List (Spn)->Prop):Prop:=K ((Go.Fl.Sp.runs (fun i=>Go.Fl.Sp.cov (a.map fun s=>(s.lo,s.hi)) i && !Go.Fl.Sp.cov (b.map fun s=>(s.lo,s.hi)) i) 10000).map fun s=>Spn.mk s.1 s.2)
abbrev Bb:Type:=Envt->ByteArray->Int->(List (Spn)->Int->Prop)->Prop
def q76(Q8:Wc)(Qg:Ze)(Wa:Vm)(Qq:J5):Bb:=fun v key now K=>Q8 now fun Qc=>Cnd (Qc=true) (Qg (Envt.mk (Sett.mk v.1.1 v.1.2 v.1.3) v.2 v.3 v.4 v.5 v.6) key fun Qd=>Cnd (Qd<0) (K [] (11:Int)) (Wa (Envt.mk (Sett.mk v.1.1 v.1.2 v.1.3) v.2 v.3 v.4 v.5 v.6) key (B8 []) now fun Qt=>Qq [Spn.mk (0:Int) (10000:Int)] Qt fun Za=>K Za (0:Int))) (K [] (3:Int))
def q3c:Bb:=q76 W0 Zm H0 Vn
abbrev Gx:Type:=List (Spn)->List (Spn)->(List (Spn)->Prop)->Prop
def W1(a:List (Spn))(b:List (Spn))(K:List (Spn)->Prop):Prop:=K ((Go.Fl.Sp.runs (fun i=>Go.Fl.Sp.cov (a.map fun s=>(s.lo,s.hi)) i && Go.Fl.Sp.cov (b.map fun s=>(s.lo,s.hi)) i) 10000).map fun s=>Spn.mk s.1 s.2)
abbrev q6i:Type:=List (Spn)->Int->(List (Spn)->Prop)->Prop
def q1c(l:List (Spn))(n:Int)(K:List (Spn)->Prop):Prop:=InI n/\K ((Go.Fl.Sp.runs (Go.Fl.Sp.firstP (Go.Fl.Sp.cov (l.map fun s=>(s.lo,s.hi))) n) 10000).map fun s=>Spn.mk s.1 s.2)
abbrev q6j:Type:=List (Spn)->List (Spn)->(List (Spn)->Prop)->Prop
def q1d(a:List (Spn))(b:List (Spn))(K:List (Spn)->Prop):Prop:=K ((Go.Fl.Sp.runs (fun i=>Go.Fl.Sp.cov (a.map fun s=>(s.lo,s.hi)) i||Go.Fl.Sp.cov (b.map fun s=>(s.lo,s.hi)) i) 10000).map fun s=>Spn.mk s.1 s.2)
abbrev H1:Type:=Envt->ByteArray->Int->Int->(Envt->Int->Prop)->Prop
def q6k(Zf:Wi)(q3o:Bb)(Wj:R6)(q16:q6i)(q17:q6j)(Q2:J4)(Zt:V9)(Wb:Gd)(Qo:Zy):H1:=fun v experiment size now K=>Zf (Envt.mk (Sett.mk v.1.1 v.1.2 v.1.3) v.2 v.3 v.4 v.5 v.6) experiment now fun Qc _ w7e=>Cnd (w7e=0) (At v.6 Qc fun y1=>Cnd (y1.5=3) (K (Envt.mk (Sett.mk (B8 []) (B8 []) (0:Int)) [] [] [] [] []) (25:Int)) (Cnd (size<1) (K (Envt.mk (Sett.mk (B8 []) (B8 []) (0:Int)) [] [] [] [] []) (3:Int)) (q3o (Envt.mk (Sett.mk v.1.1 v.1.2 v.1.3) v.2 v.3 v.4 v.5 v.6) y1.2 now fun Za _=>Wj Za fun Qy=>Cnd (Qy<size) (K (Envt.mk (Sett.mk (B8 []) (B8 []) (0:Int)) [] [] [] [] []) (19:Int)) (q16 Za size fun Z0=>q17 y1.6 Z0 fun Q9=>Fits Q9->Cnd ((16:Int)<(↑Q9.length:Int)) (K (Envt.mk (Sett.mk (B8 []) (B8 []) (0:Int)) [] [] [] [] []) (5:Int)) (∀n8,(n8=true->v.2=[])->Cnd (n8=true) (Fits v.3->((0:Int)<=(0:Int)/\(0:Int)<=(↑v.3.length:Int)/\Sml (↑v.3.length:Int).toNat)/\(Fits v.3->Lp2 (fun Q1 z86 v70=>CAt v.3 z86 (fun y13=>Q2 (Seg.mk y13.1 y13.2 y13.3 y13.4 (Ex.mk y13.5.1 y13.5.2 y13.5.3 y13.5.4 y13.5.5)) fun Wq=>Sml (Q1++[Seg.mk Wq.1 Wq.2 Wq.3 Wq.4 (Ex.mk Wq.5.1 Wq.5.2 Wq.5.3 Wq.5.4 Wq.5.5)]).length/\InI (z86+1)/\v70 (Q1++[Seg.mk Wq.1 Wq.2 Wq.3 Wq.4 (Ex.mk Wq.5.1 Wq.5.2 Wq.5.3 Wq.5.4 Wq.5.5)]) (z86+1)) (Fits v.4->((0:Int)<=(0:Int)/\(0:Int)<=(↑v.4.length:Int)/\Sml (↑v.4.length:Int).toNat)/\(Fits v.4->Lp2 (fun Wq w3x v71=>CAt v.4 w3x (fun y16=>Zt (Flg.mk y16.1 y16.2 y16.3 y16.4 y16.5 y16.6 y16.7 y16.8 (Srv.mk y16.9.1 y16.9.2 y16.9.3 y16.9.4 y16.9.5)) fun Zd=>Sml (Wq++[Flg.mk Zd.1 Zd.2 Zd.3 Zd.4 Zd.5 Zd.6 Zd.7 Zd.8 (Srv.mk Zd.9.1 Zd.9.2 Zd.9.3 Zd.9.4 Zd.9.5)]).length/\InI (w3x+1)/\v71 (Wq++[Flg.mk Zd.1 Zd.2 Zd.3 Zd.4 Zd.5 Zd.6 Zd.7 Zd.8 (Srv.mk Zd.9.1 Zd.9.2 Zd.9.3 Zd.9.4 Zd.9.5)]) (w3x+1)) (Fits v.5->((0:Int)<=(0:Int)/\(0:Int)<=(↑v.5.length:Int)/\Sml (↑v.5.length:Int).toNat)/\(Fits v.5->Lp2 (fun Zd z4b v72=>CAt v.5 z4b (fun y19=>Wb y19 fun z0s=>Sml (Zd++[z0s]).length/\InI (z4b+1)/\v72 (Zd++[z0s]) (z4b+1)) (Fits v.6->((0:Int)<=(0:Int)/\(0:Int)<=(↑v.6.length:Int)/\Sml (↑v.6.length:Int).toNat)/\(Fits v.6->Lp2 (fun z0s j41 v73=>CAt v.6 j41 (fun y22=>Qo (Exper.mk y22.1 y22.2 y22.3 y22.4 y22.5 y22.6 y22.7 (Ex.mk y22.8.1 y22.8.2 y22.8.3 y22.8.4 y22.8.5)) fun Qm=>Sml (z0s++[Exper.mk Qm.1 Qm.2 Qm.3 Qm.4 Qm.5 Qm.6 Qm.7 (Ex.mk Qm.8.1 Qm.8.2 Qm.8.3 Qm.8.4 Qm.8.5)]).length/\InI (j41+1)/\v73 (z0s++[Exper.mk Qm.1 Qm.2 Qm.3 Qm.4 Qm.5 Qm.6 Qm.7 (Ex.mk Qm.8.1 Qm.8.2 Qm.8.3 Qm.8.4 Qm.8.5)]) (j41+1)) (At z0s Qc fun y22=>K (Envt.mk (Sett.mk v.1.1 v.1.2 v.1.3) [] Q1 Wq Zd (z0s.set Qc.toNat (Exper.mk y22.1 y22.2 y22.3 y22.4 y22.5 Q9 y22.7 (Ex.mk y22.8.1 y22.8.2 y22.8.3 y22.8.4 y22.8.5)))) (0:Int))) (List.replicate (Int.toNat (0:Int)) (Exper.mk (B8 []) (B8 []) (B8 []) (B8 []) (0:Int) [] [] (Ex.mk (0:Int) (B8 []) (B8 []) [] []))) (0:Int)))) (List.replicate (Int.toNat (0:Int)) (Lay_.mk (B8 []) (B8 []) (B8 []) (0:Int) (0:Int) [])) (0:Int)))) (List.replicate (Int.toNat (0:Int)) (Flg.mk (B8 []) (0:Int) [] false (0:Int) [] [] [] (Srv.mk (0:Int) (B8 []) (B8 []) (B8 []) []))) (0:Int)))) (List.replicate (Int.toNat (0:Int)) (Seg.mk (B8 []) (B8 []) [] [] (Ex.mk (0:Int) (B8 []) (B8 []) [] []))) (0:Int))) (Sml ([]++v.2).length/\(Fits v.3->((0:Int)<=(0:Int)/\(0:Int)<=(↑v.3.length:Int)/\Sml (↑v.3.length:Int).toNat)/\(Fits v.3->Lp2 (fun Q1 z86 v70=>CAt v.3 z86 (fun y13=>Q2 (Seg.mk y13.1 y13.2 y13.3 y13.4 (Ex.mk y13.5.1 y13.5.2 y13.5.3 y13.5.4 y13.5.5)) fun Wq=>Sml (Q1++[Seg.mk Wq.1 Wq.2 Wq.3 Wq.4 (Ex.mk Wq.5.1 Wq.5.2 Wq.5.3 Wq.5.4 Wq.5.5)]).length/\InI (z86+1)/\v70 (Q1++[Seg.mk Wq.1 Wq.2 Wq.3 Wq.4 (Ex.mk Wq.5.1 Wq.5.2 Wq.5.3 Wq.5.4 Wq.5.5)]) (z86+1)) (Fits v.4->((0:Int)<=(0:Int)/\(0:Int)<=(↑v.4.length:Int)/\Sml (↑v.4.length:Int).toNat)/\(Fits v.4->Lp2 (fun Wq w3x v71=>CAt v.4 w3x (fun y16=>Zt (Flg.mk y16.1 y16.2 y16.3 y16.4 y16.5 y16.6 y16.7 y16.8 (Srv.mk y16.9.1 y16.9.2 y16.9.3 y16.9.4 y16.9.5)) fun Zd=>Sml (Wq++[Flg.mk Zd.1 Zd.2 Zd.3 Zd.4 Zd.5 Zd.6 Zd.7 Zd.8 (Srv.mk Zd.9.1 Zd.9.2 Zd.9.3 Zd.9.4 Zd.9.5)]).length/\InI (w3x+1)/\v71 (Wq++[Flg.mk Zd.1 Zd.2 Zd.3 Zd.4 Zd.5 Zd.6 Zd.7 Zd.8 (Srv.mk Zd.9.1 Zd.9.2 Zd.9.3 Zd.9.4 Zd.9.5)]) (w3x+1)) (Fits v.5->((0:Int)<=(0:Int)/\(0:Int)<=(↑v.5.length:Int)/\Sml (↑v.5.length:Int).toNat)/\(Fits v.5->Lp2 (fun Zd z4b v72=>CAt v.5 z4b (fun y19=>Wb y19 fun z0s=>Sml (Zd++[z0s]).length/\InI (z4b+1)/\v72 (Zd++[z0s]) (z4b+1)) (Fits v.6->((0:Int)<=(0:Int)/\(0:Int)<=(↑v.6.length:Int)/\Sml (↑v.6.length:Int).toNat)/\(Fits v.6->Lp2 (fun z0s j41 v73=>CAt v.6 j41 (fun y22=>Qo (Exper.mk y22.1 y22.2 y22.3 y22.4 y22.5 y22.6 y22.7 (Ex.mk y22.8.1 y22.8.2 y22.8.3 y22.8.4 y22.8.5)) fun Qm=>Sml (z0s++[Exper.mk Qm.1 Qm.2 Qm.3 Qm.4 Qm.5 Qm.6 Qm.7 (Ex.mk Qm.8.1 Qm.8.2 Qm.8.3 Qm.8.4 Qm.8.5)]).length/\InI (j41+1)/\v73 (z0s++[Exper.mk Qm.1 Qm.2 Qm.3 Qm.4 Qm.5 Qm.6 Qm.7 (Ex.mk Qm.8.1 Qm.8.2 Qm.8.3 Qm.8.4 Qm.8.5)]) (j41+1)) (At z0s Qc fun y22=>K (Envt.mk (Sett.mk v.1.1 v.1.2 v.1.3) ([]++v.2) Q1 Wq Zd (z0s.set Qc.toNat (Exper.mk y22.1 y22.2 y22.3 y22.4 y22.5 Q9 y22.7 (Ex.mk y22.8.1 y22.8.2 y22.8.3 y22.8.4 y22.8.5)))) (0:Int))) (List.replicate (Int.toNat (0:Int)) (Exper.mk (B8 []) (B8 []) (B8 []) (B8 []) (0:Int) [] [] (Ex.mk (0:Int) (B8 []) (B8 []) [] []))) (0:Int)))) (List.replicate (Int.toNat (0:Int)) (Lay_.mk (B8 []) (B8 []) (B8 []) (0:Int) (0:Int) [])) (0:Int)))) (List.replicate (Int.toNat (0:Int)) (Flg.mk (B8 []) (0:Int) [] false (0:Int) [] [] [] (Srv.mk (0:Int) (B8 []) (B8 []) (B8 []) []))) (0:Int)))) (List.replicate (Int.toNat (0:Int)) (Seg.mk (B8 []) (B8 []) [] [] (Ex.mk (0:Int) (B8 []) (B8 []) [] []))) (0:Int))))))))) (K (Envt.mk (Sett.mk (B8 []) (B8 []) (0:Int)) [] [] [] [] []) w7e)
def q1e:H1:=q6k G3 q3c G2 q1c q1d Wp U4 Ge Jg
abbrev H2:Type:=Envt->ByteArray->Int->(Envt->Int->Prop)->Prop
def q6l(Zf:Wi)(Wa:Vm)(Js:Gx)(Q2:J4)(Zt:V9)(Wb:Gd)(Qo:Zy):H2:=fun v experiment now K=>Zf (Envt.mk (Sett.mk v.1.1 v.1.2 v.1.3) v.2 v.3 v.4 v.5 v.6) experiment now fun Qc _ w7e=>Cnd (w7e=0) (At v.6 Qc fun y1=>Cnd (y1.5=1) (Wa (Envt.mk (Sett.mk v.1.1 v.1.2 v.1.3) v.2 v.3 v.4 v.5 v.6) y1.2 experiment now fun Za=>Js y1.6 Za fun Qy=>Fits Qy->Cnd ((0:Int)<(↑Qy.length:Int)) (K (Envt.mk (Sett.mk (B8 []) (B8 []) (0:Int)) [] [] [] [] []) (14:Int)) (∀n6,(n6=true->v.2=[])->Cnd (n6=true) (Fits v.3->((0:Int)<=(0:Int)/\(0:Int)<=(↑v.3.length:Int)/\Sml (↑v.3.length:Int).toNat)/\(Fits v.3->Lp2 (fun Ql Uj w3w=>CAt v.3 Uj (fun y11=>Q2 (Seg.mk y11.1 y11.2 y11.3 y11.4 (Ex.mk y11.5.1 y11.5.2 y11.5.3 y11.5.4 y11.5.5)) fun Qe=>Sml (Ql++[Seg.mk Qe.1 Qe.2 Qe.3 Qe.4 (Ex.mk Qe.5.1 Qe.5.2 Qe.5.3 Qe.5.4 Qe.5.5)]).length/\InI (Uj+1)/\w3w (Ql++[Seg.mk Qe.1 Qe.2 Qe.3 Qe.4 (Ex.mk Qe.5.1 Qe.5.2 Qe.5.3 Qe.5.4 Qe.5.5)]) (Uj+1)) (Fits v.4->((0:Int)<=(0:Int)/\(0:Int)<=(↑v.4.length:Int)/\Sml (↑v.4.length:Int).toNat)/\(Fits v.4->Lp2 (fun Qe q66 v1d=>CAt v.4 q66 (fun y14=>Zt (Flg.mk y14.1 y14.2 y14.3 y14.4 y14.5 y14.6 y14.7 y14.8 (Srv.mk y14.9.1 y14.9.2 y14.9.3 y14.9.4 y14.9.5)) fun Qs=>Sml (Qe++[Flg.mk Qs.1 Qs.2 Qs.3 Qs.4 Qs.5 Qs.6 Qs.7 Qs.8 (Srv.mk Qs.9.1 Qs.9.2 Qs.9.3 Qs.9.4 Qs.9.5)]).length/\InI (q66+1)/\v1d (Qe++[Flg.mk Qs.1 Qs.2 Qs.3 Qs.4 Qs.5 Qs.6 Qs.7 Qs.8 (Srv.mk Qs.9.1 Qs.9.2 Qs.9.3 Qs.9.4 Qs.9.5)]) (q66+1)) (Fits v.5->((0:Int)<=(0:Int)/\(0:Int)<=(↑v.5.length:Int)/\Sml (↑v.5.length:Int).toNat)/\(Fits v.5->Lp2 (fun Qs j40 v74=>CAt v.5 j40 (fun y17=>Wb y17 fun Zi=>Sml (Qs++[Zi]).length/\InI (j40+1)/\v74 (Qs++[Zi]) (j40+1)) (Fits v.6->((0:Int)<=(0:Int)/\(0:Int)<=(↑v.6.length:Int)/\Sml (↑v.6.length:Int).toNat)/\(Fits v.6->Lp2 (fun Zi j3z v75=>CAt v.6 j3z (fun y20=>Qo (Exper.mk y20.1 y20.2 y20.3 y20.4 y20.5 y20.6 y20.7 (Ex.mk y20.8.1 y20.8.2 y20.8.3 y20.8.4 y20.8.5)) fun Je=>Sml (Zi++[Exper.mk Je.1 Je.2 Je.3 Je.4 Je.5 Je.6 Je.7 (Ex.mk Je.8.1 Je.8.2 Je.8.3 Je.8.4 Je.8.5)]).length/\InI (j3z+1)/\v75 (Zi++[Exper.mk Je.1 Je.2 Je.3 Je.4 Je.5 Je.6 Je.7 (Ex.mk Je.8.1 Je.8.2 Je.8.3 Je.8.4 Je.8.5)]) (j3z+1)) (At Zi Qc fun y20=>K (Envt.mk (Sett.mk v.1.1 v.1.2 v.1.3) [] Ql Qe Qs (Zi.set Qc.toNat (Exper.mk y20.1 y20.2 y20.3 y20.4 (2:Int) y20.6 y20.7 (Ex.mk y20.8.1 y20.8.2 y20.8.3 y20.8.4 y20.8.5)))) (0:Int))) (List.replicate (Int.toNat (0:Int)) (Exper.mk (B8 []) (B8 []) (B8 []) (B8 []) (0:Int) [] [] (Ex.mk (0:Int) (B8 []) (B8 []) [] []))) (0:Int)))) (List.replicate (Int.toNat (0:Int)) (Lay_.mk (B8 []) (B8 []) (B8 []) (0:Int) (0:Int) [])) (0:Int)))) (List.replicate (Int.toNat (0:Int)) (Flg.mk (B8 []) (0:Int) [] false (0:Int) [] [] [] (Srv.mk (0:Int) (B8 []) (B8 []) (B8 []) []))) (0:Int)))) (List.replicate (Int.toNat (0:Int)) (Seg.mk (B8 []) (B8 []) [] [] (Ex.mk (0:Int) (B8 []) (B8 []) [] []))) (0:Int))) (Sml ([]++v.2).length/\(Fits v.3->((0:Int)<=(0:Int)/\(0:Int)<=(↑v.3.length:Int)/\Sml (↑v.3.length:Int).toNat)/\(Fits v.3->Lp2 (fun Ql Uj w3w=>CAt v.3 Uj (fun y11=>Q2 (Seg.mk y11.1 y11.2 y11.3 y11.4 (Ex.mk y11.5.1 y11.5.2 y11.5.3 y11.5.4 y11.5.5)) fun Qe=>Sml (Ql++[Seg.mk Qe.1 Qe.2 Qe.3 Qe.4 (Ex.mk Qe.5.1 Qe.5.2 Qe.5.3 Qe.5.4 Qe.5.5)]).length/\InI (Uj+1)/\w3w (Ql++[Seg.mk Qe.1 Qe.2 Qe.3 Qe.4 (Ex.mk Qe.5.1 Qe.5.2 Qe.5.3 Qe.5.4 Qe.5.5)]) (Uj+1)) (Fits v.4->((0:Int)<=(0:Int)/\(0:Int)<=(↑v.4.length:Int)/\Sml (↑v.4.length:Int).toNat)/\(Fits v.4->Lp2 (fun Qe q66 v1d=>CAt v.4 q66 (fun y14=>Zt (Flg.mk y14.1 y14.2 y14.3 y14.4 y14.5 y14.6 y14.7 y14.8 (Srv.mk y14.9.1 y14.9.2 y14.9.3 y14.9.4 y14.9.5)) fun Qs=>Sml (Qe++[Flg.mk Qs.1 Qs.2 Qs.3 Qs.4 Qs.5 Qs.6 Qs.7 Qs.8 (Srv.mk Qs.9.1 Qs.9.2 Qs.9.3 Qs.9.4 Qs.9.5)]).length/\InI (q66+1)/\v1d (Qe++[Flg.mk Qs.1 Qs.2 Qs.3 Qs.4 Qs.5 Qs.6 Qs.7 Qs.8 (Srv.mk Qs.9.1 Qs.9.2 Qs.9.3 Qs.9.4 Qs.9.5)]) (q66+1)) (Fits v.5->((0:Int)<=(0:Int)/\(0:Int)<=(↑v.5.length:Int)/\Sml (↑v.5.length:Int).toNat)/\(Fits v.5->Lp2 (fun Qs j40 v74=>CAt v.5 j40 (fun y17=>Wb y17 fun Zi=>Sml (Qs++[Zi]).length/\InI (j40+1)/\v74 (Qs++[Zi]) (j40+1)) (Fits v.6->((0:Int)<=(0:Int)/\(0:Int)<=(↑v.6.length:Int)/\Sml (↑v.6.length:Int).toNat)/\(Fits v.6->Lp2 (fun Zi j3z v75=>CAt v.6 j3z (fun y20=>Qo (Exper.mk y20.1 y20.2 y20.3 y20.4 y20.5 y20.6 y20.7 (Ex.mk y20.8.1 y20.8.2 y20.8.3 y20.8.4 y20.8.5)) fun Je=>Sml (Zi++[Exper.mk Je.1 Je.2 Je.3 Je.4 Je.5 Je.6 Je.7 (Ex.mk Je.8.1 Je.8.2 Je.8.3 Je.8.4 Je.8.5)]).length/\InI (j3z+1)/\v75 (Zi++[Exper.mk Je.1 Je.2 Je.3 Je.4 Je.5 Je.6 Je.7 (Ex.mk Je.8.1 Je.8.2 Je.8.3 Je.8.4 Je.8.5)]) (j3z+1)) (At Zi Qc fun y20=>K (Envt.mk (Sett.mk v.1.1 v.1.2 v.1.3) ([]++v.2) Ql Qe Qs (Zi.set Qc.toNat (Exper.mk y20.1 y20.2 y20.3 y20.4 (2:Int) y20.6 y20.7 (Ex.mk y20.8.1 y20.8.2 y20.8.3 y20.8.4 y20.8.5)))) (0:Int))) (List.replicate (Int.toNat (0:Int)) (Exper.mk (B8 []) (B8 []) (B8 []) (B8 []) (0:Int) [] [] (Ex.mk (0:Int) (B8 []) (B8 []) [] []))) (0:Int)))) (List.replicate (Int.toNat (0:Int)) (Lay_.mk (B8 []) (B8 []) (B8 []) (0:Int) (0:Int) [])) (0:Int)))) (List.replicate (Int.toNat (0:Int)) (Flg.mk (B8 []) (0:Int) [] false (0:Int) [] [] [] (Srv.mk (0:Int) (B8 []) (B8 []) (B8 []) []))) (0:Int)))) (List.replicate (Int.toNat (0:Int)) (Seg.mk (B8 []) (B8 []) [] [] (Ex.mk (0:Int) (B8 []) (B8 []) [] []))) (0:Int)))))) (K (Envt.mk (Sett.mk (B8 []) (B8 []) (0:Int)) [] [] [] [] []) (25:Int))) (K (Envt.mk (Sett.mk (B8 []) (B8 []) (0:Int)) [] [] [] [] []) w7e)
def q1f:H2:=q6l G3 H0 W1 Wp U4 Ge Jg
abbrev q1g:Type:=Envt->Int->(Bool->Prop)->Prop
def q92(Jl:Uo)(Zn:Gs):q1g:=fun v now K=>Lp1 (fun Qc q4m=>Fits v.5->CAt v.5 Qc (fun y2=>Jl y2.6 now fun Qy=>Lp1 (fun Z0 w7a=>Fits v.6->CAt v.6 Z0 (fun y7=>At v.5 Qc fun y9=>Cnd (y7.2=y9.1) (Cnd (y7.5=3) (InI (Z0+1)/\w7a (Z0+1)) (Zn y7.6 fun W2=>Fits W2->Lp1 (fun Qe v1c=>CAt W2 Qe (fun y14=>Cnd (y14=true) (At Qy Qe fun y16=>Cnd (now<y16) (K false) (InI (Qe+1)/\v1c (Qe+1))) (InI (Qe+1)/\v1c (Qe+1))) (InI (Z0+1)/\w7a (Z0+1))) (0:Int))) (InI (Z0+1)/\w7a (Z0+1))) (InI (Qc+1)/\q4m (Qc+1))) (0:Int)) (K true)) (0:Int)
def q1h:q1g:=q92 Vj R7
abbrev Jz:Type:=Envt->ByteArray->(Exper->Bool->Prop)->Prop
def Vf:Jz:=fun v key K=>Fits v.6->LpH (fun (Qd:Int×ByteArray×ByteArray×ByteArray×ByteArray×Int×List Spn×List Rng×Int×ByteArray×ByteArray×List Val×List Ex×Unit) (q4q:Int×ByteArray×ByteArray×ByteArray×ByteArray×Int×List Spn×List Rng×Int×ByteArray×ByteArray×List Val×List Ex×Unit->Prop)=>CAt v.6 Qd.1 (fun y2=>Cnd (y2.1=key) (Cnd (y2.5=2) (K (Exper.mk y2.1 y2.2 y2.3 y2.4 y2.5 y2.6 y2.7 (Ex.mk y2.8.1 y2.8.2 y2.8.3 y2.8.4 y2.8.5)) true) (InI (Qd.1+1)/\q4q (Qd.1+1,Qd.2.1,Qd.2.2.1,Qd.2.2.2.1,Qd.2.2.2.2.1,Qd.2.2.2.2.2.1,Qd.2.2.2.2.2.2.1,Qd.2.2.2.2.2.2.2.1,Qd.2.2.2.2.2.2.2.2.1,Qd.2.2.2.2.2.2.2.2.2.1,Qd.2.2.2.2.2.2.2.2.2.2.1,Qd.2.2.2.2.2.2.2.2.2.2.2.1,Qd.2.2.2.2.2.2.2.2.2.2.2.2.1,()))) (InI (Qd.1+1)/\q4q (Qd.1+1,Qd.2.1,Qd.2.2.1,Qd.2.2.2.1,Qd.2.2.2.2.1,Qd.2.2.2.2.2.1,Qd.2.2.2.2.2.2.1,Qd.2.2.2.2.2.2.2.1,Qd.2.2.2.2.2.2.2.2.1,Qd.2.2.2.2.2.2.2.2.2.1,Qd.2.2.2.2.2.2.2.2.2.2.1,Qd.2.2.2.2.2.2.2.2.2.2.2.1,Qd.2.2.2.2.2.2.2.2.2.2.2.2.1,()))) (K (Exper.mk (B8 []) (B8 []) (B8 []) (B8 []) (0:Int) [] [] (Ex.mk (0:Int) (B8 []) (B8 []) [] [])) false)) ((0:Int),B8 [],B8 [],B8 [],B8 [],(0:Int),[],[],(0:Int),B8 [],B8 [],[],[],())
abbrev Jp:Type:=List (ByteArray)->List (ByteArray)->(Bool->Prop)->Prop
def Jq:Jp:=fun s1 s2 K=>Fits s1->Fits s2->Cnd ((↑s1.length:Int)=(↑s2.length:Int)) (Fits s1->Lp1 (fun Za w7f=>CAt s1 Za (fun y4=>At s2 Za fun y6=>Cnd (y4=y6) (InI (Za+1)/\w7f (Za+1)) (K false)) (K true)) (0:Int)) (K false)
abbrev q0j:Type:=Val->Val->(Bool->Prop)->Prop
def z1v(Jt:Jp):q0j:=fun a b K=>Cnd (a.1=b.1) (Cnd (a.2=b.2) (Cnd (a.3=b.3) (Jt a.4 b.4 fun Qc=>K Qc) (K false)) (K false)) (K false)
def H3:q0j:=z1v Jq
abbrev By:Type:=Ex->Ex->(Bool->Prop)->Prop
def z42(q0l:q0j)(X:By):By:=fun a b K=>Cnd (a.1=b.1) (Cnd (a.2=b.2) (Cnd (a.3=b.3) (Fits a.4->Fits b.4->Cnd ((↑a.4.length:Int)=(↑b.4.length:Int)) (Fits a.4->Lp1 (fun Za w7f=>CAt a.4 Za (fun y4=>At b.4 Za fun y6=>q0l y4 y6 fun Wu=>Cnd (Wu=true) (InI (Za+1)/\w7f (Za+1)) (K false)) (Fits a.5->Fits b.5->Cnd ((↑a.5.length:Int)=(↑b.5.length:Int)) (Fits a.5->Lp1 (fun W7 y1w=>CAt a.5 W7 (fun y8=>At b.5 W7 fun y10=>X (Ex.mk y8.1 y8.2 y8.3 y8.4 y8.5) (Ex.mk y10.1 y10.2 y10.3 y10.4 y10.5) fun Q1=>Cnd (Q1=true) (InI (W7+1)/\y1w (W7+1)) (K false)) (K true)) (0:Int)) (K false))) (0:Int)) (K false)) (K false)) (K false)) (K false)
def q93:By:=fun a b K=> ∀X:By,(∀a b K,z42 H3 X a b K->X a b K)->X a b K
abbrev q3d:Type:=Envt->ByteArray->(Flg->Bool->Prop)->Prop
def q3e:q3d:=fun v key K=>Fits v.4->Lp1 (fun Qd q4q=>CAt v.4 Qd (fun y2=>Cnd (y2.1=key) (Cnd (Qd<0) (K (Flg.mk (B8 []) (0:Int) [] false (0:Int) [] [] [] (Srv.mk (0:Int) (B8 []) (B8 []) (B8 []) [])) false) (At v.4 Qd fun y4=>K (Flg.mk y4.1 y4.2 y4.3 y4.4 y4.5 y4.6 y4.7 y4.8 (Srv.mk y4.9.1 y4.9.2 y4.9.3 y4.9.4 y4.9.5)) true)) (InI (Qd+1)/\q4q (Qd+1))) (Cnd ((-1:Int)<(0:Int)) (K (Flg.mk (B8 []) (0:Int) [] false (0:Int) [] [] [] (Srv.mk (0:Int) (B8 []) (B8 []) (B8 []) [])) false) (At v.4 (-1:Int) fun y2=>K (Flg.mk y2.1 y2.2 y2.3 y2.4 y2.5 y2.6 y2.7 y2.8 (Srv.mk y2.9.1 y2.9.2 y2.9.3 y2.9.4 y2.9.5)) true))) (0:Int)
abbrev Vo:Type:=Envt->Envt->Exper->Exper->(Bool->Prop)->Prop
def Bz(z0u:By)(Qq:J5)(Qg:Ze)(Be:q3d)(q0l:q0j):Vo:=fun before after x y K=>Cnd (x.2=y.2) (Cnd (x.3=y.3) (Cnd (x.4=y.4) (Fits x.7->Fits y.7->Cnd ((↑x.7.length:Int)=(↑y.7.length:Int)) (Fits x.7->Lp1 (fun Za w7f=>CAt x.7 Za (fun y4=>At y.7 Za fun y6=>Cnd (y4.1=y6.1/\y4.2=y6.2/\y4.3=y6.3) (InI (Za+1)/\w7f (Za+1)) (K false)) (z0u (Ex.mk x.8.1 x.8.2 x.8.3 x.8.4 x.8.5) (Ex.mk y.8.1 y.8.2 y.8.3 y.8.4 y.8.5) fun Qy=>Cnd (Qy=true) (Qq x.6 y.6 fun Z0=>Fits Z0->Cnd ((0:Int)<(↑Z0.length:Int)) (K false) (Qg (Envt.mk (Sett.mk before.1.1 before.1.2 before.1.3) before.2 before.3 before.4 before.5 before.6) x.2 fun W7=>Qg (Envt.mk (Sett.mk after.1.1 after.1.2 after.1.3) after.2 after.3 after.4 after.5 after.6) x.2 fun Wu=>Cnd (W7<0) (K false) (Cnd (Wu<0) (K false) (At before.5 W7 fun y9=>At after.5 Wu fun y11=>Cnd (y9.2=y11.2) (At before.5 W7 fun y13=>At after.5 Wu fun y15=>Cnd (y13.3=y15.3) (Be (Envt.mk (Sett.mk before.1.1 before.1.2 before.1.3) before.2 before.3 before.4 before.5 before.6) x.3 fun j3y v35=>Be (Envt.mk (Sett.mk after.1.1 after.1.2 after.1.3) after.2 after.3 after.4 after.5 after.6) x.3 fun Zd z4b=>Cnd (v35=true) (Cnd (z4b=true) (Cnd (j3y.2=Zd.2) (Fits j3y.3->Fits Zd.3->Cnd ((↑j3y.3.length:Int)=(↑Zd.3.length:Int)) (Fits j3y.3->Lp1 (fun Je y2l=>CAt j3y.3 Je (fun y23=>At Zd.3 Je fun y25=>q0l y23 y25 fun (y2m:Bool)=>Cnd (y2m=true) (InI (Je+1)/\y2l (Je+1)) (K false)) (K true)) (0:Int)) (K false)) (K false)) (K false)) (K false)) (K false)) (K false))))) (K false))) (0:Int)) (K false)) (K false)) (K false)) (K false)
def Gg:Vo:=Bz q93 Vn Zm q3e H3
abbrev Gy:Type:=Envt->Envt->Exper->Int->(Int->Prop)->Prop
def q4c(Qz:Jz)(Qq:J5)(Qg:Ze)(Zg:Wf)(Js:Gx):Gy:=fun before after y now K=>Fits before.6->Lp1 (fun Qd q4q=>CAt before.6 Qd (fun y2=>Cnd (y2.1=y.1) (Cnd (y2.5=3) (K (25:Int)) (InI (Qd+1)/\q4q (Qd+1))) (InI (Qd+1)/\q4q (Qd+1))) (Qz (Envt.mk (Sett.mk before.1.1 before.1.2 before.1.3) before.2 before.3 before.4 before.5 before.6) y.1 fun Qt _=>Qq y.6 Qt.6 fun Za=>[Envt.mk (Sett.mk before.1.1 before.1.2 before.1.3) before.2 before.3 before.4 before.5 before.6,Envt.mk (Sett.mk after.1.1 after.1.2 after.1.3) after.2 after.3 after.4 after.5 after.6].length<=(9223372036854775807:Nat)->Lp1 (fun Z0 w7a=>Cnd (Z0<(↑[Envt.mk (Sett.mk before.1.1 before.1.2 before.1.3) before.2 before.3 before.4 before.5 before.6,Envt.mk (Sett.mk after.1.1 after.1.2 after.1.3) after.2 after.3 after.4 after.5 after.6].length:Int)) (((0:Int)<=Z0/\Z0<(↑[Envt.mk (Sett.mk before.1.1 before.1.2 before.1.3) before.2 before.3 before.4 before.5 before.6,Envt.mk (Sett.mk after.1.1 after.1.2 after.1.3) after.2 after.3 after.4 after.5 after.6].length:Int))/\ ∀y6,[Envt.mk (Sett.mk before.1.1 before.1.2 before.1.3) before.2 before.3 before.4 before.5 before.6,Envt.mk (Sett.mk after.1.1 after.1.2 after.1.3) after.2 after.3 after.4 after.5 after.6][Z0.toNat]? =some y6->Qg (Envt.mk (Sett.mk y6.1.1 y6.1.2 y6.1.3) y6.2 y6.3 y6.4 y6.5 y6.6) y.2 fun Wu=>Cnd ((0:Int)<=Wu) (At y6.5 Wu fun y9=>Zg y9 now fun W2=>Js Za W2 fun Q1=>Fits Q1->Cnd ((0:Int)<(↑Q1.length:Int)) (K (14:Int)) (InI (Z0+1)/\w7a (Z0+1))) (InI (Z0+1)/\w7a (Z0+1))) (K (0:Int))) (0:Int))) (0:Int)
def Bk:Gy:=q4c Vf Vn Zm Z6 W1
abbrev H4:Type:=Envt->Envt->Lay_->Int->(Bool->Prop)->Prop
def q6m(Qq:J5)(Qz:Jz)(Jm:Ut)(Qg:Ze):H4:=fun before after l now K=>Jn1 (fun Qc=>Fits l.6->Lp1 (fun Qt j8l=>CAt l.6 Qt (fun y3=>Cnd (now<y3.3) (Fits Qc->Lp2 (fun Q9 z85 v1h=>CAt Qc z85 (fun y7=>Cnd (y3.3<=y7.3) (Sml (Q9++[Spn.mk y7.1 y7.2]).length/\InI (z85+1)/\v1h (Q9++[Spn.mk y7.1 y7.2]) (z85+1)) (InI (z85+1)/\v1h Q9 (z85+1))) (Qq [Spn.mk y3.1 y3.2] Q9 fun W7=>Fits W7->Cnd ((↑W7.length:Int)=0) (InI (Qt+1)/\j8l (Qt+1)) (K false))) [] (0:Int)) (InI (Qt+1)/\j8l (Qt+1))) (Cnd (l.5<=0) (K true) (Fits before.6->Lp1 (fun Qy w7b=>CAt before.6 Qy (fun y5=>Qz (Envt.mk (Sett.mk after.1.1 after.1.2 after.1.3) after.2 after.3 after.4 after.5 after.6) y5.1 fun _ q8i=>Cnd (q8i=true) (InI (Qy+1)/\w7b (Qy+1)) (Cnd (y5.2=l.1) (Cnd (y5.5=2) (Fits y5.6->Lp1 (fun Wd v44=>CAt y5.6 Wd (fun y10=>Jm now l.5 fun Q1=>Cnd (now<Q1) (Fits Qc->Lp2 (fun G7 v1e v99=>CAt Qc v1e (fun y15=>Cnd (Q1<=y15.3) (Sml (G7++[Spn.mk y15.1 y15.2]).length/\InI (v1e+1)/\v99 (G7++[Spn.mk y15.1 y15.2]) (v1e+1)) (InI (v1e+1)/\v99 G7 (v1e+1))) (Qq [y10] G7 fun Wq=>Fits Wq->Cnd ((↑Wq.length:Int)=0) (InI (Wd+1)/\v44 (Wd+1)) (K false))) [] (0:Int)) (InI (Wd+1)/\v44 (Wd+1))) (InI (Qy+1)/\w7b (Qy+1))) (0:Int)) (InI (Qy+1)/\w7b (Qy+1))) (InI (Qy+1)/\w7b (Qy+1)))) (K true)) (0:Int)))) (0:Int)) fun z84=>Qg (Envt.mk (Sett.mk after.1.1 after.1.2 after.1.3) after.2 after.3 after.4 after.5 after.6) l.1 fun Qd=>Cnd ((0:Int)<=Qd) (At after.5 Qd fun y2=>z84 y2.6) (z84 [])
def q1i:H4:=q6m Vn Vf Hz Zm
abbrev Bc:Type:=Envt->Envt->Int->(ByteArray->Int->Prop)->Prop
def q77(Q8:Wc)(Qz:Jz)(Gm:Vo)(Br:Gy)(q18:H4):Bc:=fun before after now K=>Q8 now fun Qc=>Cnd (Qc=true) (Fits before.6->Lp1 (fun Qt j8l=>CAt before.6 Qt (fun y3=>Qz (Envt.mk (Sett.mk after.1.1 after.1.2 after.1.3) after.2 after.3 after.4 after.5 after.6) y3.1 fun _ j05=>Cnd (j05=true) (Cnd (y3.5=2) (Cnd (before.1.1=after.1.1/\before.1.2=after.1.2/\before.1.3=after.1.3) (InI (Qt+1)/\j8l (Qt+1)) (K (B8 []) (25:Int))) (InI (Qt+1)/\j8l (Qt+1))) (InI (Qt+1)/\j8l (Qt+1))) (Fits before.6->Lp1 (fun Qy w7b=>CAt before.6 Qy (fun y5=>Qz (Envt.mk (Sett.mk after.1.1 after.1.2 after.1.3) after.2 after.3 after.4 after.5 after.6) y5.1 fun W7 q8i=>Cnd (q8i=true) (Cnd (y5.5=2) (Gm (Envt.mk (Sett.mk before.1.1 before.1.2 before.1.3) before.2 before.3 before.4 before.5 before.6) (Envt.mk (Sett.mk after.1.1 after.1.2 after.1.3) after.2 after.3 after.4 after.5 after.6) (Exper.mk y5.1 y5.2 y5.3 y5.4 y5.5 y5.6 y5.7 (Ex.mk y5.8.1 y5.8.2 y5.8.3 y5.8.4 y5.8.5)) (Exper.mk W7.1 W7.2 W7.3 W7.4 W7.5 W7.6 W7.7 (Ex.mk W7.8.1 W7.8.2 W7.8.3 W7.8.4 W7.8.5)) fun Wu=>Cnd (Wu=true) (InI (Qy+1)/\w7b (Qy+1)) (K y5.1 (25:Int))) (InI (Qy+1)/\w7b (Qy+1))) (InI (Qy+1)/\w7b (Qy+1))) (Fits after.6->Lp1 (fun Q9 v1j=>CAt after.6 Q9 (fun y7=>Cnd (y7.5=2) (Br (Envt.mk (Sett.mk before.1.1 before.1.2 before.1.3) before.2 before.3 before.4 before.5 before.6) (Envt.mk (Sett.mk after.1.1 after.1.2 after.1.3) after.2 after.3 after.4 after.5 after.6) (Exper.mk y7.1 y7.2 y7.3 y7.4 y7.5 y7.6 y7.7 (Ex.mk y7.8.1 y7.8.2 y7.8.3 y7.8.4 y7.8.5)) now fun Wd=>Cnd (Wd=0) (InI (Q9+1)/\v1j (Q9+1)) (K y7.1 Wd)) (InI (Q9+1)/\v1j (Q9+1))) (Fits before.5->Lp1 (fun Wu v7q=>CAt before.5 Wu (fun y9=>q18 (Envt.mk (Sett.mk before.1.1 before.1.2 before.1.3) before.2 before.3 before.4 before.5 before.6) (Envt.mk (Sett.mk after.1.1 after.1.2 after.1.3) after.2 after.3 after.4 after.5 after.6) y9 now fun W2=>Cnd (W2=true) (InI (Wu+1)/\v7q (Wu+1)) (K y9.1 (28:Int))) (K (B8 []) (0:Int))) (0:Int))) (0:Int))) (0:Int))) (0:Int)) (K (B8 []) (3:Int))
def q3f:Bc:=q77 W0 Vf Gg Bk q1i
abbrev R3:Type:=List (Int)->List (Int)->Int->(Bool->Prop)->Prop
def R4(q5h:q0q)(z0t:z73)(j30:j6u)(q19:Hx)(R0:q1g)(q5b:z29)(Qb:Z3)(Ue:Wn)(q3p:Bc)(Hd:G9)(J8:Ga)(J9:Bw)(J1:q0s)(q2a:H1)(q2b:H2)(q3q:Ba):R3:=fun codes acts now K=>q5h fun Qc=>Cnd (Qc=true) (z0t now (220:Int) fun Qd=>j30 codes (400:Int) fun Qt Ju=>q19 Qt Ju Qd fun Za _=>R0 (Envt.mk (Sett.mk Za.1.1 Za.1.2 Za.1.3) Za.2 Za.3 Za.4 Za.5 Za.6) Qd fun Qy=>Cnd (Qy=true) (j30 acts (20:Int) fun Z0 j05=>LpH (fun (Q9:Int×Int×ByteArray×ByteArray×Int×List Decl×List Seg×List Flg×List Lay_×List Exper×Unit) (v1j:Int×Int×ByteArray×ByteArray×Int×List Decl×List Seg×List Flg×List Lay_×List Exper×Unit->Prop)=>q5b Z0 Q9.2.1 fun W7 q8i=>Cnd (W7=true) (Qb Z0 q8i (4:Int) fun Wu v1f=>Ue (Envt.mk (Sett.mk Q9.2.2.1 Q9.2.2.2.1 Q9.2.2.2.2.1) Q9.2.2.2.2.2.1 Q9.2.2.2.2.2.2.1 Q9.2.2.2.2.2.2.2.1 Q9.2.2.2.2.2.2.2.2.1 Q9.2.2.2.2.2.2.2.2.2.1) Wu fun Wd=>Jn1 (fun (Ql:Int×ByteArray×ByteArray×Int×List Decl×List Seg×List Flg×List Lay_×List Exper×Int×Unit)=>Cnd (Ql.1=0) (q3p (Envt.mk (Sett.mk Q9.2.2.1 Q9.2.2.2.1 Q9.2.2.2.2.1) Q9.2.2.2.2.2.1 Q9.2.2.2.2.2.2.1 Q9.2.2.2.2.2.2.2.1 Q9.2.2.2.2.2.2.2.2.1 Q9.2.2.2.2.2.2.2.2.2.1) (Envt.mk (Sett.mk Ql.2.1 Ql.2.2.1 Ql.2.2.2.1) Ql.2.2.2.2.1 Ql.2.2.2.2.2.1 Ql.2.2.2.2.2.2.1 Ql.2.2.2.2.2.2.2.1 Ql.2.2.2.2.2.2.2.2.1) Q9.1 fun W2 z4a=>Cnd (z4a=0) (Cnd (W2=B8 []) (Hd (Envt.mk (Sett.mk Q9.2.2.1 Q9.2.2.2.1 Q9.2.2.2.2.1) Q9.2.2.2.2.2.1 Q9.2.2.2.2.2.2.1 Q9.2.2.2.2.2.2.2.1 Q9.2.2.2.2.2.2.2.2.1 Q9.2.2.2.2.2.2.2.2.2.1) Wd fun Q1=>Cnd (Q1<0) (K false) (Fits Ql.2.2.2.2.2.2.2.2.1->Cnd ((↑Ql.2.2.2.2.2.2.2.2.1.length:Int)<=Q1) (K false) (At Q9.2.2.2.2.2.2.2.2.2.1 Q1 fun y14=>At Ql.2.2.2.2.2.2.2.2.1 Q1 fun y16=>J8 y14.6 y16.6 fun Zd=>Fits Zd->Cnd ((0:Int)<(↑Zd.length:Int)) (K false) (J9 (Envt.mk (Sett.mk Ql.2.1 Ql.2.2.1 Ql.2.2.2.1) Ql.2.2.2.2.1 Ql.2.2.2.2.2.1 Ql.2.2.2.2.2.2.1 Ql.2.2.2.2.2.2.2.1 Ql.2.2.2.2.2.2.2.2.1) fun q15=>Cnd (q15=true) (J9 (Envt.mk (Sett.mk Ql.2.1 Ql.2.2.1 Ql.2.2.2.1) Ql.2.2.2.2.1 Ql.2.2.2.2.2.1 Ql.2.2.2.2.2.2.1 Ql.2.2.2.2.2.2.2.1 Ql.2.2.2.2.2.2.2.2.1) fun z0s=>Cnd (z0s=true) (Qb Z0 Ql.2.2.2.2.2.2.2.2.2.1 (30:Int) fun Je w3r=>InI (Q9.1+Je)/\R0 (Envt.mk (Sett.mk Ql.2.1 Ql.2.2.1 Ql.2.2.2.1) Ql.2.2.2.2.1 Ql.2.2.2.2.2.1 Ql.2.2.2.2.2.2.1 Ql.2.2.2.2.2.2.2.1 Ql.2.2.2.2.2.2.2.2.1) (Q9.1+Je) fun w3s=>Cnd (w3s=true) (v1j (Q9.1+Je,w3r,Ql.2.1,Ql.2.2.1,Ql.2.2.2.1,Ql.2.2.2.2.1,Ql.2.2.2.2.2.1,Ql.2.2.2.2.2.2.1,Ql.2.2.2.2.2.2.2.1,Ql.2.2.2.2.2.2.2.2.1,())) (K false)) (v1j (Q9.1,Ql.2.2.2.2.2.2.2.2.2.1,Q9.2.2.1,Q9.2.2.2.1,Q9.2.2.2.2.1,Q9.2.2.2.2.2.1,Q9.2.2.2.2.2.2.1,Q9.2.2.2.2.2.2.2.1,Q9.2.2.2.2.2.2.2.2.1,Q9.2.2.2.2.2.2.2.2.2.1,()))) (At Ql.2.2.2.2.2.2.2.2.1 Q1 fun y21=>Cnd (y21.5=3) (K false) (J9 (Envt.mk (Sett.mk Ql.2.1 Ql.2.2.1 Ql.2.2.2.1) Ql.2.2.2.2.1 Ql.2.2.2.2.2.1 Ql.2.2.2.2.2.2.1 Ql.2.2.2.2.2.2.2.1 Ql.2.2.2.2.2.2.2.2.1) fun w3s=>Cnd (w3s=true) (Qb Z0 Ql.2.2.2.2.2.2.2.2.2.1 (30:Int) fun Qm w3t=>InI (Q9.1+Qm)/\R0 (Envt.mk (Sett.mk Ql.2.1 Ql.2.2.1 Ql.2.2.2.1) Ql.2.2.2.2.1 Ql.2.2.2.2.2.1 Ql.2.2.2.2.2.2.1 Ql.2.2.2.2.2.2.2.1 Ql.2.2.2.2.2.2.2.2.1) (Q9.1+Qm) fun q8h=>Cnd (q8h=true) (v1j (Q9.1+Qm,w3t,Ql.2.1,Ql.2.2.1,Ql.2.2.2.1,Ql.2.2.2.2.1,Ql.2.2.2.2.2.1,Ql.2.2.2.2.2.2.1,Ql.2.2.2.2.2.2.2.1,Ql.2.2.2.2.2.2.2.2.1,())) (K false)) (v1j (Q9.1,Ql.2.2.2.2.2.2.2.2.2.1,Q9.2.2.1,Q9.2.2.2.1,Q9.2.2.2.2.1,Q9.2.2.2.2.2.1,Q9.2.2.2.2.2.2.1,Q9.2.2.2.2.2.2.2.1,Q9.2.2.2.2.2.2.2.2.1,Q9.2.2.2.2.2.2.2.2.2.1,())))))))) (K false)) (K false)) (v1j (Q9.1,Ql.2.2.2.2.2.2.2.2.2.1,Q9.2.2.1,Q9.2.2.2.1,Q9.2.2.2.2.1,Q9.2.2.2.2.2.1,Q9.2.2.2.2.2.2.1,Q9.2.2.2.2.2.2.2.1,Q9.2.2.2.2.2.2.2.2.1,Q9.2.2.2.2.2.2.2.2.2.1,()))) fun (v37:Int×ByteArray×ByteArray×Int×List Decl×List Seg×List Flg×List Lay_×List Exper×Int×Unit->Prop)=>Qb Z0 v1f (3:Int) fun W2 z4a=>Cnd (W2=0) (J1 Z0 z4a (2000:Int) fun Q1 z86=>InI ((1:Int)+Q1)/\q2a (Envt.mk (Sett.mk Q9.2.2.1 Q9.2.2.2.1 Q9.2.2.2.2.1) Q9.2.2.2.2.2.1 Q9.2.2.2.2.2.2.1 Q9.2.2.2.2.2.2.2.1 Q9.2.2.2.2.2.2.2.2.1 Q9.2.2.2.2.2.2.2.2.2.1) Wd ((1:Int)+Q1) Q9.1 fun Qe q66=>v37 (q66,Qe.1.1,Qe.1.2,Qe.1.3,Qe.2,Qe.3,Qe.4,Qe.5,Qe.6,z86,())) (Cnd (W2=1) (q2b (Envt.mk (Sett.mk Q9.2.2.1 Q9.2.2.2.1 Q9.2.2.2.2.1) Q9.2.2.2.2.2.1 Q9.2.2.2.2.2.2.1 Q9.2.2.2.2.2.2.2.1 Q9.2.2.2.2.2.2.2.2.1 Q9.2.2.2.2.2.2.2.2.2.1) Wd Q9.1 fun Q1 z86=>v37 (z86,Q1.1.1,Q1.1.2,Q1.1.3,Q1.2,Q1.3,Q1.4,Q1.5,Q1.6,z4a,())) (Cnd (W2=2) (q3q (Envt.mk (Sett.mk Q9.2.2.1 Q9.2.2.2.1 Q9.2.2.2.2.1) Q9.2.2.2.2.2.1 Q9.2.2.2.2.2.2.1 Q9.2.2.2.2.2.2.2.1 Q9.2.2.2.2.2.2.2.2.1 Q9.2.2.2.2.2.2.2.2.2.1) Wd Q9.1 fun Q1 z86=>v37 (z86,Q1.1.1,Q1.1.2,Q1.1.3,Q1.2,Q1.3,Q1.4,Q1.5,Q1.6,z4a,())) (v37 ((0:Int),B8 [],B8 [],(0:Int),[],[],[],[],[],z4a,()))))) (K true)) (Qd,j05,Za.1.1,Za.1.2,Za.1.3,Za.2,Za.3,Za.4,Za.5,Za.6,())) (K true)) (K false)
def Jd:R3:=R4 q4w j1z j6v q09 q1h q9m J0 V8 q3f Ha Hn Gb q4x q1e q1f q3b
end Go.En
end
noncomputable section
set_option maxRecDepth 100000
namespace Go.Proofs
open Go.Shelf
def Tryz.lays196_ren:Go.Shelf.Ren:=⟨fun|196=>164|259=>217|n=>n,fun|9=>9|4=>4|3=>3|5=>5|12=>12|119=>260|0=>0|46=>264|139=>263|138=>262|53=>278|n=>n,fun|3=>3|4=>4|n=>n⟩
theorem Tryz.lays196:Go.Proofs.Lays.n196 Tryz.prog Tryz.lays196_ren:={
 mixed:=by kernel_rfl
 f196:=Tryz.func164.trans (congrArg some (by kernel_rfl))
 f259:=Tryz.func217.trans (congrArg some (by kernel_rfl))
 t0:=Tryz.underlying0
 a0:=Tryz.isAgg0
 z0:=Tryz.sizeOf0
 v0:=Tryz.zeroValue0
 t3:=Tryz.underlying3
 a3:=Tryz.isAgg3
 z3:=Tryz.sizeOf3
 v3:=Tryz.zeroValue3
 t4:=Tryz.underlying4
 a4:=Tryz.isAgg4
 z4:=Tryz.sizeOf4
 v4:=Tryz.zeroValue4
 t5:=Tryz.underlying5
 a5:=Tryz.isAgg5
 z5:=Tryz.sizeOf5
 v5:=Tryz.zeroValue5
 t9:=Tryz.underlying9
 a9:=Tryz.isAgg9
 z9:=Tryz.sizeOf9
 v9:=Tryz.zeroValue9
 t12:=Tryz.underlying12
 a12:=Tryz.isAgg12
 z12:=Tryz.sizeOf12
 v12:=Tryz.zeroValue12
 t46:=Tryz.underlying264
 a46:=Tryz.isAgg264
 z46:=Tryz.sizeOf264
 v46:=Tryz.zeroValue264
 t53:=Tryz.underlying278
 a53:=Tryz.isAgg278
 z53:=Tryz.sizeOf278
 v53:=Tryz.zeroValue278
 t119:=Tryz.underlying260
 a119:=Tryz.isAgg260
 z119:=Tryz.sizeOf260
 t138:=Tryz.underlying262
 a138:=Tryz.isAgg262
 z138:=Tryz.sizeOf262
 v138:=Tryz.zeroValue262
 t139:=Tryz.underlying263
 a139:=Tryz.isAgg263
 z139:=Tryz.sizeOf263
 v139:=Tryz.zeroValue263
 g3:=by kernel_rfl
 g4:=by kernel_rfl}
end Go.Proofs
end
noncomputable section
set_option maxRecDepth 100000
namespace Go.Proofs.YtflilmgifibgoaaGreatDoor
open Go Go.Proofs Go.RowKit Go.Fl
theorem _root_.Go.Fl.St.freezeM{c:Cx}{w:World}{σ:Hv}{ms ms':List HObj}(h:St c w σ ms){i:Nat}{o:HObj}(hi:ms[i]? =some o){j:Nat}{o2:HObj}(_:ms[j]? =some o2)(_:j≠i)(_:c.M=o2.foot.toList)
  (hms:ms.eraseIdx i=ms'): ∃σ1,St c w σ1 ms'/\Go.Fl.Sub σ σ1/\ ∀k,o.foot=some k->σ1 k=w.heap[k]? :=h.freeze' hi hms
theorem _root_.Go.Fl.St.freeze{c:Cx}{w:World}{σ:Hv}{ms ms':List HObj}(h:St c w σ ms){i:Nat}{o:HObj}(hi:ms[i]? =some o)(_:c.M=[])
  (hms:ms.eraseIdx i=ms'): ∃σ1,St c w σ1 ms'/\Go.Fl.Sub σ σ1/\ ∀k,o.foot=some k->σ1 k=w.heap[k]? :=h.freeze' hi hms
theorem j9n:w1a zB 10000 (j46 Tryz.t129.zero)=true:=by kernel_rfl
theorem y1b:w1a zI 10001 (j46 Tryz.t195.zero)=true:=by kernel_rfl
theorem c_of{σ:Hv}{w:World}(v:Value)(ls:List (List (Int×Int)))(hV:View σ w)(hv:RSl 1 (RSs 2 (REnc q0m)) σ v ls)(hn:ls.flatten.length<=1152921504606846976):
  Calls Tryz.prog 78 #[v] w fun e w1=>e= .returned (.agg (brow 10000 (Sp.cov ls.flatten)).toArray)/\Grow [] σ w σ w1:=by
 refine enter Tryz.func78 rfl rfl rfl ?_
 obtain⟨a,cap,rfl,h1,h2,hel⟩:=hv
 have hS:=St.start hV
 refine Qn ?_
 refine q38 (cs:=brow 10000 (fun i=>false)) hS (q4s Tryz.type129 (q26 j8n j9n) (by omega)) (by simp[Value.cells,q3r]) ?_
 intro b1 w1 hS1
 refine wpList_nil ?_
 refine Qi ?_
 refine Qn ?_
 refine q38 (cs:=irow 10001 (fun i=>0)) hS1 (q4s Tryz.type195 (q26 y0h y1b) (by omega)) (by simp[Value.cells,w7l]) ?_
 intro b2 w2 hS2
 refine wpList_nil ?_
 refine Qi ?_
 refine wp_seq ?_
 refine Qn ?_
 refine Qv (v:=(.slice a ls.length cap)) rfl ?_
 refine q5q rfl Tryz.underlying194 ?_
 refine Qv (v:=(.int .i64 (0:Int))) rfl ?_
 refine wpList_nil ?_
 refine Qi ?_
 refine wp_block ?_
 refine loop (fun m f z=> ∃(k1:Nat) (g:Fr),m=ls.length - k1/\f=(upd (upd (upd (upd (upd g 2 (.pointer (some ⟨b1,0,none⟩))) 3 (.pointer (some ⟨b2,0,none⟩))) 13 (.slice a ls.length cap)) 14 (.int .i64 ((ls.length:Nat):Int))) 15 (.int .i64 ((k1:Nat):Int)))/\St ⟨w,σ,[]⟩ z σ [blk b2 195 (irow 10001 (Sp.dep ((ls.take k1).flatten))),blk b1 129 (brow 10000 (fun i=>false))]/\(k1<=ls.length)) (m0:=_) ⟨0,_,rfl,(Q6 rfl (Q6 rfl (Q6 rfl (Q6 rfl (Q6 rfl rfl))))),hS2,(Nat.zero_le _)⟩ ?_
 rintro _ _ w3 ⟨k1,g,rfl,rfl,hS3,hk1⟩
 refine Qn ?_
 refine w05 (r:=(decide (((k1:Nat):Int)<((ls.length:Nat):Int)))) rfl rfl rfl ?_
 refine wpList_nil ?_
 refine Qi ?_
 refine wp_seq ?_
 refine if_d (((k1:Nat):Int)<((ls.length:Nat):Int)) rfl (fun ht1=> ?_) (fun ht1=> ?_)
 ·refine wp_skip ?_
  refine Qi ?_
  refine wp_seq ?_
  refine wp_block ?_
  refine Qn ?_
  obtain⟨x1,hx1⟩:=getq (l:=ls) (k:=k1) (by omega)
  obtain⟨ad1,cs1,ha1,hl1,hr1,hR1⟩:=hel k1 _ hx1
  obtain⟨v1,rfl,a1,cap1,rfl,h2,h3,hel1⟩:=hR1
  refine q0o (k:=k1) (a':=(ad1.add (k1*1))) (congrArg (fun z=>Value.slice z _ _) ha1) rfl (by omega) (Qa hx1) Tryz.underlying194 Tryz.sizeOf51 rfl ?_
  refine q4p (v:=(.slice a1 x1.length cap1)) rfl Tryz.isAgg51 (hr1.cell hS3.view 0 rfl rfl) ?_
  refine Qx (v:=(.slice a1 x1.length cap1)) rfl ?_
  refine wpList_nil ?_
  refine Qi ?_
  refine Qn ?_
  refine Qv (v:=(.slice a1 x1.length cap1)) rfl ?_
  refine q5q rfl Tryz.underlying51 ?_
  refine Qv (v:=(.int .i64 (0:Int))) rfl ?_
  refine wpList_nil ?_
  refine Qi ?_
  refine wp_block ?_
  refine loop (fun m f z=> ∃(k2:Nat) (g:Fr),m=x1.length - k2/\f=(upd (upd (upd (upd (upd (upd (upd (upd g 2 (.pointer (some ⟨b1,0,none⟩))) 3 (.pointer (some ⟨b2,0,none⟩))) 13 (.slice a ls.length cap)) 14 (.int .i64 ((ls.length:Nat):Int))) 15 (.int .i64 ((k1:Nat):Int))) 19 (.slice a1 x1.length cap1)) 20 (.int .i64 ((x1.length:Nat):Int))) 21 (.int .i64 ((k2:Nat):Int)))/\St ⟨w,σ,[]⟩ z σ [blk b2 195 (irow 10001 (Sp.dep ((ls.take k1).flatten++x1.take k2))),blk b1 129 (brow 10000 (fun i=>false))]/\(k2<=x1.length)) (m0:=_) ⟨0,_,rfl,(Q6 rfl (Q6 rfl (Q6 rfl (Q6 rfl (Q6 rfl (Q6 rfl (Q6 rfl (Q6 rfl rfl)))))))),(by rw[List.take_zero,List.append_nil];exact hS3),(Nat.zero_le _)⟩ ?_
  rintro _ _ w4 ⟨k2,g,rfl,rfl,hS4,hk2⟩
  refine Qn ?_
  refine w05 (r:=(decide (((k2:Nat):Int)<((x1.length:Nat):Int)))) rfl rfl rfl ?_
  refine wpList_nil ?_
  refine Qi ?_
  refine wp_seq ?_
  refine if_d (((k2:Nat):Int)<((x1.length:Nat):Int)) rfl (fun ht2=> ?_) (fun ht2=> ?_)
  ·refine wp_skip ?_
   refine Qi ?_
   refine wp_seq ?_
   refine wp_block ?_
   refine Qn ?_
   obtain⟨x2,hx2⟩:=getq (l:=x1) (k:=k2) (by omega)
   obtain⟨ad2,cs2,ha2,hl2,hr2,hR2⟩:=hel1 k2 _ hx2
   cases hR2
   refine q0o (k:=k2) (a':=(ad2.add (k2*2))) (congrArg (fun z=>Value.slice z _ _) ha2) rfl (by omega) (Qa hx2) Tryz.underlying51 Tryz.sizeOf75 rfl ?_
   refine j06 (cs:=[(.int .i64 x2.1),(.int .i64 x2.2)]) rfl Tryz.isAgg75 Tryz.sizeOf75 rfl (hr2.row hS4.view) ?_
   refine q38 (cs:=[(.int .i64 (0:Int)),(.int .i64 (0:Int))]) hS4 Tryz.zeroValue75 rfl ?_
   intro b3 w5 hS5
   refine Bs (T:=75) (vs:=[(.int .i64 x2.1),(.int .i64 x2.2)]) (cs':=[(.int .i64 x2.1),(.int .i64 x2.2)]) (ms':=[blk b3 75 [(.int .i64 x2.1),(.int .i64 x2.2)],blk b2 195 (irow 10001 (Sp.dep ((ls.take k1).flatten++x1.take k2))),blk b1 129 (brow 10000 (fun i=>false))]) (i:=0) hS5 rfl rfl rfl Tryz.sizeOf75 rfl (ones rfl) rfl (Nat.le_of_ble_eq_true rfl) rfl rfl ?_
   intro w6 hS6
   refine wpList_nil ?_
   refine Qi ?_
   refine wp_seq ?_
   refine y0k (fun z=>St ⟨w,σ,[]⟩ z σ [blk b3 75 [(.int .i64 x2.1),(.int .i64 x2.2)],blk b2 195 (irow 10001 (Sp.dep ((ls.take k1).flatten++x1.take k2))),blk b1 129 (brow 10000 (fun i=>false))]) (by kernel_rfl) rfl rfl ?_
   have hS7:=hS6.drew
   refine z5q (i:=0) (v:=(.pointer (some ⟨b3,0,none⟩))) (l':= #[true,false,false,false,false,false,false,false]) rfl (by kernel_rfl) (by kernel_rfl) (by kernel_rfl) rfl rfl (fun _ _ _ h=>h) hS7 (fun w hJ K hK=> ?_) ?_
   ·refine z7n (a':=⟨b3,0,none⟩) rfl Tryz.underlying75 rfl Tryz.sizeOf3 rfl ?_
    exact⟨rfl,hK⟩
   refine z5q (i:=1) (v:=(.int .i64 x2.1)) (l':= #[true,true,false,false,false,false,false,false]) rfl (by kernel_rfl) (by kernel_rfl) (by kernel_rfl) rfl rfl (fun _ _ _ h=>h) hS7 (fun w hJ K hK=> ?_) ?_
   ·refine q4p (v:=(.int .i64 x2.1)) rfl Tryz.isAgg3 (hJ.cell (i:=0) rfl rfl) ?_
    exact⟨rfl,hK⟩
   refine z5q (i:=2) (v:=(.int .i64 (max x2.1 (0:Int)))) (l':= #[true,true,true,false,false,false,false,false]) rfl (by kernel_rfl) (by kernel_rfl) (by kernel_rfl) rfl rfl (fun _ _ _ h=>h) hS7 (fun w hJ K hK=> ?_) ?_
   ·refine y0e (r:=(max x2.1 (0:Int))) rfl rfl rfl ?_
    exact⟨rfl,hK⟩
   refine z5q (i:=3) (v:=(.pointer (some ⟨b3,1,none⟩))) (l':= #[true,true,true,true,false,false,false,false]) rfl (by kernel_rfl) (by kernel_rfl) (by kernel_rfl) rfl rfl (fun _ _ _ h=>h) hS7 (fun w hJ K hK=> ?_) ?_
   ·refine z7n (a':=⟨b3,1,none⟩) rfl Tryz.underlying75 rfl Tryz.sizeOf3 rfl ?_
    exact⟨rfl,hK⟩
   refine z5q (i:=4) (v:=(.int .i64 x2.2)) (l':= #[true,true,true,true,true,false,false,false]) rfl (by kernel_rfl) (by kernel_rfl) (by kernel_rfl) rfl rfl (fun _ _ _ h=>h) hS7 (fun w hJ K hK=> ?_) ?_
   ·refine q4p (v:=(.int .i64 x2.2)) rfl Tryz.isAgg3 (hJ.cell (i:=0) rfl rfl) ?_
    exact⟨rfl,hK⟩
   refine z5q (i:=5) (v:=(.int .i64 (min x2.2 (10000:Int)))) (l':= #[true,true,true,true,true,true,false,false]) rfl (by kernel_rfl) (by kernel_rfl) (by kernel_rfl) rfl rfl (fun _ _ _ h=>h) hS7 (fun w hJ K hK=> ?_) ?_
   ·refine y0f (r:=(min x2.2 (10000:Int))) rfl rfl rfl ?_
    exact⟨rfl,hK⟩
   refine z5q (i:=6) (v:=(.int .i64 (max x2.1 (0:Int)))) (l':= #[true,true,true,true,true,true,true,false]) rfl (by kernel_rfl) (by kernel_rfl) (by kernel_rfl) rfl rfl (fun _ _ _ h=>h) hS7 (fun w hJ K hK=> ?_) ?_
   ·refine Qx (v:=(.int .i64 (max x2.1 (0:Int)))) rfl ?_
    exact⟨rfl,hK⟩
   refine z5q (i:=7) (v:=(.int .i64 (min x2.2 (10000:Int)))) (l':= #[true,true,true,true,true,true,true,true]) rfl (by kernel_rfl) (by kernel_rfl) (by kernel_rfl) rfl rfl (fun _ _ _ h=>h) hS7 (fun w hJ K hK=> ?_) ?_
   ·refine Qx (v:=(.int .i64 (min x2.2 (10000:Int)))) rfl ?_
    exact⟨rfl,hK⟩
   refine v8b (by kernel_rfl) ?_
   refine Qi ?_
   refine Qn ?_
   refine Qv (v:=(.int .i64 (max x2.1 (0:Int)))) rfl ?_
   refine Qv (v:=(.int .i64 (min x2.2 (10000:Int)))) rfl ?_
   refine w05 (r:=(decide ((max x2.1 (0:Int))<(min x2.2 (10000:Int))))) rfl rfl rfl ?_
   refine wpList_nil ?_
   refine Qi ?_
   refine if_d ((max x2.1 (0:Int))<(min x2.2 (10000:Int))) rfl (fun ht3=> ?_) (fun ht3=> ?_)
   ·obtain⟨fa,hfa⟩: ∃fa:Nat,((fa:Nat):Int)=max x2.1 0:=⟨(max x2.1 0).toNat,by omega⟩
    obtain⟨fb,hfb⟩: ∃fb:Nat,((fb:Nat):Int)=min x2.2 10000:=⟨(min x2.2 10000).toNat,by omega⟩
    have hda:=Sp.dep_bound ((ls.take k1).flatten++x1.take k2) fa
    have hdb:=Sp.dep_bound ((ls.take k1).flatten++x1.take k2) fb
    have hlen:(((ls.take k1).flatten++x1.take k2)).length<=ls.flatten.length:=Sp.part_le hx1 (by omega)
    refine Qn ?_
    refine Qv (v:=(.int .i64 (max x2.1 (0:Int)))) rfl ?_
    refine Wx (k:=fa) (a':=⟨b2,fa,none⟩) rfl rfl (by omega) (by omega) Tryz.underlying195 Tryz.sizeOf3 (by simp[Jf]) ?_
    refine q4p (v:=(.int .i64 (Sp.dep ((ls.take k1).flatten++x1.take k2) fa))) rfl Tryz.isAgg3 (hS7.cell (i:=1) rfl (z7o (by omega))) ?_
    refine z1a (r:=((Sp.dep ((ls.take k1).flatten++x1.take k2) fa)+(1:Int))) rfl rfl (nw (by omega) (by omega) (by omega)) ?_
    refine Wx (k:=fa) (a':=⟨b2,fa,none⟩) rfl rfl (by omega) (by omega) Tryz.underlying195 Tryz.sizeOf3 (by simp[Jf]) ?_
    refine Bs (T:=195) (vs:=[(.int .i64 ((Sp.dep ((ls.take k1).flatten++x1.take k2) fa)+(1:Int)))]) (cs':=irow 10001 (fun i=>(if i=fa then ((Sp.dep ((ls.take k1).flatten++x1.take k2) fa)+(1:Int)) else Sp.dep ((ls.take k1).flatten++x1.take k2) i))) (ms':=[blk b3 75 [(.int .i64 x2.1),(.int .i64 x2.2)],blk b2 195 (irow 10001 (fun i=>(if i=fa then ((Sp.dep ((ls.take k1).flatten++x1.take k2) fa)+(1:Int)) else Sp.dep ((ls.take k1).flatten++x1.take k2) i))),blk b1 129 (brow 10000 (fun i=>false))]) (i:=1) hS7 rfl rfl rfl Tryz.sizeOf3 rfl (ones rfl) rfl (by rw[z2z];omega) (w3z (by omega)) rfl ?_
    intro w7 hS8
    refine wpList_nil ?_
    refine Qi ?_
    refine G6 ?_
    refine Qv (v:=(.int .i64 (min x2.2 (10000:Int)))) rfl ?_
    refine Wx (k:=fb) (a':=⟨b2,fb,none⟩) rfl rfl (by omega) (by omega) Tryz.underlying195 Tryz.sizeOf3 (by simp[Jf]) ?_
    refine q4p (v:=(.int .i64 ((if fb=fa then ((Sp.dep ((ls.take k1).flatten++x1.take k2) fa)+(1:Int)) else Sp.dep ((ls.take k1).flatten++x1.take k2) fb)))) rfl Tryz.isAgg3 (hS8.cell (i:=1) rfl (z7o (by omega))) ?_
    refine v1n (r:=(((if fb=fa then ((Sp.dep ((ls.take k1).flatten++x1.take k2) fa)+(1:Int)) else Sp.dep ((ls.take k1).flatten++x1.take k2) fb)) - (1:Int))) rfl rfl (nw (by omega) (by omega) (by omega)) ?_
    refine Wx (k:=fb) (a':=⟨b2,fb,none⟩) rfl rfl (by omega) (by omega) Tryz.underlying195 Tryz.sizeOf3 (by simp[Jf]) ?_
    refine Bs (T:=195) (vs:=[(.int .i64 (((if fb=fa then ((Sp.dep ((ls.take k1).flatten++x1.take k2) fa)+(1:Int)) else Sp.dep ((ls.take k1).flatten++x1.take k2) fb)) - (1:Int)))]) (cs':=irow 10001 (Sp.dep (((ls.take k1).flatten++x1.take k2)++[x2]))) (ms':=[blk b3 75 [(.int .i64 x2.1),(.int .i64 x2.2)],blk b2 195 (irow 10001 (Sp.dep (((ls.take k1).flatten++x1.take k2)++[x2]))),blk b1 129 (brow 10000 (fun i=>false))]) (i:=1) hS8 rfl rfl rfl Tryz.sizeOf3 rfl (ones rfl) rfl (by rw[z2z];omega) ((w3z (by omega)).trans (j48 (fun i _=>Sp.dep_step ((ls.take k1).flatten++x1.take k2) x2 fa fb hfa hfb (by unfold Sp.lo Sp.hi;omega) i))) rfl ?_
    intro w8 hS9
    refine wpList_nil ?_
    refine j33 ?_
    refine Qi ?_
    refine G6 ?_
    refine z1a (r:=((k2+1:Nat):Int)) rfl rfl (nw (by omega) (by omega) (by omega)) ?_
    refine Qv (v:=(.int .i64 ((k2+1:Nat):Int))) rfl ?_
    refine wpList_nil ?_
    refine Qi ?_
    have hE:x1.take (k2+1)=x1.take k2++[x2]:=take_snoc hx2
    exact⟨_,_,rfl,⟨k2+1,_,rfl,(Q6 rfl (Q6 rfl (Q6 rfl (Q6 rfl (Q6 rfl (Q6 rfl (Q6 rfl (Q6 rfl rfl)))))))),(by rw[hE,←List.append_assoc];exact hS9.drop 0 rfl),(by have:=Qa hx2;omega)⟩,by have:=Qa hx2;omega⟩
   ·refine wp_skip ?_
    refine j33 ?_
    refine Qi ?_
    refine G6 ?_
    refine z1a (r:=((k2+1:Nat):Int)) rfl rfl (nw (by omega) (by omega) (by omega)) ?_
    refine Qv (v:=(.int .i64 ((k2+1:Nat):Int))) rfl ?_
    refine wpList_nil ?_
    refine Qi ?_
    have hE:x1.take (k2+1)=x1.take k2++[x2]:=take_snoc hx2
    exact⟨_,_,rfl,⟨k2+1,_,rfl,(Q6 rfl (Q6 rfl (Q6 rfl (Q6 rfl (Q6 rfl (Q6 rfl (Q6 rfl (Q6 rfl rfl)))))))),(by rw[hE,←List.append_assoc,j48 (fun i _=>Sp.dep_skip ((ls.take k1).flatten++x1.take k2) x2 ht3 i)];exact hS7.drop 0 rfl),(by have:=Qa hx2;omega)⟩,by have:=Qa hx2;omega⟩
  ·refine wp_exit ?_
   refine q8l ?_
   refine q8l ?_
   refine z4q ?_
   refine j33 ?_
   refine Qi ?_
   refine G6 ?_
   refine z1a (r:=((k1+1:Nat):Int)) rfl rfl (nw (by omega) (by omega) (by omega)) ?_
   refine Qv (v:=(.int .i64 ((k1+1:Nat):Int))) rfl ?_
   refine wpList_nil ?_
   refine Qi ?_
   have hSl:=hS4
   rw[List.take_of_length_le (show x1.length<=k2 by omega)] at hSl
   exact⟨_,_,rfl,⟨k1+1,_,rfl,(Q6 rfl (Q6 rfl (Q6 rfl (Q6 rfl (Q6 rfl rfl))))),(by rw[Sp.flat_take hx1];exact hSl),(by have:=Qa hx1;omega)⟩,by have:=Qa hx1;omega⟩
 ·refine wp_exit ?_
  refine q8l ?_
  refine q8l ?_
  refine z4q ?_
  refine Qi ?_
  refine Qn ?_
  refine q38 (cs:=brow 10000 (fun i=>false)) hS3 (q4s Tryz.type129 (q26 j8n j9n) (by omega)) (by simp[Value.cells,q3r]) ?_
  intro b4 w9 hS10
  refine wpList_nil ?_
  refine Qi ?_
  refine Qn ?_
  refine Qx (v:=(.int .i64 (0:Int))) rfl ?_
  refine wpList_nil ?_
  refine Qi ?_
  refine wp_seq ?_
  refine Qn ?_
  refine Qv (v:=(.int .i64 (0:Int))) rfl ?_
  refine wpList_nil ?_
  refine Qi ?_
  refine wp_block ?_
  rw[List.take_of_length_le (show ls.length<=k1 by omega)] at hS10
  refine loop (fun m f z=> ∃(k3:Nat) (g:Fr),m=10000 - k3/\f=(upd (upd (upd (upd (upd g 2 (.pointer (some ⟨b1,0,none⟩))) 3 (.pointer (some ⟨b2,0,none⟩))) 10 (.pointer (some ⟨b4,0,none⟩))) 11 (.int .i64 (Sp.psum (Sp.dep ls.flatten) k3))) 46 (.int .i64 ((k3:Nat):Int)))/\St ⟨w,σ,[]⟩ z σ [blk b4 129 (brow 10000 (fun i=>(decide (i<k3) && Sp.cov ls.flatten i))),blk b2 195 (irow 10001 (Sp.dep ls.flatten)),blk b1 129 (brow 10000 (fun i=>false))]/\(k3<=10000)) (m0:=_) ⟨0,_,rfl,(Q6 rfl (Q6 rfl (Q6 rfl (Q6 rfl (Q6 rfl rfl))))),(by simpa using hS10),(Nat.zero_le _)⟩ ?_
  rintro _ _ w10 ⟨k3,g,rfl,rfl,hS11,hk3⟩
  refine Qn ?_
  refine w05 (r:=(decide (((k3:Nat):Int)<(10000:Int)))) rfl rfl rfl ?_
  refine wpList_nil ?_
  refine Qi ?_
  refine wp_seq ?_
  refine if_d (((k3:Nat):Int)<(10000:Int)) rfl (fun ht4=> ?_) (fun ht4=> ?_)
  ·refine wp_skip ?_
   refine Qi ?_
   refine wp_seq ?_
   refine wp_block ?_
   refine Qn ?_
   refine Qv (v:=(.int .i64 ((k3:Nat):Int))) rfl ?_
   refine Qx (v:=(.int .i64 ((k3:Nat):Int))) rfl ?_
   refine wpList_nil ?_
   refine Qi ?_
   refine Qn ?_
   have hps:=Sp.psum_nonneg ls.flatten k3 (by omega)
   have hps2:Sp.psum (Sp.dep ls.flatten) (k3+1)=Sp.psum (Sp.dep ls.flatten) k3+Sp.dep ls.flatten k3:=rfl
   refine Qv (v:=(.int .i64 (Sp.psum (Sp.dep ls.flatten) k3))) rfl ?_
   refine Qv (v:=(.int .i64 ((k3:Nat):Int))) rfl ?_
   refine Wx (k:=k3) (a':=⟨b2,k3,none⟩) rfl rfl (by omega) (by omega) Tryz.underlying195 Tryz.sizeOf3 (by simp[Jf]) ?_
   refine q4p (v:=(.int .i64 (Sp.dep ls.flatten k3))) rfl Tryz.isAgg3 (hS11.cell (i:=1) rfl (z7o (by omega))) ?_
   refine z1a (r:=((Sp.psum (Sp.dep ls.flatten) k3)+(Sp.dep ls.flatten k3))) rfl rfl (nw (by omega) (by omega) (by omega)) ?_
   refine Qx (v:=(.int .i64 ((Sp.psum (Sp.dep ls.flatten) k3)+(Sp.dep ls.flatten k3)))) rfl ?_
   refine wpList_nil ?_
   refine Qi ?_
   refine G6 ?_
   refine Qv (v:=(.int .i64 ((k3:Nat):Int))) rfl ?_
   refine Qv (v:=(.int .i64 ((Sp.psum (Sp.dep ls.flatten) k3)+(Sp.dep ls.flatten k3)))) rfl ?_
   refine v78 (r:=(decide ((0:Int)<((Sp.psum (Sp.dep ls.flatten) k3)+(Sp.dep ls.flatten k3))))) rfl rfl rfl ?_
   refine Wx (k:=k3) (a':=⟨b4,k3,none⟩) rfl rfl (by omega) (by omega) Tryz.underlying129 Tryz.sizeOf4 (by simp[Jf]) ?_
   refine Bs (T:=129) (vs:=[(.bool (decide ((0:Int)<((Sp.psum (Sp.dep ls.flatten) k3)+(Sp.dep ls.flatten k3)))))]) (cs':=brow 10000 (fun i=>(decide (i<k3+1) && Sp.cov ls.flatten i))) (ms':=[blk b4 129 (brow 10000 (fun i=>(decide (i<k3+1) && Sp.cov ls.flatten i))),blk b2 195 (irow 10001 (Sp.dep ls.flatten)),blk b1 129 (brow 10000 (fun i=>false))]) (i:=0) hS11 rfl rfl rfl Tryz.sizeOf4 rfl (ones rfl) rfl (by rw[Z2];omega) ((v1p (by omega)).trans (j47 (fun i _=>Sp.set_step ls.flatten k3 (by omega) i))) rfl ?_
   intro w11 hS12
   refine wpList_nil ?_
   refine j33 ?_
   refine Qi ?_
   refine G6 ?_
   refine z1a (r:=((k3+1:Nat):Int)) rfl rfl (nw (by omega) (by omega) (by omega)) ?_
   refine Qv (v:=(.int .i64 ((k3+1:Nat):Int))) rfl ?_
   refine wpList_nil ?_
   refine Qi ?_
   exact⟨_,_,rfl,⟨k3+1,_,rfl,(Q6 rfl (Q6 rfl (Q6 rfl (Q6 rfl (Q6 rfl rfl))))),hS12,(by omega)⟩,by omega⟩
  ·refine wp_exit ?_
   refine q8l ?_
   refine q8l ?_
   refine z4q ?_
   refine Qi ?_
   refine Qn ?_
   refine j06 (cs:=brow 10000 (fun i=>(decide (i<k3) && Sp.cov ls.flatten i))) rfl Tryz.isAgg129 Tryz.sizeOf129 (Z2 _ _) (q2c (hS11.get (i:=0) rfl)) ?_
   refine Bs (T:=129) (vs:=brow 10000 (fun i=>(decide (i<k3) && Sp.cov ls.flatten i))) (cs':=brow 10000 (fun i=>(decide (i<k3) && Sp.cov ls.flatten i))) (ms':=[blk b4 129 (brow 10000 (fun i=>(decide (i<k3) && Sp.cov ls.flatten i))),blk b2 195 (irow 10001 (Sp.dep ls.flatten)),blk b1 129 (brow 10000 (fun i=>(decide (i<k3) && Sp.cov ls.flatten i)))]) (i:=2) hS11 rfl rfl (q5r _) Tryz.sizeOf129 (Z2 _ _) (q5s _ _) rfl (by simp[Z2]) (B7 (by simp[Z2])) rfl ?_
   intro w12 hS13
   refine wpList_nil ?_
   refine Qi ?_
   refine wp_ret ?_
   refine v39 rfl rfl (hS13.get (i:=2) rfl) Tryz.underlying129 rfl ((show (Tryz.prog.info? 129).map (·.size)=some 10000 from rfl).trans (by simp[Z2])) ?_
   exact⟨congrArg (fun l:List Value=>Ending.returned (.agg l.toArray)) (j47 (fun i hi=>Sp.all_step ls.flatten k3 i (by omega))),hS13.done⟩
end Go.Proofs.YtflilmgifibgoaaGreatDoor
end
noncomputable section
set_option maxRecDepth 100000
namespace Go.Proofs.YtflilmgifibgoaaGreatDoor
open Go Go.Proofs Go.RowKit Go.Fl
theorem j60{σ:Hv}{w:World}(fid:FuncId)(C:List Value)(p:Nat->Bool)(O:Nat->HObj)(bo:Option Nat)(hfo: ∀k,(O k).foot=bo)(hcall: ∀args w,(callFunc fid args).run Tryz.prog w= .ok (.enter fid args) w)
  (hcl: ∀(k:Nat) (w1:World),k<10000->View σ w1->(O k).ok w1->Calls Tryz.prog fid ((.int .i64 ((k:Nat):Int))::C).toArray w1 fun e w2=>e= .returned (.bool (p k))/\Grow bo.toList σ w1 σ w2/\(O (k+1)).ok w2)
  (hV:View σ w)(hO:(O 0).ok w)(hσ: ∀k,(O 0).foot=some k->σ k=none):
  Calls Tryz.prog 79 #[(.func (.func fid) #[] (C).toArray)] w fun e w1=> ∃(v:Value) (σ1:Hv),e= .returned v/\Grow bo.toList σ w σ1 w1/\RSl 2 (REnc q0m) σ1 v (Sp.runs p 10000)/\(O 10000).ok w1/\ ∀k,bo=some k->σ1 k=none:=by
 refine enter Tryz.func79 rfl rfl rfl ?_
 have hS:=St.startO hV hO hσ
 refine Qn ?_
 refine Qx (v:=(.slice none 0 0)) rfl ?_
 refine wpList_nil ?_
 refine Qi ?_
 refine Qn ?_
 refine Qx (v:=(.slice none 0 0)) rfl ?_
 refine wpList_nil ?_
 refine Qi ?_
 refine wp_seq ?_
 refine Qn ?_
 refine Qv (v:=(.int .i64 (0:Int))) rfl ?_
 refine wpList_nil ?_
 refine Qi ?_
 refine wp_block ?_
 have hSn:=hS.addNil 75 2
 refine loop (fun m f z=> ∃(k:Nat) (v:Value) (g:Fr),m=10000 - k/\f=(upd (upd (upd g 0 (.func (.func fid) #[] (C).toArray)) 3 v) 6 (.int .i64 ((k:Nat):Int)))/\St ⟨w,σ,(O 0).foot.toList⟩ z σ [vec v 75 2 ((Sp.runs p k).length) ((Sp.runs p k).flatMap q0m),O k]/\(v.oneCell'=true)/\(k<=10000)) (m0:=_) ⟨0,_,_,rfl,(Q6 rfl (Q6 rfl (Q6 rfl rfl))),hSn,(rfl),(Nat.zero_le _)⟩ ?_
 rintro _ _ w1 ⟨k,v,g,rfl,rfl,hS1,hone,hk⟩
 have hrl:=Sp.runs_len p k
 refine Qn ?_
 refine w05 (r:=(decide (((k:Nat):Int)<(10000:Int)))) rfl rfl rfl ?_
 refine wpList_nil ?_
 refine Qi ?_
 refine wp_seq ?_
 refine if_d (((k:Nat):Int)<(10000:Int)) rfl (fun ht1=> ?_) (fun ht1=> ?_)
 ·refine wp_skip ?_
  refine Qi ?_
  refine wp_seq ?_
  refine wp_block ?_
  refine Qn ?_
  refine Qv (v:=(.int .i64 ((k:Nat):Int))) rfl ?_
  refine Qx (v:=(.int .i64 ((k:Nat):Int))) rfl ?_
  refine wpList_nil ?_
  refine Qi ?_
  refine wp_seq ?_
  refine Qn ?_
  refine Qv (v:=(.func (.func fid) #[] (C).toArray)) rfl ?_
  refine Qv (v:=(.int .i64 ((k:Nat):Int))) rfl ?_
  refine w7k (first:=[]) (captured:=C) (args:=(.int .i64 ((k:Nat):Int))::C) rfl rfl hcall (Calls.mono (hcl k _ (by omega) hS1.view (hS1.get (i:=1) rfl)) ?_)
  rintro _ w2 ⟨rfl,hg1,ho1⟩
  refine⟨_,rfl,?_⟩
  have hS2:=hS1.growO hg1 (i:=1) (o':=O (k+1)) rfl (hfo _) (hfo _) ho1 (ms':=[vec v 75 2 ((Sp.runs p k).length) ((Sp.runs p k).flatMap q0m),O (k+1)]) rfl
  refine v48 (r:=(!p k)) rfl rfl ?_
  refine wpList_nil ?_
  refine Qi ?_
  refine y0g rfl (fun ht2=> ?_) (fun ht2=> ?_)
  ·refine wp_exit ?_
   refine q8l ?_
   refine z4q ?_
   refine Qi ?_
   refine G6 ?_
   refine z1a (r:=((k+1:Nat):Int)) rfl rfl (nw (by omega) (by omega) (by omega)) ?_
   refine Qv (v:=(.int .i64 ((k+1:Nat):Int))) rfl ?_
   refine wpList_nil ?_
   refine Qi ?_
   have hE:=Sp.runs_no ht2
   exact⟨_,_,rfl,⟨k+1,v,_,rfl,(Q6 rfl (Q6 rfl (Q6 rfl rfl))),(by rw[hE];simpa using hS2),(hone),(by omega)⟩,by omega⟩
  ·refine wp_skip ?_
   refine Qi ?_
   refine Qn ?_
   refine Qv (v:=v) rfl ?_
   refine w7i hS2 rfl (i:=0) rfl Tryz.underlying51 ?_
   refine Qx (v:=(.int .i64 (((Sp.runs p k).length:Nat):Int))) rfl ?_
   refine wpList_nil ?_
   refine Qi ?_
   refine Qn ?_
   refine Qv (v:=(.int .i64 (((Sp.runs p k).length:Nat):Int))) rfl ?_
   refine v78 (r:=(decide ((0:Int)<(((Sp.runs p k).length:Nat):Int)))) rfl rfl rfl ?_
   by_cases hb1:(0:Int)<(((Sp.runs p k).length:Nat):Int)
   ·refine Qv (v:=(.bool true)) (congrArg Value.bool (decide_eq_true hb1)) ?_
    refine o_on rfl rfl ?_
    refine Qv (v:=v) rfl ?_
    refine o_on rfl rfl ?_
    refine Qv (v:=(.int .i64 (((Sp.runs p k).length:Nat):Int))) rfl ?_
    refine o_on rfl rfl ?_
    refine v1n (r:=((((Sp.runs p k).length:Nat):Int) - (1:Int))) rfl rfl (nw (by omega) (by omega) (by omega)) ?_
    refine o_on rfl rfl ?_
    obtain⟨g1,cp1,rfl⟩:=w07 (hS2.get (i:=0) rfl) (by omega)
    refine q0o (k:=((Sp.runs p k).length - 1)) (a':=⟨g1,((Sp.runs p k).length - 1)*2,none⟩) rfl rfl (by omega) (by omega) Tryz.underlying51 Tryz.sizeOf75 (by simp[Jf]) ?_
    refine o_on rfl rfl ?_
    refine z7n (a':=⟨g1,((Sp.runs p k).length - 1)*2+1,none⟩) rfl Tryz.underlying75 rfl Tryz.sizeOf3 rfl ?_
    refine o_on rfl rfl ?_
    obtain⟨x1,hx1⟩:=getq (l:=Sp.runs p k) (k:=((Sp.runs p k).length - 1)) (by omega)
    refine q4p (v:=(.int .i64 x1.2)) rfl Tryz.isAgg3 (v1q j08 (j:=1) (hS2.get (i:=0) rfl) hx1 rfl) ?_
    refine o_on rfl rfl ?_
    refine Qv (v:=(.int .i64 ((k:Nat):Int))) rfl ?_
    refine o_on rfl rfl ?_
    refine y0c (r:=(decide (x1.2=((k:Nat):Int)))) rfl rfl rfl ?_
    refine j0i (v:=(.bool (decide (x1.2=((k:Nat):Int))))) rfl rfl ?_
    refine wpList_nil ?_
    refine Qi ?_
    refine if_d (x1.2=((k:Nat):Int)) rfl (fun ht3=> ?_) (fun ht3=> ?_)
    ·refine G6 ?_
     refine Qv (v:=(.slice (some ⟨g1,0,none⟩) (Sp.runs p k).length cp1)) rfl ?_
     refine Qv (v:=(.int .i64 (((Sp.runs p k).length:Nat):Int))) rfl ?_
     refine v1n (r:=((((Sp.runs p k).length:Nat):Int) - (1:Int))) rfl rfl (nw (by omega) (by omega) (by omega)) ?_
     refine Qv (v:=(.int .i64 ((k:Nat):Int))) rfl ?_
     refine z1a (r:=((k+1:Nat):Int)) rfl rfl (nw (by omega) (by omega) (by omega)) ?_
     refine q0o (k:=((Sp.runs p k).length - 1)) (a':=⟨g1,((Sp.runs p k).length - 1)*2,none⟩) rfl rfl (by omega) (by omega) Tryz.underlying51 Tryz.sizeOf75 (by simp[Jf]) ?_
     refine z7n (a':=⟨g1,((Sp.runs p k).length - 1)*2+1,none⟩) rfl Tryz.underlying75 rfl Tryz.sizeOf3 rfl ?_
     refine w08 (xs':=((Sp.runs p k).set ((Sp.runs p k).length - 1) (x1.1,((k+1:Nat):Int))).flatMap q0m) (ms':=[vec (.slice (some ⟨g1,0,none⟩) (Sp.runs p k).length cp1) 75 2 ((Sp.runs p k).length) (((Sp.runs p k).set ((Sp.runs p k).length - 1) (x1.1,((k+1:Nat):Int))).flatMap q0m),O (k+1)]) (vs:=[(.int .i64 ((k+1:Nat):Int))]) (i:=0) hS2 rfl rfl rfl Tryz.sizeOf3 rfl (ones rfl) rfl (by omega) (w30 j08 hx1 rfl (Nat.le_of_ble_eq_true rfl)) rfl ?_
     intro w3 hS3
     refine wpList_nil ?_
     refine j33 ?_
     refine Qi ?_
     refine G6 ?_
     refine z1a (r:=((k+1:Nat):Int)) rfl rfl (nw (by omega) (by omega) (by omega)) ?_
     refine Qv (v:=(.int .i64 ((k+1:Nat):Int))) rfl ?_
     refine wpList_nil ?_
     refine Qi ?_
     have hE:=Sp.runs_ext ht2 hx1 ht3
     exact⟨_,_,rfl,⟨k+1,(.slice (some ⟨g1,0,none⟩) (Sp.runs p k).length cp1),_,rfl,(Q6 rfl (Q6 rfl (Q6 rfl rfl))),(by rw[hE];simpa using hS3),(rfl),(by omega)⟩,by omega⟩
    ·refine G6 ?_
     refine Qv (v:=(.slice (some ⟨g1,0,none⟩) (Sp.runs p k).length cp1)) rfl ?_
     refine Qv (v:=(.int .i64 ((k:Nat):Int))) rfl ?_
     refine Qv (v:=(.int .i64 ((k:Nat):Int))) rfl ?_
     refine z1a (r:=((k+1:Nat):Int)) rfl rfl (nw (by omega) (by omega) (by omega)) ?_
     refine w7h (v:=(.agg #[(.int .i64 ((k:Nat):Int)),(.int .i64 ((k+1:Nat):Int))])) (fun _=>by kernel_rfl) ?_
     refine q25 (cs:=[(.int .i64 ((k:Nat):Int)),(.int .i64 ((k+1:Nat):Int))]) (e:=75) hS2 (fun _=>by kernel_rfl) ?_
     intro b1 w4 hS4
     refine j6f (Ms:=fun v1=>[blk b1 75 [(.int .i64 ((k:Nat):Int)),(.int .i64 ((k+1:Nat):Int))],vec v1 75 2 ((Sp.runs p k).length+1) ((Sp.runs p k++[(((k:Nat):Int),((k+1:Nat):Int))]).flatMap q0m),O (k+1)]) (xs':=(Sp.runs p k++[(((k:Nat):Int),((k+1:Nat):Int))]).flatMap q0m) Tryz.underlying51 Tryz.type75 rfl rfl (bytes:=16) rfl rfl (Nat.succ_pos _) hS4 rfl (q:=1) rfl rfl rfl (q2c (hS4.get (i:=0) rfl)) (ones rfl) (by omega) (by unfold maxLen;omega) (j8m _ (((k:Nat):Int),((k+1:Nat):Int))) (fun _=>rfl) ?_
     intro v1 w5 ho2 hS5
     have hS6:=hS5.drop 0 (ms':=[vec v1 75 2 ((Sp.runs p k).length+1) ((Sp.runs p k++[(((k:Nat):Int),((k+1:Nat):Int))]).flatMap q0m),O (k+1)]) rfl
     refine Qx (v:=v1) rfl ?_
     refine wpList_nil ?_
     refine j33 ?_
     refine Qi ?_
     refine G6 ?_
     refine z1a (r:=((k+1:Nat):Int)) rfl rfl (nw (by omega) (by omega) (by omega)) ?_
     refine Qv (v:=(.int .i64 ((k+1:Nat):Int))) rfl ?_
     refine wpList_nil ?_
     refine Qi ?_
     have hE:=Sp.runs_new ht2 (fun s hs=>by rw[hx1] at hs;cases hs;exact ht3)
     exact⟨_,_,rfl,⟨k+1,v1,_,rfl,(Q6 rfl (Q6 rfl (Q6 rfl rfl))),(by rw[hE];simpa using hS6),(ho2),(by omega)⟩,by omega⟩
   ·refine Qv (v:=(.bool false)) (congrArg Value.bool (decide_eq_false hb1)) ?_
    refine z09 rfl rfl ?_
    refine z09 rfl rfl ?_
    refine z09 rfl rfl ?_
    refine z09 rfl rfl ?_
    refine z09 rfl rfl ?_
    refine z09 rfl rfl ?_
    refine z09 rfl rfl ?_
    refine z09 rfl rfl ?_
    refine j0j (v:=(.bool false)) rfl rfl ?_
    refine wpList_nil ?_
    refine Qi ?_
    refine if_f rfl ?_
    refine G6 ?_
    refine Qv (v:=v) rfl ?_
    refine Qv (v:=(.int .i64 ((k:Nat):Int))) rfl ?_
    refine Qv (v:=(.int .i64 ((k:Nat):Int))) rfl ?_
    refine z1a (r:=((k+1:Nat):Int)) rfl rfl (nw (by omega) (by omega) (by omega)) ?_
    refine w7h (v:=(.agg #[(.int .i64 ((k:Nat):Int)),(.int .i64 ((k+1:Nat):Int))])) (fun _=>by kernel_rfl) ?_
    refine q25 (cs:=[(.int .i64 ((k:Nat):Int)),(.int .i64 ((k+1:Nat):Int))]) (e:=75) hS2 (fun _=>by kernel_rfl) ?_
    intro b2 w6 hS7
    refine j6f (Ms:=fun v2=>[blk b2 75 [(.int .i64 ((k:Nat):Int)),(.int .i64 ((k+1:Nat):Int))],vec v2 75 2 ((Sp.runs p k).length+1) ((Sp.runs p k++[(((k:Nat):Int),((k+1:Nat):Int))]).flatMap q0m),O (k+1)]) (xs':=(Sp.runs p k++[(((k:Nat):Int),((k+1:Nat):Int))]).flatMap q0m) Tryz.underlying51 Tryz.type75 rfl rfl (bytes:=16) rfl rfl (Nat.succ_pos _) hS7 rfl (q:=1) rfl rfl rfl (q2c (hS7.get (i:=0) rfl)) (ones rfl) (by omega) (by unfold maxLen;omega) (j8m _ (((k:Nat):Int),((k+1:Nat):Int))) (fun _=>rfl) ?_
    intro v2 w7 ho3 hS8
    have hS9:=hS8.drop 0 (ms':=[vec v2 75 2 ((Sp.runs p k).length+1) ((Sp.runs p k++[(((k:Nat):Int),((k+1:Nat):Int))]).flatMap q0m),O (k+1)]) rfl
    refine Qx (v:=v2) rfl ?_
    refine wpList_nil ?_
    refine j33 ?_
    refine Qi ?_
    refine G6 ?_
    refine z1a (r:=((k+1:Nat):Int)) rfl rfl (nw (by omega) (by omega) (by omega)) ?_
    refine Qv (v:=(.int .i64 ((k+1:Nat):Int))) rfl ?_
    refine wpList_nil ?_
    refine Qi ?_
    have hE:=Sp.runs_new ht2 (fun s hs=>by have:=Qa hs;omega)
    exact⟨_,_,rfl,⟨k+1,v2,_,rfl,(Q6 rfl (Q6 rfl (Q6 rfl rfl))),(by rw[hE];simpa using hS9),(ho3),(by omega)⟩,by omega⟩
 ·refine wp_exit ?_
  refine q8l ?_
  refine q8l ?_
  refine z4q ?_
  refine Qi ?_
  refine Qn ?_
  refine Qv (v:=v) rfl ?_
  refine Qx (v:=v) rfl ?_
  refine wpList_nil ?_
  refine Qi ?_
  refine wp_ret ?_
  refine ret1 rfl (show ev _ _ _=v from rfl) ?_
  obtain rfl:k=10000:=by omega
  obtain⟨σ1,hS10,hsub1,hfr1⟩:=hS1.freezeM (i:=0) (j:=1) rfl rfl (by decide) (by show (O 0).foot.toList=_;rw[hfo,hfo]) rfl
  have hb:=Sp.runs_len p 10000
  have hd:=hS10.done
  rw[show (O 0).foot=bo from hfo 0] at hd
  exact⟨v,σ1,rfl,hd,RSl.ofVecEnc j08 (hS1.get (i:=0) rfl) hfr1 rfl (by omega),hS10.get (i:=0) rfl,fun k hk=>hS10.off (O 10000) (List.mem_singleton.2 rfl) k ((hfo _).trans hk)⟩
end Go.Proofs.YtflilmgifibgoaaGreatDoor
end
noncomputable section
set_option maxRecDepth 100000
namespace Go.Proofs.YtflilmgifibgoaaGreatDoor
open Go Go.Proofs Go.RowKit Go.Fl
theorem v20{σ:Hv}{w:World}{bp:Nat}(p:Nat->Bool)(k:Nat)(hV:View σ w)(hp:VRow σ ⟨bp,0,none⟩ (brow 10000 p))(hk:k<10000):
  Calls Tryz.prog 145 #[(.int .i64 ((k:Nat):Int)),(.pointer (some ⟨bp,0,none⟩))] w fun e w1=>e= .returned (.bool (p k))/\Grow [] σ w σ w1:=by
 refine enter Tryz.func145 rfl rfl rfl ?_
 have _hk:=hk
 have hS:=St.start hV
 refine Qn ?_
 refine Qx (v:=(.bool false)) rfl ?_
 refine wpList_nil ?_
 refine Qi ?_
 refine Qn ?_
 refine Qv (v:=(.int .i64 ((k:Nat):Int))) rfl ?_
 refine Wx (k:=k) (a':=⟨bp,k,none⟩) rfl rfl (by omega) (by omega) Tryz.underlying129 Tryz.sizeOf4 (by simp[Jf]) ?_
 refine q4p (v:=(.bool (p k))) rfl Tryz.isAgg4 (hp.cell hS.view k (q7z (by omega)) (w1b _ _)) ?_
 refine Qx (v:=(.bool (p k))) rfl ?_
 refine wpList_nil ?_
 refine Qi ?_
 refine wp_ret ?_
 refine ret1 rfl (show ev _ _ _=(.bool (p k)) from rfl) ?_
 exact⟨by simp[*],hS.done⟩
theorem w9n{σ:Hv}{w:World}{bp:Nat}{bq:Nat}(p:Nat->Bool)(q:Nat->Bool)(k:Nat)(hV:View σ w)(hp:VRow σ ⟨bp,0,none⟩ (brow 10000 p))(hq:VRow σ ⟨bq,0,none⟩ (brow 10000 q))(hk:k<10000):
  Calls Tryz.prog 80 #[(.int .i64 ((k:Nat):Int)),(.pointer (some ⟨bp,0,none⟩)),(.pointer (some ⟨bq,0,none⟩))] w fun e w1=>e= .returned (.bool (p k && q k))/\Grow [] σ w σ w1:=by
 refine enter Tryz.func80 rfl rfl rfl ?_
 have _hk:=hk
 have hS:=St.start hV
 refine Qn ?_
 refine Qx (v:=(.bool false)) rfl ?_
 refine wpList_nil ?_
 refine Qi ?_
 refine Qn ?_
 refine Qv (v:=(.int .i64 ((k:Nat):Int))) rfl ?_
 refine Wx (k:=k) (a':=⟨bp,k,none⟩) rfl rfl (by omega) (by omega) Tryz.underlying129 Tryz.sizeOf4 (by simp[Jf]) ?_
 refine q4p (v:=(.bool (p k))) rfl Tryz.isAgg4 (hp.cell hS.view k (q7z (by omega)) (w1b _ _)) ?_
 rcases Bool.eq_false_or_eq_true (p k) with hb1|hb1
 ·refine Qv (v:=(.bool true)) (congrArg Value.bool hb1) ?_
  refine o_on rfl rfl ?_
  refine Qv (v:=(.int .i64 ((k:Nat):Int))) rfl ?_
  refine o_on rfl rfl ?_
  refine Wx (k:=k) (a':=⟨bq,k,none⟩) rfl rfl (by omega) (by omega) Tryz.underlying129 Tryz.sizeOf4 (by simp[Jf]) ?_
  refine o_on rfl rfl ?_
  refine q4p (v:=(.bool (q k))) rfl Tryz.isAgg4 (hq.cell hS.view k (q7z (by omega)) (w1b _ _)) ?_
  refine j0i (v:=(.bool (q k))) rfl rfl ?_
  refine Qx (v:=(.bool (q k))) rfl ?_
  refine wpList_nil ?_
  refine Qi ?_
  refine wp_ret ?_
  refine ret1 rfl (show ev _ _ _=(.bool (q k)) from rfl) ?_
  exact⟨by simp[*],hS.done⟩
 ·refine Qv (v:=(.bool false)) (congrArg Value.bool hb1) ?_
  refine z09 rfl rfl ?_
  refine z09 rfl rfl ?_
  refine z09 rfl rfl ?_
  refine j0j (v:=(.bool false)) rfl rfl ?_
  refine Qx (v:=(.bool false)) rfl ?_
  refine wpList_nil ?_
  refine Qi ?_
  refine wp_ret ?_
  refine ret1 rfl (show ev _ _ _=(.bool false) from rfl) ?_
  exact⟨by simp[*],hS.done⟩
theorem v21{σ:Hv}{w:World}{bp:Nat}{bq:Nat}(p:Nat->Bool)(q:Nat->Bool)(k:Nat)(hV:View σ w)(hp:VRow σ ⟨bp,0,none⟩ (brow 10000 p))(hq:VRow σ ⟨bq,0,none⟩ (brow 10000 q))(hk:k<10000):
  Calls Tryz.prog 144 #[(.int .i64 ((k:Nat):Int)),(.pointer (some ⟨bp,0,none⟩)),(.pointer (some ⟨bq,0,none⟩))] w fun e w1=>e= .returned (.bool (p k && !q k))/\Grow [] σ w σ w1:=by
 refine enter Tryz.func144 rfl rfl rfl ?_
 have _hk:=hk
 have hS:=St.start hV
 refine Qn ?_
 refine Qx (v:=(.bool false)) rfl ?_
 refine wpList_nil ?_
 refine Qi ?_
 refine Qn ?_
 refine Qv (v:=(.int .i64 ((k:Nat):Int))) rfl ?_
 refine Wx (k:=k) (a':=⟨bp,k,none⟩) rfl rfl (by omega) (by omega) Tryz.underlying129 Tryz.sizeOf4 (by simp[Jf]) ?_
 refine q4p (v:=(.bool (p k))) rfl Tryz.isAgg4 (hp.cell hS.view k (q7z (by omega)) (w1b _ _)) ?_
 rcases Bool.eq_false_or_eq_true (p k) with hb1|hb1
 ·refine Qv (v:=(.bool true)) (congrArg Value.bool hb1) ?_
  refine o_on rfl rfl ?_
  refine Qv (v:=(.int .i64 ((k:Nat):Int))) rfl ?_
  refine o_on rfl rfl ?_
  refine Wx (k:=k) (a':=⟨bq,k,none⟩) rfl rfl (by omega) (by omega) Tryz.underlying129 Tryz.sizeOf4 (by simp[Jf]) ?_
  refine o_on rfl rfl ?_
  refine q4p (v:=(.bool (q k))) rfl Tryz.isAgg4 (hq.cell hS.view k (q7z (by omega)) (w1b _ _)) ?_
  refine o_on rfl rfl ?_
  refine v48 (r:=(!q k)) rfl rfl ?_
  refine j0i (v:=(.bool (!q k))) rfl rfl ?_
  refine Qx (v:=(.bool (!q k))) rfl ?_
  refine wpList_nil ?_
  refine Qi ?_
  refine wp_ret ?_
  refine ret1 rfl (show ev _ _ _=(.bool (!q k)) from rfl) ?_
  exact⟨by simp[*],hS.done⟩
 ·refine Qv (v:=(.bool false)) (congrArg Value.bool hb1) ?_
  refine z09 rfl rfl ?_
  refine z09 rfl rfl ?_
  refine z09 rfl rfl ?_
  refine z09 rfl rfl ?_
  refine j0j (v:=(.bool false)) rfl rfl ?_
  refine Qx (v:=(.bool false)) rfl ?_
  refine wpList_nil ?_
  refine Qi ?_
  refine wp_ret ?_
  refine ret1 rfl (show ev _ _ _=(.bool false) from rfl) ?_
  exact⟨by simp[*],hS.done⟩
theorem y1c{c:Cx}{w w1:World}{σ σ1:Hv}{o o':HObj}(h:St c w σ [o]){b:Nat}(hf:o.foot=some b)(hf':o'.foot=some b)(g:Grow [b] σ w σ1 w1)(ho:o'.ok w1)(hn:σ1 b=none):St c w1 σ1 [o']:=by
 have e:feet [o]=[b]:=by simp[feet,hf]
 refine St.callM (ins:=[o]) (outs:=[o']) (rest:=[]) h ⟨by rw[e];exact g.keeps,g.view,g.sub,by rw[e];exact g.fresh,by simpa using ho,by simp,?_,?_⟩ rfl
 ·intro q hq k hk
  rw[List.mem_singleton.1 hq,hf'] at hk
  cases hk;exact hn
 ·intro q hq k hk
  rw[List.mem_singleton.1 hq,hf'] at hk
  cases hk;left;rw[e];simp
theorem v22{σ:Hv}{w:World}{bp bn:Nat}(p:Nat->Bool)(n:Int)(k:Nat)(hV:View σ w)(hp:VRow σ ⟨bp,0,none⟩ (brow 10000 p))(ho:(blk bn 3 [.int .i64 (Sp.leftN p n k)]).ok w)(hσ:σ bn=none)(hk:k<10000)(hn: -9223372036854775808<=n)(hn2:n<=9223372036854775807):
  Calls Tryz.prog 146 #[(.int .i64 ((k:Nat):Int)),(.pointer (some ⟨bp,0,none⟩)),(.pointer (some ⟨bn,0,none⟩))] w fun e w1=>e= .returned (.bool (Sp.firstP p n k))/\Grow [bn] σ w σ w1/\(blk bn 3 [.int .i64 (Sp.leftN p n (k+1))]).ok w1:=by
 have hl:=Sp.leftN_le p n k
 refine enter Tryz.func146 rfl rfl rfl ?_
 have _hk:=hk
 have hS:=St.start1 hV ho rfl hσ
 refine Qn ?_
 refine Qx (v:=(.bool false)) rfl ?_
 refine wpList_nil ?_
 refine Qi ?_
 refine wp_seq ?_
 refine Qn ?_
 refine Qv (v:=(.int .i64 ((k:Nat):Int))) rfl ?_
 refine Wx (k:=k) (a':=⟨bp,k,none⟩) rfl rfl (by omega) (by omega) Tryz.underlying129 Tryz.sizeOf4 (by simp[Jf]) ?_
 refine q4p (v:=(.bool (p k))) rfl Tryz.isAgg4 (hp.cell hS.view k (q7z (by omega)) (w1b _ _)) ?_
 refine v48 (r:=(!p k)) rfl rfl ?_
 rcases Bool.eq_false_or_eq_true (p k) with hb1|hb1
 ·refine Qv (v:=(.bool false)) (congrArg Value.bool (congrArg Bool.not hb1)) ?_
  refine o_on rfl rfl ?_
  refine q4p (v:=(.int .i64 (Sp.leftN p n k))) rfl Tryz.isAgg3 (hS.cell (i:=0) rfl rfl) ?_
  refine o_on rfl rfl ?_
  refine y0d (r:=(decide ((Sp.leftN p n k)<=(0:Int)))) rfl rfl rfl ?_
  refine j0j (v:=(.bool (decide ((Sp.leftN p n k)<=(0:Int))))) rfl rfl ?_
  refine wpList_nil ?_
  refine Qi ?_
  refine if_d ((Sp.leftN p n k)<=(0:Int)) rfl (fun ht1=> ?_) (fun ht1=> ?_)
  ·refine Qn ?_
   refine Qx (v:=(.bool false)) rfl ?_
   refine wpList_nil ?_
   refine Qi ?_
   refine wp_ret ?_
   refine v4b ?_
   refine ret1 rfl (show ev _ _ _=(.bool false) from rfl) ?_
   have hg:=hS.get (i:=0) rfl
   refine⟨?_,hS.done,?_⟩
   ·first|(simp[*,Sp.firstP];done)|(simp[*,Sp.firstP];omega)
   rw[Sp.leftN]
   by_cases hq:p k=true/\0<Sp.leftN p n k
   ·rw[if_pos hq];first|exact hg|(exfalso;have h1:=hq.1;have h2:=hq.2;first|omega|simp_all)
   ·rw[if_neg hq];first|exact hg|(exfalso;exact hq ⟨by assumption,by omega⟩)
  ·refine wp_skip ?_
   refine Qi ?_
   refine Qn ?_
   refine q4p (v:=(.int .i64 (Sp.leftN p n k))) rfl Tryz.isAgg3 (hS.cell (i:=0) rfl rfl) ?_
   refine v1n (r:=((Sp.leftN p n k) - (1:Int))) rfl rfl (nw (by omega) (by omega) (by omega)) ?_
   refine Bs (T:=3) (vs:=[(.int .i64 ((Sp.leftN p n k) - (1:Int)))]) (cs':=[(.int .i64 ((Sp.leftN p n k) - (1:Int)))]) (ms':=[blk bn 3 [(.int .i64 ((Sp.leftN p n k) - (1:Int)))]]) (i:=0) hS rfl rfl rfl Tryz.sizeOf3 rfl (ones rfl) rfl (Nat.le_of_ble_eq_true rfl) rfl rfl ?_
   intro w1 hS1
   refine wpList_nil ?_
   refine Qi ?_
   refine Qn ?_
   refine Qx (v:=(.bool true)) rfl ?_
   refine wpList_nil ?_
   refine Qi ?_
   refine wp_ret ?_
   refine ret1 rfl (show ev _ _ _=(.bool true) from rfl) ?_
   have hg:=hS1.get (i:=0) rfl
   refine⟨?_,hS1.done,?_⟩
   ·first|(simp[*,Sp.firstP];done)|(simp[*,Sp.firstP];omega)
   rw[Sp.leftN]
   by_cases hq:p k=true/\0<Sp.leftN p n k
   ·rw[if_pos hq];first|exact hg|(exfalso;have h1:=hq.1;have h2:=hq.2;first|omega|simp_all)
   ·rw[if_neg hq];first|exact hg|(exfalso;exact hq ⟨by assumption,by omega⟩)
 ·refine Qv (v:=(.bool true)) (congrArg Value.bool (congrArg Bool.not hb1)) ?_
  refine z09 rfl rfl ?_
  refine z09 rfl rfl ?_
  refine j0i (v:=(.bool true)) rfl rfl ?_
  refine wpList_nil ?_
  refine Qi ?_
  refine if_t rfl ?_
  refine Qn ?_
  refine Qx (v:=(.bool false)) rfl ?_
  refine wpList_nil ?_
  refine Qi ?_
  refine wp_ret ?_
  refine v4b ?_
  refine ret1 rfl (show ev _ _ _=(.bool false) from rfl) ?_
  have hg:=hS.get (i:=0) rfl
  refine⟨?_,hS.done,?_⟩
  ·first|(simp[*,Sp.firstP];done)|(simp[*,Sp.firstP];omega)
  rw[Sp.leftN]
  by_cases hq:p k=true/\0<Sp.leftN p n k
  ·rw[if_pos hq];first|exact hg|(exfalso;have h1:=hq.1;have h2:=hq.2;first|omega|simp_all)
  ·rw[if_neg hq];first|exact hg|(exfalso;exact hq ⟨by assumption,by omega⟩)
theorem c_Union{σ:Hv}{w:World}(a:Value)(b:Value)(la:List (Int×Int))(lb:List (Int×Int))(hV:View σ w)(ha:RSl 2 (REnc q0m) σ a la)(hb:RSl 2 (REnc q0m) σ b lb):
  Calls Tryz.prog 81 #[a,b] w fun e w1=> ∃(v:Value) (σ1:Hv),e= .returned v/\Grow [] σ w σ1 w1/\RSl 2 (REnc q0m) σ1 v (Sp.runs (fun i=>Sp.cov la i||Sp.cov lb i) 10000):=by
 refine enter Tryz.func81 rfl rfl rfl ?_
 have hS:=St.start hV
 obtain⟨xa,ca,ea⟩:=ha.shape
 subst ea
 obtain⟨xb,cb,eb⟩:=hb.shape
 subst eb
 refine Qn ?_
 refine Qx (v:=(.slice none 0 0)) rfl ?_
 refine wpList_nil ?_
 refine Qi ?_
 refine Qn ?_
 refine Qv (v:=(.slice xa la.length ca)) rfl ?_
 refine Qv (v:=(.slice xb lb.length cb)) rfl ?_
 refine q25 (cs:=[(.slice xa la.length ca),(.slice xb lb.length cb)]) (e:=51) hS (fun _=>by kernel_rfl) ?_
 intro b1 w1 hS1
 obtain⟨σ1,hS2,hsub1,hfr1⟩:=hS1.freeze (i:=0) rfl rfl rfl
 have hvr1:=Ra (hS1.get (i:=0) rfl) hfr1
 refine q8k (args:=[(.slice (some ⟨b1,0,none⟩) 2 2)]) rfl Tryz.call78 (Calls.mono (c_of _ [la,lb] hS2.view (rsl2 (size:=1) (cs:=[_]) (ds:=[_]) hvr1 rfl rfl ⟨_,rfl,(RSl.menc hsub1 ha)⟩ ⟨_,rfl,(RSl.menc hsub1 hb)⟩) (by have:=(RSl.len (RSl.menc hsub1 ha));have:=(RSl.len (RSl.menc hsub1 hb));simp;omega)) ?_)
 rintro _ w2 ⟨rfl,hg1⟩
 refine⟨_,rfl,?_⟩
 have hS3:=hS2.grow hg1
 refine q38 (cs:=brow 10000 (fun i=>false)) hS3 (q4s Tryz.type129 (q26 j8n j9n) (by omega)) (by simp[Value.cells,q3r]) ?_
 intro b2 w3 hS4
 refine Bs (T:=129) (vs:=brow 10000 (Sp.cov [la,lb].flatten)) (cs':=brow 10000 (Sp.cov [la,lb].flatten)) (ms':=[blk b2 129 (brow 10000 (Sp.cov [la,lb].flatten))]) (i:=0) hS4 rfl rfl (q5r _) Tryz.sizeOf129 (Z2 _ _) (q5s _ _) rfl (by simp[Z2]) (B7 (by simp[Z2])) rfl ?_
 intro w4 hS5
 refine wpList_nil ?_
 refine Qi ?_
 refine Qn ?_
 refine z2y (la:=[]) (lb:=[(.pointer (some ⟨b2,0,none⟩))]) rfl rfl ?_
 obtain⟨σ2,hS6,hsub2,hfr2⟩:=hS5.freeze (i:=0) rfl rfl rfl
 have hvr2:=Ra (hS5.get (i:=0) rfl) hfr2
 refine q8k (args:=[(.func (.func 145) #[] #[(.pointer (some ⟨b2,0,none⟩))])]) rfl Tryz.call79 (Calls.mono (j60 145 [(.pointer (some ⟨b2,0,none⟩))] (Sp.cov [la,lb].flatten) (fun _=>v49) none (fun _=>rfl) Tryz.call145 (fun k w1 hk hV1 _=>(v20 _ k hV1 hvr2 hk).mono (fun e w2 h=>⟨h.1,h.2,trivial⟩)) hS6.view trivial (by rintro k ⟨⟩)) ?_)
 rintro _ w5 ⟨v1,σ3,rfl,hg2,hrd1,_⟩
 refine⟨_,rfl,?_⟩
 have hS7:=hS6.grow hg2
 refine Qx (v:=v1) rfl ?_
 refine wpList_nil ?_
 refine Qi ?_
 refine wp_ret ?_
 refine ret1 rfl (show ev _ _ _=v1 from rfl) ?_
 have hE:Sp.runs (fun i=>Sp.cov la i||Sp.cov lb i) 10000=(Sp.runs (Sp.cov [la,lb].flatten) 10000):=Sp.runs_congr (fun i hi=>(Sp.cov_two la lb i).symm)
 exact⟨v1,σ3,rfl,hS7.done,by rw[hE];exact hrd1⟩
theorem c_Common{σ:Hv}{w:World}(a:Value)(b:Value)(la:List (Int×Int))(lb:List (Int×Int))(hV:View σ w)(ha:RSl 2 (REnc q0m) σ a la)(hb:RSl 2 (REnc q0m) σ b lb):
  Calls Tryz.prog 22 #[a,b] w fun e w1=> ∃(v:Value) (σ1:Hv),e= .returned v/\Grow [] σ w σ1 w1/\RSl 2 (REnc q0m) σ1 v (Sp.runs (fun i=>Sp.cov la i && Sp.cov lb i) 10000):=by
 refine enter Tryz.func22 rfl rfl rfl ?_
 have hS:=St.start hV
 obtain⟨xa,ca,ea⟩:=ha.shape
 subst ea
 obtain⟨xb,cb,eb⟩:=hb.shape
 subst eb
 refine Qn ?_
 refine Qx (v:=(.slice none 0 0)) rfl ?_
 refine wpList_nil ?_
 refine Qi ?_
 refine Qn ?_
 refine Qv (v:=(.slice xa la.length ca)) rfl ?_
 refine q25 (cs:=[(.slice xa la.length ca)]) (e:=51) hS (fun _=>by kernel_rfl) ?_
 intro b1 w1 hS1
 obtain⟨σ1,hS2,hsub1,hfr1⟩:=hS1.freeze (i:=0) rfl rfl rfl
 have hvr1:=Ra (hS1.get (i:=0) rfl) hfr1
 refine q8k (args:=[(.slice (some ⟨b1,0,none⟩) 1 1)]) rfl Tryz.call78 (Calls.mono (c_of _ [la] hS2.view (rsl1 (size:=1) hvr1 rfl ⟨_,rfl,(RSl.menc hsub1 ha)⟩) (by have:=(RSl.len (RSl.menc hsub1 ha));simp;omega)) ?_)
 rintro _ w2 ⟨rfl,hg1⟩
 refine⟨_,rfl,?_⟩
 have hS3:=hS2.grow hg1
 refine Qv (v:=(.slice xb lb.length cb)) rfl ?_
 refine q25 (cs:=[(.slice xb lb.length cb)]) (e:=51) hS3 (fun _=>by kernel_rfl) ?_
 intro b2 w3 hS4
 obtain⟨σ2,hS5,hsub2,hfr2⟩:=hS4.freeze (i:=0) rfl rfl rfl
 have hvr2:=Ra (hS4.get (i:=0) rfl) hfr2
 refine q8k (args:=[(.slice (some ⟨b2,0,none⟩) 1 1)]) rfl Tryz.call78 (Calls.mono (c_of _ [lb] hS5.view (rsl1 (size:=1) hvr2 rfl ⟨_,rfl,(RSl.menc (Sub.trans hsub1 hsub2) hb)⟩) (by have:=(RSl.len (RSl.menc (Sub.trans hsub1 hsub2) hb));simp;omega)) ?_)
 rintro _ w4 ⟨rfl,hg2⟩
 refine⟨_,rfl,?_⟩
 have hS6:=hS5.grow hg2
 refine q38 (cs:=brow 10000 (fun i=>false)) hS6 (q4s Tryz.type129 (q26 j8n j9n) (by omega)) (by simp[Value.cells,q3r]) ?_
 intro b3 w5 hS7
 refine q38 (cs:=brow 10000 (fun i=>false)) hS7 (q4s Tryz.type129 (q26 j8n j9n) (by omega)) (by simp[Value.cells,q3r]) ?_
 intro b4 w6 hS8
 refine Bs (T:=129) (vs:=brow 10000 (Sp.cov [la].flatten)) (cs':=brow 10000 (Sp.cov [la].flatten)) (ms':=[blk b4 129 (brow 10000 (fun i=>false)),blk b3 129 (brow 10000 (Sp.cov [la].flatten))]) (i:=1) hS8 rfl rfl (q5r _) Tryz.sizeOf129 (Z2 _ _) (q5s _ _) rfl (by simp[Z2]) (B7 (by simp[Z2])) rfl ?_
 intro w7 hS9
 refine Bs (T:=129) (vs:=brow 10000 (Sp.cov [lb].flatten)) (cs':=brow 10000 (Sp.cov [lb].flatten)) (ms':=[blk b4 129 (brow 10000 (Sp.cov [lb].flatten)),blk b3 129 (brow 10000 (Sp.cov [la].flatten))]) (i:=0) hS9 rfl rfl (q5r _) Tryz.sizeOf129 (Z2 _ _) (q5s _ _) rfl (by simp[Z2]) (B7 (by simp[Z2])) rfl ?_
 intro w8 hS10
 refine wpList_nil ?_
 refine Qi ?_
 refine Qn ?_
 refine z2y (la:=[]) (lb:=[(.pointer (some ⟨b3,0,none⟩)),(.pointer (some ⟨b4,0,none⟩))]) rfl rfl ?_
 obtain⟨σ3,hS11,hsub3,hfr3⟩:=hS10.freeze (i:=1) rfl rfl rfl
 have hvr3:=Ra (hS10.get (i:=1) rfl) hfr3
 obtain⟨σ4,hS12,hsub4,hfr4⟩:=hS11.freeze (i:=0) rfl rfl rfl
 have hvr4:=Ra (hS11.get (i:=0) rfl) hfr4
 refine q8k (args:=[(.func (.func 80) #[] #[(.pointer (some ⟨b3,0,none⟩)),(.pointer (some ⟨b4,0,none⟩))])]) rfl Tryz.call79 (Calls.mono (j60 80 [(.pointer (some ⟨b3,0,none⟩)),(.pointer (some ⟨b4,0,none⟩))] (fun i=>Sp.cov [la].flatten i && Sp.cov [lb].flatten i) (fun _=>v49) none (fun _=>rfl) Tryz.call80 (fun k w1 hk hV1 _=>(w9n _ _ k hV1 (hvr3.mono hsub4) hvr4 hk).mono (fun e w2 h=>⟨h.1,h.2,trivial⟩)) hS12.view trivial (by rintro k ⟨⟩)) ?_)
 rintro _ w9 ⟨v1,σ5,rfl,hg3,hrd1,_⟩
 refine⟨_,rfl,?_⟩
 have hS13:=hS12.grow hg3
 refine Qx (v:=v1) rfl ?_
 refine wpList_nil ?_
 refine Qi ?_
 refine wp_ret ?_
 refine ret1 rfl (show ev _ _ _=v1 from rfl) ?_
 have hE:Sp.runs (fun i=>Sp.cov la i && Sp.cov lb i) 10000=(Sp.runs (fun i=>Sp.cov [la].flatten i && Sp.cov [lb].flatten i) 10000):=Sp.runs_congr (fun i hi=>by rw[←Sp.cov_one la,←Sp.cov_one lb])
 exact⟨v1,σ5,rfl,hS13.done,by rw[hE];exact hrd1⟩
theorem c_Minus{σ:Hv}{w:World}(a:Value)(b:Value)(la:List (Int×Int))(lb:List (Int×Int))(hV:View σ w)(ha:RSl 2 (REnc q0m) σ a la)(hb:RSl 2 (REnc q0m) σ b lb):
  Calls Tryz.prog 76 #[a,b] w fun e w1=> ∃(v:Value) (σ1:Hv),e= .returned v/\Grow [] σ w σ1 w1/\RSl 2 (REnc q0m) σ1 v (Sp.runs (fun i=>Sp.cov la i && !Sp.cov lb i) 10000):=by
 refine enter Tryz.func76 rfl rfl rfl ?_
 have hS:=St.start hV
 obtain⟨xa,ca,ea⟩:=ha.shape
 subst ea
 obtain⟨xb,cb,eb⟩:=hb.shape
 subst eb
 refine Qn ?_
 refine Qx (v:=(.slice none 0 0)) rfl ?_
 refine wpList_nil ?_
 refine Qi ?_
 refine Qn ?_
 refine Qv (v:=(.slice xa la.length ca)) rfl ?_
 refine q25 (cs:=[(.slice xa la.length ca)]) (e:=51) hS (fun _=>by kernel_rfl) ?_
 intro b1 w1 hS1
 obtain⟨σ1,hS2,hsub1,hfr1⟩:=hS1.freeze (i:=0) rfl rfl rfl
 have hvr1:=Ra (hS1.get (i:=0) rfl) hfr1
 refine q8k (args:=[(.slice (some ⟨b1,0,none⟩) 1 1)]) rfl Tryz.call78 (Calls.mono (c_of _ [la] hS2.view (rsl1 (size:=1) hvr1 rfl ⟨_,rfl,(RSl.menc hsub1 ha)⟩) (by have:=(RSl.len (RSl.menc hsub1 ha));simp;omega)) ?_)
 rintro _ w2 ⟨rfl,hg1⟩
 refine⟨_,rfl,?_⟩
 have hS3:=hS2.grow hg1
 refine Qv (v:=(.slice xb lb.length cb)) rfl ?_
 refine q25 (cs:=[(.slice xb lb.length cb)]) (e:=51) hS3 (fun _=>by kernel_rfl) ?_
 intro b2 w3 hS4
 obtain⟨σ2,hS5,hsub2,hfr2⟩:=hS4.freeze (i:=0) rfl rfl rfl
 have hvr2:=Ra (hS4.get (i:=0) rfl) hfr2
 refine q8k (args:=[(.slice (some ⟨b2,0,none⟩) 1 1)]) rfl Tryz.call78 (Calls.mono (c_of _ [lb] hS5.view (rsl1 (size:=1) hvr2 rfl ⟨_,rfl,(RSl.menc (Sub.trans hsub1 hsub2) hb)⟩) (by have:=(RSl.len (RSl.menc (Sub.trans hsub1 hsub2) hb));simp;omega)) ?_)
 rintro _ w4 ⟨rfl,hg2⟩
 refine⟨_,rfl,?_⟩
 have hS6:=hS5.grow hg2
 refine q38 (cs:=brow 10000 (fun i=>false)) hS6 (q4s Tryz.type129 (q26 j8n j9n) (by omega)) (by simp[Value.cells,q3r]) ?_
 intro b3 w5 hS7
 refine q38 (cs:=brow 10000 (fun i=>false)) hS7 (q4s Tryz.type129 (q26 j8n j9n) (by omega)) (by simp[Value.cells,q3r]) ?_
 intro b4 w6 hS8
 refine Bs (T:=129) (vs:=brow 10000 (Sp.cov [la].flatten)) (cs':=brow 10000 (Sp.cov [la].flatten)) (ms':=[blk b4 129 (brow 10000 (fun i=>false)),blk b3 129 (brow 10000 (Sp.cov [la].flatten))]) (i:=1) hS8 rfl rfl (q5r _) Tryz.sizeOf129 (Z2 _ _) (q5s _ _) rfl (by simp[Z2]) (B7 (by simp[Z2])) rfl ?_
 intro w7 hS9
 refine Bs (T:=129) (vs:=brow 10000 (Sp.cov [lb].flatten)) (cs':=brow 10000 (Sp.cov [lb].flatten)) (ms':=[blk b4 129 (brow 10000 (Sp.cov [lb].flatten)),blk b3 129 (brow 10000 (Sp.cov [la].flatten))]) (i:=0) hS9 rfl rfl (q5r _) Tryz.sizeOf129 (Z2 _ _) (q5s _ _) rfl (by simp[Z2]) (B7 (by simp[Z2])) rfl ?_
 intro w8 hS10
 refine wpList_nil ?_
 refine Qi ?_
 refine Qn ?_
 refine z2y (la:=[]) (lb:=[(.pointer (some ⟨b3,0,none⟩)),(.pointer (some ⟨b4,0,none⟩))]) rfl rfl ?_
 obtain⟨σ3,hS11,hsub3,hfr3⟩:=hS10.freeze (i:=1) rfl rfl rfl
 have hvr3:=Ra (hS10.get (i:=1) rfl) hfr3
 obtain⟨σ4,hS12,hsub4,hfr4⟩:=hS11.freeze (i:=0) rfl rfl rfl
 have hvr4:=Ra (hS11.get (i:=0) rfl) hfr4
 refine q8k (args:=[(.func (.func 144) #[] #[(.pointer (some ⟨b3,0,none⟩)),(.pointer (some ⟨b4,0,none⟩))])]) rfl Tryz.call79 (Calls.mono (j60 144 [(.pointer (some ⟨b3,0,none⟩)),(.pointer (some ⟨b4,0,none⟩))] (fun i=>Sp.cov [la].flatten i && !Sp.cov [lb].flatten i) (fun _=>v49) none (fun _=>rfl) Tryz.call144 (fun k w1 hk hV1 _=>(v21 _ _ k hV1 (hvr3.mono hsub4) hvr4 hk).mono (fun e w2 h=>⟨h.1,h.2,trivial⟩)) hS12.view trivial (by rintro k ⟨⟩)) ?_)
 rintro _ w9 ⟨v1,σ5,rfl,hg3,hrd1,_⟩
 refine⟨_,rfl,?_⟩
 have hS13:=hS12.grow hg3
 refine Qx (v:=v1) rfl ?_
 refine wpList_nil ?_
 refine Qi ?_
 refine wp_ret ?_
 refine ret1 rfl (show ev _ _ _=v1 from rfl) ?_
 have hE:Sp.runs (fun i=>Sp.cov la i && !Sp.cov lb i) 10000=(Sp.runs (fun i=>Sp.cov [la].flatten i && !Sp.cov [lb].flatten i) 10000):=Sp.runs_congr (fun i hi=>by rw[←Sp.cov_one la,←Sp.cov_one lb])
 exact⟨v1,σ5,rfl,hS13.done,by rw[hE];exact hrd1⟩
theorem c_Normal{σ:Hv}{w:World}(a:Value)(la:List (Int×Int))(hV:View σ w)(ha:RSl 2 (REnc q0m) σ a la):
  Calls Tryz.prog 36 #[a] w fun e w1=> ∃(v:Value) (σ1:Hv),e= .returned v/\Grow [] σ w σ1 w1/\RSl 2 (REnc q0m) σ1 v (Sp.runs (Sp.cov la) 10000):=by
 refine enter Tryz.func36 rfl rfl rfl ?_
 have hS:=St.start hV
 obtain⟨xa,ca,ea⟩:=ha.shape
 subst ea
 refine Qn ?_
 refine Qx (v:=(.slice none 0 0)) rfl ?_
 refine wpList_nil ?_
 refine Qi ?_
 refine Qn ?_
 refine Qv (v:=(.slice xa la.length ca)) rfl ?_
 refine q8k (args:=[(.slice xa la.length ca),(.slice none 0 0)]) rfl Tryz.call81 (Calls.mono (c_Union _ _ la [] hS.view ha RSl.nil) ?_)
 rintro _ w1 ⟨v1,σ1,rfl,hg1,hrd1⟩
 refine⟨_,rfl,?_⟩
 have hS1:=hS.grow hg1
 obtain⟨xa1,ca1,he1⟩:=hrd1.shape
 subst he1
 refine Qx (v:=(.slice xa1 ((Sp.runs (fun i=>Sp.cov la i||Sp.cov [] i) 10000)).length ca1)) rfl ?_
 refine wpList_nil ?_
 refine Qi ?_
 refine wp_ret ?_
 refine ret1 rfl (show ev _ _ _=(.slice xa1 ((Sp.runs (fun i=>Sp.cov la i||Sp.cov [] i) 10000)).length ca1) from rfl) ?_
 have hE:Sp.runs (Sp.cov la) 10000=(Sp.runs (fun i=>Sp.cov la i||Sp.cov [] i) 10000):=Sp.runs_congr (fun i hi=>by rw[Sp.cov_nil,Bool.or_false])
 exact⟨(.slice xa1 ((Sp.runs (fun i=>Sp.cov la i||Sp.cov [] i) 10000)).length ca1),σ1,rfl,hS1.done,by rw[hE];exact hrd1⟩
theorem c_Size{σ:Hv}{w:World}(a:Value)(la:List (Int×Int))(hV:View σ w)(ha:RSl 2 (REnc q0m) σ a la):
  Calls Tryz.prog 37 #[a] w fun e w1=>e= .returned (.int .i64 ((Sp.cnt (Sp.cov la) 10000:Nat):Int))/\Grow [] σ w σ w1:=by
 refine enter Tryz.func37 rfl rfl rfl ?_
 have hS:=St.start hV
 obtain⟨xa,ca,ea⟩:=ha.shape
 subst ea
 refine Qn ?_
 refine Qx (v:=(.int .i64 (0:Int))) rfl ?_
 refine wpList_nil ?_
 refine Qi ?_
 refine Qn ?_
 refine Qx (v:=(.int .i64 (0:Int))) rfl ?_
 refine wpList_nil ?_
 refine Qi ?_
 refine wp_seq ?_
 refine Qn ?_
 refine Qv (v:=(.slice xa la.length ca)) rfl ?_
 refine q25 (cs:=[(.slice xa la.length ca)]) (e:=51) hS (fun _=>by kernel_rfl) ?_
 intro b1 w1 hS1
 obtain⟨σ1,hS2,hsub1,hfr1⟩:=hS1.freeze (i:=0) rfl rfl rfl
 have hvr1:=Ra (hS1.get (i:=0) rfl) hfr1
 refine q8k (args:=[(.slice (some ⟨b1,0,none⟩) 1 1)]) rfl Tryz.call78 (Calls.mono (c_of _ [la] hS2.view (rsl1 (size:=1) hvr1 rfl ⟨_,rfl,(RSl.menc hsub1 ha)⟩) (by have:=(RSl.len (RSl.menc hsub1 ha));simp;omega)) ?_)
 rintro _ w2 ⟨rfl,hg1⟩
 refine⟨_,rfl,?_⟩
 have hS3:=hS2.grow hg1
 refine Qv (v:=(.int .i64 (0:Int))) rfl ?_
 refine wpList_nil ?_
 refine Qi ?_
 refine wp_block ?_
 refine loop (fun m f z=> ∃(k:Nat) (g:Fr),m=10000 - k/\f=(upd (upd (upd g 3 (.int .i64 ((Sp.cnt (Sp.cov [la].flatten) k:Nat):Int))) 8 (.agg (brow 10000 (Sp.cov [la].flatten)).toArray)) 9 (.int .i64 ((k:Nat):Int)))/\St ⟨w,σ,[]⟩ z σ1 []/\(k<=10000)) (m0:=_) ⟨0,_,rfl,(Q6 rfl (Q6 rfl (Q6 rfl rfl))),hS3,(Nat.zero_le _)⟩ ?_
 rintro _ _ w3 ⟨k,g,rfl,rfl,hS4,hk⟩
 have hcl:=Sp.cnt_le (Sp.cov [la].flatten) k
 refine Qn ?_
 refine w05 (r:=(decide (((k:Nat):Int)<(10000:Int)))) rfl rfl rfl ?_
 refine wpList_nil ?_
 refine Qi ?_
 refine wp_seq ?_
 refine if_d (((k:Nat):Int)<(10000:Int)) rfl (fun ht1=> ?_) (fun ht1=> ?_)
 ·refine wp_skip ?_
  refine Qi ?_
  refine wp_seq ?_
  refine wp_block ?_
  refine Qn ?_
  refine w06 (k:=k) (v:=(.bool (Sp.cov [la].flatten k))) rfl rfl (by omega) (by omega) Tryz.underlying129 Tryz.sizeOf4 Tryz.isAgg4 (by rw[List.getElem?_toArray];exact q7z (by omega)) ?_
  refine Qx (v:=(.bool (Sp.cov [la].flatten k))) rfl ?_
  refine wpList_nil ?_
  refine Qi ?_
  refine Qn ?_
  refine Qv (v:=(.bool (Sp.cov [la].flatten k))) rfl ?_
  refine wpList_nil ?_
  refine Qi ?_
  refine if_b rfl (fun ht2=> ?_) (fun ht2=> ?_)
  ·refine G6 ?_
   refine Qv (v:=(.int .i64 ((Sp.cnt (Sp.cov [la].flatten) k:Nat):Int))) rfl ?_
   refine z1a (r:=((Sp.cnt (Sp.cov [la].flatten) k+1:Nat):Int)) rfl rfl (nw (by omega) (by omega) (by omega)) ?_
   refine Qx (v:=(.int .i64 ((Sp.cnt (Sp.cov [la].flatten) k+1:Nat):Int))) rfl ?_
   refine wpList_nil ?_
   refine j33 ?_
   refine Qi ?_
   refine G6 ?_
   refine z1a (r:=((k+1:Nat):Int)) rfl rfl (nw (by omega) (by omega) (by omega)) ?_
   refine Qv (v:=(.int .i64 ((k+1:Nat):Int))) rfl ?_
   refine wpList_nil ?_
   refine Qi ?_
   have hc:Sp.cnt (Sp.cov [la].flatten) (k+1)=Sp.cnt (Sp.cov [la].flatten) k+1:=by rw[Sp.cnt,ht2];rfl
   exact⟨_,_,rfl,⟨k+1,_,rfl,(Q6 rfl (Q6 rfl (Q6 (congrArg (fun z:Nat=>Value.int .i64 (z:Int)) hc.symm) rfl))),hS4,(by omega)⟩,by omega⟩
  ·refine wp_skip ?_
   refine j33 ?_
   refine Qi ?_
   refine G6 ?_
   refine z1a (r:=((k+1:Nat):Int)) rfl rfl (nw (by omega) (by omega) (by omega)) ?_
   refine Qv (v:=(.int .i64 ((k+1:Nat):Int))) rfl ?_
   refine wpList_nil ?_
   refine Qi ?_
   have hc:Sp.cnt (Sp.cov [la].flatten) (k+1)=Sp.cnt (Sp.cov [la].flatten) k+0:=by rw[Sp.cnt,ht2];rfl
   exact⟨_,_,rfl,⟨k+1,_,rfl,(Q6 rfl (Q6 rfl (Q6 (congrArg (fun z:Nat=>Value.int .i64 (z:Int)) hc.symm) rfl))),hS4,(by omega)⟩,by omega⟩
 ·refine wp_exit ?_
  refine q8l ?_
  refine q8l ?_
  refine z4q ?_
  refine Qi ?_
  refine Qn ?_
  refine Qv (v:=(.int .i64 ((Sp.cnt (Sp.cov [la].flatten) k:Nat):Int))) rfl ?_
  refine Qx (v:=(.int .i64 ((Sp.cnt (Sp.cov [la].flatten) k:Nat):Int))) rfl ?_
  refine wpList_nil ?_
  refine Qi ?_
  refine wp_ret ?_
  refine ret1 rfl (show ev _ _ _=(.int .i64 ((Sp.cnt (Sp.cov [la].flatten) k:Nat):Int)) from rfl) ?_
  obtain rfl:k=10000:=by omega
  exact⟨by rw[Sp.cnt_congr (fun i _=>(Sp.cov_one la i).symm)],hS4.done.forget⟩
theorem c_First{σ:Hv}{w:World}(a:Value)(la:List (Int×Int))(n:Int)(hV:View σ w)(ha:RSl 2 (REnc q0m) σ a la)(hn: -9223372036854775808<=n)(hn2:n<=9223372036854775807):
  Calls Tryz.prog 82 #[a,(.int .i64 n)] w fun e w1=> ∃(v:Value) (σ1:Hv),e= .returned v/\Grow [] σ w σ1 w1/\RSl 2 (REnc q0m) σ1 v (Sp.runs (Sp.firstP (Sp.cov la) n) 10000):=by
 refine enter Tryz.func82 rfl rfl rfl ?_
 have hS:=St.start hV
 obtain⟨xa,ca,ea⟩:=ha.shape
 subst ea
 refine Qn ?_
 refine v79 (cs:=[(.int .i64 n)]) hS rfl rfl ?_
 intro b1 w1 hS1
 refine Qx (v:=(.slice none 0 0)) rfl ?_
 refine wpList_nil ?_
 refine Qi ?_
 refine Qn ?_
 refine Qv (v:=(.slice xa la.length ca)) rfl ?_
 refine q25 (cs:=[(.slice xa la.length ca)]) (e:=51) hS1 (fun _=>by kernel_rfl) ?_
 intro b2 w2 hS2
 obtain⟨σ1,hS3,hsub1,hfr1⟩:=hS2.freeze (i:=0) rfl rfl rfl
 have hvr1:=Ra (hS2.get (i:=0) rfl) hfr1
 refine q8k (args:=[(.slice (some ⟨b2,0,none⟩) 1 1)]) rfl Tryz.call78 (Calls.mono (c_of _ [la] hS3.view (rsl1 (size:=1) hvr1 rfl ⟨_,rfl,(RSl.menc hsub1 ha)⟩) (by have:=(RSl.len (RSl.menc hsub1 ha));simp;omega)) ?_)
 rintro _ w3 ⟨rfl,hg1⟩
 refine⟨_,rfl,?_⟩
 have hS4:=hS3.grow hg1
 refine q38 (cs:=brow 10000 (fun i=>false)) hS4 (q4s Tryz.type129 (q26 j8n j9n) (by omega)) (by simp[Value.cells,q3r]) ?_
 intro b3 w4 hS5
 refine Bs (T:=129) (vs:=brow 10000 (Sp.cov [la].flatten)) (cs':=brow 10000 (Sp.cov [la].flatten)) (ms':=[blk b3 129 (brow 10000 (Sp.cov [la].flatten)),blk b1 3 [(.int .i64 n)]]) (i:=0) hS5 rfl rfl (q5r _) Tryz.sizeOf129 (Z2 _ _) (q5s _ _) rfl (by simp[Z2]) (B7 (by simp[Z2])) rfl ?_
 intro w5 hS6
 refine wpList_nil ?_
 refine Qi ?_
 refine Qn ?_
 refine z2y (la:=[]) (lb:=[(.pointer (some ⟨b3,0,none⟩)),(.pointer (some ⟨b1,0,none⟩))]) rfl rfl ?_
 obtain⟨σ2,hS7,hsub2,hfr2⟩:=hS6.freeze (i:=0) rfl rfl rfl
 have hvr2:=Ra (hS6.get (i:=0) rfl) hfr2
 refine q8k (args:=[(.func (.func 146) #[] #[(.pointer (some ⟨b3,0,none⟩)),(.pointer (some ⟨b1,0,none⟩))])]) rfl Tryz.call79 (Calls.mono (j60 146 [(.pointer (some ⟨b3,0,none⟩)),(.pointer (some ⟨b1,0,none⟩))] (Sp.firstP (Sp.cov [la].flatten) n) (fun k=>blk b1 3 [.int .i64 (Sp.leftN (Sp.cov [la].flatten) n k)]) (some b1) (fun _=>rfl) Tryz.call146 (fun k w1 hk hV1 ho=>v22 _ n k hV1 hvr2 ho ((hS7.off _ (List.mem_of_getElem? (i:=0) rfl)) _ rfl) hk (by omega) (by omega)) hS7.view (hS7.get (i:=0) rfl) (hS7.off _ (List.mem_of_getElem? (i:=0) rfl))) ?_)
 rintro _ w6 ⟨v1,σ3,rfl,hg2,hrd1,ho1⟩
 refine⟨_,rfl,?_⟩
 have hS8:=y1c (o':=blk b1 3 [.int .i64 (Sp.leftN (Sp.cov [la].flatten) n 10000)]) hS7 rfl rfl hg2 ho1.1 (ho1.2 _ rfl)
 refine Qx (v:=v1) rfl ?_
 refine wpList_nil ?_
 refine Qi ?_
 refine wp_ret ?_
 refine ret1 rfl (show ev _ _ _=v1 from rfl) ?_
 have hE:Sp.runs (Sp.firstP (Sp.cov la) n) 10000=(Sp.runs (Sp.firstP (Sp.cov [la].flatten) n) 10000):=Sp.runs_congr (fun i hi=>Sp.firstP_congr (fun j _=>(Sp.cov_one la j).symm))
 exact⟨v1,σ3,rfl,hS8.done,by rw[hE];exact hrd1⟩
end Go.Proofs.YtflilmgifibgoaaGreatDoor
end
noncomputable section
set_option maxRecDepth 100000
open Go Go.RowKit Go.Fl Go.Fl.Lk Go.Fx
namespace Go.En
theorem j61{σ:Hv}{w:World}{g:Nat}{T:C}{n:Nat}{l:List (car T)}(hV:View σ w)(hs:SRep D (fun _=>none) σ (.pointer (some ⟨g,0,none⟩)) (.fap T n l)){i j:Nat}{x:car T}{s:FV Sg}(hx:l[i]? =some x)(hj:(D.shape T x)[j]? =some s)(hz:j<D.size T):
  ∃v,w.cell? ⟨g,i*D.size T+j,none⟩=some v/\RepF D σ v s:=by
 generalize hq:Value.pointer (some (⟨g,0,none⟩:Addr))=q at hs
 cases hs with
 |fap ad cs T' N l' hN h hl hr=>
  cases hq
  have hrow:=hr i x hx
  have hlen:=okP.ok.len T x
  have hjl:j<((cs.drop (i*D.size T)).take (D.size T)).length:=by rw[hrow.1,hlen];exact hz
  obtain⟨v,hv⟩: ∃v,((cs.drop (i*D.size T)).take (D.size T))[j]? =some v:=⟨_,List.getElem?_eq_getElem hjl⟩
  refine⟨v,?_,hrow.2 j v s hv hj⟩
  rw[List.getElem?_take,if_pos hz,List.getElem?_drop] at hv
  have:=hV.cell (h _ v hv)
  rw[Jf,Nat.zero_add] at this
  exact this
theorem v23: ∀c,c<256->w4o[c]? =some ((Go.Lib.firstT c:Nat):Int):=by decide
theorem v85: ∀i,i<16->(j1x[i]?).map (fun a=>(a.lo,a.hi))=some (((Go.Lib.accLo i:Nat):Int),((Go.Lib.accHi i:Nat):Int)):=by decide
theorem tabs{σ:Hv}{w:World}(hV:View σ w)(hG:Glb D σ):Go.Lib.Utf8Tabs (Proofs.Tryz.lays196_ren.g 3) (Proofs.Tryz.lays196_ren.g 4) w:=by
 refine⟨fun c hc=> ?_,fun i hi=> ?_⟩
 ·have h:=hG.known (Proofs.Tryz.lays196_ren.g 3)
  obtain⟨v,h1,h2⟩:=j61 (T:= .u8) (n:=256) (l:=w4o) hV h (i:=c) (j:=0) (s:= .int .u8 ((Go.Lib.firstT c:Nat):Int)) (v23 c hc) rfl (by decide)
  cases h2
  simpa [show D.size C.u8=1 from rfl] using h1
 ·have h:=hG.known (Proofs.Tryz.lays196_ren.g 4)
  have ha:=v85 i hi
  obtain⟨a,e1,e2⟩:=Option.map_eq_some_iff.1 ha
  obtain⟨v,h1,h2⟩:=j61 (T:= .acc) (n:=16) (l:=j1x) hV h (i:=i) (j:=0) (s:= .int .u8 a.lo) e1 rfl (by decide)
  obtain⟨v',h1',h2'⟩:=j61 (T:= .acc) (n:=16) (l:=j1x) hV h (i:=i) (j:=1) (s:= .int .u8 a.hi) e1 rfl (by decide)
  cases h2;cases h2'
  simp only[Prod.mk.injEq] at e2
  rw[e2.1] at h1;rw[e2.2] at h1'
  refine⟨by rw[Nat.mul_comm];simpa [show D.size C.acc=2 from rfl] using h1,by rw[Nat.mul_comm];simpa [show D.size C.acc=2 from rfl] using h1'⟩
theorem w17{w w':World}(h:Below w.heap.size w w'):Keeps [] w w':=⟨h.os,h.tape,h.output,h.size,fun k hk _=>h.block k hk⟩
theorem w5r{σ:Hv}{w w1:World}{args:List (Tr Sg)}{vals:List Value}{K:List (Tr Sg)->List (Tr Sg)->Prop}{rets outs:List (Tr Sg)}{rv:List Value}(hS:St ⟨w,σ,feet []⟩ w σ [])(hK:K rets outs)(hb:Below w.heap.size w w1)(hL:LayL D σ rets rv [])(hT:LayT D σ args outs vals [] []):
  Back D σ w args vals [] K (.returned (retV rv)) w1:=by
 have hk:=w17 hb
 refine⟨rets,outs,rv,σ,[],[],rfl,hK,hL,hT,?_⟩
 refine⟨hk,fun b o hbo=> ?_,Sub.refl _,fun _ _ _=>rfl,by simp,by simp,by simp,by simp⟩
 have h1:=hS.view b o hbo
 have hlt:b<w.heap.size:=by
  rcases Nat.lt_or_ge b w.heap.size with h|h
  ·exact h
  ·rw[Array.getElem?_eq_none h] at h1;cases h1
 rw[hk.block b hlt (by simp)];exact h1
theorem z6k:q70 Proofs.Tryz.prog D 164 (conV ([.v]:LP) ([.str]:LV) ([.bool]:LV) ([.same]:LV) (fun a K=>V1 a.1 (fun q0=>K (q0,()) ((),())))):=by
 intro args K hm w σ vals ins hG hL hS
 obtain⟨a,ha,hm⟩:=Qf hm
 have hargs:=Vh ha
 subst hargs
 obtain⟨s,_⟩:=a
 cases hL with
 |cons hp hr=>
 cases hr
 cases hp with
 |f hf=>
 cases hf
 have hm:s.size<=9223372036854775807/\K [.f (.bool (Go.Lib.validD s.data.toList))] [.same]:=hm
 refine Calls.mono (Go.Proofs.Any.utf8_ValidString Proofs.Tryz.lays196 s w hm.1 (tabs hS.view hG)) ?_
 rintro e w' ⟨rfl,hb⟩
 exact w5r (rv:=[.bool (Go.Lib.validD s.data.toList)]) hS hm.2 hb (.cons (ms:=[]) (.f (.bool _)) .nil) (.skip (a0:=[]) .nil)
theorem q44{σ:Hv}{v:Value}{l:List Spn}(h:RepF D σ v (.sl C.span l)):RSl 2 (REnc q0m) σ v (l.map fun s=>(s.lo,s.hi)):=by
 obtain⟨a,cap,e1,e2,e3,e4⟩:=h.toRSl okP.ok
 have hl:(l.map fun s=>(s.lo,s.hi)).length=l.length:=List.length_map ..
 refine⟨a,cap,by rw[hl];exact e1,by rw[hl];exact e2,by rw[hl];exact e3,fun i x hx=> ?_⟩
 rw[List.getElem?_map] at hx
 obtain⟨y,hy,rfl⟩:=Option.map_eq_some_iff.1 hx
 obtain⟨ad,cs,f1,f2,f3,f4⟩:=e4 i y hy
 refine⟨ad,cs,f1,f2,f3,?_⟩
 obtain⟨u,v,rfl⟩: ∃u v,cs=[u,v]:=by
  match cs,f2 with
  |[u,v],_=>exact⟨u,v,rfl⟩
 have g1:=f4.2 0 u (.int .i64 y.lo) rfl rfl
 have g2:=f4.2 1 v (.int .i64 y.hi) rfl rfl
 cases g1;cases g2
 rfl
theorem j15{σ:Hv}{v:Value}{l:List (Int×Int)}(h:RSl 2 (REnc q0m) σ v l):RepF D σ v (.sl C.span (l.map fun s=>Spn.mk s.1 s.2)):=by
 refine RepF.ofRSl okP.ok ?_
 obtain⟨a,cap,rfl,h1,h2,h3⟩:=h
 refine⟨a,cap,by simp,by simpa using h1,by simpa using h2,fun i x hx=> ?_⟩
 rw[List.getElem?_map] at hx
 obtain⟨y,hy,rfl⟩:=Option.map_eq_some_iff.1 hx
 obtain⟨ad,cs,e1,e2,e3,e4⟩:=h3 i y hy
 have e4:cs=q0m y:=e4
 subst e4
 exact⟨ad,_,e1,rfl,e3,Vy (.int _ _) (Vy (.int _ _) z4x)⟩
theorem j16:q70 Proofs.Tryz.prog D 81 (conV ([.sl C.span,.sl C.span]:LP) ([.sl C.span,.sl C.span]:LV) ([.sl C.span]:LV) ([.same,.same]:LV) (fun a K=>q1d a.1 a.2.1 (fun q0=>K (q0,()) ((),(),())))):=by
 intro args K hm w σ vals ins hG hL hS
 obtain⟨a,ha,hm⟩:=Qf hm
 have hargs:=Vh ha
 subst hargs
 obtain⟨s,t,_⟩:=a
 cases hL with
 | @cons _ _ v1 _ _ _ hp hr=>
 cases hr with
 | @cons _ _ v2 _ _ _ hq hr=>
 cases hr
 cases hp with
 |f hf1=>
 cases hq with
 |f hf2=>
 have hm:K [.f (.sl C.span ((Go.Fl.Sp.runs (fun i=>Go.Fl.Sp.cov (s.map fun s=>(s.lo,s.hi)) i||Go.Fl.Sp.cov (t.map fun s=>(s.lo,s.hi)) i) 10000).map fun s=>Spn.mk s.1 s.2))] [.same,.same]:=hm
 refine Calls.mono (Go.Proofs.YtflilmgifibgoaaGreatDoor.c_Union v1 v2 _ _ hS.view (q44 hf1) (q44 hf2)) ?_
 rintro e w1 ⟨v,σ1,rfl,hg,hr⟩
 exact⟨_,[.same,.same],[v],σ1,[],[],rfl,hm,.cons (ms:=[]) (.f (j15 hr)) .nil,.skip (a0:=[]) (.skip (a0:=[]) .nil),hS.grow hg⟩
theorem j17:q70 Proofs.Tryz.prog D 76 (conV ([.sl C.span,.sl C.span]:LP) ([.sl C.span,.sl C.span]:LV) ([.sl C.span]:LV) ([.same,.same]:LV) (fun a K=>Vn a.1 a.2.1 (fun q0=>K (q0,()) ((),(),())))):=by
 intro args K hm w σ vals ins hG hL hS
 obtain⟨a,ha,hm⟩:=Qf hm
 have hargs:=Vh ha
 subst hargs
 obtain⟨s,t,_⟩:=a
 cases hL with
 | @cons _ _ v1 _ _ _ hp hr=>
 cases hr with
 | @cons _ _ v2 _ _ _ hq hr=>
 cases hr
 cases hp with
 |f hf1=>
 cases hq with
 |f hf2=>
 have hm:K [.f (.sl C.span ((Go.Fl.Sp.runs (fun i=>Go.Fl.Sp.cov (s.map fun s=>(s.lo,s.hi)) i && !Go.Fl.Sp.cov (t.map fun s=>(s.lo,s.hi)) i) 10000).map fun s=>Spn.mk s.1 s.2))] [.same,.same]:=hm
 refine Calls.mono (Go.Proofs.YtflilmgifibgoaaGreatDoor.c_Minus v1 v2 _ _ hS.view (q44 hf1) (q44 hf2)) ?_
 rintro e w1 ⟨v,σ1,rfl,hg,hr⟩
 exact⟨_,[.same,.same],[v],σ1,[],[],rfl,hm,.cons (ms:=[]) (.f (j15 hr)) .nil,.skip (a0:=[]) (.skip (a0:=[]) .nil),hS.grow hg⟩
theorem z9u:q70 Proofs.Tryz.prog D 22 (conV ([.sl C.span,.sl C.span]:LP) ([.sl C.span,.sl C.span]:LV) ([.sl C.span]:LV) ([.same,.same]:LV) (fun a K=>W1 a.1 a.2.1 (fun q0=>K (q0,()) ((),(),())))):=by
 intro args K hm w σ vals ins hG hL hS
 obtain⟨a,ha,hm⟩:=Qf hm
 have hargs:=Vh ha
 subst hargs
 obtain⟨s,t,_⟩:=a
 cases hL with
 | @cons _ _ v1 _ _ _ hp hr=>
 cases hr with
 | @cons _ _ v2 _ _ _ hq hr=>
 cases hr
 cases hp with
 |f hf1=>
 cases hq with
 |f hf2=>
 have hm:K [.f (.sl C.span ((Go.Fl.Sp.runs (fun i=>Go.Fl.Sp.cov (s.map fun s=>(s.lo,s.hi)) i && Go.Fl.Sp.cov (t.map fun s=>(s.lo,s.hi)) i) 10000).map fun s=>Spn.mk s.1 s.2))] [.same,.same]:=hm
 refine Calls.mono (Go.Proofs.YtflilmgifibgoaaGreatDoor.c_Common v1 v2 _ _ hS.view (q44 hf1) (q44 hf2)) ?_
 rintro e w1 ⟨v,σ1,rfl,hg,hr⟩
 exact⟨_,[.same,.same],[v],σ1,[],[],rfl,hm,.cons (ms:=[]) (.f (j15 hr)) .nil,.skip (a0:=[]) (.skip (a0:=[]) .nil),hS.grow hg⟩
theorem z9v:q70 Proofs.Tryz.prog D 36 (conV ([.sl C.span]:LP) ([.sl C.span]:LV) ([.sl C.span]:LV) ([.same]:LV) (fun a K=>Gq a.1 (fun q0=>K (q0,()) ((),())))):=by
 intro args K hm w σ vals ins hG hL hS
 obtain⟨a,ha,hm⟩:=Qf hm
 have hargs:=Vh ha
 subst hargs
 obtain⟨s,_⟩:=a
 cases hL with
 | @cons _ _ v1 _ _ _ hp hr=>
 cases hr
 cases hp with
 |f hf1=>
 have hm:K [.f (.sl C.span ((Go.Fl.Sp.runs (Go.Fl.Sp.cov (s.map fun s=>(s.lo,s.hi))) 10000).map fun s=>Spn.mk s.1 s.2))] [.same]:=hm
 refine Calls.mono (Go.Proofs.YtflilmgifibgoaaGreatDoor.c_Normal v1 _ hS.view (q44 hf1)) ?_
 rintro e w1 ⟨v,σ1,rfl,hg,hr⟩
 exact⟨_,[.same],[v],σ1,[],[],rfl,hm,.cons (ms:=[]) (.f (j15 hr)) .nil,.skip (a0:=[]) .nil,hS.grow hg⟩
theorem j18:q70 Proofs.Tryz.prog D 82 (conV ([.sl C.span,.v]:LP) ([.sl C.span,.int .i64]:LV) ([.sl C.span]:LV) ([.same,.same]:LV) (fun a K=>q1c a.1 a.2.1 (fun q0=>K (q0,()) ((),(),())))):=by
 intro args K hm w σ vals ins hG hL hS
 obtain⟨a,ha,hm⟩:=Qf hm
 have hargs:=Vh ha
 subst hargs
 obtain⟨s,n,_⟩:=a
 cases hL with
 | @cons _ _ v1 _ _ _ hp hr=>
 cases hr with
 | @cons _ _ v2 _ _ _ hq hr=>
 cases hr
 cases hp with
 |f hf1=>
 cases hq with
 |f hf2=>
 cases hf2
 have hm:InI n/\K [.f (.sl C.span ((Go.Fl.Sp.runs (Go.Fl.Sp.firstP (Go.Fl.Sp.cov (s.map fun s=>(s.lo,s.hi))) n) 10000).map fun s=>Spn.mk s.1 s.2))] [.same,.same]:=hm
 obtain⟨hn,hm⟩:=hm
 refine Calls.mono (Go.Proofs.YtflilmgifibgoaaGreatDoor.c_First v1 _ n hS.view (q44 hf1) hn.1 hn.2) ?_
 rintro e w1 ⟨v,σ1,rfl,hg,hr⟩
 exact⟨_,[.same,.same],[v],σ1,[],[],rfl,hm,.cons (ms:=[]) (.f (j15 hr)) .nil,.skip (a0:=[]) (.skip (a0:=[]) .nil),hS.grow hg⟩
theorem j37:q70 Proofs.Tryz.prog D 37 (conV ([.sl C.span]:LP) ([.sl C.span]:LV) ([.int .i64]:LV) ([.same]:LV) (fun a K=>G2 a.1 (fun q0=>K (q0,()) ((),())))):=by
 intro args K hm w σ vals ins hG hL hS
 obtain⟨a,ha,hm⟩:=Qf hm
 have hargs:=Vh ha
 subst hargs
 obtain⟨s,_⟩:=a
 cases hL with
 | @cons _ _ v1 _ _ _ hp hr=>
 cases hr
 cases hp with
 |f hf1=>
 have hm:K [.f (.int .i64 ((Go.Fl.Sp.cnt (Go.Fl.Sp.cov (s.map fun s=>(s.lo,s.hi))) 10000:Nat):Int))] [.same]:=hm
 refine Calls.mono (Go.Proofs.YtflilmgifibgoaaGreatDoor.c_Size v1 _ hS.view (q44 hf1)) ?_
 rintro e w1 ⟨rfl,hg⟩
 exact⟨_,[.same],[.int .i64 _],σ,[],[],rfl,hm,.cons (ms:=[]) (.f (.int _ _)) .nil,.skip (a0:=[]) .nil,hS.grow hg⟩
end Go.En
end
noncomputable section
set_option maxRecDepth 100000
open Go Go.RowKit Go.Fl Go.Fl.Lk Go.Fx
namespace Go.En
def q4d(X:Gn):Con Sg:=conV [.sl C.span] [.sl C.span] [.sl C.span] [.same] fun a K=>X a.1 (fun q0=>K (q0,()) ((),()))
theorem z0x:MT 36 (q4d Gq):=⟨entB (by kernel_rfl),z9v⟩
def q78(X:R6):Con Sg:=conV [.sl C.span] [.sl C.span] [.int .i64] [.same] fun a K=>X a.1 (fun q0=>K (q0,()) ((),()))
theorem z4e:MT 37 (q78 G2):=⟨entB (by kernel_rfl),j37⟩
def q94(X:q0q):Con Sg:=conS [] [.bool] fun _ K=>X (fun q0=>K (q0,()))
theorem j62{Jr:Gn}{Wj:R6}(h:AL [(36,q4d Jr),(37,q78 Wj)]):MT 7 (q94 (q9l Jr Wj)):=mS h []
theorem j63:MT 7 (q94 q4w):=j62 ⟨z0x,z4e,trivial⟩
def w18(X:z73):Con Sg:=conS [.int .i64,.int .i64] [.int .i64] fun a K=>X a.1 a.2.1 (fun q0=>K (q0,()))
theorem w9o:MT 9 (w18 j1z):=mS (l:=[]) trivial []
def w9p(X:j6u):Con Sg:=conV [.sl C.u8,.v] [.sl C.u8,.int .i64] [.ptr 78 [.sl C.u8,.int .i64]] [.same,.same] fun a K=>X a.1 a.2.1 (fun q0 q1=>K ((q0,q1,()),()) ((),(),()))
theorem v6s:MT 8 (w9p j6v):=mP (rk:=[.ptr 78 [.c,.v]]) (l:=[]) trivial [(6,⟨[1,4],[],[],[(.slot 0,.sl C.u8)]⟩)]
def q7i(X:U2):Con Sg:=conS [] [.vec 102 C.decl] fun _ K=>X (fun q0=>K (q0,()))
theorem z1w:MT 38 (q7i Hj):=mS (l:=[]) trivial []
def j64(X:z29):Con Sg:=conV [.ptr 78 [.c,.v]] [.ptr 78 [.sl C.u8,.int .i64]] [.bool] [.ptr 78 [.same,.int .i64]] fun a K=>X a.1.1 a.1.2.1 (fun q0 q1=>K (q0,()) (((),q1,()),()))
theorem w4r:MT 32 (j64 q9m):=mP (rk:=[.v]) (l:=[]) trivial []
def Gh(X:Z3):Con Sg:=conV [.ptr 78 [.c,.v],.v] [.ptr 78 [.sl C.u8,.int .i64],.int .i64] [.int .i64] [.ptr 78 [.same,.int .i64],.same] fun a K=>X a.1.1 a.1.2.1 a.2.1 (fun q0 q1=>K (q0,()) (((),q1,()),(),()))
theorem v24{q5b:z29}(h:AL [(32,j64 q5b)]):MT 33 (Gh (z54 q5b)):=mP (rk:=[.v]) h []
theorem Rm:MT 33 (Gh J0):=v24 ⟨w4r,trivial⟩
def z3p(X:q0r):Con Sg:=conV [.ptr 78 [.c,.v]] [.ptr 78 [.sl C.u8,.int .i64]] [.str] [.ptr 78 [.same,.int .i64]] fun a K=>X a.1.1 a.1.2.1 (fun q0 q1=>K (q0,()) (((),q1,()),()))
theorem v25{Qb:Z3}(h:AL [(33,Gh Qb)]):MT 39 (z3p (j6w Qb)):=mP (rk:=[.v]) h []
theorem j0v:MT 39 (z3p q9n):=v25 ⟨Rm,trivial⟩
def z3q(X:q0s):Con Sg:=conV [.ptr 78 [.c,.v],.v] [.ptr 78 [.sl C.u8,.int .i64],.int .i64] [.int .i64] [.ptr 78 [.same,.int .i64],.same] fun a K=>X a.1.1 a.1.2.1 a.2.1 (fun q0 q1=>K (q0,()) (((),q1,()),(),()))
theorem v26{Qb:Z3}(h:AL [(33,Gh Qb)]):MT 34 (z3q (j0q Qb)):=mP (rk:=[.v]) h []
theorem j0w:MT 34 (z3q q4x):=v26 ⟨Rm,trivial⟩
def j65(X:z3a):Con Sg:=conS [.int .i64,.vec 9 C.str] [.sl C.str] fun a K=>X a.1 a.2.1 (fun q0=>K (q0,()))
theorem w4s:MT 41 (j65 j0r):=mS (l:=[]) trivial []
def j0x(X:q9o):Con Sg:=conV [.ptr 78 [.c,.v]] [.ptr 78 [.sl C.u8,.int .i64]] [.vec 9 C.str] [.ptr 78 [.same,.int .i64]] fun a K=>X a.1.1 a.1.2.1 (fun q0 q1=>K (q0,()) (((),q1,()),()))
theorem v27{Qb:Z3}(h:AL [(33,Gh Qb)]):MT 46 (j0x (j6x Qb)):=mP (rk:=[.own 9 C.str]) h [(9,⟨bl 397,[],[(0,(78,2))],[(.slot 4,.own 9 C.str),sI 5,(.cell 0 1,.int .i64)]⟩),(17,⟨bl 8121,[0],[],[sI 6,(.obj 1,.own 9 C.str)]⟩)]
theorem w4t:MT 46 (j0x z55):=v27 ⟨Rm,trivial⟩
end Go.En
end
noncomputable section
set_option maxRecDepth 100000
open Go Go.RowKit Go.Fl Go.Fl.Lk Go.Fx
namespace Go.En
def w19(X:j10):Con Sg:=conV [.ptr 78 [.c,.v]] [.ptr 78 [.sl C.u8,.int .i64]] [.str] [.ptr 78 [.same,.int .i64]] fun a K=>X a.1.1 a.1.2.1 (fun q0 q1=>K (q0,()) (((),q1,()),()))
theorem v6t{Qb:Z3}(h:AL [(33,Gh Qb)]):MT 105 (w19 (w16 Qb)):=mP (rk:=[.v]) h []
theorem v6u:MT 105 (w19 j6y):=v6t ⟨Rm,trivial⟩
def z6l(X:q5x):Con Sg:=conV [.ptr 78 [.c,.v],.v] [.ptr 78 [.sl C.u8,.int .i64],.int .i64] [.el C.val] [.ptr 78 [.same,.int .i64],.same] fun a K=>X a.1.1 a.1.2.1 a.2.1 (fun q0 q1=>K (q0,()) (((),q1,()),(),()))
theorem w9q{Qb:Z3}{Wt:q0r}(h:AL [(33,Gh Qb),(39,z3p Wt)]):MT 101 (z6l (z56 Qb Wt)):=mP (rk:=[.el C.val]) h []
theorem j9o:MT 101 (z6l q0t):=w9q ⟨Rm,j0v,trivial⟩
def j66(X:j0s):Con Sg:=conV [.ptr 78 [.c,.v]] [.ptr 78 [.sl C.u8,.int .i64]] [.el C.ex] [.ptr 78 [.same,.int .i64]] fun a K=>X a.1.1 a.1.2.1 (fun q0 q1=>K (q0,()) (((),q1,()),()))
theorem v28{Zs:U2}{Qb:Z3}{j8j:j10}{W6:q5x}(h:AL [(38,q7i Zs),(33,Gh Qb),(105,w19 j8j),(101,z6l W6)]):MT 159 (j66 (j6z Zs Qb j8j W6)):=mP (rk:=[.el C.ex]) h [(68,⟨bl 4286840701,[3,2],[(5,(56,5)),(0,(78,2)),(1,(56,5))],[(.cell 5 0,.int .i64),(.cell 5 1,.str),(.cell 5 2,.str),(.cell 5 3,.own 149 C.val),(.cell 5 4,.own 56 C.ex),(.cell 0 1,.int .i64),(.cell 1 0,.int .i64),(.cell 1 1,.str),(.cell 1 2,.str),(.cell 1 3,.own 149 C.val),(.cell 1 4,.own 56 C.ex)]⟩),(60,⟨bl 17163319925,[],[(0,(78,2)),(5,(56,5)),(1,(56,5))],[(.cell 0 1,.int .i64),(.cell 5 0,.int .i64),(.cell 5 1,.str),(.cell 5 2,.str),(.cell 5 3,.own 149 C.val),(.cell 5 4,.own 56 C.ex),(.cell 1 0,.int .i64),(.cell 1 1,.str),(.cell 1 2,.str),(.cell 1 3,.own 149 C.val),(.cell 1 4,.own 56 C.ex)]⟩),(37,⟨bl 1055806024022645,[1],[(5,(56,5)),(0,(78,2))],[sI 7,(.cell 5 3,.own 149 C.val),(.cell 0 1,.int .i64)]⟩)]
theorem v29:MT 159 (j66 z3b):=v28 ⟨z1w,Rm,v6u,j9o,trivial⟩
def j67(X:q4y):Con Sg:=conV [.ptr 78 [.c,.v],.sl C.str,.v] [.ptr 78 [.sl C.u8,.int .i64],.sl C.str,.int .i64] [.el C.ex] [.ptr 78 [.same,.int .i64],.same,.same] fun a K=>X a.1.1 a.1.2.1 a.2.1 a.2.2.1 (fun q0 q1=>K (q0,()) (((),q1,()),(),(),()))
theorem w4u:MT 100 (j67 z57):=by
 show MT _ (conV ([.ptr 78 [.c,.v],.sl C.str,.v]:LP) ([.ptr 78 [.sl C.u8,.int .i64],.sl C.str,.int .i64]:LV) ([.el C.ex]:LV) ([.ptr 78 [.same,.int .i64],.same,.same]:LV) fun a K=>z57 a.1.1 a.1.2.1 a.2.1 a.2.2.1 (fun q0 q1=>K (q0,()) (((),q1,()),(),(),())))
 exact mQ (l:=[(33,Gh J0),(159,j66 z3b)]) (u:=4) (rk:=[.el C.ex]) ⟨Rm,v29,trivial⟩ (by kernel_rfl) [(8,⟨bl 24647,[0,1],[],[sI 7]⟩),(28,⟨bl 3298996281543,[0,1],[],[sB 49]⟩),(37,⟨bl 1148984153929181127,[1],[(0,(78,2)),(4,(56,5))],[sI 11,(.cell 0 1,.int .i64),(.cell 4 0,.int .i64),(.cell 4 1,.str),(.cell 4 2,.str),(.cell 4 3,.own 149 C.val),(.cell 4 4,.own 56 C.ex)]⟩),(46,⟨bl 1152917567256169316295,[0,12,11,4],[(13,(56,5))],[(.cell 13 0,.int .i64),(.cell 13 1,.str),(.cell 13 2,.str),(.cell 13 3,.sl C.val),(.cell 13 4,.sl C.ex)]⟩)] (fun X a K=>j0t J0 z3b (fun list at_ segments levels K=>X ((list,at_,()),segments,levels,()) fun r o=>K r.1 o.1.2.1) a.1.1 a.1.2.1 a.2.1 a.2.2.1 (fun q0 q1=>K (q0,()) (((),q1,()),(),(),()))) (fun _ _ _=>by kernel_rfl) fun a K h X hX=>h (fun list at_ segments levels K=>X ((list,at_,()),segments,levels,()) fun r o=>K r.1 o.1.2.1) fun list at_ segments levels K hs=>hX ((list,at_,()),segments,levels,()) (fun r o=>K r.1 o.1.2.1) hs
def z1x(X:q3s):Con Sg:=conV [.ptr 78 [.c,.v],.ptr 35 [.v,.v,.v,.sl C.decl,.own 97 C.seg,.own 91 C.flag,.own 61 C.layer,.own 58 C.exper]] [.ptr 78 [.sl C.u8,.int .i64],.ptr 35 [.str,.str,.int .i64,.sl C.decl,.vec 97 C.seg,.vec 91 C.flag,.vec 61 C.layer,.vec 58 C.exper]] [] [.ptr 78 [.same,.int .i64],.ptr 35 [.str,.str,.int .i64,.sl C.decl,.vec 97 C.seg,.vec 91 C.flag,.vec 61 C.layer,.vec 58 C.exper]] fun a K=>X a.1.1 a.1.2.1 a.2.1.1 a.2.1.2.1 a.2.1.2.2.1 a.2.1.2.2.2.1 a.2.1.2.2.2.2.1 a.2.1.2.2.2.2.2.1 a.2.1.2.2.2.2.2.2.1 a.2.1.2.2.2.2.2.2.2.1 (fun q0 q1 q2 q3 q4 q5 q6 q7 q8=>K () (((),q0,()),(q1,q2,q3,q4,q5,q6,q7,q8,()),()))
theorem j9p{Qb:Z3}{q1v:z3a}{q3j:q9o}{q3k:q4y}(h:AL [(33,Gh Qb),(41,j65 q1v),(46,j0x q3j),(100,j67 q3k)]):MT 40 (z1x (z1m Qb q1v q3j q3k)):=mP (rk:=[]) h [(5,⟨bl 1427,[3,4,5],[(0,(78,2)),(1,(35,8))],[sI 5,(.cell 0 1,.int .i64),(.cell 1 4,.own 97 C.seg)]⟩),(14,⟨bl 67010035,[11,10,9,1],[(12,(97,9)),(0,(78,2))],[(.cell 12 1,.str),(.cell 0 1,.int .i64)]⟩),(18,⟨bl 67010035,[11,10,9,1],[(12,(97,9)),(0,(78,2))],[(.cell 12 4,.int .i64),(.cell 12 5,.str),(.cell 12 6,.str),(.cell 12 7,.sl C.val),(.cell 12 8,.sl C.ex),(.cell 0 1,.int .i64)]⟩)]
theorem j9q:MT 40 (z1x q7a):=j9p ⟨Rm,w4s,w4t,w4u,trivial⟩
def z1y(X:q0u):Con Sg:=conS [.el C.env] [.vec 9 C.str] fun a K=>X a.1 (fun q0=>K (q0,()))
theorem j19:MT 102 (z1y q0v):=mS (l:=[]) trivial [(7,⟨[0,1,2],[0],[],[(.slot 3,.own 9 C.str),sI 4]⟩)]
def z6m(X:q5y):Con Sg:=conV [.ptr 78 [.c,.v],.v] [.ptr 78 [.sl C.u8,.int .i64],.int .i64] [.vec 173 C.range] [.ptr 78 [.same,.int .i64],.same] fun a K=>X a.1.1 a.1.2.1 a.2.1 (fun q0 q1=>K (q0,()) (((),q1,()),(),()))
theorem w9r{Qb:Z3}{J1:q0s}(h:AL [(33,Gh Qb),(34,z3q J1)]):MT 104 (z6m (j11 Qb J1)):=mP (rk:=[.own 173 C.range]) h [(26,⟨[0,1,4],[],[(0,(78,2))],[(.slot 5,.own 173 C.range),sI 6,sI 7,(.cell 0 1,.int .i64)]⟩),(32,⟨bl 8444249301319923,[0,1],[],[sI 11]⟩),(9,⟨[0,1,4],[],[(0,(78,2))],[(.slot 5,.own 173 C.range),sI 6,sI 7,sI 8,(.cell 0 1,.int .i64)]⟩),(20,⟨bl 2144334835,[0,1],[],[sI 10]⟩)]
theorem j9r:MT 104 (z6m z1n):=w9r ⟨Rm,j0w,trivial⟩
def j2a(X:z1o):Con Sg:=conV [.ptr 78 [.c,.v],.v] [.ptr 78 [.sl C.u8,.int .i64],.int .i64] [.el C.serve] [.ptr 78 [.same,.int .i64],.same] fun a K=>X a.1.1 a.1.2.1 a.2.1 (fun q0 q1=>K (q0,()) (((),q1,()),(),()))
theorem w9s{Qb:Z3}{Wt:q0r}{q1w:q5y}{Zs:U2}(h:AL [(33,Gh Qb),(39,z3p Wt),(104,z6m q1w),(38,q7i Zs)]):MT 47 (j2a (j12 Qb Wt q1w Zs)):=mP (rk:=[.el C.serve]) h []
theorem w9t:MT 47 (j2a z58):=w9s ⟨Rm,j0v,j9r,z1w,trivial⟩
def j9s(X:z59):Con Sg:=conV [] [] [.ptr 219 [.vec 273 C.node,.map C.node C.i64,.bool]] [] fun _ K=>X (fun q0 q1 q2=>K ((q0,q1,q2,()),()) ())
theorem w9u:MT 160 (j9s z6a):=mP (rk:=[.ptr 219 [.own 273 C.node,.map C.node C.i64,.v]]) (l:=[]) trivial []
def q6n(X:Hk):Con Sg:=conS [.int .i64] [.bool] fun a K=>X a.1 (fun q0=>K (q0,()))
theorem q95:MT 204 (q6n Zl):=mS (l:=[]) trivial []
def j9t(X:z6b):Con Sg:=conS [.sl C.str,.sl C.str] [.bool] fun a K=>X a.1 a.2.1 (fun q0=>K (q0,()))
theorem w9v:MT 196 (j9t q8q):=mS (l:=[]) trivial [(9,⟨bl 1987,[],[],[sI 5]⟩)]
def z75(X:q8r):Con Sg:=conS [.el C.val,.el C.val] [.bool] fun a K=>X a.1 a.2.1 (fun q0=>K (q0,()))
theorem w5s{z7e:z6b}(h:AL [(196,j9t z7e)]):MT 182 (z75 (z3c z7e)):=mS h []
theorem w5t:MT 182 (z75 q5j):=w5s ⟨w9v,trivial⟩
end Go.En
end
noncomputable section
set_option maxRecDepth 100000
open Go Go.RowKit Go.Fl Go.Fl.Lk Go.Fx
namespace Go.En
def q6o(X:q0w):Con Sg:=conS [.sl C.val,.sl C.val] [.bool] fun a K=>X a.1 a.2.1 (fun q0=>K (q0,()))
theorem j2b{z3v:q8r}(h:AL [(182,z75 z3v)]):MT 127 (q6o (q0x z3v)):=mS h [(9,⟨bl 1987,[],[],[sI 5]⟩)]
theorem j2c:MT 127 (q6o Z4):=j2b ⟨w5t,trivial⟩
def z6n(X:Vz):Con Sg:=conV [.el C.ex,.el C.ex] [.el C.ex,.el C.ex] [.bool] [.same,.same] fun a K=>X a.1 a.2.1 (fun q0=>K (q0,()) ((),(),()))
theorem j68:MT 125 (z6n J3):=by
 show MT _ (conV ([.el C.ex,.el C.ex]:LP) ([.el C.ex,.el C.ex]:LV) ([.bool]:LV) ([.same,.same]:LV) fun a K=>J3 a.1 a.2.1 (fun q0=>K (q0,()) ((),(),())))
 exact mQ (l:=[(127,q6o Z4)]) (u:=4) (rk:=[.v]) ⟨j2c,trivial⟩ (by kernel_rfl) [(182000009,⟨bl 1987,[],[],[sI 5]⟩)] (fun X a K=>U9 Z4 (fun a b K=>X (a,b,()) fun r _=>K r.1) a.1 a.2.1 (fun q0=>K (q0,()) ((),(),()))) (fun _ _ _=>by kernel_rfl) fun a K h X hX=>h (fun a b K=>X (a,b,()) fun r _=>K r.1) fun a b K hs=>hX (a,b,()) (fun r _=>K r.1) hs
def q96(X:q5z):Con Sg:=conS [.sl C.ex,.el C.ex] [.int .i64] fun a K=>X a.1 a.2.1 (fun q0=>K (q0,()))
theorem w2a{q5c:Vz}(h:AL [(125,z6n q5c)]):MT 213 (q96 (q9p q5c)):=mS h [(5,⟨[0,1,3],[0],[],[sI 5]⟩)]
theorem j2d:MT 213 (q96 Zx):=w2a ⟨j68,trivial⟩
def z4f(X:Va):Con Sg:=conV [.sl C.ex,.el C.ex] [.sl C.ex,.el C.ex] [.sl C.ex] [.same,.same] fun a K=>X a.1 a.2.1 (fun q0=>K (q0,()) ((),(),()))
theorem j38:MT 210 (z4f J2):=by
 show MT _ (conV ([.sl C.ex,.el C.ex]:LP) ([.sl C.ex,.el C.ex]:LV) ([.sl C.ex]:LV) ([.same,.same]:LV) fun a K=>J2 a.1 a.2.1 (fun q0=>K (q0,()) ((),(),())))
 exact mQ (l:=[(213,q96 Zx),(204,q6n Zl)]) (u:=4) (rk:=[.sl C.ex]) ⟨j2d,q95,trivial⟩ (by kernel_rfl) [(6,⟨[1,3,4],[0],[],[(.slot 0,.sl C.ex)]⟩),(9,⟨[1,3,4],[0],[],[(.slot 0,.sl C.ex),sI 5]⟩)] (fun X a K=>Ug Zx Zl (fun l e K=>X (l,e,()) fun r _=>K r.1) a.1 a.2.1 (fun q0=>K (q0,()) ((),(),()))) (fun _ _ _=>by kernel_rfl) fun a K h X hX=>h (fun l e K=>X (l,e,()) fun r _=>K r.1) fun l e K hs=>hX (l,e,()) (fun r _=>K r.1) hs
def q6p(X:Hl):Con Sg:=conS [.sl C.rule] [.sl C.ex] fun a K=>X a.1 (fun q0=>K (q0,()))
theorem j2e{q3m:Va}(h:AL [(210,z4f q3m)]):MT 161 (q6p (q0y q3m)):=mS h [(7,⟨[0,2],[],[],[(.slot 3,.sl C.ex),sI 4]⟩)]
theorem j2f:MT 161 (q6p Um):=j2e ⟨j38,trivial⟩
def q1j(X:Wh):Con Sg:=conV [.ptr 219 [.own 273 C.node,.map C.node C.i64,.v],.v] [.ptr 219 [.vec 273 C.node,.map C.node C.i64,.bool],.int .i64] [.bool] [.ptr 219 [.vec 273 C.node,.map C.node C.i64,.bool],.same] fun a K=>X a.1.1 a.1.2.1 a.1.2.2.1 a.2.1 (fun q0 q1 q2 q3=>K (q0,()) ((q1,q2,q3,()),(),()))
theorem q45:MT 224 (q1j W8):=mP (rk:=[.v]) (l:=[]) trivial []
def z0y(X:Bf):Con Sg:=conV [.ptr 219 [.own 273 C.node,.map C.node C.i64,.v],.v] [.ptr 219 [.vec 273 C.node,.map C.node C.i64,.bool],.int .i64] [.map C.i64 C.bool] [.ptr 219 [.vec 273 C.node,.map C.node C.i64,.bool],.same] fun a K=>X a.1.1 a.1.2.1 a.1.2.2.1 a.2.1 (fun q0 q1 q2 q3=>K (q0,()) ((q1,q2,q3,()),(),()))
theorem z9w:MT 232 (z0y Vr):=mP (rk:=[.map C.i64 C.bool]) (l:=[]) trivial [(7,⟨bl 1843,[0,1,2],[],[(.slot 6,.own 3 C.i64),(.obj 3,.map C.i64 C.bool)]⟩)]
def q2q(X:Un):Con Sg:=conV [.ptr 219 [.own 273 C.node,.map C.node C.i64,.v],.v] [.ptr 219 [.vec 273 C.node,.map C.node C.i64,.bool],.int .i64] [.vec 3 C.i64] [.ptr 219 [.vec 273 C.node,.map C.node C.i64,.bool],.same] fun a K=>X a.1.1 a.1.2.1 a.1.2.2.1 a.2.1 (fun q0 q1 q2 q3=>K (q0,()) ((q1,q2,q3,()),(),()))
theorem z76{Q0:Wh}{Bo:Bf}(h:AL [(224,q1j Q0),(232,z0y Bo)]):MT 226 (q2q (q2f Q0 Bo)):=mP (rk:=[.own 3 C.i64]) h [(13,⟨bl 32563,[5,0,4,2],[],[(.slot 6,.own 3 C.i64),sI 7]⟩)]
theorem z77:MT 226 (q2q Vd):=z76 ⟨q45,z9w,trivial⟩
def W4(X:Zj):Con Sg:=conV [.ptr 219 [.own 273 C.node,.map C.node C.i64,.v],.v] [.ptr 219 [.vec 273 C.node,.map C.node C.i64,.bool],.int .i64] [.bool] [.ptr 219 [.vec 273 C.node,.map C.node C.i64,.bool],.same] fun a K=>X a.1.1 a.1.2.1 a.1.2.2.1 a.2.1 (fun q0 q1 q2 q3=>K (q0,()) ((q1,q2,q3,()),(),()))
theorem z36{Q0:Wh}{Rt:Un}(h:AL [(224,q1j Q0),(226,q2q Rt)]):MT 215 (W4 (R2 Q0 Rt)):=mP (rk:=[.v]) h [(11,⟨bl 16291,[5,0,4,2],[],[sI 6]⟩)]
theorem R5:MT 215 (W4 Zw):=z36 ⟨q45,z77,trivial⟩
def q3g(X:Uh):Con Sg:=conV [.ptr 219 [.own 273 C.node,.map C.node C.i64,.v],.v] [.ptr 219 [.vec 273 C.node,.map C.node C.i64,.bool],.int .i64] [.int .i64] [.ptr 219 [.vec 273 C.node,.map C.node C.i64,.bool],.same] fun a K=>X a.1.1 a.1.2.1 a.1.2.2.1 a.2.1 (fun q0 q1 q2 q3=>K (q0,()) ((q1,q2,q3,()),(),()))
theorem q79:MT 225 (q3g Zo):=mP (rk:=[.v]) (l:=[]) trivial []
def q4e(X:Bg):Con Sg:=conV [.ptr 219 [.own 273 C.node,.map C.node C.i64,.v],.v,.v] [.ptr 219 [.vec 273 C.node,.map C.node C.i64,.bool],.int .i64,.int .i64] [.int .i64,.int .i64] [.ptr 219 [.vec 273 C.node,.map C.node C.i64,.bool],.same,.same] fun a K=>X a.1.1 a.1.2.1 a.1.2.2.1 a.2.1 a.2.2.1 (fun q0 q1 q2 q3 q4=>K (q0,q1,()) ((q2,q3,q4,()),(),(),()))
theorem z9x{Zq:Uh}(h:AL [(225,q3g Zq)]):MT 233 (q4e (q4b Zq)):=mP (rk:=[.v,.v]) h []
theorem z9y:MT 233 (q4e Zk):=z9x ⟨q79,trivial⟩
def q1k(X:Hm):Con Sg:=conV [.ptr 219 [.own 273 C.node,.map C.node C.i64,.v],.v,.v,.v] [.ptr 219 [.vec 273 C.node,.map C.node C.i64,.bool],.int .i64,.int .i64,.int .i64] [.int .i64] [.ptr 219 [.vec 273 C.node,.map C.node C.i64,.bool],.same,.same,.same] fun a K=>X a.1.1 a.1.2.1 a.1.2.2.1 a.2.1 a.2.2.1 a.2.2.2.1 (fun q0 q1 q2 q3=>K (q0,()) ((q1,q2,q3,()),(),(),(),()))
theorem j2g{Q0:Wh}{Zq:Uh}(h:AL [(224,q1j Q0),(225,q3g Zq)]):MT 214 (q1k (q50 Q0 Zq)):=mP (rk:=[.v]) h []
theorem z1z:MT 214 (q1k Qw):=j2g ⟨q45,q79,trivial⟩
end Go.En
end
noncomputable section
set_option maxRecDepth 100000
open Go Go.RowKit Go.Fl Go.Fl.Lk Go.Fx
namespace Go.En
def q85(X:Jv):Con Sg:=conV [.ptr 219 [.own 273 C.node,.map C.node C.i64,.v],.v,.v,.v,.map C.a3 C.i64] [.ptr 219 [.vec 273 C.node,.map C.node C.i64,.bool],.int .i64,.int .i64,.int .i64,.map C.a3 C.i64] [.int .i64] [.ptr 219 [.vec 273 C.node,.map C.node C.i64,.bool],.same,.same,.same,.map C.a3 C.i64] fun a K=>X a.1.1 a.1.2.1 a.1.2.2.1 a.2.1 a.2.2.1 a.2.2.2.1 a.2.2.2.2.1 (fun q0 q1 q2 q3 q4=>K (q0,()) ((q1,q2,q3,()),(),(),(),q4,()))
theorem z78:MT 227 (q85 Zu):=by
 show MT _ (conV ([.ptr 219 [.own 273 C.node,.map C.node C.i64,.v],.v,.v,.v,.map C.a3 C.i64]:LP) ([.ptr 219 [.vec 273 C.node,.map C.node C.i64,.bool],.int .i64,.int .i64,.int .i64,.map C.a3 C.i64]:LV) ([.int .i64]:LV) ([.ptr 219 [.vec 273 C.node,.map C.node C.i64,.bool],.same,.same,.same,.map C.a3 C.i64]:LV) fun a K=>Zu a.1.1 a.1.2.1 a.1.2.2.1 a.2.1 a.2.2.1 a.2.2.2.1 a.2.2.2.2.1 (fun q0 q1 q2 q3 q4=>K (q0,()) ((q1,q2,q3,()),(),(),(),q4,())))
 exact mQ (l:=[(225,q3g Zo),(233,q4e Zk),(214,q1k Qw)]) (u:=4) (rk:=[.v]) ⟨q79,z9y,z1z,trivial⟩ (by kernel_rfl) [(36,⟨bl 4951760157141239551596952607,[3,4],[(0,(219,3))],[sI 23,(.cell 0 0,.own 273 C.node),(.cell 0 2,.bool),(.obj 2,.map C.node C.i64)]⟩)] (fun X a K=>Z8 Zo Zk Qw (fun ns ids full f g h known K=>X ((ns,ids,full,()),f,g,h,known,()) fun r o=>K r.1 o.1.1 o.1.2.1 o.1.2.2.1 o.2.2.2.2.1) a.1.1 a.1.2.1 a.1.2.2.1 a.2.1 a.2.2.1 a.2.2.2.1 a.2.2.2.2.1 (fun q0 q1 q2 q3 q4=>K (q0,()) ((q1,q2,q3,()),(),(),(),q4,()))) (fun _ _ _=>by kernel_rfl) fun a K h X hX=>h (fun ns ids full f g h known K=>X ((ns,ids,full,()),f,g,h,known,()) fun r o=>K r.1 o.1.1 o.1.2.1 o.1.2.2.1 o.2.2.2.2.1) fun ns ids full f g h known K hs=>hX ((ns,ids,full,()),f,g,h,known,()) (fun r o=>K r.1 o.1.1 o.1.2.1 o.1.2.2.1 o.2.2.2.2.1) hs
def Uv(X:Z9):Con Sg:=conV [.ptr 219 [.own 273 C.node,.map C.node C.i64,.v],.v,.v,.v] [.ptr 219 [.vec 273 C.node,.map C.node C.i64,.bool],.int .i64,.int .i64,.int .i64] [.int .i64] [.ptr 219 [.vec 273 C.node,.map C.node C.i64,.bool],.same,.same,.same] fun a K=>X a.1.1 a.1.2.1 a.1.2.2.1 a.2.1 a.2.2.1 a.2.2.2.1 (fun q0 q1 q2 q3=>K (q0,()) ((q1,q2,q3,()),(),(),(),()))
theorem z79{Qp:Zj}{Q0:Wh}{Ru:Jv}(h:AL [(215,W4 Qp),(224,q1j Q0),(227,q85 Ru)]):MT 216 (Uv (q2g Qp Q0 Ru)):=mP (rk:=[.v]) h []
theorem q2r:MT 216 (Uv Jw):=z79 ⟨R5,q45,z78,trivial⟩
def q8a(X:q27):Con Sg:=conV [.ptr 219 [.own 273 C.node,.map C.node C.i64,.v],.v] [.ptr 219 [.vec 273 C.node,.map C.node C.i64,.bool],.int .i64] [.int .i64] [.ptr 219 [.vec 273 C.node,.map C.node C.i64,.bool],.same] fun a K=>X a.1.1 a.1.2.1 a.1.2.2.1 a.2.1 (fun q0 q1 q2 q3=>K (q0,()) ((q1,q2,q3,()),(),()))
theorem j39{Q5:Z9}(h:AL [(216,Uv Q5)]):MT 211 (q8a (q71 Q5)):=mP (rk:=[.v]) h []
theorem j4a:MT 211 (q8a Jh):=j39 ⟨q2r,trivial⟩
def q8b(X:q28):Con Sg:=conV [.ptr 219 [.own 273 C.node,.map C.node C.i64,.v],.v,.v] [.ptr 219 [.vec 273 C.node,.map C.node C.i64,.bool],.int .i64,.int .i64] [.int .i64] [.ptr 219 [.vec 273 C.node,.map C.node C.i64,.bool],.same,.same] fun a K=>X a.1.1 a.1.2.1 a.1.2.2.1 a.2.1 a.2.2.1 (fun q0 q1 q2 q3=>K (q0,()) ((q1,q2,q3,()),(),(),()))
theorem j4b{Qp:Zj}{Q5:Z9}(h:AL [(215,W4 Qp),(216,Uv Q5)]):MT 212 (q8b (q72 Qp Q5)):=mP (rk:=[.v]) h []
theorem j4c:MT 212 (q8b Ji):=j4b ⟨R5,q2r,trivial⟩
def q46(X:Rd):Con Sg:=conV [.ptr 219 [.own 273 C.node,.map C.node C.i64,.v],.v,.v] [.ptr 219 [.vec 273 C.node,.map C.node C.i64,.bool],.int .i64,.int .i64] [.int .i64] [.ptr 219 [.vec 273 C.node,.map C.node C.i64,.bool],.same,.same] fun a K=>X a.1.1 a.1.2.1 a.1.2.2.1 a.2.1 a.2.2.1 (fun q0 q1 q2 q3=>K (q0,()) ((q1,q2,q3,()),(),(),()))
theorem j69{Qp:Zj}{Q5:Z9}(h:AL [(215,W4 Qp),(216,Uv Q5)]):MT 163 (q46 (q9q Qp Q5)):=mP (rk:=[.v]) h []
theorem z6o:MT 163 (q46 Jn):=j69 ⟨R5,q2r,trivial⟩
def z10(X:Wl):Con Sg:=conV [.ptr 219 [.own 273 C.node,.map C.node C.i64,.v],.sl C.ex,.el C.ex] [.ptr 219 [.vec 273 C.node,.map C.node C.i64,.bool],.sl C.ex,.el C.ex] [.int .i64] [.ptr 219 [.vec 273 C.node,.map C.node C.i64,.bool],.same,.same] fun a K=>X a.1.1 a.1.2.1 a.1.2.2.1 a.2.1 a.2.2.1 (fun q0 q1 q2 q3=>K (q0,()) ((q1,q2,q3,()),(),(),()))
theorem j2h:MT 162 (z10 Jj):=by
 show MT _ (conV ([.ptr 219 [.own 273 C.node,.map C.node C.i64,.v],.sl C.ex,.el C.ex]:LP) ([.ptr 219 [.vec 273 C.node,.map C.node C.i64,.bool],.sl C.ex,.el C.ex]:LV) ([.int .i64]:LV) ([.ptr 219 [.vec 273 C.node,.map C.node C.i64,.bool],.same,.same]:LV) fun a K=>Jj a.1.1 a.1.2.1 a.1.2.2.1 a.2.1 a.2.2.1 (fun q0 q1 q2 q3=>K (q0,()) ((q1,q2,q3,()),(),(),())))
 exact mQ (l:=[(211,q8a Jh),(212,q8b Ji),(163,q46 Jn),(213,q96 Zx),(214,q1k Qw)]) (u:=4) (rk:=[.v]) ⟨j4a,j4c,z6o,j2d,z1z,trivial⟩ (by kernel_rfl) [(16,⟨bl 129127,[3,0,1,2],[],[sB 26]⟩),(21,⟨bl 68249843815,[3],[(0,(219,3))],[sI 7,sI 8,(.cell 0 0,.own 273 C.node),(.cell 0 2,.bool),(.obj 2,.map C.node C.i64)]⟩)] (fun X a K=>Vi Jh Ji Jn Zx Qw (fun ns ids full atoms e K=>X ((ns,ids,full,()),atoms,e,()) fun r o=>K r.1 o.1.1 o.1.2.1 o.1.2.2.1) a.1.1 a.1.2.1 a.1.2.2.1 a.2.1 a.2.2.1 (fun q0 q1 q2 q3=>K (q0,()) ((q1,q2,q3,()),(),(),()))) (fun _ _ _=>by kernel_rfl) fun a K h X hX=>h (fun ns ids full atoms e K=>X ((ns,ids,full,()),atoms,e,()) fun r o=>K r.1 o.1.1 o.1.2.1 o.1.2.2.1) fun ns ids full atoms e K hs=>hX ((ns,ids,full,()),atoms,e,()) (fun r o=>K r.1 o.1.1 o.1.2.1 o.1.2.2.1) hs
def Rn(X:We):Con Sg:=conS [.sl C.rule] [.vec 3 C.i64,.int .i64,.bool] fun a K=>X a.1 (fun q0 q1 q2=>K (q0,q1,q2,()))
theorem z8a{z7f:z59}{q1x:Hl}{q1y:Wl}{Rv:Rd}(h:AL [(160,j9s z7f),(161,q6p q1x),(162,z10 q1y),(163,q46 Rv)]):MT 103 (Rn (Re z7f q1x q1y Rv)):=mS h [(13,⟨bl 28769,[],[(0,(219,3))],[sI 7,(.slot 8,.own 3 C.i64),sI 9,(.cell 0 0,.own 273 C.node),(.cell 0 2,.bool),(.obj 2,.map C.node C.i64)]⟩)]
theorem q86:MT 103 (Rn Zv):=z8a ⟨w9u,j2f,j2h,z6o,trivial⟩
def j2i(X:z1p):Con Sg:=conV [.ptr 78 [.c,.v],.v] [.ptr 78 [.sl C.u8,.int .i64],.str] [.el C.layer] [.ptr 78 [.same,.int .i64],.same] fun a K=>X a.1.1 a.1.2.1 a.2.1 (fun q0 q1=>K (q0,()) (((),q1,()),(),()))
theorem w9w{Wt:q0r}{Qb:Z3}{J1:q0s}(h:AL [(39,z3p Wt),(33,Gh Qb),(34,z3q J1)]):MT 43 (j2i (j13 Wt Qb J1)):=mP (rk:=[.el C.layer]) h [(8,⟨bl 130099,[1],[(2,(61,6)),(0,(78,2))],[(.cell 2 1,.str),(.cell 0 1,.int .i64)]⟩),(12,⟨bl 130099,[1],[(2,(61,6)),(0,(78,2))],[(.cell 2 3,.int .i64),(.cell 0 1,.int .i64)]⟩),(17,⟨bl 130099,[1],[(2,(61,6)),(0,(78,2))],[sI 6,sI 7,(.cell 2 5,.own 125 C.cool),(.cell 0 1,.int .i64)]⟩)]
theorem w9x:MT 43 (j2i z6c):=w9w ⟨j0v,Rm,j0w,trivial⟩
def j5p(X:z3d):Con Sg:=conS [.int .i64] [.bool] fun a K=>X a.1 (fun q0=>K (q0,()))
theorem w5u:MT 66 (j5p z3e):=mS (l:=[]) trivial []
def q47(X:V0):Con Sg:=conS [.el C.env,.str] [.int .i64] fun a K=>X a.1 a.2.1 (fun q0=>K (q0,()))
theorem q97:MT 20 (q47 q0z):=mS (l:=[]) trivial [(5,⟨[0,1,2],[0],[],[sI 5]⟩)]
def q6q(X:Uo):Con Sg:=conS [.sl C.cool,.int .i64] [.vec 3 C.i64] fun a K=>X a.1 a.2.1 (fun q0=>K (q0,()))
theorem z11:MT 96 (q6q Vj):=mS (l:=[]) trivial [(7,⟨bl 563,[],[],[sI 6,(.obj 0,.own 3 C.i64)]⟩),(15,⟨bl 15987,[],[],[sI 7,(.obj 0,.own 3 C.i64)]⟩),(21,⟨bl 4243603187,[],[],[sI 8,(.obj 0,.own 3 C.i64)]⟩)]
def q2s(X:Wy):Con Sg:=conS [.sl C.bool] [.vec 75 C.span] fun a K=>X a.1 (fun q0=>K (q0,()))
theorem q6r:MT 84 (q2s Ui):=mS (l:=[]) trivial [(7,⟨[0,2],[],[],[(.slot 3,.own 75 C.span),sI 4]⟩)]
end Go.En
end
noncomputable section
set_option maxRecDepth 100000
open Go Go.RowKit Go.Fl Go.Fl.Lk Go.Fx
namespace Go.En
def z43(X:q51):Con Sg:=conS [.sl C.i64,.int .i64] [.vec 75 C.span] fun a K=>X a.1 a.2.1 (fun q0=>K (q0,()))
theorem w2b{Q7:Wy}(h:AL [(84,q2s Q7)]):MT 129 (z43 (z4y Q7)):=mS h [(7,⟨bl 947,[],[],[sI 6,(.obj 0,.own 4 C.bool)]⟩)]
theorem w2c:MT 129 (z43 q9r):=w2b ⟨q6r,trivial⟩
def q87(X:Gs):Con Sg:=conS [.sl C.span] [.vec 4 C.bool] fun a K=>X a.1 (fun q0=>K (q0,()))
theorem z13:MT 83 (q87 R7):=mS (l:=[]) trivial [(7,⟨bl 77,[],[],[sI 4,(.obj 0,.own 4 C.bool)]⟩),(13,⟨bl 518109,[],[],[sI 5,(.obj 0,.own 4 C.bool)]⟩)]
def z44(X:q52):Con Sg:=conS [.sl C.span,.sl C.span] [.vec 75 C.span] fun a K=>X a.1 a.2.1 (fun q0=>K (q0,()))
theorem w2d{Zn:Gs}{Q7:Wy}(h:AL [(83,q87 Zn),(84,q2s Q7)]):MT 88 (z44 (z4z Zn Q7)):=mS h [(7,⟨bl 3955,[1],[],[sI 7,(.obj 0,.own 4 C.bool)]⟩)]
theorem w2e:MT 88 (z44 q9s):=w2d ⟨z13,q6r,trivial⟩
def z45(X:q53):Con Sg:=conS [.el C.env,.str,.str,.int .i64] [.vec 75 C.span] fun a K=>X a.1 a.2.1 a.2.2.1 a.2.2.2.1 (fun q0=>K (q0,()))
theorem w2f{Zz:V0}{B5:q52}{Jl:Uo}{q23:q51}(h:AL [(20,q47 Zz),(88,z44 B5),(96,q6q Jl),(129,z43 q23)]):MT 95 (z45 (z40 Zz B5 Jl q23)):=mS h [(10,⟨bl 254751,[0],[],[(.slot 10,.own 75 C.span)]⟩),(13,⟨bl 254751,[0],[],[(.slot 10,.own 75 C.span),sI 11]⟩)]
theorem w2g:MT 95 (z45 q9t):=w2f ⟨q97,w2e,z11,w2c,trivial⟩
def q6s(X:Ga):Con Sg:=conS [.sl C.span,.sl C.span] [.vec 75 C.span] fun a K=>X a.1 a.2.1 (fun q0=>K (q0,()))
theorem w2h{Zn:Gs}{Q7:Wy}(h:AL [(83,q87 Zn),(84,q2s Q7)]):MT 24 (q6s (q9u Zn Q7)):=mS h [(7,⟨bl 3955,[1],[],[sI 7,(.obj 0,.own 4 C.bool)]⟩)]
theorem z47:MT 24 (q6s Hn):=w2h ⟨z13,q6r,trivial⟩
def z8b(X:q8s):Con Sg:=conS [.el C.env,.str,.int .i64] [.vec 75 C.span,.int .i64] fun a K=>X a.1 a.2.1 a.2.2.1 (fun q0 q1=>K (q0,q1,()))
theorem w5v{z3w:z3d}{Zz:V0}{z0m:q53}{J8:Ga}(h:AL [(66,j5p z3w),(20,q47 Zz),(95,z45 z0m),(24,q6s J8)]):MT 86 (z8b (z74 z3w Zz z0m J8)):=mS h []
theorem w5w:MT 86 (z8b z3f):=w5v ⟨w5u,q97,w2g,z47,trivial⟩
def z48(X:q54):Con Sg:=conS [.sl C.span,.int .i64] [.vec 75 C.span] fun a K=>X a.1 a.2.1 (fun q0=>K (q0,()))
theorem w2i{Zn:Gs}{Q7:Wy}(h:AL [(83,q87 Zn),(84,q2s Q7)]):MT 48 (z48 (z41 Zn Q7)):=mS h [(7,⟨bl 433,[],[],[sI 1,sI 6,(.obj 0,.own 4 C.bool)]⟩)]
theorem w2j:MT 48 (z48 q9v):=w2i ⟨z13,q6r,trivial⟩
def q7j(X:q00):Con Sg:=conV [.v] [.str] [.bool] [.same] fun a K=>X a.1 (fun q0=>K (q0,()) ((),()))
theorem z6p:MT 164 (q7j V1):=⟨entB (by kernel_rfl),z6k⟩
def Rp(X:Jx):Con Sg:=conS [.str] [.bool] fun a K=>X a.1 (fun q0=>K (q0,()))
theorem w5x{Hb:q00}(h:AL [(164,q7j Hb)]):MT 111 (Rp (z3g Hb)):=mS h [(9,⟨bl 4081,[],[],[sI 3]⟩)]
theorem q2t:MT 111 (Rp Vs):=w5x ⟨z6p,trivial⟩
def j9u(X:z6d):Con Sg:=conS [.str] [.bool] fun a K=>X a.1 (fun q0=>K (q0,()))
theorem w9y:MT 165 (j9u q8t):=mS (l:=[]) trivial [(5,⟨[0],[],[],[sI 3]⟩)]
def z6q(X:q4z):Con Sg:=conS [] [.vec 9 C.str] fun _ K=>X (fun q0=>K (q0,()))
theorem j7a:MT 166 (z6q Rf):=mS (l:=[]) trivial []
def Rq(X:Jo):Con Sg:=conS [.str] [.bool] fun a K=>X a.1 (fun q0=>K (q0,()))
theorem v3a{z7g:z6d}{q5d:q4z}(h:AL [(165,j9u z7g),(166,z6q q5d)]):MT 112 (Rq (j0u z7g q5d)):=mS h [(11,⟨bl 16361,[0],[],[sI 4]⟩)]
theorem q1l:MT 112 (Rq Uk):=v3a ⟨w9y,j7a,trivial⟩
end Go.En
end
noncomputable section
set_option maxRecDepth 100000
open Go Go.RowKit Go.Fl Go.Fl.Lk Go.Fx
namespace Go.En
def q98(X:q01):Con Sg:=conS [.el C.settings] [.int .i64] fun a K=>X a.1 (fun q0=>K (q0,()))
theorem j7b{Qr:Jx}{Qj:Jo}(h:AL [(111,Rp Qr),(112,Rq Qj)]):MT 55 (q98 (q40 Qr Qj)):=mS h []
theorem j7c:MT 55 (q98 V2):=j7b ⟨q2t,q1l,trivial⟩
def q99(X:q02):Con Sg:=conS [.sl C.decl] [.int .i64] fun a K=>X a.1 (fun q0=>K (q0,()))
theorem j7d{Qj:Jo}(h:AL [(112,Rq Qj)]):MT 56 (q99 (q41 Qj)):=mS h [(9,⟨bl 113,[],[],[sI 3]⟩)]
theorem j7e:MT 56 (q99 V3):=j7d ⟨q1l,trivial⟩
def q7k(X:Ho):Con Sg:=conS [.sl C.str] [.int .i64] fun a K=>X a.1 (fun q0=>K (q0,()))
theorem j9v{Qr:Jx}(h:AL [(111,Rp Qr)]):MT 167 (q7k (q7b Qr)):=mS h [(9,⟨bl 113,[],[],[sI 3]⟩)]
theorem z9c:MT 167 (q7k Hp):=j9v ⟨q2t,trivial⟩
def j9w(X:z6e):Con Sg:=conS [.el C.ex] [.bool] fun a K=>X a.1 (fun q0=>K (q0,()))
theorem w9z:MT 168 (j9w q8u):=mS (l:=[]) trivial []
def z49(X:q55):Con Sg:=conS [.el C.ex] [.bool] fun a K=>X a.1 (fun q0=>K (q0,()))
theorem w2k{Z7:Hk}(h:AL [(204,q6n Z7)]):MT 234 (z49 (q9w Z7)):=mS h [(20,⟨bl 16327,[0],[],[sB 3,sB 4]⟩)]
theorem w2l:MT 234 (z49 q2h):=w2k ⟨q95,trivial⟩
def j5q(X:z3h):Con Sg:=conS [.el C.val] [.bool] fun a K=>X a.1 (fun q0=>K (q0,()))
theorem w5y:MT 229 (j5q q5k):=mS (l:=[]) trivial []
def z0z(X:Bh):Con Sg:=conS [.str] [.int .i64,.int .i64] fun a K=>X a.1 (fun q0 q1=>K (q0,q1,()))
theorem z9z:MT 235 (z0z Vt):=mS (l:=[]) trivial [(8,⟨bl 269,[],[],[(.slot 4,.str)]⟩),(11,⟨[0,4,8],[],[],[sI 5]⟩),(31,⟨bl 562915601547569,[],[],[sI 6,sI 7]⟩)]
def z8c(X:q8v):Con Sg:=conS [.str] [.el C.a3,.bool] fun a K=>X a.1 (fun q0 q1=>K (q0,q1,()))
theorem w5z{G1:Bh}(h:AL [(235,z0z G1)]):MT 230 (z8c (z3i G1)):=mS h [(9,⟨[0,2,4],[],[(1,(280,3)),(0,(280,3))],[sI 5,sI 6,(.cell 1 0,.int .i64),(.cell 1 1,.int .i64),(.cell 1 2,.int .i64),(.cell 0 0,.int .i64),(.cell 0 1,.int .i64),(.cell 0 2,.int .i64)]⟩),(15,⟨bl 19669,[1,0],[],[sI 5]⟩)]
theorem w50:MT 230 (z8c q5l):=w5z ⟨z9z,trivial⟩
def j2j(X:z1q):Con Sg:=conS [.sl C.str] [.int .i64] fun a K=>X a.1 (fun q0=>K (q0,()))
theorem w90{Qr:Jx}(h:AL [(111,Rp Qr)]):MT 231 (j2j (z6f Qr)):=mS h [(9,⟨bl 225,[],[],[sI 3]⟩),(19,⟨bl 4073,[],[],[sI 4]⟩)]
theorem w91:MT 231 (j2j q8w):=w90 ⟨q2t,trivial⟩
def z3r(X:q2i):Con Sg:=conS [.el C.val] [.int .i64] fun a K=>X a.1 (fun q0=>K (q0,()))
theorem w51{z3x:z3h}{Qr:Jx}{z3y:q8v}{z7h:z1q}(h:AL [(229,j5q z3x),(111,Rp Qr),(230,z8c z3y),(231,j2j z7h)]):MT 219 (z3r (z3j z3x Qr z3y z7h)):=mS h []
theorem j5r:MT 219 (z3r q2j):=w51 ⟨w5y,q2t,w50,w91,trivial⟩
def j2k(X:z6g):Con Sg:=conS [.el C.ex] [.int .i64] fun a K=>X a.1 (fun q0=>K (q0,()))
theorem w92{z0n:q55}{Z7:Hk}{Qj:Jo}{Wv:q2i}(h:AL [(234,z49 z0n),(204,q6n Z7),(112,Rq Qj),(219,z3r Wv)]):MT 228 (j2k (z6h z0n Z7 Qj Wv)):=mS h [(17,⟨bl 134217667,[0],[],[sI 3]⟩),(31,⟨bl 9412450882139616968651,[0],[],[sI 4]⟩)]
theorem w93:MT 228 (j2k Hq):=w92 ⟨w2l,q95,q1l,j5r,trivial⟩
def j9x(X:q3t):Con Sg:=conV [.el C.ex,.v,.ptr 3 [.v]] [.el C.ex,.int .i64,.ptr 3 [.int .i64]] [.int .i64] [.same,.same,.ptr 3 [.int .i64]] fun a K=>X a.1 a.2.1 a.2.2.1.1 (fun q0 q1=>K (q0,()) ((),(),(q1,()),()))
theorem w94:MT 218 (j9x R8):=by
 show MT _ (conV ([.el C.ex,.v,.ptr 3 [.v]]:LP) ([.el C.ex,.int .i64,.ptr 3 [.int .i64]]:LV) ([.int .i64]:LV) ([.same,.same,.ptr 3 [.int .i64]]:LV) fun a K=>R8 a.1 a.2.1 a.2.2.1.1 (fun q0 q1=>K (q0,()) ((),(),(q1,()),())))
 exact mQ (l:=[(228,j2k Hq)]) (u:=4) (rk:=[.v]) ⟨w93,trivial⟩ (by kernel_rfl) [(21,⟨bl 33553551,[1],[(0,(3,1))],[sI 8,(.cell 0 0,.int .i64)]⟩)] (fun X a K=>q56 Hq (fun e depth n K=>X (e,depth,(n,()),()) fun r o=>K r.1 o.2.2.1.1) a.1 a.2.1 a.2.2.1.1 (fun q0 q1=>K (q0,()) ((),(),(q1,()),()))) (fun _ _ _=>by kernel_rfl) fun _ K h X hX=>h (fun e depth n K=>X (e,depth,(n,()),()) fun r o=>K r.1 o.2.2.1.1) fun e depth n K hs=>hX (e,depth,(n,()),()) (fun r o=>K r.1 o.2.2.1.1) hs
end Go.En
end
noncomputable section
set_option maxRecDepth 100000
open Go Go.RowKit Go.Fl Go.Fl.Lk Go.Fx
namespace Go.En
def z14(X:q03):Con Sg:=conS [.el C.ex] [.int .i64] fun a K=>X a.1 (fun q0=>K (q0,()))
theorem w95{z7i:q3t}(h:AL [(218,j9x z7i)]):MT 169 (z14 (z6i z7i)):=mS h []
theorem j2l:MT 169 (z14 q3u):=w95 ⟨w94,trivial⟩
def z15(X:q3v):Con Sg:=conS [.el C.seg] [.int .i64] fun a K=>X a.1 (fun q0=>K (q0,()))
theorem j9y{Qj:Jo}{Vc:Ho}{z7j:z6e}{Ua:q03}(h:AL [(112,Rq Qj),(167,q7k Vc),(168,j9w z7j),(169,z14 Ua)]):MT 113 (z15 (q7c Qj Vc z7j Ua)):=mS h []
theorem j9z:MT 113 (z15 B9):=j9y ⟨q1l,z9c,w9z,j2l,trivial⟩
def z0a(X:q04):Con Sg:=conS [.sl C.seg] [.int .i64] fun a K=>X a.1 (fun q0=>K (q0,()))
theorem j7f{q7t:q3v}(h:AL [(113,z15 q7t)]):MT 57 (z0a (q42 q7t)):=mS h [(9,⟨bl 225,[],[],[sI 3]⟩)]
theorem j7g:MT 57 (z0a V4):=j7f ⟨j9z,trivial⟩
def q6t(X:Hr):Con Sg:=conS [.el C.flag] [.int .i64] fun a K=>X a.1 (fun q0=>K (q0,()))
theorem j2m{Wv:q2i}(h:AL [(219,z3r Wv)]):MT 170 (q6t (q05 Wv)):=mS h [(15,⟨bl 8139,[0],[],[sI 4]⟩)]
theorem j2n:MT 170 (q6t Up):=j2m ⟨j5r,trivial⟩
def q1m(X:V5):Con Sg:=conS [.sl C.prereq] [.int .i64] fun a K=>X a.1 (fun q0=>K (q0,()))
theorem z6r{Qj:Jo}(h:AL [(112,Rq Qj)]):MT 171 (q1m (G8 Qj)):=mS h [(9,⟨bl 113,[],[],[sI 3]⟩)]
theorem z6s:MT 171 (q1m Wr):=z6r ⟨q1l,trivial⟩
def z16(X:q3w):Con Sg:=conS [.sl C.target,.int .i64] [.int .i64] fun a K=>X a.1 a.2.1 (fun q0=>K (q0,()))
theorem j90{Qj:Jo}{Vc:Ho}(h:AL [(112,Rq Qj),(167,q7k Vc)]):MT 172 (z16 (q7d Qj Vc)):=mS h [(9,⟨bl 899,[],[],[sI 5]⟩)]
theorem j91:MT 172 (z16 q0a):=j90 ⟨q1l,z9c,trivial⟩
def z8d(X:q5m):Con Sg:=conS [.sl C.range,.int .i64] [.int .i64] fun a K=>X a.1 a.2.1 (fun q0=>K (q0,()))
theorem j5s:MT 176 (z8d q2k):=mS (l:=[]) trivial [(11,⟨bl 899,[],[],[sI 5,sI 6]⟩)]
def z3s(X:q2l):Con Sg:=conS [.el C.serve,.int .i64] [.int .i64] fun a K=>X a.1 a.2.1 (fun q0=>K (q0,()))
theorem w52{Qj:Jo}{Qr:Jx}{Rw:q5m}(h:AL [(112,Rq Qj),(111,Rp Qr),(176,z8d Rw)]):MT 174 (z3s (z3k Qj Qr Rw)):=mS h []
theorem j5t:MT 174 (z3s q2m):=w52 ⟨q1l,q2t,j5s,trivial⟩
def z8e(X:q8x):Con Sg:=conS [.sl C.rule,.int .i64] [.int .i64] fun a K=>X a.1 a.2.1 (fun q0=>K (q0,()))
theorem w53{Qj:Jo}{Ua:q03}{Rx:q2l}(h:AL [(112,Rq Qj),(169,z14 Ua),(174,z3s Rx)]):MT 173 (z8e (z3l Qj Ua Rx)):=mS h [(9,⟨bl 3587,[],[],[sI 5]⟩),(19,⟨bl 33357347,[],[],[sI 6]⟩)]
theorem w54:MT 173 (z8e q5n):=w53 ⟨q1l,j2l,j5t,trivial⟩
def j2o(X:z1r):Con Sg:=conS [.el C.flag] [.int .i64] fun a K=>X a.1 (fun q0=>K (q0,()))
theorem w96{Qj:Jo}{q1z:Hr}{Hc:V5}{q7u:q3w}{z3z:q8x}{Rx:q2l}(h:AL [(112,Rq Qj),(170,q6t q1z),(171,q1m Hc),(172,z16 q7u),(173,z8e z3z),(174,z3s Rx)]):MT 114 (j2o (z6j Qj q1z Hc q7u z3z Rx)):=mS h []
theorem w97:MT 114 (j2o q3x):=w96 ⟨q1l,j2n,z6s,j91,w54,j5t,trivial⟩
def z8f(X:q8y):Con Sg:=conS [.sl C.flag] [.int .i64] fun a K=>X a.1 (fun q0=>K (q0,()))
theorem w55{z7k:z1r}(h:AL [(114,j2o z7k)]):MT 58 (z8f (z3m z7k)):=mS h [(9,⟨bl 225,[],[],[sI 3]⟩)]
theorem w56:MT 58 (z8f q5o):=w55 ⟨w97,trivial⟩
def z8g(X:q8z):Con Sg:=conS [.el C.layer] [.int .i64] fun a K=>X a.1 (fun q0=>K (q0,()))
theorem w57{Qj:Jo}{Qr:Jx}(h:AL [(112,Rq Qj),(111,Rp Qr)]):MT 115 (z8g (q80 Qj Qr)):=mS h [(21,⟨bl 2199023255523,[0],[],[sI 3]⟩)]
theorem w58:MT 115 (z8g Rg):=w57 ⟨q1l,q2t,trivial⟩
end Go.En
end
noncomputable section
set_option maxRecDepth 100000
open Go Go.RowKit Go.Fl Go.Fl.Lk Go.Fx
namespace Go.En
def z5a(X:q57):Con Sg:=conS [.sl C.layer] [.int .i64] fun a K=>X a.1 (fun q0=>K (q0,()))
theorem w2m{z30:q8z}(h:AL [(115,z8g z30)]):MT 59 (z5a (q58 z30)):=mS h [(9,⟨bl 225,[],[],[sI 3]⟩)]
theorem w2n:MT 59 (z5a Wz):=w2m ⟨w58,trivial⟩
def j5u(X:z3n):Con Sg:=conS [.sl C.span] [.int .i64] fun a K=>X a.1 (fun q0=>K (q0,()))
theorem w59:MT 175 (j5u q5p):=mS (l:=[]) trivial [(9,⟨bl 113,[],[],[sI 3]⟩)]
def q6u(X:Hs):Con Sg:=conS [.el C.exper] [.int .i64] fun a K=>X a.1 (fun q0=>K (q0,()))
theorem j2p{Qj:Jo}{Qr:Jx}{z31:z3n}{Rw:q5m}{Ua:q03}(h:AL [(112,Rq Qj),(111,Rp Qr),(175,j5u z31),(176,z8d Rw),(169,z14 Ua)]):MT 116 (q6u (Ht Qj Qr z31 Rw Ua)):=mS h []
theorem j2q:MT 116 (q6u Jk):=j2p ⟨q1l,q2t,w59,j5s,j2l,trivial⟩
def q4f(X:Gt):Con Sg:=conS [.sl C.exper] [.int .i64] fun a K=>X a.1 (fun q0=>K (q0,()))
theorem z90{q10:Hs}(h:AL [(116,q6u q10)]):MT 60 (q4f (Bi q10)):=mS h [(9,⟨bl 225,[],[],[sI 3]⟩)]
theorem z91:MT 60 (q4f Vu):=z90 ⟨j2q,trivial⟩
def q4g(X:Gu):Con Sg:=conS [.el C.env] [.int .i64] fun a K=>X a.1 (fun q0=>K (q0,()))
theorem z92{q5e:q01}{q5f:q02}{q5g:q04}{z32:q8y}{z0o:q57}{Bp:Gt}(h:AL [(55,q98 q5e),(56,q99 q5f),(57,z0a q5g),(58,z8f z32),(59,z5a z0o),(60,q4f Bp)]):MT 14 (q4g (Bj q5e q5f q5g z32 z0o Bp)):=mS h []
theorem z93:MT 14 (q4g Vv):=z92 ⟨j7c,j7e,j7g,w56,w2n,z91,trivial⟩
def z3t(X:q0b):Con Sg:=conS [.sl C.seg] [.vec 9 C.str] fun a K=>X a.1 (fun q0=>K (q0,()))
theorem z8h:MT 151 (z3t q81):=mS (l:=[]) trivial [(7,⟨[0,2],[],[],[(.slot 3,.own 9 C.str),sI 4]⟩)]
def j0y(X:q9x):Con Sg:=conS [.sl C.str,.str] [.bool] fun a K=>X a.1 a.2.1 (fun q0=>K (q0,()))
theorem j7h:MT 203 (j0y Rh):=mS (l:=[]) trivial [(5,⟨[0,1],[],[],[sI 5]⟩)]
def j2r(X:z1s):Con Sg:=conS [.sl C.decl,.str,.str] [.int .i64] fun a K=>X a.1 a.2.1 a.2.2.1 (fun q0=>K (q0,()))
theorem j92:MT 205 (j2r Uq):=mS (l:=[]) trivial [(5,⟨[0,1,2],[],[],[sI 7]⟩)]
def j93(X:j14):Con Sg:=conS [.int .i64,.el C.ex] [.bool] fun a K=>X a.1 a.2.1 (fun q0=>K (q0,()))
theorem w98:MT 206 (j93 Gv):=mS (l:=[]) trivial [(11,⟨bl 8075,[0],[],[sI 5]⟩),(36,⟨bl 8795019288539,[0],[],[sB 46]⟩)]
def z6t(X:Gw):Con Sg:=conV [.sl C.decl,.sl C.str,.el C.ex] [.sl C.decl,.sl C.str,.el C.ex] [.int .i64] [.same,.same,.same] fun a K=>X a.1 a.2.1 a.2.2.1 (fun q0=>K (q0,()) ((),(),(),()))
theorem j2s:MT 152 (z6t V6):=by
 show MT _ (conV ([.sl C.decl,.sl C.str,.el C.ex]:LP) ([.sl C.decl,.sl C.str,.el C.ex]:LV) ([.int .i64]:LV) ([.same,.same,.same]:LV) fun a K=>V6 a.1 a.2.1 a.2.2.1 (fun q0=>K (q0,()) ((),(),(),())))
 exact mQ (l:=[(203,j0y Rh),(204,q6n Zl),(205,j2r Uq),(206,j93 Gv)]) (u:=4) (rk:=[.v]) ⟨j7h,q95,j92,w98,trivial⟩ (by kernel_rfl) [(18,⟨bl 1047591,[0],[],[]⟩),(21,⟨bl 1047591,[0],[],[sI 8]⟩)] (fun X a K=>q59 Rh Zl Uq Gv (fun l segments e K=>X (l,segments,e,()) fun r _=>K r.1) a.1 a.2.1 a.2.2.1 (fun q0=>K (q0,()) ((),(),(),()))) (fun _ _ _=>by kernel_rfl) fun a K h X hX=>h (fun l segments e K=>X (l,segments,e,()) fun r _=>K r.1) fun l segments e K hs=>hX (l,segments,e,()) (fun r _=>K r.1) hs
def j0z(X:q9y):Con Sg:=conS [.sl C.str,.str] [.sl C.str] fun a K=>X a.1 a.2.1 (fun q0=>K (q0,()))
theorem j7i:MT 222 (j0z Ri):=mS (l:=[]) trivial [(5,⟨[0,1,4],[],[],[sI 5]⟩)]
def z9d(X:U3):Con Sg:=conV [.sl C.str,.el C.ex] [.sl C.str,.el C.ex] [.sl C.str] [.same,.same] fun a K=>X a.1 a.2.1 (fun q0=>K (q0,()) ((),(),()))
theorem j94:MT 223 (z9d Vb):=by
 show MT _ (conV ([.sl C.str,.el C.ex]:LP) ([.sl C.str,.el C.ex]:LV) ([.sl C.str]:LV) ([.same,.same]:LV) fun a K=>Vb a.1 a.2.1 (fun q0=>K (q0,()) ((),(),())))
 exact mQ (l:=[(222,j0z Ri)]) (u:=4) (rk:=[.sl C.str]) ⟨j7i,trivial⟩ (by kernel_rfl) [(6,⟨[1,3,4],[0],[],[(.slot 0,.sl C.str)]⟩),(9,⟨[1,3,4],[0],[],[(.slot 0,.sl C.str),sI 5]⟩)] (fun X a K=>Hu Ri (fun l e K=>X (l,e,()) fun r _=>K r.1) a.1 a.2.1 (fun q0=>K (q0,()) ((),(),()))) (fun _ _ _=>by kernel_rfl) fun _ K h X hX=>h (fun l e K=>X (l,e,()) fun r _=>K r.1) fun l e K hs=>hX (l,e,()) (fun r _=>K r.1) hs
end Go.En
end
noncomputable section
set_option maxRecDepth 100000
open Go Go.RowKit Go.Fl Go.Fl.Lk Go.Fx
namespace Go.En
def z17(X:q3y):Con Sg:=conS [.el C.ex] [.sl C.str] fun a K=>X a.1 (fun q0=>K (q0,()))
theorem j95{q7v:U3}(h:AL [(223,z9d q7v)]):MT 208 (z17 (q7e q7v)):=mS h []
theorem j96:MT 208 (z17 q0c):=j95 ⟨j94,trivial⟩
def z5b(X:q6a):Con Sg:=conS [.sl C.seg] [.vec 254 C.edge] fun a K=>X a.1 (fun q0=>K (q0,()))
theorem w2o{q7w:q3y}(h:AL [(208,z17 q7w)]):MT 154 (z5b (q9z q7w)):=mS h [(7,⟨[0,2],[],[],[(.slot 3,.own 254 C.edge),sI 4]⟩),(15,⟨bl 518069,[],[],[(.slot 3,.own 254 C.edge),sI 6]⟩)]
theorem w2p:MT 154 (z5b Vk):=w2o ⟨j96,trivial⟩
def z8i(X:q82):Con Sg:=conS [.sl C.edge,.str] [.sl C.str] fun a K=>X a.1 a.2.1 (fun q0=>K (q0,()))
theorem w6a{q11:q9x}{q12:q9y}(h:AL [(203,j0y q11),(222,j0z q12)]):MT 221 (z8i (q83 q11 q12)):=mS h [(7,⟨bl 1555,[],[],[(.slot 5,.sl C.str),(.slot 6,.sl C.str)]⟩),(15,⟨bl 522899,[],[],[(.slot 5,.sl C.str),(.slot 6,.sl C.str),sI 8]⟩)]
theorem w6b:MT 221 (z8i q0d):=w6a ⟨j7h,j7i,trivial⟩
def z5c(X:q6b):Con Sg:=conS [.sl C.str,.sl C.edge] [.sl C.str] fun a K=>X a.1 a.2.1 (fun q0=>K (q0,()))
theorem w2q{z33:q82}{q11:q9x}{q12:q9y}(h:AL [(221,z8i z33),(203,j0y q11),(222,j0z q12)]):MT 207 (z5c (q6c z33 q11 q12)):=mS h [(7,⟨[0,1,4],[],[],[(.slot 5,.sl C.str),sI 6]⟩)]
theorem w2r:MT 207 (z5c Bv):=w2q ⟨w6b,j7h,j7i,trivial⟩
def z5d(X:q6d):Con Sg:=conS [.sl C.str,.sl C.edge] [.str,.bool] fun a K=>X a.1 a.2.1 (fun q0 q1=>K (q0,q1,()))
theorem w2s{z0p:q6b}(h:AL [(207,z5c z0p)]):MT 153 (z5d (q6e z0p)):=mS h []
theorem w2t:MT 153 (z5d Z5):=w2s ⟨w2r,trivial⟩
def z18(X:q0e):Con Sg:=conS [.el C.env,.str] [.int .i64] fun a K=>X a.1 a.2.1 (fun q0=>K (q0,()))
theorem z9e:MT 126 (z18 q7f):=mS (l:=[]) trivial [(5,⟨[0,1,2],[0],[],[sI 5]⟩)]
def z8j(X:q84):Con Sg:=conS [.sl C.decl,.el C.serve] [.int .i64] fun a K=>X a.1 a.2.1 (fun q0=>K (q0,()))
theorem w6c{q65:z1s}(h:AL [(205,j2r q65)]):MT 209 (z8j (z3o q65)):=mS h []
theorem w6d:MT 209 (z8j q0f):=w6c ⟨j92,trivial⟩
def q6v(X:Hw):Con Sg:=conS [.el C.env,.el C.flag] [.int .i64] fun a K=>X a.1 a.2.1 (fun q0=>K (q0,()))
theorem j2t{Ww:q0b}{Ub:q0e}{Uc:Gw}{q9b:q84}{Ja:We}(h:AL [(151,z3t Ww),(126,z18 Ub),(152,z6t Uc),(209,z8j q9b),(103,Rn Ja)]):MT 155 (q6v (q06 Ww Ub Uc q9b Ja)):=mS h [(7,⟨bl 229423,[1,0],[],[sI 6,(.obj 2,.own 9 C.str)]⟩),(23,⟨bl 8355951,[1,0],[],[sI 8,(.obj 2,.own 9 C.str)]⟩)]
theorem j2u:MT 155 (q6v Ur):=j2t ⟨z8h,z9e,j2s,w6d,q86,trivial⟩
def z4g(X:q29):Con Sg:=conS [.el C.env] [.vec 9 C.str] fun a K=>X a.1 (fun q0=>K (q0,()))
theorem j4d:MT 156 (z4g q73):=mS (l:=[]) trivial [(7,⟨[0,1,2],[0],[],[(.slot 3,.own 9 C.str),sI 4]⟩)]
def z19(X:q07):Con Sg:=conS [.el C.env] [.vec 254 C.edge] fun a K=>X a.1 (fun q0=>K (q0,()))
theorem j2v:MT 157 (z19 q08):=mS (l:=[]) trivial [(7,⟨[0,1,2],[0],[],[(.slot 3,.own 254 C.edge),sI 4]⟩),(13,⟨bl 2007,[],[],[(.slot 3,.own 254 C.edge),sI 5]⟩)]
def z2a(X:q3z):Con Sg:=conS [.sl C.span,.sl C.span] [.vec 75 C.span] fun a K=>X a.1 a.2.1 (fun q0=>K (q0,()))
theorem j97{Zn:Gs}{Q7:Wy}(h:AL [(83,q87 Zn),(84,q2s Q7)]):MT 25 (z2a (q7g Zn Q7)):=mS h [(7,⟨bl 3955,[1],[],[sI 7,(.obj 0,.own 4 C.bool)]⟩)]
theorem j98:MT 25 (z2a q0g):=j97 ⟨z13,q6r,trivial⟩
def H5(X:Wm):Con Sg:=conS [.el C.env,.int .i64] [.int .i64] fun a K=>X a.1 a.2.1 (fun q0=>K (q0,()))
theorem z2b{Zz:V0}{Ub:q0e}{Ww:q0b}{Uc:Gw}{q7x:q3z}(h:AL [(20,q47 Zz),(126,z18 Ub),(151,z3t Ww),(152,z6t Uc),(25,z2a q7x)]):MT 158 (H5 (V7 Zz Ub Ww Uc q7x)):=mS h [(13,⟨bl 17179836647,[1,0],[],[sI 8]⟩),(35,⟨bl 151078797935433964553191,[1,0],[],[(.slot 10,.own 75 C.span),sI 11,(.obj 4,.own 9 C.str)]⟩),(51,⟨bl 159723976762087930960904772882407,[1,0],[],[sI 13,(.obj 9,.own 75 C.span),(.obj 6,.own 75 C.span),(.obj 4,.own 9 C.str)]⟩)]
theorem z2c:MT 158 (H5 Jy):=z2b ⟨q97,z9e,z8h,j2s,j98,trivial⟩
end Go.En
end
