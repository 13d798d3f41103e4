/- TrafficActs This is part 4 of 10. Conditions: those in the statements. -/
import Derived.Test.YtflilmgifibgoaaGreatDoorProg
import Derived.Test.YtflilmgifibgoaaGreatDoorAct3
import Derived.Lib.ValidU
import Derived.KernelRfl
import Derived.Conc.MuLone
import Derived.Shelf.Slices.Equal
import Derived.Ground.Names2Prog
import Derived.Shelf.Slices.Clone
import Derived.Shelf.Slices.Empties2
import Derived.Ground.SlgnProg
import Derived.Shelf.SlicesE.Clone
import Derived.Ground.NamesProg
import Derived.Shelf.Unicode.ValidAny
import Derived.Shelf.SlIter.Sorted
import Derived.Ground.GgzProg
noncomputable section
set_option maxRecDepth 100000
open Go Go.RowKit Go.Fl Go.Fl.Lk Go.Fx
namespace Go.En
abbrev Gb:Type:=List (Spn)->(List (Spn)->Prop)->Prop
def Gc(l:List (Spn))(K:List (Spn)->Prop):Prop:=K ((Go.Fl.Sp.runs (Go.Fl.Sp.cov (l.map fun s=>(s.lo,s.hi))) 10000).map fun s=>Spn.mk s.1 s.2)
abbrev Rz:Type:=List (Spn)->(Int->Prop)->Prop
def Gj(l:List (Spn))(K:Int->Prop):Prop:=K ((Go.Fl.Sp.cnt (Go.Fl.Sp.cov (l.map fun s=>(s.lo,s.hi))) 10000:Nat):Int)
abbrev q0p:Type:=(Bool->Prop)->Prop
def q98(Jd:Gb)(J1:Rz):q0p:=fun K=>Jd [Spn.mk (5:Int) (9:Int),Spn.mk (0:Int) (5:Int),Spn.mk (7:Int) (7:Int)] fun Qa=>Fits Qa->Cnd ((↑Qa.length:Int)=1) (((0:Int)<=(0:Int)/\(0:Int)<(↑Qa.length:Int))/\ ∀y2,Qa[Int.toNat (0:Int)]? =some y2->Cnd (y2.1=0/\y2.2=9) (J1 Qa fun Qw=>K (decide (Qw=9))) (K false)) (K false)
def q42:q0p:=q98 Gc Gj
abbrev z88:Type:=Int->Int->(Int->Prop)->Prop
def j3e:z88:=fun x n K=>n≠(0:Int)/\Cnd (x.tmod n<0) (InI (x.tmod n+n)/\K (x.tmod n+n)) (K (x.tmod n))
abbrev j7p:Type:=List (Int)->Int->(List (Int)->Int->Prop)->Prop
def j7q:j7p:=fun list_ most K=>Jn1 (fun Qa=>K Qa (0:Int)) fun j2h=>Fits list_->Cnd (most<(↑list_.length:Int)) (((0:Int)<=(0:Int)/\(0:Int)<=most/\most<=(↑list_.length:Int))/\j2h (List.drop (Int.toNat (0:Int)) (List.take most.toNat list_))) (j2h list_)
abbrev Ur:Type:=(List (Decl)->Prop)->Prop
def G5:Ur:=fun K=>K [Decl.mk (B8 [100,101,118,105,99,101]) (B8 [99,111,114,101,115]) (2:Int),Decl.mk (B8 [100,101,118,105,99,101]) (B8 [111,115]) (3:Int),Decl.mk (B8 [117,115,101,114]) (B8 [97,103,101]) (2:Int),Decl.mk (B8 [117,115,101,114]) (B8 [97,112,112]) (4:Int),Decl.mk (B8 [117,115,101,114]) (B8 [98,101,116,97]) (1:Int),Decl.mk (B8 [117,115,101,114]) (B8 [99,111,117,110,116,114,121]) (3:Int),Decl.mk (B8 [117,115,101,114]) (B8 [112,108,97,110]) (3:Int),Decl.mk (B8 [117,115,101,114]) (B8 [116,97,103,115]) (5:Int)]
abbrev j2a:Type:=List (Int)->Int->(Bool->Int->Prop)->Prop
def j7r:j2a:=fun list at_ K=>Fits list->K (decide (at_<(↑list.length:Int))) at_
abbrev Zu:Type:=List (Int)->Int->Int->(Int->Int->Prop)->Prop
def j7s(j2i:j2a):Zu:=fun list at_ n K=>j2i list at_ fun Qa Q8=>Cnd (Qa=true) (InI (Q8+1)/\InI (Q8+1 - (1:Int))/\((0:Int)<=Q8+1 - (1:Int)/\Q8+1 - (1:Int)<(↑list.length:Int))/\ ∀y1,list[(Q8+1 - (1:Int)).toNat]? =some y1->InI y1/\n≠(0:Int)/\K (y1.tmod n) (Q8+1)) (K (0:Int) Q8)
def Zp:Zu:=j7s j7r
abbrev H0:Type:=List (Int)->Int->(ByteArray->Int->Prop)->Prop
def j7t(Qb:Zu):H0:=fun list at_ K=>Qb list at_ (11:Int) fun Qa Q8=>((0:Int)<=Qa/\Qa<(↑(11:Nat):Int))/\ ∀y1,z2f[Qa.toNat]? =some y1->K y1 Q8
def q7n:H0:=j7t Zp
abbrev q0q:Type:=List (Int)->Int->Int->(Int->Int->Prop)->Prop
def j7u(Qb:Zu):q0q:=fun list at_ n K=>Qb list at_ (256:Int) fun Qa Q8=>InI ((256:Int)*Qa)/\Qb list Q8 (256:Int) fun Qh Zn=>InI ((256:Int)*Qa+Qh)/\n≠(0:Int)/\K (((256:Int)*Qa+Qh).tmod n) Zn
def q99:q0q:=j7u Zp
abbrev z33:Type:=Int->List (ByteArray)->(List (ByteArray)->Prop)->Prop
def j2b:z33:=fun n l K=>((0:Int)<=n/\n<=(↑l.length:Int))/\K (List.take n.toNat l)
abbrev q43:Type:=List (Int)->Int->(List (ByteArray)->Int->Prop)->Prop
def j7v(Qb:Zu):q43:=fun list at_ K=>Qb list at_ (10:Int) fun Qa Q8=>Lp3 (fun Qh Zn j47 w7f=>Qb list j47 (4:Int) fun Ql Zx=>Cnd (Zn<Ql) (InI (Qa+Zn)/\(10:Int)≠(0:Int)/\InI ((48:Int)+(Qa+Zn).tmod (10:Int))/\(↑((B8 [107]).size+(Go.Utf8.encode (Go.IntKind.i32.wrap ((48:Int)+(Qa+Zn).tmod (10:Int)))).size):Int)<=(9223372036854775807:Int)/\Sml (Qh++[B8 [107]++Go.Utf8.encode (Go.IntKind.i32.wrap ((48:Int)+(Qa+Zn).tmod (10:Int)))]).length/\InI (Zn+1)/\w7f (Qh++[B8 [107]++Go.Utf8.encode (Go.IntKind.i32.wrap ((48:Int)+(Qa+Zn).tmod (10:Int)))]) (Zn+1) Zx) (Lp2 (fun Qn Wx j2j=>Fits Wx->CAt Wx Qn (fun y5=>InI (Qn - 1)/\((0:Int)<=Qn - 1/\Qn - 1<(↑Wx.length:Int))/\ ∀y7,Wx[(Qn - 1).toNat]? =some y7->Cnd (Lk.blt y7 y5) (InI (Qn+1)/\j2j (Qn+1) Wx) (((0:Int)<=Qn/\Qn<=(↑Wx.length:Int))/\K (List.take Qn.toNat Wx) Zx)) (K Wx Zx)) (1:Int) Qh)) [] (0:Int) Q8
def z0a:q43:=j7v Zp
abbrev j3f:Type:=List (Int)->Int->(ByteArray->Int->Prop)->Prop
def w2p(Qb:Zu):j3f:=fun list at_ K=>Qb list at_ (10:Int) fun Qa Q8=>InI ((48:Int)+Qa)/\(↑((B8 [107]).size+(Go.Utf8.encode (Go.IntKind.i32.wrap ((48:Int)+Qa))).size):Int)<=(9223372036854775807:Int)/\K (B8 [107]++Go.Utf8.encode (Go.IntKind.i32.wrap ((48:Int)+Qa))) Q8
def j7w:j3f:=w2p Zp
abbrev q0r:Type:=List (Int)->Int->Int->(Val->Int->Prop)->Prop
def z7a(Qb:Zu)(Je:H0):q0r:=fun list at_ kind K=>Cnd (kind=1) (Qb list at_ (2:Int) fun Qa Q8=>K (Val.mk kind Qa (B8 []) []) Q8) (Cnd (kind=2) ([(0:Int),(1:Int),(17:Int),(18:Int),(19:Int),(-5:Int),(64:Int),(1099511627776:Int),(-1099511627776:Int)].length<=(9223372036854775807:Nat)->Qb list at_ (↑[(0:Int),(1:Int),(17:Int),(18:Int),(19:Int),(-5:Int),(64:Int),(1099511627776:Int),(-1099511627776:Int)].length:Int) fun Qh Zn=>((0:Int)<=Qh/\Qh<(↑[(0:Int),(1:Int),(17:Int),(18:Int),(19:Int),(-5:Int),(64:Int),(1099511627776:Int),(-1099511627776:Int)].length:Int))/\ ∀y2,[(0:Int),(1:Int),(17:Int),(18:Int),(19:Int),(-5:Int),(64:Int),(1099511627776:Int),(-1099511627776:Int)][Qh.toNat]? =some y2->K (Val.mk kind y2 (B8 []) []) Zn) (Cnd (kind=3) (Je list at_ fun Qa Q8=>K (Val.mk kind (0:Int) Qa []) Q8) (Cnd (kind=4) (Qb list at_ (6:Int) fun Qa Q8=>((0:Int)<=Qa/\Qa<(↑(6:Nat):Int))/\ ∀y1,z2g[Qa.toNat]? =some y1->K (Val.mk kind (0:Int) y1 []) Q8) (Qb list at_ (5:Int) fun Qa Q8=>((0:Int)<=Qa/\Qa<(↑(5:Nat):Int))/\ ∀y1,j3a[Qa.toNat]? =some y1->Sml ([]++y1).length/\K (Val.mk (5:Int) (0:Int) (B8 []) ([]++y1)) Q8))))
def G6:q0r:=z7a Zp q7n
abbrev j2c:Type:=List (Int)->Int->(Ex->Int->Prop)->Prop
def j7x(Zk:Ur)(Qb:Zu)(j84:j3f)(Z3:q0r):j2c:=fun list at_ K=>Zk fun Qa=>Fits Qa->InI ((↑Qa.length:Int)+1)/\Qb list at_ ((↑Qa.length:Int)+1) fun Ql Zx=>Fits Qa->Cnd (Ql=(↑Qa.length:Int)) (j84 list Zx fun Qw V3=>K (Ex.mk (7:Int) (B8 [117,115,101,114]) (B8 [107,101,121]) [Val.mk (3:Int) (0:Int) Qw []] []) V3) (At Qa Ql fun y4=>Jn1 (fun (Jf:Int×ByteArray×ByteArray×List Val×List Ex×Int×Int×ByteArray×ByteArray×List Val×List Ex×Unit)=>Z3 list Jf.2.2.2.2.2.1 y4.3 fun Wt q7k=>K (Ex.mk (7:Int) Jf.2.1 Jf.2.2.1 [Wt] Jf.2.2.2.2.1) q7k) fun (v94:Int×ByteArray×ByteArray×List Val×List Ex×Int×Int×ByteArray×ByteArray×List Val×List Ex×Unit->Prop)=>Qb list Zx (5:Int) fun Wt q7k=>Jn1 (fun (Z4:Int×Int×ByteArray×ByteArray×List Val×List Ex×Int×ByteArray×ByteArray×List Val×List Ex×Unit)=>Cnd (y4.3=2) (Qb list Z4.1 (4:Int) fun Jo z1y=>InI ((12:Int)+Jo)/\Z3 list z1y y4.3 fun Q9 Wa=>K (Ex.mk ((12:Int)+Jo) Z4.2.2.1 Z4.2.2.2.1 [Q9] Z4.2.2.2.2.2.1) Wa) (Cnd (y4.3=3) (Qb list Z4.1 (4:Int) fun Jo z1y=>InI ((12:Int)+Jo)/\Z3 list z1y y4.3 fun Q9 Wa=>K (Ex.mk ((12:Int)+Jo) Z4.2.2.1 Z4.2.2.2.1 [Q9] Z4.2.2.2.2.2.1) Wa) (Cnd (y4.3=4) (Qb list Z4.1 (4:Int) fun Jo z1y=>InI ((12:Int)+Jo)/\Z3 list z1y y4.3 fun Q9 Wa=>K (Ex.mk ((12:Int)+Jo) Z4.2.2.1 Z4.2.2.2.1 [Q9] Z4.2.2.2.2.2.1) Wa) (v94 (Z4.2.1,Z4.2.2.1,Z4.2.2.2.1,Z4.2.2.2.2.1,Z4.2.2.2.2.2.1,Z4.1,Z4.2.2.2.2.2.2.1,Z4.2.2.2.2.2.2.2.1,Z4.2.2.2.2.2.2.2.2.1,Z4.2.2.2.2.2.2.2.2.2.1,Z4.2.2.2.2.2.2.2.2.2.2.1,()))))) fun (v3x:Int×Int×ByteArray×ByteArray×List Val×List Ex×Int×ByteArray×ByteArray×List Val×List Ex×Unit->Prop)=>Cnd (Wt=0) (K (Ex.mk (6:Int) y4.1 y4.2 [] []) q7k) (Cnd (Wt=1) (Cnd (y4.3=5) (v94 ((0:Int),y4.1,y4.2,[],[],q7k,(0:Int),B8 [],B8 [],[],[],())) (Lp3 (fun Jo z1y v7e y2m=>Qb list v7e (3:Int) fun Q9 Wa=>Cnd (Jo<=Q9) (Z3 list Wa y4.3 fun Wc z1c=>Sml (z1y++[Wc]).length/\InI (Jo+1)/\y2m (Jo+1) (z1y++[Wc]) z1c) (K (Ex.mk (8:Int) y4.1 y4.2 z1y []) Wa)) (0:Int) [] q7k)) (Cnd (Wt=2) (Cnd (y4.3=3) (Z3 list q7k (3:Int) fun Jo z1y=>K (Ex.mk (11:Int) y4.1 y4.2 [Jo] []) z1y) (Cnd (y4.3=5) (Z3 list q7k (3:Int) fun Jo z1y=>K (Ex.mk (11:Int) y4.1 y4.2 [Jo] []) z1y) (v94 ((0:Int),y4.1,y4.2,[],[],q7k,(0:Int),B8 [],B8 [],[],[],())))) (Cnd (Wt=3) (Cnd (y4.3=3) (Qb list q7k (2:Int) fun Jo z1y=>InI ((9:Int)+Jo)/\Z3 list z1y (3:Int) fun Q9 Wa=>K (Ex.mk ((9:Int)+Jo) y4.1 y4.2 [Q9] []) Wa) (v3x (q7k,(0:Int),y4.1,y4.2,[],[],(0:Int),B8 [],B8 [],[],[],()))) (Cnd (Wt=4) (v3x (q7k,(0:Int),y4.1,y4.2,[],[],(0:Int),B8 [],B8 [],[],[],())) (v94 ((0:Int),y4.1,y4.2,[],[],q7k,(0:Int),B8 [],B8 [],[],[],())))))))
def z34:j2c:=j7x G5 Zp j7w G6
abbrev q0s:Type:=List (Int)->Int->List (ByteArray)->Int->(Ex->Int->Prop)->Prop
def z35(Qb:Zu)(w5j:j2c)(X:q0s):q0s:=fun list at_ segments levels K=>Qb list at_ (8:Int) fun Qa Q8=>Jn1 (fun Qh=>Cnd (Qh=0) (K (Ex.mk (1:Int) (B8 []) (B8 []) [] []) Q8) (Cnd (Qh=3) (Fits segments->Cnd ((0:Int)<(↑segments.length:Int)) (Fits segments->Qb list Q8 (↑segments.length:Int) fun Qw V3=>At segments Qw fun y5=>K (Ex.mk (5:Int) (B8 []) y5 [] []) V3) (w5j list Q8 fun Qn Wx=>K (Ex.mk Qn.1 Qn.2 Qn.3 Qn.4 Qn.5) Wx)) (Cnd (Qh=4) (InI (levels - 1)/\X list Q8 segments (levels - 1) fun Ql Zx=>K (Ex.mk (4:Int) (B8 []) (B8 []) [] [Ex.mk Ql.1 Ql.2 Ql.3 Ql.4 Ql.5]) Zx) (Jn1 (fun Ql=>Cnd (Ql=true) (Qb list Q8 (2:Int) fun Qn Wx=>InI ((2:Int)+Qn)/\Qb list Wx (2:Int) fun Qw V3=>InI ((2:Int)+Qw)/\LpH (fun (Zl:Int×Int×Int×ByteArray×ByteArray×List Val×List Ex×Unit) (y1j:Int×Int×Int×ByteArray×ByteArray×List Val×List Ex×Unit->Prop)=>Cnd (Zl.1<2+Qw) (InI (levels - 1)/\X list Zl.2.1 segments (levels - 1) fun Jf j11=>Jn1 (fun (Wt:Int×ByteArray×ByteArray×List Val×List Ex×Unit)=>Sml (Zl.2.2.2.2.2.2.1++[Ex.mk Wt.1 Wt.2.1 Wt.2.2.1 Wt.2.2.2.1 Wt.2.2.2.2.1]).length/\InI (Zl.1+1)/\y1j (Zl.1+1,j11,Zl.2.2.1,Zl.2.2.2.1,Zl.2.2.2.2.1,Zl.2.2.2.2.2.1,Zl.2.2.2.2.2.2.1++[Ex.mk Wt.1 Wt.2.1 Wt.2.2.1 Wt.2.2.2.1 Wt.2.2.2.2.1],())) fun (y2h:Int×ByteArray×ByteArray×List Val×List Ex×Unit->Prop)=>Cnd (Jf.1=2+Qn) (y2h ((4:Int),B8 [],B8 [],[],[Ex.mk Jf.1 Jf.2 Jf.3 Jf.4 Jf.5],())) (y2h (Jf.1,Jf.2,Jf.3,Jf.4,Jf.5,()))) (K (Ex.mk Zl.2.2.1 Zl.2.2.2.1 Zl.2.2.2.2.1 Zl.2.2.2.2.2.1 Zl.2.2.2.2.2.2.1) Zl.2.1)) ((0:Int),V3,(2:Int)+Qn,B8 [],B8 [],[],[],())) (w5j list Q8 fun Qn Wx=>K (Ex.mk Qn.1 Qn.2 Qn.3 Qn.4 Qn.5) Wx)) fun j85=>Cnd (Qh=5) (j85 (decide (Qh=5))) (j85 (decide (Qh=6))))))) fun w33=>Cnd (levels<=1) (Cnd ((4:Int)<=Qa) (InI (Qa - 4)/\w33 (Qa - 4)) (w33 Qa)) (w33 Qa)
def q7o:q0s:=fun list at_ segments levels K=> ∀X:q0s,(∀list at_ segments levels K,z35 Zp z34 X list at_ segments levels K->X list at_ segments levels K)->X list at_ segments levels K
abbrev q30:Type:=List (Int)->Int->ByteArray->ByteArray->Int->List (Decl)->List (Seg)->List (Flg)->List (Lay_)->List (Exper)->(Int->ByteArray->ByteArray->Int->List (Decl)->List (Seg)->List (Flg)->List (Lay_)->List (Exper)->Prop)->Prop
def z2h(Qb:Zu)(q1z:z33)(Vo:q43)(V5:q0s):q30:=fun list at_ salt hkind hold attrs segs flags layers expers K=>Qb list at_ (4:Int) fun Qa Q8=>q1z Qa [B8 [97,108,112,104,97],B8 [98,101,116,97],B8 [103,97,109,109,97]] fun Qh=>Lp3 (fun Ql Zx q77 y2n=>Fits Qh->CAt Qh Ql (fun y4=>Vo list Zx fun Jf j11=>Vo list j11 fun Wt q7k=>Jn2 (fun Z4 z8h=>Jn1 (fun (Jo:Int×ByteArray×ByteArray×List Val×List Ex×Int×Unit)=>Sml (q77++[Seg.mk y4 Z4 Jf Wt (Ex.mk Jo.1 Jo.2.1 Jo.2.2.1 Jo.2.2.2.1 Jo.2.2.2.2.1)]).length/\InI (Ql+1)/\y2n (Ql+1) Jo.2.2.2.2.2.1 (q77++[Seg.mk y4 Z4 Jf Wt (Ex.mk Jo.1 Jo.2.1 Jo.2.2.1 Jo.2.2.2.1 Jo.2.2.2.2.1)])) fun (y2i:Int×ByteArray×ByteArray×List Val×List Ex×Int×Unit->Prop)=>Qb list z8h (3:Int) fun Q9 Wa=>Cnd ((0:Int)<Q9) (((0:Int)<=(0:Int)/\(0:Int)<=Ql/\Ql<=(↑Qh.length:Int))/\V5 list Wa (List.drop (Int.toNat (0:Int)) (List.take Ql.toNat Qh)) (3:Int) fun Wc z1c=>y2i (Wc.1,Wc.2,Wc.3,Wc.4,Wc.5,z1c,())) (y2i ((0:Int),B8 [],B8 [],[],[],Wa,()))) fun v3x=>Qb list q7k (4:Int) fun Jo z1y=>Cnd (Jo=1) (v3x (B8 [100,101,118,105,99,101]) z1y) (v3x (B8 [117,115,101,114]) z1y)) (K Zx salt hkind hold attrs q77 flags layers expers)) (0:Int) Q8 segs
def q7p:q30:=z2h Zp j2b z0a q7o
abbrev V7:Type:=Envt->(List (ByteArray)->Prop)->Prop
def V8:V7:=fun v K=>Lp2 (fun Qa Q8 q10=>Fits v.3->CAt v.3 Q8 (fun y2=>Sml (Qa++[y2.1]).length/\InI (Q8+1)/\q10 (Qa++[y2.1]) (Q8+1)) (K Qa)) [] (0:Int)
abbrev q53:Type:=List (Int)->Int->Int->(List (Rng)->Int->Prop)->Prop
def z7b(Qb:Zu)(Jg:q0q):q53:=fun list at_ n K=>Jn4 (fun Qa Q8 w7j j08=>Qb list j08 n fun Qh Zn=>InI ((1:Int)+Qh)/\Jn1 (fun Ql=>Sml (Qa++[Rng.mk Q8 (10000:Int) Ql]).length/\K (Qa++[Rng.mk Q8 (10000:Int) Ql]) Zn) fun j85=>Cnd ((1:Int)+Qh=w7j) (n≠(0:Int)/\InI ((1:Int)+((1:Int)+Qh).tmod n)/\j85 ((1:Int)+((1:Int)+Qh).tmod n)) (j85 ((1:Int)+Qh))) fun j2h=>Lp5 (fun Qh Zn j47 j69 y2o y2p=>Qb list y2o (4:Int) fun Ql Zx=>Cnd (j69<Ql) (Cnd ((1:Int)<n) (InI (Zn+1)/\Jg list Zx (5000:Int) fun Qn Wx=>InI (Zn+1+Qn)/\Qb list Wx n fun Qw V3=>InI ((1:Int)+Qw)/\Jn1 (fun Zl=>Cnd ((10000:Int)<=Zn+1+Qn) (j2h Qh Zn j47 V3) (Sml (Qh++[Rng.mk Zn (Zn+1+Qn) Zl]).length/\InI (j69+1)/\y2p (Qh++[Rng.mk Zn (Zn+1+Qn) Zl]) (Zn+1+Qn) Zl (j69+1) V3)) fun y2j=>Cnd ((1:Int)+Qw=j47) (n≠(0:Int)/\InI ((1:Int)+((1:Int)+Qw).tmod n)/\y2j ((1:Int)+((1:Int)+Qw).tmod n)) (y2j ((1:Int)+Qw))) (j2h Qh Zn j47 Zx)) (j2h Qh Zn j47 Zx)) [] (0:Int) (0:Int) (0:Int) at_
def q54:q53:=z7b Zp q99
abbrev q55:Type:=List (Int)->Int->Int->(Srv->Int->Prop)->Prop
def z7c(Qb:Zu)(Je:H0)(q11:q53)(Zk:Ur):q55:=fun list at_ n K=>Qb list at_ (2:Int) fun Qa Q8=>Cnd (Qa=0) (Qb list Q8 n fun Qh Zn=>InI ((1:Int)+Qh)/\K (Srv.mk ((1:Int)+Qh) (B8 []) (B8 []) (B8 []) []) Zn) (Je list Q8 fun Qh Zn=>q11 list Zn n fun Ql Zx=>Zk fun Qn=>Qb list Zx (12:Int) fun Qw V3=>Fits Qn->CAt Qn Qw (fun y6=>Cnd (y6.3=5) (K (Srv.mk (0:Int) (B8 [117,115,101,114]) (B8 [107,101,121]) Qh Ql) V3) (At Qn Qw fun y8=>At Qn Qw fun y10=>K (Srv.mk (0:Int) y8.1 y10.2 Qh Ql) V3)) (K (Srv.mk (0:Int) (B8 [117,115,101,114]) (B8 [107,101,121]) Qh Ql) V3))
def q0t:q55:=z7c Zp q7n q54 G5
abbrev z7d:Type:=(List (Nd)->(Nd->Option (Int))->Bool->Prop)->Prop
def j98:z7d:=fun K=>K [] (fun _=>none) false
abbrev G7:Type:=Int->(Bool->Prop)->Prop
def Wj:G7:=fun op K=>Cnd ((6:Int)<=op) (K (decide (op<=15))) (K false)
abbrev q31:Type:=List (ByteArray)->List (ByteArray)->(Bool->Prop)->Prop
def q9a:q31:=fun a b K=>Fits a->Fits b->Cnd ((↑a.length:Int)=(↑b.length:Int)) (Lp1 (fun Ql z4t=>Fits a->CAt a Ql (fun y4=>At b Ql fun y6=>Cnd (y4=y6) (InI (Ql+1)/\z4t (Ql+1)) (K false)) (K true)) (0:Int)) (K false)
abbrev q9b:Type:=Val->Val->(Bool->Prop)->Prop
def z89(W7:q31):q9b:=fun a b K=>Cnd (a.1=b.1) (Cnd (a.2=b.2) (Cnd (a.3=b.3) (W7 a.4 b.4 fun Qa=>K Qa) (K false)) (K false)) (K false)
def z36:q9b:=z89 q9a
abbrev V9:Type:=List (Val)->List (Val)->(Bool->Prop)->Prop
def q56(z4u:q9b):V9:=fun a b K=>Fits a->Fits b->Cnd ((↑a.length:Int)=(↑b.length:Int)) (Lp1 (fun Ql z4t=>Fits a->CAt a Ql (fun y4=>At b Ql fun y6=>z4u y4 y6 fun Z4=>Cnd (Z4=true) (InI (Ql+1)/\z4t (Ql+1)) (K false)) (K true)) (0:Int)) (K false)
def W0:V9:=q56 z36
abbrev Zy:Type:=Ex->Ex->(Bool->Prop)->Prop
def z0b(Un:V9)(X:Zy):Zy:=fun a b K=>Cnd (a.1=b.1) (Cnd (a.2=b.2) (Cnd (a.3=b.3) (Un a.4 b.4 fun Qa=>Cnd (Qa=true) (Fits a.5->Fits b.5->Cnd ((↑a.5.length:Int)=(↑b.5.length:Int)) (Lp1 (fun Qn v70=>Fits a.5->CAt a.5 Qn (fun y5=>At b.5 Qn fun y7=>X (Ex.mk y5.1 y5.2 y5.3 y5.4 y5.5) (Ex.mk y7.1 y7.2 y7.3 y7.4 y7.5) fun Jo=>Cnd (Jo=true) (InI (Qn+1)/\v70 (Qn+1)) (K false)) (K true)) (0:Int)) (K false)) (K false)) (K false)) (K false)) (K false)
def Vi:Zy:=fun a b K=> ∀X:Zy,(∀a b K,z0b W0 X a b K->X a b K)->X a b K
abbrev q57:Type:=List (Ex)->Ex->(Int->Prop)->Prop
def z50(Za:Zy):q57:=fun l e K=>Lp1 (fun Qa Gy=>Fits l->CAt l Qa (fun y2=>Za (Ex.mk y2.1 y2.2 y2.3 y2.4 y2.5) (Ex.mk e.1 e.2 e.3 e.4 e.5) fun Qw=>Cnd (Qw=true) (K Qa) (InI (Qa+1)/\Gy (Qa+1))) (K (-1:Int))) (0:Int)
def Vx:q57:=z50 Vi
abbrev Vy:Type:=List (Ex)->Ex->(List (Ex)->Prop)->Prop
def q8f(z1d:q57)(Zv:G7)(X:Vy):Vy:=fun l e K=>Jn1 (fun Qa=>Lp2 (fun Qh Zn z1z=>Fits e.5->CAt e.5 Zn (fun y3=>X Qh (Ex.mk y3.1 y3.2 y3.3 y3.4 y3.5) fun Zl=>InI (Zn+1)/\z1z Zl (Zn+1)) (K Qh)) Qa (0:Int)) fun j2h=>Cnd (e.1=5) (z1d l (Ex.mk e.1 e.2 e.3 e.4 e.5) fun Qh=>Cnd (Qh<0) ((Sml ([]++l).length/\Sml ([]++l++[Ex.mk e.1 e.2 e.3 e.4 e.5]).length/\j2h ([]++l++[Ex.mk e.1 e.2 e.3 e.4 e.5]))/\Sml ([]++l).length/\Sml ([]++l++[Ex.mk e.1 e.2 e.3 e.4 e.5]).length/\j2h ([]++l++[Ex.mk e.1 e.2 e.3 e.4 e.5])) (j2h l)) (Zv e.1 fun Qh=>Cnd (Qh=true) (z1d l (Ex.mk e.1 e.2 e.3 e.4 e.5) fun Ql=>Cnd (Ql<0) ((Sml ([]++l).length/\Sml ([]++l++[Ex.mk e.1 e.2 e.3 e.4 e.5]).length/\j2h ([]++l++[Ex.mk e.1 e.2 e.3 e.4 e.5]))/\Sml ([]++l).length/\Sml ([]++l++[Ex.mk e.1 e.2 e.3 e.4 e.5]).length/\j2h ([]++l++[Ex.mk e.1 e.2 e.3 e.4 e.5])) (j2h l)) (j2h l))
def q3e:Vy:=fun l e K=> ∀X:Vy,(∀l e K,q8f Vx Wj X l e K->X l e K)->X l e K
abbrev G8:Type:=List (Rul)->(List (Ex)->Prop)->Prop
def q58(q3r:Vy):G8:=fun l K=>Lp2 (fun Qa Q8 q10=>Fits l->CAt l Q8 (fun y2=>q3r Qa (Ex.mk y2.2.1 y2.2.2 y2.2.3 y2.2.4 y2.2.5) fun Qw=>InI (Q8+1)/\q10 Qw (Q8+1)) (K Qa)) [] (0:Int)
def q0u:G8:=q58 q3e
abbrev Jy:Type:=List (Nd)->(Nd->Option (Int))->Bool->Int->(Bool->List (Nd)->(Nd->Option (Int))->Bool->Prop)->Prop
def Uw:Jy:=fun ns ids full id K=>Cnd ((-1002:Int)<id) (Fits ns->K (decide (id<(↑ns.length:Int))) ns ids full) (K false ns ids full)
abbrev R9:Type:=List (Nd)->(Nd->Option (Int))->Bool->Int->((Int->Option (Bool))->List (Nd)->(Nd->Option (Int))->Bool->Prop)->Prop
def Ba:R9:=fun ns ids full id K=>Lp2 (fun Qa Gy q10=>Fits Qa->Cnd ((0:Int)<(↑Qa.length:Int)) (Fits Qa->InI ((↑Qa.length:Int) - 1)/\((0:Int)<=(↑Qa.length:Int) - 1/\(↑Qa.length:Int) - 1<(↑Qa.length:Int))/\ ∀y3,Qa[((↑Qa.length:Int) - 1).toNat]? =some y3->Fits Qa->InI ((↑Qa.length:Int) - 1)/\((0:Int)<=(↑Qa.length:Int) - 1/\(↑Qa.length:Int) - 1<=(↑Qa.length:Int))/\Cnd ((Gy y3).getD false=true) (q10 (List.take ((↑Qa.length:Int) - 1).toNat Qa) Gy) (Cnd ((0:Int)<=y3) (At ns y3 fun y6=>At ns y3 fun y8=>Sml (List.take ((↑Qa.length:Int) - 1).toNat Qa++[y6.2.1,y8.2.2]).length/\q10 (List.take ((↑Qa.length:Int) - 1).toNat Qa++[y6.2.1,y8.2.2]) (put Gy y3 true)) (q10 (List.take ((↑Qa.length:Int) - 1).toNat Qa) (put Gy y3 true)))) (K Gy ns ids full)) [id] fun _=>none
abbrev Ua:Type:=List (Nd)->(Nd->Option (Int))->Bool->Int->(List (Int)->List (Nd)->(Nd->Option (Int))->Bool->Prop)->Prop
def q9c(Q2:Jy)(Bn:R9):Ua:=fun ns ids full id K=>Q2 ns ids full id fun Qa (Q8:List (Int×Int×Int)) q10 j08=>Cnd (Qa=true) (Bn Q8 q10 j08 id fun w33 (Zn:List (Int×Int×Int)) z1z j69=>Lp2 (fun Ql Zx q82=>Cnd (Zx<=1000) (InI ((-1:Int) - Zx)/\Cnd ((w33 ((-1:Int) - Zx)).getD false=true) (Sml (Ql++[Zx]).length/\InI (Zx+1)/\q82 (Ql++[Zx]) (Zx+1)) (InI (Zx+1)/\q82 Ql (Zx+1))) (K Ql Zn z1z j69)) [] (0:Int)) (K [] Q8 q10 j08)
def H1:Ua:=q9c Uw Ba
abbrev Zi:Type:=List (Nd)->(Nd->Option (Int))->Bool->Int->(Bool->List (Nd)->(Nd->Option (Int))->Bool->Prop)->Prop
def q4w(Q2:Jy)(Ri:Ua):Zi:=fun ns ids full id K=>Q2 ns ids full id fun Qa (Q8:List (Int×Int×Int)) q10 j08=>Cnd (Qa=true) (Ri Q8 q10 j08 id fun Qh (Zn:List (Int×Int×Int)) z1z j69=>Lp1 (fun Ql z4t=>Fits Qh->CAt Qh Ql (fun y4=>Cnd ((1:Int)<y4) (K false Zn z1z j69) (InI (Ql+1)/\z4t (Ql+1))) (K true Zn z1z j69)) (0:Int)) (K false Q8 q10 j08)
def Jt:Zi:=q4w Uw H1
abbrev Vz:Type:=List (Nd)->(Nd->Option (Int))->Bool->Int->(Int->List (Nd)->(Nd->Option (Int))->Bool->Prop)->Prop
def Jz:Vz:=fun ns ids full id K=>Cnd (id<0) (K (1001:Int) ns ids full) (At ns id fun y0=>K y0.1 ns ids full)
abbrev Bb:Type:=List (Nd)->(Nd->Option (Int))->Bool->Int->Int->(Int->Int->List (Nd)->(Nd->Option (Int))->Bool->Prop)->Prop
def z1n(Zj:Vz):Bb:=fun ns ids full id test K=>Zj ns ids full id fun Qa (Q8:List (Int×Int×Int)) q10 j08=>Cnd (Qa=test) (At Q8 id fun y1=>At Q8 id fun y3=>K y1.2.1 y3.2.2 Q8 q10 j08) (K id id Q8 q10 j08)
def Wk:Bb:=z1n Jz
abbrev G9:Type:=List (Nd)->(Nd->Option (Int))->Bool->Int->Int->Int->(Int->List (Nd)->(Nd->Option (Int))->Bool->Prop)->Prop
def z2i(Q2:Jy)(Zj:Vz):G9:=fun ns ids full test yes no K=>Cnd (test<0) (K (-1002:Int) ns ids full) (Cnd ((1000:Int)<test) (K (-1002:Int) ns ids full) (Q2 ns ids full yes fun Qa (Q8:List (Int×Int×Int)) q10 j08=>Cnd (Qa=true) (Q2 Q8 q10 j08 no fun Qh (Zn:List (Int×Int×Int)) z1z j69=>Cnd (Qh=true) (Zj Zn z1z j69 yes fun Ql (Zx:List (Int×Int×Int)) q82 j48=>Cnd (Ql<=test) (K (-1002:Int) Zx q82 j48) (Zj Zx q82 j48 no fun Qn (Wx:List (Int×Int×Int)) j2j v1f=>Cnd (Qn<=test) (K (-1002:Int) Wx j2j v1f) (Cnd (yes=no) (K yes Wx j2j v1f) (Cnd ((j2j (test,yes,no)).isSome=true) (K ((j2j (test,yes,no)).getD (0:Int)) Wx j2j v1f) (Fits Wx->Cnd ((4000:Int)<=(↑Wx.length:Int)) (K (-1002:Int) Wx j2j true) (Fits Wx->Sml (Wx++[(test,yes,no)]).length/\((Wx++[(test,yes,no)]).length<=(9223372036854775807:Nat)->InI ((↑(Wx++[(test,yes,no)]).length:Int) - 1)/\K ((↑(Wx++[(test,yes,no)]).length:Int) - 1) (Wx++[(test,yes,no)]) (put j2j (test,yes,no) (↑Wx.length:Int)) v1f))))))) (K (-1002:Int) Zn z1z j69)) (K (-1002:Int) Q8 q10 j08)))
def Z7:G9:=z2i Uw Jz
abbrev Jv:Type:=List (Nd)->(Nd->Option (Int))->Bool->Int->Int->Int->(A3->Option (Int))->(Int->List (Nd)->(Nd->Option (Int))->Bool->(A3->Option (Int))->Prop)->Prop
def Ub(Zj:Vz)(q4r:Bb)(q7h:G9)(X:Jv):Jv:=fun ns ids full f g h known K=>Cnd (f=(-2:Int)) (K g ns ids full known) (Cnd (g=h) (K g ns ids full known) (Cnd (f=(-1:Int)) (K h ns ids full known) (Cnd ((known (f,g,h)).isSome=true) (K ((known (f,g,h)).getD (0:Int)) ns ids full known) (Zj ns ids full f fun Qa (Q8:List (Int×Int×Int)) q10 j08=>Zj Q8 q10 j08 g fun Qh (Zn:List (Int×Int×Int)) z1z j69=>Zj Zn z1z j69 h fun Ql (Zx:List (Int×Int×Int)) q82 j48=>q4r Zx q82 j48 f (Min.min (Min.min Qa Qh) Ql) fun Qn Wx (y2q:List (Int×Int×Int)) y2r y2s=>q4r y2q y2r y2s g (Min.min (Min.min Qa Qh) Ql) fun Qw V3 (z8s:List (Int×Int×Int)) v71 y2t=>q4r z8s v71 y2t h (Min.min (Min.min Qa Qh) Ql) fun Zl z4v (y2u:List (Int×Int×Int)) y2v y2w=>X y2u y2v y2w Qn Qw Zl known fun Jf (j11:List (Int×Int×Int)) v7f y1k y2x=>X j11 v7f y1k Wx V3 z4v y2x fun Wt (q7k:List (Int×Int×Int)) v1g w7k v9o=>Jn4 (fun Z4 (z8h:List (Int×Int×Int)) y2y y2z=>K Z4 z8h y2z y2y (put v9o (f,g,h) Z4)) fun v3x=>Cnd (Jf=(-1002:Int)) (v3x (-1002:Int) q7k w7k v1g) (Cnd (Wt=(-1002:Int)) (v3x (-1002:Int) q7k w7k v1g) (q7h q7k v1g w7k (Min.min (Min.min Qa Qh) Ql) Jf Wt fun Jo (z1y:List (Int×Int×Int)) v7g v07=>v3x Jo z1y v07 v7g))))))
def H2:Jv:=fun ns ids full f g h known K=> ∀X:Jv,(∀ns ids full f g h known K,Ub Jz Wk Z7 X ns ids full f g h known K->X ns ids full f g h known K)->X ns ids full f g h known K
abbrev Zz:Type:=List (Nd)->(Nd->Option (Int))->Bool->Int->Int->Int->(Int->List (Nd)->(Nd->Option (Int))->Bool->Prop)->Prop
def q9d(Qt:Zi)(Q2:Jy)(Rj:Jv):Zz:=fun ns ids full f g h K=>Qt ns ids full f fun Qa (Q8:List (Int×Int×Int)) q10 j08=>Cnd (Qa=true) (Q2 Q8 q10 j08 g fun Qh (Zn:List (Int×Int×Int)) z1z j69=>Cnd (Qh=true) (Q2 Zn z1z j69 h fun Ql (Zx:List (Int×Int×Int)) q82 j48=>Cnd (Ql=true) (Rj Zx q82 j48 f g h (fun _=>none) fun Qn (Wx:List (Int×Int×Int)) j2j v1f _=>K Qn Wx j2j v1f) (K (-1002:Int) Zx q82 j48)) (K (-1002:Int) Zn z1z j69)) (K (-1002:Int) Q8 q10 j08)
def Ww:Zz:=q9d Jt Uw H2
abbrev q3f:Type:=List (Nd)->(Nd->Option (Int))->Bool->Int->(Int->List (Nd)->(Nd->Option (Int))->Bool->Prop)->Prop
def z5f(Q6:Zz):q3f:=fun ns ids full f K=>Q6 ns ids full f (-1:Int) (-2:Int) fun Qa (Q8:List (Int×Int×Int)) q10 j08=>K Qa Q8 q10 j08
def Gk:q3f:=z5f Ww
abbrev q3g:Type:=List (Nd)->(Nd->Option (Int))->Bool->Int->Int->(Int->List (Nd)->(Nd->Option (Int))->Bool->Prop)->Prop
def z5g(Qt:Zi)(Q6:Zz):q3g:=fun ns ids full f g K=>Qt ns ids full g fun Qa (Q8:List (Int×Int×Int)) q10 j08=>Cnd (Qa=true) (Q6 Q8 q10 j08 f g (-1:Int) fun Qh (Zn:List (Int×Int×Int)) z1z j69=>K Qh Zn z1z j69) (K (-1002:Int) Q8 q10 j08)
def Gl:q3g:=z5g Jt Ww
abbrev H3:Type:=List (Nd)->(Nd->Option (Int))->Bool->Int->Int->(Int->List (Nd)->(Nd->Option (Int))->Bool->Prop)->Prop
def z7e(Qt:Zi)(Q6:Zz):H3:=fun ns ids full f g K=>Qt ns ids full g fun Qa (Q8:List (Int×Int×Int)) q10 j08=>Cnd (Qa=true) (Q6 Q8 q10 j08 f (-2:Int) g fun Qh (Zn:List (Int×Int×Int)) z1z j69=>K Qh Zn z1z j69) (K (-1002:Int) Q8 q10 j08)
def Ux:H3:=z7e Jt Ww
abbrev W1:Type:=List (Nd)->(Nd->Option (Int))->Bool->List (Ex)->Ex->(Int->List (Nd)->(Nd->Option (Int))->Bool->Prop)->Prop
def q59(j55:q3f)(j56:q3g)(Rk:H3)(z1d:q57)(q7h:G9)(X:W1):W1:=fun ns ids full atoms e K=>Cnd (e.1=1) (K (-2:Int) ns ids full) (Cnd (e.1=4) (((0:Int)<=(0:Int)/\(0:Int)<(↑e.5.length:Int))/\ ∀y0,e.5[Int.toNat (0:Int)]? =some y0->X ns ids full atoms (Ex.mk y0.1 y0.2 y0.3 y0.4 y0.5) fun Ql (Zx:List (Int×Int×Int)) q82 j48=>j55 Zx q82 j48 Ql fun Qn (Wx:List (Int×Int×Int)) j2j v1f=>K Qn Wx j2j v1f) (Jn1 (fun Qa=>Cnd (Qa=true) (((0:Int)<=(0:Int)/\(0:Int)<(↑e.5.length:Int))/\ ∀y1,e.5[Int.toNat (0:Int)]? =some y1->X ns ids full atoms (Ex.mk y1.1 y1.2 y1.3 y1.4 y1.5) fun Qn (Wx:List (Int×Int×Int)) j2j v1f=>Lp5 (fun Qw V3 (z8s:List (Int×Int×Int)) v3y v7h y2k=>Fits e.5->CAt e.5 V3 (fun y6=>X z8s v7h v3y atoms (Ex.mk y6.1 y6.2 y6.3 y6.4 y6.5) fun Z4 (z8h:List (Int×Int×Int)) v9p y2l=>Cnd (e.1=2) (j56 z8h v9p y2l Qw Z4 fun Jo (z1y:List (Int×Int×Int)) v7g v07=>InI (V3+1)/\y2k Jo (V3+1) z1y v07 v7g) (Rk z8h v9p y2l Qw Z4 fun Jo (z1y:List (Int×Int×Int)) v7g v07=>InI (V3+1)/\y2k Jo (V3+1) z1y v07 v7g)) (K Qw z8s v7h v3y)) Qn (1:Int) Wx v1f j2j) (z1d atoms (Ex.mk e.1 e.2 e.3 e.4 e.5) fun Qh=>Cnd (Qh<0) (K (-1002:Int) ns ids full) (q7h ns ids full Qh (-2:Int) (-1:Int) fun Ql (Zx:List (Int×Int×Int)) q82 j48=>K Ql Zx q82 j48))) fun j2h=>Cnd (e.1=2) (j2h (decide (e.1=2))) (j2h (decide (e.1=3)))))
def q0v:W1:=fun ns ids full atoms e K=> ∀X:W1,(∀ns ids full atoms e K,q59 Gk Gl Ux Vx Z7 X ns ids full atoms e K->X ns ids full atoms e K)->X ns ids full atoms e K
abbrev Z0:Type:=List (Rul)->(List (Int)->Int->Bool->Prop)->Prop
def q2m(z8i:z7d)(q12:G8)(q13:W1)(Rk:H3):Z0:=fun l K=>z8i fun (Qa:List (Int×Int×Int)) Gy w7j=>q12 l fun Qh=>LpH (fun Ql z4t=>Fits l->CAt l Ql.2.2.1 (fun y4=>q13 Ql.2.2.2.1 Ql.2.2.2.2.2.1 Ql.2.2.2.2.1 Qh (Ex.mk y4.2.1 y4.2.2 y4.2.3 y4.2.4 y4.2.5) fun Jf (j11:List (Int×Int×Int)) v7f y1k=>Rk j11 v7f y1k Ql.1 Jf fun Wt (q7k:List (Int×Int×Int)) v1g w7k=>Cnd (Wt=(-1002:Int)) (Fits q7k->K [] (↑q7k.length:Int) false) (Cnd (Wt=Ql.1) (InI (Ql.2.2.1+1)/\Sml (Ql.2.1++[Ql.2.2.1+1]).length/\InI (Ql.2.2.1+1)/\z4t (Wt,Ql.2.1++[Ql.2.2.1+1],Ql.2.2.1+1,q7k,w7k,v1g,())) (InI (Ql.2.2.1+1)/\z4t (Wt,Ql.2.1,Ql.2.2.1+1,q7k,w7k,v1g,())))) (Fits Ql.2.2.2.1->K Ql.2.1 (↑Ql.2.2.2.1.length:Int) true)) ((-1:Int),[],(0:Int),Qa,w7j,Gy,())
def Jw:Z0:=q2m j98 q0u q0v Ux
abbrev z2j:Type:=List (Int)->Int->ByteArray->(Lay_->Int->Prop)->Prop
def j3g(Je:H0)(Qb:Zu)(Jg:q0q):z2j:=fun list at_ key K=>Je list at_ fun Qa Q8=>Qb list Q8 (3:Int) fun Qh Zn=>InI (Qh*50)/\Jn2 (fun Ql Zx=>Jn2 (fun Qn Wx=>Lp4 (fun Qw V3 z8s v3y v7h=>Qb list v3y (3:Int) fun Zl z4v=>Cnd (V3<Zl) (Jg list z4v (3000:Int) fun Jf j11=>InI (Qw+Jf)/\InI (Qw+Jf+1)/\Jg list j11 (2000:Int) fun Wt q7k=>InI (Qw+Jf+1+Wt)/\Cnd ((10000:Int)<Qw+Jf+1+Wt) (K (Lay_.mk key Ql Qa Qn (Qh*50) z8s) q7k) (Qb list q7k (200:Int) fun Z4 z8h=>Sml (z8s++[Col.mk (Qw+Jf) (Qw+Jf+1+Wt) Z4]).length/\InI (V3+1)/\v7h (Qw+Jf+1+Wt) (V3+1) (z8s++[Col.mk (Qw+Jf) (Qw+Jf+1+Wt) Z4]) z8h)) (K (Lay_.mk key Ql Qa Qn (Qh*50) z8s) z4v)) (0:Int) (0:Int) [] Wx) fun v4y=>Qb list Zx (2:Int) fun Qw V3=>Cnd (Qw=1) (Jg list V3 (3000:Int) fun Zl z4v=>v4y Zl z4v) (v4y (0:Int) V3)) fun j85=>Qb list Zn (4:Int) fun Qn Wx=>Cnd (Qn=1) (j85 (B8 [100,101,118,105,99,101]) Wx) (j85 (B8 [117,115,101,114]) Wx)
def z7f:z2j:=j3g q7n Zp q99
abbrev q5p:Type:=Int->(Bool->Prop)->Prop
def q9e:q5p:=fun now K=>Cnd ((0:Int)<=now) (K (decide (now<=1099511627776))) (K false)
abbrev Ja:Type:=Envt->ByteArray->(Int->Prop)->Prop
def Wu:Ja:=fun v key K=>Lp1 (fun Qa Gy=>Fits v.5->CAt v.5 Qa (fun y2=>Cnd (y2.1=key) (K Qa) (InI (Qa+1)/\Gy (Qa+1))) (K (-1:Int))) (0:Int)
abbrev Uc:Type:=List (Col)->Int->(List (Int)->Prop)->Prop
def W2:Uc:=fun l now K=>((0:Int)<=(10000:Int)/\(10000:Int)<=(10000:Int)/\Sml (Int.toNat (10000:Int)))/\Lp2 (fun Qa Q8 q10=>Fits Q8->CAt Q8 Qa (fun _=>InI (Qa+1)/\q10 (Qa+1) (Q8.set Qa.toNat now)) (Lp2 (fun Ql Zx q82=>Fits l->CAt l Ql (fun y4=>Lp2 (fun Jf j11 v7f=>At l Ql fun y7=>Cnd (Jf<Min.min y7.2 (10000:Int)) (At j11 Jf fun y9=>At l Ql fun y11=>At j11 Jf fun _=>InI (Jf+1)/\v7f (Jf+1) (j11.set Jf.toNat (Max.max y9 y11.3))) (InI (Ql+1)/\q82 (Ql+1) j11)) (Max.max y4.1 (0:Int)) Zx) (K Zx)) (0:Int) Q8)) (0:Int) (List.replicate (Int.toNat (10000:Int)) (0:Int))
abbrev Wl:Type:=List (Bool)->(List (Spn)->Prop)->Prop
def Wm:Wl:=fun set_ K=>Lp2 (fun Qa Q8 q10=>Fits set_->CAt set_ Q8 (fun y2=>Cnd (y2=true) (Cnd ((0:Int)<Q8) (InI (Q8 - 1)/\((0:Int)<=Q8 - 1/\Q8 - 1<(↑set_.length:Int))/\ ∀y4,set_[(Q8 - 1).toNat]? =some y4->Cnd (y4=true) (Fits Qa->InI ((↑Qa.length:Int) - 1)/\InI (Q8+1)/\((0:Int)<=(↑Qa.length:Int) - 1/\(↑Qa.length:Int) - 1<(↑Qa.length:Int))/\ ∀y7,Qa[((↑Qa.length:Int) - 1).toNat]? =some y7->InI (Q8+1)/\q10 (Qa.set ((↑Qa.length:Int) - 1).toNat (Spn.mk y7.1 (Q8+1))) (Q8+1)) (InI (Q8+1)/\Sml (Qa++[Spn.mk Q8 (Q8+1)]).length/\InI (Q8+1)/\q10 (Qa++[Spn.mk Q8 (Q8+1)]) (Q8+1))) (InI (Q8+1)/\Sml (Qa++[Spn.mk Q8 (Q8+1)]).length/\InI (Q8+1)/\q10 (Qa++[Spn.mk Q8 (Q8+1)]) (Q8+1))) (InI (Q8+1)/\q10 Qa (Q8+1))) (K Qa)) [] (0:Int)
abbrev q6a:Type:=List (Int)->Int->(List (Spn)->Prop)->Prop
def z0c(Zb:Wl):q6a:=fun until_ now K=>Fits until_->((0:Int)<=(↑until_.length:Int)/\(↑until_.length:Int)<=(↑until_.length:Int)/\Sml (↑until_.length:Int).toNat)/\Lp2 (fun Qh Zn z1z=>Fits until_->CAt until_ Qh (fun y3=>At Zn Qh fun _=>InI (Qh+1)/\z1z (Qh+1) (Zn.set Qh.toNat (decide (now<y3)))) (Zb Zn fun Qn=>K Qn)) (0:Int) (List.replicate (↑until_.length:Int).toNat false)
def Bw:q6a:=z0c Wm
abbrev Vj:Type:=List (Spn)->(List (Bool)->Prop)->Prop
def Ha:Vj:=fun l K=>((0:Int)<=(10000:Int)/\(10000:Int)<=(10000:Int)/\Sml (Int.toNat (10000:Int)))/\Lp2 (fun Qa Q8 q10=>Fits l->CAt l Qa (fun y2=>Lp2 (fun Qw V3 v7i=>At l Qa fun y5=>Cnd (Qw<Min.min y5.2 (10000:Int)) (At V3 Qw fun _=>InI (Qw+1)/\v7i (Qw+1) (V3.set Qw.toNat true)) (InI (Qa+1)/\q10 (Qa+1) V3)) (Max.max y2.1 (0:Int)) Q8) (K Q8)) (0:Int) (List.replicate (Int.toNat (10000:Int)) false)
abbrev Bx:Type:=List (Spn)->List (Spn)->(List (Spn)->Prop)->Prop
def q6b(Zc:Vj)(Zb:Wl):Bx:=fun a b K=>Zc a fun Qa=>Zc b fun Qh=>Lp2 (fun Ql Zx q82=>Fits Zx->CAt Zx Ql (fun y4=>Cnd (y4=true) (At Zx Ql fun _=>InI (Ql+1)/\q82 (Ql+1) (Zx.set Ql.toNat true)) (At Qh Ql fun y6=>At Zx Ql fun _=>InI (Ql+1)/\q82 (Ql+1) (Zx.set Ql.toNat y6))) (Zb Zx fun Qw=>K Qw)) (0:Int) Qa
def V0:Bx:=q6b Ha Wm
abbrev By:Type:=Envt->ByteArray->ByteArray->Int->(List (Spn)->Prop)->Prop
def z0d(Qu:Ja)(Wp:Bx)(Z9:Uc)(q3a:q6a):By:=fun v layer but now K=>Qu (Envt.mk (Sett.mk v.1.1 v.1.2 v.1.3) v.2 v.3 v.4 v.5 v.6) layer fun Qa=>Cnd (Qa<0) (K []) (Jn1 (fun Qh=>Lp2 (fun Ql Zx q82=>Fits v.6->CAt v.6 Zx (fun y4=>Cnd (y4.2=layer) (Cnd (y4.1=but) (InI (Zx+1)/\q82 Ql (Zx+1)) (Cnd (y4.5=3) (InI (Zx+1)/\q82 Ql (Zx+1)) (Wp Ql y4.6 fun Jf=>InI (Zx+1)/\q82 Jf (Zx+1)))) (InI (Zx+1)/\q82 Ql (Zx+1))) (K Ql)) Qh (0:Int)) fun w33=>At v.5 Qa fun y2=>At v.5 Qa fun y4=>(Z9 y4.6 now fun Jf=>q3a Jf now fun Wt=>Wp [Spn.mk (0:Int) y2.4] Wt fun Z4=>w33 Z4)/\Z9 y4.6 now fun Jf=>(q3a Jf now fun Wt=>Wp [Spn.mk (0:Int) y2.4] Wt fun Z4=>w33 Z4)/\q3a Jf now fun Wt=>Wp [Spn.mk (0:Int) y2.4] Wt fun Z4=>w33 Z4)
def Bz:By:=z0d Wu V0 W2 Bw
abbrev B0:Type:=List (Spn)->List (Spn)->(List (Spn)->Prop)->Prop
def z0e(Zc:Vj)(Zb:Wl):B0:=fun a b K=>Zc a fun Qa=>Zc b fun Qh=>Lp2 (fun Ql Zx q82=>Fits Zx->CAt Zx Ql (fun y4=>Cnd (y4=true) (At Qh Ql fun y6=>At Zx Ql fun _=>InI (Ql+1)/\q82 (Ql+1) (Zx.set Ql.toNat (match decide ((flC C.bool y6).1=true) with|true=>false|false=>true))) (At Zx Ql fun _=>InI (Ql+1)/\q82 (Ql+1) (Zx.set Ql.toNat false))) (Zb Zx fun Qw=>K Qw)) (0:Int) Qa
def B1:B0:=z0e Ha Wm
abbrev q2n:Type:=Envt->ByteArray->Int->(List (Spn)->Int->Prop)->Prop
def z37(Rl:q5p)(Qu:Ja)(U7:By)(U8:B0):q2n:=fun v layer now K=>Rl now fun Qa=>Cnd (Qa=true) (Qu (Envt.mk (Sett.mk v.1.1 v.1.2 v.1.3) v.2 v.3 v.4 v.5 v.6) layer fun Qh=>Cnd (Qh<0) (K [] (11:Int)) (U7 (Envt.mk (Sett.mk v.1.1 v.1.2 v.1.3) v.2 v.3 v.4 v.5 v.6) layer (B8 []) now fun Ql=>U8 [Spn.mk (0:Int) (10000:Int)] Ql fun Qn=>K Qn (0:Int))) (K [] (3:Int))
def q2o:q2n:=z37 q9e Wu Bz B1
abbrev Uy:Type:=List (Spn)->Int->(List (Spn)->Prop)->Prop
def z0f(Zc:Vj)(Zb:Wl):Uy:=fun l n K=>Zc l fun Qa=>Lp3 (fun Qh Zn j47 w7f=>Fits j47->CAt j47 Zn (fun y3=>Cnd (y3=true) (Cnd (Qh<=0) (At j47 Zn fun _=>InI (Zn+1)/\w7f Qh (Zn+1) (j47.set Zn.toNat false)) (At j47 Zn fun y5=>Cnd (y5=true) (InI (Qh - 1)/\InI (Zn+1)/\w7f (Qh - 1) (Zn+1) j47) (InI (Zn+1)/\w7f Qh (Zn+1) j47))) (At j47 Zn fun y5=>Cnd (y5=true) (InI (Qh - 1)/\InI (Zn+1)/\w7f (Qh - 1) (Zn+1) j47) (InI (Zn+1)/\w7f Qh (Zn+1) j47))) (Zb j47 fun Qn=>K Qn)) n (0:Int) Qa
def Hb:Uy:=z0f Ha Wm
abbrev q0w:Type:=ByteArray->(Bool->Prop)->Prop
def q0x(s:ByteArray)(K:Bool->Prop):Prop:=s.size<=(9223372036854775807:Nat)/\K (Go.Lib.validD s.data.toList)
abbrev Jk:Type:=ByteArray->(Bool->Prop)->Prop
def z9a(Gz:q0w):Jk:=fun s K=>Cnd ((200:Int)<(↑s.size:Int)) (K false) (Gz s fun Qa=>Cnd (Qa=true) (Lp1 (fun Qh q83=>Cnd (Qh<(↑s.size:Int)) (((0:Int)<=Qh/\Qh<(↑s.size:Int))/\ ∀b2,s[Qh.toNat]? =some b2->Cnd ((↑b2.toNat:Int)<32) (K false) (((0:Int)<=Qh/\Qh<(↑s.size:Int))/\ ∀b4,s[Qh.toNat]? =some b4->Cnd ((↑b4.toNat:Int)=127) (K false) (InI (Qh+1)/\q83 (Qh+1)))) (K true)) (0:Int)) (K false))
def Gm:Jk:=z9a q0x
abbrev z7g:Type:=ByteArray->(Bool->Prop)->Prop
def z7h:z7g:=fun s K=>Lp1 (fun Qa Gy=>Cnd (Qa<(↑s.size:Int)) (((0:Int)<=Qa/\Qa<(↑s.size:Int))/\ ∀b1,s[Qa.toNat]? =some b1->Cnd ((97:Int)<=(↑b1.toNat:Int)) (Cnd ((↑b1.toNat:Int)<=122) (InI (Qa+1)/\Gy (Qa+1)) (Cnd (Qa=0) (K false) (Cnd ((48:Int)<=(↑b1.toNat:Int)) (Cnd ((↑b1.toNat:Int)<=57) (InI (Qa+1)/\Gy (Qa+1)) (Cnd ((↑b1.toNat:Int)=45) (InI (Qa+1)/\Gy (Qa+1)) (Cnd ((↑b1.toNat:Int)=95) (InI (Qa+1)/\Gy (Qa+1)) (K false)))) (Cnd ((↑b1.toNat:Int)=45) (InI (Qa+1)/\Gy (Qa+1)) (Cnd ((↑b1.toNat:Int)=95) (InI (Qa+1)/\Gy (Qa+1)) (K false)))))) (Cnd (Qa=0) (K false) (Cnd ((48:Int)<=(↑b1.toNat:Int)) (Cnd ((↑b1.toNat:Int)<=57) (InI (Qa+1)/\Gy (Qa+1)) (Cnd ((↑b1.toNat:Int)=45) (InI (Qa+1)/\Gy (Qa+1)) (Cnd ((↑b1.toNat:Int)=95) (InI (Qa+1)/\Gy (Qa+1)) (K false)))) (Cnd ((↑b1.toNat:Int)=45) (InI (Qa+1)/\Gy (Qa+1)) (Cnd ((↑b1.toNat:Int)=95) (InI (Qa+1)/\Gy (Qa+1)) (K false)))))) (K (decide ((0:Int)<(↑s.size:Int))))) (0:Int)
abbrev q44:Type:=(List (ByteArray)->Prop)->Prop
def q45:q44:=fun K=>K [B8 [97,110,100],B8 [97,114,109,115],B8 [97,116,116,114,105,98,117,116,101],B8 [98,111,111,108],B8 [99,108,97,105,109,115],B8 [99,111,110,116,97,105,110,115],B8 [99,111,111,108],B8 [99,111,111,108,105,110,103],B8 [100,101,102,97,117,108,116],B8 [100,114,97,102,116],B8 [101,110,100,115],B8 [101,120,99,108,117,100,101],B8 [101,120,105,115,116,115],B8 [101,120,112,101,114,105,109,101,110,116],B8 [102,97,108,115,101],B8 [102,108,97,103],B8 [104,111,108,100,111,117,116],B8 [105,110],B8 [105,110,99,108,117,100,101],B8 [105,115],B8 [108,97,121,101,114],B8 [108,105,115,116],B8 [109,101,109,98,101,114],B8 [110,101,101,100,115],B8 [110,111,116],B8 [110,117,109,98,101,114],B8 [111,102,102],B8 [111,110],B8 [111,114],B8 [114,117,108,101],B8 [114,117,110,110,105,110,103],B8 [115,97,108,116],B8 [115,101,103,109,101,110,116],B8 [115,101,114,118,101],B8 [115,101,116,116,105,110,103,115],B8 [115,112,108,105,116],B8 [115,116,97,114,116,115],B8 [115,116,111,112,112,101,100],B8 [116,97,114,103,101,116],B8 [116,101,120,116],B8 [116,111],B8 [116,114,117,101],B8 [117,110,116,105,108],B8 [118,97,114,105,97,116,105,111,110,115],B8 [118,101,114,115,105,111,110],B8 [119,104,101,110]]
abbrev Jb:Type:=ByteArray->(Bool->Prop)->Prop
def j7y(z8j:z7g)(q5i:q44):Jb:=fun s K=>z8j s fun Qa=>Cnd (Qa=true) (Cnd ((32:Int)<(↑s.size:Int)) (K false) (q5i fun Qh=>Lp1 (fun Ql z4t=>Fits Qh->CAt Qh Ql (fun y4=>Cnd (y4=s) (K false) (InI (Ql+1)/\z4t (Ql+1))) (K true)) (0:Int))) (K false)
def Gu:Jb:=j7y z7h q45
abbrev q0y:Type:=Sett->(Int->Prop)->Prop
def z0g(Qv:Jk)(Qk:Jb):q0y:=fun s K=>Qv s.1 fun Qa=>Cnd (Qa=true) (Cnd (s.3<0) (K (3:Int)) (Cnd ((10000:Int)<s.3) (K (3:Int)) (Qk s.2 fun Qh=>Cnd (Qh=true) (K (0:Int)) (Cnd (s.2=B8 []) (Cnd (s.3=0) (K (0:Int)) (K (6:Int))) (K (6:Int)))))) (K (2:Int))
def q46:q0y:=z0g Gm Gu
abbrev q0z:Type:=List (Decl)->(Int->Prop)->Prop
def z0h(Qk:Jb):q0z:=fun l K=>Fits l->Cnd ((30:Int)<(↑l.length:Int)) (K (5:Int)) (Lp1 (fun Qh q83=>Fits l->CAt l Qh (fun y3=>Qk y3.1 fun Zl=>Cnd (Zl=true) (At l Qh fun y6=>Qk y6.2 fun Z4=>Cnd (Z4=true) (At l Qh fun y9=>Cnd (y9.2=B8 [107,101,121]) (K (6:Int)) (At l Qh fun y11=>Cnd (y11.3<1) (K (7:Int)) (At l Qh fun y13=>Cnd ((5:Int)<y13.3) (K (7:Int)) (Cnd ((0:Int)<Qh) (At l Qh fun y15=>InI (Qh - 1)/\((0:Int)<=Qh - 1/\Qh - 1<(↑l.length:Int))/\ ∀y17,l[(Qh - 1).toNat]? =some y17->Cnd (Lk.blt y15.1 y17.1) (K (9:Int)) (At l Qh fun y19=>InI (Qh - 1)/\((0:Int)<=Qh - 1/\Qh - 1<(↑l.length:Int))/\ ∀y21,l[(Qh - 1).toNat]? =some y21->Cnd (y19.1=y21.1) (At l Qh fun y23=>InI (Qh - 1)/\((0:Int)<=Qh - 1/\Qh - 1<(↑l.length:Int))/\ ∀y25,l[(Qh - 1).toNat]? =some y25->Cnd (Lk.blt y25.2 y23.2) (InI (Qh+1)/\q83 (Qh+1)) (K (9:Int))) (InI (Qh+1)/\q83 (Qh+1)))) (InI (Qh+1)/\q83 (Qh+1)))))) (K (6:Int))) (K (6:Int))) (K (0:Int))) (0:Int))
def q47:q0z:=z0h Gu
abbrev Hc:Type:=List (ByteArray)->(Int->Prop)->Prop
def z2k(Qv:Jk):Hc:=fun l K=>Fits l->Cnd ((40:Int)<(↑l.length:Int)) (K (5:Int)) (Lp1 (fun Qh q83=>Fits l->CAt l Qh (fun y3=>Cnd (y3=B8 []) (K (2:Int)) (At l Qh fun y5=>Qv y5 fun Wt=>Cnd (Wt=true) (Cnd ((0:Int)<Qh) (At l Qh fun y8=>InI (Qh - 1)/\((0:Int)<=Qh - 1/\Qh - 1<(↑l.length:Int))/\ ∀y10,l[(Qh - 1).toNat]? =some y10->Cnd (Lk.blt y10 y8) (InI (Qh+1)/\q83 (Qh+1)) (K (9:Int))) (InI (Qh+1)/\q83 (Qh+1))) (K (2:Int)))) (K (0:Int))) (0:Int))
def q32:Hc:=z2k Gm
abbrev z7i:Type:=Ex->(Bool->Prop)->Prop
def z7j:z7i:=fun e K=>Cnd (e.1=0) (Cnd (e.2=B8 []) (Cnd (e.3=B8 []) (Fits e.4->Cnd ((↑e.4.length:Int)=0) (Fits e.5->K (decide ((↑e.5.length:Int)=0))) (K false)) (K false)) (K false)) (K false)
abbrev q6c:Type:=Ex->(Bool->Prop)->Prop
def z51(Zv:G7):q6c:=fun e K=>Fits e.5->Fits e.4->Jn2 (fun Ql Zx=>Zv e.1 fun Qn=>Cnd (Ql=true) (Cnd (Zx=true) (Cnd (Qn=true) (Cnd (Qn=true) (K true) (Cnd (e.1=5) (K true) (K (decide (e.3=B8 []))))) (Cnd (e.2=B8 []) (Cnd (Qn=true) (K true) (Cnd (e.1=5) (K true) (K (decide (e.3=B8 []))))) (K false))) (K false)) (K false)) fun j85=>Cnd (e.1=2) (Fits e.5->j85 (decide ((2:Int)<=(↑e.5.length:Int))) (decide ((↑e.4.length:Int)=0))) (Cnd (e.1=3) (Fits e.5->j85 (decide ((2:Int)<=(↑e.5.length:Int))) (decide ((↑e.4.length:Int)=0))) (Cnd (e.1=4) (Fits e.5->j85 (decide ((↑e.5.length:Int)=1)) (decide ((↑e.4.length:Int)=0))) (Cnd (e.1=8) (Fits e.4->j85 (decide ((↑e.5.length:Int)=0)) (decide ((0:Int)<(↑e.4.length:Int)))) (Zv e.1 fun Qn=>Cnd (Qn=true) (Cnd (e.1=6) (j85 (decide ((↑e.5.length:Int)=0)) (decide ((↑e.4.length:Int)=0))) (Fits e.4->j85 (decide ((↑e.5.length:Int)=0)) (decide ((↑e.4.length:Int)=1)))) (j85 (decide ((↑e.5.length:Int)=0)) (decide ((↑e.4.length:Int)=0)))))))
def z0i:q6c:=z51 Wj
abbrev z38:Type:=Val->(Bool->Prop)->Prop
def z39:z38:=fun v K=>Cnd (v.1=1) (Cnd (v.1=3) (Cnd (v.1=5) (K true) (Fits v.4->K (decide ((↑v.4.length:Int)=0)))) (Cnd (v.1=4) (Cnd (v.1=5) (K true) (Fits v.4->K (decide ((↑v.4.length:Int)=0)))) (Cnd (v.3=B8 []) (Cnd (v.1=5) (K true) (Fits v.4->K (decide ((↑v.4.length:Int)=0)))) (K false)))) (Cnd (v.1=3) (Cnd (v.1=2) (Cnd (v.1=5) (K true) (Fits v.4->K (decide ((↑v.4.length:Int)=0)))) (Cnd (v.2=0) (Cnd (v.1=5) (K true) (Fits v.4->K (decide ((↑v.4.length:Int)=0)))) (K false))) (Cnd (v.1=2) (Cnd (v.1=4) (Cnd (v.1=5) (K true) (Fits v.4->K (decide ((↑v.4.length:Int)=0)))) (Cnd (v.3=B8 []) (Cnd (v.1=5) (K true) (Fits v.4->K (decide ((↑v.4.length:Int)=0)))) (K false))) (Cnd (v.2=0) (Cnd (v.1=4) (Cnd (v.1=5) (K true) (Fits v.4->K (decide ((↑v.4.length:Int)=0)))) (Cnd (v.3=B8 []) (Cnd (v.1=5) (K true) (Fits v.4->K (decide ((↑v.4.length:Int)=0)))) (K false))) (K false))))
abbrev Bc:Type:=ByteArray->(Int->Int->Prop)->Prop
def Bd:Bc:=fun s K=>Jn1 (fun Qa=>Lp1 (fun Qh q83=>Cnd (Qh<(↑Qa.size:Int)) (((0:Int)<=Qh/\Qh<(↑Qa.size:Int))/\ ∀b2,Qa[Qh.toNat]? =some b2->Cnd ((↑b2.toNat:Int)<48) (K (0:Int) (1:Int)) (((0:Int)<=Qh/\Qh<(↑Qa.size:Int))/\ ∀b4,Qa[Qh.toNat]? =some b4->Cnd ((57:Int)<(↑b4.toNat:Int)) (K (0:Int) (1:Int)) (InI (Qh+1)/\q83 (Qh+1)))) (Cnd (Qa=B8 []) (K (0:Int) (1:Int)) (((0:Int)<=(0:Int)/\(0:Int)<(↑Qa.size:Int))/\ ∀b2,Qa[Int.toNat (0:Int)]? =some b2->Cnd ((↑b2.toNat:Int)=48) (Cnd (s=B8 [48]) (Cnd ((13:Int)<(↑Qa.size:Int)) (K (0:Int) (3:Int)) (Lp2 (fun Qw V3 v7i=>Cnd (V3<(↑Qa.size:Int)) (InI ((10:Int)*Qw)/\((0:Int)<=V3/\V3<(↑Qa.size:Int))/\ ∀b5,Qa[V3.toNat]? =some b5->InI (Go.IntKind.u8.wrap ((↑b5.toNat:Int) - 48))/\InI ((10:Int)*Qw+Go.IntKind.u8.wrap ((↑b5.toNat:Int) - 48))/\InI (V3+1)/\v7i ((10:Int)*Qw+Go.IntKind.u8.wrap ((↑b5.toNat:Int) - 48)) (V3+1)) (Cnd ((1099511627776:Int)<Qw) (K (0:Int) (3:Int)) (Cnd ((↑Qa.size:Int)<(↑s.size:Int)) (InI ((0:Int) - Qw)/\K ((0:Int) - Qw) (0:Int)) (K Qw (0:Int))))) (0:Int) (0:Int))) (K (0:Int) (1:Int))) (Cnd ((13:Int)<(↑Qa.size:Int)) (K (0:Int) (3:Int)) (Lp2 (fun Qw V3 v7i=>Cnd (V3<(↑Qa.size:Int)) (InI ((10:Int)*Qw)/\((0:Int)<=V3/\V3<(↑Qa.size:Int))/\ ∀b5,Qa[V3.toNat]? =some b5->InI (Go.IntKind.u8.wrap ((↑b5.toNat:Int) - 48))/\InI ((10:Int)*Qw+Go.IntKind.u8.wrap ((↑b5.toNat:Int) - 48))/\InI (V3+1)/\v7i ((10:Int)*Qw+Go.IntKind.u8.wrap ((↑b5.toNat:Int) - 48)) (V3+1)) (Cnd ((1099511627776:Int)<Qw) (K (0:Int) (3:Int)) (Cnd ((↑Qa.size:Int)<(↑s.size:Int)) (InI ((0:Int) - Qw)/\K ((0:Int) - Qw) (0:Int)) (K Qw (0:Int))))) (0:Int) (0:Int)))))) (0:Int)) fun j2h=>Cnd ((0:Int)<(↑s.size:Int)) (((0:Int)<=(0:Int)/\(0:Int)<(↑s.size:Int))/\ ∀b1,s[Int.toNat (0:Int)]? =some b1->Cnd ((↑b1.toNat:Int)=45) (((0:Int)<=(1:Int)/\(1:Int)<=(↑s.size:Int)/\(↑s.size:Int)<=(↑s.size:Int))/\j2h (s.extract (Int.toNat (1:Int)) (↑s.size:Int).toNat)) (j2h s)) (j2h s)
abbrev q9f:Type:=ByteArray->(A3->Bool->Prop)->Prop
def z9b(Gh:Bc):q9f:=fun s K=>LpH (fun (Qa:Int×Int×Int×Int×Int×Int×Int×Int×Unit) Gy=>Cnd (Qa.2.1<3) (Lp1 (fun Qh q83=>Cnd (Qh<(↑s.size:Int)) (((0:Int)<=Qh/\Qh<(↑s.size:Int))/\ ∀b2,s[Qh.toNat]? =some b2->Cnd ((↑b2.toNat:Int)=46) (((0:Int)<=Qa.1/\Qa.1<=Qh/\Qh<=(↑s.size:Int))/\Gh (s.extract Qa.1.toNat Qh.toNat) fun Qw V3=>Cnd (V3=0) (Cnd (Qw<0) (K ((0:Int),(0:Int),(0:Int)) false) (Cnd ((999999:Int)<Qw) (K ((0:Int),(0:Int),(0:Int)) false) (Cnd (decide (Qa.2.1<2)=decide (Qh<(↑s.size:Int))) (((0:Int)<=Qa.2.1/\Qa.2.1<(↑(3:Nat):Int))/\((True/\(Qa.2.1=(↑(nat_lit 0):Int)->InI (Qh+1)/\InI (Qa.2.1+1)/\Gy (Qh+1,Qa.2.1+1,Qw,Qa.2.2.2.1,Qa.2.2.2.2.1,Qa.2.2.2.2.2.1,Qa.2.2.2.2.2.2.1,Qa.2.2.2.2.2.2.2.1,())))/\(Qa.2.1=(↑(nat_lit 1):Int)->InI (Qh+1)/\InI (Qa.2.1+1)/\Gy (Qh+1,Qa.2.1+1,Qa.2.2.1,Qw,Qa.2.2.2.2.1,Qa.2.2.2.2.2.1,Qa.2.2.2.2.2.2.1,Qa.2.2.2.2.2.2.2.1,())))/\(Qa.2.1=(↑(nat_lit 2):Int)->InI (Qh+1)/\InI (Qa.2.1+1)/\Gy (Qh+1,Qa.2.1+1,Qa.2.2.1,Qa.2.2.2.1,Qw,Qa.2.2.2.2.2.1,Qa.2.2.2.2.2.2.1,Qa.2.2.2.2.2.2.2.1,()))) (K ((0:Int),(0:Int),(0:Int)) false)))) (K ((0:Int),(0:Int),(0:Int)) false)) (InI (Qh+1)/\q83 (Qh+1))) (((0:Int)<=Qa.1/\Qa.1<=Qh/\Qh<=(↑s.size:Int))/\Gh (s.extract Qa.1.toNat Qh.toNat) fun Ql Zx=>Cnd (Zx=0) (Cnd (Ql<0) (K ((0:Int),(0:Int),(0:Int)) false) (Cnd ((999999:Int)<Ql) (K ((0:Int),(0:Int),(0:Int)) false) (Cnd (decide (Qa.2.1<2)=decide (Qh<(↑s.size:Int))) (((0:Int)<=Qa.2.1/\Qa.2.1<(↑(3:Nat):Int))/\((True/\(Qa.2.1=(↑(nat_lit 0):Int)->InI (Qh+1)/\InI (Qa.2.1+1)/\Gy (Qh+1,Qa.2.1+1,Ql,Qa.2.2.2.1,Qa.2.2.2.2.1,Qa.2.2.2.2.2.1,Qa.2.2.2.2.2.2.1,Qa.2.2.2.2.2.2.2.1,())))/\(Qa.2.1=(↑(nat_lit 1):Int)->InI (Qh+1)/\InI (Qa.2.1+1)/\Gy (Qh+1,Qa.2.1+1,Qa.2.2.1,Ql,Qa.2.2.2.2.1,Qa.2.2.2.2.2.1,Qa.2.2.2.2.2.2.1,Qa.2.2.2.2.2.2.2.1,())))/\(Qa.2.1=(↑(nat_lit 2):Int)->InI (Qh+1)/\InI (Qa.2.1+1)/\Gy (Qh+1,Qa.2.1+1,Qa.2.2.1,Qa.2.2.2.1,Ql,Qa.2.2.2.2.2.1,Qa.2.2.2.2.2.2.1,Qa.2.2.2.2.2.2.2.1,()))) (K ((0:Int),(0:Int),(0:Int)) false)))) (K ((0:Int),(0:Int),(0:Int)) false))) Qa.1) (K (Qa.2.2.1,Qa.2.2.2.1,Qa.2.2.2.2.1) true)) ((0:Int),(0:Int),(0:Int),(0:Int),(0:Int),(0:Int),(0:Int),(0:Int),())
def z4a:q9f:=z9b Bd
abbrev z2l:Type:=List (ByteArray)->(Int->Prop)->Prop
def j3h(Qv:Jk):z2l:=fun l K=>Fits l->Cnd ((20:Int)<(↑l.length:Int)) (K (5:Int)) (Lp1 (fun Qh q83=>Fits l->CAt l Qh (fun y3=>Qv y3 fun Zl=>Cnd (Zl=true) (InI (Qh+1)/\q83 (Qh+1)) (K (2:Int))) (Lp1 (fun Qn v70=>Fits l->CAt l Qn (fun y5=>InI (Qn - 1)/\((0:Int)<=Qn - 1/\Qn - 1<(↑l.length:Int))/\ ∀y7,l[(Qn - 1).toNat]? =some y7->Cnd (Lk.blt y7 y5) (InI (Qn+1)/\v70 (Qn+1)) (K (9:Int))) (K (0:Int))) (1:Int))) (0:Int))
def z7k:z2l:=j3h Gm
abbrev q2p:Type:=Val->(Int->Prop)->Prop
def z9c(z4w:z38)(Qv:Jk)(z4x:q9f)(z8k:z2l):q2p:=fun v K=>Cnd (v.1<1) (K (7:Int)) (Cnd ((5:Int)<v.1) (K (7:Int)) (z4w v fun Qa=>Cnd (Qa=true) (Cnd (v.1=1) (Cnd (v.2=0) (K (0:Int)) (Cnd (v.2=1) (K (0:Int)) (K (3:Int)))) (Cnd (v.1=2) (Cnd (v.2<(-1099511627776:Int)) (K (3:Int)) (Cnd ((1099511627776:Int)<v.2) (K (3:Int)) (K (0:Int)))) (Cnd (v.1=3) (Qv v.3 fun Qh=>Cnd (Qh=true) (K (0:Int)) (K (2:Int))) (Cnd (v.1=4) (z4x v.3 fun (_:Int×Int×Int) Zn=>Cnd (Zn=true) (K (0:Int)) (K (1:Int))) (Cnd (v.1=5) (z8k v.4 fun Qh=>K Qh) (K (0:Int))))))) (K (15:Int))))
def q9g:q2p:=z9c z39 Gm z4a z7k
abbrev z7l:Type:=Ex->(Int->Prop)->Prop
def z7m(z1e:q6c)(Zv:G7)(Qk:Jb)(Wf:q2p):z7l:=fun e K=>Cnd (e.1<1) (K (7:Int)) (Cnd ((15:Int)<e.1) (K (7:Int)) (z1e (Ex.mk e.1 e.2 e.3 e.4 e.5) fun Qa=>Cnd (Qa=true) (Fits e.5->Cnd ((12:Int)<(↑e.5.length:Int)) (K (5:Int)) (Fits e.4->Cnd ((20:Int)<(↑e.4.length:Int)) (K (5:Int)) (Lp1 (fun Qn v70=>Fits e.5->CAt e.5 Qn (fun y5=>Cnd (y5.1=e.1) (Cnd (e.1=4) (InI (Qn+1)/\v70 (Qn+1)) (K (15:Int))) (InI (Qn+1)/\v70 (Qn+1))) (Zv e.1 fun Zl=>Cnd (Zl=true) (Qk e.2 fun Jf=>Cnd (Jf=true) (Zv e.1 fun Wt=>Cnd (Wt=true) (Qk e.3 fun Z4=>Cnd (Z4=true) (Lp1 (fun Jo v9q=>Fits e.4->CAt e.4 Jo (fun y11=>Wf y11 fun Qc=>Cnd (Qc=0) (InI (Jo+1)/\v9q (Jo+1)) (K Qc)) (Cnd (e.1=9) (((0:Int)<=(0:Int)/\(0:Int)<(↑e.4.length:Int))/\ ∀y11,e.4[Int.toNat (0:Int)]? =some y11->Cnd (y11.1=3) (K (0:Int)) (K (8:Int))) (Cnd (e.1=10) (((0:Int)<=(0:Int)/\(0:Int)<(↑e.4.length:Int))/\ ∀y11,e.4[Int.toNat (0:Int)]? =some y11->Cnd (y11.1=3) (K (0:Int)) (K (8:Int))) (Cnd (e.1=11) (((0:Int)<=(0:Int)/\(0:Int)<(↑e.4.length:Int))/\ ∀y11,e.4[Int.toNat (0:Int)]? =some y11->Cnd (y11.1=3) (K (0:Int)) (K (8:Int))) (K (0:Int)))))) (0:Int)) (K (6:Int))) (Cnd (e.1=5) (Qk e.3 fun Z4=>Cnd (Z4=true) (Lp1 (fun Jo v9q=>Fits e.4->CAt e.4 Jo (fun y11=>Wf y11 fun Qc=>Cnd (Qc=0) (InI (Jo+1)/\v9q (Jo+1)) (K Qc)) (Cnd (e.1=9) (((0:Int)<=(0:Int)/\(0:Int)<(↑e.4.length:Int))/\ ∀y11,e.4[Int.toNat (0:Int)]? =some y11->Cnd (y11.1=3) (K (0:Int)) (K (8:Int))) (Cnd (e.1=10) (((0:Int)<=(0:Int)/\(0:Int)<(↑e.4.length:Int))/\ ∀y11,e.4[Int.toNat (0:Int)]? =some y11->Cnd (y11.1=3) (K (0:Int)) (K (8:Int))) (Cnd (e.1=11) (((0:Int)<=(0:Int)/\(0:Int)<(↑e.4.length:Int))/\ ∀y11,e.4[Int.toNat (0:Int)]? =some y11->Cnd (y11.1=3) (K (0:Int)) (K (8:Int))) (K (0:Int)))))) (0:Int)) (K (6:Int))) (Lp1 (fun Z4 v9r=>Fits e.4->CAt e.4 Z4 (fun y10=>Wf y10 fun Qr=>Cnd (Qr=0) (InI (Z4+1)/\v9r (Z4+1)) (K Qr)) (Cnd (e.1=9) (((0:Int)<=(0:Int)/\(0:Int)<(↑e.4.length:Int))/\ ∀y10,e.4[Int.toNat (0:Int)]? =some y10->Cnd (y10.1=3) (K (0:Int)) (K (8:Int))) (Cnd (e.1=10) (((0:Int)<=(0:Int)/\(0:Int)<(↑e.4.length:Int))/\ ∀y10,e.4[Int.toNat (0:Int)]? =some y10->Cnd (y10.1=3) (K (0:Int)) (K (8:Int))) (Cnd (e.1=11) (((0:Int)<=(0:Int)/\(0:Int)<(↑e.4.length:Int))/\ ∀y10,e.4[Int.toNat (0:Int)]? =some y10->Cnd (y10.1=3) (K (0:Int)) (K (8:Int))) (K (0:Int)))))) (0:Int)))) (K (6:Int))) (Zv e.1 fun Jf=>Cnd (Jf=true) (Qk e.3 fun Wt=>Cnd (Wt=true) (Lp1 (fun Z4 v9r=>Fits e.4->CAt e.4 Z4 (fun y10=>Wf y10 fun Qr=>Cnd (Qr=0) (InI (Z4+1)/\v9r (Z4+1)) (K Qr)) (Cnd (e.1=9) (((0:Int)<=(0:Int)/\(0:Int)<(↑e.4.length:Int))/\ ∀y10,e.4[Int.toNat (0:Int)]? =some y10->Cnd (y10.1=3) (K (0:Int)) (K (8:Int))) (Cnd (e.1=10) (((0:Int)<=(0:Int)/\(0:Int)<(↑e.4.length:Int))/\ ∀y10,e.4[Int.toNat (0:Int)]? =some y10->Cnd (y10.1=3) (K (0:Int)) (K (8:Int))) (Cnd (e.1=11) (((0:Int)<=(0:Int)/\(0:Int)<(↑e.4.length:Int))/\ ∀y10,e.4[Int.toNat (0:Int)]? =some y10->Cnd (y10.1=3) (K (0:Int)) (K (8:Int))) (K (0:Int)))))) (0:Int)) (K (6:Int))) (Cnd (e.1=5) (Qk e.3 fun Wt=>Cnd (Wt=true) (Lp1 (fun Z4 v9r=>Fits e.4->CAt e.4 Z4 (fun y10=>Wf y10 fun Qr=>Cnd (Qr=0) (InI (Z4+1)/\v9r (Z4+1)) (K Qr)) (Cnd (e.1=9) (((0:Int)<=(0:Int)/\(0:Int)<(↑e.4.length:Int))/\ ∀y10,e.4[Int.toNat (0:Int)]? =some y10->Cnd (y10.1=3) (K (0:Int)) (K (8:Int))) (Cnd (e.1=10) (((0:Int)<=(0:Int)/\(0:Int)<(↑e.4.length:Int))/\ ∀y10,e.4[Int.toNat (0:Int)]? =some y10->Cnd (y10.1=3) (K (0:Int)) (K (8:Int))) (Cnd (e.1=11) (((0:Int)<=(0:Int)/\(0:Int)<(↑e.4.length:Int))/\ ∀y10,e.4[Int.toNat (0:Int)]? =some y10->Cnd (y10.1=3) (K (0:Int)) (K (8:Int))) (K (0:Int)))))) (0:Int)) (K (6:Int))) (Lp1 (fun Wt y24=>Fits e.4->CAt e.4 Wt (fun y9=>Wf y9 fun Wc=>Cnd (Wc=0) (InI (Wt+1)/\y24 (Wt+1)) (K Wc)) (Cnd (e.1=9) (((0:Int)<=(0:Int)/\(0:Int)<(↑e.4.length:Int))/\ ∀y9,e.4[Int.toNat (0:Int)]? =some y9->Cnd (y9.1=3) (K (0:Int)) (K (8:Int))) (Cnd (e.1=10) (((0:Int)<=(0:Int)/\(0:Int)<(↑e.4.length:Int))/\ ∀y9,e.4[Int.toNat (0:Int)]? =some y9->Cnd (y9.1=3) (K (0:Int)) (K (8:Int))) (Cnd (e.1=11) (((0:Int)<=(0:Int)/\(0:Int)<(↑e.4.length:Int))/\ ∀y9,e.4[Int.toNat (0:Int)]? =some y9->Cnd (y9.1=3) (K (0:Int)) (K (8:Int))) (K (0:Int)))))) (0:Int)))))) (0:Int)))) (K (15:Int))))
def q33:z7l:=z7m z0i Wj Gu q9g
abbrev q6d:Type:=Ex->Int->Int->(Int->Int->Prop)->Prop
def z7n(v08:z7l)(X:q6d):q6d:=fun e depth n K=>Cnd ((60:Int)<=n) (K (5:Int) n) (InI (n+1)/\Cnd ((10:Int)<depth) (K (18:Int) (n+1)) (v08 (Ex.mk e.1 e.2 e.3 e.4 e.5) fun Qa=>Cnd (Qa=0) (Lp2 (fun Qh Zn z1z=>Fits e.5->CAt e.5 Qh (fun y3=>InI (depth+1)/\X (Ex.mk y3.1 y3.2 y3.3 y3.4 y3.5) (depth+1) Zn fun Zl z4v=>Cnd (Zl=0) (InI (Qh+1)/\z1z (Qh+1) z4v) (K Zl z4v)) (K (0:Int) Zn)) (0:Int) (n+1)) (K Qa (n+1))))
def z2m:q6d:=fun e depth n K=> ∀X:q6d,(∀e depth n K,z7n q33 X e depth n K->X e depth n K)->X e depth n K
abbrev q00:Type:=Ex->(Int->Prop)->Prop
def z7o(z8l:q6d):q00:=fun e K=>z8l (Ex.mk e.1 e.2 e.3 e.4 e.5) (1:Int) (0:Int) fun Qa _=>K Qa
def q34:q00:=z7o z2m
abbrev q35:Type:=Seg->(Int->Prop)->Prop
def q7q(Qk:Jb)(Wv:Hc)(z8m:z7i)(Vp:q00):q35:=fun g K=>Qk g.1 fun Qa=>Cnd (Qa=true) (Qk g.2 fun Qh=>Cnd (Qh=true) (Wv g.3 fun Ql=>Cnd (Ql=0) (Wv g.4 fun Qn=>Cnd (Qn=0) (z8m (Ex.mk g.5.1 g.5.2 g.5.3 g.5.4 g.5.5) fun Qw=>Cnd (Qw=true) (K (0:Int)) (Vp (Ex.mk g.5.1 g.5.2 g.5.3 g.5.4 g.5.5) fun Zl=>K Zl)) (K Qn)) (K Ql)) (K (6:Int))) (K (6:Int))
def q0c:q35:=q7q Gu q32 z7j q34
abbrev q01:Type:=List (Seg)->(Int->Prop)->Prop
def q48(q78:q35):q01:=fun l K=>Fits l->Cnd ((20:Int)<(↑l.length:Int)) (K (5:Int)) (Lp1 (fun Qh q83=>Fits l->CAt l Qh (fun y3=>q78 (Seg.mk y3.1 y3.2 y3.3 y3.4 (Ex.mk y3.5.1 y3.5.2 y3.5.3 y3.5.4 y3.5.5)) fun Zl=>Cnd (Zl=0) (Cnd ((0:Int)<Qh) (At l Qh fun y6=>InI (Qh - 1)/\((0:Int)<=Qh - 1/\Qh - 1<(↑l.length:Int))/\ ∀y8,l[(Qh - 1).toNat]? =some y8->Cnd (Lk.blt y8.1 y6.1) (InI (Qh+1)/\q83 (Qh+1)) (K (9:Int))) (InI (Qh+1)/\q83 (Qh+1))) (K Zl)) (K (0:Int))) (0:Int))
def H4:q01:=q48 q0c
abbrev Hd:Type:=Flg->(Int->Prop)->Prop
def q02(Wf:q2p):Hd:=fun f K=>Fits f.3->Cnd ((8:Int)<(↑f.3.length:Int)) (K (5:Int)) (Cnd ((↑f.3.length:Int)=0) (K (3:Int)) (Lp1 (fun Qh q83=>CAt f.3 Qh (fun y2=>Wf y2 fun Qw=>Cnd (Qw=0) (At f.3 Qh fun y5=>Cnd (y5.1=f.2) (InI (Qh+1)/\q83 (Qh+1)) (K (8:Int))) (K Qw)) (Cnd (f.5<1) (K (3:Int)) (Cnd ((↑f.3.length:Int)<f.5) (K (3:Int)) (K (0:Int))))) (0:Int)))
def Ud:Hd:=q02 q9g
abbrev Vk:Type:=List (Prq)->(Int->Prop)->Prop
def Gv(Qk:Jb):Vk:=fun l K=>Fits l->Cnd ((4:Int)<(↑l.length:Int)) (K (5:Int)) (Lp1 (fun Qh q83=>Fits l->CAt l Qh (fun y3=>Qk y3.1 fun Zl=>Cnd (Zl=true) (Cnd ((0:Int)<Qh) (At l Qh fun y6=>InI (Qh - 1)/\((0:Int)<=Qh - 1/\Qh - 1<(↑l.length:Int))/\ ∀y8,l[(Qh - 1).toNat]? =some y8->Cnd (Lk.blt y8.1 y6.1) (At l Qh fun y10=>Cnd (y10.2<1) (K (3:Int)) (At l Qh fun y12=>Cnd ((8:Int)<y12.2) (K (3:Int)) (InI (Qh+1)/\q83 (Qh+1)))) (K (9:Int))) (At l Qh fun y6=>Cnd (y6.2<1) (K (3:Int)) (At l Qh fun y8=>Cnd ((8:Int)<y8.2) (K (3:Int)) (InI (Qh+1)/\q83 (Qh+1))))) (K (6:Int))) (K (0:Int))) (0:Int))
def Wd:Vk:=Gv Gu
abbrev q36:Type:=List (Tgt)->Int->(Int->Prop)->Prop
def q7r(Qk:Jb)(Wv:Hc):q36:=fun l n K=>Fits l->Cnd ((8:Int)<(↑l.length:Int)) (K (5:Int)) (Lp1 (fun Qh q83=>Fits l->CAt l Qh (fun y3=>Qk y3.1 fun Zl=>Cnd (Zl=true) (At l Qh fun y6=>Cnd (y6.2<1) (K (3:Int)) (At l Qh fun y8=>Cnd (n<y8.2) (K (3:Int)) (At l Qh fun y10=>Fits y10.3->Cnd ((↑y10.3.length:Int)=0) (K (3:Int)) (At l Qh fun y13=>Wv y13.3 fun Zo=>Cnd (Zo=0) (InI (Qh+1)/\q83 (Qh+1)) (K Zo))))) (K (6:Int))) (K (0:Int))) (0:Int))
def q0d:q36:=q7r Gu q32
abbrev q5q:Type:=List (Rng)->Int->(Int->Prop)->Prop
def q9h:q5q:=fun l variations K=>Fits l->Cnd ((16:Int)<(↑l.length:Int)) (K (5:Int)) (Lp2 (fun Qh Zn z1z=>Fits l->CAt l Zn (fun y3=>Cnd (y3.3<1) (K (3:Int)) (At l Zn fun y5=>Cnd (variations<y5.3) (K (3:Int)) (At l Zn fun y7=>Cnd (y7.1=Qh) (At l Zn fun y9=>Cnd (y9.2<=Qh) (K (9:Int)) (Cnd ((0:Int)<Zn) (At l Zn fun y11=>InI (Zn - 1)/\((0:Int)<=Zn - 1/\Zn - 1<(↑l.length:Int))/\ ∀y13,l[(Zn - 1).toNat]? =some y13->Cnd (y11.3=y13.3) (K (9:Int)) (At l Zn fun y15=>InI (Zn+1)/\z1z y15.2 (Zn+1))) (At l Zn fun y11=>InI (Zn+1)/\z1z y11.2 (Zn+1)))) (K (9:Int))))) (Cnd (Qh=10000) (K (0:Int)) (K (3:Int)))) (0:Int) (0:Int))
abbrev q2q:Type:=Srv->Int->(Int->Prop)->Prop
def z4b(Qk:Jb)(Qv:Jk)(Rm:q5q):q2q:=fun v variations K=>Cnd (v.1=0) (Qk v.2 fun Qa=>Cnd (Qa=true) (Qk v.3 fun Qh=>Cnd (Qh=true) (Qv v.4 fun Ql=>Cnd (Ql=true) (Rm v.5 variations fun Qn=>K Qn) (K (2:Int))) (K (6:Int))) (K (6:Int))) (Cnd (v.1<1) (K (3:Int)) (Cnd (variations<v.1) (K (3:Int)) (Cnd (v.2=B8 []) (Cnd (v.3=B8 []) (Cnd (v.4=B8 []) (Fits v.5->Cnd ((0:Int)<(↑v.5.length:Int)) (K (15:Int)) (K (0:Int))) (K (15:Int))) (K (15:Int))) (K (15:Int)))))
def q2r:q2q:=z4b Gu Gm q9h
abbrev q9i:Type:=List (Rul)->Int->(Int->Prop)->Prop
def z4c(Qk:Jb)(Vp:q00)(Rn:q2q):q9i:=fun l n K=>Fits l->Cnd ((12:Int)<(↑l.length:Int)) (K (5:Int)) (Lp1 (fun Qh q83=>Fits l->CAt l Qh (fun y3=>Qk y3.1 fun Zl=>Cnd (Zl=true) (Lp1 (fun Jf y28=>Cnd (Jf<Qh) (At l Jf fun y7=>At l Qh fun y9=>Cnd (y7.1=y9.1) (K (10:Int)) (InI (Jf+1)/\y28 (Jf+1))) (At l Qh fun y7=>Vp (Ex.mk y7.2.1 y7.2.2 y7.2.3 y7.2.4 y7.2.5) fun Jo=>Cnd (Jo=0) (At l Qh fun y10=>Rn (Srv.mk y10.3.1 y10.3.2 y10.3.3 y10.3.4 y10.3.5) n fun Qr=>Cnd (Qr=0) (InI (Qh+1)/\q83 (Qh+1)) (K Qr)) (K Jo))) (0:Int)) (K (6:Int))) (K (0:Int))) (0:Int))
def q5r:q9i:=z4c Gu q34 q2r
abbrev z2n:Type:=Flg->(Int->Prop)->Prop
def z7p(Qk:Jb)(q14:Hd)(G0:Vk)(q79:q36)(z4y:q9i)(Rn:q2q):z2n:=fun f K=>Fits f.3->Qk f.1 fun Qh=>Cnd (Qh=true) (Cnd (f.2<1) (K (7:Int)) (Cnd ((5:Int)<f.2) (K (7:Int)) (q14 (Flg.mk f.1 f.2 f.3 f.4 f.5 f.6 f.7 f.8 (Srv.mk f.9.1 f.9.2 f.9.3 f.9.4 f.9.5)) fun Ql=>Cnd (Ql=0) (G0 f.6 fun Qn=>Cnd (Qn=0) (q79 f.7 (↑f.3.length:Int) fun Qw=>Cnd (Qw=0) (z4y f.8 (↑f.3.length:Int) fun Zl=>Cnd (Zl=0) (Rn (Srv.mk f.9.1 f.9.2 f.9.3 f.9.4 f.9.5) (↑f.3.length:Int) fun Jf=>K Jf) (K Zl)) (K Qw)) (K Qn)) (K Ql)))) (K (6:Int))
def q9j:z2n:=z7p Gu Ud Wd q0d q5r q2r
abbrev q9k:Type:=List (Flg)->(Int->Prop)->Prop
def z4d(z8n:z2n):q9k:=fun l K=>Fits l->Cnd ((30:Int)<(↑l.length:Int)) (K (5:Int)) (Lp1 (fun Qh q83=>Fits l->CAt l Qh (fun y3=>z8n (Flg.mk y3.1 y3.2 y3.3 y3.4 y3.5 y3.6 y3.7 y3.8 (Srv.mk y3.9.1 y3.9.2 y3.9.3 y3.9.4 y3.9.5)) fun Zl=>Cnd (Zl=0) (Cnd ((0:Int)<Qh) (At l Qh fun y6=>InI (Qh - 1)/\((0:Int)<=Qh - 1/\Qh - 1<(↑l.length:Int))/\ ∀y8,l[(Qh - 1).toNat]? =some y8->Cnd (Lk.blt y8.1 y6.1) (InI (Qh+1)/\q83 (Qh+1)) (K (9:Int))) (InI (Qh+1)/\q83 (Qh+1))) (K Zl)) (K (0:Int))) (0:Int))
def q5s:q9k:=z4d q9j
abbrev q9l:Type:=Lay_->(Int->Prop)->Prop
def z4e(Qk:Jb)(Qv:Jk):q9l:=fun l K=>Qk l.1 fun Qa=>Cnd (Qa=true) (Qk l.2 fun Qh=>Cnd (Qh=true) (Qv l.3 fun Ql=>Cnd (Ql=true) (Cnd (l.4<0) (K (3:Int)) (Cnd ((10000:Int)<l.4) (K (3:Int)) (Cnd (l.5<0) (K (3:Int)) (Cnd ((1099511627776:Int)<l.5) (K (3:Int)) (Fits l.6->Cnd ((32:Int)<(↑l.6.length:Int)) (K (5:Int)) (Lp1 (fun Qw v95=>Fits l.6->CAt l.6 Qw (fun y6=>Cnd (y6.1<0) (K (3:Int)) (Cnd (y6.2<=y6.1) (K (3:Int)) (Cnd ((10000:Int)<y6.2) (K (3:Int)) (Cnd (y6.3<0) (K (3:Int)) (Cnd ((1099511627776:Int)<y6.3) (K (3:Int)) (Cnd ((0:Int)<Qw) (InI (Qw - 1)/\((0:Int)<=Qw - 1/\Qw - 1<(↑l.6.length:Int))/\ ∀y8,l.6[(Qw - 1).toNat]? =some y8->Cnd (y6.1<y8.2) (K (9:Int)) (InI (Qw+1)/\v95 (Qw+1))) (InI (Qw+1)/\v95 (Qw+1)))))))) (K (0:Int))) (0:Int))))))) (K (2:Int))) (K (6:Int))) (K (6:Int))
def q5t:q9l:=z4e Gu Gm
abbrev q6e:Type:=List (Lay_)->(Int->Prop)->Prop
def z0j(z4z:q9l):q6e:=fun l K=>Fits l->Cnd ((6:Int)<(↑l.length:Int)) (K (5:Int)) (Lp1 (fun Qh q83=>Fits l->CAt l Qh (fun y3=>z4z y3 fun Zl=>Cnd (Zl=0) (Cnd ((0:Int)<Qh) (At l Qh fun y6=>InI (Qh - 1)/\((0:Int)<=Qh - 1/\Qh - 1<(↑l.length:Int))/\ ∀y8,l[(Qh - 1).toNat]? =some y8->Cnd (Lk.blt y8.1 y6.1) (InI (Qh+1)/\q83 (Qh+1)) (K (9:Int))) (InI (Qh+1)/\q83 (Qh+1))) (K Zl)) (K (0:Int))) (0:Int))
def q2s:q6e:=z0j q5t
abbrev z4f:Type:=List (Spn)->(Int->Prop)->Prop
def z4g:z4f:=fun l K=>Fits l->Cnd ((16:Int)<(↑l.length:Int)) (K (5:Int)) (Lp1 (fun Qh q83=>Fits l->CAt l Qh (fun y3=>Cnd (y3.1<0) (K (3:Int)) (At l Qh fun y5=>At l Qh fun y7=>Cnd (y7.2<=y5.1) (K (3:Int)) (At l Qh fun y9=>Cnd ((10000:Int)<y9.2) (K (3:Int)) (Cnd ((0:Int)<Qh) (At l Qh fun y11=>InI (Qh - 1)/\((0:Int)<=Qh - 1/\Qh - 1<(↑l.length:Int))/\ ∀y13,l[(Qh - 1).toNat]? =some y13->Cnd (y11.1<=y13.2) (K (9:Int)) (InI (Qh+1)/\q83 (Qh+1))) (InI (Qh+1)/\q83 (Qh+1)))))) (K (0:Int))) (0:Int))
abbrev He:Type:=Exper->(Int->Prop)->Prop
def q03(Qk:Jb)(Qv:Jk)(z40:z4f)(Rm:q5q)(Vp:q00):He:=fun x K=>Qk x.1 fun Qa=>Cnd (Qa=true) (Qk x.2 fun Qh=>Cnd (Qh=true) (Qk x.3 fun Ql=>Cnd (Ql=true) (Qv x.4 fun Qn=>Cnd (Qn=true) (Cnd (x.5<1) (K (7:Int)) (Cnd ((3:Int)<x.5) (K (7:Int)) (z40 x.6 fun Qw=>Cnd (Qw=0) (Rm x.7 (8:Int) fun Zl=>Cnd (Zl=0) (Vp (Ex.mk x.8.1 x.8.2 x.8.3 x.8.4 x.8.5) fun Jf=>K Jf) (K Zl)) (K Qw)))) (K (2:Int))) (K (6:Int))) (K (6:Int))) (K (6:Int))
def Ue:He:=q03 Gu Gm z4g q9h q34
abbrev Gd:Type:=List (Exper)->(Int->Prop)->Prop
def Be(q15:He):Gd:=fun l K=>Fits l->Cnd ((16:Int)<(↑l.length:Int)) (K (5:Int)) (Lp1 (fun Qh q83=>Fits l->CAt l Qh (fun y3=>q15 (Exper.mk y3.1 y3.2 y3.3 y3.4 y3.5 y3.6 y3.7 (Ex.mk y3.8.1 y3.8.2 y3.8.3 y3.8.4 y3.8.5)) fun Zl=>Cnd (Zl=0) (Cnd ((0:Int)<Qh) (At l Qh fun y6=>InI (Qh - 1)/\((0:Int)<=Qh - 1/\Qh - 1<(↑l.length:Int))/\ ∀y8,l[(Qh - 1).toNat]? =some y8->Cnd (Lk.blt y8.1 y6.1) (InI (Qh+1)/\q83 (Qh+1)) (K (9:Int))) (InI (Qh+1)/\q83 (Qh+1))) (K Zl)) (K (0:Int))) (0:Int))
def Vd:Gd:=Be Ue
abbrev Wn:Type:=Envt->(Int->Prop)->Prop
def Bf(q5j:q0y)(q5k:q0z)(q5l:q01)(z41:q9k)(z1f:q6e)(Bo:Gd):Wn:=fun v K=>q5j (Sett.mk v.1.1 v.1.2 v.1.3) fun Qa=>Cnd (Qa=0) (q5k v.2 fun Qh=>Cnd (Qh=0) (q5l v.3 fun Ql=>Cnd (Ql=0) (z41 v.4 fun Qn=>Cnd (Qn=0) (z1f v.5 fun Qw=>Cnd (Qw=0) (Bo v.6 fun Zl=>K Zl) (K Qw)) (K Qn)) (K Ql)) (K Qh)) (K Qa)
def Wo:Wn:=Bf q46 q47 H4 q5s q2s Vd
abbrev q0e:Type:=List (Seg)->(List (ByteArray)->Prop)->Prop
def q9m:q0e:=fun l K=>Lp2 (fun Qa Q8 q10=>Fits l->CAt l Q8 (fun y2=>Sml (Qa++[y2.1]).length/\InI (Q8+1)/\q10 (Qa++[y2.1]) (Q8+1)) (K Qa)) [] (0:Int)
abbrev z0k:Type:=List (ByteArray)->ByteArray->(Bool->Prop)->Prop
def q7s:z0k:=fun l s K=>Lp1 (fun Qa Gy=>Fits l->CAt l Qa (fun y2=>Cnd (y2=s) (K true) (InI (Qa+1)/\Gy (Qa+1))) (K false)) (0:Int)
abbrev z2o:Type:=List (Decl)->ByteArray->ByteArray->(Int->Prop)->Prop
def q37:z2o:=fun l kind name K=>Lp1 (fun Qa Gy=>Fits l->CAt l Qa (fun y2=>Cnd (y2.1=kind) (At l Qa fun y4=>Cnd (y4.2=name) (At l Qa fun y6=>K y6.3) (InI (Qa+1)/\Gy (Qa+1))) (InI (Qa+1)/\Gy (Qa+1))) (Cnd (name=B8 [107,101,121]) (K (3:Int)) (K (0:Int)))) (0:Int)
abbrev j3i:Type:=Int->Ex->(Bool->Prop)->Prop
def q6f:j3i:=fun t e K=>Cnd (e.1=6) (K true) (Cnd (e.1=8) (Lp1 (fun Qa Gy=>Fits e.4->CAt e.4 Qa (fun y2=>Cnd (y2.1=t) (InI (Qa+1)/\Gy (Qa+1)) (K false)) (K (match decide ((t,e,()).1=5) with|true=>false|false=>true))) (0:Int)) (Fits e.4->Cnd ((↑e.4.length:Int)=0) (K false) (((0:Int)<=(0:Int)/\(0:Int)<(↑e.4.length:Int))/\ ∀y1,e.4[Int.toNat (0:Int)]? =some y1->Cnd (e.1=7) (K (decide (y1.1=t))) (Jn1 (fun Qn=>Cnd (Qn=true) (Cnd (t=3) (K (decide (y1.1=3))) (K false)) (Cnd (e.1=11) (Cnd (t=3) (K (decide (y1.1=3))) (Cnd (t=5) (K (decide (y1.1=3))) (K false))) (Cnd (t=2) (K (decide (y1.1=t))) (Cnd (t=3) (K (decide (y1.1=t))) (Cnd (t=4) (K (decide (y1.1=t))) (K false)))))) fun v4y=>Cnd (e.1=9) (v4y (decide (e.1=9))) (v4y (decide (e.1=10)))))))
abbrev Hf:Type:=List (Decl)->List (ByteArray)->Ex->(Int->Prop)->Prop
def j3j(q16:z0k)(Zv:G7)(q7i:z2o)(w1m:j3i)(X:Hf):Hf:=fun l segments e K=>Cnd (e.1=5) (q16 segments e.3 fun Qa=>Cnd (Qa=true) (Jn0 (Lp1 (fun Qh q83=>Fits e.5->CAt e.5 Qh (fun y3=>X l segments (Ex.mk y3.1 y3.2 y3.3 y3.4 y3.5) fun Zl=>Cnd (Zl=0) (InI (Qh+1)/\q83 (Qh+1)) (K Zl)) (K (0:Int))) (0:Int)) fun Qh=>Zv e.1 fun Ql=>Cnd (Ql=true) (q7i l e.2 e.3 fun Qn=>Cnd (Qn=0) (K (11:Int)) (w1m Qn (Ex.mk e.1 e.2 e.3 e.4 e.5) fun Qw=>Cnd (Qw=true) Qh (K (8:Int)))) Qh) (K (11:Int))) (Jn0 (Lp1 (fun Qa Gy=>Fits e.5->CAt e.5 Qa (fun y2=>X l segments (Ex.mk y2.1 y2.2 y2.3 y2.4 y2.5) fun Qw=>Cnd (Qw=0) (InI (Qa+1)/\Gy (Qa+1)) (K Qw)) (K (0:Int))) (0:Int)) fun Qa=>Zv e.1 fun Qh=>Cnd (Qh=true) (q7i l e.2 e.3 fun Ql=>Cnd (Ql=0) (K (11:Int)) (w1m Ql (Ex.mk e.1 e.2 e.3 e.4 e.5) fun Qn=>Cnd (Qn=true) Qa (K (8:Int)))) Qa)
def q9n:Hf:=fun l segments e K=> ∀X:Hf,(∀l segments e K,j3j q7s Wj q37 q6f X l segments e K->X l segments e K)->X l segments e K
abbrev z0l:Type:=List (ByteArray)->ByteArray->(List (ByteArray)->Prop)->Prop
def q7t:z0l:=fun l s K=>Lp1 (fun Qa Gy=>Fits l->CAt l Qa (fun y2=>Cnd (Lk.blt y2 s) (InI (Qa+1)/\Gy (Qa+1)) (Fits l->CAt l Qa (fun y5=>Cnd (y5=s) (K l) (((0:Int)<=(0:Int)/\(0:Int)<=Qa/\Qa<=(↑l.length:Int))/\Sml ([]++List.drop (Int.toNat (0:Int)) (List.take Qa.toNat l)).length/\((0:Int)<=Qa/\Qa<=(↑l.length:Int)/\(↑l.length:Int)<=(↑l.length:Int))/\Sml ([]++List.drop (Int.toNat (0:Int)) (List.take Qa.toNat l)++[s]).length/\Sml ([]++List.drop (Int.toNat (0:Int)) (List.take Qa.toNat l)++[s]++List.drop Qa.toNat (List.take (↑l.length:Int).toNat l)).length/\K ([]++List.drop (Int.toNat (0:Int)) (List.take Qa.toNat l)++[s]++List.drop Qa.toNat (List.take (↑l.length:Int).toNat l)))) (((0:Int)<=(0:Int)/\(0:Int)<=Qa/\Qa<=(↑l.length:Int))/\Sml ([]++List.drop (Int.toNat (0:Int)) (List.take Qa.toNat l)).length/\((0:Int)<=Qa/\Qa<=(↑l.length:Int)/\(↑l.length:Int)<=(↑l.length:Int))/\Sml ([]++List.drop (Int.toNat (0:Int)) (List.take Qa.toNat l)++[s]).length/\Sml ([]++List.drop (Int.toNat (0:Int)) (List.take Qa.toNat l)++[s]++List.drop Qa.toNat (List.take (↑l.length:Int).toNat l)).length/\K ([]++List.drop (Int.toNat (0:Int)) (List.take Qa.toNat l)++[s]++List.drop Qa.toNat (List.take (↑l.length:Int).toNat l))))) (Fits l->CAt l Qa (fun y3=>Cnd (y3=s) (K l) (((0:Int)<=(0:Int)/\(0:Int)<=Qa/\Qa<=(↑l.length:Int))/\Sml ([]++List.drop (Int.toNat (0:Int)) (List.take Qa.toNat l)).length/\((0:Int)<=Qa/\Qa<=(↑l.length:Int)/\(↑l.length:Int)<=(↑l.length:Int))/\Sml ([]++List.drop (Int.toNat (0:Int)) (List.take Qa.toNat l)++[s]).length/\Sml ([]++List.drop (Int.toNat (0:Int)) (List.take Qa.toNat l)++[s]++List.drop Qa.toNat (List.take (↑l.length:Int).toNat l)).length/\K ([]++List.drop (Int.toNat (0:Int)) (List.take Qa.toNat l)++[s]++List.drop Qa.toNat (List.take (↑l.length:Int).toNat l)))) (((0:Int)<=(0:Int)/\(0:Int)<=Qa/\Qa<=(↑l.length:Int))/\Sml ([]++List.drop (Int.toNat (0:Int)) (List.take Qa.toNat l)).length/\((0:Int)<=Qa/\Qa<=(↑l.length:Int)/\(↑l.length:Int)<=(↑l.length:Int))/\Sml ([]++List.drop (Int.toNat (0:Int)) (List.take Qa.toNat l)++[s]).length/\Sml ([]++List.drop (Int.toNat (0:Int)) (List.take Qa.toNat l)++[s]++List.drop Qa.toNat (List.take (↑l.length:Int).toNat l)).length/\K ([]++List.drop (Int.toNat (0:Int)) (List.take Qa.toNat l)++[s]++List.drop Qa.toNat (List.take (↑l.length:Int).toNat l))))) (0:Int)
abbrev Hg:Type:=List (ByteArray)->Ex->(List (ByteArray)->Prop)->Prop
def z2p(q17:z0l)(X:Hg):Hg:=fun l e K=>Jn1 (fun Qa=>Lp2 (fun Qh Zn z1z=>Fits e.5->CAt e.5 Zn (fun y3=>X Qh (Ex.mk y3.1 y3.2 y3.3 y3.4 y3.5) fun Zl=>InI (Zn+1)/\z1z Zl (Zn+1)) (K Qh)) Qa (0:Int)) fun j2h=>Cnd (e.1=5) (q17 l e.3 fun Qh=>j2h Qh) (j2h l)
def q7u:Hg:=fun l e K=> ∀X:Hg,(∀l e K,z2p q7t X l e K->X l e K)->X l e K
abbrev q38:Type:=Ex->(List (ByteArray)->Prop)->Prop
def z2q(q8a:Hg):q38:=fun e K=>q8a [] (Ex.mk e.1 e.2 e.3 e.4 e.5) fun Qa=>K Qa
def q7v:q38:=z2q q7u
abbrev q6g:Type:=List (Seg)->(List (Edg)->Prop)->Prop
def z52(q8b:q38):q6g:=fun l K=>Lp2 (fun Qa Q8 q10=>Fits l->CAt l Q8 (fun y2=>q8b (Ex.mk y2.5.1 y2.5.2 y2.5.3 y2.5.4 y2.5.5) fun Qw=>Lp2 (fun Zl z4v y1l=>Fits Qw->Cnd (z4v<(↑Qw.length:Int)) (At l Q8 fun y7=>At Qw z4v fun y9=>Sml (Zl++[Edg.mk y7.1 y9]).length/\InI (z4v+1)/\y1l (Zl++[Edg.mk y7.1 y9]) (z4v+1)) (InI (Q8+1)/\q10 Zl (Q8+1))) Qa (0:Int)) (K Qa)) [] (0:Int)
def z0m:q6g:=z52 q7v
abbrev q9o:Type:=List (Edg)->ByteArray->(List (ByteArray)->Prop)->Prop
def z9d(q16:z0k)(q17:z0l):q9o:=fun edges node K=>Lp2 (fun Qa Q8 q10=>Fits Q8->Cnd ((0:Int)<(↑Q8.length:Int)) (((0:Int)<=(0:Int)/\(0:Int)<(↑Q8.length:Int))/\ ∀y2,Q8[Int.toNat (0:Int)]? =some y2->((0:Int)<=(1:Int)/\(1:Int)<=(↑Q8.length:Int)/\(↑Q8.length:Int)<=(↑Q8.length:Int))/\Lp3 (fun Qw V3 z8s v71=>Fits edges->CAt edges z8s (fun y6=>Cnd (y6.1=y2) (At edges z8s fun y8=>q16 Qw y8.2 fun Q9=>Cnd (Q9=true) (InI (z8s+1)/\v71 Qw V3 (z8s+1)) (At edges z8s fun y11=>q17 Qw y11.2 fun Qc=>At edges z8s fun y14=>(Sml ([]++V3).length/\Sml ([]++V3++[y14.2]).length/\InI (z8s+1)/\v71 Qc ([]++V3++[y14.2]) (z8s+1))/\Sml ([]++V3).length/\Sml ([]++V3++[y14.2]).length/\InI (z8s+1)/\v71 Qc ([]++V3++[y14.2]) (z8s+1))) (InI (z8s+1)/\v71 Qw V3 (z8s+1))) (q10 Qw V3)) Qa (List.drop (Int.toNat (1:Int)) (List.take (↑Q8.length:Int).toNat Q8)) (0:Int)) (K Qa)) [] [node]
def z4h:q9o:=z9d q7s q7t
abbrev q6h:Type:=List (ByteArray)->List (Edg)->(List (ByteArray)->Prop)->Prop
def z54(z42:q9o)(q16:z0k)(q17:z0l):q6h:=fun nodes edges K=>Lp2 (fun Qa Q8 q10=>Fits nodes->CAt nodes Q8 (fun y2=>At nodes Q8 fun y4=>z42 edges y2 fun Jf=>q16 Jf y4 fun Wt=>Cnd (Wt=true) (At nodes Q8 fun y8=>q17 Qa y8 fun Q9=>InI (Q8+1)/\q10 Q9 (Q8+1)) (InI (Q8+1)/\q10 Qa (Q8+1))) (K Qa)) [] (0:Int)
def z0n:q6h:=z54 z4h q7s q7t
abbrev q6i:Type:=List (ByteArray)->List (Edg)->(ByteArray->Bool->Prop)->Prop
def z55(z1g:q6h):q6i:=fun nodes edges K=>z1g nodes edges fun Qa=>Fits Qa->Cnd ((↑Qa.length:Int)=0) (K (B8 []) false) (((0:Int)<=(0:Int)/\(0:Int)<(↑Qa.length:Int))/\ ∀y2,Qa[Int.toNat (0:Int)]? =some y2->K y2 true)
def z0o:q6i:=z55 z0n
abbrev q0f:Type:=Envt->ByteArray->(Int->Prop)->Prop
def q7w:q0f:=fun v key K=>Lp1 (fun Qa Gy=>Fits v.4->CAt v.4 Qa (fun y2=>Cnd (y2.1=key) (K Qa) (InI (Qa+1)/\Gy (Qa+1))) (K (-1:Int))) (0:Int)
abbrev q9p:Type:=List (Decl)->Srv->(Int->Prop)->Prop
def z9e(q7i:z2o):q9p:=fun l v K=>Cnd (v.1=0) (q7i l v.2 v.3 fun Qa=>Cnd (Qa=0) (K (11:Int)) (Cnd (Qa=5) (K (8:Int)) (K (0:Int)))) (K (0:Int))
def z4i:q9p:=z9e q37
abbrev Hh:Type:=Envt->Flg->(Int->Prop)->Prop
def q6j(Wg:q0e)(Vq:q0f)(Vr:Hf)(q9x:q9p)(Q1:Z0):Hh:=fun v f K=>Wg v.3 fun Qa=>Lp2 (fun Qh Zn z1z=>Fits f.6->CAt f.6 Qh (fun y3=>Vq (Envt.mk (Sett.mk v.1.1 v.1.2 v.1.3) v.2 v.3 v.4 v.5 v.6) y3.1 fun Zl=>Cnd (Zl<0) (K (11:Int)) (At f.6 Qh fun y6=>At v.4 Zl fun y8=>Fits y8.3->Cnd ((↑y8.3.length:Int)<y6.2) (K (3:Int)) (InI (Qh+1)/\z1z (Qh+1) Zn))) (Lp2 (fun Qn Wx j2j=>Fits f.8->CAt f.8 Qn (fun y5=>Vr v.2 Wx (Ex.mk y5.2.1 y5.2.2 y5.2.3 y5.2.4 y5.2.5) fun Wt=>Cnd (Wt=0) (At f.8 Qn fun y8=>q9x v.2 (Srv.mk y8.3.1 y8.3.2 y8.3.3 y8.3.4 y8.3.5) fun Q9=>Cnd (Q9=0) (InI (Qn+1)/\j2j (Qn+1) Wx) (K Q9)) (K Wt)) (q9x v.2 (Srv.mk f.9.1 f.9.2 f.9.3 f.9.4 f.9.5) fun Zl=>Cnd (Zl=0) (Q1 f.8 fun Jf _ v96=>Cnd (v96=true) (Fits Jf->Cnd ((0:Int)<(↑Jf.length:Int)) (K (13:Int)) (K (0:Int))) (K (19:Int))) (K Zl))) (0:Int) Zn)) (0:Int) Qa
def q04:Hh:=q6j q9m q7w q9n z4i Jw
abbrev q3h:Type:=Envt->(List (ByteArray)->Prop)->Prop
def q8g:q3h:=fun v K=>Lp2 (fun Qa Q8 q10=>Fits v.4->CAt v.4 Q8 (fun y2=>Sml (Qa++[y2.1]).length/\InI (Q8+1)/\q10 (Qa++[y2.1]) (Q8+1)) (K Qa)) [] (0:Int)
abbrev q05:Type:=Envt->(List (Edg)->Prop)->Prop
def q06:q05:=fun v K=>Lp2 (fun Qa Q8 q10=>Fits v.4->Cnd (Q8<(↑v.4.length:Int)) (Lp2 (fun Ql Zx q82=>At v.4 Q8 fun y3=>Fits y3.6->Cnd (Zx<(↑y3.6.length:Int)) (At v.4 Q8 fun y6=>At v.4 Q8 fun y8=>At y8.6 Zx fun y10=>Sml (Ql++[Edg.mk y6.1 y10.1]).length/\InI (Zx+1)/\q82 (Ql++[Edg.mk y6.1 y10.1]) (Zx+1)) (InI (Q8+1)/\q10 Ql (Q8+1))) Qa (0:Int)) (K Qa)) [] (0:Int)
abbrev Hi:Type:=List (Spn)->List (Spn)->(List (Spn)->Prop)->Prop
def q7x(Zc:Vj)(Zb:Wl):Hi:=fun a b K=>Zc a fun Qa=>Zc b fun Qh=>Lp2 (fun Ql Zx q82=>Fits Zx->CAt Zx Ql (fun y4=>Cnd (y4=true) (At Qh Ql fun y6=>At Zx Ql fun _=>InI (Ql+1)/\q82 (Ql+1) (Zx.set Ql.toNat y6)) (At Zx Ql fun _=>InI (Ql+1)/\q82 (Ql+1) (Zx.set Ql.toNat false))) (Zb Zx fun Qw=>K Qw)) (0:Int) Qa
def Hj:Hi:=q7x Ha Wm
abbrev J4:Type:=Envt->Int->(Int->Prop)->Prop
def Hk(Qu:Ja)(Vq:q0f)(Wg:q0e)(Vr:Hf)(Vs:Hi):J4:=fun v i K=>At v.6 i fun y0=>Qu (Envt.mk (Sett.mk v.1.1 v.1.2 v.1.3) v.2 v.3 v.4 v.5 v.6) y0.2 fun Ql=>Vq (Envt.mk (Sett.mk v.1.1 v.1.2 v.1.3) v.2 v.3 v.4 v.5 v.6) y0.3 fun Qn=>Cnd (Ql<0) (K (11:Int)) (Cnd (Qn<0) (K (11:Int)) (Lp1 (fun Qw v95=>Fits y0.7->CAt y0.7 Qw (fun y6=>At v.4 Qn fun y8=>Fits y8.3->Cnd ((↑y8.3.length:Int)<y6.3) (K (3:Int)) (InI (Qw+1)/\v95 (Qw+1))) (Wg v.3 fun Jf=>Vr v.2 Jf (Ex.mk y0.8.1 y0.8.2 y0.8.3 y0.8.4 y0.8.5) fun Wt=>Cnd (Wt=0) (Cnd (y0.5=3) (K (0:Int)) (At v.5 Ql fun y8=>Lp3 (fun Q9 Wa z5b v7j=>Cnd (Wa<i) (At v.6 Wa fun y11=>Cnd (y11.2=y0.2) (Cnd (y11.5=3) (InI (Wa+1)/\v7j Q9 (Wa+1) z5b) (Sml (Q9++y11.6).length/\InI (Wa+1)/\v7j (Q9++y11.6) (Wa+1) z5b)) (InI (Wa+1)/\v7j Q9 (Wa+1) z5b)) (Vs y0.6 Q9 fun Wc=>Fits Wc->Cnd ((0:Int)<(↑Wc.length:Int)) (K (14:Int)) (Lp4 (fun Qc Ry w34 w35 v7k=>Cnd (Qc<i) (Cnd (y0.5=2) (At v.6 Qc fun y14=>Cnd (y14.5=2) (Cnd (y14.3=y0.3) (Cnd (y14.2=y0.2) (InI (Qc+1)/\v7k (Qc+1) Ry w34 w35) (K (14:Int))) (InI (Qc+1)/\v7k (Qc+1) Ry w34 w35)) (InI (Qc+1)/\v7k (Qc+1) Ry w34 w35)) (K (0:Int))) (K (0:Int))) (0:Int) Wc Q9 z5b))) [Spn.mk (0:Int) y8.4] (0:Int) Jf)) (K Wt))) (0:Int)))
def Vl:J4:=Hk Wu q7w q9m q9n Hj
abbrev Uf:Type:=Envt->(ByteArray->Int->Prop)->Prop
def q2t(Jh:Wn)(Wg:q0e)(Vr:Hf)(z1h:q6g)(q7j:q6i)(q18:Hh)(q3s:q3h)(q19:q05)(Vt:J4):Uf:=fun v K=>Jh (Envt.mk (Sett.mk v.1.1 v.1.2 v.1.3) v.2 v.3 v.4 v.5 v.6) fun Qa=>Cnd (Qa=0) (Wg v.3 fun Qh=>Lp2 (fun Ql Zx q82=>Fits v.3->CAt v.3 Ql (fun y4=>Cnd (y4.5.1=0) (InI (Ql+1)/\q82 (Ql+1) Zx) (At v.3 Ql fun y6=>Vr v.2 Zx (Ex.mk y6.5.1 y6.5.2 y6.5.3 y6.5.4 y6.5.5) fun Z4=>Cnd (Z4=0) (InI (Ql+1)/\q82 (Ql+1) Zx) (At v.3 Ql fun y9=>(↑((B8 [115,101,103,109,101,110,116,32]).size+y9.1.size):Int)<=(9223372036854775807:Int)/\K (B8 [115,101,103,109,101,110,116,32]++y9.1) Z4))) (z1h v.3 fun Qw=>q7j Zx Qw fun Zl z4v=>Cnd (z4v=true) ((↑((B8 [115,101,103,109,101,110,116,32]).size+Zl.size):Int)<=(9223372036854775807:Int)/\K (B8 [115,101,103,109,101,110,116,32]++Zl) (12:Int)) (Lp3 (fun Jf j11 v96 y29=>Fits v.4->CAt v.4 Jf (fun y8=>q18 (Envt.mk (Sett.mk v.1.1 v.1.2 v.1.3) v.2 v.3 v.4 v.5 v.6) (Flg.mk y8.1 y8.2 y8.3 y8.4 y8.5 y8.6 y8.7 y8.8 (Srv.mk y8.9.1 y8.9.2 y8.9.3 y8.9.4 y8.9.5)) fun Q9=>Cnd (Q9=0) (InI (Jf+1)/\y29 (Jf+1) j11 v96) (At v.4 Jf fun y11=>(↑((B8 [102,108,97,103,32]).size+y11.1.size):Int)<=(9223372036854775807:Int)/\K (B8 [102,108,97,103,32]++y11.1) Q9)) (q3s (Envt.mk (Sett.mk v.1.1 v.1.2 v.1.3) v.2 v.3 v.4 v.5 v.6) fun Z4=>q19 (Envt.mk (Sett.mk v.1.1 v.1.2 v.1.3) v.2 v.3 v.4 v.5 v.6) fun Jo=>q7j Z4 Jo fun Q9 Wa=>Cnd (Wa=true) ((↑((B8 [102,108,97,103,32]).size+Q9.size):Int)<=(9223372036854775807:Int)/\K (B8 [102,108,97,103,32]++Q9) (12:Int)) (Lp5 (fun Wc z1c y1m y1n y1o y1p=>Fits v.6->Cnd (Wc<(↑v.6.length:Int)) (Vt (Envt.mk (Sett.mk v.1.1 v.1.2 v.1.3) v.2 v.3 v.4 v.5 v.6) Wc fun Qc=>Cnd (Qc=0) (InI (Wc+1)/\y1p (Wc+1) z1c y1m y1n y1o) (At v.6 Wc fun y14=>(↑((B8 [101,120,112,101,114,105,109,101,110,116,32]).size+y14.1.size):Int)<=(9223372036854775807:Int)/\K (B8 [101,120,112,101,114,105,109,101,110,116,32]++y14.1) Qc)) (K (B8 []) (0:Int))) (0:Int) Z4 Jo v96 j11))) (0:Int) Zx Qw))) (0:Int) Qh) (K (B8 []) Qa)
def H5:Uf:=q2t Wo q9m q9n z0m z0o q04 q8g q06 Vl
abbrev q6k:Type:=Envt->(Bool->Prop)->Prop
def z56(Rp:Uf):q6k:=fun v K=>Rp (Envt.mk (Sett.mk v.1.1 v.1.2 v.1.3) v.2 v.3 v.4 v.5 v.6) fun _ Q8=>K (decide (Q8=0))
def q2u:q6k:=z56 H5
abbrev Hl:Type:=List (Int)->Int->Int->(Envt->Int->Prop)->Prop
def q6l(Zk:Ur)(q8c:q30)(Qb:Zu)(q1z:z33)(Z3:q0r)(Vo:q43)(Vu:q55)(Zw:V7)(V5:q0s)(Q1:Z0)(z8o:z2j)(Je:H0)(q11:q53)(Rq:q2n)(Jg:q0q)(U8:B0)(Jp:Uy)(B9:q6k):Hl:=fun list at_ now K=>Zk fun Qa=>Jn1 (fun (Qh:ByteArray×ByteArray×Int×Int×List Decl×Unit)=>q8c list Qh.2.2.2.1 Qh.1 Qh.2.1 Qh.2.2.1 Qh.2.2.2.2.1 [] [] [] [] fun Ql Zx q77 j48 v1h y3a y3b y3c y3d=>Qb list Ql (5:Int) fun Qn Wx=>q1z Qn [B8 [102,97],B8 [102,98],B8 [102,99],B8 [102,100]] fun Qw=>LpH (fun (Zl:Int×Int×List Flg×List Seg×List Lay_×List Exper×Unit) y1j=>Fits Qw->CAt Qw Zl.1 (fun y7=>Qb list Zl.2.1 (5:Int) fun Jo z1y=>InI ((1:Int)+Jo)/\Qb list z1y (6:Int) fun Q9 Wa=>Qb list Wa (4:Int) fun Wc z1c=>InI ((1:Int)+Wc)/\LpH (fun (Qr:Int×Int×List Val×List Exper×List Lay_×List Flg×List Seg×Unit) (y1q:Int×Int×List Val×List Exper×List Lay_×List Flg×List Seg×Unit->Prop)=>Cnd (Qr.1<1+Wc) (Z3 list Qr.2.1 ((1:Int)+Jo) fun Qc Ry=>Sml (Qr.2.2.1++[Qc]).length/\InI (Qr.1+1)/\y1q (Qr.1+1,Ry,Qr.2.2.1++[Qc],Qr.2.2.2.1,Qr.2.2.2.2.1,Qr.2.2.2.2.2.1,Qr.2.2.2.2.2.2.1,())) (Qb list Qr.2.1 ((1:Int)+Wc) fun Qc Ry=>InI ((1:Int)+Qc)/\LpH (fun (Zs:Int×List Prq×Int×List Seg×List Flg×List Lay_×List Exper×List Val×Unit) (v9s:Int×List Prq×Int×List Seg×List Flg×List Lay_×List Exper×List Val×Unit->Prop)=>Fits Zs.2.2.2.2.1->Cnd (Zs.1<(↑Zs.2.2.2.2.1.length:Int)) (Qb list Zs.2.2.1 (4:Int) fun Qi z5c=>Cnd (Qi=1) (At Zs.2.2.2.2.1 Zs.1 fun y17=>At Zs.2.2.2.2.1 Zs.1 fun y19=>Fits y19.3->Qb list z5c (↑y19.3.length:Int) fun Zr v09=>InI ((1:Int)+Zr)/\Sml (Zs.2.1++[Prq.mk y17.1 ((1:Int)+Zr)]).length/\InI (Zs.1+1)/\v9s (Zs.1+1,Zs.2.1++[Prq.mk y17.1 ((1:Int)+Zr)],v09,Zs.2.2.2.1,Zs.2.2.2.2.1,Zs.2.2.2.2.2.1,Zs.2.2.2.2.2.2.1,Zs.2.2.2.2.2.2.2.1,())) (InI (Zs.1+1)/\v9s (Zs.1+1,Zs.2.1,z5c,Zs.2.2.2.1,Zs.2.2.2.2.1,Zs.2.2.2.2.2.1,Zs.2.2.2.2.2.2.1,Zs.2.2.2.2.2.2.2.1,()))) (LpH (fun (Qi:Int×List Tgt×Int×List Val×List Exper×List Lay_×List Flg×List Seg×List Prq×Unit) (v3z:Int×List Tgt×Int×List Val×List Exper×List Lay_×List Flg×List Seg×List Prq×Unit->Prop)=>Qb list Qi.2.2.1 (3:Int) fun Gi w36=>Cnd (Qi.1<Gi) (Qb list w36 ((1:Int)+Wc) fun Qd q4s=>InI ((1:Int)+Qd)/\Vo list q4s fun Qs q81=>Jn1 (fun (Gt:ByteArray×Int×List ByteArray×List Prq×List Seg×List Flg×List Lay_×List Exper×List Val×List Tgt×Unit)=>Fits Gt.2.2.1->Cnd ((0:Int)<(↑Gt.2.2.1.length:Int)) (Sml (Gt.2.2.2.2.2.2.2.2.2.1++[Tgt.mk Gt.1 ((1:Int)+Qd) Gt.2.2.1]).length/\InI (Qi.1+1)/\v3z (Qi.1+1,Gt.2.2.2.2.2.2.2.2.2.1++[Tgt.mk Gt.1 ((1:Int)+Qd) Gt.2.2.1],Gt.2.1,Gt.2.2.2.2.2.2.2.2.1,Gt.2.2.2.2.2.2.2.1,Gt.2.2.2.2.2.2.1,Gt.2.2.2.2.2.1,Gt.2.2.2.2.1,Gt.2.2.2.1,())) (InI (Qi.1+1)/\v3z (Qi.1+1,Gt.2.2.2.2.2.2.2.2.2.1,Gt.2.1,Gt.2.2.2.2.2.2.2.2.1,Gt.2.2.2.2.2.2.2.1,Gt.2.2.2.2.2.2.1,Gt.2.2.2.2.2.1,Gt.2.2.2.2.1,Gt.2.2.2.1,()))) fun (v9t:ByteArray×Int×List ByteArray×List Prq×List Seg×List Flg×List Lay_×List Exper×List Val×List Tgt×Unit->Prop)=>Qb list q81 (4:Int) fun Qz z8p=>Cnd (Qz=1) (v9t (B8 [100,101,118,105,99,101],z8p,Qs,Qi.2.2.2.2.2.2.2.2.1,Qi.2.2.2.2.2.2.2.1,Qi.2.2.2.2.2.2.1,Qi.2.2.2.2.2.1,Qi.2.2.2.2.1,Qi.2.2.2.1,Qi.2.1,())) (v9t (B8 [117,115,101,114],z8p,Qs,Qi.2.2.2.2.2.2.2.2.1,Qi.2.2.2.2.2.2.2.1,Qi.2.2.2.2.2.2.1,Qi.2.2.2.2.2.1,Qi.2.2.2.2.1,Qi.2.2.2.1,Qi.2.1,()))) (Jn1 (fun (Qd:Int×List Rul×List ByteArray×List Prq×List Seg×List Flg×List Lay_×List Exper×List Val×List Tgt×Unit)=>Vu list Qd.1 ((1:Int)+Wc) fun Qs q81=>Sml (Qd.2.2.2.2.2.1++[Flg.mk y7 ((1:Int)+Jo) Qd.2.2.2.2.2.2.2.2.1 (decide (Q9<5)) ((1:Int)+Qc) Qd.2.2.2.1 Qd.2.2.2.2.2.2.2.2.2.1 Qd.2.1 Qs]).length/\InI (Zl.1+1)/\y1j (Zl.1+1,q81,Qd.2.2.2.2.2.1++[Flg.mk y7 ((1:Int)+Jo) Qd.2.2.2.2.2.2.2.2.1 (decide (Q9<5)) ((1:Int)+Qc) Qd.2.2.2.1 Qd.2.2.2.2.2.2.2.2.2.1 Qd.2.1 Qs],Qd.2.2.2.2.1,Qd.2.2.2.2.2.2.1,Qd.2.2.2.2.2.2.2.1,())) fun (w7g:Int×List Rul×List ByteArray×List Prq×List Seg×List Flg×List Lay_×List Exper×List Val×List Tgt×Unit->Prop)=>LpH (fun (Qs:Int×Int×List Rul×List ByteArray×List Prq×List Seg×List Flg×List Lay_×List Exper×List Val×List Tgt×Unit) (y1r:Int×Int×List Rul×List ByteArray×List Prq×List Seg×List Flg×List Lay_×List Exper×List Val×List Tgt×Unit->Prop)=>Qb list Qs.2.1 (5:Int) fun Gt v30=>Cnd (Qs.1<Gt) (At Qs.2.2.2.1 Qs.1 fun y21=>Zw (Envt.mk (Sett.mk Zx q77 j48) v1h Qs.2.2.2.2.2.1 Qs.2.2.2.2.2.2.1 Qs.2.2.2.2.2.2.2.1 Qs.2.2.2.2.2.2.2.2.1) fun v31=>V5 list v30 v31 (3:Int) fun Qo v1a=>Vu list v1a ((1:Int)+Wc) fun z1i v1b=>Sml (Qs.2.2.1++[Rul.mk y21 (Ex.mk Qo.1 Qo.2 Qo.3 Qo.4 Qo.5) z1i]).length/\Q1 (Qs.2.2.1++[Rul.mk y21 (Ex.mk Qo.1 Qo.2 Qo.3 Qo.4 Qo.5) z1i]) fun v9u _ y1s=>Cnd (y1s=true) (Fits v9u->Cnd ((0:Int)<(↑v9u.length:Int)) ((Qs.2.2.1++[Rul.mk y21 (Ex.mk Qo.1 Qo.2 Qo.3 Qo.4 Qo.5) z1i]).length<=(9223372036854775807:Nat)->InI ((↑(Qs.2.2.1++[Rul.mk y21 (Ex.mk Qo.1 Qo.2 Qo.3 Qo.4 Qo.5) z1i]).length:Int) - 1)/\((0:Int)<=(↑(Qs.2.2.1++[Rul.mk y21 (Ex.mk Qo.1 Qo.2 Qo.3 Qo.4 Qo.5) z1i]).length:Int) - 1/\(↑(Qs.2.2.1++[Rul.mk y21 (Ex.mk Qo.1 Qo.2 Qo.3 Qo.4 Qo.5) z1i]).length:Int) - 1<=(↑(Qs.2.2.1++[Rul.mk y21 (Ex.mk Qo.1 Qo.2 Qo.3 Qo.4 Qo.5) z1i]).length:Int))/\w7g (v1b,List.take ((↑(Qs.2.2.1++[Rul.mk y21 (Ex.mk Qo.1 Qo.2 Qo.3 Qo.4 Qo.5) z1i]).length:Int) - 1).toNat (Qs.2.2.1++[Rul.mk y21 (Ex.mk Qo.1 Qo.2 Qo.3 Qo.4 Qo.5) z1i]),Qs.2.2.2.1,Qs.2.2.2.2.1,Qs.2.2.2.2.2.1,Qs.2.2.2.2.2.2.1,Qs.2.2.2.2.2.2.2.1,Qs.2.2.2.2.2.2.2.2.1,Qs.2.2.2.2.2.2.2.2.2.1,Qs.2.2.2.2.2.2.2.2.2.2.1,())) (InI (Qs.1+1)/\y1r (Qs.1+1,v1b,Qs.2.2.1++[Rul.mk y21 (Ex.mk Qo.1 Qo.2 Qo.3 Qo.4 Qo.5) z1i],Qs.2.2.2.1,Qs.2.2.2.2.1,Qs.2.2.2.2.2.1,Qs.2.2.2.2.2.2.1,Qs.2.2.2.2.2.2.2.1,Qs.2.2.2.2.2.2.2.2.1,Qs.2.2.2.2.2.2.2.2.2.1,Qs.2.2.2.2.2.2.2.2.2.2.1,()))) ((Qs.2.2.1++[Rul.mk y21 (Ex.mk Qo.1 Qo.2 Qo.3 Qo.4 Qo.5) z1i]).length<=(9223372036854775807:Nat)->InI ((↑(Qs.2.2.1++[Rul.mk y21 (Ex.mk Qo.1 Qo.2 Qo.3 Qo.4 Qo.5) z1i]).length:Int) - 1)/\((0:Int)<=(↑(Qs.2.2.1++[Rul.mk y21 (Ex.mk Qo.1 Qo.2 Qo.3 Qo.4 Qo.5) z1i]).length:Int) - 1/\(↑(Qs.2.2.1++[Rul.mk y21 (Ex.mk Qo.1 Qo.2 Qo.3 Qo.4 Qo.5) z1i]).length:Int) - 1<=(↑(Qs.2.2.1++[Rul.mk y21 (Ex.mk Qo.1 Qo.2 Qo.3 Qo.4 Qo.5) z1i]).length:Int))/\w7g (v1b,List.take ((↑(Qs.2.2.1++[Rul.mk y21 (Ex.mk Qo.1 Qo.2 Qo.3 Qo.4 Qo.5) z1i]).length:Int) - 1).toNat (Qs.2.2.1++[Rul.mk y21 (Ex.mk Qo.1 Qo.2 Qo.3 Qo.4 Qo.5) z1i]),Qs.2.2.2.1,Qs.2.2.2.2.1,Qs.2.2.2.2.2.1,Qs.2.2.2.2.2.2.1,Qs.2.2.2.2.2.2.2.1,Qs.2.2.2.2.2.2.2.2.1,Qs.2.2.2.2.2.2.2.2.2.1,Qs.2.2.2.2.2.2.2.2.2.2.1,()))) (w7g (v30,Qs.2.2.1,Qs.2.2.2.1,Qs.2.2.2.2.1,Qs.2.2.2.2.2.1,Qs.2.2.2.2.2.2.1,Qs.2.2.2.2.2.2.2.1,Qs.2.2.2.2.2.2.2.2.1,Qs.2.2.2.2.2.2.2.2.2.1,Qs.2.2.2.2.2.2.2.2.2.2.1,()))) ((0:Int),w36,[],[B8 [102,105,114,115,116],B8 [115,101,99,111,110,100],B8 [116,104,105,114,100],B8 [102,111,117,114,116,104]],Qi.2.2.2.2.2.2.2.2.1,Qi.2.2.2.2.2.2.2.1,Qi.2.2.2.2.2.2.1,Qi.2.2.2.2.2.1,Qi.2.2.2.2.1,Qi.2.2.2.1,Qi.2.1,()))) ((0:Int),[],Zs.2.2.1,Zs.2.2.2.2.2.2.2.1,Zs.2.2.2.2.2.2.1,Zs.2.2.2.2.2.1,Zs.2.2.2.2.1,Zs.2.2.2.1,Zs.2.1,()))) ((0:Int),[],Ry,Qr.2.2.2.2.2.2.1,Qr.2.2.2.2.2.1,Qr.2.2.2.2.1,Qr.2.2.2.1,Qr.2.2.1,()))) ((0:Int),z1c,[],Zl.2.2.2.2.2.1,Zl.2.2.2.2.1,Zl.2.2.1,Zl.2.2.2.1,())) (Qb list Zl.2.1 (3:Int) fun Wt q7k=>q1z Wt [B8 [108,97],B8 [108,98]] fun Z4=>LpH (fun (Jo:Int×Int×List Lay_×List Exper×List Seg×List Flg×Unit) (v9q:Int×Int×List Lay_×List Exper×List Seg×List Flg×Unit->Prop)=>Fits Z4->CAt Z4 Jo.1 (fun y11=>z8o list Jo.2.1 y11 fun Qc Ry=>Sml (Jo.2.2.1++[Qc]).length/\InI (Jo.1+1)/\v9q (Jo.1+1,Ry,Jo.2.2.1++[Qc],Jo.2.2.2.1,Jo.2.2.2.2.1,Jo.2.2.2.2.2.1,())) (Qb list Jo.2.1 (4:Int) fun Wc z1c=>q1z Wc [B8 [120,97],B8 [120,98],B8 [120,99]] fun Qr=>LpH (fun (Qc:Int×Int×List Exper×List Flg×List Seg×List Lay_×Unit) (w7h:Int×Int×List Exper×List Flg×List Seg×List Lay_×Unit->Prop)=>Fits Qr->Cnd (Qc.1<(↑Qr.length:Int)) (Fits Qc.2.2.2.1->Cnd ((0:Int)<(↑Qc.2.2.2.1.length:Int)) (Fits Qc.2.2.2.2.2.1->Cnd ((0:Int)<(↑Qc.2.2.2.2.2.1.length:Int)) (At Qr Qc.1 fun y17=>Fits Qc.2.2.2.1->Qb list Qc.2.1 (↑Qc.2.2.2.1.length:Int) fun Gt v30=>At Qc.2.2.2.1 Gt fun y21=>Fits Qc.2.2.2.2.2.1->Fits y21.3->Qb list v30 (↑Qc.2.2.2.2.2.1.length:Int) fun z1i v1b=>At Qc.2.2.2.2.2.1 z1i fun y26=>Je list v1b fun j57 y1t=>Qb list y1t (3:Int) fun w37 y1u=>InI ((1:Int)+w37)/\q11 list y1u (↑y21.3.length:Int) fun v7l v9v=>Jn1 (fun (q4t:Int×Int×List Rng×List Exper×List Lay_×List Flg×List Seg×Unit)=>Jn1 (fun (Zh:Int×ByteArray×ByteArray×List Val×List Ex×Int×List Seg×List Flg×List Lay_×List Exper×List Rng×Unit)=>Rq (Envt.mk (Sett.mk Zx q77 j48) v1h Zh.2.2.2.2.2.2.1 Zh.2.2.2.2.2.2.2.1 Zh.2.2.2.2.2.2.2.2.1 Zh.2.2.2.2.2.2.2.2.2.1) y26.1 now fun (v7m:List Spn) (_:Int)=>Jg list Zh.2.2.2.2.2.1 (8000:Int) fun (v7n y1v:Int)=>Jg list y1v (8000:Int) fun (w38 v7o:Int)=>U8 v7m [Spn.mk v7n w38] fun (y1w:List Spn)=>Jg list v7o (7000:Int) fun (y1x v9w:Int)=>Jp y1w y1x fun (j58:List Spn)=>Sml (Zh.2.2.2.2.2.2.2.2.2.1++[Exper.mk y17 y26.1 y21.1 j57 q4t.1 j58 Zh.2.2.2.2.2.2.2.2.2.2.1 (Ex.mk Zh.1 Zh.2.1 Zh.2.2.1 Zh.2.2.2.1 Zh.2.2.2.2.1)]).length/\B9 (Envt.mk (Sett.mk Zx q77 j48) v1h Zh.2.2.2.2.2.2.1 Zh.2.2.2.2.2.2.2.1 Zh.2.2.2.2.2.2.2.2.1 (Zh.2.2.2.2.2.2.2.2.2.1++[Exper.mk y17 y26.1 y21.1 j57 q4t.1 j58 Zh.2.2.2.2.2.2.2.2.2.2.1 (Ex.mk Zh.1 Zh.2.1 Zh.2.2.1 Zh.2.2.2.1 Zh.2.2.2.2.1)])) fun (y1y:Bool)=>Cnd (y1y=true) (InI (Qc.1+1)/\w7h (Qc.1+1,v9w,Zh.2.2.2.2.2.2.2.2.2.1++[Exper.mk y17 y26.1 y21.1 j57 q4t.1 j58 Zh.2.2.2.2.2.2.2.2.2.2.1 (Ex.mk Zh.1 Zh.2.1 Zh.2.2.1 Zh.2.2.2.1 Zh.2.2.2.2.1)],Zh.2.2.2.2.2.2.2.1,Zh.2.2.2.2.2.2.1,Zh.2.2.2.2.2.2.2.2.1,())) ((Zh.2.2.2.2.2.2.2.2.2.1++[Exper.mk y17 y26.1 y21.1 j57 q4t.1 j58 Zh.2.2.2.2.2.2.2.2.2.2.1 (Ex.mk Zh.1 Zh.2.1 Zh.2.2.1 Zh.2.2.2.1 Zh.2.2.2.2.1)]).length<=(9223372036854775807:Nat)->InI ((↑(Zh.2.2.2.2.2.2.2.2.2.1++[Exper.mk y17 y26.1 y21.1 j57 q4t.1 j58 Zh.2.2.2.2.2.2.2.2.2.2.1 (Ex.mk Zh.1 Zh.2.1 Zh.2.2.1 Zh.2.2.2.1 Zh.2.2.2.2.1)]).length:Int) - 1)/\((0:Int)<=(↑(Zh.2.2.2.2.2.2.2.2.2.1++[Exper.mk y17 y26.1 y21.1 j57 q4t.1 j58 Zh.2.2.2.2.2.2.2.2.2.2.1 (Ex.mk Zh.1 Zh.2.1 Zh.2.2.1 Zh.2.2.2.1 Zh.2.2.2.2.1)]).length:Int) - 1/\(↑(Zh.2.2.2.2.2.2.2.2.2.1++[Exper.mk y17 y26.1 y21.1 j57 q4t.1 j58 Zh.2.2.2.2.2.2.2.2.2.2.1 (Ex.mk Zh.1 Zh.2.1 Zh.2.2.1 Zh.2.2.2.1 Zh.2.2.2.2.1)]).length:Int) - 1<=(↑(Zh.2.2.2.2.2.2.2.2.2.1++[Exper.mk y17 y26.1 y21.1 j57 q4t.1 j58 Zh.2.2.2.2.2.2.2.2.2.2.1 (Ex.mk Zh.1 Zh.2.1 Zh.2.2.1 Zh.2.2.2.1 Zh.2.2.2.2.1)]).length:Int))/\InI (Qc.1+1)/\w7h (Qc.1+1,v9w,List.take ((↑(Zh.2.2.2.2.2.2.2.2.2.1++[Exper.mk y17 y26.1 y21.1 j57 q4t.1 j58 Zh.2.2.2.2.2.2.2.2.2.2.1 (Ex.mk Zh.1 Zh.2.1 Zh.2.2.1 Zh.2.2.2.1 Zh.2.2.2.2.1)]).length:Int) - 1).toNat (Zh.2.2.2.2.2.2.2.2.2.1++[Exper.mk y17 y26.1 y21.1 j57 q4t.1 j58 Zh.2.2.2.2.2.2.2.2.2.2.1 (Ex.mk Zh.1 Zh.2.1 Zh.2.2.1 Zh.2.2.2.1 Zh.2.2.2.2.1)]),Zh.2.2.2.2.2.2.2.1,Zh.2.2.2.2.2.2.1,Zh.2.2.2.2.2.2.2.2.1,()))) fun (v9x:Int×ByteArray×ByteArray×List Val×List Ex×Int×List Seg×List Flg×List Lay_×List Exper×List Rng×Unit->Prop)=>Qb list q4t.2.1 (2:Int) fun (v7m v9y:Int)=>Cnd (v7m=1) (Zw (Envt.mk (Sett.mk Zx q77 j48) v1h q4t.2.2.2.2.2.2.1 q4t.2.2.2.2.2.1 q4t.2.2.2.2.1 q4t.2.2.2.1) fun (v7n:List ByteArray)=>V5 list v9y v7n (2:Int) fun (w38:Ex) (v7o:Int)=>v9x (w38.1,w38.2,w38.3,w38.4,w38.5,v7o,q4t.2.2.2.2.2.2.1,q4t.2.2.2.2.2.1,q4t.2.2.2.2.1,q4t.2.2.2.1,q4t.2.2.1,())) (v9x ((1:Int),B8 [],B8 [],[],[],v9y,q4t.2.2.2.2.2.2.1,q4t.2.2.2.2.2.1,q4t.2.2.2.2.1,q4t.2.2.2.1,q4t.2.2.1,()))) fun (v7p:Int×Int×List Rng×List Exper×List Lay_×List Flg×List Seg×Unit->Prop)=>Cnd ((1:Int)+w37=1) (Qb list v9v (2:Int) fun Zh v9z=>Cnd (Zh=0) (v7p ((2:Int),v9z,v7l,Qc.2.2.1,Qc.2.2.2.2.2.1,Qc.2.2.2.1,Qc.2.2.2.2.1,())) (v7p ((1:Int)+w37,v9z,v7l,Qc.2.2.1,Qc.2.2.2.2.2.1,Qc.2.2.2.1,Qc.2.2.2.2.1,()))) (v7p ((1:Int)+w37,v9v,v7l,Qc.2.2.1,Qc.2.2.2.2.2.1,Qc.2.2.2.1,Qc.2.2.2.2.1,()))) (B9 (Envt.mk (Sett.mk Zx q77 j48) v1h Qc.2.2.2.2.1 Qc.2.2.2.1 Qc.2.2.2.2.2.1 Qc.2.2.1) fun Gi=>Cnd (Gi=true) (K (Envt.mk (Sett.mk Zx q77 j48) v1h Qc.2.2.2.2.1 Qc.2.2.2.1 Qc.2.2.2.2.2.1 Qc.2.2.1) Qc.2.1) (Zk fun Qd=>K (Envt.mk (Sett.mk (B8 []) (B8 []) (0:Int)) Qd [] [] [] []) Qc.2.1))) (B9 (Envt.mk (Sett.mk Zx q77 j48) v1h Qc.2.2.2.2.1 Qc.2.2.2.1 Qc.2.2.2.2.2.1 Qc.2.2.1) fun Qi=>Cnd (Qi=true) (K (Envt.mk (Sett.mk Zx q77 j48) v1h Qc.2.2.2.2.1 Qc.2.2.2.1 Qc.2.2.2.2.2.1 Qc.2.2.1) Qc.2.1) (Zk fun Gi=>K (Envt.mk (Sett.mk (B8 []) (B8 []) (0:Int)) Gi [] [] [] []) Qc.2.1))) (B9 (Envt.mk (Sett.mk Zx q77 j48) v1h Qc.2.2.2.2.1 Qc.2.2.2.1 Qc.2.2.2.2.2.1 Qc.2.2.1) fun Zo=>Cnd (Zo=true) (K (Envt.mk (Sett.mk Zx q77 j48) v1h Qc.2.2.2.2.1 Qc.2.2.2.1 Qc.2.2.2.2.2.1 Qc.2.2.1) Qc.2.1) (Zk fun Qi=>K (Envt.mk (Sett.mk (B8 []) (B8 []) (0:Int)) Qi [] [] [] []) Qc.2.1))) ((0:Int),z1c,Jo.2.2.2.1,Jo.2.2.2.2.2.1,Jo.2.2.2.2.1,Jo.2.2.1,()))) ((0:Int),q7k,Zl.2.2.2.2.1,Zl.2.2.2.2.2.1,Zl.2.2.2.1,Zl.2.2.1,()))) ((0:Int),Wx,y3b,y3a,y3c,y3d,())) fun w33=>Qb list at_ (2:Int) fun Ql Zx=>Cnd (Ql=1) (Je list Zx fun Qn Wx=>Jg list Wx (2500:Int) fun Qw V3=>w33 (Qn,B8 [117,115,101,114],Qw,V3,Qa,())) (w33 (B8 [],B8 [],(0:Int),Zx,Qa,()))
def Hm:Hl:=q6l G5 q7p Zp j2b G6 z0a q0t V8 q7o Jw z7f q7n q54 q2o q99 B1 Hb q2u
abbrev J5:Type:=Envt->Int->(ByteArray->Prop)->Prop
def Hn(q4u:z88):J5:=fun v n K=>q4u n (4:Int) fun Qa=>Fits v.6->CAt v.6 Qa (fun y2=>K y2.1) (K (B8 [110,111,110,101]))
def Vm:J5:=Hn j3e
abbrev Ve:Type:=Int->(Bool->Prop)->Prop
def Ge:Ve:=fun now K=>Cnd ((0:Int)<=now) (K (decide (now<=1099511627776))) (K false)
abbrev J6:Type:=Envt->ByteArray->(Int->Prop)->Prop
def Ug:J6:=fun v key K=>Fits v.5->Lp1 (fun Qh q83=>CAt v.5 Qh (fun y2=>Cnd (y2.1=key) (K Qh) (InI (Qh+1)/\q83 (Qh+1))) (K (-1:Int))) (0:Int)
abbrev J0:Type:=Envt->ByteArray->Int->(Int->Int->Int->Prop)->Prop
def q8h(Ji:Ve)(Zd:J6):J0:=fun v experiment now K=>Ji now fun Qa=>Cnd (Qa=true) (Fits v.6->Lp1 (fun Ql z4t=>CAt v.6 Ql (fun y3=>Cnd (y3.1=experiment) (Cnd (Ql<0) (K (0:Int) (0:Int) (11:Int)) (At v.6 Ql fun y5=>Zd (Envt.mk (Sett.mk v.1.1 v.1.2 v.1.3) v.2 v.3 v.4 v.5 v.6) y5.2 fun Wt=>Cnd (Wt<0) (K (0:Int) (0:Int) (11:Int)) (K Ql Wt (0:Int)))) (InI (Ql+1)/\z4t (Ql+1))) (Cnd ((-1:Int)<(0:Int)) (K (0:Int) (0:Int) (11:Int)) (At v.6 (-1:Int) fun y3=>Zd (Envt.mk (Sett.mk v.1.1 v.1.2 v.1.3) v.2 v.3 v.4 v.5 v.6) y3.2 fun Zl=>Cnd (Zl<0) (K (0:Int) (0:Int) (11:Int)) (K (-1:Int) Zl (0:Int))))) (0:Int)) (K (0:Int) (0:Int) (3:Int))
def Gn:J0:=q8h Ge Ug
abbrev q07:Type:=Val->(Val->Prop)->Prop
def Uz:q07:=fun v K=> ∀n0,(n0=true->v.4=[])->Cnd (n0=true) (K (Val.mk v.1 v.2 v.3 [])) (Sml ([]++v.4).length/\K (Val.mk v.1 v.2 v.3 ([]++v.4)))
abbrev J7:Type:=Ex->(Ex->Prop)->Prop
def q7y(Rr:q07)(X:J7):J7:=fun e K=>Fits e.4->((0:Int)<=(0:Int)/\(0:Int)<=(↑e.4.length:Int)/\Sml (↑e.4.length:Int).toNat)/\(Fits e.4->Lp2 (fun Ql Zx q82=>CAt e.4 Zx (fun y3=>Rr y3 fun Zl=>Sml (Ql++[Zl]).length/\InI (Zx+1)/\q82 (Ql++[Zl]) (Zx+1)) (Fits e.5->((0:Int)<=(0:Int)/\(0:Int)<=(↑e.5.length:Int)/\Sml (↑e.5.length:Int).toNat)/\(Fits e.5->Lp2 (fun Zl z4v y1l=>CAt e.5 z4v (fun y6=>X (Ex.mk y6.1 y6.2 y6.3 y6.4 y6.5) fun Z4=>Sml (Zl++[Ex.mk Z4.1 Z4.2 Z4.3 Z4.4 Z4.5]).length/\InI (z4v+1)/\y1l (Zl++[Ex.mk Z4.1 Z4.2 Z4.3 Z4.4 Z4.5]) (z4v+1)) (K (Ex.mk e.1 e.2 e.3 Ql Zl))) (List.replicate (Int.toNat (0:Int)) (Ex.mk (0:Int) (B8 []) (B8 []) [] [])) (0:Int)))) (List.replicate (Int.toNat (0:Int)) (Val.mk (0:Int) (0:Int) (B8 []) [])) (0:Int))
def q0g:J7:=fun e K=> ∀X:J7,(∀e K,q7y Uz X e K->X e K)->X e K
abbrev Jl:Type:=Seg->(Seg->Prop)->Prop
def q6m(Zf:J7):Jl:=fun g K=> ∀n0,(n0=true->g.3=[])->Cnd (n0=true) (∀n2,(n2=true->g.4=[])->Cnd (n2=true) (Zf (Ex.mk g.5.1 g.5.2 g.5.3 g.5.4 g.5.5) fun Qw=>K (Seg.mk g.1 g.2 [] [] (Ex.mk Qw.1 Qw.2 Qw.3 Qw.4 Qw.5))) (Sml ([]++g.4).length/\Zf (Ex.mk g.5.1 g.5.2 g.5.3 g.5.4 g.5.5) fun Qw=>K (Seg.mk g.1 g.2 [] ([]++g.4) (Ex.mk Qw.1 Qw.2 Qw.3 Qw.4 Qw.5)))) (Sml ([]++g.3).length/\ ∀n2,(n2=true->g.4=[])->Cnd (n2=true) (Zf (Ex.mk g.5.1 g.5.2 g.5.3 g.5.4 g.5.5) fun Qw=>K (Seg.mk g.1 g.2 ([]++g.3) [] (Ex.mk Qw.1 Qw.2 Qw.3 Qw.4 Qw.5))) (Sml ([]++g.4).length/\Zf (Ex.mk g.5.1 g.5.2 g.5.3 g.5.4 g.5.5) fun Qw=>K (Seg.mk g.1 g.2 ([]++g.3) ([]++g.4) (Ex.mk Qw.1 Qw.2 Qw.3 Qw.4 Qw.5))))
def J8:Jl:=q6m q0g
abbrev q3i:Type:=Tgt->(Tgt->Prop)->Prop
def R0:q3i:=fun t K=> ∀n0,(n0=true->t.3=[])->Cnd (n0=true) (K (Tgt.mk t.1 t.2 [])) (Sml ([]++t.3).length/\K (Tgt.mk t.1 t.2 ([]++t.3)))
abbrev H6:Type:=Srv->(Srv->Prop)->Prop
def q49:H6:=fun v K=> ∀n0,(n0=true->v.5=[])->Cnd (n0=true) (K (Srv.mk v.1 v.2 v.3 v.4 [])) (Sml ([]++v.5).length/\K (Srv.mk v.1 v.2 v.3 v.4 ([]++v.5)))
abbrev q39:Type:=Rul->(Rul->Prop)->Prop
def z2r(Zf:J7)(J2:H6):q39:=fun r K=>Zf (Ex.mk r.2.1 r.2.2 r.2.3 r.2.4 r.2.5) fun Qa=>J2 (Srv.mk r.3.1 r.3.2 r.3.3 r.3.4 r.3.5) fun Qh=>K (Rul.mk r.1 (Ex.mk Qa.1 Qa.2 Qa.3 Qa.4 Qa.5) Qh)
def q0h:q39:=z2r q0g q49
abbrev Vn:Type:=Flg->(Flg->Prop)->Prop
def z2s(Rr:q07)(R8:q3i)(q4d:q39)(J2:H6):Vn:=fun f K=>Fits f.3->((0:Int)<=(0:Int)/\(0:Int)<=(↑f.3.length:Int)/\Sml (↑f.3.length:Int).toNat)/\(Fits f.3->Lp2 (fun Ql Zx q82=>CAt f.3 Zx (fun y3=>Rr y3 fun Zl=>Sml (Ql++[Zl]).length/\InI (Zx+1)/\q82 (Ql++[Zl]) (Zx+1)) (∀n3,(n3=true->f.6=[])->Cnd (n3=true) (Fits f.7->((0:Int)<=(0:Int)/\(0:Int)<=(↑f.7.length:Int)/\Sml (↑f.7.length:Int).toNat)/\(Fits f.7->Lp2 (fun Wt q7k v1g=>CAt f.7 q7k (fun y8=>R8 y8 fun Q9=>Sml (Wt++[Q9]).length/\InI (q7k+1)/\v1g (Wt++[Q9]) (q7k+1)) (Fits f.8->((0:Int)<=(0:Int)/\(0:Int)<=(↑f.8.length:Int)/\Sml (↑f.8.length:Int).toNat)/\(Fits f.8->Lp2 (fun Q9 Wa w39=>CAt f.8 Wa (fun y11=>q4d (Rul.mk y11.1 (Ex.mk y11.2.1 y11.2.2 y11.2.3 y11.2.4 y11.2.5) (Srv.mk y11.3.1 y11.3.2 y11.3.3 y11.3.4 y11.3.5)) fun Qc=>Sml (Q9++[Rul.mk Qc.1 (Ex.mk Qc.2.1 Qc.2.2 Qc.2.3 Qc.2.4 Qc.2.5) (Srv.mk Qc.3.1 Qc.3.2 Qc.3.3 Qc.3.4 Qc.3.5)]).length/\InI (Wa+1)/\w39 (Q9++[Rul.mk Qc.1 (Ex.mk Qc.2.1 Qc.2.2 Qc.2.3 Qc.2.4 Qc.2.5) (Srv.mk Qc.3.1 Qc.3.2 Qc.3.3 Qc.3.4 Qc.3.5)]) (Wa+1)) (J2 (Srv.mk f.9.1 f.9.2 f.9.3 f.9.4 f.9.5) fun Wc=>K (Flg.mk f.1 f.2 Ql f.4 f.5 [] Wt Q9 Wc))) (List.replicate (Int.toNat (0:Int)) (Rul.mk (B8 []) (Ex.mk (0:Int) (B8 []) (B8 []) [] []) (Srv.mk (0:Int) (B8 []) (B8 []) (B8 []) []))) (0:Int)))) (List.replicate (Int.toNat (0:Int)) (Tgt.mk (B8 []) (0:Int) [])) (0:Int))) (Sml ([]++f.6).length/\(Fits f.7->((0:Int)<=(0:Int)/\(0:Int)<=(↑f.7.length:Int)/\Sml (↑f.7.length:Int).toNat)/\(Fits f.7->Lp2 (fun Wt q7k v1g=>CAt f.7 q7k (fun y8=>R8 y8 fun Q9=>Sml (Wt++[Q9]).length/\InI (q7k+1)/\v1g (Wt++[Q9]) (q7k+1)) (Fits f.8->((0:Int)<=(0:Int)/\(0:Int)<=(↑f.8.length:Int)/\Sml (↑f.8.length:Int).toNat)/\(Fits f.8->Lp2 (fun Q9 Wa w39=>CAt f.8 Wa (fun y11=>q4d (Rul.mk y11.1 (Ex.mk y11.2.1 y11.2.2 y11.2.3 y11.2.4 y11.2.5) (Srv.mk y11.3.1 y11.3.2 y11.3.3 y11.3.4 y11.3.5)) fun Qc=>Sml (Q9++[Rul.mk Qc.1 (Ex.mk Qc.2.1 Qc.2.2 Qc.2.3 Qc.2.4 Qc.2.5) (Srv.mk Qc.3.1 Qc.3.2 Qc.3.3 Qc.3.4 Qc.3.5)]).length/\InI (Wa+1)/\w39 (Q9++[Rul.mk Qc.1 (Ex.mk Qc.2.1 Qc.2.2 Qc.2.3 Qc.2.4 Qc.2.5) (Srv.mk Qc.3.1 Qc.3.2 Qc.3.3 Qc.3.4 Qc.3.5)]) (Wa+1)) (J2 (Srv.mk f.9.1 f.9.2 f.9.3 f.9.4 f.9.5) fun Wc=>K (Flg.mk f.1 f.2 Ql f.4 f.5 ([]++f.6) Wt Q9 Wc))) (List.replicate (Int.toNat (0:Int)) (Rul.mk (B8 []) (Ex.mk (0:Int) (B8 []) (B8 []) [] []) (Srv.mk (0:Int) (B8 []) (B8 []) (B8 []) []))) (0:Int)))) (List.replicate (Int.toNat (0:Int)) (Tgt.mk (B8 []) (0:Int) [])) (0:Int)))))) (List.replicate (Int.toNat (0:Int)) (Val.mk (0:Int) (0:Int) (B8 []) [])) (0:Int))
def Us:Vn:=z2s Uz R0 q0h q49
abbrev Q4:Type:=List (Col)->(List (Col)->Prop)->Prop
def Q5:Q4:=fun s K=> ∀n0,(n0=true->s=[])->Cnd (n0=true) (K []) (Sml ([]++s).length/\K ([]++s))
abbrev U0:Type:=Lay_->(Lay_->Prop)->Prop
def z0p(Qm:Q4):U0:=fun l K=>Qm l.6 fun Qa=>K (Lay_.mk l.1 l.2 l.3 l.4 l.5 Qa)
def U1:U0:=z0p Q5
abbrev Zq:Type:=Exper->(Exper->Prop)->Prop
def q08(Zf:J7):Zq:=fun x K=> ∀n0,(n0=true->x.6=[])->Cnd (n0=true) (∀n2,(n2=true->x.7=[])->Cnd (n2=true) (Zf (Ex.mk x.8.1 x.8.2 x.8.3 x.8.4 x.8.5) fun Qw=>K (Exper.mk x.1 x.2 x.3 x.4 x.5 [] [] (Ex.mk Qw.1 Qw.2 Qw.3 Qw.4 Qw.5))) (Sml ([]++x.7).length/\Zf (Ex.mk x.8.1 x.8.2 x.8.3 x.8.4 x.8.5) fun Qw=>K (Exper.mk x.1 x.2 x.3 x.4 x.5 [] ([]++x.7) (Ex.mk Qw.1 Qw.2 Qw.3 Qw.4 Qw.5)))) (Sml ([]++x.6).length/\ ∀n2,(n2=true->x.7=[])->Cnd (n2=true) (Zf (Ex.mk x.8.1 x.8.2 x.8.3 x.8.4 x.8.5) fun Qw=>K (Exper.mk x.1 x.2 x.3 x.4 x.5 ([]++x.6) [] (Ex.mk Qw.1 Qw.2 Qw.3 Qw.4 Qw.5))) (Sml ([]++x.7).length/\Zf (Ex.mk x.8.1 x.8.2 x.8.3 x.8.4 x.8.5) fun Qw=>K (Exper.mk x.1 x.2 x.3 x.4 x.5 ([]++x.6) ([]++x.7) (Ex.mk Qw.1 Qw.2 Qw.3 Qw.4 Qw.5))))
def Z6:Zq:=q08 q0g
abbrev q09:Type:=Int->Int->(Int->Prop)->Prop
def q1a:q09:=fun now cool K=>InI ((1099511627776:Int) - now)/\Cnd ((1099511627776:Int) - now<cool) (K (1099511627776:Int)) (InI (now+cool)/\K (now+cool))
abbrev W3:Type:=List (Col)->(List (Col)->Prop)->Prop
def B2(Qm:Q4):W3:=fun l K=>Qm l fun Qa=>Fits Qa->Lp2 (fun Ql Zx q82=>Cnd (Ql<(↑Qa.length:Int)) (Lp2 (fun Qn Wx j2j=>Cnd ((0:Int)<Qn) (At Wx Qn fun y4=>InI (Qn - 1)/\((0:Int)<=Qn - 1/\Qn - 1<(↑Wx.length:Int))/\ ∀y6,Wx[(Qn - 1).toNat]? =some y6->Cnd (y4.1<y6.1) (InI (Qn - 1)/\InI (Qn - 1)/\((0:Int)<=Qn - 1/\Qn - 1<(↑Wx.length:Int))/\ ∀y8,Wx[(Qn - 1).toNat]? =some y8->At Wx Qn fun y10=>At Wx Qn fun _=>((0:Int)<=Qn - 1/\Qn - 1<(↑(Wx.set Qn.toNat y8).length:Int))/\ ∀y14,(Wx.set Qn.toNat y8)[(Qn - 1).toNat]? =some y14->InI (Qn - 1)/\j2j (Qn - 1) ((Wx.set Qn.toNat y8).set (Qn - 1).toNat y10)) (InI (Ql+1)/\q82 (Ql+1) Wx)) (InI (Ql+1)/\q82 (Ql+1) Wx)) Ql Zx) (K Zx)) (0:Int) Qa
def U2:W3:=B2 Q5
abbrev Uh:Type:=List (Col)->Int->(List (Col)->Prop)->Prop
def q2v(U9:W3):Uh:=fun l now K=>U9 l fun Qa=>Lp3 (fun Qh Zn j47 w7f=>Cnd (Zn<10000) (Jn3 (fun Ql Zx q77=>Cnd (Ql=now) (InI (Zn+1)/\w7f q77 (Zn+1) Zx) (Fits q77->Cnd ((0:Int)<(↑q77.length:Int)) (InI ((↑q77.length:Int) - 1)/\((0:Int)<=(↑q77.length:Int) - 1/\(↑q77.length:Int) - 1<(↑q77.length:Int))/\ ∀y4,q77[((↑q77.length:Int) - 1).toNat]? =some y4->Cnd (y4.2=Zn) (InI ((↑q77.length:Int) - 1)/\((0:Int)<=(↑q77.length:Int) - 1/\(↑q77.length:Int) - 1<(↑q77.length:Int))/\ ∀y6,q77[((↑q77.length:Int) - 1).toNat]? =some y6->Cnd (y6.3=Ql) (InI ((↑q77.length:Int) - 1)/\InI (Zn+1)/\((0:Int)<=(↑q77.length:Int) - 1/\(↑q77.length:Int) - 1<(↑q77.length:Int))/\ ∀y8,q77[((↑q77.length:Int) - 1).toNat]? =some y8->InI (Zn+1)/\w7f (q77.set ((↑q77.length:Int) - 1).toNat (Col.mk y8.1 (Zn+1) y8.3)) (Zn+1) Zx) (InI (Zn+1)/\Sml (q77++[Col.mk Zn (Zn+1) Ql]).length/\InI (Zn+1)/\w7f (q77++[Col.mk Zn (Zn+1) Ql]) (Zn+1) Zx)) (InI (Zn+1)/\Sml (q77++[Col.mk Zn (Zn+1) Ql]).length/\InI (Zn+1)/\w7f (q77++[Col.mk Zn (Zn+1) Ql]) (Zn+1) Zx)) (InI (Zn+1)/\Sml (q77++[Col.mk Zn (Zn+1) Ql]).length/\InI (Zn+1)/\w7f (q77++[Col.mk Zn (Zn+1) Ql]) (Zn+1) Zx))) fun j85=>Fits j47->Lp4 (fun Qw V3 z8s v3y v7h=>Cnd (V3<(↑j47.length:Int)) (At z8s V3 fun y5=>Cnd (Zn<y5.1) (j85 Qw z8s v3y) (Cnd (Zn<y5.2) (InI (V3+1)/\v7h (Max.max Qw y5.3) (V3+1) z8s v3y) (InI (V3+1)/\v7h Qw (V3+1) z8s v3y))) (j85 Qw z8s v3y)) now (0:Int) j47 Qh) (K Qh)) [] (0:Int) Qa
def H7:Uh:=q2v U2
abbrev q2w:Type:=List (Lay_)->((List (Lay_)×Nat×List (Col))->Prop)->Prop
def q2x(l:List (Lay_))(K:(List (Lay_)×Nat×List (Col))->Prop):Prop:=Sml l.length/\(∀x∈l,Sml x.6.length)/\ ∃k x,l[k]? =some x/\K (l,k,x.6)
abbrev R1:Type:=Envt->ByteArray->Int->(Envt->Int->Prop)->Prop
def q8i(Zg:J0)(Q3:Jl)(Zm:Vn)(Uo:q2w)(Qq:Zq)(Up:Uh)(Hx:q09):R1:=fun v experiment now K=>Zg (Envt.mk (Sett.mk v.1.1 v.1.2 v.1.3) v.2 v.3 v.4 v.5 v.6) experiment now fun Qa Q8 w7j=>Cnd (w7j=0) (At v.6 Qa fun y1=>Cnd (y1.5=2) (Jn1 (fun Qn=>Fits v.3->((0:Int)<=(0:Int)/\(0:Int)<=(↑v.3.length:Int)/\Sml (↑v.3.length:Int).toNat)/\(Fits v.3->Lp2 (fun Jf j11 v7f=>CAt v.3 j11 (fun y7=>Q3 (Seg.mk y7.1 y7.2 y7.3 y7.4 (Ex.mk y7.5.1 y7.5.2 y7.5.3 y7.5.4 y7.5.5)) fun Jo=>Sml (Jf++[Seg.mk Jo.1 Jo.2 Jo.3 Jo.4 (Ex.mk Jo.5.1 Jo.5.2 Jo.5.3 Jo.5.4 Jo.5.5)]).length/\InI (j11+1)/\v7f (Jf++[Seg.mk Jo.1 Jo.2 Jo.3 Jo.4 (Ex.mk Jo.5.1 Jo.5.2 Jo.5.3 Jo.5.4 Jo.5.5)]) (j11+1)) (Fits v.4->((0:Int)<=(0:Int)/\(0:Int)<=(↑v.4.length:Int)/\Sml (↑v.4.length:Int).toNat)/\(Fits v.4->Lp2 (fun Jo z1y v7g=>CAt v.4 z1y (fun y10=>Zm (Flg.mk y10.1 y10.2 y10.3 y10.4 y10.5 y10.6 y10.7 y10.8 (Srv.mk y10.9.1 y10.9.2 y10.9.3 y10.9.4 y10.9.5)) fun Qr=>Sml (Jo++[Flg.mk Qr.1 Qr.2 Qr.3 Qr.4 Qr.5 Qr.6 Qr.7 Qr.8 (Srv.mk Qr.9.1 Qr.9.2 Qr.9.3 Qr.9.4 Qr.9.5)]).length/\InI (z1y+1)/\v7g (Jo++[Flg.mk Qr.1 Qr.2 Qr.3 Qr.4 Qr.5 Qr.6 Qr.7 Qr.8 (Srv.mk Qr.9.1 Qr.9.2 Qr.9.3 Qr.9.4 Qr.9.5)]) (z1y+1)) (Uo v.5 fun (Q9:List Lay_×Nat×List Col)=>Fits v.6->((0:Int)<=(0:Int)/\(0:Int)<=(↑v.6.length:Int)/\Sml (↑v.6.length:Int).toNat)/\(Fits v.6->Lp2 (fun Qc Ry v1c=>CAt v.6 Ry (fun y14=>Qq (Exper.mk y14.1 y14.2 y14.3 y14.4 y14.5 y14.6 y14.7 (Ex.mk y14.8.1 y14.8.2 y14.8.3 y14.8.4 y14.8.5)) fun Qi=>Sml (Qc++[Exper.mk Qi.1 Qi.2 Qi.3 Qi.4 Qi.5 Qi.6 Qi.7 (Ex.mk Qi.8.1 Qi.8.2 Qi.8.3 Qi.8.4 Qi.8.5)]).length/\InI (Ry+1)/\v1c (Qc++[Exper.mk Qi.1 Qi.2 Qi.3 Qi.4 Qi.5 Qi.6 Qi.7 (Ex.mk Qi.8.1 Qi.8.2 Qi.8.3 Qi.8.4 Qi.8.5)]) (Ry+1)) (At Qc Qa fun y14=>((0:Int)<=Q8/\Q8<(↑Q9.1.length:Int))/\Q8.toNat=Q9.2.1/\ ∀y16,Q9.1[Q8.toNat]? =some y16->Jn2 (fun Qd (q4s:List Lay_×Nat)=>Up Qd now fun Qs=>Q8.toNat=q4s.2/\ ∀y20,q4s.1[Q8.toNat]? =some y20-> ∀y22,(q4s.1.set Q8.toNat (Lay_.mk y20.1 y20.2 y20.3 y20.4 y20.5 Qs))[Q8.toNat]? =some y22->Fits y22.6->Cnd ((32:Int)<(↑y22.6.length:Int)) (K (Envt.mk (Sett.mk (B8 []) (B8 []) (0:Int)) [] [] [] [] []) (5:Int)) (K (Envt.mk (Sett.mk v.1.1 v.1.2 v.1.3) Qn Jf Jo (q4s.1.set Q8.toNat (Lay_.mk y20.1 y20.2 y20.3 y20.4 y20.5 Qs)) (Qc.set Qa.toNat (Exper.mk y14.1 y14.2 y14.3 y14.4 (3:Int) y14.6 y14.7 (Ex.mk y14.8.1 y14.8.2 y14.8.3 y14.8.4 y14.8.5)))) (0:Int))) fun (w7g:List Col->List Lay_×Nat->Prop)=>Q8.toNat=Q9.2.1/\ ∀y19,Q9.1[Q8.toNat]? =some y19->Cnd ((0:Int)<y19.5) (At v.6 Qa fun y21=>Fits y21.6->Lp3 (fun Qo v1a (w7i:List Lay_×Nat) y1z=>CAt y21.6 v1a (fun y25=>Q8.toNat=w7i.2/\ ∀y27,w7i.1[Q8.toNat]? =some y27->Hx now y27.5 fun (w37:Int)=>Sml (Qo++[Col.mk y25.1 y25.2 w37]).length/\InI (v1a+1)/\y1z (Qo++[Col.mk y25.1 y25.2 w37]) (v1a+1) (w7i.1,w7i.2)) (w7g Qo (w7i.1,w7i.2))) Q9.2.2 (0:Int) (Q9.1,Q9.2.1)) (w7g Q9.2.2 (Q9.1,Q9.2.1)))) (List.replicate (Int.toNat (0:Int)) (Exper.mk (B8 []) (B8 []) (B8 []) (B8 []) (0:Int) [] [] (Ex.mk (0:Int) (B8 []) (B8 []) [] []))) (0:Int)))) (List.replicate (Int.toNat (0:Int)) (Flg.mk (B8 []) (0:Int) [] false (0:Int) [] [] [] (Srv.mk (0:Int) (B8 []) (B8 []) (B8 []) []))) (0:Int)))) (List.replicate (Int.toNat (0:Int)) (Seg.mk (B8 []) (B8 []) [] [] (Ex.mk (0:Int) (B8 []) (B8 []) [] []))) (0:Int))) fun v4y=> ∀n4,(n4=true->v.2=[])->Cnd (n4=true) (v4y []) (Sml ([]++v.2).length/\v4y ([]++v.2))) (K (Envt.mk (Sett.mk (B8 []) (B8 []) (0:Int)) [] [] [] [] []) (25:Int))) (K (Envt.mk (Sett.mk (B8 []) (B8 []) (0:Int)) [] [] [] [] []) w7j)
def q3j:R1:=q8i Gn J8 Us q2x Z6 H7 q1a
abbrev Gw:Type:=Envt->ByteArray->(Int->Prop)->Prop
def Gx:Gw:=fun v key K=>Lp1 (fun Qa Gy=>Fits v.6->CAt v.6 Qa (fun y2=>Cnd (y2.1=key) (K Qa) (InI (Qa+1)/\Gy (Qa+1))) (K (-1:Int))) (0:Int)
abbrev U3:Type:=Lay_->Int->(List (Spn)->Prop)->Prop
def W4:U3:=fun l now K=>Fits l.6->Lp2 (fun Qh Zn z1z=>CAt l.6 Zn (fun y2=>Cnd (now<y2.3) (Sml (Qh++[Spn.mk y2.1 y2.2]).length/\InI (Zn+1)/\z1z (Qh++[Spn.mk y2.1 y2.2]) (Zn+1)) (InI (Zn+1)/\z1z Qh (Zn+1))) (K Qh)) [] (0:Int)
abbrev W5:Type:=Envt->ByteArray->ByteArray->Int->(List (Spn)->Prop)->Prop
def q6n(Zd:J6)(Jd:Gb)(W8:U3):W5:=fun v key but now K=>Zd (Envt.mk (Sett.mk v.1.1 v.1.2 v.1.3) v.2 v.3 v.4 v.5 v.6) key fun Qa=>Cnd (Qa<0) (K []) (Jn1 (fun Qh=>Fits v.6->Lp2 (fun Qn Wx j2j=>CAt v.6 Wx (fun y4=>Cnd (y4.2=key) (Cnd (y4.5=3) (InI (Wx+1)/\j2j Qn (Wx+1)) (Cnd (y4.1=but) (InI (Wx+1)/\j2j Qn (Wx+1)) (Sml (Qn++y4.6).length/\InI (Wx+1)/\j2j (Qn++y4.6) (Wx+1)))) (InI (Wx+1)/\j2j Qn (Wx+1))) (Jd Qn fun Qw=>K Qw)) Qh (0:Int)) fun w33=>At v.5 Qa fun y2=>At v.5 Qa fun y4=>(W8 y2 now fun Jf=>Sml (Jf++[Spn.mk (0:Int) y4.4]).length/\w33 (Jf++[Spn.mk (0:Int) y4.4]))/\W8 y2 now fun Jf=>Sml (Jf++[Spn.mk (0:Int) y4.4]).length/\w33 (Jf++[Spn.mk (0:Int) y4.4]))
def Ho:W5:=q6n Ug Gc W4
abbrev q6o:Type:=List (Spn)->List (Spn)->(List (Spn)->Prop)->Prop
def q1b(a:List (Spn))(b:List (Spn))(K:List (Spn)->Prop):Prop:=K ((Go.Fl.Sp.runs (fun i=>Go.Fl.Sp.cov (a.map fun s=>(s.lo,s.hi)) i && !Go.Fl.Sp.cov (b.map fun s=>(s.lo,s.hi)) i) 10000).map fun s=>Spn.mk s.1 s.2)
abbrev R2:Type:=Envt->ByteArray->Int->(List (Spn)->Int->Prop)->Prop
def q8j(Ji:Ve)(Zd:J6)(Jq:W5)(q2a:q6o):R2:=fun v key now K=>Ji now fun Qa=>Cnd (Qa=true) (Zd (Envt.mk (Sett.mk v.1.1 v.1.2 v.1.3) v.2 v.3 v.4 v.5 v.6) key fun Qh=>Cnd (Qh<0) (K [] (11:Int)) (Jq (Envt.mk (Sett.mk v.1.1 v.1.2 v.1.3) v.2 v.3 v.4 v.5 v.6) key (B8 []) now fun Ql=>q2a [Spn.mk (0:Int) (10000:Int)] Ql fun Qn=>K Qn (0:Int))) (K [] (3:Int))
def q3k:R2:=q8j Ge Ug Ho q1b
abbrev q4h:Type:=List (Spn)->List (Spn)->(List (Spn)->Prop)->Prop
def Bg(a:List (Spn))(b:List (Spn))(K:List (Spn)->Prop):Prop:=K ((Go.Fl.Sp.runs (fun i=>Go.Fl.Sp.cov (a.map fun s=>(s.lo,s.hi)) i && Go.Fl.Sp.cov (b.map fun s=>(s.lo,s.hi)) i) 10000).map fun s=>Spn.mk s.1 s.2)
abbrev q6p:Type:=List (Spn)->Int->(List (Spn)->Prop)->Prop
def q1c(l:List (Spn))(n:Int)(K:List (Spn)->Prop):Prop:=InI n/\K ((Go.Fl.Sp.runs (Go.Fl.Sp.firstP (Go.Fl.Sp.cov (l.map fun s=>(s.lo,s.hi))) n) 10000).map fun s=>Spn.mk s.1 s.2)
abbrev q6q:Type:=List (Spn)->List (Spn)->(List (Spn)->Prop)->Prop
def q1d(a:List (Spn))(b:List (Spn))(K:List (Spn)->Prop):Prop:=K ((Go.Fl.Sp.runs (fun i=>Go.Fl.Sp.cov (a.map fun s=>(s.lo,s.hi)) i||Go.Fl.Sp.cov (b.map fun s=>(s.lo,s.hi)) i) 10000).map fun s=>Spn.mk s.1 s.2)
abbrev Hp:Type:=Envt->ByteArray->Int->Int->(Envt->Int->Prop)->Prop
def q6r(Zg:J0)(q3t:R2)(J1:Rz)(q2b:q6p)(q2c:q6q)(Q3:Jl)(Zm:Vn)(Jr:U0)(Qq:Zq):Hp:=fun v experiment size now K=>Zg (Envt.mk (Sett.mk v.1.1 v.1.2 v.1.3) v.2 v.3 v.4 v.5 v.6) experiment now fun Qa _ w7j=>Cnd (w7j=0) (At v.6 Qa fun y1=>Cnd (y1.5=3) (K (Envt.mk (Sett.mk (B8 []) (B8 []) (0:Int)) [] [] [] [] []) (25:Int)) (Cnd (size<1) (K (Envt.mk (Sett.mk (B8 []) (B8 []) (0:Int)) [] [] [] [] []) (3:Int)) (q3t (Envt.mk (Sett.mk v.1.1 v.1.2 v.1.3) v.2 v.3 v.4 v.5 v.6) y1.2 now fun Qn _=>J1 Qn fun Qw=>Cnd (Qw<size) (K (Envt.mk (Sett.mk (B8 []) (B8 []) (0:Int)) [] [] [] [] []) (19:Int)) (q2b Qn size fun Zl=>q2c y1.6 Zl fun Jf=>Fits Jf->Cnd ((16:Int)<(↑Jf.length:Int)) (K (Envt.mk (Sett.mk (B8 []) (B8 []) (0:Int)) [] [] [] [] []) (5:Int)) (∀n8,(n8=true->v.2=[])->Cnd (n8=true) (Fits v.3->((0:Int)<=(0:Int)/\(0:Int)<=(↑v.3.length:Int)/\Sml (↑v.3.length:Int).toNat)/\(Fits v.3->Lp2 (fun Qr z8q v7q=>CAt v.3 z8q (fun y13=>Q3 (Seg.mk y13.1 y13.2 y13.3 y13.4 (Ex.mk y13.5.1 y13.5.2 y13.5.3 y13.5.4 y13.5.5)) fun Zo=>Sml (Qr++[Seg.mk Zo.1 Zo.2 Zo.3 Zo.4 (Ex.mk Zo.5.1 Zo.5.2 Zo.5.3 Zo.5.4 Zo.5.5)]).length/\InI (z8q+1)/\v7q (Qr++[Seg.mk Zo.1 Zo.2 Zo.3 Zo.4 (Ex.mk Zo.5.1 Zo.5.2 Zo.5.3 Zo.5.4 Zo.5.5)]) (z8q+1)) (Fits v.4->((0:Int)<=(0:Int)/\(0:Int)<=(↑v.4.length:Int)/\Sml (↑v.4.length:Int).toNat)/\(Fits v.4->Lp2 (fun Zo z6w v7r=>CAt v.4 z6w (fun y16=>Zm (Flg.mk y16.1 y16.2 y16.3 y16.4 y16.5 y16.6 y16.7 y16.8 (Srv.mk y16.9.1 y16.9.2 y16.9.3 y16.9.4 y16.9.5)) fun Qd=>Sml (Zo++[Flg.mk Qd.1 Qd.2 Qd.3 Qd.4 Qd.5 Qd.6 Qd.7 Qd.8 (Srv.mk Qd.9.1 Qd.9.2 Qd.9.3 Qd.9.4 Qd.9.5)]).length/\InI (z6w+1)/\v7r (Zo++[Flg.mk Qd.1 Qd.2 Qd.3 Qd.4 Qd.5 Qd.6 Qd.7 Qd.8 (Srv.mk Qd.9.1 Qd.9.2 Qd.9.3 Qd.9.4 Qd.9.5)]) (z6w+1)) (Fits v.5->((0:Int)<=(0:Int)/\(0:Int)<=(↑v.5.length:Int)/\Sml (↑v.5.length:Int).toNat)/\(Fits v.5->Lp2 (fun Qd q4s v7s=>CAt v.5 q4s (fun y19=>Jr y19 fun Qz=>Sml (Qd++[Qz]).length/\InI (q4s+1)/\v7s (Qd++[Qz]) (q4s+1)) (Fits v.6->((0:Int)<=(0:Int)/\(0:Int)<=(↑v.6.length:Int)/\Sml (↑v.6.length:Int).toNat)/\(Fits v.6->Lp2 (fun Qz z8p v7t=>CAt v.6 z8p (fun y22=>Qq (Exper.mk y22.1 y22.2 y22.3 y22.4 y22.5 y22.6 y22.7 (Ex.mk y22.8.1 y22.8.2 y22.8.3 y22.8.4 y22.8.5)) fun Qo=>Sml (Qz++[Exper.mk Qo.1 Qo.2 Qo.3 Qo.4 Qo.5 Qo.6 Qo.7 (Ex.mk Qo.8.1 Qo.8.2 Qo.8.3 Qo.8.4 Qo.8.5)]).length/\InI (z8p+1)/\v7t (Qz++[Exper.mk Qo.1 Qo.2 Qo.3 Qo.4 Qo.5 Qo.6 Qo.7 (Ex.mk Qo.8.1 Qo.8.2 Qo.8.3 Qo.8.4 Qo.8.5)]) (z8p+1)) (At Qz Qa fun y22=>K (Envt.mk (Sett.mk v.1.1 v.1.2 v.1.3) [] Qr Zo Qd (Qz.set Qa.toNat (Exper.mk y22.1 y22.2 y22.3 y22.4 y22.5 Jf y22.7 (Ex.mk y22.8.1 y22.8.2 y22.8.3 y22.8.4 y22.8.5)))) (0:Int))) (List.replicate (Int.toNat (0:Int)) (Exper.mk (B8 []) (B8 []) (B8 []) (B8 []) (0:Int) [] [] (Ex.mk (0:Int) (B8 []) (B8 []) [] []))) (0:Int)))) (List.replicate (Int.toNat (0:Int)) (Lay_.mk (B8 []) (B8 []) (B8 []) (0:Int) (0:Int) [])) (0:Int)))) (List.replicate (Int.toNat (0:Int)) (Flg.mk (B8 []) (0:Int) [] false (0:Int) [] [] [] (Srv.mk (0:Int) (B8 []) (B8 []) (B8 []) []))) (0:Int)))) (List.replicate (Int.toNat (0:Int)) (Seg.mk (B8 []) (B8 []) [] [] (Ex.mk (0:Int) (B8 []) (B8 []) [] []))) (0:Int))) (Sml ([]++v.2).length/\(Fits v.3->((0:Int)<=(0:Int)/\(0:Int)<=(↑v.3.length:Int)/\Sml (↑v.3.length:Int).toNat)/\(Fits v.3->Lp2 (fun Qr z8q v7q=>CAt v.3 z8q (fun y13=>Q3 (Seg.mk y13.1 y13.2 y13.3 y13.4 (Ex.mk y13.5.1 y13.5.2 y13.5.3 y13.5.4 y13.5.5)) fun Zo=>Sml (Qr++[Seg.mk Zo.1 Zo.2 Zo.3 Zo.4 (Ex.mk Zo.5.1 Zo.5.2 Zo.5.3 Zo.5.4 Zo.5.5)]).length/\InI (z8q+1)/\v7q (Qr++[Seg.mk Zo.1 Zo.2 Zo.3 Zo.4 (Ex.mk Zo.5.1 Zo.5.2 Zo.5.3 Zo.5.4 Zo.5.5)]) (z8q+1)) (Fits v.4->((0:Int)<=(0:Int)/\(0:Int)<=(↑v.4.length:Int)/\Sml (↑v.4.length:Int).toNat)/\(Fits v.4->Lp2 (fun Zo z6w v7r=>CAt v.4 z6w (fun y16=>Zm (Flg.mk y16.1 y16.2 y16.3 y16.4 y16.5 y16.6 y16.7 y16.8 (Srv.mk y16.9.1 y16.9.2 y16.9.3 y16.9.4 y16.9.5)) fun Qd=>Sml (Zo++[Flg.mk Qd.1 Qd.2 Qd.3 Qd.4 Qd.5 Qd.6 Qd.7 Qd.8 (Srv.mk Qd.9.1 Qd.9.2 Qd.9.3 Qd.9.4 Qd.9.5)]).length/\InI (z6w+1)/\v7r (Zo++[Flg.mk Qd.1 Qd.2 Qd.3 Qd.4 Qd.5 Qd.6 Qd.7 Qd.8 (Srv.mk Qd.9.1 Qd.9.2 Qd.9.3 Qd.9.4 Qd.9.5)]) (z6w+1)) (Fits v.5->((0:Int)<=(0:Int)/\(0:Int)<=(↑v.5.length:Int)/\Sml (↑v.5.length:Int).toNat)/\(Fits v.5->Lp2 (fun Qd q4s v7s=>CAt v.5 q4s (fun y19=>Jr y19 fun Qz=>Sml (Qd++[Qz]).length/\InI (q4s+1)/\v7s (Qd++[Qz]) (q4s+1)) (Fits v.6->((0:Int)<=(0:Int)/\(0:Int)<=(↑v.6.length:Int)/\Sml (↑v.6.length:Int).toNat)/\(Fits v.6->Lp2 (fun Qz z8p v7t=>CAt v.6 z8p (fun y22=>Qq (Exper.mk y22.1 y22.2 y22.3 y22.4 y22.5 y22.6 y22.7 (Ex.mk y22.8.1 y22.8.2 y22.8.3 y22.8.4 y22.8.5)) fun Qo=>Sml (Qz++[Exper.mk Qo.1 Qo.2 Qo.3 Qo.4 Qo.5 Qo.6 Qo.7 (Ex.mk Qo.8.1 Qo.8.2 Qo.8.3 Qo.8.4 Qo.8.5)]).length/\InI (z8p+1)/\v7t (Qz++[Exper.mk Qo.1 Qo.2 Qo.3 Qo.4 Qo.5 Qo.6 Qo.7 (Ex.mk Qo.8.1 Qo.8.2 Qo.8.3 Qo.8.4 Qo.8.5)]) (z8p+1)) (At Qz Qa fun y22=>K (Envt.mk (Sett.mk v.1.1 v.1.2 v.1.3) ([]++v.2) Qr Zo Qd (Qz.set Qa.toNat (Exper.mk y22.1 y22.2 y22.3 y22.4 y22.5 Jf y22.7 (Ex.mk y22.8.1 y22.8.2 y22.8.3 y22.8.4 y22.8.5)))) (0:Int))) (List.replicate (Int.toNat (0:Int)) (Exper.mk (B8 []) (B8 []) (B8 []) (B8 []) (0:Int) [] [] (Ex.mk (0:Int) (B8 []) (B8 []) [] []))) (0:Int)))) (List.replicate (Int.toNat (0:Int)) (Lay_.mk (B8 []) (B8 []) (B8 []) (0:Int) (0:Int) [])) (0:Int)))) (List.replicate (Int.toNat (0:Int)) (Flg.mk (B8 []) (0:Int) [] false (0:Int) [] [] [] (Srv.mk (0:Int) (B8 []) (B8 []) (B8 []) []))) (0:Int)))) (List.replicate (Int.toNat (0:Int)) (Seg.mk (B8 []) (B8 []) [] [] (Ex.mk (0:Int) (B8 []) (B8 []) [] []))) (0:Int))))))))) (K (Envt.mk (Sett.mk (B8 []) (B8 []) (0:Int)) [] [] [] [] []) w7j)
def q1e:Hp:=q6r Gn q3k Gj q1c q1d J8 Us U1 Z6
abbrev q9q:Type:=List (Int)->Int->Envt->Int->(Envt->Int->Prop)->Prop
def z9f(Qb:Zu)(Je:H0)(Jg:q0q)(Vo:q43)(Vu:q55)(Z3:q0r)(Zw:V7)(V5:q0s)(Q1:Z0)(Jp:Uy):q9q:=fun list at_ v _ K=>Sml ([]++v.2).length/\Sml ([]++v.3).length/\Sml ([]++v.4).length/\Sml ([]++v.5).length/\Sml ([]++v.6).length/\LpH (fun (Qa:Int×ByteArray×ByteArray×Int×List Decl×List Flg×List Exper×Int×List Lay_×List Seg×Unit) (Gy:Int×ByteArray×ByteArray×Int×List Decl×List Flg×List Exper×Int×List Lay_×List Seg×Unit->Prop)=>Qb list Qa.2.2.2.2.2.2.2.1 (3:Int) fun Qh Zn=>Cnd (Qa.1<=Qh) (Qb list Zn (10:Int) fun Ql Zx=>Cnd (Ql=0) (Je list Zx fun Qn Wx=>Jg list Wx (2500:Int) fun Qw V3=>InI (Qa.1+1)/\Gy (Qa.1+1,Qn,B8 [117,115,101,114],Qw,Qa.2.2.2.2.1,Qa.2.2.2.2.2.1,Qa.2.2.2.2.2.2.1,V3,Qa.2.2.2.2.2.2.2.2.1,Qa.2.2.2.2.2.2.2.2.2.1,())) (Cnd (Ql=1) (Qb list Zx (4:Int) fun Qn Wx=>Fits Qa.2.2.2.2.2.2.2.2.2.1->Cnd (Qn<(↑Qa.2.2.2.2.2.2.2.2.2.1.length:Int)) (Vo list Wx fun Zl z4v=>At Qa.2.2.2.2.2.2.2.2.2.1 Qn fun y6=>InI (Qa.1+1)/\Gy (Qa.1+1,Qa.2.1,Qa.2.2.1,Qa.2.2.2.1,Qa.2.2.2.2.1,Qa.2.2.2.2.2.1,Qa.2.2.2.2.2.2.1,z4v,Qa.2.2.2.2.2.2.2.2.1,Qa.2.2.2.2.2.2.2.2.2.1.set Qn.toNat (Seg.mk y6.1 y6.2 Zl y6.4 (Ex.mk y6.5.1 y6.5.2 y6.5.3 y6.5.4 y6.5.5)),())) (InI (Qa.1+1)/\Gy (Qa.1+1,Qa.2.1,Qa.2.2.1,Qa.2.2.2.1,Qa.2.2.2.2.1,Qa.2.2.2.2.2.1,Qa.2.2.2.2.2.2.1,Wx,Qa.2.2.2.2.2.2.2.2.1,Qa.2.2.2.2.2.2.2.2.2.1,()))) (Cnd (Ql=2) (Qb list Zx (4:Int) fun Qn Wx=>Fits Qa.2.2.2.2.2.1->CAt Qa.2.2.2.2.2.1 Qn (fun y5=>At Qa.2.2.2.2.2.1 Qn fun y7=>InI (Qa.1+1)/\Gy (Qa.1+1,Qa.2.1,Qa.2.2.1,Qa.2.2.2.1,Qa.2.2.2.2.1,Qa.2.2.2.2.2.1.set Qn.toNat (Flg.mk y7.1 y7.2 y7.3 (match decide ((flC C.flag y5).2.2.2.1=true) with|true=>false|false=>true) y7.5 y7.6 y7.7 y7.8 (Srv.mk y7.9.1 y7.9.2 y7.9.3 y7.9.4 y7.9.5)),Qa.2.2.2.2.2.2.1,Wx,Qa.2.2.2.2.2.2.2.2.1,Qa.2.2.2.2.2.2.2.2.2.1,())) (InI (Qa.1+1)/\Gy (Qa.1+1,Qa.2.1,Qa.2.2.1,Qa.2.2.2.1,Qa.2.2.2.2.1,Qa.2.2.2.2.2.1,Qa.2.2.2.2.2.2.1,Wx,Qa.2.2.2.2.2.2.2.2.1,Qa.2.2.2.2.2.2.2.2.2.1,()))) (Cnd (Ql=3) (Qb list Zx (4:Int) fun Qn Wx=>Fits Qa.2.2.2.2.2.1->CAt Qa.2.2.2.2.2.1 Qn (fun y5=>Fits y5.3->Vu list Wx (↑y5.3.length:Int) fun Z4 z8h=>At Qa.2.2.2.2.2.1 Qn fun y9=>InI (Qa.1+1)/\Gy (Qa.1+1,Qa.2.1,Qa.2.2.1,Qa.2.2.2.1,Qa.2.2.2.2.1,Qa.2.2.2.2.2.1.set Qn.toNat (Flg.mk y9.1 y9.2 y9.3 y9.4 y9.5 y9.6 y9.7 y9.8 Z4),Qa.2.2.2.2.2.2.1,z8h,Qa.2.2.2.2.2.2.2.2.1,Qa.2.2.2.2.2.2.2.2.2.1,())) (InI (Qa.1+1)/\Gy (Qa.1+1,Qa.2.1,Qa.2.2.1,Qa.2.2.2.1,Qa.2.2.2.2.1,Qa.2.2.2.2.2.1,Qa.2.2.2.2.2.2.1,Wx,Qa.2.2.2.2.2.2.2.2.1,Qa.2.2.2.2.2.2.2.2.2.1,()))) (Cnd (Ql=4) (Qb list Zx (4:Int) fun Qn Wx=>Fits Qa.2.2.2.2.2.1->Cnd (Qn<(↑Qa.2.2.2.2.2.1.length:Int)) (((0:Int)<=(0:Int)/\(0:Int)<=Qn/\Qn<=(↑Qa.2.2.2.2.2.1.length:Int))/\InI (Qn+1)/\((0:Int)<=Qn+1/\Qn+1<=(↑Qa.2.2.2.2.2.1.length:Int)/\(↑Qa.2.2.2.2.2.1.length:Int)<=(↑Qa.2.2.2.2.2.1.length:Int))/\((0:Int)=(0:Int)/\(0:Int)<=Qn/\Qn<=Qn+1/\Qn+1<=(↑Qa.2.2.2.2.2.1.length:Int)/\(↑Qa.2.2.2.2.2.1.length:Int)<=(↑Qa.2.2.2.2.2.1.length:Int))/\Sml (List.take Qn.toNat Qa.2.2.2.2.2.1++List.drop (Qn+1).toNat (List.take (↑Qa.2.2.2.2.2.1.length:Int).toNat Qa.2.2.2.2.2.1)).length/\InI (Qa.1+1)/\Gy (Qa.1+1,Qa.2.1,Qa.2.2.1,Qa.2.2.2.1,Qa.2.2.2.2.1,List.take Qn.toNat Qa.2.2.2.2.2.1++List.drop (Qn+1).toNat (List.take (↑Qa.2.2.2.2.2.1.length:Int).toNat Qa.2.2.2.2.2.1),Qa.2.2.2.2.2.2.1,Wx,Qa.2.2.2.2.2.2.2.2.1,Qa.2.2.2.2.2.2.2.2.2.1,())) (InI (Qa.1+1)/\Gy (Qa.1+1,Qa.2.1,Qa.2.2.1,Qa.2.2.2.1,Qa.2.2.2.2.1,Qa.2.2.2.2.2.1,Qa.2.2.2.2.2.2.1,Wx,Qa.2.2.2.2.2.2.2.2.1,Qa.2.2.2.2.2.2.2.2.2.1,()))) (Cnd (Ql=5) (Fits Qa.2.2.2.2.2.1->Cnd ((↑Qa.2.2.2.2.2.1.length:Int)=0) (Qb list Zx (5:Int) fun Qw V3=>InI ((1:Int)+Qw)/\Qb list V3 (6:Int) fun Zl z4v=>Qb list z4v (4:Int) fun Jf j11=>InI ((1:Int)+Jf)/\Lp4 (fun Wt q7k v7u w7k v9o=>Cnd (Wt<1+Jf) (Z3 list q7k ((1:Int)+Qw) fun Z4 z8h=>Sml (v7u++[Z4]).length/\InI (Wt+1)/\v9o (Wt+1) z8h (v7u++[Z4]) w7k) (Qb list q7k ((1:Int)+Jf) fun Z4 z8h=>InI ((1:Int)+Z4)/\Lp4 (fun Jo z1y v7e v07 y2a=>Cnd (Jo<0) (Qb list z1y (4:Int) fun Q9 Wa=>Cnd (Q9=1) False (InI (Jo+1)/\y2a (Jo+1) Wa v7e v07)) (Lp5 (fun Q9 Wa z5b j59 w4a v1d=>Qb list Wa (3:Int) fun Wc z1c=>Cnd (Q9<Wc) (Qb list z1c ((1:Int)+Jf) fun Qr z8q=>InI ((1:Int)+Qr)/\Vo list z8q fun Qc Ry=>Jn1 (fun (Zs:ByteArray×Int×List ByteArray×List Seg×List Val×List Tgt×Unit)=>Fits Zs.2.2.1->Cnd ((0:Int)<(↑Zs.2.2.1.length:Int)) (Sml (Zs.2.2.2.2.2.1++[Tgt.mk Zs.1 ((1:Int)+Qr) Zs.2.2.1]).length/\InI (Q9+1)/\v1d (Q9+1) Zs.2.1 (Zs.2.2.2.2.2.1++[Tgt.mk Zs.1 ((1:Int)+Qr) Zs.2.2.1]) Zs.2.2.2.2.1 Zs.2.2.2.1) (InI (Q9+1)/\v1d (Q9+1) Zs.2.1 Zs.2.2.2.2.2.1 Zs.2.2.2.2.1 Zs.2.2.2.1)) fun (v1e:ByteArray×Int×List ByteArray×List Seg×List Val×List Tgt×Unit->Prop)=>Qb list Ry (4:Int) fun Zo z6w=>Cnd (Zo=1) (v1e (B8 [100,101,118,105,99,101],z6w,Qc,w4a,j59,z5b,())) (v1e (B8 [117,115,101,114],z6w,Qc,w4a,j59,z5b,()))) (Jn1 (fun (Qr:Int×List Rul×List ByteArray×List Seg×List Val×List Tgt×Unit)=>Vu list Qr.1 ((1:Int)+Jf) fun Qc Ry=>Sml (Qa.2.2.2.2.2.1++[Flg.mk (B8 [102,122]) ((1:Int)+Qw) Qr.2.2.2.2.1 (decide (Zl<5)) ((1:Int)+Z4) [] Qr.2.2.2.2.2.1 Qr.2.1 Qc]).length/\InI (Qa.1+1)/\Gy (Qa.1+1,Qa.2.1,Qa.2.2.1,Qa.2.2.2.1,Qa.2.2.2.2.1,Qa.2.2.2.2.2.1++[Flg.mk (B8 [102,122]) ((1:Int)+Qw) Qr.2.2.2.2.1 (decide (Zl<5)) ((1:Int)+Z4) [] Qr.2.2.2.2.2.1 Qr.2.1 Qc],Qa.2.2.2.2.2.2.1,Ry,Qa.2.2.2.2.2.2.2.2.1,Qr.2.2.2.1,())) fun (w4b:Int×List Rul×List ByteArray×List Seg×List Val×List Tgt×Unit->Prop)=>LpH (fun (Qc:Int×Int×List Rul×List ByteArray×List Seg×List Val×List Tgt×Unit) (w7h:Int×Int×List Rul×List ByteArray×List Seg×List Val×List Tgt×Unit->Prop)=>Qb list Qc.2.1 (5:Int) fun Zs w1n=>Cnd (Qc.1<Zs) (At Qc.2.2.2.1 Qc.1 fun y15=>Zw (Envt.mk (Sett.mk (B8 []) (B8 []) (0:Int)) [] Qc.2.2.2.2.1 [] [] []) fun Gi=>V5 list w1n Gi (3:Int) fun Qd q4s=>Vu list q4s ((1:Int)+Jf) fun Qs q81=>Sml (Qc.2.2.1++[Rul.mk y15 (Ex.mk Qd.1 Qd.2 Qd.3 Qd.4 Qd.5) Qs]).length/\Q1 (Qc.2.2.1++[Rul.mk y15 (Ex.mk Qd.1 Qd.2 Qd.3 Qd.4 Qd.5) Qs]) fun Gt _ v7v=>Cnd (v7v=true) (Fits Gt->Cnd ((0:Int)<(↑Gt.length:Int)) ((Qc.2.2.1++[Rul.mk y15 (Ex.mk Qd.1 Qd.2 Qd.3 Qd.4 Qd.5) Qs]).length<=(9223372036854775807:Nat)->InI ((↑(Qc.2.2.1++[Rul.mk y15 (Ex.mk Qd.1 Qd.2 Qd.3 Qd.4 Qd.5) Qs]).length:Int) - 1)/\((0:Int)<=(↑(Qc.2.2.1++[Rul.mk y15 (Ex.mk Qd.1 Qd.2 Qd.3 Qd.4 Qd.5) Qs]).length:Int) - 1/\(↑(Qc.2.2.1++[Rul.mk y15 (Ex.mk Qd.1 Qd.2 Qd.3 Qd.4 Qd.5) Qs]).length:Int) - 1<=(↑(Qc.2.2.1++[Rul.mk y15 (Ex.mk Qd.1 Qd.2 Qd.3 Qd.4 Qd.5) Qs]).length:Int))/\w4b (q81,List.take ((↑(Qc.2.2.1++[Rul.mk y15 (Ex.mk Qd.1 Qd.2 Qd.3 Qd.4 Qd.5) Qs]).length:Int) - 1).toNat (Qc.2.2.1++[Rul.mk y15 (Ex.mk Qd.1 Qd.2 Qd.3 Qd.4 Qd.5) Qs]),Qc.2.2.2.1,Qc.2.2.2.2.1,Qc.2.2.2.2.2.1,Qc.2.2.2.2.2.2.1,())) (InI (Qc.1+1)/\w7h (Qc.1+1,q81,Qc.2.2.1++[Rul.mk y15 (Ex.mk Qd.1 Qd.2 Qd.3 Qd.4 Qd.5) Qs],Qc.2.2.2.1,Qc.2.2.2.2.1,Qc.2.2.2.2.2.1,Qc.2.2.2.2.2.2.1,()))) ((Qc.2.2.1++[Rul.mk y15 (Ex.mk Qd.1 Qd.2 Qd.3 Qd.4 Qd.5) Qs]).length<=(9223372036854775807:Nat)->InI ((↑(Qc.2.2.1++[Rul.mk y15 (Ex.mk Qd.1 Qd.2 Qd.3 Qd.4 Qd.5) Qs]).length:Int) - 1)/\((0:Int)<=(↑(Qc.2.2.1++[Rul.mk y15 (Ex.mk Qd.1 Qd.2 Qd.3 Qd.4 Qd.5) Qs]).length:Int) - 1/\(↑(Qc.2.2.1++[Rul.mk y15 (Ex.mk Qd.1 Qd.2 Qd.3 Qd.4 Qd.5) Qs]).length:Int) - 1<=(↑(Qc.2.2.1++[Rul.mk y15 (Ex.mk Qd.1 Qd.2 Qd.3 Qd.4 Qd.5) Qs]).length:Int))/\w4b (q81,List.take ((↑(Qc.2.2.1++[Rul.mk y15 (Ex.mk Qd.1 Qd.2 Qd.3 Qd.4 Qd.5) Qs]).length:Int) - 1).toNat (Qc.2.2.1++[Rul.mk y15 (Ex.mk Qd.1 Qd.2 Qd.3 Qd.4 Qd.5) Qs]),Qc.2.2.2.1,Qc.2.2.2.2.1,Qc.2.2.2.2.2.1,Qc.2.2.2.2.2.2.1,()))) (w4b (w1n,Qc.2.2.1,Qc.2.2.2.1,Qc.2.2.2.2.1,Qc.2.2.2.2.2.1,Qc.2.2.2.2.2.2.1,()))) ((0:Int),z1c,[],[B8 [102,105,114,115,116],B8 [115,101,99,111,110,100],B8 [116,104,105,114,100],B8 [102,111,117,114,116,104]],w4a,j59,z5b,()))) (0:Int) z1y [] v07 v7e)) (0:Int) z8h w7k v7u)) (0:Int) j11 [] Qa.2.2.2.2.2.2.2.2.2.1) (Fits Qa.2.2.2.2.2.1->InI ((↑Qa.2.2.2.2.2.1.length:Int) - 1)/\((0:Int)<=(↑Qa.2.2.2.2.2.1.length:Int) - 1/\(↑Qa.2.2.2.2.2.1.length:Int) - 1<(↑Qa.2.2.2.2.2.1.length:Int))/\ ∀y5,Qa.2.2.2.2.2.1[((↑Qa.2.2.2.2.2.1.length:Int) - 1).toNat]? =some y5->Cnd (Lk.blt y5.1 (B8 [102,122])) (Qb list Zx (5:Int) fun Wt q7k=>InI ((1:Int)+Wt)/\Qb list q7k (6:Int) fun Z4 z8h=>Qb list z8h (4:Int) fun Jo z1y=>InI ((1:Int)+Jo)/\Lp4 (fun Q9 Wa z5b j59 y2b=>Cnd (Q9<1+Jo) (Z3 list Wa ((1:Int)+Wt) fun Wc z1c=>Sml (z5b++[Wc]).length/\InI (Q9+1)/\y2b (Q9+1) z1c (z5b++[Wc]) j59) (Qb list Wa ((1:Int)+Jo) fun Wc z1c=>InI ((1:Int)+Wc)/\Lp4 (fun Qr z8q v90 v91 y2c=>Cnd (Qr<0) (Qb list z8q (4:Int) fun Qc Ry=>Cnd (Qc=1) False (InI (Qr+1)/\y2c (Qr+1) Ry v90 v91)) (Lp5 (fun Qc Ry w34 w35 v7w v92=>Qb list Ry (3:Int) fun Zs w1n=>Cnd (Qc<Zs) (Qb list w1n ((1:Int)+Jo) fun Zo z6w=>InI ((1:Int)+Zo)/\Vo list z6w fun Qi z5c=>Jn1 (fun (Gi:ByteArray×Int×List ByteArray×List Seg×List Val×List Tgt×Unit)=>Fits Gi.2.2.1->Cnd ((0:Int)<(↑Gi.2.2.1.length:Int)) (Sml (Gi.2.2.2.2.2.1++[Tgt.mk Gi.1 ((1:Int)+Zo) Gi.2.2.1]).length/\InI (Qc+1)/\v92 (Qc+1) Gi.2.1 (Gi.2.2.2.2.2.1++[Tgt.mk Gi.1 ((1:Int)+Zo) Gi.2.2.1]) Gi.2.2.2.2.1 Gi.2.2.2.1) (InI (Qc+1)/\v92 (Qc+1) Gi.2.1 Gi.2.2.2.2.2.1 Gi.2.2.2.2.1 Gi.2.2.2.1)) fun (v93:ByteArray×Int×List ByteArray×List Seg×List Val×List Tgt×Unit->Prop)=>Qb list z5c (4:Int) fun Qd q4s=>Cnd (Qd=1) (v93 (B8 [100,101,118,105,99,101],q4s,Qi,v7w,w35,w34,())) (v93 (B8 [117,115,101,114],q4s,Qi,v7w,w35,w34,()))) (Jn1 (fun (Zo:Int×List Rul×List ByteArray×List Seg×List Val×List Tgt×Unit)=>Vu list Zo.1 ((1:Int)+Jo) fun Qi z5c=>Sml (Qa.2.2.2.2.2.1++[Flg.mk (B8 [102,122]) ((1:Int)+Wt) Zo.2.2.2.2.1 (decide (Z4<5)) ((1:Int)+Wc) [] Zo.2.2.2.2.2.1 Zo.2.1 Qi]).length/\InI (Qa.1+1)/\Gy (Qa.1+1,Qa.2.1,Qa.2.2.1,Qa.2.2.2.1,Qa.2.2.2.2.1,Qa.2.2.2.2.2.1++[Flg.mk (B8 [102,122]) ((1:Int)+Wt) Zo.2.2.2.2.1 (decide (Z4<5)) ((1:Int)+Wc) [] Zo.2.2.2.2.2.1 Zo.2.1 Qi],Qa.2.2.2.2.2.2.1,z5c,Qa.2.2.2.2.2.2.2.2.1,Zo.2.2.2.1,())) fun (v7x:Int×List Rul×List ByteArray×List Seg×List Val×List Tgt×Unit->Prop)=>LpH (fun (Qi:Int×Int×List Rul×List ByteArray×List Seg×List Val×List Tgt×Unit) (v3z:Int×Int×List Rul×List ByteArray×List Seg×List Val×List Tgt×Unit->Prop)=>Qb list Qi.2.1 (5:Int) fun Gi w36=>Cnd (Qi.1<Gi) (At Qi.2.2.2.1 Qi.1 fun y18=>Zw (Envt.mk (Sett.mk (B8 []) (B8 []) (0:Int)) [] Qi.2.2.2.2.1 [] [] []) fun (Gt:List ByteArray)=>V5 list w36 Gt (3:Int) fun (Qz:Ex) (z8p:Int)=>Vu list z8p ((1:Int)+Jo) fun (Zr:Srv) (v09:Int)=>Sml (Qi.2.2.1++[Rul.mk y18 (Ex.mk Qz.1 Qz.2 Qz.3 Qz.4 Qz.5) Zr]).length/\Q1 (Qi.2.2.1++[Rul.mk y18 (Ex.mk Qz.1 Qz.2 Qz.3 Qz.4 Qz.5) Zr]) fun (v31:List Int) (_:Int) (y2d:Bool)=>Cnd (y2d=true) (Fits v31->Cnd ((0:Int)<(↑v31.length:Int)) ((Qi.2.2.1++[Rul.mk y18 (Ex.mk Qz.1 Qz.2 Qz.3 Qz.4 Qz.5) Zr]).length<=(9223372036854775807:Nat)->InI ((↑(Qi.2.2.1++[Rul.mk y18 (Ex.mk Qz.1 Qz.2 Qz.3 Qz.4 Qz.5) Zr]).length:Int) - 1)/\((0:Int)<=(↑(Qi.2.2.1++[Rul.mk y18 (Ex.mk Qz.1 Qz.2 Qz.3 Qz.4 Qz.5) Zr]).length:Int) - 1/\(↑(Qi.2.2.1++[Rul.mk y18 (Ex.mk Qz.1 Qz.2 Qz.3 Qz.4 Qz.5) Zr]).length:Int) - 1<=(↑(Qi.2.2.1++[Rul.mk y18 (Ex.mk Qz.1 Qz.2 Qz.3 Qz.4 Qz.5) Zr]).length:Int))/\v7x (v09,List.take ((↑(Qi.2.2.1++[Rul.mk y18 (Ex.mk Qz.1 Qz.2 Qz.3 Qz.4 Qz.5) Zr]).length:Int) - 1).toNat (Qi.2.2.1++[Rul.mk y18 (Ex.mk Qz.1 Qz.2 Qz.3 Qz.4 Qz.5) Zr]),Qi.2.2.2.1,Qi.2.2.2.2.1,Qi.2.2.2.2.2.1,Qi.2.2.2.2.2.2.1,())) (InI (Qi.1+1)/\v3z (Qi.1+1,v09,Qi.2.2.1++[Rul.mk y18 (Ex.mk Qz.1 Qz.2 Qz.3 Qz.4 Qz.5) Zr],Qi.2.2.2.1,Qi.2.2.2.2.1,Qi.2.2.2.2.2.1,Qi.2.2.2.2.2.2.1,()))) ((Qi.2.2.1++[Rul.mk y18 (Ex.mk Qz.1 Qz.2 Qz.3 Qz.4 Qz.5) Zr]).length<=(9223372036854775807:Nat)->InI ((↑(Qi.2.2.1++[Rul.mk y18 (Ex.mk Qz.1 Qz.2 Qz.3 Qz.4 Qz.5) Zr]).length:Int) - 1)/\((0:Int)<=(↑(Qi.2.2.1++[Rul.mk y18 (Ex.mk Qz.1 Qz.2 Qz.3 Qz.4 Qz.5) Zr]).length:Int) - 1/\(↑(Qi.2.2.1++[Rul.mk y18 (Ex.mk Qz.1 Qz.2 Qz.3 Qz.4 Qz.5) Zr]).length:Int) - 1<=(↑(Qi.2.2.1++[Rul.mk y18 (Ex.mk Qz.1 Qz.2 Qz.3 Qz.4 Qz.5) Zr]).length:Int))/\v7x (v09,List.take ((↑(Qi.2.2.1++[Rul.mk y18 (Ex.mk Qz.1 Qz.2 Qz.3 Qz.4 Qz.5) Zr]).length:Int) - 1).toNat (Qi.2.2.1++[Rul.mk y18 (Ex.mk Qz.1 Qz.2 Qz.3 Qz.4 Qz.5) Zr]),Qi.2.2.2.1,Qi.2.2.2.2.1,Qi.2.2.2.2.2.1,Qi.2.2.2.2.2.2.1,()))) (v7x (w36,Qi.2.2.1,Qi.2.2.2.1,Qi.2.2.2.2.1,Qi.2.2.2.2.2.1,Qi.2.2.2.2.2.2.1,()))) ((0:Int),w1n,[],[B8 [102,105,114,115,116],B8 [115,101,99,111,110,100],B8 [116,104,105,114,100],B8 [102,111,117,114,116,104]],v7w,w35,w34,()))) (0:Int) z8q [] v91 v90)) (0:Int) z1c j59 z5b)) (0:Int) z1y [] Qa.2.2.2.2.2.2.2.2.2.1) (InI (Qa.1+1)/\Gy (Qa.1+1,Qa.2.1,Qa.2.2.1,Qa.2.2.2.1,Qa.2.2.2.2.1,Qa.2.2.2.2.2.1,Qa.2.2.2.2.2.2.1,Zx,Qa.2.2.2.2.2.2.2.2.1,Qa.2.2.2.2.2.2.2.2.2.1,())))) (Cnd (Ql=6) (Qb list Zx (3:Int) fun Qn Wx=>Fits Qa.2.2.2.2.2.2.2.2.1->CAt Qa.2.2.2.2.2.2.2.2.1 Qn (fun y5=>InI (Qa.1+1)/\Gy (Qa.1+1,Qa.2.1,Qa.2.2.1,Qa.2.2.2.1,Qa.2.2.2.2.1,Qa.2.2.2.2.2.1,Qa.2.2.2.2.2.2.1,Wx,Qa.2.2.2.2.2.2.2.2.1.set Qn.toNat (Lay_.mk y5.1 y5.2 y5.3 y5.4 y5.5 []),Qa.2.2.2.2.2.2.2.2.2.1,())) (InI (Qa.1+1)/\Gy (Qa.1+1,Qa.2.1,Qa.2.2.1,Qa.2.2.2.1,Qa.2.2.2.2.1,Qa.2.2.2.2.2.1,Qa.2.2.2.2.2.2.1,Wx,Qa.2.2.2.2.2.2.2.2.1,Qa.2.2.2.2.2.2.2.2.2.1,()))) (Cnd (Ql=7) (Qb list Zx (4:Int) fun Qn Wx=>Fits Qa.2.2.2.2.2.2.1->Cnd (Qn<(↑Qa.2.2.2.2.2.2.1.length:Int)) (Qb list Wx (3:Int) fun Zl z4v=>InI ((1:Int)+Zl)/\At Qa.2.2.2.2.2.2.1 Qn fun y6=>InI (Qa.1+1)/\Gy (Qa.1+1,Qa.2.1,Qa.2.2.1,Qa.2.2.2.1,Qa.2.2.2.2.1,Qa.2.2.2.2.2.1,Qa.2.2.2.2.2.2.1.set Qn.toNat (Exper.mk y6.1 y6.2 y6.3 y6.4 ((1:Int)+Zl) y6.6 y6.7 (Ex.mk y6.8.1 y6.8.2 y6.8.3 y6.8.4 y6.8.5)),z4v,Qa.2.2.2.2.2.2.2.2.1,Qa.2.2.2.2.2.2.2.2.2.1,())) (InI (Qa.1+1)/\Gy (Qa.1+1,Qa.2.1,Qa.2.2.1,Qa.2.2.2.1,Qa.2.2.2.2.1,Qa.2.2.2.2.2.1,Qa.2.2.2.2.2.2.1,Wx,Qa.2.2.2.2.2.2.2.2.1,Qa.2.2.2.2.2.2.2.2.2.1,()))) (Cnd (Ql=8) (Qb list Zx (4:Int) fun Qn Wx=>Fits Qa.2.2.2.2.2.2.1->CAt Qa.2.2.2.2.2.2.1 Qn (fun y5=>Jg list Wx (4000:Int) fun Wt q7k=>Jp y5.6 Wt fun Z4=>At Qa.2.2.2.2.2.2.1 Qn fun y9=>InI (Qa.1+1)/\Gy (Qa.1+1,Qa.2.1,Qa.2.2.1,Qa.2.2.2.1,Qa.2.2.2.2.1,Qa.2.2.2.2.2.1,Qa.2.2.2.2.2.2.1.set Qn.toNat (Exper.mk y9.1 y9.2 y9.3 y9.4 y9.5 Z4 y9.7 (Ex.mk y9.8.1 y9.8.2 y9.8.3 y9.8.4 y9.8.5)),q7k,Qa.2.2.2.2.2.2.2.2.1,Qa.2.2.2.2.2.2.2.2.2.1,())) (InI (Qa.1+1)/\Gy (Qa.1+1,Qa.2.1,Qa.2.2.1,Qa.2.2.2.1,Qa.2.2.2.2.1,Qa.2.2.2.2.2.1,Qa.2.2.2.2.2.2.1,Wx,Qa.2.2.2.2.2.2.2.2.1,Qa.2.2.2.2.2.2.2.2.2.1,()))) (Cnd (Ql=9) (Fits Qa.2.2.2.2.1->Cnd ((0:Int)<(↑Qa.2.2.2.2.1.length:Int)) (Qb list Zx (2:Int) fun Qw V3=>Cnd (Qw=1) (Fits Qa.2.2.2.2.1->InI ((↑Qa.2.2.2.2.1.length:Int) - 1)/\((0:Int)<=(↑Qa.2.2.2.2.1.length:Int) - 1/\(↑Qa.2.2.2.2.1.length:Int) - 1<=(↑Qa.2.2.2.2.1.length:Int))/\InI (Qa.1+1)/\Gy (Qa.1+1,Qa.2.1,Qa.2.2.1,Qa.2.2.2.1,List.take ((↑Qa.2.2.2.2.1.length:Int) - 1).toNat Qa.2.2.2.2.1,Qa.2.2.2.2.2.1,Qa.2.2.2.2.2.2.1,V3,Qa.2.2.2.2.2.2.2.2.1,Qa.2.2.2.2.2.2.2.2.2.1,())) (Qb list V3 (4:Int) fun Zl z4v=>Fits Qa.2.2.2.2.2.2.1->Cnd (Zl<(↑Qa.2.2.2.2.2.2.1.length:Int)) (((0:Int)<=(0:Int)/\(0:Int)<=Zl/\Zl<=(↑Qa.2.2.2.2.2.2.1.length:Int))/\InI (Zl+1)/\((0:Int)<=Zl+1/\Zl+1<=(↑Qa.2.2.2.2.2.2.1.length:Int)/\(↑Qa.2.2.2.2.2.2.1.length:Int)<=(↑Qa.2.2.2.2.2.2.1.length:Int))/\((0:Int)=(0:Int)/\(0:Int)<=Zl/\Zl<=Zl+1/\Zl+1<=(↑Qa.2.2.2.2.2.2.1.length:Int)/\(↑Qa.2.2.2.2.2.2.1.length:Int)<=(↑Qa.2.2.2.2.2.2.1.length:Int))/\Sml (List.take Zl.toNat Qa.2.2.2.2.2.2.1++List.drop (Zl+1).toNat (List.take (↑Qa.2.2.2.2.2.2.1.length:Int).toNat Qa.2.2.2.2.2.2.1)).length/\InI (Qa.1+1)/\Gy (Qa.1+1,Qa.2.1,Qa.2.2.1,Qa.2.2.2.1,Qa.2.2.2.2.1,Qa.2.2.2.2.2.1,List.take Zl.toNat Qa.2.2.2.2.2.2.1++List.drop (Zl+1).toNat (List.take (↑Qa.2.2.2.2.2.2.1.length:Int).toNat Qa.2.2.2.2.2.2.1),z4v,Qa.2.2.2.2.2.2.2.2.1,Qa.2.2.2.2.2.2.2.2.2.1,())) (InI (Qa.1+1)/\Gy (Qa.1+1,Qa.2.1,Qa.2.2.1,Qa.2.2.2.1,Qa.2.2.2.2.1,Qa.2.2.2.2.2.1,Qa.2.2.2.2.2.2.1,z4v,Qa.2.2.2.2.2.2.2.2.1,Qa.2.2.2.2.2.2.2.2.2.1,())))) (Qb list Zx (4:Int) fun Qw V3=>Fits Qa.2.2.2.2.2.2.1->Cnd (Qw<(↑Qa.2.2.2.2.2.2.1.length:Int)) (((0:Int)<=(0:Int)/\(0:Int)<=Qw/\Qw<=(↑Qa.2.2.2.2.2.2.1.length:Int))/\InI (Qw+1)/\((0:Int)<=Qw+1/\Qw+1<=(↑Qa.2.2.2.2.2.2.1.length:Int)/\(↑Qa.2.2.2.2.2.2.1.length:Int)<=(↑Qa.2.2.2.2.2.2.1.length:Int))/\((0:Int)=(0:Int)/\(0:Int)<=Qw/\Qw<=Qw+1/\Qw+1<=(↑Qa.2.2.2.2.2.2.1.length:Int)/\(↑Qa.2.2.2.2.2.2.1.length:Int)<=(↑Qa.2.2.2.2.2.2.1.length:Int))/\Sml (List.take Qw.toNat Qa.2.2.2.2.2.2.1++List.drop (Qw+1).toNat (List.take (↑Qa.2.2.2.2.2.2.1.length:Int).toNat Qa.2.2.2.2.2.2.1)).length/\InI (Qa.1+1)/\Gy (Qa.1+1,Qa.2.1,Qa.2.2.1,Qa.2.2.2.1,Qa.2.2.2.2.1,Qa.2.2.2.2.2.1,List.take Qw.toNat Qa.2.2.2.2.2.2.1++List.drop (Qw+1).toNat (List.take (↑Qa.2.2.2.2.2.2.1.length:Int).toNat Qa.2.2.2.2.2.2.1),V3,Qa.2.2.2.2.2.2.2.2.1,Qa.2.2.2.2.2.2.2.2.2.1,())) (InI (Qa.1+1)/\Gy (Qa.1+1,Qa.2.1,Qa.2.2.1,Qa.2.2.2.1,Qa.2.2.2.2.1,Qa.2.2.2.2.2.1,Qa.2.2.2.2.2.2.1,V3,Qa.2.2.2.2.2.2.2.2.1,Qa.2.2.2.2.2.2.2.2.2.1,())))) (InI (Qa.1+1)/\Gy (Qa.1+1,Qa.2.1,Qa.2.2.1,Qa.2.2.2.1,Qa.2.2.2.2.1,Qa.2.2.2.2.2.1,Qa.2.2.2.2.2.2.1,Zx,Qa.2.2.2.2.2.2.2.2.1,Qa.2.2.2.2.2.2.2.2.2.1,())))))))))))) (K (Envt.mk (Sett.mk Qa.2.1 Qa.2.2.1 Qa.2.2.2.1) Qa.2.2.2.2.1 Qa.2.2.2.2.2.2.2.2.2.1 Qa.2.2.2.2.2.1 Qa.2.2.2.2.2.2.2.2.1 Qa.2.2.2.2.2.2.1) Zn)) ((0:Int),v.1.1,v.1.2,v.1.3,[]++v.2,[]++v.4,[]++v.6,at_,[]++v.5,[]++v.3,())
def z4j:q9q:=z9f Zp q7n q99 z0a q0t G6 V8 q7o Jw Hb
abbrev H8:Type:=Envt->ByteArray->Int->(Int->Int->Prop)->Prop
def z9g(G1:Gw)(Rl:q5p)(Qu:Ja):H8:=fun v key now K=>G1 (Envt.mk (Sett.mk v.1.1 v.1.2 v.1.3) v.2 v.3 v.4 v.5 v.6) key fun Qa=>Rl now fun Qh=>Cnd (Qh=true) (Cnd (Qa<0) (K (0:Int) (11:Int)) (At v.6 Qa fun y2=>Qu (Envt.mk (Sett.mk v.1.1 v.1.2 v.1.3) v.2 v.3 v.4 v.5 v.6) y2.2 fun Qw=>Cnd (Qw<0) (K (0:Int) (11:Int)) (K Qa (0:Int)))) (K (0:Int) (3:Int))
def q5u:H8:=z9g Gx q9e Wu
abbrev q9r:Type:=List (Spn)->(Int->Prop)->Prop
def z9h(Zc:Vj):q9r:=fun l K=>Zc l fun Qa=>Lp2 (fun Qh Zn z1z=>Fits Qa->CAt Qa Zn (fun y3=>Cnd (y3=true) (InI (Qh+1)/\InI (Zn+1)/\z1z (Qh+1) (Zn+1)) (InI (Zn+1)/\z1z Qh (Zn+1))) (K Qh)) (0:Int) (0:Int)
def z4k:q9r:=z9h Ha
abbrev q0i:Type:=Envt->Int->Exper->(Envt->Prop)->Prop
def q2y:q0i:=fun v i x K=>Sml ([]++v.6).length/\((0:Int)<=i/\i<(↑([]++v.6).length:Int))/\ ∀y0,([]++v.6)[i.toNat]? =some y0->K (Envt.mk (Sett.mk v.1.1 v.1.2 v.1.3) v.2 v.3 v.4 v.5 (([]++v.6).set i.toNat (Exper.mk x.1 x.2 x.3 x.4 x.5 x.6 x.7 (Ex.mk x.8.1 x.8.2 x.8.3 x.8.4 x.8.5))))
abbrev q6s:Type:=Envt->ByteArray->Int->Int->(Envt->Int->Prop)->Prop
def z57(Wh:H8)(Rq:q2n)(z43:q9r)(Jp:Uy)(Wp:Bx)(Jx:q0i):q6s:=fun v experiment size now K=>Wh (Envt.mk (Sett.mk v.1.1 v.1.2 v.1.3) v.2 v.3 v.4 v.5 v.6) experiment now fun Qa Q8=>Cnd (Q8=0) (At v.6 Qa fun y1=>Cnd (y1.5=3) (K (Envt.mk (Sett.mk (B8 []) (B8 []) (0:Int)) [] [] [] [] []) (25:Int)) (Cnd (size<1) (K (Envt.mk (Sett.mk (B8 []) (B8 []) (0:Int)) [] [] [] [] []) (3:Int)) (Rq (Envt.mk (Sett.mk v.1.1 v.1.2 v.1.3) v.2 v.3 v.4 v.5 v.6) y1.2 now fun Qn _=>z43 Qn fun Qw=>Cnd (Qw<size) (K (Envt.mk (Sett.mk (B8 []) (B8 []) (0:Int)) [] [] [] [] []) (19:Int)) (Jp Qn size fun Zl=>Wp y1.6 Zl fun Jf=>Fits Jf->Cnd ((16:Int)<(↑Jf.length:Int)) (K (Envt.mk (Sett.mk (B8 []) (B8 []) (0:Int)) [] [] [] [] []) (5:Int)) (Jx (Envt.mk (Sett.mk v.1.1 v.1.2 v.1.3) v.2 v.3 v.4 v.5 v.6) Qa (Exper.mk y1.1 y1.2 y1.3 y1.4 y1.5 Jf y1.7 (Ex.mk y1.8.1 y1.8.2 y1.8.3 y1.8.4 y1.8.5)) fun Z4=>K (Envt.mk (Sett.mk Z4.1.1 Z4.1.2 Z4.1.3) Z4.2 Z4.3 Z4.4 Z4.5 Z4.6) (0:Int)))))) (K (Envt.mk (Sett.mk (B8 []) (B8 []) (0:Int)) [] [] [] [] []) Q8)
def z0q:q6s:=z57 q5u q2o z4k Hb V0 q2y
abbrev H9:Type:=List (Decl)->List (Decl)->(Bool->Prop)->Prop
def Ra:H9:=fun a b K=>Fits a->Fits b->Cnd ((↑a.length:Int)=(↑b.length:Int)) (Lp1 (fun Ql z4t=>Fits a->CAt a Ql (fun y4=>At b Ql fun y6=>Cnd (y4.1=y6.1/\y4.2=y6.2/\y4.3=y6.3) (InI (Ql+1)/\z4t (Ql+1)) (K false)) (K true)) (0:Int)) (K false)
abbrev Gf:Type:=Seg->Seg->(Bool->Prop)->Prop
def q4i(W7:q31)(Za:Zy):Gf:=fun a b K=>Cnd (a.1=b.1) (Cnd (a.2=b.2) (W7 a.3 b.3 fun Qa=>Cnd (Qa=true) (W7 a.4 b.4 fun Qh=>Cnd (Qh=true) (Za (Ex.mk a.5.1 a.5.2 a.5.3 a.5.4 a.5.5) (Ex.mk b.5.1 b.5.2 b.5.3 b.5.4 b.5.5) fun Ql=>K Ql) (K false)) (K false)) (K false)) (K false)
def Bh:Gf:=q4i q9a Vi
abbrev Ui:Type:=List (Seg)->List (Seg)->(Bool->Prop)->Prop
def q2z(Bp:Gf):Ui:=fun a b K=>Fits a->Fits b->Cnd ((↑a.length:Int)=(↑b.length:Int)) (Lp1 (fun Ql z4t=>Fits a->CAt a Ql (fun y4=>At b Ql fun y6=>Bp (Seg.mk y4.1 y4.2 y4.3 y4.4 (Ex.mk y4.5.1 y4.5.2 y4.5.3 y4.5.4 y4.5.5)) (Seg.mk y6.1 y6.2 y6.3 y6.4 (Ex.mk y6.5.1 y6.5.2 y6.5.3 y6.5.4 y6.5.5)) fun Z4=>Cnd (Z4=true) (InI (Ql+1)/\z4t (Ql+1)) (K false)) (K true)) (0:Int)) (K false)
def Rb:Ui:=q2z Bh
abbrev W9:Type:=List (Prq)->List (Prq)->(Bool->Prop)->Prop
def Va:W9:=fun a b K=>Fits a->Fits b->Cnd ((↑a.length:Int)=(↑b.length:Int)) (Lp1 (fun Ql z4t=>Fits a->CAt a Ql (fun y4=>At b Ql fun y6=>Cnd (y4.1=y6.1/\y4.2=y6.2) (InI (Ql+1)/\z4t (Ql+1)) (K false)) (K true)) (0:Int)) (K false)
abbrev Gg:Type:=List (Tgt)->List (Tgt)->(Bool->Prop)->Prop
def q4j(W7:q31):Gg:=fun a b K=>Fits a->Fits b->Cnd ((↑a.length:Int)=(↑b.length:Int)) (Lp1 (fun Ql z4t=>Fits a->CAt a Ql (fun y4=>At b Ql fun y6=>Cnd (y4.1=y6.1) (At a Ql fun y8=>At b Ql fun y10=>Cnd (y8.2=y10.2) (At a Ql fun y12=>At b Ql fun y14=>W7 y12.3 y14.3 fun Qi=>Cnd (Qi=true) (InI (Ql+1)/\z4t (Ql+1)) (K false)) (K false)) (K false)) (K true)) (0:Int)) (K false)
def Bi:Gg:=q4j q9a
abbrev Uj:Type:=List (Rng)->List (Rng)->(Bool->Prop)->Prop
def Hq:Uj:=fun a b K=>Fits a->Fits b->Cnd ((↑a.length:Int)=(↑b.length:Int)) (Lp1 (fun Ql z4t=>Fits a->CAt a Ql (fun y4=>At b Ql fun y6=>Cnd (y4.1=y6.1/\y4.2=y6.2/\y4.3=y6.3) (InI (Ql+1)/\z4t (Ql+1)) (K false)) (K true)) (0:Int)) (K false)
abbrev V1:Type:=Srv->Srv->(Bool->Prop)->Prop
def q8k(Js:Uj):V1:=fun a b K=>Cnd (a.1=b.1) (Cnd (a.2=b.2) (Cnd (a.3=b.3) (Cnd (a.4=b.4) (Js a.5 b.5 fun Qa=>K Qa) (K false)) (K false)) (K false)) (K false)
def R3:V1:=q8k Hq
abbrev R4:Type:=List (Rul)->List (Rul)->(Bool->Prop)->Prop
def q8l(Za:Zy)(J3:V1):R4:=fun a b K=>Fits a->Fits b->Cnd ((↑a.length:Int)=(↑b.length:Int)) (Lp1 (fun Ql z4t=>Fits a->CAt a Ql (fun y4=>At b Ql fun y6=>Cnd (y4.1=y6.1) (At a Ql fun y8=>At b Ql fun y10=>Za (Ex.mk y8.2.1 y8.2.2 y8.2.3 y8.2.4 y8.2.5) (Ex.mk y10.2.1 y10.2.2 y10.2.3 y10.2.4 y10.2.5) fun Qr=>Cnd (Qr=true) (At a Ql fun y13=>At b Ql fun y15=>J3 (Srv.mk y13.3.1 y13.3.2 y13.3.3 y13.3.4 y13.3.5) (Srv.mk y15.3.1 y15.3.2 y15.3.3 y15.3.4 y15.3.5) fun Gi=>Cnd (Gi=true) (InI (Ql+1)/\z4t (Ql+1)) (K false)) (K false)) (K false)) (K true)) (0:Int)) (K false)
def q3l:R4:=q8l Vi R3
abbrev q1f:Type:=Flg->Flg->(Bool->Prop)->Prop
def z0r(Un:V9)(Vb:W9)(Bq:Gg)(q3u:R4)(J3:V1):q1f:=fun a b K=>Cnd (a.1=b.1) (Cnd (a.2=b.2) (Un a.3 b.3 fun Qa=>Cnd (Qa=true) (Cnd (a.4=b.4) (Cnd (a.5=b.5) (Vb a.6 b.6 fun Qh=>Cnd (Qh=true) (Bq a.7 b.7 fun Ql=>Cnd (Ql=true) (q3u a.8 b.8 fun Qn=>Cnd (Qn=true) (J3 (Srv.mk a.9.1 a.9.2 a.9.3 a.9.4 a.9.5) (Srv.mk b.9.1 b.9.2 b.9.3 b.9.4 b.9.5) fun Qw=>K Qw) (K false)) (K false)) (K false)) (K false)) (K false)) (K false)) (K false)) (K false)
def q5a:q1f:=z0r W0 Va Bi q3l R3
abbrev R5:Type:=List (Flg)->List (Flg)->(Bool->Prop)->Prop
def q8m(q5m:q1f):R5:=fun a b K=>Fits a->Fits b->Cnd ((↑a.length:Int)=(↑b.length:Int)) (Lp1 (fun Ql z4t=>Fits a->CAt a Ql (fun y4=>At b Ql fun y6=>q5m (Flg.mk y4.1 y4.2 y4.3 y4.4 y4.5 y4.6 y4.7 y4.8 (Srv.mk y4.9.1 y4.9.2 y4.9.3 y4.9.4 y4.9.5)) (Flg.mk y6.1 y6.2 y6.3 y6.4 y6.5 y6.6 y6.7 y6.8 (Srv.mk y6.9.1 y6.9.2 y6.9.3 y6.9.4 y6.9.5)) fun Z4=>Cnd (Z4=true) (InI (Ql+1)/\z4t (Ql+1)) (K false)) (K true)) (0:Int)) (K false)
def q3m:R5:=q8m q5a
abbrev Bj:Type:=List (Col)->List (Col)->(Bool->Prop)->Prop
def Bk:Bj:=fun a b K=>Fits a->Fits b->Cnd ((↑a.length:Int)=(↑b.length:Int)) (Lp1 (fun Ql z4t=>Fits a->CAt a Ql (fun y4=>At b Ql fun y6=>Cnd (y4.1=y6.1/\y4.2=y6.2/\y4.3=y6.3) (InI (Ql+1)/\z4t (Ql+1)) (K false)) (K true)) (0:Int)) (K false)
abbrev R6:Type:=Lay_->Lay_->(Bool->Prop)->Prop
def q8n(Br:Bj):R6:=fun a b K=>Cnd (a.1=b.1) (Cnd (a.2=b.2) (Cnd (a.3=b.3) (Cnd (a.4=b.4) (Cnd (a.5=b.5) (Br a.6 b.6 fun Qa=>K Qa) (K false)) (K false)) (K false)) (K false)) (K false)
def q8o:R6:=q8n Bk
abbrev Hr:Type:=List (Lay_)->List (Lay_)->(Bool->Prop)->Prop
def q6t(q3v:R6):Hr:=fun a b K=>Fits a->Fits b->Cnd ((↑a.length:Int)=(↑b.length:Int)) (Lp1 (fun Ql z4t=>Fits a->CAt a Ql (fun y4=>At b Ql fun y6=>q3v y4 y6 fun Z4=>Cnd (Z4=true) (InI (Ql+1)/\z4t (Ql+1)) (K false)) (K true)) (0:Int)) (K false)
def q1g:Hr:=q6t q8o
abbrev q3n:Type:=List (Spn)->List (Spn)->(Bool->Prop)->Prop
def q3o:q3n:=fun a b K=>Fits a->Fits b->Cnd ((↑a.length:Int)=(↑b.length:Int)) (Lp1 (fun Ql z4t=>Fits a->CAt a Ql (fun y4=>At b Ql fun y6=>Cnd (y4.1=y6.1/\y4.2=y6.2) (InI (Ql+1)/\z4t (Ql+1)) (K false)) (K true)) (0:Int)) (K false)
abbrev W6:Type:=Exper->Exper->(Bool->Prop)->Prop
def B3(q3w:q3n)(Js:Uj)(Za:Zy):W6:=fun a b K=>Cnd (a.1=b.1) (Cnd (a.2=b.2) (Cnd (a.3=b.3) (Cnd (a.4=b.4) (Cnd (a.5=b.5) (q3w a.6 b.6 fun Qa=>Cnd (Qa=true) (Js a.7 b.7 fun Qh=>Cnd (Qh=true) (Za (Ex.mk a.8.1 a.8.2 a.8.3 a.8.4 a.8.5) (Ex.mk b.8.1 b.8.2 b.8.3 b.8.4 b.8.5) fun Ql=>K Ql) (K false)) (K false)) (K false)) (K false)) (K false)) (K false)) (K false)
def U4:W6:=B3 q3o Hq Vi
abbrev Wr:Type:=List (Exper)->List (Exper)->(Bool->Prop)->Prop
def Rv(Ga:W6):Wr:=fun a b K=>Fits a->Fits b->Cnd ((↑a.length:Int)=(↑b.length:Int)) (Lp1 (fun Ql z4t=>Fits a->CAt a Ql (fun y4=>At b Ql fun y6=>Ga (Exper.mk y4.1 y4.2 y4.3 y4.4 y4.5 y4.6 y4.7 (Ex.mk y4.8.1 y4.8.2 y4.8.3 y4.8.4 y4.8.5)) (Exper.mk y6.1 y6.2 y6.3 y6.4 y6.5 y6.6 y6.7 (Ex.mk y6.8.1 y6.8.2 y6.8.3 y6.8.4 y6.8.5)) fun Z4=>Cnd (Z4=true) (InI (Ql+1)/\z4t (Ql+1)) (K false)) (K true)) (0:Int)) (K false)
def V4:Wr:=Rv U4
abbrev z2t:Type:=Envt->Envt->(Bool->Prop)->Prop
def j3k(Rs:H9)(Rt:Ui)(q3x:R5)(q2d:Hr)(V6:Wr):z2t:=fun a b K=>Cnd (a.1.1=b.1.1/\a.1.2=b.1.2/\a.1.3=b.1.3) (Rs a.2 b.2 fun Qa=>Cnd (Qa=true) (Rt a.3 b.3 fun Qh=>Cnd (Qh=true) (q3x a.4 b.4 fun Ql=>Cnd (Ql=true) (q2d a.5 b.5 fun Qn=>Cnd (Qn=true) (V6 a.6 b.6 fun Qw=>K Qw) (K false)) (K false)) (K false)) (K false)) (K false)
def z7q:z2t:=j3k Ra Rb q3m q1g V4
abbrev Hs:Type:=Envt->ByteArray->Int->(Envt->Int->Prop)->Prop
def q6u(Zg:J0)(Jq:W5)(Bs:q4h)(Q3:Jl)(Zm:Vn)(Jr:U0)(Qq:Zq):Hs:=fun v experiment now K=>Zg (Envt.mk (Sett.mk v.1.1 v.1.2 v.1.3) v.2 v.3 v.4 v.5 v.6) experiment now fun Qa _ w7j=>Cnd (w7j=0) (At v.6 Qa fun y1=>Cnd (y1.5=1) (Jq (Envt.mk (Sett.mk v.1.1 v.1.2 v.1.3) v.2 v.3 v.4 v.5 v.6) y1.2 experiment now fun Qn=>Bs y1.6 Qn fun Qw=>Fits Qw->Cnd ((0:Int)<(↑Qw.length:Int)) (K (Envt.mk (Sett.mk (B8 []) (B8 []) (0:Int)) [] [] [] [] []) (14:Int)) (∀n6,(n6=true->v.2=[])->Cnd (n6=true) (Fits v.3->((0:Int)<=(0:Int)/\(0:Int)<=(↑v.3.length:Int)/\Sml (↑v.3.length:Int).toNat)/\(Fits v.3->Lp2 (fun Q9 Wa w39=>CAt v.3 Wa (fun y11=>Q3 (Seg.mk y11.1 y11.2 y11.3 y11.4 (Ex.mk y11.5.1 y11.5.2 y11.5.3 y11.5.4 y11.5.5)) fun Qc=>Sml (Q9++[Seg.mk Qc.1 Qc.2 Qc.3 Qc.4 (Ex.mk Qc.5.1 Qc.5.2 Qc.5.3 Qc.5.4 Qc.5.5)]).length/\InI (Wa+1)/\w39 (Q9++[Seg.mk Qc.1 Qc.2 Qc.3 Qc.4 (Ex.mk Qc.5.1 Qc.5.2 Qc.5.3 Qc.5.4 Qc.5.5)]) (Wa+1)) (Fits v.4->((0:Int)<=(0:Int)/\(0:Int)<=(↑v.4.length:Int)/\Sml (↑v.4.length:Int).toNat)/\(Fits v.4->Lp2 (fun Qc Ry v1c=>CAt v.4 Ry (fun y14=>Zm (Flg.mk y14.1 y14.2 y14.3 y14.4 y14.5 y14.6 y14.7 y14.8 (Srv.mk y14.9.1 y14.9.2 y14.9.3 y14.9.4 y14.9.5)) fun Qi=>Sml (Qc++[Flg.mk Qi.1 Qi.2 Qi.3 Qi.4 Qi.5 Qi.6 Qi.7 Qi.8 (Srv.mk Qi.9.1 Qi.9.2 Qi.9.3 Qi.9.4 Qi.9.5)]).length/\InI (Ry+1)/\v1c (Qc++[Flg.mk Qi.1 Qi.2 Qi.3 Qi.4 Qi.5 Qi.6 Qi.7 Qi.8 (Srv.mk Qi.9.1 Qi.9.2 Qi.9.3 Qi.9.4 Qi.9.5)]) (Ry+1)) (Fits v.5->((0:Int)<=(0:Int)/\(0:Int)<=(↑v.5.length:Int)/\Sml (↑v.5.length:Int).toNat)/\(Fits v.5->Lp2 (fun Qi z5c v7y=>CAt v.5 z5c (fun y17=>Jr y17 fun Qs=>Sml (Qi++[Qs]).length/\InI (z5c+1)/\v7y (Qi++[Qs]) (z5c+1)) (Fits v.6->((0:Int)<=(0:Int)/\(0:Int)<=(↑v.6.length:Int)/\Sml (↑v.6.length:Int).toNat)/\(Fits v.6->Lp2 (fun Qs q81 v7z=>CAt v.6 q81 (fun y20=>Qq (Exper.mk y20.1 y20.2 y20.3 y20.4 y20.5 y20.6 y20.7 (Ex.mk y20.8.1 y20.8.2 y20.8.3 y20.8.4 y20.8.5)) fun Zr=>Sml (Qs++[Exper.mk Zr.1 Zr.2 Zr.3 Zr.4 Zr.5 Zr.6 Zr.7 (Ex.mk Zr.8.1 Zr.8.2 Zr.8.3 Zr.8.4 Zr.8.5)]).length/\InI (q81+1)/\v7z (Qs++[Exper.mk Zr.1 Zr.2 Zr.3 Zr.4 Zr.5 Zr.6 Zr.7 (Ex.mk Zr.8.1 Zr.8.2 Zr.8.3 Zr.8.4 Zr.8.5)]) (q81+1)) (At Qs Qa fun y20=>K (Envt.mk (Sett.mk v.1.1 v.1.2 v.1.3) [] Q9 Qc Qi (Qs.set Qa.toNat (Exper.mk y20.1 y20.2 y20.3 y20.4 (2:Int) y20.6 y20.7 (Ex.mk y20.8.1 y20.8.2 y20.8.3 y20.8.4 y20.8.5)))) (0:Int))) (List.replicate (Int.toNat (0:Int)) (Exper.mk (B8 []) (B8 []) (B8 []) (B8 []) (0:Int) [] [] (Ex.mk (0:Int) (B8 []) (B8 []) [] []))) (0:Int)))) (List.replicate (Int.toNat (0:Int)) (Lay_.mk (B8 []) (B8 []) (B8 []) (0:Int) (0:Int) [])) (0:Int)))) (List.replicate (Int.toNat (0:Int)) (Flg.mk (B8 []) (0:Int) [] false (0:Int) [] [] [] (Srv.mk (0:Int) (B8 []) (B8 []) (B8 []) []))) (0:Int)))) (List.replicate (Int.toNat (0:Int)) (Seg.mk (B8 []) (B8 []) [] [] (Ex.mk (0:Int) (B8 []) (B8 []) [] []))) (0:Int))) (Sml ([]++v.2).length/\(Fits v.3->((0:Int)<=(0:Int)/\(0:Int)<=(↑v.3.length:Int)/\Sml (↑v.3.length:Int).toNat)/\(Fits v.3->Lp2 (fun Q9 Wa w39=>CAt v.3 Wa (fun y11=>Q3 (Seg.mk y11.1 y11.2 y11.3 y11.4 (Ex.mk y11.5.1 y11.5.2 y11.5.3 y11.5.4 y11.5.5)) fun Qc=>Sml (Q9++[Seg.mk Qc.1 Qc.2 Qc.3 Qc.4 (Ex.mk Qc.5.1 Qc.5.2 Qc.5.3 Qc.5.4 Qc.5.5)]).length/\InI (Wa+1)/\w39 (Q9++[Seg.mk Qc.1 Qc.2 Qc.3 Qc.4 (Ex.mk Qc.5.1 Qc.5.2 Qc.5.3 Qc.5.4 Qc.5.5)]) (Wa+1)) (Fits v.4->((0:Int)<=(0:Int)/\(0:Int)<=(↑v.4.length:Int)/\Sml (↑v.4.length:Int).toNat)/\(Fits v.4->Lp2 (fun Qc Ry v1c=>CAt v.4 Ry (fun y14=>Zm (Flg.mk y14.1 y14.2 y14.3 y14.4 y14.5 y14.6 y14.7 y14.8 (Srv.mk y14.9.1 y14.9.2 y14.9.3 y14.9.4 y14.9.5)) fun Qi=>Sml (Qc++[Flg.mk Qi.1 Qi.2 Qi.3 Qi.4 Qi.5 Qi.6 Qi.7 Qi.8 (Srv.mk Qi.9.1 Qi.9.2 Qi.9.3 Qi.9.4 Qi.9.5)]).length/\InI (Ry+1)/\v1c (Qc++[Flg.mk Qi.1 Qi.2 Qi.3 Qi.4 Qi.5 Qi.6 Qi.7 Qi.8 (Srv.mk Qi.9.1 Qi.9.2 Qi.9.3 Qi.9.4 Qi.9.5)]) (Ry+1)) (Fits v.5->((0:Int)<=(0:Int)/\(0:Int)<=(↑v.5.length:Int)/\Sml (↑v.5.length:Int).toNat)/\(Fits v.5->Lp2 (fun Qi z5c v7y=>CAt v.5 z5c (fun y17=>Jr y17 fun Qs=>Sml (Qi++[Qs]).length/\InI (z5c+1)/\v7y (Qi++[Qs]) (z5c+1)) (Fits v.6->((0:Int)<=(0:Int)/\(0:Int)<=(↑v.6.length:Int)/\Sml (↑v.6.length:Int).toNat)/\(Fits v.6->Lp2 (fun Qs q81 v7z=>CAt v.6 q81 (fun y20=>Qq (Exper.mk y20.1 y20.2 y20.3 y20.4 y20.5 y20.6 y20.7 (Ex.mk y20.8.1 y20.8.2 y20.8.3 y20.8.4 y20.8.5)) fun Zr=>Sml (Qs++[Exper.mk Zr.1 Zr.2 Zr.3 Zr.4 Zr.5 Zr.6 Zr.7 (Ex.mk Zr.8.1 Zr.8.2 Zr.8.3 Zr.8.4 Zr.8.5)]).length/\InI (q81+1)/\v7z (Qs++[Exper.mk Zr.1 Zr.2 Zr.3 Zr.4 Zr.5 Zr.6 Zr.7 (Ex.mk Zr.8.1 Zr.8.2 Zr.8.3 Zr.8.4 Zr.8.5)]) (q81+1)) (At Qs Qa fun y20=>K (Envt.mk (Sett.mk v.1.1 v.1.2 v.1.3) ([]++v.2) Q9 Qc Qi (Qs.set Qa.toNat (Exper.mk y20.1 y20.2 y20.3 y20.4 (2:Int) y20.6 y20.7 (Ex.mk y20.8.1 y20.8.2 y20.8.3 y20.8.4 y20.8.5)))) (0:Int))) (List.replicate (Int.toNat (0:Int)) (Exper.mk (B8 []) (B8 []) (B8 []) (B8 []) (0:Int) [] [] (Ex.mk (0:Int) (B8 []) (B8 []) [] []))) (0:Int)))) (List.replicate (Int.toNat (0:Int)) (Lay_.mk (B8 []) (B8 []) (B8 []) (0:Int) (0:Int) [])) (0:Int)))) (List.replicate (Int.toNat (0:Int)) (Flg.mk (B8 []) (0:Int) [] false (0:Int) [] [] [] (Srv.mk (0:Int) (B8 []) (B8 []) (B8 []) []))) (0:Int)))) (List.replicate (Int.toNat (0:Int)) (Seg.mk (B8 []) (B8 []) [] [] (Ex.mk (0:Int) (B8 []) (B8 []) [] []))) (0:Int)))))) (K (Envt.mk (Sett.mk (B8 []) (B8 []) (0:Int)) [] [] [] [] []) (25:Int))) (K (Envt.mk (Sett.mk (B8 []) (B8 []) (0:Int)) [] [] [] [] []) w7j)
def q1h:Hs:=q6u Gn Ho Bg J8 Us U1 Z6
abbrev q6v:Type:=Envt->ByteArray->Int->(Envt->Int->Prop)->Prop
def z58(Wh:H8)(U7:By)(Vs:Hi)(Jx:q0i):q6v:=fun v experiment now K=>Wh (Envt.mk (Sett.mk v.1.1 v.1.2 v.1.3) v.2 v.3 v.4 v.5 v.6) experiment now fun Qa Q8=>Cnd (Q8=0) (At v.6 Qa fun y1=>Cnd (y1.5=1) (U7 (Envt.mk (Sett.mk v.1.1 v.1.2 v.1.3) v.2 v.3 v.4 v.5 v.6) y1.2 y1.1 now fun Qn=>Vs y1.6 Qn fun Qw=>Fits Qw->Cnd ((0:Int)<(↑Qw.length:Int)) (K (Envt.mk (Sett.mk (B8 []) (B8 []) (0:Int)) [] [] [] [] []) (14:Int)) (Jx (Envt.mk (Sett.mk v.1.1 v.1.2 v.1.3) v.2 v.3 v.4 v.5 v.6) Qa (Exper.mk y1.1 y1.2 y1.3 y1.4 (2:Int) y1.6 y1.7 (Ex.mk y1.8.1 y1.8.2 y1.8.3 y1.8.4 y1.8.5)) fun Jf=>K (Envt.mk (Sett.mk Jf.1.1 Jf.1.2 Jf.1.3) Jf.2 Jf.3 Jf.4 Jf.5 Jf.6) (0:Int))) (K (Envt.mk (Sett.mk (B8 []) (B8 []) (0:Int)) [] [] [] [] []) (25:Int))) (K (Envt.mk (Sett.mk (B8 []) (B8 []) (0:Int)) [] [] [] [] []) Q8)
def z0s:q6v:=z58 q5u Bz Hj q2y
abbrev z7r:Type:=Int->Int->(Int->Prop)->Prop
def j3l:z7r:=fun now cool K=>InI ((1099511627776:Int) - now)/\Cnd ((1099511627776:Int) - now<cool) (K (1099511627776:Int)) (InI (now+cool)/\K (now+cool))
abbrev q5b:Type:=List (Int)->Int->(List (Col)->Prop)->Prop
def q1i:q5b:=fun until_ now K=>Lp2 (fun Qa Q8 q10=>Fits until_->CAt until_ Q8 (fun y2=>Cnd (y2<=now) (InI (Q8+1)/\q10 Qa (Q8+1)) (Cnd ((0:Int)<Q8) (InI (Q8 - 1)/\((0:Int)<=Q8 - 1/\Q8 - 1<(↑until_.length:Int))/\ ∀y4,until_[(Q8 - 1).toNat]? =some y4->At until_ Q8 fun y6=>Cnd (y4=y6) (Fits Qa->InI ((↑Qa.length:Int) - 1)/\InI (Q8+1)/\((0:Int)<=(↑Qa.length:Int) - 1/\(↑Qa.length:Int) - 1<(↑Qa.length:Int))/\ ∀y9,Qa[((↑Qa.length:Int) - 1).toNat]? =some y9->InI (Q8+1)/\q10 (Qa.set ((↑Qa.length:Int) - 1).toNat (Col.mk y9.1 (Q8+1) y9.3)) (Q8+1)) (InI (Q8+1)/\At until_ Q8 fun y8=>Sml (Qa++[Col.mk Q8 (Q8+1) y8]).length/\InI (Q8+1)/\q10 (Qa++[Col.mk Q8 (Q8+1) y8]) (Q8+1))) (InI (Q8+1)/\At until_ Q8 fun y4=>Sml (Qa++[Col.mk Q8 (Q8+1) y4]).length/\InI (Q8+1)/\q10 (Qa++[Col.mk Q8 (Q8+1) y4]) (Q8+1)))) (K Qa)) [] (0:Int)
abbrev q9s:Type:=Envt->ByteArray->Int->(Envt->Int->Prop)->Prop
def z9i(Wh:H8)(Qu:Ja)(Z9:Uc)(Zc:Vj)(z8r:z7r)(q2e:q5b)(Jx:q0i):q9s:=fun v experiment now K=>Wh (Envt.mk (Sett.mk v.1.1 v.1.2 v.1.3) v.2 v.3 v.4 v.5 v.6) experiment now fun Qa Q8=>Cnd (Q8=0) (At v.6 Qa fun y1=>Cnd (y1.5=2) (Qu (Envt.mk (Sett.mk v.1.1 v.1.2 v.1.3) v.2 v.3 v.4 v.5 v.6) y1.2 fun Qn=>At v.5 Qn fun y4=>Z9 y4.6 now fun Jf=>Zc y1.6 fun Wt=>Lp2 (fun Z4 z8h v9p=>Fits z8h->Cnd (Z4<(↑z8h.length:Int)) (Cnd ((0:Int)<y4.5) (At Wt Z4 fun y10=>Cnd (y10=true) (At z8h Z4 fun y12=>z8r now y4.5 fun Zs=>At z8h Z4 fun _=>InI (Z4+1)/\v9p (Z4+1) (z8h.set Z4.toNat (Max.max y12 Zs))) (InI (Z4+1)/\v9p (Z4+1) z8h)) (q2e z8h now fun Q9=>Fits Q9->Cnd ((32:Int)<(↑Q9.length:Int)) (K (Envt.mk (Sett.mk (B8 []) (B8 []) (0:Int)) [] [] [] [] []) (5:Int)) (Jx (Envt.mk (Sett.mk v.1.1 v.1.2 v.1.3) v.2 v.3 v.4 v.5 v.6) Qa (Exper.mk y1.1 y1.2 y1.3 y1.4 (3:Int) y1.6 y1.7 (Ex.mk y1.8.1 y1.8.2 y1.8.3 y1.8.4 y1.8.5)) fun Qr=>Sml ([]++Qr.5).length/\((0:Int)<=Qn/\Qn<(↑([]++Qr.5).length:Int))/\ ∀y13,([]++Qr.5)[Qn.toNat]? =some y13->K (Envt.mk (Sett.mk Qr.1.1 Qr.1.2 Qr.1.3) Qr.2 Qr.3 Qr.4 (([]++Qr.5).set Qn.toNat (Lay_.mk y4.1 y4.2 y4.3 y4.4 y4.5 Q9)) Qr.6) (0:Int)))) (q2e z8h now fun Q9=>Fits Q9->Cnd ((32:Int)<(↑Q9.length:Int)) (K (Envt.mk (Sett.mk (B8 []) (B8 []) (0:Int)) [] [] [] [] []) (5:Int)) (Jx (Envt.mk (Sett.mk v.1.1 v.1.2 v.1.3) v.2 v.3 v.4 v.5 v.6) Qa (Exper.mk y1.1 y1.2 y1.3 y1.4 (3:Int) y1.6 y1.7 (Ex.mk y1.8.1 y1.8.2 y1.8.3 y1.8.4 y1.8.5)) fun Qr=>Sml ([]++Qr.5).length/\((0:Int)<=Qn/\Qn<(↑([]++Qr.5).length:Int))/\ ∀y13,([]++Qr.5)[Qn.toNat]? =some y13->K (Envt.mk (Sett.mk Qr.1.1 Qr.1.2 Qr.1.3) Qr.2 Qr.3 Qr.4 (([]++Qr.5).set Qn.toNat (Lay_.mk y4.1 y4.2 y4.3 y4.4 y4.5 Q9)) Qr.6) (0:Int)))) (0:Int) Jf) (K (Envt.mk (Sett.mk (B8 []) (B8 []) (0:Int)) [] [] [] [] []) (25:Int))) (K (Envt.mk (Sett.mk (B8 []) (B8 []) (0:Int)) [] [] [] [] []) Q8)
def z4l:q9s:=z9i q5u Wu W2 Ha j3l q1i q2y
abbrev B4:Type:=List (Int)->Int->Int->Int->(Bool->Prop)->Prop
def B5(q5n:q0p)(j86:j7p)(q2f:Hl)(z44:q9q)(Jh:Wn)(Vv:J5)(q4u:z88)(q2g:Hp)(z1j:q6s)(q9y:z2t)(q2h:Hs)(z1k:q6v)(q3y:R1)(z45:q9s):B4:=fun codes which size now K=>q5n fun Qa=>Cnd (Qa=true) (j86 codes (400:Int) fun Qh Zn=>q2f Qh Zn (10:Int) fun Ql Zx=>z44 Qh Zx (Envt.mk (Sett.mk Ql.1.1 Ql.1.2 Ql.1.3) Ql.2 Ql.3 Ql.4 Ql.5 Ql.6) (10:Int) fun Qn _=>Jh (Envt.mk (Sett.mk Qn.1.1 Qn.1.2 Qn.1.3) Qn.2 Qn.3 Qn.4 Qn.5 Qn.6) fun Qw=>Cnd (Qw=0) (Vv (Envt.mk (Sett.mk Qn.1.1 Qn.1.2 Qn.1.3) Qn.2 Qn.3 Qn.4 Qn.5 Qn.6) which fun Zl=>q4u size (3000:Int) fun Jf=>q4u size (20000:Int) fun Wt=>InI (Wt - 5)/\q4u now (220:Int) fun Z4=>q4u now (60:Int) fun Jo=>InI ((1099511627776:Int) - Jo)/\([now,Z4,(1099511627776:Int) - Jo].length<=(9223372036854775807:Nat)->Lp1 (fun Wc y2e=>Cnd (Wc<(↑[now,Z4,(1099511627776:Int) - Jo].length:Int)) (((0:Int)<=Wc/\Wc<(↑[now,Z4,(1099511627776:Int) - Jo].length:Int))/\ ∀y12,[now,Z4,(1099511627776:Int) - Jo][Wc.toNat]? =some y12->[size,Jf,Wt - 5].length<=(9223372036854775807:Nat)->Lp1 (fun Zo y2f=>Cnd (Zo<(↑[size,Jf,Wt - 5].length:Int)) (((0:Int)<=Zo/\Zo<(↑[size,Jf,Wt - 5].length:Int))/\ ∀y16,[size,Jf,Wt - 5][Zo.toNat]? =some y16->q2g (Envt.mk (Sett.mk Qn.1.1 Qn.1.2 Qn.1.3) Qn.2 Qn.3 Qn.4 Qn.5 Qn.6) Zl y16 y12 fun Qd q4s=>((0:Int)<=Zo/\Zo<(↑[size,Jf,Wt - 5].length:Int))/\ ∀y19,[size,Jf,Wt - 5][Zo.toNat]? =some y19->z1j (Envt.mk (Sett.mk Qn.1.1 Qn.1.2 Qn.1.3) Qn.2 Qn.3 Qn.4 Qn.5 Qn.6) Zl y19 y12 fun Qz z8p=>Cnd (q4s=z8p) (q9y (Envt.mk (Sett.mk Qd.1.1 Qd.1.2 Qd.1.3) Qd.2 Qd.3 Qd.4 Qd.5 Qd.6) (Envt.mk (Sett.mk Qz.1.1 Qz.1.2 Qz.1.3) Qz.2 Qz.3 Qz.4 Qz.5 Qz.6) fun Zr=>Cnd (Zr=true) (InI (Zo+1)/\y2f (Zo+1)) (K false)) (K false)) (q2h (Envt.mk (Sett.mk Qn.1.1 Qn.1.2 Qn.1.3) Qn.2 Qn.3 Qn.4 Qn.5 Qn.6) Zl y12 fun Qi z5c=>z1k (Envt.mk (Sett.mk Qn.1.1 Qn.1.2 Qn.1.3) Qn.2 Qn.3 Qn.4 Qn.5 Qn.6) Zl y12 fun Gi w36=>q3y (Envt.mk (Sett.mk Qn.1.1 Qn.1.2 Qn.1.3) Qn.2 Qn.3 Qn.4 Qn.5 Qn.6) Zl y12 fun Qd q4s=>z45 (Envt.mk (Sett.mk Qn.1.1 Qn.1.2 Qn.1.3) Qn.2 Qn.3 Qn.4 Qn.5 Qn.6) Zl y12 fun Qs q81=>Cnd (z5c=w36) (Cnd (q4s=q81) (q9y (Envt.mk (Sett.mk Qi.1.1 Qi.1.2 Qi.1.3) Qi.2 Qi.3 Qi.4 Qi.5 Qi.6) (Envt.mk (Sett.mk Gi.1.1 Gi.1.2 Gi.1.3) Gi.2 Gi.3 Gi.4 Gi.5 Gi.6) fun Gt=>Cnd (Gt=true) (q9y (Envt.mk (Sett.mk Qd.1.1 Qd.1.2 Qd.1.3) Qd.2 Qd.3 Qd.4 Qd.5 Qd.6) (Envt.mk (Sett.mk Qs.1.1 Qs.1.2 Qs.1.3) Qs.2 Qs.3 Qs.4 Qs.5 Qs.6) fun Qz=>Cnd (Qz=true) (InI (Wc+1)/\y2e (Wc+1)) (K false)) (K false)) (K false)) (K false))) (0:Int)) (K true)) (0:Int))) (K true)) (K false)
def Jj:B4:=B5 q42 j7q Hm z4j Wo Vm j3e q1e z0q z7q q1h z0s q3j z4l
end Go.En
end
noncomputable section
set_option maxRecDepth 100000
namespace Go.Proofs
open Go.Shelf
def Tryz.lays196_ren:Go.Shelf.Ren:=⟨fun|196=>164|259=>217|n=>n,fun|9=>9|4=>4|3=>3|5=>5|12=>12|119=>260|0=>0|46=>264|139=>263|138=>262|53=>278|n=>n,fun|3=>3|4=>4|n=>n⟩
theorem Tryz.lays196:Go.Proofs.Lays.n196 Tryz.prog Tryz.lays196_ren:={
 mixed:=by kernel_rfl
 f196:=Tryz.func164.trans (congrArg some (by kernel_rfl))
 f259:=Tryz.func217.trans (congrArg some (by kernel_rfl))
 t0:=Tryz.underlying0
 a0:=Tryz.isAgg0
 z0:=Tryz.sizeOf0
 v0:=Tryz.zeroValue0
 t3:=Tryz.underlying3
 a3:=Tryz.isAgg3
 z3:=Tryz.sizeOf3
 v3:=Tryz.zeroValue3
 t4:=Tryz.underlying4
 a4:=Tryz.isAgg4
 z4:=Tryz.sizeOf4
 v4:=Tryz.zeroValue4
 t5:=Tryz.underlying5
 a5:=Tryz.isAgg5
 z5:=Tryz.sizeOf5
 v5:=Tryz.zeroValue5
 t9:=Tryz.underlying9
 a9:=Tryz.isAgg9
 z9:=Tryz.sizeOf9
 v9:=Tryz.zeroValue9
 t12:=Tryz.underlying12
 a12:=Tryz.isAgg12
 z12:=Tryz.sizeOf12
 v12:=Tryz.zeroValue12
 t46:=Tryz.underlying264
 a46:=Tryz.isAgg264
 z46:=Tryz.sizeOf264
 v46:=Tryz.zeroValue264
 t53:=Tryz.underlying278
 a53:=Tryz.isAgg278
 z53:=Tryz.sizeOf278
 v53:=Tryz.zeroValue278
 t119:=Tryz.underlying260
 a119:=Tryz.isAgg260
 z119:=Tryz.sizeOf260
 t138:=Tryz.underlying262
 a138:=Tryz.isAgg262
 z138:=Tryz.sizeOf262
 v138:=Tryz.zeroValue262
 t139:=Tryz.underlying263
 a139:=Tryz.isAgg263
 z139:=Tryz.sizeOf263
 v139:=Tryz.zeroValue263
 g3:=by kernel_rfl
 g4:=by kernel_rfl}
end Go.Proofs
end
noncomputable section
set_option maxRecDepth 100000
namespace Go.Proofs.YtflilmgifibgoaaGreatDoor
open Go Go.Proofs Go.RowKit Go.Fl
theorem _root_.Go.Fl.St.freezeM{c:Cx}{w:World}{σ:Hv}{ms ms':List HObj}(h:St c w σ ms){i:Nat}{o:HObj}(hi:ms[i]? =some o){j:Nat}{o2:HObj}(_:ms[j]? =some o2)(_:j≠i)(_:c.M=o2.foot.toList)
  (hms:ms.eraseIdx i=ms'): ∃σ1,St c w σ1 ms'/\Go.Fl.Sub σ σ1/\ ∀k,o.foot=some k->σ1 k=w.heap[k]? :=h.freeze' hi hms
theorem _root_.Go.Fl.St.freeze{c:Cx}{w:World}{σ:Hv}{ms ms':List HObj}(h:St c w σ ms){i:Nat}{o:HObj}(hi:ms[i]? =some o)(_:c.M=[])
  (hms:ms.eraseIdx i=ms'): ∃σ1,St c w σ1 ms'/\Go.Fl.Sub σ σ1/\ ∀k,o.foot=some k->σ1 k=w.heap[k]? :=h.freeze' hi hms
theorem j99:w1t zB 10000 (j6c Tryz.t129.zero)=true:=by kernel_rfl
theorem y07:w1t zI 10001 (j6c Tryz.t195.zero)=true:=by kernel_rfl
theorem c_of{σ:Hv}{w:World}(v:Value)(ls:List (List (Int×Int)))(hV:View σ w)(hv:RSl 1 (RSs 2 (REnc q0l)) σ v ls)(hn:ls.flatten.length<=1152921504606846976):
  Calls Tryz.prog 78 #[v] w fun e w1=>e= .returned (.agg (brow 10000 (Sp.cov ls.flatten)).toArray)/\Grow [] σ w σ w1:=by
 refine enter Tryz.func78 rfl rfl rfl ?_
 obtain⟨a,cap,rfl,h1,h2,hel⟩:=hv
 have hS:=St.start hV
 refine Qp ?_
 refine q4e (cs:=brow 10000 (fun i=>false)) hS (q4y Tryz.type129 (q3d j88 j99) (by omega)) (by simp[Value.cells,q3z]) ?_
 intro b1 w1 hS1
 refine wpList_nil ?_
 refine Qj ?_
 refine Qp ?_
 refine q4e (cs:=irow 10001 (fun i=>0)) hS1 (q4y Tryz.type195 (q3d y0c y07) (by omega)) (by simp[Value.cells,w7q]) ?_
 intro b2 w2 hS2
 refine wpList_nil ?_
 refine Qj ?_
 refine wp_seq ?_
 refine Qp ?_
 refine Qy (v:=(.slice a ls.length cap)) rfl ?_
 refine q5w rfl Tryz.underlying194 ?_
 refine Qy (v:=(.int .i64 (0:Int))) rfl ?_
 refine wpList_nil ?_
 refine Qj ?_
 refine wp_block ?_
 refine loop (fun m f z=> ∃(k1:Nat) (g:Fr),m=ls.length - k1/\f=(upd (upd (upd (upd (upd g 2 (.pointer (some ⟨b1,0,none⟩))) 3 (.pointer (some ⟨b2,0,none⟩))) 13 (.slice a ls.length cap)) 14 (.int .i64 ((ls.length:Nat):Int))) 15 (.int .i64 ((k1:Nat):Int)))/\St ⟨w,σ,[]⟩ z σ [blk b2 195 (irow 10001 (Sp.dep ((ls.take k1).flatten))),blk b1 129 (brow 10000 (fun i=>false))]/\(k1<=ls.length)) (m0:=_) ⟨0,_,rfl,(Q7 rfl (Q7 rfl (Q7 rfl (Q7 rfl (Q7 rfl rfl))))),hS2,(Nat.zero_le _)⟩ ?_
 rintro _ _ w3 ⟨k1,g,rfl,rfl,hS3,hk1⟩
 refine Qp ?_
 refine w1o (r:=(decide (((k1:Nat):Int)<((ls.length:Nat):Int)))) rfl rfl rfl ?_
 refine wpList_nil ?_
 refine Qj ?_
 refine wp_seq ?_
 refine if_d (((k1:Nat):Int)<((ls.length:Nat):Int)) rfl (fun ht1=> ?_) (fun ht1=> ?_)
 ·refine wp_skip ?_
  refine Qj ?_
  refine wp_seq ?_
  refine wp_block ?_
  refine Qp ?_
  obtain⟨x1,hx1⟩:=getq (l:=ls) (k:=k1) (by omega)
  obtain⟨ad1,cs1,ha1,hl1,hr1,hR1⟩:=hel k1 _ hx1
  obtain⟨v1,rfl,a1,cap1,rfl,h2,h3,hel1⟩:=hR1
  refine q0n (k:=k1) (a':=(ad1.add (k1*1))) (congrArg (fun z=>Value.slice z _ _) ha1) rfl (by omega) (Qe hx1) Tryz.underlying194 Tryz.sizeOf51 rfl ?_
  refine q4v (v:=(.slice a1 x1.length cap1)) rfl Tryz.isAgg51 (hr1.cell hS3.view 0 rfl rfl) ?_
  refine Q0 (v:=(.slice a1 x1.length cap1)) rfl ?_
  refine wpList_nil ?_
  refine Qj ?_
  refine Qp ?_
  refine Qy (v:=(.slice a1 x1.length cap1)) rfl ?_
  refine q5w rfl Tryz.underlying51 ?_
  refine Qy (v:=(.int .i64 (0:Int))) rfl ?_
  refine wpList_nil ?_
  refine Qj ?_
  refine wp_block ?_
  refine loop (fun m f z=> ∃(k2:Nat) (g:Fr),m=x1.length - k2/\f=(upd (upd (upd (upd (upd (upd (upd (upd g 2 (.pointer (some ⟨b1,0,none⟩))) 3 (.pointer (some ⟨b2,0,none⟩))) 13 (.slice a ls.length cap)) 14 (.int .i64 ((ls.length:Nat):Int))) 15 (.int .i64 ((k1:Nat):Int))) 19 (.slice a1 x1.length cap1)) 20 (.int .i64 ((x1.length:Nat):Int))) 21 (.int .i64 ((k2:Nat):Int)))/\St ⟨w,σ,[]⟩ z σ [blk b2 195 (irow 10001 (Sp.dep ((ls.take k1).flatten++x1.take k2))),blk b1 129 (brow 10000 (fun i=>false))]/\(k2<=x1.length)) (m0:=_) ⟨0,_,rfl,(Q7 rfl (Q7 rfl (Q7 rfl (Q7 rfl (Q7 rfl (Q7 rfl (Q7 rfl (Q7 rfl rfl)))))))),(by rw[List.take_zero,List.append_nil];exact hS3),(Nat.zero_le _)⟩ ?_
  rintro _ _ w4 ⟨k2,g,rfl,rfl,hS4,hk2⟩
  refine Qp ?_
  refine w1o (r:=(decide (((k2:Nat):Int)<((x1.length:Nat):Int)))) rfl rfl rfl ?_
  refine wpList_nil ?_
  refine Qj ?_
  refine wp_seq ?_
  refine if_d (((k2:Nat):Int)<((x1.length:Nat):Int)) rfl (fun ht2=> ?_) (fun ht2=> ?_)
  ·refine wp_skip ?_
   refine Qj ?_
   refine wp_seq ?_
   refine wp_block ?_
   refine Qp ?_
   obtain⟨x2,hx2⟩:=getq (l:=x1) (k:=k2) (by omega)
   obtain⟨ad2,cs2,ha2,hl2,hr2,hR2⟩:=hel1 k2 _ hx2
   cases hR2
   refine q0n (k:=k2) (a':=(ad2.add (k2*2))) (congrArg (fun z=>Value.slice z _ _) ha2) rfl (by omega) (Qe hx2) Tryz.underlying51 Tryz.sizeOf75 rfl ?_
   refine j2k (cs:=[(.int .i64 x2.1),(.int .i64 x2.2)]) rfl Tryz.isAgg75 Tryz.sizeOf75 rfl (hr2.row hS4.view) ?_
   refine q4e (cs:=[(.int .i64 (0:Int)),(.int .i64 (0:Int))]) hS4 Tryz.zeroValue75 rfl ?_
   intro b3 w5 hS5
   refine Bt (T:=75) (vs:=[(.int .i64 x2.1),(.int .i64 x2.2)]) (cs':=[(.int .i64 x2.1),(.int .i64 x2.2)]) (ms':=[blk b3 75 [(.int .i64 x2.1),(.int .i64 x2.2)],blk b2 195 (irow 10001 (Sp.dep ((ls.take k1).flatten++x1.take k2))),blk b1 129 (brow 10000 (fun i=>false))]) (i:=0) hS5 rfl rfl rfl Tryz.sizeOf75 rfl (ones rfl) rfl (Nat.le_of_ble_eq_true rfl) rfl rfl ?_
   intro w6 hS6
   refine wpList_nil ?_
   refine Qj ?_
   refine wp_seq ?_
   refine y0f (fun z=>St ⟨w,σ,[]⟩ z σ [blk b3 75 [(.int .i64 x2.1),(.int .i64 x2.2)],blk b2 195 (irow 10001 (Sp.dep ((ls.take k1).flatten++x1.take k2))),blk b1 129 (brow 10000 (fun i=>false))]) (by kernel_rfl) rfl rfl ?_
   have hS7:=hS6.drew
   refine z6y (i:=0) (v:=(.pointer (some ⟨b3,0,none⟩))) (l':= #[true,false,false,false,false,false,false,false]) rfl (by kernel_rfl) (by kernel_rfl) (by kernel_rfl) rfl rfl (fun _ _ _ h=>h) hS7 (fun w hJ K hK=> ?_) ?_
   ·refine z8t (a':=⟨b3,0,none⟩) rfl Tryz.underlying75 rfl Tryz.sizeOf3 rfl ?_
    exact⟨rfl,hK⟩
   refine z6y (i:=1) (v:=(.int .i64 x2.1)) (l':= #[true,true,false,false,false,false,false,false]) rfl (by kernel_rfl) (by kernel_rfl) (by kernel_rfl) rfl rfl (fun _ _ _ h=>h) hS7 (fun w hJ K hK=> ?_) ?_
   ·refine q4v (v:=(.int .i64 x2.1)) rfl Tryz.isAgg3 (hJ.cell (i:=0) rfl rfl) ?_
    exact⟨rfl,hK⟩
   refine z6y (i:=2) (v:=(.int .i64 (max x2.1 (0:Int)))) (l':= #[true,true,true,false,false,false,false,false]) rfl (by kernel_rfl) (by kernel_rfl) (by kernel_rfl) rfl rfl (fun _ _ _ h=>h) hS7 (fun w hJ K hK=> ?_) ?_
   ·refine v99 (r:=(max x2.1 (0:Int))) rfl rfl rfl ?_
    exact⟨rfl,hK⟩
   refine z6y (i:=3) (v:=(.pointer (some ⟨b3,1,none⟩))) (l':= #[true,true,true,true,false,false,false,false]) rfl (by kernel_rfl) (by kernel_rfl) (by kernel_rfl) rfl rfl (fun _ _ _ h=>h) hS7 (fun w hJ K hK=> ?_) ?_
   ·refine z8t (a':=⟨b3,1,none⟩) rfl Tryz.underlying75 rfl Tryz.sizeOf3 rfl ?_
    exact⟨rfl,hK⟩
   refine z6y (i:=4) (v:=(.int .i64 x2.2)) (l':= #[true,true,true,true,true,false,false,false]) rfl (by kernel_rfl) (by kernel_rfl) (by kernel_rfl) rfl rfl (fun _ _ _ h=>h) hS7 (fun w hJ K hK=> ?_) ?_
   ·refine q4v (v:=(.int .i64 x2.2)) rfl Tryz.isAgg3 (hJ.cell (i:=0) rfl rfl) ?_
    exact⟨rfl,hK⟩
   refine z6y (i:=5) (v:=(.int .i64 (min x2.2 (10000:Int)))) (l':= #[true,true,true,true,true,true,false,false]) rfl (by kernel_rfl) (by kernel_rfl) (by kernel_rfl) rfl rfl (fun _ _ _ h=>h) hS7 (fun w hJ K hK=> ?_) ?_
   ·refine y0a (r:=(min x2.2 (10000:Int))) rfl rfl rfl ?_
    exact⟨rfl,hK⟩
   refine z6y (i:=6) (v:=(.int .i64 (max x2.1 (0:Int)))) (l':= #[true,true,true,true,true,true,true,false]) rfl (by kernel_rfl) (by kernel_rfl) (by kernel_rfl) rfl rfl (fun _ _ _ h=>h) hS7 (fun w hJ K hK=> ?_) ?_
   ·refine Q0 (v:=(.int .i64 (max x2.1 (0:Int)))) rfl ?_
    exact⟨rfl,hK⟩
   refine z6y (i:=7) (v:=(.int .i64 (min x2.2 (10000:Int)))) (l':= #[true,true,true,true,true,true,true,true]) rfl (by kernel_rfl) (by kernel_rfl) (by kernel_rfl) rfl rfl (fun _ _ _ h=>h) hS7 (fun w hJ K hK=> ?_) ?_
   ·refine Q0 (v:=(.int .i64 (min x2.2 (10000:Int)))) rfl ?_
    exact⟨rfl,hK⟩
   refine v75 (by kernel_rfl) ?_
   refine Qj ?_
   refine Qp ?_
   refine Qy (v:=(.int .i64 (max x2.1 (0:Int)))) rfl ?_
   refine Qy (v:=(.int .i64 (min x2.2 (10000:Int)))) rfl ?_
   refine w1o (r:=(decide ((max x2.1 (0:Int))<(min x2.2 (10000:Int))))) rfl rfl rfl ?_
   refine wpList_nil ?_
   refine Qj ?_
   refine if_d ((max x2.1 (0:Int))<(min x2.2 (10000:Int))) rfl (fun ht3=> ?_) (fun ht3=> ?_)
   ·obtain⟨fa,hfa⟩: ∃fa:Nat,((fa:Nat):Int)=max x2.1 0:=⟨(max x2.1 0).toNat,by omega⟩
    obtain⟨fb,hfb⟩: ∃fb:Nat,((fb:Nat):Int)=min x2.2 10000:=⟨(min x2.2 10000).toNat,by omega⟩
    have hda:=Sp.dep_bound ((ls.take k1).flatten++x1.take k2) fa
    have hdb:=Sp.dep_bound ((ls.take k1).flatten++x1.take k2) fb
    have hlen:(((ls.take k1).flatten++x1.take k2)).length<=ls.flatten.length:=Sp.part_le hx1 (by omega)
    refine Qp ?_
    refine Qy (v:=(.int .i64 (max x2.1 (0:Int)))) rfl ?_
    refine Wi (k:=fa) (a':=⟨b2,fa,none⟩) rfl rfl (by omega) (by omega) Tryz.underlying195 Tryz.sizeOf3 (by simp[Z5]) ?_
    refine q4v (v:=(.int .i64 (Sp.dep ((ls.take k1).flatten++x1.take k2) fa))) rfl Tryz.isAgg3 (hS7.cell (i:=1) rfl (z8u (by omega))) ?_
    refine z14 (r:=((Sp.dep ((ls.take k1).flatten++x1.take k2) fa)+(1:Int))) rfl rfl (nw (by omega) (by omega) (by omega)) ?_
    refine Wi (k:=fa) (a':=⟨b2,fa,none⟩) rfl rfl (by omega) (by omega) Tryz.underlying195 Tryz.sizeOf3 (by simp[Z5]) ?_
    refine Bt (T:=195) (vs:=[(.int .i64 ((Sp.dep ((ls.take k1).flatten++x1.take k2) fa)+(1:Int)))]) (cs':=irow 10001 (fun i=>(if i=fa then ((Sp.dep ((ls.take k1).flatten++x1.take k2) fa)+(1:Int)) else Sp.dep ((ls.take k1).flatten++x1.take k2) i))) (ms':=[blk b3 75 [(.int .i64 x2.1),(.int .i64 x2.2)],blk b2 195 (irow 10001 (fun i=>(if i=fa then ((Sp.dep ((ls.take k1).flatten++x1.take k2) fa)+(1:Int)) else Sp.dep ((ls.take k1).flatten++x1.take k2) i))),blk b1 129 (brow 10000 (fun i=>false))]) (i:=1) hS7 rfl rfl rfl Tryz.sizeOf3 rfl (ones rfl) rfl (by rw[z3s];omega) (w4d (by omega)) rfl ?_
    intro w7 hS8
    refine wpList_nil ?_
    refine Qj ?_
    refine Gs ?_
    refine Qy (v:=(.int .i64 (min x2.2 (10000:Int)))) rfl ?_
    refine Wi (k:=fb) (a':=⟨b2,fb,none⟩) rfl rfl (by omega) (by omega) Tryz.underlying195 Tryz.sizeOf3 (by simp[Z5]) ?_
    refine q4v (v:=(.int .i64 ((if fb=fa then ((Sp.dep ((ls.take k1).flatten++x1.take k2) fa)+(1:Int)) else Sp.dep ((ls.take k1).flatten++x1.take k2) fb)))) rfl Tryz.isAgg3 (hS8.cell (i:=1) rfl (z8u (by omega))) ?_
    refine v1k (r:=(((if fb=fa then ((Sp.dep ((ls.take k1).flatten++x1.take k2) fa)+(1:Int)) else Sp.dep ((ls.take k1).flatten++x1.take k2) fb)) - (1:Int))) rfl rfl (nw (by omega) (by omega) (by omega)) ?_
    refine Wi (k:=fb) (a':=⟨b2,fb,none⟩) rfl rfl (by omega) (by omega) Tryz.underlying195 Tryz.sizeOf3 (by simp[Z5]) ?_
    refine Bt (T:=195) (vs:=[(.int .i64 (((if fb=fa then ((Sp.dep ((ls.take k1).flatten++x1.take k2) fa)+(1:Int)) else Sp.dep ((ls.take k1).flatten++x1.take k2) fb)) - (1:Int)))]) (cs':=irow 10001 (Sp.dep (((ls.take k1).flatten++x1.take k2)++[x2]))) (ms':=[blk b3 75 [(.int .i64 x2.1),(.int .i64 x2.2)],blk b2 195 (irow 10001 (Sp.dep (((ls.take k1).flatten++x1.take k2)++[x2]))),blk b1 129 (brow 10000 (fun i=>false))]) (i:=1) hS8 rfl rfl rfl Tryz.sizeOf3 rfl (ones rfl) rfl (by rw[z3s];omega) ((w4d (by omega)).trans (j6e (fun i _=>Sp.dep_step ((ls.take k1).flatten++x1.take k2) x2 fa fb hfa hfb (by unfold Sp.lo Sp.hi;omega) i))) rfl ?_
    intro w8 hS9
    refine wpList_nil ?_
    refine j49 ?_
    refine Qj ?_
    refine Gs ?_
    refine z14 (r:=((k2+1:Nat):Int)) rfl rfl (nw (by omega) (by omega) (by omega)) ?_
    refine Qy (v:=(.int .i64 ((k2+1:Nat):Int))) rfl ?_
    refine wpList_nil ?_
    refine Qj ?_
    have hE:x1.take (k2+1)=x1.take k2++[x2]:=take_snoc hx2
    exact⟨_,_,rfl,⟨k2+1,_,rfl,(Q7 rfl (Q7 rfl (Q7 rfl (Q7 rfl (Q7 rfl (Q7 rfl (Q7 rfl (Q7 rfl rfl)))))))),(by rw[hE,←List.append_assoc];exact hS9.drop 0 rfl),(by have:=Qe hx2;omega)⟩,by have:=Qe hx2;omega⟩
   ·refine wp_skip ?_
    refine j49 ?_
    refine Qj ?_
    refine Gs ?_
    refine z14 (r:=((k2+1:Nat):Int)) rfl rfl (nw (by omega) (by omega) (by omega)) ?_
    refine Qy (v:=(.int .i64 ((k2+1:Nat):Int))) rfl ?_
    refine wpList_nil ?_
    refine Qj ?_
    have hE:x1.take (k2+1)=x1.take k2++[x2]:=take_snoc hx2
    exact⟨_,_,rfl,⟨k2+1,_,rfl,(Q7 rfl (Q7 rfl (Q7 rfl (Q7 rfl (Q7 rfl (Q7 rfl (Q7 rfl (Q7 rfl rfl)))))))),(by rw[hE,←List.append_assoc,j6e (fun i _=>Sp.dep_skip ((ls.take k1).flatten++x1.take k2) x2 ht3 i)];exact hS7.drop 0 rfl),(by have:=Qe hx2;omega)⟩,by have:=Qe hx2;omega⟩
  ·refine wp_exit ?_
   refine q85 ?_
   refine q85 ?_
   refine z5s ?_
   refine j49 ?_
   refine Qj ?_
   refine Gs ?_
   refine z14 (r:=((k1+1:Nat):Int)) rfl rfl (nw (by omega) (by omega) (by omega)) ?_
   refine Qy (v:=(.int .i64 ((k1+1:Nat):Int))) rfl ?_
   refine wpList_nil ?_
   refine Qj ?_
   have hSl:=hS4
   rw[List.take_of_length_le (show x1.length<=k2 by omega)] at hSl
   exact⟨_,_,rfl,⟨k1+1,_,rfl,(Q7 rfl (Q7 rfl (Q7 rfl (Q7 rfl (Q7 rfl rfl))))),(by rw[Sp.flat_take hx1];exact hSl),(by have:=Qe hx1;omega)⟩,by have:=Qe hx1;omega⟩
 ·refine wp_exit ?_
  refine q85 ?_
  refine q85 ?_
  refine z5s ?_
  refine Qj ?_
  refine Qp ?_
  refine q4e (cs:=brow 10000 (fun i=>false)) hS3 (q4y Tryz.type129 (q3d j88 j99) (by omega)) (by simp[Value.cells,q3z]) ?_
  intro b4 w9 hS10
  refine wpList_nil ?_
  refine Qj ?_
  refine Qp ?_
  refine Q0 (v:=(.int .i64 (0:Int))) rfl ?_
  refine wpList_nil ?_
  refine Qj ?_
  refine wp_seq ?_
  refine Qp ?_
  refine Qy (v:=(.int .i64 (0:Int))) rfl ?_
  refine wpList_nil ?_
  refine Qj ?_
  refine wp_block ?_
  rw[List.take_of_length_le (show ls.length<=k1 by omega)] at hS10
  refine loop (fun m f z=> ∃(k3:Nat) (g:Fr),m=10000 - k3/\f=(upd (upd (upd (upd (upd g 2 (.pointer (some ⟨b1,0,none⟩))) 3 (.pointer (some ⟨b2,0,none⟩))) 10 (.pointer (some ⟨b4,0,none⟩))) 11 (.int .i64 (Sp.psum (Sp.dep ls.flatten) k3))) 46 (.int .i64 ((k3:Nat):Int)))/\St ⟨w,σ,[]⟩ z σ [blk b4 129 (brow 10000 (fun i=>(decide (i<k3) && Sp.cov ls.flatten i))),blk b2 195 (irow 10001 (Sp.dep ls.flatten)),blk b1 129 (brow 10000 (fun i=>false))]/\(k3<=10000)) (m0:=_) ⟨0,_,rfl,(Q7 rfl (Q7 rfl (Q7 rfl (Q7 rfl (Q7 rfl rfl))))),(by simpa using hS10),(Nat.zero_le _)⟩ ?_
  rintro _ _ w10 ⟨k3,g,rfl,rfl,hS11,hk3⟩
  refine Qp ?_
  refine w1o (r:=(decide (((k3:Nat):Int)<(10000:Int)))) rfl rfl rfl ?_
  refine wpList_nil ?_
  refine Qj ?_
  refine wp_seq ?_
  refine if_d (((k3:Nat):Int)<(10000:Int)) rfl (fun ht4=> ?_) (fun ht4=> ?_)
  ·refine wp_skip ?_
   refine Qj ?_
   refine wp_seq ?_
   refine wp_block ?_
   refine Qp ?_
   refine Qy (v:=(.int .i64 ((k3:Nat):Int))) rfl ?_
   refine Q0 (v:=(.int .i64 ((k3:Nat):Int))) rfl ?_
   refine wpList_nil ?_
   refine Qj ?_
   refine Qp ?_
   have hps:=Sp.psum_nonneg ls.flatten k3 (by omega)
   have hps2:Sp.psum (Sp.dep ls.flatten) (k3+1)=Sp.psum (Sp.dep ls.flatten) k3+Sp.dep ls.flatten k3:=rfl
   refine Qy (v:=(.int .i64 (Sp.psum (Sp.dep ls.flatten) k3))) rfl ?_
   refine Qy (v:=(.int .i64 ((k3:Nat):Int))) rfl ?_
   refine Wi (k:=k3) (a':=⟨b2,k3,none⟩) rfl rfl (by omega) (by omega) Tryz.underlying195 Tryz.sizeOf3 (by simp[Z5]) ?_
   refine q4v (v:=(.int .i64 (Sp.dep ls.flatten k3))) rfl Tryz.isAgg3 (hS11.cell (i:=1) rfl (z8u (by omega))) ?_
   refine z14 (r:=((Sp.psum (Sp.dep ls.flatten) k3)+(Sp.dep ls.flatten k3))) rfl rfl (nw (by omega) (by omega) (by omega)) ?_
   refine Q0 (v:=(.int .i64 ((Sp.psum (Sp.dep ls.flatten) k3)+(Sp.dep ls.flatten k3)))) rfl ?_
   refine wpList_nil ?_
   refine Qj ?_
   refine Gs ?_
   refine Qy (v:=(.int .i64 ((k3:Nat):Int))) rfl ?_
   refine Qy (v:=(.int .i64 ((Sp.psum (Sp.dep ls.flatten) k3)+(Sp.dep ls.flatten k3)))) rfl ?_
   refine v72 (r:=(decide ((0:Int)<((Sp.psum (Sp.dep ls.flatten) k3)+(Sp.dep ls.flatten k3))))) rfl rfl rfl ?_
   refine Wi (k:=k3) (a':=⟨b4,k3,none⟩) rfl rfl (by omega) (by omega) Tryz.underlying129 Tryz.sizeOf4 (by simp[Z5]) ?_
   refine Bt (T:=129) (vs:=[(.bool (decide ((0:Int)<((Sp.psum (Sp.dep ls.flatten) k3)+(Sp.dep ls.flatten k3)))))]) (cs':=brow 10000 (fun i=>(decide (i<k3+1) && Sp.cov ls.flatten i))) (ms':=[blk b4 129 (brow 10000 (fun i=>(decide (i<k3+1) && Sp.cov ls.flatten i))),blk b2 195 (irow 10001 (Sp.dep ls.flatten)),blk b1 129 (brow 10000 (fun i=>false))]) (i:=0) hS11 rfl rfl rfl Tryz.sizeOf4 rfl (ones rfl) rfl (by rw[Zt];omega) ((v1m (by omega)).trans (j6d (fun i _=>Sp.set_step ls.flatten k3 (by omega) i))) rfl ?_
   intro w11 hS12
   refine wpList_nil ?_
   refine j49 ?_
   refine Qj ?_
   refine Gs ?_
   refine z14 (r:=((k3+1:Nat):Int)) rfl rfl (nw (by omega) (by omega) (by omega)) ?_
   refine Qy (v:=(.int .i64 ((k3+1:Nat):Int))) rfl ?_
   refine wpList_nil ?_
   refine Qj ?_
   exact⟨_,_,rfl,⟨k3+1,_,rfl,(Q7 rfl (Q7 rfl (Q7 rfl (Q7 rfl (Q7 rfl rfl))))),hS12,(by omega)⟩,by omega⟩
  ·refine wp_exit ?_
   refine q85 ?_
   refine q85 ?_
   refine z5s ?_
   refine Qj ?_
   refine Qp ?_
   refine j2k (cs:=brow 10000 (fun i=>(decide (i<k3) && Sp.cov ls.flatten i))) rfl Tryz.isAgg129 Tryz.sizeOf129 (Zt _ _) (q2j (hS11.get (i:=0) rfl)) ?_
   refine Bt (T:=129) (vs:=brow 10000 (fun i=>(decide (i<k3) && Sp.cov ls.flatten i))) (cs':=brow 10000 (fun i=>(decide (i<k3) && Sp.cov ls.flatten i))) (ms':=[blk b4 129 (brow 10000 (fun i=>(decide (i<k3) && Sp.cov ls.flatten i))),blk b2 195 (irow 10001 (Sp.dep ls.flatten)),blk b1 129 (brow 10000 (fun i=>(decide (i<k3) && Sp.cov ls.flatten i)))]) (i:=2) hS11 rfl rfl (q5x _) Tryz.sizeOf129 (Zt _ _) (q5y _ _) rfl (by simp[Zt]) (q0b (by simp[Zt])) rfl ?_
   intro w12 hS13
   refine wpList_nil ?_
   refine Qj ?_
   refine wp_ret ?_
   refine v33 rfl rfl (hS13.get (i:=2) rfl) Tryz.underlying129 rfl ((show (Tryz.prog.info? 129).map (·.size)=some 10000 from rfl).trans (by simp[Zt])) ?_
   exact⟨congrArg (fun l:List Value=>Ending.returned (.agg l.toArray)) (j6d (fun i hi=>Sp.all_step ls.flatten k3 i (by omega))),hS13.done⟩
end Go.Proofs.YtflilmgifibgoaaGreatDoor
end
noncomputable section
set_option maxRecDepth 100000
namespace Go.Proofs.YtflilmgifibgoaaGreatDoor
open Go Go.Proofs Go.RowKit Go.Fl
theorem j7z{σ:Hv}{w:World}(fid:FuncId)(C:List Value)(p:Nat->Bool)(O:Nat->HObj)(bo:Option Nat)(hfo: ∀k,(O k).foot=bo)(hcall: ∀args w,(callFunc fid args).run Tryz.prog w= .ok (.enter fid args) w)
  (hcl: ∀(k:Nat) (w1:World),k<10000->View σ w1->(O k).ok w1->Calls Tryz.prog fid ((.int .i64 ((k:Nat):Int))::C).toArray w1 fun e w2=>e= .returned (.bool (p k))/\Grow bo.toList σ w1 σ w2/\(O (k+1)).ok w2)
  (hV:View σ w)(hO:(O 0).ok w)(hσ: ∀k,(O 0).foot=some k->σ k=none):
  Calls Tryz.prog 79 #[(.func (.func fid) #[] (C).toArray)] w fun e w1=> ∃(v:Value) (σ1:Hv),e= .returned v/\Grow bo.toList σ w σ1 w1/\RSl 2 (REnc q0l) σ1 v (Sp.runs p 10000)/\(O 10000).ok w1/\ ∀k,bo=some k->σ1 k=none:=by
 refine enter Tryz.func79 rfl rfl rfl ?_
 have hS:=St.startO hV hO hσ
 refine Qp ?_
 refine Q0 (v:=(.slice none 0 0)) rfl ?_
 refine wpList_nil ?_
 refine Qj ?_
 refine Qp ?_
 refine Q0 (v:=(.slice none 0 0)) rfl ?_
 refine wpList_nil ?_
 refine Qj ?_
 refine wp_seq ?_
 refine Qp ?_
 refine Qy (v:=(.int .i64 (0:Int))) rfl ?_
 refine wpList_nil ?_
 refine Qj ?_
 refine wp_block ?_
 have hSn:=hS.addNil 75 2
 refine loop (fun m f z=> ∃(k:Nat) (v:Value) (g:Fr),m=10000 - k/\f=(upd (upd (upd g 0 (.func (.func fid) #[] (C).toArray)) 3 v) 6 (.int .i64 ((k:Nat):Int)))/\St ⟨w,σ,(O 0).foot.toList⟩ z σ [vec v 75 2 ((Sp.runs p k).length) ((Sp.runs p k).flatMap q0l),O k]/\(v.oneCell'=true)/\(k<=10000)) (m0:=_) ⟨0,_,_,rfl,(Q7 rfl (Q7 rfl (Q7 rfl rfl))),hSn,(rfl),(Nat.zero_le _)⟩ ?_
 rintro _ _ w1 ⟨k,v,g,rfl,rfl,hS1,hone,hk⟩
 have hrl:=Sp.runs_len p k
 refine Qp ?_
 refine w1o (r:=(decide (((k:Nat):Int)<(10000:Int)))) rfl rfl rfl ?_
 refine wpList_nil ?_
 refine Qj ?_
 refine wp_seq ?_
 refine if_d (((k:Nat):Int)<(10000:Int)) rfl (fun ht1=> ?_) (fun ht1=> ?_)
 ·refine wp_skip ?_
  refine Qj ?_
  refine wp_seq ?_
  refine wp_block ?_
  refine Qp ?_
  refine Qy (v:=(.int .i64 ((k:Nat):Int))) rfl ?_
  refine Q0 (v:=(.int .i64 ((k:Nat):Int))) rfl ?_
  refine wpList_nil ?_
  refine Qj ?_
  refine wp_seq ?_
  refine Qp ?_
  refine Qy (v:=(.func (.func fid) #[] (C).toArray)) rfl ?_
  refine Qy (v:=(.int .i64 ((k:Nat):Int))) rfl ?_
  refine w7p (first:=[]) (captured:=C) (args:=(.int .i64 ((k:Nat):Int))::C) rfl rfl hcall (Calls.mono (hcl k _ (by omega) hS1.view (hS1.get (i:=1) rfl)) ?_)
  rintro _ w2 ⟨rfl,hg1,ho1⟩
  refine⟨_,rfl,?_⟩
  have hS2:=hS1.growO hg1 (i:=1) (o':=O (k+1)) rfl (hfo _) (hfo _) ho1 (ms':=[vec v 75 2 ((Sp.runs p k).length) ((Sp.runs p k).flatMap q0l),O (k+1)]) rfl
  refine v41 (r:=(!p k)) rfl rfl ?_
  refine wpList_nil ?_
  refine Qj ?_
  refine y0b rfl (fun ht2=> ?_) (fun ht2=> ?_)
  ·refine wp_exit ?_
   refine q85 ?_
   refine z5s ?_
   refine Qj ?_
   refine Gs ?_
   refine z14 (r:=((k+1:Nat):Int)) rfl rfl (nw (by omega) (by omega) (by omega)) ?_
   refine Qy (v:=(.int .i64 ((k+1:Nat):Int))) rfl ?_
   refine wpList_nil ?_
   refine Qj ?_
   have hE:=Sp.runs_no ht2
   exact⟨_,_,rfl,⟨k+1,v,_,rfl,(Q7 rfl (Q7 rfl (Q7 rfl rfl))),(by rw[hE];simpa using hS2),(hone),(by omega)⟩,by omega⟩
  ·refine wp_skip ?_
   refine Qj ?_
   refine Qp ?_
   refine Qy (v:=v) rfl ?_
   refine w7n hS2 rfl (i:=0) rfl Tryz.underlying51 ?_
   refine Q0 (v:=(.int .i64 (((Sp.runs p k).length:Nat):Int))) rfl ?_
   refine wpList_nil ?_
   refine Qj ?_
   refine Qp ?_
   refine Qy (v:=(.int .i64 (((Sp.runs p k).length:Nat):Int))) rfl ?_
   refine v72 (r:=(decide ((0:Int)<(((Sp.runs p k).length:Nat):Int)))) rfl rfl rfl ?_
   by_cases hb1:(0:Int)<(((Sp.runs p k).length:Nat):Int)
   ·refine Qy (v:=(.bool true)) (congrArg Value.bool (decide_eq_true hb1)) ?_
    refine o_on rfl rfl ?_
    refine Qy (v:=v) rfl ?_
    refine o_on rfl rfl ?_
    refine Qy (v:=(.int .i64 (((Sp.runs p k).length:Nat):Int))) rfl ?_
    refine o_on rfl rfl ?_
    refine v1k (r:=((((Sp.runs p k).length:Nat):Int) - (1:Int))) rfl rfl (nw (by omega) (by omega) (by omega)) ?_
    refine o_on rfl rfl ?_
    obtain⟨g1,cp1,rfl⟩:=w1q (hS2.get (i:=0) rfl) (by omega)
    refine q0n (k:=((Sp.runs p k).length - 1)) (a':=⟨g1,((Sp.runs p k).length - 1)*2,none⟩) rfl rfl (by omega) (by omega) Tryz.underlying51 Tryz.sizeOf75 (by simp[Z5]) ?_
    refine o_on rfl rfl ?_
    refine z8t (a':=⟨g1,((Sp.runs p k).length - 1)*2+1,none⟩) rfl Tryz.underlying75 rfl Tryz.sizeOf3 rfl ?_
    refine o_on rfl rfl ?_
    obtain⟨x1,hx1⟩:=getq (l:=Sp.runs p k) (k:=((Sp.runs p k).length - 1)) (by omega)
    refine q4v (v:=(.int .i64 x1.2)) rfl Tryz.isAgg3 (v1n j2m (j:=1) (hS2.get (i:=0) rfl) hx1 rfl) ?_
    refine o_on rfl rfl ?_
    refine Qy (v:=(.int .i64 ((k:Nat):Int))) rfl ?_
    refine o_on rfl rfl ?_
    refine v97 (r:=(decide (x1.2=((k:Nat):Int)))) rfl rfl rfl ?_
    refine j12 (v:=(.bool (decide (x1.2=((k:Nat):Int))))) rfl rfl ?_
    refine wpList_nil ?_
    refine Qj ?_
    refine if_d (x1.2=((k:Nat):Int)) rfl (fun ht3=> ?_) (fun ht3=> ?_)
    ·refine Gs ?_
     refine Qy (v:=(.slice (some ⟨g1,0,none⟩) (Sp.runs p k).length cp1)) rfl ?_
     refine Qy (v:=(.int .i64 (((Sp.runs p k).length:Nat):Int))) rfl ?_
     refine v1k (r:=((((Sp.runs p k).length:Nat):Int) - (1:Int))) rfl rfl (nw (by omega) (by omega) (by omega)) ?_
     refine Qy (v:=(.int .i64 ((k:Nat):Int))) rfl ?_
     refine z14 (r:=((k+1:Nat):Int)) rfl rfl (nw (by omega) (by omega) (by omega)) ?_
     refine q0n (k:=((Sp.runs p k).length - 1)) (a':=⟨g1,((Sp.runs p k).length - 1)*2,none⟩) rfl rfl (by omega) (by omega) Tryz.underlying51 Tryz.sizeOf75 (by simp[Z5]) ?_
     refine z8t (a':=⟨g1,((Sp.runs p k).length - 1)*2+1,none⟩) rfl Tryz.underlying75 rfl Tryz.sizeOf3 rfl ?_
     refine w1r (xs':=((Sp.runs p k).set ((Sp.runs p k).length - 1) (x1.1,((k+1:Nat):Int))).flatMap q0l) (ms':=[vec (.slice (some ⟨g1,0,none⟩) (Sp.runs p k).length cp1) 75 2 ((Sp.runs p k).length) (((Sp.runs p k).set ((Sp.runs p k).length - 1) (x1.1,((k+1:Nat):Int))).flatMap q0l),O (k+1)]) (vs:=[(.int .i64 ((k+1:Nat):Int))]) (i:=0) hS2 rfl rfl rfl Tryz.sizeOf3 rfl (ones rfl) rfl (by omega) (w4e j2m hx1 rfl (Nat.le_of_ble_eq_true rfl)) rfl ?_
     intro w3 hS3
     refine wpList_nil ?_
     refine j49 ?_
     refine Qj ?_
     refine Gs ?_
     refine z14 (r:=((k+1:Nat):Int)) rfl rfl (nw (by omega) (by omega) (by omega)) ?_
     refine Qy (v:=(.int .i64 ((k+1:Nat):Int))) rfl ?_
     refine wpList_nil ?_
     refine Qj ?_
     have hE:=Sp.runs_ext ht2 hx1 ht3
     exact⟨_,_,rfl,⟨k+1,(.slice (some ⟨g1,0,none⟩) (Sp.runs p k).length cp1),_,rfl,(Q7 rfl (Q7 rfl (Q7 rfl rfl))),(by rw[hE];simpa using hS3),(rfl),(by omega)⟩,by omega⟩
    ·refine Gs ?_
     refine Qy (v:=(.slice (some ⟨g1,0,none⟩) (Sp.runs p k).length cp1)) rfl ?_
     refine Qy (v:=(.int .i64 ((k:Nat):Int))) rfl ?_
     refine Qy (v:=(.int .i64 ((k:Nat):Int))) rfl ?_
     refine z14 (r:=((k+1:Nat):Int)) rfl rfl (nw (by omega) (by omega) (by omega)) ?_
     refine w7m (v:=(.agg #[(.int .i64 ((k:Nat):Int)),(.int .i64 ((k+1:Nat):Int))])) (fun _=>by kernel_rfl) ?_
     refine q3c (cs:=[(.int .i64 ((k:Nat):Int)),(.int .i64 ((k+1:Nat):Int))]) (e:=75) hS2 (fun _=>by kernel_rfl) ?_
     intro b1 w4 hS4
     refine j7a (Ms:=fun v1=>[blk b1 75 [(.int .i64 ((k:Nat):Int)),(.int .i64 ((k+1:Nat):Int))],vec v1 75 2 ((Sp.runs p k).length+1) ((Sp.runs p k++[(((k:Nat):Int),((k+1:Nat):Int))]).flatMap q0l),O (k+1)]) (xs':=(Sp.runs p k++[(((k:Nat):Int),((k+1:Nat):Int))]).flatMap q0l) Tryz.underlying51 Tryz.type75 rfl rfl (bytes:=16) rfl rfl (Nat.succ_pos _) hS4 rfl (q:=1) rfl rfl rfl (q2j (hS4.get (i:=0) rfl)) (ones rfl) (by omega) (by unfold maxLen;omega) (j87 _ (((k:Nat):Int),((k+1:Nat):Int))) (fun _=>rfl) ?_
     intro v1 w5 ho2 hS5
     have hS6:=hS5.drop 0 (ms':=[vec v1 75 2 ((Sp.runs p k).length+1) ((Sp.runs p k++[(((k:Nat):Int),((k+1:Nat):Int))]).flatMap q0l),O (k+1)]) rfl
     refine Q0 (v:=v1) rfl ?_
     refine wpList_nil ?_
     refine j49 ?_
     refine Qj ?_
     refine Gs ?_
     refine z14 (r:=((k+1:Nat):Int)) rfl rfl (nw (by omega) (by omega) (by omega)) ?_
     refine Qy (v:=(.int .i64 ((k+1:Nat):Int))) rfl ?_
     refine wpList_nil ?_
     refine Qj ?_
     have hE:=Sp.runs_new ht2 (fun s hs=>by rw[hx1] at hs;cases hs;exact ht3)
     exact⟨_,_,rfl,⟨k+1,v1,_,rfl,(Q7 rfl (Q7 rfl (Q7 rfl rfl))),(by rw[hE];simpa using hS6),(ho2),(by omega)⟩,by omega⟩
   ·refine Qy (v:=(.bool false)) (congrArg Value.bool (decide_eq_false hb1)) ?_
    refine z13 rfl rfl ?_
    refine z13 rfl rfl ?_
    refine z13 rfl rfl ?_
    refine z13 rfl rfl ?_
    refine z13 rfl rfl ?_
    refine z13 rfl rfl ?_
    refine z13 rfl rfl ?_
    refine z13 rfl rfl ?_
    refine j13 (v:=(.bool false)) rfl rfl ?_
    refine wpList_nil ?_
    refine Qj ?_
    refine if_f rfl ?_
    refine Gs ?_
    refine Qy (v:=v) rfl ?_
    refine Qy (v:=(.int .i64 ((k:Nat):Int))) rfl ?_
    refine Qy (v:=(.int .i64 ((k:Nat):Int))) rfl ?_
    refine z14 (r:=((k+1:Nat):Int)) rfl rfl (nw (by omega) (by omega) (by omega)) ?_
    refine w7m (v:=(.agg #[(.int .i64 ((k:Nat):Int)),(.int .i64 ((k+1:Nat):Int))])) (fun _=>by kernel_rfl) ?_
    refine q3c (cs:=[(.int .i64 ((k:Nat):Int)),(.int .i64 ((k+1:Nat):Int))]) (e:=75) hS2 (fun _=>by kernel_rfl) ?_
    intro b2 w6 hS7
    refine j7a (Ms:=fun v2=>[blk b2 75 [(.int .i64 ((k:Nat):Int)),(.int .i64 ((k+1:Nat):Int))],vec v2 75 2 ((Sp.runs p k).length+1) ((Sp.runs p k++[(((k:Nat):Int),((k+1:Nat):Int))]).flatMap q0l),O (k+1)]) (xs':=(Sp.runs p k++[(((k:Nat):Int),((k+1:Nat):Int))]).flatMap q0l) Tryz.underlying51 Tryz.type75 rfl rfl (bytes:=16) rfl rfl (Nat.succ_pos _) hS7 rfl (q:=1) rfl rfl rfl (q2j (hS7.get (i:=0) rfl)) (ones rfl) (by omega) (by unfold maxLen;omega) (j87 _ (((k:Nat):Int),((k+1:Nat):Int))) (fun _=>rfl) ?_
    intro v2 w7 ho3 hS8
    have hS9:=hS8.drop 0 (ms':=[vec v2 75 2 ((Sp.runs p k).length+1) ((Sp.runs p k++[(((k:Nat):Int),((k+1:Nat):Int))]).flatMap q0l),O (k+1)]) rfl
    refine Q0 (v:=v2) rfl ?_
    refine wpList_nil ?_
    refine j49 ?_
    refine Qj ?_
    refine Gs ?_
    refine z14 (r:=((k+1:Nat):Int)) rfl rfl (nw (by omega) (by omega) (by omega)) ?_
    refine Qy (v:=(.int .i64 ((k+1:Nat):Int))) rfl ?_
    refine wpList_nil ?_
    refine Qj ?_
    have hE:=Sp.runs_new ht2 (fun s hs=>by have:=Qe hs;omega)
    exact⟨_,_,rfl,⟨k+1,v2,_,rfl,(Q7 rfl (Q7 rfl (Q7 rfl rfl))),(by rw[hE];simpa using hS9),(ho3),(by omega)⟩,by omega⟩
 ·refine wp_exit ?_
  refine q85 ?_
  refine q85 ?_
  refine z5s ?_
  refine Qj ?_
  refine Qp ?_
  refine Qy (v:=v) rfl ?_
  refine Q0 (v:=v) rfl ?_
  refine wpList_nil ?_
  refine Qj ?_
  refine wp_ret ?_
  refine ret1 rfl (show ev _ _ _=v from rfl) ?_
  obtain rfl:k=10000:=by omega
  obtain⟨σ1,hS10,hsub1,hfr1⟩:=hS1.freezeM (i:=0) (j:=1) rfl rfl (by decide) (by show (O 0).foot.toList=_;rw[hfo,hfo]) rfl
  have hb:=Sp.runs_len p 10000
  have hd:=hS10.done
  rw[show (O 0).foot=bo from hfo 0] at hd
  exact⟨v,σ1,rfl,hd,RSl.ofVecEnc j2m (hS1.get (i:=0) rfl) hfr1 rfl (by omega),hS10.get (i:=0) rfl,fun k hk=>hS10.off (O 10000) (List.mem_singleton.2 rfl) k ((hfo _).trans hk)⟩
end Go.Proofs.YtflilmgifibgoaaGreatDoor
end
noncomputable section
set_option maxRecDepth 100000
namespace Go.Proofs.YtflilmgifibgoaaGreatDoor
open Go Go.Proofs Go.RowKit Go.Fl
theorem v2y{σ:Hv}{w:World}{bp:Nat}(p:Nat->Bool)(k:Nat)(hV:View σ w)(hp:VRow σ ⟨bp,0,none⟩ (brow 10000 p))(hk:k<10000):
  Calls Tryz.prog 145 #[(.int .i64 ((k:Nat):Int)),(.pointer (some ⟨bp,0,none⟩))] w fun e w1=>e= .returned (.bool (p k))/\Grow [] σ w σ w1:=by
 refine enter Tryz.func145 rfl rfl rfl ?_
 have _hk:=hk
 have hS:=St.start hV
 refine Qp ?_
 refine Q0 (v:=(.bool false)) rfl ?_
 refine wpList_nil ?_
 refine Qj ?_
 refine Qp ?_
 refine Qy (v:=(.int .i64 ((k:Nat):Int))) rfl ?_
 refine Wi (k:=k) (a':=⟨bp,k,none⟩) rfl rfl (by omega) (by omega) Tryz.underlying129 Tryz.sizeOf4 (by simp[Z5]) ?_
 refine q4v (v:=(.bool (p k))) rfl Tryz.isAgg4 (hp.cell hS.view k (q8d (by omega)) (w1u _ _)) ?_
 refine Q0 (v:=(.bool (p k))) rfl ?_
 refine wpList_nil ?_
 refine Qj ?_
 refine wp_ret ?_
 refine ret1 rfl (show ev _ _ _=(.bool (p k)) from rfl) ?_
 exact⟨by simp[*],hS.done⟩
theorem w9t{σ:Hv}{w:World}{bp:Nat}{bq:Nat}(p:Nat->Bool)(q:Nat->Bool)(k:Nat)(hV:View σ w)(hp:VRow σ ⟨bp,0,none⟩ (brow 10000 p))(hq:VRow σ ⟨bq,0,none⟩ (brow 10000 q))(hk:k<10000):
  Calls Tryz.prog 80 #[(.int .i64 ((k:Nat):Int)),(.pointer (some ⟨bp,0,none⟩)),(.pointer (some ⟨bq,0,none⟩))] w fun e w1=>e= .returned (.bool (p k && q k))/\Grow [] σ w σ w1:=by
 refine enter Tryz.func80 rfl rfl rfl ?_
 have _hk:=hk
 have hS:=St.start hV
 refine Qp ?_
 refine Q0 (v:=(.bool false)) rfl ?_
 refine wpList_nil ?_
 refine Qj ?_
 refine Qp ?_
 refine Qy (v:=(.int .i64 ((k:Nat):Int))) rfl ?_
 refine Wi (k:=k) (a':=⟨bp,k,none⟩) rfl rfl (by omega) (by omega) Tryz.underlying129 Tryz.sizeOf4 (by simp[Z5]) ?_
 refine q4v (v:=(.bool (p k))) rfl Tryz.isAgg4 (hp.cell hS.view k (q8d (by omega)) (w1u _ _)) ?_
 rcases Bool.eq_false_or_eq_true (p k) with hb1|hb1
 ·refine Qy (v:=(.bool true)) (congrArg Value.bool hb1) ?_
  refine o_on rfl rfl ?_
  refine Qy (v:=(.int .i64 ((k:Nat):Int))) rfl ?_
  refine o_on rfl rfl ?_
  refine Wi (k:=k) (a':=⟨bq,k,none⟩) rfl rfl (by omega) (by omega) Tryz.underlying129 Tryz.sizeOf4 (by simp[Z5]) ?_
  refine o_on rfl rfl ?_
  refine q4v (v:=(.bool (q k))) rfl Tryz.isAgg4 (hq.cell hS.view k (q8d (by omega)) (w1u _ _)) ?_
  refine j12 (v:=(.bool (q k))) rfl rfl ?_
  refine Q0 (v:=(.bool (q k))) rfl ?_
  refine wpList_nil ?_
  refine Qj ?_
  refine wp_ret ?_
  refine ret1 rfl (show ev _ _ _=(.bool (q k)) from rfl) ?_
  exact⟨by simp[*],hS.done⟩
 ·refine Qy (v:=(.bool false)) (congrArg Value.bool hb1) ?_
  refine z13 rfl rfl ?_
  refine z13 rfl rfl ?_
  refine z13 rfl rfl ?_
  refine j13 (v:=(.bool false)) rfl rfl ?_
  refine Q0 (v:=(.bool false)) rfl ?_
  refine wpList_nil ?_
  refine Qj ?_
  refine wp_ret ?_
  refine ret1 rfl (show ev _ _ _=(.bool false) from rfl) ?_
  exact⟨by simp[*],hS.done⟩
theorem v2z{σ:Hv}{w:World}{bp:Nat}{bq:Nat}(p:Nat->Bool)(q:Nat->Bool)(k:Nat)(hV:View σ w)(hp:VRow σ ⟨bp,0,none⟩ (brow 10000 p))(hq:VRow σ ⟨bq,0,none⟩ (brow 10000 q))(hk:k<10000):
  Calls Tryz.prog 144 #[(.int .i64 ((k:Nat):Int)),(.pointer (some ⟨bp,0,none⟩)),(.pointer (some ⟨bq,0,none⟩))] w fun e w1=>e= .returned (.bool (p k && !q k))/\Grow [] σ w σ w1:=by
 refine enter Tryz.func144 rfl rfl rfl ?_
 have _hk:=hk
 have hS:=St.start hV
 refine Qp ?_
 refine Q0 (v:=(.bool false)) rfl ?_
 refine wpList_nil ?_
 refine Qj ?_
 refine Qp ?_
 refine Qy (v:=(.int .i64 ((k:Nat):Int))) rfl ?_
 refine Wi (k:=k) (a':=⟨bp,k,none⟩) rfl rfl (by omega) (by omega) Tryz.underlying129 Tryz.sizeOf4 (by simp[Z5]) ?_
 refine q4v (v:=(.bool (p k))) rfl Tryz.isAgg4 (hp.cell hS.view k (q8d (by omega)) (w1u _ _)) ?_
 rcases Bool.eq_false_or_eq_true (p k) with hb1|hb1
 ·refine Qy (v:=(.bool true)) (congrArg Value.bool hb1) ?_
  refine o_on rfl rfl ?_
  refine Qy (v:=(.int .i64 ((k:Nat):Int))) rfl ?_
  refine o_on rfl rfl ?_
  refine Wi (k:=k) (a':=⟨bq,k,none⟩) rfl rfl (by omega) (by omega) Tryz.underlying129 Tryz.sizeOf4 (by simp[Z5]) ?_
  refine o_on rfl rfl ?_
  refine q4v (v:=(.bool (q k))) rfl Tryz.isAgg4 (hq.cell hS.view k (q8d (by omega)) (w1u _ _)) ?_
  refine o_on rfl rfl ?_
  refine v41 (r:=(!q k)) rfl rfl ?_
  refine j12 (v:=(.bool (!q k))) rfl rfl ?_
  refine Q0 (v:=(.bool (!q k))) rfl ?_
  refine wpList_nil ?_
  refine Qj ?_
  refine wp_ret ?_
  refine ret1 rfl (show ev _ _ _=(.bool (!q k)) from rfl) ?_
  exact⟨by simp[*],hS.done⟩
 ·refine Qy (v:=(.bool false)) (congrArg Value.bool hb1) ?_
  refine z13 rfl rfl ?_
  refine z13 rfl rfl ?_
  refine z13 rfl rfl ?_
  refine z13 rfl rfl ?_
  refine j13 (v:=(.bool false)) rfl rfl ?_
  refine Q0 (v:=(.bool false)) rfl ?_
  refine wpList_nil ?_
  refine Qj ?_
  refine wp_ret ?_
  refine ret1 rfl (show ev _ _ _=(.bool false) from rfl) ?_
  exact⟨by simp[*],hS.done⟩
theorem y08{c:Cx}{w w1:World}{σ σ1:Hv}{o o':HObj}(h:St c w σ [o]){b:Nat}(hf:o.foot=some b)(hf':o'.foot=some b)(g:Grow [b] σ w σ1 w1)(ho:o'.ok w1)(hn:σ1 b=none):St c w1 σ1 [o']:=by
 have e:feet [o]=[b]:=by simp[feet,hf]
 refine St.callM (ins:=[o]) (outs:=[o']) (rest:=[]) h ⟨by rw[e];exact g.keeps,g.view,g.sub,by rw[e];exact g.fresh,by simpa using ho,by simp,?_,?_⟩ rfl
 ·intro q hq k hk
  rw[List.mem_singleton.1 hq,hf'] at hk
  cases hk;exact hn
 ·intro q hq k hk
  rw[List.mem_singleton.1 hq,hf'] at hk
  cases hk;left;rw[e];simp
theorem v20{σ:Hv}{w:World}{bp bn:Nat}(p:Nat->Bool)(n:Int)(k:Nat)(hV:View σ w)(hp:VRow σ ⟨bp,0,none⟩ (brow 10000 p))(ho:(blk bn 3 [.int .i64 (Sp.leftN p n k)]).ok w)(hσ:σ bn=none)(hk:k<10000)(hn: -9223372036854775808<=n)(hn2:n<=9223372036854775807):
  Calls Tryz.prog 146 #[(.int .i64 ((k:Nat):Int)),(.pointer (some ⟨bp,0,none⟩)),(.pointer (some ⟨bn,0,none⟩))] w fun e w1=>e= .returned (.bool (Sp.firstP p n k))/\Grow [bn] σ w σ w1/\(blk bn 3 [.int .i64 (Sp.leftN p n (k+1))]).ok w1:=by
 have hl:=Sp.leftN_le p n k
 refine enter Tryz.func146 rfl rfl rfl ?_
 have _hk:=hk
 have hS:=St.start1 hV ho rfl hσ
 refine Qp ?_
 refine Q0 (v:=(.bool false)) rfl ?_
 refine wpList_nil ?_
 refine Qj ?_
 refine wp_seq ?_
 refine Qp ?_
 refine Qy (v:=(.int .i64 ((k:Nat):Int))) rfl ?_
 refine Wi (k:=k) (a':=⟨bp,k,none⟩) rfl rfl (by omega) (by omega) Tryz.underlying129 Tryz.sizeOf4 (by simp[Z5]) ?_
 refine q4v (v:=(.bool (p k))) rfl Tryz.isAgg4 (hp.cell hS.view k (q8d (by omega)) (w1u _ _)) ?_
 refine v41 (r:=(!p k)) rfl rfl ?_
 rcases Bool.eq_false_or_eq_true (p k) with hb1|hb1
 ·refine Qy (v:=(.bool false)) (congrArg Value.bool (congrArg Bool.not hb1)) ?_
  refine o_on rfl rfl ?_
  refine q4v (v:=(.int .i64 (Sp.leftN p n k))) rfl Tryz.isAgg3 (hS.cell (i:=0) rfl rfl) ?_
  refine o_on rfl rfl ?_
  refine v98 (r:=(decide ((Sp.leftN p n k)<=(0:Int)))) rfl rfl rfl ?_
  refine j13 (v:=(.bool (decide ((Sp.leftN p n k)<=(0:Int))))) rfl rfl ?_
  refine wpList_nil ?_
  refine Qj ?_
  refine if_d ((Sp.leftN p n k)<=(0:Int)) rfl (fun ht1=> ?_) (fun ht1=> ?_)
  ·refine Qp ?_
   refine Q0 (v:=(.bool false)) rfl ?_
   refine wpList_nil ?_
   refine Qj ?_
   refine wp_ret ?_
   refine v35 ?_
   refine ret1 rfl (show ev _ _ _=(.bool false) from rfl) ?_
   have hg:=hS.get (i:=0) rfl
   refine⟨?_,hS.done,?_⟩
   ·first|(simp[*,Sp.firstP];done)|(simp[*,Sp.firstP];omega)
   rw[Sp.leftN]
   by_cases hq:p k=true/\0<Sp.leftN p n k
   ·rw[if_pos hq];first|exact hg|(exfalso;have h1:=hq.1;have h2:=hq.2;first|omega|simp_all)
   ·rw[if_neg hq];first|exact hg|(exfalso;exact hq ⟨by assumption,by omega⟩)
  ·refine wp_skip ?_
   refine Qj ?_
   refine Qp ?_
   refine q4v (v:=(.int .i64 (Sp.leftN p n k))) rfl Tryz.isAgg3 (hS.cell (i:=0) rfl rfl) ?_
   refine v1k (r:=((Sp.leftN p n k) - (1:Int))) rfl rfl (nw (by omega) (by omega) (by omega)) ?_
   refine Bt (T:=3) (vs:=[(.int .i64 ((Sp.leftN p n k) - (1:Int)))]) (cs':=[(.int .i64 ((Sp.leftN p n k) - (1:Int)))]) (ms':=[blk bn 3 [(.int .i64 ((Sp.leftN p n k) - (1:Int)))]]) (i:=0) hS rfl rfl rfl Tryz.sizeOf3 rfl (ones rfl) rfl (Nat.le_of_ble_eq_true rfl) rfl rfl ?_
   intro w1 hS1
   refine wpList_nil ?_
   refine Qj ?_
   refine Qp ?_
   refine Q0 (v:=(.bool true)) rfl ?_
   refine wpList_nil ?_
   refine Qj ?_
   refine wp_ret ?_
   refine ret1 rfl (show ev _ _ _=(.bool true) from rfl) ?_
   have hg:=hS1.get (i:=0) rfl
   refine⟨?_,hS1.done,?_⟩
   ·first|(simp[*,Sp.firstP];done)|(simp[*,Sp.firstP];omega)
   rw[Sp.leftN]
   by_cases hq:p k=true/\0<Sp.leftN p n k
   ·rw[if_pos hq];first|exact hg|(exfalso;have h1:=hq.1;have h2:=hq.2;first|omega|simp_all)
   ·rw[if_neg hq];first|exact hg|(exfalso;exact hq ⟨by assumption,by omega⟩)
 ·refine Qy (v:=(.bool true)) (congrArg Value.bool (congrArg Bool.not hb1)) ?_
  refine z13 rfl rfl ?_
  refine z13 rfl rfl ?_
  refine j12 (v:=(.bool true)) rfl rfl ?_
  refine wpList_nil ?_
  refine Qj ?_
  refine if_t rfl ?_
  refine Qp ?_
  refine Q0 (v:=(.bool false)) rfl ?_
  refine wpList_nil ?_
  refine Qj ?_
  refine wp_ret ?_
  refine v35 ?_
  refine ret1 rfl (show ev _ _ _=(.bool false) from rfl) ?_
  have hg:=hS.get (i:=0) rfl
  refine⟨?_,hS.done,?_⟩
  ·first|(simp[*,Sp.firstP];done)|(simp[*,Sp.firstP];omega)
  rw[Sp.leftN]
  by_cases hq:p k=true/\0<Sp.leftN p n k
  ·rw[if_pos hq];first|exact hg|(exfalso;have h1:=hq.1;have h2:=hq.2;first|omega|simp_all)
  ·rw[if_neg hq];first|exact hg|(exfalso;exact hq ⟨by assumption,by omega⟩)
theorem c_Union{σ:Hv}{w:World}(a:Value)(b:Value)(la:List (Int×Int))(lb:List (Int×Int))(hV:View σ w)(ha:RSl 2 (REnc q0l) σ a la)(hb:RSl 2 (REnc q0l) σ b lb):
  Calls Tryz.prog 81 #[a,b] w fun e w1=> ∃(v:Value) (σ1:Hv),e= .returned v/\Grow [] σ w σ1 w1/\RSl 2 (REnc q0l) σ1 v (Sp.runs (fun i=>Sp.cov la i||Sp.cov lb i) 10000):=by
 refine enter Tryz.func81 rfl rfl rfl ?_
 have hS:=St.start hV
 obtain⟨xa,ca,ea⟩:=ha.shape
 subst ea
 obtain⟨xb,cb,eb⟩:=hb.shape
 subst eb
 refine Qp ?_
 refine Q0 (v:=(.slice none 0 0)) rfl ?_
 refine wpList_nil ?_
 refine Qj ?_
 refine Qp ?_
 refine Qy (v:=(.slice xa la.length ca)) rfl ?_
 refine Qy (v:=(.slice xb lb.length cb)) rfl ?_
 refine q3c (cs:=[(.slice xa la.length ca),(.slice xb lb.length cb)]) (e:=51) hS (fun _=>by kernel_rfl) ?_
 intro b1 w1 hS1
 obtain⟨σ1,hS2,hsub1,hfr1⟩:=hS1.freeze (i:=0) rfl rfl rfl
 have hvr1:=Hy (hS1.get (i:=0) rfl) hfr1
 refine q84 (args:=[(.slice (some ⟨b1,0,none⟩) 2 2)]) rfl Tryz.call78 (Calls.mono (c_of _ [la,lb] hS2.view (rsl2 (size:=1) (cs:=[_]) (ds:=[_]) hvr1 rfl rfl ⟨_,rfl,(RSl.menc hsub1 ha)⟩ ⟨_,rfl,(RSl.menc hsub1 hb)⟩) (by have:=(RSl.len (RSl.menc hsub1 ha));have:=(RSl.len (RSl.menc hsub1 hb));simp;omega)) ?_)
 rintro _ w2 ⟨rfl,hg1⟩
 refine⟨_,rfl,?_⟩
 have hS3:=hS2.grow hg1
 refine q4e (cs:=brow 10000 (fun i=>false)) hS3 (q4y Tryz.type129 (q3d j88 j99) (by omega)) (by simp[Value.cells,q3z]) ?_
 intro b2 w3 hS4
 refine Bt (T:=129) (vs:=brow 10000 (Sp.cov [la,lb].flatten)) (cs':=brow 10000 (Sp.cov [la,lb].flatten)) (ms':=[blk b2 129 (brow 10000 (Sp.cov [la,lb].flatten))]) (i:=0) hS4 rfl rfl (q5x _) Tryz.sizeOf129 (Zt _ _) (q5y _ _) rfl (by simp[Zt]) (q0b (by simp[Zt])) rfl ?_
 intro w4 hS5
 refine wpList_nil ?_
 refine Qj ?_
 refine Qp ?_
 refine z3r (la:=[]) (lb:=[(.pointer (some ⟨b2,0,none⟩))]) rfl rfl ?_
 obtain⟨σ2,hS6,hsub2,hfr2⟩:=hS5.freeze (i:=0) rfl rfl rfl
 have hvr2:=Hy (hS5.get (i:=0) rfl) hfr2
 refine q84 (args:=[(.func (.func 145) #[] #[(.pointer (some ⟨b2,0,none⟩))])]) rfl Tryz.call79 (Calls.mono (j7z 145 [(.pointer (some ⟨b2,0,none⟩))] (Sp.cov [la,lb].flatten) (fun _=>v42) none (fun _=>rfl) Tryz.call145 (fun k w1 hk hV1 _=>(v2y _ k hV1 hvr2 hk).mono (fun e w2 h=>⟨h.1,h.2,trivial⟩)) hS6.view trivial (by rintro k ⟨⟩)) ?_)
 rintro _ w5 ⟨v1,σ3,rfl,hg2,hrd1,_⟩
 refine⟨_,rfl,?_⟩
 have hS7:=hS6.grow hg2
 refine Q0 (v:=v1) rfl ?_
 refine wpList_nil ?_
 refine Qj ?_
 refine wp_ret ?_
 refine ret1 rfl (show ev _ _ _=v1 from rfl) ?_
 have hE:Sp.runs (fun i=>Sp.cov la i||Sp.cov lb i) 10000=(Sp.runs (Sp.cov [la,lb].flatten) 10000):=Sp.runs_congr (fun i hi=>(Sp.cov_two la lb i).symm)
 exact⟨v1,σ3,rfl,hS7.done,by rw[hE];exact hrd1⟩
theorem c_Common{σ:Hv}{w:World}(a:Value)(b:Value)(la:List (Int×Int))(lb:List (Int×Int))(hV:View σ w)(ha:RSl 2 (REnc q0l) σ a la)(hb:RSl 2 (REnc q0l) σ b lb):
  Calls Tryz.prog 22 #[a,b] w fun e w1=> ∃(v:Value) (σ1:Hv),e= .returned v/\Grow [] σ w σ1 w1/\RSl 2 (REnc q0l) σ1 v (Sp.runs (fun i=>Sp.cov la i && Sp.cov lb i) 10000):=by
 refine enter Tryz.func22 rfl rfl rfl ?_
 have hS:=St.start hV
 obtain⟨xa,ca,ea⟩:=ha.shape
 subst ea
 obtain⟨xb,cb,eb⟩:=hb.shape
 subst eb
 refine Qp ?_
 refine Q0 (v:=(.slice none 0 0)) rfl ?_
 refine wpList_nil ?_
 refine Qj ?_
 refine Qp ?_
 refine Qy (v:=(.slice xa la.length ca)) rfl ?_
 refine q3c (cs:=[(.slice xa la.length ca)]) (e:=51) hS (fun _=>by kernel_rfl) ?_
 intro b1 w1 hS1
 obtain⟨σ1,hS2,hsub1,hfr1⟩:=hS1.freeze (i:=0) rfl rfl rfl
 have hvr1:=Hy (hS1.get (i:=0) rfl) hfr1
 refine q84 (args:=[(.slice (some ⟨b1,0,none⟩) 1 1)]) rfl Tryz.call78 (Calls.mono (c_of _ [la] hS2.view (rsl1 (size:=1) hvr1 rfl ⟨_,rfl,(RSl.menc hsub1 ha)⟩) (by have:=(RSl.len (RSl.menc hsub1 ha));simp;omega)) ?_)
 rintro _ w2 ⟨rfl,hg1⟩
 refine⟨_,rfl,?_⟩
 have hS3:=hS2.grow hg1
 refine Qy (v:=(.slice xb lb.length cb)) rfl ?_
 refine q3c (cs:=[(.slice xb lb.length cb)]) (e:=51) hS3 (fun _=>by kernel_rfl) ?_
 intro b2 w3 hS4
 obtain⟨σ2,hS5,hsub2,hfr2⟩:=hS4.freeze (i:=0) rfl rfl rfl
 have hvr2:=Hy (hS4.get (i:=0) rfl) hfr2
 refine q84 (args:=[(.slice (some ⟨b2,0,none⟩) 1 1)]) rfl Tryz.call78 (Calls.mono (c_of _ [lb] hS5.view (rsl1 (size:=1) hvr2 rfl ⟨_,rfl,(RSl.menc (Sub.trans hsub1 hsub2) hb)⟩) (by have:=(RSl.len (RSl.menc (Sub.trans hsub1 hsub2) hb));simp;omega)) ?_)
 rintro _ w4 ⟨rfl,hg2⟩
 refine⟨_,rfl,?_⟩
 have hS6:=hS5.grow hg2
 refine q4e (cs:=brow 10000 (fun i=>false)) hS6 (q4y Tryz.type129 (q3d j88 j99) (by omega)) (by simp[Value.cells,q3z]) ?_
 intro b3 w5 hS7
 refine q4e (cs:=brow 10000 (fun i=>false)) hS7 (q4y Tryz.type129 (q3d j88 j99) (by omega)) (by simp[Value.cells,q3z]) ?_
 intro b4 w6 hS8
 refine Bt (T:=129) (vs:=brow 10000 (Sp.cov [la].flatten)) (cs':=brow 10000 (Sp.cov [la].flatten)) (ms':=[blk b4 129 (brow 10000 (fun i=>false)),blk b3 129 (brow 10000 (Sp.cov [la].flatten))]) (i:=1) hS8 rfl rfl (q5x _) Tryz.sizeOf129 (Zt _ _) (q5y _ _) rfl (by simp[Zt]) (q0b (by simp[Zt])) rfl ?_
 intro w7 hS9
 refine Bt (T:=129) (vs:=brow 10000 (Sp.cov [lb].flatten)) (cs':=brow 10000 (Sp.cov [lb].flatten)) (ms':=[blk b4 129 (brow 10000 (Sp.cov [lb].flatten)),blk b3 129 (brow 10000 (Sp.cov [la].flatten))]) (i:=0) hS9 rfl rfl (q5x _) Tryz.sizeOf129 (Zt _ _) (q5y _ _) rfl (by simp[Zt]) (q0b (by simp[Zt])) rfl ?_
 intro w8 hS10
 refine wpList_nil ?_
 refine Qj ?_
 refine Qp ?_
 refine z3r (la:=[]) (lb:=[(.pointer (some ⟨b3,0,none⟩)),(.pointer (some ⟨b4,0,none⟩))]) rfl rfl ?_
 obtain⟨σ3,hS11,hsub3,hfr3⟩:=hS10.freeze (i:=1) rfl rfl rfl
 have hvr3:=Hy (hS10.get (i:=1) rfl) hfr3
 obtain⟨σ4,hS12,hsub4,hfr4⟩:=hS11.freeze (i:=0) rfl rfl rfl
 have hvr4:=Hy (hS11.get (i:=0) rfl) hfr4
 refine q84 (args:=[(.func (.func 80) #[] #[(.pointer (some ⟨b3,0,none⟩)),(.pointer (some ⟨b4,0,none⟩))])]) rfl Tryz.call79 (Calls.mono (j7z 80 [(.pointer (some ⟨b3,0,none⟩)),(.pointer (some ⟨b4,0,none⟩))] (fun i=>Sp.cov [la].flatten i && Sp.cov [lb].flatten i) (fun _=>v42) none (fun _=>rfl) Tryz.call80 (fun k w1 hk hV1 _=>(w9t _ _ k hV1 (hvr3.mono hsub4) hvr4 hk).mono (fun e w2 h=>⟨h.1,h.2,trivial⟩)) hS12.view trivial (by rintro k ⟨⟩)) ?_)
 rintro _ w9 ⟨v1,σ5,rfl,hg3,hrd1,_⟩
 refine⟨_,rfl,?_⟩
 have hS13:=hS12.grow hg3
 refine Q0 (v:=v1) rfl ?_
 refine wpList_nil ?_
 refine Qj ?_
 refine wp_ret ?_
 refine ret1 rfl (show ev _ _ _=v1 from rfl) ?_
 have hE:Sp.runs (fun i=>Sp.cov la i && Sp.cov lb i) 10000=(Sp.runs (fun i=>Sp.cov [la].flatten i && Sp.cov [lb].flatten i) 10000):=Sp.runs_congr (fun i hi=>by rw[←Sp.cov_one la,←Sp.cov_one lb])
 exact⟨v1,σ5,rfl,hS13.done,by rw[hE];exact hrd1⟩
theorem c_Minus{σ:Hv}{w:World}(a:Value)(b:Value)(la:List (Int×Int))(lb:List (Int×Int))(hV:View σ w)(ha:RSl 2 (REnc q0l) σ a la)(hb:RSl 2 (REnc q0l) σ b lb):
  Calls Tryz.prog 76 #[a,b] w fun e w1=> ∃(v:Value) (σ1:Hv),e= .returned v/\Grow [] σ w σ1 w1/\RSl 2 (REnc q0l) σ1 v (Sp.runs (fun i=>Sp.cov la i && !Sp.cov lb i) 10000):=by
 refine enter Tryz.func76 rfl rfl rfl ?_
 have hS:=St.start hV
 obtain⟨xa,ca,ea⟩:=ha.shape
 subst ea
 obtain⟨xb,cb,eb⟩:=hb.shape
 subst eb
 refine Qp ?_
 refine Q0 (v:=(.slice none 0 0)) rfl ?_
 refine wpList_nil ?_
 refine Qj ?_
 refine Qp ?_
 refine Qy (v:=(.slice xa la.length ca)) rfl ?_
 refine q3c (cs:=[(.slice xa la.length ca)]) (e:=51) hS (fun _=>by kernel_rfl) ?_
 intro b1 w1 hS1
 obtain⟨σ1,hS2,hsub1,hfr1⟩:=hS1.freeze (i:=0) rfl rfl rfl
 have hvr1:=Hy (hS1.get (i:=0) rfl) hfr1
 refine q84 (args:=[(.slice (some ⟨b1,0,none⟩) 1 1)]) rfl Tryz.call78 (Calls.mono (c_of _ [la] hS2.view (rsl1 (size:=1) hvr1 rfl ⟨_,rfl,(RSl.menc hsub1 ha)⟩) (by have:=(RSl.len (RSl.menc hsub1 ha));simp;omega)) ?_)
 rintro _ w2 ⟨rfl,hg1⟩
 refine⟨_,rfl,?_⟩
 have hS3:=hS2.grow hg1
 refine Qy (v:=(.slice xb lb.length cb)) rfl ?_
 refine q3c (cs:=[(.slice xb lb.length cb)]) (e:=51) hS3 (fun _=>by kernel_rfl) ?_
 intro b2 w3 hS4
 obtain⟨σ2,hS5,hsub2,hfr2⟩:=hS4.freeze (i:=0) rfl rfl rfl
 have hvr2:=Hy (hS4.get (i:=0) rfl) hfr2
 refine q84 (args:=[(.slice (some ⟨b2,0,none⟩) 1 1)]) rfl Tryz.call78 (Calls.mono (c_of _ [lb] hS5.view (rsl1 (size:=1) hvr2 rfl ⟨_,rfl,(RSl.menc (Sub.trans hsub1 hsub2) hb)⟩) (by have:=(RSl.len (RSl.menc (Sub.trans hsub1 hsub2) hb));simp;omega)) ?_)
 rintro _ w4 ⟨rfl,hg2⟩
 refine⟨_,rfl,?_⟩
 have hS6:=hS5.grow hg2
 refine q4e (cs:=brow 10000 (fun i=>false)) hS6 (q4y Tryz.type129 (q3d j88 j99) (by omega)) (by simp[Value.cells,q3z]) ?_
 intro b3 w5 hS7
 refine q4e (cs:=brow 10000 (fun i=>false)) hS7 (q4y Tryz.type129 (q3d j88 j99) (by omega)) (by simp[Value.cells,q3z]) ?_
 intro b4 w6 hS8
 refine Bt (T:=129) (vs:=brow 10000 (Sp.cov [la].flatten)) (cs':=brow 10000 (Sp.cov [la].flatten)) (ms':=[blk b4 129 (brow 10000 (fun i=>false)),blk b3 129 (brow 10000 (Sp.cov [la].flatten))]) (i:=1) hS8 rfl rfl (q5x _) Tryz.sizeOf129 (Zt _ _) (q5y _ _) rfl (by simp[Zt]) (q0b (by simp[Zt])) rfl ?_
 intro w7 hS9
 refine Bt (T:=129) (vs:=brow 10000 (Sp.cov [lb].flatten)) (cs':=brow 10000 (Sp.cov [lb].flatten)) (ms':=[blk b4 129 (brow 10000 (Sp.cov [lb].flatten)),blk b3 129 (brow 10000 (Sp.cov [la].flatten))]) (i:=0) hS9 rfl rfl (q5x _) Tryz.sizeOf129 (Zt _ _) (q5y _ _) rfl (by simp[Zt]) (q0b (by simp[Zt])) rfl ?_
 intro w8 hS10
 refine wpList_nil ?_
 refine Qj ?_
 refine Qp ?_
 refine z3r (la:=[]) (lb:=[(.pointer (some ⟨b3,0,none⟩)),(.pointer (some ⟨b4,0,none⟩))]) rfl rfl ?_
 obtain⟨σ3,hS11,hsub3,hfr3⟩:=hS10.freeze (i:=1) rfl rfl rfl
 have hvr3:=Hy (hS10.get (i:=1) rfl) hfr3
 obtain⟨σ4,hS12,hsub4,hfr4⟩:=hS11.freeze (i:=0) rfl rfl rfl
 have hvr4:=Hy (hS11.get (i:=0) rfl) hfr4
 refine q84 (args:=[(.func (.func 144) #[] #[(.pointer (some ⟨b3,0,none⟩)),(.pointer (some ⟨b4,0,none⟩))])]) rfl Tryz.call79 (Calls.mono (j7z 144 [(.pointer (some ⟨b3,0,none⟩)),(.pointer (some ⟨b4,0,none⟩))] (fun i=>Sp.cov [la].flatten i && !Sp.cov [lb].flatten i) (fun _=>v42) none (fun _=>rfl) Tryz.call144 (fun k w1 hk hV1 _=>(v2z _ _ k hV1 (hvr3.mono hsub4) hvr4 hk).mono (fun e w2 h=>⟨h.1,h.2,trivial⟩)) hS12.view trivial (by rintro k ⟨⟩)) ?_)
 rintro _ w9 ⟨v1,σ5,rfl,hg3,hrd1,_⟩
 refine⟨_,rfl,?_⟩
 have hS13:=hS12.grow hg3
 refine Q0 (v:=v1) rfl ?_
 refine wpList_nil ?_
 refine Qj ?_
 refine wp_ret ?_
 refine ret1 rfl (show ev _ _ _=v1 from rfl) ?_
 have hE:Sp.runs (fun i=>Sp.cov la i && !Sp.cov lb i) 10000=(Sp.runs (fun i=>Sp.cov [la].flatten i && !Sp.cov [lb].flatten i) 10000):=Sp.runs_congr (fun i hi=>by rw[←Sp.cov_one la,←Sp.cov_one lb])
 exact⟨v1,σ5,rfl,hS13.done,by rw[hE];exact hrd1⟩
theorem c_Normal{σ:Hv}{w:World}(a:Value)(la:List (Int×Int))(hV:View σ w)(ha:RSl 2 (REnc q0l) σ a la):
  Calls Tryz.prog 36 #[a] w fun e w1=> ∃(v:Value) (σ1:Hv),e= .returned v/\Grow [] σ w σ1 w1/\RSl 2 (REnc q0l) σ1 v (Sp.runs (Sp.cov la) 10000):=by
 refine enter Tryz.func36 rfl rfl rfl ?_
 have hS:=St.start hV
 obtain⟨xa,ca,ea⟩:=ha.shape
 subst ea
 refine Qp ?_
 refine Q0 (v:=(.slice none 0 0)) rfl ?_
 refine wpList_nil ?_
 refine Qj ?_
 refine Qp ?_
 refine Qy (v:=(.slice xa la.length ca)) rfl ?_
 refine q84 (args:=[(.slice xa la.length ca),(.slice none 0 0)]) rfl Tryz.call81 (Calls.mono (c_Union _ _ la [] hS.view ha RSl.nil) ?_)
 rintro _ w1 ⟨v1,σ1,rfl,hg1,hrd1⟩
 refine⟨_,rfl,?_⟩
 have hS1:=hS.grow hg1
 obtain⟨xa1,ca1,he1⟩:=hrd1.shape
 subst he1
 refine Q0 (v:=(.slice xa1 ((Sp.runs (fun i=>Sp.cov la i||Sp.cov [] i) 10000)).length ca1)) rfl ?_
 refine wpList_nil ?_
 refine Qj ?_
 refine wp_ret ?_
 refine ret1 rfl (show ev _ _ _=(.slice xa1 ((Sp.runs (fun i=>Sp.cov la i||Sp.cov [] i) 10000)).length ca1) from rfl) ?_
 have hE:Sp.runs (Sp.cov la) 10000=(Sp.runs (fun i=>Sp.cov la i||Sp.cov [] i) 10000):=Sp.runs_congr (fun i hi=>by rw[Sp.cov_nil,Bool.or_false])
 exact⟨(.slice xa1 ((Sp.runs (fun i=>Sp.cov la i||Sp.cov [] i) 10000)).length ca1),σ1,rfl,hS1.done,by rw[hE];exact hrd1⟩
theorem c_Size{σ:Hv}{w:World}(a:Value)(la:List (Int×Int))(hV:View σ w)(ha:RSl 2 (REnc q0l) σ a la):
  Calls Tryz.prog 37 #[a] w fun e w1=>e= .returned (.int .i64 ((Sp.cnt (Sp.cov la) 10000:Nat):Int))/\Grow [] σ w σ w1:=by
 refine enter Tryz.func37 rfl rfl rfl ?_
 have hS:=St.start hV
 obtain⟨xa,ca,ea⟩:=ha.shape
 subst ea
 refine Qp ?_
 refine Q0 (v:=(.int .i64 (0:Int))) rfl ?_
 refine wpList_nil ?_
 refine Qj ?_
 refine Qp ?_
 refine Q0 (v:=(.int .i64 (0:Int))) rfl ?_
 refine wpList_nil ?_
 refine Qj ?_
 refine wp_seq ?_
 refine Qp ?_
 refine Qy (v:=(.slice xa la.length ca)) rfl ?_
 refine q3c (cs:=[(.slice xa la.length ca)]) (e:=51) hS (fun _=>by kernel_rfl) ?_
 intro b1 w1 hS1
 obtain⟨σ1,hS2,hsub1,hfr1⟩:=hS1.freeze (i:=0) rfl rfl rfl
 have hvr1:=Hy (hS1.get (i:=0) rfl) hfr1
 refine q84 (args:=[(.slice (some ⟨b1,0,none⟩) 1 1)]) rfl Tryz.call78 (Calls.mono (c_of _ [la] hS2.view (rsl1 (size:=1) hvr1 rfl ⟨_,rfl,(RSl.menc hsub1 ha)⟩) (by have:=(RSl.len (RSl.menc hsub1 ha));simp;omega)) ?_)
 rintro _ w2 ⟨rfl,hg1⟩
 refine⟨_,rfl,?_⟩
 have hS3:=hS2.grow hg1
 refine Qy (v:=(.int .i64 (0:Int))) rfl ?_
 refine wpList_nil ?_
 refine Qj ?_
 refine wp_block ?_
 refine loop (fun m f z=> ∃(k:Nat) (g:Fr),m=10000 - k/\f=(upd (upd (upd g 3 (.int .i64 ((Sp.cnt (Sp.cov [la].flatten) k:Nat):Int))) 8 (.agg (brow 10000 (Sp.cov [la].flatten)).toArray)) 9 (.int .i64 ((k:Nat):Int)))/\St ⟨w,σ,[]⟩ z σ1 []/\(k<=10000)) (m0:=_) ⟨0,_,rfl,(Q7 rfl (Q7 rfl (Q7 rfl rfl))),hS3,(Nat.zero_le _)⟩ ?_
 rintro _ _ w3 ⟨k,g,rfl,rfl,hS4,hk⟩
 have hcl:=Sp.cnt_le (Sp.cov [la].flatten) k
 refine Qp ?_
 refine w1o (r:=(decide (((k:Nat):Int)<(10000:Int)))) rfl rfl rfl ?_
 refine wpList_nil ?_
 refine Qj ?_
 refine wp_seq ?_
 refine if_d (((k:Nat):Int)<(10000:Int)) rfl (fun ht1=> ?_) (fun ht1=> ?_)
 ·refine wp_skip ?_
  refine Qj ?_
  refine wp_seq ?_
  refine wp_block ?_
  refine Qp ?_
  refine w1p (k:=k) (v:=(.bool (Sp.cov [la].flatten k))) rfl rfl (by omega) (by omega) Tryz.underlying129 Tryz.sizeOf4 Tryz.isAgg4 (by rw[List.getElem?_toArray];exact q8d (by omega)) ?_
  refine Q0 (v:=(.bool (Sp.cov [la].flatten k))) rfl ?_
  refine wpList_nil ?_
  refine Qj ?_
  refine Qp ?_
  refine Qy (v:=(.bool (Sp.cov [la].flatten k))) rfl ?_
  refine wpList_nil ?_
  refine Qj ?_
  refine if_b rfl (fun ht2=> ?_) (fun ht2=> ?_)
  ·refine Gs ?_
   refine Qy (v:=(.int .i64 ((Sp.cnt (Sp.cov [la].flatten) k:Nat):Int))) rfl ?_
   refine z14 (r:=((Sp.cnt (Sp.cov [la].flatten) k+1:Nat):Int)) rfl rfl (nw (by omega) (by omega) (by omega)) ?_
   refine Q0 (v:=(.int .i64 ((Sp.cnt (Sp.cov [la].flatten) k+1:Nat):Int))) rfl ?_
   refine wpList_nil ?_
   refine j49 ?_
   refine Qj ?_
   refine Gs ?_
   refine z14 (r:=((k+1:Nat):Int)) rfl rfl (nw (by omega) (by omega) (by omega)) ?_
   refine Qy (v:=(.int .i64 ((k+1:Nat):Int))) rfl ?_
   refine wpList_nil ?_
   refine Qj ?_
   have hc:Sp.cnt (Sp.cov [la].flatten) (k+1)=Sp.cnt (Sp.cov [la].flatten) k+1:=by rw[Sp.cnt,ht2];rfl
   exact⟨_,_,rfl,⟨k+1,_,rfl,(Q7 rfl (Q7 rfl (Q7 (congrArg (fun z:Nat=>Value.int .i64 (z:Int)) hc.symm) rfl))),hS4,(by omega)⟩,by omega⟩
  ·refine wp_skip ?_
   refine j49 ?_
   refine Qj ?_
   refine Gs ?_
   refine z14 (r:=((k+1:Nat):Int)) rfl rfl (nw (by omega) (by omega) (by omega)) ?_
   refine Qy (v:=(.int .i64 ((k+1:Nat):Int))) rfl ?_
   refine wpList_nil ?_
   refine Qj ?_
   have hc:Sp.cnt (Sp.cov [la].flatten) (k+1)=Sp.cnt (Sp.cov [la].flatten) k+0:=by rw[Sp.cnt,ht2];rfl
   exact⟨_,_,rfl,⟨k+1,_,rfl,(Q7 rfl (Q7 rfl (Q7 (congrArg (fun z:Nat=>Value.int .i64 (z:Int)) hc.symm) rfl))),hS4,(by omega)⟩,by omega⟩
 ·refine wp_exit ?_
  refine q85 ?_
  refine q85 ?_
  refine z5s ?_
  refine Qj ?_
  refine Qp ?_
  refine Qy (v:=(.int .i64 ((Sp.cnt (Sp.cov [la].flatten) k:Nat):Int))) rfl ?_
  refine Q0 (v:=(.int .i64 ((Sp.cnt (Sp.cov [la].flatten) k:Nat):Int))) rfl ?_
  refine wpList_nil ?_
  refine Qj ?_
  refine wp_ret ?_
  refine ret1 rfl (show ev _ _ _=(.int .i64 ((Sp.cnt (Sp.cov [la].flatten) k:Nat):Int)) from rfl) ?_
  obtain rfl:k=10000:=by omega
  exact⟨by rw[Sp.cnt_congr (fun i _=>(Sp.cov_one la i).symm)],hS4.done.forget⟩
theorem c_First{σ:Hv}{w:World}(a:Value)(la:List (Int×Int))(n:Int)(hV:View σ w)(ha:RSl 2 (REnc q0l) σ a la)(hn: -9223372036854775808<=n)(hn2:n<=9223372036854775807):
  Calls Tryz.prog 82 #[a,(.int .i64 n)] w fun e w1=> ∃(v:Value) (σ1:Hv),e= .returned v/\Grow [] σ w σ1 w1/\RSl 2 (REnc q0l) σ1 v (Sp.runs (Sp.firstP (Sp.cov la) n) 10000):=by
 refine enter Tryz.func82 rfl rfl rfl ?_
 have hS:=St.start hV
 obtain⟨xa,ca,ea⟩:=ha.shape
 subst ea
 refine Qp ?_
 refine v73 (cs:=[(.int .i64 n)]) hS rfl rfl ?_
 intro b1 w1 hS1
 refine Q0 (v:=(.slice none 0 0)) rfl ?_
 refine wpList_nil ?_
 refine Qj ?_
 refine Qp ?_
 refine Qy (v:=(.slice xa la.length ca)) rfl ?_
 refine q3c (cs:=[(.slice xa la.length ca)]) (e:=51) hS1 (fun _=>by kernel_rfl) ?_
 intro b2 w2 hS2
 obtain⟨σ1,hS3,hsub1,hfr1⟩:=hS2.freeze (i:=0) rfl rfl rfl
 have hvr1:=Hy (hS2.get (i:=0) rfl) hfr1
 refine q84 (args:=[(.slice (some ⟨b2,0,none⟩) 1 1)]) rfl Tryz.call78 (Calls.mono (c_of _ [la] hS3.view (rsl1 (size:=1) hvr1 rfl ⟨_,rfl,(RSl.menc hsub1 ha)⟩) (by have:=(RSl.len (RSl.menc hsub1 ha));simp;omega)) ?_)
 rintro _ w3 ⟨rfl,hg1⟩
 refine⟨_,rfl,?_⟩
 have hS4:=hS3.grow hg1
 refine q4e (cs:=brow 10000 (fun i=>false)) hS4 (q4y Tryz.type129 (q3d j88 j99) (by omega)) (by simp[Value.cells,q3z]) ?_
 intro b3 w4 hS5
 refine Bt (T:=129) (vs:=brow 10000 (Sp.cov [la].flatten)) (cs':=brow 10000 (Sp.cov [la].flatten)) (ms':=[blk b3 129 (brow 10000 (Sp.cov [la].flatten)),blk b1 3 [(.int .i64 n)]]) (i:=0) hS5 rfl rfl (q5x _) Tryz.sizeOf129 (Zt _ _) (q5y _ _) rfl (by simp[Zt]) (q0b (by simp[Zt])) rfl ?_
 intro w5 hS6
 refine wpList_nil ?_
 refine Qj ?_
 refine Qp ?_
 refine z3r (la:=[]) (lb:=[(.pointer (some ⟨b3,0,none⟩)),(.pointer (some ⟨b1,0,none⟩))]) rfl rfl ?_
 obtain⟨σ2,hS7,hsub2,hfr2⟩:=hS6.freeze (i:=0) rfl rfl rfl
 have hvr2:=Hy (hS6.get (i:=0) rfl) hfr2
 refine q84 (args:=[(.func (.func 146) #[] #[(.pointer (some ⟨b3,0,none⟩)),(.pointer (some ⟨b1,0,none⟩))])]) rfl Tryz.call79 (Calls.mono (j7z 146 [(.pointer (some ⟨b3,0,none⟩)),(.pointer (some ⟨b1,0,none⟩))] (Sp.firstP (Sp.cov [la].flatten) n) (fun k=>blk b1 3 [.int .i64 (Sp.leftN (Sp.cov [la].flatten) n k)]) (some b1) (fun _=>rfl) Tryz.call146 (fun k w1 hk hV1 ho=>v20 _ n k hV1 hvr2 ho ((hS7.off _ (List.mem_of_getElem? (i:=0) rfl)) _ rfl) hk (by omega) (by omega)) hS7.view (hS7.get (i:=0) rfl) (hS7.off _ (List.mem_of_getElem? (i:=0) rfl))) ?_)
 rintro _ w6 ⟨v1,σ3,rfl,hg2,hrd1,ho1⟩
 refine⟨_,rfl,?_⟩
 have hS8:=y08 (o':=blk b1 3 [.int .i64 (Sp.leftN (Sp.cov [la].flatten) n 10000)]) hS7 rfl rfl hg2 ho1.1 (ho1.2 _ rfl)
 refine Q0 (v:=v1) rfl ?_
 refine wpList_nil ?_
 refine Qj ?_
 refine wp_ret ?_
 refine ret1 rfl (show ev _ _ _=v1 from rfl) ?_
 have hE:Sp.runs (Sp.firstP (Sp.cov la) n) 10000=(Sp.runs (Sp.firstP (Sp.cov [la].flatten) n) 10000):=Sp.runs_congr (fun i hi=>Sp.firstP_congr (fun j _=>(Sp.cov_one la j).symm))
 exact⟨v1,σ3,rfl,hS8.done,by rw[hE];exact hrd1⟩
end Go.Proofs.YtflilmgifibgoaaGreatDoor
end
noncomputable section
set_option maxRecDepth 100000
open Go Go.RowKit Go.Fl Go.Fl.Lk Go.Fx
namespace Go.En
theorem j70{σ:Hv}{w:World}{g:Nat}{T:C}{n:Nat}{l:List (car T)}(hV:View σ w)(hs:SRep D (fun _=>none) σ (.pointer (some ⟨g,0,none⟩)) (.fap T n l)){i j:Nat}{x:car T}{s:FV Sg}(hx:l[i]? =some x)(hj:(D.shape T x)[j]? =some s)(hz:j<D.size T):
  ∃v,w.cell? ⟨g,i*D.size T+j,none⟩=some v/\RepF D σ v s:=by
 generalize hq:Value.pointer (some (⟨g,0,none⟩:Addr))=q at hs
 cases hs with
 |fap ad cs T' N l' hN h hl hr=>
  cases hq
  have hrow:=hr i x hx
  have hlen:=okP.ok.len T x
  have hjl:j<((cs.drop (i*D.size T)).take (D.size T)).length:=by rw[hrow.1,hlen];exact hz
  obtain⟨v,hv⟩: ∃v,((cs.drop (i*D.size T)).take (D.size T))[j]? =some v:=⟨_,List.getElem?_eq_getElem hjl⟩
  refine⟨v,?_,hrow.2 j v s hv hj⟩
  rw[List.getElem?_take,if_pos hz,List.getElem?_drop] at hv
  have:=hV.cell (h _ v hv)
  rw[Z5,Nat.zero_add] at this
  exact this
theorem v21: ∀c,c<256->w42[c]? =some ((Go.Lib.firstT c:Nat):Int):=by decide
theorem v8y: ∀i,i<16->(j3b[i]?).map (fun a=>(a.lo,a.hi))=some (((Go.Lib.accLo i:Nat):Int),((Go.Lib.accHi i:Nat):Int)):=by decide
theorem tabs{σ:Hv}{w:World}(hV:View σ w)(hG:Glb D σ):Go.Lib.Utf8Tabs (Proofs.Tryz.lays196_ren.g 3) (Proofs.Tryz.lays196_ren.g 4) w:=by
 refine⟨fun c hc=> ?_,fun i hi=> ?_⟩
 ·have h:=hG.known (Proofs.Tryz.lays196_ren.g 3)
  obtain⟨v,h1,h2⟩:=j70 (T:= .u8) (n:=256) (l:=w42) hV h (i:=c) (j:=0) (s:= .int .u8 ((Go.Lib.firstT c:Nat):Int)) (v21 c hc) rfl (by decide)
  cases h2
  simpa [show D.size C.u8=1 from rfl] using h1
 ·have h:=hG.known (Proofs.Tryz.lays196_ren.g 4)
  have ha:=v8y i hi
  obtain⟨a,e1,e2⟩:=Option.map_eq_some_iff.1 ha
  obtain⟨v,h1,h2⟩:=j70 (T:= .acc) (n:=16) (l:=j3b) hV h (i:=i) (j:=0) (s:= .int .u8 a.lo) e1 rfl (by decide)
  obtain⟨v',h1',h2'⟩:=j70 (T:= .acc) (n:=16) (l:=j3b) hV h (i:=i) (j:=1) (s:= .int .u8 a.hi) e1 rfl (by decide)
  cases h2;cases h2'
  simp only[Prod.mk.injEq] at e2
  rw[e2.1] at h1;rw[e2.2] at h1'
  refine⟨by rw[Nat.mul_comm];simpa [show D.size C.acc=2 from rfl] using h1,by rw[Nat.mul_comm];simpa [show D.size C.acc=2 from rfl] using h1'⟩
theorem w2q{w w':World}(h:Below w.heap.size w w'):Keeps [] w w':=⟨h.os,h.tape,h.output,h.size,fun k hk _=>h.block k hk⟩
theorem w5z{σ:Hv}{w w1:World}{args:List (Tr Sg)}{vals:List Value}{K:List (Tr Sg)->List (Tr Sg)->Prop}{rets outs:List (Tr Sg)}{rv:List Value}(hS:St ⟨w,σ,feet []⟩ w σ [])(hK:K rets outs)(hb:Below w.heap.size w w1)(hL:LayL D σ rets rv [])(hT:LayT D σ args outs vals [] []):
  Back D σ w args vals [] K (.returned (retV rv)) w1:=by
 have hk:=w2q hb
 refine⟨rets,outs,rv,σ,[],[],rfl,hK,hL,hT,?_⟩
 refine⟨hk,fun b o hbo=> ?_,Sub.refl _,fun _ _ _=>rfl,by simp,by simp,by simp,by simp⟩
 have h1:=hS.view b o hbo
 have hlt:b<w.heap.size:=by
  rcases Nat.lt_or_ge b w.heap.size with h|h
  ·exact h
  ·rw[Array.getElem?_eq_none h] at h1;cases h1
 rw[hk.block b hlt (by simp)];exact h1
theorem z7s:q8e Proofs.Tryz.prog D 164 (conV ([.v]:LP) ([.str]:LV) ([.bool]:LV) ([.same]:LV) (fun a K=>q0x a.1 (fun q0=>K (q0,()) ((),())))):=by
 intro args K hm w σ vals ins hG hL hS
 obtain⟨a,ha,hm⟩:=Qg hm
 have hargs:=Wz ha
 subst hargs
 obtain⟨s,_⟩:=a
 cases hL with
 |cons hp hr=>
 cases hr
 cases hp with
 |f hf=>
 cases hf
 have hm:s.size<=9223372036854775807/\K [.f (.bool (Go.Lib.validD s.data.toList))] [.same]:=hm
 refine Calls.mono (Go.Proofs.Any.utf8_ValidString Proofs.Tryz.lays196 s w hm.1 (tabs hS.view hG)) ?_
 rintro e w' ⟨rfl,hb⟩
 exact w5z (rv:=[.bool (Go.Lib.validD s.data.toList)]) hS hm.2 hb (.cons (ms:=[]) (.f (.bool _)) .nil) (.skip (a0:=[]) .nil)
theorem q5c{σ:Hv}{v:Value}{l:List Spn}(h:RepF D σ v (.sl C.span l)):RSl 2 (REnc q0l) σ v (l.map fun s=>(s.lo,s.hi)):=by
 obtain⟨a,cap,e1,e2,e3,e4⟩:=h.toRSl okP.ok
 have hl:(l.map fun s=>(s.lo,s.hi)).length=l.length:=List.length_map ..
 refine⟨a,cap,by rw[hl];exact e1,by rw[hl];exact e2,by rw[hl];exact e3,fun i x hx=> ?_⟩
 rw[List.getElem?_map] at hx
 obtain⟨y,hy,rfl⟩:=Option.map_eq_some_iff.1 hx
 obtain⟨ad,cs,f1,f2,f3,f4⟩:=e4 i y hy
 refine⟨ad,cs,f1,f2,f3,?_⟩
 obtain⟨u,v,rfl⟩: ∃u v,cs=[u,v]:=by
  match cs,f2 with
  |[u,v],_=>exact⟨u,v,rfl⟩
 have g1:=f4.2 0 u (.int .i64 y.lo) rfl rfl
 have g2:=f4.2 1 v (.int .i64 y.hi) rfl rfl
 cases g1;cases g2
 rfl
theorem j3m{σ:Hv}{v:Value}{l:List (Int×Int)}(h:RSl 2 (REnc q0l) σ v l):RepF D σ v (.sl C.span (l.map fun s=>Spn.mk s.1 s.2)):=by
 refine RepF.ofRSl okP.ok ?_
 obtain⟨a,cap,rfl,h1,h2,h3⟩:=h
 refine⟨a,cap,by simp,by simpa using h1,by simpa using h2,fun i x hx=> ?_⟩
 rw[List.getElem?_map] at hx
 obtain⟨y,hy,rfl⟩:=Option.map_eq_some_iff.1 hx
 obtain⟨ad,cs,e1,e2,e3,e4⟩:=h3 i y hy
 have e4:cs=q0l y:=e4
 subst e4
 exact⟨ad,_,e1,rfl,e3,Vh (.int _ _) (Vh (.int _ _) z5z)⟩
theorem j3n:q8e Proofs.Tryz.prog D 81 (conV ([.sl C.span,.sl C.span]:LP) ([.sl C.span,.sl C.span]:LV) ([.sl C.span]:LV) ([.same,.same]:LV) (fun a K=>q1d a.1 a.2.1 (fun q0=>K (q0,()) ((),(),())))):=by
 intro args K hm w σ vals ins hG hL hS
 obtain⟨a,ha,hm⟩:=Qg hm
 have hargs:=Wz ha
 subst hargs
 obtain⟨s,t,_⟩:=a
 cases hL with
 | @cons _ _ v1 _ _ _ hp hr=>
 cases hr with
 | @cons _ _ v2 _ _ _ hq hr=>
 cases hr
 cases hp with
 |f hf1=>
 cases hq with
 |f hf2=>
 have hm:K [.f (.sl C.span ((Go.Fl.Sp.runs (fun i=>Go.Fl.Sp.cov (s.map fun s=>(s.lo,s.hi)) i||Go.Fl.Sp.cov (t.map fun s=>(s.lo,s.hi)) i) 10000).map fun s=>Spn.mk s.1 s.2))] [.same,.same]:=hm
 refine Calls.mono (Go.Proofs.YtflilmgifibgoaaGreatDoor.c_Union v1 v2 _ _ hS.view (q5c hf1) (q5c hf2)) ?_
 rintro e w1 ⟨v,σ1,rfl,hg,hr⟩
 exact⟨_,[.same,.same],[v],σ1,[],[],rfl,hm,.cons (ms:=[]) (.f (j3m hr)) .nil,.skip (a0:=[]) (.skip (a0:=[]) .nil),hS.grow hg⟩
theorem j3o:q8e Proofs.Tryz.prog D 76 (conV ([.sl C.span,.sl C.span]:LP) ([.sl C.span,.sl C.span]:LV) ([.sl C.span]:LV) ([.same,.same]:LV) (fun a K=>q1b a.1 a.2.1 (fun q0=>K (q0,()) ((),(),())))):=by
 intro args K hm w σ vals ins hG hL hS
 obtain⟨a,ha,hm⟩:=Qg hm
 have hargs:=Wz ha
 subst hargs
 obtain⟨s,t,_⟩:=a
 cases hL with
 | @cons _ _ v1 _ _ _ hp hr=>
 cases hr with
 | @cons _ _ v2 _ _ _ hq hr=>
 cases hr
 cases hp with
 |f hf1=>
 cases hq with
 |f hf2=>
 have hm:K [.f (.sl C.span ((Go.Fl.Sp.runs (fun i=>Go.Fl.Sp.cov (s.map fun s=>(s.lo,s.hi)) i && !Go.Fl.Sp.cov (t.map fun s=>(s.lo,s.hi)) i) 10000).map fun s=>Spn.mk s.1 s.2))] [.same,.same]:=hm
 refine Calls.mono (Go.Proofs.YtflilmgifibgoaaGreatDoor.c_Minus v1 v2 _ _ hS.view (q5c hf1) (q5c hf2)) ?_
 rintro e w1 ⟨v,σ1,rfl,hg,hr⟩
 exact⟨_,[.same,.same],[v],σ1,[],[],rfl,hm,.cons (ms:=[]) (.f (j3m hr)) .nil,.skip (a0:=[]) (.skip (a0:=[]) .nil),hS.grow hg⟩
theorem j1e:q8e Proofs.Tryz.prog D 22 (conV ([.sl C.span,.sl C.span]:LP) ([.sl C.span,.sl C.span]:LV) ([.sl C.span]:LV) ([.same,.same]:LV) (fun a K=>Bg a.1 a.2.1 (fun q0=>K (q0,()) ((),(),())))):=by
 intro args K hm w σ vals ins hG hL hS
 obtain⟨a,ha,hm⟩:=Qg hm
 have hargs:=Wz ha
 subst hargs
 obtain⟨s,t,_⟩:=a
 cases hL with
 | @cons _ _ v1 _ _ _ hp hr=>
 cases hr with
 | @cons _ _ v2 _ _ _ hq hr=>
 cases hr
 cases hp with
 |f hf1=>
 cases hq with
 |f hf2=>
 have hm:K [.f (.sl C.span ((Go.Fl.Sp.runs (fun i=>Go.Fl.Sp.cov (s.map fun s=>(s.lo,s.hi)) i && Go.Fl.Sp.cov (t.map fun s=>(s.lo,s.hi)) i) 10000).map fun s=>Spn.mk s.1 s.2))] [.same,.same]:=hm
 refine Calls.mono (Go.Proofs.YtflilmgifibgoaaGreatDoor.c_Common v1 v2 _ _ hS.view (q5c hf1) (q5c hf2)) ?_
 rintro e w1 ⟨v,σ1,rfl,hg,hr⟩
 exact⟨_,[.same,.same],[v],σ1,[],[],rfl,hm,.cons (ms:=[]) (.f (j3m hr)) .nil,.skip (a0:=[]) (.skip (a0:=[]) .nil),hS.grow hg⟩
theorem j1f:q8e Proofs.Tryz.prog D 36 (conV ([.sl C.span]:LP) ([.sl C.span]:LV) ([.sl C.span]:LV) ([.same]:LV) (fun a K=>Gc a.1 (fun q0=>K (q0,()) ((),())))):=by
 intro args K hm w σ vals ins hG hL hS
 obtain⟨a,ha,hm⟩:=Qg hm
 have hargs:=Wz ha
 subst hargs
 obtain⟨s,_⟩:=a
 cases hL with
 | @cons _ _ v1 _ _ _ hp hr=>
 cases hr
 cases hp with
 |f hf1=>
 have hm:K [.f (.sl C.span ((Go.Fl.Sp.runs (Go.Fl.Sp.cov (s.map fun s=>(s.lo,s.hi))) 10000).map fun s=>Spn.mk s.1 s.2))] [.same]:=hm
 refine Calls.mono (Go.Proofs.YtflilmgifibgoaaGreatDoor.c_Normal v1 _ hS.view (q5c hf1)) ?_
 rintro e w1 ⟨v,σ1,rfl,hg,hr⟩
 exact⟨_,[.same],[v],σ1,[],[],rfl,hm,.cons (ms:=[]) (.f (j3m hr)) .nil,.skip (a0:=[]) .nil,hS.grow hg⟩
theorem j3p:q8e Proofs.Tryz.prog D 82 (conV ([.sl C.span,.v]:LP) ([.sl C.span,.int .i64]:LV) ([.sl C.span]:LV) ([.same,.same]:LV) (fun a K=>q1c a.1 a.2.1 (fun q0=>K (q0,()) ((),(),())))):=by
 intro args K hm w σ vals ins hG hL hS
 obtain⟨a,ha,hm⟩:=Qg hm
 have hargs:=Wz ha
 subst hargs
 obtain⟨s,n,_⟩:=a
 cases hL with
 | @cons _ _ v1 _ _ _ hp hr=>
 cases hr with
 | @cons _ _ v2 _ _ _ hq hr=>
 cases hr
 cases hp with
 |f hf1=>
 cases hq with
 |f hf2=>
 cases hf2
 have hm:InI n/\K [.f (.sl C.span ((Go.Fl.Sp.runs (Go.Fl.Sp.firstP (Go.Fl.Sp.cov (s.map fun s=>(s.lo,s.hi))) n) 10000).map fun s=>Spn.mk s.1 s.2))] [.same,.same]:=hm
 obtain⟨hn,hm⟩:=hm
 refine Calls.mono (Go.Proofs.YtflilmgifibgoaaGreatDoor.c_First v1 _ n hS.view (q5c hf1) hn.1 hn.2) ?_
 rintro e w1 ⟨v,σ1,rfl,hg,hr⟩
 exact⟨_,[.same,.same],[v],σ1,[],[],rfl,hm,.cons (ms:=[]) (.f (j3m hr)) .nil,.skip (a0:=[]) (.skip (a0:=[]) .nil),hS.grow hg⟩
theorem j5d:q8e Proofs.Tryz.prog D 37 (conV ([.sl C.span]:LP) ([.sl C.span]:LV) ([.int .i64]:LV) ([.same]:LV) (fun a K=>Gj a.1 (fun q0=>K (q0,()) ((),())))):=by
 intro args K hm w σ vals ins hG hL hS
 obtain⟨a,ha,hm⟩:=Qg hm
 have hargs:=Wz ha
 subst hargs
 obtain⟨s,_⟩:=a
 cases hL with
 | @cons _ _ v1 _ _ _ hp hr=>
 cases hr
 cases hp with
 |f hf1=>
 have hm:K [.f (.int .i64 ((Go.Fl.Sp.cnt (Go.Fl.Sp.cov (s.map fun s=>(s.lo,s.hi))) 10000:Nat):Int))] [.same]:=hm
 refine Calls.mono (Go.Proofs.YtflilmgifibgoaaGreatDoor.c_Size v1 _ hS.view (q5c hf1)) ?_
 rintro e w1 ⟨rfl,hg⟩
 exact⟨_,[.same],[.int .i64 _],σ,[],[],rfl,hm,.cons (ms:=[]) (.f (.int _ _)) .nil,.skip (a0:=[]) .nil,hS.grow hg⟩
end Go.En
end
noncomputable section
set_option maxRecDepth 100000
open Go Go.RowKit Go.Fl Go.Fl.Lk Go.Fx
namespace Go.En
def q4k(X:Gb):Con Sg:=conV [.sl C.span] [.sl C.span] [.sl C.span] [.same] fun a K=>X a.1 (fun q0=>K (q0,()) ((),()))
theorem z1o:MT 36 (q4k Gc):=⟨entB (by kernel_rfl),j1f⟩
def q8p(X:Rz):Con Sg:=conV [.sl C.span] [.sl C.span] [.int .i64] [.same] fun a K=>X a.1 (fun q0=>K (q0,()) ((),()))
theorem z5h:MT 37 (q8p Gj):=⟨entB (by kernel_rfl),j5d⟩
def z0t(X:q0p):Con Sg:=conS [] [.bool] fun _ K=>X (fun q0=>K (q0,()))
theorem j71{Jd:Gb}{J1:Rz}(h:AL [(36,q4k Jd),(37,q8p J1)]):MT 7 (z0t (q98 Jd J1)):=mS h []
theorem j72:MT 7 (z0t q42):=j71 ⟨z1o,z5h,trivial⟩
def w2r(X:z88):Con Sg:=conS [.int .i64,.int .i64] [.int .i64] fun a K=>X a.1 a.2.1 (fun q0=>K (q0,()))
theorem w9u:MT 9 (w2r j3e):=mS (l:=[]) trivial []
def w9v(X:j7p):Con Sg:=conV [.sl C.u8,.v] [.sl C.u8,.int .i64] [.ptr 78 [.sl C.u8,.int .i64]] [.same,.same] fun a K=>X a.1 a.2.1 (fun q0 q1=>K ((q0,q1,()),()) ((),(),()))
theorem v6l:MT 8 (w9v j7q):=mP (rk:=[.ptr 78 [.c,.v]]) (l:=[]) trivial [(6,⟨[1,4],[],[],[(.slot 0,.sl C.u8)]⟩)]
def q7z(X:Ur):Con Sg:=conS [] [.vec 102 C.decl] fun _ K=>X (fun q0=>K (q0,()))
theorem z2u:MT 38 (q7z G5):=mS (l:=[]) trivial []
def w44(X:j2a):Con Sg:=conV [.ptr 78 [.c,.v]] [.ptr 78 [.sl C.u8,.int .i64]] [.bool] [.ptr 78 [.same,.int .i64]] fun a K=>X a.1.1 a.1.2.1 (fun q0 q1=>K (q0,()) (((),q1,()),()))
theorem v22:MT 32 (w44 j7r):=mP (rk:=[.v]) (l:=[]) trivial []
def U5(X:Zu):Con Sg:=conV [.ptr 78 [.c,.v],.v] [.ptr 78 [.sl C.u8,.int .i64],.int .i64] [.int .i64] [.ptr 78 [.same,.int .i64],.same] fun a K=>X a.1.1 a.1.2.1 a.2.1 (fun q0 q1=>K (q0,()) (((),q1,()),(),()))
theorem v23{j2i:j2a}(h:AL [(32,w44 j2i)]):MT 33 (U5 (j7s j2i)):=mP (rk:=[.v]) h []
theorem Rd:MT 33 (U5 Zp):=v23 ⟨v22,trivial⟩
def z0u(X:H0):Con Sg:=conV [.ptr 78 [.c,.v]] [.ptr 78 [.sl C.u8,.int .i64]] [.str] [.ptr 78 [.same,.int .i64]] fun a K=>X a.1.1 a.1.2.1 (fun q0 q1=>K (q0,()) (((),q1,()),()))
theorem v24{Qb:Zu}(h:AL [(33,U5 Qb)]):MT 39 (z0u (j7t Qb)):=mP (rk:=[.v]) h []
theorem z7t:MT 39 (z0u q7n):=v24 ⟨Rd,trivial⟩
def z4m(X:q0q):Con Sg:=conV [.ptr 78 [.c,.v],.v] [.ptr 78 [.sl C.u8,.int .i64],.int .i64] [.int .i64] [.ptr 78 [.same,.int .i64],.same] fun a K=>X a.1.1 a.1.2.1 a.2.1 (fun q0 q1=>K (q0,()) (((),q1,()),(),()))
theorem v25{Qb:Zu}(h:AL [(33,U5 Qb)]):MT 34 (z4m (j7u Qb)):=mP (rk:=[.v]) h []
theorem j2d:MT 34 (z4m q99):=v25 ⟨Rd,trivial⟩
def j73(X:z33):Con Sg:=conS [.int .i64,.vec 9 C.str] [.sl C.str] fun a K=>X a.1 a.2.1 (fun q0=>K (q0,()))
theorem w45:MT 41 (j73 j2b):=mS (l:=[]) trivial []
def z7u(X:q43):Con Sg:=conV [.ptr 78 [.c,.v]] [.ptr 78 [.sl C.u8,.int .i64]] [.vec 9 C.str] [.ptr 78 [.same,.int .i64]] fun a K=>X a.1.1 a.1.2.1 (fun q0 q1=>K (q0,()) (((),q1,()),()))
theorem v26{Qb:Zu}(h:AL [(33,U5 Qb)]):MT 46 (z7u (j7v Qb)):=mP (rk:=[.own 9 C.str]) h [(9,⟨bl 397,[],[(0,(78,2))],[(.slot 4,.own 9 C.str),sI 5,(.cell 0 1,.int .i64)]⟩),(17,⟨bl 8121,[0],[],[sI 6,(.obj 1,.own 9 C.str)]⟩)]
theorem j74:MT 46 (z7u z0a):=v26 ⟨Rd,trivial⟩
end Go.En
end
noncomputable section
set_option maxRecDepth 100000
open Go Go.RowKit Go.Fl Go.Fl.Lk Go.Fx
namespace Go.En
def w2s(X:j3f):Con Sg:=conV [.ptr 78 [.c,.v]] [.ptr 78 [.sl C.u8,.int .i64]] [.str] [.ptr 78 [.same,.int .i64]] fun a K=>X a.1.1 a.1.2.1 (fun q0 q1=>K (q0,()) (((),q1,()),()))
theorem v6m{Qb:Zu}(h:AL [(33,U5 Qb)]):MT 105 (w2s (w2p Qb)):=mP (rk:=[.v]) h []
theorem v6n:MT 105 (w2s j7w):=v6m ⟨Rd,trivial⟩
def z2v(X:q0r):Con Sg:=conV [.ptr 78 [.c,.v],.v] [.ptr 78 [.sl C.u8,.int .i64],.int .i64] [.el C.val] [.ptr 78 [.same,.int .i64],.same] fun a K=>X a.1.1 a.1.2.1 a.2.1 (fun q0 q1=>K (q0,()) (((),q1,()),(),()))
theorem w9w{Qb:Zu}{Je:H0}(h:AL [(33,U5 Qb),(39,z0u Je)]):MT 101 (z2v (z7a Qb Je)):=mP (rk:=[.el C.val]) h []
theorem j3q:MT 101 (z2v G6):=w9w ⟨Rd,z7t,trivial⟩
def j75(X:j2c):Con Sg:=conV [.ptr 78 [.c,.v]] [.ptr 78 [.sl C.u8,.int .i64]] [.el C.ex] [.ptr 78 [.same,.int .i64]] fun a K=>X a.1.1 a.1.2.1 (fun q0 q1=>K (q0,()) (((),q1,()),()))
theorem v27{Zk:Ur}{Qb:Zu}{j84:j3f}{Z3:q0r}(h:AL [(38,q7z Zk),(33,U5 Qb),(105,w2s j84),(101,z2v Z3)]):MT 159 (j75 (j7x Zk Qb j84 Z3)):=mP (rk:=[.el C.ex]) h [(68,⟨bl 4286840701,[3,2],[(5,(56,5)),(0,(78,2)),(1,(56,5))],[(.cell 5 0,.int .i64),(.cell 5 1,.str),(.cell 5 2,.str),(.cell 5 3,.own 149 C.val),(.cell 5 4,.own 56 C.ex),(.cell 0 1,.int .i64),(.cell 1 0,.int .i64),(.cell 1 1,.str),(.cell 1 2,.str),(.cell 1 3,.own 149 C.val),(.cell 1 4,.own 56 C.ex)]⟩),(60,⟨bl 17163319925,[],[(0,(78,2)),(5,(56,5)),(1,(56,5))],[(.cell 0 1,.int .i64),(.cell 5 0,.int .i64),(.cell 5 1,.str),(.cell 5 2,.str),(.cell 5 3,.own 149 C.val),(.cell 5 4,.own 56 C.ex),(.cell 1 0,.int .i64),(.cell 1 1,.str),(.cell 1 2,.str),(.cell 1 3,.own 149 C.val),(.cell 1 4,.own 56 C.ex)]⟩),(37,⟨bl 1055806024022645,[1],[(5,(56,5)),(0,(78,2))],[sI 7,(.cell 5 3,.own 149 C.val),(.cell 0 1,.int .i64)]⟩)]
theorem v28:MT 159 (j75 z34):=v27 ⟨z2u,Rd,v6n,j3q,trivial⟩
def j2e(X:q0s):Con Sg:=conV [.ptr 78 [.c,.v],.sl C.str,.v] [.ptr 78 [.sl C.u8,.int .i64],.sl C.str,.int .i64] [.el C.ex] [.ptr 78 [.same,.int .i64],.same,.same] fun a K=>X a.1.1 a.1.2.1 a.2.1 a.2.2.1 (fun q0 q1=>K (q0,()) (((),q1,()),(),(),()))
theorem j76:MT 100 (j2e q7o):=by
 show MT _ (conV ([.ptr 78 [.c,.v],.sl C.str,.v]:LP) ([.ptr 78 [.sl C.u8,.int .i64],.sl C.str,.int .i64]:LV) ([.el C.ex]:LV) ([.ptr 78 [.same,.int .i64],.same,.same]:LV) fun a K=>q7o a.1.1 a.1.2.1 a.2.1 a.2.2.1 (fun q0 q1=>K (q0,()) (((),q1,()),(),(),())))
 exact mQ (l:=[(33,U5 Zp),(159,j75 z34)]) (u:=4) (rk:=[.el C.ex]) ⟨Rd,v28,trivial⟩ (by kernel_rfl) [(8,⟨bl 24647,[0,1],[],[sI 7]⟩),(28,⟨bl 3298996281543,[0,1],[],[sB 49]⟩),(37,⟨bl 1148984153929181127,[1],[(0,(78,2)),(4,(56,5))],[sI 11,(.cell 0 1,.int .i64),(.cell 4 0,.int .i64),(.cell 4 1,.str),(.cell 4 2,.str),(.cell 4 3,.own 149 C.val),(.cell 4 4,.own 56 C.ex)]⟩),(46,⟨bl 1152917567256169316295,[0,12,11,4],[(13,(56,5))],[(.cell 13 0,.int .i64),(.cell 13 1,.str),(.cell 13 2,.str),(.cell 13 3,.sl C.val),(.cell 13 4,.sl C.ex)]⟩)] (fun X a K=>z35 Zp z34 (fun list at_ segments levels K=>X ((list,at_,()),segments,levels,()) fun r o=>K r.1 o.1.2.1) a.1.1 a.1.2.1 a.2.1 a.2.2.1 (fun q0 q1=>K (q0,()) (((),q1,()),(),(),()))) (fun _ _ _=>by kernel_rfl) fun a K h X hX=>h (fun list at_ segments levels K=>X ((list,at_,()),segments,levels,()) fun r o=>K r.1 o.1.2.1) fun list at_ segments levels K hs=>hX ((list,at_,()),segments,levels,()) (fun r o=>K r.1 o.1.2.1) hs
def z2w(X:q30):Con Sg:=conV [.ptr 78 [.c,.v],.ptr 35 [.v,.v,.v,.sl C.decl,.own 97 C.seg,.own 91 C.flag,.own 61 C.layer,.own 58 C.exper]] [.ptr 78 [.sl C.u8,.int .i64],.ptr 35 [.str,.str,.int .i64,.sl C.decl,.vec 97 C.seg,.vec 91 C.flag,.vec 61 C.layer,.vec 58 C.exper]] [] [.ptr 78 [.same,.int .i64],.ptr 35 [.str,.str,.int .i64,.sl C.decl,.vec 97 C.seg,.vec 91 C.flag,.vec 61 C.layer,.vec 58 C.exper]] fun a K=>X a.1.1 a.1.2.1 a.2.1.1 a.2.1.2.1 a.2.1.2.2.1 a.2.1.2.2.2.1 a.2.1.2.2.2.2.1 a.2.1.2.2.2.2.2.1 a.2.1.2.2.2.2.2.2.1 a.2.1.2.2.2.2.2.2.2.1 (fun q0 q1 q2 q3 q4 q5 q6 q7 q8=>K () (((),q0,()),(q1,q2,q3,q4,q5,q6,q7,q8,()),()))
theorem w0a{Qb:Zu}{q1z:z33}{Vo:q43}{V5:q0s}(h:AL [(33,U5 Qb),(41,j73 q1z),(46,z7u Vo),(100,j2e V5)]):MT 40 (z2w (z2h Qb q1z Vo V5)):=mP (rk:=[]) h [(5,⟨bl 1427,[3,4,5],[(0,(78,2)),(1,(35,8))],[sI 5,(.cell 0 1,.int .i64),(.cell 1 4,.own 97 C.seg)]⟩),(14,⟨bl 67010035,[11,10,9,1],[(12,(97,9)),(0,(78,2))],[(.cell 12 1,.str),(.cell 0 1,.int .i64)]⟩),(18,⟨bl 67010035,[11,10,9,1],[(12,(97,9)),(0,(78,2))],[(.cell 12 4,.int .i64),(.cell 12 5,.str),(.cell 12 6,.str),(.cell 12 7,.sl C.val),(.cell 12 8,.sl C.ex),(.cell 0 1,.int .i64)]⟩)]
theorem w0b:MT 40 (z2w q7p):=w0a ⟨Rd,w45,j74,j76,trivial⟩
def q6w(X:V7):Con Sg:=conS [.el C.env] [.vec 9 C.str] fun a K=>X a.1 (fun q0=>K (q0,()))
theorem z2x:MT 102 (q6w V8):=mS (l:=[]) trivial [(7,⟨[0,1,2],[0],[],[(.slot 3,.own 9 C.str),sI 4]⟩)]
def z7v(X:q53):Con Sg:=conV [.ptr 78 [.c,.v],.v] [.ptr 78 [.sl C.u8,.int .i64],.int .i64] [.vec 173 C.range] [.ptr 78 [.same,.int .i64],.same] fun a K=>X a.1.1 a.1.2.1 a.2.1 (fun q0 q1=>K (q0,()) (((),q1,()),(),()))
theorem w9x{Qb:Zu}{Jg:q0q}(h:AL [(33,U5 Qb),(34,z4m Jg)]):MT 104 (z7v (z7b Qb Jg)):=mP (rk:=[.own 173 C.range]) h [(26,⟨[0,1,4],[],[(0,(78,2))],[(.slot 5,.own 173 C.range),sI 6,sI 7,(.cell 0 1,.int .i64)]⟩),(32,⟨bl 8444249301319923,[0,1],[],[sI 11]⟩),(9,⟨[0,1,4],[],[(0,(78,2))],[(.slot 5,.own 173 C.range),sI 6,sI 7,sI 8,(.cell 0 1,.int .i64)]⟩),(20,⟨bl 2144334835,[0,1],[],[sI 10]⟩)]
theorem w0c:MT 104 (z7v q54):=w9x ⟨Rd,j2d,trivial⟩
def z7w(X:q55):Con Sg:=conV [.ptr 78 [.c,.v],.v] [.ptr 78 [.sl C.u8,.int .i64],.int .i64] [.el C.serve] [.ptr 78 [.same,.int .i64],.same] fun a K=>X a.1.1 a.1.2.1 a.2.1 (fun q0 q1=>K (q0,()) (((),q1,()),(),()))
theorem w9y{Qb:Zu}{Je:H0}{q11:q53}{Zk:Ur}(h:AL [(33,U5 Qb),(39,z0u Je),(104,z7v q11),(38,q7z Zk)]):MT 47 (z7w (z7c Qb Je q11 Zk)):=mP (rk:=[.el C.serve]) h []
theorem w0d:MT 47 (z7w q0t):=w9y ⟨Rd,z7t,w0c,z2u,trivial⟩
def w0e(X:z7d):Con Sg:=conV [] [] [.ptr 219 [.vec 273 C.node,.map C.node C.i64,.bool]] [] fun _ K=>X (fun q0 q1 q2=>K ((q0,q1,q2,()),()) ())
theorem w9z:MT 160 (w0e j98):=mP (rk:=[.ptr 219 [.own 273 C.node,.map C.node C.i64,.v]]) (l:=[]) trivial []
def q6x(X:G7):Con Sg:=conS [.int .i64] [.bool] fun a K=>X a.1 (fun q0=>K (q0,()))
theorem z0v:MT 204 (q6x Wj):=mS (l:=[]) trivial []
def z7x(X:q31):Con Sg:=conS [.sl C.str,.sl C.str] [.bool] fun a K=>X a.1 a.2.1 (fun q0=>K (q0,()))
theorem j3r:MT 196 (z7x q9a):=mS (l:=[]) trivial [(9,⟨bl 1987,[],[],[sI 5]⟩)]
def z9j(X:q9b):Con Sg:=conS [.el C.val,.el C.val] [.bool] fun a K=>X a.1 a.2.1 (fun q0=>K (q0,()))
theorem w50{W7:q31}(h:AL [(196,z7x W7)]):MT 182 (z9j (z89 W7)):=mS h []
theorem w51:MT 182 (z9j z36):=w50 ⟨j3r,trivial⟩
end Go.En
end
noncomputable section
set_option maxRecDepth 100000
open Go Go.RowKit Go.Fl Go.Fl.Lk Go.Fx
namespace Go.En
def q1j(X:V9):Con Sg:=conS [.sl C.val,.sl C.val] [.bool] fun a K=>X a.1 a.2.1 (fun q0=>K (q0,()))
theorem j3s{z4u:q9b}(h:AL [(182,z9j z4u)]):MT 127 (q1j (q56 z4u)):=mS h [(9,⟨bl 1987,[],[],[sI 5]⟩)]
theorem z2y:MT 127 (q1j W0):=j3s ⟨w51,trivial⟩
def q1k(X:Zy):Con Sg:=conV [.el C.ex,.el C.ex] [.el C.ex,.el C.ex] [.bool] [.same,.same] fun a K=>X a.1 a.2.1 (fun q0=>K (q0,()) ((),(),()))
theorem q5d:MT 125 (q1k Vi):=by
 show MT _ (conV ([.el C.ex,.el C.ex]:LP) ([.el C.ex,.el C.ex]:LV) ([.bool]:LV) ([.same,.same]:LV) fun a K=>Vi a.1 a.2.1 (fun q0=>K (q0,()) ((),(),())))
 exact mQ (l:=[(127,q1j W0)]) (u:=4) (rk:=[.v]) ⟨z2y,trivial⟩ (by kernel_rfl) [(182000009,⟨bl 1987,[],[],[sI 5]⟩)] (fun X a K=>z0b W0 (fun a b K=>X (a,b,()) fun r _=>K r.1) a.1 a.2.1 (fun q0=>K (q0,()) ((),(),()))) (fun _ _ _=>by kernel_rfl) fun a K h X hX=>h (fun a b K=>X (a,b,()) fun r _=>K r.1) fun a b K hs=>hX (a,b,()) (fun r _=>K r.1) hs
def z0w(X:q57):Con Sg:=conS [.sl C.ex,.el C.ex] [.int .i64] fun a K=>X a.1 a.2.1 (fun q0=>K (q0,()))
theorem w2t{Za:Zy}(h:AL [(125,q1k Za)]):MT 213 (z0w (z50 Za)):=mS h [(5,⟨[0,1,3],[0],[],[sI 5]⟩)]
theorem j3t:MT 213 (z0w Vx):=w2t ⟨q5d,trivial⟩
def z5i(X:Vy):Con Sg:=conV [.sl C.ex,.el C.ex] [.sl C.ex,.el C.ex] [.sl C.ex] [.same,.same] fun a K=>X a.1 a.2.1 (fun q0=>K (q0,()) ((),(),()))
theorem j5e:MT 210 (z5i q3e):=by
 show MT _ (conV ([.sl C.ex,.el C.ex]:LP) ([.sl C.ex,.el C.ex]:LV) ([.sl C.ex]:LV) ([.same,.same]:LV) fun a K=>q3e a.1 a.2.1 (fun q0=>K (q0,()) ((),(),())))
 exact mQ (l:=[(213,z0w Vx),(204,q6x Wj)]) (u:=4) (rk:=[.sl C.ex]) ⟨j3t,z0v,trivial⟩ (by kernel_rfl) [(6,⟨[1,3,4],[0],[],[(.slot 0,.sl C.ex)]⟩),(9,⟨[1,3,4],[0],[],[(.slot 0,.sl C.ex),sI 5]⟩)] (fun X a K=>q8f Vx Wj (fun l e K=>X (l,e,()) fun r _=>K r.1) a.1 a.2.1 (fun q0=>K (q0,()) ((),(),()))) (fun _ _ _=>by kernel_rfl) fun a K h X hX=>h (fun l e K=>X (l,e,()) fun r _=>K r.1) fun l e K hs=>hX (l,e,()) (fun r _=>K r.1) hs
def q6y(X:G8):Con Sg:=conS [.sl C.rule] [.sl C.ex] fun a K=>X a.1 (fun q0=>K (q0,()))
theorem j3u{q3r:Vy}(h:AL [(210,z5i q3r)]):MT 161 (q6y (q58 q3r)):=mS h [(7,⟨[0,2],[],[],[(.slot 3,.sl C.ex),sI 4]⟩)]
theorem j3v:MT 161 (q6y q0u):=j3u ⟨j5e,trivial⟩
def q1l(X:Jy):Con Sg:=conV [.ptr 219 [.own 273 C.node,.map C.node C.i64,.v],.v] [.ptr 219 [.vec 273 C.node,.map C.node C.i64,.bool],.int .i64] [.bool] [.ptr 219 [.vec 273 C.node,.map C.node C.i64,.bool],.same] fun a K=>X a.1.1 a.1.2.1 a.1.2.2.1 a.2.1 (fun q0 q1 q2 q3=>K (q0,()) ((q1,q2,q3,()),(),()))
theorem q5e:MT 224 (q1l Uw):=mP (rk:=[.v]) (l:=[]) trivial []
def z1p(X:R9):Con Sg:=conV [.ptr 219 [.own 273 C.node,.map C.node C.i64,.v],.v] [.ptr 219 [.vec 273 C.node,.map C.node C.i64,.bool],.int .i64] [.map C.i64 C.bool] [.ptr 219 [.vec 273 C.node,.map C.node C.i64,.bool],.same] fun a K=>X a.1.1 a.1.2.1 a.1.2.2.1 a.2.1 (fun q0 q1 q2 q3=>K (q0,()) ((q1,q2,q3,()),(),()))
theorem j1g:MT 232 (z1p Ba):=mP (rk:=[.map C.i64 C.bool]) (l:=[]) trivial [(7,⟨bl 1843,[0,1,2],[],[(.slot 6,.own 3 C.i64),(.obj 3,.map C.i64 C.bool)]⟩)]
def q20(X:Ua):Con Sg:=conV [.ptr 219 [.own 273 C.node,.map C.node C.i64,.v],.v] [.ptr 219 [.vec 273 C.node,.map C.node C.i64,.bool],.int .i64] [.vec 3 C.i64] [.ptr 219 [.vec 273 C.node,.map C.node C.i64,.bool],.same] fun a K=>X a.1.1 a.1.2.1 a.1.2.2.1 a.2.1 (fun q0 q1 q2 q3=>K (q0,()) ((q1,q2,q3,()),(),()))
theorem z9k{Q2:Jy}{Bn:R9}(h:AL [(224,q1l Q2),(232,z1p Bn)]):MT 226 (q20 (q9c Q2 Bn)):=mP (rk:=[.own 3 C.i64]) h [(13,⟨bl 32563,[5,0,4,2],[],[(.slot 6,.own 3 C.i64),sI 7]⟩)]
theorem z9l:MT 226 (q20 H1):=z9k ⟨q5e,j1g,trivial⟩
def Ws(X:Zi):Con Sg:=conV [.ptr 219 [.own 273 C.node,.map C.node C.i64,.v],.v] [.ptr 219 [.vec 273 C.node,.map C.node C.i64,.bool],.int .i64] [.bool] [.ptr 219 [.vec 273 C.node,.map C.node C.i64,.bool],.same] fun a K=>X a.1.1 a.1.2.1 a.1.2.2.1 a.2.1 (fun q0 q1 q2 q3=>K (q0,()) ((q1,q2,q3,()),(),()))
theorem z48{Q2:Jy}{Ri:Ua}(h:AL [(224,q1l Q2),(226,q20 Ri)]):MT 215 (Ws (q4w Q2 Ri)):=mP (rk:=[.v]) h [(11,⟨bl 16291,[5,0,4,2],[],[sI 6]⟩)]
theorem Rw:MT 215 (Ws Jt):=z48 ⟨q5e,z9l,trivial⟩
def q3p(X:Vz):Con Sg:=conV [.ptr 219 [.own 273 C.node,.map C.node C.i64,.v],.v] [.ptr 219 [.vec 273 C.node,.map C.node C.i64,.bool],.int .i64] [.int .i64] [.ptr 219 [.vec 273 C.node,.map C.node C.i64,.bool],.same] fun a K=>X a.1.1 a.1.2.1 a.1.2.2.1 a.2.1 (fun q0 q1 q2 q3=>K (q0,()) ((q1,q2,q3,()),(),()))
theorem q8q:MT 225 (q3p Jz):=mP (rk:=[.v]) (l:=[]) trivial []
def q4l(X:Bb):Con Sg:=conV [.ptr 219 [.own 273 C.node,.map C.node C.i64,.v],.v,.v] [.ptr 219 [.vec 273 C.node,.map C.node C.i64,.bool],.int .i64,.int .i64] [.int .i64,.int .i64] [.ptr 219 [.vec 273 C.node,.map C.node C.i64,.bool],.same,.same] fun a K=>X a.1.1 a.1.2.1 a.1.2.2.1 a.2.1 a.2.2.1 (fun q0 q1 q2 q3 q4=>K (q0,q1,()) ((q2,q3,q4,()),(),(),()))
theorem j1h{Zj:Vz}(h:AL [(225,q3p Zj)]):MT 233 (q4l (z1n Zj)):=mP (rk:=[.v,.v]) h []
theorem j1i:MT 233 (q4l Wk):=j1h ⟨q8q,trivial⟩
def q1m(X:G9):Con Sg:=conV [.ptr 219 [.own 273 C.node,.map C.node C.i64,.v],.v,.v,.v] [.ptr 219 [.vec 273 C.node,.map C.node C.i64,.bool],.int .i64,.int .i64,.int .i64] [.int .i64] [.ptr 219 [.vec 273 C.node,.map C.node C.i64,.bool],.same,.same,.same] fun a K=>X a.1.1 a.1.2.1 a.1.2.2.1 a.2.1 a.2.2.1 a.2.2.2.1 (fun q0 q1 q2 q3=>K (q0,()) ((q1,q2,q3,()),(),(),(),()))
theorem j3w{Q2:Jy}{Zj:Vz}(h:AL [(224,q1l Q2),(225,q3p Zj)]):MT 214 (q1m (z2i Q2 Zj)):=mP (rk:=[.v]) h []
theorem z2z:MT 214 (q1m Z7):=j3w ⟨q5e,q8q,trivial⟩
end Go.En
end
noncomputable section
set_option maxRecDepth 100000
open Go Go.RowKit Go.Fl Go.Fl.Lk Go.Fx
namespace Go.En
def q9t(X:Jv):Con Sg:=conV [.ptr 219 [.own 273 C.node,.map C.node C.i64,.v],.v,.v,.v,.map C.a3 C.i64] [.ptr 219 [.vec 273 C.node,.map C.node C.i64,.bool],.int .i64,.int .i64,.int .i64,.map C.a3 C.i64] [.int .i64] [.ptr 219 [.vec 273 C.node,.map C.node C.i64,.bool],.same,.same,.same,.map C.a3 C.i64] fun a K=>X a.1.1 a.1.2.1 a.1.2.2.1 a.2.1 a.2.2.1 a.2.2.2.1 a.2.2.2.2.1 (fun q0 q1 q2 q3 q4=>K (q0,()) ((q1,q2,q3,()),(),(),(),q4,()))
theorem z9m:MT 227 (q9t H2):=by
 show MT _ (conV ([.ptr 219 [.own 273 C.node,.map C.node C.i64,.v],.v,.v,.v,.map C.a3 C.i64]:LP) ([.ptr 219 [.vec 273 C.node,.map C.node C.i64,.bool],.int .i64,.int .i64,.int .i64,.map C.a3 C.i64]:LV) ([.int .i64]:LV) ([.ptr 219 [.vec 273 C.node,.map C.node C.i64,.bool],.same,.same,.same,.map C.a3 C.i64]:LV) fun a K=>H2 a.1.1 a.1.2.1 a.1.2.2.1 a.2.1 a.2.2.1 a.2.2.2.1 a.2.2.2.2.1 (fun q0 q1 q2 q3 q4=>K (q0,()) ((q1,q2,q3,()),(),(),(),q4,())))
 exact mQ (l:=[(225,q3p Jz),(233,q4l Wk),(214,q1m Z7)]) (u:=4) (rk:=[.v]) ⟨q8q,j1i,z2z,trivial⟩ (by kernel_rfl) [(36,⟨bl 4951760157141239551596952607,[3,4],[(0,(219,3))],[sI 23,(.cell 0 0,.own 273 C.node),(.cell 0 2,.bool),(.obj 2,.map C.node C.i64)]⟩)] (fun X a K=>Ub Jz Wk Z7 (fun ns ids full f g h known K=>X ((ns,ids,full,()),f,g,h,known,()) fun r o=>K r.1 o.1.1 o.1.2.1 o.1.2.2.1 o.2.2.2.2.1) a.1.1 a.1.2.1 a.1.2.2.1 a.2.1 a.2.2.1 a.2.2.2.1 a.2.2.2.2.1 (fun q0 q1 q2 q3 q4=>K (q0,()) ((q1,q2,q3,()),(),(),(),q4,()))) (fun _ _ _=>by kernel_rfl) fun a K h X hX=>h (fun ns ids full f g h known K=>X ((ns,ids,full,()),f,g,h,known,()) fun r o=>K r.1 o.1.1 o.1.2.1 o.1.2.2.1 o.2.2.2.2.1) fun ns ids full f g h known K hs=>hX ((ns,ids,full,()),f,g,h,known,()) (fun r o=>K r.1 o.1.1 o.1.2.1 o.1.2.2.1 o.2.2.2.2.1) hs
def Uk(X:Zz):Con Sg:=conV [.ptr 219 [.own 273 C.node,.map C.node C.i64,.v],.v,.v,.v] [.ptr 219 [.vec 273 C.node,.map C.node C.i64,.bool],.int .i64,.int .i64,.int .i64] [.int .i64] [.ptr 219 [.vec 273 C.node,.map C.node C.i64,.bool],.same,.same,.same] fun a K=>X a.1.1 a.1.2.1 a.1.2.2.1 a.2.1 a.2.2.1 a.2.2.2.1 (fun q0 q1 q2 q3=>K (q0,()) ((q1,q2,q3,()),(),(),(),()))
theorem z9n{Qt:Zi}{Q2:Jy}{Rj:Jv}(h:AL [(215,Ws Qt),(224,q1l Q2),(227,q9t Rj)]):MT 216 (Uk (q9d Qt Q2 Rj)):=mP (rk:=[.v]) h []
theorem q21:MT 216 (Uk Ww):=z9n ⟨Rw,q5e,z9m,trivial⟩
def q8r(X:q3f):Con Sg:=conV [.ptr 219 [.own 273 C.node,.map C.node C.i64,.v],.v] [.ptr 219 [.vec 273 C.node,.map C.node C.i64,.bool],.int .i64] [.int .i64] [.ptr 219 [.vec 273 C.node,.map C.node C.i64,.bool],.same] fun a K=>X a.1.1 a.1.2.1 a.1.2.2.1 a.2.1 (fun q0 q1 q2 q3=>K (q0,()) ((q1,q2,q3,()),(),()))
theorem j5f{Q6:Zz}(h:AL [(216,Uk Q6)]):MT 211 (q8r (z5f Q6)):=mP (rk:=[.v]) h []
theorem j5g:MT 211 (q8r Gk):=j5f ⟨q21,trivial⟩
def q8s(X:q3g):Con Sg:=conV [.ptr 219 [.own 273 C.node,.map C.node C.i64,.v],.v,.v] [.ptr 219 [.vec 273 C.node,.map C.node C.i64,.bool],.int .i64,.int .i64] [.int .i64] [.ptr 219 [.vec 273 C.node,.map C.node C.i64,.bool],.same,.same] fun a K=>X a.1.1 a.1.2.1 a.1.2.2.1 a.2.1 a.2.2.1 (fun q0 q1 q2 q3=>K (q0,()) ((q1,q2,q3,()),(),(),()))
theorem j5h{Qt:Zi}{Q6:Zz}(h:AL [(215,Ws Qt),(216,Uk Q6)]):MT 212 (q8s (z5g Qt Q6)):=mP (rk:=[.v]) h []
theorem j5i:MT 212 (q8s Gl):=j5h ⟨Rw,q21,trivial⟩
def q5f(X:H3):Con Sg:=conV [.ptr 219 [.own 273 C.node,.map C.node C.i64,.v],.v,.v] [.ptr 219 [.vec 273 C.node,.map C.node C.i64,.bool],.int .i64,.int .i64] [.int .i64] [.ptr 219 [.vec 273 C.node,.map C.node C.i64,.bool],.same,.same] fun a K=>X a.1.1 a.1.2.1 a.1.2.2.1 a.2.1 a.2.2.1 (fun q0 q1 q2 q3=>K (q0,()) ((q1,q2,q3,()),(),(),()))
theorem j77{Qt:Zi}{Q6:Zz}(h:AL [(215,Ws Qt),(216,Uk Q6)]):MT 163 (q5f (z7e Qt Q6)):=mP (rk:=[.v]) h []
theorem z7y:MT 163 (q5f Ux):=j77 ⟨Rw,q21,trivial⟩
def z20(X:W1):Con Sg:=conV [.ptr 219 [.own 273 C.node,.map C.node C.i64,.v],.sl C.ex,.el C.ex] [.ptr 219 [.vec 273 C.node,.map C.node C.i64,.bool],.sl C.ex,.el C.ex] [.int .i64] [.ptr 219 [.vec 273 C.node,.map C.node C.i64,.bool],.same,.same] fun a K=>X a.1.1 a.1.2.1 a.1.2.2.1 a.2.1 a.2.2.1 (fun q0 q1 q2 q3=>K (q0,()) ((q1,q2,q3,()),(),(),()))
theorem j3x:MT 162 (z20 q0v):=by
 show MT _ (conV ([.ptr 219 [.own 273 C.node,.map C.node C.i64,.v],.sl C.ex,.el C.ex]:LP) ([.ptr 219 [.vec 273 C.node,.map C.node C.i64,.bool],.sl C.ex,.el C.ex]:LV) ([.int .i64]:LV) ([.ptr 219 [.vec 273 C.node,.map C.node C.i64,.bool],.same,.same]:LV) fun a K=>q0v a.1.1 a.1.2.1 a.1.2.2.1 a.2.1 a.2.2.1 (fun q0 q1 q2 q3=>K (q0,()) ((q1,q2,q3,()),(),(),())))
 exact mQ (l:=[(211,q8r Gk),(212,q8s Gl),(163,q5f Ux),(213,z0w Vx),(214,q1m Z7)]) (u:=4) (rk:=[.v]) ⟨j5g,j5i,z7y,j3t,z2z,trivial⟩ (by kernel_rfl) [(16,⟨bl 129127,[3,0,1,2],[],[sB 26]⟩),(21,⟨bl 68249843815,[3],[(0,(219,3))],[sI 7,sI 8,(.cell 0 0,.own 273 C.node),(.cell 0 2,.bool),(.obj 2,.map C.node C.i64)]⟩)] (fun X a K=>q59 Gk Gl Ux Vx Z7 (fun ns ids full atoms e K=>X ((ns,ids,full,()),atoms,e,()) fun r o=>K r.1 o.1.1 o.1.2.1 o.1.2.2.1) a.1.1 a.1.2.1 a.1.2.2.1 a.2.1 a.2.2.1 (fun q0 q1 q2 q3=>K (q0,()) ((q1,q2,q3,()),(),(),()))) (fun _ _ _=>by kernel_rfl) fun a K h X hX=>h (fun ns ids full atoms e K=>X ((ns,ids,full,()),atoms,e,()) fun r o=>K r.1 o.1.1 o.1.2.1 o.1.2.2.1) fun ns ids full atoms e K hs=>hX ((ns,ids,full,()),atoms,e,()) (fun r o=>K r.1 o.1.1 o.1.2.1 o.1.2.2.1) hs
def Ul(X:Z0):Con Sg:=conS [.sl C.rule] [.vec 3 C.i64,.int .i64,.bool] fun a K=>X a.1 (fun q0 q1 q2=>K (q0,q1,q2,()))
theorem z9o{z8i:z7d}{q12:G8}{q13:W1}{Rk:H3}(h:AL [(160,w0e z8i),(161,q6y q12),(162,z20 q13),(163,q5f Rk)]):MT 103 (Ul (q2m z8i q12 q13 Rk)):=mS h [(13,⟨bl 28769,[],[(0,(219,3))],[sI 7,(.slot 8,.own 3 C.i64),sI 9,(.cell 0 0,.own 273 C.node),(.cell 0 2,.bool),(.obj 2,.map C.node C.i64)]⟩)]
theorem q22:MT 103 (Ul Jw):=z9o ⟨w9z,j3v,j3x,z7y,trivial⟩
def j3y(X:z2j):Con Sg:=conV [.ptr 78 [.c,.v],.v] [.ptr 78 [.sl C.u8,.int .i64],.str] [.el C.layer] [.ptr 78 [.same,.int .i64],.same] fun a K=>X a.1.1 a.1.2.1 a.2.1 (fun q0 q1=>K (q0,()) (((),q1,()),(),()))
theorem w90{Je:H0}{Qb:Zu}{Jg:q0q}(h:AL [(39,z0u Je),(33,U5 Qb),(34,z4m Jg)]):MT 43 (j3y (j3g Je Qb Jg)):=mP (rk:=[.el C.layer]) h [(8,⟨bl 130099,[1],[(2,(61,6)),(0,(78,2))],[(.cell 2 1,.str),(.cell 0 1,.int .i64)]⟩),(12,⟨bl 130099,[1],[(2,(61,6)),(0,(78,2))],[(.cell 2 3,.int .i64),(.cell 0 1,.int .i64)]⟩),(17,⟨bl 130099,[1],[(2,(61,6)),(0,(78,2))],[sI 6,sI 7,(.cell 2 5,.own 125 C.cool),(.cell 0 1,.int .i64)]⟩)]
theorem w91:MT 43 (j3y z7f):=w90 ⟨z7t,Rd,j2d,trivial⟩
def z9p(X:q5p):Con Sg:=conS [.int .i64] [.bool] fun a K=>X a.1 (fun q0=>K (q0,()))
theorem j6v:MT 66 (z9p q9e):=mS (l:=[]) trivial []
def Re(X:Ja):Con Sg:=conS [.el C.env,.str] [.int .i64] fun a K=>X a.1 a.2.1 (fun q0=>K (q0,()))
theorem q1n:MT 20 (Re Wu):=mS (l:=[]) trivial [(5,⟨[0,1,2],[0],[],[sI 5]⟩)]
def q6z(X:Uc):Con Sg:=conS [.sl C.cool,.int .i64] [.vec 3 C.i64] fun a K=>X a.1 a.2.1 (fun q0=>K (q0,()))
theorem z21:MT 96 (q6z W2):=mS (l:=[]) trivial [(7,⟨bl 563,[],[],[sI 6,(.obj 0,.own 3 C.i64)]⟩),(15,⟨bl 15987,[],[],[sI 7,(.obj 0,.own 3 C.i64)]⟩),(21,⟨bl 4243603187,[],[],[sI 8,(.obj 0,.own 3 C.i64)]⟩)]
def q23(X:Wl):Con Sg:=conS [.sl C.bool] [.vec 75 C.span] fun a K=>X a.1 (fun q0=>K (q0,()))
theorem q60:MT 84 (q23 Wm):=mS (l:=[]) trivial [(7,⟨[0,2],[],[],[(.slot 3,.own 75 C.span),sI 4]⟩)]
end Go.En
end
