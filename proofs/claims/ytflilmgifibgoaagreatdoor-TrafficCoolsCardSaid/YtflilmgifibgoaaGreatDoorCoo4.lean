/- TrafficCools This is part 4 of 10. Conditions: those in the statements. -/
import Derived.Test.YtflilmgifibgoaaGreatDoorProg
import Derived.Test.YtflilmgifibgoaaGreatDoorCoo3
import Derived.Lib.ValidU
import Derived.KernelRfl
import Derived.Conc.MuLone
import Derived.Shelf.Slices.Equal
import Derived.Ground.Names2Prog
import Derived.Shelf.Slices.Clone
import Derived.Shelf.Slices.Empties2
import Derived.Ground.SlgnProg
import Derived.Shelf.SlicesE.Clone
import Derived.Ground.NamesProg
import Derived.Shelf.Unicode.ValidAny
import Derived.Shelf.SlIter.Sorted
import Derived.Ground.GgzProg
noncomputable section
set_option maxRecDepth 100000
open Go Go.RowKit Go.Fl Go.Fl.Lk Go.Fx
namespace Go.En
abbrev Vn:Type:=List (Spn)->(List (Spn)->Prop)->Prop
def Vo(l:List (Spn))(K:List (Spn)->Prop):Prop:=K ((Go.Fl.Sp.runs (Go.Fl.Sp.cov (l.map fun s=>(s.lo,s.hi))) 10000).map fun s=>Spn.mk s.1 s.2)
abbrev Gz:Type:=List (Spn)->(Int->Prop)->Prop
def Vu(l:List (Spn))(K:Int->Prop):Prop:=K ((Go.Fl.Sp.cnt (Go.Fl.Sp.cov (l.map fun s=>(s.lo,s.hi))) 10000:Nat):Int)
abbrev H4:Type:=(Bool->Prop)->Prop
def q56(Zs:Vn)(Jb:Gz):H4:=fun K=>Zs [Spn.mk (5:Int) (9:Int),Spn.mk (0:Int) (5:Int),Spn.mk (7:Int) (7:Int)] fun Qc=>Fits Qc->Cnd ((↑Qc.length:Int)=1) (((0:Int)<=(0:Int)/\(0:Int)<(↑Qc.length:Int))/\ ∀y2,Qc[Int.toNat (0:Int)]? =some y2->Cnd (y2.1=0/\y2.2=9) (Jb Qc fun Qx=>K (decide (Qx=9))) (K false)) (K false)
def q1t:H4:=q56 Vo Vu
abbrev z37:Type:=Int->Int->(Int->Prop)->Prop
def z7w:z37:=fun x n K=>n≠(0:Int)/\Cnd (x.tmod n<0) (InI (x.tmod n+n)/\K (x.tmod n+n)) (K (x.tmod n))
abbrev j1y:Type:=List (Int)->Int->(List (Int)->Int->Prop)->Prop
def j1z:j1y:=fun list_ most K=>Jn1 (fun Qc=>K Qc (0:Int)) fun z61=>Fits list_->Cnd (most<(↑list_.length:Int)) (((0:Int)<=(0:Int)/\(0:Int)<=most/\most<=(↑list_.length:Int))/\z61 (List.drop (Int.toNat (0:Int)) (List.take most.toNat list_))) (z61 list_)
abbrev Vb:Type:=(List (Decl)->Prop)->Prop
def Uc:Vb:=fun K=>K [Decl.mk (B8 [100,101,118,105,99,101]) (B8 [99,111,114,101,115]) (2:Int),Decl.mk (B8 [100,101,118,105,99,101]) (B8 [111,115]) (3:Int),Decl.mk (B8 [117,115,101,114]) (B8 [97,103,101]) (2:Int),Decl.mk (B8 [117,115,101,114]) (B8 [97,112,112]) (4:Int),Decl.mk (B8 [117,115,101,114]) (B8 [98,101,116,97]) (1:Int),Decl.mk (B8 [117,115,101,114]) (B8 [99,111,117,110,116,114,121]) (3:Int),Decl.mk (B8 [117,115,101,114]) (B8 [112,108,97,110]) (3:Int),Decl.mk (B8 [117,115,101,114]) (B8 [116,97,103,115]) (5:Int)]
abbrev z6t:Type:=List (Int)->Int->(Bool->Int->Prop)->Prop
def j10:z6t:=fun list at_ K=>Fits list->K (decide (at_<(↑list.length:Int))) at_
abbrev Zp:Type:=List (Int)->Int->Int->(Int->Int->Prop)->Prop
def j11(z62:z6t):Zp:=fun list at_ n K=>z62 list at_ fun Qc Q9=>Cnd (Qc=true) (InI (Q9+1)/\InI (Q9+1 - (1:Int))/\((0:Int)<=Q9+1 - (1:Int)/\Q9+1 - (1:Int)<(↑list.length:Int))/\ ∀y1,list[(Q9+1 - (1:Int)).toNat]? =some y1->InI y1/\n≠(0:Int)/\K (y1.tmod n) (Q9+1)) (K (0:Int) Q9)
def Wa:Zp:=j11 j10
abbrev H5:Type:=List (Int)->Int->(ByteArray->Int->Prop)->Prop
def j12(Qa:Zp):H5:=fun list at_ K=>Qa list at_ (11:Int) fun Qc Q9=>((0:Int)<=Qc/\Qc<(↑(11:Nat):Int))/\ ∀y1,z2e[Qc.toNat]? =some y1->K y1 Q9
def q57:H5:=j12 Wa
abbrev q1u:Type:=List (Int)->Int->Int->(Int->Int->Prop)->Prop
def j13(Qa:Zp):q1u:=fun list at_ n K=>Qa list at_ (256:Int) fun Qc Q9=>InI ((256:Int)*Qc)/\Qa list Q9 (256:Int) fun Qe Zd=>InI ((256:Int)*Qc+Qe)/\n≠(0:Int)/\K (((256:Int)*Qc+Qe).tmod n) Zd
def q9l:q1u:=j13 Wa
abbrev q9m:Type:=Int->List (ByteArray)->(List (ByteArray)->Prop)->Prop
def z6u:q9m:=fun n l K=>((0:Int)<=n/\n<=(↑l.length:Int))/\K (List.take n.toNat l)
abbrev q58:Type:=List (Int)->Int->(List (ByteArray)->Int->Prop)->Prop
def j14(Qa:Zp):q58:=fun list at_ K=>Qa list at_ (10:Int) fun Qc Q9=>Lp3 (fun Qe Zd z9q w0x=>Qa list z9q (4:Int) fun Qr Zv=>Cnd (Zd<Qr) (InI (Qc+Zd)/\(10:Int)≠(0:Int)/\InI ((48:Int)+(Qc+Zd).tmod (10:Int))/\(↑((B8 [107]).size+(Go.Utf8.encode (Go.IntKind.i32.wrap ((48:Int)+(Qc+Zd).tmod (10:Int)))).size):Int)<=(9223372036854775807:Int)/\Sml (Qe++[B8 [107]++Go.Utf8.encode (Go.IntKind.i32.wrap ((48:Int)+(Qc+Zd).tmod (10:Int)))]).length/\InI (Zd+1)/\w0x (Qe++[B8 [107]++Go.Utf8.encode (Go.IntKind.i32.wrap ((48:Int)+(Qc+Zd).tmod (10:Int)))]) (Zd+1) Zv) (Lp2 (fun Q7 V7 z63=>Fits V7->CAt V7 Q7 (fun y5=>InI (Q7 - 1)/\((0:Int)<=Q7 - 1/\Q7 - 1<(↑V7.length:Int))/\ ∀y7,V7[(Q7 - 1).toNat]? =some y7->Cnd (Lk.blt y7 y5) (InI (Q7+1)/\z63 (Q7+1) V7) (((0:Int)<=Q7/\Q7<=(↑V7.length:Int))/\K (List.take Q7.toNat V7) Zv)) (K V7 Zv)) (1:Int) Qe)) [] (0:Int) Q9
def z2f:q58:=j14 Wa
abbrev z7x:Type:=List (Int)->Int->(ByteArray->Int->Prop)->Prop
def j6m(Qa:Zp):z7x:=fun list at_ K=>Qa list at_ (10:Int) fun Qc Q9=>InI ((48:Int)+Qc)/\(↑((B8 [107]).size+(Go.Utf8.encode (Go.IntKind.i32.wrap ((48:Int)+Qc))).size):Int)<=(9223372036854775807:Int)/\K (B8 [107]++Go.Utf8.encode (Go.IntKind.i32.wrap ((48:Int)+Qc))) Q9
def j15:z7x:=j6m Wa
abbrev q2n:Type:=List (Int)->Int->Int->(Val->Int->Prop)->Prop
def z2g(Qa:Zp)(Jj:H5):q2n:=fun list at_ kind K=>Cnd (kind=1) (Qa list at_ (2:Int) fun Qc Q9=>K (Val.mk kind Qc (B8 []) []) Q9) (Cnd (kind=2) ([(0:Int),(1:Int),(17:Int),(18:Int),(19:Int),(-5:Int),(64:Int),(1099511627776:Int),(-1099511627776:Int)].length<=(9223372036854775807:Nat)->Qa list at_ (↑[(0:Int),(1:Int),(17:Int),(18:Int),(19:Int),(-5:Int),(64:Int),(1099511627776:Int),(-1099511627776:Int)].length:Int) fun Qe Zd=>((0:Int)<=Qe/\Qe<(↑[(0:Int),(1:Int),(17:Int),(18:Int),(19:Int),(-5:Int),(64:Int),(1099511627776:Int),(-1099511627776:Int)].length:Int))/\ ∀y2,[(0:Int),(1:Int),(17:Int),(18:Int),(19:Int),(-5:Int),(64:Int),(1099511627776:Int),(-1099511627776:Int)][Qe.toNat]? =some y2->K (Val.mk kind y2 (B8 []) []) Zd) (Cnd (kind=3) (Jj list at_ fun Qc Q9=>K (Val.mk kind (0:Int) Qc []) Q9) (Cnd (kind=4) (Qa list at_ (6:Int) fun Qc Q9=>((0:Int)<=Qc/\Qc<(↑(6:Nat):Int))/\ ∀y1,q71[Qc.toNat]? =some y1->K (Val.mk kind (0:Int) y1 []) Q9) (Qa list at_ (5:Int) fun Qc Q9=>((0:Int)<=Qc/\Qc<(↑(5:Nat):Int))/\ ∀y1,z7t[Qc.toNat]? =some y1->Sml ([]++y1).length/\K (Val.mk (5:Int) (0:Int) (B8 []) ([]++y1)) Q9))))
def H6:q2n:=z2g Wa q57
abbrev z6v:Type:=List (Int)->Int->(Ex->Int->Prop)->Prop
def j16(Zb:Vb)(Qa:Zp)(j3a:z7x)(Ju:q2n):z6v:=fun list at_ K=>Zb fun Qc=>Fits Qc->InI ((↑Qc.length:Int)+1)/\Qa list at_ ((↑Qc.length:Int)+1) fun Qr Zv=>Fits Qc->Cnd (Qr=(↑Qc.length:Int)) (j3a list Zv fun Qx V8=>K (Ex.mk (7:Int) (B8 [117,115,101,114]) (B8 [107,101,121]) [Val.mk (3:Int) (0:Int) Qx []] []) V8) (At Qc Qr fun y4=>Jn1 (fun (J1:Int×ByteArray×ByteArray×List Val×List Ex×Int×Int×ByteArray×ByteArray×List Val×List Ex×Unit)=>Ju list J1.2.2.2.2.2.1 y4.3 fun V4 q7o=>K (Ex.mk (7:Int) J1.2.1 J1.2.2.1 [V4] J1.2.2.2.2.1) q7o) fun (v25:Int×ByteArray×ByteArray×List Val×List Ex×Int×Int×ByteArray×ByteArray×List Val×List Ex×Unit->Prop)=>Qa list Zv (5:Int) fun V4 q7o=>Jn1 (fun (W9:Int×Int×ByteArray×ByteArray×List Val×List Ex×Int×ByteArray×ByteArray×List Val×List Ex×Unit)=>Cnd (y4.3=2) (Qa list W9.1 (4:Int) fun Jk z1z=>InI ((12:Int)+Jk)/\Ju list z1z y4.3 fun Zy Gi=>K (Ex.mk ((12:Int)+Jk) W9.2.2.1 W9.2.2.2.1 [Zy] W9.2.2.2.2.2.1) Gi) (Cnd (y4.3=3) (Qa list W9.1 (4:Int) fun Jk z1z=>InI ((12:Int)+Jk)/\Ju list z1z y4.3 fun Zy Gi=>K (Ex.mk ((12:Int)+Jk) W9.2.2.1 W9.2.2.2.1 [Zy] W9.2.2.2.2.2.1) Gi) (Cnd (y4.3=4) (Qa list W9.1 (4:Int) fun Jk z1z=>InI ((12:Int)+Jk)/\Ju list z1z y4.3 fun Zy Gi=>K (Ex.mk ((12:Int)+Jk) W9.2.2.1 W9.2.2.2.1 [Zy] W9.2.2.2.2.2.1) Gi) (v25 (W9.2.1,W9.2.2.1,W9.2.2.2.1,W9.2.2.2.2.1,W9.2.2.2.2.2.1,W9.1,W9.2.2.2.2.2.2.1,W9.2.2.2.2.2.2.2.1,W9.2.2.2.2.2.2.2.2.1,W9.2.2.2.2.2.2.2.2.2.1,W9.2.2.2.2.2.2.2.2.2.2.1,()))))) fun (w7m:Int×Int×ByteArray×ByteArray×List Val×List Ex×Int×ByteArray×ByteArray×List Val×List Ex×Unit->Prop)=>Cnd (V4=0) (K (Ex.mk (6:Int) y4.1 y4.2 [] []) q7o) (Cnd (V4=1) (Cnd (y4.3=5) (v25 ((0:Int),y4.1,y4.2,[],[],q7o,(0:Int),B8 [],B8 [],[],[],())) (Lp3 (fun Jk z1z v49 v5a=>Qa list v49 (3:Int) fun Zy Gi=>Cnd (Jk<=Zy) (Ju list Gi y4.3 fun Gj j3b=>Sml (z1z++[Gj]).length/\InI (Jk+1)/\v5a (Jk+1) (z1z++[Gj]) j3b) (K (Ex.mk (8:Int) y4.1 y4.2 z1z []) Gi)) (0:Int) [] q7o)) (Cnd (V4=2) (Cnd (y4.3=3) (Ju list q7o (3:Int) fun Jk z1z=>K (Ex.mk (11:Int) y4.1 y4.2 [Jk] []) z1z) (Cnd (y4.3=5) (Ju list q7o (3:Int) fun Jk z1z=>K (Ex.mk (11:Int) y4.1 y4.2 [Jk] []) z1z) (v25 ((0:Int),y4.1,y4.2,[],[],q7o,(0:Int),B8 [],B8 [],[],[],())))) (Cnd (V4=3) (Cnd (y4.3=3) (Qa list q7o (2:Int) fun Jk z1z=>InI ((9:Int)+Jk)/\Ju list z1z (3:Int) fun Zy Gi=>K (Ex.mk ((9:Int)+Jk) y4.1 y4.2 [Zy] []) Gi) (w7m (q7o,(0:Int),y4.1,y4.2,[],[],(0:Int),B8 [],B8 [],[],[],()))) (Cnd (V4=4) (w7m (q7o,(0:Int),y4.1,y4.2,[],[],(0:Int),B8 [],B8 [],[],[],())) (v25 ((0:Int),y4.1,y4.2,[],[],q7o,(0:Int),B8 [],B8 [],[],[],())))))))
def q9n:z6v:=j16 Uc Wa j15 H6
abbrev q1v:Type:=List (Int)->Int->List (ByteArray)->Int->(Ex->Int->Prop)->Prop
def z6w(Qa:Zp)(j89:z6v)(X:q1v):q1v:=fun list at_ segments levels K=>Qa list at_ (8:Int) fun Qc Q9=>Jn1 (fun Qe=>Cnd (Qe=0) (K (Ex.mk (1:Int) (B8 []) (B8 []) [] []) Q9) (Cnd (Qe=3) (Fits segments->Cnd ((0:Int)<(↑segments.length:Int)) (Fits segments->Qa list Q9 (↑segments.length:Int) fun Qx V8=>At segments Qx fun y5=>K (Ex.mk (5:Int) (B8 []) y5 [] []) V8) (j89 list Q9 fun Q7 V7=>K (Ex.mk Q7.1 Q7.2 Q7.3 Q7.4 Q7.5) V7)) (Cnd (Qe=4) (InI (levels - 1)/\X list Q9 segments (levels - 1) fun Qr Zv=>K (Ex.mk (4:Int) (B8 []) (B8 []) [] [Ex.mk Qr.1 Qr.2 Qr.3 Qr.4 Qr.5]) Zv) (Jn1 (fun Qr=>Cnd (Qr=true) (Qa list Q9 (2:Int) fun Q7 V7=>InI ((2:Int)+Q7)/\Qa list V7 (2:Int) fun Qx V8=>InI ((2:Int)+Qx)/\LpH (fun (Q0:Int×Int×Int×ByteArray×ByteArray×List Val×List Ex×Unit) (v4h:Int×Int×Int×ByteArray×ByteArray×List Val×List Ex×Unit->Prop)=>Cnd (Q0.1<2+Qx) (InI (levels - 1)/\X list Q0.2.1 segments (levels - 1) fun J1 j0f=>Jn1 (fun (V4:Int×ByteArray×ByteArray×List Val×List Ex×Unit)=>Sml (Q0.2.2.2.2.2.2.1++[Ex.mk V4.1 V4.2.1 V4.2.2.1 V4.2.2.2.1 V4.2.2.2.2.1]).length/\InI (Q0.1+1)/\v4h (Q0.1+1,j0f,Q0.2.2.1,Q0.2.2.2.1,Q0.2.2.2.2.1,Q0.2.2.2.2.2.1,Q0.2.2.2.2.2.2.1++[Ex.mk V4.1 V4.2.1 V4.2.2.1 V4.2.2.2.1 V4.2.2.2.2.1],())) fun (v42:Int×ByteArray×ByteArray×List Val×List Ex×Unit->Prop)=>Cnd (J1.1=2+Q7) (v42 ((4:Int),B8 [],B8 [],[],[Ex.mk J1.1 J1.2 J1.3 J1.4 J1.5],())) (v42 (J1.1,J1.2,J1.3,J1.4,J1.5,()))) (K (Ex.mk Q0.2.2.1 Q0.2.2.2.1 Q0.2.2.2.2.1 Q0.2.2.2.2.2.1 Q0.2.2.2.2.2.2.1) Q0.2.1)) ((0:Int),V8,(2:Int)+Q7,B8 [],B8 [],[],[],())) (j89 list Q9 fun Q7 V7=>K (Ex.mk Q7.1 Q7.2 Q7.3 Q7.4 Q7.5) V7)) fun j3c=>Cnd (Qe=5) (j3c (decide (Qe=5))) (j3c (decide (Qe=6))))))) fun j7u=>Cnd (levels<=1) (Cnd ((4:Int)<=Qc) (InI (Qc - 4)/\j7u (Qc - 4)) (j7u Qc)) (j7u Qc)
def z2h:q1v:=fun list at_ segments levels K=> ∀X:q1v,(∀list at_ segments levels K,z6w Wa q9n X list at_ segments levels K->X list at_ segments levels K)->X list at_ segments levels K
abbrev q0w:Type:=List (Int)->Int->ByteArray->ByteArray->Int->List (Decl)->List (Seg)->List (Flg)->List (Lay_)->List (Exper)->(Int->ByteArray->ByteArray->Int->List (Decl)->List (Seg)->List (Flg)->List (Lay_)->List (Exper)->Prop)->Prop
def q72(Qa:Zp)(Bb:q9m)(q0p:q58)(q0q:q1v):q0w:=fun list at_ salt hkind hold attrs segs flags layers expers K=>Qa list at_ (4:Int) fun Qc Q9=>Bb Qc [B8 [97,108,112,104,97],B8 [98,101,116,97],B8 [103,97,109,109,97]] fun Qe=>Lp3 (fun Qr Zv q4k v5b=>Fits Qe->CAt Qe Qr (fun y4=>q0p list Zv fun J1 j0f=>q0p list j0f fun V4 q7o=>Jn2 (fun W9 w8m=>Jn1 (fun (Jk:Int×ByteArray×ByteArray×List Val×List Ex×Int×Unit)=>Sml (q4k++[Seg.mk y4 W9 J1 V4 (Ex.mk Jk.1 Jk.2.1 Jk.2.2.1 Jk.2.2.2.1 Jk.2.2.2.2.1)]).length/\InI (Qr+1)/\v5b (Qr+1) Jk.2.2.2.2.2.1 (q4k++[Seg.mk y4 W9 J1 V4 (Ex.mk Jk.1 Jk.2.1 Jk.2.2.1 Jk.2.2.2.1 Jk.2.2.2.2.1)])) fun (v43:Int×ByteArray×ByteArray×List Val×List Ex×Int×Unit->Prop)=>Qa list w8m (3:Int) fun Zy Gi=>Cnd ((0:Int)<Zy) (((0:Int)<=(0:Int)/\(0:Int)<=Qr/\Qr<=(↑Qe.length:Int))/\q0q list Gi (List.drop (Int.toNat (0:Int)) (List.take Qr.toNat Qe)) (3:Int) fun Gj j3b=>v43 (Gj.1,Gj.2,Gj.3,Gj.4,Gj.5,j3b,())) (v43 ((0:Int),B8 [],B8 [],[],[],Gi,()))) fun w7m=>Qa list q7o (4:Int) fun Jk z1z=>Cnd (Jk=1) (w7m (B8 [100,101,118,105,99,101]) z1z) (w7m (B8 [117,115,101,114]) z1z)) (K Zv salt hkind hold attrs q4k flags layers expers)) (0:Int) Q9 segs
def q30:q0w:=q72 Wa z6u z2f z2h
abbrev H7:Type:=Envt->(List (ByteArray)->Prop)->Prop
def H8:H7:=fun v K=>Lp2 (fun Qc Q9 q0r=>Fits v.3->CAt v.3 Q9 (fun y2=>Sml (Qc++[y2.1]).length/\InI (Q9+1)/\q0r (Qc++[y2.1]) (Q9+1)) (K Qc)) [] (0:Int)
abbrev q2o:Type:=List (Int)->Int->Int->(List (Rng)->Int->Prop)->Prop
def z7y(Qa:Zp)(Jx:q1u):q2o:=fun list at_ n K=>Jn4 (fun Qc Q9 w7n z5v=>Qa list z5v n fun Qe Zd=>InI ((1:Int)+Qe)/\Jn1 (fun Qr=>Sml (Qc++[Rng.mk Q9 (10000:Int) Qr]).length/\K (Qc++[Rng.mk Q9 (10000:Int) Qr]) Zd) fun j3c=>Cnd ((1:Int)+Qe=w7n) (n≠(0:Int)/\InI ((1:Int)+((1:Int)+Qe).tmod n)/\j3c ((1:Int)+((1:Int)+Qe).tmod n)) (j3c ((1:Int)+Qe))) fun z61=>Lp5 (fun Qe Zd z9q j1i v5c v5d=>Qa list v5c (4:Int) fun Qr Zv=>Cnd (j1i<Qr) (Cnd ((1:Int)<n) (InI (Zd+1)/\Jx list Zv (5000:Int) fun Q7 V7=>InI (Zd+1+Q7)/\Qa list V7 n fun Qx V8=>InI ((1:Int)+Qx)/\Jn1 (fun Q0=>Cnd ((10000:Int)<=Zd+1+Q7) (z61 Qe Zd z9q V8) (Sml (Qe++[Rng.mk Zd (Zd+1+Q7) Q0]).length/\InI (j1i+1)/\v5d (Qe++[Rng.mk Zd (Zd+1+Q7) Q0]) (Zd+1+Q7) Q0 (j1i+1) V8)) fun v44=>Cnd ((1:Int)+Qx=z9q) (n≠(0:Int)/\InI ((1:Int)+((1:Int)+Qx).tmod n)/\v44 ((1:Int)+((1:Int)+Qx).tmod n)) (v44 ((1:Int)+Qx))) (z61 Qe Zd z9q Zv)) (z61 Qe Zd z9q Zv)) [] (0:Int) (0:Int) (0:Int) at_
def q73:q2o:=z7y Wa q9l
abbrev q74:Type:=List (Int)->Int->Int->(Srv->Int->Prop)->Prop
def z7z(Qa:Zp)(Jj:H5)(Bc:q2o)(Zb:Vb):q74:=fun list at_ n K=>Qa list at_ (2:Int) fun Qc Q9=>Cnd (Qc=0) (Qa list Q9 n fun Qe Zd=>InI ((1:Int)+Qe)/\K (Srv.mk ((1:Int)+Qe) (B8 []) (B8 []) (B8 []) []) Zd) (Jj list Q9 fun Qe Zd=>Bc list Zd n fun Qr Zv=>Zb fun Q7=>Qa list Zv (12:Int) fun Qx V8=>Fits Q7->CAt Q7 Qx (fun y6=>Cnd (y6.3=5) (K (Srv.mk (0:Int) (B8 [117,115,101,114]) (B8 [107,101,121]) Qe Qr) V8) (At Q7 Qx fun y8=>At Q7 Qx fun y10=>K (Srv.mk (0:Int) y8.1 y10.2 Qe Qr) V8)) (K (Srv.mk (0:Int) (B8 [117,115,101,114]) (B8 [107,101,121]) Qe Qr) V8))
def z2i:q74:=z7z Wa q57 q73 Uc
abbrev z2j:Type:=(List (Nd)->(Nd->Option (Int))->Bool->Prop)->Prop
def j4g:z2j:=fun K=>K [] (fun _=>none) false
abbrev Ud:Type:=Int->(Bool->Prop)->Prop
def Jp:Ud:=fun op K=>Cnd ((6:Int)<=op) (K (decide (op<=15))) (K false)
abbrev z2k:Type:=List (ByteArray)->List (ByteArray)->(Bool->Prop)->Prop
def z2l:z2k:=fun a b K=>Fits a->Fits b->Cnd ((↑a.length:Int)=(↑b.length:Int)) (Lp1 (fun Qr w02=>Fits a->CAt a Qr (fun y4=>At b Qr fun y6=>Cnd (y4=y6) (InI (Qr+1)/\w02 (Qr+1)) (K false)) (K true)) (0:Int)) (K false)
abbrev q5b:Type:=Val->Val->(Bool->Prop)->Prop
def z38(z3h:z2k):q5b:=fun a b K=>Cnd (a.1=b.1) (Cnd (a.2=b.2) (Cnd (a.3=b.3) (z3h a.4 b.4 fun Qc=>K Qc) (K false)) (K false)) (K false)
def q9o:q5b:=z38 z2l
abbrev H9:Type:=List (Val)->List (Val)->(Bool->Prop)->Prop
def q2p(q97:q5b):H9:=fun a b K=>Fits a->Fits b->Cnd ((↑a.length:Int)=(↑b.length:Int)) (Lp1 (fun Qr w02=>Fits a->CAt a Qr (fun y4=>At b Qr fun y6=>q97 y4 y6 fun W9=>Cnd (W9=true) (InI (Qr+1)/\w02 (Qr+1)) (K false)) (K true)) (0:Int)) (K false)
def Wy:H9:=q2p q9o
abbrev Vf:Type:=Ex->Ex->(Bool->Prop)->Prop
def q59(z9p:H9)(X:Vf):Vf:=fun a b K=>Cnd (a.1=b.1) (Cnd (a.2=b.2) (Cnd (a.3=b.3) (z9p a.4 b.4 fun Qc=>Cnd (Qc=true) (Fits a.5->Fits b.5->Cnd ((↑a.5.length:Int)=(↑b.5.length:Int)) (Lp1 (fun Q7 v08=>Fits a.5->CAt a.5 Q7 (fun y5=>At b.5 Q7 fun y7=>X (Ex.mk y5.1 y5.2 y5.3 y5.4 y5.5) (Ex.mk y7.1 y7.2 y7.3 y7.4 y7.5) fun Jk=>Cnd (Jk=true) (InI (Q7+1)/\v08 (Q7+1)) (K false)) (K true)) (0:Int)) (K false)) (K false)) (K false)) (K false)) (K false)
def Ra:Vf:=fun a b K=> ∀X:Vf,(∀a b K,q59 Wy X a b K->X a b K)->X a b K
abbrev q2q:Type:=List (Ex)->Ex->(Int->Prop)->Prop
def z07(q17:Vf):q2q:=fun l e K=>Lp1 (fun Qc q18=>Fits l->CAt l Qc (fun y2=>q17 (Ex.mk y2.1 y2.2 y2.3 y2.4 y2.5) (Ex.mk e.1 e.2 e.3 e.4 e.5) fun Qx=>Cnd (Qx=true) (K Qc) (InI (Qc+1)/\q18 (Qc+1))) (K (-1:Int))) (0:Int)
def Wq:q2q:=z07 Ra
abbrev Wr:Type:=List (Ex)->Ex->(List (Ex)->Prop)->Prop
def q4s(q65:q2q)(Zf:Ud)(X:Wr):Wr:=fun l e K=>Jn1 (fun Qc=>Lp2 (fun Qe Zd q88=>Fits e.5->CAt e.5 Zd (fun y3=>X Qe (Ex.mk y3.1 y3.2 y3.3 y3.4 y3.5) fun Q0=>InI (Zd+1)/\q88 Q0 (Zd+1)) (K Qe)) Qc (0:Int)) fun z61=>Cnd (e.1=5) (q65 l (Ex.mk e.1 e.2 e.3 e.4 e.5) fun Qe=>Cnd (Qe<0) ((Sml ([]++l).length/\Sml ([]++l++[Ex.mk e.1 e.2 e.3 e.4 e.5]).length/\z61 ([]++l++[Ex.mk e.1 e.2 e.3 e.4 e.5]))/\Sml ([]++l).length/\Sml ([]++l++[Ex.mk e.1 e.2 e.3 e.4 e.5]).length/\z61 ([]++l++[Ex.mk e.1 e.2 e.3 e.4 e.5])) (z61 l)) (Zf e.1 fun Qe=>Cnd (Qe=true) (q65 l (Ex.mk e.1 e.2 e.3 e.4 e.5) fun Qr=>Cnd (Qr<0) ((Sml ([]++l).length/\Sml ([]++l++[Ex.mk e.1 e.2 e.3 e.4 e.5]).length/\z61 ([]++l++[Ex.mk e.1 e.2 e.3 e.4 e.5]))/\Sml ([]++l).length/\Sml ([]++l++[Ex.mk e.1 e.2 e.3 e.4 e.5]).length/\z61 ([]++l++[Ex.mk e.1 e.2 e.3 e.4 e.5])) (z61 l)) (z61 l))
def q0h:Wr:=fun l e K=> ∀X:Wr,(∀l e K,q4s Wq Jp X l e K->X l e K)->X l e K
abbrev Ue:Type:=List (Rul)->(List (Ex)->Prop)->Prop
def q2r(q0s:Wr):Ue:=fun l K=>Lp2 (fun Qc Q9 q0r=>Fits l->CAt l Q9 (fun y2=>q0s Qc (Ex.mk y2.2.1 y2.2.2 y2.2.3 y2.2.4 y2.2.5) fun Qx=>InI (Q9+1)/\q0r Qx (Q9+1)) (K Qc)) [] (0:Int)
def Rb:Ue:=q2r q0h
abbrev Z8:Type:=List (Nd)->(Nd->Option (Int))->Bool->Int->(Bool->List (Nd)->(Nd->Option (Int))->Bool->Prop)->Prop
def Vg:Z8:=fun ns ids full id K=>Cnd ((-1002:Int)<id) (Fits ns->K (decide (id<(↑ns.length:Int))) ns ids full) (K false ns ids full)
abbrev G7:Type:=List (Nd)->(Nd->Option (Int))->Bool->Int->((Int->Option (Bool))->List (Nd)->(Nd->Option (Int))->Bool->Prop)->Prop
def G8:G7:=fun ns ids full id K=>Lp2 (fun Qc q18 q0r=>Fits Qc->Cnd ((0:Int)<(↑Qc.length:Int)) (Fits Qc->InI ((↑Qc.length:Int) - 1)/\((0:Int)<=(↑Qc.length:Int) - 1/\(↑Qc.length:Int) - 1<(↑Qc.length:Int))/\ ∀y3,Qc[((↑Qc.length:Int) - 1).toNat]? =some y3->Fits Qc->InI ((↑Qc.length:Int) - 1)/\((0:Int)<=(↑Qc.length:Int) - 1/\(↑Qc.length:Int) - 1<=(↑Qc.length:Int))/\Cnd ((q18 y3).getD false=true) (q0r (List.take ((↑Qc.length:Int) - 1).toNat Qc) q18) (Cnd ((0:Int)<=y3) (At ns y3 fun y6=>At ns y3 fun y8=>Sml (List.take ((↑Qc.length:Int) - 1).toNat Qc++[y6.2.1,y8.2.2]).length/\q0r (List.take ((↑Qc.length:Int) - 1).toNat Qc++[y6.2.1,y8.2.2]) (put q18 y3 true)) (q0r (List.take ((↑Qc.length:Int) - 1).toNat Qc) (put q18 y3 true)))) (K q18 ns ids full)) [id] fun _=>none
abbrev Wz:Type:=List (Nd)->(Nd->Option (Int))->Bool->Int->(List (Int)->List (Nd)->(Nd->Option (Int))->Bool->Prop)->Prop
def q5c(Qs:Z8)(Hh:G7):Wz:=fun ns ids full id K=>Qs ns ids full id fun Qc (Q9:List (Int×Int×Int)) q0r z5v=>Cnd (Qc=true) (Hh Q9 q0r z5v id fun j7u (Zd:List (Int×Int×Int)) q88 j1i=>Lp2 (fun Qr Zv q43=>Cnd (Zv<=1000) (InI ((-1:Int) - Zv)/\Cnd ((j7u ((-1:Int) - Zv)).getD false=true) (Sml (Qr++[Zv]).length/\InI (Zv+1)/\q43 (Qr++[Zv]) (Zv+1)) (InI (Zv+1)/\q43 Qr (Zv+1))) (K Qr Zd q88 j1i)) [] (0:Int)) (K [] Q9 q0r z5v)
def U7:Wz:=q5c Vg G8
abbrev Q8:Type:=List (Nd)->(Nd->Option (Int))->Bool->Int->(Bool->List (Nd)->(Nd->Option (Int))->Bool->Prop)->Prop
def q1n(Qs:Z8)(Gk:Wz):Q8:=fun ns ids full id K=>Qs ns ids full id fun Qc (Q9:List (Int×Int×Int)) q0r z5v=>Cnd (Qc=true) (Gk Q9 q0r z5v id fun Qe (Zd:List (Int×Int×Int)) q88 j1i=>Lp1 (fun Qr w02=>Fits Qe->CAt Qe Qr (fun y4=>Cnd ((1:Int)<y4) (K false Zd q88 j1i) (InI (Qr+1)/\w02 (Qr+1))) (K true Zd q88 j1i)) (0:Int)) (K false Q9 q0r z5v)
def Z4:Q8:=q1n Vg U7
abbrev Ws:Type:=List (Nd)->(Nd->Option (Int))->Bool->Int->(Int->List (Nd)->(Nd->Option (Int))->Bool->Prop)->Prop
def Z9:Ws:=fun ns ids full id K=>Cnd (id<0) (K (1001:Int) ns ids full) (At ns id fun y0=>K y0.1 ns ids full)
abbrev G9:Type:=List (Nd)->(Nd->Option (Int))->Bool->Int->Int->(Int->Int->List (Nd)->(Nd->Option (Int))->Bool->Prop)->Prop
def q7f(Za:Ws):G9:=fun ns ids full id test K=>Za ns ids full id fun Qc (Q9:List (Int×Int×Int)) q0r z5v=>Cnd (Qc=test) (At Q9 id fun y1=>At Q9 id fun y3=>K y1.2.1 y3.2.2 Q9 q0r z5v) (K id id Q9 q0r z5v)
def Jq:G9:=q7f Z9
abbrev Uf:Type:=List (Nd)->(Nd->Option (Int))->Bool->Int->Int->Int->(Int->List (Nd)->(Nd->Option (Int))->Bool->Prop)->Prop
def q75(Qs:Z8)(Za:Ws):Uf:=fun ns ids full test yes no K=>Cnd (test<0) (K (-1002:Int) ns ids full) (Cnd ((1000:Int)<test) (K (-1002:Int) ns ids full) (Qs ns ids full yes fun Qc (Q9:List (Int×Int×Int)) q0r z5v=>Cnd (Qc=true) (Qs Q9 q0r z5v no fun Qe (Zd:List (Int×Int×Int)) q88 j1i=>Cnd (Qe=true) (Za Zd q88 j1i yes fun Qr (Zv:List (Int×Int×Int)) q43 z9r=>Cnd (Qr<=test) (K (-1002:Int) Zv q43 z9r) (Za Zv q43 z9r no fun Q7 (V7:List (Int×Int×Int)) z63 w45=>Cnd (Q7<=test) (K (-1002:Int) V7 z63 w45) (Cnd (yes=no) (K yes V7 z63 w45) (Cnd ((z63 (test,yes,no)).isSome=true) (K ((z63 (test,yes,no)).getD (0:Int)) V7 z63 w45) (Fits V7->Cnd ((4000:Int)<=(↑V7.length:Int)) (K (-1002:Int) V7 z63 true) (Fits V7->Sml (V7++[(test,yes,no)]).length/\((V7++[(test,yes,no)]).length<=(9223372036854775807:Nat)->InI ((↑(V7++[(test,yes,no)]).length:Int) - 1)/\K ((↑(V7++[(test,yes,no)]).length:Int) - 1) (V7++[(test,yes,no)]) (put z63 (test,yes,no) (↑V7.length:Int)) w45))))))) (K (-1002:Int) Zd q88 j1i)) (K (-1002:Int) Q9 q0r z5v)))
def Zq:Uf:=q75 Vg Z9
abbrev Z6:Type:=List (Nd)->(Nd->Option (Int))->Bool->Int->Int->Int->(A3->Option (Int))->(Int->List (Nd)->(Nd->Option (Int))->Bool->(A3->Option (Int))->Prop)->Prop
def W0(Za:Ws)(q1k:G9)(q3v:Uf)(X:Z6):Z6:=fun ns ids full f g h known K=>Cnd (f=(-2:Int)) (K g ns ids full known) (Cnd (g=h) (K g ns ids full known) (Cnd (f=(-1:Int)) (K h ns ids full known) (Cnd ((known (f,g,h)).isSome=true) (K ((known (f,g,h)).getD (0:Int)) ns ids full known) (Za ns ids full f fun Qc (Q9:List (Int×Int×Int)) q0r z5v=>Za Q9 q0r z5v g fun Qe (Zd:List (Int×Int×Int)) q88 j1i=>Za Zd q88 j1i h fun Qr (Zv:List (Int×Int×Int)) q43 z9r=>q1k Zv q43 z9r f (Min.min (Min.min Qc Qe) Qr) fun Q7 V7 (v5e:List (Int×Int×Int)) v5f v5g=>q1k v5e v5f v5g g (Min.min (Min.min Qc Qe) Qr) fun Qx V8 (z3q:List (Int×Int×Int)) v09 v5h=>q1k z3q v09 v5h h (Min.min (Min.min Qc Qe) Qr) fun Q0 z9s (v5i:List (Int×Int×Int)) v5j v5k=>X v5i v5j v5k Q7 Qx Q0 known fun J1 (j0f:List (Int×Int×Int)) v0r v4i v5l=>X j0f v0r v4i V7 V8 z9s v5l fun V4 (q7o:List (Int×Int×Int)) w46 v1a v5m=>Jn4 (fun W9 (w8m:List (Int×Int×Int)) v5n v5o=>K W9 w8m v5o v5n (put v5m (f,g,h) W9)) fun w7m=>Cnd (J1=(-1002:Int)) (w7m (-1002:Int) q7o v1a w46) (Cnd (V4=(-1002:Int)) (w7m (-1002:Int) q7o v1a w46) (q3v q7o w46 v1a (Min.min (Min.min Qc Qe) Qr) J1 V4 fun Jk (z1z:List (Int×Int×Int)) v0s v2r=>w7m Jk z1z v2r v0s))))))
def U8:Z6:=fun ns ids full f g h known K=> ∀X:Z6,(∀ns ids full f g h known K,W0 Z9 Jq Zq X ns ids full f g h known K->X ns ids full f g h known K)->X ns ids full f g h known K
abbrev Zh:Type:=List (Nd)->(Nd->Option (Int))->Bool->Int->Int->Int->(Int->List (Nd)->(Nd->Option (Int))->Bool->Prop)->Prop
def q5d(Qm:Q8)(Qs:Z8)(Gl:Z6):Zh:=fun ns ids full f g h K=>Qm ns ids full f fun Qc (Q9:List (Int×Int×Int)) q0r z5v=>Cnd (Qc=true) (Qs Q9 q0r z5v g fun Qe (Zd:List (Int×Int×Int)) q88 j1i=>Cnd (Qe=true) (Qs Zd q88 j1i h fun Qr (Zv:List (Int×Int×Int)) q43 z9r=>Cnd (Qr=true) (Gl Zv q43 z9r f g h (fun _=>none) fun Q7 (V7:List (Int×Int×Int)) z63 w45 _=>K Q7 V7 z63 w45) (K (-1002:Int) Zv q43 z9r)) (K (-1002:Int) Zd q88 j1i)) (K (-1002:Int) Q9 q0r z5v)
def J0:Zh:=q5d Z4 Vg U8
abbrev q0i:Type:=List (Nd)->(Nd->Option (Int))->Bool->Int->(Int->List (Nd)->(Nd->Option (Int))->Bool->Prop)->Prop
def z0o(Qv:Zh):q0i:=fun ns ids full f K=>Qv ns ids full f (-1:Int) (-2:Int) fun Qc (Q9:List (Int×Int×Int)) q0r z5v=>K Qc Q9 q0r z5v
def Vv:q0i:=z0o J0
abbrev q0j:Type:=List (Nd)->(Nd->Option (Int))->Bool->Int->Int->(Int->List (Nd)->(Nd->Option (Int))->Bool->Prop)->Prop
def z0p(Qm:Q8)(Qv:Zh):q0j:=fun ns ids full f g K=>Qm ns ids full g fun Qc (Q9:List (Int×Int×Int)) q0r z5v=>Cnd (Qc=true) (Qv Q9 q0r z5v f g (-1:Int) fun Qe (Zd:List (Int×Int×Int)) q88 j1i=>K Qe Zd q88 j1i) (K (-1002:Int) Q9 q0r z5v)
def Vw:q0j:=z0p Z4 J0
abbrev U9:Type:=List (Nd)->(Nd->Option (Int))->Bool->Int->Int->(Int->List (Nd)->(Nd->Option (Int))->Bool->Prop)->Prop
def z2m(Qm:Q8)(Qv:Zh):U9:=fun ns ids full f g K=>Qm ns ids full g fun Qc (Q9:List (Int×Int×Int)) q0r z5v=>Cnd (Qc=true) (Qv Q9 q0r z5v f (-2:Int) g fun Qe (Zd:List (Int×Int×Int)) q88 j1i=>K Qe Zd q88 j1i) (K (-1002:Int) Q9 q0r z5v)
def Vh:U9:=z2m Z4 J0
abbrev J4:Type:=List (Nd)->(Nd->Option (Int))->Bool->List (Ex)->Ex->(Int->List (Nd)->(Nd->Option (Int))->Bool->Prop)->Prop
def q2s(j0g:q0i)(j0h:q0j)(Gm:U9)(q65:q2q)(q3v:Uf)(X:J4):J4:=fun ns ids full atoms e K=>Cnd (e.1=1) (K (-2:Int) ns ids full) (Cnd (e.1=4) (((0:Int)<=(0:Int)/\(0:Int)<(↑e.5.length:Int))/\ ∀y0,e.5[Int.toNat (0:Int)]? =some y0->X ns ids full atoms (Ex.mk y0.1 y0.2 y0.3 y0.4 y0.5) fun Qr (Zv:List (Int×Int×Int)) q43 z9r=>j0g Zv q43 z9r Qr fun Q7 (V7:List (Int×Int×Int)) z63 w45=>K Q7 V7 z63 w45) (Jn1 (fun Qc=>Cnd (Qc=true) (((0:Int)<=(0:Int)/\(0:Int)<(↑e.5.length:Int))/\ ∀y1,e.5[Int.toNat (0:Int)]? =some y1->X ns ids full atoms (Ex.mk y1.1 y1.2 y1.3 y1.4 y1.5) fun Q7 (V7:List (Int×Int×Int)) z63 w45=>Lp5 (fun Qx V8 (z3q:List (Int×Int×Int)) w7o v0t v45=>Fits e.5->CAt e.5 V8 (fun y6=>X z3q v0t w7o atoms (Ex.mk y6.1 y6.2 y6.3 y6.4 y6.5) fun W9 (w8m:List (Int×Int×Int)) v47 v48=>Cnd (e.1=2) (j0h w8m v47 v48 Qx W9 fun Jk (z1z:List (Int×Int×Int)) v0s v2r=>InI (V8+1)/\v45 Jk (V8+1) z1z v2r v0s) (Gm w8m v47 v48 Qx W9 fun Jk (z1z:List (Int×Int×Int)) v0s v2r=>InI (V8+1)/\v45 Jk (V8+1) z1z v2r v0s)) (K Qx z3q v0t w7o)) Q7 (1:Int) V7 w45 z63) (q65 atoms (Ex.mk e.1 e.2 e.3 e.4 e.5) fun Qe=>Cnd (Qe<0) (K (-1002:Int) ns ids full) (q3v ns ids full Qe (-2:Int) (-1:Int) fun Qr (Zv:List (Int×Int×Int)) q43 z9r=>K Qr Zv q43 z9r))) fun z61=>Cnd (e.1=2) (z61 (decide (e.1=2))) (z61 (decide (e.1=3)))))
def Rd:J4:=fun ns ids full atoms e K=> ∀X:J4,(∀ns ids full atoms e K,q2s Vv Vw Vh Wq Zq X ns ids full atoms e K->X ns ids full atoms e K)->X ns ids full atoms e K
abbrev Z7:Type:=List (Rul)->(List (Int)->Int->Bool->Prop)->Prop
def Bu(z3i:z2j)(Bd:Ue)(Be:J4)(Gm:U9):Z7:=fun l K=>z3i fun (Qc:List (Int×Int×Int)) q18 w7n=>Bd l fun Qe=>LpH (fun Qr w02=>Fits l->CAt l Qr.2.2.1 (fun y4=>Be Qr.2.2.2.1 Qr.2.2.2.2.2.1 Qr.2.2.2.2.1 Qe (Ex.mk y4.2.1 y4.2.2 y4.2.3 y4.2.4 y4.2.5) fun J1 (j0f:List (Int×Int×Int)) v0r v4i=>Gm j0f v0r v4i Qr.1 J1 fun V4 (q7o:List (Int×Int×Int)) w46 v1a=>Cnd (V4=(-1002:Int)) (Fits q7o->K [] (↑q7o.length:Int) false) (Cnd (V4=Qr.1) (InI (Qr.2.2.1+1)/\Sml (Qr.2.1++[Qr.2.2.1+1]).length/\InI (Qr.2.2.1+1)/\w02 (V4,Qr.2.1++[Qr.2.2.1+1],Qr.2.2.1+1,q7o,v1a,w46,())) (InI (Qr.2.2.1+1)/\w02 (V4,Qr.2.1,Qr.2.2.1+1,q7o,v1a,w46,())))) (Fits Qr.2.2.2.1->K Qr.2.1 (↑Qr.2.2.2.1.length:Int) true)) ((-1:Int),[],(0:Int),Qc,w7n,q18,())
def W1:Z7:=Bu j4g Rb Rd Vh
abbrev q76:Type:=List (Int)->Int->ByteArray->(Lay_->Int->Prop)->Prop
def z70(Jj:H5)(Qa:Zp)(Jx:q1u):q76:=fun list at_ key K=>Jj list at_ fun Qc Q9=>Qa list Q9 (3:Int) fun Qe Zd=>InI (Qe*50)/\Jn2 (fun Qr Zv=>Jn2 (fun Q7 V7=>Lp4 (fun Qx V8 z3q w7o v0t=>Qa list w7o (3:Int) fun Q0 z9s=>Cnd (V8<Q0) (Jx list z9s (3000:Int) fun J1 j0f=>InI (Qx+J1)/\InI (Qx+J1+1)/\Jx list j0f (2000:Int) fun V4 q7o=>InI (Qx+J1+1+V4)/\Cnd ((10000:Int)<Qx+J1+1+V4) (K (Lay_.mk key Qr Qc Q7 (Qe*50) z3q) q7o) (Qa list q7o (200:Int) fun W9 w8m=>Sml (z3q++[Col.mk (Qx+J1) (Qx+J1+1+V4) W9]).length/\InI (V8+1)/\v0t (Qx+J1+1+V4) (V8+1) (z3q++[Col.mk (Qx+J1) (Qx+J1+1+V4) W9]) w8m)) (K (Lay_.mk key Qr Qc Q7 (Qe*50) z3q) z9s)) (0:Int) (0:Int) [] V7) fun w8n=>Qa list Zv (2:Int) fun Qx V8=>Cnd (Qx=1) (Jx list V8 (3000:Int) fun Q0 z9s=>w8n Q0 z9s) (w8n (0:Int) V8)) fun j3c=>Qa list Zd (4:Int) fun Q7 V7=>Cnd (Q7=1) (j3c (B8 [100,101,118,105,99,101]) V7) (j3c (B8 [117,115,101,114]) V7)
def z2n:q76:=z70 q57 Wa q9l
abbrev q9p:Type:=Int->(Bool->Prop)->Prop
def q9q:q9p:=fun now K=>Cnd ((0:Int)<=now) (K (decide (now<=1099511627776))) (K false)
abbrev Ja:Type:=Envt->ByteArray->(Int->Prop)->Prop
def Wg:Ja:=fun v key K=>Lp1 (fun Qc q18=>Fits v.5->CAt v.5 Qc (fun y2=>Cnd (y2.1=key) (K Qc) (InI (Qc+1)/\q18 (Qc+1))) (K (-1:Int))) (0:Int)
abbrev Re:Type:=List (Col)->Int->(List (Int)->Prop)->Prop
def Rf:Re:=fun l now K=>((0:Int)<=(10000:Int)/\(10000:Int)<=(10000:Int)/\Sml (Int.toNat (10000:Int)))/\Lp2 (fun Qc Q9 q0r=>Fits Q9->CAt Q9 Qc (fun _=>InI (Qc+1)/\q0r (Qc+1) (Q9.set Qc.toNat now)) (Lp2 (fun Qr Zv q43=>Fits l->CAt l Qr (fun y4=>Lp2 (fun J1 j0f v0r=>At l Qr fun y7=>Cnd (J1<Min.min y7.2 (10000:Int)) (At j0f J1 fun y9=>At l Qr fun y11=>At j0f J1 fun _=>InI (J1+1)/\v0r (J1+1) (j0f.set J1.toNat (Max.max y9 y11.3))) (InI (Qr+1)/\q43 (Qr+1) j0f)) (Max.max y4.1 (0:Int)) Zv) (K Zv)) (0:Int) Q9)) (0:Int) (List.replicate (Int.toNat (10000:Int)) (0:Int))
abbrev Jr:Type:=List (Bool)->(List (Spn)->Prop)->Prop
def Wt:Jr:=fun set_ K=>Lp2 (fun Qc Q9 q0r=>Fits set_->CAt set_ Q9 (fun y2=>Cnd (y2=true) (Cnd ((0:Int)<Q9) (InI (Q9 - 1)/\((0:Int)<=Q9 - 1/\Q9 - 1<(↑set_.length:Int))/\ ∀y4,set_[(Q9 - 1).toNat]? =some y4->Cnd (y4=true) (Fits Qc->InI ((↑Qc.length:Int) - 1)/\InI (Q9+1)/\((0:Int)<=(↑Qc.length:Int) - 1/\(↑Qc.length:Int) - 1<(↑Qc.length:Int))/\ ∀y7,Qc[((↑Qc.length:Int) - 1).toNat]? =some y7->InI (Q9+1)/\q0r (Qc.set ((↑Qc.length:Int) - 1).toNat (Spn.mk y7.1 (Q9+1))) (Q9+1)) (InI (Q9+1)/\Sml (Qc++[Spn.mk Q9 (Q9+1)]).length/\InI (Q9+1)/\q0r (Qc++[Spn.mk Q9 (Q9+1)]) (Q9+1))) (InI (Q9+1)/\Sml (Qc++[Spn.mk Q9 (Q9+1)]).length/\InI (Q9+1)/\q0r (Qc++[Spn.mk Q9 (Q9+1)]) (Q9+1))) (InI (Q9+1)/\q0r Qc (Q9+1))) (K Qc)) [] (0:Int)
abbrev q2t:Type:=List (Int)->Int->(List (Spn)->Prop)->Prop
def z08(Qy:Jr):q2t:=fun until_ now K=>Fits until_->((0:Int)<=(↑until_.length:Int)/\(↑until_.length:Int)<=(↑until_.length:Int)/\Sml (↑until_.length:Int).toNat)/\Lp2 (fun Qe Zd q88=>Fits until_->CAt until_ Qe (fun y3=>At Zd Qe fun _=>InI (Qe+1)/\q88 (Qe+1) (Zd.set Qe.toNat (decide (now<y3)))) (Qy Zd fun Q7=>K Q7)) (0:Int) (List.replicate (↑until_.length:Int).toNat false)
def q6a:q2t:=z08 Wt
abbrev G0:Type:=List (Spn)->(List (Bool)->Prop)->Prop
def Rg:G0:=fun l K=>((0:Int)<=(10000:Int)/\(10000:Int)<=(10000:Int)/\Sml (Int.toNat (10000:Int)))/\Lp2 (fun Qc Q9 q0r=>Fits l->CAt l Qc (fun y2=>Lp2 (fun Qx V8 v0u=>At l Qc fun y5=>Cnd (Qx<Min.min y5.2 (10000:Int)) (At V8 Qx fun _=>InI (Qx+1)/\v0u (Qx+1) (V8.set Qx.toNat true)) (InI (Qc+1)/\q0r (Qc+1) V8)) (Max.max y2.1 (0:Int)) Q9) (K Q9)) (0:Int) (List.replicate (Int.toNat (10000:Int)) false)
abbrev q2u:Type:=List (Spn)->List (Spn)->(List (Spn)->Prop)->Prop
def z09(Zl:G0)(Qy:Jr):q2u:=fun a b K=>Zl a fun Qc=>Zl b fun Qe=>Lp2 (fun Qr Zv q43=>Fits Zv->CAt Zv Qr (fun y4=>Cnd (y4=true) (At Zv Qr fun _=>InI (Qr+1)/\q43 (Qr+1) (Zv.set Qr.toNat true)) (At Qe Qr fun y6=>At Zv Qr fun _=>InI (Qr+1)/\q43 (Qr+1) (Zv.set Qr.toNat y6))) (Qy Zv fun Qx=>K Qx)) (0:Int) Qc
def q6b:q2u:=z09 Rg Wt
abbrev q2v:Type:=Envt->ByteArray->ByteArray->Int->(List (Spn)->Prop)->Prop
def z1a(Qz:Ja)(Hr:q2u)(U1:Re)(q0b:q2t):q2v:=fun v layer but now K=>Qz (Envt.mk (Sett.mk v.1.1 v.1.2 v.1.3) v.2 v.3 v.4 v.5 v.6) layer fun Qc=>Cnd (Qc<0) (K []) (Jn1 (fun Qe=>Lp2 (fun Qr Zv q43=>Fits v.6->CAt v.6 Zv (fun y4=>Cnd (y4.2=layer) (Cnd (y4.1=but) (InI (Zv+1)/\q43 Qr (Zv+1)) (Cnd (y4.5=3) (InI (Zv+1)/\q43 Qr (Zv+1)) (Hr Qr y4.6 fun J1=>InI (Zv+1)/\q43 J1 (Zv+1)))) (InI (Zv+1)/\q43 Qr (Zv+1))) (K Qr)) Qe (0:Int)) fun j7u=>At v.5 Qc fun y2=>At v.5 Qc fun y4=>(U1 y4.6 now fun J1=>q0b J1 now fun V4=>Hr [Spn.mk (0:Int) y2.4] V4 fun W9=>j7u W9)/\U1 y4.6 now fun J1=>(q0b J1 now fun V4=>Hr [Spn.mk (0:Int) y2.4] V4 fun W9=>j7u W9)/\q0b J1 now fun V4=>Hr [Spn.mk (0:Int) y2.4] V4 fun W9=>j7u W9)
def q6c:q2v:=z1a Wg q6b Rf q6a
abbrev Vi:Type:=List (Spn)->List (Spn)->(List (Spn)->Prop)->Prop
def q6d(Zl:G0)(Qy:Jr):Vi:=fun a b K=>Zl a fun Qc=>Zl b fun Qe=>Lp2 (fun Qr Zv q43=>Fits Zv->CAt Zv Qr (fun y4=>Cnd (y4=true) (At Qe Qr fun y6=>At Zv Qr fun _=>InI (Qr+1)/\q43 (Qr+1) (Zv.set Qr.toNat (match decide ((flC C.bool y6).1=true) with|true=>false|false=>true))) (At Zv Qr fun _=>InI (Qr+1)/\q43 (Qr+1) (Zv.set Qr.toNat false))) (Qy Zv fun Qx=>K Qx)) (0:Int) Qc
def Ug:Vi:=q6d Rg Wt
abbrev q5e:Type:=Envt->ByteArray->Int->(List (Spn)->Int->Prop)->Prop
def z39(q98:q9p)(Qz:Ja)(q66:q2v)(Zu:Vi):q5e:=fun v layer now K=>q98 now fun Qc=>Cnd (Qc=true) (Qz (Envt.mk (Sett.mk v.1.1 v.1.2 v.1.3) v.2 v.3 v.4 v.5 v.6) layer fun Qe=>Cnd (Qe<0) (K [] (11:Int)) (q66 (Envt.mk (Sett.mk v.1.1 v.1.2 v.1.3) v.2 v.3 v.4 v.5 v.6) layer (B8 []) now fun Qr=>Zu [Spn.mk (0:Int) (10000:Int)] Qr fun Q7=>K Q7 (0:Int))) (K [] (3:Int))
def q9r:q5e:=z39 q9q Wg q6c Ug
abbrev q2w:Type:=List (Spn)->Int->(List (Spn)->Prop)->Prop
def z1b(Zl:G0)(Qy:Jr):q2w:=fun l n K=>Zl l fun Qc=>Lp3 (fun Qe Zd z9q w0x=>Fits z9q->CAt z9q Zd (fun y3=>Cnd (y3=true) (Cnd (Qe<=0) (At z9q Zd fun _=>InI (Zd+1)/\w0x Qe (Zd+1) (z9q.set Zd.toNat false)) (At z9q Zd fun y5=>Cnd (y5=true) (InI (Qe - 1)/\InI (Zd+1)/\w0x (Qe - 1) (Zd+1) z9q) (InI (Zd+1)/\w0x Qe (Zd+1) z9q))) (At z9q Zd fun y5=>Cnd (y5=true) (InI (Qe - 1)/\InI (Zd+1)/\w0x (Qe - 1) (Zd+1) z9q) (InI (Zd+1)/\w0x Qe (Zd+1) z9q))) (Qy z9q fun Q7=>K Q7)) n (0:Int) Qc
def q6e:q2w:=z1b Rg Wt
abbrev Rh:Type:=ByteArray->(Bool->Prop)->Prop
def Ri(s:ByteArray)(K:Bool->Prop):Prop:=s.size<=(9223372036854775807:Nat)/\K (Go.Lib.validD s.data.toList)
abbrev Zw:Type:=ByteArray->(Bool->Prop)->Prop
def z4a(V5:Rh):Zw:=fun s K=>Cnd ((200:Int)<(↑s.size:Int)) (K false) (V5 s fun Qc=>Cnd (Qc=true) (Lp1 (fun Qe q44=>Cnd (Qe<(↑s.size:Int)) (((0:Int)<=Qe/\Qe<(↑s.size:Int))/\ ∀b2,s[Qe.toNat]? =some b2->Cnd ((↑b2.toNat:Int)<32) (K false) (((0:Int)<=Qe/\Qe<(↑s.size:Int))/\ ∀b4,s[Qe.toNat]? =some b4->Cnd ((↑b4.toNat:Int)=127) (K false) (InI (Qe+1)/\q44 (Qe+1)))) (K true)) (0:Int)) (K false))
def Vx:Zw:=z4a Ri
abbrev z2o:Type:=ByteArray->(Bool->Prop)->Prop
def z2p:z2o:=fun s K=>Lp1 (fun Qc q18=>Cnd (Qc<(↑s.size:Int)) (((0:Int)<=Qc/\Qc<(↑s.size:Int))/\ ∀b1,s[Qc.toNat]? =some b1->Cnd ((97:Int)<=(↑b1.toNat:Int)) (Cnd ((↑b1.toNat:Int)<=122) (InI (Qc+1)/\q18 (Qc+1)) (Cnd (Qc=0) (K false) (Cnd ((48:Int)<=(↑b1.toNat:Int)) (Cnd ((↑b1.toNat:Int)<=57) (InI (Qc+1)/\q18 (Qc+1)) (Cnd ((↑b1.toNat:Int)=45) (InI (Qc+1)/\q18 (Qc+1)) (Cnd ((↑b1.toNat:Int)=95) (InI (Qc+1)/\q18 (Qc+1)) (K false)))) (Cnd ((↑b1.toNat:Int)=45) (InI (Qc+1)/\q18 (Qc+1)) (Cnd ((↑b1.toNat:Int)=95) (InI (Qc+1)/\q18 (Qc+1)) (K false)))))) (Cnd (Qc=0) (K false) (Cnd ((48:Int)<=(↑b1.toNat:Int)) (Cnd ((↑b1.toNat:Int)<=57) (InI (Qc+1)/\q18 (Qc+1)) (Cnd ((↑b1.toNat:Int)=45) (InI (Qc+1)/\q18 (Qc+1)) (Cnd ((↑b1.toNat:Int)=95) (InI (Qc+1)/\q18 (Qc+1)) (K false)))) (Cnd ((↑b1.toNat:Int)=45) (InI (Qc+1)/\q18 (Qc+1)) (Cnd ((↑b1.toNat:Int)=95) (InI (Qc+1)/\q18 (Qc+1)) (K false)))))) (K (decide ((0:Int)<(↑s.size:Int))))) (0:Int)
abbrev q1w:Type:=(List (ByteArray)->Prop)->Prop
def q1x:q1w:=fun K=>K [B8 [97,110,100],B8 [97,114,109,115],B8 [97,116,116,114,105,98,117,116,101],B8 [98,111,111,108],B8 [99,108,97,105,109,115],B8 [99,111,110,116,97,105,110,115],B8 [99,111,111,108],B8 [99,111,111,108,105,110,103],B8 [100,101,102,97,117,108,116],B8 [100,114,97,102,116],B8 [101,110,100,115],B8 [101,120,99,108,117,100,101],B8 [101,120,105,115,116,115],B8 [101,120,112,101,114,105,109,101,110,116],B8 [102,97,108,115,101],B8 [102,108,97,103],B8 [104,111,108,100,111,117,116],B8 [105,110],B8 [105,110,99,108,117,100,101],B8 [105,115],B8 [108,97,121,101,114],B8 [108,105,115,116],B8 [109,101,109,98,101,114],B8 [110,101,101,100,115],B8 [110,111,116],B8 [110,117,109,98,101,114],B8 [111,102,102],B8 [111,110],B8 [111,114],B8 [114,117,108,101],B8 [114,117,110,110,105,110,103],B8 [115,97,108,116],B8 [115,101,103,109,101,110,116],B8 [115,101,114,118,101],B8 [115,101,116,116,105,110,103,115],B8 [115,112,108,105,116],B8 [115,116,97,114,116,115],B8 [115,116,111,112,112,101,100],B8 [116,97,114,103,101,116],B8 [116,101,120,116],B8 [116,111],B8 [116,114,117,101],B8 [117,110,116,105,108],B8 [118,97,114,105,97,116,105,111,110,115],B8 [118,101,114,115,105,111,110],B8 [119,104,101,110]]
abbrev Zr:Type:=ByteArray->(Bool->Prop)->Prop
def j17(z3j:z2o)(q19:q1w):Zr:=fun s K=>z3j s fun Qc=>Cnd (Qc=true) (Cnd ((32:Int)<(↑s.size:Int)) (K false) (q19 fun Qe=>Lp1 (fun Qr w02=>Fits Qe->CAt Qe Qr (fun y4=>Cnd (y4=s) (K false) (InI (Qr+1)/\w02 (Qr+1))) (K true)) (0:Int))) (K false)
def Vz:Zr:=j17 z2p q1x
abbrev Rj:Type:=Sett->(Int->Prop)->Prop
def q6f(Qn:Zw)(Qh:Zr):Rj:=fun s K=>Qn s.1 fun Qc=>Cnd (Qc=true) (Cnd (s.3<0) (K (3:Int)) (Cnd ((10000:Int)<s.3) (K (3:Int)) (Qh s.2 fun Qe=>Cnd (Qe=true) (K (0:Int)) (Cnd (s.2=B8 []) (Cnd (s.3=0) (K (0:Int)) (K (6:Int))) (K (6:Int)))))) (K (2:Int))
def q1y:Rj:=q6f Vx Vz
abbrev Rk:Type:=List (Decl)->(Int->Prop)->Prop
def q6g(Qh:Zr):Rk:=fun l K=>Fits l->Cnd ((30:Int)<(↑l.length:Int)) (K (5:Int)) (Lp1 (fun Qe q44=>Fits l->CAt l Qe (fun y3=>Qh y3.1 fun Q0=>Cnd (Q0=true) (At l Qe fun y6=>Qh y6.2 fun W9=>Cnd (W9=true) (At l Qe fun y9=>Cnd (y9.2=B8 [107,101,121]) (K (6:Int)) (At l Qe fun y11=>Cnd (y11.3<1) (K (7:Int)) (At l Qe fun y13=>Cnd ((5:Int)<y13.3) (K (7:Int)) (Cnd ((0:Int)<Qe) (At l Qe fun y15=>InI (Qe - 1)/\((0:Int)<=Qe - 1/\Qe - 1<(↑l.length:Int))/\ ∀y17,l[(Qe - 1).toNat]? =some y17->Cnd (Lk.blt y15.1 y17.1) (K (9:Int)) (At l Qe fun y19=>InI (Qe - 1)/\((0:Int)<=Qe - 1/\Qe - 1<(↑l.length:Int))/\ ∀y21,l[(Qe - 1).toNat]? =some y21->Cnd (y19.1=y21.1) (At l Qe fun y23=>InI (Qe - 1)/\((0:Int)<=Qe - 1/\Qe - 1<(↑l.length:Int))/\ ∀y25,l[(Qe - 1).toNat]? =some y25->Cnd (Lk.blt y25.2 y23.2) (InI (Qe+1)/\q44 (Qe+1)) (K (9:Int))) (InI (Qe+1)/\q44 (Qe+1)))) (InI (Qe+1)/\q44 (Qe+1)))))) (K (6:Int))) (K (6:Int))) (K (0:Int))) (0:Int))
def q1z:Rk:=q6g Vz
abbrev Uh:Type:=List (ByteArray)->(Int->Prop)->Prop
def q77(Qn:Zw):Uh:=fun l K=>Fits l->Cnd ((40:Int)<(↑l.length:Int)) (K (5:Int)) (Lp1 (fun Qe q44=>Fits l->CAt l Qe (fun y3=>Cnd (y3=B8 []) (K (2:Int)) (At l Qe fun y5=>Qn y5 fun V4=>Cnd (V4=true) (Cnd ((0:Int)<Qe) (At l Qe fun y8=>InI (Qe - 1)/\((0:Int)<=Qe - 1/\Qe - 1<(↑l.length:Int))/\ ∀y10,l[(Qe - 1).toNat]? =some y10->Cnd (Lk.blt y10 y8) (InI (Qe+1)/\q44 (Qe+1)) (K (9:Int))) (InI (Qe+1)/\q44 (Qe+1))) (K (2:Int)))) (K (0:Int))) (0:Int))
def q0x:Uh:=q77 Vx
abbrev z2q:Type:=Ex->(Bool->Prop)->Prop
def z2r:z2q:=fun e K=>Cnd (e.1=0) (Cnd (e.2=B8 []) (Cnd (e.3=B8 []) (Fits e.4->Cnd ((↑e.4.length:Int)=0) (Fits e.5->K (decide ((↑e.5.length:Int)=0))) (K false)) (K false)) (K false)) (K false)
abbrev q2x:Type:=Ex->(Bool->Prop)->Prop
def z1c(Zf:Ud):q2x:=fun e K=>Fits e.5->Fits e.4->Jn2 (fun Qr Zv=>Zf e.1 fun Q7=>Cnd (Qr=true) (Cnd (Zv=true) (Cnd (Q7=true) (Cnd (Q7=true) (K true) (Cnd (e.1=5) (K true) (K (decide (e.3=B8 []))))) (Cnd (e.2=B8 []) (Cnd (Q7=true) (K true) (Cnd (e.1=5) (K true) (K (decide (e.3=B8 []))))) (K false))) (K false)) (K false)) fun j3c=>Cnd (e.1=2) (Fits e.5->j3c (decide ((2:Int)<=(↑e.5.length:Int))) (decide ((↑e.4.length:Int)=0))) (Cnd (e.1=3) (Fits e.5->j3c (decide ((2:Int)<=(↑e.5.length:Int))) (decide ((↑e.4.length:Int)=0))) (Cnd (e.1=4) (Fits e.5->j3c (decide ((↑e.5.length:Int)=1)) (decide ((↑e.4.length:Int)=0))) (Cnd (e.1=8) (Fits e.4->j3c (decide ((↑e.5.length:Int)=0)) (decide ((0:Int)<(↑e.4.length:Int)))) (Zf e.1 fun Q7=>Cnd (Q7=true) (Cnd (e.1=6) (j3c (decide ((↑e.5.length:Int)=0)) (decide ((↑e.4.length:Int)=0))) (Fits e.4->j3c (decide ((↑e.5.length:Int)=0)) (decide ((↑e.4.length:Int)=1)))) (j3c (decide ((↑e.5.length:Int)=0)) (decide ((↑e.4.length:Int)=0)))))))
def q6h:q2x:=z1c Jp
abbrev q9s:Type:=Val->(Bool->Prop)->Prop
def q9t:q9s:=fun v K=>Cnd (v.1=1) (Cnd (v.1=3) (Cnd (v.1=5) (K true) (Fits v.4->K (decide ((↑v.4.length:Int)=0)))) (Cnd (v.1=4) (Cnd (v.1=5) (K true) (Fits v.4->K (decide ((↑v.4.length:Int)=0)))) (Cnd (v.3=B8 []) (Cnd (v.1=5) (K true) (Fits v.4->K (decide ((↑v.4.length:Int)=0)))) (K false)))) (Cnd (v.1=3) (Cnd (v.1=2) (Cnd (v.1=5) (K true) (Fits v.4->K (decide ((↑v.4.length:Int)=0)))) (Cnd (v.2=0) (Cnd (v.1=5) (K true) (Fits v.4->K (decide ((↑v.4.length:Int)=0)))) (K false))) (Cnd (v.1=2) (Cnd (v.1=4) (Cnd (v.1=5) (K true) (Fits v.4->K (decide ((↑v.4.length:Int)=0)))) (Cnd (v.3=B8 []) (Cnd (v.1=5) (K true) (Fits v.4->K (decide ((↑v.4.length:Int)=0)))) (K false))) (Cnd (v.2=0) (Cnd (v.1=4) (Cnd (v.1=5) (K true) (Fits v.4->K (decide ((↑v.4.length:Int)=0)))) (Cnd (v.3=B8 []) (Cnd (v.1=5) (K true) (Fits v.4->K (decide ((↑v.4.length:Int)=0)))) (K false))) (K false))))
abbrev Ha:Type:=ByteArray->(Int->Int->Prop)->Prop
def Hb:Ha:=fun s K=>Jn1 (fun Qc=>Lp1 (fun Qe q44=>Cnd (Qe<(↑Qc.size:Int)) (((0:Int)<=Qe/\Qe<(↑Qc.size:Int))/\ ∀b2,Qc[Qe.toNat]? =some b2->Cnd ((↑b2.toNat:Int)<48) (K (0:Int) (1:Int)) (((0:Int)<=Qe/\Qe<(↑Qc.size:Int))/\ ∀b4,Qc[Qe.toNat]? =some b4->Cnd ((57:Int)<(↑b4.toNat:Int)) (K (0:Int) (1:Int)) (InI (Qe+1)/\q44 (Qe+1)))) (Cnd (Qc=B8 []) (K (0:Int) (1:Int)) (((0:Int)<=(0:Int)/\(0:Int)<(↑Qc.size:Int))/\ ∀b2,Qc[Int.toNat (0:Int)]? =some b2->Cnd ((↑b2.toNat:Int)=48) (Cnd (s=B8 [48]) (Cnd ((13:Int)<(↑Qc.size:Int)) (K (0:Int) (3:Int)) (Lp2 (fun Qx V8 v0u=>Cnd (V8<(↑Qc.size:Int)) (InI ((10:Int)*Qx)/\((0:Int)<=V8/\V8<(↑Qc.size:Int))/\ ∀b5,Qc[V8.toNat]? =some b5->InI (Go.IntKind.u8.wrap ((↑b5.toNat:Int) - 48))/\InI ((10:Int)*Qx+Go.IntKind.u8.wrap ((↑b5.toNat:Int) - 48))/\InI (V8+1)/\v0u ((10:Int)*Qx+Go.IntKind.u8.wrap ((↑b5.toNat:Int) - 48)) (V8+1)) (Cnd ((1099511627776:Int)<Qx) (K (0:Int) (3:Int)) (Cnd ((↑Qc.size:Int)<(↑s.size:Int)) (InI ((0:Int) - Qx)/\K ((0:Int) - Qx) (0:Int)) (K Qx (0:Int))))) (0:Int) (0:Int))) (K (0:Int) (1:Int))) (Cnd ((13:Int)<(↑Qc.size:Int)) (K (0:Int) (3:Int)) (Lp2 (fun Qx V8 v0u=>Cnd (V8<(↑Qc.size:Int)) (InI ((10:Int)*Qx)/\((0:Int)<=V8/\V8<(↑Qc.size:Int))/\ ∀b5,Qc[V8.toNat]? =some b5->InI (Go.IntKind.u8.wrap ((↑b5.toNat:Int) - 48))/\InI ((10:Int)*Qx+Go.IntKind.u8.wrap ((↑b5.toNat:Int) - 48))/\InI (V8+1)/\v0u ((10:Int)*Qx+Go.IntKind.u8.wrap ((↑b5.toNat:Int) - 48)) (V8+1)) (Cnd ((1099511627776:Int)<Qx) (K (0:Int) (3:Int)) (Cnd ((↑Qc.size:Int)<(↑s.size:Int)) (InI ((0:Int) - Qx)/\K ((0:Int) - Qx) (0:Int)) (K Qx (0:Int))))) (0:Int) (0:Int)))))) (0:Int)) fun z61=>Cnd ((0:Int)<(↑s.size:Int)) (((0:Int)<=(0:Int)/\(0:Int)<(↑s.size:Int))/\ ∀b1,s[Int.toNat (0:Int)]? =some b1->Cnd ((↑b1.toNat:Int)=45) (((0:Int)<=(1:Int)/\(1:Int)<=(↑s.size:Int)/\(↑s.size:Int)<=(↑s.size:Int))/\z61 (s.extract (Int.toNat (1:Int)) (↑s.size:Int).toNat)) (z61 s)) (z61 s)
abbrev q5f:Type:=ByteArray->(A3->Bool->Prop)->Prop
def z4b(Vt:Ha):q5f:=fun s K=>LpH (fun (Qc:Int×Int×Int×Int×Int×Int×Int×Int×Unit) q18=>Cnd (Qc.2.1<3) (Lp1 (fun Qe q44=>Cnd (Qe<(↑s.size:Int)) (((0:Int)<=Qe/\Qe<(↑s.size:Int))/\ ∀b2,s[Qe.toNat]? =some b2->Cnd ((↑b2.toNat:Int)=46) (((0:Int)<=Qc.1/\Qc.1<=Qe/\Qe<=(↑s.size:Int))/\Vt (s.extract Qc.1.toNat Qe.toNat) fun Qx V8=>Cnd (V8=0) (Cnd (Qx<0) (K ((0:Int),(0:Int),(0:Int)) false) (Cnd ((999999:Int)<Qx) (K ((0:Int),(0:Int),(0:Int)) false) (Cnd (decide (Qc.2.1<2)=decide (Qe<(↑s.size:Int))) (((0:Int)<=Qc.2.1/\Qc.2.1<(↑(3:Nat):Int))/\((True/\(Qc.2.1=(↑(nat_lit 0):Int)->InI (Qe+1)/\InI (Qc.2.1+1)/\q18 (Qe+1,Qc.2.1+1,Qx,Qc.2.2.2.1,Qc.2.2.2.2.1,Qc.2.2.2.2.2.1,Qc.2.2.2.2.2.2.1,Qc.2.2.2.2.2.2.2.1,())))/\(Qc.2.1=(↑(nat_lit 1):Int)->InI (Qe+1)/\InI (Qc.2.1+1)/\q18 (Qe+1,Qc.2.1+1,Qc.2.2.1,Qx,Qc.2.2.2.2.1,Qc.2.2.2.2.2.1,Qc.2.2.2.2.2.2.1,Qc.2.2.2.2.2.2.2.1,())))/\(Qc.2.1=(↑(nat_lit 2):Int)->InI (Qe+1)/\InI (Qc.2.1+1)/\q18 (Qe+1,Qc.2.1+1,Qc.2.2.1,Qc.2.2.2.1,Qx,Qc.2.2.2.2.2.1,Qc.2.2.2.2.2.2.1,Qc.2.2.2.2.2.2.2.1,()))) (K ((0:Int),(0:Int),(0:Int)) false)))) (K ((0:Int),(0:Int),(0:Int)) false)) (InI (Qe+1)/\q44 (Qe+1))) (((0:Int)<=Qc.1/\Qc.1<=Qe/\Qe<=(↑s.size:Int))/\Vt (s.extract Qc.1.toNat Qe.toNat) fun Qr Zv=>Cnd (Zv=0) (Cnd (Qr<0) (K ((0:Int),(0:Int),(0:Int)) false) (Cnd ((999999:Int)<Qr) (K ((0:Int),(0:Int),(0:Int)) false) (Cnd (decide (Qc.2.1<2)=decide (Qe<(↑s.size:Int))) (((0:Int)<=Qc.2.1/\Qc.2.1<(↑(3:Nat):Int))/\((True/\(Qc.2.1=(↑(nat_lit 0):Int)->InI (Qe+1)/\InI (Qc.2.1+1)/\q18 (Qe+1,Qc.2.1+1,Qr,Qc.2.2.2.1,Qc.2.2.2.2.1,Qc.2.2.2.2.2.1,Qc.2.2.2.2.2.2.1,Qc.2.2.2.2.2.2.2.1,())))/\(Qc.2.1=(↑(nat_lit 1):Int)->InI (Qe+1)/\InI (Qc.2.1+1)/\q18 (Qe+1,Qc.2.1+1,Qc.2.2.1,Qr,Qc.2.2.2.2.1,Qc.2.2.2.2.2.1,Qc.2.2.2.2.2.2.1,Qc.2.2.2.2.2.2.2.1,())))/\(Qc.2.1=(↑(nat_lit 2):Int)->InI (Qe+1)/\InI (Qc.2.1+1)/\q18 (Qe+1,Qc.2.1+1,Qc.2.2.1,Qc.2.2.2.1,Qr,Qc.2.2.2.2.2.1,Qc.2.2.2.2.2.2.1,Qc.2.2.2.2.2.2.2.1,()))) (K ((0:Int),(0:Int),(0:Int)) false)))) (K ((0:Int),(0:Int),(0:Int)) false))) Qc.1) (K (Qc.2.2.1,Qc.2.2.2.1,Qc.2.2.2.2.1) true)) ((0:Int),(0:Int),(0:Int),(0:Int),(0:Int),(0:Int),(0:Int),(0:Int),())
def q9u:q5f:=z4b Hb
abbrev q78:Type:=List (ByteArray)->(Int->Prop)->Prop
def z71(Qn:Zw):q78:=fun l K=>Fits l->Cnd ((20:Int)<(↑l.length:Int)) (K (5:Int)) (Lp1 (fun Qe q44=>Fits l->CAt l Qe (fun y3=>Qn y3 fun Q0=>Cnd (Q0=true) (InI (Qe+1)/\q44 (Qe+1)) (K (2:Int))) (Lp1 (fun Q7 v08=>Fits l->CAt l Q7 (fun y5=>InI (Q7 - 1)/\((0:Int)<=Q7 - 1/\Q7 - 1<(↑l.length:Int))/\ ∀y7,l[(Q7 - 1).toNat]? =some y7->Cnd (Lk.blt y7 y5) (InI (Q7+1)/\v08 (Q7+1)) (K (9:Int))) (K (0:Int))) (1:Int))) (0:Int))
def z2s:q78:=z71 Vx
abbrev Bv:Type:=Val->(Int->Prop)->Prop
def z4c(q99:q9s)(Qn:Zw)(z0a:q5f)(z3k:q78):Bv:=fun v K=>Cnd (v.1<1) (K (7:Int)) (Cnd ((5:Int)<v.1) (K (7:Int)) (q99 v fun Qc=>Cnd (Qc=true) (Cnd (v.1=1) (Cnd (v.2=0) (K (0:Int)) (Cnd (v.2=1) (K (0:Int)) (K (3:Int)))) (Cnd (v.1=2) (Cnd (v.2<(-1099511627776:Int)) (K (3:Int)) (Cnd ((1099511627776:Int)<v.2) (K (3:Int)) (K (0:Int)))) (Cnd (v.1=3) (Qn v.3 fun Qe=>Cnd (Qe=true) (K (0:Int)) (K (2:Int))) (Cnd (v.1=4) (z0a v.3 fun (_:Int×Int×Int) Zd=>Cnd (Zd=true) (K (0:Int)) (K (1:Int))) (Cnd (v.1=5) (z3k v.4 fun Qe=>K Qe) (K (0:Int))))))) (K (15:Int))))
def q5g:Bv:=z4c q9t Vx q9u z2s
abbrev z2t:Type:=Ex->(Int->Prop)->Prop
def z72(q67:q2x)(Zf:Ud)(Qh:Zr)(Jl:Bv):z2t:=fun e K=>Cnd (e.1<1) (K (7:Int)) (Cnd ((15:Int)<e.1) (K (7:Int)) (q67 (Ex.mk e.1 e.2 e.3 e.4 e.5) fun Qc=>Cnd (Qc=true) (Fits e.5->Cnd ((12:Int)<(↑e.5.length:Int)) (K (5:Int)) (Fits e.4->Cnd ((20:Int)<(↑e.4.length:Int)) (K (5:Int)) (Lp1 (fun Q7 v08=>Fits e.5->CAt e.5 Q7 (fun y5=>Cnd (y5.1=e.1) (Cnd (e.1=4) (InI (Q7+1)/\v08 (Q7+1)) (K (15:Int))) (InI (Q7+1)/\v08 (Q7+1))) (Zf e.1 fun Q0=>Cnd (Q0=true) (Qh e.2 fun J1=>Cnd (J1=true) (Zf e.1 fun V4=>Cnd (V4=true) (Qh e.3 fun W9=>Cnd (W9=true) (Lp1 (fun Jk v2s=>Fits e.4->CAt e.4 Jk (fun y11=>Jl y11 fun Qj=>Cnd (Qj=0) (InI (Jk+1)/\v2s (Jk+1)) (K Qj)) (Cnd (e.1=9) (((0:Int)<=(0:Int)/\(0:Int)<(↑e.4.length:Int))/\ ∀y11,e.4[Int.toNat (0:Int)]? =some y11->Cnd (y11.1=3) (K (0:Int)) (K (8:Int))) (Cnd (e.1=10) (((0:Int)<=(0:Int)/\(0:Int)<(↑e.4.length:Int))/\ ∀y11,e.4[Int.toNat (0:Int)]? =some y11->Cnd (y11.1=3) (K (0:Int)) (K (8:Int))) (Cnd (e.1=11) (((0:Int)<=(0:Int)/\(0:Int)<(↑e.4.length:Int))/\ ∀y11,e.4[Int.toNat (0:Int)]? =some y11->Cnd (y11.1=3) (K (0:Int)) (K (8:Int))) (K (0:Int)))))) (0:Int)) (K (6:Int))) (Cnd (e.1=5) (Qh e.3 fun W9=>Cnd (W9=true) (Lp1 (fun Jk v2s=>Fits e.4->CAt e.4 Jk (fun y11=>Jl y11 fun Qj=>Cnd (Qj=0) (InI (Jk+1)/\v2s (Jk+1)) (K Qj)) (Cnd (e.1=9) (((0:Int)<=(0:Int)/\(0:Int)<(↑e.4.length:Int))/\ ∀y11,e.4[Int.toNat (0:Int)]? =some y11->Cnd (y11.1=3) (K (0:Int)) (K (8:Int))) (Cnd (e.1=10) (((0:Int)<=(0:Int)/\(0:Int)<(↑e.4.length:Int))/\ ∀y11,e.4[Int.toNat (0:Int)]? =some y11->Cnd (y11.1=3) (K (0:Int)) (K (8:Int))) (Cnd (e.1=11) (((0:Int)<=(0:Int)/\(0:Int)<(↑e.4.length:Int))/\ ∀y11,e.4[Int.toNat (0:Int)]? =some y11->Cnd (y11.1=3) (K (0:Int)) (K (8:Int))) (K (0:Int)))))) (0:Int)) (K (6:Int))) (Lp1 (fun W9 v2t=>Fits e.4->CAt e.4 W9 (fun y10=>Jl y10 fun Zn=>Cnd (Zn=0) (InI (W9+1)/\v2t (W9+1)) (K Zn)) (Cnd (e.1=9) (((0:Int)<=(0:Int)/\(0:Int)<(↑e.4.length:Int))/\ ∀y10,e.4[Int.toNat (0:Int)]? =some y10->Cnd (y10.1=3) (K (0:Int)) (K (8:Int))) (Cnd (e.1=10) (((0:Int)<=(0:Int)/\(0:Int)<(↑e.4.length:Int))/\ ∀y10,e.4[Int.toNat (0:Int)]? =some y10->Cnd (y10.1=3) (K (0:Int)) (K (8:Int))) (Cnd (e.1=11) (((0:Int)<=(0:Int)/\(0:Int)<(↑e.4.length:Int))/\ ∀y10,e.4[Int.toNat (0:Int)]? =some y10->Cnd (y10.1=3) (K (0:Int)) (K (8:Int))) (K (0:Int)))))) (0:Int)))) (K (6:Int))) (Zf e.1 fun J1=>Cnd (J1=true) (Qh e.3 fun V4=>Cnd (V4=true) (Lp1 (fun W9 v2t=>Fits e.4->CAt e.4 W9 (fun y10=>Jl y10 fun Zn=>Cnd (Zn=0) (InI (W9+1)/\v2t (W9+1)) (K Zn)) (Cnd (e.1=9) (((0:Int)<=(0:Int)/\(0:Int)<(↑e.4.length:Int))/\ ∀y10,e.4[Int.toNat (0:Int)]? =some y10->Cnd (y10.1=3) (K (0:Int)) (K (8:Int))) (Cnd (e.1=10) (((0:Int)<=(0:Int)/\(0:Int)<(↑e.4.length:Int))/\ ∀y10,e.4[Int.toNat (0:Int)]? =some y10->Cnd (y10.1=3) (K (0:Int)) (K (8:Int))) (Cnd (e.1=11) (((0:Int)<=(0:Int)/\(0:Int)<(↑e.4.length:Int))/\ ∀y10,e.4[Int.toNat (0:Int)]? =some y10->Cnd (y10.1=3) (K (0:Int)) (K (8:Int))) (K (0:Int)))))) (0:Int)) (K (6:Int))) (Cnd (e.1=5) (Qh e.3 fun V4=>Cnd (V4=true) (Lp1 (fun W9 v2t=>Fits e.4->CAt e.4 W9 (fun y10=>Jl y10 fun Zn=>Cnd (Zn=0) (InI (W9+1)/\v2t (W9+1)) (K Zn)) (Cnd (e.1=9) (((0:Int)<=(0:Int)/\(0:Int)<(↑e.4.length:Int))/\ ∀y10,e.4[Int.toNat (0:Int)]? =some y10->Cnd (y10.1=3) (K (0:Int)) (K (8:Int))) (Cnd (e.1=10) (((0:Int)<=(0:Int)/\(0:Int)<(↑e.4.length:Int))/\ ∀y10,e.4[Int.toNat (0:Int)]? =some y10->Cnd (y10.1=3) (K (0:Int)) (K (8:Int))) (Cnd (e.1=11) (((0:Int)<=(0:Int)/\(0:Int)<(↑e.4.length:Int))/\ ∀y10,e.4[Int.toNat (0:Int)]? =some y10->Cnd (y10.1=3) (K (0:Int)) (K (8:Int))) (K (0:Int)))))) (0:Int)) (K (6:Int))) (Lp1 (fun V4 v5p=>Fits e.4->CAt e.4 V4 (fun y9=>Jl y9 fun Gj=>Cnd (Gj=0) (InI (V4+1)/\v5p (V4+1)) (K Gj)) (Cnd (e.1=9) (((0:Int)<=(0:Int)/\(0:Int)<(↑e.4.length:Int))/\ ∀y9,e.4[Int.toNat (0:Int)]? =some y9->Cnd (y9.1=3) (K (0:Int)) (K (8:Int))) (Cnd (e.1=10) (((0:Int)<=(0:Int)/\(0:Int)<(↑e.4.length:Int))/\ ∀y9,e.4[Int.toNat (0:Int)]? =some y9->Cnd (y9.1=3) (K (0:Int)) (K (8:Int))) (Cnd (e.1=11) (((0:Int)<=(0:Int)/\(0:Int)<(↑e.4.length:Int))/\ ∀y9,e.4[Int.toNat (0:Int)]? =some y9->Cnd (y9.1=3) (K (0:Int)) (K (8:Int))) (K (0:Int)))))) (0:Int)))))) (0:Int)))) (K (15:Int))))
def q5h:z2t:=z72 q6h Jp Vz q5g
abbrev q2y:Type:=Ex->Int->Int->(Int->Int->Prop)->Prop
def z73(w40:z2t)(X:q2y):q2y:=fun e depth n K=>Cnd ((60:Int)<=n) (K (5:Int) n) (InI (n+1)/\Cnd ((10:Int)<depth) (K (18:Int) (n+1)) (w40 (Ex.mk e.1 e.2 e.3 e.4 e.5) fun Qc=>Cnd (Qc=0) (Lp2 (fun Qe Zd q88=>Fits e.5->CAt e.5 Qe (fun y3=>InI (depth+1)/\X (Ex.mk y3.1 y3.2 y3.3 y3.4 y3.5) (depth+1) Zd fun Q0 z9s=>Cnd (Q0=0) (InI (Qe+1)/\q88 (Qe+1) z9s) (K Q0 z9s)) (K (0:Int) Zd)) (0:Int) (n+1)) (K Qc (n+1))))
def z2u:q2y:=fun e depth n K=> ∀X:q2y,(∀e depth n K,z73 q5h X e depth n K->X e depth n K)->X e depth n K
abbrev Rl:Type:=Ex->(Int->Prop)->Prop
def z74(z3l:q2y):Rl:=fun e K=>z3l (Ex.mk e.1 e.2 e.3 e.4 e.5) (1:Int) (0:Int) fun Qc _=>K Qc
def q5i:Rl:=z74 z2u
abbrev q0y:Type:=Seg->(Int->Prop)->Prop
def q79(Qh:Zr)(Jy:Uh)(z3m:z2q)(Wl:Rl):q0y:=fun g K=>Qh g.1 fun Qc=>Cnd (Qc=true) (Qh g.2 fun Qe=>Cnd (Qe=true) (Jy g.3 fun Qr=>Cnd (Qr=0) (Jy g.4 fun Q7=>Cnd (Q7=0) (z3m (Ex.mk g.5.1 g.5.2 g.5.3 g.5.4 g.5.5) fun Qx=>Cnd (Qx=true) (K (0:Int)) (Wl (Ex.mk g.5.1 g.5.2 g.5.3 g.5.4 g.5.5) fun Q0=>K Q0)) (K Q7)) (K Qr)) (K (6:Int))) (K (6:Int))
def q31:q0y:=q79 Vz q0x z2r q5i
abbrev Rm:Type:=List (Seg)->(Int->Prop)->Prop
def q6i(q4l:q0y):Rm:=fun l K=>Fits l->Cnd ((20:Int)<(↑l.length:Int)) (K (5:Int)) (Lp1 (fun Qe q44=>Fits l->CAt l Qe (fun y3=>q4l (Seg.mk y3.1 y3.2 y3.3 y3.4 (Ex.mk y3.5.1 y3.5.2 y3.5.3 y3.5.4 y3.5.5)) fun Q0=>Cnd (Q0=0) (Cnd ((0:Int)<Qe) (At l Qe fun y6=>InI (Qe - 1)/\((0:Int)<=Qe - 1/\Qe - 1<(↑l.length:Int))/\ ∀y8,l[(Qe - 1).toNat]? =some y8->Cnd (Lk.blt y8.1 y6.1) (InI (Qe+1)/\q44 (Qe+1)) (K (9:Int))) (InI (Qe+1)/\q44 (Qe+1))) (K Q0)) (K (0:Int))) (0:Int))
def q10:Rm:=q6i q31
abbrev Ui:Type:=Flg->(Int->Prop)->Prop
def q2z(Jl:Bv):Ui:=fun f K=>Fits f.3->Cnd ((8:Int)<(↑f.3.length:Int)) (K (5:Int)) (Cnd ((↑f.3.length:Int)=0) (K (3:Int)) (Lp1 (fun Qe q44=>CAt f.3 Qe (fun y2=>Jl y2 fun Qx=>Cnd (Qx=0) (At f.3 Qe fun y5=>Cnd (y5.1=f.2) (InI (Qe+1)/\q44 (Qe+1)) (K (8:Int))) (K Qx)) (Cnd (f.5<1) (K (3:Int)) (Cnd ((↑f.3.length:Int)<f.5) (K (3:Int)) (K (0:Int))))) (0:Int)))
def Rn:Ui:=q2z q5g
abbrev Wh:Type:=List (Prq)->(Int->Prop)->Prop
def Rp(Qh:Zr):Wh:=fun l K=>Fits l->Cnd ((4:Int)<(↑l.length:Int)) (K (5:Int)) (Lp1 (fun Qe q44=>Fits l->CAt l Qe (fun y3=>Qh y3.1 fun Q0=>Cnd (Q0=true) (Cnd ((0:Int)<Qe) (At l Qe fun y6=>InI (Qe - 1)/\((0:Int)<=Qe - 1/\Qe - 1<(↑l.length:Int))/\ ∀y8,l[(Qe - 1).toNat]? =some y8->Cnd (Lk.blt y8.1 y6.1) (At l Qe fun y10=>Cnd (y10.2<1) (K (3:Int)) (At l Qe fun y12=>Cnd ((8:Int)<y12.2) (K (3:Int)) (InI (Qe+1)/\q44 (Qe+1)))) (K (9:Int))) (At l Qe fun y6=>Cnd (y6.2<1) (K (3:Int)) (At l Qe fun y8=>Cnd ((8:Int)<y8.2) (K (3:Int)) (InI (Qe+1)/\q44 (Qe+1))))) (K (6:Int))) (K (0:Int))) (0:Int))
def V0:Wh:=Rp Vz
abbrev q0z:Type:=List (Tgt)->Int->(Int->Prop)->Prop
def q8a(Qh:Zr)(Jy:Uh):q0z:=fun l n K=>Fits l->Cnd ((8:Int)<(↑l.length:Int)) (K (5:Int)) (Lp1 (fun Qe q44=>Fits l->CAt l Qe (fun y3=>Qh y3.1 fun Q0=>Cnd (Q0=true) (At l Qe fun y6=>Cnd (y6.2<1) (K (3:Int)) (At l Qe fun y8=>Cnd (n<y8.2) (K (3:Int)) (At l Qe fun y10=>Fits y10.3->Cnd ((↑y10.3.length:Int)=0) (K (3:Int)) (At l Qe fun y13=>Jy y13.3 fun Jv=>Cnd (Jv=0) (InI (Qe+1)/\q44 (Qe+1)) (K Jv))))) (K (6:Int))) (K (0:Int))) (0:Int))
def q32:q0z:=q8a Vz q0x
abbrev q2f:Type:=List (Rng)->Int->(Int->Prop)->Prop
def q5j:q2f:=fun l variations K=>Fits l->Cnd ((16:Int)<(↑l.length:Int)) (K (5:Int)) (Lp2 (fun Qe Zd q88=>Fits l->CAt l Zd (fun y3=>Cnd (y3.3<1) (K (3:Int)) (At l Zd fun y5=>Cnd (variations<y5.3) (K (3:Int)) (At l Zd fun y7=>Cnd (y7.1=Qe) (At l Zd fun y9=>Cnd (y9.2<=Qe) (K (9:Int)) (Cnd ((0:Int)<Zd) (At l Zd fun y11=>InI (Zd - 1)/\((0:Int)<=Zd - 1/\Zd - 1<(↑l.length:Int))/\ ∀y13,l[(Zd - 1).toNat]? =some y13->Cnd (y11.3=y13.3) (K (9:Int)) (At l Zd fun y15=>InI (Zd+1)/\q88 y15.2 (Zd+1))) (At l Zd fun y11=>InI (Zd+1)/\q88 y11.2 (Zd+1)))) (K (9:Int))))) (Cnd (Qe=10000) (K (0:Int)) (K (3:Int)))) (0:Int) (0:Int))
abbrev Bw:Type:=Srv->Int->(Int->Prop)->Prop
def z4d(Qh:Zr)(Qn:Zw)(Gn:q2f):Bw:=fun v variations K=>Cnd (v.1=0) (Qh v.2 fun Qc=>Cnd (Qc=true) (Qh v.3 fun Qe=>Cnd (Qe=true) (Qn v.4 fun Qr=>Cnd (Qr=true) (Gn v.5 variations fun Q7=>K Q7) (K (2:Int))) (K (6:Int))) (K (6:Int))) (Cnd (v.1<1) (K (3:Int)) (Cnd (variations<v.1) (K (3:Int)) (Cnd (v.2=B8 []) (Cnd (v.3=B8 []) (Cnd (v.4=B8 []) (Fits v.5->Cnd ((0:Int)<(↑v.5.length:Int)) (K (15:Int)) (K (0:Int))) (K (15:Int))) (K (15:Int))) (K (15:Int)))))
def q5k:Bw:=z4d Vz Vx q5j
abbrev q5l:Type:=List (Rul)->Int->(Int->Prop)->Prop
def z4e(Qh:Zr)(Wl:Rl)(Gq:Bw):q5l:=fun l n K=>Fits l->Cnd ((12:Int)<(↑l.length:Int)) (K (5:Int)) (Lp1 (fun Qe q44=>Fits l->CAt l Qe (fun y3=>Qh y3.1 fun Q0=>Cnd (Q0=true) (Lp1 (fun J1 v5q=>Cnd (J1<Qe) (At l J1 fun y7=>At l Qe fun y9=>Cnd (y7.1=y9.1) (K (10:Int)) (InI (J1+1)/\v5q (J1+1))) (At l Qe fun y7=>Wl (Ex.mk y7.2.1 y7.2.2 y7.2.3 y7.2.4 y7.2.5) fun Jk=>Cnd (Jk=0) (At l Qe fun y10=>Gq (Srv.mk y10.3.1 y10.3.2 y10.3.3 y10.3.4 y10.3.5) n fun Zn=>Cnd (Zn=0) (InI (Qe+1)/\q44 (Qe+1)) (K Zn)) (K Jk))) (0:Int)) (K (6:Int))) (K (0:Int))) (0:Int))
def q9v:q5l:=z4e Vz q5i q5k
abbrev q8b:Type:=Flg->(Int->Prop)->Prop
def z75(Qh:Zr)(Bf:Ui)(V6:Wh)(q4m:q0z)(z0b:q5l)(Gq:Bw):q8b:=fun f K=>Fits f.3->Qh f.1 fun Qe=>Cnd (Qe=true) (Cnd (f.2<1) (K (7:Int)) (Cnd ((5:Int)<f.2) (K (7:Int)) (Bf (Flg.mk f.1 f.2 f.3 f.4 f.5 f.6 f.7 f.8 (Srv.mk f.9.1 f.9.2 f.9.3 f.9.4 f.9.5)) fun Qr=>Cnd (Qr=0) (V6 f.6 fun Q7=>Cnd (Q7=0) (q4m f.7 (↑f.3.length:Int) fun Qx=>Cnd (Qx=0) (z0b f.8 (↑f.3.length:Int) fun Q0=>Cnd (Q0=0) (Gq (Srv.mk f.9.1 f.9.2 f.9.3 f.9.4 f.9.5) (↑f.3.length:Int) fun J1=>K J1) (K Q0)) (K Qx)) (K Q7)) (K Qr)))) (K (6:Int))
def z2v:q8b:=z75 Vz Rn V0 q32 q9v q5k
abbrev q5m:Type:=List (Flg)->(Int->Prop)->Prop
def z4f(z3n:q8b):q5m:=fun l K=>Fits l->Cnd ((30:Int)<(↑l.length:Int)) (K (5:Int)) (Lp1 (fun Qe q44=>Fits l->CAt l Qe (fun y3=>z3n (Flg.mk y3.1 y3.2 y3.3 y3.4 y3.5 y3.6 y3.7 y3.8 (Srv.mk y3.9.1 y3.9.2 y3.9.3 y3.9.4 y3.9.5)) fun Q0=>Cnd (Q0=0) (Cnd ((0:Int)<Qe) (At l Qe fun y6=>InI (Qe - 1)/\((0:Int)<=Qe - 1/\Qe - 1<(↑l.length:Int))/\ ∀y8,l[(Qe - 1).toNat]? =some y8->Cnd (Lk.blt y8.1 y6.1) (InI (Qe+1)/\q44 (Qe+1)) (K (9:Int))) (InI (Qe+1)/\q44 (Qe+1))) (K Q0)) (K (0:Int))) (0:Int))
def q9w:q5m:=z4f z2v
abbrev q5n:Type:=Lay_->(Int->Prop)->Prop
def z4g(Qh:Zr)(Qn:Zw):q5n:=fun l K=>Qh l.1 fun Qc=>Cnd (Qc=true) (Qh l.2 fun Qe=>Cnd (Qe=true) (Qn l.3 fun Qr=>Cnd (Qr=true) (Cnd (l.4<0) (K (3:Int)) (Cnd ((10000:Int)<l.4) (K (3:Int)) (Cnd (l.5<0) (K (3:Int)) (Cnd ((1099511627776:Int)<l.5) (K (3:Int)) (Fits l.6->Cnd ((32:Int)<(↑l.6.length:Int)) (K (5:Int)) (Lp1 (fun Qx v26=>Fits l.6->CAt l.6 Qx (fun y6=>Cnd (y6.1<0) (K (3:Int)) (Cnd (y6.2<=y6.1) (K (3:Int)) (Cnd ((10000:Int)<y6.2) (K (3:Int)) (Cnd (y6.3<0) (K (3:Int)) (Cnd ((1099511627776:Int)<y6.3) (K (3:Int)) (Cnd ((0:Int)<Qx) (InI (Qx - 1)/\((0:Int)<=Qx - 1/\Qx - 1<(↑l.6.length:Int))/\ ∀y8,l.6[(Qx - 1).toNat]? =some y8->Cnd (y6.1<y8.2) (K (9:Int)) (InI (Qx+1)/\v26 (Qx+1))) (InI (Qx+1)/\v26 (Qx+1)))))))) (K (0:Int))) (0:Int))))))) (K (2:Int))) (K (6:Int))) (K (6:Int))
def q9x:q5n:=z4g Vz Vx
abbrev q20:Type:=List (Lay_)->(Int->Prop)->Prop
def z1d(z0c:q5n):q20:=fun l K=>Fits l->Cnd ((6:Int)<(↑l.length:Int)) (K (5:Int)) (Lp1 (fun Qe q44=>Fits l->CAt l Qe (fun y3=>z0c y3 fun Q0=>Cnd (Q0=0) (Cnd ((0:Int)<Qe) (At l Qe fun y6=>InI (Qe - 1)/\((0:Int)<=Qe - 1/\Qe - 1<(↑l.length:Int))/\ ∀y8,l[(Qe - 1).toNat]? =some y8->Cnd (Lk.blt y8.1 y6.1) (InI (Qe+1)/\q44 (Qe+1)) (K (9:Int))) (InI (Qe+1)/\q44 (Qe+1))) (K Q0)) (K (0:Int))) (0:Int))
def q6j:q20:=z1d q9x
abbrev q9y:Type:=List (Spn)->(Int->Prop)->Prop
def q9z:q9y:=fun l K=>Fits l->Cnd ((16:Int)<(↑l.length:Int)) (K (5:Int)) (Lp1 (fun Qe q44=>Fits l->CAt l Qe (fun y3=>Cnd (y3.1<0) (K (3:Int)) (At l Qe fun y5=>At l Qe fun y7=>Cnd (y7.2<=y5.1) (K (3:Int)) (At l Qe fun y9=>Cnd ((10000:Int)<y9.2) (K (3:Int)) (Cnd ((0:Int)<Qe) (At l Qe fun y11=>InI (Qe - 1)/\((0:Int)<=Qe - 1/\Qe - 1<(↑l.length:Int))/\ ∀y13,l[(Qe - 1).toNat]? =some y13->Cnd (y11.1<=y13.2) (K (9:Int)) (InI (Qe+1)/\q44 (Qe+1))) (InI (Qe+1)/\q44 (Qe+1)))))) (K (0:Int))) (0:Int))
abbrev Uj:Type:=Exper->(Int->Prop)->Prop
def q21(Qh:Zr)(Qn:Zw)(z0d:q9y)(Gn:q2f)(Wl:Rl):Uj:=fun x K=>Qh x.1 fun Qc=>Cnd (Qc=true) (Qh x.2 fun Qe=>Cnd (Qe=true) (Qh x.3 fun Qr=>Cnd (Qr=true) (Qn x.4 fun Q7=>Cnd (Q7=true) (Cnd (x.5<1) (K (7:Int)) (Cnd ((3:Int)<x.5) (K (7:Int)) (z0d x.6 fun Qx=>Cnd (Qx=0) (Gn x.7 (8:Int) fun Q0=>Cnd (Q0=0) (Wl (Ex.mk x.8.1 x.8.2 x.8.3 x.8.4 x.8.5) fun J1=>K J1) (K Q0)) (K Qx)))) (K (2:Int))) (K (6:Int))) (K (6:Int))) (K (6:Int))
def Rq:Uj:=q21 Vz Vx q9z q5j q5i
abbrev Vp:Type:=List (Exper)->(Int->Prop)->Prop
def q1c(Bg:Uj):Vp:=fun l K=>Fits l->Cnd ((16:Int)<(↑l.length:Int)) (K (5:Int)) (Lp1 (fun Qe q44=>Fits l->CAt l Qe (fun y3=>Bg (Exper.mk y3.1 y3.2 y3.3 y3.4 y3.5 y3.6 y3.7 (Ex.mk y3.8.1 y3.8.2 y3.8.3 y3.8.4 y3.8.5)) fun Q0=>Cnd (Q0=0) (Cnd ((0:Int)<Qe) (At l Qe fun y6=>InI (Qe - 1)/\((0:Int)<=Qe - 1/\Qe - 1<(↑l.length:Int))/\ ∀y8,l[(Qe - 1).toNat]? =some y8->Cnd (Lk.blt y8.1 y6.1) (InI (Qe+1)/\q44 (Qe+1)) (K (9:Int))) (InI (Qe+1)/\q44 (Qe+1))) (K Q0)) (K (0:Int))) (0:Int))
def Hc:Vp:=q1c Rq
abbrev Vq:Type:=Envt->(Int->Prop)->Prop
def q1d(q2a:Rj)(q2b:Rk)(q2c:Rm)(z0e:q5m)(q68:q20)(Hi:Vp):Vq:=fun v K=>q2a (Sett.mk v.1.1 v.1.2 v.1.3) fun Qc=>Cnd (Qc=0) (q2b v.2 fun Qe=>Cnd (Qe=0) (q2c v.3 fun Qr=>Cnd (Qr=0) (z0e v.4 fun Q7=>Cnd (Q7=0) (q68 v.5 fun Qx=>Cnd (Qx=0) (Hi v.6 fun Q0=>K Q0) (K Qx)) (K Q7)) (K Qr)) (K Qe)) (K Qc)
def Hd:Vq:=q1d q1y q1z q10 q9w q6j Hc
abbrev Hw:Type:=List (Seg)->(List (ByteArray)->Prop)->Prop
def q5o:Hw:=fun l K=>Lp2 (fun Qc Q9 q0r=>Fits l->CAt l Q9 (fun y2=>Sml (Qc++[y2.1]).length/\InI (Q9+1)/\q0r (Qc++[y2.1]) (Q9+1)) (K Qc)) [] (0:Int)
abbrev q6k:Type:=List (ByteArray)->ByteArray->(Bool->Prop)->Prop
def q33:q6k:=fun l s K=>Lp1 (fun Qc q18=>Fits l->CAt l Qc (fun y2=>Cnd (y2=s) (K true) (InI (Qc+1)/\q18 (Qc+1))) (K false)) (0:Int)
abbrev q8c:Type:=List (Decl)->ByteArray->ByteArray->(Int->Prop)->Prop
def q00:q8c:=fun l kind name K=>Lp1 (fun Qc q18=>Fits l->CAt l Qc (fun y2=>Cnd (y2.1=kind) (At l Qc fun y4=>Cnd (y4.2=name) (At l Qc fun y6=>K y6.3) (InI (Qc+1)/\q18 (Qc+1))) (InI (Qc+1)/\q18 (Qc+1))) (Cnd (name=B8 [107,101,121]) (K (3:Int)) (K (0:Int)))) (0:Int)
abbrev z76:Type:=Int->Ex->(Bool->Prop)->Prop
def q22:z76:=fun t e K=>Cnd (e.1=6) (K true) (Cnd (e.1=8) (Lp1 (fun Qc q18=>Fits e.4->CAt e.4 Qc (fun y2=>Cnd (y2.1=t) (InI (Qc+1)/\q18 (Qc+1)) (K false)) (K (match decide ((t,e,()).1=5) with|true=>false|false=>true))) (0:Int)) (Fits e.4->Cnd ((↑e.4.length:Int)=0) (K false) (((0:Int)<=(0:Int)/\(0:Int)<(↑e.4.length:Int))/\ ∀y1,e.4[Int.toNat (0:Int)]? =some y1->Cnd (e.1=7) (K (decide (y1.1=t))) (Jn1 (fun Q7=>Cnd (Q7=true) (Cnd (t=3) (K (decide (y1.1=3))) (K false)) (Cnd (e.1=11) (Cnd (t=3) (K (decide (y1.1=3))) (Cnd (t=5) (K (decide (y1.1=3))) (K false))) (Cnd (t=2) (K (decide (y1.1=t))) (Cnd (t=3) (K (decide (y1.1=t))) (Cnd (t=4) (K (decide (y1.1=t))) (K false)))))) fun w8n=>Cnd (e.1=9) (w8n (decide (e.1=9))) (w8n (decide (e.1=10)))))))
abbrev Uk:Type:=List (Decl)->List (ByteArray)->Ex->(Int->Prop)->Prop
def z77(Bh:q6k)(Zf:Ud)(q3w:q8c)(j5n:z76)(X:Uk):Uk:=fun l segments e K=>Cnd (e.1=5) (Bh segments e.3 fun Qc=>Cnd (Qc=true) (Jn0 (Lp1 (fun Qe q44=>Fits e.5->CAt e.5 Qe (fun y3=>X l segments (Ex.mk y3.1 y3.2 y3.3 y3.4 y3.5) fun Q0=>Cnd (Q0=0) (InI (Qe+1)/\q44 (Qe+1)) (K Q0)) (K (0:Int))) (0:Int)) fun Qe=>Zf e.1 fun Qr=>Cnd (Qr=true) (q3w l e.2 e.3 fun Q7=>Cnd (Q7=0) (K (11:Int)) (j5n Q7 (Ex.mk e.1 e.2 e.3 e.4 e.5) fun Qx=>Cnd (Qx=true) Qe (K (8:Int)))) Qe) (K (11:Int))) (Jn0 (Lp1 (fun Qc q18=>Fits e.5->CAt e.5 Qc (fun y2=>X l segments (Ex.mk y2.1 y2.2 y2.3 y2.4 y2.5) fun Qx=>Cnd (Qx=0) (InI (Qc+1)/\q18 (Qc+1)) (K Qx)) (K (0:Int))) (0:Int)) fun Qc=>Zf e.1 fun Qe=>Cnd (Qe=true) (q3w l e.2 e.3 fun Qr=>Cnd (Qr=0) (K (11:Int)) (j5n Qr (Ex.mk e.1 e.2 e.3 e.4 e.5) fun Q7=>Cnd (Q7=true) Qc (K (8:Int)))) Qc)
def q5p:Uk:=fun l segments e K=> ∀X:Uk,(∀l segments e K,z77 q33 Jp q00 q22 X l segments e K->X l segments e K)->X l segments e K
abbrev q6l:Type:=List (ByteArray)->ByteArray->(List (ByteArray)->Prop)->Prop
def q34:q6l:=fun l s K=>Lp1 (fun Qc q18=>Fits l->CAt l Qc (fun y2=>Cnd (Lk.blt y2 s) (InI (Qc+1)/\q18 (Qc+1)) (Fits l->CAt l Qc (fun y5=>Cnd (y5=s) (K l) (((0:Int)<=(0:Int)/\(0:Int)<=Qc/\Qc<=(↑l.length:Int))/\Sml ([]++List.drop (Int.toNat (0:Int)) (List.take Qc.toNat l)).length/\((0:Int)<=Qc/\Qc<=(↑l.length:Int)/\(↑l.length:Int)<=(↑l.length:Int))/\Sml ([]++List.drop (Int.toNat (0:Int)) (List.take Qc.toNat l)++[s]).length/\Sml ([]++List.drop (Int.toNat (0:Int)) (List.take Qc.toNat l)++[s]++List.drop Qc.toNat (List.take (↑l.length:Int).toNat l)).length/\K ([]++List.drop (Int.toNat (0:Int)) (List.take Qc.toNat l)++[s]++List.drop Qc.toNat (List.take (↑l.length:Int).toNat l)))) (((0:Int)<=(0:Int)/\(0:Int)<=Qc/\Qc<=(↑l.length:Int))/\Sml ([]++List.drop (Int.toNat (0:Int)) (List.take Qc.toNat l)).length/\((0:Int)<=Qc/\Qc<=(↑l.length:Int)/\(↑l.length:Int)<=(↑l.length:Int))/\Sml ([]++List.drop (Int.toNat (0:Int)) (List.take Qc.toNat l)++[s]).length/\Sml ([]++List.drop (Int.toNat (0:Int)) (List.take Qc.toNat l)++[s]++List.drop Qc.toNat (List.take (↑l.length:Int).toNat l)).length/\K ([]++List.drop (Int.toNat (0:Int)) (List.take Qc.toNat l)++[s]++List.drop Qc.toNat (List.take (↑l.length:Int).toNat l))))) (Fits l->CAt l Qc (fun y3=>Cnd (y3=s) (K l) (((0:Int)<=(0:Int)/\(0:Int)<=Qc/\Qc<=(↑l.length:Int))/\Sml ([]++List.drop (Int.toNat (0:Int)) (List.take Qc.toNat l)).length/\((0:Int)<=Qc/\Qc<=(↑l.length:Int)/\(↑l.length:Int)<=(↑l.length:Int))/\Sml ([]++List.drop (Int.toNat (0:Int)) (List.take Qc.toNat l)++[s]).length/\Sml ([]++List.drop (Int.toNat (0:Int)) (List.take Qc.toNat l)++[s]++List.drop Qc.toNat (List.take (↑l.length:Int).toNat l)).length/\K ([]++List.drop (Int.toNat (0:Int)) (List.take Qc.toNat l)++[s]++List.drop Qc.toNat (List.take (↑l.length:Int).toNat l)))) (((0:Int)<=(0:Int)/\(0:Int)<=Qc/\Qc<=(↑l.length:Int))/\Sml ([]++List.drop (Int.toNat (0:Int)) (List.take Qc.toNat l)).length/\((0:Int)<=Qc/\Qc<=(↑l.length:Int)/\(↑l.length:Int)<=(↑l.length:Int))/\Sml ([]++List.drop (Int.toNat (0:Int)) (List.take Qc.toNat l)++[s]).length/\Sml ([]++List.drop (Int.toNat (0:Int)) (List.take Qc.toNat l)++[s]++List.drop Qc.toNat (List.take (↑l.length:Int).toNat l)).length/\K ([]++List.drop (Int.toNat (0:Int)) (List.take Qc.toNat l)++[s]++List.drop Qc.toNat (List.take (↑l.length:Int).toNat l))))) (0:Int)
abbrev Ul:Type:=List (ByteArray)->Ex->(List (ByteArray)->Prop)->Prop
def q8d(Bi:q6l)(X:Ul):Ul:=fun l e K=>Jn1 (fun Qc=>Lp2 (fun Qe Zd q88=>Fits e.5->CAt e.5 Zd (fun y3=>X Qe (Ex.mk y3.1 y3.2 y3.3 y3.4 y3.5) fun Q0=>InI (Zd+1)/\q88 Q0 (Zd+1)) (K Qe)) Qc (0:Int)) fun z61=>Cnd (e.1=5) (Bi l e.3 fun Qe=>z61 Qe) (z61 l)
def q35:Ul:=fun l e K=> ∀X:Ul,(∀l e K,q8d q34 X l e K->X l e K)->X l e K
abbrev q01:Type:=Ex->(List (ByteArray)->Prop)->Prop
def q8e(q4n:Ul):q01:=fun e K=>q4n [] (Ex.mk e.1 e.2 e.3 e.4 e.5) fun Qc=>K Qc
def q36:q01:=q8e q35
abbrev q23:Type:=List (Seg)->(List (Edg)->Prop)->Prop
def z1e(q4o:q01):q23:=fun l K=>Lp2 (fun Qc Q9 q0r=>Fits l->CAt l Q9 (fun y2=>q4o (Ex.mk y2.5.1 y2.5.2 y2.5.3 y2.5.4 y2.5.5) fun Qx=>Lp2 (fun Q0 z9s v4j=>Fits Qx->Cnd (z9s<(↑Qx.length:Int)) (At l Q9 fun y7=>At Qx z9s fun y9=>Sml (Q0++[Edg.mk y7.1 y9]).length/\InI (z9s+1)/\v4j (Q0++[Edg.mk y7.1 y9]) (z9s+1)) (InI (Q9+1)/\q0r Q0 (Q9+1))) Qc (0:Int)) (K Qc)) [] (0:Int)
def q6m:q23:=z1e q36
abbrev q5q:Type:=List (Edg)->ByteArray->(List (ByteArray)->Prop)->Prop
def z4h(Bh:q6k)(Bi:q6l):q5q:=fun edges node K=>Lp2 (fun Qc Q9 q0r=>Fits Q9->Cnd ((0:Int)<(↑Q9.length:Int)) (((0:Int)<=(0:Int)/\(0:Int)<(↑Q9.length:Int))/\ ∀y2,Q9[Int.toNat (0:Int)]? =some y2->((0:Int)<=(1:Int)/\(1:Int)<=(↑Q9.length:Int)/\(↑Q9.length:Int)<=(↑Q9.length:Int))/\Lp3 (fun Qx V8 z3q v09=>Fits edges->CAt edges z3q (fun y6=>Cnd (y6.1=y2) (At edges z3q fun y8=>Bh Qx y8.2 fun Zy=>Cnd (Zy=true) (InI (z3q+1)/\v09 Qx V8 (z3q+1)) (At edges z3q fun y11=>Bi Qx y11.2 fun Qj=>At edges z3q fun y14=>(Sml ([]++V8).length/\Sml ([]++V8++[y14.2]).length/\InI (z3q+1)/\v09 Qj ([]++V8++[y14.2]) (z3q+1))/\Sml ([]++V8).length/\Sml ([]++V8++[y14.2]).length/\InI (z3q+1)/\v09 Qj ([]++V8++[y14.2]) (z3q+1))) (InI (z3q+1)/\v09 Qx V8 (z3q+1))) (q0r Qx V8)) Qc (List.drop (Int.toNat (1:Int)) (List.take (↑Q9.length:Int).toNat Q9)) (0:Int)) (K Qc)) [] [node]
def q90:q5q:=z4h q33 q34
abbrev q24:Type:=List (ByteArray)->List (Edg)->(List (ByteArray)->Prop)->Prop
def z1f(z0f:q5q)(Bh:q6k)(Bi:q6l):q24:=fun nodes edges K=>Lp2 (fun Qc Q9 q0r=>Fits nodes->CAt nodes Q9 (fun y2=>At nodes Q9 fun y4=>z0f edges y2 fun J1=>Bh J1 y4 fun V4=>Cnd (V4=true) (At nodes Q9 fun y8=>Bi Qc y8 fun Zy=>InI (Q9+1)/\q0r Zy (Q9+1)) (InI (Q9+1)/\q0r Qc (Q9+1))) (K Qc)) [] (0:Int)
def q6n:q24:=z1f q90 q33 q34
abbrev q25:Type:=List (ByteArray)->List (Edg)->(ByteArray->Bool->Prop)->Prop
def z1g(q69:q24):q25:=fun nodes edges K=>q69 nodes edges fun Qc=>Fits Qc->Cnd ((↑Qc.length:Int)=0) (K (B8 []) false) (((0:Int)<=(0:Int)/\(0:Int)<(↑Qc.length:Int))/\ ∀y2,Qc[Int.toNat (0:Int)]? =some y2->K y2 true)
def q6o:q25:=z1g q6n
abbrev Hx:Type:=Envt->ByteArray->(Int->Prop)->Prop
def q37:Hx:=fun v key K=>Lp1 (fun Qc q18=>Fits v.4->CAt v.4 Qc (fun y2=>Cnd (y2.1=key) (K Qc) (InI (Qc+1)/\q18 (Qc+1))) (K (-1:Int))) (0:Int)
abbrev q5r:Type:=List (Decl)->Srv->(Int->Prop)->Prop
def z4i(q3w:q8c):q5r:=fun l v K=>Cnd (v.1=0) (q3w l v.2 v.3 fun Qc=>Cnd (Qc=0) (K (11:Int)) (Cnd (Qc=5) (K (8:Int)) (K (0:Int)))) (K (0:Int))
def q91:q5r:=z4i q00
abbrev Um:Type:=Envt->Flg->(Int->Prop)->Prop
def q26(Jm:Hw)(Wm:Hx)(Wn:Uk)(q5w:q5r)(Zi:Z7):Um:=fun v f K=>Jm v.3 fun Qc=>Lp2 (fun Qe Zd q88=>Fits f.6->CAt f.6 Qe (fun y3=>Wm (Envt.mk (Sett.mk v.1.1 v.1.2 v.1.3) v.2 v.3 v.4 v.5 v.6) y3.1 fun Q0=>Cnd (Q0<0) (K (11:Int)) (At f.6 Qe fun y6=>At v.4 Q0 fun y8=>Fits y8.3->Cnd ((↑y8.3.length:Int)<y6.2) (K (3:Int)) (InI (Qe+1)/\q88 (Qe+1) Zd))) (Lp2 (fun Q7 V7 z63=>Fits f.8->CAt f.8 Q7 (fun y5=>Wn v.2 V7 (Ex.mk y5.2.1 y5.2.2 y5.2.3 y5.2.4 y5.2.5) fun V4=>Cnd (V4=0) (At f.8 Q7 fun y8=>q5w v.2 (Srv.mk y8.3.1 y8.3.2 y8.3.3 y8.3.4 y8.3.5) fun Zy=>Cnd (Zy=0) (InI (Q7+1)/\z63 (Q7+1) V7) (K Zy)) (K V4)) (q5w v.2 (Srv.mk f.9.1 f.9.2 f.9.3 f.9.4 f.9.5) fun Q0=>Cnd (Q0=0) (Zi f.8 fun J1 _ v27=>Cnd (v27=true) (Fits J1->Cnd ((0:Int)<(↑J1.length:Int)) (K (13:Int)) (K (0:Int))) (K (19:Int))) (K Q0))) (0:Int) Zd)) (0:Int) Qc
def Rr:Um:=q26 q5o q37 q5p q91 W1
abbrev q0k:Type:=Envt->(List (ByteArray)->Prop)->Prop
def q4t:q0k:=fun v K=>Lp2 (fun Qc Q9 q0r=>Fits v.4->CAt v.4 Q9 (fun y2=>Sml (Qc++[y2.1]).length/\InI (Q9+1)/\q0r (Qc++[y2.1]) (Q9+1)) (K Qc)) [] (0:Int)
abbrev Rs:Type:=Envt->(List (Edg)->Prop)->Prop
def Rt:Rs:=fun v K=>Lp2 (fun Qc Q9 q0r=>Fits v.4->Cnd (Q9<(↑v.4.length:Int)) (Lp2 (fun Qr Zv q43=>At v.4 Q9 fun y3=>Fits y3.6->Cnd (Zv<(↑y3.6.length:Int)) (At v.4 Q9 fun y6=>At v.4 Q9 fun y8=>At y8.6 Zv fun y10=>Sml (Qr++[Edg.mk y6.1 y10.1]).length/\InI (Zv+1)/\q43 (Qr++[Edg.mk y6.1 y10.1]) (Zv+1)) (InI (Q9+1)/\q0r Qr (Q9+1))) Qc (0:Int)) (K Qc)) [] (0:Int)
abbrev Un:Type:=List (Spn)->List (Spn)->(List (Spn)->Prop)->Prop
def q38(Zl:G0)(Qy:Jr):Un:=fun a b K=>Zl a fun Qc=>Zl b fun Qe=>Lp2 (fun Qr Zv q43=>Fits Zv->CAt Zv Qr (fun y4=>Cnd (y4=true) (At Qe Qr fun y6=>At Zv Qr fun _=>InI (Qr+1)/\q43 (Qr+1) (Zv.set Qr.toNat y6)) (At Zv Qr fun _=>InI (Qr+1)/\q43 (Qr+1) (Zv.set Qr.toNat false))) (Qy Zv fun Qx=>K Qx)) (0:Int) Qc
def Uo:Un:=q38 Rg Wt
abbrev Je:Type:=Envt->Int->(Int->Prop)->Prop
def Up(Qz:Ja)(Wm:Hx)(Jm:Hw)(Wn:Uk)(Jz:Un):Je:=fun v i K=>At v.6 i fun y0=>Qz (Envt.mk (Sett.mk v.1.1 v.1.2 v.1.3) v.2 v.3 v.4 v.5 v.6) y0.2 fun Qr=>Wm (Envt.mk (Sett.mk v.1.1 v.1.2 v.1.3) v.2 v.3 v.4 v.5 v.6) y0.3 fun Q7=>Cnd (Qr<0) (K (11:Int)) (Cnd (Q7<0) (K (11:Int)) (Lp1 (fun Qx v26=>Fits y0.7->CAt y0.7 Qx (fun y6=>At v.4 Q7 fun y8=>Fits y8.3->Cnd ((↑y8.3.length:Int)<y6.3) (K (3:Int)) (InI (Qx+1)/\v26 (Qx+1))) (Jm v.3 fun J1=>Wn v.2 J1 (Ex.mk y0.8.1 y0.8.2 y0.8.3 y0.8.4 y0.8.5) fun V4=>Cnd (V4=0) (Cnd (y0.5=3) (K (0:Int)) (At v.5 Qr fun y8=>Lp3 (fun Zy Gi w7p v0v=>Cnd (Gi<i) (At v.6 Gi fun y11=>Cnd (y11.2=y0.2) (Cnd (y11.5=3) (InI (Gi+1)/\v0v Zy (Gi+1) w7p) (Sml (Zy++y11.6).length/\InI (Gi+1)/\v0v (Zy++y11.6) (Gi+1) w7p)) (InI (Gi+1)/\v0v Zy (Gi+1) w7p)) (Jz y0.6 Zy fun Gj=>Fits Gj->Cnd ((0:Int)<(↑Gj.length:Int)) (K (14:Int)) (Lp4 (fun Qj z5d v0w v0x v0y=>Cnd (Qj<i) (Cnd (y0.5=2) (At v.6 Qj fun y14=>Cnd (y14.5=2) (Cnd (y14.3=y0.3) (Cnd (y14.2=y0.2) (InI (Qj+1)/\v0y (Qj+1) z5d v0w v0x) (K (14:Int))) (InI (Qj+1)/\v0y (Qj+1) z5d v0w v0x)) (InI (Qj+1)/\v0y (Qj+1) z5d v0w v0x)) (K (0:Int))) (K (0:Int))) (0:Int) Gj Zy w7p))) [Spn.mk (0:Int) y8.4] (0:Int) J1)) (K V4))) (0:Int)))
def Wi:Je:=Up Wg q37 q5o q5p Uo
abbrev W2:Type:=Envt->(ByteArray->Int->Prop)->Prop
def Bx(Hj:Vq)(Jm:Hw)(Wn:Uk)(q7a:q23)(q3x:q25)(Bj:Um)(q0t:q0k)(Bk:Rs)(Wo:Je):W2:=fun v K=>Hj (Envt.mk (Sett.mk v.1.1 v.1.2 v.1.3) v.2 v.3 v.4 v.5 v.6) fun Qc=>Cnd (Qc=0) (Jm v.3 fun Qe=>Lp2 (fun Qr Zv q43=>Fits v.3->CAt v.3 Qr (fun y4=>Cnd (y4.5.1=0) (InI (Qr+1)/\q43 (Qr+1) Zv) (At v.3 Qr fun y6=>Wn v.2 Zv (Ex.mk y6.5.1 y6.5.2 y6.5.3 y6.5.4 y6.5.5) fun W9=>Cnd (W9=0) (InI (Qr+1)/\q43 (Qr+1) Zv) (At v.3 Qr fun y9=>(↑((B8 [115,101,103,109,101,110,116,32]).size+y9.1.size):Int)<=(9223372036854775807:Int)/\K (B8 [115,101,103,109,101,110,116,32]++y9.1) W9))) (q7a v.3 fun Qx=>q3x Zv Qx fun Q0 z9s=>Cnd (z9s=true) ((↑((B8 [115,101,103,109,101,110,116,32]).size+Q0.size):Int)<=(9223372036854775807:Int)/\K (B8 [115,101,103,109,101,110,116,32]++Q0) (12:Int)) (Lp3 (fun J1 j0f v27 v5r=>Fits v.4->CAt v.4 J1 (fun y8=>Bj (Envt.mk (Sett.mk v.1.1 v.1.2 v.1.3) v.2 v.3 v.4 v.5 v.6) (Flg.mk y8.1 y8.2 y8.3 y8.4 y8.5 y8.6 y8.7 y8.8 (Srv.mk y8.9.1 y8.9.2 y8.9.3 y8.9.4 y8.9.5)) fun Zy=>Cnd (Zy=0) (InI (J1+1)/\v5r (J1+1) j0f v27) (At v.4 J1 fun y11=>(↑((B8 [102,108,97,103,32]).size+y11.1.size):Int)<=(9223372036854775807:Int)/\K (B8 [102,108,97,103,32]++y11.1) Zy)) (q0t (Envt.mk (Sett.mk v.1.1 v.1.2 v.1.3) v.2 v.3 v.4 v.5 v.6) fun W9=>Bk (Envt.mk (Sett.mk v.1.1 v.1.2 v.1.3) v.2 v.3 v.4 v.5 v.6) fun Jk=>q3x W9 Jk fun Zy Gi=>Cnd (Gi=true) ((↑((B8 [102,108,97,103,32]).size+Zy.size):Int)<=(9223372036854775807:Int)/\K (B8 [102,108,97,103,32]++Zy) (12:Int)) (Lp5 (fun Gj j3b v4k v4l v4m v4n=>Fits v.6->Cnd (Gj<(↑v.6.length:Int)) (Wo (Envt.mk (Sett.mk v.1.1 v.1.2 v.1.3) v.2 v.3 v.4 v.5 v.6) Gj fun Qj=>Cnd (Qj=0) (InI (Gj+1)/\v4n (Gj+1) j3b v4k v4l v4m) (At v.6 Gj fun y14=>(↑((B8 [101,120,112,101,114,105,109,101,110,116,32]).size+y14.1.size):Int)<=(9223372036854775807:Int)/\K (B8 [101,120,112,101,114,105,109,101,110,116,32]++y14.1) Qj)) (K (B8 []) (0:Int))) (0:Int) W9 Jk v27 j0f))) (0:Int) Zv Qx))) (0:Int) Qe) (K (B8 []) Qc)
def Ga:W2:=Bx Hd q5o q5p q6m q6o Rr q4t Rt Wi
abbrev q27:Type:=Envt->(Bool->Prop)->Prop
def z1h(Gs:W2):q27:=fun v K=>Gs (Envt.mk (Sett.mk v.1.1 v.1.2 v.1.3) v.2 v.3 v.4 v.5 v.6) fun _ Q9=>K (decide (Q9=0))
def By:q27:=z1h Ga
abbrev Uq:Type:=List (Int)->Int->Int->(Envt->Int->Prop)->Prop
def q28(Zb:Vb)(q4p:q0w)(Qa:Zp)(Bb:q9m)(Ju:q2n)(q0p:q58)(q89:q74)(U2:H7)(q0q:q1v)(Zi:Z7)(z3o:q76)(Jj:H5)(Bc:q2o)(z0g:q5e)(Jx:q1u)(Zu:Vi)(q7b:q2w)(Hs:q27):Uq:=fun list at_ now K=>Zb fun Qc=>Jn1 (fun (Qe:ByteArray×ByteArray×Int×Int×List Decl×Unit)=>q4p list Qe.2.2.2.1 Qe.1 Qe.2.1 Qe.2.2.1 Qe.2.2.2.2.1 [] [] [] [] fun Qr Zv q4k z9r w47 v5s v5t v5u v5v=>Qa list Qr (5:Int) fun Q7 V7=>Bb Q7 [B8 [102,97],B8 [102,98],B8 [102,99],B8 [102,100]] fun Qx=>LpH (fun (Q0:Int×Int×List Flg×List Seg×List Lay_×List Exper×Unit) v4h=>Fits Qx->CAt Qx Q0.1 (fun y7=>Qa list Q0.2.1 (5:Int) fun Jk z1z=>InI ((1:Int)+Jk)/\Qa list z1z (6:Int) fun Zy Gi=>Qa list Gi (4:Int) fun Gj j3b=>InI ((1:Int)+Gj)/\LpH (fun (Zn:Int×Int×List Val×List Exper×List Lay_×List Flg×List Seg×Unit) (v4o:Int×Int×List Val×List Exper×List Lay_×List Flg×List Seg×Unit->Prop)=>Cnd (Zn.1<1+Gj) (Ju list Zn.2.1 ((1:Int)+Jk) fun Qj z5d=>Sml (Zn.2.2.1++[Qj]).length/\InI (Zn.1+1)/\v4o (Zn.1+1,z5d,Zn.2.2.1++[Qj],Zn.2.2.2.1,Zn.2.2.2.2.1,Zn.2.2.2.2.2.1,Zn.2.2.2.2.2.2.1,())) (Qa list Zn.2.1 ((1:Int)+Gj) fun Qj z5d=>InI ((1:Int)+Qj)/\LpH (fun (Va:Int×List Prq×Int×List Seg×List Flg×List Lay_×List Exper×List Val×Unit) (v2u:Int×List Prq×Int×List Seg×List Flg×List Lay_×List Exper×List Val×Unit->Prop)=>Fits Va.2.2.2.2.1->Cnd (Va.1<(↑Va.2.2.2.2.1.length:Int)) (Qa list Va.2.2.1 (4:Int) fun Z5 v2v=>Cnd (Z5=1) (At Va.2.2.2.2.1 Va.1 fun y17=>At Va.2.2.2.2.1 Va.1 fun y19=>Fits y19.3->Qa list v2v (↑y19.3.length:Int) fun w0y v4p=>InI ((1:Int)+w0y)/\Sml (Va.2.1++[Prq.mk y17.1 ((1:Int)+w0y)]).length/\InI (Va.1+1)/\v2u (Va.1+1,Va.2.1++[Prq.mk y17.1 ((1:Int)+w0y)],v4p,Va.2.2.2.1,Va.2.2.2.2.1,Va.2.2.2.2.2.1,Va.2.2.2.2.2.2.1,Va.2.2.2.2.2.2.2.1,())) (InI (Va.1+1)/\v2u (Va.1+1,Va.2.1,v2v,Va.2.2.2.1,Va.2.2.2.2.1,Va.2.2.2.2.2.1,Va.2.2.2.2.2.2.1,Va.2.2.2.2.2.2.2.1,()))) (LpH (fun (Z5:Int×List Tgt×Int×List Val×List Exper×List Lay_×List Flg×List Seg×List Prq×Unit) (v2w:Int×List Tgt×Int×List Val×List Exper×List Lay_×List Flg×List Seg×List Prq×Unit->Prop)=>Qa list Z5.2.2.1 (3:Int) fun j7v w7q=>Cnd (Z5.1<j7v) (Qa list w7q ((1:Int)+Gj) fun Q4 z3p=>InI ((1:Int)+Q4)/\q0p list z3p fun Zc v0z=>Jn1 (fun (Gy:ByteArray×Int×List ByteArray×List Prq×List Seg×List Flg×List Lay_×List Exper×List Val×List Tgt×Unit)=>Fits Gy.2.2.1->Cnd ((0:Int)<(↑Gy.2.2.1.length:Int)) (Sml (Gy.2.2.2.2.2.2.2.2.2.1++[Tgt.mk Gy.1 ((1:Int)+Q4) Gy.2.2.1]).length/\InI (Z5.1+1)/\v2w (Z5.1+1,Gy.2.2.2.2.2.2.2.2.2.1++[Tgt.mk Gy.1 ((1:Int)+Q4) Gy.2.2.1],Gy.2.1,Gy.2.2.2.2.2.2.2.2.1,Gy.2.2.2.2.2.2.2.1,Gy.2.2.2.2.2.2.1,Gy.2.2.2.2.2.1,Gy.2.2.2.2.1,Gy.2.2.2.1,())) (InI (Z5.1+1)/\v2w (Z5.1+1,Gy.2.2.2.2.2.2.2.2.2.1,Gy.2.1,Gy.2.2.2.2.2.2.2.2.1,Gy.2.2.2.2.2.2.2.1,Gy.2.2.2.2.2.2.1,Gy.2.2.2.2.2.1,Gy.2.2.2.2.1,Gy.2.2.2.1,()))) fun (v2x:ByteArray×Int×List ByteArray×List Prq×List Seg×List Flg×List Lay_×List Exper×List Val×List Tgt×Unit->Prop)=>Qa list v0z (4:Int) fun q0c z6k=>Cnd (q0c=1) (v2x (B8 [100,101,118,105,99,101],z6k,Zc,Z5.2.2.2.2.2.2.2.2.1,Z5.2.2.2.2.2.2.2.1,Z5.2.2.2.2.2.2.1,Z5.2.2.2.2.2.1,Z5.2.2.2.2.1,Z5.2.2.2.1,Z5.2.1,())) (v2x (B8 [117,115,101,114],z6k,Zc,Z5.2.2.2.2.2.2.2.2.1,Z5.2.2.2.2.2.2.2.1,Z5.2.2.2.2.2.2.1,Z5.2.2.2.2.2.1,Z5.2.2.2.2.1,Z5.2.2.2.1,Z5.2.1,()))) (Jn1 (fun (Q4:Int×List Rul×List ByteArray×List Prq×List Seg×List Flg×List Lay_×List Exper×List Val×List Tgt×Unit)=>q89 list Q4.1 ((1:Int)+Gj) fun Zc v0z=>Sml (Q4.2.2.2.2.2.1++[Flg.mk y7 ((1:Int)+Jk) Q4.2.2.2.2.2.2.2.2.1 (decide (Zy<5)) ((1:Int)+Qj) Q4.2.2.2.1 Q4.2.2.2.2.2.2.2.2.2.1 Q4.2.1 Zc]).length/\InI (Q0.1+1)/\v4h (Q0.1+1,v0z,Q4.2.2.2.2.2.1++[Flg.mk y7 ((1:Int)+Jk) Q4.2.2.2.2.2.2.2.2.1 (decide (Zy<5)) ((1:Int)+Qj) Q4.2.2.2.1 Q4.2.2.2.2.2.2.2.2.2.1 Q4.2.1 Zc],Q4.2.2.2.2.1,Q4.2.2.2.2.2.2.1,Q4.2.2.2.2.2.2.2.1,())) fun (w0z:Int×List Rul×List ByteArray×List Prq×List Seg×List Flg×List Lay_×List Exper×List Val×List Tgt×Unit->Prop)=>LpH (fun (Zc:Int×Int×List Rul×List ByteArray×List Prq×List Seg×List Flg×List Lay_×List Exper×List Val×List Tgt×Unit) (v4q:Int×Int×List Rul×List ByteArray×List Prq×List Seg×List Flg×List Lay_×List Exper×List Val×List Tgt×Unit->Prop)=>Qa list Zc.2.1 (5:Int) fun Gy w7r=>Cnd (Zc.1<Gy) (At Zc.2.2.2.1 Zc.1 fun y21=>U2 (Envt.mk (Sett.mk Zv q4k z9r) w47 Zc.2.2.2.2.2.1 Zc.2.2.2.2.2.2.1 Zc.2.2.2.2.2.2.2.1 Zc.2.2.2.2.2.2.2.2.1) fun w41=>q0q list w7r w41 (3:Int) fun Qk w42=>q89 list w42 ((1:Int)+Gj) fun q7c w43=>Sml (Zc.2.2.1++[Rul.mk y21 (Ex.mk Qk.1 Qk.2 Qk.3 Qk.4 Qk.5) q7c]).length/\Zi (Zc.2.2.1++[Rul.mk y21 (Ex.mk Qk.1 Qk.2 Qk.3 Qk.4 Qk.5) q7c]) fun v2y _ v4r=>Cnd (v4r=true) (Fits v2y->Cnd ((0:Int)<(↑v2y.length:Int)) ((Zc.2.2.1++[Rul.mk y21 (Ex.mk Qk.1 Qk.2 Qk.3 Qk.4 Qk.5) q7c]).length<=(9223372036854775807:Nat)->InI ((↑(Zc.2.2.1++[Rul.mk y21 (Ex.mk Qk.1 Qk.2 Qk.3 Qk.4 Qk.5) q7c]).length:Int) - 1)/\((0:Int)<=(↑(Zc.2.2.1++[Rul.mk y21 (Ex.mk Qk.1 Qk.2 Qk.3 Qk.4 Qk.5) q7c]).length:Int) - 1/\(↑(Zc.2.2.1++[Rul.mk y21 (Ex.mk Qk.1 Qk.2 Qk.3 Qk.4 Qk.5) q7c]).length:Int) - 1<=(↑(Zc.2.2.1++[Rul.mk y21 (Ex.mk Qk.1 Qk.2 Qk.3 Qk.4 Qk.5) q7c]).length:Int))/\w0z (w43,List.take ((↑(Zc.2.2.1++[Rul.mk y21 (Ex.mk Qk.1 Qk.2 Qk.3 Qk.4 Qk.5) q7c]).length:Int) - 1).toNat (Zc.2.2.1++[Rul.mk y21 (Ex.mk Qk.1 Qk.2 Qk.3 Qk.4 Qk.5) q7c]),Zc.2.2.2.1,Zc.2.2.2.2.1,Zc.2.2.2.2.2.1,Zc.2.2.2.2.2.2.1,Zc.2.2.2.2.2.2.2.1,Zc.2.2.2.2.2.2.2.2.1,Zc.2.2.2.2.2.2.2.2.2.1,Zc.2.2.2.2.2.2.2.2.2.2.1,())) (InI (Zc.1+1)/\v4q (Zc.1+1,w43,Zc.2.2.1++[Rul.mk y21 (Ex.mk Qk.1 Qk.2 Qk.3 Qk.4 Qk.5) q7c],Zc.2.2.2.1,Zc.2.2.2.2.1,Zc.2.2.2.2.2.1,Zc.2.2.2.2.2.2.1,Zc.2.2.2.2.2.2.2.1,Zc.2.2.2.2.2.2.2.2.1,Zc.2.2.2.2.2.2.2.2.2.1,Zc.2.2.2.2.2.2.2.2.2.2.1,()))) ((Zc.2.2.1++[Rul.mk y21 (Ex.mk Qk.1 Qk.2 Qk.3 Qk.4 Qk.5) q7c]).length<=(9223372036854775807:Nat)->InI ((↑(Zc.2.2.1++[Rul.mk y21 (Ex.mk Qk.1 Qk.2 Qk.3 Qk.4 Qk.5) q7c]).length:Int) - 1)/\((0:Int)<=(↑(Zc.2.2.1++[Rul.mk y21 (Ex.mk Qk.1 Qk.2 Qk.3 Qk.4 Qk.5) q7c]).length:Int) - 1/\(↑(Zc.2.2.1++[Rul.mk y21 (Ex.mk Qk.1 Qk.2 Qk.3 Qk.4 Qk.5) q7c]).length:Int) - 1<=(↑(Zc.2.2.1++[Rul.mk y21 (Ex.mk Qk.1 Qk.2 Qk.3 Qk.4 Qk.5) q7c]).length:Int))/\w0z (w43,List.take ((↑(Zc.2.2.1++[Rul.mk y21 (Ex.mk Qk.1 Qk.2 Qk.3 Qk.4 Qk.5) q7c]).length:Int) - 1).toNat (Zc.2.2.1++[Rul.mk y21 (Ex.mk Qk.1 Qk.2 Qk.3 Qk.4 Qk.5) q7c]),Zc.2.2.2.1,Zc.2.2.2.2.1,Zc.2.2.2.2.2.1,Zc.2.2.2.2.2.2.1,Zc.2.2.2.2.2.2.2.1,Zc.2.2.2.2.2.2.2.2.1,Zc.2.2.2.2.2.2.2.2.2.1,Zc.2.2.2.2.2.2.2.2.2.2.1,()))) (w0z (w7r,Zc.2.2.1,Zc.2.2.2.1,Zc.2.2.2.2.1,Zc.2.2.2.2.2.1,Zc.2.2.2.2.2.2.1,Zc.2.2.2.2.2.2.2.1,Zc.2.2.2.2.2.2.2.2.1,Zc.2.2.2.2.2.2.2.2.2.1,Zc.2.2.2.2.2.2.2.2.2.2.1,()))) ((0:Int),w7q,[],[B8 [102,105,114,115,116],B8 [115,101,99,111,110,100],B8 [116,104,105,114,100],B8 [102,111,117,114,116,104]],Z5.2.2.2.2.2.2.2.2.1,Z5.2.2.2.2.2.2.2.1,Z5.2.2.2.2.2.2.1,Z5.2.2.2.2.2.1,Z5.2.2.2.2.1,Z5.2.2.2.1,Z5.2.1,()))) ((0:Int),[],Va.2.2.1,Va.2.2.2.2.2.2.2.1,Va.2.2.2.2.2.2.1,Va.2.2.2.2.2.1,Va.2.2.2.2.1,Va.2.2.2.1,Va.2.1,()))) ((0:Int),[],z5d,Zn.2.2.2.2.2.2.1,Zn.2.2.2.2.2.1,Zn.2.2.2.2.1,Zn.2.2.2.1,Zn.2.2.1,()))) ((0:Int),j3b,[],Q0.2.2.2.2.2.1,Q0.2.2.2.2.1,Q0.2.2.1,Q0.2.2.2.1,())) (Qa list Q0.2.1 (3:Int) fun V4 q7o=>Bb V4 [B8 [108,97],B8 [108,98]] fun W9=>LpH (fun (Jk:Int×Int×List Lay_×List Exper×List Seg×List Flg×Unit) (v2s:Int×Int×List Lay_×List Exper×List Seg×List Flg×Unit->Prop)=>Fits W9->CAt W9 Jk.1 (fun y11=>z3o list Jk.2.1 y11 fun Qj z5d=>Sml (Jk.2.2.1++[Qj]).length/\InI (Jk.1+1)/\v2s (Jk.1+1,z5d,Jk.2.2.1++[Qj],Jk.2.2.2.1,Jk.2.2.2.2.1,Jk.2.2.2.2.2.1,())) (Qa list Jk.2.1 (4:Int) fun Gj j3b=>Bb Gj [B8 [120,97],B8 [120,98],B8 [120,99]] fun Zn=>LpH (fun (Qj:Int×Int×List Exper×List Flg×List Seg×List Lay_×Unit) (v2z:Int×Int×List Exper×List Flg×List Seg×List Lay_×Unit->Prop)=>Fits Zn->Cnd (Qj.1<(↑Zn.length:Int)) (Fits Qj.2.2.2.1->Cnd ((0:Int)<(↑Qj.2.2.2.1.length:Int)) (Fits Qj.2.2.2.2.2.1->Cnd ((0:Int)<(↑Qj.2.2.2.2.2.1.length:Int)) (At Zn Qj.1 fun y17=>Fits Qj.2.2.2.1->Qa list Qj.2.1 (↑Qj.2.2.2.1.length:Int) fun Gy w7r=>At Qj.2.2.2.1 Gy fun y21=>Fits Qj.2.2.2.2.2.1->Fits y21.3->Qa list w7r (↑Qj.2.2.2.2.2.1.length:Int) fun q7c w43=>At Qj.2.2.2.2.2.1 q7c fun y26=>Jj list w43 fun j0i v4s=>Qa list v4s (3:Int) fun j7w v4t=>InI ((1:Int)+j7w)/\Bc list v4t (↑y21.3.length:Int) fun v00 v20=>Jn1 (fun (q0d:Int×Int×List Rng×List Exper×List Lay_×List Flg×List Seg×Unit)=>Jn1 (fun (Q5:Int×ByteArray×ByteArray×List Val×List Ex×Int×List Seg×List Flg×List Lay_×List Exper×List Rng×Unit)=>z0g (Envt.mk (Sett.mk Zv q4k z9r) w47 Q5.2.2.2.2.2.2.1 Q5.2.2.2.2.2.2.2.1 Q5.2.2.2.2.2.2.2.2.1 Q5.2.2.2.2.2.2.2.2.2.1) y26.1 now fun (w44:List Spn) (_:Int)=>Jx list Q5.2.2.2.2.2.1 (8000:Int) fun (w00 v4u:Int)=>Jx list v4u (8000:Int) fun (j7x v01:Int)=>Zu w44 [Spn.mk w00 j7x] fun (v4v:List Spn)=>Jx list v01 (7000:Int) fun (v4w v21:Int)=>q7b v4v v4w fun (j0j:List Spn)=>Sml (Q5.2.2.2.2.2.2.2.2.2.1++[Exper.mk y17 y26.1 y21.1 j0i q0d.1 j0j Q5.2.2.2.2.2.2.2.2.2.2.1 (Ex.mk Q5.1 Q5.2.1 Q5.2.2.1 Q5.2.2.2.1 Q5.2.2.2.2.1)]).length/\Hs (Envt.mk (Sett.mk Zv q4k z9r) w47 Q5.2.2.2.2.2.2.1 Q5.2.2.2.2.2.2.2.1 Q5.2.2.2.2.2.2.2.2.1 (Q5.2.2.2.2.2.2.2.2.2.1++[Exper.mk y17 y26.1 y21.1 j0i q0d.1 j0j Q5.2.2.2.2.2.2.2.2.2.2.1 (Ex.mk Q5.1 Q5.2.1 Q5.2.2.1 Q5.2.2.2.1 Q5.2.2.2.2.1)])) fun (v4x:Bool)=>Cnd (v4x=true) (InI (Qj.1+1)/\v2z (Qj.1+1,v21,Q5.2.2.2.2.2.2.2.2.2.1++[Exper.mk y17 y26.1 y21.1 j0i q0d.1 j0j Q5.2.2.2.2.2.2.2.2.2.2.1 (Ex.mk Q5.1 Q5.2.1 Q5.2.2.1 Q5.2.2.2.1 Q5.2.2.2.2.1)],Q5.2.2.2.2.2.2.2.1,Q5.2.2.2.2.2.2.1,Q5.2.2.2.2.2.2.2.2.1,())) ((Q5.2.2.2.2.2.2.2.2.2.1++[Exper.mk y17 y26.1 y21.1 j0i q0d.1 j0j Q5.2.2.2.2.2.2.2.2.2.2.1 (Ex.mk Q5.1 Q5.2.1 Q5.2.2.1 Q5.2.2.2.1 Q5.2.2.2.2.1)]).length<=(9223372036854775807:Nat)->InI ((↑(Q5.2.2.2.2.2.2.2.2.2.1++[Exper.mk y17 y26.1 y21.1 j0i q0d.1 j0j Q5.2.2.2.2.2.2.2.2.2.2.1 (Ex.mk Q5.1 Q5.2.1 Q5.2.2.1 Q5.2.2.2.1 Q5.2.2.2.2.1)]).length:Int) - 1)/\((0:Int)<=(↑(Q5.2.2.2.2.2.2.2.2.2.1++[Exper.mk y17 y26.1 y21.1 j0i q0d.1 j0j Q5.2.2.2.2.2.2.2.2.2.2.1 (Ex.mk Q5.1 Q5.2.1 Q5.2.2.1 Q5.2.2.2.1 Q5.2.2.2.2.1)]).length:Int) - 1/\(↑(Q5.2.2.2.2.2.2.2.2.2.1++[Exper.mk y17 y26.1 y21.1 j0i q0d.1 j0j Q5.2.2.2.2.2.2.2.2.2.2.1 (Ex.mk Q5.1 Q5.2.1 Q5.2.2.1 Q5.2.2.2.1 Q5.2.2.2.2.1)]).length:Int) - 1<=(↑(Q5.2.2.2.2.2.2.2.2.2.1++[Exper.mk y17 y26.1 y21.1 j0i q0d.1 j0j Q5.2.2.2.2.2.2.2.2.2.2.1 (Ex.mk Q5.1 Q5.2.1 Q5.2.2.1 Q5.2.2.2.1 Q5.2.2.2.2.1)]).length:Int))/\InI (Qj.1+1)/\v2z (Qj.1+1,v21,List.take ((↑(Q5.2.2.2.2.2.2.2.2.2.1++[Exper.mk y17 y26.1 y21.1 j0i q0d.1 j0j Q5.2.2.2.2.2.2.2.2.2.2.1 (Ex.mk Q5.1 Q5.2.1 Q5.2.2.1 Q5.2.2.2.1 Q5.2.2.2.2.1)]).length:Int) - 1).toNat (Q5.2.2.2.2.2.2.2.2.2.1++[Exper.mk y17 y26.1 y21.1 j0i q0d.1 j0j Q5.2.2.2.2.2.2.2.2.2.2.1 (Ex.mk Q5.1 Q5.2.1 Q5.2.2.1 Q5.2.2.2.1 Q5.2.2.2.2.1)]),Q5.2.2.2.2.2.2.2.1,Q5.2.2.2.2.2.2.1,Q5.2.2.2.2.2.2.2.2.1,()))) fun (v22:Int×ByteArray×ByteArray×List Val×List Ex×Int×List Seg×List Flg×List Lay_×List Exper×List Rng×Unit->Prop)=>Qa list q0d.2.1 (2:Int) fun (w44 v23:Int)=>Cnd (w44=1) (U2 (Envt.mk (Sett.mk Zv q4k z9r) w47 q0d.2.2.2.2.2.2.1 q0d.2.2.2.2.2.1 q0d.2.2.2.2.1 q0d.2.2.2.1) fun (w00:List ByteArray)=>q0q list v23 w00 (2:Int) fun (j7x:Ex) (v01:Int)=>v22 (j7x.1,j7x.2,j7x.3,j7x.4,j7x.5,v01,q0d.2.2.2.2.2.2.1,q0d.2.2.2.2.2.1,q0d.2.2.2.2.1,q0d.2.2.2.1,q0d.2.2.1,())) (v22 ((1:Int),B8 [],B8 [],[],[],v23,q0d.2.2.2.2.2.2.1,q0d.2.2.2.2.2.1,q0d.2.2.2.2.1,q0d.2.2.2.1,q0d.2.2.1,()))) fun (v02:Int×Int×List Rng×List Exper×List Lay_×List Flg×List Seg×Unit->Prop)=>Cnd ((1:Int)+j7w=1) (Qa list v20 (2:Int) fun Q5 v24=>Cnd (Q5=0) (v02 ((2:Int),v24,v00,Qj.2.2.1,Qj.2.2.2.2.2.1,Qj.2.2.2.1,Qj.2.2.2.2.1,())) (v02 ((1:Int)+j7w,v24,v00,Qj.2.2.1,Qj.2.2.2.2.2.1,Qj.2.2.2.1,Qj.2.2.2.2.1,()))) (v02 ((1:Int)+j7w,v20,v00,Qj.2.2.1,Qj.2.2.2.2.2.1,Qj.2.2.2.1,Qj.2.2.2.2.1,()))) (Hs (Envt.mk (Sett.mk Zv q4k z9r) w47 Qj.2.2.2.2.1 Qj.2.2.2.1 Qj.2.2.2.2.2.1 Qj.2.2.1) fun j7v=>Cnd (j7v=true) (K (Envt.mk (Sett.mk Zv q4k z9r) w47 Qj.2.2.2.2.1 Qj.2.2.2.1 Qj.2.2.2.2.2.1 Qj.2.2.1) Qj.2.1) (Zb fun Q4=>K (Envt.mk (Sett.mk (B8 []) (B8 []) (0:Int)) Q4 [] [] [] []) Qj.2.1))) (Hs (Envt.mk (Sett.mk Zv q4k z9r) w47 Qj.2.2.2.2.1 Qj.2.2.2.1 Qj.2.2.2.2.2.1 Qj.2.2.1) fun Z5=>Cnd (Z5=true) (K (Envt.mk (Sett.mk Zv q4k z9r) w47 Qj.2.2.2.2.1 Qj.2.2.2.1 Qj.2.2.2.2.2.1 Qj.2.2.1) Qj.2.1) (Zb fun j7v=>K (Envt.mk (Sett.mk (B8 []) (B8 []) (0:Int)) j7v [] [] [] []) Qj.2.1))) (Hs (Envt.mk (Sett.mk Zv q4k z9r) w47 Qj.2.2.2.2.1 Qj.2.2.2.1 Qj.2.2.2.2.2.1 Qj.2.2.1) fun Jv=>Cnd (Jv=true) (K (Envt.mk (Sett.mk Zv q4k z9r) w47 Qj.2.2.2.2.1 Qj.2.2.2.1 Qj.2.2.2.2.2.1 Qj.2.2.1) Qj.2.1) (Zb fun Z5=>K (Envt.mk (Sett.mk (B8 []) (B8 []) (0:Int)) Z5 [] [] [] []) Qj.2.1))) ((0:Int),j3b,Jk.2.2.2.1,Jk.2.2.2.2.2.1,Jk.2.2.2.2.1,Jk.2.2.1,()))) ((0:Int),q7o,Q0.2.2.2.2.1,Q0.2.2.2.2.2.1,Q0.2.2.2.1,Q0.2.2.1,()))) ((0:Int),V7,v5t,v5s,v5u,v5v,())) fun j7u=>Qa list at_ (2:Int) fun Qr Zv=>Cnd (Qr=1) (Jj list Zv fun Q7 V7=>Jx list V7 (2500:Int) fun Qx V8=>j7u (Q7,B8 [117,115,101,114],Qx,V8,Qc,())) (j7u (B8 [],B8 [],(0:Int),Zv,Qc,()))
def Ur:Uq:=q28 Uc q30 Wa z6u H6 z2f z2i H8 z2h W1 z2n q57 q73 q9r q9l Ug q6e By
abbrev Jf:Type:=Envt->Int->(ByteArray->Prop)->Prop
def Us(q1l:z37):Jf:=fun v n K=>q1l n (4:Int) fun Qc=>Fits v.6->CAt v.6 Qc (fun y2=>K y2.1) (K (B8 [110,111,110,101]))
def Wj:Jf:=Us z7w
abbrev Wc:Type:=Int->(Bool->Prop)->Prop
def Vr:Wc:=fun now K=>Cnd ((0:Int)<=now) (K (decide (now<=1099511627776))) (K false)
abbrev Jg:Type:=Envt->ByteArray->(Int->Prop)->Prop
def W3:Jg:=fun v key K=>Fits v.5->Lp1 (fun Qe q44=>CAt v.5 Qe (fun y2=>Cnd (y2.1=key) (K Qe) (InI (Qe+1)/\q44 (Qe+1))) (K (-1:Int))) (0:Int)
abbrev Wu:Type:=Envt->ByteArray->Int->(Int->Int->Int->Prop)->Prop
def q4u(Zt:Wc)(Q1:Jg):Wu:=fun v experiment now K=>Zt now fun Qc=>Cnd (Qc=true) (Fits v.6->Lp1 (fun Qr w02=>CAt v.6 Qr (fun y3=>Cnd (y3.1=experiment) (Cnd (Qr<0) (K (0:Int) (0:Int) (11:Int)) (At v.6 Qr fun y5=>Q1 (Envt.mk (Sett.mk v.1.1 v.1.2 v.1.3) v.2 v.3 v.4 v.5 v.6) y5.2 fun V4=>Cnd (V4<0) (K (0:Int) (0:Int) (11:Int)) (K Qr V4 (0:Int)))) (InI (Qr+1)/\w02 (Qr+1))) (Cnd ((-1:Int)<(0:Int)) (K (0:Int) (0:Int) (11:Int)) (At v.6 (-1:Int) fun y3=>Q1 (Envt.mk (Sett.mk v.1.1 v.1.2 v.1.3) v.2 v.3 v.4 v.5 v.6) y3.2 fun Q0=>Cnd (Q0<0) (K (0:Int) (0:Int) (11:Int)) (K (-1:Int) Q0 (0:Int))))) (0:Int)) (K (0:Int) (0:Int) (3:Int))
def G1:Wu:=q4u Vr W3
abbrev Ru:Type:=Val->(Val->Prop)->Prop
def Vj:Ru:=fun v K=> ∀n0,(n0=true->v.4=[])->Cnd (n0=true) (K (Val.mk v.1 v.2 v.3 [])) (Sml ([]++v.4).length/\K (Val.mk v.1 v.2 v.3 ([]++v.4)))
abbrev Jh:Type:=Ex->(Ex->Prop)->Prop
def q39(Gt:Ru)(X:Jh):Jh:=fun e K=>Fits e.4->((0:Int)<=(0:Int)/\(0:Int)<=(↑e.4.length:Int)/\Sml (↑e.4.length:Int).toNat)/\(Fits e.4->Lp2 (fun Qr Zv q43=>CAt e.4 Zv (fun y3=>Gt y3 fun Q0=>Sml (Qr++[Q0]).length/\InI (Zv+1)/\q43 (Qr++[Q0]) (Zv+1)) (Fits e.5->((0:Int)<=(0:Int)/\(0:Int)<=(↑e.5.length:Int)/\Sml (↑e.5.length:Int).toNat)/\(Fits e.5->Lp2 (fun Q0 z9s v4j=>CAt e.5 z9s (fun y6=>X (Ex.mk y6.1 y6.2 y6.3 y6.4 y6.5) fun W9=>Sml (Q0++[Ex.mk W9.1 W9.2 W9.3 W9.4 W9.5]).length/\InI (z9s+1)/\v4j (Q0++[Ex.mk W9.1 W9.2 W9.3 W9.4 W9.5]) (z9s+1)) (K (Ex.mk e.1 e.2 e.3 Qr Q0))) (List.replicate (Int.toNat (0:Int)) (Ex.mk (0:Int) (B8 []) (B8 []) [] [])) (0:Int)))) (List.replicate (Int.toNat (0:Int)) (Val.mk (0:Int) (0:Int) (B8 []) [])) (0:Int))
def Hy:Jh:=fun e K=> ∀X:Jh,(∀e K,q39 Vj X e K->X e K)->X e K
abbrev J5:Type:=Seg->(Seg->Prop)->Prop
def q29(Q3:Jh):J5:=fun g K=> ∀n0,(n0=true->g.3=[])->Cnd (n0=true) (∀n2,(n2=true->g.4=[])->Cnd (n2=true) (Q3 (Ex.mk g.5.1 g.5.2 g.5.3 g.5.4 g.5.5) fun Qx=>K (Seg.mk g.1 g.2 [] [] (Ex.mk Qx.1 Qx.2 Qx.3 Qx.4 Qx.5))) (Sml ([]++g.4).length/\Q3 (Ex.mk g.5.1 g.5.2 g.5.3 g.5.4 g.5.5) fun Qx=>K (Seg.mk g.1 g.2 [] ([]++g.4) (Ex.mk Qx.1 Qx.2 Qx.3 Qx.4 Qx.5)))) (Sml ([]++g.3).length/\ ∀n2,(n2=true->g.4=[])->Cnd (n2=true) (Q3 (Ex.mk g.5.1 g.5.2 g.5.3 g.5.4 g.5.5) fun Qx=>K (Seg.mk g.1 g.2 ([]++g.3) [] (Ex.mk Qx.1 Qx.2 Qx.3 Qx.4 Qx.5))) (Sml ([]++g.4).length/\Q3 (Ex.mk g.5.1 g.5.2 g.5.3 g.5.4 g.5.5) fun Qx=>K (Seg.mk g.1 g.2 ([]++g.3) ([]++g.4) (Ex.mk Qx.1 Qx.2 Qx.3 Qx.4 Qx.5))))
def J6:J5:=q29 Hy
abbrev q0l:Type:=Tgt->(Tgt->Prop)->Prop
def G2:q0l:=fun t K=> ∀n0,(n0=true->t.3=[])->Cnd (n0=true) (K (Tgt.mk t.1 t.2 [])) (Sml ([]++t.3).length/\K (Tgt.mk t.1 t.2 ([]++t.3)))
abbrev Gb:Type:=Srv->(Srv->Prop)->Prop
def q11:Gb:=fun v K=> ∀n0,(n0=true->v.5=[])->Cnd (n0=true) (K (Srv.mk v.1 v.2 v.3 v.4 [])) (Sml ([]++v.5).length/\K (Srv.mk v.1 v.2 v.3 v.4 ([]++v.5)))
abbrev q02:Type:=Rul->(Rul->Prop)->Prop
def q8f(Q3:Jh)(Jc:Gb):q02:=fun r K=>Q3 (Ex.mk r.2.1 r.2.2 r.2.3 r.2.4 r.2.5) fun Qc=>Jc (Srv.mk r.3.1 r.3.2 r.3.3 r.3.4 r.3.5) fun Qe=>K (Rul.mk r.1 (Ex.mk Qc.1 Qc.2 Qc.3 Qc.4 Qc.5) Qe)
def Hz:q02:=q8f Hy q11
abbrev Ut:Type:=Flg->(Flg->Prop)->Prop
def q8g(Gt:Ru)(G6:q0l)(q08:q02)(Jc:Gb):Ut:=fun f K=>Fits f.3->((0:Int)<=(0:Int)/\(0:Int)<=(↑f.3.length:Int)/\Sml (↑f.3.length:Int).toNat)/\(Fits f.3->Lp2 (fun Qr Zv q43=>CAt f.3 Zv (fun y3=>Gt y3 fun Q0=>Sml (Qr++[Q0]).length/\InI (Zv+1)/\q43 (Qr++[Q0]) (Zv+1)) (∀n3,(n3=true->f.6=[])->Cnd (n3=true) (Fits f.7->((0:Int)<=(0:Int)/\(0:Int)<=(↑f.7.length:Int)/\Sml (↑f.7.length:Int).toNat)/\(Fits f.7->Lp2 (fun V4 q7o w46=>CAt f.7 q7o (fun y8=>G6 y8 fun Zy=>Sml (V4++[Zy]).length/\InI (q7o+1)/\w46 (V4++[Zy]) (q7o+1)) (Fits f.8->((0:Int)<=(0:Int)/\(0:Int)<=(↑f.8.length:Int)/\Sml (↑f.8.length:Int).toNat)/\(Fits f.8->Lp2 (fun Zy Gi v03=>CAt f.8 Gi (fun y11=>q08 (Rul.mk y11.1 (Ex.mk y11.2.1 y11.2.2 y11.2.3 y11.2.4 y11.2.5) (Srv.mk y11.3.1 y11.3.2 y11.3.3 y11.3.4 y11.3.5)) fun Qj=>Sml (Zy++[Rul.mk Qj.1 (Ex.mk Qj.2.1 Qj.2.2 Qj.2.3 Qj.2.4 Qj.2.5) (Srv.mk Qj.3.1 Qj.3.2 Qj.3.3 Qj.3.4 Qj.3.5)]).length/\InI (Gi+1)/\v03 (Zy++[Rul.mk Qj.1 (Ex.mk Qj.2.1 Qj.2.2 Qj.2.3 Qj.2.4 Qj.2.5) (Srv.mk Qj.3.1 Qj.3.2 Qj.3.3 Qj.3.4 Qj.3.5)]) (Gi+1)) (Jc (Srv.mk f.9.1 f.9.2 f.9.3 f.9.4 f.9.5) fun Gj=>K (Flg.mk f.1 f.2 Qr f.4 f.5 [] V4 Zy Gj))) (List.replicate (Int.toNat (0:Int)) (Rul.mk (B8 []) (Ex.mk (0:Int) (B8 []) (B8 []) [] []) (Srv.mk (0:Int) (B8 []) (B8 []) (B8 []) []))) (0:Int)))) (List.replicate (Int.toNat (0:Int)) (Tgt.mk (B8 []) (0:Int) [])) (0:Int))) (Sml ([]++f.6).length/\(Fits f.7->((0:Int)<=(0:Int)/\(0:Int)<=(↑f.7.length:Int)/\Sml (↑f.7.length:Int).toNat)/\(Fits f.7->Lp2 (fun V4 q7o w46=>CAt f.7 q7o (fun y8=>G6 y8 fun Zy=>Sml (V4++[Zy]).length/\InI (q7o+1)/\w46 (V4++[Zy]) (q7o+1)) (Fits f.8->((0:Int)<=(0:Int)/\(0:Int)<=(↑f.8.length:Int)/\Sml (↑f.8.length:Int).toNat)/\(Fits f.8->Lp2 (fun Zy Gi v03=>CAt f.8 Gi (fun y11=>q08 (Rul.mk y11.1 (Ex.mk y11.2.1 y11.2.2 y11.2.3 y11.2.4 y11.2.5) (Srv.mk y11.3.1 y11.3.2 y11.3.3 y11.3.4 y11.3.5)) fun Qj=>Sml (Zy++[Rul.mk Qj.1 (Ex.mk Qj.2.1 Qj.2.2 Qj.2.3 Qj.2.4 Qj.2.5) (Srv.mk Qj.3.1 Qj.3.2 Qj.3.3 Qj.3.4 Qj.3.5)]).length/\InI (Gi+1)/\v03 (Zy++[Rul.mk Qj.1 (Ex.mk Qj.2.1 Qj.2.2 Qj.2.3 Qj.2.4 Qj.2.5) (Srv.mk Qj.3.1 Qj.3.2 Qj.3.3 Qj.3.4 Qj.3.5)]) (Gi+1)) (Jc (Srv.mk f.9.1 f.9.2 f.9.3 f.9.4 f.9.5) fun Gj=>K (Flg.mk f.1 f.2 Qr f.4 f.5 ([]++f.6) V4 Zy Gj))) (List.replicate (Int.toNat (0:Int)) (Rul.mk (B8 []) (Ex.mk (0:Int) (B8 []) (B8 []) [] []) (Srv.mk (0:Int) (B8 []) (B8 []) (B8 []) []))) (0:Int)))) (List.replicate (Int.toNat (0:Int)) (Tgt.mk (B8 []) (0:Int) [])) (0:Int)))))) (List.replicate (Int.toNat (0:Int)) (Val.mk (0:Int) (0:Int) (B8 []) [])) (0:Int))
def Uu:Ut:=q8g Vj G2 Hz q11
abbrev Qt:Type:=List (Col)->(List (Col)->Prop)->Prop
def Qu:Qt:=fun s K=> ∀n0,(n0=true->s=[])->Cnd (n0=true) (K []) (Sml ([]++s).length/\K ([]++s))
abbrev Rv:Type:=Lay_->(Lay_->Prop)->Prop
def q6p(Qi:Qt):Rv:=fun l K=>Qi l.6 fun Qc=>K (Lay_.mk l.1 l.2 l.3 l.4 l.5 Qc)
def Gc:Rv:=q6p Qu
abbrev Z0:Type:=Exper->(Exper->Prop)->Prop
def Rw(Q3:Jh):Z0:=fun x K=> ∀n0,(n0=true->x.6=[])->Cnd (n0=true) (∀n2,(n2=true->x.7=[])->Cnd (n2=true) (Q3 (Ex.mk x.8.1 x.8.2 x.8.3 x.8.4 x.8.5) fun Qx=>K (Exper.mk x.1 x.2 x.3 x.4 x.5 [] [] (Ex.mk Qx.1 Qx.2 Qx.3 Qx.4 Qx.5))) (Sml ([]++x.7).length/\Q3 (Ex.mk x.8.1 x.8.2 x.8.3 x.8.4 x.8.5) fun Qx=>K (Exper.mk x.1 x.2 x.3 x.4 x.5 [] ([]++x.7) (Ex.mk Qx.1 Qx.2 Qx.3 Qx.4 Qx.5)))) (Sml ([]++x.6).length/\ ∀n2,(n2=true->x.7=[])->Cnd (n2=true) (Q3 (Ex.mk x.8.1 x.8.2 x.8.3 x.8.4 x.8.5) fun Qx=>K (Exper.mk x.1 x.2 x.3 x.4 x.5 ([]++x.6) [] (Ex.mk Qx.1 Qx.2 Qx.3 Qx.4 Qx.5))) (Sml ([]++x.7).length/\Q3 (Ex.mk x.8.1 x.8.2 x.8.3 x.8.4 x.8.5) fun Qx=>K (Exper.mk x.1 x.2 x.3 x.4 x.5 ([]++x.6) ([]++x.7) (Ex.mk Qx.1 Qx.2 Qx.3 Qx.4 Qx.5))))
def Z1:Z0:=Rw Hy
abbrev Rx:Type:=Int->Int->(Int->Prop)->Prop
def Ry:Rx:=fun now cool K=>InI ((1099511627776:Int) - now)/\Cnd ((1099511627776:Int) - now<cool) (K (1099511627776:Int)) (InI (now+cool)/\K (now+cool))
abbrev J7:Type:=List (Col)->(List (Col)->Prop)->Prop
def Ho(Qi:Qt):J7:=fun l K=>Qi l fun Qc=>Fits Qc->Lp2 (fun Qr Zv q43=>Cnd (Qr<(↑Qc.length:Int)) (Lp2 (fun Q7 V7 z63=>Cnd ((0:Int)<Q7) (At V7 Q7 fun y4=>InI (Q7 - 1)/\((0:Int)<=Q7 - 1/\Q7 - 1<(↑V7.length:Int))/\ ∀y6,V7[(Q7 - 1).toNat]? =some y6->Cnd (y4.1<y6.1) (InI (Q7 - 1)/\InI (Q7 - 1)/\((0:Int)<=Q7 - 1/\Q7 - 1<(↑V7.length:Int))/\ ∀y8,V7[(Q7 - 1).toNat]? =some y8->At V7 Q7 fun y10=>At V7 Q7 fun _=>((0:Int)<=Q7 - 1/\Q7 - 1<(↑(V7.set Q7.toNat y8).length:Int))/\ ∀y14,(V7.set Q7.toNat y8)[(Q7 - 1).toNat]? =some y14->InI (Q7 - 1)/\z63 (Q7 - 1) ((V7.set Q7.toNat y8).set (Q7 - 1).toNat y10)) (InI (Qr+1)/\q43 (Qr+1) V7)) (InI (Qr+1)/\q43 (Qr+1) V7)) Qr Zv) (K Zv)) (0:Int) Qc
def Vk:J7:=Ho Qu
abbrev W4:Type:=List (Col)->Int->(List (Col)->Prop)->Prop
def Bz(Vm:J7):W4:=fun l now K=>Vm l fun Qc=>Lp3 (fun Qe Zd z9q w0x=>Cnd (Zd<10000) (Jn3 (fun Qr Zv q4k=>Cnd (Qr=now) (InI (Zd+1)/\w0x q4k (Zd+1) Zv) (Fits q4k->Cnd ((0:Int)<(↑q4k.length:Int)) (InI ((↑q4k.length:Int) - 1)/\((0:Int)<=(↑q4k.length:Int) - 1/\(↑q4k.length:Int) - 1<(↑q4k.length:Int))/\ ∀y4,q4k[((↑q4k.length:Int) - 1).toNat]? =some y4->Cnd (y4.2=Zd) (InI ((↑q4k.length:Int) - 1)/\((0:Int)<=(↑q4k.length:Int) - 1/\(↑q4k.length:Int) - 1<(↑q4k.length:Int))/\ ∀y6,q4k[((↑q4k.length:Int) - 1).toNat]? =some y6->Cnd (y6.3=Qr) (InI ((↑q4k.length:Int) - 1)/\InI (Zd+1)/\((0:Int)<=(↑q4k.length:Int) - 1/\(↑q4k.length:Int) - 1<(↑q4k.length:Int))/\ ∀y8,q4k[((↑q4k.length:Int) - 1).toNat]? =some y8->InI (Zd+1)/\w0x (q4k.set ((↑q4k.length:Int) - 1).toNat (Col.mk y8.1 (Zd+1) y8.3)) (Zd+1) Zv) (InI (Zd+1)/\Sml (q4k++[Col.mk Zd (Zd+1) Qr]).length/\InI (Zd+1)/\w0x (q4k++[Col.mk Zd (Zd+1) Qr]) (Zd+1) Zv)) (InI (Zd+1)/\Sml (q4k++[Col.mk Zd (Zd+1) Qr]).length/\InI (Zd+1)/\w0x (q4k++[Col.mk Zd (Zd+1) Qr]) (Zd+1) Zv)) (InI (Zd+1)/\Sml (q4k++[Col.mk Zd (Zd+1) Qr]).length/\InI (Zd+1)/\w0x (q4k++[Col.mk Zd (Zd+1) Qr]) (Zd+1) Zv))) fun j3c=>Fits z9q->Lp4 (fun Qx V8 z3q w7o v0t=>Cnd (V8<(↑z9q.length:Int)) (At z3q V8 fun y5=>Cnd (Zd<y5.1) (j3c Qx z3q w7o) (Cnd (Zd<y5.2) (InI (V8+1)/\v0t (Max.max Qx y5.3) (V8+1) z3q w7o) (InI (V8+1)/\v0t Qx (V8+1) z3q w7o))) (j3c Qx z3q w7o)) now (0:Int) z9q Qe) (K Qe)) [] (0:Int) Qc
def Gd:W4:=Bz Vk
abbrev B0:Type:=List (Lay_)->((List (Lay_)×Nat×List (Col))->Prop)->Prop
def B1(l:List (Lay_))(K:(List (Lay_)×Nat×List (Col))->Prop):Prop:=Sml l.length/\(∀x∈l,Sml x.6.length)/\ ∃k x,l[k]? =some x/\K (l,k,x.6)
abbrev G3:Type:=Envt->ByteArray->Int->(Envt->Int->Prop)->Prop
def q4v(Zz:Wu)(Zg:J5)(Ji:Ut)(W6:B0)(Q6:Z0)(W7:W4)(U3:Rx):G3:=fun v experiment now K=>Zz (Envt.mk (Sett.mk v.1.1 v.1.2 v.1.3) v.2 v.3 v.4 v.5 v.6) experiment now fun Qc Q9 w7n=>Cnd (w7n=0) (At v.6 Qc fun y1=>Cnd (y1.5=2) (Jn1 (fun Q7=>Fits v.3->((0:Int)<=(0:Int)/\(0:Int)<=(↑v.3.length:Int)/\Sml (↑v.3.length:Int).toNat)/\(Fits v.3->Lp2 (fun J1 j0f v0r=>CAt v.3 j0f (fun y7=>Zg (Seg.mk y7.1 y7.2 y7.3 y7.4 (Ex.mk y7.5.1 y7.5.2 y7.5.3 y7.5.4 y7.5.5)) fun Jk=>Sml (J1++[Seg.mk Jk.1 Jk.2 Jk.3 Jk.4 (Ex.mk Jk.5.1 Jk.5.2 Jk.5.3 Jk.5.4 Jk.5.5)]).length/\InI (j0f+1)/\v0r (J1++[Seg.mk Jk.1 Jk.2 Jk.3 Jk.4 (Ex.mk Jk.5.1 Jk.5.2 Jk.5.3 Jk.5.4 Jk.5.5)]) (j0f+1)) (Fits v.4->((0:Int)<=(0:Int)/\(0:Int)<=(↑v.4.length:Int)/\Sml (↑v.4.length:Int).toNat)/\(Fits v.4->Lp2 (fun Jk z1z v0s=>CAt v.4 z1z (fun y10=>Ji (Flg.mk y10.1 y10.2 y10.3 y10.4 y10.5 y10.6 y10.7 y10.8 (Srv.mk y10.9.1 y10.9.2 y10.9.3 y10.9.4 y10.9.5)) fun Zn=>Sml (Jk++[Flg.mk Zn.1 Zn.2 Zn.3 Zn.4 Zn.5 Zn.6 Zn.7 Zn.8 (Srv.mk Zn.9.1 Zn.9.2 Zn.9.3 Zn.9.4 Zn.9.5)]).length/\InI (z1z+1)/\v0s (Jk++[Flg.mk Zn.1 Zn.2 Zn.3 Zn.4 Zn.5 Zn.6 Zn.7 Zn.8 (Srv.mk Zn.9.1 Zn.9.2 Zn.9.3 Zn.9.4 Zn.9.5)]) (z1z+1)) (W6 v.5 fun (Zy:List Lay_×Nat×List Col)=>Fits v.6->((0:Int)<=(0:Int)/\(0:Int)<=(↑v.6.length:Int)/\Sml (↑v.6.length:Int).toNat)/\(Fits v.6->Lp2 (fun Qj z5d v4y=>CAt v.6 z5d (fun y14=>Q6 (Exper.mk y14.1 y14.2 y14.3 y14.4 y14.5 y14.6 y14.7 (Ex.mk y14.8.1 y14.8.2 y14.8.3 y14.8.4 y14.8.5)) fun Z5=>Sml (Qj++[Exper.mk Z5.1 Z5.2 Z5.3 Z5.4 Z5.5 Z5.6 Z5.7 (Ex.mk Z5.8.1 Z5.8.2 Z5.8.3 Z5.8.4 Z5.8.5)]).length/\InI (z5d+1)/\v4y (Qj++[Exper.mk Z5.1 Z5.2 Z5.3 Z5.4 Z5.5 Z5.6 Z5.7 (Ex.mk Z5.8.1 Z5.8.2 Z5.8.3 Z5.8.4 Z5.8.5)]) (z5d+1)) (At Qj Qc fun y14=>((0:Int)<=Q9/\Q9<(↑Zy.1.length:Int))/\Q9.toNat=Zy.2.1/\ ∀y16,Zy.1[Q9.toNat]? =some y16->Jn2 (fun Q4 (z3p:List Lay_×Nat)=>W7 Q4 now fun Zc=>Q9.toNat=z3p.2/\ ∀y20,z3p.1[Q9.toNat]? =some y20-> ∀y22,(z3p.1.set Q9.toNat (Lay_.mk y20.1 y20.2 y20.3 y20.4 y20.5 Zc))[Q9.toNat]? =some y22->Fits y22.6->Cnd ((32:Int)<(↑y22.6.length:Int)) (K (Envt.mk (Sett.mk (B8 []) (B8 []) (0:Int)) [] [] [] [] []) (5:Int)) (K (Envt.mk (Sett.mk v.1.1 v.1.2 v.1.3) Q7 J1 Jk (z3p.1.set Q9.toNat (Lay_.mk y20.1 y20.2 y20.3 y20.4 y20.5 Zc)) (Qj.set Qc.toNat (Exper.mk y14.1 y14.2 y14.3 y14.4 (3:Int) y14.6 y14.7 (Ex.mk y14.8.1 y14.8.2 y14.8.3 y14.8.4 y14.8.5)))) (0:Int))) fun (w0z:List Col->List Lay_×Nat->Prop)=>Q9.toNat=Zy.2.1/\ ∀y19,Zy.1[Q9.toNat]? =some y19->Cnd ((0:Int)<y19.5) (At v.6 Qc fun y21=>Fits y21.6->Lp3 (fun Qk w42 (w01:List Lay_×Nat) v4z=>CAt y21.6 w42 (fun y25=>Q9.toNat=w01.2/\ ∀y27,w01.1[Q9.toNat]? =some y27->U3 now y27.5 fun (j7w:Int)=>Sml (Qk++[Col.mk y25.1 y25.2 j7w]).length/\InI (w42+1)/\v4z (Qk++[Col.mk y25.1 y25.2 j7w]) (w42+1) (w01.1,w01.2)) (w0z Qk (w01.1,w01.2))) Zy.2.2 (0:Int) (Zy.1,Zy.2.1)) (w0z Zy.2.2 (Zy.1,Zy.2.1)))) (List.replicate (Int.toNat (0:Int)) (Exper.mk (B8 []) (B8 []) (B8 []) (B8 []) (0:Int) [] [] (Ex.mk (0:Int) (B8 []) (B8 []) [] []))) (0:Int)))) (List.replicate (Int.toNat (0:Int)) (Flg.mk (B8 []) (0:Int) [] false (0:Int) [] [] [] (Srv.mk (0:Int) (B8 []) (B8 []) (B8 []) []))) (0:Int)))) (List.replicate (Int.toNat (0:Int)) (Seg.mk (B8 []) (B8 []) [] [] (Ex.mk (0:Int) (B8 []) (B8 []) [] []))) (0:Int))) fun w8n=> ∀n4,(n4=true->v.2=[])->Cnd (n4=true) (w8n []) (Sml ([]++v.2).length/\w8n ([]++v.2))) (K (Envt.mk (Sett.mk (B8 []) (B8 []) (0:Int)) [] [] [] [] []) (25:Int))) (K (Envt.mk (Sett.mk (B8 []) (B8 []) (0:Int)) [] [] [] [] []) w7n)
def q0m:G3:=q4v G1 J6 Uu B1 Z1 Gd Ry
abbrev V1:Type:=Envt->ByteArray->(Int->Prop)->Prop
def V2:V1:=fun v key K=>Lp1 (fun Qc q18=>Fits v.6->CAt v.6 Qc (fun y2=>Cnd (y2.1=key) (K Qc) (InI (Qc+1)/\q18 (Qc+1))) (K (-1:Int))) (0:Int)
abbrev Vl:Type:=Lay_->Int->(List (Spn)->Prop)->Prop
def J8:Vl:=fun l now K=>Fits l.6->Lp2 (fun Qe Zd q88=>CAt l.6 Zd (fun y2=>Cnd (now<y2.3) (Sml (Qe++[Spn.mk y2.1 y2.2]).length/\InI (Zd+1)/\q88 (Qe++[Spn.mk y2.1 y2.2]) (Zd+1)) (InI (Zd+1)/\q88 Qe (Zd+1))) (K Qe)) [] (0:Int)
abbrev Uv:Type:=Envt->ByteArray->ByteArray->Int->(List (Spn)->Prop)->Prop
def q3a(Q1:Jg)(Zs:Vn)(J9:Vl):Uv:=fun v key but now K=>Q1 (Envt.mk (Sett.mk v.1.1 v.1.2 v.1.3) v.2 v.3 v.4 v.5 v.6) key fun Qc=>Cnd (Qc<0) (K []) (Jn1 (fun Qe=>Fits v.6->Lp2 (fun Q7 V7 z63=>CAt v.6 V7 (fun y4=>Cnd (y4.2=key) (Cnd (y4.5=3) (InI (V7+1)/\z63 Q7 (V7+1)) (Cnd (y4.1=but) (InI (V7+1)/\z63 Q7 (V7+1)) (Sml (Q7++y4.6).length/\InI (V7+1)/\z63 (Q7++y4.6) (V7+1)))) (InI (V7+1)/\z63 Q7 (V7+1))) (Zs Q7 fun Qx=>K Qx)) Qe (0:Int)) fun j7u=>At v.5 Qc fun y2=>At v.5 Qc fun y4=>(J9 y2 now fun J1=>Sml (J1++[Spn.mk (0:Int) y4.4]).length/\j7u (J1++[Spn.mk (0:Int) y4.4]))/\J9 y2 now fun J1=>Sml (J1++[Spn.mk (0:Int) y4.4]).length/\j7u (J1++[Spn.mk (0:Int) y4.4]))
def Rz:Uv:=q3a W3 Vo J8
abbrev q3b:Type:=List (Spn)->List (Spn)->(List (Spn)->Prop)->Prop
def R0(a:List (Spn))(b:List (Spn))(K:List (Spn)->Prop):Prop:=K ((Go.Fl.Sp.runs (fun i=>Go.Fl.Sp.cov (a.map fun s=>(s.lo,s.hi)) i && !Go.Fl.Sp.cov (b.map fun s=>(s.lo,s.hi)) i) 10000).map fun s=>Spn.mk s.1 s.2)
abbrev Wv:Type:=Envt->ByteArray->Int->(List (Spn)->Int->Prop)->Prop
def q4w(Zt:Wc)(Q1:Jg)(Bl:Uv)(Bm:q3b):Wv:=fun v key now K=>Zt now fun Qc=>Cnd (Qc=true) (Q1 (Envt.mk (Sett.mk v.1.1 v.1.2 v.1.3) v.2 v.3 v.4 v.5 v.6) key fun Qe=>Cnd (Qe<0) (K [] (11:Int)) (Bl (Envt.mk (Sett.mk v.1.1 v.1.2 v.1.3) v.2 v.3 v.4 v.5 v.6) key (B8 []) now fun Qr=>Bm [Spn.mk (0:Int) (10000:Int)] Qr fun Q7=>K Q7 (0:Int))) (K [] (3:Int))
def G4:Wv:=q4w Vr W3 Rz R0
abbrev q1e:Type:=List (Spn)->List (Spn)->(List (Spn)->Prop)->Prop
def He(a:List (Spn))(b:List (Spn))(K:List (Spn)->Prop):Prop:=K ((Go.Fl.Sp.runs (fun i=>Go.Fl.Sp.cov (a.map fun s=>(s.lo,s.hi)) i && Go.Fl.Sp.cov (b.map fun s=>(s.lo,s.hi)) i) 10000).map fun s=>Spn.mk s.1 s.2)
abbrev q3c:Type:=List (Spn)->Int->(List (Spn)->Prop)->Prop
def R1(l:List (Spn))(n:Int)(K:List (Spn)->Prop):Prop:=InI n/\K ((Go.Fl.Sp.runs (Go.Fl.Sp.firstP (Go.Fl.Sp.cov (l.map fun s=>(s.lo,s.hi))) n) 10000).map fun s=>Spn.mk s.1 s.2)
abbrev q3d:Type:=List (Spn)->List (Spn)->(List (Spn)->Prop)->Prop
def R2(a:List (Spn))(b:List (Spn))(K:List (Spn)->Prop):Prop:=K ((Go.Fl.Sp.runs (fun i=>Go.Fl.Sp.cov (a.map fun s=>(s.lo,s.hi)) i||Go.Fl.Sp.cov (b.map fun s=>(s.lo,s.hi)) i) 10000).map fun s=>Spn.mk s.1 s.2)
abbrev Uw:Type:=Envt->ByteArray->Int->Int->(Envt->Int->Prop)->Prop
def q3e(Zz:Wu)(Jd:Wv)(Jb:Gz)(Bn:q3c)(Bo:q3d)(Zg:J5)(Ji:Ut)(Bp:Rv)(Q6:Z0):Uw:=fun v experiment size now K=>Zz (Envt.mk (Sett.mk v.1.1 v.1.2 v.1.3) v.2 v.3 v.4 v.5 v.6) experiment now fun Qc _ w7n=>Cnd (w7n=0) (At v.6 Qc fun y1=>Cnd (y1.5=3) (K (Envt.mk (Sett.mk (B8 []) (B8 []) (0:Int)) [] [] [] [] []) (25:Int)) (Cnd (size<1) (K (Envt.mk (Sett.mk (B8 []) (B8 []) (0:Int)) [] [] [] [] []) (3:Int)) (Jd (Envt.mk (Sett.mk v.1.1 v.1.2 v.1.3) v.2 v.3 v.4 v.5 v.6) y1.2 now fun Q7 _=>Jb Q7 fun Qx=>Cnd (Qx<size) (K (Envt.mk (Sett.mk (B8 []) (B8 []) (0:Int)) [] [] [] [] []) (19:Int)) (Bn Q7 size fun Q0=>Bo y1.6 Q0 fun J1=>Fits J1->Cnd ((16:Int)<(↑J1.length:Int)) (K (Envt.mk (Sett.mk (B8 []) (B8 []) (0:Int)) [] [] [] [] []) (5:Int)) (∀n8,(n8=true->v.2=[])->Cnd (n8=true) (Fits v.3->((0:Int)<=(0:Int)/\(0:Int)<=(↑v.3.length:Int)/\Sml (↑v.3.length:Int).toNat)/\(Fits v.3->Lp2 (fun Zn j7y v04=>CAt v.3 j7y (fun y13=>Zg (Seg.mk y13.1 y13.2 y13.3 y13.4 (Ex.mk y13.5.1 y13.5.2 y13.5.3 y13.5.4 y13.5.5)) fun Jv=>Sml (Zn++[Seg.mk Jv.1 Jv.2 Jv.3 Jv.4 (Ex.mk Jv.5.1 Jv.5.2 Jv.5.3 Jv.5.4 Jv.5.5)]).length/\InI (j7y+1)/\v04 (Zn++[Seg.mk Jv.1 Jv.2 Jv.3 Jv.4 (Ex.mk Jv.5.1 Jv.5.2 Jv.5.3 Jv.5.4 Jv.5.5)]) (j7y+1)) (Fits v.4->((0:Int)<=(0:Int)/\(0:Int)<=(↑v.4.length:Int)/\Sml (↑v.4.length:Int).toNat)/\(Fits v.4->Lp2 (fun Jv j7z v05=>CAt v.4 j7z (fun y16=>Ji (Flg.mk y16.1 y16.2 y16.3 y16.4 y16.5 y16.6 y16.7 y16.8 (Srv.mk y16.9.1 y16.9.2 y16.9.3 y16.9.4 y16.9.5)) fun Q4=>Sml (Jv++[Flg.mk Q4.1 Q4.2 Q4.3 Q4.4 Q4.5 Q4.6 Q4.7 Q4.8 (Srv.mk Q4.9.1 Q4.9.2 Q4.9.3 Q4.9.4 Q4.9.5)]).length/\InI (j7z+1)/\v05 (Jv++[Flg.mk Q4.1 Q4.2 Q4.3 Q4.4 Q4.5 Q4.6 Q4.7 Q4.8 (Srv.mk Q4.9.1 Q4.9.2 Q4.9.3 Q4.9.4 Q4.9.5)]) (j7z+1)) (Fits v.5->((0:Int)<=(0:Int)/\(0:Int)<=(↑v.5.length:Int)/\Sml (↑v.5.length:Int).toNat)/\(Fits v.5->Lp2 (fun Q4 z3p v06=>CAt v.5 z3p (fun y19=>Bp y19 fun q0c=>Sml (Q4++[q0c]).length/\InI (z3p+1)/\v06 (Q4++[q0c]) (z3p+1)) (Fits v.6->((0:Int)<=(0:Int)/\(0:Int)<=(↑v.6.length:Int)/\Sml (↑v.6.length:Int).toNat)/\(Fits v.6->Lp2 (fun q0c z6k v07=>CAt v.6 z6k (fun y22=>Q6 (Exper.mk y22.1 y22.2 y22.3 y22.4 y22.5 y22.6 y22.7 (Ex.mk y22.8.1 y22.8.2 y22.8.3 y22.8.4 y22.8.5)) fun Qk=>Sml (q0c++[Exper.mk Qk.1 Qk.2 Qk.3 Qk.4 Qk.5 Qk.6 Qk.7 (Ex.mk Qk.8.1 Qk.8.2 Qk.8.3 Qk.8.4 Qk.8.5)]).length/\InI (z6k+1)/\v07 (q0c++[Exper.mk Qk.1 Qk.2 Qk.3 Qk.4 Qk.5 Qk.6 Qk.7 (Ex.mk Qk.8.1 Qk.8.2 Qk.8.3 Qk.8.4 Qk.8.5)]) (z6k+1)) (At q0c Qc fun y22=>K (Envt.mk (Sett.mk v.1.1 v.1.2 v.1.3) [] Zn Jv Q4 (q0c.set Qc.toNat (Exper.mk y22.1 y22.2 y22.3 y22.4 y22.5 J1 y22.7 (Ex.mk y22.8.1 y22.8.2 y22.8.3 y22.8.4 y22.8.5)))) (0:Int))) (List.replicate (Int.toNat (0:Int)) (Exper.mk (B8 []) (B8 []) (B8 []) (B8 []) (0:Int) [] [] (Ex.mk (0:Int) (B8 []) (B8 []) [] []))) (0:Int)))) (List.replicate (Int.toNat (0:Int)) (Lay_.mk (B8 []) (B8 []) (B8 []) (0:Int) (0:Int) [])) (0:Int)))) (List.replicate (Int.toNat (0:Int)) (Flg.mk (B8 []) (0:Int) [] false (0:Int) [] [] [] (Srv.mk (0:Int) (B8 []) (B8 []) (B8 []) []))) (0:Int)))) (List.replicate (Int.toNat (0:Int)) (Seg.mk (B8 []) (B8 []) [] [] (Ex.mk (0:Int) (B8 []) (B8 []) [] []))) (0:Int))) (Sml ([]++v.2).length/\(Fits v.3->((0:Int)<=(0:Int)/\(0:Int)<=(↑v.3.length:Int)/\Sml (↑v.3.length:Int).toNat)/\(Fits v.3->Lp2 (fun Zn j7y v04=>CAt v.3 j7y (fun y13=>Zg (Seg.mk y13.1 y13.2 y13.3 y13.4 (Ex.mk y13.5.1 y13.5.2 y13.5.3 y13.5.4 y13.5.5)) fun Jv=>Sml (Zn++[Seg.mk Jv.1 Jv.2 Jv.3 Jv.4 (Ex.mk Jv.5.1 Jv.5.2 Jv.5.3 Jv.5.4 Jv.5.5)]).length/\InI (j7y+1)/\v04 (Zn++[Seg.mk Jv.1 Jv.2 Jv.3 Jv.4 (Ex.mk Jv.5.1 Jv.5.2 Jv.5.3 Jv.5.4 Jv.5.5)]) (j7y+1)) (Fits v.4->((0:Int)<=(0:Int)/\(0:Int)<=(↑v.4.length:Int)/\Sml (↑v.4.length:Int).toNat)/\(Fits v.4->Lp2 (fun Jv j7z v05=>CAt v.4 j7z (fun y16=>Ji (Flg.mk y16.1 y16.2 y16.3 y16.4 y16.5 y16.6 y16.7 y16.8 (Srv.mk y16.9.1 y16.9.2 y16.9.3 y16.9.4 y16.9.5)) fun Q4=>Sml (Jv++[Flg.mk Q4.1 Q4.2 Q4.3 Q4.4 Q4.5 Q4.6 Q4.7 Q4.8 (Srv.mk Q4.9.1 Q4.9.2 Q4.9.3 Q4.9.4 Q4.9.5)]).length/\InI (j7z+1)/\v05 (Jv++[Flg.mk Q4.1 Q4.2 Q4.3 Q4.4 Q4.5 Q4.6 Q4.7 Q4.8 (Srv.mk Q4.9.1 Q4.9.2 Q4.9.3 Q4.9.4 Q4.9.5)]) (j7z+1)) (Fits v.5->((0:Int)<=(0:Int)/\(0:Int)<=(↑v.5.length:Int)/\Sml (↑v.5.length:Int).toNat)/\(Fits v.5->Lp2 (fun Q4 z3p v06=>CAt v.5 z3p (fun y19=>Bp y19 fun q0c=>Sml (Q4++[q0c]).length/\InI (z3p+1)/\v06 (Q4++[q0c]) (z3p+1)) (Fits v.6->((0:Int)<=(0:Int)/\(0:Int)<=(↑v.6.length:Int)/\Sml (↑v.6.length:Int).toNat)/\(Fits v.6->Lp2 (fun q0c z6k v07=>CAt v.6 z6k (fun y22=>Q6 (Exper.mk y22.1 y22.2 y22.3 y22.4 y22.5 y22.6 y22.7 (Ex.mk y22.8.1 y22.8.2 y22.8.3 y22.8.4 y22.8.5)) fun Qk=>Sml (q0c++[Exper.mk Qk.1 Qk.2 Qk.3 Qk.4 Qk.5 Qk.6 Qk.7 (Ex.mk Qk.8.1 Qk.8.2 Qk.8.3 Qk.8.4 Qk.8.5)]).length/\InI (z6k+1)/\v07 (q0c++[Exper.mk Qk.1 Qk.2 Qk.3 Qk.4 Qk.5 Qk.6 Qk.7 (Ex.mk Qk.8.1 Qk.8.2 Qk.8.3 Qk.8.4 Qk.8.5)]) (z6k+1)) (At q0c Qc fun y22=>K (Envt.mk (Sett.mk v.1.1 v.1.2 v.1.3) ([]++v.2) Zn Jv Q4 (q0c.set Qc.toNat (Exper.mk y22.1 y22.2 y22.3 y22.4 y22.5 J1 y22.7 (Ex.mk y22.8.1 y22.8.2 y22.8.3 y22.8.4 y22.8.5)))) (0:Int))) (List.replicate (Int.toNat (0:Int)) (Exper.mk (B8 []) (B8 []) (B8 []) (B8 []) (0:Int) [] [] (Ex.mk (0:Int) (B8 []) (B8 []) [] []))) (0:Int)))) (List.replicate (Int.toNat (0:Int)) (Lay_.mk (B8 []) (B8 []) (B8 []) (0:Int) (0:Int) [])) (0:Int)))) (List.replicate (Int.toNat (0:Int)) (Flg.mk (B8 []) (0:Int) [] false (0:Int) [] [] [] (Srv.mk (0:Int) (B8 []) (B8 []) (B8 []) []))) (0:Int)))) (List.replicate (Int.toNat (0:Int)) (Seg.mk (B8 []) (B8 []) [] [] (Ex.mk (0:Int) (B8 []) (B8 []) [] []))) (0:Int))))))))) (K (Envt.mk (Sett.mk (B8 []) (B8 []) (0:Int)) [] [] [] [] []) w7n)
def R3:Uw:=q3e G1 G4 Vu R1 R2 J6 Uu Gc Z1
abbrev Gv:Type:=List (Int)->Int->Int->Int->Int->Int->(Bool->Prop)->Prop
def Gw(q2d:H4)(q1l:z37)(j3d:j1y)(Bq:Uq)(Zx:Jf)(q0u:G3)(Jn:V1)(Qz:Ja)(Jd:Wv)(Hk:q1e)(U4:Uw)(Zu:Vi)(Jz:Un):Gv:=fun codes which other size now later K=>q2d fun Qc=>Cnd (Qc=true) (q1l now (220:Int) fun Qe=>j3d codes (400:Int) fun Qr Zv=>Bq Qr Zv Qe fun Q7 _=>Zx (Envt.mk (Sett.mk Q7.1.1 Q7.1.2 Q7.1.3) Q7.2 Q7.3 Q7.4 Q7.5 Q7.6) which fun Qx=>q0u (Envt.mk (Sett.mk Q7.1.1 Q7.1.2 Q7.1.3) Q7.2 Q7.3 Q7.4 Q7.5 Q7.6) Qx Qe fun Q0 z9s=>Cnd (z9s=0) (Jn (Envt.mk (Sett.mk Q0.1.1 Q0.1.2 Q0.1.3) Q0.2 Q0.3 Q0.4 Q0.5 Q0.6) Qx fun J1=>Cnd (J1<0) (K false) (At Q0.6 J1 fun y7=>Qz (Envt.mk (Sett.mk Q0.1.1 Q0.1.2 Q0.1.3) Q0.2 Q0.3 Q0.4 Q0.5 Q0.6) y7.2 fun Jk=>Cnd (Jk<0) (K false) (At Q0.6 J1 fun y10=>At Q0.5 Jk fun y12=>InI (Qe+y12.5)/\q1l later (130:Int) fun Va=>InI (Qe+Va)/\At Q0.5 Jk fun y15=>Jd (Envt.mk (Sett.mk Q0.1.1 Q0.1.2 Q0.1.3) Q0.2 Q0.3 Q0.4 Q0.5 Q0.6) y15.1 (Qe+Va) fun j7v w7q=>Cnd (w7q=0) (Cnd (Qe+Va<Qe+y12.5) (Hk j7v y10.6 fun Q4=>Fits Q4->Cnd ((0:Int)<(↑Q4.length:Int)) (K false) (Zx (Envt.mk (Sett.mk Q0.1.1 Q0.1.2 Q0.1.3) Q0.2 Q0.3 Q0.4 Q0.5 Q0.6) other fun Gy=>Jn (Envt.mk (Sett.mk Q0.1.1 Q0.1.2 Q0.1.3) Q0.2 Q0.3 Q0.4 Q0.5 Q0.6) Gy fun q0c=>q1l size (4000:Int) fun w0y=>InI ((1:Int)+w0y)/\U4 (Envt.mk (Sett.mk Q0.1.1 Q0.1.2 Q0.1.3) Q0.2 Q0.3 Q0.4 Q0.5 Q0.6) Gy ((1:Int)+w0y) (Qe+Va) fun w41 v40=>Cnd (v40=0) (Cnd (q0c<0) (K true) (At Q0.6 q0c fun y24=>At Q0.5 Jk fun y26=>Cnd (y24.2=y26.1) (Fits w41.6->Cnd ((↑w41.6.length:Int)<=q0c) (K false) (At w41.6 q0c fun y29=>At Q0.6 q0c fun y31=>Zu y29.6 y31.6 fun (w44:List Spn)=>Cnd (Qe+y12.5<=Qe+Va) (K true) (Jz w44 y10.6 fun (w00:List Spn)=>Fits w00->K (decide ((↑w00.length:Int)=0))))) (K true))) (K true))) (Zx (Envt.mk (Sett.mk Q0.1.1 Q0.1.2 Q0.1.3) Q0.2 Q0.3 Q0.4 Q0.5 Q0.6) other fun Q4=>Jn (Envt.mk (Sett.mk Q0.1.1 Q0.1.2 Q0.1.3) Q0.2 Q0.3 Q0.4 Q0.5 Q0.6) Q4 fun Zc=>q1l size (4000:Int) fun Gy=>InI ((1:Int)+Gy)/\U4 (Envt.mk (Sett.mk Q0.1.1 Q0.1.2 Q0.1.3) Q0.2 Q0.3 Q0.4 Q0.5 Q0.6) Q4 ((1:Int)+Gy) (Qe+Va) fun q0c z6k=>Cnd (z6k=0) (Cnd (Zc<0) (K true) (At Q0.6 Zc fun y22=>At Q0.5 Jk fun y24=>Cnd (y22.2=y24.1) (Fits q0c.6->Cnd ((↑q0c.6.length:Int)<=Zc) (K false) (At q0c.6 Zc fun y27=>At Q0.6 Zc fun y29=>Zu y27.6 y29.6 fun (q0d:List Spn)=>Cnd (Qe+y12.5<=Qe+Va) (K true) (Jz q0d y10.6 fun (Q5:List Spn)=>Fits Q5->K (decide ((↑Q5.length:Int)=0))))) (K true))) (K true))) (K false)))) (K true)) (K false)
def Zm:Gv:=Gw q1t z7w j1z Ur Wj q0m V2 Wg G4 He R3 Ug Uo
end Go.En
end
noncomputable section
set_option maxRecDepth 100000
namespace Go.Proofs
open Go.Shelf
def Tryz.lays196_ren:Go.Shelf.Ren:=⟨fun|196=>164|259=>217|n=>n,fun|9=>9|4=>4|3=>3|5=>5|12=>12|119=>260|0=>0|46=>264|139=>263|138=>262|53=>278|n=>n,fun|3=>3|4=>4|n=>n⟩
theorem Tryz.lays196:Go.Proofs.Lays.n196 Tryz.prog Tryz.lays196_ren:={
 mixed:=by kernel_rfl
 f196:=Tryz.func164.trans (congrArg some (by kernel_rfl))
 f259:=Tryz.func217.trans (congrArg some (by kernel_rfl))
 t0:=Tryz.underlying0
 a0:=Tryz.isAgg0
 z0:=Tryz.sizeOf0
 v0:=Tryz.zeroValue0
 t3:=Tryz.underlying3
 a3:=Tryz.isAgg3
 z3:=Tryz.sizeOf3
 v3:=Tryz.zeroValue3
 t4:=Tryz.underlying4
 a4:=Tryz.isAgg4
 z4:=Tryz.sizeOf4
 v4:=Tryz.zeroValue4
 t5:=Tryz.underlying5
 a5:=Tryz.isAgg5
 z5:=Tryz.sizeOf5
 v5:=Tryz.zeroValue5
 t9:=Tryz.underlying9
 a9:=Tryz.isAgg9
 z9:=Tryz.sizeOf9
 v9:=Tryz.zeroValue9
 t12:=Tryz.underlying12
 a12:=Tryz.isAgg12
 z12:=Tryz.sizeOf12
 v12:=Tryz.zeroValue12
 t46:=Tryz.underlying264
 a46:=Tryz.isAgg264
 z46:=Tryz.sizeOf264
 v46:=Tryz.zeroValue264
 t53:=Tryz.underlying278
 a53:=Tryz.isAgg278
 z53:=Tryz.sizeOf278
 v53:=Tryz.zeroValue278
 t119:=Tryz.underlying260
 a119:=Tryz.isAgg260
 z119:=Tryz.sizeOf260
 t138:=Tryz.underlying262
 a138:=Tryz.isAgg262
 z138:=Tryz.sizeOf262
 v138:=Tryz.zeroValue262
 t139:=Tryz.underlying263
 a139:=Tryz.isAgg263
 z139:=Tryz.sizeOf263
 v139:=Tryz.zeroValue263
 g3:=by kernel_rfl
 g4:=by kernel_rfl}
end Go.Proofs
end
noncomputable section
set_option maxRecDepth 100000
namespace Go.Proofs.YtflilmgifibgoaaGreatDoor
open Go Go.Proofs Go.RowKit Go.Fl
theorem _root_.Go.Fl.St.freezeM{c:Cx}{w:World}{σ:Hv}{ms ms':List HObj}(h:St c w σ ms){i:Nat}{o:HObj}(hi:ms[i]? =some o){j:Nat}{o2:HObj}(_:ms[j]? =some o2)(_:j≠i)(_:c.M=o2.foot.toList)
  (hms:ms.eraseIdx i=ms'): ∃σ1,St c w σ1 ms'/\Go.Fl.Sub σ σ1/\ ∀k,o.foot=some k->σ1 k=w.heap[k]? :=h.freeze' hi hms
theorem _root_.Go.Fl.St.freeze{c:Cx}{w:World}{σ:Hv}{ms ms':List HObj}(h:St c w σ ms){i:Nat}{o:HObj}(hi:ms[i]? =some o)(_:c.M=[])
  (hms:ms.eraseIdx i=ms'): ∃σ1,St c w σ1 ms'/\Go.Fl.Sub σ σ1/\ ∀k,o.foot=some k->σ1 k=w.heap[k]? :=h.freeze' hi hms
theorem j4h:j5t zB 10000 (j0m Tryz.t129.zero)=true:=by kernel_rfl
theorem v38:j5t zI 10001 (j0m Tryz.t195.zero)=true:=by kernel_rfl
theorem c_of{σ:Hv}{w:World}(v:Value)(ls:List (List (Int×Int)))(hV:View σ w)(hv:RSl 1 (RSs 2 (REnc H0)) σ v ls)(hn:ls.flatten.length<=1152921504606846976):
  Calls Tryz.prog 78 #[v] w fun e w1=>e= .returned (.agg (brow 10000 (Sp.cov ls.flatten)).toArray)/\Grow [] σ w σ w1:=by
 refine enter Tryz.func78 rfl rfl rfl ?_
 obtain⟨a,cap,rfl,h1,h2,hel⟩:=hv
 have hS:=St.start hV
 refine Ql ?_
 refine q09 (cs:=brow 10000 (fun i=>false)) hS (q1p Tryz.type129 (q0g j3f j4h) (by omega)) (by simp[Value.cells,q0v]) ?_
 intro b1 w1 hS1
 refine wpList_nil ?_
 refine Qg ?_
 refine Ql ?_
 refine q09 (cs:=irow 10001 (fun i=>0)) hS1 (q1p Tryz.type195 (q0g v3d v38) (by omega)) (by simp[Value.cells,w08]) ?_
 intro b2 w2 hS2
 refine wpList_nil ?_
 refine Qg ?_
 refine wp_seq ?_
 refine Ql ?_
 refine Qp (v:=(.slice a ls.length cap)) rfl ?_
 refine q2g rfl Tryz.underlying194 ?_
 refine Qp (v:=(.int .i64 (0:Int))) rfl ?_
 refine wpList_nil ?_
 refine Qg ?_
 refine wp_block ?_
 refine loop (fun m f z=> ∃(k1:Nat) (g:Fr),m=ls.length - k1/\f=(upd (upd (upd (upd (upd g 2 (.pointer (some ⟨b1,0,none⟩))) 3 (.pointer (some ⟨b2,0,none⟩))) 13 (.slice a ls.length cap)) 14 (.int .i64 ((ls.length:Nat):Int))) 15 (.int .i64 ((k1:Nat):Int)))/\St ⟨w,σ,[]⟩ z σ [blk b2 195 (irow 10001 (Sp.dep ((ls.take k1).flatten))),blk b1 129 (brow 10000 (fun i=>false))]/\(k1<=ls.length)) (m0:=_) ⟨0,_,rfl,(Qw rfl (Qw rfl (Qw rfl (Qw rfl (Qw rfl rfl))))),hS2,(Nat.zero_le _)⟩ ?_
 rintro _ _ w3 ⟨k1,g,rfl,rfl,hS3,hk1⟩
 refine Ql ?_
 refine j5o (r:=(decide (((k1:Nat):Int)<((ls.length:Nat):Int)))) rfl rfl rfl ?_
 refine wpList_nil ?_
 refine Qg ?_
 refine wp_seq ?_
 refine if_d (((k1:Nat):Int)<((ls.length:Nat):Int)) rfl (fun ht1=> ?_) (fun ht1=> ?_)
 ·refine wp_skip ?_
  refine Qg ?_
  refine wp_seq ?_
  refine wp_block ?_
  refine Ql ?_
  obtain⟨x1,hx1⟩:=getq (l:=ls) (k:=k1) (by omega)
  obtain⟨ad1,cs1,ha1,hl1,hr1,hR1⟩:=hel k1 _ hx1
  obtain⟨v1,rfl,a1,cap1,rfl,h2,h3,hel1⟩:=hR1
  refine H2 (k:=k1) (a':=(ad1.add (k1*1))) (congrArg (fun z=>Value.slice z _ _) ha1) rfl (by omega) (Qb hx1) Tryz.underlying194 Tryz.sizeOf51 rfl ?_
  refine q1m (v:=(.slice a1 x1.length cap1)) rfl Tryz.isAgg51 (hr1.cell hS3.view 0 rfl rfl) ?_
  refine Qq (v:=(.slice a1 x1.length cap1)) rfl ?_
  refine wpList_nil ?_
  refine Qg ?_
  refine Ql ?_
  refine Qp (v:=(.slice a1 x1.length cap1)) rfl ?_
  refine q2g rfl Tryz.underlying51 ?_
  refine Qp (v:=(.int .i64 (0:Int))) rfl ?_
  refine wpList_nil ?_
  refine Qg ?_
  refine wp_block ?_
  refine loop (fun m f z=> ∃(k2:Nat) (g:Fr),m=x1.length - k2/\f=(upd (upd (upd (upd (upd (upd (upd (upd g 2 (.pointer (some ⟨b1,0,none⟩))) 3 (.pointer (some ⟨b2,0,none⟩))) 13 (.slice a ls.length cap)) 14 (.int .i64 ((ls.length:Nat):Int))) 15 (.int .i64 ((k1:Nat):Int))) 19 (.slice a1 x1.length cap1)) 20 (.int .i64 ((x1.length:Nat):Int))) 21 (.int .i64 ((k2:Nat):Int)))/\St ⟨w,σ,[]⟩ z σ [blk b2 195 (irow 10001 (Sp.dep ((ls.take k1).flatten++x1.take k2))),blk b1 129 (brow 10000 (fun i=>false))]/\(k2<=x1.length)) (m0:=_) ⟨0,_,rfl,(Qw rfl (Qw rfl (Qw rfl (Qw rfl (Qw rfl (Qw rfl (Qw rfl (Qw rfl rfl)))))))),(by rw[List.take_zero,List.append_nil];exact hS3),(Nat.zero_le _)⟩ ?_
  rintro _ _ w4 ⟨k2,g,rfl,rfl,hS4,hk2⟩
  refine Ql ?_
  refine j5o (r:=(decide (((k2:Nat):Int)<((x1.length:Nat):Int)))) rfl rfl rfl ?_
  refine wpList_nil ?_
  refine Qg ?_
  refine wp_seq ?_
  refine if_d (((k2:Nat):Int)<((x1.length:Nat):Int)) rfl (fun ht2=> ?_) (fun ht2=> ?_)
  ·refine wp_skip ?_
   refine Qg ?_
   refine wp_seq ?_
   refine wp_block ?_
   refine Ql ?_
   obtain⟨x2,hx2⟩:=getq (l:=x1) (k:=k2) (by omega)
   obtain⟨ad2,cs2,ha2,hl2,hr2,hR2⟩:=hel1 k2 _ hx2
   cases hR2
   refine H2 (k:=k2) (a':=(ad2.add (k2*2))) (congrArg (fun z=>Value.slice z _ _) ha2) rfl (by omega) (Qb hx2) Tryz.underlying51 Tryz.sizeOf75 rfl ?_
   refine z64 (cs:=[(.int .i64 x2.1),(.int .i64 x2.2)]) rfl Tryz.isAgg75 Tryz.sizeOf75 rfl (hr2.row hS4.view) ?_
   refine q09 (cs:=[(.int .i64 (0:Int)),(.int .i64 (0:Int))]) hS4 Tryz.zeroValue75 rfl ?_
   intro b3 w5 hS5
   refine Hl (T:=75) (vs:=[(.int .i64 x2.1),(.int .i64 x2.2)]) (cs':=[(.int .i64 x2.1),(.int .i64 x2.2)]) (ms':=[blk b3 75 [(.int .i64 x2.1),(.int .i64 x2.2)],blk b2 195 (irow 10001 (Sp.dep ((ls.take k1).flatten++x1.take k2))),blk b1 129 (brow 10000 (fun i=>false))]) (i:=0) hS5 rfl rfl rfl Tryz.sizeOf75 rfl (ones rfl) rfl (Nat.le_of_ble_eq_true rfl) rfl rfl ?_
   intro w6 hS6
   refine wpList_nil ?_
   refine Qg ?_
   refine wp_seq ?_
   refine v3g (fun z=>St ⟨w,σ,[]⟩ z σ [blk b3 75 [(.int .i64 x2.1),(.int .i64 x2.2)],blk b2 195 (irow 10001 (Sp.dep ((ls.take k1).flatten++x1.take k2))),blk b1 129 (brow 10000 (fun i=>false))]) (by kernel_rfl) rfl rfl ?_
   have hS7:=hS6.drew
   refine z11 (i:=0) (v:=(.pointer (some ⟨b3,0,none⟩))) (l':= #[true,false,false,false,false,false,false,false]) rfl (by kernel_rfl) (by kernel_rfl) (by kernel_rfl) rfl rfl (fun _ _ _ h=>h) hS7 (fun w hJ K hK=> ?_) ?_
   ·refine z3r (a':=⟨b3,0,none⟩) rfl Tryz.underlying75 rfl Tryz.sizeOf3 rfl ?_
    exact⟨rfl,hK⟩
   refine z11 (i:=1) (v:=(.int .i64 x2.1)) (l':= #[true,true,false,false,false,false,false,false]) rfl (by kernel_rfl) (by kernel_rfl) (by kernel_rfl) rfl rfl (fun _ _ _ h=>h) hS7 (fun w hJ K hK=> ?_) ?_
   ·refine q1m (v:=(.int .i64 x2.1)) rfl Tryz.isAgg3 (hJ.cell (i:=0) rfl rfl) ?_
    exact⟨rfl,hK⟩
   refine z11 (i:=2) (v:=(.int .i64 (max x2.1 (0:Int)))) (l':= #[true,true,true,false,false,false,false,false]) rfl (by kernel_rfl) (by kernel_rfl) (by kernel_rfl) rfl rfl (fun _ _ _ h=>h) hS7 (fun w hJ K hK=> ?_) ?_
   ·refine v3a (r:=(max x2.1 (0:Int))) rfl rfl rfl ?_
    exact⟨rfl,hK⟩
   refine z11 (i:=3) (v:=(.pointer (some ⟨b3,1,none⟩))) (l':= #[true,true,true,true,false,false,false,false]) rfl (by kernel_rfl) (by kernel_rfl) (by kernel_rfl) rfl rfl (fun _ _ _ h=>h) hS7 (fun w hJ K hK=> ?_) ?_
   ·refine z3r (a':=⟨b3,1,none⟩) rfl Tryz.underlying75 rfl Tryz.sizeOf3 rfl ?_
    exact⟨rfl,hK⟩
   refine z11 (i:=4) (v:=(.int .i64 x2.2)) (l':= #[true,true,true,true,true,false,false,false]) rfl (by kernel_rfl) (by kernel_rfl) (by kernel_rfl) rfl rfl (fun _ _ _ h=>h) hS7 (fun w hJ K hK=> ?_) ?_
   ·refine q1m (v:=(.int .i64 x2.2)) rfl Tryz.isAgg3 (hJ.cell (i:=0) rfl rfl) ?_
    exact⟨rfl,hK⟩
   refine z11 (i:=5) (v:=(.int .i64 (min x2.2 (10000:Int)))) (l':= #[true,true,true,true,true,true,false,false]) rfl (by kernel_rfl) (by kernel_rfl) (by kernel_rfl) rfl rfl (fun _ _ _ h=>h) hS7 (fun w hJ K hK=> ?_) ?_
   ·refine v3b (r:=(min x2.2 (10000:Int))) rfl rfl rfl ?_
    exact⟨rfl,hK⟩
   refine z11 (i:=6) (v:=(.int .i64 (max x2.1 (0:Int)))) (l':= #[true,true,true,true,true,true,true,false]) rfl (by kernel_rfl) (by kernel_rfl) (by kernel_rfl) rfl rfl (fun _ _ _ h=>h) hS7 (fun w hJ K hK=> ?_) ?_
   ·refine Qq (v:=(.int .i64 (max x2.1 (0:Int)))) rfl ?_
    exact⟨rfl,hK⟩
   refine z11 (i:=7) (v:=(.int .i64 (min x2.2 (10000:Int)))) (l':= #[true,true,true,true,true,true,true,true]) rfl (by kernel_rfl) (by kernel_rfl) (by kernel_rfl) rfl rfl (fun _ _ _ h=>h) hS7 (fun w hJ K hK=> ?_) ?_
   ·refine Qq (v:=(.int .i64 (min x2.2 (10000:Int)))) rfl ?_
    exact⟨rfl,hK⟩
   refine v1e (by kernel_rfl) ?_
   refine Qg ?_
   refine Ql ?_
   refine Qp (v:=(.int .i64 (max x2.1 (0:Int)))) rfl ?_
   refine Qp (v:=(.int .i64 (min x2.2 (10000:Int)))) rfl ?_
   refine j5o (r:=(decide ((max x2.1 (0:Int))<(min x2.2 (10000:Int))))) rfl rfl rfl ?_
   refine wpList_nil ?_
   refine Qg ?_
   refine if_d ((max x2.1 (0:Int))<(min x2.2 (10000:Int))) rfl (fun ht3=> ?_) (fun ht3=> ?_)
   ·obtain⟨fa,hfa⟩: ∃fa:Nat,((fa:Nat):Int)=max x2.1 0:=⟨(max x2.1 0).toNat,by omega⟩
    obtain⟨fb,hfb⟩: ∃fb:Nat,((fb:Nat):Int)=min x2.2 10000:=⟨(min x2.2 10000).toNat,by omega⟩
    have hda:=Sp.dep_bound ((ls.take k1).flatten++x1.take k2) fa
    have hdb:=Sp.dep_bound ((ls.take k1).flatten++x1.take k2) fb
    have hlen:(((ls.take k1).flatten++x1.take k2)).length<=ls.flatten.length:=Sp.part_le hx1 (by omega)
    refine Ql ?_
    refine Qp (v:=(.int .i64 (max x2.1 (0:Int)))) rfl ?_
    refine Jo (k:=fa) (a':=⟨b2,fa,none⟩) rfl rfl (by omega) (by omega) Tryz.underlying195 Tryz.sizeOf3 (by simp[Zo]) ?_
    refine q1m (v:=(.int .i64 (Sp.dep ((ls.take k1).flatten++x1.take k2) fa))) rfl Tryz.isAgg3 (hS7.cell (i:=1) rfl (z3s (by omega))) ?_
    refine q7q (r:=((Sp.dep ((ls.take k1).flatten++x1.take k2) fa)+(1:Int))) rfl rfl (nw (by omega) (by omega) (by omega)) ?_
    refine Jo (k:=fa) (a':=⟨b2,fa,none⟩) rfl rfl (by omega) (by omega) Tryz.underlying195 Tryz.sizeOf3 (by simp[Zo]) ?_
    refine Hl (T:=195) (vs:=[(.int .i64 ((Sp.dep ((ls.take k1).flatten++x1.take k2) fa)+(1:Int)))]) (cs':=irow 10001 (fun i=>(if i=fa then ((Sp.dep ((ls.take k1).flatten++x1.take k2) fa)+(1:Int)) else Sp.dep ((ls.take k1).flatten++x1.take k2) i))) (ms':=[blk b3 75 [(.int .i64 x2.1),(.int .i64 x2.2)],blk b2 195 (irow 10001 (fun i=>(if i=fa then ((Sp.dep ((ls.take k1).flatten++x1.take k2) fa)+(1:Int)) else Sp.dep ((ls.take k1).flatten++x1.take k2) i))),blk b1 129 (brow 10000 (fun i=>false))]) (i:=1) hS7 rfl rfl rfl Tryz.sizeOf3 rfl (ones rfl) rfl (by rw[q9b];omega) (j71 (by omega)) rfl ?_
    intro w7 hS8
    refine wpList_nil ?_
    refine Qg ?_
    refine Vy ?_
    refine Qp (v:=(.int .i64 (min x2.2 (10000:Int)))) rfl ?_
    refine Jo (k:=fb) (a':=⟨b2,fb,none⟩) rfl rfl (by omega) (by omega) Tryz.underlying195 Tryz.sizeOf3 (by simp[Zo]) ?_
    refine q1m (v:=(.int .i64 ((if fb=fa then ((Sp.dep ((ls.take k1).flatten++x1.take k2) fa)+(1:Int)) else Sp.dep ((ls.take k1).flatten++x1.take k2) fb)))) rfl Tryz.isAgg3 (hS8.cell (i:=1) rfl (z3s (by omega))) ?_
    refine w5a (r:=(((if fb=fa then ((Sp.dep ((ls.take k1).flatten++x1.take k2) fa)+(1:Int)) else Sp.dep ((ls.take k1).flatten++x1.take k2) fb)) - (1:Int))) rfl rfl (nw (by omega) (by omega) (by omega)) ?_
    refine Jo (k:=fb) (a':=⟨b2,fb,none⟩) rfl rfl (by omega) (by omega) Tryz.underlying195 Tryz.sizeOf3 (by simp[Zo]) ?_
    refine Hl (T:=195) (vs:=[(.int .i64 (((if fb=fa then ((Sp.dep ((ls.take k1).flatten++x1.take k2) fa)+(1:Int)) else Sp.dep ((ls.take k1).flatten++x1.take k2) fb)) - (1:Int)))]) (cs':=irow 10001 (Sp.dep (((ls.take k1).flatten++x1.take k2)++[x2]))) (ms':=[blk b3 75 [(.int .i64 x2.1),(.int .i64 x2.2)],blk b2 195 (irow 10001 (Sp.dep (((ls.take k1).flatten++x1.take k2)++[x2]))),blk b1 129 (brow 10000 (fun i=>false))]) (i:=1) hS8 rfl rfl rfl Tryz.sizeOf3 rfl (ones rfl) rfl (by rw[q9b];omega) ((j71 (by omega)).trans (j0o (fun i _=>Sp.dep_step ((ls.take k1).flatten++x1.take k2) x2 fa fb hfa hfb (by unfold Sp.lo Sp.hi;omega) i))) rfl ?_
    intro w8 hS9
    refine wpList_nil ?_
    refine z9t ?_
    refine Qg ?_
    refine Vy ?_
    refine q7q (r:=((k2+1:Nat):Int)) rfl rfl (nw (by omega) (by omega) (by omega)) ?_
    refine Qp (v:=(.int .i64 ((k2+1:Nat):Int))) rfl ?_
    refine wpList_nil ?_
    refine Qg ?_
    have hE:x1.take (k2+1)=x1.take k2++[x2]:=take_snoc hx2
    exact⟨_,_,rfl,⟨k2+1,_,rfl,(Qw rfl (Qw rfl (Qw rfl (Qw rfl (Qw rfl (Qw rfl (Qw rfl (Qw rfl rfl)))))))),(by rw[hE,←List.append_assoc];exact hS9.drop 0 rfl),(by have:=Qb hx2;omega)⟩,by have:=Qb hx2;omega⟩
   ·refine wp_skip ?_
    refine z9t ?_
    refine Qg ?_
    refine Vy ?_
    refine q7q (r:=((k2+1:Nat):Int)) rfl rfl (nw (by omega) (by omega) (by omega)) ?_
    refine Qp (v:=(.int .i64 ((k2+1:Nat):Int))) rfl ?_
    refine wpList_nil ?_
    refine Qg ?_
    have hE:x1.take (k2+1)=x1.take k2++[x2]:=take_snoc hx2
    exact⟨_,_,rfl,⟨k2+1,_,rfl,(Qw rfl (Qw rfl (Qw rfl (Qw rfl (Qw rfl (Qw rfl (Qw rfl (Qw rfl rfl)))))))),(by rw[hE,←List.append_assoc,j0o (fun i _=>Sp.dep_skip ((ls.take k1).flatten++x1.take k2) x2 ht3 i)];exact hS7.drop 0 rfl),(by have:=Qb hx2;omega)⟩,by have:=Qb hx2;omega⟩
  ·refine wp_exit ?_
   refine q46 ?_
   refine q46 ?_
   refine z0z ?_
   refine z9t ?_
   refine Qg ?_
   refine Vy ?_
   refine q7q (r:=((k1+1:Nat):Int)) rfl rfl (nw (by omega) (by omega) (by omega)) ?_
   refine Qp (v:=(.int .i64 ((k1+1:Nat):Int))) rfl ?_
   refine wpList_nil ?_
   refine Qg ?_
   have hSl:=hS4
   rw[List.take_of_length_le (show x1.length<=k2 by omega)] at hSl
   exact⟨_,_,rfl,⟨k1+1,_,rfl,(Qw rfl (Qw rfl (Qw rfl (Qw rfl (Qw rfl rfl))))),(by rw[Sp.flat_take hx1];exact hSl),(by have:=Qb hx1;omega)⟩,by have:=Qb hx1;omega⟩
 ·refine wp_exit ?_
  refine q46 ?_
  refine q46 ?_
  refine z0z ?_
  refine Qg ?_
  refine Ql ?_
  refine q09 (cs:=brow 10000 (fun i=>false)) hS3 (q1p Tryz.type129 (q0g j3f j4h) (by omega)) (by simp[Value.cells,q0v]) ?_
  intro b4 w9 hS10
  refine wpList_nil ?_
  refine Qg ?_
  refine Ql ?_
  refine Qq (v:=(.int .i64 (0:Int))) rfl ?_
  refine wpList_nil ?_
  refine Qg ?_
  refine wp_seq ?_
  refine Ql ?_
  refine Qp (v:=(.int .i64 (0:Int))) rfl ?_
  refine wpList_nil ?_
  refine Qg ?_
  refine wp_block ?_
  rw[List.take_of_length_le (show ls.length<=k1 by omega)] at hS10
  refine loop (fun m f z=> ∃(k3:Nat) (g:Fr),m=10000 - k3/\f=(upd (upd (upd (upd (upd g 2 (.pointer (some ⟨b1,0,none⟩))) 3 (.pointer (some ⟨b2,0,none⟩))) 10 (.pointer (some ⟨b4,0,none⟩))) 11 (.int .i64 (Sp.psum (Sp.dep ls.flatten) k3))) 46 (.int .i64 ((k3:Nat):Int)))/\St ⟨w,σ,[]⟩ z σ [blk b4 129 (brow 10000 (fun i=>(decide (i<k3) && Sp.cov ls.flatten i))),blk b2 195 (irow 10001 (Sp.dep ls.flatten)),blk b1 129 (brow 10000 (fun i=>false))]/\(k3<=10000)) (m0:=_) ⟨0,_,rfl,(Qw rfl (Qw rfl (Qw rfl (Qw rfl (Qw rfl rfl))))),(by simpa using hS10),(Nat.zero_le _)⟩ ?_
  rintro _ _ w10 ⟨k3,g,rfl,rfl,hS11,hk3⟩
  refine Ql ?_
  refine j5o (r:=(decide (((k3:Nat):Int)<(10000:Int)))) rfl rfl rfl ?_
  refine wpList_nil ?_
  refine Qg ?_
  refine wp_seq ?_
  refine if_d (((k3:Nat):Int)<(10000:Int)) rfl (fun ht4=> ?_) (fun ht4=> ?_)
  ·refine wp_skip ?_
   refine Qg ?_
   refine wp_seq ?_
   refine wp_block ?_
   refine Ql ?_
   refine Qp (v:=(.int .i64 ((k3:Nat):Int))) rfl ?_
   refine Qq (v:=(.int .i64 ((k3:Nat):Int))) rfl ?_
   refine wpList_nil ?_
   refine Qg ?_
   refine Ql ?_
   have hps:=Sp.psum_nonneg ls.flatten k3 (by omega)
   have hps2:Sp.psum (Sp.dep ls.flatten) (k3+1)=Sp.psum (Sp.dep ls.flatten) k3+Sp.dep ls.flatten k3:=rfl
   refine Qp (v:=(.int .i64 (Sp.psum (Sp.dep ls.flatten) k3))) rfl ?_
   refine Qp (v:=(.int .i64 ((k3:Nat):Int))) rfl ?_
   refine Jo (k:=k3) (a':=⟨b2,k3,none⟩) rfl rfl (by omega) (by omega) Tryz.underlying195 Tryz.sizeOf3 (by simp[Zo]) ?_
   refine q1m (v:=(.int .i64 (Sp.dep ls.flatten k3))) rfl Tryz.isAgg3 (hS11.cell (i:=1) rfl (z3s (by omega))) ?_
   refine q7q (r:=((Sp.psum (Sp.dep ls.flatten) k3)+(Sp.dep ls.flatten k3))) rfl rfl (nw (by omega) (by omega) (by omega)) ?_
   refine Qq (v:=(.int .i64 ((Sp.psum (Sp.dep ls.flatten) k3)+(Sp.dep ls.flatten k3)))) rfl ?_
   refine wpList_nil ?_
   refine Qg ?_
   refine Vy ?_
   refine Qp (v:=(.int .i64 ((k3:Nat):Int))) rfl ?_
   refine Qp (v:=(.int .i64 ((Sp.psum (Sp.dep ls.flatten) k3)+(Sp.dep ls.flatten k3)))) rfl ?_
   refine v1b (r:=(decide ((0:Int)<((Sp.psum (Sp.dep ls.flatten) k3)+(Sp.dep ls.flatten k3))))) rfl rfl rfl ?_
   refine Jo (k:=k3) (a':=⟨b4,k3,none⟩) rfl rfl (by omega) (by omega) Tryz.underlying129 Tryz.sizeOf4 (by simp[Zo]) ?_
   refine Hl (T:=129) (vs:=[(.bool (decide ((0:Int)<((Sp.psum (Sp.dep ls.flatten) k3)+(Sp.dep ls.flatten k3)))))]) (cs':=brow 10000 (fun i=>(decide (i<k3+1) && Sp.cov ls.flatten i))) (ms':=[blk b4 129 (brow 10000 (fun i=>(decide (i<k3+1) && Sp.cov ls.flatten i))),blk b2 195 (irow 10001 (Sp.dep ls.flatten)),blk b1 129 (brow 10000 (fun i=>false))]) (i:=0) hS11 rfl rfl rfl Tryz.sizeOf4 rfl (ones rfl) rfl (by rw[Ze];omega) ((w5c (by omega)).trans (j0n (fun i _=>Sp.set_step ls.flatten k3 (by omega) i))) rfl ?_
   intro w11 hS12
   refine wpList_nil ?_
   refine z9t ?_
   refine Qg ?_
   refine Vy ?_
   refine q7q (r:=((k3+1:Nat):Int)) rfl rfl (nw (by omega) (by omega) (by omega)) ?_
   refine Qp (v:=(.int .i64 ((k3+1:Nat):Int))) rfl ?_
   refine wpList_nil ?_
   refine Qg ?_
   exact⟨_,_,rfl,⟨k3+1,_,rfl,(Qw rfl (Qw rfl (Qw rfl (Qw rfl (Qw rfl rfl))))),hS12,(by omega)⟩,by omega⟩
  ·refine wp_exit ?_
   refine q46 ?_
   refine q46 ?_
   refine z0z ?_
   refine Qg ?_
   refine Ql ?_
   refine z64 (cs:=brow 10000 (fun i=>(decide (i<k3) && Sp.cov ls.flatten i))) rfl Tryz.isAgg129 Tryz.sizeOf129 (Ze _ _) (Br (hS11.get (i:=0) rfl)) ?_
   refine Hl (T:=129) (vs:=brow 10000 (fun i=>(decide (i<k3) && Sp.cov ls.flatten i))) (cs':=brow 10000 (fun i=>(decide (i<k3) && Sp.cov ls.flatten i))) (ms':=[blk b4 129 (brow 10000 (fun i=>(decide (i<k3) && Sp.cov ls.flatten i))),blk b2 195 (irow 10001 (Sp.dep ls.flatten)),blk b1 129 (brow 10000 (fun i=>(decide (i<k3) && Sp.cov ls.flatten i)))]) (i:=2) hS11 rfl rfl (q2h _) Tryz.sizeOf129 (Ze _ _) (q2i _ _) rfl (by simp[Ze]) (Hu (by simp[Ze])) rfl ?_
   intro w12 hS13
   refine wpList_nil ?_
   refine Qg ?_
   refine wp_ret ?_
   refine w7t rfl rfl (hS13.get (i:=2) rfl) Tryz.underlying129 rfl ((show (Tryz.prog.info? 129).map (·.size)=some 10000 from rfl).trans (by simp[Ze])) ?_
   exact⟨congrArg (fun l:List Value=>Ending.returned (.agg l.toArray)) (j0n (fun i hi=>Sp.all_step ls.flatten k3 i (by omega))),hS13.done⟩
end Go.Proofs.YtflilmgifibgoaaGreatDoor
end
noncomputable section
set_option maxRecDepth 100000
namespace Go.Proofs.YtflilmgifibgoaaGreatDoor
open Go Go.Proofs Go.RowKit Go.Fl
theorem j18{σ:Hv}{w:World}(fid:FuncId)(C:List Value)(p:Nat->Bool)(O:Nat->HObj)(bo:Option Nat)(hfo: ∀k,(O k).foot=bo)(hcall: ∀args w,(callFunc fid args).run Tryz.prog w= .ok (.enter fid args) w)
  (hcl: ∀(k:Nat) (w1:World),k<10000->View σ w1->(O k).ok w1->Calls Tryz.prog fid ((.int .i64 ((k:Nat):Int))::C).toArray w1 fun e w2=>e= .returned (.bool (p k))/\Grow bo.toList σ w1 σ w2/\(O (k+1)).ok w2)
  (hV:View σ w)(hO:(O 0).ok w)(hσ: ∀k,(O 0).foot=some k->σ k=none):
  Calls Tryz.prog 79 #[(.func (.func fid) #[] (C).toArray)] w fun e w1=> ∃(v:Value) (σ1:Hv),e= .returned v/\Grow bo.toList σ w σ1 w1/\RSl 2 (REnc H0) σ1 v (Sp.runs p 10000)/\(O 10000).ok w1/\ ∀k,bo=some k->σ1 k=none:=by
 refine enter Tryz.func79 rfl rfl rfl ?_
 have hS:=St.startO hV hO hσ
 refine Ql ?_
 refine Qq (v:=(.slice none 0 0)) rfl ?_
 refine wpList_nil ?_
 refine Qg ?_
 refine Ql ?_
 refine Qq (v:=(.slice none 0 0)) rfl ?_
 refine wpList_nil ?_
 refine Qg ?_
 refine wp_seq ?_
 refine Ql ?_
 refine Qp (v:=(.int .i64 (0:Int))) rfl ?_
 refine wpList_nil ?_
 refine Qg ?_
 refine wp_block ?_
 have hSn:=hS.addNil 75 2
 refine loop (fun m f z=> ∃(k:Nat) (v:Value) (g:Fr),m=10000 - k/\f=(upd (upd (upd g 0 (.func (.func fid) #[] (C).toArray)) 3 v) 6 (.int .i64 ((k:Nat):Int)))/\St ⟨w,σ,(O 0).foot.toList⟩ z σ [vec v 75 2 ((Sp.runs p k).length) ((Sp.runs p k).flatMap H0),O k]/\(v.oneCell'=true)/\(k<=10000)) (m0:=_) ⟨0,_,_,rfl,(Qw rfl (Qw rfl (Qw rfl rfl))),hSn,(rfl),(Nat.zero_le _)⟩ ?_
 rintro _ _ w1 ⟨k,v,g,rfl,rfl,hS1,hone,hk⟩
 have hrl:=Sp.runs_len p k
 refine Ql ?_
 refine j5o (r:=(decide (((k:Nat):Int)<(10000:Int)))) rfl rfl rfl ?_
 refine wpList_nil ?_
 refine Qg ?_
 refine wp_seq ?_
 refine if_d (((k:Nat):Int)<(10000:Int)) rfl (fun ht1=> ?_) (fun ht1=> ?_)
 ·refine wp_skip ?_
  refine Qg ?_
  refine wp_seq ?_
  refine wp_block ?_
  refine Ql ?_
  refine Qp (v:=(.int .i64 ((k:Nat):Int))) rfl ?_
  refine Qq (v:=(.int .i64 ((k:Nat):Int))) rfl ?_
  refine wpList_nil ?_
  refine Qg ?_
  refine wp_seq ?_
  refine Ql ?_
  refine Qp (v:=(.func (.func fid) #[] (C).toArray)) rfl ?_
  refine Qp (v:=(.int .i64 ((k:Nat):Int))) rfl ?_
  refine w07 (first:=[]) (captured:=C) (args:=(.int .i64 ((k:Nat):Int))::C) rfl rfl hcall (Calls.mono (hcl k _ (by omega) hS1.view (hS1.get (i:=1) rfl)) ?_)
  rintro _ w2 ⟨rfl,hg1,ho1⟩
  refine⟨_,rfl,?_⟩
  have hS2:=hS1.growO hg1 (i:=1) (o':=O (k+1)) rfl (hfo _) (hfo _) ho1 (ms':=[vec v 75 2 ((Sp.runs p k).length) ((Sp.runs p k).flatMap H0),O (k+1)]) rfl
  refine w8q (r:=(!p k)) rfl rfl ?_
  refine wpList_nil ?_
  refine Qg ?_
  refine v3c rfl (fun ht2=> ?_) (fun ht2=> ?_)
  ·refine wp_exit ?_
   refine q46 ?_
   refine z0z ?_
   refine Qg ?_
   refine Vy ?_
   refine q7q (r:=((k+1:Nat):Int)) rfl rfl (nw (by omega) (by omega) (by omega)) ?_
   refine Qp (v:=(.int .i64 ((k+1:Nat):Int))) rfl ?_
   refine wpList_nil ?_
   refine Qg ?_
   have hE:=Sp.runs_no ht2
   exact⟨_,_,rfl,⟨k+1,v,_,rfl,(Qw rfl (Qw rfl (Qw rfl rfl))),(by rw[hE];simpa using hS2),(hone),(by omega)⟩,by omega⟩
  ·refine wp_skip ?_
   refine Qg ?_
   refine Ql ?_
   refine Qp (v:=v) rfl ?_
   refine w05 hS2 rfl (i:=0) rfl Tryz.underlying51 ?_
   refine Qq (v:=(.int .i64 (((Sp.runs p k).length:Nat):Int))) rfl ?_
   refine wpList_nil ?_
   refine Qg ?_
   refine Ql ?_
   refine Qp (v:=(.int .i64 (((Sp.runs p k).length:Nat):Int))) rfl ?_
   refine v1b (r:=(decide ((0:Int)<(((Sp.runs p k).length:Nat):Int)))) rfl rfl rfl ?_
   by_cases hb1:(0:Int)<(((Sp.runs p k).length:Nat):Int)
   ·refine Qp (v:=(.bool true)) (congrArg Value.bool (decide_eq_true hb1)) ?_
    refine o_on rfl rfl ?_
    refine Qp (v:=v) rfl ?_
    refine o_on rfl rfl ?_
    refine Qp (v:=(.int .i64 (((Sp.runs p k).length:Nat):Int))) rfl ?_
    refine o_on rfl rfl ?_
    refine w5a (r:=((((Sp.runs p k).length:Nat):Int) - (1:Int))) rfl rfl (nw (by omega) (by omega) (by omega)) ?_
    refine o_on rfl rfl ?_
    obtain⟨g1,cp1,rfl⟩:=j5q (hS2.get (i:=0) rfl) (by omega)
    refine H2 (k:=((Sp.runs p k).length - 1)) (a':=⟨g1,((Sp.runs p k).length - 1)*2,none⟩) rfl rfl (by omega) (by omega) Tryz.underlying51 Tryz.sizeOf75 (by simp[Zo]) ?_
    refine o_on rfl rfl ?_
    refine z3r (a':=⟨g1,((Sp.runs p k).length - 1)*2+1,none⟩) rfl Tryz.underlying75 rfl Tryz.sizeOf3 rfl ?_
    refine o_on rfl rfl ?_
    obtain⟨x1,hx1⟩:=getq (l:=Sp.runs p k) (k:=((Sp.runs p k).length - 1)) (by omega)
    refine q1m (v:=(.int .i64 x1.2)) rfl Tryz.isAgg3 (w5d z66 (j:=1) (hS2.get (i:=0) rfl) hx1 rfl) ?_
    refine o_on rfl rfl ?_
    refine Qp (v:=(.int .i64 ((k:Nat):Int))) rfl ?_
    refine o_on rfl rfl ?_
    refine v28 (r:=(decide (x1.2=((k:Nat):Int)))) rfl rfl rfl ?_
    refine z6l (v:=(.bool (decide (x1.2=((k:Nat):Int))))) rfl rfl ?_
    refine wpList_nil ?_
    refine Qg ?_
    refine if_d (x1.2=((k:Nat):Int)) rfl (fun ht3=> ?_) (fun ht3=> ?_)
    ·refine Vy ?_
     refine Qp (v:=(.slice (some ⟨g1,0,none⟩) (Sp.runs p k).length cp1)) rfl ?_
     refine Qp (v:=(.int .i64 (((Sp.runs p k).length:Nat):Int))) rfl ?_
     refine w5a (r:=((((Sp.runs p k).length:Nat):Int) - (1:Int))) rfl rfl (nw (by omega) (by omega) (by omega)) ?_
     refine Qp (v:=(.int .i64 ((k:Nat):Int))) rfl ?_
     refine q7q (r:=((k+1:Nat):Int)) rfl rfl (nw (by omega) (by omega) (by omega)) ?_
     refine H2 (k:=((Sp.runs p k).length - 1)) (a':=⟨g1,((Sp.runs p k).length - 1)*2,none⟩) rfl rfl (by omega) (by omega) Tryz.underlying51 Tryz.sizeOf75 (by simp[Zo]) ?_
     refine z3r (a':=⟨g1,((Sp.runs p k).length - 1)*2+1,none⟩) rfl Tryz.underlying75 rfl Tryz.sizeOf3 rfl ?_
     refine j5r (xs':=((Sp.runs p k).set ((Sp.runs p k).length - 1) (x1.1,((k+1:Nat):Int))).flatMap H0) (ms':=[vec (.slice (some ⟨g1,0,none⟩) (Sp.runs p k).length cp1) 75 2 ((Sp.runs p k).length) (((Sp.runs p k).set ((Sp.runs p k).length - 1) (x1.1,((k+1:Nat):Int))).flatMap H0),O (k+1)]) (vs:=[(.int .i64 ((k+1:Nat):Int))]) (i:=0) hS2 rfl rfl rfl Tryz.sizeOf3 rfl (ones rfl) rfl (by omega) (j72 z66 hx1 rfl (Nat.le_of_ble_eq_true rfl)) rfl ?_
     intro w3 hS3
     refine wpList_nil ?_
     refine z9t ?_
     refine Qg ?_
     refine Vy ?_
     refine q7q (r:=((k+1:Nat):Int)) rfl rfl (nw (by omega) (by omega) (by omega)) ?_
     refine Qp (v:=(.int .i64 ((k+1:Nat):Int))) rfl ?_
     refine wpList_nil ?_
     refine Qg ?_
     have hE:=Sp.runs_ext ht2 hx1 ht3
     exact⟨_,_,rfl,⟨k+1,(.slice (some ⟨g1,0,none⟩) (Sp.runs p k).length cp1),_,rfl,(Qw rfl (Qw rfl (Qw rfl rfl))),(by rw[hE];simpa using hS3),(rfl),(by omega)⟩,by omega⟩
    ·refine Vy ?_
     refine Qp (v:=(.slice (some ⟨g1,0,none⟩) (Sp.runs p k).length cp1)) rfl ?_
     refine Qp (v:=(.int .i64 ((k:Nat):Int))) rfl ?_
     refine Qp (v:=(.int .i64 ((k:Nat):Int))) rfl ?_
     refine q7q (r:=((k+1:Nat):Int)) rfl rfl (nw (by omega) (by omega) (by omega)) ?_
     refine w04 (v:=(.agg #[(.int .i64 ((k:Nat):Int)),(.int .i64 ((k+1:Nat):Int))])) (fun _=>by kernel_rfl) ?_
     refine q0f (cs:=[(.int .i64 ((k:Nat):Int)),(.int .i64 ((k+1:Nat):Int))]) (e:=75) hS2 (fun _=>by kernel_rfl) ?_
     intro b1 w4 hS4
     refine j1j (Ms:=fun v1=>[blk b1 75 [(.int .i64 ((k:Nat):Int)),(.int .i64 ((k+1:Nat):Int))],vec v1 75 2 ((Sp.runs p k).length+1) ((Sp.runs p k++[(((k:Nat):Int),((k+1:Nat):Int))]).flatMap H0),O (k+1)]) (xs':=(Sp.runs p k++[(((k:Nat):Int),((k+1:Nat):Int))]).flatMap H0) Tryz.underlying51 Tryz.type75 rfl rfl (bytes:=16) rfl rfl (Nat.succ_pos _) hS4 rfl (q:=1) rfl rfl rfl (Br (hS4.get (i:=0) rfl)) (ones rfl) (by omega) (by unfold maxLen;omega) (j3e _ (((k:Nat):Int),((k+1:Nat):Int))) (fun _=>rfl) ?_
     intro v1 w5 ho2 hS5
     have hS6:=hS5.drop 0 (ms':=[vec v1 75 2 ((Sp.runs p k).length+1) ((Sp.runs p k++[(((k:Nat):Int),((k+1:Nat):Int))]).flatMap H0),O (k+1)]) rfl
     refine Qq (v:=v1) rfl ?_
     refine wpList_nil ?_
     refine z9t ?_
     refine Qg ?_
     refine Vy ?_
     refine q7q (r:=((k+1:Nat):Int)) rfl rfl (nw (by omega) (by omega) (by omega)) ?_
     refine Qp (v:=(.int .i64 ((k+1:Nat):Int))) rfl ?_
     refine wpList_nil ?_
     refine Qg ?_
     have hE:=Sp.runs_new ht2 (fun s hs=>by rw[hx1] at hs;cases hs;exact ht3)
     exact⟨_,_,rfl,⟨k+1,v1,_,rfl,(Qw rfl (Qw rfl (Qw rfl rfl))),(by rw[hE];simpa using hS6),(ho2),(by omega)⟩,by omega⟩
   ·refine Qp (v:=(.bool false)) (congrArg Value.bool (decide_eq_false hb1)) ?_
    refine q7p rfl rfl ?_
    refine q7p rfl rfl ?_
    refine q7p rfl rfl ?_
    refine q7p rfl rfl ?_
    refine q7p rfl rfl ?_
    refine q7p rfl rfl ?_
    refine q7p rfl rfl ?_
    refine q7p rfl rfl ?_
    refine z6m (v:=(.bool false)) rfl rfl ?_
    refine wpList_nil ?_
    refine Qg ?_
    refine if_f rfl ?_
    refine Vy ?_
    refine Qp (v:=v) rfl ?_
    refine Qp (v:=(.int .i64 ((k:Nat):Int))) rfl ?_
    refine Qp (v:=(.int .i64 ((k:Nat):Int))) rfl ?_
    refine q7q (r:=((k+1:Nat):Int)) rfl rfl (nw (by omega) (by omega) (by omega)) ?_
    refine w04 (v:=(.agg #[(.int .i64 ((k:Nat):Int)),(.int .i64 ((k+1:Nat):Int))])) (fun _=>by kernel_rfl) ?_
    refine q0f (cs:=[(.int .i64 ((k:Nat):Int)),(.int .i64 ((k+1:Nat):Int))]) (e:=75) hS2 (fun _=>by kernel_rfl) ?_
    intro b2 w6 hS7
    refine j1j (Ms:=fun v2=>[blk b2 75 [(.int .i64 ((k:Nat):Int)),(.int .i64 ((k+1:Nat):Int))],vec v2 75 2 ((Sp.runs p k).length+1) ((Sp.runs p k++[(((k:Nat):Int),((k+1:Nat):Int))]).flatMap H0),O (k+1)]) (xs':=(Sp.runs p k++[(((k:Nat):Int),((k+1:Nat):Int))]).flatMap H0) Tryz.underlying51 Tryz.type75 rfl rfl (bytes:=16) rfl rfl (Nat.succ_pos _) hS7 rfl (q:=1) rfl rfl rfl (Br (hS7.get (i:=0) rfl)) (ones rfl) (by omega) (by unfold maxLen;omega) (j3e _ (((k:Nat):Int),((k+1:Nat):Int))) (fun _=>rfl) ?_
    intro v2 w7 ho3 hS8
    have hS9:=hS8.drop 0 (ms':=[vec v2 75 2 ((Sp.runs p k).length+1) ((Sp.runs p k++[(((k:Nat):Int),((k+1:Nat):Int))]).flatMap H0),O (k+1)]) rfl
    refine Qq (v:=v2) rfl ?_
    refine wpList_nil ?_
    refine z9t ?_
    refine Qg ?_
    refine Vy ?_
    refine q7q (r:=((k+1:Nat):Int)) rfl rfl (nw (by omega) (by omega) (by omega)) ?_
    refine Qp (v:=(.int .i64 ((k+1:Nat):Int))) rfl ?_
    refine wpList_nil ?_
    refine Qg ?_
    have hE:=Sp.runs_new ht2 (fun s hs=>by have:=Qb hs;omega)
    exact⟨_,_,rfl,⟨k+1,v2,_,rfl,(Qw rfl (Qw rfl (Qw rfl rfl))),(by rw[hE];simpa using hS9),(ho3),(by omega)⟩,by omega⟩
 ·refine wp_exit ?_
  refine q46 ?_
  refine q46 ?_
  refine z0z ?_
  refine Qg ?_
  refine Ql ?_
  refine Qp (v:=v) rfl ?_
  refine Qq (v:=v) rfl ?_
  refine wpList_nil ?_
  refine Qg ?_
  refine wp_ret ?_
  refine ret1 rfl (show ev _ _ _=v from rfl) ?_
  obtain rfl:k=10000:=by omega
  obtain⟨σ1,hS10,hsub1,hfr1⟩:=hS1.freezeM (i:=0) (j:=1) rfl rfl (by decide) (by show (O 0).foot.toList=_;rw[hfo,hfo]) rfl
  have hb:=Sp.runs_len p 10000
  have hd:=hS10.done
  rw[show (O 0).foot=bo from hfo 0] at hd
  exact⟨v,σ1,rfl,hd,RSl.ofVecEnc z66 (hS1.get (i:=0) rfl) hfr1 rfl (by omega),hS10.get (i:=0) rfl,fun k hk=>hS10.off (O 10000) (List.mem_singleton.2 rfl) k ((hfo _).trans hk)⟩
end Go.Proofs.YtflilmgifibgoaaGreatDoor
end
noncomputable section
set_option maxRecDepth 100000
namespace Go.Proofs.YtflilmgifibgoaaGreatDoor
open Go Go.Proofs Go.RowKit Go.Fl
theorem w6n{σ:Hv}{w:World}{bp:Nat}(p:Nat->Bool)(k:Nat)(hV:View σ w)(hp:VRow σ ⟨bp,0,none⟩ (brow 10000 p))(hk:k<10000):
  Calls Tryz.prog 145 #[(.int .i64 ((k:Nat):Int)),(.pointer (some ⟨bp,0,none⟩))] w fun e w1=>e= .returned (.bool (p k))/\Grow [] σ w σ w1:=by
 refine enter Tryz.func145 rfl rfl rfl ?_
 have _hk:=hk
 have hS:=St.start hV
 refine Ql ?_
 refine Qq (v:=(.bool false)) rfl ?_
 refine wpList_nil ?_
 refine Qg ?_
 refine Ql ?_
 refine Qp (v:=(.int .i64 ((k:Nat):Int))) rfl ?_
 refine Jo (k:=k) (a':=⟨bp,k,none⟩) rfl rfl (by omega) (by omega) Tryz.underlying129 Tryz.sizeOf4 (by simp[Zo]) ?_
 refine q1m (v:=(.bool (p k))) rfl Tryz.isAgg4 (hp.cell hS.view k (q4q (by omega)) (j5u _ _)) ?_
 refine Qq (v:=(.bool (p k))) rfl ?_
 refine wpList_nil ?_
 refine Qg ?_
 refine wp_ret ?_
 refine ret1 rfl (show ev _ _ _=(.bool (p k)) from rfl) ?_
 exact⟨by simp[*],hS.done⟩
theorem w3f{σ:Hv}{w:World}{bp:Nat}{bq:Nat}(p:Nat->Bool)(q:Nat->Bool)(k:Nat)(hV:View σ w)(hp:VRow σ ⟨bp,0,none⟩ (brow 10000 p))(hq:VRow σ ⟨bq,0,none⟩ (brow 10000 q))(hk:k<10000):
  Calls Tryz.prog 80 #[(.int .i64 ((k:Nat):Int)),(.pointer (some ⟨bp,0,none⟩)),(.pointer (some ⟨bq,0,none⟩))] w fun e w1=>e= .returned (.bool (p k && q k))/\Grow [] σ w σ w1:=by
 refine enter Tryz.func80 rfl rfl rfl ?_
 have _hk:=hk
 have hS:=St.start hV
 refine Ql ?_
 refine Qq (v:=(.bool false)) rfl ?_
 refine wpList_nil ?_
 refine Qg ?_
 refine Ql ?_
 refine Qp (v:=(.int .i64 ((k:Nat):Int))) rfl ?_
 refine Jo (k:=k) (a':=⟨bp,k,none⟩) rfl rfl (by omega) (by omega) Tryz.underlying129 Tryz.sizeOf4 (by simp[Zo]) ?_
 refine q1m (v:=(.bool (p k))) rfl Tryz.isAgg4 (hp.cell hS.view k (q4q (by omega)) (j5u _ _)) ?_
 rcases Bool.eq_false_or_eq_true (p k) with hb1|hb1
 ·refine Qp (v:=(.bool true)) (congrArg Value.bool hb1) ?_
  refine o_on rfl rfl ?_
  refine Qp (v:=(.int .i64 ((k:Nat):Int))) rfl ?_
  refine o_on rfl rfl ?_
  refine Jo (k:=k) (a':=⟨bq,k,none⟩) rfl rfl (by omega) (by omega) Tryz.underlying129 Tryz.sizeOf4 (by simp[Zo]) ?_
  refine o_on rfl rfl ?_
  refine q1m (v:=(.bool (q k))) rfl Tryz.isAgg4 (hq.cell hS.view k (q4q (by omega)) (j5u _ _)) ?_
  refine z6l (v:=(.bool (q k))) rfl rfl ?_
  refine Qq (v:=(.bool (q k))) rfl ?_
  refine wpList_nil ?_
  refine Qg ?_
  refine wp_ret ?_
  refine ret1 rfl (show ev _ _ _=(.bool (q k)) from rfl) ?_
  exact⟨by simp[*],hS.done⟩
 ·refine Qp (v:=(.bool false)) (congrArg Value.bool hb1) ?_
  refine q7p rfl rfl ?_
  refine q7p rfl rfl ?_
  refine q7p rfl rfl ?_
  refine z6m (v:=(.bool false)) rfl rfl ?_
  refine Qq (v:=(.bool false)) rfl ?_
  refine wpList_nil ?_
  refine Qg ?_
  refine wp_ret ?_
  refine ret1 rfl (show ev _ _ _=(.bool false) from rfl) ?_
  exact⟨by simp[*],hS.done⟩
theorem w6o{σ:Hv}{w:World}{bp:Nat}{bq:Nat}(p:Nat->Bool)(q:Nat->Bool)(k:Nat)(hV:View σ w)(hp:VRow σ ⟨bp,0,none⟩ (brow 10000 p))(hq:VRow σ ⟨bq,0,none⟩ (brow 10000 q))(hk:k<10000):
  Calls Tryz.prog 144 #[(.int .i64 ((k:Nat):Int)),(.pointer (some ⟨bp,0,none⟩)),(.pointer (some ⟨bq,0,none⟩))] w fun e w1=>e= .returned (.bool (p k && !q k))/\Grow [] σ w σ w1:=by
 refine enter Tryz.func144 rfl rfl rfl ?_
 have _hk:=hk
 have hS:=St.start hV
 refine Ql ?_
 refine Qq (v:=(.bool false)) rfl ?_
 refine wpList_nil ?_
 refine Qg ?_
 refine Ql ?_
 refine Qp (v:=(.int .i64 ((k:Nat):Int))) rfl ?_
 refine Jo (k:=k) (a':=⟨bp,k,none⟩) rfl rfl (by omega) (by omega) Tryz.underlying129 Tryz.sizeOf4 (by simp[Zo]) ?_
 refine q1m (v:=(.bool (p k))) rfl Tryz.isAgg4 (hp.cell hS.view k (q4q (by omega)) (j5u _ _)) ?_
 rcases Bool.eq_false_or_eq_true (p k) with hb1|hb1
 ·refine Qp (v:=(.bool true)) (congrArg Value.bool hb1) ?_
  refine o_on rfl rfl ?_
  refine Qp (v:=(.int .i64 ((k:Nat):Int))) rfl ?_
  refine o_on rfl rfl ?_
  refine Jo (k:=k) (a':=⟨bq,k,none⟩) rfl rfl (by omega) (by omega) Tryz.underlying129 Tryz.sizeOf4 (by simp[Zo]) ?_
  refine o_on rfl rfl ?_
  refine q1m (v:=(.bool (q k))) rfl Tryz.isAgg4 (hq.cell hS.view k (q4q (by omega)) (j5u _ _)) ?_
  refine o_on rfl rfl ?_
  refine w8q (r:=(!q k)) rfl rfl ?_
  refine z6l (v:=(.bool (!q k))) rfl rfl ?_
  refine Qq (v:=(.bool (!q k))) rfl ?_
  refine wpList_nil ?_
  refine Qg ?_
  refine wp_ret ?_
  refine ret1 rfl (show ev _ _ _=(.bool (!q k)) from rfl) ?_
  exact⟨by simp[*],hS.done⟩
 ·refine Qp (v:=(.bool false)) (congrArg Value.bool hb1) ?_
  refine q7p rfl rfl ?_
  refine q7p rfl rfl ?_
  refine q7p rfl rfl ?_
  refine q7p rfl rfl ?_
  refine z6m (v:=(.bool false)) rfl rfl ?_
  refine Qq (v:=(.bool false)) rfl ?_
  refine wpList_nil ?_
  refine Qg ?_
  refine wp_ret ?_
  refine ret1 rfl (show ev _ _ _=(.bool false) from rfl) ?_
  exact⟨by simp[*],hS.done⟩
theorem v39{c:Cx}{w w1:World}{σ σ1:Hv}{o o':HObj}(h:St c w σ [o]){b:Nat}(hf:o.foot=some b)(hf':o'.foot=some b)(g:Grow [b] σ w σ1 w1)(ho:o'.ok w1)(hn:σ1 b=none):St c w1 σ1 [o']:=by
 have e:feet [o]=[b]:=by simp[feet,hf]
 refine St.callM (ins:=[o]) (outs:=[o']) (rest:=[]) h ⟨by rw[e];exact g.keeps,g.view,g.sub,by rw[e];exact g.fresh,by simpa using ho,by simp,?_,?_⟩ rfl
 ·intro q hq k hk
  rw[List.mem_singleton.1 hq,hf'] at hk
  cases hk;exact hn
 ·intro q hq k hk
  rw[List.mem_singleton.1 hq,hf'] at hk
  cases hk;left;rw[e];simp
theorem w6p{σ:Hv}{w:World}{bp bn:Nat}(p:Nat->Bool)(n:Int)(k:Nat)(hV:View σ w)(hp:VRow σ ⟨bp,0,none⟩ (brow 10000 p))(ho:(blk bn 3 [.int .i64 (Sp.leftN p n k)]).ok w)(hσ:σ bn=none)(hk:k<10000)(hn: -9223372036854775808<=n)(hn2:n<=9223372036854775807):
  Calls Tryz.prog 146 #[(.int .i64 ((k:Nat):Int)),(.pointer (some ⟨bp,0,none⟩)),(.pointer (some ⟨bn,0,none⟩))] w fun e w1=>e= .returned (.bool (Sp.firstP p n k))/\Grow [bn] σ w σ w1/\(blk bn 3 [.int .i64 (Sp.leftN p n (k+1))]).ok w1:=by
 have hl:=Sp.leftN_le p n k
 refine enter Tryz.func146 rfl rfl rfl ?_
 have _hk:=hk
 have hS:=St.start1 hV ho rfl hσ
 refine Ql ?_
 refine Qq (v:=(.bool false)) rfl ?_
 refine wpList_nil ?_
 refine Qg ?_
 refine wp_seq ?_
 refine Ql ?_
 refine Qp (v:=(.int .i64 ((k:Nat):Int))) rfl ?_
 refine Jo (k:=k) (a':=⟨bp,k,none⟩) rfl rfl (by omega) (by omega) Tryz.underlying129 Tryz.sizeOf4 (by simp[Zo]) ?_
 refine q1m (v:=(.bool (p k))) rfl Tryz.isAgg4 (hp.cell hS.view k (q4q (by omega)) (j5u _ _)) ?_
 refine w8q (r:=(!p k)) rfl rfl ?_
 rcases Bool.eq_false_or_eq_true (p k) with hb1|hb1
 ·refine Qp (v:=(.bool false)) (congrArg Value.bool (congrArg Bool.not hb1)) ?_
  refine o_on rfl rfl ?_
  refine q1m (v:=(.int .i64 (Sp.leftN p n k))) rfl Tryz.isAgg3 (hS.cell (i:=0) rfl rfl) ?_
  refine o_on rfl rfl ?_
  refine v29 (r:=(decide ((Sp.leftN p n k)<=(0:Int)))) rfl rfl rfl ?_
  refine z6m (v:=(.bool (decide ((Sp.leftN p n k)<=(0:Int))))) rfl rfl ?_
  refine wpList_nil ?_
  refine Qg ?_
  refine if_d ((Sp.leftN p n k)<=(0:Int)) rfl (fun ht1=> ?_) (fun ht1=> ?_)
  ·refine Ql ?_
   refine Qq (v:=(.bool false)) rfl ?_
   refine wpList_nil ?_
   refine Qg ?_
   refine wp_ret ?_
   refine w7v ?_
   refine ret1 rfl (show ev _ _ _=(.bool false) from rfl) ?_
   have hg:=hS.get (i:=0) rfl
   refine⟨?_,hS.done,?_⟩
   ·first|(simp[*,Sp.firstP];done)|(simp[*,Sp.firstP];omega)
   rw[Sp.leftN]
   by_cases hq:p k=true/\0<Sp.leftN p n k
   ·rw[if_pos hq];first|exact hg|(exfalso;have h1:=hq.1;have h2:=hq.2;first|omega|simp_all)
   ·rw[if_neg hq];first|exact hg|(exfalso;exact hq ⟨by assumption,by omega⟩)
  ·refine wp_skip ?_
   refine Qg ?_
   refine Ql ?_
   refine q1m (v:=(.int .i64 (Sp.leftN p n k))) rfl Tryz.isAgg3 (hS.cell (i:=0) rfl rfl) ?_
   refine w5a (r:=((Sp.leftN p n k) - (1:Int))) rfl rfl (nw (by omega) (by omega) (by omega)) ?_
   refine Hl (T:=3) (vs:=[(.int .i64 ((Sp.leftN p n k) - (1:Int)))]) (cs':=[(.int .i64 ((Sp.leftN p n k) - (1:Int)))]) (ms':=[blk bn 3 [(.int .i64 ((Sp.leftN p n k) - (1:Int)))]]) (i:=0) hS rfl rfl rfl Tryz.sizeOf3 rfl (ones rfl) rfl (Nat.le_of_ble_eq_true rfl) rfl rfl ?_
   intro w1 hS1
   refine wpList_nil ?_
   refine Qg ?_
   refine Ql ?_
   refine Qq (v:=(.bool true)) rfl ?_
   refine wpList_nil ?_
   refine Qg ?_
   refine wp_ret ?_
   refine ret1 rfl (show ev _ _ _=(.bool true) from rfl) ?_
   have hg:=hS1.get (i:=0) rfl
   refine⟨?_,hS1.done,?_⟩
   ·first|(simp[*,Sp.firstP];done)|(simp[*,Sp.firstP];omega)
   rw[Sp.leftN]
   by_cases hq:p k=true/\0<Sp.leftN p n k
   ·rw[if_pos hq];first|exact hg|(exfalso;have h1:=hq.1;have h2:=hq.2;first|omega|simp_all)
   ·rw[if_neg hq];first|exact hg|(exfalso;exact hq ⟨by assumption,by omega⟩)
 ·refine Qp (v:=(.bool true)) (congrArg Value.bool (congrArg Bool.not hb1)) ?_
  refine q7p rfl rfl ?_
  refine q7p rfl rfl ?_
  refine z6l (v:=(.bool true)) rfl rfl ?_
  refine wpList_nil ?_
  refine Qg ?_
  refine if_t rfl ?_
  refine Ql ?_
  refine Qq (v:=(.bool false)) rfl ?_
  refine wpList_nil ?_
  refine Qg ?_
  refine wp_ret ?_
  refine w7v ?_
  refine ret1 rfl (show ev _ _ _=(.bool false) from rfl) ?_
  have hg:=hS.get (i:=0) rfl
  refine⟨?_,hS.done,?_⟩
  ·first|(simp[*,Sp.firstP];done)|(simp[*,Sp.firstP];omega)
  rw[Sp.leftN]
  by_cases hq:p k=true/\0<Sp.leftN p n k
  ·rw[if_pos hq];first|exact hg|(exfalso;have h1:=hq.1;have h2:=hq.2;first|omega|simp_all)
  ·rw[if_neg hq];first|exact hg|(exfalso;exact hq ⟨by assumption,by omega⟩)
theorem c_Union{σ:Hv}{w:World}(a:Value)(b:Value)(la:List (Int×Int))(lb:List (Int×Int))(hV:View σ w)(ha:RSl 2 (REnc H0) σ a la)(hb:RSl 2 (REnc H0) σ b lb):
  Calls Tryz.prog 81 #[a,b] w fun e w1=> ∃(v:Value) (σ1:Hv),e= .returned v/\Grow [] σ w σ1 w1/\RSl 2 (REnc H0) σ1 v (Sp.runs (fun i=>Sp.cov la i||Sp.cov lb i) 10000):=by
 refine enter Tryz.func81 rfl rfl rfl ?_
 have hS:=St.start hV
 obtain⟨xa,ca,ea⟩:=ha.shape
 subst ea
 obtain⟨xb,cb,eb⟩:=hb.shape
 subst eb
 refine Ql ?_
 refine Qq (v:=(.slice none 0 0)) rfl ?_
 refine wpList_nil ?_
 refine Qg ?_
 refine Ql ?_
 refine Qp (v:=(.slice xa la.length ca)) rfl ?_
 refine Qp (v:=(.slice xb lb.length cb)) rfl ?_
 refine q0f (cs:=[(.slice xa la.length ca),(.slice xb lb.length cb)]) (e:=51) hS (fun _=>by kernel_rfl) ?_
 intro b1 w1 hS1
 obtain⟨σ1,hS2,hsub1,hfr1⟩:=hS1.freeze (i:=0) rfl rfl rfl
 have hvr1:=U5 (hS1.get (i:=0) rfl) hfr1
 refine q45 (args:=[(.slice (some ⟨b1,0,none⟩) 2 2)]) rfl Tryz.call78 (Calls.mono (c_of _ [la,lb] hS2.view (rsl2 (size:=1) (cs:=[_]) (ds:=[_]) hvr1 rfl rfl ⟨_,rfl,(RSl.menc hsub1 ha)⟩ ⟨_,rfl,(RSl.menc hsub1 hb)⟩) (by have:=(RSl.len (RSl.menc hsub1 ha));have:=(RSl.len (RSl.menc hsub1 hb));simp;omega)) ?_)
 rintro _ w2 ⟨rfl,hg1⟩
 refine⟨_,rfl,?_⟩
 have hS3:=hS2.grow hg1
 refine q09 (cs:=brow 10000 (fun i=>false)) hS3 (q1p Tryz.type129 (q0g j3f j4h) (by omega)) (by simp[Value.cells,q0v]) ?_
 intro b2 w3 hS4
 refine Hl (T:=129) (vs:=brow 10000 (Sp.cov [la,lb].flatten)) (cs':=brow 10000 (Sp.cov [la,lb].flatten)) (ms':=[blk b2 129 (brow 10000 (Sp.cov [la,lb].flatten))]) (i:=0) hS4 rfl rfl (q2h _) Tryz.sizeOf129 (Ze _ _) (q2i _ _) rfl (by simp[Ze]) (Hu (by simp[Ze])) rfl ?_
 intro w4 hS5
 refine wpList_nil ?_
 refine Qg ?_
 refine Ql ?_
 refine q9a (la:=[]) (lb:=[(.pointer (some ⟨b2,0,none⟩))]) rfl rfl ?_
 obtain⟨σ2,hS6,hsub2,hfr2⟩:=hS5.freeze (i:=0) rfl rfl rfl
 have hvr2:=U5 (hS5.get (i:=0) rfl) hfr2
 refine q45 (args:=[(.func (.func 145) #[] #[(.pointer (some ⟨b2,0,none⟩))])]) rfl Tryz.call79 (Calls.mono (j18 145 [(.pointer (some ⟨b2,0,none⟩))] (Sp.cov [la,lb].flatten) (fun _=>w8r) none (fun _=>rfl) Tryz.call145 (fun k w1 hk hV1 _=>(w6n _ k hV1 hvr2 hk).mono (fun e w2 h=>⟨h.1,h.2,trivial⟩)) hS6.view trivial (by rintro k ⟨⟩)) ?_)
 rintro _ w5 ⟨v1,σ3,rfl,hg2,hrd1,_⟩
 refine⟨_,rfl,?_⟩
 have hS7:=hS6.grow hg2
 refine Qq (v:=v1) rfl ?_
 refine wpList_nil ?_
 refine Qg ?_
 refine wp_ret ?_
 refine ret1 rfl (show ev _ _ _=v1 from rfl) ?_
 have hE:Sp.runs (fun i=>Sp.cov la i||Sp.cov lb i) 10000=(Sp.runs (Sp.cov [la,lb].flatten) 10000):=Sp.runs_congr (fun i hi=>(Sp.cov_two la lb i).symm)
 exact⟨v1,σ3,rfl,hS7.done,by rw[hE];exact hrd1⟩
theorem c_Common{σ:Hv}{w:World}(a:Value)(b:Value)(la:List (Int×Int))(lb:List (Int×Int))(hV:View σ w)(ha:RSl 2 (REnc H0) σ a la)(hb:RSl 2 (REnc H0) σ b lb):
  Calls Tryz.prog 22 #[a,b] w fun e w1=> ∃(v:Value) (σ1:Hv),e= .returned v/\Grow [] σ w σ1 w1/\RSl 2 (REnc H0) σ1 v (Sp.runs (fun i=>Sp.cov la i && Sp.cov lb i) 10000):=by
 refine enter Tryz.func22 rfl rfl rfl ?_
 have hS:=St.start hV
 obtain⟨xa,ca,ea⟩:=ha.shape
 subst ea
 obtain⟨xb,cb,eb⟩:=hb.shape
 subst eb
 refine Ql ?_
 refine Qq (v:=(.slice none 0 0)) rfl ?_
 refine wpList_nil ?_
 refine Qg ?_
 refine Ql ?_
 refine Qp (v:=(.slice xa la.length ca)) rfl ?_
 refine q0f (cs:=[(.slice xa la.length ca)]) (e:=51) hS (fun _=>by kernel_rfl) ?_
 intro b1 w1 hS1
 obtain⟨σ1,hS2,hsub1,hfr1⟩:=hS1.freeze (i:=0) rfl rfl rfl
 have hvr1:=U5 (hS1.get (i:=0) rfl) hfr1
 refine q45 (args:=[(.slice (some ⟨b1,0,none⟩) 1 1)]) rfl Tryz.call78 (Calls.mono (c_of _ [la] hS2.view (rsl1 (size:=1) hvr1 rfl ⟨_,rfl,(RSl.menc hsub1 ha)⟩) (by have:=(RSl.len (RSl.menc hsub1 ha));simp;omega)) ?_)
 rintro _ w2 ⟨rfl,hg1⟩
 refine⟨_,rfl,?_⟩
 have hS3:=hS2.grow hg1
 refine Qp (v:=(.slice xb lb.length cb)) rfl ?_
 refine q0f (cs:=[(.slice xb lb.length cb)]) (e:=51) hS3 (fun _=>by kernel_rfl) ?_
 intro b2 w3 hS4
 obtain⟨σ2,hS5,hsub2,hfr2⟩:=hS4.freeze (i:=0) rfl rfl rfl
 have hvr2:=U5 (hS4.get (i:=0) rfl) hfr2
 refine q45 (args:=[(.slice (some ⟨b2,0,none⟩) 1 1)]) rfl Tryz.call78 (Calls.mono (c_of _ [lb] hS5.view (rsl1 (size:=1) hvr2 rfl ⟨_,rfl,(RSl.menc (Sub.trans hsub1 hsub2) hb)⟩) (by have:=(RSl.len (RSl.menc (Sub.trans hsub1 hsub2) hb));simp;omega)) ?_)
 rintro _ w4 ⟨rfl,hg2⟩
 refine⟨_,rfl,?_⟩
 have hS6:=hS5.grow hg2
 refine q09 (cs:=brow 10000 (fun i=>false)) hS6 (q1p Tryz.type129 (q0g j3f j4h) (by omega)) (by simp[Value.cells,q0v]) ?_
 intro b3 w5 hS7
 refine q09 (cs:=brow 10000 (fun i=>false)) hS7 (q1p Tryz.type129 (q0g j3f j4h) (by omega)) (by simp[Value.cells,q0v]) ?_
 intro b4 w6 hS8
 refine Hl (T:=129) (vs:=brow 10000 (Sp.cov [la].flatten)) (cs':=brow 10000 (Sp.cov [la].flatten)) (ms':=[blk b4 129 (brow 10000 (fun i=>false)),blk b3 129 (brow 10000 (Sp.cov [la].flatten))]) (i:=1) hS8 rfl rfl (q2h _) Tryz.sizeOf129 (Ze _ _) (q2i _ _) rfl (by simp[Ze]) (Hu (by simp[Ze])) rfl ?_
 intro w7 hS9
 refine Hl (T:=129) (vs:=brow 10000 (Sp.cov [lb].flatten)) (cs':=brow 10000 (Sp.cov [lb].flatten)) (ms':=[blk b4 129 (brow 10000 (Sp.cov [lb].flatten)),blk b3 129 (brow 10000 (Sp.cov [la].flatten))]) (i:=0) hS9 rfl rfl (q2h _) Tryz.sizeOf129 (Ze _ _) (q2i _ _) rfl (by simp[Ze]) (Hu (by simp[Ze])) rfl ?_
 intro w8 hS10
 refine wpList_nil ?_
 refine Qg ?_
 refine Ql ?_
 refine q9a (la:=[]) (lb:=[(.pointer (some ⟨b3,0,none⟩)),(.pointer (some ⟨b4,0,none⟩))]) rfl rfl ?_
 obtain⟨σ3,hS11,hsub3,hfr3⟩:=hS10.freeze (i:=1) rfl rfl rfl
 have hvr3:=U5 (hS10.get (i:=1) rfl) hfr3
 obtain⟨σ4,hS12,hsub4,hfr4⟩:=hS11.freeze (i:=0) rfl rfl rfl
 have hvr4:=U5 (hS11.get (i:=0) rfl) hfr4
 refine q45 (args:=[(.func (.func 80) #[] #[(.pointer (some ⟨b3,0,none⟩)),(.pointer (some ⟨b4,0,none⟩))])]) rfl Tryz.call79 (Calls.mono (j18 80 [(.pointer (some ⟨b3,0,none⟩)),(.pointer (some ⟨b4,0,none⟩))] (fun i=>Sp.cov [la].flatten i && Sp.cov [lb].flatten i) (fun _=>w8r) none (fun _=>rfl) Tryz.call80 (fun k w1 hk hV1 _=>(w3f _ _ k hV1 (hvr3.mono hsub4) hvr4 hk).mono (fun e w2 h=>⟨h.1,h.2,trivial⟩)) hS12.view trivial (by rintro k ⟨⟩)) ?_)
 rintro _ w9 ⟨v1,σ5,rfl,hg3,hrd1,_⟩
 refine⟨_,rfl,?_⟩
 have hS13:=hS12.grow hg3
 refine Qq (v:=v1) rfl ?_
 refine wpList_nil ?_
 refine Qg ?_
 refine wp_ret ?_
 refine ret1 rfl (show ev _ _ _=v1 from rfl) ?_
 have hE:Sp.runs (fun i=>Sp.cov la i && Sp.cov lb i) 10000=(Sp.runs (fun i=>Sp.cov [la].flatten i && Sp.cov [lb].flatten i) 10000):=Sp.runs_congr (fun i hi=>by rw[←Sp.cov_one la,←Sp.cov_one lb])
 exact⟨v1,σ5,rfl,hS13.done,by rw[hE];exact hrd1⟩
theorem c_Minus{σ:Hv}{w:World}(a:Value)(b:Value)(la:List (Int×Int))(lb:List (Int×Int))(hV:View σ w)(ha:RSl 2 (REnc H0) σ a la)(hb:RSl 2 (REnc H0) σ b lb):
  Calls Tryz.prog 76 #[a,b] w fun e w1=> ∃(v:Value) (σ1:Hv),e= .returned v/\Grow [] σ w σ1 w1/\RSl 2 (REnc H0) σ1 v (Sp.runs (fun i=>Sp.cov la i && !Sp.cov lb i) 10000):=by
 refine enter Tryz.func76 rfl rfl rfl ?_
 have hS:=St.start hV
 obtain⟨xa,ca,ea⟩:=ha.shape
 subst ea
 obtain⟨xb,cb,eb⟩:=hb.shape
 subst eb
 refine Ql ?_
 refine Qq (v:=(.slice none 0 0)) rfl ?_
 refine wpList_nil ?_
 refine Qg ?_
 refine Ql ?_
 refine Qp (v:=(.slice xa la.length ca)) rfl ?_
 refine q0f (cs:=[(.slice xa la.length ca)]) (e:=51) hS (fun _=>by kernel_rfl) ?_
 intro b1 w1 hS1
 obtain⟨σ1,hS2,hsub1,hfr1⟩:=hS1.freeze (i:=0) rfl rfl rfl
 have hvr1:=U5 (hS1.get (i:=0) rfl) hfr1
 refine q45 (args:=[(.slice (some ⟨b1,0,none⟩) 1 1)]) rfl Tryz.call78 (Calls.mono (c_of _ [la] hS2.view (rsl1 (size:=1) hvr1 rfl ⟨_,rfl,(RSl.menc hsub1 ha)⟩) (by have:=(RSl.len (RSl.menc hsub1 ha));simp;omega)) ?_)
 rintro _ w2 ⟨rfl,hg1⟩
 refine⟨_,rfl,?_⟩
 have hS3:=hS2.grow hg1
 refine Qp (v:=(.slice xb lb.length cb)) rfl ?_
 refine q0f (cs:=[(.slice xb lb.length cb)]) (e:=51) hS3 (fun _=>by kernel_rfl) ?_
 intro b2 w3 hS4
 obtain⟨σ2,hS5,hsub2,hfr2⟩:=hS4.freeze (i:=0) rfl rfl rfl
 have hvr2:=U5 (hS4.get (i:=0) rfl) hfr2
 refine q45 (args:=[(.slice (some ⟨b2,0,none⟩) 1 1)]) rfl Tryz.call78 (Calls.mono (c_of _ [lb] hS5.view (rsl1 (size:=1) hvr2 rfl ⟨_,rfl,(RSl.menc (Sub.trans hsub1 hsub2) hb)⟩) (by have:=(RSl.len (RSl.menc (Sub.trans hsub1 hsub2) hb));simp;omega)) ?_)
 rintro _ w4 ⟨rfl,hg2⟩
 refine⟨_,rfl,?_⟩
 have hS6:=hS5.grow hg2
 refine q09 (cs:=brow 10000 (fun i=>false)) hS6 (q1p Tryz.type129 (q0g j3f j4h) (by omega)) (by simp[Value.cells,q0v]) ?_
 intro b3 w5 hS7
 refine q09 (cs:=brow 10000 (fun i=>false)) hS7 (q1p Tryz.type129 (q0g j3f j4h) (by omega)) (by simp[Value.cells,q0v]) ?_
 intro b4 w6 hS8
 refine Hl (T:=129) (vs:=brow 10000 (Sp.cov [la].flatten)) (cs':=brow 10000 (Sp.cov [la].flatten)) (ms':=[blk b4 129 (brow 10000 (fun i=>false)),blk b3 129 (brow 10000 (Sp.cov [la].flatten))]) (i:=1) hS8 rfl rfl (q2h _) Tryz.sizeOf129 (Ze _ _) (q2i _ _) rfl (by simp[Ze]) (Hu (by simp[Ze])) rfl ?_
 intro w7 hS9
 refine Hl (T:=129) (vs:=brow 10000 (Sp.cov [lb].flatten)) (cs':=brow 10000 (Sp.cov [lb].flatten)) (ms':=[blk b4 129 (brow 10000 (Sp.cov [lb].flatten)),blk b3 129 (brow 10000 (Sp.cov [la].flatten))]) (i:=0) hS9 rfl rfl (q2h _) Tryz.sizeOf129 (Ze _ _) (q2i _ _) rfl (by simp[Ze]) (Hu (by simp[Ze])) rfl ?_
 intro w8 hS10
 refine wpList_nil ?_
 refine Qg ?_
 refine Ql ?_
 refine q9a (la:=[]) (lb:=[(.pointer (some ⟨b3,0,none⟩)),(.pointer (some ⟨b4,0,none⟩))]) rfl rfl ?_
 obtain⟨σ3,hS11,hsub3,hfr3⟩:=hS10.freeze (i:=1) rfl rfl rfl
 have hvr3:=U5 (hS10.get (i:=1) rfl) hfr3
 obtain⟨σ4,hS12,hsub4,hfr4⟩:=hS11.freeze (i:=0) rfl rfl rfl
 have hvr4:=U5 (hS11.get (i:=0) rfl) hfr4
 refine q45 (args:=[(.func (.func 144) #[] #[(.pointer (some ⟨b3,0,none⟩)),(.pointer (some ⟨b4,0,none⟩))])]) rfl Tryz.call79 (Calls.mono (j18 144 [(.pointer (some ⟨b3,0,none⟩)),(.pointer (some ⟨b4,0,none⟩))] (fun i=>Sp.cov [la].flatten i && !Sp.cov [lb].flatten i) (fun _=>w8r) none (fun _=>rfl) Tryz.call144 (fun k w1 hk hV1 _=>(w6o _ _ k hV1 (hvr3.mono hsub4) hvr4 hk).mono (fun e w2 h=>⟨h.1,h.2,trivial⟩)) hS12.view trivial (by rintro k ⟨⟩)) ?_)
 rintro _ w9 ⟨v1,σ5,rfl,hg3,hrd1,_⟩
 refine⟨_,rfl,?_⟩
 have hS13:=hS12.grow hg3
 refine Qq (v:=v1) rfl ?_
 refine wpList_nil ?_
 refine Qg ?_
 refine wp_ret ?_
 refine ret1 rfl (show ev _ _ _=v1 from rfl) ?_
 have hE:Sp.runs (fun i=>Sp.cov la i && !Sp.cov lb i) 10000=(Sp.runs (fun i=>Sp.cov [la].flatten i && !Sp.cov [lb].flatten i) 10000):=Sp.runs_congr (fun i hi=>by rw[←Sp.cov_one la,←Sp.cov_one lb])
 exact⟨v1,σ5,rfl,hS13.done,by rw[hE];exact hrd1⟩
theorem c_Normal{σ:Hv}{w:World}(a:Value)(la:List (Int×Int))(hV:View σ w)(ha:RSl 2 (REnc H0) σ a la):
  Calls Tryz.prog 36 #[a] w fun e w1=> ∃(v:Value) (σ1:Hv),e= .returned v/\Grow [] σ w σ1 w1/\RSl 2 (REnc H0) σ1 v (Sp.runs (Sp.cov la) 10000):=by
 refine enter Tryz.func36 rfl rfl rfl ?_
 have hS:=St.start hV
 obtain⟨xa,ca,ea⟩:=ha.shape
 subst ea
 refine Ql ?_
 refine Qq (v:=(.slice none 0 0)) rfl ?_
 refine wpList_nil ?_
 refine Qg ?_
 refine Ql ?_
 refine Qp (v:=(.slice xa la.length ca)) rfl ?_
 refine q45 (args:=[(.slice xa la.length ca),(.slice none 0 0)]) rfl Tryz.call81 (Calls.mono (c_Union _ _ la [] hS.view ha RSl.nil) ?_)
 rintro _ w1 ⟨v1,σ1,rfl,hg1,hrd1⟩
 refine⟨_,rfl,?_⟩
 have hS1:=hS.grow hg1
 obtain⟨xa1,ca1,he1⟩:=hrd1.shape
 subst he1
 refine Qq (v:=(.slice xa1 ((Sp.runs (fun i=>Sp.cov la i||Sp.cov [] i) 10000)).length ca1)) rfl ?_
 refine wpList_nil ?_
 refine Qg ?_
 refine wp_ret ?_
 refine ret1 rfl (show ev _ _ _=(.slice xa1 ((Sp.runs (fun i=>Sp.cov la i||Sp.cov [] i) 10000)).length ca1) from rfl) ?_
 have hE:Sp.runs (Sp.cov la) 10000=(Sp.runs (fun i=>Sp.cov la i||Sp.cov [] i) 10000):=Sp.runs_congr (fun i hi=>by rw[Sp.cov_nil,Bool.or_false])
 exact⟨(.slice xa1 ((Sp.runs (fun i=>Sp.cov la i||Sp.cov [] i) 10000)).length ca1),σ1,rfl,hS1.done,by rw[hE];exact hrd1⟩
theorem c_Size{σ:Hv}{w:World}(a:Value)(la:List (Int×Int))(hV:View σ w)(ha:RSl 2 (REnc H0) σ a la):
  Calls Tryz.prog 37 #[a] w fun e w1=>e= .returned (.int .i64 ((Sp.cnt (Sp.cov la) 10000:Nat):Int))/\Grow [] σ w σ w1:=by
 refine enter Tryz.func37 rfl rfl rfl ?_
 have hS:=St.start hV
 obtain⟨xa,ca,ea⟩:=ha.shape
 subst ea
 refine Ql ?_
 refine Qq (v:=(.int .i64 (0:Int))) rfl ?_
 refine wpList_nil ?_
 refine Qg ?_
 refine Ql ?_
 refine Qq (v:=(.int .i64 (0:Int))) rfl ?_
 refine wpList_nil ?_
 refine Qg ?_
 refine wp_seq ?_
 refine Ql ?_
 refine Qp (v:=(.slice xa la.length ca)) rfl ?_
 refine q0f (cs:=[(.slice xa la.length ca)]) (e:=51) hS (fun _=>by kernel_rfl) ?_
 intro b1 w1 hS1
 obtain⟨σ1,hS2,hsub1,hfr1⟩:=hS1.freeze (i:=0) rfl rfl rfl
 have hvr1:=U5 (hS1.get (i:=0) rfl) hfr1
 refine q45 (args:=[(.slice (some ⟨b1,0,none⟩) 1 1)]) rfl Tryz.call78 (Calls.mono (c_of _ [la] hS2.view (rsl1 (size:=1) hvr1 rfl ⟨_,rfl,(RSl.menc hsub1 ha)⟩) (by have:=(RSl.len (RSl.menc hsub1 ha));simp;omega)) ?_)
 rintro _ w2 ⟨rfl,hg1⟩
 refine⟨_,rfl,?_⟩
 have hS3:=hS2.grow hg1
 refine Qp (v:=(.int .i64 (0:Int))) rfl ?_
 refine wpList_nil ?_
 refine Qg ?_
 refine wp_block ?_
 refine loop (fun m f z=> ∃(k:Nat) (g:Fr),m=10000 - k/\f=(upd (upd (upd g 3 (.int .i64 ((Sp.cnt (Sp.cov [la].flatten) k:Nat):Int))) 8 (.agg (brow 10000 (Sp.cov [la].flatten)).toArray)) 9 (.int .i64 ((k:Nat):Int)))/\St ⟨w,σ,[]⟩ z σ1 []/\(k<=10000)) (m0:=_) ⟨0,_,rfl,(Qw rfl (Qw rfl (Qw rfl rfl))),hS3,(Nat.zero_le _)⟩ ?_
 rintro _ _ w3 ⟨k,g,rfl,rfl,hS4,hk⟩
 have hcl:=Sp.cnt_le (Sp.cov [la].flatten) k
 refine Ql ?_
 refine j5o (r:=(decide (((k:Nat):Int)<(10000:Int)))) rfl rfl rfl ?_
 refine wpList_nil ?_
 refine Qg ?_
 refine wp_seq ?_
 refine if_d (((k:Nat):Int)<(10000:Int)) rfl (fun ht1=> ?_) (fun ht1=> ?_)
 ·refine wp_skip ?_
  refine Qg ?_
  refine wp_seq ?_
  refine wp_block ?_
  refine Ql ?_
  refine j5p (k:=k) (v:=(.bool (Sp.cov [la].flatten k))) rfl rfl (by omega) (by omega) Tryz.underlying129 Tryz.sizeOf4 Tryz.isAgg4 (by rw[List.getElem?_toArray];exact q4q (by omega)) ?_
  refine Qq (v:=(.bool (Sp.cov [la].flatten k))) rfl ?_
  refine wpList_nil ?_
  refine Qg ?_
  refine Ql ?_
  refine Qp (v:=(.bool (Sp.cov [la].flatten k))) rfl ?_
  refine wpList_nil ?_
  refine Qg ?_
  refine if_b rfl (fun ht2=> ?_) (fun ht2=> ?_)
  ·refine Vy ?_
   refine Qp (v:=(.int .i64 ((Sp.cnt (Sp.cov [la].flatten) k:Nat):Int))) rfl ?_
   refine q7q (r:=((Sp.cnt (Sp.cov [la].flatten) k+1:Nat):Int)) rfl rfl (nw (by omega) (by omega) (by omega)) ?_
   refine Qq (v:=(.int .i64 ((Sp.cnt (Sp.cov [la].flatten) k+1:Nat):Int))) rfl ?_
   refine wpList_nil ?_
   refine z9t ?_
   refine Qg ?_
   refine Vy ?_
   refine q7q (r:=((k+1:Nat):Int)) rfl rfl (nw (by omega) (by omega) (by omega)) ?_
   refine Qp (v:=(.int .i64 ((k+1:Nat):Int))) rfl ?_
   refine wpList_nil ?_
   refine Qg ?_
   have hc:Sp.cnt (Sp.cov [la].flatten) (k+1)=Sp.cnt (Sp.cov [la].flatten) k+1:=by rw[Sp.cnt,ht2];rfl
   exact⟨_,_,rfl,⟨k+1,_,rfl,(Qw rfl (Qw rfl (Qw (congrArg (fun z:Nat=>Value.int .i64 (z:Int)) hc.symm) rfl))),hS4,(by omega)⟩,by omega⟩
  ·refine wp_skip ?_
   refine z9t ?_
   refine Qg ?_
   refine Vy ?_
   refine q7q (r:=((k+1:Nat):Int)) rfl rfl (nw (by omega) (by omega) (by omega)) ?_
   refine Qp (v:=(.int .i64 ((k+1:Nat):Int))) rfl ?_
   refine wpList_nil ?_
   refine Qg ?_
   have hc:Sp.cnt (Sp.cov [la].flatten) (k+1)=Sp.cnt (Sp.cov [la].flatten) k+0:=by rw[Sp.cnt,ht2];rfl
   exact⟨_,_,rfl,⟨k+1,_,rfl,(Qw rfl (Qw rfl (Qw (congrArg (fun z:Nat=>Value.int .i64 (z:Int)) hc.symm) rfl))),hS4,(by omega)⟩,by omega⟩
 ·refine wp_exit ?_
  refine q46 ?_
  refine q46 ?_
  refine z0z ?_
  refine Qg ?_
  refine Ql ?_
  refine Qp (v:=(.int .i64 ((Sp.cnt (Sp.cov [la].flatten) k:Nat):Int))) rfl ?_
  refine Qq (v:=(.int .i64 ((Sp.cnt (Sp.cov [la].flatten) k:Nat):Int))) rfl ?_
  refine wpList_nil ?_
  refine Qg ?_
  refine wp_ret ?_
  refine ret1 rfl (show ev _ _ _=(.int .i64 ((Sp.cnt (Sp.cov [la].flatten) k:Nat):Int)) from rfl) ?_
  obtain rfl:k=10000:=by omega
  exact⟨by rw[Sp.cnt_congr (fun i _=>(Sp.cov_one la i).symm)],hS4.done.forget⟩
theorem c_First{σ:Hv}{w:World}(a:Value)(la:List (Int×Int))(n:Int)(hV:View σ w)(ha:RSl 2 (REnc H0) σ a la)(hn: -9223372036854775808<=n)(hn2:n<=9223372036854775807):
  Calls Tryz.prog 82 #[a,(.int .i64 n)] w fun e w1=> ∃(v:Value) (σ1:Hv),e= .returned v/\Grow [] σ w σ1 w1/\RSl 2 (REnc H0) σ1 v (Sp.runs (Sp.firstP (Sp.cov la) n) 10000):=by
 refine enter Tryz.func82 rfl rfl rfl ?_
 have hS:=St.start hV
 obtain⟨xa,ca,ea⟩:=ha.shape
 subst ea
 refine Ql ?_
 refine v1c (cs:=[(.int .i64 n)]) hS rfl rfl ?_
 intro b1 w1 hS1
 refine Qq (v:=(.slice none 0 0)) rfl ?_
 refine wpList_nil ?_
 refine Qg ?_
 refine Ql ?_
 refine Qp (v:=(.slice xa la.length ca)) rfl ?_
 refine q0f (cs:=[(.slice xa la.length ca)]) (e:=51) hS1 (fun _=>by kernel_rfl) ?_
 intro b2 w2 hS2
 obtain⟨σ1,hS3,hsub1,hfr1⟩:=hS2.freeze (i:=0) rfl rfl rfl
 have hvr1:=U5 (hS2.get (i:=0) rfl) hfr1
 refine q45 (args:=[(.slice (some ⟨b2,0,none⟩) 1 1)]) rfl Tryz.call78 (Calls.mono (c_of _ [la] hS3.view (rsl1 (size:=1) hvr1 rfl ⟨_,rfl,(RSl.menc hsub1 ha)⟩) (by have:=(RSl.len (RSl.menc hsub1 ha));simp;omega)) ?_)
 rintro _ w3 ⟨rfl,hg1⟩
 refine⟨_,rfl,?_⟩
 have hS4:=hS3.grow hg1
 refine q09 (cs:=brow 10000 (fun i=>false)) hS4 (q1p Tryz.type129 (q0g j3f j4h) (by omega)) (by simp[Value.cells,q0v]) ?_
 intro b3 w4 hS5
 refine Hl (T:=129) (vs:=brow 10000 (Sp.cov [la].flatten)) (cs':=brow 10000 (Sp.cov [la].flatten)) (ms':=[blk b3 129 (brow 10000 (Sp.cov [la].flatten)),blk b1 3 [(.int .i64 n)]]) (i:=0) hS5 rfl rfl (q2h _) Tryz.sizeOf129 (Ze _ _) (q2i _ _) rfl (by simp[Ze]) (Hu (by simp[Ze])) rfl ?_
 intro w5 hS6
 refine wpList_nil ?_
 refine Qg ?_
 refine Ql ?_
 refine q9a (la:=[]) (lb:=[(.pointer (some ⟨b3,0,none⟩)),(.pointer (some ⟨b1,0,none⟩))]) rfl rfl ?_
 obtain⟨σ2,hS7,hsub2,hfr2⟩:=hS6.freeze (i:=0) rfl rfl rfl
 have hvr2:=U5 (hS6.get (i:=0) rfl) hfr2
 refine q45 (args:=[(.func (.func 146) #[] #[(.pointer (some ⟨b3,0,none⟩)),(.pointer (some ⟨b1,0,none⟩))])]) rfl Tryz.call79 (Calls.mono (j18 146 [(.pointer (some ⟨b3,0,none⟩)),(.pointer (some ⟨b1,0,none⟩))] (Sp.firstP (Sp.cov [la].flatten) n) (fun k=>blk b1 3 [.int .i64 (Sp.leftN (Sp.cov [la].flatten) n k)]) (some b1) (fun _=>rfl) Tryz.call146 (fun k w1 hk hV1 ho=>w6p _ n k hV1 hvr2 ho ((hS7.off _ (List.mem_of_getElem? (i:=0) rfl)) _ rfl) hk (by omega) (by omega)) hS7.view (hS7.get (i:=0) rfl) (hS7.off _ (List.mem_of_getElem? (i:=0) rfl))) ?_)
 rintro _ w6 ⟨v1,σ3,rfl,hg2,hrd1,ho1⟩
 refine⟨_,rfl,?_⟩
 have hS8:=v39 (o':=blk b1 3 [.int .i64 (Sp.leftN (Sp.cov [la].flatten) n 10000)]) hS7 rfl rfl hg2 ho1.1 (ho1.2 _ rfl)
 refine Qq (v:=v1) rfl ?_
 refine wpList_nil ?_
 refine Qg ?_
 refine wp_ret ?_
 refine ret1 rfl (show ev _ _ _=v1 from rfl) ?_
 have hE:Sp.runs (Sp.firstP (Sp.cov la) n) 10000=(Sp.runs (Sp.firstP (Sp.cov [la].flatten) n) 10000):=Sp.runs_congr (fun i hi=>Sp.firstP_congr (fun j _=>(Sp.cov_one la j).symm))
 exact⟨v1,σ3,rfl,hS8.done,by rw[hE];exact hrd1⟩
end Go.Proofs.YtflilmgifibgoaaGreatDoor
end
noncomputable section
set_option maxRecDepth 100000
open Go Go.RowKit Go.Fl Go.Fl.Lk Go.Fx
namespace Go.En
theorem j19{σ:Hv}{w:World}{g:Nat}{T:C}{n:Nat}{l:List (car T)}(hV:View σ w)(hs:SRep D (fun _=>none) σ (.pointer (some ⟨g,0,none⟩)) (.fap T n l)){i j:Nat}{x:car T}{s:FV Sg}(hx:l[i]? =some x)(hj:(D.shape T x)[j]? =some s)(hz:j<D.size T):
  ∃v,w.cell? ⟨g,i*D.size T+j,none⟩=some v/\RepF D σ v s:=by
 generalize hq:Value.pointer (some (⟨g,0,none⟩:Addr))=q at hs
 cases hs with
 |fap ad cs T' N l' hN h hl hr=>
  cases hq
  have hrow:=hr i x hx
  have hlen:=okP.ok.len T x
  have hjl:j<((cs.drop (i*D.size T)).take (D.size T)).length:=by rw[hrow.1,hlen];exact hz
  obtain⟨v,hv⟩: ∃v,((cs.drop (i*D.size T)).take (D.size T))[j]? =some v:=⟨_,List.getElem?_eq_getElem hjl⟩
  refine⟨v,?_,hrow.2 j v s hv hj⟩
  rw[List.getElem?_take,if_pos hz,List.getElem?_drop] at hv
  have:=hV.cell (h _ v hv)
  rw[Zo,Nat.zero_add] at this
  exact this
theorem w6q: ∀c,c<256->j8q[c]? =some ((Go.Lib.firstT c:Nat):Int):=by decide
theorem v18: ∀i,i<16->(z7u[i]?).map (fun a=>(a.lo,a.hi))=some (((Go.Lib.accLo i:Nat):Int),((Go.Lib.accHi i:Nat):Int)):=by decide
theorem tabs{σ:Hv}{w:World}(hV:View σ w)(hG:Glb D σ):Go.Lib.Utf8Tabs (Proofs.Tryz.lays196_ren.g 3) (Proofs.Tryz.lays196_ren.g 4) w:=by
 refine⟨fun c hc=> ?_,fun i hi=> ?_⟩
 ·have h:=hG.known (Proofs.Tryz.lays196_ren.g 3)
  obtain⟨v,h1,h2⟩:=j19 (T:= .u8) (n:=256) (l:=j8q) hV h (i:=c) (j:=0) (s:= .int .u8 ((Go.Lib.firstT c:Nat):Int)) (w6q c hc) rfl (by decide)
  cases h2
  simpa [show D.size C.u8=1 from rfl] using h1
 ·have h:=hG.known (Proofs.Tryz.lays196_ren.g 4)
  have ha:=v18 i hi
  obtain⟨a,e1,e2⟩:=Option.map_eq_some_iff.1 ha
  obtain⟨v,h1,h2⟩:=j19 (T:= .acc) (n:=16) (l:=z7u) hV h (i:=i) (j:=0) (s:= .int .u8 a.lo) e1 rfl (by decide)
  obtain⟨v',h1',h2'⟩:=j19 (T:= .acc) (n:=16) (l:=z7u) hV h (i:=i) (j:=1) (s:= .int .u8 a.hi) e1 rfl (by decide)
  cases h2;cases h2'
  simp only[Prod.mk.injEq] at e2
  rw[e2.1] at h1;rw[e2.2] at h1'
  refine⟨by rw[Nat.mul_comm];simpa [show D.size C.acc=2 from rfl] using h1,by rw[Nat.mul_comm];simpa [show D.size C.acc=2 from rfl] using h1'⟩
theorem j6n{w w':World}(h:Below w.heap.size w w'):Keeps [] w w':=⟨h.os,h.tape,h.output,h.size,fun k hk _=>h.block k hk⟩
theorem j9p{σ:Hv}{w w1:World}{args:List (Tr Sg)}{vals:List Value}{K:List (Tr Sg)->List (Tr Sg)->Prop}{rets outs:List (Tr Sg)}{rv:List Value}(hS:St ⟨w,σ,feet []⟩ w σ [])(hK:K rets outs)(hb:Below w.heap.size w w1)(hL:LayL D σ rets rv [])(hT:LayT D σ args outs vals [] []):
  Back D σ w args vals [] K (.returned (retV rv)) w1:=by
 have hk:=j6n hb
 refine⟨rets,outs,rv,σ,[],[],rfl,hK,hL,hT,?_⟩
 refine⟨hk,fun b o hbo=> ?_,Sub.refl _,fun _ _ _=>rfl,by simp,by simp,by simp,by simp⟩
 have h1:=hS.view b o hbo
 have hlt:b<w.heap.size:=by
  rcases Nat.lt_or_ge b w.heap.size with h|h
  ·exact h
  ·rw[Array.getElem?_eq_none h] at h1;cases h1
 rw[hk.block b hlt (by simp)];exact h1
theorem z2w:q4r Proofs.Tryz.prog D 164 (conV ([.v]:LP) ([.str]:LV) ([.bool]:LV) ([.same]:LV) (fun a K=>Ri a.1 (fun q0=>K (q0,()) ((),())))):=by
 intro args K hm w σ vals ins hG hL hS
 obtain⟨a,ha,hm⟩:=Qd hm
 have hargs:=J3 ha
 subst hargs
 obtain⟨s,_⟩:=a
 cases hL with
 |cons hp hr=>
 cases hr
 cases hp with
 |f hf=>
 cases hf
 have hm:s.size<=9223372036854775807/\K [.f (.bool (Go.Lib.validD s.data.toList))] [.same]:=hm
 refine Calls.mono (Go.Proofs.Any.utf8_ValidString Proofs.Tryz.lays196 s w hm.1 (tabs hS.view hG)) ?_
 rintro e w' ⟨rfl,hb⟩
 exact j9p (rv:=[.bool (Go.Lib.validD s.data.toList)]) hS hm.2 hb (.cons (ms:=[]) (.f (.bool _)) .nil) (.skip (a0:=[]) .nil)
theorem q12{σ:Hv}{v:Value}{l:List Spn}(h:RepF D σ v (.sl C.span l)):RSl 2 (REnc H0) σ v (l.map fun s=>(s.lo,s.hi)):=by
 obtain⟨a,cap,e1,e2,e3,e4⟩:=h.toRSl okP.ok
 have hl:(l.map fun s=>(s.lo,s.hi)).length=l.length:=List.length_map ..
 refine⟨a,cap,by rw[hl];exact e1,by rw[hl];exact e2,by rw[hl];exact e3,fun i x hx=> ?_⟩
 rw[List.getElem?_map] at hx
 obtain⟨y,hy,rfl⟩:=Option.map_eq_some_iff.1 hx
 obtain⟨ad,cs,f1,f2,f3,f4⟩:=e4 i y hy
 refine⟨ad,cs,f1,f2,f3,?_⟩
 obtain⟨u,v,rfl⟩: ∃u v,cs=[u,v]:=by
  match cs,f2 with
  |[u,v],_=>exact⟨u,v,rfl⟩
 have g1:=f4.2 0 u (.int .i64 y.lo) rfl rfl
 have g2:=f4.2 1 v (.int .i64 y.hi) rfl rfl
 cases g1;cases g2
 rfl
theorem z78{σ:Hv}{v:Value}{l:List (Int×Int)}(h:RSl 2 (REnc H0) σ v l):RepF D σ v (.sl C.span (l.map fun s=>Spn.mk s.1 s.2)):=by
 refine RepF.ofRSl okP.ok ?_
 obtain⟨a,cap,rfl,h1,h2,h3⟩:=h
 refine⟨a,cap,by simp,by simpa using h1,by simpa using h2,fun i x hx=> ?_⟩
 rw[List.getElem?_map] at hx
 obtain⟨y,hy,rfl⟩:=Option.map_eq_some_iff.1 hx
 obtain⟨ad,cs,e1,e2,e3,e4⟩:=h3 i y hy
 have e4:cs=H0 y:=e4
 subst e4
 exact⟨ad,_,e1,rfl,e3,Wf (.int _ _) (Wf (.int _ _) z06)⟩
theorem z79:q4r Proofs.Tryz.prog D 81 (conV ([.sl C.span,.sl C.span]:LP) ([.sl C.span,.sl C.span]:LV) ([.sl C.span]:LV) ([.same,.same]:LV) (fun a K=>R2 a.1 a.2.1 (fun q0=>K (q0,()) ((),(),())))):=by
 intro args K hm w σ vals ins hG hL hS
 obtain⟨a,ha,hm⟩:=Qd hm
 have hargs:=J3 ha
 subst hargs
 obtain⟨s,t,_⟩:=a
 cases hL with
 | @cons _ _ v1 _ _ _ hp hr=>
 cases hr with
 | @cons _ _ v2 _ _ _ hq hr=>
 cases hr
 cases hp with
 |f hf1=>
 cases hq with
 |f hf2=>
 have hm:K [.f (.sl C.span ((Go.Fl.Sp.runs (fun i=>Go.Fl.Sp.cov (s.map fun s=>(s.lo,s.hi)) i||Go.Fl.Sp.cov (t.map fun s=>(s.lo,s.hi)) i) 10000).map fun s=>Spn.mk s.1 s.2))] [.same,.same]:=hm
 refine Calls.mono (Go.Proofs.YtflilmgifibgoaaGreatDoor.c_Union v1 v2 _ _ hS.view (q12 hf1) (q12 hf2)) ?_
 rintro e w1 ⟨v,σ1,rfl,hg,hr⟩
 exact⟨_,[.same,.same],[v],σ1,[],[],rfl,hm,.cons (ms:=[]) (.f (z78 hr)) .nil,.skip (a0:=[]) (.skip (a0:=[]) .nil),hS.grow hg⟩
theorem z8a:q4r Proofs.Tryz.prog D 76 (conV ([.sl C.span,.sl C.span]:LP) ([.sl C.span,.sl C.span]:LV) ([.sl C.span]:LV) ([.same,.same]:LV) (fun a K=>R0 a.1 a.2.1 (fun q0=>K (q0,()) ((),(),())))):=by
 intro args K hm w σ vals ins hG hL hS
 obtain⟨a,ha,hm⟩:=Qd hm
 have hargs:=J3 ha
 subst hargs
 obtain⟨s,t,_⟩:=a
 cases hL with
 | @cons _ _ v1 _ _ _ hp hr=>
 cases hr with
 | @cons _ _ v2 _ _ _ hq hr=>
 cases hr
 cases hp with
 |f hf1=>
 cases hq with
 |f hf2=>
 have hm:K [.f (.sl C.span ((Go.Fl.Sp.runs (fun i=>Go.Fl.Sp.cov (s.map fun s=>(s.lo,s.hi)) i && !Go.Fl.Sp.cov (t.map fun s=>(s.lo,s.hi)) i) 10000).map fun s=>Spn.mk s.1 s.2))] [.same,.same]:=hm
 refine Calls.mono (Go.Proofs.YtflilmgifibgoaaGreatDoor.c_Minus v1 v2 _ _ hS.view (q12 hf1) (q12 hf2)) ?_
 rintro e w1 ⟨v,σ1,rfl,hg,hr⟩
 exact⟨_,[.same,.same],[v],σ1,[],[],rfl,hm,.cons (ms:=[]) (.f (z78 hr)) .nil,.skip (a0:=[]) (.skip (a0:=[]) .nil),hS.grow hg⟩
theorem z51:q4r Proofs.Tryz.prog D 22 (conV ([.sl C.span,.sl C.span]:LP) ([.sl C.span,.sl C.span]:LV) ([.sl C.span]:LV) ([.same,.same]:LV) (fun a K=>He a.1 a.2.1 (fun q0=>K (q0,()) ((),(),())))):=by
 intro args K hm w σ vals ins hG hL hS
 obtain⟨a,ha,hm⟩:=Qd hm
 have hargs:=J3 ha
 subst hargs
 obtain⟨s,t,_⟩:=a
 cases hL with
 | @cons _ _ v1 _ _ _ hp hr=>
 cases hr with
 | @cons _ _ v2 _ _ _ hq hr=>
 cases hr
 cases hp with
 |f hf1=>
 cases hq with
 |f hf2=>
 have hm:K [.f (.sl C.span ((Go.Fl.Sp.runs (fun i=>Go.Fl.Sp.cov (s.map fun s=>(s.lo,s.hi)) i && Go.Fl.Sp.cov (t.map fun s=>(s.lo,s.hi)) i) 10000).map fun s=>Spn.mk s.1 s.2))] [.same,.same]:=hm
 refine Calls.mono (Go.Proofs.YtflilmgifibgoaaGreatDoor.c_Common v1 v2 _ _ hS.view (q12 hf1) (q12 hf2)) ?_
 rintro e w1 ⟨v,σ1,rfl,hg,hr⟩
 exact⟨_,[.same,.same],[v],σ1,[],[],rfl,hm,.cons (ms:=[]) (.f (z78 hr)) .nil,.skip (a0:=[]) (.skip (a0:=[]) .nil),hS.grow hg⟩
theorem z52:q4r Proofs.Tryz.prog D 36 (conV ([.sl C.span]:LP) ([.sl C.span]:LV) ([.sl C.span]:LV) ([.same]:LV) (fun a K=>Vo a.1 (fun q0=>K (q0,()) ((),())))):=by
 intro args K hm w σ vals ins hG hL hS
 obtain⟨a,ha,hm⟩:=Qd hm
 have hargs:=J3 ha
 subst hargs
 obtain⟨s,_⟩:=a
 cases hL with
 | @cons _ _ v1 _ _ _ hp hr=>
 cases hr
 cases hp with
 |f hf1=>
 have hm:K [.f (.sl C.span ((Go.Fl.Sp.runs (Go.Fl.Sp.cov (s.map fun s=>(s.lo,s.hi))) 10000).map fun s=>Spn.mk s.1 s.2))] [.same]:=hm
 refine Calls.mono (Go.Proofs.YtflilmgifibgoaaGreatDoor.c_Normal v1 _ hS.view (q12 hf1)) ?_
 rintro e w1 ⟨v,σ1,rfl,hg,hr⟩
 exact⟨_,[.same],[v],σ1,[],[],rfl,hm,.cons (ms:=[]) (.f (z78 hr)) .nil,.skip (a0:=[]) .nil,hS.grow hg⟩
theorem z8b:q4r Proofs.Tryz.prog D 82 (conV ([.sl C.span,.v]:LP) ([.sl C.span,.int .i64]:LV) ([.sl C.span]:LV) ([.same,.same]:LV) (fun a K=>R1 a.1 a.2.1 (fun q0=>K (q0,()) ((),(),())))):=by
 intro args K hm w σ vals ins hG hL hS
 obtain⟨a,ha,hm⟩:=Qd hm
 have hargs:=J3 ha
 subst hargs
 obtain⟨s,n,_⟩:=a
 cases hL with
 | @cons _ _ v1 _ _ _ hp hr=>
 cases hr with
 | @cons _ _ v2 _ _ _ hq hr=>
 cases hr
 cases hp with
 |f hf1=>
 cases hq with
 |f hf2=>
 cases hf2
 have hm:InI n/\K [.f (.sl C.span ((Go.Fl.Sp.runs (Go.Fl.Sp.firstP (Go.Fl.Sp.cov (s.map fun s=>(s.lo,s.hi))) n) 10000).map fun s=>Spn.mk s.1 s.2))] [.same,.same]:=hm
 obtain⟨hn,hm⟩:=hm
 refine Calls.mono (Go.Proofs.YtflilmgifibgoaaGreatDoor.c_First v1 _ n hS.view (q12 hf1) hn.1 hn.2) ?_
 rintro e w1 ⟨v,σ1,rfl,hg,hr⟩
 exact⟨_,[.same,.same],[v],σ1,[],[],rfl,hm,.cons (ms:=[]) (.f (z78 hr)) .nil,.skip (a0:=[]) (.skip (a0:=[]) .nil),hS.grow hg⟩
theorem z9x:q4r Proofs.Tryz.prog D 37 (conV ([.sl C.span]:LP) ([.sl C.span]:LV) ([.int .i64]:LV) ([.same]:LV) (fun a K=>Vu a.1 (fun q0=>K (q0,()) ((),())))):=by
 intro args K hm w σ vals ins hG hL hS
 obtain⟨a,ha,hm⟩:=Qd hm
 have hargs:=J3 ha
 subst hargs
 obtain⟨s,_⟩:=a
 cases hL with
 | @cons _ _ v1 _ _ _ hp hr=>
 cases hr
 cases hp with
 |f hf1=>
 have hm:K [.f (.int .i64 ((Go.Fl.Sp.cnt (Go.Fl.Sp.cov (s.map fun s=>(s.lo,s.hi))) 10000:Nat):Int))] [.same]:=hm
 refine Calls.mono (Go.Proofs.YtflilmgifibgoaaGreatDoor.c_Size v1 _ hS.view (q12 hf1)) ?_
 rintro e w1 ⟨rfl,hg⟩
 exact⟨_,[.same],[.int .i64 _],σ,[],[],rfl,hm,.cons (ms:=[]) (.f (.int _ _)) .nil,.skip (a0:=[]) .nil,hS.grow hg⟩
end Go.En
end
noncomputable section
set_option maxRecDepth 100000
open Go Go.RowKit Go.Fl Go.Fl.Lk Go.Fx
namespace Go.En
def q1f(X:Vn):Con Sg:=conV [.sl C.span] [.sl C.span] [.sl C.span] [.same] fun a K=>X a.1 (fun q0=>K (q0,()) ((),()))
theorem q7g:MT 36 (q1f Vo):=⟨entB (by kernel_rfl),z52⟩
def q4x(X:Gz):Con Sg:=conV [.sl C.span] [.sl C.span] [.int .i64] [.same] fun a K=>X a.1 (fun q0=>K (q0,()) ((),()))
theorem z0q:MT 37 (q4x Vu):=⟨entB (by kernel_rfl),z9x⟩
def q6q(X:H4):Con Sg:=conS [] [.bool] fun _ K=>X (fun q0=>K (q0,()))
theorem j2a{Zs:Vn}{Jb:Gz}(h:AL [(36,q1f Zs),(37,q4x Jb)]):MT 7 (q6q (q56 Zs Jb)):=mS h []
theorem j2b:MT 7 (q6q q1t):=j2a ⟨q7g,z0q,trivial⟩
def j6o(X:z37):Con Sg:=conS [.int .i64,.int .i64] [.int .i64] fun a K=>X a.1 a.2.1 (fun q0=>K (q0,()))
theorem w3g:MT 9 (j6o z7w):=mS (l:=[]) trivial []
def w3h(X:j1y):Con Sg:=conV [.sl C.u8,.v] [.sl C.u8,.int .i64] [.ptr 78 [.sl C.u8,.int .i64]] [.same,.same] fun a K=>X a.1 a.2.1 (fun q0 q1=>K ((q0,q1,()),()) ((),(),()))
theorem w99:MT 8 (w3h j1z):=mP (rk:=[.ptr 78 [.c,.v]]) (l:=[]) trivial [(6,⟨[1,4],[],[],[(.slot 0,.sl C.u8)]⟩)]
def q4a(X:Vb):Con Sg:=conS [] [.vec 102 C.decl] fun _ K=>X (fun q0=>K (q0,()))
theorem q8h:MT 38 (q4a Uc):=mS (l:=[]) trivial []
def j8s(X:z6t):Con Sg:=conV [.ptr 78 [.c,.v]] [.ptr 78 [.sl C.u8,.int .i64]] [.bool] [.ptr 78 [.same,.int .i64]] fun a K=>X a.1.1 a.1.2.1 (fun q0 q1=>K (q0,()) (((),q1,()),()))
theorem w6r:MT 32 (j8s j10):=mP (rk:=[.v]) (l:=[]) trivial []
def V3(X:Zp):Con Sg:=conV [.ptr 78 [.c,.v],.v] [.ptr 78 [.sl C.u8,.int .i64],.int .i64] [.int .i64] [.ptr 78 [.same,.int .i64],.same] fun a K=>X a.1.1 a.1.2.1 a.2.1 (fun q0 q1=>K (q0,()) (((),q1,()),(),()))
theorem w6s{z62:z6t}(h:AL [(32,j8s z62)]):MT 33 (V3 (j11 z62)):=mP (rk:=[.v]) h []
theorem Hf:MT 33 (V3 Wa):=w6s ⟨w6r,trivial⟩
def q92(X:H5):Con Sg:=conV [.ptr 78 [.c,.v]] [.ptr 78 [.sl C.u8,.int .i64]] [.str] [.ptr 78 [.same,.int .i64]] fun a K=>X a.1.1 a.1.2.1 (fun q0 q1=>K (q0,()) (((),q1,()),()))
theorem w6t{Qa:Zp}(h:AL [(33,V3 Qa)]):MT 39 (q92 (j12 Qa)):=mP (rk:=[.v]) h []
theorem z6x:MT 39 (q92 q57):=w6t ⟨Hf,trivial⟩
def z2x(X:q1u):Con Sg:=conV [.ptr 78 [.c,.v],.v] [.ptr 78 [.sl C.u8,.int .i64],.int .i64] [.int .i64] [.ptr 78 [.same,.int .i64],.same] fun a K=>X a.1.1 a.1.2.1 a.2.1 (fun q0 q1=>K (q0,()) (((),q1,()),(),()))
theorem w6u{Qa:Zp}(h:AL [(33,V3 Qa)]):MT 34 (z2x (j13 Qa)):=mP (rk:=[.v]) h []
theorem j2c:MT 34 (z2x q9l):=w6u ⟨Hf,trivial⟩
def j2d(X:q9m):Con Sg:=conS [.int .i64,.vec 9 C.str] [.sl C.str] fun a K=>X a.1 a.2.1 (fun q0=>K (q0,()))
theorem j8t:MT 41 (j2d z6u):=mS (l:=[]) trivial []
def z6y(X:q58):Con Sg:=conV [.ptr 78 [.c,.v]] [.ptr 78 [.sl C.u8,.int .i64]] [.vec 9 C.str] [.ptr 78 [.same,.int .i64]] fun a K=>X a.1.1 a.1.2.1 (fun q0 q1=>K (q0,()) (((),q1,()),()))
theorem w6v{Qa:Zp}(h:AL [(33,V3 Qa)]):MT 46 (z6y (j14 Qa)):=mP (rk:=[.own 9 C.str]) h [(9,⟨bl 397,[],[(0,(78,2))],[(.slot 4,.own 9 C.str),sI 5,(.cell 0 1,.int .i64)]⟩),(17,⟨bl 8121,[0],[],[sI 6,(.obj 1,.own 9 C.str)]⟩)]
theorem j8u:MT 46 (z6y z2f):=w6v ⟨Hf,trivial⟩
end Go.En
end
noncomputable section
set_option maxRecDepth 100000
open Go Go.RowKit Go.Fl Go.Fl.Lk Go.Fx
namespace Go.En
def j6p(X:z7x):Con Sg:=conV [.ptr 78 [.c,.v]] [.ptr 78 [.sl C.u8,.int .i64]] [.str] [.ptr 78 [.same,.int .i64]] fun a K=>X a.1.1 a.1.2.1 (fun q0 q1=>K (q0,()) (((),q1,()),()))
theorem v0a{Qa:Zp}(h:AL [(33,V3 Qa)]):MT 105 (j6p (j6m Qa)):=mP (rk:=[.v]) h []
theorem v0b:MT 105 (j6p j15):=v0a ⟨Hf,trivial⟩
def z2y(X:q2n):Con Sg:=conV [.ptr 78 [.c,.v],.v] [.ptr 78 [.sl C.u8,.int .i64],.int .i64] [.el C.val] [.ptr 78 [.same,.int .i64],.same] fun a K=>X a.1.1 a.1.2.1 a.2.1 (fun q0 q1=>K (q0,()) (((),q1,()),(),()))
theorem w3i{Qa:Zp}{Jj:H5}(h:AL [(33,V3 Qa),(39,q92 Jj)]):MT 101 (z2y (z2g Qa Jj)):=mP (rk:=[.el C.val]) h []
theorem j4i:MT 101 (z2y H6):=w3i ⟨Hf,z6x,trivial⟩
def j2e(X:z6v):Con Sg:=conV [.ptr 78 [.c,.v]] [.ptr 78 [.sl C.u8,.int .i64]] [.el C.ex] [.ptr 78 [.same,.int .i64]] fun a K=>X a.1.1 a.1.2.1 (fun q0 q1=>K (q0,()) (((),q1,()),()))
theorem w6w{Zb:Vb}{Qa:Zp}{j3a:z7x}{Ju:q2n}(h:AL [(38,q4a Zb),(33,V3 Qa),(105,j6p j3a),(101,z2y Ju)]):MT 159 (j2e (j16 Zb Qa j3a Ju)):=mP (rk:=[.el C.ex]) h [(68,⟨bl 4286840701,[3,2],[(5,(56,5)),(0,(78,2)),(1,(56,5))],[(.cell 5 0,.int .i64),(.cell 5 1,.str),(.cell 5 2,.str),(.cell 5 3,.own 149 C.val),(.cell 5 4,.own 56 C.ex),(.cell 0 1,.int .i64),(.cell 1 0,.int .i64),(.cell 1 1,.str),(.cell 1 2,.str),(.cell 1 3,.own 149 C.val),(.cell 1 4,.own 56 C.ex)]⟩),(60,⟨bl 17163319925,[],[(0,(78,2)),(5,(56,5)),(1,(56,5))],[(.cell 0 1,.int .i64),(.cell 5 0,.int .i64),(.cell 5 1,.str),(.cell 5 2,.str),(.cell 5 3,.own 149 C.val),(.cell 5 4,.own 56 C.ex),(.cell 1 0,.int .i64),(.cell 1 1,.str),(.cell 1 2,.str),(.cell 1 3,.own 149 C.val),(.cell 1 4,.own 56 C.ex)]⟩),(37,⟨bl 1055806024022645,[1],[(5,(56,5)),(0,(78,2))],[sI 7,(.cell 5 3,.own 149 C.val),(.cell 0 1,.int .i64)]⟩)]
theorem w6x:MT 159 (j2e q9n):=w6w ⟨q8h,Hf,v0b,j4i,trivial⟩
def j2f(X:q1v):Con Sg:=conV [.ptr 78 [.c,.v],.sl C.str,.v] [.ptr 78 [.sl C.u8,.int .i64],.sl C.str,.int .i64] [.el C.ex] [.ptr 78 [.same,.int .i64],.same,.same] fun a K=>X a.1.1 a.1.2.1 a.2.1 a.2.2.1 (fun q0 q1=>K (q0,()) (((),q1,()),(),(),()))
theorem j8v:MT 100 (j2f z2h):=by
 show MT _ (conV ([.ptr 78 [.c,.v],.sl C.str,.v]:LP) ([.ptr 78 [.sl C.u8,.int .i64],.sl C.str,.int .i64]:LV) ([.el C.ex]:LV) ([.ptr 78 [.same,.int .i64],.same,.same]:LV) fun a K=>z2h a.1.1 a.1.2.1 a.2.1 a.2.2.1 (fun q0 q1=>K (q0,()) (((),q1,()),(),(),())))
 exact mQ (l:=[(33,V3 Wa),(159,j2e q9n)]) (u:=4) (rk:=[.el C.ex]) ⟨Hf,w6x,trivial⟩ (by kernel_rfl) [(8,⟨bl 24647,[0,1],[],[sI 7]⟩),(28,⟨bl 3298996281543,[0,1],[],[sB 49]⟩),(37,⟨bl 1148984153929181127,[1],[(0,(78,2)),(4,(56,5))],[sI 11,(.cell 0 1,.int .i64),(.cell 4 0,.int .i64),(.cell 4 1,.str),(.cell 4 2,.str),(.cell 4 3,.own 149 C.val),(.cell 4 4,.own 56 C.ex)]⟩),(46,⟨bl 1152917567256169316295,[0,12,11,4],[(13,(56,5))],[(.cell 13 0,.int .i64),(.cell 13 1,.str),(.cell 13 2,.str),(.cell 13 3,.sl C.val),(.cell 13 4,.sl C.ex)]⟩)] (fun X a K=>z6w Wa q9n (fun list at_ segments levels K=>X ((list,at_,()),segments,levels,()) fun r o=>K r.1 o.1.2.1) a.1.1 a.1.2.1 a.2.1 a.2.2.1 (fun q0 q1=>K (q0,()) (((),q1,()),(),(),()))) (fun _ _ _=>by kernel_rfl) fun a K h X hX=>h (fun list at_ segments levels K=>X ((list,at_,()),segments,levels,()) fun r o=>K r.1 o.1.2.1) fun list at_ segments levels K hs=>hX ((list,at_,()),segments,levels,()) (fun r o=>K r.1 o.1.2.1) hs
def q8i(X:q0w):Con Sg:=conV [.ptr 78 [.c,.v],.ptr 35 [.v,.v,.v,.sl C.decl,.own 97 C.seg,.own 91 C.flag,.own 61 C.layer,.own 58 C.exper]] [.ptr 78 [.sl C.u8,.int .i64],.ptr 35 [.str,.str,.int .i64,.sl C.decl,.vec 97 C.seg,.vec 91 C.flag,.vec 61 C.layer,.vec 58 C.exper]] [] [.ptr 78 [.same,.int .i64],.ptr 35 [.str,.str,.int .i64,.sl C.decl,.vec 97 C.seg,.vec 91 C.flag,.vec 61 C.layer,.vec 58 C.exper]] fun a K=>X a.1.1 a.1.2.1 a.2.1.1 a.2.1.2.1 a.2.1.2.2.1 a.2.1.2.2.2.1 a.2.1.2.2.2.2.1 a.2.1.2.2.2.2.2.1 a.2.1.2.2.2.2.2.2.1 a.2.1.2.2.2.2.2.2.2.1 (fun q0 q1 q2 q3 q4 q5 q6 q7 q8=>K () (((),q0,()),(q1,q2,q3,q4,q5,q6,q7,q8,()),()))
theorem j4j{Qa:Zp}{Bb:q9m}{q0p:q58}{q0q:q1v}(h:AL [(33,V3 Qa),(41,j2d Bb),(46,z6y q0p),(100,j2f q0q)]):MT 40 (q8i (q72 Qa Bb q0p q0q)):=mP (rk:=[]) h [(5,⟨bl 1427,[3,4,5],[(0,(78,2)),(1,(35,8))],[sI 5,(.cell 0 1,.int .i64),(.cell 1 4,.own 97 C.seg)]⟩),(14,⟨bl 67010035,[11,10,9,1],[(12,(97,9)),(0,(78,2))],[(.cell 12 1,.str),(.cell 0 1,.int .i64)]⟩),(18,⟨bl 67010035,[11,10,9,1],[(12,(97,9)),(0,(78,2))],[(.cell 12 4,.int .i64),(.cell 12 5,.str),(.cell 12 6,.str),(.cell 12 7,.sl C.val),(.cell 12 8,.sl C.ex),(.cell 0 1,.int .i64)]⟩)]
theorem j4k:MT 40 (q8i q30):=j4j ⟨Hf,j8t,j8u,j8v,trivial⟩
def q8j(X:H7):Con Sg:=conS [.el C.env] [.vec 9 C.str] fun a K=>X a.1 (fun q0=>K (q0,()))
theorem z8c:MT 102 (q8j H8):=mS (l:=[]) trivial [(7,⟨[0,1,2],[0],[],[(.slot 3,.own 9 C.str),sI 4]⟩)]
def z2z(X:q2o):Con Sg:=conV [.ptr 78 [.c,.v],.v] [.ptr 78 [.sl C.u8,.int .i64],.int .i64] [.vec 173 C.range] [.ptr 78 [.same,.int .i64],.same] fun a K=>X a.1.1 a.1.2.1 a.2.1 (fun q0 q1=>K (q0,()) (((),q1,()),(),()))
theorem w3j{Qa:Zp}{Jx:q1u}(h:AL [(33,V3 Qa),(34,z2x Jx)]):MT 104 (z2z (z7y Qa Jx)):=mP (rk:=[.own 173 C.range]) h [(26,⟨[0,1,4],[],[(0,(78,2))],[(.slot 5,.own 173 C.range),sI 6,sI 7,(.cell 0 1,.int .i64)]⟩),(32,⟨bl 8444249301319923,[0,1],[],[sI 11]⟩),(9,⟨[0,1,4],[],[(0,(78,2))],[(.slot 5,.own 173 C.range),sI 6,sI 7,sI 8,(.cell 0 1,.int .i64)]⟩),(20,⟨bl 2144334835,[0,1],[],[sI 10]⟩)]
theorem j4l:MT 104 (z2z q73):=w3j ⟨Hf,j2c,trivial⟩
def z8d(X:q74):Con Sg:=conV [.ptr 78 [.c,.v],.v] [.ptr 78 [.sl C.u8,.int .i64],.int .i64] [.el C.serve] [.ptr 78 [.same,.int .i64],.same] fun a K=>X a.1.1 a.1.2.1 a.2.1 (fun q0 q1=>K (q0,()) (((),q1,()),(),()))
theorem w3k{Qa:Zp}{Jj:H5}{Bc:q2o}{Zb:Vb}(h:AL [(33,V3 Qa),(39,q92 Jj),(104,z2z Bc),(38,q4a Zb)]):MT 47 (z8d (z7z Qa Jj Bc Zb)):=mP (rk:=[.el C.serve]) h []
theorem w3l:MT 47 (z8d z2i):=w3k ⟨Hf,z6x,j4l,q8h,trivial⟩
def j4m(X:z2j):Con Sg:=conV [] [] [.ptr 219 [.vec 273 C.node,.map C.node C.i64,.bool]] [] fun _ K=>X (fun q0 q1 q2=>K ((q0,q1,q2,()),()) ())
theorem w3m:MT 160 (j4m j4g):=mP (rk:=[.ptr 219 [.own 273 C.node,.map C.node C.i64,.v]]) (l:=[]) trivial []
def q3f(X:Ud):Con Sg:=conS [.int .i64] [.bool] fun a K=>X a.1 (fun q0=>K (q0,()))
theorem q6r:MT 204 (q3f Jp):=mS (l:=[]) trivial []
def j4n(X:z2k):Con Sg:=conS [.sl C.str,.sl C.str] [.bool] fun a K=>X a.1 a.2.1 (fun q0=>K (q0,()))
theorem w3n:MT 196 (j4n z2l):=mS (l:=[]) trivial [(9,⟨bl 1987,[],[],[sI 5]⟩)]
def z4j(X:q5b):Con Sg:=conS [.el C.val,.el C.val] [.bool] fun a K=>X a.1 a.2.1 (fun q0=>K (q0,()))
theorem j9q{z3h:z2k}(h:AL [(196,j4n z3h)]):MT 182 (z4j (z38 z3h)):=mS h []
theorem j9r:MT 182 (z4j q9o):=j9q ⟨w3n,trivial⟩
end Go.En
end
noncomputable section
set_option maxRecDepth 100000
open Go Go.RowKit Go.Fl Go.Fl.Lk Go.Fx
namespace Go.En
def q3g(X:H9):Con Sg:=conS [.sl C.val,.sl C.val] [.bool] fun a K=>X a.1 a.2.1 (fun q0=>K (q0,()))
theorem z8e{q97:q5b}(h:AL [(182,z4j q97)]):MT 127 (q3g (q2p q97)):=mS h [(9,⟨bl 1987,[],[],[sI 5]⟩)]
theorem z8f:MT 127 (q3g Wy):=z8e ⟨j9r,trivial⟩
def z20(X:Vf):Con Sg:=conV [.el C.ex,.el C.ex] [.el C.ex,.el C.ex] [.bool] [.same,.same] fun a K=>X a.1 a.2.1 (fun q0=>K (q0,()) ((),(),()))
theorem j2g:MT 125 (z20 Ra):=by
 show MT _ (conV ([.el C.ex,.el C.ex]:LP) ([.el C.ex,.el C.ex]:LV) ([.bool]:LV) ([.same,.same]:LV) fun a K=>Ra a.1 a.2.1 (fun q0=>K (q0,()) ((),(),())))
 exact mQ (l:=[(127,q3g Wy)]) (u:=4) (rk:=[.v]) ⟨z8f,trivial⟩ (by kernel_rfl) [(182000009,⟨bl 1987,[],[],[sI 5]⟩)] (fun X a K=>q59 Wy (fun a b K=>X (a,b,()) fun r _=>K r.1) a.1 a.2.1 (fun q0=>K (q0,()) ((),(),()))) (fun _ _ _=>by kernel_rfl) fun a K h X hX=>h (fun a b K=>X (a,b,()) fun r _=>K r.1) fun a b K hs=>hX (a,b,()) (fun r _=>K r.1) hs
def q6s(X:q2q):Con Sg:=conS [.sl C.ex,.el C.ex] [.int .i64] fun a K=>X a.1 a.2.1 (fun q0=>K (q0,()))
theorem j6q{q17:Vf}(h:AL [(125,z20 q17)]):MT 213 (q6s (z07 q17)):=mS h [(5,⟨[0,1,3],[0],[],[sI 5]⟩)]
theorem z8g:MT 213 (q6s Wq):=j6q ⟨j2g,trivial⟩
def z0r(X:Wr):Con Sg:=conV [.sl C.ex,.el C.ex] [.sl C.ex,.el C.ex] [.sl C.ex] [.same,.same] fun a K=>X a.1 a.2.1 (fun q0=>K (q0,()) ((),(),()))
theorem z9y:MT 210 (z0r q0h):=by
 show MT _ (conV ([.sl C.ex,.el C.ex]:LP) ([.sl C.ex,.el C.ex]:LV) ([.sl C.ex]:LV) ([.same,.same]:LV) fun a K=>q0h a.1 a.2.1 (fun q0=>K (q0,()) ((),(),())))
 exact mQ (l:=[(213,q6s Wq),(204,q3f Jp)]) (u:=4) (rk:=[.sl C.ex]) ⟨z8g,q6r,trivial⟩ (by kernel_rfl) [(6,⟨[1,3,4],[0],[],[(.slot 0,.sl C.ex)]⟩),(9,⟨[1,3,4],[0],[],[(.slot 0,.sl C.ex),sI 5]⟩)] (fun X a K=>q4s Wq Jp (fun l e K=>X (l,e,()) fun r _=>K r.1) a.1 a.2.1 (fun q0=>K (q0,()) ((),(),()))) (fun _ _ _=>by kernel_rfl) fun a K h X hX=>h (fun l e K=>X (l,e,()) fun r _=>K r.1) fun l e K hs=>hX (l,e,()) (fun r _=>K r.1) hs
def q3h(X:Ue):Con Sg:=conS [.sl C.rule] [.sl C.ex] fun a K=>X a.1 (fun q0=>K (q0,()))
theorem z8h{q0s:Wr}(h:AL [(210,z0r q0s)]):MT 161 (q3h (q2r q0s)):=mS h [(7,⟨[0,2],[],[],[(.slot 3,.sl C.ex),sI 4]⟩)]
theorem z8i:MT 161 (q3h Rb):=z8h ⟨z9y,trivial⟩
def R4(X:Z8):Con Sg:=conV [.ptr 219 [.own 273 C.node,.map C.node C.i64,.v],.v] [.ptr 219 [.vec 273 C.node,.map C.node C.i64,.bool],.int .i64] [.bool] [.ptr 219 [.vec 273 C.node,.map C.node C.i64,.bool],.same] fun a K=>X a.1.1 a.1.2.1 a.1.2.2.1 a.2.1 (fun q0 q1 q2 q3=>K (q0,()) ((q1,q2,q3,()),(),()))
theorem q13:MT 224 (R4 Vg):=mP (rk:=[.v]) (l:=[]) trivial []
def q7h(X:G7):Con Sg:=conV [.ptr 219 [.own 273 C.node,.map C.node C.i64,.v],.v] [.ptr 219 [.vec 273 C.node,.map C.node C.i64,.bool],.int .i64] [.map C.i64 C.bool] [.ptr 219 [.vec 273 C.node,.map C.node C.i64,.bool],.same] fun a K=>X a.1.1 a.1.2.1 a.1.2.2.1 a.2.1 (fun q0 q1 q2 q3=>K (q0,()) ((q1,q2,q3,()),(),()))
theorem z54:MT 232 (q7h G8):=mP (rk:=[.map C.i64 C.bool]) (l:=[]) trivial [(7,⟨bl 1843,[0,1,2],[],[(.slot 6,.own 3 C.i64),(.obj 3,.map C.i64 C.bool)]⟩)]
def B2(X:Wz):Con Sg:=conV [.ptr 219 [.own 273 C.node,.map C.node C.i64,.v],.v] [.ptr 219 [.vec 273 C.node,.map C.node C.i64,.bool],.int .i64] [.vec 3 C.i64] [.ptr 219 [.vec 273 C.node,.map C.node C.i64,.bool],.same] fun a K=>X a.1.1 a.1.2.1 a.1.2.2.1 a.2.1 (fun q0 q1 q2 q3=>K (q0,()) ((q1,q2,q3,()),(),()))
theorem z4k{Qs:Z8}{Hh:G7}(h:AL [(224,R4 Qs),(232,q7h Hh)]):MT 226 (B2 (q5c Qs Hh)):=mP (rk:=[.own 3 C.i64]) h [(13,⟨bl 32563,[5,0,4,2],[],[(.slot 6,.own 3 C.i64),sI 7]⟩)]
theorem z4l:MT 226 (B2 U7):=z4k ⟨q13,z54,trivial⟩
def Jt(X:Q8):Con Sg:=conV [.ptr 219 [.own 273 C.node,.map C.node C.i64,.v],.v] [.ptr 219 [.vec 273 C.node,.map C.node C.i64,.bool],.int .i64] [.bool] [.ptr 219 [.vec 273 C.node,.map C.node C.i64,.bool],.same] fun a K=>X a.1.1 a.1.2.1 a.1.2.2.1 a.2.1 (fun q0 q1 q2 q3=>K (q0,()) ((q1,q2,q3,()),(),()))
theorem z0i{Qs:Z8}{Gk:Wz}(h:AL [(224,R4 Qs),(226,B2 Gk)]):MT 215 (Jt (q1n Qs Gk)):=mP (rk:=[.v]) h [(11,⟨bl 16291,[5,0,4,2],[],[sI 6]⟩)]
theorem Gx:MT 215 (Jt Z4):=z0i ⟨q13,z4l,trivial⟩
def q0n(X:Ws):Con Sg:=conV [.ptr 219 [.own 273 C.node,.map C.node C.i64,.v],.v] [.ptr 219 [.vec 273 C.node,.map C.node C.i64,.bool],.int .i64] [.int .i64] [.ptr 219 [.vec 273 C.node,.map C.node C.i64,.bool],.same] fun a K=>X a.1.1 a.1.2.1 a.1.2.2.1 a.2.1 (fun q0 q1 q2 q3=>K (q0,()) ((q1,q2,q3,()),(),()))
theorem q4y:MT 225 (q0n Z9):=mP (rk:=[.v]) (l:=[]) trivial []
def q1g(X:G9):Con Sg:=conV [.ptr 219 [.own 273 C.node,.map C.node C.i64,.v],.v,.v] [.ptr 219 [.vec 273 C.node,.map C.node C.i64,.bool],.int .i64,.int .i64] [.int .i64,.int .i64] [.ptr 219 [.vec 273 C.node,.map C.node C.i64,.bool],.same,.same] fun a K=>X a.1.1 a.1.2.1 a.1.2.2.1 a.2.1 a.2.2.1 (fun q0 q1 q2 q3 q4=>K (q0,q1,()) ((q2,q3,q4,()),(),(),()))
theorem z55{Za:Ws}(h:AL [(225,q0n Za)]):MT 233 (q1g (q7f Za)):=mP (rk:=[.v,.v]) h []
theorem z56:MT 233 (q1g Jq):=z55 ⟨q4y,trivial⟩
def R5(X:Uf):Con Sg:=conV [.ptr 219 [.own 273 C.node,.map C.node C.i64,.v],.v,.v,.v] [.ptr 219 [.vec 273 C.node,.map C.node C.i64,.bool],.int .i64,.int .i64,.int .i64] [.int .i64] [.ptr 219 [.vec 273 C.node,.map C.node C.i64,.bool],.same,.same,.same] fun a K=>X a.1.1 a.1.2.1 a.1.2.2.1 a.2.1 a.2.2.1 a.2.2.2.1 (fun q0 q1 q2 q3=>K (q0,()) ((q1,q2,q3,()),(),(),(),()))
theorem z8j{Qs:Z8}{Za:Ws}(h:AL [(224,R4 Qs),(225,q0n Za)]):MT 214 (R5 (q75 Qs Za)):=mP (rk:=[.v]) h []
theorem q8k:MT 214 (R5 Zq):=z8j ⟨q13,q4y,trivial⟩
end Go.En
end
noncomputable section
set_option maxRecDepth 100000
open Go Go.RowKit Go.Fl Go.Fl.Lk Go.Fx
namespace Go.En
def q5s(X:Z6):Con Sg:=conV [.ptr 219 [.own 273 C.node,.map C.node C.i64,.v],.v,.v,.v,.map C.a3 C.i64] [.ptr 219 [.vec 273 C.node,.map C.node C.i64,.bool],.int .i64,.int .i64,.int .i64,.map C.a3 C.i64] [.int .i64] [.ptr 219 [.vec 273 C.node,.map C.node C.i64,.bool],.same,.same,.same,.map C.a3 C.i64] fun a K=>X a.1.1 a.1.2.1 a.1.2.2.1 a.2.1 a.2.2.1 a.2.2.2.1 a.2.2.2.2.1 (fun q0 q1 q2 q3 q4=>K (q0,()) ((q1,q2,q3,()),(),(),(),q4,()))
theorem z4m:MT 227 (q5s U8):=by
 show MT _ (conV ([.ptr 219 [.own 273 C.node,.map C.node C.i64,.v],.v,.v,.v,.map C.a3 C.i64]:LP) ([.ptr 219 [.vec 273 C.node,.map C.node C.i64,.bool],.int .i64,.int .i64,.int .i64,.map C.a3 C.i64]:LV) ([.int .i64]:LV) ([.ptr 219 [.vec 273 C.node,.map C.node C.i64,.bool],.same,.same,.same,.map C.a3 C.i64]:LV) fun a K=>U8 a.1.1 a.1.2.1 a.1.2.2.1 a.2.1 a.2.2.1 a.2.2.2.1 a.2.2.2.2.1 (fun q0 q1 q2 q3 q4=>K (q0,()) ((q1,q2,q3,()),(),(),(),q4,())))
 exact mQ (l:=[(225,q0n Z9),(233,q1g Jq),(214,R5 Zq)]) (u:=4) (rk:=[.v]) ⟨q4y,z56,q8k,trivial⟩ (by kernel_rfl) [(36,⟨bl 4951760157141239551596952607,[3,4],[(0,(219,3))],[sI 23,(.cell 0 0,.own 273 C.node),(.cell 0 2,.bool),(.obj 2,.map C.node C.i64)]⟩)] (fun X a K=>W0 Z9 Jq Zq (fun ns ids full f g h known K=>X ((ns,ids,full,()),f,g,h,known,()) fun r o=>K r.1 o.1.1 o.1.2.1 o.1.2.2.1 o.2.2.2.2.1) a.1.1 a.1.2.1 a.1.2.2.1 a.2.1 a.2.2.1 a.2.2.2.1 a.2.2.2.2.1 (fun q0 q1 q2 q3 q4=>K (q0,()) ((q1,q2,q3,()),(),(),(),q4,()))) (fun _ _ _=>by kernel_rfl) fun a K h X hX=>h (fun ns ids full f g h known K=>X ((ns,ids,full,()),f,g,h,known,()) fun r o=>K r.1 o.1.1 o.1.2.1 o.1.2.2.1 o.2.2.2.2.1) fun ns ids full f g h known K hs=>hX ((ns,ids,full,()),f,g,h,known,()) (fun r o=>K r.1 o.1.1 o.1.2.1 o.1.2.2.1 o.2.2.2.2.1) hs
def W5(X:Zh):Con Sg:=conV [.ptr 219 [.own 273 C.node,.map C.node C.i64,.v],.v,.v,.v] [.ptr 219 [.vec 273 C.node,.map C.node C.i64,.bool],.int .i64,.int .i64,.int .i64] [.int .i64] [.ptr 219 [.vec 273 C.node,.map C.node C.i64,.bool],.same,.same,.same] fun a K=>X a.1.1 a.1.2.1 a.1.2.2.1 a.2.1 a.2.2.1 a.2.2.2.1 (fun q0 q1 q2 q3=>K (q0,()) ((q1,q2,q3,()),(),(),(),()))
theorem z4n{Qm:Q8}{Qs:Z8}{Gl:Z6}(h:AL [(215,Jt Qm),(224,R4 Qs),(227,q5s Gl)]):MT 216 (W5 (q5d Qm Qs Gl)):=mP (rk:=[.v]) h []
theorem B3:MT 216 (W5 J0):=z4n ⟨Gx,q13,z4m,trivial⟩
def q4z(X:q0i):Con Sg:=conV [.ptr 219 [.own 273 C.node,.map C.node C.i64,.v],.v] [.ptr 219 [.vec 273 C.node,.map C.node C.i64,.bool],.int .i64] [.int .i64] [.ptr 219 [.vec 273 C.node,.map C.node C.i64,.bool],.same] fun a K=>X a.1.1 a.1.2.1 a.1.2.2.1 a.2.1 (fun q0 q1 q2 q3=>K (q0,()) ((q1,q2,q3,()),(),()))
theorem z9z{Qv:Zh}(h:AL [(216,W5 Qv)]):MT 211 (q4z (z0o Qv)):=mP (rk:=[.v]) h []
theorem z90:MT 211 (q4z Vv):=z9z ⟨B3,trivial⟩
def q40(X:q0j):Con Sg:=conV [.ptr 219 [.own 273 C.node,.map C.node C.i64,.v],.v,.v] [.ptr 219 [.vec 273 C.node,.map C.node C.i64,.bool],.int .i64,.int .i64] [.int .i64] [.ptr 219 [.vec 273 C.node,.map C.node C.i64,.bool],.same,.same] fun a K=>X a.1.1 a.1.2.1 a.1.2.2.1 a.2.1 a.2.2.1 (fun q0 q1 q2 q3=>K (q0,()) ((q1,q2,q3,()),(),(),()))
theorem z91{Qm:Q8}{Qv:Zh}(h:AL [(215,Jt Qm),(216,W5 Qv)]):MT 212 (q40 (z0p Qm Qv)):=mP (rk:=[.v]) h []
theorem z92:MT 212 (q40 Vw):=z91 ⟨Gx,B3,trivial⟩
def q14(X:U9):Con Sg:=conV [.ptr 219 [.own 273 C.node,.map C.node C.i64,.v],.v,.v] [.ptr 219 [.vec 273 C.node,.map C.node C.i64,.bool],.int .i64,.int .i64] [.int .i64] [.ptr 219 [.vec 273 C.node,.map C.node C.i64,.bool],.same,.same] fun a K=>X a.1.1 a.1.2.1 a.1.2.2.1 a.2.1 a.2.2.1 (fun q0 q1 q2 q3=>K (q0,()) ((q1,q2,q3,()),(),(),()))
theorem j2h{Qm:Q8}{Qv:Zh}(h:AL [(215,Jt Qm),(216,W5 Qv)]):MT 163 (q14 (z2m Qm Qv)):=mP (rk:=[.v]) h []
theorem z21:MT 163 (q14 Vh):=j2h ⟨Gx,B3,trivial⟩
def q8l(X:J4):Con Sg:=conV [.ptr 219 [.own 273 C.node,.map C.node C.i64,.v],.sl C.ex,.el C.ex] [.ptr 219 [.vec 273 C.node,.map C.node C.i64,.bool],.sl C.ex,.el C.ex] [.int .i64] [.ptr 219 [.vec 273 C.node,.map C.node C.i64,.bool],.same,.same] fun a K=>X a.1.1 a.1.2.1 a.1.2.2.1 a.2.1 a.2.2.1 (fun q0 q1 q2 q3=>K (q0,()) ((q1,q2,q3,()),(),(),()))
theorem z8k:MT 162 (q8l Rd):=by
 show MT _ (conV ([.ptr 219 [.own 273 C.node,.map C.node C.i64,.v],.sl C.ex,.el C.ex]:LP) ([.ptr 219 [.vec 273 C.node,.map C.node C.i64,.bool],.sl C.ex,.el C.ex]:LV) ([.int .i64]:LV) ([.ptr 219 [.vec 273 C.node,.map C.node C.i64,.bool],.same,.same]:LV) fun a K=>Rd a.1.1 a.1.2.1 a.1.2.2.1 a.2.1 a.2.2.1 (fun q0 q1 q2 q3=>K (q0,()) ((q1,q2,q3,()),(),(),())))
 exact mQ (l:=[(211,q4z Vv),(212,q40 Vw),(163,q14 Vh),(213,q6s Wq),(214,R5 Zq)]) (u:=4) (rk:=[.v]) ⟨z90,z92,z21,z8g,q8k,trivial⟩ (by kernel_rfl) [(16,⟨bl 129127,[3,0,1,2],[],[sB 26]⟩),(21,⟨bl 68249843815,[3],[(0,(219,3))],[sI 7,sI 8,(.cell 0 0,.own 273 C.node),(.cell 0 2,.bool),(.obj 2,.map C.node C.i64)]⟩)] (fun X a K=>q2s Vv Vw Vh Wq Zq (fun ns ids full atoms e K=>X ((ns,ids,full,()),atoms,e,()) fun r o=>K r.1 o.1.1 o.1.2.1 o.1.2.2.1) a.1.1 a.1.2.1 a.1.2.2.1 a.2.1 a.2.2.1 (fun q0 q1 q2 q3=>K (q0,()) ((q1,q2,q3,()),(),(),()))) (fun _ _ _=>by kernel_rfl) fun a K h X hX=>h (fun ns ids full atoms e K=>X ((ns,ids,full,()),atoms,e,()) fun r o=>K r.1 o.1.1 o.1.2.1 o.1.2.2.1) fun ns ids full atoms e K hs=>hX ((ns,ids,full,()),atoms,e,()) (fun r o=>K r.1 o.1.1 o.1.2.1 o.1.2.2.1) hs
def Ge(X:Z7):Con Sg:=conS [.sl C.rule] [.vec 3 C.i64,.int .i64,.bool] fun a K=>X a.1 (fun q0 q1 q2=>K (q0,q1,q2,()))
theorem z4o{z3i:z2j}{Bd:Ue}{Be:J4}{Gm:U9}(h:AL [(160,j4m z3i),(161,q3h Bd),(162,q8l Be),(163,q14 Gm)]):MT 103 (Ge (Bu z3i Bd Be Gm)):=mS h [(13,⟨bl 28769,[],[(0,(219,3))],[sI 7,(.slot 8,.own 3 C.i64),sI 9,(.cell 0 0,.own 273 C.node),(.cell 0 2,.bool),(.obj 2,.map C.node C.i64)]⟩)]
theorem q5t:MT 103 (Ge W1):=z4o ⟨w3m,z8i,z8k,z21,trivial⟩
def z8l(X:q76):Con Sg:=conV [.ptr 78 [.c,.v],.v] [.ptr 78 [.sl C.u8,.int .i64],.str] [.el C.layer] [.ptr 78 [.same,.int .i64],.same] fun a K=>X a.1.1 a.1.2.1 a.2.1 (fun q0 q1=>K (q0,()) (((),q1,()),(),()))
theorem w3o{Jj:H5}{Qa:Zp}{Jx:q1u}(h:AL [(39,q92 Jj),(33,V3 Qa),(34,z2x Jx)]):MT 43 (z8l (z70 Jj Qa Jx)):=mP (rk:=[.el C.layer]) h [(8,⟨bl 130099,[1],[(2,(61,6)),(0,(78,2))],[(.cell 2 1,.str),(.cell 0 1,.int .i64)]⟩),(12,⟨bl 130099,[1],[(2,(61,6)),(0,(78,2))],[(.cell 2 3,.int .i64),(.cell 0 1,.int .i64)]⟩),(17,⟨bl 130099,[1],[(2,(61,6)),(0,(78,2))],[sI 6,sI 7,(.cell 2 5,.own 125 C.cool),(.cell 0 1,.int .i64)]⟩)]
theorem w3p:MT 43 (z8l z2n):=w3o ⟨z6x,Hf,j2c,trivial⟩
def j05(X:q9p):Con Sg:=conS [.int .i64] [.bool] fun a K=>X a.1 (fun q0=>K (q0,()))
theorem j9s:MT 66 (j05 q9q):=mS (l:=[]) trivial []
def R6(X:Ja):Con Sg:=conS [.el C.env,.str] [.int .i64] fun a K=>X a.1 a.2.1 (fun q0=>K (q0,()))
theorem q15:MT 20 (R6 Wg):=mS (l:=[]) trivial [(5,⟨[0,1,2],[0],[],[sI 5]⟩)]
def q8m(X:Re):Con Sg:=conS [.sl C.cool,.int .i64] [.vec 3 C.i64] fun a K=>X a.1 a.2.1 (fun q0=>K (q0,()))
theorem z8m:MT 96 (q8m Rf):=mS (l:=[]) trivial [(7,⟨bl 563,[],[],[sI 6,(.obj 0,.own 3 C.i64)]⟩),(15,⟨bl 15987,[],[],[sI 7,(.obj 0,.own 3 C.i64)]⟩),(21,⟨bl 4243603187,[],[],[sI 8,(.obj 0,.own 3 C.i64)]⟩)]
def B4(X:Jr):Con Sg:=conS [.sl C.bool] [.vec 75 C.span] fun a K=>X a.1 (fun q0=>K (q0,()))
theorem q3i:MT 84 (B4 Wt):=mS (l:=[]) trivial [(7,⟨[0,2],[],[],[(.slot 3,.own 75 C.span),sI 4]⟩)]
end Go.En
end
noncomputable section
set_option maxRecDepth 100000
open Go Go.RowKit Go.Fl Go.Fl.Lk Go.Fx
namespace Go.En
def z1i(X:q2t):Con Sg:=conS [.sl C.i64,.int .i64] [.vec 75 C.span] fun a K=>X a.1 a.2.1 (fun q0=>K (q0,()))
theorem j6r{Qy:Jr}(h:AL [(84,B4 Qy)]):MT 129 (z1i (z08 Qy)):=mS h [(7,⟨bl 947,[],[],[sI 6,(.obj 0,.own 4 C.bool)]⟩)]
theorem j6s:MT 129 (z1i q6a):=j6r ⟨q3i,trivial⟩
def q8n(X:G0):Con Sg:=conS [.sl C.span] [.vec 4 C.bool] fun a K=>X a.1 (fun q0=>K (q0,()))
theorem z22:MT 83 (q8n Rg):=mS (l:=[]) trivial [(7,⟨bl 77,[],[],[sI 4,(.obj 0,.own 4 C.bool)]⟩),(13,⟨bl 518109,[],[],[sI 5,(.obj 0,.own 4 C.bool)]⟩)]
def z1j(X:q2u):Con Sg:=conS [.sl C.span,.sl C.span] [.vec 75 C.span] fun a K=>X a.1 a.2.1 (fun q0=>K (q0,()))
theorem j6t{Zl:G0}{Qy:Jr}(h:AL [(83,q8n Zl),(84,B4 Qy)]):MT 88 (z1j (z09 Zl Qy)):=mS h [(7,⟨bl 3955,[1],[],[sI 7,(.obj 0,.own 4 C.bool)]⟩)]
theorem j6u:MT 88 (z1j q6b):=j6t ⟨z22,q3i,trivial⟩
def z1k(X:q2v):Con Sg:=conS [.el C.env,.str,.str,.int .i64] [.vec 75 C.span] fun a K=>X a.1 a.2.1 a.2.2.1 a.2.2.2.1 (fun q0=>K (q0,()))
theorem j6v{Qz:Ja}{Hr:q2u}{U1:Re}{q0b:q2t}(h:AL [(20,R6 Qz),(88,z1j Hr),(96,q8m U1),(129,z1i q0b)]):MT 95 (z1k (z1a Qz Hr U1 q0b)):=mS h [(10,⟨bl 254751,[0],[],[(.slot 10,.own 75 C.span)]⟩),(13,⟨bl 254751,[0],[],[(.slot 10,.own 75 C.span),sI 11]⟩)]
theorem j6w:MT 95 (z1k q6c):=j6v ⟨q15,j6u,z8m,j6s,trivial⟩
def q3j(X:Vi):Con Sg:=conS [.sl C.span,.sl C.span] [.vec 75 C.span] fun a K=>X a.1 a.2.1 (fun q0=>K (q0,()))
theorem j6x{Zl:G0}{Qy:Jr}(h:AL [(83,q8n Zl),(84,B4 Qy)]):MT 24 (q3j (q6d Zl Qy)):=mS h [(7,⟨bl 3955,[1],[],[sI 7,(.obj 0,.own 4 C.bool)]⟩)]
theorem z1l:MT 24 (q3j Ug):=j6x ⟨z22,q3i,trivial⟩
def z4p(X:q5e):Con Sg:=conS [.el C.env,.str,.int .i64] [.vec 75 C.span,.int .i64] fun a K=>X a.1 a.2.1 a.2.2.1 (fun q0 q1=>K (q0,q1,()))
theorem j9t{q98:q9p}{Qz:Ja}{q66:q2v}{Zu:Vi}(h:AL [(66,j05 q98),(20,R6 Qz),(95,z1k q66),(24,q3j Zu)]):MT 86 (z4p (z39 q98 Qz q66 Zu)):=mS h []
theorem j9u:MT 86 (z4p q9r):=j9t ⟨j9s,q15,j6w,z1l,trivial⟩
def z1m(X:q2w):Con Sg:=conS [.sl C.span,.int .i64] [.vec 75 C.span] fun a K=>X a.1 a.2.1 (fun q0=>K (q0,()))
theorem j6y{Zl:G0}{Qy:Jr}(h:AL [(83,q8n Zl),(84,B4 Qy)]):MT 48 (z1m (z1b Zl Qy)):=mS h [(7,⟨bl 433,[],[],[sI 1,sI 6,(.obj 0,.own 4 C.bool)]⟩)]
theorem j6z:MT 48 (z1m q6e):=j6y ⟨z22,q3i,trivial⟩
def q4b(X:Rh):Con Sg:=conV [.v] [.str] [.bool] [.same] fun a K=>X a.1 (fun q0=>K (q0,()) ((),()))
theorem z23:MT 164 (q4b Ri):=⟨entB (by kernel_rfl),z2w⟩
def Gf(X:Zw):Con Sg:=conS [.str] [.bool] fun a K=>X a.1 (fun q0=>K (q0,()))
theorem j9v{V5:Rh}(h:AL [(164,q4b V5)]):MT 111 (Gf (z4a V5)):=mS h [(9,⟨bl 4081,[],[],[sI 3]⟩)]
theorem B5:MT 111 (Gf Vx):=j9v ⟨z23,trivial⟩
def j4o(X:z2o):Con Sg:=conS [.str] [.bool] fun a K=>X a.1 (fun q0=>K (q0,()))
theorem w3q:MT 165 (j4o z2p):=mS (l:=[]) trivial [(5,⟨[0],[],[],[sI 3]⟩)]
def z24(X:q1w):Con Sg:=conS [] [.vec 9 C.str] fun _ K=>X (fun q0=>K (q0,()))
theorem j2i:MT 166 (z24 q1x):=mS (l:=[]) trivial []
def Gg(X:Zr):Con Sg:=conS [.str] [.bool] fun a K=>X a.1 (fun q0=>K (q0,()))
theorem w6y{z3j:z2o}{q19:q1w}(h:AL [(165,j4o z3j),(166,z24 q19)]):MT 112 (Gg (j17 z3j q19)):=mS h [(11,⟨bl 16361,[0],[],[sI 4]⟩)]
theorem R7:MT 112 (Gg Vz):=w6y ⟨w3q,j2i,trivial⟩
end Go.En
end
noncomputable section
set_option maxRecDepth 100000
open Go Go.RowKit Go.Fl Go.Fl.Lk Go.Fx
namespace Go.En
def q6t(X:Rj):Con Sg:=conS [.el C.settings] [.int .i64] fun a K=>X a.1 (fun q0=>K (q0,()))
theorem j2j{Qn:Zw}{Qh:Zr}(h:AL [(111,Gf Qn),(112,Gg Qh)]):MT 55 (q6t (q6f Qn Qh)):=mS h []
theorem j2k:MT 55 (q6t q1y):=j2j ⟨B5,R7,trivial⟩
def q6u(X:Rk):Con Sg:=conS [.sl C.decl] [.int .i64] fun a K=>X a.1 (fun q0=>K (q0,()))
theorem j2l{Qh:Zr}(h:AL [(112,Gg Qh)]):MT 56 (q6u (q6g Qh)):=mS h [(9,⟨bl 113,[],[],[sI 3]⟩)]
theorem j2m:MT 56 (q6u q1z):=j2l ⟨R7,trivial⟩
def q4c(X:Uh):Con Sg:=conS [.sl C.str] [.int .i64] fun a K=>X a.1 (fun q0=>K (q0,()))
theorem j4p{Qn:Zw}(h:AL [(111,Gf Qn)]):MT 167 (q4c (q77 Qn)):=mS h [(9,⟨bl 113,[],[],[sI 3]⟩)]
theorem z5j:MT 167 (q4c q0x):=j4p ⟨B5,trivial⟩
def j4q(X:z2q):Con Sg:=conS [.el C.ex] [.bool] fun a K=>X a.1 (fun q0=>K (q0,()))
theorem w3r:MT 168 (j4q z2r):=mS (l:=[]) trivial []
def z1n(X:q2x):Con Sg:=conS [.el C.ex] [.bool] fun a K=>X a.1 (fun q0=>K (q0,()))
theorem j60{Zf:Ud}(h:AL [(204,q3f Zf)]):MT 234 (z1n (z1c Zf)):=mS h [(20,⟨bl 16327,[0],[],[sB 3,sB 4]⟩)]
theorem j61:MT 234 (z1n q6h):=j60 ⟨q6r,trivial⟩
def j06(X:q9s):Con Sg:=conS [.el C.val] [.bool] fun a K=>X a.1 (fun q0=>K (q0,()))
theorem j9w:MT 229 (j06 q9t):=mS (l:=[]) trivial []
def q7i(X:Ha):Con Sg:=conS [.str] [.int .i64,.int .i64] fun a K=>X a.1 (fun q0 q1=>K (q0,q1,()))
theorem z57:MT 235 (q7i Hb):=mS (l:=[]) trivial [(8,⟨bl 269,[],[],[(.slot 4,.str)]⟩),(11,⟨[0,4,8],[],[],[sI 5]⟩),(31,⟨bl 562915601547569,[],[],[sI 6,sI 7]⟩)]
def z4q(X:q5f):Con Sg:=conS [.str] [.el C.a3,.bool] fun a K=>X a.1 (fun q0 q1=>K (q0,q1,()))
theorem j9x{Vt:Ha}(h:AL [(235,q7i Vt)]):MT 230 (z4q (z4b Vt)):=mS h [(9,⟨[0,2,4],[],[(1,(280,3)),(0,(280,3))],[sI 5,sI 6,(.cell 1 0,.int .i64),(.cell 1 1,.int .i64),(.cell 1 2,.int .i64),(.cell 0 0,.int .i64),(.cell 0 1,.int .i64),(.cell 0 2,.int .i64)]⟩),(15,⟨bl 19669,[1,0],[],[sI 5]⟩)]
theorem j9y:MT 230 (z4q q9u):=j9x ⟨z57,trivial⟩
def z8n(X:q78):Con Sg:=conS [.sl C.str] [.int .i64] fun a K=>X a.1 (fun q0=>K (q0,()))
theorem w3s{Qn:Zw}(h:AL [(111,Gf Qn)]):MT 231 (z8n (z71 Qn)):=mS h [(9,⟨bl 225,[],[],[sI 3]⟩),(19,⟨bl 4073,[],[],[sI 4]⟩)]
theorem w3t:MT 231 (z8n z2s):=w3s ⟨B5,trivial⟩
def q93(X:Bv):Con Sg:=conS [.el C.val] [.int .i64] fun a K=>X a.1 (fun q0=>K (q0,()))
theorem j9z{q99:q9s}{Qn:Zw}{z0a:q5f}{z3k:q78}(h:AL [(229,j06 q99),(111,Gf Qn),(230,z4q z0a),(231,z8n z3k)]):MT 219 (q93 (z4c q99 Qn z0a z3k)):=mS h []
theorem j07:MT 219 (q93 q5g):=j9z ⟨j9w,B5,j9y,w3t,trivial⟩
def z8o(X:z2t):Con Sg:=conS [.el C.ex] [.int .i64] fun a K=>X a.1 (fun q0=>K (q0,()))
theorem w3u{q67:q2x}{Zf:Ud}{Qh:Zr}{Jl:Bv}(h:AL [(234,z1n q67),(204,q3f Zf),(112,Gg Qh),(219,q93 Jl)]):MT 228 (z8o (z72 q67 Zf Qh Jl)):=mS h [(17,⟨bl 134217667,[0],[],[sI 3]⟩),(31,⟨bl 9412450882139616968651,[0],[],[sI 4]⟩)]
theorem w3v:MT 228 (z8o q5h):=w3u ⟨j61,q6r,R7,j07,trivial⟩
def j4r(X:q2y):Con Sg:=conV [.el C.ex,.v,.ptr 3 [.v]] [.el C.ex,.int .i64,.ptr 3 [.int .i64]] [.int .i64] [.same,.same,.ptr 3 [.int .i64]] fun a K=>X a.1 a.2.1 a.2.2.1.1 (fun q0 q1=>K (q0,()) ((),(),(q1,()),()))
theorem w3w:MT 218 (j4r z2u):=by
 show MT _ (conV ([.el C.ex,.v,.ptr 3 [.v]]:LP) ([.el C.ex,.int .i64,.ptr 3 [.int .i64]]:LV) ([.int .i64]:LV) ([.same,.same,.ptr 3 [.int .i64]]:LV) fun a K=>z2u a.1 a.2.1 a.2.2.1.1 (fun q0 q1=>K (q0,()) ((),(),(q1,()),())))
 exact mQ (l:=[(228,z8o q5h)]) (u:=4) (rk:=[.v]) ⟨w3v,trivial⟩ (by kernel_rfl) [(21,⟨bl 33553551,[1],[(0,(3,1))],[sI 8,(.cell 0 0,.int .i64)]⟩)] (fun X a K=>z73 q5h (fun e depth n K=>X (e,depth,(n,()),()) fun r o=>K r.1 o.2.2.1.1) a.1 a.2.1 a.2.2.1.1 (fun q0 q1=>K (q0,()) ((),(),(q1,()),()))) (fun _ _ _=>by kernel_rfl) fun _ K h X hX=>h (fun e depth n K=>X (e,depth,(n,()),()) fun r o=>K r.1 o.2.2.1.1) fun e depth n K hs=>hX (e,depth,(n,()),()) (fun r o=>K r.1 o.2.2.1.1) hs
end Go.En
end
noncomputable section
set_option maxRecDepth 100000
open Go Go.RowKit Go.Fl Go.Fl.Lk Go.Fx
namespace Go.En
def q8o(X:Rl):Con Sg:=conS [.el C.ex] [.int .i64] fun a K=>X a.1 (fun q0=>K (q0,()))
theorem w3x{z3l:q2y}(h:AL [(218,j4r z3l)]):MT 169 (q8o (z74 z3l)):=mS h []
theorem z8p:MT 169 (q8o q5i):=w3x ⟨w3w,trivial⟩
def q8p(X:q0y):Con Sg:=conS [.el C.seg] [.int .i64] fun a K=>X a.1 (fun q0=>K (q0,()))
theorem j4s{Qh:Zr}{Jy:Uh}{z3m:z2q}{Wl:Rl}(h:AL [(112,Gg Qh),(167,q4c Jy),(168,j4q z3m),(169,q8o Wl)]):MT 113 (q8p (q79 Qh Jy z3m Wl)):=mS h []
theorem j4t:MT 113 (q8p q31):=j4s ⟨R7,z5j,w3r,z8p,trivial⟩
def q6v(X:Rm):Con Sg:=conS [.sl C.seg] [.int .i64] fun a K=>X a.1 (fun q0=>K (q0,()))
theorem j2n{q4l:q0y}(h:AL [(113,q8p q4l)]):MT 57 (q6v (q6i q4l)):=mS h [(9,⟨bl 225,[],[],[sI 3]⟩)]
theorem j2o:MT 57 (q6v q10):=j2n ⟨j4t,trivial⟩
def q3k(X:Ui):Con Sg:=conS [.el C.flag] [.int .i64] fun a K=>X a.1 (fun q0=>K (q0,()))
theorem z8q{Jl:Bv}(h:AL [(219,q93 Jl)]):MT 170 (q3k (q2z Jl)):=mS h [(15,⟨bl 8139,[0],[],[sI 4]⟩)]
theorem z8r:MT 170 (q3k Rn):=z8q ⟨j07,trivial⟩
def R8(X:Wh):Con Sg:=conS [.sl C.prereq] [.int .i64] fun a K=>X a.1 (fun q0=>K (q0,()))
theorem z25{Qh:Zr}(h:AL [(112,Gg Qh)]):MT 171 (R8 (Rp Qh)):=mS h [(9,⟨bl 113,[],[],[sI 3]⟩)]
theorem z26:MT 171 (R8 V0):=z25 ⟨R7,trivial⟩
def q8q(X:q0z):Con Sg:=conS [.sl C.target,.int .i64] [.int .i64] fun a K=>X a.1 a.2.1 (fun q0=>K (q0,()))
theorem j4u{Qh:Zr}{Jy:Uh}(h:AL [(112,Gg Qh),(167,q4c Jy)]):MT 172 (q8q (q8a Qh Jy)):=mS h [(9,⟨bl 899,[],[],[sI 5]⟩)]
theorem j4v:MT 172 (q8q q32):=j4u ⟨R7,z5j,trivial⟩
def z4r(X:q2f):Con Sg:=conS [.sl C.range,.int .i64] [.int .i64] fun a K=>X a.1 a.2.1 (fun q0=>K (q0,()))
theorem j08:MT 176 (z4r q5j):=mS (l:=[]) trivial [(11,⟨bl 899,[],[],[sI 5,sI 6]⟩)]
def q94(X:Bw):Con Sg:=conS [.el C.serve,.int .i64] [.int .i64] fun a K=>X a.1 a.2.1 (fun q0=>K (q0,()))
theorem j90{Qh:Zr}{Qn:Zw}{Gn:q2f}(h:AL [(112,Gg Qh),(111,Gf Qn),(176,z4r Gn)]):MT 174 (q94 (z4d Qh Qn Gn)):=mS h []
theorem j09:MT 174 (q94 q5k):=j90 ⟨R7,B5,j08,trivial⟩
def z4s(X:q5l):Con Sg:=conS [.sl C.rule,.int .i64] [.int .i64] fun a K=>X a.1 a.2.1 (fun q0=>K (q0,()))
theorem j91{Qh:Zr}{Wl:Rl}{Gq:Bw}(h:AL [(112,Gg Qh),(169,q8o Wl),(174,q94 Gq)]):MT 173 (z4s (z4e Qh Wl Gq)):=mS h [(9,⟨bl 3587,[],[],[sI 5]⟩),(19,⟨bl 33357347,[],[],[sI 6]⟩)]
theorem j92:MT 173 (z4s q9v):=j91 ⟨R7,z8p,j09,trivial⟩
def z8s(X:q8b):Con Sg:=conS [.el C.flag] [.int .i64] fun a K=>X a.1 (fun q0=>K (q0,()))
theorem w3y{Qh:Zr}{Bf:Ui}{V6:Wh}{q4m:q0z}{z0b:q5l}{Gq:Bw}(h:AL [(112,Gg Qh),(170,q3k Bf),(171,R8 V6),(172,q8q q4m),(173,z4s z0b),(174,q94 Gq)]):MT 114 (z8s (z75 Qh Bf V6 q4m z0b Gq)):=mS h []
theorem w3z:MT 114 (z8s z2v):=w3y ⟨R7,z8r,z26,j4v,j92,j09,trivial⟩
def z4t(X:q5m):Con Sg:=conS [.sl C.flag] [.int .i64] fun a K=>X a.1 (fun q0=>K (q0,()))
theorem j93{z3n:q8b}(h:AL [(114,z8s z3n)]):MT 58 (z4t (z4f z3n)):=mS h [(9,⟨bl 225,[],[],[sI 3]⟩)]
theorem j94:MT 58 (z4t q9w):=j93 ⟨w3z,trivial⟩
def z4u(X:q5n):Con Sg:=conS [.el C.layer] [.int .i64] fun a K=>X a.1 (fun q0=>K (q0,()))
theorem j95{Qh:Zr}{Qn:Zw}(h:AL [(112,Gg Qh),(111,Gf Qn)]):MT 115 (z4u (z4g Qh Qn)):=mS h [(21,⟨bl 2199023255523,[0],[],[sI 3]⟩)]
theorem j96:MT 115 (z4u q9x):=j95 ⟨R7,B5,trivial⟩
end Go.En
end
noncomputable section
set_option maxRecDepth 100000
open Go Go.RowKit Go.Fl Go.Fl.Lk Go.Fx
namespace Go.En
def z1o(X:q20):Con Sg:=conS [.sl C.layer] [.int .i64] fun a K=>X a.1 (fun q0=>K (q0,()))
theorem j62{z0c:q5n}(h:AL [(115,z4u z0c)]):MT 59 (z1o (z1d z0c)):=mS h [(9,⟨bl 225,[],[],[sI 3]⟩)]
theorem j63:MT 59 (z1o q6j):=j62 ⟨j96,trivial⟩
def j1a(X:q9y):Con Sg:=conS [.sl C.span] [.int .i64] fun a K=>X a.1 (fun q0=>K (q0,()))
theorem j97:MT 175 (j1a q9z):=mS (l:=[]) trivial [(9,⟨bl 113,[],[],[sI 3]⟩)]
def q3l(X:Uj):Con Sg:=conS [.el C.exper] [.int .i64] fun a K=>X a.1 (fun q0=>K (q0,()))
theorem z8t{Qh:Zr}{Qn:Zw}{z0d:q9y}{Gn:q2f}{Wl:Rl}(h:AL [(112,Gg Qh),(111,Gf Qn),(175,j1a z0d),(176,z4r Gn),(169,q8o Wl)]):MT 116 (q3l (q21 Qh Qn z0d Gn Wl)):=mS h []
theorem z8u:MT 116 (q3l Rq):=z8t ⟨R7,B5,j97,j08,z8p,trivial⟩
def q1h(X:Vp):Con Sg:=conS [.sl C.exper] [.int .i64] fun a K=>X a.1 (fun q0=>K (q0,()))
theorem z58{Bg:Uj}(h:AL [(116,q3l Bg)]):MT 60 (q1h (q1c Bg)):=mS h [(9,⟨bl 225,[],[],[sI 3]⟩)]
theorem z59:MT 60 (q1h Hc):=z58 ⟨z8u,trivial⟩
def q1i(X:Vq):Con Sg:=conS [.el C.env] [.int .i64] fun a K=>X a.1 (fun q0=>K (q0,()))
theorem z6a{q2a:Rj}{q2b:Rk}{q2c:Rm}{z0e:q5m}{q68:q20}{Hi:Vp}(h:AL [(55,q6t q2a),(56,q6u q2b),(57,q6v q2c),(58,z4t z0e),(59,z1o q68),(60,q1h Hi)]):MT 14 (q1i (q1d q2a q2b q2c z0e q68 Hi)):=mS h []
theorem z6b:MT 14 (q1i Hd):=z6a ⟨j2k,j2m,j2o,j94,j63,z59,trivial⟩
def q95(X:Hw):Con Sg:=conS [.sl C.seg] [.vec 9 C.str] fun a K=>X a.1 (fun q0=>K (q0,()))
theorem z4v:MT 151 (q95 q5o):=mS (l:=[]) trivial [(7,⟨[0,2],[],[],[(.slot 3,.own 9 C.str),sI 4]⟩)]
def z6z(X:q6k):Con Sg:=conS [.sl C.str,.str] [.bool] fun a K=>X a.1 a.2.1 (fun q0=>K (q0,()))
theorem j2p:MT 203 (z6z q33):=mS (l:=[]) trivial [(5,⟨[0,1],[],[],[sI 5]⟩)]
def z8v(X:q8c):Con Sg:=conS [.sl C.decl,.str,.str] [.int .i64] fun a K=>X a.1 a.2.1 a.2.2.1 (fun q0=>K (q0,()))
theorem j4w:MT 205 (z8v q00):=mS (l:=[]) trivial [(5,⟨[0,1,2],[],[],[sI 7]⟩)]
def j4x(X:z76):Con Sg:=conS [.int .i64,.el C.ex] [.bool] fun a K=>X a.1 a.2.1 (fun q0=>K (q0,()))
theorem w30:MT 206 (j4x q22):=mS (l:=[]) trivial [(11,⟨bl 8075,[0],[],[sI 5]⟩),(36,⟨bl 8795019288539,[0],[],[sB 46]⟩)]
def z27(X:Uk):Con Sg:=conV [.sl C.decl,.sl C.str,.el C.ex] [.sl C.decl,.sl C.str,.el C.ex] [.int .i64] [.same,.same,.same] fun a K=>X a.1 a.2.1 a.2.2.1 (fun q0=>K (q0,()) ((),(),(),()))
theorem z8w:MT 152 (z27 q5p):=by
 show MT _ (conV ([.sl C.decl,.sl C.str,.el C.ex]:LP) ([.sl C.decl,.sl C.str,.el C.ex]:LV) ([.int .i64]:LV) ([.same,.same,.same]:LV) fun a K=>q5p a.1 a.2.1 a.2.2.1 (fun q0=>K (q0,()) ((),(),(),())))
 exact mQ (l:=[(203,z6z q33),(204,q3f Jp),(205,z8v q00),(206,j4x q22)]) (u:=4) (rk:=[.v]) ⟨j2p,q6r,j4w,w30,trivial⟩ (by kernel_rfl) [(18,⟨bl 1047591,[0],[],[]⟩),(21,⟨bl 1047591,[0],[],[sI 8]⟩)] (fun X a K=>z77 q33 Jp q00 q22 (fun l segments e K=>X (l,segments,e,()) fun r _=>K r.1) a.1 a.2.1 a.2.2.1 (fun q0=>K (q0,()) ((),(),(),()))) (fun _ _ _=>by kernel_rfl) fun a K h X hX=>h (fun l segments e K=>X (l,segments,e,()) fun r _=>K r.1) fun l segments e K hs=>hX (l,segments,e,()) (fun r _=>K r.1) hs
def z60(X:q6l):Con Sg:=conS [.sl C.str,.str] [.sl C.str] fun a K=>X a.1 a.2.1 (fun q0=>K (q0,()))
theorem j2q:MT 222 (z60 q34):=mS (l:=[]) trivial [(5,⟨[0,1,4],[],[],[sI 5]⟩)]
def z5k(X:Ul):Con Sg:=conV [.sl C.str,.el C.ex] [.sl C.str,.el C.ex] [.sl C.str] [.same,.same] fun a K=>X a.1 a.2.1 (fun q0=>K (q0,()) ((),(),()))
theorem j4y:MT 223 (z5k q35):=by
 show MT _ (conV ([.sl C.str,.el C.ex]:LP) ([.sl C.str,.el C.ex]:LV) ([.sl C.str]:LV) ([.same,.same]:LV) fun a K=>q35 a.1 a.2.1 (fun q0=>K (q0,()) ((),(),())))
 exact mQ (l:=[(222,z60 q34)]) (u:=4) (rk:=[.sl C.str]) ⟨j2q,trivial⟩ (by kernel_rfl) [(6,⟨[1,3,4],[0],[],[(.slot 0,.sl C.str)]⟩),(9,⟨[1,3,4],[0],[],[(.slot 0,.sl C.str),sI 5]⟩)] (fun X a K=>q8d q34 (fun l e K=>X (l,e,()) fun r _=>K r.1) a.1 a.2.1 (fun q0=>K (q0,()) ((),(),()))) (fun _ _ _=>by kernel_rfl) fun _ K h X hX=>h (fun l e K=>X (l,e,()) fun r _=>K r.1) fun l e K hs=>hX (l,e,()) (fun r _=>K r.1) hs
end Go.En
end
noncomputable section
set_option maxRecDepth 100000
open Go Go.RowKit Go.Fl Go.Fl.Lk Go.Fx
namespace Go.En
def q8r(X:q01):Con Sg:=conS [.el C.ex] [.sl C.str] fun a K=>X a.1 (fun q0=>K (q0,()))
theorem j4z{q4n:Ul}(h:AL [(223,z5k q4n)]):MT 208 (q8r (q8e q4n)):=mS h []
theorem j40:MT 208 (q8r q36):=j4z ⟨j4y,trivial⟩
def z1p(X:q23):Con Sg:=conS [.sl C.seg] [.vec 254 C.edge] fun a K=>X a.1 (fun q0=>K (q0,()))
theorem j64{q4o:q01}(h:AL [(208,q8r q4o)]):MT 154 (z1p (z1e q4o)):=mS h [(7,⟨[0,2],[],[],[(.slot 3,.own 254 C.edge),sI 4]⟩),(15,⟨bl 518069,[],[],[(.slot 3,.own 254 C.edge),sI 6]⟩)]
theorem j65:MT 154 (z1p q6m):=j64 ⟨j40,trivial⟩
def z4w(X:q5q):Con Sg:=conS [.sl C.edge,.str] [.sl C.str] fun a K=>X a.1 a.2.1 (fun q0=>K (q0,()))
theorem j98{Bh:q6k}{Bi:q6l}(h:AL [(203,z6z Bh),(222,z60 Bi)]):MT 221 (z4w (z4h Bh Bi)):=mS h [(7,⟨bl 1555,[],[],[(.slot 5,.sl C.str),(.slot 6,.sl C.str)]⟩),(15,⟨bl 522899,[],[],[(.slot 5,.sl C.str),(.slot 6,.sl C.str),sI 8]⟩)]
theorem j99:MT 221 (z4w q90):=j98 ⟨j2p,j2q,trivial⟩
def z1q(X:q24):Con Sg:=conS [.sl C.str,.sl C.edge] [.sl C.str] fun a K=>X a.1 a.2.1 (fun q0=>K (q0,()))
theorem j66{z0f:q5q}{Bh:q6k}{Bi:q6l}(h:AL [(221,z4w z0f),(203,z6z Bh),(222,z60 Bi)]):MT 207 (z1q (z1f z0f Bh Bi)):=mS h [(7,⟨[0,1,4],[],[],[(.slot 5,.sl C.str),sI 6]⟩)]
theorem j67:MT 207 (z1q q6n):=j66 ⟨j99,j2p,j2q,trivial⟩
def z1r(X:q25):Con Sg:=conS [.sl C.str,.sl C.edge] [.str,.bool] fun a K=>X a.1 a.2.1 (fun q0 q1=>K (q0,q1,()))
theorem j68{q69:q24}(h:AL [(207,z1q q69)]):MT 153 (z1r (z1g q69)):=mS h []
theorem j69:MT 153 (z1r q6o):=j68 ⟨j67,trivial⟩
def q8s(X:Hx):Con Sg:=conS [.el C.env,.str] [.int .i64] fun a K=>X a.1 a.2.1 (fun q0=>K (q0,()))
theorem z5l:MT 126 (q8s q37):=mS (l:=[]) trivial [(5,⟨[0,1,2],[0],[],[sI 5]⟩)]
def z4x(X:q5r):Con Sg:=conS [.sl C.decl,.el C.serve] [.int .i64] fun a K=>X a.1 a.2.1 (fun q0=>K (q0,()))
theorem w0a{q3w:q8c}(h:AL [(205,z8v q3w)]):MT 209 (z4x (z4i q3w)):=mS h []
theorem w0b:MT 209 (z4x q91):=w0a ⟨j4w,trivial⟩
def q3m(X:Um):Con Sg:=conS [.el C.env,.el C.flag] [.int .i64] fun a K=>X a.1 a.2.1 (fun q0=>K (q0,()))
theorem z8x{Jm:Hw}{Wm:Hx}{Wn:Uk}{q5w:q5r}{Zi:Z7}(h:AL [(151,q95 Jm),(126,q8s Wm),(152,z27 Wn),(209,z4x q5w),(103,Ge Zi)]):MT 155 (q3m (q26 Jm Wm Wn q5w Zi)):=mS h [(7,⟨bl 229423,[1,0],[],[sI 6,(.obj 2,.own 9 C.str)]⟩),(23,⟨bl 8355951,[1,0],[],[sI 8,(.obj 2,.own 9 C.str)]⟩)]
theorem z8y:MT 155 (q3m Rr):=z8x ⟨z4v,z5l,z8w,w0b,q5t,trivial⟩
def z0s(X:q0k):Con Sg:=conS [.el C.env] [.vec 9 C.str] fun a K=>X a.1 (fun q0=>K (q0,()))
theorem z93:MT 156 (z0s q4t):=mS (l:=[]) trivial [(7,⟨[0,1,2],[0],[],[(.slot 3,.own 9 C.str),sI 4]⟩)]
def q8t(X:Rs):Con Sg:=conS [.el C.env] [.vec 254 C.edge] fun a K=>X a.1 (fun q0=>K (q0,()))
theorem z8z:MT 157 (q8t Rt):=mS (l:=[]) trivial [(7,⟨[0,1,2],[0],[],[(.slot 3,.own 254 C.edge),sI 4]⟩),(13,⟨bl 2007,[],[],[(.slot 3,.own 254 C.edge),sI 5]⟩)]
def q4d(X:Un):Con Sg:=conS [.sl C.span,.sl C.span] [.vec 75 C.span] fun a K=>X a.1 a.2.1 (fun q0=>K (q0,()))
theorem j41{Zl:G0}{Qy:Jr}(h:AL [(83,q8n Zl),(84,B4 Qy)]):MT 25 (q4d (q38 Zl Qy)):=mS h [(7,⟨bl 3955,[1],[],[sI 7,(.obj 0,.own 4 C.bool)]⟩)]
theorem z5m:MT 25 (q4d Uo):=j41 ⟨z22,q3i,trivial⟩
def Ux(X:Je):Con Sg:=conS [.el C.env,.int .i64] [.int .i64] fun a K=>X a.1 a.2.1 (fun q0=>K (q0,()))
theorem q8u{Qz:Ja}{Wm:Hx}{Jm:Hw}{Wn:Uk}{Jz:Un}(h:AL [(20,R6 Qz),(126,q8s Wm),(151,q95 Jm),(152,z27 Wn),(25,q4d Jz)]):MT 158 (Ux (Up Qz Wm Jm Wn Jz)):=mS h [(13,⟨bl 17179836647,[1,0],[],[sI 8]⟩),(35,⟨bl 151078797935433964553191,[1,0],[],[(.slot 10,.own 75 C.span),sI 11,(.obj 4,.own 9 C.str)]⟩),(51,⟨bl 159723976762087930960904772882407,[1,0],[],[sI 13,(.obj 9,.own 75 C.span),(.obj 6,.own 75 C.span),(.obj 4,.own 9 C.str)]⟩)]
theorem q8v:MT 158 (Ux Wi):=q8u ⟨q15,z5l,z4v,z8w,z5m,trivial⟩
end Go.En
end
noncomputable section
set_option maxRecDepth 100000
open Go Go.RowKit Go.Fl Go.Fl.Lk Go.Fx
namespace Go.En
def B6(X:W2):Con Sg:=conS [.el C.env] [.str,.int .i64] fun a K=>X a.1 (fun q0 q1=>K (q0,q1,()))
theorem z4y{Hj:Vq}{Jm:Hw}{Wn:Uk}{q7a:q23}{q3x:q25}{Bj:Um}{q0t:q0k}{Bk:Rs}{Wo:Je}(h:AL [(14,q1i Hj),(151,q95 Jm),(152,z27 Wn),(154,z1p q7a),(153,z1r q3x),(155,q3m Bj),(156,z0s q0t),(157,q8t Bk),(158,Ux Wo)]):MT 99 (B6 (Bx Hj Jm Wn q7a q3x Bj q0t Bk Wo)):=mS h [(13,⟨bl 15663155,[0],[],[sI 6,(.obj 1,.own 9 C.str)]⟩),(33,⟨bl 294571444427585160051,[0],[],[sI 10,(.obj 1,.own 9 C.str),(.obj 4,.own 254 C.edge)]⟩),(51,⟨bl 10121397798090180814242575234931,[0],[],[sI 14,(.obj 8,.own 9 C.str),(.obj 9,.own 254 C.edge),(.obj 4,.own 254 C.edge),(.obj 1,.own 9 C.str)]⟩)]
theorem z4z:MT 99 (B6 Ga):=z4y ⟨z6b,z4v,z8w,j65,j69,z8y,z93,z8z,q8v,trivial⟩
def z1s(X:q27):Con Sg:=conS [.el C.env] [.bool] fun a K=>X a.1 (fun q0=>K (q0,()))
theorem j7a{Gs:W2}(h:AL [(99,B6 Gs)]):MT 35 (z1s (z1h Gs)):=mS h []
theorem j7b:MT 35 (z1s By):=j7a ⟨z4z,trivial⟩
def q3n(X:Uq):Con Sg:=conV [.ptr 78 [.c,.v],.v] [.ptr 78 [.sl C.u8,.int .i64],.int .i64] [.el C.env] [.ptr 78 [.same,.int .i64],.same] fun a K=>X a.1.1 a.1.2.1 a.2.1 (fun q0 q1=>K (q0,()) (((),q1,()),(),()))
theorem z80{Zb:Vb}{q4p:q0w}{Qa:Zp}{Bb:q9m}{Ju:q2n}{q0p:q58}{q89:q74}{U2:H7}{q0q:q1v}{Zi:Z7}{z3o:q76}{Jj:H5}{Bc:q2o}{z0g:q5e}{Jx:q1u}{Zu:Vi}{q7b:q2w}{Hs:q27}(h:AL [(38,q4a Zb),(40,q8i q4p),(33,V3 Qa),(41,j2d Bb),(101,z2y Ju),(46,z6y q0p),(47,z8d q89),(102,q8j U2),(100,j2f q0q),(103,Ge Zi),(43,z8l z3o),(39,q92 Jj),(104,z2z Bc),(86,z4p z0g),(34,z2x Jx),(24,q3j Zu),(48,z1m q7b),(35,z1s Hs)]):MT 10 (q3n (q28 Zb q4p Qa Bb Ju q0p q89 U2 q0q Zi z3o Jj Bc z0g Jx Zu q7b Hs)):=mP (rk:=[.el C.env]) h [(8,⟨bl 3123,[1],[(3,(35,8)),(0,(78,2))],[(.cell 3 0,.str),(.cell 3 1,.str),(.cell 3 2,.int .i64),(.cell 0 1,.int .i64),(.obj 2,.own 102 C.decl)]⟩),(15,⟨bl 98569331,[2,1],[(0,(78,2)),(3,(35,8))],[sI 7,(.cell 0 1,.int .i64),(.cell 3 5,.own 91 C.flag),(.obj 10,.own 97 C.seg),(.obj 12,.own 61 C.layer),(.obj 13,.own 58 C.exper)]⟩),(43000009,⟨bl 1073218007,[22,21],[(0,(78,2)),(23,(91,13))],[sI 9,(.cell 0 1,.int .i64),(.cell 23 2,.own 149 C.val),(.obj 13,.own 58 C.exper),(.obj 12,.own 61 C.layer),(.obj 17,.own 91 C.flag),(.obj 10,.own 97 C.seg)]⟩),(43000019,⟨bl 545366356788183,[22,21],[(23,(91,13)),(0,(78,2))],[sI 10,(.cell 23 5,.own 152 C.prereq),(.cell 0 1,.int .i64),(.obj 10,.own 97 C.seg),(.obj 17,.own 91 C.flag),(.obj 12,.own 61 C.layer),(.obj 13,.own 58 C.exper),(.obj 27,.own 149 C.val)]⟩),(43000029,⟨bl 17996814912849879,[22,21],[(23,(91,13)),(0,(78,2))],[sI 11,(.cell 23 6,.own 154 C.target),(.cell 0 1,.int .i64),(.obj 27,.own 149 C.val),(.obj 13,.own 58 C.exper),(.obj 12,.own 61 C.layer),(.obj 17,.own 91 C.flag),(.obj 10,.own 97 C.seg),(.obj 34,.own 152 C.prereq)]⟩),(43000038,⟨bl 19688565898261847554177638359,[23],[(51,(154,3)),(0,(78,2))],[(.cell 51 0,.str),(.cell 0 1,.int .i64),(.obj 50,.own 9 C.str),(.obj 34,.own 152 C.prereq),(.obj 10,.own 97 C.seg),(.obj 17,.own 91 C.flag),(.obj 12,.own 61 C.layer),(.obj 13,.own 58 C.exper),(.obj 27,.own 149 C.val),(.obj 42,.own 154 C.target)]⟩),(43000060,⟨bl 324518589926201333218846174621655,[22,21],[(0,(78,2)),(23,(91,13))],[(.cell 0 1,.int .i64),(.cell 23 7,.own 157 C.rule),(.obj 50,.own 9 C.str),(.obj 34,.own 152 C.prereq),(.obj 10,.own 97 C.seg),(.obj 17,.own 91 C.flag),(.obj 12,.own 61 C.layer),(.obj 13,.own 58 C.exper),(.obj 27,.own 149 C.val),(.obj 42,.own 154 C.target)]⟩),(43000047,⟨bl 324518589926201333218846174621655,[],[(0,(78,2)),(23,(91,13))],[sI 14,(.cell 0 1,.int .i64),(.cell 23 7,.own 157 C.rule),(.obj 50,.own 9 C.str),(.obj 34,.own 152 C.prereq),(.obj 10,.own 97 C.seg),(.obj 17,.own 91 C.flag),(.obj 12,.own 61 C.layer),(.obj 13,.own 58 C.exper),(.obj 27,.own 149 C.val),(.obj 42,.own 154 C.target)]⟩),(25,⟨bl 387030204812531,[2,1],[(0,(78,2)),(3,(35,8))],[sI 8,(.cell 0 1,.int .i64),(.cell 3 6,.own 61 C.layer),(.obj 13,.own 58 C.exper),(.obj 10,.own 97 C.seg),(.obj 17,.own 91 C.flag)]⟩),(35,⟨bl 811665570522726403571,[2,1],[(0,(78,2)),(3,(35,8))],[sI 9,(.cell 0 1,.int .i64),(.cell 3 7,.own 58 C.exper),(.obj 17,.own 91 C.flag),(.obj 10,.own 97 C.seg),(.obj 24,.own 61 C.layer)]⟩),(45000010,⟨bl 140737488348975,[37,36,35],[(40,(58,12)),(0,(78,2))],[(.cell 40 4,.int .i64),(.cell 0 1,.int .i64),(.obj 39,.own 173 C.range),(.obj 31,.own 58 C.exper),(.obj 24,.own 61 C.layer),(.obj 17,.own 91 C.flag),(.obj 10,.own 97 C.seg)]⟩),(45000014,⟨bl 140737488348975,[37,36,35],[(40,(58,12)),(0,(78,2))],[(.cell 40 7,.int .i64),(.cell 40 8,.str),(.cell 40 9,.str),(.cell 40 10,.sl C.val),(.cell 40 11,.sl C.ex),(.cell 0 1,.int .i64),(.obj 10,.own 97 C.seg),(.obj 17,.own 91 C.flag),(.obj 24,.own 61 C.layer),(.obj 31,.own 58 C.exper),(.obj 39,.own 173 C.range)]⟩)]
theorem z81:MT 10 (q3n Ur):=z80 ⟨q8h,j4k,Hf,j8t,j4i,j8u,w3l,z8c,j8v,q5t,w3p,z6x,j4l,j9u,j2c,z1l,j6z,j7b,trivial⟩
def Uy(X:Jf):Con Sg:=conS [.el C.env,.int .i64] [.str] fun a K=>X a.1 a.2.1 (fun q0=>K (q0,()))
theorem q8w{q1l:z37}(h:AL [(9,j6o q1l)]):MT 17 (Uy (Us q1l)):=mS h []
theorem q8x:MT 17 (Uy Wj):=q8w ⟨w3g,trivial⟩
def q1j(X:Wc):Con Sg:=conS [.int .i64] [.bool] fun a K=>X a.1 (fun q0=>K (q0,()))
theorem q7j:MT 61 (q1j Vr):=mS (l:=[]) trivial []
def R9(X:Jg):Con Sg:=conS [.el C.env,.str] [.int .i64] fun a K=>X a.1 a.2.1 (fun q0=>K (q0,()))
theorem q3o:MT 75 (R9 W3):=mS (l:=[]) trivial [(143000005,⟨bl 195,[1],[],[sI 8]⟩)]
def G5(X:Wu):Con Sg:=conS [.el C.env,.str,.int .i64] [.int .i64,.int .i64,.int .i64] fun a K=>X a.1 a.2.1 a.2.2.1 (fun q0 q1 q2=>K (q0,q1,q2,()))
theorem z94{Zt:Wc}{Q1:Jg}(h:AL [(61,q1j Zt),(75,R9 Q1)]):MT 71 (G5 (q4u Zt Q1)):=mS h [(131000005,⟨bl 195,[1],[],[sI 8]⟩)]
theorem z0t:MT 71 (G5 G1):=z94 ⟨q7j,q3o,trivial⟩
def q6w(X:Ru):Con Sg:=conS [.el C.val] [.el C.val] fun a K=>X a.1 (fun q0=>K (q0,()))
theorem z28:MT 186 (q6w Vj):=mS (l:=[]) trivial []
def q4e(X:Jh):Con Sg:=conV [.el C.ex] [.el C.ex] [.el C.ex] [.same] fun a K=>X a.1 (fun q0=>K (q0,()) ((),()))
theorem q8y:MT 184 (q4e Hy):=by
 show MT _ (conV ([.el C.ex]:LP) ([.el C.ex]:LV) ([.el C.ex]:LV) ([.same]:LV) fun a K=>Hy a.1 (fun q0=>K (q0,()) ((),())))
 exact mQ (l:=[(186,q6w Vj)]) (u:=4) (rk:=[.el C.ex]) ⟨z28,trivial⟩ (by kernel_rfl) [(186000007,⟨bl 7955,[],[],[(.slot 5,.own 149 C.val),sI 13]⟩),(221000007,⟨bl 7955,[],[],[(.slot 5,.own 56 C.ex),sI 13]⟩)] (fun X a K=>q39 Vj (fun e K=>X (e,()) fun r _=>K r.1) a.1 (fun q0=>K (q0,()) ((),()))) (fun _ _ _=>by kernel_rfl) fun a K h X hX=>h (fun e K=>X (e,()) fun r _=>K r.1) fun e K hs=>hX (e,()) (fun r _=>K r.1) hs
def Uz(X:J5):Con Sg:=conS [.el C.seg] [.el C.seg] fun a K=>X a.1 (fun q0=>K (q0,()))
theorem z82{Q3:Jh}(h:AL [(184,q4e Q3)]):MT 134 (Uz (q29 Q3)):=mS h []
theorem q8z:MT 134 (Uz J6):=z82 ⟨q8y,trivial⟩
def z0u(X:q0l):Con Sg:=conS [.el C.target] [.el C.target] fun a K=>X a.1 (fun q0=>K (q0,()))
theorem z95:MT 189 (z0u G2):=mS (l:=[]) trivial []
def q6x(X:Gb):Con Sg:=conS [.el C.serve] [.el C.serve] fun a K=>X a.1 (fun q0=>K (q0,()))
theorem z29:MT 192 (q6x q11):=mS (l:=[]) trivial []
end Go.En
end
noncomputable section
set_option maxRecDepth 100000
open Go Go.RowKit Go.Fl Go.Fl.Lk Go.Fx
namespace Go.En
def q80(X:q02):Con Sg:=conS [.el C.rule] [.el C.rule] fun a K=>X a.1 (fun q0=>K (q0,()))
theorem j42{Q3:Jh}{Jc:Gb}(h:AL [(184,q4e Q3),(192,q6x Jc)]):MT 191 (q80 (q8f Q3 Jc)):=mS h []
theorem j43:MT 191 (q80 Hz):=j42 ⟨q8y,z29,trivial⟩
def q03(X:Ut):Con Sg:=conS [.el C.flag] [.el C.flag] fun a K=>X a.1 (fun q0=>K (q0,()))
theorem j44{Gt:Ru}{G6:q0l}{q08:q02}{Jc:Gb}(h:AL [(186,q6w Gt),(189,z0u G6),(191,q80 q08),(192,q6x Jc)]):MT 136 (q03 (q8g Gt G6 q08 Jc)):=mS h [(186000007,⟨bl 7955,[],[],[(.slot 5,.own 149 C.val),sI 13]⟩),(189000007,⟨bl 7955,[],[],[(.slot 5,.own 154 C.target),sI 13]⟩),(191000007,⟨bl 7955,[],[],[(.slot 5,.own 157 C.rule),sI 13]⟩)]
theorem z5n:MT 136 (q03 Uu):=j44 ⟨z28,z95,j43,z29,trivial⟩
def Z2(X:Qt):Con Sg:=conS [.sl C.cool] [.vec 125 C.cool] fun a K=>X a.1 (fun q0=>K (q0,()))
theorem Z3:MT 193 (Z2 Qu):=mS (l:=[]) trivial []
def q6y(X:Rv):Con Sg:=conS [.el C.layer] [.el C.layer] fun a K=>X a.1 (fun q0=>K (q0,()))
theorem j2r{Qi:Qt}(h:AL [(193,Z2 Qi)]):MT 138 (q6y (q6p Qi)):=mS h []
theorem j2s:MT 138 (q6y Gc):=j2r ⟨Z3,trivial⟩
def Wk(X:Z0):Con Sg:=conS [.el C.exper] [.el C.exper] fun a K=>X a.1 (fun q0=>K (q0,()))
theorem z3a{Q3:Jh}(h:AL [(184,q4e Q3)]):MT 140 (Wk (Rw Q3)):=mS h []
theorem q4f:MT 140 (Wk Z1):=z3a ⟨q8y,trivial⟩
def q3p(X:Rx):Con Sg:=conS [.int .i64,.int .i64] [.int .i64] fun a K=>X a.1 a.2.1 (fun q0=>K (q0,()))
theorem z83:MT 73 (q3p Ry):=mS (l:=[]) trivial []
def Hp(X:J7):Con Sg:=conS [.sl C.cool] [.vec 125 C.cool] fun a K=>X a.1 (fun q0=>K (q0,()))
theorem z1t{Qi:Qt}(h:AL [(193,Z2 Qi)]):MT 141 (Hp (Ho Qi)):=mS h [(7,⟨bl 973,[],[],[sI 10,(.obj 0,.own 125 C.cool)]⟩),(13,⟨bl 16349,[],[],[sI 5,(.obj 0,.own 125 C.cool)]⟩)]
theorem z1u:MT 141 (Hp Vk):=z1t ⟨Z3,trivial⟩
def Gh(X:W4):Con Sg:=conS [.sl C.cool,.int .i64] [.vec 125 C.cool] fun a K=>X a.1 a.2.1 (fun q0=>K (q0,()))
theorem z40{Vm:J7}(h:AL [(141,Hp Vm)]):MT 74 (Gh (Bz Vm)):=mS h [(9,⟨bl 6163,[],[],[(.slot 5,.own 125 C.cool),sI 13,(.obj 0,.own 125 C.cool)]⟩),(28,⟨bl 129139,[],[],[sI 7,(.obj 0,.own 125 C.cool),(.obj 1,.own 125 C.cool)]⟩),(17,⟨bl 522355,[],[],[sI 7,sI 19,(.obj 0,.own 125 C.cool),(.obj 1,.own 125 C.cool)]⟩)]
theorem z41:MT 74 (Gh Gd):=z40 ⟨z1u,trivial⟩
end Go.En
end
