/- TrafficSteps This is part 4 of 10. Conditions: those in the statements. -/
import Derived.Test.YtdaibboenkgpaaaGreatDoorProg
import Derived.Test.YtdaibboenkgpaaaGreatDoorStp3
import Derived.Lib.ValidU
import Derived.KernelRfl
import Derived.Conc.MuLone
import Derived.Shelf.Slices.Equal
import Derived.Ground.NamesProg
import Derived.Shelf.Unicode.ValidAny
import Derived.Shelf.SlIter.Sorted
import Derived.Ground.GgzProg
noncomputable section
set_option maxRecDepth 100000
open Go Go.RowKit Go.Fl Go.Fl.Lk Go.Fx
namespace Go.En
abbrev q2n:Type:=List (Spn)->(List (Spn)->Prop)->Prop
def H1(l:List (Spn))(K:List (Spn)->Prop):Prop:=K ((Go.Fl.Sp.runs (Go.Fl.Sp.cov (l.map fun s=>(s.lo,s.hi))) 10000).map fun s=>Spn.mk s.1 s.2)
abbrev q57:Type:=List (Spn)->(Int->Prop)->Prop
def q1m(l:List (Spn))(K:Int->Prop):Prop:=K ((Go.Fl.Sp.cnt (Go.Fl.Sp.cov (l.map fun s=>(s.lo,s.hi))) 10000:Nat):Int)
abbrev Bf:Type:=(Bool->Prop)->Prop
def q7x(Rg:q2n)(q1x:q57):Bf:=fun K=>Rg [Spn.mk (5:Int) (9:Int),Spn.mk (0:Int) (5:Int),Spn.mk (7:Int) (7:Int)] fun Qb=>Fits Qb->Cnd ((↑Qb.length:Int)=1) (((0:Int)<=(0:Int)/\(0:Int)<(↑Qb.length:Int))/\ ∀y2,Qb[Int.toNat (0:Int)]? =some y2->Cnd (y2.1=0/\y2.2=9) (q1x Qb fun Qk=>K (decide (Qk=9))) (K false)) (K false)
def q27:Bf:=q7x H1 q1m
abbrev j5b:Type:=List (Int)->Int->(List (Int)->Int->Prop)->Prop
def j5c:j5b:=fun list_ most K=>Jn1 (fun Qb=>K Qb (0:Int)) fun z4q=>Fits list_->Cnd (most<(↑list_.length:Int)) (((0:Int)<=(0:Int)/\(0:Int)<=most/\most<=(↑list_.length:Int))/\z4q (List.drop (Int.toNat (0:Int)) (List.take most.toNat list_))) (z4q list_)
abbrev j5d:Type:=Int->Int->(Int->Prop)->Prop
def j5e:j5d:=fun x n K=>n≠(0:Int)/\Cnd (x.tmod n<0) (InI (x.tmod n+n)/\K (x.tmod n+n)) (K (x.tmod n))
abbrev Ue:Type:=(List (Decl)->Prop)->Prop
def Gh:Ue:=fun K=>K [Decl.mk (B8 [100,101,118,105,99,101]) (B8 [99,111,114,101,115]) (2:Int),Decl.mk (B8 [100,101,118,105,99,101]) (B8 [111,115]) (3:Int),Decl.mk (B8 [117,115,101,114]) (B8 [97,103,101]) (2:Int),Decl.mk (B8 [117,115,101,114]) (B8 [97,112,112]) (4:Int),Decl.mk (B8 [117,115,101,114]) (B8 [98,101,116,97]) (1:Int),Decl.mk (B8 [117,115,101,114]) (B8 [99,111,117,110,116,114,121]) (3:Int),Decl.mk (B8 [117,115,101,114]) (B8 [112,108,97,110]) (3:Int),Decl.mk (B8 [117,115,101,114]) (B8 [116,97,103,115]) (5:Int)]
abbrev z9y:Type:=List (Int)->Int->(Bool->Int->Prop)->Prop
def j5f:z9y:=fun list at_ K=>Fits list->K (decide (at_<(↑list.length:Int))) at_
abbrev Qr:Type:=List (Int)->Int->Int->(Int->Int->Prop)->Prop
def j5g(z99:z9y):Qr:=fun list at_ n K=>z99 list at_ fun Qb Qq=>Cnd (Qb=true) (InI (Qq+1)/\InI (Qq+1 - (1:Int))/\((0:Int)<=Qq+1 - (1:Int)/\Qq+1 - (1:Int)<(↑list.length:Int))/\ ∀y1,list[(Qq+1 - (1:Int)).toNat]? =some y1->InI y1/\n≠(0:Int)/\K (y1.tmod n) (Qq+1)) (K (0:Int) Qq)
def Q3:Qr:=j5g j5f
abbrev Uj:Type:=List (Int)->Int->(ByteArray->Int->Prop)->Prop
def j5h(Qa:Qr):Uj:=fun list at_ K=>Qa list at_ (11:Int) fun Qb Qq=>((0:Int)<=Qb/\Qb<(↑(11:Nat):Int))/\ ∀y1,q95[Qb.toNat]? =some y1->K y1 Qq
def q28:Uj:=j5h Q3
abbrev G4:Type:=List (Int)->Int->Int->(Int->Int->Prop)->Prop
def j5i(Qa:Qr):G4:=fun list at_ n K=>Qa list at_ (256:Int) fun Qb Qq=>InI ((256:Int)*Qb)/\Qa list Qq (256:Int) fun Qd Q5=>InI ((256:Int)*Qb+Qd)/\n≠(0:Int)/\K (((256:Int)*Qb+Qd).tmod n) Q5
def q5c:G4:=j5i Q3
abbrev z1r:Type:=Int->List (ByteArray)->(List (ByteArray)->Prop)->Prop
def z9z:z1r:=fun n l K=>((0:Int)<=n/\n<=(↑l.length:Int))/\K (List.take n.toNat l)
abbrev Bg:Type:=List (Int)->Int->(List (ByteArray)->Int->Prop)->Prop
def j5j(Qa:Qr):Bg:=fun list at_ K=>Qa list at_ (10:Int) fun Qb Qq=>Lp3 (fun Qd Q5 j2x w8y=>Qa list j2x (4:Int) fun Qj Q6=>Cnd (Q5<Qj) (InI (Qb+Q5)/\(10:Int)≠(0:Int)/\InI ((48:Int)+(Qb+Q5).tmod (10:Int))/\(↑((B8 [107]).size+(Go.Utf8.encode (Go.IntKind.i32.wrap ((48:Int)+(Qb+Q5).tmod (10:Int)))).size):Int)<=(9223372036854775807:Int)/\Sml (Qd++[B8 [107]++Go.Utf8.encode (Go.IntKind.i32.wrap ((48:Int)+(Qb+Q5).tmod (10:Int)))]).length/\InI (Q5+1)/\w8y (Qd++[B8 [107]++Go.Utf8.encode (Go.IntKind.i32.wrap ((48:Int)+(Qb+Q5).tmod (10:Int)))]) (Q5+1) Q6) (Lp2 (fun Qf Jw j88=>Fits Jw->CAt Jw Qf (fun y5=>InI (Qf - 1)/\((0:Int)<=Qf - 1/\Qf - 1<(↑Jw.length:Int))/\ ∀y7,Jw[(Qf - 1).toNat]? =some y7->Cnd (Lk.blt y7 y5) (InI (Qf+1)/\j88 (Qf+1) Jw) (((0:Int)<=Qf/\Qf<=(↑Jw.length:Int))/\K (List.take Qf.toNat Jw) Q6)) (K Jw Q6)) (1:Int) Qd)) [] (0:Int) Qq
def q5d:Bg:=j5j Q3
abbrev z3u:Type:=List (Int)->Int->(ByteArray->Int->Prop)->Prop
def j95(Qa:Qr):z3u:=fun list at_ K=>Qa list at_ (10:Int) fun Qb Qq=>InI ((48:Int)+Qb)/\(↑((B8 [107]).size+(Go.Utf8.encode (Go.IntKind.i32.wrap ((48:Int)+Qb))).size):Int)<=(9223372036854775807:Int)/\K (B8 [107]++Go.Utf8.encode (Go.IntKind.i32.wrap ((48:Int)+Qb))) Qq
def j04:z3u:=j95 Q3
abbrev Gi:Type:=List (Int)->Int->Int->(Val->Int->Prop)->Prop
def z44(Qa:Qr)(Zy:Uj):Gi:=fun list at_ kind K=>Cnd (kind=1) (Qa list at_ (2:Int) fun Qb Qq=>K (Val.mk kind Qb (B8 []) []) Qq) (Cnd (kind=2) ([(0:Int),(1:Int),(17:Int),(18:Int),(19:Int),(-5:Int),(64:Int),(1099511627776:Int),(-1099511627776:Int)].length<=(9223372036854775807:Nat)->Qa list at_ (↑[(0:Int),(1:Int),(17:Int),(18:Int),(19:Int),(-5:Int),(64:Int),(1099511627776:Int),(-1099511627776:Int)].length:Int) fun Qd Q5=>((0:Int)<=Qd/\Qd<(↑[(0:Int),(1:Int),(17:Int),(18:Int),(19:Int),(-5:Int),(64:Int),(1099511627776:Int),(-1099511627776:Int)].length:Int))/\ ∀y2,[(0:Int),(1:Int),(17:Int),(18:Int),(19:Int),(-5:Int),(64:Int),(1099511627776:Int),(-1099511627776:Int)][Qd.toNat]? =some y2->K (Val.mk kind y2 (B8 []) []) Q5) (Cnd (kind=3) (Zy list at_ fun Qb Qq=>K (Val.mk kind (0:Int) Qb []) Qq) (Cnd (kind=4) (Qa list at_ (6:Int) fun Qb Qq=>((0:Int)<=Qb/\Qb<(↑(6:Nat):Int))/\ ∀y1,q96[Qb.toNat]? =some y1->K (Val.mk kind (0:Int) y1 []) Qq) (Qa list at_ (5:Int) fun Qb Qq=>((0:Int)<=Qb/\Qb<(↑(5:Nat):Int))/\ ∀y1,j01[Qb.toNat]? =some y1->Sml ([]++y1).length/\K (Val.mk (5:Int) (0:Int) (B8 []) ([]++y1)) Qq))))
def Uy:Gi:=z44 Q3 q28
abbrev z45:Type:=List (Int)->Int->(Ex->Int->Prop)->Prop
def j5k(Zv:Ue)(Qa:Qr)(q82:z3u)(Zr:Gi):z45:=fun list at_ K=>Zv fun Qb=>Fits Qb->InI ((↑Qb.length:Int)+1)/\Qa list at_ ((↑Qb.length:Int)+1) fun Qj Q6=>Fits Qb->Cnd (Qj=(↑Qb.length:Int)) (q82 list Q6 fun Qk Jv=>K (Ex.mk (7:Int) (B8 [117,115,101,114]) (B8 [107,101,121]) [Val.mk (3:Int) (0:Int) Qk []] []) Jv) (At Qb Qj fun y4=>Jn1 (fun (Zi:Int×ByteArray×ByteArray×List Val×List Ex×Int×Int×ByteArray×ByteArray×List Val×List Ex×Unit)=>Zr list Zi.2.2.2.2.2.1 y4.3 fun Zj R9=>K (Ex.mk (7:Int) Zi.2.1 Zi.2.2.1 [Zj] Zi.2.2.2.2.1) R9) fun (v63:Int×ByteArray×ByteArray×List Val×List Ex×Int×Int×ByteArray×ByteArray×List Val×List Ex×Unit->Prop)=>Qa list Q6 (5:Int) fun Zj R9=>Jn1 (fun (Zx:Int×Int×ByteArray×ByteArray×List Val×List Ex×Int×ByteArray×ByteArray×List Val×List Ex×Unit)=>Cnd (y4.3=2) (Qa list Zx.1 (4:Int) fun J8 z2m=>InI ((12:Int)+J8)/\Zr list z2m y4.3 fun Z1 U7=>K (Ex.mk ((12:Int)+J8) Zx.2.2.1 Zx.2.2.2.1 [Z1] Zx.2.2.2.2.2.1) U7) (Cnd (y4.3=3) (Qa list Zx.1 (4:Int) fun J8 z2m=>InI ((12:Int)+J8)/\Zr list z2m y4.3 fun Z1 U7=>K (Ex.mk ((12:Int)+J8) Zx.2.2.1 Zx.2.2.2.1 [Z1] Zx.2.2.2.2.2.1) U7) (Cnd (y4.3=4) (Qa list Zx.1 (4:Int) fun J8 z2m=>InI ((12:Int)+J8)/\Zr list z2m y4.3 fun Z1 U7=>K (Ex.mk ((12:Int)+J8) Zx.2.2.1 Zx.2.2.2.1 [Z1] Zx.2.2.2.2.2.1) U7) (v63 (Zx.2.1,Zx.2.2.1,Zx.2.2.2.1,Zx.2.2.2.2.1,Zx.2.2.2.2.2.1,Zx.1,Zx.2.2.2.2.2.2.1,Zx.2.2.2.2.2.2.2.1,Zx.2.2.2.2.2.2.2.2.1,Zx.2.2.2.2.2.2.2.2.2.1,Zx.2.2.2.2.2.2.2.2.2.2.1,()))))) fun (v1f:Int×Int×ByteArray×ByteArray×List Val×List Ex×Int×ByteArray×ByteArray×List Val×List Ex×Unit->Prop)=>Cnd (Zj=0) (K (Ex.mk (6:Int) y4.1 y4.2 [] []) R9) (Cnd (Zj=1) (Cnd (y4.3=5) (v63 ((0:Int),y4.1,y4.2,[],[],R9,(0:Int),B8 [],B8 [],[],[],())) (Lp3 (fun J8 z2m v4p v89=>Qa list v4p (3:Int) fun Z1 U7=>Cnd (J8<=Z1) (Zr list U7 y4.3 fun J2 q83=>Sml (z2m++[J2]).length/\InI (J8+1)/\v89 (J8+1) (z2m++[J2]) q83) (K (Ex.mk (8:Int) y4.1 y4.2 z2m []) U7)) (0:Int) [] R9)) (Cnd (Zj=2) (Cnd (y4.3=3) (Zr list R9 (3:Int) fun J8 z2m=>K (Ex.mk (11:Int) y4.1 y4.2 [J8] []) z2m) (Cnd (y4.3=5) (Zr list R9 (3:Int) fun J8 z2m=>K (Ex.mk (11:Int) y4.1 y4.2 [J8] []) z2m) (v63 ((0:Int),y4.1,y4.2,[],[],R9,(0:Int),B8 [],B8 [],[],[],())))) (Cnd (Zj=3) (Cnd (y4.3=3) (Qa list R9 (2:Int) fun J8 z2m=>InI ((9:Int)+J8)/\Zr list z2m (3:Int) fun Z1 U7=>K (Ex.mk ((9:Int)+J8) y4.1 y4.2 [Z1] []) U7) (v1f (R9,(0:Int),y4.1,y4.2,[],[],(0:Int),B8 [],B8 [],[],[],()))) (Cnd (Zj=4) (v1f (R9,(0:Int),y4.1,y4.2,[],[],(0:Int),B8 [],B8 [],[],[],())) (v63 ((0:Int),y4.1,y4.2,[],[],R9,(0:Int),B8 [],B8 [],[],[],())))))))
def q29:z45:=j5k Gh Q3 j04 Uy
abbrev Bh:Type:=List (Int)->Int->List (ByteArray)->Int->(Ex->Int->Prop)->Prop
def z1s(Qa:Qr)(q3m:z45)(X:Bh):Bh:=fun list at_ segments levels K=>Qa list at_ (8:Int) fun Qb Qq=>Jn1 (fun Qd=>Cnd (Qd=0) (K (Ex.mk (1:Int) (B8 []) (B8 []) [] []) Qq) (Cnd (Qd=3) (Fits segments->Cnd ((0:Int)<(↑segments.length:Int)) (Fits segments->Qa list Qq (↑segments.length:Int) fun Qk Jv=>At segments Qk fun y5=>K (Ex.mk (5:Int) (B8 []) y5 [] []) Jv) (q3m list Qq fun Qf Jw=>K (Ex.mk Qf.1 Qf.2 Qf.3 Qf.4 Qf.5) Jw)) (Cnd (Qd=4) (InI (levels - 1)/\X list Qq segments (levels - 1) fun Qj Q6=>K (Ex.mk (4:Int) (B8 []) (B8 []) [] [Ex.mk Qj.1 Qj.2 Qj.3 Qj.4 Qj.5]) Q6) (Jn1 (fun Qj=>Cnd (Qj=true) (Qa list Qq (2:Int) fun Qf Jw=>InI ((2:Int)+Qf)/\Qa list Jw (2:Int) fun Qk Jv=>InI ((2:Int)+Qk)/\LpH (fun (Qo:Int×Int×Int×ByteArray×ByteArray×List Val×List Ex×Unit) (w5b:Int×Int×Int×ByteArray×ByteArray×List Val×List Ex×Unit->Prop)=>Cnd (Qo.1<2+Qk) (InI (levels - 1)/\X list Qo.2.1 segments (levels - 1) fun Zi q5y=>Jn1 (fun (Zj:Int×ByteArray×ByteArray×List Val×List Ex×Unit)=>Sml (Qo.2.2.2.2.2.2.1++[Ex.mk Zj.1 Zj.2.1 Zj.2.2.1 Zj.2.2.2.1 Zj.2.2.2.2.1]).length/\InI (Qo.1+1)/\w5b (Qo.1+1,q5y,Qo.2.2.1,Qo.2.2.2.1,Qo.2.2.2.2.1,Qo.2.2.2.2.2.1,Qo.2.2.2.2.2.2.1++[Ex.mk Zj.1 Zj.2.1 Zj.2.2.1 Zj.2.2.2.1 Zj.2.2.2.2.1],())) fun (v84:Int×ByteArray×ByteArray×List Val×List Ex×Unit->Prop)=>Cnd (Zi.1=2+Qf) (v84 ((4:Int),B8 [],B8 [],[],[Ex.mk Zi.1 Zi.2 Zi.3 Zi.4 Zi.5],())) (v84 (Zi.1,Zi.2,Zi.3,Zi.4,Zi.5,()))) (K (Ex.mk Qo.2.2.1 Qo.2.2.2.1 Qo.2.2.2.2.1 Qo.2.2.2.2.2.1 Qo.2.2.2.2.2.2.1) Qo.2.1)) ((0:Int),Jv,(2:Int)+Qf,B8 [],B8 [],[],[],())) (q3m list Qq fun Qf Jw=>K (Ex.mk Qf.1 Qf.2 Qf.3 Qf.4 Qf.5) Jw)) fun j6r=>Cnd (Qd=5) (j6r (decide (Qd=5))) (j6r (decide (Qd=6))))))) fun j3n=>Cnd (levels<=1) (Cnd ((4:Int)<=Qb) (InI (Qb - 4)/\j3n (Qb - 4)) (j3n Qb)) (j3n Qb)
def q5e:Bh:=fun list at_ segments levels K=> ∀X:Bh,(∀list at_ segments levels K,z1s Q3 q29 X list at_ segments levels K->X list at_ segments levels K)->X list at_ segments levels K
abbrev q13:Type:=List (Int)->Int->ByteArray->ByteArray->Int->List (Decl)->List (Seg)->List (Flg)->List (Lay_)->List (Exper)->(Int->ByteArray->ByteArray->Int->List (Decl)->List (Seg)->List (Flg)->List (Lay_)->List (Exper)->Prop)->Prop
def q97(Qa:Qr)(q0i:z1r)(J3:Bg)(Vz:Bh):q13:=fun list at_ salt hkind hold attrs segs flags layers expers K=>Qa list at_ (4:Int) fun Qb Qq=>q0i Qb [B8 [97,108,112,104,97],B8 [98,101,116,97],B8 [103,97,109,109,97]] fun Qd=>Lp3 (fun Qj Q6 j89 v8f=>Fits Qd->CAt Qd Qj (fun y4=>J3 list Q6 fun Zi q5y=>J3 list q5y fun Zj R9=>Jn2 (fun Zx z27=>Jn1 (fun (J8:Int×ByteArray×ByteArray×List Val×List Ex×Int×Unit)=>Sml (j89++[Seg.mk y4 Zx Zi Zj (Ex.mk J8.1 J8.2.1 J8.2.2.1 J8.2.2.2.1 J8.2.2.2.2.1)]).length/\InI (Qj+1)/\v8f (Qj+1) J8.2.2.2.2.2.1 (j89++[Seg.mk y4 Zx Zi Zj (Ex.mk J8.1 J8.2.1 J8.2.2.1 J8.2.2.2.1 J8.2.2.2.2.1)])) fun (v85:Int×ByteArray×ByteArray×List Val×List Ex×Int×Unit->Prop)=>Qa list z27 (3:Int) fun Z1 U7=>Cnd ((0:Int)<Z1) (((0:Int)<=(0:Int)/\(0:Int)<=Qj/\Qj<=(↑Qd.length:Int))/\Vz list U7 (List.drop (Int.toNat (0:Int)) (List.take Qj.toNat Qd)) (3:Int) fun J2 q83=>v85 (J2.1,J2.2,J2.3,J2.4,J2.5,q83,())) (v85 ((0:Int),B8 [],B8 [],[],[],U7,()))) fun v1f=>Qa list R9 (4:Int) fun J8 z2m=>Cnd (J8=1) (v1f (B8 [100,101,118,105,99,101]) z2m) (v1f (B8 [117,115,101,114]) z2m)) (K Q6 salt hkind hold attrs j89 flags layers expers)) (0:Int) Qq segs
def q5f:q13:=q97 Q3 z9z q5d q5e
abbrev V0:Type:=Envt->(List (ByteArray)->Prop)->Prop
def V1:V0:=fun v K=>Lp2 (fun Qb Qq R8=>Fits v.3->CAt v.3 Qq (fun y2=>Sml (Qb++[y2.1]).length/\InI (Qq+1)/\R8 (Qb++[y2.1]) (Qq+1)) (K Qb)) [] (0:Int)
abbrev q34:Type:=List (Int)->Int->Int->(List (Rng)->Int->Prop)->Prop
def z47(Qa:Qr)(Zz:G4):q34:=fun list at_ n K=>Jn4 (fun Qb Qq v8g z80=>Qa list z80 n fun Qd Q5=>InI ((1:Int)+Qd)/\Jn1 (fun Qj=>Sml (Qb++[Rng.mk Qq (10000:Int) Qj]).length/\K (Qb++[Rng.mk Qq (10000:Int) Qj]) Q5) fun j6r=>Cnd ((1:Int)+Qd=v8g) (n≠(0:Int)/\InI ((1:Int)+((1:Int)+Qd).tmod n)/\j6r ((1:Int)+((1:Int)+Qd).tmod n)) (j6r ((1:Int)+Qd))) fun z4q=>Lp5 (fun Qd Q5 j2x j4s v9a v9b=>Qa list v9a (4:Int) fun Qj Q6=>Cnd (j4s<Qj) (Cnd ((1:Int)<n) (InI (Q5+1)/\Zz list Q6 (5000:Int) fun Qf Jw=>InI (Q5+1+Qf)/\Qa list Jw n fun Qk Jv=>InI ((1:Int)+Qk)/\Jn1 (fun Qo=>Cnd ((10000:Int)<=Q5+1+Qf) (z4q Qd Q5 j2x Jv) (Sml (Qd++[Rng.mk Q5 (Q5+1+Qf) Qo]).length/\InI (j4s+1)/\v9b (Qd++[Rng.mk Q5 (Q5+1+Qf) Qo]) (Q5+1+Qf) Qo (j4s+1) Jv)) fun v4q=>Cnd ((1:Int)+Qk=j2x) (n≠(0:Int)/\InI ((1:Int)+((1:Int)+Qk).tmod n)/\v4q ((1:Int)+((1:Int)+Qk).tmod n)) (v4q ((1:Int)+Qk))) (z4q Qd Q5 j2x Q6)) (z4q Qd Q5 j2x Q6)) [] (0:Int) (0:Int) (0:Int) at_
def q35:q34:=z47 Q3 q5c
abbrev q36:Type:=List (Int)->Int->Int->(Srv->Int->Prop)->Prop
def z48(Qa:Qr)(Zy:Uj)(q0j:q34)(Zv:Ue):q36:=fun list at_ n K=>Qa list at_ (2:Int) fun Qb Qq=>Cnd (Qb=0) (Qa list Qq n fun Qd Q5=>InI ((1:Int)+Qd)/\K (Srv.mk ((1:Int)+Qd) (B8 []) (B8 []) (B8 []) []) Q5) (Zy list Qq fun Qd Q5=>q0j list Q5 n fun Qj Q6=>Zv fun Qf=>Qa list Q6 (12:Int) fun Qk Jv=>Fits Qf->CAt Qf Qk (fun y6=>Cnd (y6.3=5) (K (Srv.mk (0:Int) (B8 [117,115,101,114]) (B8 [107,101,121]) Qd Qj) Jv) (At Qf Qk fun y8=>At Qf Qk fun y10=>K (Srv.mk (0:Int) y8.1 y10.2 Qd Qj) Jv)) (K (Srv.mk (0:Int) (B8 [117,115,101,114]) (B8 [107,101,121]) Qd Qj) Jv))
def Bi:q36:=z48 Q3 q28 q35 Gh
abbrev z49:Type:=(List (Nd)->(Nd->Option (Int))->Bool->Prop)->Prop
def j7z:z49:=fun K=>K [] (fun _=>none) false
abbrev Gj:Type:=Int->(Bool->Prop)->Prop
def Wl:Gj:=fun op K=>Cnd ((6:Int)<=op) (K (decide (op<=15))) (K false)
abbrev z5a:Type:=List (ByteArray)->List (ByteArray)->(Bool->Prop)->Prop
def z5b:z5a:=fun a b K=>Fits a->Fits b->Cnd ((↑a.length:Int)=(↑b.length:Int)) (Lp1 (fun Qj j2v=>Fits a->CAt a Qj (fun y4=>At b Qj fun y6=>Cnd (y4=y6) (InI (Qj+1)/\j2v (Qj+1)) (K false)) (K true)) (0:Int)) (K false)
abbrev q6s:Type:=Val->Val->(Bool->Prop)->Prop
def z66(z6c:z5a):q6s:=fun a b K=>Cnd (a.1=b.1) (Cnd (a.2=b.2) (Cnd (a.3=b.3) (z6c a.4 b.4 fun Qb=>K Qb) (K false)) (K false)) (K false)
def z1t:q6s:=z66 z5b
abbrev V2:Type:=List (Val)->List (Val)->(Bool->Prop)->Prop
def q37(z2n:q6s):V2:=fun a b K=>Fits a->Fits b->Cnd ((↑a.length:Int)=(↑b.length:Int)) (Lp1 (fun Qj j2v=>Fits a->CAt a Qj (fun y4=>At b Qj fun y6=>z2n y4 y6 fun Zx=>Cnd (Zx=true) (InI (Qj+1)/\j2v (Qj+1)) (K false)) (K true)) (0:Int)) (K false)
def W4:V2:=q37 z1t
abbrev Wt:Type:=Ex->Ex->(Bool->Prop)->Prop
def q3a(Uc:V2)(X:Wt):Wt:=fun a b K=>Cnd (a.1=b.1) (Cnd (a.2=b.2) (Cnd (a.3=b.3) (Uc a.4 b.4 fun Qb=>Cnd (Qb=true) (Fits a.5->Fits b.5->Cnd ((↑a.5.length:Int)=(↑b.5.length:Int)) (Lp1 (fun Qf j6v=>Fits a.5->CAt a.5 Qf (fun y5=>At b.5 Qf fun y7=>X (Ex.mk y5.1 y5.2 y5.3 y5.4 y5.5) (Ex.mk y7.1 y7.2 y7.3 y7.4 y7.5) fun J8=>Cnd (J8=true) (InI (Qf+1)/\j6v (Qf+1)) (K false)) (K true)) (0:Int)) (K false)) (K false)) (K false)) (K false)) (K false)
def Uk:Wt:=fun a b K=> ∀X:Wt,(∀a b K,q3a W4 X a b K->X a b K)->X a b K
abbrev q38:Type:=List (Ex)->Ex->(Int->Prop)->Prop
def z3v(Ww:Wt):q38:=fun l e K=>Lp1 (fun Qb Gd=>Fits l->CAt l Qb (fun y2=>Ww (Ex.mk y2.1 y2.2 y2.3 y2.4 y2.5) (Ex.mk e.1 e.2 e.3 e.4 e.5) fun Qk=>Cnd (Qk=true) (K Qb) (InI (Qb+1)/\Gd (Qb+1))) (K (-1:Int))) (0:Int)
def Vq:q38:=z3v Uk
abbrev Vr:Type:=List (Ex)->Ex->(List (Ex)->Prop)->Prop
def q58(q84:q38)(Z4:Gj)(X:Vr):Vr:=fun l e K=>Jn1 (fun Qb=>Lp2 (fun Qd Q5 q9s=>Fits e.5->CAt e.5 Q5 (fun y3=>X Qd (Ex.mk y3.1 y3.2 y3.3 y3.4 y3.5) fun Qo=>InI (Q5+1)/\q9s Qo (Q5+1)) (K Qd)) Qb (0:Int)) fun z4q=>Cnd (e.1=5) (q84 l (Ex.mk e.1 e.2 e.3 e.4 e.5) fun Qd=>Cnd (Qd<0) ((Sml ([]++l).length/\Sml ([]++l++[Ex.mk e.1 e.2 e.3 e.4 e.5]).length/\z4q ([]++l++[Ex.mk e.1 e.2 e.3 e.4 e.5]))/\Sml ([]++l).length/\Sml ([]++l++[Ex.mk e.1 e.2 e.3 e.4 e.5]).length/\z4q ([]++l++[Ex.mk e.1 e.2 e.3 e.4 e.5])) (z4q l)) (Z4 e.1 fun Qd=>Cnd (Qd=true) (q84 l (Ex.mk e.1 e.2 e.3 e.4 e.5) fun Qj=>Cnd (Qj<0) ((Sml ([]++l).length/\Sml ([]++l++[Ex.mk e.1 e.2 e.3 e.4 e.5]).length/\z4q ([]++l++[Ex.mk e.1 e.2 e.3 e.4 e.5]))/\Sml ([]++l).length/\Sml ([]++l++[Ex.mk e.1 e.2 e.3 e.4 e.5]).length/\z4q ([]++l++[Ex.mk e.1 e.2 e.3 e.4 e.5])) (z4q l)) (z4q l))
def q1n:Vr:=fun l e K=> ∀X:Vr,(∀l e K,q58 Vq Wl X l e K->X l e K)->X l e K
abbrev Gk:Type:=List (Rul)->(List (Ex)->Prop)->Prop
def q39(q1y:Vr):Gk:=fun l K=>Lp2 (fun Qb Qq R8=>Fits l->CAt l Qq (fun y2=>q1y Qb (Ex.mk y2.2.1 y2.2.2 y2.2.3 y2.2.4 y2.2.5) fun Qk=>InI (Qq+1)/\R8 Qk (Qq+1)) (K Qb)) [] (0:Int)
def Bj:Gk:=q39 q1n
abbrev Wa:Type:=List (Nd)->(Nd->Option (Int))->Bool->Int->(Bool->List (Nd)->(Nd->Option (Int))->Bool->Prop)->Prop
def Ul:Wa:=fun ns ids full id K=>Cnd ((-1002:Int)<id) (Fits ns->K (decide (id<(↑ns.length:Int))) ns ids full) (K false ns ids full)
abbrev H2:Type:=List (Nd)->(Nd->Option (Int))->Bool->Int->((Int->Option (Bool))->List (Nd)->(Nd->Option (Int))->Bool->Prop)->Prop
def H3:H2:=fun ns ids full id K=>Lp2 (fun Qb Gd R8=>Fits Qb->Cnd ((0:Int)<(↑Qb.length:Int)) (Fits Qb->InI ((↑Qb.length:Int) - 1)/\((0:Int)<=(↑Qb.length:Int) - 1/\(↑Qb.length:Int) - 1<(↑Qb.length:Int))/\ ∀y3,Qb[((↑Qb.length:Int) - 1).toNat]? =some y3->Fits Qb->InI ((↑Qb.length:Int) - 1)/\((0:Int)<=(↑Qb.length:Int) - 1/\(↑Qb.length:Int) - 1<=(↑Qb.length:Int))/\Cnd ((Gd y3).getD false=true) (R8 (List.take ((↑Qb.length:Int) - 1).toNat Qb) Gd) (Cnd ((0:Int)<=y3) (At ns y3 fun y6=>At ns y3 fun y8=>Sml (List.take ((↑Qb.length:Int) - 1).toNat Qb++[y6.2.1,y8.2.2]).length/\R8 (List.take ((↑Qb.length:Int) - 1).toNat Qb++[y6.2.1,y8.2.2]) (put Gd y3 true)) (R8 (List.take ((↑Qb.length:Int) - 1).toNat Qb) (put Gd y3 true)))) (K Gd ns ids full)) [id] fun _=>none
abbrev V3:Type:=List (Nd)->(Nd->Option (Int))->Bool->Int->(List (Int)->List (Nd)->(Nd->Option (Int))->Bool->Prop)->Prop
def q6t(Q4:Wa)(Rh:H2):V3:=fun ns ids full id K=>Q4 ns ids full id fun Qb (Qq:List (Int×Int×Int)) R8 z80=>Cnd (Qb=true) (Rh Qq R8 z80 id fun j3n (Q5:List (Int×Int×Int)) q9s j4s=>Lp2 (fun Qj Q6 q85=>Cnd (Q6<=1000) (InI ((-1:Int) - Q6)/\Cnd ((j3n ((-1:Int) - Q6)).getD false=true) (Sml (Qj++[Q6]).length/\InI (Q6+1)/\q85 (Qj++[Q6]) (Q6+1)) (InI (Q6+1)/\q85 Qj (Q6+1))) (K Qj Q5 q9s j4s)) [] (0:Int)) (K [] Qq R8 z80)
def G5:V3:=q6t Ul H3
abbrev Zp:Type:=List (Nd)->(Nd->Option (Int))->Bool->Int->(Bool->List (Nd)->(Nd->Option (Int))->Bool->Prop)->Prop
def q21(Q4:Wa)(Hh:V3):Zp:=fun ns ids full id K=>Q4 ns ids full id fun Qb (Qq:List (Int×Int×Int)) R8 z80=>Cnd (Qb=true) (Hh Qq R8 z80 id fun Qd (Q5:List (Int×Int×Int)) q9s j4s=>Lp1 (fun Qj j2v=>Fits Qd->CAt Qd Qj (fun y4=>Cnd ((1:Int)<y4) (K false Q5 q9s j4s) (InI (Qj+1)/\j2v (Qj+1))) (K true Q5 q9s j4s)) (0:Int)) (K false Qq R8 z80)
def J0:Zp:=q21 Ul G5
abbrev Vs:Type:=List (Nd)->(Nd->Option (Int))->Bool->Int->(Int->List (Nd)->(Nd->Option (Int))->Bool->Prop)->Prop
def Wb:Vs:=fun ns ids full id K=>Cnd (id<0) (K (1001:Int) ns ids full) (At ns id fun y0=>K y0.1 ns ids full)
abbrev H4:Type:=List (Nd)->(Nd->Option (Int))->Bool->Int->Int->(Int->Int->List (Nd)->(Nd->Option (Int))->Bool->Prop)->Prop
def q9j(Zu:Vs):H4:=fun ns ids full id test K=>Zu ns ids full id fun Qb (Qq:List (Int×Int×Int)) R8 z80=>Cnd (Qb=test) (At Qq id fun y1=>At Qq id fun y3=>K y1.2.1 y3.2.2 Qq R8 z80) (K id id Qq R8 z80)
def Wm:H4:=q9j Wb
abbrev Gl:Type:=List (Nd)->(Nd->Option (Int))->Bool->Int->Int->Int->(Int->List (Nd)->(Nd->Option (Int))->Bool->Prop)->Prop
def q98(Q4:Wa)(Zu:Vs):Gl:=fun ns ids full test yes no K=>Cnd (test<0) (K (-1002:Int) ns ids full) (Cnd ((1000:Int)<test) (K (-1002:Int) ns ids full) (Q4 ns ids full yes fun Qb (Qq:List (Int×Int×Int)) R8 z80=>Cnd (Qb=true) (Q4 Qq R8 z80 no fun Qd (Q5:List (Int×Int×Int)) q9s j4s=>Cnd (Qd=true) (Zu Q5 q9s j4s yes fun Qj (Q6:List (Int×Int×Int)) q85 j2y=>Cnd (Qj<=test) (K (-1002:Int) Q6 q85 j2y) (Zu Q6 q85 j2y no fun Qf (Jw:List (Int×Int×Int)) j88 w87=>Cnd (Qf<=test) (K (-1002:Int) Jw j88 w87) (Cnd (yes=no) (K yes Jw j88 w87) (Cnd ((j88 (test,yes,no)).isSome=true) (K ((j88 (test,yes,no)).getD (0:Int)) Jw j88 w87) (Fits Jw->Cnd ((4000:Int)<=(↑Jw.length:Int)) (K (-1002:Int) Jw j88 true) (Fits Jw->Sml (Jw++[(test,yes,no)]).length/\((Jw++[(test,yes,no)]).length<=(9223372036854775807:Nat)->InI ((↑(Jw++[(test,yes,no)]).length:Int) - 1)/\K ((↑(Jw++[(test,yes,no)]).length:Int) - 1) (Jw++[(test,yes,no)]) (put j88 (test,yes,no) (↑Jw.length:Int)) w87))))))) (K (-1002:Int) Q5 q9s j4s)) (K (-1002:Int) Qq R8 z80)))
def Jh:Gl:=q98 Ul Wb
abbrev J5:Type:=List (Nd)->(Nd->Option (Int))->Bool->Int->Int->Int->(A3->Option (Int))->(Int->List (Nd)->(Nd->Option (Int))->Bool->(A3->Option (Int))->Prop)->Prop
def V4(Zu:Vs)(q2z:H4)(q44:Gl)(X:J5):J5:=fun ns ids full f g h known K=>Cnd (f=(-2:Int)) (K g ns ids full known) (Cnd (g=h) (K g ns ids full known) (Cnd (f=(-1:Int)) (K h ns ids full known) (Cnd ((known (f,g,h)).isSome=true) (K ((known (f,g,h)).getD (0:Int)) ns ids full known) (Zu ns ids full f fun Qb (Qq:List (Int×Int×Int)) R8 z80=>Zu Qq R8 z80 g fun Qd (Q5:List (Int×Int×Int)) q9s j4s=>Zu Q5 q9s j4s h fun Qj (Q6:List (Int×Int×Int)) q85 j2y=>q2z Q6 q85 j2y f (Min.min (Min.min Qb Qd) Qj) fun Qf Jw (v64:List (Int×Int×Int)) v8h v9c=>q2z v64 v8h v9c g (Min.min (Min.min Qb Qd) Qj) fun Qk Jv (z6n:List (Int×Int×Int)) w8z v9d=>q2z z6n w8z v9d h (Min.min (Min.min Qb Qd) Qj) fun Qo q6j (v9e:List (Int×Int×Int)) v9f v9g=>X v9e v9f v9g Qf Qk Qo known fun Zi (q5y:List (Int×Int×Int)) v2d v8i v9h=>X q5y v2d v8i Jw Jv q6j v9h fun Zj (R9:List (Int×Int×Int)) v45 w5c v6l=>Jn4 (fun Zx (z27:List (Int×Int×Int)) v9i v9j=>K Zx z27 v9j v9i (put v6l (f,g,h) Zx)) fun v1f=>Cnd (Zi=(-1002:Int)) (v1f (-1002:Int) R9 w5c v45) (Cnd (Zj=(-1002:Int)) (v1f (-1002:Int) R9 w5c v45) (q44 R9 v45 w5c (Min.min (Min.min Qb Qd) Qj) Zi Zj fun J8 (z2m:List (Int×Int×Int)) v6m w80=>v1f J8 z2m w80 v6m))))))
def G6:J5:=fun ns ids full f g h known K=> ∀X:J5,(∀ns ids full f g h known K,V4 Wb Wm Jh X ns ids full f g h known K->X ns ids full f g h known K)->X ns ids full f g h known K
abbrev Z9:Type:=List (Nd)->(Nd->Option (Int))->Bool->Int->Int->Int->(Int->List (Nd)->(Nd->Option (Int))->Bool->Prop)->Prop
def q6u(Qu:Zp)(Q4:Wa)(Hi:J5):Z9:=fun ns ids full f g h K=>Qu ns ids full f fun Qb (Qq:List (Int×Int×Int)) R8 z80=>Cnd (Qb=true) (Q4 Qq R8 z80 g fun Qd (Q5:List (Int×Int×Int)) q9s j4s=>Cnd (Qd=true) (Q4 Q5 q9s j4s h fun Qj (Q6:List (Int×Int×Int)) q85 j2y=>Cnd (Qj=true) (Hi Q6 q85 j2y f g h (fun _=>none) fun Qf (Jw:List (Int×Int×Int)) j88 w87 _=>K Qf Jw j88 w87) (K (-1002:Int) Q6 q85 j2y)) (K (-1002:Int) Q5 q9s j4s)) (K (-1002:Int) Qq R8 z80)
def Wz:Z9:=q6u J0 Ul G6
abbrev q1o:Type:=List (Nd)->(Nd->Option (Int))->Bool->Int->(Int->List (Nd)->(Nd->Option (Int))->Bool->Prop)->Prop
def z3d(Q7:Z9):q1o:=fun ns ids full f K=>Q7 ns ids full f (-1:Int) (-2:Int) fun Qb (Qq:List (Int×Int×Int)) R8 z80=>K Qb Qq R8 z80
def U4:q1o:=z3d Wz
abbrev q1p:Type:=List (Nd)->(Nd->Option (Int))->Bool->Int->Int->(Int->List (Nd)->(Nd->Option (Int))->Bool->Prop)->Prop
def z3e(Qu:Zp)(Q7:Z9):q1p:=fun ns ids full f g K=>Qu ns ids full g fun Qb (Qq:List (Int×Int×Int)) R8 z80=>Cnd (Qb=true) (Q7 Qq R8 z80 f g (-1:Int) fun Qd (Q5:List (Int×Int×Int)) q9s j4s=>K Qd Q5 q9s j4s) (K (-1002:Int) Qq R8 z80)
def U5:q1p:=z3e J0 Wz
abbrev G7:Type:=List (Nd)->(Nd->Option (Int))->Bool->Int->Int->(Int->List (Nd)->(Nd->Option (Int))->Bool->Prop)->Prop
def z5c(Qu:Zp)(Q7:Z9):G7:=fun ns ids full f g K=>Qu ns ids full g fun Qb (Qq:List (Int×Int×Int)) R8 z80=>Cnd (Qb=true) (Q7 Qq R8 z80 f (-2:Int) g fun Qd (Q5:List (Int×Int×Int)) q9s j4s=>K Qd Q5 q9s j4s) (K (-1002:Int) Qq R8 z80)
def Um:G7:=z5c J0 Wz
abbrev W5:Type:=List (Nd)->(Nd->Option (Int))->Bool->List (Ex)->Ex->(Int->List (Nd)->(Nd->Option (Int))->Bool->Prop)->Prop
def q4a(j3o:q1o)(j3p:q1p)(Hj:G7)(q84:q38)(q44:Gl)(X:W5):W5:=fun ns ids full atoms e K=>Cnd (e.1=1) (K (-2:Int) ns ids full) (Cnd (e.1=4) (((0:Int)<=(0:Int)/\(0:Int)<(↑e.5.length:Int))/\ ∀y0,e.5[Int.toNat (0:Int)]? =some y0->X ns ids full atoms (Ex.mk y0.1 y0.2 y0.3 y0.4 y0.5) fun Qj (Q6:List (Int×Int×Int)) q85 j2y=>j3o Q6 q85 j2y Qj fun Qf (Jw:List (Int×Int×Int)) j88 w87=>K Qf Jw j88 w87) (Jn1 (fun Qb=>Cnd (Qb=true) (((0:Int)<=(0:Int)/\(0:Int)<(↑e.5.length:Int))/\ ∀y1,e.5[Int.toNat (0:Int)]? =some y1->X ns ids full atoms (Ex.mk y1.1 y1.2 y1.3 y1.4 y1.5) fun Qf (Jw:List (Int×Int×Int)) j88 w87=>Lp5 (fun Qk Jv (z6n:List (Int×Int×Int)) v65 v66 v86=>Fits e.5->CAt e.5 Jv (fun y6=>X z6n v66 v65 atoms (Ex.mk y6.1 y6.2 y6.3 y6.4 y6.5) fun Zx (z27:List (Int×Int×Int)) v6n v87=>Cnd (e.1=2) (j3p z27 v6n v87 Qk Zx fun J8 (z2m:List (Int×Int×Int)) v6m w80=>InI (Jv+1)/\v86 J8 (Jv+1) z2m w80 v6m) (Hj z27 v6n v87 Qk Zx fun J8 (z2m:List (Int×Int×Int)) v6m w80=>InI (Jv+1)/\v86 J8 (Jv+1) z2m w80 v6m)) (K Qk z6n v66 v65)) Qf (1:Int) Jw w87 j88) (q84 atoms (Ex.mk e.1 e.2 e.3 e.4 e.5) fun Qd=>Cnd (Qd<0) (K (-1002:Int) ns ids full) (q44 ns ids full Qd (-2:Int) (-1:Int) fun Qj (Q6:List (Int×Int×Int)) q85 j2y=>K Qj Q6 q85 j2y))) fun z4q=>Cnd (e.1=2) (z4q (decide (e.1=2))) (z4q (decide (e.1=3)))))
def Bk:W5:=fun ns ids full atoms e K=> ∀X:W5,(∀ns ids full atoms e K,q4a U4 U5 Um Vq Jh X ns ids full atoms e K->X ns ids full atoms e K)->X ns ids full atoms e K
abbrev Ja:Type:=List (Rul)->(List (Int)->Int->Bool->Prop)->Prop
def q01(z6d:z49)(q0k:Gk)(q0l:W5)(Hj:G7):Ja:=fun l K=>z6d fun (Qb:List (Int×Int×Int)) Gd v8g=>q0k l fun Qd=>LpH (fun Qj j2v=>Fits l->CAt l Qj.2.2.1 (fun y4=>q0l Qj.2.2.2.1 Qj.2.2.2.2.2.1 Qj.2.2.2.2.1 Qd (Ex.mk y4.2.1 y4.2.2 y4.2.3 y4.2.4 y4.2.5) fun Zi (q5y:List (Int×Int×Int)) v2d v8i=>Hj q5y v2d v8i Qj.1 Zi fun Zj (R9:List (Int×Int×Int)) v45 w5c=>Cnd (Zj=(-1002:Int)) (Fits R9->K [] (↑R9.length:Int) false) (Cnd (Zj=Qj.1) (InI (Qj.2.2.1+1)/\Sml (Qj.2.1++[Qj.2.2.1+1]).length/\InI (Qj.2.2.1+1)/\j2v (Zj,Qj.2.1++[Qj.2.2.1+1],Qj.2.2.1+1,R9,w5c,v45,())) (InI (Qj.2.2.1+1)/\j2v (Zj,Qj.2.1,Qj.2.2.1+1,R9,w5c,v45,())))) (Fits Qj.2.2.2.1->K Qj.2.1 (↑Qj.2.2.2.1.length:Int) true)) ((-1:Int),[],(0:Int),Qb,v8g,Gd,())
def J6:Ja:=q01 j7z Bj Bk Um
abbrev q99:Type:=List (Int)->Int->ByteArray->(Lay_->Int->Prop)->Prop
def j05(Zy:Uj)(Qa:Qr)(Zz:G4):q99:=fun list at_ key K=>Zy list at_ fun Qb Qq=>Qa list Qq (3:Int) fun Qd Q5=>InI (Qd*50)/\Jn2 (fun Qj Q6=>Jn2 (fun Qf Jw=>Lp4 (fun Qk Jv z6n v65 v66=>Qa list v65 (3:Int) fun Qo q6j=>Cnd (Jv<Qo) (Zz list q6j (3000:Int) fun Zi q5y=>InI (Qk+Zi)/\InI (Qk+Zi+1)/\Zz list q5y (2000:Int) fun Zj R9=>InI (Qk+Zi+1+Zj)/\Cnd ((10000:Int)<Qk+Zi+1+Zj) (K (Lay_.mk key Qj Qb Qf (Qd*50) z6n) R9) (Qa list R9 (200:Int) fun Zx z27=>Sml (z6n++[Col.mk (Qk+Zi) (Qk+Zi+1+Zj) Zx]).length/\InI (Jv+1)/\v66 (Qk+Zi+1+Zj) (Jv+1) (z6n++[Col.mk (Qk+Zi) (Qk+Zi+1+Zj) Zx]) z27)) (K (Lay_.mk key Qj Qb Qf (Qd*50) z6n) q6j)) (0:Int) (0:Int) [] Jw) fun v6o=>Qa list Q6 (2:Int) fun Qk Jv=>Cnd (Qk=1) (Zz list Jv (3000:Int) fun Qo q6j=>v6o Qo q6j) (v6o (0:Int) Jv)) fun j6r=>Qa list Q5 (4:Int) fun Qf Jw=>Cnd (Qf=1) (j6r (B8 [100,101,118,105,99,101]) Jw) (j6r (B8 [117,115,101,114]) Jw)
def z5d:q99:=j05 q28 Q3 q5c
abbrev Rz:Type:=Int->(Bool->Prop)->Prop
def R0:Rz:=fun now K=>Cnd ((0:Int)<=now) (K (decide (now<=1099511627776))) (K false)
abbrev Zg:Type:=Envt->ByteArray->(Int->Prop)->Prop
def Zw:Zg:=fun v key K=>Lp1 (fun Qb Gd=>Fits v.5->CAt v.5 Qb (fun y2=>Cnd (y2.1=key) (K Qb) (InI (Qb+1)/\Gd (Qb+1))) (K (-1:Int))) (0:Int)
abbrev Ji:Type:=List (Col)->Int->(List (Int)->Prop)->Prop
def Z3:Ji:=fun l now K=>((0:Int)<=(10000:Int)/\(10000:Int)<=(10000:Int)/\Sml (Int.toNat (10000:Int)))/\Lp2 (fun Qb Qq R8=>Fits Qq->CAt Qq Qb (fun _=>InI (Qb+1)/\R8 (Qb+1) (Qq.set Qb.toNat now)) (Lp2 (fun Qj Q6 q85=>Fits l->CAt l Qj (fun y4=>Lp2 (fun Zi q5y v2d=>At l Qj fun y7=>Cnd (Zi<Min.min y7.2 (10000:Int)) (At q5y Zi fun y9=>At l Qj fun y11=>At q5y Zi fun _=>InI (Zi+1)/\v2d (Zi+1) (q5y.set Zi.toNat (Max.max y9 y11.3))) (InI (Qj+1)/\q85 (Qj+1) q5y)) (Max.max y4.1 (0:Int)) Q6) (K Q6)) (0:Int) Qq)) (0:Int) (List.replicate (Int.toNat (10000:Int)) (0:Int))
abbrev Jx:Type:=List (Bool)->(List (Spn)->Prop)->Prop
def W6:Jx:=fun set_ K=>Lp2 (fun Qb Qq R8=>Fits set_->CAt set_ Qq (fun y2=>Cnd (y2=true) (Cnd ((0:Int)<Qq) (InI (Qq - 1)/\((0:Int)<=Qq - 1/\Qq - 1<(↑set_.length:Int))/\ ∀y4,set_[(Qq - 1).toNat]? =some y4->Cnd (y4=true) (Fits Qb->InI ((↑Qb.length:Int) - 1)/\InI (Qq+1)/\((0:Int)<=(↑Qb.length:Int) - 1/\(↑Qb.length:Int) - 1<(↑Qb.length:Int))/\ ∀y7,Qb[((↑Qb.length:Int) - 1).toNat]? =some y7->InI (Qq+1)/\R8 (Qb.set ((↑Qb.length:Int) - 1).toNat (Spn.mk y7.1 (Qq+1))) (Qq+1)) (InI (Qq+1)/\Sml (Qb++[Spn.mk Qq (Qq+1)]).length/\InI (Qq+1)/\R8 (Qb++[Spn.mk Qq (Qq+1)]) (Qq+1))) (InI (Qq+1)/\Sml (Qb++[Spn.mk Qq (Qq+1)]).length/\InI (Qq+1)/\R8 (Qb++[Spn.mk Qq (Qq+1)]) (Qq+1))) (InI (Qq+1)/\R8 Qb (Qq+1))) (K Qb)) [] (0:Int)
abbrev Rn:Type:=List (Int)->Int->(List (Spn)->Prop)->Prop
def q7y(Qx:Jx):Rn:=fun until_ now K=>Fits until_->((0:Int)<=(↑until_.length:Int)/\(↑until_.length:Int)<=(↑until_.length:Int)/\Sml (↑until_.length:Int).toNat)/\Lp2 (fun Qd Q5 q9s=>Fits until_->CAt until_ Qd (fun y3=>At Q5 Qd fun _=>InI (Qd+1)/\q9s (Qd+1) (Q5.set Qd.toNat (decide (now<y3)))) (Qx Q5 fun Qf=>K Qf)) (0:Int) (List.replicate (↑until_.length:Int).toNat false)
def Un:Rn:=q7y W6
abbrev J4:Type:=List (Spn)->(List (Bool)->Prop)->Prop
def V5:J4:=fun l K=>((0:Int)<=(10000:Int)/\(10000:Int)<=(10000:Int)/\Sml (Int.toNat (10000:Int)))/\Lp2 (fun Qb Qq R8=>Fits l->CAt l Qb (fun y2=>Lp2 (fun Qk Jv v4r=>At l Qb fun y5=>Cnd (Qk<Min.min y5.2 (10000:Int)) (At Jv Qk fun _=>InI (Qk+1)/\v4r (Qk+1) (Jv.set Qk.toNat true)) (InI (Qb+1)/\R8 (Qb+1) Jv)) (Max.max y2.1 (0:Int)) Qq) (K Qq)) (0:Int) (List.replicate (Int.toNat (10000:Int)) false)
abbrev Rp:Type:=List (Spn)->List (Spn)->(List (Spn)->Prop)->Prop
def q7z(Qs:J4)(Qx:Jx):Rp:=fun a b K=>Qs a fun Qb=>Qs b fun Qd=>Lp2 (fun Qj Q6 q85=>Fits Q6->CAt Q6 Qj (fun y4=>Cnd (y4=true) (At Q6 Qj fun _=>InI (Qj+1)/\q85 (Qj+1) (Q6.set Qj.toNat true)) (At Qd Qj fun y6=>At Q6 Qj fun _=>InI (Qj+1)/\q85 (Qj+1) (Q6.set Qj.toNat y6))) (Qx Q6 fun Qk=>K Qk)) (0:Int) Qb
def Rq:Rp:=q7z V5 W6
abbrev Rr:Type:=Envt->ByteArray->ByteArray->Int->(List (Spn)->Prop)->Prop
def z3w(Qg:Zg)(Wp:Rp)(Qp:Ji)(Wq:Rn):Rr:=fun v layer but now K=>Qg (Envt.mk (Sett.mk v.1.1 v.1.2 v.1.3) v.2 v.3 v.4 v.5 v.6) layer fun Qb=>Cnd (Qb<0) (K []) (Jn1 (fun Qd=>Lp2 (fun Qj Q6 q85=>Fits v.6->CAt v.6 Q6 (fun y4=>Cnd (y4.2=layer) (Cnd (y4.1=but) (InI (Q6+1)/\q85 Qj (Q6+1)) (Cnd (y4.5=3) (InI (Q6+1)/\q85 Qj (Q6+1)) (Wp Qj y4.6 fun Zi=>InI (Q6+1)/\q85 Zi (Q6+1)))) (InI (Q6+1)/\q85 Qj (Q6+1))) (K Qj)) Qd (0:Int)) fun j3n=>At v.5 Qb fun y2=>At v.5 Qb fun y4=>(Qp y4.6 now fun Zi=>Wq Zi now fun Zj=>Wp [Spn.mk (0:Int) y2.4] Zj fun Zx=>j3n Zx)/\Qp y4.6 now fun Zi=>(Wq Zi now fun Zj=>Wp [Spn.mk (0:Int) y2.4] Zj fun Zx=>j3n Zx)/\Wq Zi now fun Zj=>Wp [Spn.mk (0:Int) y2.4] Zj fun Zx=>j3n Zx)
def q4b:Rr:=z3w Zw Rq Z3 Un
abbrev W7:Type:=List (Spn)->List (Spn)->(List (Spn)->Prop)->Prop
def q70(Qs:J4)(Qx:Jx):W7:=fun a b K=>Qs a fun Qb=>Qs b fun Qd=>Lp2 (fun Qj Q6 q85=>Fits Q6->CAt Q6 Qj (fun y4=>Cnd (y4=true) (At Qd Qj fun y6=>At Q6 Qj fun _=>InI (Qj+1)/\q85 (Qj+1) (Q6.set Qj.toNat (match decide ((flC C.bool y6).1=true) with|true=>false|false=>true))) (At Q6 Qj fun _=>InI (Qj+1)/\q85 (Qj+1) (Q6.set Qj.toNat false))) (Qx Q6 fun Qk=>K Qk)) (0:Int) Qb
def Vt:W7:=q70 V5 W6
abbrev q02:Type:=Envt->ByteArray->Int->(List (Spn)->Int->Prop)->Prop
def z67(Wh:Rz)(Qg:Zg)(Uu:Rr)(Zs:W7):q02:=fun v layer now K=>Wh now fun Qb=>Cnd (Qb=true) (Qg (Envt.mk (Sett.mk v.1.1 v.1.2 v.1.3) v.2 v.3 v.4 v.5 v.6) layer fun Qd=>Cnd (Qd<0) (K [] (11:Int)) (Uu (Envt.mk (Sett.mk v.1.1 v.1.2 v.1.3) v.2 v.3 v.4 v.5 v.6) layer (B8 []) now fun Qj=>Zs [Spn.mk (0:Int) (10000:Int)] Qj fun Qf=>K Qf (0:Int))) (K [] (3:Int))
def q6v:q02:=z67 R0 Zw q4b Vt
abbrev Uo:Type:=List (Spn)->Int->(List (Spn)->Prop)->Prop
def z3x(Qs:J4)(Qx:Jx):Uo:=fun l n K=>Qs l fun Qb=>Lp3 (fun Qd Q5 j2x w8y=>Fits j2x->CAt j2x Q5 (fun y3=>Cnd (y3=true) (Cnd (Qd<=0) (At j2x Q5 fun _=>InI (Q5+1)/\w8y Qd (Q5+1) (j2x.set Q5.toNat false)) (At j2x Q5 fun y5=>Cnd (y5=true) (InI (Qd - 1)/\InI (Q5+1)/\w8y (Qd - 1) (Q5+1) j2x) (InI (Q5+1)/\w8y Qd (Q5+1) j2x))) (At j2x Q5 fun y5=>Cnd (y5=true) (InI (Qd - 1)/\InI (Q5+1)/\w8y (Qd - 1) (Q5+1) j2x) (InI (Q5+1)/\w8y Qd (Q5+1) j2x))) (Qx j2x fun Qf=>K Qf)) n (0:Int) Qb
def q03:Uo:=z3x V5 W6
abbrev Bl:Type:=ByteArray->(Bool->Prop)->Prop
def Bm(s:ByteArray)(K:Bool->Prop):Prop:=s.size<=(9223372036854775807:Nat)/\K (Go.Lib.validD s.data.toList)
abbrev Js:Type:=ByteArray->(Bool->Prop)->Prop
def z68(Ge:Bl):Js:=fun s K=>Cnd ((200:Int)<(↑s.size:Int)) (K false) (Ge s fun Qb=>Cnd (Qb=true) (Lp1 (fun Qd q1z=>Cnd (Qd<(↑s.size:Int)) (((0:Int)<=Qd/\Qd<(↑s.size:Int))/\ ∀b2,s[Qd.toNat]? =some b2->Cnd ((↑b2.toNat:Int)<32) (K false) (((0:Int)<=Qd/\Qd<(↑s.size:Int))/\ ∀b4,s[Qd.toNat]? =some b4->Cnd ((↑b4.toNat:Int)=127) (K false) (InI (Qd+1)/\q1z (Qd+1)))) (K true)) (0:Int)) (K false))
def U6:Js:=z68 Bm
abbrev z5e:Type:=ByteArray->(Bool->Prop)->Prop
def z5f:z5e:=fun s K=>Lp1 (fun Qb Gd=>Cnd (Qb<(↑s.size:Int)) (((0:Int)<=Qb/\Qb<(↑s.size:Int))/\ ∀b1,s[Qb.toNat]? =some b1->Cnd ((97:Int)<=(↑b1.toNat:Int)) (Cnd ((↑b1.toNat:Int)<=122) (InI (Qb+1)/\Gd (Qb+1)) (Cnd (Qb=0) (K false) (Cnd ((48:Int)<=(↑b1.toNat:Int)) (Cnd ((↑b1.toNat:Int)<=57) (InI (Qb+1)/\Gd (Qb+1)) (Cnd ((↑b1.toNat:Int)=45) (InI (Qb+1)/\Gd (Qb+1)) (Cnd ((↑b1.toNat:Int)=95) (InI (Qb+1)/\Gd (Qb+1)) (K false)))) (Cnd ((↑b1.toNat:Int)=45) (InI (Qb+1)/\Gd (Qb+1)) (Cnd ((↑b1.toNat:Int)=95) (InI (Qb+1)/\Gd (Qb+1)) (K false)))))) (Cnd (Qb=0) (K false) (Cnd ((48:Int)<=(↑b1.toNat:Int)) (Cnd ((↑b1.toNat:Int)<=57) (InI (Qb+1)/\Gd (Qb+1)) (Cnd ((↑b1.toNat:Int)=45) (InI (Qb+1)/\Gd (Qb+1)) (Cnd ((↑b1.toNat:Int)=95) (InI (Qb+1)/\Gd (Qb+1)) (K false)))) (Cnd ((↑b1.toNat:Int)=45) (InI (Qb+1)/\Gd (Qb+1)) (Cnd ((↑b1.toNat:Int)=95) (InI (Qb+1)/\Gd (Qb+1)) (K false)))))) (K (decide ((0:Int)<(↑s.size:Int))))) (0:Int)
abbrev q3b:Type:=(List (ByteArray)->Prop)->Prop
def q3c:q3b:=fun K=>K [B8 [97,110,100],B8 [97,114,109,115],B8 [97,116,116,114,105,98,117,116,101],B8 [98,111,111,108],B8 [99,108,97,105,109,115],B8 [99,111,110,116,97,105,110,115],B8 [99,111,111,108],B8 [99,111,111,108,105,110,103],B8 [100,101,102,97,117,108,116],B8 [100,114,97,102,116],B8 [101,110,100,115],B8 [101,120,99,108,117,100,101],B8 [101,120,105,115,116,115],B8 [101,120,112,101,114,105,109,101,110,116],B8 [102,97,108,115,101],B8 [102,108,97,103],B8 [104,111,108,100,111,117,116],B8 [105,110],B8 [105,110,99,108,117,100,101],B8 [105,115],B8 [108,97,121,101,114],B8 [108,105,115,116],B8 [109,101,109,98,101,114],B8 [110,101,101,100,115],B8 [110,111,116],B8 [110,117,109,98,101,114],B8 [111,102,102],B8 [111,110],B8 [111,114],B8 [114,117,108,101],B8 [114,117,110,110,105,110,103],B8 [115,97,108,116],B8 [115,101,103,109,101,110,116],B8 [115,101,114,118,101],B8 [115,101,116,116,105,110,103,115],B8 [115,112,108,105,116],B8 [115,116,97,114,116,115],B8 [115,116,111,112,112,101,100],B8 [116,97,114,103,101,116],B8 [116,101,120,116],B8 [116,111],B8 [116,114,117,101],B8 [117,110,116,105,108],B8 [118,97,114,105,97,116,105,111,110,115],B8 [118,101,114,115,105,111,110],B8 [119,104,101,110]]
abbrev Jn:Type:=ByteArray->(Bool->Prop)->Prop
def j5l(z6e:z5e)(q3n:q3b):Jn:=fun s K=>z6e s fun Qb=>Cnd (Qb=true) (Cnd ((32:Int)<(↑s.size:Int)) (K false) (q3n fun Qd=>Lp1 (fun Qj j2v=>Fits Qd->CAt Qd Qj (fun y4=>Cnd (y4=s) (K false) (InI (Qj+1)/\j2v (Qj+1))) (K true)) (0:Int))) (K false)
def U9:Jn:=j5l z5f q3c
abbrev Bn:Type:=Sett->(Int->Prop)->Prop
def q71(Qv:Js)(Qm:Jn):Bn:=fun s K=>Qv s.1 fun Qb=>Cnd (Qb=true) (Cnd (s.3<0) (K (3:Int)) (Cnd ((10000:Int)<s.3) (K (3:Int)) (Qm s.2 fun Qd=>Cnd (Qd=true) (K (0:Int)) (Cnd (s.2=B8 []) (Cnd (s.3=0) (K (0:Int)) (K (6:Int))) (K (6:Int)))))) (K (2:Int))
def q3d:Bn:=q71 U6 U9
abbrev Bo:Type:=List (Decl)->(Int->Prop)->Prop
def q72(Qm:Jn):Bo:=fun l K=>Fits l->Cnd ((30:Int)<(↑l.length:Int)) (K (5:Int)) (Lp1 (fun Qd q1z=>Fits l->CAt l Qd (fun y3=>Qm y3.1 fun Qo=>Cnd (Qo=true) (At l Qd fun y6=>Qm y6.2 fun Zx=>Cnd (Zx=true) (At l Qd fun y9=>Cnd (y9.2=B8 [107,101,121]) (K (6:Int)) (At l Qd fun y11=>Cnd (y11.3<1) (K (7:Int)) (At l Qd fun y13=>Cnd ((5:Int)<y13.3) (K (7:Int)) (Cnd ((0:Int)<Qd) (At l Qd fun y15=>InI (Qd - 1)/\((0:Int)<=Qd - 1/\Qd - 1<(↑l.length:Int))/\ ∀y17,l[(Qd - 1).toNat]? =some y17->Cnd (Lk.blt y15.1 y17.1) (K (9:Int)) (At l Qd fun y19=>InI (Qd - 1)/\((0:Int)<=Qd - 1/\Qd - 1<(↑l.length:Int))/\ ∀y21,l[(Qd - 1).toNat]? =some y21->Cnd (y19.1=y21.1) (At l Qd fun y23=>InI (Qd - 1)/\((0:Int)<=Qd - 1/\Qd - 1<(↑l.length:Int))/\ ∀y25,l[(Qd - 1).toNat]? =some y25->Cnd (Lk.blt y25.2 y23.2) (InI (Qd+1)/\q1z (Qd+1)) (K (9:Int))) (InI (Qd+1)/\q1z (Qd+1)))) (InI (Qd+1)/\q1z (Qd+1)))))) (K (6:Int))) (K (6:Int))) (K (0:Int))) (0:Int))
def q3e:Bo:=q72 U9
abbrev Gm:Type:=List (ByteArray)->(Int->Prop)->Prop
def z0a(Qv:Js):Gm:=fun l K=>Fits l->Cnd ((40:Int)<(↑l.length:Int)) (K (5:Int)) (Lp1 (fun Qd q1z=>Fits l->CAt l Qd (fun y3=>Cnd (y3=B8 []) (K (2:Int)) (At l Qd fun y5=>Qv y5 fun Zj=>Cnd (Zj=true) (Cnd ((0:Int)<Qd) (At l Qd fun y8=>InI (Qd - 1)/\((0:Int)<=Qd - 1/\Qd - 1<(↑l.length:Int))/\ ∀y10,l[(Qd - 1).toNat]? =some y10->Cnd (Lk.blt y10 y8) (InI (Qd+1)/\q1z (Qd+1)) (K (9:Int))) (InI (Qd+1)/\q1z (Qd+1))) (K (2:Int)))) (K (0:Int))) (0:Int))
def q14:Gm:=z0a U6
abbrev z5g:Type:=Ex->(Bool->Prop)->Prop
def z5h:z5g:=fun e K=>Cnd (e.1=0) (Cnd (e.2=B8 []) (Cnd (e.3=B8 []) (Fits e.4->Cnd ((↑e.4.length:Int)=0) (Fits e.5->K (decide ((↑e.5.length:Int)=0))) (K false)) (K false)) (K false)) (K false)
abbrev q4c:Type:=Ex->(Bool->Prop)->Prop
def z3y(Z4:Gj):q4c:=fun e K=>Fits e.5->Fits e.4->Jn2 (fun Qj Q6=>Z4 e.1 fun Qf=>Cnd (Qj=true) (Cnd (Q6=true) (Cnd (Qf=true) (Cnd (Qf=true) (K true) (Cnd (e.1=5) (K true) (K (decide (e.3=B8 []))))) (Cnd (e.2=B8 []) (Cnd (Qf=true) (K true) (Cnd (e.1=5) (K true) (K (decide (e.3=B8 []))))) (K false))) (K false)) (K false)) fun j6r=>Cnd (e.1=2) (Fits e.5->j6r (decide ((2:Int)<=(↑e.5.length:Int))) (decide ((↑e.4.length:Int)=0))) (Cnd (e.1=3) (Fits e.5->j6r (decide ((2:Int)<=(↑e.5.length:Int))) (decide ((↑e.4.length:Int)=0))) (Cnd (e.1=4) (Fits e.5->j6r (decide ((↑e.5.length:Int)=1)) (decide ((↑e.4.length:Int)=0))) (Cnd (e.1=8) (Fits e.4->j6r (decide ((↑e.5.length:Int)=0)) (decide ((0:Int)<(↑e.4.length:Int)))) (Z4 e.1 fun Qf=>Cnd (Qf=true) (Cnd (e.1=6) (j6r (decide ((↑e.5.length:Int)=0)) (decide ((↑e.4.length:Int)=0))) (Fits e.4->j6r (decide ((↑e.5.length:Int)=0)) (decide ((↑e.4.length:Int)=1)))) (j6r (decide ((↑e.5.length:Int)=0)) (decide ((↑e.4.length:Int)=0)))))))
def q73:q4c:=z3y Wl
abbrev z1u:Type:=Val->(Bool->Prop)->Prop
def z1v:z1u:=fun v K=>Cnd (v.1=1) (Cnd (v.1=3) (Cnd (v.1=5) (K true) (Fits v.4->K (decide ((↑v.4.length:Int)=0)))) (Cnd (v.1=4) (Cnd (v.1=5) (K true) (Fits v.4->K (decide ((↑v.4.length:Int)=0)))) (Cnd (v.3=B8 []) (Cnd (v.1=5) (K true) (Fits v.4->K (decide ((↑v.4.length:Int)=0)))) (K false)))) (Cnd (v.1=3) (Cnd (v.1=2) (Cnd (v.1=5) (K true) (Fits v.4->K (decide ((↑v.4.length:Int)=0)))) (Cnd (v.2=0) (Cnd (v.1=5) (K true) (Fits v.4->K (decide ((↑v.4.length:Int)=0)))) (K false))) (Cnd (v.1=2) (Cnd (v.1=4) (Cnd (v.1=5) (K true) (Fits v.4->K (decide ((↑v.4.length:Int)=0)))) (Cnd (v.3=B8 []) (Cnd (v.1=5) (K true) (Fits v.4->K (decide ((↑v.4.length:Int)=0)))) (K false))) (Cnd (v.2=0) (Cnd (v.1=4) (Cnd (v.1=5) (K true) (Fits v.4->K (decide ((↑v.4.length:Int)=0)))) (Cnd (v.3=B8 []) (Cnd (v.1=5) (K true) (Fits v.4->K (decide ((↑v.4.length:Int)=0)))) (K false))) (K false))))
abbrev H5:Type:=ByteArray->(Int->Int->Prop)->Prop
def H6:H5:=fun s K=>Jn1 (fun Qb=>Lp1 (fun Qd q1z=>Cnd (Qd<(↑Qb.size:Int)) (((0:Int)<=Qd/\Qd<(↑Qb.size:Int))/\ ∀b2,Qb[Qd.toNat]? =some b2->Cnd ((↑b2.toNat:Int)<48) (K (0:Int) (1:Int)) (((0:Int)<=Qd/\Qd<(↑Qb.size:Int))/\ ∀b4,Qb[Qd.toNat]? =some b4->Cnd ((57:Int)<(↑b4.toNat:Int)) (K (0:Int) (1:Int)) (InI (Qd+1)/\q1z (Qd+1)))) (Cnd (Qb=B8 []) (K (0:Int) (1:Int)) (((0:Int)<=(0:Int)/\(0:Int)<(↑Qb.size:Int))/\ ∀b2,Qb[Int.toNat (0:Int)]? =some b2->Cnd ((↑b2.toNat:Int)=48) (Cnd (s=B8 [48]) (Cnd ((13:Int)<(↑Qb.size:Int)) (K (0:Int) (3:Int)) (Lp2 (fun Qk Jv v4r=>Cnd (Jv<(↑Qb.size:Int)) (InI ((10:Int)*Qk)/\((0:Int)<=Jv/\Jv<(↑Qb.size:Int))/\ ∀b5,Qb[Jv.toNat]? =some b5->InI (Go.IntKind.u8.wrap ((↑b5.toNat:Int) - 48))/\InI ((10:Int)*Qk+Go.IntKind.u8.wrap ((↑b5.toNat:Int) - 48))/\InI (Jv+1)/\v4r ((10:Int)*Qk+Go.IntKind.u8.wrap ((↑b5.toNat:Int) - 48)) (Jv+1)) (Cnd ((1099511627776:Int)<Qk) (K (0:Int) (3:Int)) (Cnd ((↑Qb.size:Int)<(↑s.size:Int)) (InI ((0:Int) - Qk)/\K ((0:Int) - Qk) (0:Int)) (K Qk (0:Int))))) (0:Int) (0:Int))) (K (0:Int) (1:Int))) (Cnd ((13:Int)<(↑Qb.size:Int)) (K (0:Int) (3:Int)) (Lp2 (fun Qk Jv v4r=>Cnd (Jv<(↑Qb.size:Int)) (InI ((10:Int)*Qk)/\((0:Int)<=Jv/\Jv<(↑Qb.size:Int))/\ ∀b5,Qb[Jv.toNat]? =some b5->InI (Go.IntKind.u8.wrap ((↑b5.toNat:Int) - 48))/\InI ((10:Int)*Qk+Go.IntKind.u8.wrap ((↑b5.toNat:Int) - 48))/\InI (Jv+1)/\v4r ((10:Int)*Qk+Go.IntKind.u8.wrap ((↑b5.toNat:Int) - 48)) (Jv+1)) (Cnd ((1099511627776:Int)<Qk) (K (0:Int) (3:Int)) (Cnd ((↑Qb.size:Int)<(↑s.size:Int)) (InI ((0:Int) - Qk)/\K ((0:Int) - Qk) (0:Int)) (K Qk (0:Int))))) (0:Int) (0:Int)))))) (0:Int)) fun z4q=>Cnd ((0:Int)<(↑s.size:Int)) (((0:Int)<=(0:Int)/\(0:Int)<(↑s.size:Int))/\ ∀b1,s[Int.toNat (0:Int)]? =some b1->Cnd ((↑b1.toNat:Int)=45) (((0:Int)<=(1:Int)/\(1:Int)<=(↑s.size:Int)/\(↑s.size:Int)<=(↑s.size:Int))/\z4q (s.extract (Int.toNat (1:Int)) (↑s.size:Int).toNat)) (z4q s)) (z4q s)
abbrev q6w:Type:=ByteArray->(A3->Bool->Prop)->Prop
def z69(U3:H5):q6w:=fun s K=>LpH (fun (Qb:Int×Int×Int×Int×Int×Int×Int×Int×Unit) Gd=>Cnd (Qb.2.1<3) (Lp1 (fun Qd q1z=>Cnd (Qd<(↑s.size:Int)) (((0:Int)<=Qd/\Qd<(↑s.size:Int))/\ ∀b2,s[Qd.toNat]? =some b2->Cnd ((↑b2.toNat:Int)=46) (((0:Int)<=Qb.1/\Qb.1<=Qd/\Qd<=(↑s.size:Int))/\U3 (s.extract Qb.1.toNat Qd.toNat) fun Qk Jv=>Cnd (Jv=0) (Cnd (Qk<0) (K ((0:Int),(0:Int),(0:Int)) false) (Cnd ((999999:Int)<Qk) (K ((0:Int),(0:Int),(0:Int)) false) (Cnd (decide (Qb.2.1<2)=decide (Qd<(↑s.size:Int))) (((0:Int)<=Qb.2.1/\Qb.2.1<(↑(3:Nat):Int))/\((True/\(Qb.2.1=(↑(nat_lit 0):Int)->InI (Qd+1)/\InI (Qb.2.1+1)/\Gd (Qd+1,Qb.2.1+1,Qk,Qb.2.2.2.1,Qb.2.2.2.2.1,Qb.2.2.2.2.2.1,Qb.2.2.2.2.2.2.1,Qb.2.2.2.2.2.2.2.1,())))/\(Qb.2.1=(↑(nat_lit 1):Int)->InI (Qd+1)/\InI (Qb.2.1+1)/\Gd (Qd+1,Qb.2.1+1,Qb.2.2.1,Qk,Qb.2.2.2.2.1,Qb.2.2.2.2.2.1,Qb.2.2.2.2.2.2.1,Qb.2.2.2.2.2.2.2.1,())))/\(Qb.2.1=(↑(nat_lit 2):Int)->InI (Qd+1)/\InI (Qb.2.1+1)/\Gd (Qd+1,Qb.2.1+1,Qb.2.2.1,Qb.2.2.2.1,Qk,Qb.2.2.2.2.2.1,Qb.2.2.2.2.2.2.1,Qb.2.2.2.2.2.2.2.1,()))) (K ((0:Int),(0:Int),(0:Int)) false)))) (K ((0:Int),(0:Int),(0:Int)) false)) (InI (Qd+1)/\q1z (Qd+1))) (((0:Int)<=Qb.1/\Qb.1<=Qd/\Qd<=(↑s.size:Int))/\U3 (s.extract Qb.1.toNat Qd.toNat) fun Qj Q6=>Cnd (Q6=0) (Cnd (Qj<0) (K ((0:Int),(0:Int),(0:Int)) false) (Cnd ((999999:Int)<Qj) (K ((0:Int),(0:Int),(0:Int)) false) (Cnd (decide (Qb.2.1<2)=decide (Qd<(↑s.size:Int))) (((0:Int)<=Qb.2.1/\Qb.2.1<(↑(3:Nat):Int))/\((True/\(Qb.2.1=(↑(nat_lit 0):Int)->InI (Qd+1)/\InI (Qb.2.1+1)/\Gd (Qd+1,Qb.2.1+1,Qj,Qb.2.2.2.1,Qb.2.2.2.2.1,Qb.2.2.2.2.2.1,Qb.2.2.2.2.2.2.1,Qb.2.2.2.2.2.2.2.1,())))/\(Qb.2.1=(↑(nat_lit 1):Int)->InI (Qd+1)/\InI (Qb.2.1+1)/\Gd (Qd+1,Qb.2.1+1,Qb.2.2.1,Qj,Qb.2.2.2.2.1,Qb.2.2.2.2.2.1,Qb.2.2.2.2.2.2.1,Qb.2.2.2.2.2.2.2.1,())))/\(Qb.2.1=(↑(nat_lit 2):Int)->InI (Qd+1)/\InI (Qb.2.1+1)/\Gd (Qd+1,Qb.2.1+1,Qb.2.2.1,Qb.2.2.2.1,Qj,Qb.2.2.2.2.2.1,Qb.2.2.2.2.2.2.1,Qb.2.2.2.2.2.2.2.1,()))) (K ((0:Int),(0:Int),(0:Int)) false)))) (K ((0:Int),(0:Int),(0:Int)) false))) Qb.1) (K (Qb.2.2.1,Qb.2.2.2.1,Qb.2.2.2.2.1) true)) ((0:Int),(0:Int),(0:Int),(0:Int),(0:Int),(0:Int),(0:Int),(0:Int),())
def z1w:q6w:=z69 H6
abbrev z0b:Type:=List (ByteArray)->(Int->Prop)->Prop
def j06(Qv:Js):z0b:=fun l K=>Fits l->Cnd ((20:Int)<(↑l.length:Int)) (K (5:Int)) (Lp1 (fun Qd q1z=>Fits l->CAt l Qd (fun y3=>Qv y3 fun Qo=>Cnd (Qo=true) (InI (Qd+1)/\q1z (Qd+1)) (K (2:Int))) (Lp1 (fun Qf j6v=>Fits l->CAt l Qf (fun y5=>InI (Qf - 1)/\((0:Int)<=Qf - 1/\Qf - 1<(↑l.length:Int))/\ ∀y7,l[(Qf - 1).toNat]? =some y7->Cnd (Lk.blt y7 y5) (InI (Qf+1)/\j6v (Qf+1)) (K (9:Int))) (K (0:Int))) (1:Int))) (0:Int))
def z5i:z0b:=j06 U6
abbrev q04:Type:=Val->(Int->Prop)->Prop
def z7a(z2o:z1u)(Qv:Js)(z2p:q6w)(z6f:z0b):q04:=fun v K=>Cnd (v.1<1) (K (7:Int)) (Cnd ((5:Int)<v.1) (K (7:Int)) (z2o v fun Qb=>Cnd (Qb=true) (Cnd (v.1=1) (Cnd (v.2=0) (K (0:Int)) (Cnd (v.2=1) (K (0:Int)) (K (3:Int)))) (Cnd (v.1=2) (Cnd (v.2<(-1099511627776:Int)) (K (3:Int)) (Cnd ((1099511627776:Int)<v.2) (K (3:Int)) (K (0:Int)))) (Cnd (v.1=3) (Qv v.3 fun Qd=>Cnd (Qd=true) (K (0:Int)) (K (2:Int))) (Cnd (v.1=4) (z2p v.3 fun (_:Int×Int×Int) Q5=>Cnd (Q5=true) (K (0:Int)) (K (1:Int))) (Cnd (v.1=5) (z6f v.4 fun Qd=>K Qd) (K (0:Int))))))) (K (15:Int))))
def q6x:q04:=z7a z1v U6 z1w z5i
abbrev z5j:Type:=Ex->(Int->Prop)->Prop
def z5k(q86:q4c)(Z4:Gj)(Qm:Jn)(Wi:q04):z5j:=fun e K=>Cnd (e.1<1) (K (7:Int)) (Cnd ((15:Int)<e.1) (K (7:Int)) (q86 (Ex.mk e.1 e.2 e.3 e.4 e.5) fun Qb=>Cnd (Qb=true) (Fits e.5->Cnd ((12:Int)<(↑e.5.length:Int)) (K (5:Int)) (Fits e.4->Cnd ((20:Int)<(↑e.4.length:Int)) (K (5:Int)) (Lp1 (fun Qf j6v=>Fits e.5->CAt e.5 Qf (fun y5=>Cnd (y5.1=e.1) (Cnd (e.1=4) (InI (Qf+1)/\j6v (Qf+1)) (K (15:Int))) (InI (Qf+1)/\j6v (Qf+1))) (Z4 e.1 fun Qo=>Cnd (Qo=true) (Qm e.2 fun Zi=>Cnd (Zi=true) (Z4 e.1 fun Zj=>Cnd (Zj=true) (Qm e.3 fun Zx=>Cnd (Zx=true) (Lp1 (fun J8 v2e=>Fits e.4->CAt e.4 J8 (fun y11=>Wi y11 fun Qi=>Cnd (Qi=0) (InI (J8+1)/\v2e (J8+1)) (K Qi)) (Cnd (e.1=9) (((0:Int)<=(0:Int)/\(0:Int)<(↑e.4.length:Int))/\ ∀y11,e.4[Int.toNat (0:Int)]? =some y11->Cnd (y11.1=3) (K (0:Int)) (K (8:Int))) (Cnd (e.1=10) (((0:Int)<=(0:Int)/\(0:Int)<(↑e.4.length:Int))/\ ∀y11,e.4[Int.toNat (0:Int)]? =some y11->Cnd (y11.1=3) (K (0:Int)) (K (8:Int))) (Cnd (e.1=11) (((0:Int)<=(0:Int)/\(0:Int)<(↑e.4.length:Int))/\ ∀y11,e.4[Int.toNat (0:Int)]? =some y11->Cnd (y11.1=3) (K (0:Int)) (K (8:Int))) (K (0:Int)))))) (0:Int)) (K (6:Int))) (Cnd (e.1=5) (Qm e.3 fun Zx=>Cnd (Zx=true) (Lp1 (fun J8 v2e=>Fits e.4->CAt e.4 J8 (fun y11=>Wi y11 fun Qi=>Cnd (Qi=0) (InI (J8+1)/\v2e (J8+1)) (K Qi)) (Cnd (e.1=9) (((0:Int)<=(0:Int)/\(0:Int)<(↑e.4.length:Int))/\ ∀y11,e.4[Int.toNat (0:Int)]? =some y11->Cnd (y11.1=3) (K (0:Int)) (K (8:Int))) (Cnd (e.1=10) (((0:Int)<=(0:Int)/\(0:Int)<(↑e.4.length:Int))/\ ∀y11,e.4[Int.toNat (0:Int)]? =some y11->Cnd (y11.1=3) (K (0:Int)) (K (8:Int))) (Cnd (e.1=11) (((0:Int)<=(0:Int)/\(0:Int)<(↑e.4.length:Int))/\ ∀y11,e.4[Int.toNat (0:Int)]? =some y11->Cnd (y11.1=3) (K (0:Int)) (K (8:Int))) (K (0:Int)))))) (0:Int)) (K (6:Int))) (Lp1 (fun Zx w81=>Fits e.4->CAt e.4 Zx (fun y10=>Wi y10 fun Qw=>Cnd (Qw=0) (InI (Zx+1)/\w81 (Zx+1)) (K Qw)) (Cnd (e.1=9) (((0:Int)<=(0:Int)/\(0:Int)<(↑e.4.length:Int))/\ ∀y10,e.4[Int.toNat (0:Int)]? =some y10->Cnd (y10.1=3) (K (0:Int)) (K (8:Int))) (Cnd (e.1=10) (((0:Int)<=(0:Int)/\(0:Int)<(↑e.4.length:Int))/\ ∀y10,e.4[Int.toNat (0:Int)]? =some y10->Cnd (y10.1=3) (K (0:Int)) (K (8:Int))) (Cnd (e.1=11) (((0:Int)<=(0:Int)/\(0:Int)<(↑e.4.length:Int))/\ ∀y10,e.4[Int.toNat (0:Int)]? =some y10->Cnd (y10.1=3) (K (0:Int)) (K (8:Int))) (K (0:Int)))))) (0:Int)))) (K (6:Int))) (Z4 e.1 fun Zi=>Cnd (Zi=true) (Qm e.3 fun Zj=>Cnd (Zj=true) (Lp1 (fun Zx w81=>Fits e.4->CAt e.4 Zx (fun y10=>Wi y10 fun Qw=>Cnd (Qw=0) (InI (Zx+1)/\w81 (Zx+1)) (K Qw)) (Cnd (e.1=9) (((0:Int)<=(0:Int)/\(0:Int)<(↑e.4.length:Int))/\ ∀y10,e.4[Int.toNat (0:Int)]? =some y10->Cnd (y10.1=3) (K (0:Int)) (K (8:Int))) (Cnd (e.1=10) (((0:Int)<=(0:Int)/\(0:Int)<(↑e.4.length:Int))/\ ∀y10,e.4[Int.toNat (0:Int)]? =some y10->Cnd (y10.1=3) (K (0:Int)) (K (8:Int))) (Cnd (e.1=11) (((0:Int)<=(0:Int)/\(0:Int)<(↑e.4.length:Int))/\ ∀y10,e.4[Int.toNat (0:Int)]? =some y10->Cnd (y10.1=3) (K (0:Int)) (K (8:Int))) (K (0:Int)))))) (0:Int)) (K (6:Int))) (Cnd (e.1=5) (Qm e.3 fun Zj=>Cnd (Zj=true) (Lp1 (fun Zx w81=>Fits e.4->CAt e.4 Zx (fun y10=>Wi y10 fun Qw=>Cnd (Qw=0) (InI (Zx+1)/\w81 (Zx+1)) (K Qw)) (Cnd (e.1=9) (((0:Int)<=(0:Int)/\(0:Int)<(↑e.4.length:Int))/\ ∀y10,e.4[Int.toNat (0:Int)]? =some y10->Cnd (y10.1=3) (K (0:Int)) (K (8:Int))) (Cnd (e.1=10) (((0:Int)<=(0:Int)/\(0:Int)<(↑e.4.length:Int))/\ ∀y10,e.4[Int.toNat (0:Int)]? =some y10->Cnd (y10.1=3) (K (0:Int)) (K (8:Int))) (Cnd (e.1=11) (((0:Int)<=(0:Int)/\(0:Int)<(↑e.4.length:Int))/\ ∀y10,e.4[Int.toNat (0:Int)]? =some y10->Cnd (y10.1=3) (K (0:Int)) (K (8:Int))) (K (0:Int)))))) (0:Int)) (K (6:Int))) (Lp1 (fun Zj v6p=>Fits e.4->CAt e.4 Zj (fun y9=>Wi y9 fun J2=>Cnd (J2=0) (InI (Zj+1)/\v6p (Zj+1)) (K J2)) (Cnd (e.1=9) (((0:Int)<=(0:Int)/\(0:Int)<(↑e.4.length:Int))/\ ∀y9,e.4[Int.toNat (0:Int)]? =some y9->Cnd (y9.1=3) (K (0:Int)) (K (8:Int))) (Cnd (e.1=10) (((0:Int)<=(0:Int)/\(0:Int)<(↑e.4.length:Int))/\ ∀y9,e.4[Int.toNat (0:Int)]? =some y9->Cnd (y9.1=3) (K (0:Int)) (K (8:Int))) (Cnd (e.1=11) (((0:Int)<=(0:Int)/\(0:Int)<(↑e.4.length:Int))/\ ∀y9,e.4[Int.toNat (0:Int)]? =some y9->Cnd (y9.1=3) (K (0:Int)) (K (8:Int))) (K (0:Int)))))) (0:Int)))))) (0:Int)))) (K (15:Int))))
def q15:z5j:=z5k q73 Wl U9 q6x
abbrev q4d:Type:=Ex->Int->Int->(Int->Int->Prop)->Prop
def z5l(w82:z5j)(X:q4d):q4d:=fun e depth n K=>Cnd ((60:Int)<=n) (K (5:Int) n) (InI (n+1)/\Cnd ((10:Int)<depth) (K (18:Int) (n+1)) (w82 (Ex.mk e.1 e.2 e.3 e.4 e.5) fun Qb=>Cnd (Qb=0) (Lp2 (fun Qd Q5 q9s=>Fits e.5->CAt e.5 Qd (fun y3=>InI (depth+1)/\X (Ex.mk y3.1 y3.2 y3.3 y3.4 y3.5) (depth+1) Q5 fun Qo q6j=>Cnd (Qo=0) (InI (Qd+1)/\q9s (Qd+1) q6j) (K Qo q6j)) (K (0:Int) Q5)) (0:Int) (n+1)) (K Qb (n+1))))
def z0c:q4d:=fun e depth n K=> ∀X:q4d,(∀e depth n K,z5l q15 X e depth n K->X e depth n K)->X e depth n K
abbrev Bp:Type:=Ex->(Int->Prop)->Prop
def z5m(z6g:q4d):Bp:=fun e K=>z6g (Ex.mk e.1 e.2 e.3 e.4 e.5) (1:Int) (0:Int) fun Qb _=>K Qb
def q16:Bp:=z5m z0c
abbrev q17:Type:=Seg->(Int->Prop)->Prop
def q5g(Qm:Jn)(Wy:Gm)(z6h:z5g)(Vl:Bp):q17:=fun g K=>Qm g.1 fun Qb=>Cnd (Qb=true) (Qm g.2 fun Qd=>Cnd (Qd=true) (Wy g.3 fun Qj=>Cnd (Qj=0) (Wy g.4 fun Qf=>Cnd (Qf=0) (z6h (Ex.mk g.5.1 g.5.2 g.5.3 g.5.4 g.5.5) fun Qk=>Cnd (Qk=true) (K (0:Int)) (Vl (Ex.mk g.5.1 g.5.2 g.5.3 g.5.4 g.5.5) fun Qo=>K Qo)) (K Qf)) (K Qj)) (K (6:Int))) (K (6:Int))
def R1:q17:=q5g U9 q14 z5h q16
abbrev Bq:Type:=List (Seg)->(Int->Prop)->Prop
def q3f(q5z:q17):Bq:=fun l K=>Fits l->Cnd ((20:Int)<(↑l.length:Int)) (K (5:Int)) (Lp1 (fun Qd q1z=>Fits l->CAt l Qd (fun y3=>q5z (Seg.mk y3.1 y3.2 y3.3 y3.4 (Ex.mk y3.5.1 y3.5.2 y3.5.3 y3.5.4 y3.5.5)) fun Qo=>Cnd (Qo=0) (Cnd ((0:Int)<Qd) (At l Qd fun y6=>InI (Qd - 1)/\((0:Int)<=Qd - 1/\Qd - 1<(↑l.length:Int))/\ ∀y8,l[(Qd - 1).toNat]? =some y8->Cnd (Lk.blt y8.1 y6.1) (InI (Qd+1)/\q1z (Qd+1)) (K (9:Int))) (InI (Qd+1)/\q1z (Qd+1))) (K Qo)) (K (0:Int))) (0:Int))
def G8:Bq:=q3f R1
abbrev Gn:Type:=Flg->(Int->Prop)->Prop
def Br(Wi:q04):Gn:=fun f K=>Fits f.3->Cnd ((8:Int)<(↑f.3.length:Int)) (K (5:Int)) (Cnd ((↑f.3.length:Int)=0) (K (3:Int)) (Lp1 (fun Qd q1z=>CAt f.3 Qd (fun y2=>Wi y2 fun Qk=>Cnd (Qk=0) (At f.3 Qd fun y5=>Cnd (y5.1=f.2) (InI (Qd+1)/\q1z (Qd+1)) (K (8:Int))) (K Qk)) (Cnd (f.5<1) (K (3:Int)) (Cnd ((↑f.3.length:Int)<f.5) (K (3:Int)) (K (0:Int))))) (0:Int)))
def V6:Gn:=Br q6x
abbrev Vh:Type:=List (Prq)->(Int->Prop)->Prop
def Ga(Qm:Jn):Vh:=fun l K=>Fits l->Cnd ((4:Int)<(↑l.length:Int)) (K (5:Int)) (Lp1 (fun Qd q1z=>Fits l->CAt l Qd (fun y3=>Qm y3.1 fun Qo=>Cnd (Qo=true) (Cnd ((0:Int)<Qd) (At l Qd fun y6=>InI (Qd - 1)/\((0:Int)<=Qd - 1/\Qd - 1<(↑l.length:Int))/\ ∀y8,l[(Qd - 1).toNat]? =some y8->Cnd (Lk.blt y8.1 y6.1) (At l Qd fun y10=>Cnd (y10.2<1) (K (3:Int)) (At l Qd fun y12=>Cnd ((8:Int)<y12.2) (K (3:Int)) (InI (Qd+1)/\q1z (Qd+1)))) (K (9:Int))) (At l Qd fun y6=>Cnd (y6.2<1) (K (3:Int)) (At l Qd fun y8=>Cnd ((8:Int)<y8.2) (K (3:Int)) (InI (Qd+1)/\q1z (Qd+1))))) (K (6:Int))) (K (0:Int))) (0:Int))
def Wf:Vh:=Ga U9
abbrev q18:Type:=List (Tgt)->Int->(Int->Prop)->Prop
def q5h(Qm:Jn)(Wy:Gm):q18:=fun l n K=>Fits l->Cnd ((8:Int)<(↑l.length:Int)) (K (5:Int)) (Lp1 (fun Qd q1z=>Fits l->CAt l Qd (fun y3=>Qm y3.1 fun Qo=>Cnd (Qo=true) (At l Qd fun y6=>Cnd (y6.2<1) (K (3:Int)) (At l Qd fun y8=>Cnd (n<y8.2) (K (3:Int)) (At l Qd fun y10=>Fits y10.3->Cnd ((↑y10.3.length:Int)=0) (K (3:Int)) (At l Qd fun y13=>Wy y13.3 fun q0z=>Cnd (q0z=0) (InI (Qd+1)/\q1z (Qd+1)) (K q0z))))) (K (6:Int))) (K (0:Int))) (0:Int))
def R2:q18:=q5h U9 q14
abbrev q3v:Type:=List (Rng)->Int->(Int->Prop)->Prop
def q6y:q3v:=fun l variations K=>Fits l->Cnd ((16:Int)<(↑l.length:Int)) (K (5:Int)) (Lp2 (fun Qd Q5 q9s=>Fits l->CAt l Q5 (fun y3=>Cnd (y3.3<1) (K (3:Int)) (At l Q5 fun y5=>Cnd (variations<y5.3) (K (3:Int)) (At l Q5 fun y7=>Cnd (y7.1=Qd) (At l Q5 fun y9=>Cnd (y9.2<=Qd) (K (9:Int)) (Cnd ((0:Int)<Q5) (At l Q5 fun y11=>InI (Q5 - 1)/\((0:Int)<=Q5 - 1/\Q5 - 1<(↑l.length:Int))/\ ∀y13,l[(Q5 - 1).toNat]? =some y13->Cnd (y11.3=y13.3) (K (9:Int)) (At l Q5 fun y15=>InI (Q5+1)/\q9s y15.2 (Q5+1))) (At l Q5 fun y11=>InI (Q5+1)/\q9s y11.2 (Q5+1)))) (K (9:Int))))) (Cnd (Qd=10000) (K (0:Int)) (K (3:Int)))) (0:Int) (0:Int))
abbrev q05:Type:=Srv->Int->(Int->Prop)->Prop
def z1x(Qm:Jn)(Qv:Js)(Hk:q3v):q05:=fun v variations K=>Cnd (v.1=0) (Qm v.2 fun Qb=>Cnd (Qb=true) (Qm v.3 fun Qd=>Cnd (Qd=true) (Qv v.4 fun Qj=>Cnd (Qj=true) (Hk v.5 variations fun Qf=>K Qf) (K (2:Int))) (K (6:Int))) (K (6:Int))) (Cnd (v.1<1) (K (3:Int)) (Cnd (variations<v.1) (K (3:Int)) (Cnd (v.2=B8 []) (Cnd (v.3=B8 []) (Cnd (v.4=B8 []) (Fits v.5->Cnd ((0:Int)<(↑v.5.length:Int)) (K (15:Int)) (K (0:Int))) (K (15:Int))) (K (15:Int))) (K (15:Int)))))
def q06:q05:=z1x U9 U6 q6y
abbrev q6z:Type:=List (Rul)->Int->(Int->Prop)->Prop
def z1y(Qm:Jn)(Vl:Bp)(Hl:q05):q6z:=fun l n K=>Fits l->Cnd ((12:Int)<(↑l.length:Int)) (K (5:Int)) (Lp1 (fun Qd q1z=>Fits l->CAt l Qd (fun y3=>Qm y3.1 fun Qo=>Cnd (Qo=true) (Lp1 (fun Zi v67=>Cnd (Zi<Qd) (At l Zi fun y7=>At l Qd fun y9=>Cnd (y7.1=y9.1) (K (10:Int)) (InI (Zi+1)/\v67 (Zi+1))) (At l Qd fun y7=>Vl (Ex.mk y7.2.1 y7.2.2 y7.2.3 y7.2.4 y7.2.5) fun J8=>Cnd (J8=0) (At l Qd fun y10=>Hl (Srv.mk y10.3.1 y10.3.2 y10.3.3 y10.3.4 y10.3.5) n fun Qw=>Cnd (Qw=0) (InI (Qd+1)/\q1z (Qd+1)) (K Qw)) (K J8))) (0:Int)) (K (6:Int))) (K (0:Int))) (0:Int))
def q3w:q6z:=z1y U9 q16 q06
abbrev z0d:Type:=Flg->(Int->Prop)->Prop
def z5n(Qm:Jn)(q0m:Gn)(Gf:Vh)(q50:q18)(z2q:q6z)(Hl:q05):z0d:=fun f K=>Fits f.3->Qm f.1 fun Qd=>Cnd (Qd=true) (Cnd (f.2<1) (K (7:Int)) (Cnd ((5:Int)<f.2) (K (7:Int)) (q0m (Flg.mk f.1 f.2 f.3 f.4 f.5 f.6 f.7 f.8 (Srv.mk f.9.1 f.9.2 f.9.3 f.9.4 f.9.5)) fun Qj=>Cnd (Qj=0) (Gf f.6 fun Qf=>Cnd (Qf=0) (q50 f.7 (↑f.3.length:Int) fun Qk=>Cnd (Qk=0) (z2q f.8 (↑f.3.length:Int) fun Qo=>Cnd (Qo=0) (Hl (Srv.mk f.9.1 f.9.2 f.9.3 f.9.4 f.9.5) (↑f.3.length:Int) fun Zi=>K Zi) (K Qo)) (K Qk)) (K Qf)) (K Qj)))) (K (6:Int))
def q60:z0d:=z5n U9 V6 Wf R2 q3w q06
abbrev q61:Type:=List (Flg)->(Int->Prop)->Prop
def z1z(z6i:z0d):q61:=fun l K=>Fits l->Cnd ((30:Int)<(↑l.length:Int)) (K (5:Int)) (Lp1 (fun Qd q1z=>Fits l->CAt l Qd (fun y3=>z6i (Flg.mk y3.1 y3.2 y3.3 y3.4 y3.5 y3.6 y3.7 y3.8 (Srv.mk y3.9.1 y3.9.2 y3.9.3 y3.9.4 y3.9.5)) fun Qo=>Cnd (Qo=0) (Cnd ((0:Int)<Qd) (At l Qd fun y6=>InI (Qd - 1)/\((0:Int)<=Qd - 1/\Qd - 1<(↑l.length:Int))/\ ∀y8,l[(Qd - 1).toNat]? =some y8->Cnd (Lk.blt y8.1 y6.1) (InI (Qd+1)/\q1z (Qd+1)) (K (9:Int))) (InI (Qd+1)/\q1z (Qd+1))) (K Qo)) (K (0:Int))) (0:Int))
def q3x:q61:=z1z q60
abbrev q62:Type:=Lay_->(Int->Prop)->Prop
def z10(Qm:Jn)(Qv:Js):q62:=fun l K=>Qm l.1 fun Qb=>Cnd (Qb=true) (Qm l.2 fun Qd=>Cnd (Qd=true) (Qv l.3 fun Qj=>Cnd (Qj=true) (Cnd (l.4<0) (K (3:Int)) (Cnd ((10000:Int)<l.4) (K (3:Int)) (Cnd (l.5<0) (K (3:Int)) (Cnd ((1099511627776:Int)<l.5) (K (3:Int)) (Fits l.6->Cnd ((32:Int)<(↑l.6.length:Int)) (K (5:Int)) (Lp1 (fun Qk j6w=>Fits l.6->CAt l.6 Qk (fun y6=>Cnd (y6.1<0) (K (3:Int)) (Cnd (y6.2<=y6.1) (K (3:Int)) (Cnd ((10000:Int)<y6.2) (K (3:Int)) (Cnd (y6.3<0) (K (3:Int)) (Cnd ((1099511627776:Int)<y6.3) (K (3:Int)) (Cnd ((0:Int)<Qk) (InI (Qk - 1)/\((0:Int)<=Qk - 1/\Qk - 1<(↑l.6.length:Int))/\ ∀y8,l.6[(Qk - 1).toNat]? =some y8->Cnd (y6.1<y8.2) (K (9:Int)) (InI (Qk+1)/\j6w (Qk+1))) (InI (Qk+1)/\j6w (Qk+1)))))))) (K (0:Int))) (0:Int))))))) (K (2:Int))) (K (6:Int))) (K (6:Int))
def q3y:q62:=z10 U9 U6
abbrev q4e:Type:=List (Lay_)->(Int->Prop)->Prop
def q74(z2r:q62):q4e:=fun l K=>Fits l->Cnd ((6:Int)<(↑l.length:Int)) (K (5:Int)) (Lp1 (fun Qd q1z=>Fits l->CAt l Qd (fun y3=>z2r y3 fun Qo=>Cnd (Qo=0) (Cnd ((0:Int)<Qd) (At l Qd fun y6=>InI (Qd - 1)/\((0:Int)<=Qd - 1/\Qd - 1<(↑l.length:Int))/\ ∀y8,l[(Qd - 1).toNat]? =some y8->Cnd (Lk.blt y8.1 y6.1) (InI (Qd+1)/\q1z (Qd+1)) (K (9:Int))) (InI (Qd+1)/\q1z (Qd+1))) (K Qo)) (K (0:Int))) (0:Int))
def q07:q4e:=q74 q3y
abbrev z11:Type:=List (Spn)->(Int->Prop)->Prop
def z13:z11:=fun l K=>Fits l->Cnd ((16:Int)<(↑l.length:Int)) (K (5:Int)) (Lp1 (fun Qd q1z=>Fits l->CAt l Qd (fun y3=>Cnd (y3.1<0) (K (3:Int)) (At l Qd fun y5=>At l Qd fun y7=>Cnd (y7.2<=y5.1) (K (3:Int)) (At l Qd fun y9=>Cnd ((10000:Int)<y9.2) (K (3:Int)) (Cnd ((0:Int)<Qd) (At l Qd fun y11=>InI (Qd - 1)/\((0:Int)<=Qd - 1/\Qd - 1<(↑l.length:Int))/\ ∀y13,l[(Qd - 1).toNat]? =some y13->Cnd (y11.1<=y13.2) (K (9:Int)) (InI (Qd+1)/\q1z (Qd+1))) (InI (Qd+1)/\q1z (Qd+1)))))) (K (0:Int))) (0:Int))
abbrev Gq:Type:=Exper->(Int->Prop)->Prop
def Bs(Qm:Jn)(Qv:Js)(z2s:z11)(Hk:q3v)(Vl:Bp):Gq:=fun x K=>Qm x.1 fun Qb=>Cnd (Qb=true) (Qm x.2 fun Qd=>Cnd (Qd=true) (Qm x.3 fun Qj=>Cnd (Qj=true) (Qv x.4 fun Qf=>Cnd (Qf=true) (Cnd (x.5<1) (K (7:Int)) (Cnd ((3:Int)<x.5) (K (7:Int)) (z2s x.6 fun Qk=>Cnd (Qk=0) (Hk x.7 (8:Int) fun Qo=>Cnd (Qo=0) (Vl (Ex.mk x.8.1 x.8.2 x.8.3 x.8.4 x.8.5) fun Zi=>K Zi) (K Qo)) (K Qk)))) (K (2:Int))) (K (6:Int))) (K (6:Int))) (K (6:Int))
def V7:Gq:=Bs U9 U6 z13 q6y q16
abbrev Uz:Type:=List (Exper)->(Int->Prop)->Prop
def H7(q0n:Gq):Uz:=fun l K=>Fits l->Cnd ((16:Int)<(↑l.length:Int)) (K (5:Int)) (Lp1 (fun Qd q1z=>Fits l->CAt l Qd (fun y3=>q0n (Exper.mk y3.1 y3.2 y3.3 y3.4 y3.5 y3.6 y3.7 (Ex.mk y3.8.1 y3.8.2 y3.8.3 y3.8.4 y3.8.5)) fun Qo=>Cnd (Qo=0) (Cnd ((0:Int)<Qd) (At l Qd fun y6=>InI (Qd - 1)/\((0:Int)<=Qd - 1/\Qd - 1<(↑l.length:Int))/\ ∀y8,l[(Qd - 1).toNat]? =some y8->Cnd (Lk.blt y8.1 y6.1) (InI (Qd+1)/\q1z (Qd+1)) (K (9:Int))) (InI (Qd+1)/\q1z (Qd+1))) (K Qo)) (K (0:Int))) (0:Int))
def Vc:Uz:=H7 V7
abbrev Wn:Type:=Envt->(Int->Prop)->Prop
def H8(q3o:Bn)(q3p:Bo)(q3q:Bq)(z2t:q61)(q87:q4e)(Ri:Uz):Wn:=fun v K=>q3o (Sett.mk v.1.1 v.1.2 v.1.3) fun Qb=>Cnd (Qb=0) (q3p v.2 fun Qd=>Cnd (Qd=0) (q3q v.3 fun Qj=>Cnd (Qj=0) (z2t v.4 fun Qf=>Cnd (Qf=0) (q87 v.5 fun Qk=>Cnd (Qk=0) (Ri v.6 fun Qo=>K Qo) (K Qk)) (K Qf)) (K Qj)) (K Qd)) (K Qb)
def Wo:Wn:=H8 q3d q3e G8 q3x q07 Vc
abbrev R3:Type:=List (Seg)->(List (ByteArray)->Prop)->Prop
def q63:R3:=fun l K=>Lp2 (fun Qb Qq R8=>Fits l->CAt l Qq (fun y2=>Sml (Qb++[y2.1]).length/\InI (Qq+1)/\R8 (Qb++[y2.1]) (Qq+1)) (K Qb)) [] (0:Int)
abbrev q75:Type:=List (ByteArray)->ByteArray->(Bool->Prop)->Prop
def q5i:q75:=fun l s K=>Lp1 (fun Qb Gd=>Fits l->CAt l Qb (fun y2=>Cnd (y2=s) (K true) (InI (Qb+1)/\Gd (Qb+1))) (K false)) (0:Int)
abbrev z0e:Type:=List (Decl)->ByteArray->ByteArray->(Int->Prop)->Prop
def q19:z0e:=fun l kind name K=>Lp1 (fun Qb Gd=>Fits l->CAt l Qb (fun y2=>Cnd (y2.1=kind) (At l Qb fun y4=>Cnd (y4.2=name) (At l Qb fun y6=>K y6.3) (InI (Qb+1)/\Gd (Qb+1))) (InI (Qb+1)/\Gd (Qb+1))) (Cnd (name=B8 [107,101,121]) (K (3:Int)) (K (0:Int)))) (0:Int)
abbrev j07:Type:=Int->Ex->(Bool->Prop)->Prop
def q4f:j07:=fun t e K=>Cnd (e.1=6) (K true) (Cnd (e.1=8) (Lp1 (fun Qb Gd=>Fits e.4->CAt e.4 Qb (fun y2=>Cnd (y2.1=t) (InI (Qb+1)/\Gd (Qb+1)) (K false)) (K (match decide ((t,e,()).1=5) with|true=>false|false=>true))) (0:Int)) (Fits e.4->Cnd ((↑e.4.length:Int)=0) (K false) (((0:Int)<=(0:Int)/\(0:Int)<(↑e.4.length:Int))/\ ∀y1,e.4[Int.toNat (0:Int)]? =some y1->Cnd (e.1=7) (K (decide (y1.1=t))) (Jn1 (fun Qf=>Cnd (Qf=true) (Cnd (t=3) (K (decide (y1.1=3))) (K false)) (Cnd (e.1=11) (Cnd (t=3) (K (decide (y1.1=3))) (Cnd (t=5) (K (decide (y1.1=3))) (K false))) (Cnd (t=2) (K (decide (y1.1=t))) (Cnd (t=3) (K (decide (y1.1=t))) (Cnd (t=4) (K (decide (y1.1=t))) (K false)))))) fun v6o=>Cnd (e.1=9) (v6o (decide (e.1=9))) (v6o (decide (e.1=10)))))))
abbrev Gs:Type:=List (Decl)->List (ByteArray)->Ex->(Int->Prop)->Prop
def j08(q0o:q75)(Z4:Gj)(q45:z0e)(j9a:j07)(X:Gs):Gs:=fun l segments e K=>Cnd (e.1=5) (q0o segments e.3 fun Qb=>Cnd (Qb=true) (Jn0 (Lp1 (fun Qd q1z=>Fits e.5->CAt e.5 Qd (fun y3=>X l segments (Ex.mk y3.1 y3.2 y3.3 y3.4 y3.5) fun Qo=>Cnd (Qo=0) (InI (Qd+1)/\q1z (Qd+1)) (K Qo)) (K (0:Int))) (0:Int)) fun Qd=>Z4 e.1 fun Qj=>Cnd (Qj=true) (q45 l e.2 e.3 fun Qf=>Cnd (Qf=0) (K (11:Int)) (j9a Qf (Ex.mk e.1 e.2 e.3 e.4 e.5) fun Qk=>Cnd (Qk=true) Qd (K (8:Int)))) Qd) (K (11:Int))) (Jn0 (Lp1 (fun Qb Gd=>Fits e.5->CAt e.5 Qb (fun y2=>X l segments (Ex.mk y2.1 y2.2 y2.3 y2.4 y2.5) fun Qk=>Cnd (Qk=0) (InI (Qb+1)/\Gd (Qb+1)) (K Qk)) (K (0:Int))) (0:Int)) fun Qb=>Z4 e.1 fun Qd=>Cnd (Qd=true) (q45 l e.2 e.3 fun Qj=>Cnd (Qj=0) (K (11:Int)) (j9a Qj (Ex.mk e.1 e.2 e.3 e.4 e.5) fun Qf=>Cnd (Qf=true) Qb (K (8:Int)))) Qb)
def q64:Gs:=fun l segments e K=> ∀X:Gs,(∀l segments e K,j08 q5i Wl q19 q4f X l segments e K->X l segments e K)->X l segments e K
abbrev q76:Type:=List (ByteArray)->ByteArray->(List (ByteArray)->Prop)->Prop
def q5j:q76:=fun l s K=>Lp1 (fun Qb Gd=>Fits l->CAt l Qb (fun y2=>Cnd (Lk.blt y2 s) (InI (Qb+1)/\Gd (Qb+1)) (Fits l->CAt l Qb (fun y5=>Cnd (y5=s) (K l) (((0:Int)<=(0:Int)/\(0:Int)<=Qb/\Qb<=(↑l.length:Int))/\Sml ([]++List.drop (Int.toNat (0:Int)) (List.take Qb.toNat l)).length/\((0:Int)<=Qb/\Qb<=(↑l.length:Int)/\(↑l.length:Int)<=(↑l.length:Int))/\Sml ([]++List.drop (Int.toNat (0:Int)) (List.take Qb.toNat l)++[s]).length/\Sml ([]++List.drop (Int.toNat (0:Int)) (List.take Qb.toNat l)++[s]++List.drop Qb.toNat (List.take (↑l.length:Int).toNat l)).length/\K ([]++List.drop (Int.toNat (0:Int)) (List.take Qb.toNat l)++[s]++List.drop Qb.toNat (List.take (↑l.length:Int).toNat l)))) (((0:Int)<=(0:Int)/\(0:Int)<=Qb/\Qb<=(↑l.length:Int))/\Sml ([]++List.drop (Int.toNat (0:Int)) (List.take Qb.toNat l)).length/\((0:Int)<=Qb/\Qb<=(↑l.length:Int)/\(↑l.length:Int)<=(↑l.length:Int))/\Sml ([]++List.drop (Int.toNat (0:Int)) (List.take Qb.toNat l)++[s]).length/\Sml ([]++List.drop (Int.toNat (0:Int)) (List.take Qb.toNat l)++[s]++List.drop Qb.toNat (List.take (↑l.length:Int).toNat l)).length/\K ([]++List.drop (Int.toNat (0:Int)) (List.take Qb.toNat l)++[s]++List.drop Qb.toNat (List.take (↑l.length:Int).toNat l))))) (Fits l->CAt l Qb (fun y3=>Cnd (y3=s) (K l) (((0:Int)<=(0:Int)/\(0:Int)<=Qb/\Qb<=(↑l.length:Int))/\Sml ([]++List.drop (Int.toNat (0:Int)) (List.take Qb.toNat l)).length/\((0:Int)<=Qb/\Qb<=(↑l.length:Int)/\(↑l.length:Int)<=(↑l.length:Int))/\Sml ([]++List.drop (Int.toNat (0:Int)) (List.take Qb.toNat l)++[s]).length/\Sml ([]++List.drop (Int.toNat (0:Int)) (List.take Qb.toNat l)++[s]++List.drop Qb.toNat (List.take (↑l.length:Int).toNat l)).length/\K ([]++List.drop (Int.toNat (0:Int)) (List.take Qb.toNat l)++[s]++List.drop Qb.toNat (List.take (↑l.length:Int).toNat l)))) (((0:Int)<=(0:Int)/\(0:Int)<=Qb/\Qb<=(↑l.length:Int))/\Sml ([]++List.drop (Int.toNat (0:Int)) (List.take Qb.toNat l)).length/\((0:Int)<=Qb/\Qb<=(↑l.length:Int)/\(↑l.length:Int)<=(↑l.length:Int))/\Sml ([]++List.drop (Int.toNat (0:Int)) (List.take Qb.toNat l)++[s]).length/\Sml ([]++List.drop (Int.toNat (0:Int)) (List.take Qb.toNat l)++[s]++List.drop Qb.toNat (List.take (↑l.length:Int).toNat l)).length/\K ([]++List.drop (Int.toNat (0:Int)) (List.take Qb.toNat l)++[s]++List.drop Qb.toNat (List.take (↑l.length:Int).toNat l))))) (0:Int)
abbrev Gt:Type:=List (ByteArray)->Ex->(List (ByteArray)->Prop)->Prop
def z0f(q0p:q76)(X:Gt):Gt:=fun l e K=>Jn1 (fun Qb=>Lp2 (fun Qd Q5 q9s=>Fits e.5->CAt e.5 Q5 (fun y3=>X Qd (Ex.mk y3.1 y3.2 y3.3 y3.4 y3.5) fun Qo=>InI (Q5+1)/\q9s Qo (Q5+1)) (K Qd)) Qb (0:Int)) fun z4q=>Cnd (e.1=5) (q0p l e.3 fun Qd=>z4q Qd) (z4q l)
def q5k:Gt:=fun l e K=> ∀X:Gt,(∀l e K,z0f q5j X l e K->X l e K)->X l e K
abbrev q2a:Type:=Ex->(List (ByteArray)->Prop)->Prop
def z0g(q51:Gt):q2a:=fun e K=>q51 [] (Ex.mk e.1 e.2 e.3 e.4 e.5) fun Qb=>K Qb
def q5l:q2a:=z0g q5k
abbrev q4g:Type:=List (Seg)->(List (Edg)->Prop)->Prop
def z3z(q52:q2a):q4g:=fun l K=>Lp2 (fun Qb Qq R8=>Fits l->CAt l Qq (fun y2=>q52 (Ex.mk y2.5.1 y2.5.2 y2.5.3 y2.5.4 y2.5.5) fun Qk=>Lp2 (fun Qo q6j v9k=>Fits Qk->Cnd (q6j<(↑Qk.length:Int)) (At l Qq fun y7=>At Qk q6j fun y9=>Sml (Qo++[Edg.mk y7.1 y9]).length/\InI (q6j+1)/\v9k (Qo++[Edg.mk y7.1 y9]) (q6j+1)) (InI (Qq+1)/\R8 Qo (Qq+1))) Qb (0:Int)) (K Qb)) [] (0:Int)
def q77:q4g:=z3z q5l
abbrev q65:Type:=List (Edg)->ByteArray->(List (ByteArray)->Prop)->Prop
def z7b(q0o:q75)(q0p:q76):q65:=fun edges node K=>Lp2 (fun Qb Qq R8=>Fits Qq->Cnd ((0:Int)<(↑Qq.length:Int)) (((0:Int)<=(0:Int)/\(0:Int)<(↑Qq.length:Int))/\ ∀y2,Qq[Int.toNat (0:Int)]? =some y2->((0:Int)<=(1:Int)/\(1:Int)<=(↑Qq.length:Int)/\(↑Qq.length:Int)<=(↑Qq.length:Int))/\Lp3 (fun Qk Jv z6n w8z=>Fits edges->CAt edges z6n (fun y6=>Cnd (y6.1=y2) (At edges z6n fun y8=>q0o Qk y8.2 fun Z1=>Cnd (Z1=true) (InI (z6n+1)/\w8z Qk Jv (z6n+1)) (At edges z6n fun y11=>q0p Qk y11.2 fun Qi=>At edges z6n fun y14=>(Sml ([]++Jv).length/\Sml ([]++Jv++[y14.2]).length/\InI (z6n+1)/\w8z Qi ([]++Jv++[y14.2]) (z6n+1))/\Sml ([]++Jv).length/\Sml ([]++Jv++[y14.2]).length/\InI (z6n+1)/\w8z Qi ([]++Jv++[y14.2]) (z6n+1))) (InI (z6n+1)/\w8z Qk Jv (z6n+1))) (R8 Qk Jv)) Qb (List.drop (Int.toNat (1:Int)) (List.take (↑Qq.length:Int).toNat Qq)) (0:Int)) (K Qb)) [] [node]
def z14:q65:=z7b q5i q5j
abbrev q4h:Type:=List (ByteArray)->List (Edg)->(List (ByteArray)->Prop)->Prop
def z30(z2u:q65)(q0o:q75)(q0p:q76):q4h:=fun nodes edges K=>Lp2 (fun Qb Qq R8=>Fits nodes->CAt nodes Qq (fun y2=>At nodes Qq fun y4=>z2u edges y2 fun Zi=>q0o Zi y4 fun Zj=>Cnd (Zj=true) (At nodes Qq fun y8=>q0p Qb y8 fun Z1=>InI (Qq+1)/\R8 Z1 (Qq+1)) (InI (Qq+1)/\R8 Qb (Qq+1))) (K Qb)) [] (0:Int)
def q78:q4h:=z30 z14 q5i q5j
abbrev q4i:Type:=List (ByteArray)->List (Edg)->(ByteArray->Bool->Prop)->Prop
def z31(q88:q4h):q4i:=fun nodes edges K=>q88 nodes edges fun Qb=>Fits Qb->Cnd ((↑Qb.length:Int)=0) (K (B8 []) false) (((0:Int)<=(0:Int)/\(0:Int)<(↑Qb.length:Int))/\ ∀y2,Qb[Int.toNat (0:Int)]? =some y2->K y2 true)
def q79:q4i:=z31 q78
abbrev Uf:Type:=Envt->ByteArray->(Int->Prop)->Prop
def Gu:Uf:=fun v key K=>Lp1 (fun Qb Gd=>Fits v.4->CAt v.4 Qb (fun y2=>Cnd (y2.1=key) (K Qb) (InI (Qb+1)/\Gd (Qb+1))) (K (-1:Int))) (0:Int)
abbrev q66:Type:=List (Decl)->Srv->(Int->Prop)->Prop
def z7c(q45:z0e):q66:=fun l v K=>Cnd (v.1=0) (q45 l v.2 v.3 fun Qb=>Cnd (Qb=0) (K (11:Int)) (Cnd (Qb=5) (K (8:Int)) (K (0:Int)))) (K (0:Int))
def z15:q66:=z7c q19
abbrev Gv:Type:=Envt->Flg->(Int->Prop)->Prop
def q4j(Wj:R3)(Z5:Uf)(Vm:Gs)(q7n:q66)(Q0:Ja):Gv:=fun v f K=>Wj v.3 fun Qb=>Lp2 (fun Qd Q5 q9s=>Fits f.6->CAt f.6 Qd (fun y3=>Z5 (Envt.mk (Sett.mk v.1.1 v.1.2 v.1.3) v.2 v.3 v.4 v.5 v.6) y3.1 fun Qo=>Cnd (Qo<0) (K (11:Int)) (At f.6 Qd fun y6=>At v.4 Qo fun y8=>Fits y8.3->Cnd ((↑y8.3.length:Int)<y6.2) (K (3:Int)) (InI (Qd+1)/\q9s (Qd+1) Q5))) (Lp2 (fun Qf Jw j88=>Fits f.8->CAt f.8 Qf (fun y5=>Vm v.2 Jw (Ex.mk y5.2.1 y5.2.2 y5.2.3 y5.2.4 y5.2.5) fun Zj=>Cnd (Zj=0) (At f.8 Qf fun y8=>q7n v.2 (Srv.mk y8.3.1 y8.3.2 y8.3.3 y8.3.4 y8.3.5) fun Z1=>Cnd (Z1=0) (InI (Qf+1)/\j88 (Qf+1) Jw) (K Z1)) (K Zj)) (q7n v.2 (Srv.mk f.9.1 f.9.2 f.9.3 f.9.4 f.9.5) fun Qo=>Cnd (Qo=0) (Q0 f.8 fun Zi _ w5d=>Cnd (w5d=true) (Fits Zi->Cnd ((0:Int)<(↑Zi.length:Int)) (K (13:Int)) (K (0:Int))) (K (19:Int))) (K Qo))) (0:Int) Q5)) (0:Int) Qb
def Bt:Gv:=q4j q63 Gu q64 z15 J6
abbrev q1q:Type:=Envt->(List (ByteArray)->Prop)->Prop
def q59:q1q:=fun v K=>Lp2 (fun Qb Qq R8=>Fits v.4->CAt v.4 Qq (fun y2=>Sml (Qb++[y2.1]).length/\InI (Qq+1)/\R8 (Qb++[y2.1]) (Qq+1)) (K Qb)) [] (0:Int)
abbrev Bu:Type:=Envt->(List (Edg)->Prop)->Prop
def Bv:Bu:=fun v K=>Lp2 (fun Qb Qq R8=>Fits v.4->Cnd (Qq<(↑v.4.length:Int)) (Lp2 (fun Qj Q6 q85=>At v.4 Qq fun y3=>Fits y3.6->Cnd (Q6<(↑y3.6.length:Int)) (At v.4 Qq fun y6=>At v.4 Qq fun y8=>At y8.6 Q6 fun y10=>Sml (Qj++[Edg.mk y6.1 y10.1]).length/\InI (Q6+1)/\q85 (Qj++[Edg.mk y6.1 y10.1]) (Q6+1)) (InI (Qq+1)/\R8 Qj (Qq+1))) Qb (0:Int)) (K Qb)) [] (0:Int)
abbrev Vi:Type:=List (Spn)->List (Spn)->(List (Spn)->Prop)->Prop
def q5m(Qs:J4)(Qx:Jx):Vi:=fun a b K=>Qs a fun Qb=>Qs b fun Qd=>Lp2 (fun Qj Q6 q85=>Fits Q6->CAt Q6 Qj (fun y4=>Cnd (y4=true) (At Qd Qj fun y6=>At Q6 Qj fun _=>InI (Qj+1)/\q85 (Qj+1) (Q6.set Qj.toNat y6)) (At Q6 Qj fun _=>InI (Qj+1)/\q85 (Qj+1) (Q6.set Qj.toNat false))) (Qx Q6 fun Qk=>K Qk)) (0:Int) Qb
def Wx:Vi:=q5m V5 W6
abbrev Wc:Type:=Envt->Int->(Int->Prop)->Prop
def Vj(Qg:Zg)(Z5:Uf)(Wj:R3)(Vm:Gs)(Z6:Vi):Wc:=fun v i K=>At v.6 i fun y0=>Qg (Envt.mk (Sett.mk v.1.1 v.1.2 v.1.3) v.2 v.3 v.4 v.5 v.6) y0.2 fun Qj=>Z5 (Envt.mk (Sett.mk v.1.1 v.1.2 v.1.3) v.2 v.3 v.4 v.5 v.6) y0.3 fun Qf=>Cnd (Qj<0) (K (11:Int)) (Cnd (Qf<0) (K (11:Int)) (Lp1 (fun Qk j6w=>Fits y0.7->CAt y0.7 Qk (fun y6=>At v.4 Qf fun y8=>Fits y8.3->Cnd ((↑y8.3.length:Int)<y6.3) (K (3:Int)) (InI (Qk+1)/\j6w (Qk+1))) (Wj v.3 fun Zi=>Vm v.2 Zi (Ex.mk y0.8.1 y0.8.2 y0.8.3 y0.8.4 y0.8.5) fun Zj=>Cnd (Zj=0) (Cnd (y0.5=3) (K (0:Int)) (At v.5 Qj fun y8=>Lp3 (fun Z1 U7 z28 v4s=>Cnd (U7<i) (At v.6 U7 fun y11=>Cnd (y11.2=y0.2) (Cnd (y11.5=3) (InI (U7+1)/\v4s Z1 (U7+1) z28) (Sml (Z1++y11.6).length/\InI (U7+1)/\v4s (Z1++y11.6) (U7+1) z28)) (InI (U7+1)/\v4s Z1 (U7+1) z28)) (Z6 y0.6 Z1 fun J2=>Fits J2->Cnd ((0:Int)<(↑J2.length:Int)) (K (14:Int)) (Lp4 (fun Qi q6k w1l w1m v4t=>Cnd (Qi<i) (Cnd (y0.5=2) (At v.6 Qi fun y14=>Cnd (y14.5=2) (Cnd (y14.3=y0.3) (Cnd (y14.2=y0.2) (InI (Qi+1)/\v4t (Qi+1) q6k w1l w1m) (K (14:Int))) (InI (Qi+1)/\v4t (Qi+1) q6k w1l w1m)) (InI (Qi+1)/\v4t (Qi+1) q6k w1l w1m)) (K (0:Int))) (K (0:Int))) (0:Int) J2 Z1 z28))) [Spn.mk (0:Int) y8.4] (0:Int) Zi)) (K Zj))) (0:Int)))
def Jt:Wc:=Vj Zw Gu q63 q64 Wx
abbrev V8:Type:=Envt->(ByteArray->Int->Prop)->Prop
def G9(Z8:Wn)(Wj:R3)(Vm:Gs)(q89:q4g)(q46:q4i)(q0q:Gv)(q10:q1q)(q0r:Bu)(Vn:Wc):V8:=fun v K=>Z8 (Envt.mk (Sett.mk v.1.1 v.1.2 v.1.3) v.2 v.3 v.4 v.5 v.6) fun Qb=>Cnd (Qb=0) (Wj v.3 fun Qd=>Lp2 (fun Qj Q6 q85=>Fits v.3->CAt v.3 Qj (fun y4=>Cnd (y4.5.1=0) (InI (Qj+1)/\q85 (Qj+1) Q6) (At v.3 Qj fun y6=>Vm v.2 Q6 (Ex.mk y6.5.1 y6.5.2 y6.5.3 y6.5.4 y6.5.5) fun Zx=>Cnd (Zx=0) (InI (Qj+1)/\q85 (Qj+1) Q6) (At v.3 Qj fun y9=>(↑((B8 [115,101,103,109,101,110,116,32]).size+y9.1.size):Int)<=(9223372036854775807:Int)/\K (B8 [115,101,103,109,101,110,116,32]++y9.1) Zx))) (q89 v.3 fun Qk=>q46 Q6 Qk fun Qo q6j=>Cnd (q6j=true) ((↑((B8 [115,101,103,109,101,110,116,32]).size+Qo.size):Int)<=(9223372036854775807:Int)/\K (B8 [115,101,103,109,101,110,116,32]++Qo) (12:Int)) (Lp3 (fun Zi q5y w5d v4u=>Fits v.4->CAt v.4 Zi (fun y8=>q0q (Envt.mk (Sett.mk v.1.1 v.1.2 v.1.3) v.2 v.3 v.4 v.5 v.6) (Flg.mk y8.1 y8.2 y8.3 y8.4 y8.5 y8.6 y8.7 y8.8 (Srv.mk y8.9.1 y8.9.2 y8.9.3 y8.9.4 y8.9.5)) fun Z1=>Cnd (Z1=0) (InI (Zi+1)/\v4u (Zi+1) q5y w5d) (At v.4 Zi fun y11=>(↑((B8 [102,108,97,103,32]).size+y11.1.size):Int)<=(9223372036854775807:Int)/\K (B8 [102,108,97,103,32]++y11.1) Z1)) (q10 (Envt.mk (Sett.mk v.1.1 v.1.2 v.1.3) v.2 v.3 v.4 v.5 v.6) fun Zx=>q0r (Envt.mk (Sett.mk v.1.1 v.1.2 v.1.3) v.2 v.3 v.4 v.5 v.6) fun J8=>q46 Zx J8 fun Z1 U7=>Cnd (U7=true) ((↑((B8 [102,108,97,103,32]).size+Z1.size):Int)<=(9223372036854775807:Int)/\K (B8 [102,108,97,103,32]++Z1) (12:Int)) (Lp5 (fun J2 q83 v8j v8k v8l v8m=>Fits v.6->Cnd (J2<(↑v.6.length:Int)) (Vn (Envt.mk (Sett.mk v.1.1 v.1.2 v.1.3) v.2 v.3 v.4 v.5 v.6) J2 fun Qi=>Cnd (Qi=0) (InI (J2+1)/\v8m (J2+1) q83 v8j v8k v8l) (At v.6 J2 fun y14=>(↑((B8 [101,120,112,101,114,105,109,101,110,116,32]).size+y14.1.size):Int)<=(9223372036854775807:Int)/\K (B8 [101,120,112,101,114,105,109,101,110,116,32]++y14.1) Qi)) (K (B8 []) (0:Int))) (0:Int) Zx J8 w5d q5y))) (0:Int) Q6 Qk))) (0:Int) Qd) (K (B8 []) Qb)
def W0:V8:=G9 Wo q63 q64 q77 q79 Bt q59 Bv Jt
abbrev Rs:Type:=Envt->(Bool->Prop)->Prop
def q8a(Hm:V8):Rs:=fun v K=>Hm (Envt.mk (Sett.mk v.1.1 v.1.2 v.1.3) v.2 v.3 v.4 v.5 v.6) fun _ Qq=>K (decide (Qq=0))
def Up:Rs:=q8a W0
abbrev Gw:Type:=List (Int)->Int->Int->(Envt->Int->Prop)->Prop
def q4k(Zv:Ue)(q53:q13)(Qa:Qr)(q0i:z1r)(Zr:Gi)(J3:Bg)(Vo:q36)(Z7:V0)(Vz:Bh)(Q0:Ja)(z6j:q99)(Zy:Uj)(q0j:q34)(Hn:q02)(Zz:G4)(Zs:W7)(Jz:Uo)(Wr:Rs):Gw:=fun list at_ now K=>Zv fun Qb=>Jn1 (fun (Qd:ByteArray×ByteArray×Int×Int×List Decl×Unit)=>q53 list Qd.2.2.2.1 Qd.1 Qd.2.1 Qd.2.2.1 Qd.2.2.2.2.1 [] [] [] [] fun Qj Q6 j89 j2y w88 v9l v9m v9n v9o=>Qa list Qj (5:Int) fun Qf Jw=>q0i Qf [B8 [102,97],B8 [102,98],B8 [102,99],B8 [102,100]] fun Qk=>LpH (fun (Qo:Int×Int×List Flg×List Seg×List Lay_×List Exper×Unit) w5b=>Fits Qk->CAt Qk Qo.1 (fun y7=>Qa list Qo.2.1 (5:Int) fun J8 z2m=>InI ((1:Int)+J8)/\Qa list z2m (6:Int) fun Z1 U7=>Qa list U7 (4:Int) fun J2 q83=>InI ((1:Int)+J2)/\LpH (fun (Qw:Int×Int×List Val×List Exper×List Lay_×List Flg×List Seg×Unit) (v8n:Int×Int×List Val×List Exper×List Lay_×List Flg×List Seg×Unit->Prop)=>Cnd (Qw.1<1+J2) (Zr list Qw.2.1 ((1:Int)+J8) fun Qi q6k=>Sml (Qw.2.2.1++[Qi]).length/\InI (Qw.1+1)/\v8n (Qw.1+1,q6k,Qw.2.2.1++[Qi],Qw.2.2.2.1,Qw.2.2.2.2.1,Qw.2.2.2.2.2.1,Qw.2.2.2.2.2.2.1,())) (Qa list Qw.2.1 ((1:Int)+J2) fun Qi q6k=>InI ((1:Int)+Qi)/\LpH (fun (Zh:Int×List Prq×Int×List Seg×List Flg×List Lay_×List Exper×List Val×Unit) (v1g:Int×List Prq×Int×List Seg×List Flg×List Lay_×List Exper×List Val×Unit->Prop)=>Fits Zh.2.2.2.2.1->Cnd (Zh.1<(↑Zh.2.2.2.2.1.length:Int)) (Qa list Zh.2.2.1 (4:Int) fun Zt w48=>Cnd (Zt=1) (At Zh.2.2.2.2.1 Zh.1 fun y17=>At Zh.2.2.2.2.1 Zh.1 fun y19=>Fits y19.3->Qa list w48 (↑y19.3.length:Int) fun q2h w83=>InI ((1:Int)+q2h)/\Sml (Zh.2.1++[Prq.mk y17.1 ((1:Int)+q2h)]).length/\InI (Zh.1+1)/\v1g (Zh.1+1,Zh.2.1++[Prq.mk y17.1 ((1:Int)+q2h)],w83,Zh.2.2.2.1,Zh.2.2.2.2.1,Zh.2.2.2.2.2.1,Zh.2.2.2.2.2.2.1,Zh.2.2.2.2.2.2.2.1,())) (InI (Zh.1+1)/\v1g (Zh.1+1,Zh.2.1,w48,Zh.2.2.2.1,Zh.2.2.2.2.1,Zh.2.2.2.2.2.1,Zh.2.2.2.2.2.2.1,Zh.2.2.2.2.2.2.2.1,()))) (LpH (fun (Zt:Int×List Tgt×Int×List Val×List Exper×List Lay_×List Flg×List Seg×List Prq×Unit) (v1h:Int×List Tgt×Int×List Val×List Exper×List Lay_×List Flg×List Seg×List Prq×Unit->Prop)=>Qa list Zt.2.2.1 (3:Int) fun G1 j6s=>Cnd (Zt.1<G1) (Qa list j6s ((1:Int)+J2) fun Qh z9q=>InI ((1:Int)+Qh)/\J3 list z9q fun Q9 j2w=>Jn1 (fun (G2:ByteArray×Int×List ByteArray×List Prq×List Seg×List Flg×List Lay_×List Exper×List Val×List Tgt×Unit)=>Fits G2.2.2.1->Cnd ((0:Int)<(↑G2.2.2.1.length:Int)) (Sml (G2.2.2.2.2.2.2.2.2.2.1++[Tgt.mk G2.1 ((1:Int)+Qh) G2.2.2.1]).length/\InI (Zt.1+1)/\v1h (Zt.1+1,G2.2.2.2.2.2.2.2.2.2.1++[Tgt.mk G2.1 ((1:Int)+Qh) G2.2.2.1],G2.2.1,G2.2.2.2.2.2.2.2.2.1,G2.2.2.2.2.2.2.2.1,G2.2.2.2.2.2.2.1,G2.2.2.2.2.2.1,G2.2.2.2.2.1,G2.2.2.2.1,())) (InI (Zt.1+1)/\v1h (Zt.1+1,G2.2.2.2.2.2.2.2.2.2.1,G2.2.1,G2.2.2.2.2.2.2.2.2.1,G2.2.2.2.2.2.2.2.1,G2.2.2.2.2.2.2.1,G2.2.2.2.2.2.1,G2.2.2.2.2.1,G2.2.2.2.1,()))) fun (v6q:ByteArray×Int×List ByteArray×List Prq×List Seg×List Flg×List Lay_×List Exper×List Val×List Tgt×Unit->Prop)=>Qa list j2w (4:Int) fun Zl v1i=>Cnd (Zl=1) (v6q (B8 [100,101,118,105,99,101],v1i,Q9,Zt.2.2.2.2.2.2.2.2.1,Zt.2.2.2.2.2.2.2.1,Zt.2.2.2.2.2.2.1,Zt.2.2.2.2.2.1,Zt.2.2.2.2.1,Zt.2.2.2.1,Zt.2.1,())) (v6q (B8 [117,115,101,114],v1i,Q9,Zt.2.2.2.2.2.2.2.2.1,Zt.2.2.2.2.2.2.2.1,Zt.2.2.2.2.2.2.1,Zt.2.2.2.2.2.1,Zt.2.2.2.2.1,Zt.2.2.2.1,Zt.2.1,()))) (Jn1 (fun (Qh:Int×List Rul×List ByteArray×List Prq×List Seg×List Flg×List Lay_×List Exper×List Val×List Tgt×Unit)=>Vo list Qh.1 ((1:Int)+J2) fun Q9 j2w=>Sml (Qh.2.2.2.2.2.1++[Flg.mk y7 ((1:Int)+J8) Qh.2.2.2.2.2.2.2.2.1 (decide (Z1<5)) ((1:Int)+Qi) Qh.2.2.2.1 Qh.2.2.2.2.2.2.2.2.2.1 Qh.2.1 Q9]).length/\InI (Qo.1+1)/\w5b (Qo.1+1,j2w,Qh.2.2.2.2.2.1++[Flg.mk y7 ((1:Int)+J8) Qh.2.2.2.2.2.2.2.2.1 (decide (Z1<5)) ((1:Int)+Qi) Qh.2.2.2.1 Qh.2.2.2.2.2.2.2.2.2.1 Qh.2.1 Q9],Qh.2.2.2.2.1,Qh.2.2.2.2.2.2.1,Qh.2.2.2.2.2.2.2.1,())) fun (v4v:Int×List Rul×List ByteArray×List Prq×List Seg×List Flg×List Lay_×List Exper×List Val×List Tgt×Unit->Prop)=>LpH (fun (Q9:Int×Int×List Rul×List ByteArray×List Prq×List Seg×List Flg×List Lay_×List Exper×List Val×List Tgt×Unit) (v8o:Int×Int×List Rul×List ByteArray×List Prq×List Seg×List Flg×List Lay_×List Exper×List Val×List Tgt×Unit->Prop)=>Qa list Q9.2.1 (5:Int) fun G2 v1j=>Cnd (Q9.1<G2) (At Q9.2.2.2.1 Q9.1 fun y21=>Z7 (Envt.mk (Sett.mk Q6 j89 j2y) w88 Q9.2.2.2.2.2.1 Q9.2.2.2.2.2.2.1 Q9.2.2.2.2.2.2.2.1 Q9.2.2.2.2.2.2.2.2.1) fun v1k=>Vz list v1j v1k (3:Int) fun Zm v8p=>Vo list v8p ((1:Int)+J2) fun q9a w84=>Sml (Q9.2.2.1++[Rul.mk y21 (Ex.mk Zm.1 Zm.2 Zm.3 Zm.4 Zm.5) q9a]).length/\Q0 (Q9.2.2.1++[Rul.mk y21 (Ex.mk Zm.1 Zm.2 Zm.3 Zm.4 Zm.5) q9a]) fun v6r _ v8q=>Cnd (v8q=true) (Fits v6r->Cnd ((0:Int)<(↑v6r.length:Int)) ((Q9.2.2.1++[Rul.mk y21 (Ex.mk Zm.1 Zm.2 Zm.3 Zm.4 Zm.5) q9a]).length<=(9223372036854775807:Nat)->InI ((↑(Q9.2.2.1++[Rul.mk y21 (Ex.mk Zm.1 Zm.2 Zm.3 Zm.4 Zm.5) q9a]).length:Int) - 1)/\((0:Int)<=(↑(Q9.2.2.1++[Rul.mk y21 (Ex.mk Zm.1 Zm.2 Zm.3 Zm.4 Zm.5) q9a]).length:Int) - 1/\(↑(Q9.2.2.1++[Rul.mk y21 (Ex.mk Zm.1 Zm.2 Zm.3 Zm.4 Zm.5) q9a]).length:Int) - 1<=(↑(Q9.2.2.1++[Rul.mk y21 (Ex.mk Zm.1 Zm.2 Zm.3 Zm.4 Zm.5) q9a]).length:Int))/\v4v (w84,List.take ((↑(Q9.2.2.1++[Rul.mk y21 (Ex.mk Zm.1 Zm.2 Zm.3 Zm.4 Zm.5) q9a]).length:Int) - 1).toNat (Q9.2.2.1++[Rul.mk y21 (Ex.mk Zm.1 Zm.2 Zm.3 Zm.4 Zm.5) q9a]),Q9.2.2.2.1,Q9.2.2.2.2.1,Q9.2.2.2.2.2.1,Q9.2.2.2.2.2.2.1,Q9.2.2.2.2.2.2.2.1,Q9.2.2.2.2.2.2.2.2.1,Q9.2.2.2.2.2.2.2.2.2.1,Q9.2.2.2.2.2.2.2.2.2.2.1,())) (InI (Q9.1+1)/\v8o (Q9.1+1,w84,Q9.2.2.1++[Rul.mk y21 (Ex.mk Zm.1 Zm.2 Zm.3 Zm.4 Zm.5) q9a],Q9.2.2.2.1,Q9.2.2.2.2.1,Q9.2.2.2.2.2.1,Q9.2.2.2.2.2.2.1,Q9.2.2.2.2.2.2.2.1,Q9.2.2.2.2.2.2.2.2.1,Q9.2.2.2.2.2.2.2.2.2.1,Q9.2.2.2.2.2.2.2.2.2.2.1,()))) ((Q9.2.2.1++[Rul.mk y21 (Ex.mk Zm.1 Zm.2 Zm.3 Zm.4 Zm.5) q9a]).length<=(9223372036854775807:Nat)->InI ((↑(Q9.2.2.1++[Rul.mk y21 (Ex.mk Zm.1 Zm.2 Zm.3 Zm.4 Zm.5) q9a]).length:Int) - 1)/\((0:Int)<=(↑(Q9.2.2.1++[Rul.mk y21 (Ex.mk Zm.1 Zm.2 Zm.3 Zm.4 Zm.5) q9a]).length:Int) - 1/\(↑(Q9.2.2.1++[Rul.mk y21 (Ex.mk Zm.1 Zm.2 Zm.3 Zm.4 Zm.5) q9a]).length:Int) - 1<=(↑(Q9.2.2.1++[Rul.mk y21 (Ex.mk Zm.1 Zm.2 Zm.3 Zm.4 Zm.5) q9a]).length:Int))/\v4v (w84,List.take ((↑(Q9.2.2.1++[Rul.mk y21 (Ex.mk Zm.1 Zm.2 Zm.3 Zm.4 Zm.5) q9a]).length:Int) - 1).toNat (Q9.2.2.1++[Rul.mk y21 (Ex.mk Zm.1 Zm.2 Zm.3 Zm.4 Zm.5) q9a]),Q9.2.2.2.1,Q9.2.2.2.2.1,Q9.2.2.2.2.2.1,Q9.2.2.2.2.2.2.1,Q9.2.2.2.2.2.2.2.1,Q9.2.2.2.2.2.2.2.2.1,Q9.2.2.2.2.2.2.2.2.2.1,Q9.2.2.2.2.2.2.2.2.2.2.1,()))) (v4v (v1j,Q9.2.2.1,Q9.2.2.2.1,Q9.2.2.2.2.1,Q9.2.2.2.2.2.1,Q9.2.2.2.2.2.2.1,Q9.2.2.2.2.2.2.2.1,Q9.2.2.2.2.2.2.2.2.1,Q9.2.2.2.2.2.2.2.2.2.1,Q9.2.2.2.2.2.2.2.2.2.2.1,()))) ((0:Int),j6s,[],[B8 [102,105,114,115,116],B8 [115,101,99,111,110,100],B8 [116,104,105,114,100],B8 [102,111,117,114,116,104]],Zt.2.2.2.2.2.2.2.2.1,Zt.2.2.2.2.2.2.2.1,Zt.2.2.2.2.2.2.1,Zt.2.2.2.2.2.1,Zt.2.2.2.2.1,Zt.2.2.2.1,Zt.2.1,()))) ((0:Int),[],Zh.2.2.1,Zh.2.2.2.2.2.2.2.1,Zh.2.2.2.2.2.2.1,Zh.2.2.2.2.2.1,Zh.2.2.2.2.1,Zh.2.2.2.1,Zh.2.1,()))) ((0:Int),[],q6k,Qw.2.2.2.2.2.2.1,Qw.2.2.2.2.2.1,Qw.2.2.2.2.1,Qw.2.2.2.1,Qw.2.2.1,()))) ((0:Int),q83,[],Qo.2.2.2.2.2.1,Qo.2.2.2.2.1,Qo.2.2.1,Qo.2.2.2.1,())) (Qa list Qo.2.1 (3:Int) fun Zj R9=>q0i Zj [B8 [108,97],B8 [108,98]] fun Zx=>LpH (fun (J8:Int×Int×List Lay_×List Exper×List Seg×List Flg×Unit) (v2e:Int×Int×List Lay_×List Exper×List Seg×List Flg×Unit->Prop)=>Fits Zx->CAt Zx J8.1 (fun y11=>z6j list J8.2.1 y11 fun Qi q6k=>Sml (J8.2.2.1++[Qi]).length/\InI (J8.1+1)/\v2e (J8.1+1,q6k,J8.2.2.1++[Qi],J8.2.2.2.1,J8.2.2.2.2.1,J8.2.2.2.2.2.1,())) (Qa list J8.2.1 (4:Int) fun J2 q83=>q0i J2 [B8 [120,97],B8 [120,98],B8 [120,99]] fun Qw=>LpH (fun (Qi:Int×Int×List Exper×List Flg×List Seg×List Lay_×Unit) (w49:Int×Int×List Exper×List Flg×List Seg×List Lay_×Unit->Prop)=>Fits Qw->Cnd (Qi.1<(↑Qw.length:Int)) (Fits Qi.2.2.2.1->Cnd ((0:Int)<(↑Qi.2.2.2.1.length:Int)) (Fits Qi.2.2.2.2.2.1->Cnd ((0:Int)<(↑Qi.2.2.2.2.2.1.length:Int)) (At Qw Qi.1 fun y17=>Fits Qi.2.2.2.1->Qa list Qi.2.1 (↑Qi.2.2.2.1.length:Int) fun G2 v1j=>At Qi.2.2.2.1 G2 fun y21=>Fits Qi.2.2.2.2.2.1->Fits y21.3->Qa list v1j (↑Qi.2.2.2.2.2.1.length:Int) fun q9a w84=>At Qi.2.2.2.2.2.1 q9a fun y26=>Zy list w84 fun j3q v8r=>Qa list v8r (3:Int) fun v1l v8s=>InI ((1:Int)+v1l)/\q0j list v8s (↑y21.3.length:Int) fun v4w v6s=>Jn1 (fun (q20:Int×Int×List Rng×List Exper×List Lay_×List Flg×List Seg×Unit)=>Jn1 (fun (Zo:Int×ByteArray×ByteArray×List Val×List Ex×Int×List Seg×List Flg×List Lay_×List Exper×List Rng×Unit)=>Hn (Envt.mk (Sett.mk Q6 j89 j2y) w88 Zo.2.2.2.2.2.2.1 Zo.2.2.2.2.2.2.2.1 Zo.2.2.2.2.2.2.2.2.1 Zo.2.2.2.2.2.2.2.2.2.1) y26.1 now fun (v4x:List Spn) (_:Int)=>Zz list Zo.2.2.2.2.2.1 (8000:Int) fun (v4y v8t:Int)=>Zz list v8t (8000:Int) fun (w1n v4z:Int)=>Zs v4x [Spn.mk v4y w1n] fun (v8u:List Spn)=>Zz list v4z (7000:Int) fun (v8v v6t:Int)=>Jz v8u v8v fun (j3r:List Spn)=>Sml (Zo.2.2.2.2.2.2.2.2.2.1++[Exper.mk y17 y26.1 y21.1 j3q q20.1 j3r Zo.2.2.2.2.2.2.2.2.2.2.1 (Ex.mk Zo.1 Zo.2.1 Zo.2.2.1 Zo.2.2.2.1 Zo.2.2.2.2.1)]).length/\Wr (Envt.mk (Sett.mk Q6 j89 j2y) w88 Zo.2.2.2.2.2.2.1 Zo.2.2.2.2.2.2.2.1 Zo.2.2.2.2.2.2.2.2.1 (Zo.2.2.2.2.2.2.2.2.2.1++[Exper.mk y17 y26.1 y21.1 j3q q20.1 j3r Zo.2.2.2.2.2.2.2.2.2.2.1 (Ex.mk Zo.1 Zo.2.1 Zo.2.2.1 Zo.2.2.2.1 Zo.2.2.2.2.1)])) fun (v8w:Bool)=>Cnd (v8w=true) (InI (Qi.1+1)/\w49 (Qi.1+1,v6t,Zo.2.2.2.2.2.2.2.2.2.1++[Exper.mk y17 y26.1 y21.1 j3q q20.1 j3r Zo.2.2.2.2.2.2.2.2.2.2.1 (Ex.mk Zo.1 Zo.2.1 Zo.2.2.1 Zo.2.2.2.1 Zo.2.2.2.2.1)],Zo.2.2.2.2.2.2.2.1,Zo.2.2.2.2.2.2.1,Zo.2.2.2.2.2.2.2.2.1,())) ((Zo.2.2.2.2.2.2.2.2.2.1++[Exper.mk y17 y26.1 y21.1 j3q q20.1 j3r Zo.2.2.2.2.2.2.2.2.2.2.1 (Ex.mk Zo.1 Zo.2.1 Zo.2.2.1 Zo.2.2.2.1 Zo.2.2.2.2.1)]).length<=(9223372036854775807:Nat)->InI ((↑(Zo.2.2.2.2.2.2.2.2.2.1++[Exper.mk y17 y26.1 y21.1 j3q q20.1 j3r Zo.2.2.2.2.2.2.2.2.2.2.1 (Ex.mk Zo.1 Zo.2.1 Zo.2.2.1 Zo.2.2.2.1 Zo.2.2.2.2.1)]).length:Int) - 1)/\((0:Int)<=(↑(Zo.2.2.2.2.2.2.2.2.2.1++[Exper.mk y17 y26.1 y21.1 j3q q20.1 j3r Zo.2.2.2.2.2.2.2.2.2.2.1 (Ex.mk Zo.1 Zo.2.1 Zo.2.2.1 Zo.2.2.2.1 Zo.2.2.2.2.1)]).length:Int) - 1/\(↑(Zo.2.2.2.2.2.2.2.2.2.1++[Exper.mk y17 y26.1 y21.1 j3q q20.1 j3r Zo.2.2.2.2.2.2.2.2.2.2.1 (Ex.mk Zo.1 Zo.2.1 Zo.2.2.1 Zo.2.2.2.1 Zo.2.2.2.2.1)]).length:Int) - 1<=(↑(Zo.2.2.2.2.2.2.2.2.2.1++[Exper.mk y17 y26.1 y21.1 j3q q20.1 j3r Zo.2.2.2.2.2.2.2.2.2.2.1 (Ex.mk Zo.1 Zo.2.1 Zo.2.2.1 Zo.2.2.2.1 Zo.2.2.2.2.1)]).length:Int))/\InI (Qi.1+1)/\w49 (Qi.1+1,v6t,List.take ((↑(Zo.2.2.2.2.2.2.2.2.2.1++[Exper.mk y17 y26.1 y21.1 j3q q20.1 j3r Zo.2.2.2.2.2.2.2.2.2.2.1 (Ex.mk Zo.1 Zo.2.1 Zo.2.2.1 Zo.2.2.2.1 Zo.2.2.2.2.1)]).length:Int) - 1).toNat (Zo.2.2.2.2.2.2.2.2.2.1++[Exper.mk y17 y26.1 y21.1 j3q q20.1 j3r Zo.2.2.2.2.2.2.2.2.2.2.1 (Ex.mk Zo.1 Zo.2.1 Zo.2.2.1 Zo.2.2.2.1 Zo.2.2.2.2.1)]),Zo.2.2.2.2.2.2.2.1,Zo.2.2.2.2.2.2.1,Zo.2.2.2.2.2.2.2.2.1,()))) fun (v6u:Int×ByteArray×ByteArray×List Val×List Ex×Int×List Seg×List Flg×List Lay_×List Exper×List Rng×Unit->Prop)=>Qa list q20.2.1 (2:Int) fun (v4x v6v:Int)=>Cnd (v4x=1) (Z7 (Envt.mk (Sett.mk Q6 j89 j2y) w88 q20.2.2.2.2.2.2.1 q20.2.2.2.2.2.1 q20.2.2.2.2.1 q20.2.2.2.1) fun (v4y:List ByteArray)=>Vz list v6v v4y (2:Int) fun (w1n:Ex) (v4z:Int)=>v6u (w1n.1,w1n.2,w1n.3,w1n.4,w1n.5,v4z,q20.2.2.2.2.2.2.1,q20.2.2.2.2.2.1,q20.2.2.2.2.1,q20.2.2.2.1,q20.2.2.1,())) (v6u ((1:Int),B8 [],B8 [],[],[],v6v,q20.2.2.2.2.2.2.1,q20.2.2.2.2.2.1,q20.2.2.2.2.1,q20.2.2.2.1,q20.2.2.1,()))) fun (v40:Int×Int×List Rng×List Exper×List Lay_×List Flg×List Seg×Unit->Prop)=>Cnd ((1:Int)+v1l=1) (Qa list v6s (2:Int) fun Zo v6w=>Cnd (Zo=0) (v40 ((2:Int),v6w,v4w,Qi.2.2.1,Qi.2.2.2.2.2.1,Qi.2.2.2.1,Qi.2.2.2.2.1,())) (v40 ((1:Int)+v1l,v6w,v4w,Qi.2.2.1,Qi.2.2.2.2.2.1,Qi.2.2.2.1,Qi.2.2.2.2.1,()))) (v40 ((1:Int)+v1l,v6s,v4w,Qi.2.2.1,Qi.2.2.2.2.2.1,Qi.2.2.2.1,Qi.2.2.2.2.1,()))) (Wr (Envt.mk (Sett.mk Q6 j89 j2y) w88 Qi.2.2.2.2.1 Qi.2.2.2.1 Qi.2.2.2.2.2.1 Qi.2.2.1) fun G1=>Cnd (G1=true) (K (Envt.mk (Sett.mk Q6 j89 j2y) w88 Qi.2.2.2.2.1 Qi.2.2.2.1 Qi.2.2.2.2.2.1 Qi.2.2.1) Qi.2.1) (Zv fun Qh=>K (Envt.mk (Sett.mk (B8 []) (B8 []) (0:Int)) Qh [] [] [] []) Qi.2.1))) (Wr (Envt.mk (Sett.mk Q6 j89 j2y) w88 Qi.2.2.2.2.1 Qi.2.2.2.1 Qi.2.2.2.2.2.1 Qi.2.2.1) fun Zt=>Cnd (Zt=true) (K (Envt.mk (Sett.mk Q6 j89 j2y) w88 Qi.2.2.2.2.1 Qi.2.2.2.1 Qi.2.2.2.2.2.1 Qi.2.2.1) Qi.2.1) (Zv fun G1=>K (Envt.mk (Sett.mk (B8 []) (B8 []) (0:Int)) G1 [] [] [] []) Qi.2.1))) (Wr (Envt.mk (Sett.mk Q6 j89 j2y) w88 Qi.2.2.2.2.1 Qi.2.2.2.1 Qi.2.2.2.2.2.1 Qi.2.2.1) fun q0z=>Cnd (q0z=true) (K (Envt.mk (Sett.mk Q6 j89 j2y) w88 Qi.2.2.2.2.1 Qi.2.2.2.1 Qi.2.2.2.2.2.1 Qi.2.2.1) Qi.2.1) (Zv fun Zt=>K (Envt.mk (Sett.mk (B8 []) (B8 []) (0:Int)) Zt [] [] [] []) Qi.2.1))) ((0:Int),q83,J8.2.2.2.1,J8.2.2.2.2.2.1,J8.2.2.2.2.1,J8.2.2.1,()))) ((0:Int),R9,Qo.2.2.2.2.1,Qo.2.2.2.2.2.1,Qo.2.2.2.1,Qo.2.2.1,()))) ((0:Int),Jw,v9m,v9l,v9n,v9o,())) fun j3n=>Qa list at_ (2:Int) fun Qj Q6=>Cnd (Qj=1) (Zy list Q6 fun Qf Jw=>Zz list Jw (2500:Int) fun Qk Jv=>j3n (Qf,B8 [117,115,101,114],Qk,Jv,Qb,())) (j3n (B8 [],B8 [],(0:Int),Q6,Qb,()))
def Bw:Gw:=q4k Gh q5f Q3 z9z Uy q5d Bi V1 q5e J6 z5d q28 q35 q6v q5c Vt q03 Up
abbrev Jf:Type:=Envt->ByteArray->(Int->Prop)->Prop
def Wg:Jf:=fun v key K=>Lp1 (fun Qb Gd=>Fits v.6->CAt v.6 Qb (fun y2=>Cnd (y2.1=key) (K Qb) (InI (Qb+1)/\Gd (Qb+1))) (K (-1:Int))) (0:Int)
abbrev Ha:Type:=Envt->ByteArray->Int->(Int->Int->Prop)->Prop
def z7d(Qz:Jf)(Wh:Rz)(Qg:Zg):Ha:=fun v key now K=>Qz (Envt.mk (Sett.mk v.1.1 v.1.2 v.1.3) v.2 v.3 v.4 v.5 v.6) key fun Qb=>Wh now fun Qd=>Cnd (Qd=true) (Cnd (Qb<0) (K (0:Int) (11:Int)) (At v.6 Qb fun y2=>Qg (Envt.mk (Sett.mk v.1.1 v.1.2 v.1.3) v.2 v.3 v.4 v.5 v.6) y2.2 fun Qk=>Cnd (Qk<0) (K (0:Int) (11:Int)) (K Qb (0:Int)))) (K (0:Int) (3:Int))
def q3z:Ha:=z7d Wg R0 Zw
abbrev q67:Type:=List (Spn)->(Int->Prop)->Prop
def z7e(Qs:J4):q67:=fun l K=>Qs l fun Qb=>Lp2 (fun Qd Q5 q9s=>Fits Qb->CAt Qb Q5 (fun y3=>Cnd (y3=true) (InI (Qd+1)/\InI (Q5+1)/\q9s (Qd+1) (Q5+1)) (InI (Q5+1)/\q9s Qd (Q5+1))) (K Qd)) (0:Int) (0:Int)
def z16:q67:=z7e V5
abbrev R4:Type:=Envt->Int->Exper->(Envt->Prop)->Prop
def q08:R4:=fun v i x K=>Sml ([]++v.6).length/\((0:Int)<=i/\i<(↑([]++v.6).length:Int))/\ ∀y0,([]++v.6)[i.toNat]? =some y0->K (Envt.mk (Sett.mk v.1.1 v.1.2 v.1.3) v.2 v.3 v.4 v.5 (([]++v.6).set i.toNat (Exper.mk x.1 x.2 x.3 x.4 x.5 x.6 x.7 (Ex.mk x.8.1 x.8.2 x.8.3 x.8.4 x.8.5))))
abbrev q4l:Type:=Envt->ByteArray->Int->Int->(Envt->Int->Prop)->Prop
def z32(Wk:Ha)(Hn:q02)(z2v:q67)(Jz:Uo)(Wp:Rp)(J9:R4):q4l:=fun v experiment size now K=>Wk (Envt.mk (Sett.mk v.1.1 v.1.2 v.1.3) v.2 v.3 v.4 v.5 v.6) experiment now fun Qb Qq=>Cnd (Qq=0) (At v.6 Qb fun y1=>Cnd (y1.5=3) (K (Envt.mk (Sett.mk (B8 []) (B8 []) (0:Int)) [] [] [] [] []) (25:Int)) (Cnd (size<1) (K (Envt.mk (Sett.mk (B8 []) (B8 []) (0:Int)) [] [] [] [] []) (3:Int)) (Hn (Envt.mk (Sett.mk v.1.1 v.1.2 v.1.3) v.2 v.3 v.4 v.5 v.6) y1.2 now fun Qf _=>z2v Qf fun Qk=>Cnd (Qk<size) (K (Envt.mk (Sett.mk (B8 []) (B8 []) (0:Int)) [] [] [] [] []) (19:Int)) (Jz Qf size fun Qo=>Wp y1.6 Qo fun Zi=>Fits Zi->Cnd ((16:Int)<(↑Zi.length:Int)) (K (Envt.mk (Sett.mk (B8 []) (B8 []) (0:Int)) [] [] [] [] []) (5:Int)) (J9 (Envt.mk (Sett.mk v.1.1 v.1.2 v.1.3) v.2 v.3 v.4 v.5 v.6) Qb (Exper.mk y1.1 y1.2 y1.3 y1.4 y1.5 Zi y1.7 (Ex.mk y1.8.1 y1.8.2 y1.8.3 y1.8.4 y1.8.5)) fun Zx=>K (Envt.mk (Sett.mk Zx.1.1 Zx.1.2 Zx.1.3) Zx.2 Zx.3 Zx.4 Zx.5 Zx.6) (0:Int)))))) (K (Envt.mk (Sett.mk (B8 []) (B8 []) (0:Int)) [] [] [] [] []) Qq)
def q8b:q4l:=z32 q3z q6v z16 q03 Rq q08
abbrev q4m:Type:=Envt->ByteArray->Int->(Envt->Int->Prop)->Prop
def z33(Wk:Ha)(Uu:Rr)(Z6:Vi)(J9:R4):q4m:=fun v experiment now K=>Wk (Envt.mk (Sett.mk v.1.1 v.1.2 v.1.3) v.2 v.3 v.4 v.5 v.6) experiment now fun Qb Qq=>Cnd (Qq=0) (At v.6 Qb fun y1=>Cnd (y1.5=1) (Uu (Envt.mk (Sett.mk v.1.1 v.1.2 v.1.3) v.2 v.3 v.4 v.5 v.6) y1.2 y1.1 now fun Qf=>Z6 y1.6 Qf fun Qk=>Fits Qk->Cnd ((0:Int)<(↑Qk.length:Int)) (K (Envt.mk (Sett.mk (B8 []) (B8 []) (0:Int)) [] [] [] [] []) (14:Int)) (J9 (Envt.mk (Sett.mk v.1.1 v.1.2 v.1.3) v.2 v.3 v.4 v.5 v.6) Qb (Exper.mk y1.1 y1.2 y1.3 y1.4 (2:Int) y1.6 y1.7 (Ex.mk y1.8.1 y1.8.2 y1.8.3 y1.8.4 y1.8.5)) fun Zi=>K (Envt.mk (Sett.mk Zi.1.1 Zi.1.2 Zi.1.3) Zi.2 Zi.3 Zi.4 Zi.5 Zi.6) (0:Int))) (K (Envt.mk (Sett.mk (B8 []) (B8 []) (0:Int)) [] [] [] [] []) (25:Int))) (K (Envt.mk (Sett.mk (B8 []) (B8 []) (0:Int)) [] [] [] [] []) Qq)
def q8c:q4m:=z33 q3z q4b Wx q08
abbrev q68:Type:=Int->Int->(Int->Prop)->Prop
def z0h:q68:=fun now cool K=>InI ((1099511627776:Int) - now)/\Cnd ((1099511627776:Int) - now<cool) (K (1099511627776:Int)) (InI (now+cool)/\K (now+cool))
abbrev q3g:Type:=List (Int)->Int->(List (Col)->Prop)->Prop
def Bx:q3g:=fun until_ now K=>Lp2 (fun Qb Qq R8=>Fits until_->CAt until_ Qq (fun y2=>Cnd (y2<=now) (InI (Qq+1)/\R8 Qb (Qq+1)) (Cnd ((0:Int)<Qq) (InI (Qq - 1)/\((0:Int)<=Qq - 1/\Qq - 1<(↑until_.length:Int))/\ ∀y4,until_[(Qq - 1).toNat]? =some y4->At until_ Qq fun y6=>Cnd (y4=y6) (Fits Qb->InI ((↑Qb.length:Int) - 1)/\InI (Qq+1)/\((0:Int)<=(↑Qb.length:Int) - 1/\(↑Qb.length:Int) - 1<(↑Qb.length:Int))/\ ∀y9,Qb[((↑Qb.length:Int) - 1).toNat]? =some y9->InI (Qq+1)/\R8 (Qb.set ((↑Qb.length:Int) - 1).toNat (Col.mk y9.1 (Qq+1) y9.3)) (Qq+1)) (InI (Qq+1)/\At until_ Qq fun y8=>Sml (Qb++[Col.mk Qq (Qq+1) y8]).length/\InI (Qq+1)/\R8 (Qb++[Col.mk Qq (Qq+1) y8]) (Qq+1))) (InI (Qq+1)/\At until_ Qq fun y4=>Sml (Qb++[Col.mk Qq (Qq+1) y4]).length/\InI (Qq+1)/\R8 (Qb++[Col.mk Qq (Qq+1) y4]) (Qq+1)))) (K Qb)) [] (0:Int)
abbrev q69:Type:=Envt->ByteArray->Int->(Envt->Int->Prop)->Prop
def z7f(Wk:Ha)(Qg:Zg)(Qp:Ji)(Qs:J4)(q0s:q68)(q0t:q3g)(J9:R4):q69:=fun v experiment now K=>Wk (Envt.mk (Sett.mk v.1.1 v.1.2 v.1.3) v.2 v.3 v.4 v.5 v.6) experiment now fun Qb Qq=>Cnd (Qq=0) (At v.6 Qb fun y1=>Cnd (y1.5=2) (Qg (Envt.mk (Sett.mk v.1.1 v.1.2 v.1.3) v.2 v.3 v.4 v.5 v.6) y1.2 fun Qf=>At v.5 Qf fun y4=>Qp y4.6 now fun Zi=>Qs y1.6 fun Zj=>Lp2 (fun Zx z27 v6n=>Fits z27->Cnd (Zx<(↑z27.length:Int)) (Cnd ((0:Int)<y4.5) (At Zj Zx fun y10=>Cnd (y10=true) (At z27 Zx fun y12=>q0s now y4.5 fun Zh=>At z27 Zx fun _=>InI (Zx+1)/\v6n (Zx+1) (z27.set Zx.toNat (Max.max y12 Zh))) (InI (Zx+1)/\v6n (Zx+1) z27)) (q0t z27 now fun Z1=>Fits Z1->Cnd ((32:Int)<(↑Z1.length:Int)) (K (Envt.mk (Sett.mk (B8 []) (B8 []) (0:Int)) [] [] [] [] []) (5:Int)) (J9 (Envt.mk (Sett.mk v.1.1 v.1.2 v.1.3) v.2 v.3 v.4 v.5 v.6) Qb (Exper.mk y1.1 y1.2 y1.3 y1.4 (3:Int) y1.6 y1.7 (Ex.mk y1.8.1 y1.8.2 y1.8.3 y1.8.4 y1.8.5)) fun Qw=>Sml ([]++Qw.5).length/\((0:Int)<=Qf/\Qf<(↑([]++Qw.5).length:Int))/\ ∀y13,([]++Qw.5)[Qf.toNat]? =some y13->K (Envt.mk (Sett.mk Qw.1.1 Qw.1.2 Qw.1.3) Qw.2 Qw.3 Qw.4 (([]++Qw.5).set Qf.toNat (Lay_.mk y4.1 y4.2 y4.3 y4.4 y4.5 Z1)) Qw.6) (0:Int)))) (q0t z27 now fun Z1=>Fits Z1->Cnd ((32:Int)<(↑Z1.length:Int)) (K (Envt.mk (Sett.mk (B8 []) (B8 []) (0:Int)) [] [] [] [] []) (5:Int)) (J9 (Envt.mk (Sett.mk v.1.1 v.1.2 v.1.3) v.2 v.3 v.4 v.5 v.6) Qb (Exper.mk y1.1 y1.2 y1.3 y1.4 (3:Int) y1.6 y1.7 (Ex.mk y1.8.1 y1.8.2 y1.8.3 y1.8.4 y1.8.5)) fun Qw=>Sml ([]++Qw.5).length/\((0:Int)<=Qf/\Qf<(↑([]++Qw.5).length:Int))/\ ∀y13,([]++Qw.5)[Qf.toNat]? =some y13->K (Envt.mk (Sett.mk Qw.1.1 Qw.1.2 Qw.1.3) Qw.2 Qw.3 Qw.4 (([]++Qw.5).set Qf.toNat (Lay_.mk y4.1 y4.2 y4.3 y4.4 y4.5 Z1)) Qw.6) (0:Int)))) (0:Int) Zi) (K (Envt.mk (Sett.mk (B8 []) (B8 []) (0:Int)) [] [] [] [] []) (25:Int))) (K (Envt.mk (Sett.mk (B8 []) (B8 []) (0:Int)) [] [] [] [] []) Qq)
def z17:q69:=z7f q3z Zw Z3 V5 z0h Bx q08
abbrev z5o:Type:=List (Int)->Int->Envt->Int->(Envt->Int->Prop)->Prop
def j5m(Qa:Qr)(Wr:Rs)(Zz:G4)(q9b:q4l)(q9c:q4m)(z2w:q69):z5o:=fun list at_ v now K=>Fits v.6->Cnd ((↑v.6.length:Int)=0) (K (Envt.mk (Sett.mk v.1.1 v.1.2 v.1.3) v.2 v.3 v.4 v.5 v.6) at_) (Fits v.6->Qa list at_ (↑v.6.length:Int) fun Qj Q6=>At v.6 Qj fun y3=>Jn1 (fun (Qo:Int×ByteArray×ByteArray×Int×List Decl×List Seg×List Flg×List Lay_×List Exper×Int×Unit)=>Cnd (Qo.1=0) (Wr (Envt.mk (Sett.mk Qo.2.1 Qo.2.2.1 Qo.2.2.2.1) Qo.2.2.2.2.1 Qo.2.2.2.2.2.1 Qo.2.2.2.2.2.2.1 Qo.2.2.2.2.2.2.2.1 Qo.2.2.2.2.2.2.2.2.1) fun Zi=>Cnd (Zi=true) (K (Envt.mk (Sett.mk Qo.2.1 Qo.2.2.1 Qo.2.2.2.1) Qo.2.2.2.2.1 Qo.2.2.2.2.2.1 Qo.2.2.2.2.2.2.1 Qo.2.2.2.2.2.2.2.1 Qo.2.2.2.2.2.2.2.2.1) Qo.2.2.2.2.2.2.2.2.2.1) (K (Envt.mk (Sett.mk v.1.1 v.1.2 v.1.3) v.2 v.3 v.4 v.5 v.6) Qo.2.2.2.2.2.2.2.2.2.1)) (K (Envt.mk (Sett.mk v.1.1 v.1.2 v.1.3) v.2 v.3 v.4 v.5 v.6) Qo.2.2.2.2.2.2.2.2.2.1)) fun (v4q:Int×ByteArray×ByteArray×Int×List Decl×List Seg×List Flg×List Lay_×List Exper×Int×Unit->Prop)=>Qa list Q6 (3:Int) fun Zi q5y=>Cnd (Zi=0) (Zz list q5y (1500:Int) fun Zj R9=>InI ((1:Int)+Zj)/\q9b (Envt.mk (Sett.mk v.1.1 v.1.2 v.1.3) v.2 v.3 v.4 v.5 v.6) y3.1 ((1:Int)+Zj) now fun Zx z27=>v4q (z27,Zx.1.1,Zx.1.2,Zx.1.3,Zx.2,Zx.3,Zx.4,Zx.5,Zx.6,R9,())) (Cnd (Zi=1) (q9c (Envt.mk (Sett.mk v.1.1 v.1.2 v.1.3) v.2 v.3 v.4 v.5 v.6) y3.1 now fun Zj R9=>v4q (R9,Zj.1.1,Zj.1.2,Zj.1.3,Zj.2,Zj.3,Zj.4,Zj.5,Zj.6,q5y,())) (Cnd (Zi=2) (z2w (Envt.mk (Sett.mk v.1.1 v.1.2 v.1.3) v.2 v.3 v.4 v.5 v.6) y3.1 now fun Zj R9=>v4q (R9,Zj.1.1,Zj.1.2,Zj.1.3,Zj.2,Zj.3,Zj.4,Zj.5,Zj.6,q5y,())) (v4q ((0:Int),B8 [],B8 [],(0:Int),[],[],[],[],[],q5y,())))))
def z90:z5o:=j5m Q3 Up q5c q8b q8c z17
abbrev q7a:Type:=List (Int)->Int->Envt->Int->(Envt->Int->Prop)->Prop
def z7g(Qa:Qr)(Zy:Uj)(Zz:G4)(J3:Bg)(Vo:q36)(Zr:Gi)(Z7:V0)(Vz:Bh)(Q0:Ja)(Jz:Uo):q7a:=fun list at_ v _ K=>Sml ([]++v.2).length/\Sml ([]++v.3).length/\Sml ([]++v.4).length/\Sml ([]++v.5).length/\Sml ([]++v.6).length/\LpH (fun (Qb:Int×ByteArray×ByteArray×Int×List Decl×List Flg×List Exper×Int×List Lay_×List Seg×Unit) (Gd:Int×ByteArray×ByteArray×Int×List Decl×List Flg×List Exper×Int×List Lay_×List Seg×Unit->Prop)=>Qa list Qb.2.2.2.2.2.2.2.1 (3:Int) fun Qd Q5=>Cnd (Qb.1<=Qd) (Qa list Q5 (10:Int) fun Qj Q6=>Cnd (Qj=0) (Zy list Q6 fun Qf Jw=>Zz list Jw (2500:Int) fun Qk Jv=>InI (Qb.1+1)/\Gd (Qb.1+1,Qf,B8 [117,115,101,114],Qk,Qb.2.2.2.2.1,Qb.2.2.2.2.2.1,Qb.2.2.2.2.2.2.1,Jv,Qb.2.2.2.2.2.2.2.2.1,Qb.2.2.2.2.2.2.2.2.2.1,())) (Cnd (Qj=1) (Qa list Q6 (4:Int) fun Qf Jw=>Fits Qb.2.2.2.2.2.2.2.2.2.1->Cnd (Qf<(↑Qb.2.2.2.2.2.2.2.2.2.1.length:Int)) (J3 list Jw fun Qo q6j=>At Qb.2.2.2.2.2.2.2.2.2.1 Qf fun y6=>InI (Qb.1+1)/\Gd (Qb.1+1,Qb.2.1,Qb.2.2.1,Qb.2.2.2.1,Qb.2.2.2.2.1,Qb.2.2.2.2.2.1,Qb.2.2.2.2.2.2.1,q6j,Qb.2.2.2.2.2.2.2.2.1,Qb.2.2.2.2.2.2.2.2.2.1.set Qf.toNat (Seg.mk y6.1 y6.2 Qo y6.4 (Ex.mk y6.5.1 y6.5.2 y6.5.3 y6.5.4 y6.5.5)),())) (InI (Qb.1+1)/\Gd (Qb.1+1,Qb.2.1,Qb.2.2.1,Qb.2.2.2.1,Qb.2.2.2.2.1,Qb.2.2.2.2.2.1,Qb.2.2.2.2.2.2.1,Jw,Qb.2.2.2.2.2.2.2.2.1,Qb.2.2.2.2.2.2.2.2.2.1,()))) (Cnd (Qj=2) (Qa list Q6 (4:Int) fun Qf Jw=>Fits Qb.2.2.2.2.2.1->CAt Qb.2.2.2.2.2.1 Qf (fun y5=>At Qb.2.2.2.2.2.1 Qf fun y7=>InI (Qb.1+1)/\Gd (Qb.1+1,Qb.2.1,Qb.2.2.1,Qb.2.2.2.1,Qb.2.2.2.2.1,Qb.2.2.2.2.2.1.set Qf.toNat (Flg.mk y7.1 y7.2 y7.3 (match decide ((flC C.flag y5).2.2.2.1=true) with|true=>false|false=>true) y7.5 y7.6 y7.7 y7.8 (Srv.mk y7.9.1 y7.9.2 y7.9.3 y7.9.4 y7.9.5)),Qb.2.2.2.2.2.2.1,Jw,Qb.2.2.2.2.2.2.2.2.1,Qb.2.2.2.2.2.2.2.2.2.1,())) (InI (Qb.1+1)/\Gd (Qb.1+1,Qb.2.1,Qb.2.2.1,Qb.2.2.2.1,Qb.2.2.2.2.1,Qb.2.2.2.2.2.1,Qb.2.2.2.2.2.2.1,Jw,Qb.2.2.2.2.2.2.2.2.1,Qb.2.2.2.2.2.2.2.2.2.1,()))) (Cnd (Qj=3) (Qa list Q6 (4:Int) fun Qf Jw=>Fits Qb.2.2.2.2.2.1->CAt Qb.2.2.2.2.2.1 Qf (fun y5=>Fits y5.3->Vo list Jw (↑y5.3.length:Int) fun Zx z27=>At Qb.2.2.2.2.2.1 Qf fun y9=>InI (Qb.1+1)/\Gd (Qb.1+1,Qb.2.1,Qb.2.2.1,Qb.2.2.2.1,Qb.2.2.2.2.1,Qb.2.2.2.2.2.1.set Qf.toNat (Flg.mk y9.1 y9.2 y9.3 y9.4 y9.5 y9.6 y9.7 y9.8 Zx),Qb.2.2.2.2.2.2.1,z27,Qb.2.2.2.2.2.2.2.2.1,Qb.2.2.2.2.2.2.2.2.2.1,())) (InI (Qb.1+1)/\Gd (Qb.1+1,Qb.2.1,Qb.2.2.1,Qb.2.2.2.1,Qb.2.2.2.2.1,Qb.2.2.2.2.2.1,Qb.2.2.2.2.2.2.1,Jw,Qb.2.2.2.2.2.2.2.2.1,Qb.2.2.2.2.2.2.2.2.2.1,()))) (Cnd (Qj=4) (Qa list Q6 (4:Int) fun Qf Jw=>Fits Qb.2.2.2.2.2.1->Cnd (Qf<(↑Qb.2.2.2.2.2.1.length:Int)) (((0:Int)<=(0:Int)/\(0:Int)<=Qf/\Qf<=(↑Qb.2.2.2.2.2.1.length:Int))/\InI (Qf+1)/\((0:Int)<=Qf+1/\Qf+1<=(↑Qb.2.2.2.2.2.1.length:Int)/\(↑Qb.2.2.2.2.2.1.length:Int)<=(↑Qb.2.2.2.2.2.1.length:Int))/\((0:Int)=(0:Int)/\(0:Int)<=Qf/\Qf<=Qf+1/\Qf+1<=(↑Qb.2.2.2.2.2.1.length:Int)/\(↑Qb.2.2.2.2.2.1.length:Int)<=(↑Qb.2.2.2.2.2.1.length:Int))/\Sml (List.take Qf.toNat Qb.2.2.2.2.2.1++List.drop (Qf+1).toNat (List.take (↑Qb.2.2.2.2.2.1.length:Int).toNat Qb.2.2.2.2.2.1)).length/\InI (Qb.1+1)/\Gd (Qb.1+1,Qb.2.1,Qb.2.2.1,Qb.2.2.2.1,Qb.2.2.2.2.1,List.take Qf.toNat Qb.2.2.2.2.2.1++List.drop (Qf+1).toNat (List.take (↑Qb.2.2.2.2.2.1.length:Int).toNat Qb.2.2.2.2.2.1),Qb.2.2.2.2.2.2.1,Jw,Qb.2.2.2.2.2.2.2.2.1,Qb.2.2.2.2.2.2.2.2.2.1,())) (InI (Qb.1+1)/\Gd (Qb.1+1,Qb.2.1,Qb.2.2.1,Qb.2.2.2.1,Qb.2.2.2.2.1,Qb.2.2.2.2.2.1,Qb.2.2.2.2.2.2.1,Jw,Qb.2.2.2.2.2.2.2.2.1,Qb.2.2.2.2.2.2.2.2.2.1,()))) (Cnd (Qj=5) (Fits Qb.2.2.2.2.2.1->Cnd ((↑Qb.2.2.2.2.2.1.length:Int)=0) (Qa list Q6 (5:Int) fun Qk Jv=>InI ((1:Int)+Qk)/\Qa list Jv (6:Int) fun Qo q6j=>Qa list q6j (4:Int) fun Zi q5y=>InI ((1:Int)+Zi)/\Lp4 (fun Zj R9 v41 w5c v6l=>Cnd (Zj<1+Zi) (Zr list R9 ((1:Int)+Qk) fun Zx z27=>Sml (v41++[Zx]).length/\InI (Zj+1)/\v6l (Zj+1) z27 (v41++[Zx]) w5c) (Qa list R9 ((1:Int)+Zi) fun Zx z27=>InI ((1:Int)+Zx)/\Lp4 (fun J8 z2m v4p w80 v8x=>Cnd (J8<0) (Qa list z2m (4:Int) fun Z1 U7=>Cnd (Z1=1) False (InI (J8+1)/\v8x (J8+1) U7 v4p w80)) (Lp5 (fun Z1 U7 z28 j3s w1o w85=>Qa list U7 (3:Int) fun J2 q83=>Cnd (Z1<J2) (Qa list q83 ((1:Int)+Zi) fun Qw w5a=>InI ((1:Int)+Qw)/\J3 list w5a fun Qi q6k=>Jn1 (fun (Zh:ByteArray×Int×List ByteArray×List Seg×List Val×List Tgt×Unit)=>Fits Zh.2.2.1->Cnd ((0:Int)<(↑Zh.2.2.1.length:Int)) (Sml (Zh.2.2.2.2.2.1++[Tgt.mk Zh.1 ((1:Int)+Qw) Zh.2.2.1]).length/\InI (Z1+1)/\w85 (Z1+1) Zh.2.1 (Zh.2.2.2.2.2.1++[Tgt.mk Zh.1 ((1:Int)+Qw) Zh.2.2.1]) Zh.2.2.2.2.1 Zh.2.2.2.1) (InI (Z1+1)/\w85 (Z1+1) Zh.2.1 Zh.2.2.2.2.2.1 Zh.2.2.2.2.1 Zh.2.2.2.1)) fun (w86:ByteArray×Int×List ByteArray×List Seg×List Val×List Tgt×Unit->Prop)=>Qa list q6k (4:Int) fun q0z w1p=>Cnd (q0z=1) (w86 (B8 [100,101,118,105,99,101],w1p,Qi,w1o,j3s,z28,())) (w86 (B8 [117,115,101,114],w1p,Qi,w1o,j3s,z28,()))) (Jn1 (fun (Qw:Int×List Rul×List ByteArray×List Seg×List Val×List Tgt×Unit)=>Vo list Qw.1 ((1:Int)+Zi) fun Qi q6k=>Sml (Qb.2.2.2.2.2.1++[Flg.mk (B8 [102,122]) ((1:Int)+Qk) Qw.2.2.2.2.1 (decide (Qo<5)) ((1:Int)+Zx) [] Qw.2.2.2.2.2.1 Qw.2.1 Qi]).length/\InI (Qb.1+1)/\Gd (Qb.1+1,Qb.2.1,Qb.2.2.1,Qb.2.2.2.1,Qb.2.2.2.2.1,Qb.2.2.2.2.2.1++[Flg.mk (B8 [102,122]) ((1:Int)+Qk) Qw.2.2.2.2.1 (decide (Qo<5)) ((1:Int)+Zx) [] Qw.2.2.2.2.2.1 Qw.2.1 Qi],Qb.2.2.2.2.2.2.1,q6k,Qb.2.2.2.2.2.2.2.2.1,Qw.2.2.2.1,())) fun (w1q:Int×List Rul×List ByteArray×List Seg×List Val×List Tgt×Unit->Prop)=>LpH (fun (Qi:Int×Int×List Rul×List ByteArray×List Seg×List Val×List Tgt×Unit) (w49:Int×Int×List Rul×List ByteArray×List Seg×List Val×List Tgt×Unit->Prop)=>Qa list Qi.2.1 (5:Int) fun Zh z6k=>Cnd (Qi.1<Zh) (At Qi.2.2.2.1 Qi.1 fun y15=>Z7 (Envt.mk (Sett.mk (B8 []) (B8 []) (0:Int)) [] Qi.2.2.2.2.1 [] [] []) fun G1=>Vz list z6k G1 (3:Int) fun Qh z9q=>Vo list z9q ((1:Int)+Zi) fun Q9 j2w=>Sml (Qi.2.2.1++[Rul.mk y15 (Ex.mk Qh.1 Qh.2 Qh.3 Qh.4 Qh.5) Q9]).length/\Q0 (Qi.2.2.1++[Rul.mk y15 (Ex.mk Qh.1 Qh.2 Qh.3 Qh.4 Qh.5) Q9]) fun G2 _ v42=>Cnd (v42=true) (Fits G2->Cnd ((0:Int)<(↑G2.length:Int)) ((Qi.2.2.1++[Rul.mk y15 (Ex.mk Qh.1 Qh.2 Qh.3 Qh.4 Qh.5) Q9]).length<=(9223372036854775807:Nat)->InI ((↑(Qi.2.2.1++[Rul.mk y15 (Ex.mk Qh.1 Qh.2 Qh.3 Qh.4 Qh.5) Q9]).length:Int) - 1)/\((0:Int)<=(↑(Qi.2.2.1++[Rul.mk y15 (Ex.mk Qh.1 Qh.2 Qh.3 Qh.4 Qh.5) Q9]).length:Int) - 1/\(↑(Qi.2.2.1++[Rul.mk y15 (Ex.mk Qh.1 Qh.2 Qh.3 Qh.4 Qh.5) Q9]).length:Int) - 1<=(↑(Qi.2.2.1++[Rul.mk y15 (Ex.mk Qh.1 Qh.2 Qh.3 Qh.4 Qh.5) Q9]).length:Int))/\w1q (j2w,List.take ((↑(Qi.2.2.1++[Rul.mk y15 (Ex.mk Qh.1 Qh.2 Qh.3 Qh.4 Qh.5) Q9]).length:Int) - 1).toNat (Qi.2.2.1++[Rul.mk y15 (Ex.mk Qh.1 Qh.2 Qh.3 Qh.4 Qh.5) Q9]),Qi.2.2.2.1,Qi.2.2.2.2.1,Qi.2.2.2.2.2.1,Qi.2.2.2.2.2.2.1,())) (InI (Qi.1+1)/\w49 (Qi.1+1,j2w,Qi.2.2.1++[Rul.mk y15 (Ex.mk Qh.1 Qh.2 Qh.3 Qh.4 Qh.5) Q9],Qi.2.2.2.1,Qi.2.2.2.2.1,Qi.2.2.2.2.2.1,Qi.2.2.2.2.2.2.1,()))) ((Qi.2.2.1++[Rul.mk y15 (Ex.mk Qh.1 Qh.2 Qh.3 Qh.4 Qh.5) Q9]).length<=(9223372036854775807:Nat)->InI ((↑(Qi.2.2.1++[Rul.mk y15 (Ex.mk Qh.1 Qh.2 Qh.3 Qh.4 Qh.5) Q9]).length:Int) - 1)/\((0:Int)<=(↑(Qi.2.2.1++[Rul.mk y15 (Ex.mk Qh.1 Qh.2 Qh.3 Qh.4 Qh.5) Q9]).length:Int) - 1/\(↑(Qi.2.2.1++[Rul.mk y15 (Ex.mk Qh.1 Qh.2 Qh.3 Qh.4 Qh.5) Q9]).length:Int) - 1<=(↑(Qi.2.2.1++[Rul.mk y15 (Ex.mk Qh.1 Qh.2 Qh.3 Qh.4 Qh.5) Q9]).length:Int))/\w1q (j2w,List.take ((↑(Qi.2.2.1++[Rul.mk y15 (Ex.mk Qh.1 Qh.2 Qh.3 Qh.4 Qh.5) Q9]).length:Int) - 1).toNat (Qi.2.2.1++[Rul.mk y15 (Ex.mk Qh.1 Qh.2 Qh.3 Qh.4 Qh.5) Q9]),Qi.2.2.2.1,Qi.2.2.2.2.1,Qi.2.2.2.2.2.1,Qi.2.2.2.2.2.2.1,()))) (w1q (z6k,Qi.2.2.1,Qi.2.2.2.1,Qi.2.2.2.2.1,Qi.2.2.2.2.2.1,Qi.2.2.2.2.2.2.1,()))) ((0:Int),q83,[],[B8 [102,105,114,115,116],B8 [115,101,99,111,110,100],B8 [116,104,105,114,100],B8 [102,111,117,114,116,104]],w1o,j3s,z28,()))) (0:Int) z2m [] w80 v4p)) (0:Int) z27 w5c v41)) (0:Int) q5y [] Qb.2.2.2.2.2.2.2.2.2.1) (Fits Qb.2.2.2.2.2.1->InI ((↑Qb.2.2.2.2.2.1.length:Int) - 1)/\((0:Int)<=(↑Qb.2.2.2.2.2.1.length:Int) - 1/\(↑Qb.2.2.2.2.2.1.length:Int) - 1<(↑Qb.2.2.2.2.2.1.length:Int))/\ ∀y5,Qb.2.2.2.2.2.1[((↑Qb.2.2.2.2.2.1.length:Int) - 1).toNat]? =some y5->Cnd (Lk.blt y5.1 (B8 [102,122])) (Qa list Q6 (5:Int) fun Zj R9=>InI ((1:Int)+Zj)/\Qa list R9 (6:Int) fun Zx z27=>Qa list z27 (4:Int) fun J8 z2m=>InI ((1:Int)+J8)/\Lp4 (fun Z1 U7 z28 j3s v8y=>Cnd (Z1<1+J8) (Zr list U7 ((1:Int)+Zj) fun J2 q83=>Sml (z28++[J2]).length/\InI (Z1+1)/\v8y (Z1+1) q83 (z28++[J2]) j3s) (Qa list U7 ((1:Int)+J8) fun J2 q83=>InI ((1:Int)+J2)/\Lp4 (fun Qw w5a v6x v6y v8z=>Cnd (Qw<0) (Qa list w5a (4:Int) fun Qi q6k=>Cnd (Qi=1) False (InI (Qw+1)/\v8z (Qw+1) q6k v6x v6y)) (Lp5 (fun Qi q6k w1l w1m v43 v6z=>Qa list q6k (3:Int) fun Zh z6k=>Cnd (Qi<Zh) (Qa list z6k ((1:Int)+J8) fun q0z w1p=>InI ((1:Int)+q0z)/\J3 list w1p fun Zt w48=>Jn1 (fun (G1:ByteArray×Int×List ByteArray×List Seg×List Val×List Tgt×Unit)=>Fits G1.2.2.1->Cnd ((0:Int)<(↑G1.2.2.1.length:Int)) (Sml (G1.2.2.2.2.2.1++[Tgt.mk G1.1 ((1:Int)+q0z) G1.2.2.1]).length/\InI (Qi+1)/\v6z (Qi+1) G1.2.1 (G1.2.2.2.2.2.1++[Tgt.mk G1.1 ((1:Int)+q0z) G1.2.2.1]) G1.2.2.2.2.1 G1.2.2.2.1) (InI (Qi+1)/\v6z (Qi+1) G1.2.1 G1.2.2.2.2.2.1 G1.2.2.2.2.1 G1.2.2.2.1)) fun (v60:ByteArray×Int×List ByteArray×List Seg×List Val×List Tgt×Unit->Prop)=>Qa list w48 (4:Int) fun Qh z9q=>Cnd (Qh=1) (v60 (B8 [100,101,118,105,99,101],z9q,Zt,v43,w1m,w1l,())) (v60 (B8 [117,115,101,114],z9q,Zt,v43,w1m,w1l,()))) (Jn1 (fun (q0z:Int×List Rul×List ByteArray×List Seg×List Val×List Tgt×Unit)=>Vo list q0z.1 ((1:Int)+J8) fun Zt w48=>Sml (Qb.2.2.2.2.2.1++[Flg.mk (B8 [102,122]) ((1:Int)+Zj) q0z.2.2.2.2.1 (decide (Zx<5)) ((1:Int)+J2) [] q0z.2.2.2.2.2.1 q0z.2.1 Zt]).length/\InI (Qb.1+1)/\Gd (Qb.1+1,Qb.2.1,Qb.2.2.1,Qb.2.2.2.1,Qb.2.2.2.2.1,Qb.2.2.2.2.2.1++[Flg.mk (B8 [102,122]) ((1:Int)+Zj) q0z.2.2.2.2.1 (decide (Zx<5)) ((1:Int)+J2) [] q0z.2.2.2.2.2.1 q0z.2.1 Zt],Qb.2.2.2.2.2.2.1,w48,Qb.2.2.2.2.2.2.2.2.1,q0z.2.2.2.1,())) fun (v44:Int×List Rul×List ByteArray×List Seg×List Val×List Tgt×Unit->Prop)=>LpH (fun (Zt:Int×Int×List Rul×List ByteArray×List Seg×List Val×List Tgt×Unit) (v1h:Int×Int×List Rul×List ByteArray×List Seg×List Val×List Tgt×Unit->Prop)=>Qa list Zt.2.1 (5:Int) fun G1 j6s=>Cnd (Zt.1<G1) (At Zt.2.2.2.1 Zt.1 fun y18=>Z7 (Envt.mk (Sett.mk (B8 []) (B8 []) (0:Int)) [] Zt.2.2.2.2.1 [] [] []) fun (G2:List ByteArray)=>Vz list j6s G2 (3:Int) fun (Zl:Ex) (v1i:Int)=>Vo list v1i ((1:Int)+J8) fun (q2h:Srv) (w83:Int)=>Sml (Zt.2.2.1++[Rul.mk y18 (Ex.mk Zl.1 Zl.2 Zl.3 Zl.4 Zl.5) q2h]).length/\Q0 (Zt.2.2.1++[Rul.mk y18 (Ex.mk Zl.1 Zl.2 Zl.3 Zl.4 Zl.5) q2h]) fun (v1k:List Int) (_:Int) (v80:Bool)=>Cnd (v80=true) (Fits v1k->Cnd ((0:Int)<(↑v1k.length:Int)) ((Zt.2.2.1++[Rul.mk y18 (Ex.mk Zl.1 Zl.2 Zl.3 Zl.4 Zl.5) q2h]).length<=(9223372036854775807:Nat)->InI ((↑(Zt.2.2.1++[Rul.mk y18 (Ex.mk Zl.1 Zl.2 Zl.3 Zl.4 Zl.5) q2h]).length:Int) - 1)/\((0:Int)<=(↑(Zt.2.2.1++[Rul.mk y18 (Ex.mk Zl.1 Zl.2 Zl.3 Zl.4 Zl.5) q2h]).length:Int) - 1/\(↑(Zt.2.2.1++[Rul.mk y18 (Ex.mk Zl.1 Zl.2 Zl.3 Zl.4 Zl.5) q2h]).length:Int) - 1<=(↑(Zt.2.2.1++[Rul.mk y18 (Ex.mk Zl.1 Zl.2 Zl.3 Zl.4 Zl.5) q2h]).length:Int))/\v44 (w83,List.take ((↑(Zt.2.2.1++[Rul.mk y18 (Ex.mk Zl.1 Zl.2 Zl.3 Zl.4 Zl.5) q2h]).length:Int) - 1).toNat (Zt.2.2.1++[Rul.mk y18 (Ex.mk Zl.1 Zl.2 Zl.3 Zl.4 Zl.5) q2h]),Zt.2.2.2.1,Zt.2.2.2.2.1,Zt.2.2.2.2.2.1,Zt.2.2.2.2.2.2.1,())) (InI (Zt.1+1)/\v1h (Zt.1+1,w83,Zt.2.2.1++[Rul.mk y18 (Ex.mk Zl.1 Zl.2 Zl.3 Zl.4 Zl.5) q2h],Zt.2.2.2.1,Zt.2.2.2.2.1,Zt.2.2.2.2.2.1,Zt.2.2.2.2.2.2.1,()))) ((Zt.2.2.1++[Rul.mk y18 (Ex.mk Zl.1 Zl.2 Zl.3 Zl.4 Zl.5) q2h]).length<=(9223372036854775807:Nat)->InI ((↑(Zt.2.2.1++[Rul.mk y18 (Ex.mk Zl.1 Zl.2 Zl.3 Zl.4 Zl.5) q2h]).length:Int) - 1)/\((0:Int)<=(↑(Zt.2.2.1++[Rul.mk y18 (Ex.mk Zl.1 Zl.2 Zl.3 Zl.4 Zl.5) q2h]).length:Int) - 1/\(↑(Zt.2.2.1++[Rul.mk y18 (Ex.mk Zl.1 Zl.2 Zl.3 Zl.4 Zl.5) q2h]).length:Int) - 1<=(↑(Zt.2.2.1++[Rul.mk y18 (Ex.mk Zl.1 Zl.2 Zl.3 Zl.4 Zl.5) q2h]).length:Int))/\v44 (w83,List.take ((↑(Zt.2.2.1++[Rul.mk y18 (Ex.mk Zl.1 Zl.2 Zl.3 Zl.4 Zl.5) q2h]).length:Int) - 1).toNat (Zt.2.2.1++[Rul.mk y18 (Ex.mk Zl.1 Zl.2 Zl.3 Zl.4 Zl.5) q2h]),Zt.2.2.2.1,Zt.2.2.2.2.1,Zt.2.2.2.2.2.1,Zt.2.2.2.2.2.2.1,()))) (v44 (j6s,Zt.2.2.1,Zt.2.2.2.1,Zt.2.2.2.2.1,Zt.2.2.2.2.2.1,Zt.2.2.2.2.2.2.1,()))) ((0:Int),z6k,[],[B8 [102,105,114,115,116],B8 [115,101,99,111,110,100],B8 [116,104,105,114,100],B8 [102,111,117,114,116,104]],v43,w1m,w1l,()))) (0:Int) w5a [] v6y v6x)) (0:Int) q83 j3s z28)) (0:Int) z2m [] Qb.2.2.2.2.2.2.2.2.2.1) (InI (Qb.1+1)/\Gd (Qb.1+1,Qb.2.1,Qb.2.2.1,Qb.2.2.2.1,Qb.2.2.2.2.1,Qb.2.2.2.2.2.1,Qb.2.2.2.2.2.2.1,Q6,Qb.2.2.2.2.2.2.2.2.1,Qb.2.2.2.2.2.2.2.2.2.1,())))) (Cnd (Qj=6) (Qa list Q6 (3:Int) fun Qf Jw=>Fits Qb.2.2.2.2.2.2.2.2.1->CAt Qb.2.2.2.2.2.2.2.2.1 Qf (fun y5=>InI (Qb.1+1)/\Gd (Qb.1+1,Qb.2.1,Qb.2.2.1,Qb.2.2.2.1,Qb.2.2.2.2.1,Qb.2.2.2.2.2.1,Qb.2.2.2.2.2.2.1,Jw,Qb.2.2.2.2.2.2.2.2.1.set Qf.toNat (Lay_.mk y5.1 y5.2 y5.3 y5.4 y5.5 []),Qb.2.2.2.2.2.2.2.2.2.1,())) (InI (Qb.1+1)/\Gd (Qb.1+1,Qb.2.1,Qb.2.2.1,Qb.2.2.2.1,Qb.2.2.2.2.1,Qb.2.2.2.2.2.1,Qb.2.2.2.2.2.2.1,Jw,Qb.2.2.2.2.2.2.2.2.1,Qb.2.2.2.2.2.2.2.2.2.1,()))) (Cnd (Qj=7) (Qa list Q6 (4:Int) fun Qf Jw=>Fits Qb.2.2.2.2.2.2.1->Cnd (Qf<(↑Qb.2.2.2.2.2.2.1.length:Int)) (Qa list Jw (3:Int) fun Qo q6j=>InI ((1:Int)+Qo)/\At Qb.2.2.2.2.2.2.1 Qf fun y6=>InI (Qb.1+1)/\Gd (Qb.1+1,Qb.2.1,Qb.2.2.1,Qb.2.2.2.1,Qb.2.2.2.2.1,Qb.2.2.2.2.2.1,Qb.2.2.2.2.2.2.1.set Qf.toNat (Exper.mk y6.1 y6.2 y6.3 y6.4 ((1:Int)+Qo) y6.6 y6.7 (Ex.mk y6.8.1 y6.8.2 y6.8.3 y6.8.4 y6.8.5)),q6j,Qb.2.2.2.2.2.2.2.2.1,Qb.2.2.2.2.2.2.2.2.2.1,())) (InI (Qb.1+1)/\Gd (Qb.1+1,Qb.2.1,Qb.2.2.1,Qb.2.2.2.1,Qb.2.2.2.2.1,Qb.2.2.2.2.2.1,Qb.2.2.2.2.2.2.1,Jw,Qb.2.2.2.2.2.2.2.2.1,Qb.2.2.2.2.2.2.2.2.2.1,()))) (Cnd (Qj=8) (Qa list Q6 (4:Int) fun Qf Jw=>Fits Qb.2.2.2.2.2.2.1->CAt Qb.2.2.2.2.2.2.1 Qf (fun y5=>Zz list Jw (4000:Int) fun Zj R9=>Jz y5.6 Zj fun Zx=>At Qb.2.2.2.2.2.2.1 Qf fun y9=>InI (Qb.1+1)/\Gd (Qb.1+1,Qb.2.1,Qb.2.2.1,Qb.2.2.2.1,Qb.2.2.2.2.1,Qb.2.2.2.2.2.1,Qb.2.2.2.2.2.2.1.set Qf.toNat (Exper.mk y9.1 y9.2 y9.3 y9.4 y9.5 Zx y9.7 (Ex.mk y9.8.1 y9.8.2 y9.8.3 y9.8.4 y9.8.5)),R9,Qb.2.2.2.2.2.2.2.2.1,Qb.2.2.2.2.2.2.2.2.2.1,())) (InI (Qb.1+1)/\Gd (Qb.1+1,Qb.2.1,Qb.2.2.1,Qb.2.2.2.1,Qb.2.2.2.2.1,Qb.2.2.2.2.2.1,Qb.2.2.2.2.2.2.1,Jw,Qb.2.2.2.2.2.2.2.2.1,Qb.2.2.2.2.2.2.2.2.2.1,()))) (Cnd (Qj=9) (Fits Qb.2.2.2.2.1->Cnd ((0:Int)<(↑Qb.2.2.2.2.1.length:Int)) (Qa list Q6 (2:Int) fun Qk Jv=>Cnd (Qk=1) (Fits Qb.2.2.2.2.1->InI ((↑Qb.2.2.2.2.1.length:Int) - 1)/\((0:Int)<=(↑Qb.2.2.2.2.1.length:Int) - 1/\(↑Qb.2.2.2.2.1.length:Int) - 1<=(↑Qb.2.2.2.2.1.length:Int))/\InI (Qb.1+1)/\Gd (Qb.1+1,Qb.2.1,Qb.2.2.1,Qb.2.2.2.1,List.take ((↑Qb.2.2.2.2.1.length:Int) - 1).toNat Qb.2.2.2.2.1,Qb.2.2.2.2.2.1,Qb.2.2.2.2.2.2.1,Jv,Qb.2.2.2.2.2.2.2.2.1,Qb.2.2.2.2.2.2.2.2.2.1,())) (Qa list Jv (4:Int) fun Qo q6j=>Fits Qb.2.2.2.2.2.2.1->Cnd (Qo<(↑Qb.2.2.2.2.2.2.1.length:Int)) (((0:Int)<=(0:Int)/\(0:Int)<=Qo/\Qo<=(↑Qb.2.2.2.2.2.2.1.length:Int))/\InI (Qo+1)/\((0:Int)<=Qo+1/\Qo+1<=(↑Qb.2.2.2.2.2.2.1.length:Int)/\(↑Qb.2.2.2.2.2.2.1.length:Int)<=(↑Qb.2.2.2.2.2.2.1.length:Int))/\((0:Int)=(0:Int)/\(0:Int)<=Qo/\Qo<=Qo+1/\Qo+1<=(↑Qb.2.2.2.2.2.2.1.length:Int)/\(↑Qb.2.2.2.2.2.2.1.length:Int)<=(↑Qb.2.2.2.2.2.2.1.length:Int))/\Sml (List.take Qo.toNat Qb.2.2.2.2.2.2.1++List.drop (Qo+1).toNat (List.take (↑Qb.2.2.2.2.2.2.1.length:Int).toNat Qb.2.2.2.2.2.2.1)).length/\InI (Qb.1+1)/\Gd (Qb.1+1,Qb.2.1,Qb.2.2.1,Qb.2.2.2.1,Qb.2.2.2.2.1,Qb.2.2.2.2.2.1,List.take Qo.toNat Qb.2.2.2.2.2.2.1++List.drop (Qo+1).toNat (List.take (↑Qb.2.2.2.2.2.2.1.length:Int).toNat Qb.2.2.2.2.2.2.1),q6j,Qb.2.2.2.2.2.2.2.2.1,Qb.2.2.2.2.2.2.2.2.2.1,())) (InI (Qb.1+1)/\Gd (Qb.1+1,Qb.2.1,Qb.2.2.1,Qb.2.2.2.1,Qb.2.2.2.2.1,Qb.2.2.2.2.2.1,Qb.2.2.2.2.2.2.1,q6j,Qb.2.2.2.2.2.2.2.2.1,Qb.2.2.2.2.2.2.2.2.2.1,())))) (Qa list Q6 (4:Int) fun Qk Jv=>Fits Qb.2.2.2.2.2.2.1->Cnd (Qk<(↑Qb.2.2.2.2.2.2.1.length:Int)) (((0:Int)<=(0:Int)/\(0:Int)<=Qk/\Qk<=(↑Qb.2.2.2.2.2.2.1.length:Int))/\InI (Qk+1)/\((0:Int)<=Qk+1/\Qk+1<=(↑Qb.2.2.2.2.2.2.1.length:Int)/\(↑Qb.2.2.2.2.2.2.1.length:Int)<=(↑Qb.2.2.2.2.2.2.1.length:Int))/\((0:Int)=(0:Int)/\(0:Int)<=Qk/\Qk<=Qk+1/\Qk+1<=(↑Qb.2.2.2.2.2.2.1.length:Int)/\(↑Qb.2.2.2.2.2.2.1.length:Int)<=(↑Qb.2.2.2.2.2.2.1.length:Int))/\Sml (List.take Qk.toNat Qb.2.2.2.2.2.2.1++List.drop (Qk+1).toNat (List.take (↑Qb.2.2.2.2.2.2.1.length:Int).toNat Qb.2.2.2.2.2.2.1)).length/\InI (Qb.1+1)/\Gd (Qb.1+1,Qb.2.1,Qb.2.2.1,Qb.2.2.2.1,Qb.2.2.2.2.1,Qb.2.2.2.2.2.1,List.take Qk.toNat Qb.2.2.2.2.2.2.1++List.drop (Qk+1).toNat (List.take (↑Qb.2.2.2.2.2.2.1.length:Int).toNat Qb.2.2.2.2.2.2.1),Jv,Qb.2.2.2.2.2.2.2.2.1,Qb.2.2.2.2.2.2.2.2.2.1,())) (InI (Qb.1+1)/\Gd (Qb.1+1,Qb.2.1,Qb.2.2.1,Qb.2.2.2.1,Qb.2.2.2.2.1,Qb.2.2.2.2.2.1,Qb.2.2.2.2.2.2.1,Jv,Qb.2.2.2.2.2.2.2.2.1,Qb.2.2.2.2.2.2.2.2.2.1,())))) (InI (Qb.1+1)/\Gd (Qb.1+1,Qb.2.1,Qb.2.2.1,Qb.2.2.2.1,Qb.2.2.2.2.1,Qb.2.2.2.2.2.1,Qb.2.2.2.2.2.2.1,Q6,Qb.2.2.2.2.2.2.2.2.1,Qb.2.2.2.2.2.2.2.2.2.1,())))))))))))) (K (Envt.mk (Sett.mk Qb.2.1 Qb.2.2.1 Qb.2.2.2.1) Qb.2.2.2.2.1 Qb.2.2.2.2.2.2.2.2.2.1 Qb.2.2.2.2.2.1 Qb.2.2.2.2.2.2.2.2.1 Qb.2.2.2.2.2.2.1) Q5)) ((0:Int),v.1.1,v.1.2,v.1.3,[]++v.2,[]++v.4,[]++v.6,at_,[]++v.5,[]++v.3,())
def z18:q7a:=z7g Q3 q28 q5c q5d Bi Uy V1 q5e J6 q03
abbrev Vx:Type:=List (Int)->Int->(ByteArray->Int->Prop)->Prop
def j5n(Qa:Qr):Vx:=fun list at_ K=>[B8 [],B8 [66,97,100],B8 [57,97],B8 [111,110],B8 [107,101,121],B8 [122,122],B8 [97],B8 [97,108,112,104,97],B8 [102,97],B8 [102,98],B8 [108,97],B8 [120,97],B8 [97,98,99,100,101,102,103,104,105,106,107,108,109,110,111,112,113,114,115,116,117,118,119,120,121,122,48,49,50,51,52,53,54],B8 [117,115,101,114],B8 [97,46,98]].length<=(9223372036854775807:Nat)->Qa list at_ (↑[B8 [],B8 [66,97,100],B8 [57,97],B8 [111,110],B8 [107,101,121],B8 [122,122],B8 [97],B8 [97,108,112,104,97],B8 [102,97],B8 [102,98],B8 [108,97],B8 [120,97],B8 [97,98,99,100,101,102,103,104,105,106,107,108,109,110,111,112,113,114,115,116,117,118,119,120,121,122,48,49,50,51,52,53,54],B8 [117,115,101,114],B8 [97,46,98]].length:Int) fun Qd Q5=>((0:Int)<=Qd/\Qd<(↑[B8 [],B8 [66,97,100],B8 [57,97],B8 [111,110],B8 [107,101,121],B8 [122,122],B8 [97],B8 [97,108,112,104,97],B8 [102,97],B8 [102,98],B8 [108,97],B8 [120,97],B8 [97,98,99,100,101,102,103,104,105,106,107,108,109,110,111,112,113,114,115,116,117,118,119,120,121,122,48,49,50,51,52,53,54],B8 [117,115,101,114],B8 [97,46,98]].length:Int))/\ ∀y2,[B8 [],B8 [66,97,100],B8 [57,97],B8 [111,110],B8 [107,101,121],B8 [122,122],B8 [97],B8 [97,108,112,104,97],B8 [102,97],B8 [102,98],B8 [108,97],B8 [120,97],B8 [97,98,99,100,101,102,103,104,105,106,107,108,109,110,111,112,113,114,115,116,117,118,119,120,121,122,48,49,50,51,52,53,54],B8 [117,115,101,114],B8 [97,46,98]][Qd.toNat]? =some y2->K y2 Q5
def H9:Vx:=j5n Q3
abbrev J1:Type:=List (Int)->Int->(Int->Int->Prop)->Prop
def z7h(Qa:Qr):J1:=fun list at_ K=>[(0:Int),(-1:Int),(1:Int),(2:Int),(8:Int),(9:Int),(10000:Int),(10001:Int),(1099511627776:Int),(1099511627777:Int),(-1099511627777:Int),(1099511627777:Int),(4:Int),(5:Int),(6:Int)].length<=(9223372036854775807:Nat)->Qa list at_ (↑[(0:Int),(-1:Int),(1:Int),(2:Int),(8:Int),(9:Int),(10000:Int),(10001:Int),(1099511627776:Int),(1099511627777:Int),(-1099511627777:Int),(1099511627777:Int),(4:Int),(5:Int),(6:Int)].length:Int) fun Qd Q5=>((0:Int)<=Qd/\Qd<(↑[(0:Int),(-1:Int),(1:Int),(2:Int),(8:Int),(9:Int),(10000:Int),(10001:Int),(1099511627776:Int),(1099511627777:Int),(-1099511627777:Int),(1099511627777:Int),(4:Int),(5:Int),(6:Int)].length:Int))/\ ∀y2,[(0:Int),(-1:Int),(1:Int),(2:Int),(8:Int),(9:Int),(10000:Int),(10001:Int),(1099511627776:Int),(1099511627777:Int),(-1099511627777:Int),(1099511627777:Int),(4:Int),(5:Int),(6:Int)][Qd.toNat]? =some y2->K y2 Q5
def Vd:J1:=z7h Q3
abbrev z19:Type:=Int->(List (ByteArray)->Prop)->Prop
def z5p:z19:=fun n K=>Lp2 (fun Qb Qq R8=>Cnd (Qq<n) ((10:Int)≠(0:Int)/\InI (Qq.tdiv (10:Int))/\InI ((48:Int)+Qq.tdiv (10:Int))/\(↑((B8 [109]).size+(Go.Utf8.encode (Go.IntKind.i32.wrap ((48:Int)+Qq.tdiv (10:Int)))).size):Int)<=(9223372036854775807:Int)/\(10:Int)≠(0:Int)/\InI ((48:Int)+Qq.tmod (10:Int))/\(↑((B8 [109]++Go.Utf8.encode (Go.IntKind.i32.wrap ((48:Int)+Qq.tdiv (10:Int)))).size+(Go.Utf8.encode (Go.IntKind.i32.wrap ((48:Int)+Qq.tmod (10:Int)))).size):Int)<=(9223372036854775807:Int)/\Sml (Qb++[B8 [109]++Go.Utf8.encode (Go.IntKind.i32.wrap ((48:Int)+Qq.tdiv (10:Int)))++Go.Utf8.encode (Go.IntKind.i32.wrap ((48:Int)+Qq.tmod (10:Int)))]).length/\InI (Qq+1)/\R8 (Qb++[B8 [109]++Go.Utf8.encode (Go.IntKind.i32.wrap ((48:Int)+Qq.tdiv (10:Int)))++Go.Utf8.encode (Go.IntKind.i32.wrap ((48:Int)+Qq.tmod (10:Int)))]) (Qq+1)) (K Qb)) [] (0:Int)
abbrev z7i:Type:=List (Int)->Int->(Val->Int->Prop)->Prop
def j96(Qa:Qr)(Zr:Gi):z7i:=fun list at_ K=>Qa list at_ (5:Int) fun Qb Qq=>InI ((1:Int)+Qb)/\Zr list Qq ((1:Int)+Qb) fun Qd Q5=>K Qd Q5
def z34:z7i:=j96 Q3 Uy
abbrev Jy:Type:=List (Int)->Int->Ex->(Ex->Int->Prop)->Prop
def q8d(Qa:Qr)(Qy:Vx)(z4p:z7i)(Qn:J1)(q3m:z45)(X:Jy):Jy:=fun list at_ e K=>Fits e.5->Cnd ((0:Int)<(↑e.5.length:Int)) (Qa list at_ (3:Int) fun Qd Q5=>Cnd ((0:Int)<Qd) (Sml ([]++e.5).length/\(([]++e.5).length<=(9223372036854775807:Nat)->Qa list Q5 (↑([]++e.5).length:Int) fun Qf Jw=>((0:Int)<=Qf/\Qf<(↑([]++e.5).length:Int))/\ ∀y4,([]++e.5)[Qf.toNat]? =some y4->X list Jw (Ex.mk y4.1 y4.2 y4.3 y4.4 y4.5) fun Zi q5y=>((0:Int)<=Qf/\Qf<(↑([]++e.5).length:Int))/\ ∀y7,([]++e.5)[Qf.toNat]? =some y7->K (Ex.mk e.1 e.2 e.3 e.4 (([]++e.5).set Qf.toNat (Ex.mk Zi.1 Zi.2 Zi.3 Zi.4 Zi.5))) q5y)) (Qa list Q5 (10:Int) fun Qj Q6=>Cnd (Qj=0) (Qa list Q6 (18:Int) fun Qf Jw=>InI (Qf - 1)/\K (Ex.mk (Qf - 1) e.2 e.3 e.4 e.5) Jw) (Cnd (Qj=1) (Qy list Q6 fun Qf Jw=>K (Ex.mk e.1 Qf e.3 e.4 e.5) Jw) (Cnd (Qj=2) (Qy list Q6 fun Qf Jw=>K (Ex.mk e.1 e.2 Qf e.4 e.5) Jw) (Cnd (Qj=3) (Sml ([]++e.4).length/\z4p list Q6 fun Qf Jw=>Sml ([]++e.4++[Qf]).length/\K (Ex.mk e.1 e.2 e.3 ([]++e.4++[Qf]) e.5) Jw) (Cnd (Qj=4) (K (Ex.mk e.1 e.2 e.3 [] e.5) Q6) (Cnd (Qj=5) (Qa list Q6 (7:Int) fun Qf Jw=>Qn list Jw fun Qk Jv=>K (Ex.mk e.1 e.2 e.3 [Val.mk Qf Qk (B8 []) []] e.5) Jv) (Cnd (Qj=6) (Sml ([]++e.5).length/\q3m list Q6 fun Qf Jw=>Sml ([]++e.5++[Ex.mk Qf.1 Qf.2 Qf.3 Qf.4 Qf.5]).length/\K (Ex.mk e.1 e.2 e.3 e.4 ([]++e.5++[Ex.mk Qf.1 Qf.2 Qf.3 Qf.4 Qf.5])) Jw) (Cnd (Qj=7) (LpH (fun (Qf:Int×Int×Int×ByteArray×ByteArray×List Val×List Ex×Unit) (j6v:Int×Int×Int×ByteArray×ByteArray×List Val×List Ex×Unit->Prop)=>Qa list Qf.2.1 (3:Int) fun Qk Jv=>InI ((9:Int)+Qk)/\Cnd (Qf.1<9+Qk) (InI (Qf.1+1)/\j6v (Qf.1+1,Jv,(4:Int),B8 [],B8 [],[],[Ex.mk Qf.2.2.1 Qf.2.2.2.1 Qf.2.2.2.2.1 Qf.2.2.2.2.2.1 Qf.2.2.2.2.2.2.1],())) (K (Ex.mk Qf.2.2.1 Qf.2.2.2.1 Qf.2.2.2.2.1 Qf.2.2.2.2.2.1 Qf.2.2.2.2.2.2.1) Jv)) ((0:Int),Q6,e.1,e.2,e.3,e.4,e.5,())) (Cnd (Qj=8) (Lp3 (fun Qf Jw v64 v8h=>Cnd (Qf<11) (Sml ([]++Jw).length/\q3m list v64 fun Qk Jv=>Sml ([]++Jw++[Ex.mk Qk.1 Qk.2 Qk.3 Qk.4 Qk.5]).length/\InI (Qf+1)/\v8h (Qf+1) ([]++Jw++[Ex.mk Qk.1 Qk.2 Qk.3 Qk.4 Qk.5]) Jv) (K (Ex.mk e.1 e.2 e.3 e.4 Jw) v64)) (0:Int) e.5 Q6) (Cnd (Qj=9) (q3m list Q6 fun Qf Jw=>K (Ex.mk (2:Int) (B8 []) (B8 []) [] [Ex.mk e.1 e.2 e.3 e.4 e.5,Ex.mk Qf.1 Qf.2 Qf.3 Qf.4 Qf.5]) Jw) (K (Ex.mk e.1 e.2 e.3 e.4 e.5) Q6)))))))))))) (Qa list at_ (10:Int) fun Qd Q5=>Cnd (Qd=0) (Qa list Q5 (18:Int) fun Qj Q6=>InI (Qj - 1)/\K (Ex.mk (Qj - 1) e.2 e.3 e.4 e.5) Q6) (Cnd (Qd=1) (Qy list Q5 fun Qj Q6=>K (Ex.mk e.1 Qj e.3 e.4 e.5) Q6) (Cnd (Qd=2) (Qy list Q5 fun Qj Q6=>K (Ex.mk e.1 e.2 Qj e.4 e.5) Q6) (Cnd (Qd=3) (Sml ([]++e.4).length/\z4p list Q5 fun Qj Q6=>Sml ([]++e.4++[Qj]).length/\K (Ex.mk e.1 e.2 e.3 ([]++e.4++[Qj]) e.5) Q6) (Cnd (Qd=4) (K (Ex.mk e.1 e.2 e.3 [] e.5) Q5) (Cnd (Qd=5) (Qa list Q5 (7:Int) fun Qj Q6=>Qn list Q6 fun Qf Jw=>K (Ex.mk e.1 e.2 e.3 [Val.mk Qj Qf (B8 []) []] e.5) Jw) (Cnd (Qd=6) (Sml ([]++e.5).length/\q3m list Q5 fun Qj Q6=>Sml ([]++e.5++[Ex.mk Qj.1 Qj.2 Qj.3 Qj.4 Qj.5]).length/\K (Ex.mk e.1 e.2 e.3 e.4 ([]++e.5++[Ex.mk Qj.1 Qj.2 Qj.3 Qj.4 Qj.5])) Q6) (Cnd (Qd=7) (LpH (fun (Qj:Int×Int×Int×ByteArray×ByteArray×List Val×List Ex×Unit) j2v=>Qa list Qj.2.1 (3:Int) fun Qf Jw=>InI ((9:Int)+Qf)/\Cnd (Qj.1<9+Qf) (InI (Qj.1+1)/\j2v (Qj.1+1,Jw,(4:Int),B8 [],B8 [],[],[Ex.mk Qj.2.2.1 Qj.2.2.2.1 Qj.2.2.2.2.1 Qj.2.2.2.2.2.1 Qj.2.2.2.2.2.2.1],())) (K (Ex.mk Qj.2.2.1 Qj.2.2.2.1 Qj.2.2.2.2.1 Qj.2.2.2.2.2.1 Qj.2.2.2.2.2.2.1) Jw)) ((0:Int),Q5,e.1,e.2,e.3,e.4,e.5,())) (Cnd (Qd=8) (Lp3 (fun Qj Q6 j89 v8f=>Cnd (Qj<11) (Sml ([]++Q6).length/\q3m list j89 fun Qf Jw=>Sml ([]++Q6++[Ex.mk Qf.1 Qf.2 Qf.3 Qf.4 Qf.5]).length/\InI (Qj+1)/\v8f (Qj+1) ([]++Q6++[Ex.mk Qf.1 Qf.2 Qf.3 Qf.4 Qf.5]) Jw) (K (Ex.mk e.1 e.2 e.3 e.4 Q6) j89)) (0:Int) e.5 Q5) (Cnd (Qd=9) (q3m list Q5 fun Qj Q6=>K (Ex.mk (2:Int) (B8 []) (B8 []) [] [Ex.mk e.1 e.2 e.3 e.4 e.5,Ex.mk Qj.1 Qj.2 Qj.3 Qj.4 Qj.5]) Q6) (K (Ex.mk e.1 e.2 e.3 e.4 e.5) Q5)))))))))))
def Hb:Jy:=fun list at_ e K=> ∀X:Jy,(∀list at_ e K,q8d Q3 H9 z34 Vd q29 X list at_ e K->X list at_ e K)->X list at_ e K
abbrev q4n:Type:=List (Int)->Int->Seg->(Seg->Int->Prop)->Prop
def z35(Qa:Qr)(Qy:Vx)(q82:z3u)(q3r:z19)(Z2:Jy):q4n:=fun list at_ g K=>Qa list at_ (6:Int) fun Qb Qq=>Cnd (Qb=0) (Qy list Qq fun Qd Q5=>K (Seg.mk Qd g.2 g.3 g.4 (Ex.mk g.5.1 g.5.2 g.5.3 g.5.4 g.5.5)) Q5) (Cnd (Qb=1) (Qy list Qq fun Qd Q5=>K (Seg.mk g.1 Qd g.3 g.4 (Ex.mk g.5.1 g.5.2 g.5.3 g.5.4 g.5.5)) Q5) (Cnd (Qb=2) (Sml ([]++g.3).length/\q82 list Qq fun Qd Q5=>Sml ([]++g.3++[Qd]).length/\K (Seg.mk g.1 g.2 ([]++g.3++[Qd]) g.4 (Ex.mk g.5.1 g.5.2 g.5.3 g.5.4 g.5.5)) Q5) (Cnd (Qb=3) (Qa list Qq (3:Int) fun Qd Q5=>InI ((39:Int)+Qd)/\q3r ((39:Int)+Qd) fun Qj=>K (Seg.mk g.1 g.2 g.3 Qj (Ex.mk g.5.1 g.5.2 g.5.3 g.5.4 g.5.5)) Q5) (Cnd (Qb=4) (Z2 list Qq (Ex.mk g.5.1 g.5.2 g.5.3 g.5.4 g.5.5) fun Qd Q5=>K (Seg.mk g.1 g.2 g.3 g.4 (Ex.mk Qd.1 Qd.2 Qd.3 Qd.4 Qd.5)) Q5) (Cnd (Qb=5) (Qy list Qq fun Qd Q5=>K (Seg.mk g.1 g.2 g.3 g.4 (Ex.mk (5:Int) (B8 []) Qd [] [])) Q5) (K (Seg.mk g.1 g.2 g.3 g.4 (Ex.mk g.5.1 g.5.2 g.5.3 g.5.4 g.5.5)) Qq))))))
def q8e:q4n:=z35 Q3 H9 j04 z5p Hb
abbrev q09:Type:=List (Int)->Int->List (Rng)->(List (Rng)->Int->Prop)->Prop
def z7j(Qa:Qr)(Qn:J1):q09:=fun list at_ l K=>Sml ([]++l).length/\(([]++l).length<=(9223372036854775807:Nat)->Cnd ((↑([]++l).length:Int)=0) (K ([]++l) at_) (([]++l).length<=(9223372036854775807:Nat)->Qa list at_ (↑([]++l).length:Int) fun Qj Q6=>Qa list Q6 (6:Int) fun Qf Jw=>Cnd (Qf=0) (Qn list Jw fun Qk Jv=>((0:Int)<=Qj/\Qj<(↑([]++l).length:Int))/\ ∀y5,([]++l)[Qj.toNat]? =some y5->K (([]++l).set Qj.toNat (Rng.mk Qk y5.2 y5.3)) Jv) (Cnd (Qf=1) (Qn list Jw fun Qk Jv=>((0:Int)<=Qj/\Qj<(↑([]++l).length:Int))/\ ∀y5,([]++l)[Qj.toNat]? =some y5->K (([]++l).set Qj.toNat (Rng.mk y5.1 Qk y5.3)) Jv) (Cnd (Qf=2) (Qn list Jw fun Qk Jv=>((0:Int)<=Qj/\Qj<(↑([]++l).length:Int))/\ ∀y5,([]++l)[Qj.toNat]? =some y5->K (([]++l).set Qj.toNat (Rng.mk y5.1 y5.2 Qk)) Jv) (Cnd (Qf=3) (((0:Int)<=Qj/\Qj<=(↑([]++l).length:Int))/\K (List.take Qj.toNat ([]++l)) Jw) (Cnd (Qf=4) (((0:Int)<=Qj/\Qj<(↑([]++l).length:Int))/\ ∀y4,([]++l)[Qj.toNat]? =some y4->Sml ([]++l++[y4]).length/\K ([]++l++[y4]) Jw) (Cnd (Qf=5) (Lp3 (fun Qk Jv z6n w8z=>Qa list z6n (2:Int) fun Qo q6j=>InI ((16:Int)+Qo)/\Cnd (Jv<16+Qo) (InI (Jv+1)/\(2:Int)≠(0:Int)/\InI ((1:Int)+Jv.tmod (2:Int))/\Sml (Qk++[Rng.mk Jv (Jv+1) ((1:Int)+Jv.tmod (2:Int))]).length/\InI (Jv+1)/\w8z (Qk++[Rng.mk Jv (Jv+1) ((1:Int)+Jv.tmod (2:Int))]) (Jv+1) q6j) (Fits Qk->InI ((↑Qk.length:Int) - 1)/\((0:Int)<=(↑Qk.length:Int) - 1/\(↑Qk.length:Int) - 1<(↑Qk.length:Int))/\ ∀y7,Qk[((↑Qk.length:Int) - 1).toNat]? =some y7->K (Qk.set ((↑Qk.length:Int) - 1).toNat (Rng.mk y7.1 (10000:Int) y7.3)) q6j)) [] (0:Int) Jw) (K ([]++l) Jw))))))))
def q7b:q09:=z7j Q3 Vd
abbrev z0i:Type:=List (Int)->Int->Srv->(Srv->Int->Prop)->Prop
def j09(Qa:Qr)(Qn:J1)(Qy:Vx)(Ho:q09):z0i:=fun list at_ v K=>Qa list at_ (6:Int) fun Qb Qq=>Cnd (Qb=0) (Qn list Qq fun Qd Q5=>K (Srv.mk Qd v.2 v.3 v.4 v.5) Q5) (Cnd (Qb=1) (Qy list Qq fun Qd Q5=>K (Srv.mk v.1 Qd v.3 v.4 v.5) Q5) (Cnd (Qb=2) (Qy list Qq fun Qd Q5=>K (Srv.mk v.1 v.2 Qd v.4 v.5) Q5) (Cnd (Qb=3) (K (Srv.mk v.1 v.2 v.3 (B8 [127]) v.5) Qq) (Ho list Qq v.5 fun Qd Q5=>K (Srv.mk v.1 v.2 v.3 v.4 Qd) Q5))))
def z5q:z0i:=j09 Q3 Vd H9 q7b
abbrev z5r:Type:=List (Int)->Int->Flg->(Flg->Int->Prop)->Prop
def j5o(Qa:Qr)(Qy:Vx)(Qn:J1)(z4p:z7i)(J3:Bg)(q3r:z19)(Z2:Jy)(z1f:z0i):z5r:=fun list at_ f K=>Sml ([]++f.3).length/\Sml ([]++f.8).length/\Sml ([]++f.7).length/\Sml ([]++f.6).length/\Qa list at_ (14:Int) fun Qb Qq=>Cnd (Qb=0) (Qy list Qq fun Qd Q5=>K (Flg.mk Qd f.2 ([]++f.3) f.4 f.5 ([]++f.6) ([]++f.7) ([]++f.8) (Srv.mk f.9.1 f.9.2 f.9.3 f.9.4 f.9.5)) Q5) (Cnd (Qb=1) (Qn list Qq fun Qd Q5=>K (Flg.mk f.1 Qd ([]++f.3) f.4 f.5 ([]++f.6) ([]++f.7) ([]++f.8) (Srv.mk f.9.1 f.9.2 f.9.3 f.9.4 f.9.5)) Q5) (Cnd (Qb=2) (z4p list Qq fun Qd Q5=>Sml ([]++f.3++[Qd]).length/\K (Flg.mk f.1 f.2 ([]++f.3++[Qd]) f.4 f.5 ([]++f.6) ([]++f.7) ([]++f.8) (Srv.mk f.9.1 f.9.2 f.9.3 f.9.4 f.9.5)) Q5) (Cnd (Qb=3) (([]++f.3).length<=(9223372036854775807:Nat)->InI ((↑([]++f.3).length:Int)+1)/\Qa list Qq ((↑([]++f.3).length:Int)+1) fun Qj Q6=>((0:Int)<=Qj/\Qj<=(↑([]++f.3).length:Int))/\K (Flg.mk f.1 f.2 (List.take Qj.toNat ([]++f.3)) f.4 f.5 ([]++f.6) ([]++f.7) ([]++f.8) (Srv.mk f.9.1 f.9.2 f.9.3 f.9.4 f.9.5)) Q6) (Cnd (Qb=4) (Qn list Qq fun Qd Q5=>K (Flg.mk f.1 f.2 ([]++f.3) f.4 Qd ([]++f.6) ([]++f.7) ([]++f.8) (Srv.mk f.9.1 f.9.2 f.9.3 f.9.4 f.9.5)) Q5) (Cnd (Qb=5) (Qy list Qq fun Qd Q5=>Qn list Q5 fun Qj Q6=>Sml ([]++f.6++[Prq.mk Qd Qj]).length/\K (Flg.mk f.1 f.2 ([]++f.3) f.4 f.5 ([]++f.6++[Prq.mk Qd Qj]) ([]++f.7) ([]++f.8) (Srv.mk f.9.1 f.9.2 f.9.3 f.9.4 f.9.5)) Q6) (Cnd (Qb=6) (Qy list Qq fun Qd Q5=>J3 list Q5 fun Qj Q6=>Sml ([]++f.7++[Tgt.mk Qd (1:Int) Qj]).length/\K (Flg.mk f.1 f.2 ([]++f.3) f.4 f.5 ([]++f.6) ([]++f.7++[Tgt.mk Qd (1:Int) Qj]) ([]++f.8) (Srv.mk f.9.1 f.9.2 f.9.3 f.9.4 f.9.5)) Q6) (Cnd (Qb=7) (Qn list Qq fun Qd Q5=>Qa list Q5 (3:Int) fun Qj Q6=>InI ((39:Int)+Qj)/\q3r ((39:Int)+Qj) fun Qf=>Sml ([]++f.7++[Tgt.mk (B8 [117,115,101,114]) Qd Qf]).length/\K (Flg.mk f.1 f.2 ([]++f.3) f.4 f.5 ([]++f.6) ([]++f.7++[Tgt.mk (B8 [117,115,101,114]) Qd Qf]) ([]++f.8) (Srv.mk f.9.1 f.9.2 f.9.3 f.9.4 f.9.5)) Q6) (Cnd (Qb=8) (Qy list Qq fun Qd Q5=>Sml ([]++f.8++[Rul.mk Qd (Ex.mk (1:Int) (B8 []) (B8 []) [] []) (Srv.mk f.9.1 f.9.2 f.9.3 f.9.4 f.9.5)]).length/\K (Flg.mk f.1 f.2 ([]++f.3) f.4 f.5 ([]++f.6) ([]++f.7) ([]++f.8++[Rul.mk Qd (Ex.mk (1:Int) (B8 []) (B8 []) [] []) (Srv.mk f.9.1 f.9.2 f.9.3 f.9.4 f.9.5)]) (Srv.mk f.9.1 f.9.2 f.9.3 f.9.4 f.9.5)) Q5) (Jn1 (fun Qd=>Cnd (Qd=true) (([]++f.8).length<=(9223372036854775807:Nat)->Cnd ((0:Int)<(↑([]++f.8).length:Int)) (([]++f.8).length<=(9223372036854775807:Nat)->Qa list Qq (↑([]++f.8).length:Int) fun Qk Jv=>((0:Int)<=Qk/\Qk<(↑([]++f.8).length:Int))/\ ∀y5,([]++f.8)[Qk.toNat]? =some y5->Z2 list Jv (Ex.mk y5.2.1 y5.2.2 y5.2.3 y5.2.4 y5.2.5) fun Zj R9=>((0:Int)<=Qk/\Qk<(↑([]++f.8).length:Int))/\ ∀y8,([]++f.8)[Qk.toNat]? =some y8->K (Flg.mk f.1 f.2 ([]++f.3) f.4 f.5 ([]++f.6) ([]++f.7) (([]++f.8).set Qk.toNat (Rul.mk y8.1 (Ex.mk Zj.1 Zj.2 Zj.3 Zj.4 Zj.5) (Srv.mk y8.3.1 y8.3.2 y8.3.3 y8.3.4 y8.3.5))) (Srv.mk f.9.1 f.9.2 f.9.3 f.9.4 f.9.5)) R9) (K (Flg.mk f.1 f.2 ([]++f.3) f.4 f.5 ([]++f.6) ([]++f.7) ([]++f.8) (Srv.mk f.9.1 f.9.2 f.9.3 f.9.4 f.9.5)) Qq)) (Cnd (Qb=11) (([]++f.8).length<=(9223372036854775807:Nat)->Cnd ((0:Int)<(↑([]++f.8).length:Int)) (([]++f.8).length<=(9223372036854775807:Nat)->Qa list Qq (↑([]++f.8).length:Int) fun Qk Jv=>((0:Int)<=Qk/\Qk<(↑([]++f.8).length:Int))/\ ∀y5,([]++f.8)[Qk.toNat]? =some y5->z1f list Jv (Srv.mk y5.3.1 y5.3.2 y5.3.3 y5.3.4 y5.3.5) fun Zj R9=>((0:Int)<=Qk/\Qk<(↑([]++f.8).length:Int))/\ ∀y8,([]++f.8)[Qk.toNat]? =some y8->K (Flg.mk f.1 f.2 ([]++f.3) f.4 f.5 ([]++f.6) ([]++f.7) (([]++f.8).set Qk.toNat (Rul.mk y8.1 (Ex.mk y8.2.1 y8.2.2 y8.2.3 y8.2.4 y8.2.5) Zj)) (Srv.mk f.9.1 f.9.2 f.9.3 f.9.4 f.9.5)) R9) (K (Flg.mk f.1 f.2 ([]++f.3) f.4 f.5 ([]++f.6) ([]++f.7) ([]++f.8) (Srv.mk f.9.1 f.9.2 f.9.3 f.9.4 f.9.5)) Qq)) (Cnd (Qb=12) (z1f list Qq (Srv.mk f.9.1 f.9.2 f.9.3 f.9.4 f.9.5) fun Qj Q6=>K (Flg.mk f.1 f.2 ([]++f.3) f.4 f.5 ([]++f.6) ([]++f.7) ([]++f.8) Qj) Q6) (Cnd (Qb=13) (Lp2 (fun Qj Q6 q85=>Fits Q6->Qa list Qj (2:Int) fun Qk Jv=>InI ((12:Int)+Qk)/\Cnd ((↑Q6.length:Int)<12+Qk) (Fits Q6->InI ((97:Int)+(↑Q6.length:Int))/\(↑((B8 [114]).size+(Go.Utf8.encode (Go.IntKind.i32.wrap ((97:Int)+(↑Q6.length:Int)))).size):Int)<=(9223372036854775807:Int)/\Sml (Q6++[Rul.mk (B8 [114]++Go.Utf8.encode (Go.IntKind.i32.wrap ((97:Int)+(↑Q6.length:Int)))) (Ex.mk (1:Int) (B8 []) (B8 []) [] []) (Srv.mk f.9.1 f.9.2 f.9.3 f.9.4 f.9.5)]).length/\q85 Jv (Q6++[Rul.mk (B8 [114]++Go.Utf8.encode (Go.IntKind.i32.wrap ((97:Int)+(↑Q6.length:Int)))) (Ex.mk (1:Int) (B8 []) (B8 []) [] []) (Srv.mk f.9.1 f.9.2 f.9.3 f.9.4 f.9.5)])) (K (Flg.mk f.1 f.2 ([]++f.3) f.4 f.5 ([]++f.6) ([]++f.7) Q6 (Srv.mk f.9.1 f.9.2 f.9.3 f.9.4 f.9.5)) Jv)) Qq ([]++f.8)) (K (Flg.mk f.1 f.2 ([]++f.3) f.4 f.5 ([]++f.6) ([]++f.7) ([]++f.8) (Srv.mk f.9.1 f.9.2 f.9.3 f.9.4 f.9.5)) Qq))))) fun j3n=>Cnd (Qb=9) (j3n (decide (Qb=9))) (j3n (decide (Qb=10))))))))))))
def z91:z5r:=j5o Q3 H9 Vd z34 q5d z5p Hb z5q
abbrev z0j:Type:=List (Int)->Int->Lay_->(Lay_->Int->Prop)->Prop
def j1a(Qa:Qr)(Qy:Vx)(Qn:J1):z0j:=fun list at_ l K=>Sml ([]++l.6).length/\Qa list at_ (6:Int) fun Qb Qq=>Cnd (Qb=0) (Qy list Qq fun Qd Q5=>K (Lay_.mk Qd l.2 l.3 l.4 l.5 ([]++l.6)) Q5) (Cnd (Qb=1) (Qy list Qq fun Qd Q5=>K (Lay_.mk l.1 Qd l.3 l.4 l.5 ([]++l.6)) Q5) (Cnd (Qb=2) (Qn list Qq fun Qd Q5=>K (Lay_.mk l.1 l.2 l.3 Qd l.5 ([]++l.6)) Q5) (Cnd (Qb=3) (Qn list Qq fun Qd Q5=>K (Lay_.mk l.1 l.2 l.3 l.4 Qd ([]++l.6)) Q5) (Cnd (Qb=4) (Qn list Qq fun Qd Q5=>Qn list Q5 fun Qj Q6=>Qn list Q6 fun Qf Jw=>Sml ([]++l.6++[Col.mk Qd Qj Qf]).length/\K (Lay_.mk l.1 l.2 l.3 l.4 l.5 ([]++l.6++[Col.mk Qd Qj Qf])) Jw) (Cnd (Qb=5) (Lp3 (fun Qd Q5 j2x w8y=>Qa list j2x (2:Int) fun Qj Q6=>InI ((32:Int)+Qj)/\Cnd (Qd<32+Qj) (InI (Qd+1)/\Sml (Q5++[Col.mk Qd (Qd+1) Qd]).length/\InI (Qd+1)/\w8y (Qd+1) (Q5++[Col.mk Qd (Qd+1) Qd]) Q6) (K (Lay_.mk l.1 l.2 l.3 l.4 l.5 Q5) Q6)) (0:Int) [] Qq) (K (Lay_.mk l.1 l.2 l.3 l.4 l.5 ([]++l.6)) Qq))))))
def z5s:z0j:=j1a Q3 H9 Vd
abbrev Hw:Type:=List (Int)->Int->Exper->(Exper->Int->Prop)->Prop
def q6a(Qa:Qr)(Qy:Vx)(Qn:J1)(Ho:q09)(Z2:Jy):Hw:=fun list at_ x K=>Sml ([]++x.6).length/\Qa list at_ (9:Int) fun Qb Qq=>Cnd (Qb=0) (Qy list Qq fun Qd Q5=>K (Exper.mk Qd x.2 x.3 x.4 x.5 ([]++x.6) x.7 (Ex.mk x.8.1 x.8.2 x.8.3 x.8.4 x.8.5)) Q5) (Cnd (Qb=1) (Qy list Qq fun Qd Q5=>K (Exper.mk x.1 Qd x.3 x.4 x.5 ([]++x.6) x.7 (Ex.mk x.8.1 x.8.2 x.8.3 x.8.4 x.8.5)) Q5) (Cnd (Qb=2) (Qy list Qq fun Qd Q5=>K (Exper.mk x.1 x.2 Qd x.4 x.5 ([]++x.6) x.7 (Ex.mk x.8.1 x.8.2 x.8.3 x.8.4 x.8.5)) Q5) (Cnd (Qb=3) (Qa list Qq (6:Int) fun Qd Q5=>InI (Qd - 1)/\K (Exper.mk x.1 x.2 x.3 x.4 (Qd - 1) ([]++x.6) x.7 (Ex.mk x.8.1 x.8.2 x.8.3 x.8.4 x.8.5)) Q5) (Cnd (Qb=4) (Qn list Qq fun Qd Q5=>Qn list Q5 fun Qj Q6=>Sml ([]++x.6++[Spn.mk Qd Qj]).length/\K (Exper.mk x.1 x.2 x.3 x.4 x.5 ([]++x.6++[Spn.mk Qd Qj]) x.7 (Ex.mk x.8.1 x.8.2 x.8.3 x.8.4 x.8.5)) Q6) (Cnd (Qb=5) (Lp3 (fun Qd Q5 j2x w8y=>Qa list j2x (2:Int) fun Qj Q6=>InI ((16:Int)+Qj)/\Cnd (Qd<16+Qj) (InI ((2:Int)*Qd)/\InI ((2:Int)*Qd)/\InI ((2:Int)*Qd+1)/\Sml (Q5++[Spn.mk ((2:Int)*Qd) ((2:Int)*Qd+1)]).length/\InI (Qd+1)/\w8y (Qd+1) (Q5++[Spn.mk ((2:Int)*Qd) ((2:Int)*Qd+1)]) Q6) (K (Exper.mk x.1 x.2 x.3 x.4 x.5 Q5 x.7 (Ex.mk x.8.1 x.8.2 x.8.3 x.8.4 x.8.5)) Q6)) (0:Int) [] Qq) (Jn1 (fun Qd=>Cnd (Qd=true) (Ho list Qq x.7 fun Qj Q6=>K (Exper.mk x.1 x.2 x.3 x.4 x.5 ([]++x.6) Qj (Ex.mk x.8.1 x.8.2 x.8.3 x.8.4 x.8.5)) Q6) (Cnd (Qb=8) (Z2 list Qq (Ex.mk x.8.1 x.8.2 x.8.3 x.8.4 x.8.5) fun Qj Q6=>K (Exper.mk x.1 x.2 x.3 x.4 x.5 ([]++x.6) x.7 (Ex.mk Qj.1 Qj.2 Qj.3 Qj.4 Qj.5)) Q6) (K (Exper.mk x.1 x.2 x.3 x.4 x.5 ([]++x.6) x.7 (Ex.mk x.8.1 x.8.2 x.8.3 x.8.4 x.8.5)) Qq))) fun j3n=>Cnd (Qb=6) (j3n (decide (Qb=6))) (j3n (decide (Qb=7)))))))))
def q1r:Hw:=q6a Q3 H9 Vd q7b Hb
abbrev z0k:Type:=List (Int)->Int->Envt->(Envt->Int->Prop)->Prop
def j1b(Qa:Qr)(Zy:Uj)(Qy:Vx)(Qn:J1)(q9d:q4n)(j0a:z5r)(z6l:z0j)(q11:Hw):z0k:=fun list at_ v K=>Sml ([]++v.2).length/\Sml ([]++v.3).length/\Sml ([]++v.4).length/\Sml ([]++v.5).length/\Sml ([]++v.6).length/\Qa list at_ (9:Int) fun Qb Qq=>Cnd (Qb=0) (Zy list Qq fun Qd Q5=>Qy list Q5 fun Qj Q6=>Qn list Q6 fun Qf Jw=>K (Envt.mk (Sett.mk Qd Qj Qf) ([]++v.2) ([]++v.3) ([]++v.4) ([]++v.5) ([]++v.6)) Jw) (Cnd (Qb=1) (Qy list Qq fun Qd Q5=>Qy list Q5 fun Qj Q6=>Qa list Q6 (7:Int) fun Qf Jw=>Sml ([]++v.2++[Decl.mk Qd Qj Qf]).length/\K (Envt.mk (Sett.mk v.1.1 v.1.2 v.1.3) ([]++v.2++[Decl.mk Qd Qj Qf]) ([]++v.3) ([]++v.4) ([]++v.5) ([]++v.6)) Jw) (Cnd (Qb=2) (([]++v.3).length<=(9223372036854775807:Nat)->Cnd ((0:Int)<(↑([]++v.3).length:Int)) (([]++v.3).length<=(9223372036854775807:Nat)->Qa list Qq (↑([]++v.3).length:Int) fun Qf Jw=>((0:Int)<=Qf/\Qf<(↑([]++v.3).length:Int))/\ ∀y4,([]++v.3)[Qf.toNat]? =some y4->q9d list Jw (Seg.mk y4.1 y4.2 y4.3 y4.4 (Ex.mk y4.5.1 y4.5.2 y4.5.3 y4.5.4 y4.5.5)) fun Zi q5y=>((0:Int)<=Qf/\Qf<(↑([]++v.3).length:Int))/\ ∀y7,([]++v.3)[Qf.toNat]? =some y7->K (Envt.mk (Sett.mk v.1.1 v.1.2 v.1.3) ([]++v.2) (([]++v.3).set Qf.toNat (Seg.mk Zi.1 Zi.2 Zi.3 Zi.4 (Ex.mk Zi.5.1 Zi.5.2 Zi.5.3 Zi.5.4 Zi.5.5))) ([]++v.4) ([]++v.5) ([]++v.6)) q5y) (K (Envt.mk (Sett.mk v.1.1 v.1.2 v.1.3) ([]++v.2) ([]++v.3) ([]++v.4) ([]++v.5) ([]++v.6)) Qq)) (Jn1 (fun Qd=>Cnd (Qd=true) (([]++v.4).length<=(9223372036854775807:Nat)->Cnd ((0:Int)<(↑([]++v.4).length:Int)) (([]++v.4).length<=(9223372036854775807:Nat)->Qa list Qq (↑([]++v.4).length:Int) fun Qk Jv=>((0:Int)<=Qk/\Qk<(↑([]++v.4).length:Int))/\ ∀y5,([]++v.4)[Qk.toNat]? =some y5->j0a list Jv (Flg.mk y5.1 y5.2 y5.3 y5.4 y5.5 y5.6 y5.7 y5.8 (Srv.mk y5.9.1 y5.9.2 y5.9.3 y5.9.4 y5.9.5)) fun Zj R9=>((0:Int)<=Qk/\Qk<(↑([]++v.4).length:Int))/\ ∀y8,([]++v.4)[Qk.toNat]? =some y8->K (Envt.mk (Sett.mk v.1.1 v.1.2 v.1.3) ([]++v.2) ([]++v.3) (([]++v.4).set Qk.toNat (Flg.mk Zj.1 Zj.2 Zj.3 Zj.4 Zj.5 Zj.6 Zj.7 Zj.8 (Srv.mk Zj.9.1 Zj.9.2 Zj.9.3 Zj.9.4 Zj.9.5))) ([]++v.5) ([]++v.6)) R9) (K (Envt.mk (Sett.mk v.1.1 v.1.2 v.1.3) ([]++v.2) ([]++v.3) ([]++v.4) ([]++v.5) ([]++v.6)) Qq)) (Cnd (Qb=5) (([]++v.5).length<=(9223372036854775807:Nat)->Cnd ((0:Int)<(↑([]++v.5).length:Int)) (([]++v.5).length<=(9223372036854775807:Nat)->Qa list Qq (↑([]++v.5).length:Int) fun Qk Jv=>((0:Int)<=Qk/\Qk<(↑([]++v.5).length:Int))/\ ∀y5,([]++v.5)[Qk.toNat]? =some y5->z6l list Jv y5 fun Zj R9=>((0:Int)<=Qk/\Qk<(↑([]++v.5).length:Int))/\ ∀y8,([]++v.5)[Qk.toNat]? =some y8->K (Envt.mk (Sett.mk v.1.1 v.1.2 v.1.3) ([]++v.2) ([]++v.3) ([]++v.4) (([]++v.5).set Qk.toNat Zj) ([]++v.6)) R9) (K (Envt.mk (Sett.mk v.1.1 v.1.2 v.1.3) ([]++v.2) ([]++v.3) ([]++v.4) ([]++v.5) ([]++v.6)) Qq)) (Cnd (Qb=6) (([]++v.6).length<=(9223372036854775807:Nat)->Cnd ((0:Int)<(↑([]++v.6).length:Int)) (([]++v.6).length<=(9223372036854775807:Nat)->Qa list Qq (↑([]++v.6).length:Int) fun Qk Jv=>((0:Int)<=Qk/\Qk<(↑([]++v.6).length:Int))/\ ∀y5,([]++v.6)[Qk.toNat]? =some y5->q11 list Jv (Exper.mk y5.1 y5.2 y5.3 y5.4 y5.5 y5.6 y5.7 (Ex.mk y5.8.1 y5.8.2 y5.8.3 y5.8.4 y5.8.5)) fun Zj R9=>((0:Int)<=Qk/\Qk<(↑([]++v.6).length:Int))/\ ∀y8,([]++v.6)[Qk.toNat]? =some y8->K (Envt.mk (Sett.mk v.1.1 v.1.2 v.1.3) ([]++v.2) ([]++v.3) ([]++v.4) ([]++v.5) (([]++v.6).set Qk.toNat (Exper.mk Zj.1 Zj.2 Zj.3 Zj.4 Zj.5 Zj.6 Zj.7 (Ex.mk Zj.8.1 Zj.8.2 Zj.8.3 Zj.8.4 Zj.8.5)))) R9) (K (Envt.mk (Sett.mk v.1.1 v.1.2 v.1.3) ([]++v.2) ([]++v.3) ([]++v.4) ([]++v.5) ([]++v.6)) Qq)) (Cnd (Qb=7) (([]++v.4).length<=(9223372036854775807:Nat)->Cnd ((1:Int)<(↑([]++v.4).length:Int)) (((0:Int)<=(1:Int)/\(1:Int)<(↑([]++v.4).length:Int))/\ ∀y3,([]++v.4)[Int.toNat (1:Int)]? =some y3->((0:Int)<=(0:Int)/\(0:Int)<(↑([]++v.4).length:Int))/\ ∀y5,([]++v.4)[Int.toNat (0:Int)]? =some y5->((0:Int)<=(0:Int)/\(0:Int)<(↑([]++v.4).length:Int))/\ ∀y7,([]++v.4)[Int.toNat (0:Int)]? =some y7->((0:Int)<=(1:Int)/\(1:Int)<(↑(([]++v.4).set (Int.toNat (0:Int)) (Flg.mk y3.1 y3.2 y3.3 y3.4 y3.5 y3.6 y3.7 y3.8 (Srv.mk y3.9.1 y3.9.2 y3.9.3 y3.9.4 y3.9.5))).length:Int))/\ ∀y9,(([]++v.4).set (Int.toNat (0:Int)) (Flg.mk y3.1 y3.2 y3.3 y3.4 y3.5 y3.6 y3.7 y3.8 (Srv.mk y3.9.1 y3.9.2 y3.9.3 y3.9.4 y3.9.5)))[Int.toNat (1:Int)]? =some y9->K (Envt.mk (Sett.mk v.1.1 v.1.2 v.1.3) ([]++v.2) ([]++v.3) ((([]++v.4).set (Int.toNat (0:Int)) (Flg.mk y3.1 y3.2 y3.3 y3.4 y3.5 y3.6 y3.7 y3.8 (Srv.mk y3.9.1 y3.9.2 y3.9.3 y3.9.4 y3.9.5))).set (Int.toNat (1:Int)) (Flg.mk y5.1 y5.2 y5.3 y5.4 y5.5 y5.6 y5.7 y5.8 (Srv.mk y5.9.1 y5.9.2 y5.9.3 y5.9.4 y5.9.5))) ([]++v.5) ([]++v.6)) Qq) (([]++v.3).length<=(9223372036854775807:Nat)->Cnd ((1:Int)<(↑([]++v.3).length:Int)) (((0:Int)<=(1:Int)/\(1:Int)<(↑([]++v.3).length:Int))/\ ∀y4,([]++v.3)[Int.toNat (1:Int)]? =some y4->((0:Int)<=(0:Int)/\(0:Int)<(↑([]++v.3).length:Int))/\ ∀y6,([]++v.3)[Int.toNat (0:Int)]? =some y6->((0:Int)<=(0:Int)/\(0:Int)<(↑([]++v.3).length:Int))/\ ∀y8,([]++v.3)[Int.toNat (0:Int)]? =some y8->((0:Int)<=(1:Int)/\(1:Int)<(↑(([]++v.3).set (Int.toNat (0:Int)) (Seg.mk y4.1 y4.2 y4.3 y4.4 (Ex.mk y4.5.1 y4.5.2 y4.5.3 y4.5.4 y4.5.5))).length:Int))/\ ∀y10,(([]++v.3).set (Int.toNat (0:Int)) (Seg.mk y4.1 y4.2 y4.3 y4.4 (Ex.mk y4.5.1 y4.5.2 y4.5.3 y4.5.4 y4.5.5)))[Int.toNat (1:Int)]? =some y10->K (Envt.mk (Sett.mk v.1.1 v.1.2 v.1.3) ([]++v.2) ((([]++v.3).set (Int.toNat (0:Int)) (Seg.mk y4.1 y4.2 y4.3 y4.4 (Ex.mk y4.5.1 y4.5.2 y4.5.3 y4.5.4 y4.5.5))).set (Int.toNat (1:Int)) (Seg.mk y6.1 y6.2 y6.3 y6.4 (Ex.mk y6.5.1 y6.5.2 y6.5.3 y6.5.4 y6.5.5))) ([]++v.4) ([]++v.5) ([]++v.6)) Qq) (K (Envt.mk (Sett.mk v.1.1 v.1.2 v.1.3) ([]++v.2) ([]++v.3) ([]++v.4) ([]++v.5) ([]++v.6)) Qq))) (Cnd (Qb=8) (Lp2 (fun Qj Q6 q85=>Fits Q6->Cnd ((0:Int)<(↑Q6.length:Int)) (Cnd (Qj<20) (Fits Q6->InI ((↑Q6.length:Int) - 1)/\((0:Int)<=(↑Q6.length:Int) - 1/\(↑Q6.length:Int) - 1<(↑Q6.length:Int))/\ ∀y5,Q6[((↑Q6.length:Int) - 1).toNat]? =some y5->InI ((97:Int)+Qj)/\(↑((B8 [122]).size+(Go.Utf8.encode (Go.IntKind.i32.wrap ((97:Int)+Qj))).size):Int)<=(9223372036854775807:Int)/\Sml (Q6++[Seg.mk (B8 [122]++Go.Utf8.encode (Go.IntKind.i32.wrap ((97:Int)+Qj))) y5.2 y5.3 y5.4 (Ex.mk y5.5.1 y5.5.2 y5.5.3 y5.5.4 y5.5.5)]).length/\InI (Qj+1)/\q85 (Qj+1) (Q6++[Seg.mk (B8 [122]++Go.Utf8.encode (Go.IntKind.i32.wrap ((97:Int)+Qj))) y5.2 y5.3 y5.4 (Ex.mk y5.5.1 y5.5.2 y5.5.3 y5.5.4 y5.5.5)])) (K (Envt.mk (Sett.mk v.1.1 v.1.2 v.1.3) ([]++v.2) Q6 ([]++v.4) ([]++v.5) ([]++v.6)) Qq)) (K (Envt.mk (Sett.mk v.1.1 v.1.2 v.1.3) ([]++v.2) Q6 ([]++v.4) ([]++v.5) ([]++v.6)) Qq)) (0:Int) ([]++v.3)) (K (Envt.mk (Sett.mk v.1.1 v.1.2 v.1.3) ([]++v.2) ([]++v.3) ([]++v.4) ([]++v.5) ([]++v.6)) Qq)))))) fun j3n=>Cnd (Qb=3) (j3n (decide (Qb=3))) (j3n (decide (Qb=4))))))
def z5t:z0k:=j1b Q3 q28 H9 Vd q8e z91 z5s q1r
abbrev Ra:Type:=Int->(Bool->Prop)->Prop
def q2o:Ra:=fun now K=>Cnd ((0:Int)<=now) (K (decide (now<=1099511627776))) (K false)
abbrev Ju:Type:=Envt->ByteArray->(Exper->Bool->Prop)->Prop
def W1:Ju:=fun v key K=>Fits v.6->LpH (fun (Qd:Int×ByteArray×ByteArray×ByteArray×ByteArray×Int×List Spn×List Rng×Int×ByteArray×ByteArray×List Val×List Ex×Unit) (q1z:Int×ByteArray×ByteArray×ByteArray×ByteArray×Int×List Spn×List Rng×Int×ByteArray×ByteArray×List Val×List Ex×Unit->Prop)=>CAt v.6 Qd.1 (fun y2=>Cnd (y2.1=key) (Cnd (y2.5=2) (K (Exper.mk y2.1 y2.2 y2.3 y2.4 y2.5 y2.6 y2.7 (Ex.mk y2.8.1 y2.8.2 y2.8.3 y2.8.4 y2.8.5)) true) (InI (Qd.1+1)/\q1z (Qd.1+1,Qd.2.1,Qd.2.2.1,Qd.2.2.2.1,Qd.2.2.2.2.1,Qd.2.2.2.2.2.1,Qd.2.2.2.2.2.2.1,Qd.2.2.2.2.2.2.2.1,Qd.2.2.2.2.2.2.2.2.1,Qd.2.2.2.2.2.2.2.2.2.1,Qd.2.2.2.2.2.2.2.2.2.2.1,Qd.2.2.2.2.2.2.2.2.2.2.2.1,Qd.2.2.2.2.2.2.2.2.2.2.2.2.1,()))) (InI (Qd.1+1)/\q1z (Qd.1+1,Qd.2.1,Qd.2.2.1,Qd.2.2.2.1,Qd.2.2.2.2.1,Qd.2.2.2.2.2.1,Qd.2.2.2.2.2.2.1,Qd.2.2.2.2.2.2.2.1,Qd.2.2.2.2.2.2.2.2.1,Qd.2.2.2.2.2.2.2.2.2.1,Qd.2.2.2.2.2.2.2.2.2.2.1,Qd.2.2.2.2.2.2.2.2.2.2.2.1,Qd.2.2.2.2.2.2.2.2.2.2.2.2.1,()))) (K (Exper.mk (B8 []) (B8 []) (B8 []) (B8 []) (0:Int) [] [] (Ex.mk (0:Int) (B8 []) (B8 []) [] [])) false)) ((0:Int),B8 [],B8 [],B8 [],B8 [],(0:Int),[],[],(0:Int),B8 [],B8 [],[],[],())
abbrev Jo:Type:=List (ByteArray)->List (ByteArray)->(Bool->Prop)->Prop
def Jp:Jo:=fun s1 s2 K=>Fits s1->Fits s2->Cnd ((↑s1.length:Int)=(↑s2.length:Int)) (Fits s1->Lp1 (fun Qf j6v=>CAt s1 Qf (fun y4=>At s2 Qf fun y6=>Cnd (y4=y6) (InI (Qf+1)/\j6v (Qf+1)) (K false)) (K true)) (0:Int)) (K false)
abbrev R5:Type:=Val->Val->(Bool->Prop)->Prop
def z0l(Jr:Jo):R5:=fun a b K=>Cnd (a.1=b.1) (Cnd (a.2=b.2) (Cnd (a.3=b.3) (Jr a.4 b.4 fun Qb=>K Qb) (K false)) (K false)) (K false)
def Gx:R5:=z0l Jp
abbrev Rt:Type:=Ex->Ex->(Bool->Prop)->Prop
def z36(R7:R5)(X:Rt):Rt:=fun a b K=>Cnd (a.1=b.1) (Cnd (a.2=b.2) (Cnd (a.3=b.3) (Fits a.4->Fits b.4->Cnd ((↑a.4.length:Int)=(↑b.4.length:Int)) (Fits a.4->Lp1 (fun Qf j6v=>CAt a.4 Qf (fun y4=>At b.4 Qf fun y6=>R7 y4 y6 fun Zx=>Cnd (Zx=true) (InI (Qf+1)/\j6v (Qf+1)) (K false)) (Fits a.5->Fits b.5->Cnd ((↑a.5.length:Int)=(↑b.5.length:Int)) (Fits a.5->Lp1 (fun Zj v6p=>CAt a.5 Zj (fun y8=>At b.5 Zj fun y10=>X (Ex.mk y8.1 y8.2 y8.3 y8.4 y8.5) (Ex.mk y10.1 y10.2 y10.3 y10.4 y10.5) fun Qw=>Cnd (Qw=true) (InI (Zj+1)/\v6p (Zj+1)) (K false)) (K true)) (0:Int)) (K false))) (0:Int)) (K false)) (K false)) (K false)) (K false)
def q8f:Rt:=fun a b K=> ∀X:Rt,(∀a b K,z36 Gx X a b K->X a b K)->X a b K
abbrev W8:Type:=List (Spn)->List (Spn)->(List (Spn)->Prop)->Prop
def V9(a:List (Spn))(b:List (Spn))(K:List (Spn)->Prop):Prop:=K ((Go.Fl.Sp.runs (fun i=>Go.Fl.Sp.cov (a.map fun s=>(s.lo,s.hi)) i && !Go.Fl.Sp.cov (b.map fun s=>(s.lo,s.hi)) i) 10000).map fun s=>Spn.mk s.1 s.2)
abbrev Wd:Type:=Envt->ByteArray->(Int->Prop)->Prop
def We:Wd:=fun v key K=>Fits v.5->Lp1 (fun Qd q1z=>CAt v.5 Qd (fun y2=>Cnd (y2.1=key) (K Qd) (InI (Qd+1)/\q1z (Qd+1))) (K (-1:Int))) (0:Int)
abbrev q1s:Type:=Envt->ByteArray->(Flg->Bool->Prop)->Prop
def q1t:q1s:=fun v key K=>Fits v.4->Lp1 (fun Qd q1z=>CAt v.4 Qd (fun y2=>Cnd (y2.1=key) (Cnd (Qd<0) (K (Flg.mk (B8 []) (0:Int) [] false (0:Int) [] [] [] (Srv.mk (0:Int) (B8 []) (B8 []) (B8 []) [])) false) (At v.4 Qd fun y4=>K (Flg.mk y4.1 y4.2 y4.3 y4.4 y4.5 y4.6 y4.7 y4.8 (Srv.mk y4.9.1 y4.9.2 y4.9.3 y4.9.4 y4.9.5)) true)) (InI (Qd+1)/\q1z (Qd+1))) (Cnd ((-1:Int)<(0:Int)) (K (Flg.mk (B8 []) (0:Int) [] false (0:Int) [] [] [] (Srv.mk (0:Int) (B8 []) (B8 []) (B8 []) [])) false) (At v.4 (-1:Int) fun y2=>K (Flg.mk y2.1 y2.2 y2.3 y2.4 y2.5 y2.6 y2.7 y2.8 (Srv.mk y2.9.1 y2.9.2 y2.9.3 y2.9.4 y2.9.5)) true))) (0:Int)
abbrev W9:Type:=Envt->Envt->Exper->Exper->(Bool->Prop)->Prop
def Ru(q9e:Rt)(Ze:W8)(Zf:Wd)(H0:q1s)(R7:R5):W9:=fun before after x y K=>Cnd (x.2=y.2) (Cnd (x.3=y.3) (Cnd (x.4=y.4) (Fits x.7->Fits y.7->Cnd ((↑x.7.length:Int)=(↑y.7.length:Int)) (Fits x.7->Lp1 (fun Qf j6v=>CAt x.7 Qf (fun y4=>At y.7 Qf fun y6=>Cnd (y4.1=y6.1/\y4.2=y6.2/\y4.3=y6.3) (InI (Qf+1)/\j6v (Qf+1)) (K false)) (q9e (Ex.mk x.8.1 x.8.2 x.8.3 x.8.4 x.8.5) (Ex.mk y.8.1 y.8.2 y.8.3 y.8.4 y.8.5) fun Qk=>Cnd (Qk=true) (Ze x.6 y.6 fun Qo=>Fits Qo->Cnd ((0:Int)<(↑Qo.length:Int)) (K false) (Zf (Envt.mk (Sett.mk before.1.1 before.1.2 before.1.3) before.2 before.3 before.4 before.5 before.6) x.2 fun Zj=>Zf (Envt.mk (Sett.mk after.1.1 after.1.2 after.1.3) after.2 after.3 after.4 after.5 after.6) x.2 fun Zx=>Cnd (Zj<0) (K false) (Cnd (Zx<0) (K false) (At before.5 Zj fun y9=>At after.5 Zx fun y11=>Cnd (y9.2=y11.2) (At before.5 Zj fun y13=>At after.5 Zx fun y15=>Cnd (y13.3=y15.3) (H0 (Envt.mk (Sett.mk before.1.1 before.1.2 before.1.3) before.2 before.3 before.4 before.5 before.6) x.3 fun G1 j6s=>H0 (Envt.mk (Sett.mk after.1.1 after.1.2 after.1.3) after.2 after.3 after.4 after.5 after.6) x.3 fun Qh z9q=>Cnd (j6s=true) (Cnd (z9q=true) (Cnd (G1.2=Qh.2) (Fits G1.3->Fits Qh.3->Cnd ((↑G1.3.length:Int)=(↑Qh.3.length:Int)) (Fits G1.3->Lp1 (fun q2h v81=>CAt G1.3 q2h (fun y23=>At Qh.3 q2h fun y25=>R7 y23 y25 fun (v82:Bool)=>Cnd (v82=true) (InI (q2h+1)/\v81 (q2h+1)) (K false)) (K true)) (0:Int)) (K false)) (K false)) (K false)) (K false)) (K false)) (K false))))) (K false))) (0:Int)) (K false)) (K false)) (K false)) (K false)
def Uq:W9:=Ru q8f V9 We q1t Gx
abbrev Ur:Type:=Lay_->Int->(List (Spn)->Prop)->Prop
def J7:Ur:=fun l now K=>Fits l.6->Lp2 (fun Qd Q5 q9s=>CAt l.6 Q5 (fun y2=>Cnd (now<y2.3) (Sml (Qd++[Spn.mk y2.1 y2.2]).length/\InI (Q5+1)/\q9s (Qd++[Spn.mk y2.1 y2.2]) (Q5+1)) (InI (Q5+1)/\q9s Qd (Q5+1))) (K Qd)) [] (0:Int)
abbrev q2p:Type:=List (Spn)->List (Spn)->(List (Spn)->Prop)->Prop
def Ve(a:List (Spn))(b:List (Spn))(K:List (Spn)->Prop):Prop:=K ((Go.Fl.Sp.runs (fun i=>Go.Fl.Sp.cov (a.map fun s=>(s.lo,s.hi)) i && Go.Fl.Sp.cov (b.map fun s=>(s.lo,s.hi)) i) 10000).map fun s=>Spn.mk s.1 s.2)
abbrev U0:Type:=Envt->Envt->Exper->Int->(Int->Prop)->Prop
def q2q(Q1:Ju)(Ze:W8)(Zf:Wd)(Uv:Ur)(Rj:q2p):U0:=fun before after y now K=>Fits before.6->Lp1 (fun Qd q1z=>CAt before.6 Qd (fun y2=>Cnd (y2.1=y.1) (Cnd (y2.5=3) (K (25:Int)) (InI (Qd+1)/\q1z (Qd+1))) (InI (Qd+1)/\q1z (Qd+1))) (Q1 (Envt.mk (Sett.mk before.1.1 before.1.2 before.1.3) before.2 before.3 before.4 before.5 before.6) y.1 fun Qj _=>Ze y.6 Qj.6 fun Qf=>[Envt.mk (Sett.mk before.1.1 before.1.2 before.1.3) before.2 before.3 before.4 before.5 before.6,Envt.mk (Sett.mk after.1.1 after.1.2 after.1.3) after.2 after.3 after.4 after.5 after.6].length<=(9223372036854775807:Nat)->Lp1 (fun Qo w5b=>Cnd (Qo<(↑[Envt.mk (Sett.mk before.1.1 before.1.2 before.1.3) before.2 before.3 before.4 before.5 before.6,Envt.mk (Sett.mk after.1.1 after.1.2 after.1.3) after.2 after.3 after.4 after.5 after.6].length:Int)) (((0:Int)<=Qo/\Qo<(↑[Envt.mk (Sett.mk before.1.1 before.1.2 before.1.3) before.2 before.3 before.4 before.5 before.6,Envt.mk (Sett.mk after.1.1 after.1.2 after.1.3) after.2 after.3 after.4 after.5 after.6].length:Int))/\ ∀y6,[Envt.mk (Sett.mk before.1.1 before.1.2 before.1.3) before.2 before.3 before.4 before.5 before.6,Envt.mk (Sett.mk after.1.1 after.1.2 after.1.3) after.2 after.3 after.4 after.5 after.6][Qo.toNat]? =some y6->Zf (Envt.mk (Sett.mk y6.1.1 y6.1.2 y6.1.3) y6.2 y6.3 y6.4 y6.5 y6.6) y.2 fun Zx=>Cnd ((0:Int)<=Zx) (At y6.5 Zx fun y9=>Uv y9 now fun J2=>Rj Qf J2 fun Qw=>Fits Qw->Cnd ((0:Int)<(↑Qw.length:Int)) (K (14:Int)) (InI (Qo+1)/\w5b (Qo+1))) (InI (Qo+1)/\w5b (Qo+1))) (K (0:Int))) (0:Int))) (0:Int)
def Rb:U0:=q2q W1 V9 We J7 Ve
abbrev By:Type:=Int->Int->(Int->Prop)->Prop
def Bz:By:=fun now cool K=>InI ((1099511627776:Int) - now)/\Cnd ((1099511627776:Int) - now<cool) (K (1099511627776:Int)) (InI (now+cool)/\K (now+cool))
abbrev Gy:Type:=Envt->Envt->Lay_->Int->(Bool->Prop)->Prop
def q4o(Ze:W8)(Q1:Ju)(q0u:By)(Zf:Wd):Gy:=fun before after l now K=>Jn1 (fun Qb=>Fits l.6->Lp1 (fun Qj j2v=>CAt l.6 Qj (fun y3=>Cnd (now<y3.3) (Fits Qb->Lp2 (fun Zi q5y v2d=>CAt Qb q5y (fun y7=>Cnd (y3.3<=y7.3) (Sml (Zi++[Spn.mk y7.1 y7.2]).length/\InI (q5y+1)/\v2d (Zi++[Spn.mk y7.1 y7.2]) (q5y+1)) (InI (q5y+1)/\v2d Zi (q5y+1))) (Ze [Spn.mk y3.1 y3.2] Zi fun Zj=>Fits Zj->Cnd ((↑Zj.length:Int)=0) (InI (Qj+1)/\j2v (Qj+1)) (K false))) [] (0:Int)) (InI (Qj+1)/\j2v (Qj+1))) (Cnd (l.5<=0) (K true) (Fits before.6->Lp1 (fun Qk j6w=>CAt before.6 Qk (fun y5=>Q1 (Envt.mk (Sett.mk after.1.1 after.1.2 after.1.3) after.2 after.3 after.4 after.5 after.6) y5.1 fun _ R9=>Cnd (R9=true) (InI (Qk+1)/\j6w (Qk+1)) (Cnd (y5.2=l.1) (Cnd (y5.5=2) (Fits y5.6->Lp1 (fun J8 v2e=>CAt y5.6 J8 (fun y10=>q0u now l.5 fun Qw=>Cnd (now<Qw) (Fits Qb->Lp2 (fun Zh z6k v61=>CAt Qb z6k (fun y15=>Cnd (Qw<=y15.3) (Sml (Zh++[Spn.mk y15.1 y15.2]).length/\InI (z6k+1)/\v61 (Zh++[Spn.mk y15.1 y15.2]) (z6k+1)) (InI (z6k+1)/\v61 Zh (z6k+1))) (Ze [y10] Zh fun q0z=>Fits q0z->Cnd ((↑q0z.length:Int)=0) (InI (J8+1)/\v2e (J8+1)) (K false))) [] (0:Int)) (InI (J8+1)/\v2e (J8+1))) (InI (Qk+1)/\j6w (Qk+1))) (0:Int)) (InI (Qk+1)/\j6w (Qk+1))) (InI (Qk+1)/\j6w (Qk+1)))) (K true)) (0:Int)))) (0:Int)) fun z4q=>Zf (Envt.mk (Sett.mk after.1.1 after.1.2 after.1.3) after.2 after.3 after.4 after.5 after.6) l.1 fun Qd=>Cnd ((0:Int)<=Qd) (At after.5 Qd fun y2=>z4q y2.6) (z4q [])
def B0:Gy:=q4o V9 W1 Bz We
abbrev Hx:Type:=Envt->Envt->Int->(ByteArray->Int->Prop)->Prop
def q6b(Rk:Ra)(Q1:Ju)(Uw:W9)(Rl:U0)(q0v:Gy):Hx:=fun before after now K=>Rk now fun Qb=>Cnd (Qb=true) (Fits before.6->Lp1 (fun Qj j2v=>CAt before.6 Qj (fun y3=>Q1 (Envt.mk (Sett.mk after.1.1 after.1.2 after.1.3) after.2 after.3 after.4 after.5 after.6) y3.1 fun _ q6j=>Cnd (q6j=true) (Cnd (y3.5=2) (Cnd (before.1.1=after.1.1/\before.1.2=after.1.2/\before.1.3=after.1.3) (InI (Qj+1)/\j2v (Qj+1)) (K (B8 []) (25:Int))) (InI (Qj+1)/\j2v (Qj+1))) (InI (Qj+1)/\j2v (Qj+1))) (Fits before.6->Lp1 (fun Qk j6w=>CAt before.6 Qk (fun y5=>Q1 (Envt.mk (Sett.mk after.1.1 after.1.2 after.1.3) after.2 after.3 after.4 after.5 after.6) y5.1 fun Zj R9=>Cnd (R9=true) (Cnd (y5.5=2) (Uw (Envt.mk (Sett.mk before.1.1 before.1.2 before.1.3) before.2 before.3 before.4 before.5 before.6) (Envt.mk (Sett.mk after.1.1 after.1.2 after.1.3) after.2 after.3 after.4 after.5 after.6) (Exper.mk y5.1 y5.2 y5.3 y5.4 y5.5 y5.6 y5.7 (Ex.mk y5.8.1 y5.8.2 y5.8.3 y5.8.4 y5.8.5)) (Exper.mk Zj.1 Zj.2 Zj.3 Zj.4 Zj.5 Zj.6 Zj.7 (Ex.mk Zj.8.1 Zj.8.2 Zj.8.3 Zj.8.4 Zj.8.5)) fun Zx=>Cnd (Zx=true) (InI (Qk+1)/\j6w (Qk+1)) (K y5.1 (25:Int))) (InI (Qk+1)/\j6w (Qk+1))) (InI (Qk+1)/\j6w (Qk+1))) (Fits after.6->Lp1 (fun Zi v67=>CAt after.6 Zi (fun y7=>Cnd (y7.5=2) (Rl (Envt.mk (Sett.mk before.1.1 before.1.2 before.1.3) before.2 before.3 before.4 before.5 before.6) (Envt.mk (Sett.mk after.1.1 after.1.2 after.1.3) after.2 after.3 after.4 after.5 after.6) (Exper.mk y7.1 y7.2 y7.3 y7.4 y7.5 y7.6 y7.7 (Ex.mk y7.8.1 y7.8.2 y7.8.3 y7.8.4 y7.8.5)) now fun J8=>Cnd (J8=0) (InI (Zi+1)/\v67 (Zi+1)) (K y7.1 J8)) (InI (Zi+1)/\v67 (Zi+1))) (Fits before.5->Lp1 (fun Zx w81=>CAt before.5 Zx (fun y9=>q0v (Envt.mk (Sett.mk before.1.1 before.1.2 before.1.3) before.2 before.3 before.4 before.5 before.6) (Envt.mk (Sett.mk after.1.1 after.1.2 after.1.3) after.2 after.3 after.4 after.5 after.6) y9 now fun J2=>Cnd (J2=true) (InI (Zx+1)/\w81 (Zx+1)) (K y9.1 (28:Int))) (K (B8 []) (0:Int))) (0:Int))) (0:Int))) (0:Int))) (0:Int)) (K (B8 []) (3:Int))
def q1u:Hx:=q6b q2o W1 Uq Rb B0
abbrev Wu:Type:=Envt->ByteArray->(Exper->Bool->Prop)->Prop
def q8g(Qz:Jf):Wu:=fun v key K=>Qz (Envt.mk (Sett.mk v.1.1 v.1.2 v.1.3) v.2 v.3 v.4 v.5 v.6) key fun Qb=>Cnd (Qb<0) (K (Exper.mk (B8 []) (B8 []) (B8 []) (B8 []) (0:Int) [] [] (Ex.mk (0:Int) (B8 []) (B8 []) [] [])) false) (At v.6 Qb fun y1=>Cnd (y1.5=2) (At v.6 Qb fun y3=>K (Exper.mk y3.1 y3.2 y3.3 y3.4 y3.5 y3.6 y3.7 (Ex.mk y3.8.1 y3.8.2 y3.8.3 y3.8.4 y3.8.5)) true) (K (Exper.mk (B8 []) (B8 []) (B8 []) (B8 []) (0:Int) [] [] (Ex.mk (0:Int) (B8 []) (B8 []) [] [])) false))
def Us:Wu:=q8g Wg
abbrev B1:Type:=List (Rng)->List (Rng)->(Bool->Prop)->Prop
def B2:B1:=fun a b K=>Fits a->Fits b->Cnd ((↑a.length:Int)=(↑b.length:Int)) (Lp1 (fun Qj j2v=>Fits a->CAt a Qj (fun y4=>At b Qj fun y6=>Cnd (y4.1=y6.1/\y4.2=y6.2/\y4.3=y6.3) (InI (Qj+1)/\j2v (Qj+1)) (K false)) (K true)) (0:Int)) (K false)
abbrev q7c:Type:=Envt->Envt->Exper->Exper->(Int->Prop)->Prop
def z7k(q0w:B1)(Ww:Wt)(Zs:W7)(Qg:Zg)(Z5:Uf)(Uc:V2):q7c:=fun before after x y K=>Cnd (x.2=y.2) (Cnd (x.3=y.3) (Cnd (x.4=y.4) (q0w x.7 y.7 fun Qb=>Cnd (Qb=true) (Ww (Ex.mk x.8.1 x.8.2 x.8.3 x.8.4 x.8.5) (Ex.mk y.8.1 y.8.2 y.8.3 y.8.4 y.8.5) fun Qd=>Cnd (Qd=true) (Zs x.6 y.6 fun Qj=>Fits Qj->Cnd ((0:Int)<(↑Qj.length:Int)) (K (25:Int)) (Qg (Envt.mk (Sett.mk before.1.1 before.1.2 before.1.3) before.2 before.3 before.4 before.5 before.6) x.2 fun Qk=>Qg (Envt.mk (Sett.mk after.1.1 after.1.2 after.1.3) after.2 after.3 after.4 after.5 after.6) x.2 fun Qo=>Cnd (Qk<0) (K (25:Int)) (Cnd (Qo<0) (K (25:Int)) (At before.5 Qk fun y6=>At after.5 Qo fun y8=>Cnd (y6.2=y8.2) (At before.5 Qk fun y10=>At after.5 Qo fun y12=>Cnd (y10.3=y12.3) (Z5 (Envt.mk (Sett.mk before.1.1 before.1.2 before.1.3) before.2 before.3 before.4 before.5 before.6) x.3 fun Zh=>Z5 (Envt.mk (Sett.mk after.1.1 after.1.2 after.1.3) after.2 after.3 after.4 after.5 after.6) x.3 fun q0z=>Cnd (Zh<0) (K (25:Int)) (Cnd (q0z<0) (K (25:Int)) (At before.4 Zh fun y16=>At after.4 q0z fun y18=>Cnd (y16.2=y18.2) (At before.4 Zh fun y20=>At after.4 q0z fun y22=>Uc y20.3 y22.3 fun Zm=>Cnd (Zm=true) (K (0:Int)) (K (25:Int))) (K (25:Int))))) (K (25:Int))) (K (25:Int)))))) (K (25:Int))) (K (25:Int))) (K (25:Int))) (K (25:Int))) (K (25:Int))
def z2a:q7c:=z7k B2 Uk Vt Zw Gu W4
abbrev q2b:Type:=List (Spn)->(List (Spn)->Prop)->Prop
def z0m(Qs:J4)(Qx:Jx):q2b:=fun l K=>Qs l fun Qb=>Qx Qb fun Qd=>K Qd
def q5n:q2b:=z0m V5 W6
abbrev q4p:Type:=Envt->Envt->Exper->Int->(Int->Prop)->Prop
def z37(Qz:Jf)(q2i:q2b)(Qg:Zg)(Qp:Ji)(Wq:Rn)(Z6:Vi)(Zq:Wu)(Zs:W7):q4p:=fun before after y now K=>Qz (Envt.mk (Sett.mk before.1.1 before.1.2 before.1.3) before.2 before.3 before.4 before.5 before.6) y.1 fun Qb=>Cnd ((0:Int)<=Qb) (At before.6 Qb fun y1=>Cnd (y1.5=3) (K (25:Int)) (q2i y.6 fun Qf=>Jn1 (fun Qk=>[Envt.mk (Sett.mk before.1.1 before.1.2 before.1.3) before.2 before.3 before.4 before.5 before.6,Envt.mk (Sett.mk after.1.1 after.1.2 after.1.3) after.2 after.3 after.4 after.5 after.6].length<=(9223372036854775807:Nat)->Lp3 (fun Zi q5y w5d v4u=>Cnd (Zi<(↑[Envt.mk (Sett.mk before.1.1 before.1.2 before.1.3) before.2 before.3 before.4 before.5 before.6,Envt.mk (Sett.mk after.1.1 after.1.2 after.1.3) after.2 after.3 after.4 after.5 after.6].length:Int)) (At q5y Zi fun y7=>Qg (Envt.mk (Sett.mk y7.1.1 y7.1.2 y7.1.3) y7.2 y7.3 y7.4 y7.5 y7.6) y.2 fun J8=>Cnd ((0:Int)<=J8) (At y7.5 J8 fun y10=>Qp y10.6 now fun Qw=>Wq Qw now fun Qi=>Z6 w5d Qi fun Zh=>Fits Zh->Cnd ((0:Int)<(↑Zh.length:Int)) (K (14:Int)) (InI (Zi+1)/\v4u (Zi+1) q5y w5d)) (InI (Zi+1)/\v4u (Zi+1) q5y w5d)) (K (0:Int))) (0:Int) [Envt.mk (Sett.mk before.1.1 before.1.2 before.1.3) before.2 before.3 before.4 before.5 before.6,Envt.mk (Sett.mk after.1.1 after.1.2 after.1.3) after.2 after.3 after.4 after.5 after.6] Qk) fun v88=>Zq (Envt.mk (Sett.mk before.1.1 before.1.2 before.1.3) before.2 before.3 before.4 before.5 before.6) y.1 fun Qo q6j=>Cnd (q6j=true) (Zs y.6 Qo.6 fun Zi=>v88 Zi) (v88 Qf))) (q2i y.6 fun Qd=>Jn1 (fun Qj=>[Envt.mk (Sett.mk before.1.1 before.1.2 before.1.3) before.2 before.3 before.4 before.5 before.6,Envt.mk (Sett.mk after.1.1 after.1.2 after.1.3) after.2 after.3 after.4 after.5 after.6].length<=(9223372036854775807:Nat)->Lp3 (fun Qk Jv z6n w8z=>Cnd (Qk<(↑[Envt.mk (Sett.mk before.1.1 before.1.2 before.1.3) before.2 before.3 before.4 before.5 before.6,Envt.mk (Sett.mk after.1.1 after.1.2 after.1.3) after.2 after.3 after.4 after.5 after.6].length:Int)) (At Jv Qk fun y5=>Qg (Envt.mk (Sett.mk y5.1.1 y5.1.2 y5.1.3) y5.2 y5.3 y5.4 y5.5 y5.6) y.2 fun Zj=>Cnd ((0:Int)<=Zj) (At y5.5 Zj fun y8=>Qp y8.6 now fun Z1=>Wq Z1 now fun J2=>Z6 z6n J2 fun Qw=>Fits Qw->Cnd ((0:Int)<(↑Qw.length:Int)) (K (14:Int)) (InI (Qk+1)/\w8z (Qk+1) Jv z6n)) (InI (Qk+1)/\w8z (Qk+1) Jv z6n)) (K (0:Int))) (0:Int) [Envt.mk (Sett.mk before.1.1 before.1.2 before.1.3) before.2 before.3 before.4 before.5 before.6,Envt.mk (Sett.mk after.1.1 after.1.2 after.1.3) after.2 after.3 after.4 after.5 after.6] Qj) fun j6r=>Zq (Envt.mk (Sett.mk before.1.1 before.1.2 before.1.3) before.2 before.3 before.4 before.5 before.6) y.1 fun Qf Jw=>Cnd (Jw=true) (Zs y.6 Qf.6 fun Qk=>j6r Qk) (j6r Qd))
def q8h:q4p:=z37 Wg q5n Zw Z3 Un Wx Us Vt
abbrev q2c:Type:=Envt->Envt->Lay_->Int->(Int->Prop)->Prop
def z0n(Qp:Ji)(Zq:Wu)(Qs:J4)(q0s:q68)(Qg:Zg):q2c:=fun before after l now K=>Jn1 (fun Qb=>Qp l.6 now fun Qd=>Lp1 (fun Qj j2v=>Fits Qd->Cnd (Qj<(↑Qd.length:Int)) (At Qb Qj fun y4=>At Qd Qj fun y6=>Cnd (y4<y6) (K (28:Int)) (InI (Qj+1)/\j2v (Qj+1))) (Lp1 (fun Qk j6w=>Fits before.6->Cnd (Qk<(↑before.6.length:Int)) (Cnd ((0:Int)<l.5) (At before.6 Qk fun y6=>Zq (Envt.mk (Sett.mk after.1.1 after.1.2 after.1.3) after.2 after.3 after.4 after.5 after.6) y6.1 fun _ z27=>Cnd (z27=true) (InI (Qk+1)/\j6w (Qk+1)) (Cnd (y6.5=2) (Cnd (y6.2=l.1) (Qs y6.6 fun J8=>Lp1 (fun Z1 v62=>Fits J8->CAt J8 Z1 (fun y12=>Cnd (y12=true) (At Qb Z1 fun y14=>q0s now l.5 fun Zt=>Cnd (y14<Zt) (K (28:Int)) (InI (Z1+1)/\v62 (Z1+1))) (InI (Z1+1)/\v62 (Z1+1))) (InI (Qk+1)/\j6w (Qk+1))) (0:Int)) (InI (Qk+1)/\j6w (Qk+1))) (InI (Qk+1)/\j6w (Qk+1)))) (K (0:Int))) (K (0:Int))) (0:Int))) (0:Int)) fun z4q=>Qg (Envt.mk (Sett.mk after.1.1 after.1.2 after.1.3) after.2 after.3 after.4 after.5 after.6) l.1 fun Qd=>Cnd ((0:Int)<=Qd) (At after.5 Qd fun y2=>Qp y2.6 now fun Qk=>z4q Qk) (Qp [] now fun Qj=>z4q Qj)
def q5o:q2c:=z0n Z3 Us V5 z0h Zw
abbrev q7d:Type:=Envt->Envt->Int->(ByteArray->Int->Prop)->Prop
def z7l(Wh:Rz)(Zq:Wu)(z2x:q7c)(q9f:q4p)(q54:q2c):q7d:=fun before after now K=>Wh now fun Qb=>Cnd (Qb=true) (Lp1 (fun Qd q1z=>Fits before.6->CAt before.6 Qd (fun y3=>Zq (Envt.mk (Sett.mk after.1.1 after.1.2 after.1.3) after.2 after.3 after.4 after.5 after.6) y3.1 fun _ q6j=>Cnd (q6j=true) (At before.6 Qd fun y6=>Cnd (y6.5=2) (Cnd (before.1.1=after.1.1/\before.1.2=after.1.2/\before.1.3=after.1.3) (InI (Qd+1)/\q1z (Qd+1)) (K (B8 []) (25:Int))) (InI (Qd+1)/\q1z (Qd+1))) (InI (Qd+1)/\q1z (Qd+1))) (Lp1 (fun Qf j6v=>Fits before.6->CAt before.6 Qf (fun y5=>Zq (Envt.mk (Sett.mk after.1.1 after.1.2 after.1.3) after.2 after.3 after.4 after.5 after.6) y5.1 fun Zj R9=>Cnd (R9=true) (Cnd (y5.5=2) (z2x (Envt.mk (Sett.mk before.1.1 before.1.2 before.1.3) before.2 before.3 before.4 before.5 before.6) (Envt.mk (Sett.mk after.1.1 after.1.2 after.1.3) after.2 after.3 after.4 after.5 after.6) (Exper.mk y5.1 y5.2 y5.3 y5.4 y5.5 y5.6 y5.7 (Ex.mk y5.8.1 y5.8.2 y5.8.3 y5.8.4 y5.8.5)) (Exper.mk Zj.1 Zj.2 Zj.3 Zj.4 Zj.5 Zj.6 Zj.7 (Ex.mk Zj.8.1 Zj.8.2 Zj.8.3 Zj.8.4 Zj.8.5)) fun Zx=>Cnd (Zx=0) (InI (Qf+1)/\j6v (Qf+1)) (K y5.1 Zx)) (InI (Qf+1)/\j6v (Qf+1))) (InI (Qf+1)/\j6v (Qf+1))) (Lp1 (fun Qo w5b=>Fits after.6->CAt after.6 Qo (fun y7=>Cnd (y7.5=2) (q9f (Envt.mk (Sett.mk before.1.1 before.1.2 before.1.3) before.2 before.3 before.4 before.5 before.6) (Envt.mk (Sett.mk after.1.1 after.1.2 after.1.3) after.2 after.3 after.4 after.5 after.6) (Exper.mk y7.1 y7.2 y7.3 y7.4 y7.5 y7.6 y7.7 (Ex.mk y7.8.1 y7.8.2 y7.8.3 y7.8.4 y7.8.5)) now fun J8=>Cnd (J8=0) (InI (Qo+1)/\w5b (Qo+1)) (K y7.1 J8)) (InI (Qo+1)/\w5b (Qo+1))) (Lp1 (fun Zj v6p=>Fits before.5->CAt before.5 Zj (fun y9=>q54 (Envt.mk (Sett.mk before.1.1 before.1.2 before.1.3) before.2 before.3 before.4 before.5 before.6) (Envt.mk (Sett.mk after.1.1 after.1.2 after.1.3) after.2 after.3 after.4 after.5 after.6) y9 now fun J2=>Cnd (J2=0) (InI (Zj+1)/\v6p (Zj+1)) (At before.5 Zj fun y12=>K y12.1 J2)) (K (B8 []) (0:Int))) (0:Int))) (0:Int))) (0:Int))) (0:Int)) (K (B8 []) (3:Int))
def z2b:q7d:=z7l R0 Us z2a q8h q5o
abbrev Hr:Type:=List (Int)->Int->(Bool->Prop)->Prop
def Hs(q3s:Bf)(j6t:j5b)(j6u:j5d)(q0x:Gw)(j0b:z5o)(z2y:q7a)(z6m:z0k)(Z8:Wn)(q12:Hx)(z2z:q7d):Hr:=fun codes now K=>q3s fun Qb=>Cnd (Qb=true) (j6t codes (450:Int) fun Qd Q5=>j6u now (220:Int) fun Qj=>q0x Qd Q5 Qj fun Qf Jw=>j0b Qd Jw (Envt.mk (Sett.mk Qf.1.1 Qf.1.2 Qf.1.3) Qf.2 Qf.3 Qf.4 Qf.5 Qf.6) Qj fun Qk Jv=>z2y Qd Jv (Envt.mk (Sett.mk Qk.1.1 Qk.1.2 Qk.1.3) Qk.2 Qk.3 Qk.4 Qk.5 Qk.6) Qj fun Qo q6j=>z6m Qd q6j (Envt.mk (Sett.mk Qf.1.1 Qf.1.2 Qf.1.3) Qf.2 Qf.3 Qf.4 Qf.5 Qf.6) fun Zi _=>[Env2.mk (Envt.mk (Sett.mk Qf.1.1 Qf.1.2 Qf.1.3) Qf.2 Qf.3 Qf.4 Qf.5 Qf.6) (Envt.mk (Sett.mk Qk.1.1 Qk.1.2 Qk.1.3) Qk.2 Qk.3 Qk.4 Qk.5 Qk.6),Env2.mk (Envt.mk (Sett.mk Qf.1.1 Qf.1.2 Qf.1.3) Qf.2 Qf.3 Qf.4 Qf.5 Qf.6) (Envt.mk (Sett.mk Qo.1.1 Qo.1.2 Qo.1.3) Qo.2 Qo.3 Qo.4 Qo.5 Qo.6),Env2.mk (Envt.mk (Sett.mk Qo.1.1 Qo.1.2 Qo.1.3) Qo.2 Qo.3 Qo.4 Qo.5 Qo.6) (Envt.mk (Sett.mk Qf.1.1 Qf.1.2 Qf.1.3) Qf.2 Qf.3 Qf.4 Qf.5 Qf.6),Env2.mk (Envt.mk (Sett.mk Qk.1.1 Qk.1.2 Qk.1.3) Qk.2 Qk.3 Qk.4 Qk.5 Qk.6) (Envt.mk (Sett.mk Qo.1.1 Qo.1.2 Qo.1.3) Qo.2 Qo.3 Qo.4 Qo.5 Qo.6),Env2.mk (Envt.mk (Sett.mk Qf.1.1 Qf.1.2 Qf.1.3) Qf.2 Qf.3 Qf.4 Qf.5 Qf.6) (Envt.mk (Sett.mk Zi.1.1 Zi.1.2 Zi.1.3) Zi.2 Zi.3 Zi.4 Zi.5 Zi.6)].length<=(9223372036854775807:Nat)->Lp1 (fun Zx w81=>Cnd (Zx<(↑[Env2.mk (Envt.mk (Sett.mk Qf.1.1 Qf.1.2 Qf.1.3) Qf.2 Qf.3 Qf.4 Qf.5 Qf.6) (Envt.mk (Sett.mk Qk.1.1 Qk.1.2 Qk.1.3) Qk.2 Qk.3 Qk.4 Qk.5 Qk.6),Env2.mk (Envt.mk (Sett.mk Qf.1.1 Qf.1.2 Qf.1.3) Qf.2 Qf.3 Qf.4 Qf.5 Qf.6) (Envt.mk (Sett.mk Qo.1.1 Qo.1.2 Qo.1.3) Qo.2 Qo.3 Qo.4 Qo.5 Qo.6),Env2.mk (Envt.mk (Sett.mk Qo.1.1 Qo.1.2 Qo.1.3) Qo.2 Qo.3 Qo.4 Qo.5 Qo.6) (Envt.mk (Sett.mk Qf.1.1 Qf.1.2 Qf.1.3) Qf.2 Qf.3 Qf.4 Qf.5 Qf.6),Env2.mk (Envt.mk (Sett.mk Qk.1.1 Qk.1.2 Qk.1.3) Qk.2 Qk.3 Qk.4 Qk.5 Qk.6) (Envt.mk (Sett.mk Qo.1.1 Qo.1.2 Qo.1.3) Qo.2 Qo.3 Qo.4 Qo.5 Qo.6),Env2.mk (Envt.mk (Sett.mk Qf.1.1 Qf.1.2 Qf.1.3) Qf.2 Qf.3 Qf.4 Qf.5 Qf.6) (Envt.mk (Sett.mk Zi.1.1 Zi.1.2 Zi.1.3) Zi.2 Zi.3 Zi.4 Zi.5 Zi.6)].length:Int)) (((0:Int)<=Zx/\Zx<(↑[Env2.mk (Envt.mk (Sett.mk Qf.1.1 Qf.1.2 Qf.1.3) Qf.2 Qf.3 Qf.4 Qf.5 Qf.6) (Envt.mk (Sett.mk Qk.1.1 Qk.1.2 Qk.1.3) Qk.2 Qk.3 Qk.4 Qk.5 Qk.6),Env2.mk (Envt.mk (Sett.mk Qf.1.1 Qf.1.2 Qf.1.3) Qf.2 Qf.3 Qf.4 Qf.5 Qf.6) (Envt.mk (Sett.mk Qo.1.1 Qo.1.2 Qo.1.3) Qo.2 Qo.3 Qo.4 Qo.5 Qo.6),Env2.mk (Envt.mk (Sett.mk Qo.1.1 Qo.1.2 Qo.1.3) Qo.2 Qo.3 Qo.4 Qo.5 Qo.6) (Envt.mk (Sett.mk Qf.1.1 Qf.1.2 Qf.1.3) Qf.2 Qf.3 Qf.4 Qf.5 Qf.6),Env2.mk (Envt.mk (Sett.mk Qk.1.1 Qk.1.2 Qk.1.3) Qk.2 Qk.3 Qk.4 Qk.5 Qk.6) (Envt.mk (Sett.mk Qo.1.1 Qo.1.2 Qo.1.3) Qo.2 Qo.3 Qo.4 Qo.5 Qo.6),Env2.mk (Envt.mk (Sett.mk Qf.1.1 Qf.1.2 Qf.1.3) Qf.2 Qf.3 Qf.4 Qf.5 Qf.6) (Envt.mk (Sett.mk Zi.1.1 Zi.1.2 Zi.1.3) Zi.2 Zi.3 Zi.4 Zi.5 Zi.6)].length:Int))/\ ∀y9,[Env2.mk (Envt.mk (Sett.mk Qf.1.1 Qf.1.2 Qf.1.3) Qf.2 Qf.3 Qf.4 Qf.5 Qf.6) (Envt.mk (Sett.mk Qk.1.1 Qk.1.2 Qk.1.3) Qk.2 Qk.3 Qk.4 Qk.5 Qk.6),Env2.mk (Envt.mk (Sett.mk Qf.1.1 Qf.1.2 Qf.1.3) Qf.2 Qf.3 Qf.4 Qf.5 Qf.6) (Envt.mk (Sett.mk Qo.1.1 Qo.1.2 Qo.1.3) Qo.2 Qo.3 Qo.4 Qo.5 Qo.6),Env2.mk (Envt.mk (Sett.mk Qo.1.1 Qo.1.2 Qo.1.3) Qo.2 Qo.3 Qo.4 Qo.5 Qo.6) (Envt.mk (Sett.mk Qf.1.1 Qf.1.2 Qf.1.3) Qf.2 Qf.3 Qf.4 Qf.5 Qf.6),Env2.mk (Envt.mk (Sett.mk Qk.1.1 Qk.1.2 Qk.1.3) Qk.2 Qk.3 Qk.4 Qk.5 Qk.6) (Envt.mk (Sett.mk Qo.1.1 Qo.1.2 Qo.1.3) Qo.2 Qo.3 Qo.4 Qo.5 Qo.6),Env2.mk (Envt.mk (Sett.mk Qf.1.1 Qf.1.2 Qf.1.3) Qf.2 Qf.3 Qf.4 Qf.5 Qf.6) (Envt.mk (Sett.mk Zi.1.1 Zi.1.2 Zi.1.3) Zi.2 Zi.3 Zi.4 Zi.5 Zi.6)][Zx.toNat]? =some y9->Z8 (Envt.mk (Sett.mk y9.1.1.1 y9.1.1.2 y9.1.1.3) y9.1.2 y9.1.3 y9.1.4 y9.1.5 y9.1.6) fun J2=>Cnd (J2=0) (Z8 (Envt.mk (Sett.mk y9.2.1.1 y9.2.1.2 y9.2.1.3) y9.2.2 y9.2.3 y9.2.4 y9.2.5 y9.2.6) fun Qw=>Cnd (Qw=0) (InI (Qj+60)/\([Qj,now,Qj+60,(1099511627776:Int)].length<=(9223372036854775807:Nat)->Lp1 (fun Zh v1g=>Cnd (Zh<(↑[Qj,now,Qj+60,(1099511627776:Int)].length:Int)) (((0:Int)<=Zh/\Zh<(↑[Qj,now,Qj+60,(1099511627776:Int)].length:Int))/\ ∀y15,[Qj,now,Qj+60,(1099511627776:Int)][Zh.toNat]? =some y15->q12 (Envt.mk (Sett.mk y9.1.1.1 y9.1.1.2 y9.1.1.3) y9.1.2 y9.1.3 y9.1.4 y9.1.5 y9.1.6) (Envt.mk (Sett.mk y9.2.1.1 y9.2.1.2 y9.2.1.3) y9.2.2 y9.2.3 y9.2.4 y9.2.5 y9.2.6) y15 fun G1 j6s=>z2z (Envt.mk (Sett.mk y9.1.1.1 y9.1.1.2 y9.1.1.3) y9.1.2 y9.1.3 y9.1.4 y9.1.5 y9.1.6) (Envt.mk (Sett.mk y9.2.1.1 y9.2.1.2 y9.2.1.3) y9.2.2 y9.2.3 y9.2.4 y9.2.5 y9.2.6) y15 fun Qh z9q=>Cnd (G1=Qh) (Cnd (j6s=z9q) (InI (Zh+1)/\v1g (Zh+1)) (K false)) (K false)) (InI (Zx+1)/\w81 (Zx+1))) (0:Int))) (InI (Zx+1)/\w81 (Zx+1))) (InI (Zx+1)/\w81 (Zx+1))) (K true)) (0:Int)) (K false)
def Je:Hr:=Hs q27 j5c j5e Bw z90 z18 z5t Wo q1u z2b
end Go.En
end
noncomputable section
set_option maxRecDepth 100000
namespace Go.Proofs
open Go.Shelf
def Tryz.lays196_ren:Go.Shelf.Ren:=⟨fun|196=>123|259=>160|n=>n,fun|9=>9|4=>4|3=>3|5=>5|12=>12|119=>219|0=>0|46=>223|139=>222|138=>221|53=>236|n=>n,fun|3=>3|4=>4|n=>n⟩
theorem Tryz.lays196:Go.Proofs.Lays.n196 Tryz.prog Tryz.lays196_ren:={
 mixed:=by kernel_rfl
 f196:=Tryz.func123.trans (congrArg some (by kernel_rfl))
 f259:=Tryz.func160.trans (congrArg some (by kernel_rfl))
 t0:=Tryz.underlying0
 a0:=Tryz.isAgg0
 z0:=Tryz.sizeOf0
 v0:=Tryz.zeroValue0
 t3:=Tryz.underlying3
 a3:=Tryz.isAgg3
 z3:=Tryz.sizeOf3
 v3:=Tryz.zeroValue3
 t4:=Tryz.underlying4
 a4:=Tryz.isAgg4
 z4:=Tryz.sizeOf4
 v4:=Tryz.zeroValue4
 t5:=Tryz.underlying5
 a5:=Tryz.isAgg5
 z5:=Tryz.sizeOf5
 v5:=Tryz.zeroValue5
 t9:=Tryz.underlying9
 a9:=Tryz.isAgg9
 z9:=Tryz.sizeOf9
 v9:=Tryz.zeroValue9
 t12:=Tryz.underlying12
 a12:=Tryz.isAgg12
 z12:=Tryz.sizeOf12
 v12:=Tryz.zeroValue12
 t46:=Tryz.underlying223
 a46:=Tryz.isAgg223
 z46:=Tryz.sizeOf223
 v46:=Tryz.zeroValue223
 t53:=Tryz.underlying236
 a53:=Tryz.isAgg236
 z53:=Tryz.sizeOf236
 v53:=Tryz.zeroValue236
 t119:=Tryz.underlying219
 a119:=Tryz.isAgg219
 z119:=Tryz.sizeOf219
 t138:=Tryz.underlying221
 a138:=Tryz.isAgg221
 z138:=Tryz.sizeOf221
 v138:=Tryz.zeroValue221
 t139:=Tryz.underlying222
 a139:=Tryz.isAgg222
 z139:=Tryz.sizeOf222
 v139:=Tryz.zeroValue222
 g3:=by kernel_rfl
 g4:=by kernel_rfl}
end Go.Proofs
end
noncomputable section
set_option maxRecDepth 100000
namespace Go.Proofs.YtdaibboenkgpaaaGreatDoor
open Go Go.Proofs Go.RowKit Go.Fl
theorem _root_.Go.Fl.St.freezeM{c:Cx}{w:World}{σ:Hv}{ms ms':List HObj}(h:St c w σ ms){i:Nat}{o:HObj}(hi:ms[i]? =some o){j:Nat}{o2:HObj}(_:ms[j]? =some o2)(_:j≠i)(_:c.M=o2.foot.toList)
  (hms:ms.eraseIdx i=ms'): ∃σ1,St c w σ1 ms'/\Go.Fl.Sub σ σ1/\ ∀k,o.foot=some k->σ1 k=w.heap[k]? :=h.freeze' hi hms
theorem _root_.Go.Fl.St.freeze{c:Cx}{w:World}{σ:Hv}{ms ms':List HObj}(h:St c w σ ms){i:Nat}{o:HObj}(hi:ms[i]? =some o)(_:c.M=[])
  (hms:ms.eraseIdx i=ms'): ∃σ1,St c w σ1 ms'/\Go.Fl.Sub σ σ1/\ ∀k,o.foot=some k->σ1 k=w.heap[k]? :=h.freeze' hi hms
theorem j97:j9e zB 10000 (j3v Tryz.t113.zero)=true:=by kernel_rfl
theorem v77:j9e zI 10001 (j3v Tryz.t170.zero)=true:=by kernel_rfl
theorem c_of{σ:Hv}{w:World}(v:Value)(ls:List (List (Int×Int)))(hV:View σ w)(hv:RSl 1 (RSs 2 (REnc q0y)) σ v ls)(hn:ls.flatten.length<=1152921504606846976):
  Calls Tryz.prog 56 #[v] w fun e w1=>e= .returned (.agg (brow 10000 (Sp.cov ls.flatten)).toArray)/\Grow [] σ w σ w1:=by
 refine enter Tryz.func56 rfl rfl rfl ?_
 obtain⟨a,cap,rfl,h1,h2,hel⟩:=hv
 have hS:=St.start hV
 refine Za ?_
 refine q7p (cs:=brow 10000 (fun i=>false)) hS (q49 Tryz.type113 (q23 j9f j97) (by omega)) (by simp[Value.cells,q30]) ?_
 intro b1 w1 hS1
 refine wpList_nil ?_
 refine Qt ?_
 refine Za ?_
 refine q7p (cs:=irow 10001 (fun i=>0)) hS1 (q49 Tryz.type170 (q23 v7c v77) (by omega)) (by simp[Value.cells,w5k]) ?_
 intro b2 w2 hS2
 refine wpList_nil ?_
 refine Qt ?_
 refine wp_seq ?_
 refine Za ?_
 refine Zb (v:=(.slice a ls.length cap)) rfl ?_
 refine z3o rfl Tryz.underlying169 ?_
 refine Zb (v:=(.int .i64 (0:Int))) rfl ?_
 refine wpList_nil ?_
 refine Qt ?_
 refine wp_block ?_
 refine loop (fun m f z=> ∃(k1:Nat) (g:Fr),m=ls.length - k1/\f=(upd (upd (upd (upd (upd g 2 (.pointer (some ⟨b1,0,none⟩))) 3 (.pointer (some ⟨b2,0,none⟩))) 13 (.slice a ls.length cap)) 14 (.int .i64 ((ls.length:Nat):Int))) 15 (.int .i64 ((k1:Nat):Int)))/\St ⟨w,σ,[]⟩ z σ [blk b2 170 (irow 10001 (Sp.dep ((ls.take k1).flatten))),blk b1 113 (brow 10000 (fun i=>false))]/\(k1<=ls.length)) (m0:=_) ⟨0,_,rfl,(Q8 rfl (Q8 rfl (Q8 rfl (Q8 rfl (Q8 rfl rfl))))),hS2,(Nat.zero_le _)⟩ ?_
 rintro _ _ w3 ⟨k1,g,rfl,rfl,hS3,hk1⟩
 refine Za ?_
 refine w25 (r:=(decide (((k1:Nat):Int)<((ls.length:Nat):Int)))) rfl rfl rfl ?_
 refine wpList_nil ?_
 refine Qt ?_
 refine wp_seq ?_
 refine if_d (((k1:Nat):Int)<((ls.length:Nat):Int)) rfl (fun ht1=> ?_) (fun ht1=> ?_)
 ·refine wp_skip ?_
  refine Qt ?_
  refine wp_seq ?_
  refine wp_block ?_
  refine Za ?_
  obtain⟨x1,hx1⟩:=getq (l:=ls) (k:=k1) (by omega)
  obtain⟨ad1,cs1,ha1,hl1,hr1,hR1⟩:=hel k1 _ hx1
  obtain⟨v1,rfl,a1,cap1,rfl,h2,h3,hel1⟩:=hR1
  refine q22 (k:=k1) (a':=(ad1.add (k1*1))) (congrArg (fun z=>Value.slice z _ _) ha1) rfl (by omega) (Qe hx1) Tryz.underlying169 Tryz.sizeOf47 rfl ?_
  refine q9g (v:=(.slice a1 x1.length cap1)) rfl Tryz.isAgg47 (hr1.cell hS3.view 0 rfl rfl) ?_
  refine Zn (v:=(.slice a1 x1.length cap1)) rfl ?_
  refine wpList_nil ?_
  refine Qt ?_
  refine Za ?_
  refine Zb (v:=(.slice a1 x1.length cap1)) rfl ?_
  refine z3o rfl Tryz.underlying47 ?_
  refine Zb (v:=(.int .i64 (0:Int))) rfl ?_
  refine wpList_nil ?_
  refine Qt ?_
  refine wp_block ?_
  refine loop (fun m f z=> ∃(k2:Nat) (g:Fr),m=x1.length - k2/\f=(upd (upd (upd (upd (upd (upd (upd (upd g 2 (.pointer (some ⟨b1,0,none⟩))) 3 (.pointer (some ⟨b2,0,none⟩))) 13 (.slice a ls.length cap)) 14 (.int .i64 ((ls.length:Nat):Int))) 15 (.int .i64 ((k1:Nat):Int))) 19 (.slice a1 x1.length cap1)) 20 (.int .i64 ((x1.length:Nat):Int))) 21 (.int .i64 ((k2:Nat):Int)))/\St ⟨w,σ,[]⟩ z σ [blk b2 170 (irow 10001 (Sp.dep ((ls.take k1).flatten++x1.take k2))),blk b1 113 (brow 10000 (fun i=>false))]/\(k2<=x1.length)) (m0:=_) ⟨0,_,rfl,(Q8 rfl (Q8 rfl (Q8 rfl (Q8 rfl (Q8 rfl (Q8 rfl (Q8 rfl (Q8 rfl rfl)))))))),(by rw[List.take_zero,List.append_nil];exact hS3),(Nat.zero_le _)⟩ ?_
  rintro _ _ w4 ⟨k2,g,rfl,rfl,hS4,hk2⟩
  refine Za ?_
  refine w25 (r:=(decide (((k2:Nat):Int)<((x1.length:Nat):Int)))) rfl rfl rfl ?_
  refine wpList_nil ?_
  refine Qt ?_
  refine wp_seq ?_
  refine if_d (((k2:Nat):Int)<((x1.length:Nat):Int)) rfl (fun ht2=> ?_) (fun ht2=> ?_)
  ·refine wp_skip ?_
   refine Qt ?_
   refine wp_seq ?_
   refine wp_block ?_
   refine Za ?_
   obtain⟨x2,hx2⟩:=getq (l:=x1) (k:=k2) (by omega)
   obtain⟨ad2,cs2,ha2,hl2,hr2,hR2⟩:=hel1 k2 _ hx2
   cases hR2
   refine q22 (k:=k2) (a':=(ad2.add (k2*2))) (congrArg (fun z=>Value.slice z _ _) ha2) rfl (by omega) (Qe hx2) Tryz.underlying47 Tryz.sizeOf50 rfl ?_
   refine w5f (cs:=[(.int .i64 x2.1),(.int .i64 x2.2)]) rfl Tryz.isAgg50 Tryz.sizeOf50 rfl (hr2.row hS4.view) ?_
   refine q7p (cs:=[(.int .i64 (0:Int)),(.int .i64 (0:Int))]) hS4 Tryz.zeroValue50 rfl ?_
   intro b3 w5 hS5
   refine q56 (T:=50) (vs:=[(.int .i64 x2.1),(.int .i64 x2.2)]) (cs':=[(.int .i64 x2.1),(.int .i64 x2.2)]) (ms':=[blk b3 50 [(.int .i64 x2.1),(.int .i64 x2.2)],blk b2 170 (irow 10001 (Sp.dep ((ls.take k1).flatten++x1.take k2))),blk b1 113 (brow 10000 (fun i=>false))]) (i:=0) hS5 rfl rfl rfl Tryz.sizeOf50 rfl (ones rfl) rfl (Nat.le_of_ble_eq_true rfl) rfl rfl ?_
   intro w6 hS6
   refine wpList_nil ?_
   refine Qt ?_
   refine wp_seq ?_
   refine v7f (fun z=>St ⟨w,σ,[]⟩ z σ [blk b3 50 [(.int .i64 x2.1),(.int .i64 x2.2)],blk b2 170 (irow 10001 (Sp.dep ((ls.take k1).flatten++x1.take k2))),blk b1 113 (brow 10000 (fun i=>false))]) (by kernel_rfl) rfl rfl ?_
   have hS7:=hS6.drew
   refine z4s (i:=0) (v:=(.pointer (some ⟨b3,0,none⟩))) (l':= #[true,false,false,false,false,false,false,false]) rfl (by kernel_rfl) (by kernel_rfl) (by kernel_rfl) rfl rfl (fun _ _ _ h=>h) hS7 (fun w hJ K hK=> ?_) ?_
   ·refine j4v (a':=⟨b3,0,none⟩) rfl Tryz.underlying50 rfl Tryz.sizeOf3 rfl ?_
    exact⟨rfl,hK⟩
   refine z4s (i:=1) (v:=(.int .i64 x2.1)) (l':= #[true,true,false,false,false,false,false,false]) rfl (by kernel_rfl) (by kernel_rfl) (by kernel_rfl) rfl rfl (fun _ _ _ h=>h) hS7 (fun w hJ K hK=> ?_) ?_
   ·refine q9g (v:=(.int .i64 x2.1)) rfl Tryz.isAgg3 (hJ.cell (i:=0) rfl rfl) ?_
    exact⟨rfl,hK⟩
   refine z4s (i:=2) (v:=(.int .i64 (max x2.1 (0:Int)))) (l':= #[true,true,true,false,false,false,false,false]) rfl (by kernel_rfl) (by kernel_rfl) (by kernel_rfl) rfl rfl (fun _ _ _ h=>h) hS7 (fun w hJ K hK=> ?_) ?_
   ·refine v69 (r:=(max x2.1 (0:Int))) rfl rfl rfl ?_
    exact⟨rfl,hK⟩
   refine z4s (i:=3) (v:=(.pointer (some ⟨b3,1,none⟩))) (l':= #[true,true,true,true,false,false,false,false]) rfl (by kernel_rfl) (by kernel_rfl) (by kernel_rfl) rfl rfl (fun _ _ _ h=>h) hS7 (fun w hJ K hK=> ?_) ?_
   ·refine j4v (a':=⟨b3,1,none⟩) rfl Tryz.underlying50 rfl Tryz.sizeOf3 rfl ?_
    exact⟨rfl,hK⟩
   refine z4s (i:=4) (v:=(.int .i64 x2.2)) (l':= #[true,true,true,true,true,false,false,false]) rfl (by kernel_rfl) (by kernel_rfl) (by kernel_rfl) rfl rfl (fun _ _ _ h=>h) hS7 (fun w hJ K hK=> ?_) ?_
   ·refine q9g (v:=(.int .i64 x2.2)) rfl Tryz.isAgg3 (hJ.cell (i:=0) rfl rfl) ?_
    exact⟨rfl,hK⟩
   refine z4s (i:=5) (v:=(.int .i64 (min x2.2 (10000:Int)))) (l':= #[true,true,true,true,true,true,false,false]) rfl (by kernel_rfl) (by kernel_rfl) (by kernel_rfl) rfl rfl (fun _ _ _ h=>h) hS7 (fun w hJ K hK=> ?_) ?_
   ·refine v7a (r:=(min x2.2 (10000:Int))) rfl rfl rfl ?_
    exact⟨rfl,hK⟩
   refine z4s (i:=6) (v:=(.int .i64 (max x2.1 (0:Int)))) (l':= #[true,true,true,true,true,true,true,false]) rfl (by kernel_rfl) (by kernel_rfl) (by kernel_rfl) rfl rfl (fun _ _ _ h=>h) hS7 (fun w hJ K hK=> ?_) ?_
   ·refine Zn (v:=(.int .i64 (max x2.1 (0:Int)))) rfl ?_
    exact⟨rfl,hK⟩
   refine z4s (i:=7) (v:=(.int .i64 (min x2.2 (10000:Int)))) (l':= #[true,true,true,true,true,true,true,true]) rfl (by kernel_rfl) (by kernel_rfl) (by kernel_rfl) rfl rfl (fun _ _ _ h=>h) hS7 (fun w hJ K hK=> ?_) ?_
   ·refine Zn (v:=(.int .i64 (min x2.2 (10000:Int)))) rfl ?_
    exact⟨rfl,hK⟩
   refine v5b (by kernel_rfl) ?_
   refine Qt ?_
   refine Za ?_
   refine Zb (v:=(.int .i64 (max x2.1 (0:Int)))) rfl ?_
   refine Zb (v:=(.int .i64 (min x2.2 (10000:Int)))) rfl ?_
   refine w25 (r:=(decide ((max x2.1 (0:Int))<(min x2.2 (10000:Int))))) rfl rfl rfl ?_
   refine wpList_nil ?_
   refine Qt ?_
   refine if_d ((max x2.1 (0:Int))<(min x2.2 (10000:Int))) rfl (fun ht3=> ?_) (fun ht3=> ?_)
   ·obtain⟨fa,hfa⟩: ∃fa:Nat,((fa:Nat):Int)=max x2.1 0:=⟨(max x2.1 0).toNat,by omega⟩
    obtain⟨fb,hfb⟩: ∃fb:Nat,((fb:Nat):Int)=min x2.2 10000:=⟨(min x2.2 10000).toNat,by omega⟩
    have hda:=Sp.dep_bound ((ls.take k1).flatten++x1.take k2) fa
    have hdb:=Sp.dep_bound ((ls.take k1).flatten++x1.take k2) fb
    have hlen:(((ls.take k1).flatten++x1.take k2)).length<=ls.flatten.length:=Sp.part_le hx1 (by omega)
    refine Za ?_
    refine Zb (v:=(.int .i64 (max x2.1 (0:Int)))) rfl ?_
    refine W2 (k:=fa) (a':=⟨b2,fa,none⟩) rfl rfl (by omega) (by omega) Tryz.underlying170 Tryz.sizeOf3 (by simp[Jl]) ?_
    refine q9g (v:=(.int .i64 (Sp.dep ((ls.take k1).flatten++x1.take k2) fa))) rfl Tryz.isAgg3 (hS7.cell (i:=1) rfl (z6r (by omega))) ?_
    refine z20 (r:=((Sp.dep ((ls.take k1).flatten++x1.take k2) fa)+(1:Int))) rfl rfl (nw (by omega) (by omega) (by omega)) ?_
    refine W2 (k:=fa) (a':=⟨b2,fa,none⟩) rfl rfl (by omega) (by omega) Tryz.underlying170 Tryz.sizeOf3 (by simp[Jl]) ?_
    refine q56 (T:=170) (vs:=[(.int .i64 ((Sp.dep ((ls.take k1).flatten++x1.take k2) fa)+(1:Int)))]) (cs':=irow 10001 (fun i=>(if i=fa then ((Sp.dep ((ls.take k1).flatten++x1.take k2) fa)+(1:Int)) else Sp.dep ((ls.take k1).flatten++x1.take k2) i))) (ms':=[blk b3 50 [(.int .i64 x2.1),(.int .i64 x2.2)],blk b2 170 (irow 10001 (fun i=>(if i=fa then ((Sp.dep ((ls.take k1).flatten++x1.take k2) fa)+(1:Int)) else Sp.dep ((ls.take k1).flatten++x1.take k2) i))),blk b1 113 (brow 10000 (fun i=>false))]) (i:=1) hS7 rfl rfl rfl Tryz.sizeOf3 rfl (ones rfl) rfl (by rw[z1g];omega) (w1t (by omega)) rfl ?_
    intro w7 hS8
    refine wpList_nil ?_
    refine Qt ?_
    refine Hq ?_
    refine Zb (v:=(.int .i64 (min x2.2 (10000:Int)))) rfl ?_
    refine W2 (k:=fb) (a':=⟨b2,fb,none⟩) rfl rfl (by omega) (by omega) Tryz.underlying170 Tryz.sizeOf3 (by simp[Jl]) ?_
    refine q9g (v:=(.int .i64 ((if fb=fa then ((Sp.dep ((ls.take k1).flatten++x1.take k2) fa)+(1:Int)) else Sp.dep ((ls.take k1).flatten++x1.take k2) fb)))) rfl Tryz.isAgg3 (hS8.cell (i:=1) rfl (z6r (by omega))) ?_
    refine v2h (r:=(((if fb=fa then ((Sp.dep ((ls.take k1).flatten++x1.take k2) fa)+(1:Int)) else Sp.dep ((ls.take k1).flatten++x1.take k2) fb)) - (1:Int))) rfl rfl (nw (by omega) (by omega) (by omega)) ?_
    refine W2 (k:=fb) (a':=⟨b2,fb,none⟩) rfl rfl (by omega) (by omega) Tryz.underlying170 Tryz.sizeOf3 (by simp[Jl]) ?_
    refine q56 (T:=170) (vs:=[(.int .i64 (((if fb=fa then ((Sp.dep ((ls.take k1).flatten++x1.take k2) fa)+(1:Int)) else Sp.dep ((ls.take k1).flatten++x1.take k2) fb)) - (1:Int)))]) (cs':=irow 10001 (Sp.dep (((ls.take k1).flatten++x1.take k2)++[x2]))) (ms':=[blk b3 50 [(.int .i64 x2.1),(.int .i64 x2.2)],blk b2 170 (irow 10001 (Sp.dep (((ls.take k1).flatten++x1.take k2)++[x2]))),blk b1 113 (brow 10000 (fun i=>false))]) (i:=1) hS8 rfl rfl rfl Tryz.sizeOf3 rfl (ones rfl) rfl (by rw[z1g];omega) ((w1t (by omega)).trans (j3x (fun i _=>Sp.dep_step ((ls.take k1).flatten++x1.take k2) x2 fa fb hfa hfb (by unfold Sp.lo Sp.hi;omega) i))) rfl ?_
    intro w8 hS9
    refine wpList_nil ?_
    refine j4w ?_
    refine Qt ?_
    refine Hq ?_
    refine z20 (r:=((k2+1:Nat):Int)) rfl rfl (nw (by omega) (by omega) (by omega)) ?_
    refine Zb (v:=(.int .i64 ((k2+1:Nat):Int))) rfl ?_
    refine wpList_nil ?_
    refine Qt ?_
    have hE:x1.take (k2+1)=x1.take k2++[x2]:=take_snoc hx2
    exact⟨_,_,rfl,⟨k2+1,_,rfl,(Q8 rfl (Q8 rfl (Q8 rfl (Q8 rfl (Q8 rfl (Q8 rfl (Q8 rfl (Q8 rfl rfl)))))))),(by rw[hE,←List.append_assoc];exact hS9.drop 0 rfl),(by have:=Qe hx2;omega)⟩,by have:=Qe hx2;omega⟩
   ·refine wp_skip ?_
    refine j4w ?_
    refine Qt ?_
    refine Hq ?_
    refine z20 (r:=((k2+1:Nat):Int)) rfl rfl (nw (by omega) (by omega) (by omega)) ?_
    refine Zb (v:=(.int .i64 ((k2+1:Nat):Int))) rfl ?_
    refine wpList_nil ?_
    refine Qt ?_
    have hE:x1.take (k2+1)=x1.take k2++[x2]:=take_snoc hx2
    exact⟨_,_,rfl,⟨k2+1,_,rfl,(Q8 rfl (Q8 rfl (Q8 rfl (Q8 rfl (Q8 rfl (Q8 rfl (Q8 rfl (Q8 rfl rfl)))))))),(by rw[hE,←List.append_assoc,j3x (fun i _=>Sp.dep_skip ((ls.take k1).flatten++x1.take k2) x2 ht3 i)];exact hS7.drop 0 rfl),(by have:=Qe hx2;omega)⟩,by have:=Qe hx2;omega⟩
  ·refine wp_exit ?_
   refine q9x ?_
   refine q9x ?_
   refine z6q ?_
   refine j4w ?_
   refine Qt ?_
   refine Hq ?_
   refine z20 (r:=((k1+1:Nat):Int)) rfl rfl (nw (by omega) (by omega) (by omega)) ?_
   refine Zb (v:=(.int .i64 ((k1+1:Nat):Int))) rfl ?_
   refine wpList_nil ?_
   refine Qt ?_
   have hSl:=hS4
   rw[List.take_of_length_le (show x1.length<=k2 by omega)] at hSl
   exact⟨_,_,rfl,⟨k1+1,_,rfl,(Q8 rfl (Q8 rfl (Q8 rfl (Q8 rfl (Q8 rfl rfl))))),(by rw[Sp.flat_take hx1];exact hSl),(by have:=Qe hx1;omega)⟩,by have:=Qe hx1;omega⟩
 ·refine wp_exit ?_
  refine q9x ?_
  refine q9x ?_
  refine z6q ?_
  refine Qt ?_
  refine Za ?_
  refine q7p (cs:=brow 10000 (fun i=>false)) hS3 (q49 Tryz.type113 (q23 j9f j97) (by omega)) (by simp[Value.cells,q30]) ?_
  intro b4 w9 hS10
  refine wpList_nil ?_
  refine Qt ?_
  refine Za ?_
  refine Zn (v:=(.int .i64 (0:Int))) rfl ?_
  refine wpList_nil ?_
  refine Qt ?_
  refine wp_seq ?_
  refine Za ?_
  refine Zb (v:=(.int .i64 (0:Int))) rfl ?_
  refine wpList_nil ?_
  refine Qt ?_
  refine wp_block ?_
  rw[List.take_of_length_le (show ls.length<=k1 by omega)] at hS10
  refine loop (fun m f z=> ∃(k3:Nat) (g:Fr),m=10000 - k3/\f=(upd (upd (upd (upd (upd g 2 (.pointer (some ⟨b1,0,none⟩))) 3 (.pointer (some ⟨b2,0,none⟩))) 10 (.pointer (some ⟨b4,0,none⟩))) 11 (.int .i64 (Sp.psum (Sp.dep ls.flatten) k3))) 46 (.int .i64 ((k3:Nat):Int)))/\St ⟨w,σ,[]⟩ z σ [blk b4 113 (brow 10000 (fun i=>(decide (i<k3) && Sp.cov ls.flatten i))),blk b2 170 (irow 10001 (Sp.dep ls.flatten)),blk b1 113 (brow 10000 (fun i=>false))]/\(k3<=10000)) (m0:=_) ⟨0,_,rfl,(Q8 rfl (Q8 rfl (Q8 rfl (Q8 rfl (Q8 rfl rfl))))),(by simpa using hS10),(Nat.zero_le _)⟩ ?_
  rintro _ _ w10 ⟨k3,g,rfl,rfl,hS11,hk3⟩
  refine Za ?_
  refine w25 (r:=(decide (((k3:Nat):Int)<(10000:Int)))) rfl rfl rfl ?_
  refine wpList_nil ?_
  refine Qt ?_
  refine wp_seq ?_
  refine if_d (((k3:Nat):Int)<(10000:Int)) rfl (fun ht4=> ?_) (fun ht4=> ?_)
  ·refine wp_skip ?_
   refine Qt ?_
   refine wp_seq ?_
   refine wp_block ?_
   refine Za ?_
   refine Zb (v:=(.int .i64 ((k3:Nat):Int))) rfl ?_
   refine Zn (v:=(.int .i64 ((k3:Nat):Int))) rfl ?_
   refine wpList_nil ?_
   refine Qt ?_
   refine Za ?_
   have hps:=Sp.psum_nonneg ls.flatten k3 (by omega)
   have hps2:Sp.psum (Sp.dep ls.flatten) (k3+1)=Sp.psum (Sp.dep ls.flatten) k3+Sp.dep ls.flatten k3:=rfl
   refine Zb (v:=(.int .i64 (Sp.psum (Sp.dep ls.flatten) k3))) rfl ?_
   refine Zb (v:=(.int .i64 ((k3:Nat):Int))) rfl ?_
   refine W2 (k:=k3) (a':=⟨b2,k3,none⟩) rfl rfl (by omega) (by omega) Tryz.underlying170 Tryz.sizeOf3 (by simp[Jl]) ?_
   refine q9g (v:=(.int .i64 (Sp.dep ls.flatten k3))) rfl Tryz.isAgg3 (hS11.cell (i:=1) rfl (z6r (by omega))) ?_
   refine z20 (r:=((Sp.psum (Sp.dep ls.flatten) k3)+(Sp.dep ls.flatten k3))) rfl rfl (nw (by omega) (by omega) (by omega)) ?_
   refine Zn (v:=(.int .i64 ((Sp.psum (Sp.dep ls.flatten) k3)+(Sp.dep ls.flatten k3)))) rfl ?_
   refine wpList_nil ?_
   refine Qt ?_
   refine Hq ?_
   refine Zb (v:=(.int .i64 ((k3:Nat):Int))) rfl ?_
   refine Zb (v:=(.int .i64 ((Sp.psum (Sp.dep ls.flatten) k3)+(Sp.dep ls.flatten k3)))) rfl ?_
   refine v48 (r:=(decide ((0:Int)<((Sp.psum (Sp.dep ls.flatten) k3)+(Sp.dep ls.flatten k3))))) rfl rfl rfl ?_
   refine W2 (k:=k3) (a':=⟨b4,k3,none⟩) rfl rfl (by omega) (by omega) Tryz.underlying113 Tryz.sizeOf4 (by simp[Jl]) ?_
   refine q56 (T:=113) (vs:=[(.bool (decide ((0:Int)<((Sp.psum (Sp.dep ls.flatten) k3)+(Sp.dep ls.flatten k3)))))]) (cs':=brow 10000 (fun i=>(decide (i<k3+1) && Sp.cov ls.flatten i))) (ms':=[blk b4 113 (brow 10000 (fun i=>(decide (i<k3+1) && Sp.cov ls.flatten i))),blk b2 170 (irow 10001 (Sp.dep ls.flatten)),blk b1 113 (brow 10000 (fun i=>false))]) (i:=0) hS11 rfl rfl rfl Tryz.sizeOf4 rfl (ones rfl) rfl (by rw[Jm];omega) ((w9b (by omega)).trans (j3w (fun i _=>Sp.set_step ls.flatten k3 (by omega) i))) rfl ?_
   intro w11 hS12
   refine wpList_nil ?_
   refine j4w ?_
   refine Qt ?_
   refine Hq ?_
   refine z20 (r:=((k3+1:Nat):Int)) rfl rfl (nw (by omega) (by omega) (by omega)) ?_
   refine Zb (v:=(.int .i64 ((k3+1:Nat):Int))) rfl ?_
   refine wpList_nil ?_
   refine Qt ?_
   exact⟨_,_,rfl,⟨k3+1,_,rfl,(Q8 rfl (Q8 rfl (Q8 rfl (Q8 rfl (Q8 rfl rfl))))),hS12,(by omega)⟩,by omega⟩
  ·refine wp_exit ?_
   refine q9x ?_
   refine q9x ?_
   refine z6q ?_
   refine Qt ?_
   refine Za ?_
   refine w5f (cs:=brow 10000 (fun i=>(decide (i<k3) && Sp.cov ls.flatten i))) rfl Tryz.isAgg113 Tryz.sizeOf113 (Jm _ _) (q55 (hS11.get (i:=0) rfl)) ?_
   refine q56 (T:=113) (vs:=brow 10000 (fun i=>(decide (i<k3) && Sp.cov ls.flatten i))) (cs':=brow 10000 (fun i=>(decide (i<k3) && Sp.cov ls.flatten i))) (ms':=[blk b4 113 (brow 10000 (fun i=>(decide (i<k3) && Sp.cov ls.flatten i))),blk b2 170 (irow 10001 (Sp.dep ls.flatten)),blk b1 113 (brow 10000 (fun i=>(decide (i<k3) && Sp.cov ls.flatten i)))]) (i:=2) hS11 rfl rfl (q6l _) Tryz.sizeOf113 (Jm _ _) (q6m _ _) rfl (by simp[Jm]) (q00 (by simp[Jm])) rfl ?_
   intro w12 hS13
   refine wpList_nil ?_
   refine Qt ?_
   refine wp_ret ?_
   refine v47 rfl rfl (hS13.get (i:=2) rfl) Tryz.underlying113 rfl ((show (Tryz.prog.info? 113).map (·.size)=some 10000 from rfl).trans (by simp[Jm])) ?_
   exact⟨congrArg (fun l:List Value=>Ending.returned (.agg l.toArray)) (j3w (fun i hi=>Sp.all_step ls.flatten k3 i (by omega))),hS13.done⟩
end Go.Proofs.YtdaibboenkgpaaaGreatDoor
end
noncomputable section
set_option maxRecDepth 100000
namespace Go.Proofs.YtdaibboenkgpaaaGreatDoor
open Go Go.Proofs Go.RowKit Go.Fl
theorem j98{σ:Hv}{w:World}(fid:FuncId)(C:List Value)(p:Nat->Bool)(O:Nat->HObj)(bo:Option Nat)(hfo: ∀k,(O k).foot=bo)(hcall: ∀args w,(callFunc fid args).run Tryz.prog w= .ok (.enter fid args) w)
  (hcl: ∀(k:Nat) (w1:World),k<10000->View σ w1->(O k).ok w1->Calls Tryz.prog fid ((.int .i64 ((k:Nat):Int))::C).toArray w1 fun e w2=>e= .returned (.bool (p k))/\Grow bo.toList σ w1 σ w2/\(O (k+1)).ok w2)
  (hV:View σ w)(hO:(O 0).ok w)(hσ: ∀k,(O 0).foot=some k->σ k=none):
  Calls Tryz.prog 108 #[(.func (.func fid) #[] (C).toArray)] w fun e w1=> ∃(v:Value) (σ1:Hv),e= .returned v/\Grow bo.toList σ w σ1 w1/\RSl 2 (REnc q0y) σ1 v (Sp.runs p 10000)/\(O 10000).ok w1:=by
 refine enter Tryz.func108 rfl rfl rfl ?_
 have hS:=St.startO hV hO hσ
 refine Za ?_
 refine Zn (v:=(.slice none 0 0)) rfl ?_
 refine wpList_nil ?_
 refine Qt ?_
 refine Za ?_
 refine Zn (v:=(.slice none 0 0)) rfl ?_
 refine wpList_nil ?_
 refine Qt ?_
 refine wp_seq ?_
 refine Za ?_
 refine Zb (v:=(.int .i64 (0:Int))) rfl ?_
 refine wpList_nil ?_
 refine Qt ?_
 refine wp_block ?_
 have hSn:=hS.addNil 50 2
 refine loop (fun m f z=> ∃(k:Nat) (v:Value) (g:Fr),m=10000 - k/\f=(upd (upd (upd g 0 (.func (.func fid) #[] (C).toArray)) 3 v) 6 (.int .i64 ((k:Nat):Int)))/\St ⟨w,σ,(O 0).foot.toList⟩ z σ [vec v 50 2 ((Sp.runs p k).length) ((Sp.runs p k).flatMap q0y),O k]/\(v.oneCell'=true)/\(k<=10000)) (m0:=_) ⟨0,_,_,rfl,(Q8 rfl (Q8 rfl (Q8 rfl rfl))),hSn,(rfl),(Nat.zero_le _)⟩ ?_
 rintro _ _ w1 ⟨k,v,g,rfl,rfl,hS1,hone,hk⟩
 have hrl:=Sp.runs_len p k
 refine Za ?_
 refine w25 (r:=(decide (((k:Nat):Int)<(10000:Int)))) rfl rfl rfl ?_
 refine wpList_nil ?_
 refine Qt ?_
 refine wp_seq ?_
 refine if_d (((k:Nat):Int)<(10000:Int)) rfl (fun ht1=> ?_) (fun ht1=> ?_)
 ·refine wp_skip ?_
  refine Qt ?_
  refine wp_seq ?_
  refine wp_block ?_
  refine Za ?_
  refine Zb (v:=(.int .i64 ((k:Nat):Int))) rfl ?_
  refine Zn (v:=(.int .i64 ((k:Nat):Int))) rfl ?_
  refine wpList_nil ?_
  refine Qt ?_
  refine wp_seq ?_
  refine Za ?_
  refine Zb (v:=(.func (.func fid) #[] (C).toArray)) rfl ?_
  refine Zb (v:=(.int .i64 ((k:Nat):Int))) rfl ?_
  refine v2j (first:=[]) (captured:=C) (args:=(.int .i64 ((k:Nat):Int))::C) rfl rfl hcall (Calls.mono (hcl k _ (by omega) hS1.view (hS1.get (i:=1) rfl)) ?_)
  rintro _ w2 ⟨rfl,hg1,ho1⟩
  refine⟨_,rfl,?_⟩
  have hS2:=hS1.growO hg1 (i:=1) (o':=O (k+1)) rfl (hfo _) (hfo _) ho1 (ms':=[vec v 50 2 ((Sp.runs p k).length) ((Sp.runs p k).flatMap q0y),O (k+1)]) rfl
  refine v49 (r:=(!p k)) rfl rfl ?_
  refine wpList_nil ?_
  refine Qt ?_
  refine v7b rfl (fun ht2=> ?_) (fun ht2=> ?_)
  ·refine wp_exit ?_
   refine q9x ?_
   refine z6q ?_
   refine Qt ?_
   refine Hq ?_
   refine z20 (r:=((k+1:Nat):Int)) rfl rfl (nw (by omega) (by omega) (by omega)) ?_
   refine Zb (v:=(.int .i64 ((k+1:Nat):Int))) rfl ?_
   refine wpList_nil ?_
   refine Qt ?_
   have hE:=Sp.runs_no ht2
   exact⟨_,_,rfl,⟨k+1,v,_,rfl,(Q8 rfl (Q8 rfl (Q8 rfl rfl))),(by rw[hE];simpa using hS2),(hone),(by omega)⟩,by omega⟩
  ·refine wp_skip ?_
   refine Qt ?_
   refine Za ?_
   refine Zb (v:=v) rfl ?_
   refine w5i hS2 rfl (i:=0) rfl Tryz.underlying47 ?_
   refine Zn (v:=(.int .i64 (((Sp.runs p k).length:Nat):Int))) rfl ?_
   refine wpList_nil ?_
   refine Qt ?_
   refine Za ?_
   refine Zb (v:=(.int .i64 (((Sp.runs p k).length:Nat):Int))) rfl ?_
   refine v48 (r:=(decide ((0:Int)<(((Sp.runs p k).length:Nat):Int)))) rfl rfl rfl ?_
   by_cases hb1:(0:Int)<(((Sp.runs p k).length:Nat):Int)
   ·refine Zb (v:=(.bool true)) (congrArg Value.bool (decide_eq_true hb1)) ?_
    refine o_on rfl rfl ?_
    refine Zb (v:=v) rfl ?_
    refine o_on rfl rfl ?_
    refine Zb (v:=(.int .i64 (((Sp.runs p k).length:Nat):Int))) rfl ?_
    refine o_on rfl rfl ?_
    refine v2h (r:=((((Sp.runs p k).length:Nat):Int) - (1:Int))) rfl rfl (nw (by omega) (by omega) (by omega)) ?_
    refine o_on rfl rfl ?_
    obtain⟨g1,cp1,rfl⟩:=w5h (hS2.get (i:=0) rfl) (by omega)
    refine q22 (k:=((Sp.runs p k).length - 1)) (a':=⟨g1,((Sp.runs p k).length - 1)*2,none⟩) rfl rfl (by omega) (by omega) Tryz.underlying47 Tryz.sizeOf50 (by simp[Jl]) ?_
    refine o_on rfl rfl ?_
    refine j4v (a':=⟨g1,((Sp.runs p k).length - 1)*2+1,none⟩) rfl Tryz.underlying50 rfl Tryz.sizeOf3 rfl ?_
    refine o_on rfl rfl ?_
    obtain⟨x1,hx1⟩:=getq (l:=Sp.runs p k) (k:=((Sp.runs p k).length - 1)) (by omega)
    refine q9g (v:=(.int .i64 x1.2)) rfl Tryz.isAgg3 (w9c j0e (j:=1) (hS2.get (i:=0) rfl) hx1 rfl) ?_
    refine o_on rfl rfl ?_
    refine Zb (v:=(.int .i64 ((k:Nat):Int))) rfl ?_
    refine o_on rfl rfl ?_
    refine v68 (r:=(decide (x1.2=((k:Nat):Int)))) rfl rfl rfl ?_
    refine j4t (v:=(.bool (decide (x1.2=((k:Nat):Int))))) rfl rfl ?_
    refine wpList_nil ?_
    refine Qt ?_
    refine if_d (x1.2=((k:Nat):Int)) rfl (fun ht3=> ?_) (fun ht3=> ?_)
    ·refine Hq ?_
     refine Zb (v:=(.slice (some ⟨g1,0,none⟩) (Sp.runs p k).length cp1)) rfl ?_
     refine Zb (v:=(.int .i64 (((Sp.runs p k).length:Nat):Int))) rfl ?_
     refine v2h (r:=((((Sp.runs p k).length:Nat):Int) - (1:Int))) rfl rfl (nw (by omega) (by omega) (by omega)) ?_
     refine Zb (v:=(.int .i64 ((k:Nat):Int))) rfl ?_
     refine z20 (r:=((k+1:Nat):Int)) rfl rfl (nw (by omega) (by omega) (by omega)) ?_
     refine q22 (k:=((Sp.runs p k).length - 1)) (a':=⟨g1,((Sp.runs p k).length - 1)*2,none⟩) rfl rfl (by omega) (by omega) Tryz.underlying47 Tryz.sizeOf50 (by simp[Jl]) ?_
     refine j4v (a':=⟨g1,((Sp.runs p k).length - 1)*2+1,none⟩) rfl Tryz.underlying50 rfl Tryz.sizeOf3 rfl ?_
     refine j9c (xs':=((Sp.runs p k).set ((Sp.runs p k).length - 1) (x1.1,((k+1:Nat):Int))).flatMap q0y) (ms':=[vec (.slice (some ⟨g1,0,none⟩) (Sp.runs p k).length cp1) 50 2 ((Sp.runs p k).length) (((Sp.runs p k).set ((Sp.runs p k).length - 1) (x1.1,((k+1:Nat):Int))).flatMap q0y),O (k+1)]) (vs:=[(.int .i64 ((k+1:Nat):Int))]) (i:=0) hS2 rfl rfl rfl Tryz.sizeOf3 rfl (ones rfl) rfl (by omega) (w1u j0e hx1 rfl (Nat.le_of_ble_eq_true rfl)) rfl ?_
     intro w3 hS3
     refine wpList_nil ?_
     refine j4w ?_
     refine Qt ?_
     refine Hq ?_
     refine z20 (r:=((k+1:Nat):Int)) rfl rfl (nw (by omega) (by omega) (by omega)) ?_
     refine Zb (v:=(.int .i64 ((k+1:Nat):Int))) rfl ?_
     refine wpList_nil ?_
     refine Qt ?_
     have hE:=Sp.runs_ext ht2 hx1 ht3
     exact⟨_,_,rfl,⟨k+1,(.slice (some ⟨g1,0,none⟩) (Sp.runs p k).length cp1),_,rfl,(Q8 rfl (Q8 rfl (Q8 rfl rfl))),(by rw[hE];simpa using hS3),(rfl),(by omega)⟩,by omega⟩
    ·refine Hq ?_
     refine Zb (v:=(.slice (some ⟨g1,0,none⟩) (Sp.runs p k).length cp1)) rfl ?_
     refine Zb (v:=(.int .i64 ((k:Nat):Int))) rfl ?_
     refine Zb (v:=(.int .i64 ((k:Nat):Int))) rfl ?_
     refine z20 (r:=((k+1:Nat):Int)) rfl rfl (nw (by omega) (by omega) (by omega)) ?_
     refine w5g (v:=(.agg #[(.int .i64 ((k:Nat):Int)),(.int .i64 ((k+1:Nat):Int))])) (fun _=>by kernel_rfl) ?_
     refine q48 (cs:=[(.int .i64 ((k:Nat):Int)),(.int .i64 ((k+1:Nat):Int))]) (e:=50) hS2 (fun _=>by kernel_rfl) ?_
     intro b1 w4 hS4
     refine w1s (Ms:=fun v1=>[blk b1 50 [(.int .i64 ((k:Nat):Int)),(.int .i64 ((k+1:Nat):Int))],vec v1 50 2 ((Sp.runs p k).length+1) ((Sp.runs p k++[(((k:Nat):Int),((k+1:Nat):Int))]).flatMap q0y),O (k+1)]) (xs':=(Sp.runs p k++[(((k:Nat):Int),((k+1:Nat):Int))]).flatMap q0y) Tryz.underlying47 Tryz.type50 rfl rfl (bytes:=16) rfl rfl (Nat.succ_pos _) hS4 rfl (q:=1) rfl rfl rfl (q55 (hS4.get (i:=0) rfl)) (ones rfl) (by omega) (by unfold maxLen;omega) (j6x _ (((k:Nat):Int),((k+1:Nat):Int))) (fun _=>rfl) ?_
     intro v1 w5 ho2 hS5
     have hS6:=hS5.drop 0 (ms':=[vec v1 50 2 ((Sp.runs p k).length+1) ((Sp.runs p k++[(((k:Nat):Int),((k+1:Nat):Int))]).flatMap q0y),O (k+1)]) rfl
     refine Zn (v:=v1) rfl ?_
     refine wpList_nil ?_
     refine j4w ?_
     refine Qt ?_
     refine Hq ?_
     refine z20 (r:=((k+1:Nat):Int)) rfl rfl (nw (by omega) (by omega) (by omega)) ?_
     refine Zb (v:=(.int .i64 ((k+1:Nat):Int))) rfl ?_
     refine wpList_nil ?_
     refine Qt ?_
     have hE:=Sp.runs_new ht2 (fun s hs=>by rw[hx1] at hs;cases hs;exact ht3)
     exact⟨_,_,rfl,⟨k+1,v1,_,rfl,(Q8 rfl (Q8 rfl (Q8 rfl rfl))),(by rw[hE];simpa using hS6),(ho2),(by omega)⟩,by omega⟩
   ·refine Zb (v:=(.bool false)) (congrArg Value.bool (decide_eq_false hb1)) ?_
    refine z3n rfl rfl ?_
    refine z3n rfl rfl ?_
    refine z3n rfl rfl ?_
    refine z3n rfl rfl ?_
    refine z3n rfl rfl ?_
    refine z3n rfl rfl ?_
    refine z3n rfl rfl ?_
    refine z3n rfl rfl ?_
    refine j4u (v:=(.bool false)) rfl rfl ?_
    refine wpList_nil ?_
    refine Qt ?_
    refine if_f rfl ?_
    refine Hq ?_
    refine Zb (v:=v) rfl ?_
    refine Zb (v:=(.int .i64 ((k:Nat):Int))) rfl ?_
    refine Zb (v:=(.int .i64 ((k:Nat):Int))) rfl ?_
    refine z20 (r:=((k+1:Nat):Int)) rfl rfl (nw (by omega) (by omega) (by omega)) ?_
    refine w5g (v:=(.agg #[(.int .i64 ((k:Nat):Int)),(.int .i64 ((k+1:Nat):Int))])) (fun _=>by kernel_rfl) ?_
    refine q48 (cs:=[(.int .i64 ((k:Nat):Int)),(.int .i64 ((k+1:Nat):Int))]) (e:=50) hS2 (fun _=>by kernel_rfl) ?_
    intro b2 w6 hS7
    refine w1s (Ms:=fun v2=>[blk b2 50 [(.int .i64 ((k:Nat):Int)),(.int .i64 ((k+1:Nat):Int))],vec v2 50 2 ((Sp.runs p k).length+1) ((Sp.runs p k++[(((k:Nat):Int),((k+1:Nat):Int))]).flatMap q0y),O (k+1)]) (xs':=(Sp.runs p k++[(((k:Nat):Int),((k+1:Nat):Int))]).flatMap q0y) Tryz.underlying47 Tryz.type50 rfl rfl (bytes:=16) rfl rfl (Nat.succ_pos _) hS7 rfl (q:=1) rfl rfl rfl (q55 (hS7.get (i:=0) rfl)) (ones rfl) (by omega) (by unfold maxLen;omega) (j6x _ (((k:Nat):Int),((k+1:Nat):Int))) (fun _=>rfl) ?_
    intro v2 w7 ho3 hS8
    have hS9:=hS8.drop 0 (ms':=[vec v2 50 2 ((Sp.runs p k).length+1) ((Sp.runs p k++[(((k:Nat):Int),((k+1:Nat):Int))]).flatMap q0y),O (k+1)]) rfl
    refine Zn (v:=v2) rfl ?_
    refine wpList_nil ?_
    refine j4w ?_
    refine Qt ?_
    refine Hq ?_
    refine z20 (r:=((k+1:Nat):Int)) rfl rfl (nw (by omega) (by omega) (by omega)) ?_
    refine Zb (v:=(.int .i64 ((k+1:Nat):Int))) rfl ?_
    refine wpList_nil ?_
    refine Qt ?_
    have hE:=Sp.runs_new ht2 (fun s hs=>by have:=Qe hs;omega)
    exact⟨_,_,rfl,⟨k+1,v2,_,rfl,(Q8 rfl (Q8 rfl (Q8 rfl rfl))),(by rw[hE];simpa using hS9),(ho3),(by omega)⟩,by omega⟩
 ·refine wp_exit ?_
  refine q9x ?_
  refine q9x ?_
  refine z6q ?_
  refine Qt ?_
  refine Za ?_
  refine Zb (v:=v) rfl ?_
  refine Zn (v:=v) rfl ?_
  refine wpList_nil ?_
  refine Qt ?_
  refine wp_ret ?_
  refine ret1 rfl (show ev _ _ _=v from rfl) ?_
  obtain rfl:k=10000:=by omega
  obtain⟨σ1,hS10,hsub1,hfr1⟩:=hS1.freezeM (i:=0) (j:=1) rfl rfl (by decide) (by show (O 0).foot.toList=_;rw[hfo,hfo]) rfl
  have hb:=Sp.runs_len p 10000
  have hd:=hS10.done
  rw[show (O 0).foot=bo from hfo 0] at hd
  exact⟨v,σ1,rfl,hd,RSl.ofVecEnc j0e (hS1.get (i:=0) rfl) hfr1 rfl (by omega),hS10.get (i:=0) rfl⟩
end Go.Proofs.YtdaibboenkgpaaaGreatDoor
end
noncomputable section
set_option maxRecDepth 100000
namespace Go.Proofs.YtdaibboenkgpaaaGreatDoor
open Go Go.Proofs Go.RowKit Go.Fl
theorem v0m{σ:Hv}{w:World}{bp:Nat}(p:Nat->Bool)(k:Nat)(hV:View σ w)(hp:VRow σ ⟨bp,0,none⟩ (brow 10000 p))(hk:k<10000):
  Calls Tryz.prog 109 #[(.int .i64 ((k:Nat):Int)),(.pointer (some ⟨bp,0,none⟩))] w fun e w1=>e= .returned (.bool (p k))/\Grow [] σ w σ w1:=by
 refine enter Tryz.func109 rfl rfl rfl ?_
 have _hk:=hk
 have hS:=St.start hV
 refine Za ?_
 refine Zn (v:=(.bool false)) rfl ?_
 refine wpList_nil ?_
 refine Qt ?_
 refine Za ?_
 refine Zb (v:=(.int .i64 ((k:Nat):Int))) rfl ?_
 refine W2 (k:=k) (a':=⟨bp,k,none⟩) rfl rfl (by omega) (by omega) Tryz.underlying113 Tryz.sizeOf4 (by simp[Jl]) ?_
 refine q9g (v:=(.bool (p k))) rfl Tryz.isAgg4 (hp.cell hS.view k (q7q (by omega)) (w26 _ _)) ?_
 refine Zn (v:=(.bool (p k))) rfl ?_
 refine wpList_nil ?_
 refine Qt ?_
 refine wp_ret ?_
 refine ret1 rfl (show ev _ _ _=(.bool (p k)) from rfl) ?_
 exact⟨by simp[*],hS.done⟩
theorem w7l{σ:Hv}{w:World}{bp:Nat}{bq:Nat}(p:Nat->Bool)(q:Nat->Bool)(k:Nat)(hV:View σ w)(hp:VRow σ ⟨bp,0,none⟩ (brow 10000 p))(hq:VRow σ ⟨bq,0,none⟩ (brow 10000 q))(hk:k<10000):
  Calls Tryz.prog 143 #[(.int .i64 ((k:Nat):Int)),(.pointer (some ⟨bp,0,none⟩)),(.pointer (some ⟨bq,0,none⟩))] w fun e w1=>e= .returned (.bool (p k && q k))/\Grow [] σ w σ w1:=by
 refine enter Tryz.func143 rfl rfl rfl ?_
 have _hk:=hk
 have hS:=St.start hV
 refine Za ?_
 refine Zn (v:=(.bool false)) rfl ?_
 refine wpList_nil ?_
 refine Qt ?_
 refine Za ?_
 refine Zb (v:=(.int .i64 ((k:Nat):Int))) rfl ?_
 refine W2 (k:=k) (a':=⟨bp,k,none⟩) rfl rfl (by omega) (by omega) Tryz.underlying113 Tryz.sizeOf4 (by simp[Jl]) ?_
 refine q9g (v:=(.bool (p k))) rfl Tryz.isAgg4 (hp.cell hS.view k (q7q (by omega)) (w26 _ _)) ?_
 rcases Bool.eq_false_or_eq_true (p k) with hb1|hb1
 ·refine Zb (v:=(.bool true)) (congrArg Value.bool hb1) ?_
  refine o_on rfl rfl ?_
  refine Zb (v:=(.int .i64 ((k:Nat):Int))) rfl ?_
  refine o_on rfl rfl ?_
  refine W2 (k:=k) (a':=⟨bq,k,none⟩) rfl rfl (by omega) (by omega) Tryz.underlying113 Tryz.sizeOf4 (by simp[Jl]) ?_
  refine o_on rfl rfl ?_
  refine q9g (v:=(.bool (q k))) rfl Tryz.isAgg4 (hq.cell hS.view k (q7q (by omega)) (w26 _ _)) ?_
  refine j4t (v:=(.bool (q k))) rfl rfl ?_
  refine Zn (v:=(.bool (q k))) rfl ?_
  refine wpList_nil ?_
  refine Qt ?_
  refine wp_ret ?_
  refine ret1 rfl (show ev _ _ _=(.bool (q k)) from rfl) ?_
  exact⟨by simp[*],hS.done⟩
 ·refine Zb (v:=(.bool false)) (congrArg Value.bool hb1) ?_
  refine z3n rfl rfl ?_
  refine z3n rfl rfl ?_
  refine z3n rfl rfl ?_
  refine j4u (v:=(.bool false)) rfl rfl ?_
  refine Zn (v:=(.bool false)) rfl ?_
  refine wpList_nil ?_
  refine Qt ?_
  refine wp_ret ?_
  refine ret1 rfl (show ev _ _ _=(.bool false) from rfl) ?_
  exact⟨by simp[*],hS.done⟩
theorem v0n{σ:Hv}{w:World}{bp:Nat}{bq:Nat}(p:Nat->Bool)(q:Nat->Bool)(k:Nat)(hV:View σ w)(hp:VRow σ ⟨bp,0,none⟩ (brow 10000 p))(hq:VRow σ ⟨bq,0,none⟩ (brow 10000 q))(hk:k<10000):
  Calls Tryz.prog 137 #[(.int .i64 ((k:Nat):Int)),(.pointer (some ⟨bp,0,none⟩)),(.pointer (some ⟨bq,0,none⟩))] w fun e w1=>e= .returned (.bool (p k && !q k))/\Grow [] σ w σ w1:=by
 refine enter Tryz.func137 rfl rfl rfl ?_
 have _hk:=hk
 have hS:=St.start hV
 refine Za ?_
 refine Zn (v:=(.bool false)) rfl ?_
 refine wpList_nil ?_
 refine Qt ?_
 refine Za ?_
 refine Zb (v:=(.int .i64 ((k:Nat):Int))) rfl ?_
 refine W2 (k:=k) (a':=⟨bp,k,none⟩) rfl rfl (by omega) (by omega) Tryz.underlying113 Tryz.sizeOf4 (by simp[Jl]) ?_
 refine q9g (v:=(.bool (p k))) rfl Tryz.isAgg4 (hp.cell hS.view k (q7q (by omega)) (w26 _ _)) ?_
 rcases Bool.eq_false_or_eq_true (p k) with hb1|hb1
 ·refine Zb (v:=(.bool true)) (congrArg Value.bool hb1) ?_
  refine o_on rfl rfl ?_
  refine Zb (v:=(.int .i64 ((k:Nat):Int))) rfl ?_
  refine o_on rfl rfl ?_
  refine W2 (k:=k) (a':=⟨bq,k,none⟩) rfl rfl (by omega) (by omega) Tryz.underlying113 Tryz.sizeOf4 (by simp[Jl]) ?_
  refine o_on rfl rfl ?_
  refine q9g (v:=(.bool (q k))) rfl Tryz.isAgg4 (hq.cell hS.view k (q7q (by omega)) (w26 _ _)) ?_
  refine o_on rfl rfl ?_
  refine v49 (r:=(!q k)) rfl rfl ?_
  refine j4t (v:=(.bool (!q k))) rfl rfl ?_
  refine Zn (v:=(.bool (!q k))) rfl ?_
  refine wpList_nil ?_
  refine Qt ?_
  refine wp_ret ?_
  refine ret1 rfl (show ev _ _ _=(.bool (!q k)) from rfl) ?_
  exact⟨by simp[*],hS.done⟩
 ·refine Zb (v:=(.bool false)) (congrArg Value.bool hb1) ?_
  refine z3n rfl rfl ?_
  refine z3n rfl rfl ?_
  refine z3n rfl rfl ?_
  refine z3n rfl rfl ?_
  refine j4u (v:=(.bool false)) rfl rfl ?_
  refine Zn (v:=(.bool false)) rfl ?_
  refine wpList_nil ?_
  refine Qt ?_
  refine wp_ret ?_
  refine ret1 rfl (show ev _ _ _=(.bool false) from rfl) ?_
  exact⟨by simp[*],hS.done⟩
theorem v32{σ:Hv}{w:World}(a:Value)(b:Value)(la:List (Int×Int))(lb:List (Int×Int))(hV:View σ w)(ha:RSl 2 (REnc q0y) σ a la)(hb:RSl 2 (REnc q0y) σ b lb):
  Calls Tryz.prog 55 #[a,b] w fun e w1=> ∃(v:Value) (σ1:Hv),e= .returned v/\Grow [] σ w σ1 w1/\RSl 2 (REnc q0y) σ1 v (Sp.runs (fun i=>Sp.cov la i||Sp.cov lb i) 10000):=by
 refine enter Tryz.func55 rfl rfl rfl ?_
 have hS:=St.start hV
 obtain⟨xa,ca,ea⟩:=ha.shape
 subst ea
 obtain⟨xb,cb,eb⟩:=hb.shape
 subst eb
 refine Za ?_
 refine Zn (v:=(.slice none 0 0)) rfl ?_
 refine wpList_nil ?_
 refine Qt ?_
 refine Za ?_
 refine Zb (v:=(.slice xa la.length ca)) rfl ?_
 refine Zb (v:=(.slice xb lb.length cb)) rfl ?_
 refine q48 (cs:=[(.slice xa la.length ca),(.slice xb lb.length cb)]) (e:=47) hS (fun _=>by kernel_rfl) ?_
 intro b1 w1 hS1
 obtain⟨σ1,hS2,hsub1,hfr1⟩:=hS1.freeze (i:=0) rfl rfl rfl
 have hvr1:=Bc (hS1.get (i:=0) rfl) hfr1
 refine z29 (args:=[(.slice (some ⟨b1,0,none⟩) 2 2)]) rfl Tryz.call56 (Calls.mono (c_of _ [la,lb] hS2.view (rsl2 (size:=1) (cs:=[_]) (ds:=[_]) hvr1 rfl rfl ⟨_,rfl,(RSl.menc hsub1 ha)⟩ ⟨_,rfl,(RSl.menc hsub1 hb)⟩) (by have:=(RSl.len (RSl.menc hsub1 ha));have:=(RSl.len (RSl.menc hsub1 hb));simp;omega)) ?_)
 rintro _ w2 ⟨rfl,hg1⟩
 refine⟨_,rfl,?_⟩
 have hS3:=hS2.grow hg1
 refine q7p (cs:=brow 10000 (fun i=>false)) hS3 (q49 Tryz.type113 (q23 j9f j97) (by omega)) (by simp[Value.cells,q30]) ?_
 intro b2 w3 hS4
 refine q56 (T:=113) (vs:=brow 10000 (Sp.cov [la,lb].flatten)) (cs':=brow 10000 (Sp.cov [la,lb].flatten)) (ms':=[blk b2 113 (brow 10000 (Sp.cov [la,lb].flatten))]) (i:=0) hS4 rfl rfl (q6l _) Tryz.sizeOf113 (Jm _ _) (q6m _ _) rfl (by simp[Jm]) (q00 (by simp[Jm])) rfl ?_
 intro w4 hS5
 refine wpList_nil ?_
 refine Qt ?_
 refine Za ?_
 refine z6o (la:=[]) (lb:=[(.pointer (some ⟨b2,0,none⟩))]) rfl rfl ?_
 obtain⟨σ2,hS6,hsub2,hfr2⟩:=hS5.freeze (i:=0) rfl rfl rfl
 have hvr2:=Bc (hS5.get (i:=0) rfl) hfr2
 refine z29 (args:=[(.func (.func 109) #[] #[(.pointer (some ⟨b2,0,none⟩))])]) rfl Tryz.call108 (Calls.mono (j98 109 [(.pointer (some ⟨b2,0,none⟩))] (Sp.cov [la,lb].flatten) (fun _=>v2k) none (fun _=>rfl) Tryz.call109 (fun k w1 hk hV1 _=>(v0m _ k hV1 hvr2 hk).mono (fun e w2 h=>⟨h.1,h.2,trivial⟩)) hS6.view trivial (by rintro k ⟨⟩)) ?_)
 rintro _ w5 ⟨v1,σ3,rfl,hg2,hrd1,_⟩
 refine⟨_,rfl,?_⟩
 have hS7:=hS6.grow hg2
 refine Zn (v:=v1) rfl ?_
 refine wpList_nil ?_
 refine Qt ?_
 refine wp_ret ?_
 refine ret1 rfl (show ev _ _ _=v1 from rfl) ?_
 have hE:Sp.runs (fun i=>Sp.cov la i||Sp.cov lb i) 10000=(Sp.runs (Sp.cov [la,lb].flatten) 10000):=Sp.runs_congr (fun i hi=>(Sp.cov_two la lb i).symm)
 exact⟨v1,σ3,rfl,hS7.done,by rw[hE];exact hrd1⟩
theorem c_Common{σ:Hv}{w:World}(a:Value)(b:Value)(la:List (Int×Int))(lb:List (Int×Int))(hV:View σ w)(ha:RSl 2 (REnc q0y) σ a la)(hb:RSl 2 (REnc q0y) σ b lb):
  Calls Tryz.prog 97 #[a,b] w fun e w1=> ∃(v:Value) (σ1:Hv),e= .returned v/\Grow [] σ w σ1 w1/\RSl 2 (REnc q0y) σ1 v (Sp.runs (fun i=>Sp.cov la i && Sp.cov lb i) 10000):=by
 refine enter Tryz.func97 rfl rfl rfl ?_
 have hS:=St.start hV
 obtain⟨xa,ca,ea⟩:=ha.shape
 subst ea
 obtain⟨xb,cb,eb⟩:=hb.shape
 subst eb
 refine Za ?_
 refine Zn (v:=(.slice none 0 0)) rfl ?_
 refine wpList_nil ?_
 refine Qt ?_
 refine Za ?_
 refine Zb (v:=(.slice xa la.length ca)) rfl ?_
 refine q48 (cs:=[(.slice xa la.length ca)]) (e:=47) hS (fun _=>by kernel_rfl) ?_
 intro b1 w1 hS1
 obtain⟨σ1,hS2,hsub1,hfr1⟩:=hS1.freeze (i:=0) rfl rfl rfl
 have hvr1:=Bc (hS1.get (i:=0) rfl) hfr1
 refine z29 (args:=[(.slice (some ⟨b1,0,none⟩) 1 1)]) rfl Tryz.call56 (Calls.mono (c_of _ [la] hS2.view (rsl1 (size:=1) hvr1 rfl ⟨_,rfl,(RSl.menc hsub1 ha)⟩) (by have:=(RSl.len (RSl.menc hsub1 ha));simp;omega)) ?_)
 rintro _ w2 ⟨rfl,hg1⟩
 refine⟨_,rfl,?_⟩
 have hS3:=hS2.grow hg1
 refine Zb (v:=(.slice xb lb.length cb)) rfl ?_
 refine q48 (cs:=[(.slice xb lb.length cb)]) (e:=47) hS3 (fun _=>by kernel_rfl) ?_
 intro b2 w3 hS4
 obtain⟨σ2,hS5,hsub2,hfr2⟩:=hS4.freeze (i:=0) rfl rfl rfl
 have hvr2:=Bc (hS4.get (i:=0) rfl) hfr2
 refine z29 (args:=[(.slice (some ⟨b2,0,none⟩) 1 1)]) rfl Tryz.call56 (Calls.mono (c_of _ [lb] hS5.view (rsl1 (size:=1) hvr2 rfl ⟨_,rfl,(RSl.menc (Sub.trans hsub1 hsub2) hb)⟩) (by have:=(RSl.len (RSl.menc (Sub.trans hsub1 hsub2) hb));simp;omega)) ?_)
 rintro _ w4 ⟨rfl,hg2⟩
 refine⟨_,rfl,?_⟩
 have hS6:=hS5.grow hg2
 refine q7p (cs:=brow 10000 (fun i=>false)) hS6 (q49 Tryz.type113 (q23 j9f j97) (by omega)) (by simp[Value.cells,q30]) ?_
 intro b3 w5 hS7
 refine q7p (cs:=brow 10000 (fun i=>false)) hS7 (q49 Tryz.type113 (q23 j9f j97) (by omega)) (by simp[Value.cells,q30]) ?_
 intro b4 w6 hS8
 refine q56 (T:=113) (vs:=brow 10000 (Sp.cov [la].flatten)) (cs':=brow 10000 (Sp.cov [la].flatten)) (ms':=[blk b4 113 (brow 10000 (fun i=>false)),blk b3 113 (brow 10000 (Sp.cov [la].flatten))]) (i:=1) hS8 rfl rfl (q6l _) Tryz.sizeOf113 (Jm _ _) (q6m _ _) rfl (by simp[Jm]) (q00 (by simp[Jm])) rfl ?_
 intro w7 hS9
 refine q56 (T:=113) (vs:=brow 10000 (Sp.cov [lb].flatten)) (cs':=brow 10000 (Sp.cov [lb].flatten)) (ms':=[blk b4 113 (brow 10000 (Sp.cov [lb].flatten)),blk b3 113 (brow 10000 (Sp.cov [la].flatten))]) (i:=0) hS9 rfl rfl (q6l _) Tryz.sizeOf113 (Jm _ _) (q6m _ _) rfl (by simp[Jm]) (q00 (by simp[Jm])) rfl ?_
 intro w8 hS10
 refine wpList_nil ?_
 refine Qt ?_
 refine Za ?_
 refine z6o (la:=[]) (lb:=[(.pointer (some ⟨b3,0,none⟩)),(.pointer (some ⟨b4,0,none⟩))]) rfl rfl ?_
 obtain⟨σ3,hS11,hsub3,hfr3⟩:=hS10.freeze (i:=1) rfl rfl rfl
 have hvr3:=Bc (hS10.get (i:=1) rfl) hfr3
 obtain⟨σ4,hS12,hsub4,hfr4⟩:=hS11.freeze (i:=0) rfl rfl rfl
 have hvr4:=Bc (hS11.get (i:=0) rfl) hfr4
 refine z29 (args:=[(.func (.func 143) #[] #[(.pointer (some ⟨b3,0,none⟩)),(.pointer (some ⟨b4,0,none⟩))])]) rfl Tryz.call108 (Calls.mono (j98 143 [(.pointer (some ⟨b3,0,none⟩)),(.pointer (some ⟨b4,0,none⟩))] (fun i=>Sp.cov [la].flatten i && Sp.cov [lb].flatten i) (fun _=>v2k) none (fun _=>rfl) Tryz.call143 (fun k w1 hk hV1 _=>(w7l _ _ k hV1 (hvr3.mono hsub4) hvr4 hk).mono (fun e w2 h=>⟨h.1,h.2,trivial⟩)) hS12.view trivial (by rintro k ⟨⟩)) ?_)
 rintro _ w9 ⟨v1,σ5,rfl,hg3,hrd1,_⟩
 refine⟨_,rfl,?_⟩
 have hS13:=hS12.grow hg3
 refine Zn (v:=v1) rfl ?_
 refine wpList_nil ?_
 refine Qt ?_
 refine wp_ret ?_
 refine ret1 rfl (show ev _ _ _=v1 from rfl) ?_
 have hE:Sp.runs (fun i=>Sp.cov la i && Sp.cov lb i) 10000=(Sp.runs (fun i=>Sp.cov [la].flatten i && Sp.cov [lb].flatten i) 10000):=Sp.runs_congr (fun i hi=>by rw[←Sp.cov_one la,←Sp.cov_one lb])
 exact⟨v1,σ5,rfl,hS13.done,by rw[hE];exact hrd1⟩
theorem c_Minus{σ:Hv}{w:World}(a:Value)(b:Value)(la:List (Int×Int))(lb:List (Int×Int))(hV:View σ w)(ha:RSl 2 (REnc q0y) σ a la)(hb:RSl 2 (REnc q0y) σ b lb):
  Calls Tryz.prog 92 #[a,b] w fun e w1=> ∃(v:Value) (σ1:Hv),e= .returned v/\Grow [] σ w σ1 w1/\RSl 2 (REnc q0y) σ1 v (Sp.runs (fun i=>Sp.cov la i && !Sp.cov lb i) 10000):=by
 refine enter Tryz.func92 rfl rfl rfl ?_
 have hS:=St.start hV
 obtain⟨xa,ca,ea⟩:=ha.shape
 subst ea
 obtain⟨xb,cb,eb⟩:=hb.shape
 subst eb
 refine Za ?_
 refine Zn (v:=(.slice none 0 0)) rfl ?_
 refine wpList_nil ?_
 refine Qt ?_
 refine Za ?_
 refine Zb (v:=(.slice xa la.length ca)) rfl ?_
 refine q48 (cs:=[(.slice xa la.length ca)]) (e:=47) hS (fun _=>by kernel_rfl) ?_
 intro b1 w1 hS1
 obtain⟨σ1,hS2,hsub1,hfr1⟩:=hS1.freeze (i:=0) rfl rfl rfl
 have hvr1:=Bc (hS1.get (i:=0) rfl) hfr1
 refine z29 (args:=[(.slice (some ⟨b1,0,none⟩) 1 1)]) rfl Tryz.call56 (Calls.mono (c_of _ [la] hS2.view (rsl1 (size:=1) hvr1 rfl ⟨_,rfl,(RSl.menc hsub1 ha)⟩) (by have:=(RSl.len (RSl.menc hsub1 ha));simp;omega)) ?_)
 rintro _ w2 ⟨rfl,hg1⟩
 refine⟨_,rfl,?_⟩
 have hS3:=hS2.grow hg1
 refine Zb (v:=(.slice xb lb.length cb)) rfl ?_
 refine q48 (cs:=[(.slice xb lb.length cb)]) (e:=47) hS3 (fun _=>by kernel_rfl) ?_
 intro b2 w3 hS4
 obtain⟨σ2,hS5,hsub2,hfr2⟩:=hS4.freeze (i:=0) rfl rfl rfl
 have hvr2:=Bc (hS4.get (i:=0) rfl) hfr2
 refine z29 (args:=[(.slice (some ⟨b2,0,none⟩) 1 1)]) rfl Tryz.call56 (Calls.mono (c_of _ [lb] hS5.view (rsl1 (size:=1) hvr2 rfl ⟨_,rfl,(RSl.menc (Sub.trans hsub1 hsub2) hb)⟩) (by have:=(RSl.len (RSl.menc (Sub.trans hsub1 hsub2) hb));simp;omega)) ?_)
 rintro _ w4 ⟨rfl,hg2⟩
 refine⟨_,rfl,?_⟩
 have hS6:=hS5.grow hg2
 refine q7p (cs:=brow 10000 (fun i=>false)) hS6 (q49 Tryz.type113 (q23 j9f j97) (by omega)) (by simp[Value.cells,q30]) ?_
 intro b3 w5 hS7
 refine q7p (cs:=brow 10000 (fun i=>false)) hS7 (q49 Tryz.type113 (q23 j9f j97) (by omega)) (by simp[Value.cells,q30]) ?_
 intro b4 w6 hS8
 refine q56 (T:=113) (vs:=brow 10000 (Sp.cov [la].flatten)) (cs':=brow 10000 (Sp.cov [la].flatten)) (ms':=[blk b4 113 (brow 10000 (fun i=>false)),blk b3 113 (brow 10000 (Sp.cov [la].flatten))]) (i:=1) hS8 rfl rfl (q6l _) Tryz.sizeOf113 (Jm _ _) (q6m _ _) rfl (by simp[Jm]) (q00 (by simp[Jm])) rfl ?_
 intro w7 hS9
 refine q56 (T:=113) (vs:=brow 10000 (Sp.cov [lb].flatten)) (cs':=brow 10000 (Sp.cov [lb].flatten)) (ms':=[blk b4 113 (brow 10000 (Sp.cov [lb].flatten)),blk b3 113 (brow 10000 (Sp.cov [la].flatten))]) (i:=0) hS9 rfl rfl (q6l _) Tryz.sizeOf113 (Jm _ _) (q6m _ _) rfl (by simp[Jm]) (q00 (by simp[Jm])) rfl ?_
 intro w8 hS10
 refine wpList_nil ?_
 refine Qt ?_
 refine Za ?_
 refine z6o (la:=[]) (lb:=[(.pointer (some ⟨b3,0,none⟩)),(.pointer (some ⟨b4,0,none⟩))]) rfl rfl ?_
 obtain⟨σ3,hS11,hsub3,hfr3⟩:=hS10.freeze (i:=1) rfl rfl rfl
 have hvr3:=Bc (hS10.get (i:=1) rfl) hfr3
 obtain⟨σ4,hS12,hsub4,hfr4⟩:=hS11.freeze (i:=0) rfl rfl rfl
 have hvr4:=Bc (hS11.get (i:=0) rfl) hfr4
 refine z29 (args:=[(.func (.func 137) #[] #[(.pointer (some ⟨b3,0,none⟩)),(.pointer (some ⟨b4,0,none⟩))])]) rfl Tryz.call108 (Calls.mono (j98 137 [(.pointer (some ⟨b3,0,none⟩)),(.pointer (some ⟨b4,0,none⟩))] (fun i=>Sp.cov [la].flatten i && !Sp.cov [lb].flatten i) (fun _=>v2k) none (fun _=>rfl) Tryz.call137 (fun k w1 hk hV1 _=>(v0n _ _ k hV1 (hvr3.mono hsub4) hvr4 hk).mono (fun e w2 h=>⟨h.1,h.2,trivial⟩)) hS12.view trivial (by rintro k ⟨⟩)) ?_)
 rintro _ w9 ⟨v1,σ5,rfl,hg3,hrd1,_⟩
 refine⟨_,rfl,?_⟩
 have hS13:=hS12.grow hg3
 refine Zn (v:=v1) rfl ?_
 refine wpList_nil ?_
 refine Qt ?_
 refine wp_ret ?_
 refine ret1 rfl (show ev _ _ _=v1 from rfl) ?_
 have hE:Sp.runs (fun i=>Sp.cov la i && !Sp.cov lb i) 10000=(Sp.runs (fun i=>Sp.cov [la].flatten i && !Sp.cov [lb].flatten i) 10000):=Sp.runs_congr (fun i hi=>by rw[←Sp.cov_one la,←Sp.cov_one lb])
 exact⟨v1,σ5,rfl,hS13.done,by rw[hE];exact hrd1⟩
theorem c_Normal{σ:Hv}{w:World}(a:Value)(la:List (Int×Int))(hV:View σ w)(ha:RSl 2 (REnc q0y) σ a la):
  Calls Tryz.prog 14 #[a] w fun e w1=> ∃(v:Value) (σ1:Hv),e= .returned v/\Grow [] σ w σ1 w1/\RSl 2 (REnc q0y) σ1 v (Sp.runs (Sp.cov la) 10000):=by
 refine enter Tryz.func14 rfl rfl rfl ?_
 have hS:=St.start hV
 obtain⟨xa,ca,ea⟩:=ha.shape
 subst ea
 refine Za ?_
 refine Zn (v:=(.slice none 0 0)) rfl ?_
 refine wpList_nil ?_
 refine Qt ?_
 refine Za ?_
 refine Zb (v:=(.slice xa la.length ca)) rfl ?_
 refine z29 (args:=[(.slice xa la.length ca),(.slice none 0 0)]) rfl Tryz.call55 (Calls.mono (v32 _ _ la [] hS.view ha RSl.nil) ?_)
 rintro _ w1 ⟨v1,σ1,rfl,hg1,hrd1⟩
 refine⟨_,rfl,?_⟩
 have hS1:=hS.grow hg1
 obtain⟨xa1,ca1,he1⟩:=hrd1.shape
 subst he1
 refine Zn (v:=(.slice xa1 ((Sp.runs (fun i=>Sp.cov la i||Sp.cov [] i) 10000)).length ca1)) rfl ?_
 refine wpList_nil ?_
 refine Qt ?_
 refine wp_ret ?_
 refine ret1 rfl (show ev _ _ _=(.slice xa1 ((Sp.runs (fun i=>Sp.cov la i||Sp.cov [] i) 10000)).length ca1) from rfl) ?_
 have hE:Sp.runs (Sp.cov la) 10000=(Sp.runs (fun i=>Sp.cov la i||Sp.cov [] i) 10000):=Sp.runs_congr (fun i hi=>by rw[Sp.cov_nil,Bool.or_false])
 exact⟨(.slice xa1 ((Sp.runs (fun i=>Sp.cov la i||Sp.cov [] i) 10000)).length ca1),σ1,rfl,hS1.done,by rw[hE];exact hrd1⟩
theorem c_Size{σ:Hv}{w:World}(a:Value)(la:List (Int×Int))(hV:View σ w)(ha:RSl 2 (REnc q0y) σ a la):
  Calls Tryz.prog 15 #[a] w fun e w1=>e= .returned (.int .i64 ((Sp.cnt (Sp.cov la) 10000:Nat):Int))/\Grow [] σ w σ w1:=by
 refine enter Tryz.func15 rfl rfl rfl ?_
 have hS:=St.start hV
 obtain⟨xa,ca,ea⟩:=ha.shape
 subst ea
 refine Za ?_
 refine Zn (v:=(.int .i64 (0:Int))) rfl ?_
 refine wpList_nil ?_
 refine Qt ?_
 refine Za ?_
 refine Zn (v:=(.int .i64 (0:Int))) rfl ?_
 refine wpList_nil ?_
 refine Qt ?_
 refine wp_seq ?_
 refine Za ?_
 refine Zb (v:=(.slice xa la.length ca)) rfl ?_
 refine q48 (cs:=[(.slice xa la.length ca)]) (e:=47) hS (fun _=>by kernel_rfl) ?_
 intro b1 w1 hS1
 obtain⟨σ1,hS2,hsub1,hfr1⟩:=hS1.freeze (i:=0) rfl rfl rfl
 have hvr1:=Bc (hS1.get (i:=0) rfl) hfr1
 refine z29 (args:=[(.slice (some ⟨b1,0,none⟩) 1 1)]) rfl Tryz.call56 (Calls.mono (c_of _ [la] hS2.view (rsl1 (size:=1) hvr1 rfl ⟨_,rfl,(RSl.menc hsub1 ha)⟩) (by have:=(RSl.len (RSl.menc hsub1 ha));simp;omega)) ?_)
 rintro _ w2 ⟨rfl,hg1⟩
 refine⟨_,rfl,?_⟩
 have hS3:=hS2.grow hg1
 refine Zb (v:=(.int .i64 (0:Int))) rfl ?_
 refine wpList_nil ?_
 refine Qt ?_
 refine wp_block ?_
 refine loop (fun m f z=> ∃(k:Nat) (g:Fr),m=10000 - k/\f=(upd (upd (upd g 3 (.int .i64 ((Sp.cnt (Sp.cov [la].flatten) k:Nat):Int))) 8 (.agg (brow 10000 (Sp.cov [la].flatten)).toArray)) 9 (.int .i64 ((k:Nat):Int)))/\St ⟨w,σ,[]⟩ z σ1 []/\(k<=10000)) (m0:=_) ⟨0,_,rfl,(Q8 rfl (Q8 rfl (Q8 rfl rfl))),hS3,(Nat.zero_le _)⟩ ?_
 rintro _ _ w3 ⟨k,g,rfl,rfl,hS4,hk⟩
 have hcl:=Sp.cnt_le (Sp.cov [la].flatten) k
 refine Za ?_
 refine w25 (r:=(decide (((k:Nat):Int)<(10000:Int)))) rfl rfl rfl ?_
 refine wpList_nil ?_
 refine Qt ?_
 refine wp_seq ?_
 refine if_d (((k:Nat):Int)<(10000:Int)) rfl (fun ht1=> ?_) (fun ht1=> ?_)
 ·refine wp_skip ?_
  refine Qt ?_
  refine wp_seq ?_
  refine wp_block ?_
  refine Za ?_
  refine j9b (k:=k) (v:=(.bool (Sp.cov [la].flatten k))) rfl rfl (by omega) (by omega) Tryz.underlying113 Tryz.sizeOf4 Tryz.isAgg4 (by rw[List.getElem?_toArray];exact q7q (by omega)) ?_
  refine Zn (v:=(.bool (Sp.cov [la].flatten k))) rfl ?_
  refine wpList_nil ?_
  refine Qt ?_
  refine Za ?_
  refine Zb (v:=(.bool (Sp.cov [la].flatten k))) rfl ?_
  refine wpList_nil ?_
  refine Qt ?_
  refine if_b rfl (fun ht2=> ?_) (fun ht2=> ?_)
  ·refine Hq ?_
   refine Zb (v:=(.int .i64 ((Sp.cnt (Sp.cov [la].flatten) k:Nat):Int))) rfl ?_
   refine z20 (r:=((Sp.cnt (Sp.cov [la].flatten) k+1:Nat):Int)) rfl rfl (nw (by omega) (by omega) (by omega)) ?_
   refine Zn (v:=(.int .i64 ((Sp.cnt (Sp.cov [la].flatten) k+1:Nat):Int))) rfl ?_
   refine wpList_nil ?_
   refine j4w ?_
   refine Qt ?_
   refine Hq ?_
   refine z20 (r:=((k+1:Nat):Int)) rfl rfl (nw (by omega) (by omega) (by omega)) ?_
   refine Zb (v:=(.int .i64 ((k+1:Nat):Int))) rfl ?_
   refine wpList_nil ?_
   refine Qt ?_
   have hc:Sp.cnt (Sp.cov [la].flatten) (k+1)=Sp.cnt (Sp.cov [la].flatten) k+1:=by rw[Sp.cnt,ht2];rfl
   exact⟨_,_,rfl,⟨k+1,_,rfl,(Q8 rfl (Q8 rfl (Q8 (congrArg (fun z:Nat=>Value.int .i64 (z:Int)) hc.symm) rfl))),hS4,(by omega)⟩,by omega⟩
  ·refine wp_skip ?_
   refine j4w ?_
   refine Qt ?_
   refine Hq ?_
   refine z20 (r:=((k+1:Nat):Int)) rfl rfl (nw (by omega) (by omega) (by omega)) ?_
   refine Zb (v:=(.int .i64 ((k+1:Nat):Int))) rfl ?_
   refine wpList_nil ?_
   refine Qt ?_
   have hc:Sp.cnt (Sp.cov [la].flatten) (k+1)=Sp.cnt (Sp.cov [la].flatten) k+0:=by rw[Sp.cnt,ht2];rfl
   exact⟨_,_,rfl,⟨k+1,_,rfl,(Q8 rfl (Q8 rfl (Q8 (congrArg (fun z:Nat=>Value.int .i64 (z:Int)) hc.symm) rfl))),hS4,(by omega)⟩,by omega⟩
 ·refine wp_exit ?_
  refine q9x ?_
  refine q9x ?_
  refine z6q ?_
  refine Qt ?_
  refine Za ?_
  refine Zb (v:=(.int .i64 ((Sp.cnt (Sp.cov [la].flatten) k:Nat):Int))) rfl ?_
  refine Zn (v:=(.int .i64 ((Sp.cnt (Sp.cov [la].flatten) k:Nat):Int))) rfl ?_
  refine wpList_nil ?_
  refine Qt ?_
  refine wp_ret ?_
  refine ret1 rfl (show ev _ _ _=(.int .i64 ((Sp.cnt (Sp.cov [la].flatten) k:Nat):Int)) from rfl) ?_
  obtain rfl:k=10000:=by omega
  exact⟨by rw[Sp.cnt_congr (fun i _=>(Sp.cov_one la i).symm)],hS4.done.forget⟩
end Go.Proofs.YtdaibboenkgpaaaGreatDoor
end
noncomputable section
set_option maxRecDepth 100000
open Go Go.RowKit Go.Fl Go.Fl.Lk Go.Fx
namespace Go.En
theorem j5p{σ:Hv}{w:World}{g:Nat}{T:C}{n:Nat}{l:List (car T)}(hV:View σ w)(hs:SRep D (fun _=>none) σ (.pointer (some ⟨g,0,none⟩)) (.fap T n l)){i j:Nat}{x:car T}{s:FV Sg}(hx:l[i]? =some x)(hj:(D.shape T x)[j]? =some s)(hz:j<D.size T):
  ∃v,w.cell? ⟨g,i*D.size T+j,none⟩=some v/\RepF D σ v s:=by
 generalize hq:Value.pointer (some (⟨g,0,none⟩:Addr))=q at hs
 cases hs with
 |fap ad cs T' N l' hN h hl hr=>
  cases hq
  have hrow:=hr i x hx
  have hlen:=okP.ok.len T x
  have hjl:j<((cs.drop (i*D.size T)).take (D.size T)).length:=by rw[hrow.1,hlen];exact hz
  obtain⟨v,hv⟩: ∃v,((cs.drop (i*D.size T)).take (D.size T))[j]? =some v:=⟨_,List.getElem?_eq_getElem hjl⟩
  refine⟨v,?_,hrow.2 j v s hv hj⟩
  rw[List.getElem?_take,if_pos hz,List.getElem?_drop] at hv
  have:=hV.cell (h _ v hv)
  rw[Jl,Nat.zero_add] at this
  exact this
theorem v0o: ∀c,c<256->w2m[c]? =some ((Go.Lib.firstT c:Nat):Int):=by decide
theorem v54: ∀i,i<16->(j02[i]?).map (fun a=>(a.lo,a.hi))=some (((Go.Lib.accLo i:Nat):Int),((Go.Lib.accHi i:Nat):Int)):=by decide
theorem tabs{σ:Hv}{w:World}(hV:View σ w)(hG:Glb D σ):Go.Lib.Utf8Tabs (Proofs.Tryz.lays196_ren.g 3) (Proofs.Tryz.lays196_ren.g 4) w:=by
 refine⟨fun c hc=> ?_,fun i hi=> ?_⟩
 ·have h:=hG.known (Proofs.Tryz.lays196_ren.g 3)
  obtain⟨v,h1,h2⟩:=j5p (T:= .u8) (n:=256) (l:=w2m) hV h (i:=c) (j:=0) (s:= .int .u8 ((Go.Lib.firstT c:Nat):Int)) (v0o c hc) rfl (by decide)
  cases h2
  simpa [show D.size C.u8=1 from rfl] using h1
 ·have h:=hG.known (Proofs.Tryz.lays196_ren.g 4)
  have ha:=v54 i hi
  obtain⟨a,e1,e2⟩:=Option.map_eq_some_iff.1 ha
  obtain⟨v,h1,h2⟩:=j5p (T:= .acc) (n:=16) (l:=j02) hV h (i:=i) (j:=0) (s:= .int .u8 a.lo) e1 rfl (by decide)
  obtain⟨v',h1',h2'⟩:=j5p (T:= .acc) (n:=16) (l:=j02) hV h (i:=i) (j:=1) (s:= .int .u8 a.hi) e1 rfl (by decide)
  cases h2;cases h2'
  simp only[Prod.mk.injEq] at e2
  rw[e2.1] at h1;rw[e2.2] at h1'
  refine⟨by rw[Nat.mul_comm];simpa [show D.size C.acc=2 from rfl] using h1,by rw[Nat.mul_comm];simpa [show D.size C.acc=2 from rfl] using h1'⟩
theorem j99{w w':World}(h:Below w.heap.size w w'):Keeps [] w w':=⟨h.os,h.tape,h.output,h.size,fun k hk _=>h.block k hk⟩
theorem w3n{σ:Hv}{w w1:World}{args:List (Tr Sg)}{vals:List Value}{K:List (Tr Sg)->List (Tr Sg)->Prop}{rets outs:List (Tr Sg)}{rv:List Value}(hS:St ⟨w,σ,feet []⟩ w σ [])(hK:K rets outs)(hb:Below w.heap.size w w1)(hL:LayL D σ rets rv [])(hT:LayT D σ args outs vals [] []):
  Back D σ w args vals [] K (.returned (retV rv)) w1:=by
 have hk:=j99 hb
 refine⟨rets,outs,rv,σ,[],[],rfl,hK,hL,hT,?_⟩
 refine⟨hk,fun b o hbo=> ?_,Sub.refl _,fun _ _ _=>rfl,by simp,by simp,by simp,by simp⟩
 have h1:=hS.view b o hbo
 have hlt:b<w.heap.size:=by
  rcases Nat.lt_or_ge b w.heap.size with h|h
  ·exact h
  ·rw[Array.getElem?_eq_none h] at h1;cases h1
 rw[hk.block b hlt (by simp)];exact h1
theorem z5u:q9t Proofs.Tryz.prog D 123 (conV ([.v]:LP) ([.str]:LV) ([.bool]:LV) ([.same]:LV) (fun a K=>Bm a.1 (fun q0=>K (q0,()) ((),())))):=by
 intro args K hm w σ vals ins hG hL hS
 obtain⟨a,ha,hm⟩:=Ql hm
 have hargs:=Ux ha
 subst hargs
 obtain⟨s,_⟩:=a
 cases hL with
 |cons hp hr=>
 cases hr
 cases hp with
 |f hf=>
 cases hf
 have hm:s.size<=9223372036854775807/\K [.f (.bool (Go.Lib.validD s.data.toList))] [.same]:=hm
 refine Calls.mono (Go.Proofs.Any.utf8_ValidString Proofs.Tryz.lays196 s w hm.1 (tabs hS.view hG)) ?_
 rintro e w' ⟨rfl,hb⟩
 exact w3n (rv:=[.bool (Go.Lib.validD s.data.toList)]) hS hm.2 hb (.cons (ms:=[]) (.f (.bool _)) .nil) (.skip (a0:=[]) .nil)
theorem z2c{σ:Hv}{v:Value}{l:List Spn}(h:RepF D σ v (.sl C.span l)):RSl 2 (REnc q0y) σ v (l.map fun s=>(s.lo,s.hi)):=by
 obtain⟨a,cap,e1,e2,e3,e4⟩:=h.toRSl okP.ok
 have hl:(l.map fun s=>(s.lo,s.hi)).length=l.length:=List.length_map ..
 refine⟨a,cap,by rw[hl];exact e1,by rw[hl];exact e2,by rw[hl];exact e3,fun i x hx=> ?_⟩
 rw[List.getElem?_map] at hx
 obtain⟨y,hy,rfl⟩:=Option.map_eq_some_iff.1 hx
 obtain⟨ad,cs,f1,f2,f3,f4⟩:=e4 i y hy
 refine⟨ad,cs,f1,f2,f3,?_⟩
 obtain⟨u,v,rfl⟩: ∃u v,cs=[u,v]:=by
  match cs,f2 with
  |[u,v],_=>exact⟨u,v,rfl⟩
 have g1:=f4.2 0 u (.int .i64 y.lo) rfl rfl
 have g2:=f4.2 1 v (.int .i64 y.hi) rfl rfl
 cases g1;cases g2
 rfl
theorem w0a{σ:Hv}{v:Value}{l:List (Int×Int)}(h:RSl 2 (REnc q0y) σ v l):RepF D σ v (.sl C.span (l.map fun s=>Spn.mk s.1 s.2)):=by
 refine RepF.ofRSl okP.ok ?_
 obtain⟨a,cap,rfl,h1,h2,h3⟩:=h
 refine⟨a,cap,by simp,by simpa using h1,by simpa using h2,fun i x hx=> ?_⟩
 rw[List.getElem?_map] at hx
 obtain⟨y,hy,rfl⟩:=Option.map_eq_some_iff.1 hx
 obtain⟨ad,cs,e1,e2,e3,e4⟩:=h3 i y hy
 have e4:cs=q0y y:=e4
 subst e4
 exact⟨ad,_,e1,rfl,e3,Vg (.int _ _) (Vg (.int _ _) z3t)⟩
theorem j1c:q9t Proofs.Tryz.prog D 92 (conV ([.sl C.span,.sl C.span]:LP) ([.sl C.span,.sl C.span]:LV) ([.sl C.span]:LV) ([.same,.same]:LV) (fun a K=>V9 a.1 a.2.1 (fun q0=>K (q0,()) ((),(),())))):=by
 intro args K hm w σ vals ins hG hL hS
 obtain⟨a,ha,hm⟩:=Ql hm
 have hargs:=Ux ha
 subst hargs
 obtain⟨s,t,_⟩:=a
 cases hL with
 | @cons _ _ v1 _ _ _ hp hr=>
 cases hr with
 | @cons _ _ v2 _ _ _ hq hr=>
 cases hr
 cases hp with
 |f hf1=>
 cases hq with
 |f hf2=>
 have hm:K [.f (.sl C.span ((Go.Fl.Sp.runs (fun i=>Go.Fl.Sp.cov (s.map fun s=>(s.lo,s.hi)) i && !Go.Fl.Sp.cov (t.map fun s=>(s.lo,s.hi)) i) 10000).map fun s=>Spn.mk s.1 s.2))] [.same,.same]:=hm
 refine Calls.mono (Go.Proofs.YtdaibboenkgpaaaGreatDoor.c_Minus v1 v2 _ _ hS.view (z2c hf1) (z2c hf2)) ?_
 rintro e w1 ⟨v,σ1,rfl,hg,hr⟩
 exact⟨_,[.same,.same],[v],σ1,[],[],rfl,hm,.cons (ms:=[]) (.f (w0a hr)) .nil,.skip (a0:=[]) (.skip (a0:=[]) .nil),hS.grow hg⟩
theorem z85:q9t Proofs.Tryz.prog D 97 (conV ([.sl C.span,.sl C.span]:LP) ([.sl C.span,.sl C.span]:LV) ([.sl C.span]:LV) ([.same,.same]:LV) (fun a K=>Ve a.1 a.2.1 (fun q0=>K (q0,()) ((),(),())))):=by
 intro args K hm w σ vals ins hG hL hS
 obtain⟨a,ha,hm⟩:=Ql hm
 have hargs:=Ux ha
 subst hargs
 obtain⟨s,t,_⟩:=a
 cases hL with
 | @cons _ _ v1 _ _ _ hp hr=>
 cases hr with
 | @cons _ _ v2 _ _ _ hq hr=>
 cases hr
 cases hp with
 |f hf1=>
 cases hq with
 |f hf2=>
 have hm:K [.f (.sl C.span ((Go.Fl.Sp.runs (fun i=>Go.Fl.Sp.cov (s.map fun s=>(s.lo,s.hi)) i && Go.Fl.Sp.cov (t.map fun s=>(s.lo,s.hi)) i) 10000).map fun s=>Spn.mk s.1 s.2))] [.same,.same]:=hm
 refine Calls.mono (Go.Proofs.YtdaibboenkgpaaaGreatDoor.c_Common v1 v2 _ _ hS.view (z2c hf1) (z2c hf2)) ?_
 rintro e w1 ⟨v,σ1,rfl,hg,hr⟩
 exact⟨_,[.same,.same],[v],σ1,[],[],rfl,hm,.cons (ms:=[]) (.f (w0a hr)) .nil,.skip (a0:=[]) (.skip (a0:=[]) .nil),hS.grow hg⟩
theorem z86:q9t Proofs.Tryz.prog D 14 (conV ([.sl C.span]:LP) ([.sl C.span]:LV) ([.sl C.span]:LV) ([.same]:LV) (fun a K=>H1 a.1 (fun q0=>K (q0,()) ((),())))):=by
 intro args K hm w σ vals ins hG hL hS
 obtain⟨a,ha,hm⟩:=Ql hm
 have hargs:=Ux ha
 subst hargs
 obtain⟨s,_⟩:=a
 cases hL with
 | @cons _ _ v1 _ _ _ hp hr=>
 cases hr
 cases hp with
 |f hf1=>
 have hm:K [.f (.sl C.span ((Go.Fl.Sp.runs (Go.Fl.Sp.cov (s.map fun s=>(s.lo,s.hi))) 10000).map fun s=>Spn.mk s.1 s.2))] [.same]:=hm
 refine Calls.mono (Go.Proofs.YtdaibboenkgpaaaGreatDoor.c_Normal v1 _ hS.view (z2c hf1)) ?_
 rintro e w1 ⟨v,σ1,rfl,hg,hr⟩
 exact⟨_,[.same],[v],σ1,[],[],rfl,hm,.cons (ms:=[]) (.f (w0a hr)) .nil,.skip (a0:=[]) .nil,hS.grow hg⟩
theorem j21:q9t Proofs.Tryz.prog D 15 (conV ([.sl C.span]:LP) ([.sl C.span]:LV) ([.int .i64]:LV) ([.same]:LV) (fun a K=>q1m a.1 (fun q0=>K (q0,()) ((),())))):=by
 intro args K hm w σ vals ins hG hL hS
 obtain⟨a,ha,hm⟩:=Ql hm
 have hargs:=Ux ha
 subst hargs
 obtain⟨s,_⟩:=a
 cases hL with
 | @cons _ _ v1 _ _ _ hp hr=>
 cases hr
 cases hp with
 |f hf1=>
 have hm:K [.f (.int .i64 ((Go.Fl.Sp.cnt (Go.Fl.Sp.cov (s.map fun s=>(s.lo,s.hi))) 10000:Nat):Int))] [.same]:=hm
 refine Calls.mono (Go.Proofs.YtdaibboenkgpaaaGreatDoor.c_Size v1 _ hS.view (z2c hf1)) ?_
 rintro e w1 ⟨rfl,hg⟩
 exact⟨_,[.same],[.int .i64 _],σ,[],[],rfl,hm,.cons (ms:=[]) (.f (.int _ _)) .nil,.skip (a0:=[]) .nil,hS.grow hg⟩
end Go.En
end
noncomputable section
set_option maxRecDepth 100000
open Go Go.RowKit Go.Fl Go.Fl.Lk Go.Fx
namespace Go.En
def q9k(X:q2n):Con Sg:=conV [.sl C.span] [.sl C.span] [.sl C.span] [.same] fun a K=>X a.1 (fun q0=>K (q0,()) ((),()))
theorem z87:MT 14 (q9k H1):=⟨entB (by kernel_rfl),z86⟩
def z3f(X:q57):Con Sg:=conV [.sl C.span] [.sl C.span] [.int .i64] [.same] fun a K=>X a.1 (fun q0=>K (q0,()) ((),()))
theorem j22:MT 15 (z3f q1m):=⟨entB (by kernel_rfl),j21⟩
def q8i(X:Bf):Con Sg:=conS [] [.bool] fun _ K=>X (fun q0=>K (q0,()))
theorem j5q{Rg:q2n}{q1x:q57}(h:AL [(14,q9k Rg),(15,z3f q1x)]):MT 4 (q8i (q7x Rg q1x)):=mS h []
theorem j5r:MT 4 (q8i q27):=j5q ⟨z87,j22,trivial⟩
def w7m(X:j5b):Con Sg:=conV [.sl C.u8,.v] [.sl C.u8,.int .i64] [.ptr 53 [.sl C.u8,.int .i64]] [.same,.same] fun a K=>X a.1 a.2.1 (fun q0 q1=>K ((q0,q1,()),()) ((),(),()))
theorem v33:MT 5 (w7m j5c):=mP (rk:=[.ptr 53 [.c,.v]]) (l:=[]) trivial [(6,⟨[1,4],[],[],[(.slot 0,.sl C.u8)]⟩)]
def w7n(X:j5d):Con Sg:=conS [.int .i64,.int .i64] [.int .i64] fun a K=>X a.1 a.2.1 (fun q0=>K (q0,()))
theorem v34:MT 6 (w7n j5e):=mS (l:=[]) trivial []
def q5p(X:Ue):Con Sg:=conS [] [.vec 92 C.decl] fun _ K=>X (fun q0=>K (q0,()))
theorem z0o:MT 16 (q5p Gh):=mS (l:=[]) trivial []
def w2o(X:z9y):Con Sg:=conV [.ptr 53 [.c,.v]] [.ptr 53 [.sl C.u8,.int .i64]] [.bool] [.ptr 53 [.same,.int .i64]] fun a K=>X a.1.1 a.1.2.1 (fun q0 q1=>K (q0,()) (((),q1,()),()))
theorem v0p:MT 57 (w2o j5f):=mP (rk:=[.v]) (l:=[]) trivial []
def Jb(X:Qr):Con Sg:=conV [.ptr 53 [.c,.v],.v] [.ptr 53 [.sl C.u8,.int .i64],.int .i64] [.int .i64] [.ptr 53 [.same,.int .i64],.same] fun a K=>X a.1.1 a.1.2.1 a.2.1 (fun q0 q1=>K (q0,()) (((),q1,()),(),()))
theorem v0q{z99:z9y}(h:AL [(57,w2o z99)]):MT 17 (Jb (j5g z99)):=mP (rk:=[.v]) h []
theorem Jq:MT 17 (Jb Q3):=v0q ⟨v0p,trivial⟩
def q5q(X:Uj):Con Sg:=conV [.ptr 53 [.c,.v]] [.ptr 53 [.sl C.u8,.int .i64]] [.str] [.ptr 53 [.same,.int .i64]] fun a K=>X a.1.1 a.1.2.1 (fun q0 q1=>K (q0,()) (((),q1,()),()))
theorem v0r{Qa:Qr}(h:AL [(17,Jb Qa)]):MT 18 (q5q (j5h Qa)):=mP (rk:=[.v]) h []
theorem z2d:MT 18 (q5q q28):=v0r ⟨Jq,trivial⟩
def q8j(X:G4):Con Sg:=conV [.ptr 53 [.c,.v],.v] [.ptr 53 [.sl C.u8,.int .i64],.int .i64] [.int .i64] [.ptr 53 [.same,.int .i64],.same] fun a K=>X a.1.1 a.1.2.1 a.2.1 (fun q0 q1=>K (q0,()) (((),q1,()),(),()))
theorem v0s{Qa:Qr}(h:AL [(17,Jb Qa)]):MT 19 (q8j (j5i Qa)):=mP (rk:=[.v]) h []
theorem z5v:MT 19 (q8j q5c):=v0s ⟨Jq,trivial⟩
def j5s(X:z1r):Con Sg:=conS [.int .i64,.vec 9 C.str] [.sl C.str] fun a K=>X a.1 a.2.1 (fun q0=>K (q0,()))
theorem w2p:MT 21 (j5s z9z):=mS (l:=[]) trivial []
def z2e(X:Bg):Con Sg:=conV [.ptr 53 [.c,.v]] [.ptr 53 [.sl C.u8,.int .i64]] [.vec 9 C.str] [.ptr 53 [.same,.int .i64]] fun a K=>X a.1.1 a.1.2.1 (fun q0 q1=>K (q0,()) (((),q1,()),()))
theorem v0t{Qa:Qr}(h:AL [(17,Jb Qa)]):MT 30 (z2e (j5j Qa)):=mP (rk:=[.own 9 C.str]) h [(9,⟨bl 397,[],[(0,(53,2))],[(.slot 4,.own 9 C.str),sI 5,(.cell 0 1,.int .i64)]⟩),(17,⟨bl 8121,[0],[],[sI 6,(.obj 1,.own 9 C.str)]⟩)]
theorem z92:MT 30 (z2e q5d):=v0t ⟨Jq,trivial⟩
end Go.En
end
noncomputable section
set_option maxRecDepth 100000
open Go Go.RowKit Go.Fl Go.Fl.Lk Go.Fx
namespace Go.En
def j5t(X:z3u):Con Sg:=conV [.ptr 53 [.c,.v]] [.ptr 53 [.sl C.u8,.int .i64]] [.str] [.ptr 53 [.same,.int .i64]] fun a K=>X a.1.1 a.1.2.1 (fun q0 q1=>K (q0,()) (((),q1,()),()))
theorem v35{Qa:Qr}(h:AL [(17,Jb Qa)]):MT 78 (j5t (j95 Qa)):=mP (rk:=[.v]) h []
theorem w7o:MT 78 (j5t j04):=v35 ⟨Jq,trivial⟩
def q7e(X:Gi):Con Sg:=conV [.ptr 53 [.c,.v],.v] [.ptr 53 [.sl C.u8,.int .i64],.int .i64] [.el C.val] [.ptr 53 [.same,.int .i64],.same] fun a K=>X a.1.1 a.1.2.1 a.2.1 (fun q0 q1=>K (q0,()) (((),q1,()),(),()))
theorem w7p{Qa:Qr}{Zy:Uj}(h:AL [(17,Jb Qa),(18,q5q Zy)]):MT 59 (q7e (z44 Qa Zy)):=mP (rk:=[.el C.val]) h []
theorem z5w:MT 59 (q7e Uy):=w7p ⟨Jq,z2d,trivial⟩
def z93(X:z45):Con Sg:=conV [.ptr 53 [.c,.v]] [.ptr 53 [.sl C.u8,.int .i64]] [.el C.ex] [.ptr 53 [.same,.int .i64]] fun a K=>X a.1.1 a.1.2.1 (fun q0 q1=>K (q0,()) (((),q1,()),()))
theorem v0u{Zv:Ue}{Qa:Qr}{q82:z3u}{Zr:Gi}(h:AL [(16,q5p Zv),(17,Jb Qa),(78,j5t q82),(59,q7e Zr)]):MT 110 (z93 (j5k Zv Qa q82 Zr)):=mP (rk:=[.el C.ex]) h [(68,⟨bl 4286840701,[3,2],[(5,(77,5)),(0,(53,2)),(1,(77,5))],[(.cell 5 0,.int .i64),(.cell 5 1,.str),(.cell 5 2,.str),(.cell 5 3,.own 118 C.val),(.cell 5 4,.own 77 C.ex),(.cell 0 1,.int .i64),(.cell 1 0,.int .i64),(.cell 1 1,.str),(.cell 1 2,.str),(.cell 1 3,.own 118 C.val),(.cell 1 4,.own 77 C.ex)]⟩),(60,⟨bl 17163319925,[],[(0,(53,2)),(5,(77,5)),(1,(77,5))],[(.cell 0 1,.int .i64),(.cell 5 0,.int .i64),(.cell 5 1,.str),(.cell 5 2,.str),(.cell 5 3,.own 118 C.val),(.cell 5 4,.own 77 C.ex),(.cell 1 0,.int .i64),(.cell 1 1,.str),(.cell 1 2,.str),(.cell 1 3,.own 118 C.val),(.cell 1 4,.own 77 C.ex)]⟩),(37,⟨bl 1055806024022645,[1],[(5,(77,5)),(0,(53,2))],[sI 7,(.cell 5 3,.own 118 C.val),(.cell 0 1,.int .i64)]⟩)]
theorem w2q:MT 110 (z93 q29):=v0u ⟨z0o,Jq,w7o,z5w,trivial⟩
def z94(X:Bh):Con Sg:=conV [.ptr 53 [.c,.v],.sl C.str,.v] [.ptr 53 [.sl C.u8,.int .i64],.sl C.str,.int .i64] [.el C.ex] [.ptr 53 [.same,.int .i64],.same,.same] fun a K=>X a.1.1 a.1.2.1 a.2.1 a.2.2.1 (fun q0 q1=>K (q0,()) (((),q1,()),(),(),()))
theorem j5u:MT 58 (z94 q5e):=by
 show MT _ (conV ([.ptr 53 [.c,.v],.sl C.str,.v]:LP) ([.ptr 53 [.sl C.u8,.int .i64],.sl C.str,.int .i64]:LV) ([.el C.ex]:LV) ([.ptr 53 [.same,.int .i64],.same,.same]:LV) fun a K=>q5e a.1.1 a.1.2.1 a.2.1 a.2.2.1 (fun q0 q1=>K (q0,()) (((),q1,()),(),(),())))
 exact mQ (l:=[(17,Jb Q3),(110,z93 q29)]) (u:=4) (rk:=[.el C.ex]) ⟨Jq,w2q,trivial⟩ (by kernel_rfl) [(8,⟨bl 24647,[0,1],[],[sI 7]⟩),(28,⟨bl 3298996281543,[0,1],[],[sB 49]⟩),(37,⟨bl 1148984153929181127,[1],[(0,(53,2)),(4,(77,5))],[sI 11,(.cell 0 1,.int .i64),(.cell 4 0,.int .i64),(.cell 4 1,.str),(.cell 4 2,.str),(.cell 4 3,.own 118 C.val),(.cell 4 4,.own 77 C.ex)]⟩),(46,⟨bl 1152917567256169316295,[0,12,11,4],[(13,(77,5))],[(.cell 13 0,.int .i64),(.cell 13 1,.str),(.cell 13 2,.str),(.cell 13 3,.sl C.val),(.cell 13 4,.sl C.ex)]⟩)] (fun X a K=>z1s Q3 q29 (fun list at_ segments levels K=>X ((list,at_,()),segments,levels,()) fun r o=>K r.1 o.1.2.1) a.1.1 a.1.2.1 a.2.1 a.2.2.1 (fun q0 q1=>K (q0,()) (((),q1,()),(),(),()))) (fun _ _ _=>by kernel_rfl) fun a K h X hX=>h (fun list at_ segments levels K=>X ((list,at_,()),segments,levels,()) fun r o=>K r.1 o.1.2.1) fun list at_ segments levels K hs=>hX ((list,at_,()),segments,levels,()) (fun r o=>K r.1 o.1.2.1) hs
def z0p(X:q13):Con Sg:=conV [.ptr 53 [.c,.v],.ptr 35 [.v,.v,.v,.sl C.decl,.own 87 C.seg,.own 69 C.flag,.own 73 C.layer,.own 79 C.exper]] [.ptr 53 [.sl C.u8,.int .i64],.ptr 35 [.str,.str,.int .i64,.sl C.decl,.vec 87 C.seg,.vec 69 C.flag,.vec 73 C.layer,.vec 79 C.exper]] [] [.ptr 53 [.same,.int .i64],.ptr 35 [.str,.str,.int .i64,.sl C.decl,.vec 87 C.seg,.vec 69 C.flag,.vec 73 C.layer,.vec 79 C.exper]] fun a K=>X a.1.1 a.1.2.1 a.2.1.1 a.2.1.2.1 a.2.1.2.2.1 a.2.1.2.2.2.1 a.2.1.2.2.2.2.1 a.2.1.2.2.2.2.2.1 a.2.1.2.2.2.2.2.2.1 a.2.1.2.2.2.2.2.2.2.1 (fun q0 q1 q2 q3 q4 q5 q6 q7 q8=>K () (((),q0,()),(q1,q2,q3,q4,q5,q6,q7,q8,()),()))
theorem j70{Qa:Qr}{q0i:z1r}{J3:Bg}{Vz:Bh}(h:AL [(17,Jb Qa),(21,j5s q0i),(30,z2e J3),(58,z94 Vz)]):MT 20 (z0p (q97 Qa q0i J3 Vz)):=mP (rk:=[]) h [(5,⟨bl 1427,[3,4,5],[(0,(53,2)),(1,(35,8))],[sI 5,(.cell 0 1,.int .i64),(.cell 1 4,.own 87 C.seg)]⟩),(14,⟨bl 67010035,[11,10,9,1],[(12,(87,9)),(0,(53,2))],[(.cell 12 1,.str),(.cell 0 1,.int .i64)]⟩),(18,⟨bl 67010035,[11,10,9,1],[(12,(87,9)),(0,(53,2))],[(.cell 12 4,.int .i64),(.cell 12 5,.str),(.cell 12 6,.str),(.cell 12 7,.sl C.val),(.cell 12 8,.sl C.ex),(.cell 0 1,.int .i64)]⟩)]
theorem j71:MT 20 (z0p q5f):=j70 ⟨Jq,w2p,z92,j5u,trivial⟩
def q4q(X:V0):Con Sg:=conS [.el C.env] [.vec 9 C.str] fun a K=>X a.1 (fun q0=>K (q0,()))
theorem z0q:MT 60 (q4q V1):=mS (l:=[]) trivial [(7,⟨[0,1,2],[0],[],[(.slot 3,.own 9 C.str),sI 4]⟩)]
def z5x(X:q34):Con Sg:=conV [.ptr 53 [.c,.v],.v] [.ptr 53 [.sl C.u8,.int .i64],.int .i64] [.vec 157 C.range] [.ptr 53 [.same,.int .i64],.same] fun a K=>X a.1.1 a.1.2.1 a.2.1 (fun q0 q1=>K (q0,()) (((),q1,()),(),()))
theorem w7q{Qa:Qr}{Zz:G4}(h:AL [(17,Jb Qa),(19,q8j Zz)]):MT 62 (z5x (z47 Qa Zz)):=mP (rk:=[.own 157 C.range]) h [(26,⟨[0,1,4],[],[(0,(53,2))],[(.slot 5,.own 157 C.range),sI 6,sI 7,(.cell 0 1,.int .i64)]⟩),(32,⟨bl 8444249301319923,[0,1],[],[sI 11]⟩),(9,⟨[0,1,4],[],[(0,(53,2))],[(.slot 5,.own 157 C.range),sI 6,sI 7,sI 8,(.cell 0 1,.int .i64)]⟩),(20,⟨bl 2144334835,[0,1],[],[sI 10]⟩)]
theorem j72:MT 62 (z5x q35):=w7q ⟨Jq,z5v,trivial⟩
def z5y(X:q36):Con Sg:=conV [.ptr 53 [.c,.v],.v] [.ptr 53 [.sl C.u8,.int .i64],.int .i64] [.el C.serve] [.ptr 53 [.same,.int .i64],.same] fun a K=>X a.1.1 a.1.2.1 a.2.1 (fun q0 q1=>K (q0,()) (((),q1,()),(),()))
theorem w7r{Qa:Qr}{Zy:Uj}{q0j:q34}{Zv:Ue}(h:AL [(17,Jb Qa),(18,q5q Zy),(62,z5x q0j),(16,q5p Zv)]):MT 31 (z5y (z48 Qa Zy q0j Zv)):=mP (rk:=[.el C.serve]) h []
theorem j73:MT 31 (z5y Bi):=w7r ⟨Jq,z2d,j72,z0o,trivial⟩
def j74(X:z49):Con Sg:=conV [] [] [.ptr 181 [.vec 228 C.node,.map C.node C.i64,.bool]] [] fun _ K=>X (fun q0 q1 q2=>K ((q0,q1,q2,()),()) ())
theorem w7s:MT 111 (j74 j7z):=mP (rk:=[.ptr 181 [.own 228 C.node,.map C.node C.i64,.v]]) (l:=[]) trivial []
def q4r(X:Gj):Con Sg:=conS [.int .i64] [.bool] fun a K=>X a.1 (fun q0=>K (q0,()))
theorem q8k:MT 154 (q4r Wl):=mS (l:=[]) trivial []
def j75(X:z5a):Con Sg:=conS [.sl C.str,.sl C.str] [.bool] fun a K=>X a.1 a.2.1 (fun q0=>K (q0,()))
theorem w7t:MT 163 (j75 z5b):=mS (l:=[]) trivial [(9,⟨bl 1987,[],[],[sI 5]⟩)]
def z7m(X:q6s):Con Sg:=conS [.el C.val,.el C.val] [.bool] fun a K=>X a.1 a.2.1 (fun q0=>K (q0,()))
theorem w3o{z6c:z5a}(h:AL [(163,j75 z6c)]):MT 145 (z7m (z66 z6c)):=mS h []
theorem w3p:MT 145 (z7m z1t):=w3o ⟨w7t,trivial⟩
end Go.En
end
noncomputable section
set_option maxRecDepth 100000
open Go Go.RowKit Go.Fl Go.Fl.Lk Go.Fx
namespace Go.En
def B3(X:V2):Con Sg:=conS [.sl C.val,.sl C.val] [.bool] fun a K=>X a.1 a.2.1 (fun q0=>K (q0,()))
theorem j1d{z2n:q6s}(h:AL [(145,z7m z2n)]):MT 105 (B3 (q37 z2n)):=mS h [(9,⟨bl 1987,[],[],[sI 5]⟩)]
theorem z0r:MT 105 (B3 W4):=j1d ⟨w3p,trivial⟩
def q8l(X:Wt):Con Sg:=conV [.el C.ex,.el C.ex] [.el C.ex,.el C.ex] [.bool] [.same,.same] fun a K=>X a.1 a.2.1 (fun q0=>K (q0,()) ((),(),()))
theorem z5z:MT 103 (q8l Uk):=by
 show MT _ (conV ([.el C.ex,.el C.ex]:LP) ([.el C.ex,.el C.ex]:LV) ([.bool]:LV) ([.same,.same]:LV) fun a K=>Uk a.1 a.2.1 (fun q0=>K (q0,()) ((),(),())))
 exact mQ (l:=[(105,B3 W4)]) (u:=4) (rk:=[.v]) ⟨z0r,trivial⟩ (by kernel_rfl) [(145000009,⟨bl 1987,[],[],[sI 5]⟩)] (fun X a K=>q3a W4 (fun a b K=>X (a,b,()) fun r _=>K r.1) a.1 a.2.1 (fun q0=>K (q0,()) ((),(),()))) (fun _ _ _=>by kernel_rfl) fun a K h X hX=>h (fun a b K=>X (a,b,()) fun r _=>K r.1) fun a b K hs=>hX (a,b,()) (fun r _=>K r.1) hs
def q8m(X:q38):Con Sg:=conS [.sl C.ex,.el C.ex] [.int .i64] fun a K=>X a.1 a.2.1 (fun q0=>K (q0,()))
theorem w0b{Ww:Wt}(h:AL [(103,q8l Ww)]):MT 149 (q8m (z3v Ww)):=mS h [(5,⟨[0,1,3],[0],[],[sI 5]⟩)]
theorem j1e:MT 149 (q8m Vq):=w0b ⟨z5z,trivial⟩
def z3g(X:Vr):Con Sg:=conV [.sl C.ex,.el C.ex] [.sl C.ex,.el C.ex] [.sl C.ex] [.same,.same] fun a K=>X a.1 a.2.1 (fun q0=>K (q0,()) ((),(),()))
theorem j23:MT 146 (z3g q1n):=by
 show MT _ (conV ([.sl C.ex,.el C.ex]:LP) ([.sl C.ex,.el C.ex]:LV) ([.sl C.ex]:LV) ([.same,.same]:LV) fun a K=>q1n a.1 a.2.1 (fun q0=>K (q0,()) ((),(),())))
 exact mQ (l:=[(149,q8m Vq),(154,q4r Wl)]) (u:=4) (rk:=[.sl C.ex]) ⟨j1e,q8k,trivial⟩ (by kernel_rfl) [(6,⟨[1,3,4],[0],[],[(.slot 0,.sl C.ex)]⟩),(9,⟨[1,3,4],[0],[],[(.slot 0,.sl C.ex),sI 5]⟩)] (fun X a K=>q58 Vq Wl (fun l e K=>X (l,e,()) fun r _=>K r.1) a.1 a.2.1 (fun q0=>K (q0,()) ((),(),()))) (fun _ _ _=>by kernel_rfl) fun a K h X hX=>h (fun l e K=>X (l,e,()) fun r _=>K r.1) fun l e K hs=>hX (l,e,()) (fun r _=>K r.1) hs
def q4s(X:Gk):Con Sg:=conS [.sl C.rule] [.sl C.ex] fun a K=>X a.1 (fun q0=>K (q0,()))
theorem j1f{q1y:Vr}(h:AL [(146,z3g q1y)]):MT 112 (q4s (q39 q1y)):=mS h [(7,⟨[0,2],[],[],[(.slot 3,.sl C.ex),sI 4]⟩)]
theorem j1g:MT 112 (q4s Bj):=j1f ⟨j23,trivial⟩
def B4(X:Wa):Con Sg:=conV [.ptr 181 [.own 228 C.node,.map C.node C.i64,.v],.v] [.ptr 181 [.vec 228 C.node,.map C.node C.i64,.bool],.int .i64] [.bool] [.ptr 181 [.vec 228 C.node,.map C.node C.i64,.bool],.same] fun a K=>X a.1.1 a.1.2.1 a.1.2.2.1 a.2.1 (fun q0 q1 q2 q3=>K (q0,()) ((q1,q2,q3,()),(),()))
theorem q3h:MT 164 (B4 Ul):=mP (rk:=[.v]) (l:=[]) trivial []
def q9l(X:H2):Con Sg:=conV [.ptr 181 [.own 228 C.node,.map C.node C.i64,.v],.v] [.ptr 181 [.vec 228 C.node,.map C.node C.i64,.bool],.int .i64] [.map C.i64 C.bool] [.ptr 181 [.vec 228 C.node,.map C.node C.i64,.bool],.same] fun a K=>X a.1.1 a.1.2.1 a.1.2.2.1 a.2.1 (fun q0 q1 q2 q3=>K (q0,()) ((q1,q2,q3,()),(),()))
theorem z88:MT 175 (q9l H3):=mP (rk:=[.map C.i64 C.bool]) (l:=[]) trivial [(7,⟨bl 1843,[0,1,2],[],[(.slot 6,.own 3 C.i64),(.obj 3,.map C.i64 C.bool)]⟩)]
def q1a(X:V3):Con Sg:=conV [.ptr 181 [.own 228 C.node,.map C.node C.i64,.v],.v] [.ptr 181 [.vec 228 C.node,.map C.node C.i64,.bool],.int .i64] [.vec 3 C.i64] [.ptr 181 [.vec 228 C.node,.map C.node C.i64,.bool],.same] fun a K=>X a.1.1 a.1.2.1 a.1.2.2.1 a.2.1 (fun q0 q1 q2 q3=>K (q0,()) ((q1,q2,q3,()),(),()))
theorem z7n{Q4:Wa}{Rh:H2}(h:AL [(164,B4 Q4),(175,q9l Rh)]):MT 166 (q1a (q6t Q4 Rh)):=mP (rk:=[.own 3 C.i64]) h [(13,⟨bl 32563,[5,0,4,2],[],[(.slot 6,.own 3 C.i64),sI 7]⟩)]
theorem z7o:MT 166 (q1a G5):=z7n ⟨q3h,z88,trivial⟩
def Ws(X:Zp):Con Sg:=conV [.ptr 181 [.own 228 C.node,.map C.node C.i64,.v],.v] [.ptr 181 [.vec 228 C.node,.map C.node C.i64,.bool],.int .i64] [.bool] [.ptr 181 [.vec 228 C.node,.map C.node C.i64,.bool],.same] fun a K=>X a.1.1 a.1.2.1 a.1.2.2.1 a.2.1 (fun q0 q1 q2 q3=>K (q0,()) ((q1,q2,q3,()),(),()))
theorem z22{Q4:Wa}{Hh:V3}(h:AL [(164,B4 Q4),(166,q1a Hh)]):MT 151 (Ws (q21 Q4 Hh)):=mP (rk:=[.v]) h [(11,⟨bl 16291,[5,0,4,2],[],[sI 6]⟩)]
theorem Ht:MT 151 (Ws J0):=z22 ⟨q3h,z7o,trivial⟩
def q1v(X:Vs):Con Sg:=conV [.ptr 181 [.own 228 C.node,.map C.node C.i64,.v],.v] [.ptr 181 [.vec 228 C.node,.map C.node C.i64,.bool],.int .i64] [.int .i64] [.ptr 181 [.vec 228 C.node,.map C.node C.i64,.bool],.same] fun a K=>X a.1.1 a.1.2.1 a.1.2.2.1 a.2.1 (fun q0 q1 q2 q3=>K (q0,()) ((q1,q2,q3,()),(),()))
theorem q6c:MT 165 (q1v Wb):=mP (rk:=[.v]) (l:=[]) trivial []
def q2r(X:H4):Con Sg:=conV [.ptr 181 [.own 228 C.node,.map C.node C.i64,.v],.v,.v] [.ptr 181 [.vec 228 C.node,.map C.node C.i64,.bool],.int .i64,.int .i64] [.int .i64,.int .i64] [.ptr 181 [.vec 228 C.node,.map C.node C.i64,.bool],.same,.same] fun a K=>X a.1.1 a.1.2.1 a.1.2.2.1 a.2.1 a.2.2.1 (fun q0 q1 q2 q3 q4=>K (q0,q1,()) ((q2,q3,q4,()),(),(),()))
theorem z89{Zu:Vs}(h:AL [(165,q1v Zu)]):MT 176 (q2r (q9j Zu)):=mP (rk:=[.v,.v]) h []
theorem z9a:MT 176 (q2r Wm):=z89 ⟨q6c,trivial⟩
def B5(X:Gl):Con Sg:=conV [.ptr 181 [.own 228 C.node,.map C.node C.i64,.v],.v,.v,.v] [.ptr 181 [.vec 228 C.node,.map C.node C.i64,.bool],.int .i64,.int .i64,.int .i64] [.int .i64] [.ptr 181 [.vec 228 C.node,.map C.node C.i64,.bool],.same,.same,.same] fun a K=>X a.1.1 a.1.2.1 a.1.2.2.1 a.2.1 a.2.2.1 a.2.2.2.1 (fun q0 q1 q2 q3=>K (q0,()) ((q1,q2,q3,()),(),(),(),()))
theorem j1h{Q4:Wa}{Zu:Vs}(h:AL [(164,B4 Q4),(165,q1v Zu)]):MT 150 (B5 (q98 Q4 Zu)):=mP (rk:=[.v]) h []
theorem z0s:MT 150 (B5 Jh):=j1h ⟨q3h,q6c,trivial⟩
end Go.En
end
