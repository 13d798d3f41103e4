/- For every input AuditAccepts returns true and leaves its arguments as they were. This is part 6 of 10. Conditions: those in the statements. -/
import Derived.Test.YtjepffgpbidclaaGreatDoorAc5
import Derived.KernelRfl
noncomputable section
set_option maxRecDepth 100000
namespace Go.En
open Go Go.Fl Go.Fl.Lk Go.Fx
abbrev fN:List ByteArray:=[(ByteArray.mk (Array.mk [102,97,115,116,45,102,108,97,103])),(ByteArray.mk (Array.mk [115,104,111,112,45,102,108,97,103])),(ByteArray.mk (Array.mk [115,108,111,119,45,102,108,97,103])),(ByteArray.mk (Array.mk [116,111,112,45,102,108,97,103]))]
abbrev xN:List ByteArray:=[(ByteArray.mk (Array.mk [98,108,117,101])),(ByteArray.mk (Array.mk [102,97,115,116])),(ByteArray.mk (Array.mk [103,114,101,101,110])),(ByteArray.mk (Array.mk [115,108,111,119]))]
abbrev lN:List ByteArray:=[(ByteArray.mk (Array.mk [104,111,109,101])),(ByteArray.mk (Array.mk [115,104,111,112]))]
abbrev usrN:ByteArray:=(ByteArray.mk (Array.mk [117,115,101,114]))
abbrev usr(id:ByteArray):Subj:=Subj.mk [Ctxt.mk usrN id []]
theorem z0u(l:List Int):(bsOf l).size=l.length:=by rw[j8m,strOfNums_size]
def sltX(sT:ByteArray)(i:Nat):ByteArray:=sT++bsOf [Go.IntKind.u8.wrap ((48:Int)+Go.IntKind.u8.wrap (i:Int))]
def vlM(k:Nat):Val:=Val.mk 2 (((k:Int)+1)*10) noT []
def flM(key:ByteArray):Flg:=Flg.mk key 2 [vlM 0,vlM 1,vlM 2] true 3 [] [] [] (Srv.mk 3 noT noT noT [])
def lyM(sT:ByteArray)(ho:Int)(key:ByteArray):Lay_:=Lay_.mk key usrN (sT++key) ho 0 []
def clM(ho c:Int)(i:Nat):List Spn:=if 2<=i then [Spn.mk c 10000] else [Spn.mk ho c]
def rgM(a b:Int):List Rng:=[Rng.mk 0 a 1,Rng.mk a b 2,Rng.mk b 10000 3]
def xpM(sT:ByteArray)(ho c a b:Int)(i:Nat):Exper:=Exper.mk (xN.getD i noT) (lN.getD (i % 2) noT) (fN.getD i noT) (sltX sT i) 2 (clM ho c i) (rgM a b) (Ex.mk 1 noT noT [] [])
def mkE(sT:ByteArray)(ho c a b:Int):Envt:=Envt.mk (Sett.mk noT noT 0) [] [] (fN.map flM) (lN.map (lyM sT ho)) ((List.range 4).map (xpM sT ho c a b))
theorem z6e{K:List ByteArray->Prop}(h:K lN):q11 K:=h
theorem z6f{l:List ByteArray}{i:Nat}{y:ByteArray}(h:l[i]? =some y):l.getD i noT=y:=by rw[List.getD_eq_getElem?_getD,h];rfl
theorem z91{α β:Type}{l:List α}{f:α->β}{j:Nat}{y:α}(h:l[j]? =some y):(l.map f).take (j+1)=(l.map f).take j++[f y]:=tk1 (by rw[List.getElem?_map,h];rfl)
def sTof(salt:Int):ByteArray:=(ByteArray.mk (Array.mk [115]))++bsOf [Go.IntKind.u8.wrap ((97:Int)+salt.tmod (26:Int))]
abbrev hoOf(hold:Int):Int:=hold.tmod (50:Int)*(20:Int)
abbrev cOf(hold cut:Int):Int:=hoOf hold+(1:Int)+cut.tmod ((10000:Int) - hoOf hold - (1:Int))
abbrev aOf(one:Int):Int:=(1:Int)+one.tmod (9998:Int)
abbrev bOf(one two:Int):Int:=aOf one+(1:Int)+two.tmod ((9999:Int) - aOf one)
def envV(salt hold cut one two:Int):Envt:=mkE (sTof salt) (hoOf hold) (cOf hold cut) (aOf one) (bOf one two)
theorem z92(x y:ByteArray):(x++y).size=x.size+y.size:=ByteArray.size_append
theorem z0v(salt:Int):(sTof salt).size=2:=by unfold sTof;rw[z92,z0u];rfl
structure MdB(ho c a b:Int):Prop where
 h0:0<=ho
 h1:ho<=980
 c0:ho<c
 c1:c<=9999
 a0:1<=a
 b0:a<b
 b1:b<=9999
theorem tmB{n m:Int}(h:0<=n)(k:0<m):0<=n.tmod m/\n.tmod m<m:=⟨Int.tmod_nonneg _ h,Int.tmod_lt_of_pos _ k⟩
theorem j92{hold cut one two:Int}(h1:0<=hold)(h2:0<=cut)(h3:0<=one)(h4:0<=two):MdB (hoOf hold) (cOf hold cut) (aOf one) (bOf one two):=by
 have t1:=tmB (m:=50) h1 (by decide)
 have t2:=tmB (m:=9998) h3 (by decide)
 have t3:=tmB (m:=9999 - aOf one) h4 (by unfold aOf;omega)
 have t4:=tmB (m:=10000 - hoOf hold - 1) h2 (by unfold hoOf;omega)
 constructor<;>simp only[hoOf,aOf,cOf,bOf] at* <;>omega
theorem j93{salt hold cut one two:Int}{K:Envt->Prop}(h1:0<=hold)(g1:hold<=1000000)(h2:0<=cut)(g2:cut<=1000000)(h3:0<=one)(g3:one<=1000000)(h4:0<=two)(g4:two<=1000000)(h:K (envV salt hold cut one two)):Vx salt hold cut one two K:=by
 unfold Vx q0d
 have hb:=j92 h1 h2 h3 h4
 have t1:=tmB (m:=50) h1 (by decide)
 have t2:=tmB (m:=9998) h3 (by decide)
 have t3:=tmB (m:=9999 - aOf one) h4 (by unfold aOf;omega)
 have t4:=tmB (m:=10000 - hoOf hold - 1) h2 (by unfold hoOf;omega)
 have hin: ∀n:Int, -1000000<=n->n<=10000000->InI n:=fun n h h'=>by unfold InI;omega
 have sml: ∀{α:Type} (l:List α),l.length<=10->Sml l.length:=fun l hl=>by unfold Sml;omega
 refine⟨by decide,?_,hin _ (by omega) (by omega),by decide,hin _ (by omega) (by omega),?_⟩
 ·rw[z0u];show (((1+1:Nat)):Int)<=9223372036854775807;decide
 refine Lp2.ind (fun i l=> ∃j:Nat,i=(j:Int)/\j<=4/\l=(fN.map flM).take j) (fun i _=>(4 - i).toNat) ?_ ⟨0,rfl,by omega,rfl⟩
 rintro i l ⟨j,rfl,hj,rfl⟩
 refine fun _=>Cnd.mk (fun hc=>⟨⟨by omega,hc⟩,fun y hy=> ?_⟩) fun hc=> ?_
 ·have hy:fN[j]? =some y:=hy
  have hc:(j:Int)<4:=hc
  refine Lp2.ind (fun k l=> ∃m:Nat,k=(m:Int)+1/\m<=3/\l=[vlM 0,vlM 1,vlM 2].take m) (fun k _=>(4 - k).toNat) ?_ ⟨0,rfl,by omega,rfl⟩
  rintro k l ⟨m,rfl,hm,rfl⟩
  refine Cnd.mk (fun hk=>⟨hin _ (by omega) (by omega),sml _ (by simp;omega),hin _ (by omega) (by omega),⟨m+1,by omega,by omega,?_⟩,by omega⟩) fun hk=>⟨sml _ (by simp;omega),hin _ (by omega) (by omega),⟨j+1,by omega,by omega,?_⟩,by omega⟩
  ·have:m=0∨m=1∨m=2:=by omega
   rcases this with rfl|rfl|rfl<;>rfl
  ·rw[show m=3 by omega,z91 hy];rfl
 have hj4:j=4:=by
  have hc: ¬(j:Int)<4:=hc
  omega
 subst hj4
 rw[show (fN.map flM).take 4=fN.map flM from rfl]
 refine Lp2.ind (fun i l=> ∃j:Nat,i=(j:Int)/\j<=2/\l=(lN.map (lyM (sTof salt) (hoOf hold))).take j) (fun i _=>(2 - i).toNat) ?_ ⟨0,rfl,by omega,rfl⟩
 rintro i l ⟨j,rfl,hj,rfl⟩
 refine Cnd.mk (fun hc=>z6e ⟨⟨by omega,hc⟩,fun y hy=>z6e ⟨⟨by omega,hc⟩,fun z hz=> ?_⟩⟩) fun hc=> ?_
 ·have hy:lN[j]? =some y:=hy
  have hz:lN[j]? =some z:=hz
  rw[hy] at hz;cases hz
  have hys:y.size=4:=by
   rcases List.mem_cons.1 (List.mem_of_getElem? hy) with rfl|hq
   ·rfl
   ·rw[List.mem_singleton.1 hq];rfl
  refine⟨?_,sml _ (by simp;omega),hin _ (by omega) (by omega),⟨j+1,by omega,by omega,?_⟩,by omega⟩
  ·have:=z0v salt
   unfold sTof at this
   rw[this,hys];decide
  ·rw[z91 hy];rfl
 have hj2:j=2:=by omega
 subst hj2
 rw[show (lN.map (lyM (sTof salt) (hoOf hold))).take 2=lN.map (lyM (sTof salt) (hoOf hold)) from rfl]
 have b1:=hb.h1
 have b2:=hb.h0
 have b3:=hb.c0
 have b4:=hb.c1
 have b5:=hb.b1
 have b6:=hb.a0
 have b7:=hb.b0
 simp only[hoOf,aOf,cOf,bOf] at b1 b2 b3 b4 b5 b6 b7 t3 t4
 refine⟨hin _ (by omega) (by omega),by decide,hin _ (by omega) (by omega),hin _ (by omega) (by omega),hin _ (by omega) (by omega),hin _ (by omega) (by omega),by omega,hin _ (by omega) (by omega),hin _ (by omega) (by omega),hin _ (by omega) (by omega),hin _ (by omega) (by omega),hin _ (by omega) (by omega),by omega,hin _ (by omega) (by omega),?_⟩
 refine Lp2.ind (fun i l=> ∃j:Nat,i=(j:Int)/\j<=4/\l=((List.range 4).map (xpM (sTof salt) (hoOf hold) (cOf hold cut) (aOf one) (bOf one two))).take j) (fun i _=>(4 - i).toNat) ?_ ⟨0,rfl,by omega,rfl⟩
 rintro i l ⟨j,rfl,hj,rfl⟩
 refine Cnd.mk (fun hc=> ?_) fun hc=> ?_
 ·have tk:((List.range 4).map (xpM (sTof salt) (hoOf hold) (cOf hold cut) (aOf one) (bOf one two))).take (j+1)=((List.range 4).map (xpM (sTof salt) (hoOf hold) (cOf hold cut) (aOf one) (bOf one two))).take j++[xpM (sTof salt) (hoOf hold) (cOf hold cut) (aOf one) (bOf one two) j]:=z91 (by rw[List.getElem?_range (by omega)])
  have len: ∀x:Exper,Sml (((List.range 4).map (xpM (sTof salt) (hoOf hold) (cOf hold cut) (aOf one) (bOf one two))).take j++[x]).length:=fun x=>sml _ (by rw[List.length_append,List.length_take,List.length_map,List.length_range,List.length_singleton];omega)
  have nx: ∀x:Exper,x=xpM (sTof salt) (hoOf hold) (cOf hold cut) (aOf one) (bOf one two) j->Sml (((List.range 4).map (xpM (sTof salt) (hoOf hold) (cOf hold cut) (aOf one) (bOf one two))).take j++[x]).length/\InI ((j:Int)+1)/\(∃j':Nat,(j:Int)+1=(j':Int)/\j'<=4/\((List.range 4).map (xpM (sTof salt) (hoOf hold) (cOf hold cut) (aOf one) (bOf one two))).take j++[x]=((List.range 4).map (xpM (sTof salt) (hoOf hold) (cOf hold cut) (aOf one) (bOf one two))).take j')/\(4 - ((j:Int)+1)).toNat<(4 - (j:Int)).toNat:=fun x hx=>⟨len x,hin _ (by omega) (by omega),⟨j+1,by omega,by omega,by rw[hx,tk]⟩,by omega⟩
  have mk: ∀(y4 y6 y9:ByteArray) (cl:List Spn),fN[((j:Nat):Int).toNat]? =some y4->xN[((j:Nat):Int).toNat]? =some y6->lN[(((j:Nat):Int).tmod (2:Int)).toNat]? =some y9->cl=clM (hoOf hold) (cOf hold cut) j->Exper.mk y6 y9 y4 (sltX (sTof salt) j) 2 cl (rgM (aOf one) (bOf one two)) (Ex.mk 1 noT noT [] [])=xpM (sTof salt) (hoOf hold) (cOf hold cut) (aOf one) (bOf one two) j:=fun y4 y6 y9 cl e4 e6 e9 ec=>by
   have e9:lN[j % 2]? =some y9:=by
    rw[show (((j:Nat):Int).tmod 2).toNat=j % 2 by rw[Int.tmod_eq_emod_of_nonneg (by omega)];omega] at e9
    exact e9
   unfold xpM
   rw[z6f (l:=fN) (i:=j) e4,z6f (l:=xN) (i:=j) e6,z6f e9,ec]
  have hA: ∀y4 y6 y9:ByteArray,fN[((j:Nat):Int).toNat]? =some y4->xN[((j:Nat):Int).toNat]? =some y6->lN[(((j:Nat):Int).tmod (2:Int)).toNat]? =some y9->(2:Int)<=(j:Int)->_:=fun y4 y6 y9 e4 e6 e9 e2=>nx _ (mk y4 y6 y9 [Spn.mk (cOf hold cut) 10000] e4 e6 e9 (by unfold clM;rw[if_pos (by omega)]))
  have hB: ∀y4 y6 y9:ByteArray,fN[((j:Nat):Int).toNat]? =some y4->xN[((j:Nat):Int).toNat]? =some y6->lN[(((j:Nat):Int).tmod (2:Int)).toNat]? =some y9-> ¬(2:Int)<=(j:Int)->_:=fun y4 y6 y9 e4 e6 e9 e2=>nx _ (mk y4 y6 y9 [Spn.mk (hoOf hold) (cOf hold cut)] e4 e6 e9 (by unfold clM;rw[if_neg (by omega)]))
  have z0:(2:Int)≠(0:Int):=by decide
  have z1:(0:Int)<=((j:Nat):Int)/\((j:Nat):Int)<((fN.length:Nat):Int):=⟨by omega,hc⟩
  have z2:(0:Int)<=((j:Nat):Int)/\((j:Nat):Int)<((xN.length:Nat):Int):=⟨by omega,hc⟩
  have z3:(0:Int)<=((j:Nat):Int).tmod (2:Int)/\((j:Nat):Int).tmod (2:Int)<((lN.length:Nat):Int):=tmB (m:=2) (by omega) (by decide)
  have z4:(((sTof salt).size+(bsOf [Go.IntKind.u8.wrap ((48:Int)+Go.IntKind.u8.wrap ((j:Nat):Int))]).size:Nat):Int)<=9223372036854775807:=by rw[z0v,z0u];show (((2+1:Nat)):Int)<=9223372036854775807;decide
  (repeat' (first|assumption|exact hA _ _ _ (by assumption) (by assumption) (by assumption) (by assumption)|exact hB _ _ _ (by assumption) (by assumption) (by assumption) (by assumption)|exact z4|refine z6e ?_|refine Cnd.mk (fun _=> ?_) fun _=> ?_|refine⟨?_,?_⟩|intro _))
 ·have hj4:j=4:=by omega
  subst hj4
  rw[show ((List.range 4).map (xpM (sTof salt) (hoOf hold) (cOf hold cut) (aOf one) (bOf one two))).take 4=(List.range 4).map (xpM (sTof salt) (hoOf hold) (cOf hold cut) (aOf one) (bOf one two)) from rfl]
  exact h
end Go.En
end
noncomputable section
set_option maxRecDepth 100000
namespace Go.En
open Go Go.Fl Go.Fl.Lk Go.Fx
theorem j3q{sT:ByteArray}{ho c a b:Int}{x:Exper}(h:x∈(mkE sT ho c a b).6): ∃i,i<4/\x=xpM sT ho c a b i:=by
 obtain⟨i,hi,rfl⟩:=List.mem_map.1 h
 exact⟨i,List.mem_range.1 hi,rfl⟩
theorem j94(sT:ByteArray)(i:Nat):(sltX sT i).size=sT.size+1:=by unfold sltX;rw[z92,z0u];rfl
theorem w6z(ho c:Int)(i:Nat):(clM ho c i).length=1:=by unfold clM;split<;>rfl
theorem w60:wt (Ex.mk 1 noT noT [] [])<=2000000/\EvB (Ex.mk 1 noT noT [] []):=⟨by rw[z9t];simp[wtV,wtL],EvB.mk' (by simp) (by simp)⟩
theorem j95{sT:ByteArray}{ho c a b:Int}(hs:sT.size<=1000):AsB (mkE sT ho c a b) where
 ln:=by unfold mkE;simp
 xn:=by unfold mkE;simp
 sg:=⟨by unfold mkE;simp,fun g hg=>(by cases hg),fun g hg=>(by cases hg),by unfold mkE;simp[edg]⟩
 ex x hx:=by obtain⟨i,_,rfl⟩:=j3q hx;exact w60
 sa:=by show noT.size<=10000000;decide
 ls l hl:=by
  obtain⟨k,hk,rfl⟩:=List.mem_map.1 hl
  show (sT++k).size<=_
  have:k.size=4:=by
   rcases List.mem_cons.1 hk with rfl|hq
   ·rfl
   ·rw[List.mem_singleton.1 hq];rfl
  rw[z92,this];omega
 xs x hx:=by
  obtain⟨i,_,rfl⟩:=j3q hx
  show (sltX sT i).size<=_
  rw[j94];omega
 cl x hx:=by
  obtain⟨i,_,rfl⟩:=j3q hx
  refine⟨?_,by show (rgM a b).length<=_;unfold rgM;simp⟩
  show (clM ho c i).length<=_
  rw[w6z];decide
 nd:=by
  show (((List.range 4).map (xpM sT ho c a b)).map Exper.key).Nodup
  rw[List.map_map]
  show ((List.range 4).map fun i=>xN.getD i noT).Nodup
  decide
theorem j5c{id:ByteArray}(h:id.size<=1000):SubB (usr id):=
 ⟨by simp,fun c hc=>(by rw[List.mem_singleton.1 hc];simp),fun c hc a ha=>(by rw[List.mem_singleton.1 hc] at ha;cases ha),fun c hc=>(by rw[List.mem_singleton.1 hc];show id.size<=_;omega)⟩
def ixM(c q:Int)(k:Nat):Nat:=if q<c then k else k+2
theorem w61{lo hi q:Int}:insV [Spn.mk lo hi] q=true↔lo<=q/\q<hi:=by rw[w6y];simp
theorem j5d{ho c q:Int}{i:Nat}:insV (clM ho c i) q=true↔(if 2<=i then c<=q/\q<10000 else ho<=q/\q<c):=by
 unfold clM
 split<;>exact w61
theorem w62{a b q:Int}(h:0<=q)(h2:q<10000):q3y (rgM a b) q=1∨q3y (rgM a b) q=2∨q3y (rgM a b) q=3∨(b<=q->False)/\(a<=q->b<=q)/\ ¬q<a:=by
 unfold q3y rgM
 by_cases h1:q<a
 ·left;rw[List.find?_cons,dt h,dt h1];simp
 ·rw[List.find?_cons,df h1,Bool.and_false]
  simp only
  by_cases h3:q<b
  ·right;left;rw[List.find?_cons,dt (show a<=q by omega),dt h3];simp
  ·right;right;left
   rw[List.find?_cons,df h3,Bool.and_false]
   simp only
   rw[List.find?_cons,dt (show b<=q by omega),dt h2];simp
theorem w63{a b q:Int}(h:0<=q)(h2:q<10000):1<=q3y (rgM a b) q/\q3y (rgM a b) q<=3:=by
 rcases w62 (a:=a) (b:=b) h h2 with h|h|h|⟨h,k,l⟩
 ·omega
 ·omega
 ·omega
 ·exact absurd (k (by omega)) (fun e=>h e)
theorem w65{α:Type}{p:α->Bool}{f:Nat->α}{i:Nat}(hi:i<4)(hp:p (f i)=true)(hn: ∀j,j<i->p (f j)=false):((List.range 4).map f).find? p=some (f i):=by
 have:i=0∨i=1∨i=2∨i=3:=by omega
 show [f 0,f 1,f 2,f 3].find? p=_
 rcases this with rfl|rfl|rfl|rfl
 ·rw[List.find?_cons,hp]
 ·rw[List.find?_cons,hn 0 (by omega),List.find?_cons,hp]
 ·rw[List.find?_cons,hn 0 (by omega),List.find?_cons,hn 1 (by omega),List.find?_cons,hp]
 ·rw[List.find?_cons,hn 0 (by omega),List.find?_cons,hn 1 (by omega),List.find?_cons,hn 2 (by omega),List.find?_cons,hp]
theorem w84: ∀i,i<4-> ∀j,j<i->xN.getD j noT≠xN.getD i noT:=by decide
theorem w85{sT:ByteArray}{ho c a b:Int}{i:Nat}(hi:i<4):xof (mkE sT ho c a b) (xN.getD i noT)=some (xpM sT ho c a b i):=
 w65 hi (dt rfl) fun j hj=>df (w84 i hi j hj)
theorem w4a{sT:ByteArray}{ho c a b:Int}{i:Nat}(hi:i<4):xfV (mkE sT ho c a b) (xN.getD i noT) (lN.getD (i % 2) noT)=some (xpM sT ho c a b i):=
 w65 hi (z9x (dt rfl) (dt rfl)) fun j hj=>q51 (.inl (df (w84 i hi j hj)))
theorem j19{sT:ByteArray}{ho c a b:Int}{k:Nat}(hk:k<2):lof (mkE sT ho c a b) (lN.getD k noT)=some (lyM sT ho (lN.getD k noT)):=by
 show [lyM sT ho (ByteArray.mk (Array.mk [104,111,109,101])),lyM sT ho (ByteArray.mk (Array.mk [115,104,111,112]))].find? _=_
 have:k=0∨k=1:=by omega
 rcases this with rfl|rfl
 ·rw[List.find?_cons,dt (by rfl)];rfl
 ·rw[List.find?_cons,df (by show ¬((ByteArray.mk (Array.mk [104,111,109,101])):ByteArray)=(ByteArray.mk (Array.mk [115,104,111,112]));decide),List.find?_cons,dt (by rfl)];rfl
theorem j5e{c q:Int}{k:Nat}(hk:k<2):ixM c q k<4/\ixM c q k % 2=k:=by unfold ixM;split<;>omega
theorem w66{sT:ByteArray}{ho c a b:Int}{s:Subj}{i:Nat}(hi:i<4):j12 (mkE sT ho c a b) s (xN.getD i noT)=true:=by
 unfold j12
 rw[w85 hi]
 show cndV _ s (Ex.mk 1 noT noT [] [])=true
 unfold cndV
 rw[j9k];simp
theorem j96(id:ByteArray):fnd (usr id) usrN=some (Ctxt.mk usrN id []):=by unfold fnd;rw[List.find?_cons,dt (by rfl)]
theorem w86{sT:ByteArray}{ho c a b:Int}{s:Subj}{q:Int}{k:Nat}(hk:k<2)(h0:ho<=q)(h1:q<10000):hitV (mkE sT ho c a b) s (lN.getD k noT) q=some (xpM sT ho c a b (ixM c q k)):=by
 obtain⟨i0,i1⟩:=j5e (c:=c) (q:=q) hk
 have lne: ∀i,i<4-> ∀k,k<2->i % 2≠k->lN.getD (i % 2) noT≠lN.getD k noT:=by decide
 refine w65 i0 (z9x (dt ?_) (z9x (dt rfl) (z9x (j5d.2 ?_) (w66 i0)))) fun j hj=> ?_
 ·show lN.getD (ixM c q k % 2) noT=_;rw[i1]
 ·unfold ixM at i0 i1⊢
  split
  ·rename_i hq
   rw[if_neg (by omega)];exact⟨h0,hq⟩
  ·rw[if_pos (by omega)];exact⟨by omega,h1⟩
 ·by_cases hjk:j % 2=k
  ·refine q51 (.inr (q51 (.inr (q51 (.inl ?_)))))
   rw[←Bool.not_eq_true]
   intro hi
   have hi:=(j5d (ho:=ho) (c:=c) (q:=q) (i:=j)).1 hi
   unfold ixM at hj
   split at hj
   ·omega
   ·rw[if_neg (by omega)] at hi;omega
  ·exact q51 (.inl (df (lne j (by omega) k hk hjk)))
def asgM(sT:ByteArray)(ho c a b:Int)(k:Nat)(id:ByteArray):Asg:=
 if ofV (sT++lN.getD k noT) id<ho then Asg.mk (lN.getD k noT) noT (ofV (sT++lN.getD k noT) id) 0 true else
  Asg.mk (lN.getD k noT) (xN.getD (ixM c (ofV (sT++lN.getD k noT) id) k) noT) (ofV (sT++lN.getD k noT) id) (q3y (rgM a b) (ofV (sltX sT (ixM c (ofV (sT++lN.getD k noT) id) k)) id)) false
theorem w4b{sT:ByteArray}{ho c a b:Int}{k:Nat}{id:ByteArray}(hk:k<2)(_:MdB ho c a b):asgV (mkE sT ho c a b) (usr id) [] (lN.getD k noT)=(asgM sT ho c a b k id,0):=by
 obtain⟨r0,r1⟩:=z1v (sT++lN.getD k noT) id
 have hb:bktV (lyM sT ho (lN.getD k noT)) (usr id)=ofV (sT++lN.getD k noT) id:=by
  unfold bktV
  show (match fnd (usr id) usrN with|some c=>ofV (sT++lN.getD k noT) c.2|none=> -1)=_
  rw[j96]
 have hh:j6e (mkE sT ho c a b) (usr id)=false:=by
  have hf:fnd (usr id) (mkE sT ho c a b).1.2=none:=by
   show fnd (usr id) noT=none
   unfold fnd
   rw[List.find?_cons,df (by show ¬usrN=noT;decide)];rfl
  unfold j6e
  rw[hf]
 have hl:layV (mkE sT ho c a b) (usr id) (lyM sT ho (lN.getD k noT)) [] (lN.getD k noT)=asgM sT ho c a b k id:=by
  unfold layV
  rw[show fcdV (mkE sT ho c a b) [] (lN.getD k noT)=none by simp[fcdV,frcV]]
  dsimp only
  rw[hb,hh]
  rw[show fnd (usr id) (lyM sT ho (lN.getD k noT)).2=some (Ctxt.mk usrN id []) from j96 id,show (lyM sT ho (lN.getD k noT)).4=ho from rfl]
  unfold asgM
  by_cases hq:ofV (sT++lN.getD k noT) id<ho
  ·rw[if_pos hq,if_pos (.inr ⟨rfl,hq⟩)]
  ·rw[if_neg hq,if_neg fun h=>h.elim (fun h=>by cases h) fun h=>hq h.2]
   dsimp only
   rw[w86 hk (by omega) r1]
   rfl
 unfold asgV
 rw[j19 hk]
 dsimp only
 rw[hl]
structure GdS(sT:ByteArray)(ho c a b:Int)(s:Slt)(k:Nat):Prop where
 kk:k<2
 l:s.2=lN.getD k noT
 q:ho<=ofV (sT++s.2) s.1
 x:s.3=xN.getD (ixM c (ofV (sT++s.2) s.1) k) noT
 m:s.4=q3y (rgM a b) (ofV (sltX sT (ixM c (ofV (sT++s.2) s.1) k)) s.1)
theorem j5f{sT:ByteArray}{ho c a b:Int}{k:Nat}{x:Rcd}(hg:GdS sT ho c a b x.3 k)(hld:ldV x.3.1 x.2 x.5 x.1=true):chkR x (mkE sT ho c a b)=if x.4=ofV (sT++x.3.2) x.3.1 then (if x.3.4=q3y (rgM a b) (ofV (sltX sT (ixM c (ofV (sT++x.3.2) x.3.1) k)) x.3.1) then 0 else 23) else 3:=by
 obtain⟨i0,i1⟩:=j5e (c:=c) (q:=ofV (sT++x.3.2) x.3.1) hg.kk
 obtain⟨r0,r1⟩:=z1v (sT++x.3.2) x.3.1
 have hx:xfV (mkE sT ho c a b) x.3.3 x.3.2=some (xpM sT ho c a b (ixM c (ofV (sT++x.3.2) x.3.1) k)):=by
  have:=w4a (sT:=sT) (ho:=ho) (c:=c) (a:=a) (b:=b) i0
  rw[i1,←hg.l,←hg.x] at this;exact this
 have hlo:lof (mkE sT ho c a b) x.3.2=some (lyM sT ho x.3.2):=by rw[hg.l];exact j19 hg.kk
 rw[z58 hld hlo hx]
 show (if x.4=ofV (sT++x.3.2) x.3.1 then (if insV (clM ho c _) x.4=true then (if x.3.4=q3y (rgM a b) (ofV (sltX sT _) x.3.1) then 0 else 23) else 25) else 3)=_
 by_cases h:x.4=ofV (sT++x.3.2) x.3.1
 ·rw[if_pos h,if_pos h,if_pos]
  rw[h]
  refine j5d.2 ?_
  have hq:=hg.q
  have hk:=hg.kk
  revert i0 i1
  unfold ixM
  split
  ·rename_i hq2
   intro i0 i1
   rw[if_neg (by omega)];exact⟨hq,hq2⟩
  ·intro i0 i1
   rw[if_pos (by omega)];exact⟨by omega,r1⟩
 ·rw[if_neg h,if_neg h]
theorem q24{s:ByteArray}(h:s.size<=32)(k:j9m s)(l:(resW.find? fun y=>decide (y=s)).isNone=true):keyV s=true:=by
 unfold keyV
 rw[dt h,dt k,l];rfl
theorem w87: ∀k,k<2->keyV (lN.getD k noT)=true:=fun k hk=>by
 have:k=0∨k=1:=by omega
 rcases this with rfl|rfl<;>exact q24 (by decide) (by decide+kernel) (by rw[z55];decide+kernel)
theorem v0o: ∀k,k<4->keyV (xN.getD k noT)=true:=fun k hk=>by
 have:k=0∨k=1∨k=2∨k=3:=by omega
 rcases this with rfl|rfl|rfl|rfl<;>exact q24 (by decide) (by decide+kernel) (by rw[z55];decide+kernel)
abbrev annN:ByteArray:=(ByteArray.mk (Array.mk [97,110,110]))
theorem z93:keyV annN=true:=q24 (by decide) (by decide+kernel) (by rw[z55];decide+kernel)
theorem reg0:RegOk noRg:=⟨by decide,by decide,by decide,by decide,fun k e h=>by simp at h,fun k e h=>by simp at h,fun k e h=>by simp at h⟩
theorem j97(l:List Lnk)(a:ByteArray):z57 l a a=true:=q4c.2 (Conn.refl _ _)
theorem w2v{K:Bool->Prop}(h:K true):q05 K:=by
 unfold q05 q40
 refine j93 (by decide) (by decide) (by decide) (by decide) (by decide) (by decide) (by decide) (by decide) ?_
 have hm:MdB (hoOf 0) (cOf 0 9998) (aOf 4000) (bOf 4000 3000):=j92 (by decide) (by decide) (by decide) (by decide)
 have hs:(sTof 0).size<=1000:=by rw[z0v];decide
 show q6a annN _
 unfold envV
 have h0:hoOf 0=0:=by decide
 generalize sTof 0=sT at hs⊢
 generalize hoOf 0=ho at hm h0⊢
 generalize cOf 0 9998=c at hm⊢
 generalize aOf 4000=a at hm⊢
 generalize bOf 4000 3000=b at hm⊢
 have hv:=j95 (ho:=ho) (c:=c) (a:=a) (b:=b) hs
 obtain⟨r0,r1⟩:=z1v (sT++lN.getD 0 noT) annN
 refine q6z (v:=mkE sT ho c a b) (s:=usr annN) (key:=lN.getD 0 noT) hv (j5c (by decide)) (by decide) ?_
 rw[w4b (by decide) hm]
 have ha:asgM sT ho c a b 0 annN=Asg.mk (lN.getD 0 noT) (xN.getD (ixM c (ofV (sT++lN.getD 0 noT) annN) 0) noT) (ofV (sT++lN.getD 0 noT) annN) (q3y (rgM a b) (ofV (sltX sT (ixM c (ofV (sT++lN.getD 0 noT) annN) 0)) annN)) false:=by
  unfold asgM;rw[if_neg (by omega)]
 obtain⟨i0,i1⟩:=j5e (c:=c) (q:=ofV (sT++lN.getD 0 noT) annN) (k:=0) (by decide)
 have kx:=v0o _ i0
 obtain⟨p0,p1⟩:=w63 (a:=a) (b:=b) (z1v (sltX sT (ixM c (ofV (sT++lN.getD 0 noT) annN) 0)) annN).1 (z1v _ _).2
 rw[ha]
 have hg:GdS sT ho c a b (Slt.mk annN (lN.getD 0 noT) (xN.getD (ixM c (ofV (sT++lN.getD 0 noT) annN) 0) noT) (q3y (rgM a b) (ofV (sltX sT (ixM c (ofV (sT++lN.getD 0 noT) annN) 0)) annN)) 1 0 0) 0:=⟨by decide,rfl,by show ho<=ofV (sT++lN.getD 0 noT) annN;omega,rfl,rfl⟩
 generalize hq:ofV (sT++lN.getD 0 noT) annN=q at*
 generalize ha2:q3y (rgM a b) (ofV (sltX sT (ixM c q 0)) annN)=ar at*
 generalize xN.getD (ixM c q 0) noT=xk at*
 have hr1:RegOk (Reg.mk 1 [] [Slt.mk annN (lN.getD 0 noT) xk ar 1 0 0]):=⟨by show (0:Int)<=1;decide,by show (1:Int)<=1099511627776;decide,by show 0<=64;decide,by show 1<=128;decide,fun k e h=>by simp at h,fun k s hs=>by
  cases k with
  |zero=>cases hs;exact⟨⟨z93,w87 0 (by decide),kx,p0,by show ar<=8;omega,by show (0:Int)<=1;decide,by show (1:Int)<=1;decide,.inl ⟨rfl,rfl⟩⟩,fun p hp=>by cases hp⟩
  |succ k=>simp at hs,fun k s hs m t hm ht=>by
  cases k with
  |zero=>omega
  |succ k=>simp at hs⟩
 have hA:asnV noRg annN (Asg.mk (lN.getD 0 noT) xk q ar false) 0 1=(Reg.mk 1 [] [Slt.mk annN (lN.getD 0 noT) xk ar 1 0 0],Slt.mk annN (lN.getD 0 noT) xk ar 1 0 0,0):=by
  unfold asnV
  rw[if_pos (q7m.2 ⟨reg0,by decide,by decide⟩),if_neg (by decide),if_pos (by rw[z93,w87 0 (by decide)];rfl),z6d rfl,if_neg,if_neg,if_neg (by decide)]
  ·rfl
  ·show ¬false=true;decide
  ·rintro (e|e|e|e)
   ·cases e
   ·exact e kx
   ·have e:ar<1:=e;omega
   ·have e:8<ar:=e;omega
 refine j18 (r:=noRg) (by decide) ?_
 rw[hA]
 have hat:atV (Reg.mk 1 [] [Slt.mk annN (lN.getD 0 noT) xk ar 1 0 0]) annN (lN.getD 0 noT) 1=some (Slt.mk annN (lN.getD 0 noT) xk ar 1 0 0):=by
  unfold atV
  rw[List.find?_cons,show atP _ annN (lN.getD 0 noT) 1 (Slt.mk annN (lN.getD 0 noT) xk ar 1 0 0)=true by unfold atP;rw[dt rfl,dt (by show (1:Int)<=1;decide),dt rfl,j97];rfl]
 refine z13 (r:=Reg.mk 1 [] [Slt.mk annN (lN.getD 0 noT) xk ar 1 0 0]) (v:=mkE sT ho c a b) (id:=annN) (key:=lN.getD 0 noT) (t:=1) hv ?_
 have hE:=z59 (v:=mkE sT ho c a b) (z0s.2 hr1) hat (j19 (by decide))
 rw[hE]
 have hb:ofV (lyM sT ho (lN.getD 0 noT)).3 annN=q:=hq
 generalize hp:(q7v (Hw (Reg.mk 1 [] [Slt.mk annN (lN.getD 0 noT) xk ar 1 0 0]).2 1) annN annN).1=p
 have hpn:p=[]:=by
  have:=j16 (l:=Hw (Reg.mk 1 [] [Slt.mk annN (lN.getD 0 noT) xk ar 1 0 0]).2 1) (a:=annN) (b:=annN)
  rw[hp] at this
  exact List.eq_nil_of_length_eq_zero (by simpa [Hw] using this)
 subst hpn
 dsimp only
 rw[hb]
 have hld:ldV annN 1 [] annN=true:=by unfold ldV;exact dt rfl
 have c1:chkV (Rcd.mk annN 1 (Slt.mk annN (lN.getD 0 noT) xk ar 1 0 0) q []) (mkE sT ho c a b)=0:=by
  rw[z0t (by rw[z93];rfl) (fun e=>e.elim (fun e=>absurd (show (1:Int)<1 from e) (by decide)) fun e=>e.1 rfl),j5f hg hld,if_pos hq.symm,if_pos]
  show ar=q3y (rgM a b) (ofV (sltX sT (ixM c (ofV (sT++lN.getD 0 noT) annN) 0)) annN)
  rw[hq];exact ha2.symm
 have c2:chkV (Rcd.mk annN 1 (Slt.mk annN (lN.getD 0 noT) xk ar 1 0 0) ((q+1).tmod 10000) []) (mkE sT ho c a b)=3:=by
  rw[z0t (by rw[z93];rfl) (fun e=>e.elim (fun e=>absurd (show (1:Int)<1 from e) (by decide)) fun e=>e.1 rfl),j5f hg hld,if_neg]
  show ¬(q+1).tmod 10000=ofV (sT++lN.getD 0 noT) annN
  rw[hq,Int.tmod_eq_emod_of_nonneg (by omega)];omega
 refine⟨by unfold InI;omega,by decide,Cnd.mk (fun _=>Cnd.mk (fun _=>Cnd.mk (fun _=>Cnd.mk (fun _=>Cnd.mk (fun _=>Cnd.mk (fun _=>Cnd.mk (fun _=>z9z (v:=mkE sT ho c a b) hv (Nat.zero_le _) ?_) fun e=>absurd rfl e) fun e=>absurd rfl e) fun e=>absurd rfl e) fun e=>absurd (show 0<ar by omega) e) fun e=>absurd rfl e) fun e=>absurd rfl e) fun e=>absurd rfl e⟩
 rw[c1]
 refine Cnd.mk (fun _=>z9z (v:=mkE sT ho c a b) hv (Nat.zero_le _) ?_) fun e=>absurd rfl e
 rw[c2];exact h
structure AEB(x:AEnv):Prop where
 h:0<=x.2/\x.2<=1000000
 c:0<=x.3/\x.3<=1000000
 a:0<=x.4/\x.4<=1000000
 b:0<=x.5/\x.5<=1000000
def envX(x:AEnv):Envt:=envV x.1 x.2 x.3 x.4 x.5
theorem w67{x:AEnv}{K:Envt->Prop}(hx:AEB x)(h:K (envX x)):J9 x K:=by
 unfold J9 V9
 exact j93 hx.h.1 hx.h.2 hx.c.1 hx.c.2 hx.a.1 hx.a.2 hx.b.1 hx.b.2 h
end Go.En
end
noncomputable section
set_option maxRecDepth 100000
namespace Go.En
open Go Go.Fl Go.Fl.Lk Go.Fx
abbrev idN:List ByteArray:=[(ByteArray.mk (Array.mk [97,110,110])),(ByteArray.mk (Array.mk [98,111,98])),(ByteArray.mk (Array.mk [99,97,116])),(ByteArray.mk (Array.mk [100,97,110])),(ByteArray.mk (Array.mk [101,118,101])),(ByteArray.mk (Array.mk [102,97,121]))]
theorem w68{i:ByteArray}(h:i∈idN):i=idN.getD 0 noT∨i=idN.getD 1 noT∨i=idN.getD 2 noT∨i=idN.getD 3 noT∨i=idN.getD 4 noT∨i=idN.getD 5 noT:=by
 rcases List.mem_cons.1 h with h|h
 ·exact .inl h
 rcases List.mem_cons.1 h with h|h
 ·exact .inr (.inl h)
 rcases List.mem_cons.1 h with h|h
 ·exact .inr (.inr (.inl h))
 rcases List.mem_cons.1 h with h|h
 ·exact .inr (.inr (.inr (.inl h)))
 rcases List.mem_cons.1 h with h|h
 ·exact .inr (.inr (.inr (.inr (.inl h))))
 ·exact .inr (.inr (.inr (.inr (.inr (List.mem_singleton.1 h)))))
theorem j98{i:ByteArray}(h:i∈idN):keyV i=true:=by
 rcases w68 h with rfl|rfl|rfl|rfl|rfl|rfl<;>exact q24 (by decide) (by decide+kernel) (by rw[z55];decide+kernel)
theorem w69{n:Int}{K:ByteArray->Prop}(h0:0<=n)(h: ∀y∈idN,K y):z4q n K:=by
 unfold z4q j23
 show (_->_)
 intro _
 have h1:=Int.tmod_nonneg 6 h0
 have h2:=Int.tmod_lt_of_pos n (b:=6) (by decide)
 refine⟨by decide,⟨h1,h2⟩,fun y hy=>h y (List.mem_of_getElem? hy)⟩
structure SmS(s t:Slt):Prop where
 i:s.1=t.1
 l:s.2=t.2
 x:s.3=t.3
 a:s.4=t.4
structure Sms(l k:List Slt):Prop where
 n:l.length=k.length
 s: ∀s∈l,∃t∈k,SmS s t
theorem Sms.refl(l:List Slt):Sms l l:=⟨rfl,fun s h=>⟨s,h,rfl,rfl,rfl,rfl⟩⟩
theorem Sms.set{l k:List Slt}(h:Sms l k){i:Nat}{y z:Slt}(hy:l[i]? =some y)(hz:SmS z y):Sms (l.set i z) k:=
 ⟨by rw[List.length_set];exact h.n,fun s hs=>by
  rcases List.mem_or_eq_of_mem_set hs with hs|rfl
  ·exact h.s s hs
  ·obtain⟨t,ht,e⟩:=h.s y (List.mem_of_getElem? hy)
   exact⟨t,ht,hz.i.trans e.i,hz.l.trans e.l,hz.x.trans e.x,hz.a.trans e.a⟩⟩
theorem Sms.set2{l k:List Slt}(h:Sms l k){i:Nat}{y z u w:Slt}(hy:l[i]? =some y)(hz:SmS z y)(hu:(l.set i z)[i]? =some u)(hw:SmS w u):Sms ((l.set i z).set i w) k:=(h.set hy hz).set hu hw
theorem w7a{r:Reg}{x:ByteArray}{now:Int}{K:Reg->Int->Int->Prop}(h1: ∀c ls,Sms ls r.3->K (Reg.mk now r.2 ls) c 0)(h2: ∀e,e≠0->K noRg 0 e):q06 r x now K:=by
 unfold q06 q41
 refine z90 (Cnd.mk (fun c=> ?_) fun c=>h2 _ c)
 have ok:=(q7m.1 c).ok
 have hln:=ok.ln
 have hsn:=ok.sn
 refine Je (Cnd.mk (fun _=> ?_) fun _=>h2 _ (by decide))
 refine z6a (by omega) (z6b (by omega) fun _=> ?_)
 refine Lp3.ind (fun (n i:Int) ls=>0<=n/\n<=i/\0<=i/\i<=(r.3.length:Int)/\Sms ls r.3) (fun _ (i:Int) _=>((r.3.length:Int) - i).toNat) ?_ ⟨by decide,by decide,by decide,by omega,Sms.refl _⟩
 rintro n i ls ⟨n0,n1,i0,i1,hs⟩
 have hn:=hs.n
 have nx:i<r.3.length->InI (i+1)/\(0<=n/\n<=i+1/\0<=i+1/\i+1<=r.3.length/\Sms ls r.3)/\((r.3.length:Int) - (i+1)).toNat<((r.3.length:Int) - i).toNat:=fun hi=>⟨by unfold InI;omega,⟨n0,by omega,by omega,by omega,hs⟩,by omega⟩
 refine Cnd.mk (fun hc=>⟨by omega,fun y _=>Cnd.mk (fun _=>fun y2 _=>Cnd.mk (fun _=>fun y3 h3 y4 h4=>⟨by unfold InI;omega,by unfold InI;omega,⟨by omega,by omega,by omega,by omega,?_⟩,by omega⟩) fun _=>nx hc) fun _=>nx hc⟩) fun hc=>h1 _ _ hs
 exact hs.set2 h3 ⟨rfl,rfl,rfl,rfl⟩ h4 ⟨rfl,rfl,rfl,rfl⟩
theorem w2w{r:Reg}{a b:ByteArray}{now:Int}{K:Reg->List Slt->Int->Prop}(h1: ∀ks ls us,ks=r.2∨ks=r.2++[Lnk.mk a b now]->Sms ls r.3->K (Reg.mk now ks ls) us 0)(h2: ∀e,e≠0->K noRg [] e):Br r a b now K:=by
 unfold Br q3n
 refine z90 (Cnd.mk (fun c=> ?_) fun c=>h2 _ c)
 have ok:=(q7m.1 c).ok
 have hln:=ok.ln
 have hsn:=ok.sn
 refine Je (Cnd.mk (fun _=> ?_) fun _=>h2 _ (by decide))
 refine Je (Cnd.mk (fun _=> ?_) fun _=>h2 _ (by decide))
 refine Cnd.mk (fun _=>h2 _ (by decide)) fun _=> ?_
 refine z6a (by omega) (z6b (by omega) (j9s (by omega) (Cnd.mk (fun _=>h1 _ _ _ (.inl rfl) (Sms.refl _)) fun _=>fun _=>Cnd.mk (fun _=>h2 _ (by decide)) fun _=>⟨by unfold Sml;simp;omega,q3z (by simp;omega) fun _=> ?_⟩)))
 refine LpH.ind (fun x=>(0:Int)<=x.2.1/\x.2.1<=(r.3.length:Int)/\(x.1.length:Int)<=x.2.1/\x.2.2.2.1=r.2++[Lnk.mk a b now]/\Sms x.2.2.2.2.2.1 r.3) (fun x=>((r.3.length:Int) - (x.2.1:Int)).toNat) ?_ ⟨by show (0:Int)<=0;decide,by show (0:Int)<=(r.3.length:Int);omega,by show (0:Int)<=0;decide,rfl,Sms.refl _⟩
 rintro⟨us,i,F,ks,k2,ls,u⟩ ⟨i0,i1,hu,hk,hs⟩
 dsimp only at i0 i1 hu hk hs⊢
 subst hk
 have hn:=hs.n
 have nx: ∀(us':List Slt) (ls':List Slt),i<r.3.length->(us'.length:Int)<=i+1->Sms ls' r.3->InI (i+1)/\(0<=i+1/\i+1<=r.3.length/\(us'.length:Int)<=i+1/\r.2++[Lnk.mk a b now]=r.2++[Lnk.mk a b now]/\Sms ls' r.3)/\((r.3.length:Int) - (i+1)).toNat<((r.3.length:Int) - i).toNat:=fun us' ls' hi hu' hs'=>⟨by unfold InI;omega,⟨by omega,by omega,hu',rfl,hs'⟩,by omega⟩
 refine Cnd.mk (fun hc=>⟨by omega,fun y _=>Cnd.mk (fun _=>fun y2 _=>q3z (by simp;omega) (Cnd.mk (fun _=> ?_) fun _=>nx us ls hc (by omega) hs)) fun _=>nx us ls hc (by omega) hs⟩) fun hc=>h1 _ _ _ (.inr rfl) hs
 refine Jn4.mk (fun us' ks' ls' k2'=>(us'.length:Int)<=i+1/\ks'=r.2++[Lnk.mk a b now]/\Sms ls' r.3) ?_ ?_
 ·intro y3 h3
  refine Cnd.mk (fun _=>fun y4 h4 y5 h5 y6 h6=>⟨by unfold Sml;simp;omega,by simp;omega,rfl,?_⟩) fun _=>⟨by omega,rfl,hs⟩
  exact hs.set2 h4 ⟨rfl,rfl,rfl,rfl⟩ h5 ⟨rfl,rfl,rfl,rfl⟩
 ·rintro us' ks' ls' k2' ⟨g1,rfl,g3⟩ y7 _
  exact nx us' ls' hc g1 g3
end Go.En
end
noncomputable section
set_option maxRecDepth 100000
namespace Go.En
open Go Go.Fl Go.Fl.Lk Go.Fx
theorem SmS.gd{sT:ByteArray}{ho c a b:Int}{s t:Slt}{k:Nat}(h:SmS s t)(g:GdS sT ho c a b t k):GdS sT ho c a b s k:=by
 obtain⟨e1,e2,e3,e4⟩:=h
 refine⟨g.kk,e2.trans g.l,?_,?_,?_⟩
 ·rw[e1,e2];exact g.q
 ·rw[e1,e2,e3];exact g.x
 ·rw[e1,e2,e4];exact g.m
structure PlB(sT:ByteArray)(ho c a b:Int)(n:Int)(r:Reg):Prop where
 t0:0<=r.1
 t1:r.1<=3*n
 ln:(r.2.length:Int)<=n
 sn:(r.3.length:Int)<=n
 sl: ∀s∈r.3,(∃k,GdS sT ho c a b s k)/\s.1∈idN
theorem PlB.up{sT:ByteArray}{ho c a b n:Int}{r:Reg}(h:PlB sT ho c a b n r):PlB sT ho c a b (n+1) r:=
 ⟨h.t0,by have:=h.t1;omega,by have:=h.ln;omega,by have:=h.sn;omega,h.sl⟩
theorem PlB.sms{sT:ByteArray}{ho c a b n now:Int}{r:Reg}{ks:List Lnk}{ls:List Slt}(h:PlB sT ho c a b n r)(h0:r.1<=now)(h1:now<=r.1+3)(hk:ks.length<=r.2.length+1)(hs:Sms ls r.3):PlB sT ho c a b (n+1) (Reg.mk now ks ls) where
 t0:=by have:=h.t0;show 0<=now;omega
 t1:=by have:=h.t1;show now<=_;omega
 ln:=by have:=h.ln;show (ks.length:Int)<=_;omega
 sn:=by have:=h.sn;have:=hs.n;show (ls.length:Int)<=_;omega
 sl s hm:=by
  obtain⟨t,ht,e⟩:=hs.s s hm
  obtain⟨⟨k,g⟩,hi⟩:=h.sl t ht
  exact⟨⟨k,e.gd g⟩,by rw[e.i];exact hi⟩
theorem PlB.new{sT:ByteArray}{ho c a b n now:Int}{r:Reg}{s:Slt}{k:Nat}(h:PlB sT ho c a b n r)(h0:r.1<=now)(h1:now<=r.1+3)(hg:GdS sT ho c a b s k)(hi:s.1∈idN):PlB sT ho c a b (n+1) (Reg.mk now r.2 (r.3++[s])) where
 t0:=by have:=h.t0;show 0<=now;omega
 t1:=by have:=h.t1;show now<=_;omega
 ln:=by have:=h.ln;show (r.2.length:Int)<=_;omega
 sn:=by have:=h.sn;show ((r.3++[s]).length:Int)<=_;simp;omega
 sl t ht:=by
  rcases List.mem_append.1 ht with ht|ht
  ·exact h.sl t ht
  ·rw[List.mem_singleton.1 ht];exact⟨⟨k,hg⟩,hi⟩
theorem j99{r:Reg}{id:ByteArray}{a:Asg}{cool now:Int}(h:(asnV r id a cool now).2.2=0):(asnV r id a cool now).1=Reg.mk now r.2 r.3∨ ¬badA a/\(asnV r id a cool now).1=Reg.mk now r.2 (r.3++[j3p id a now]):=by
 unfold asnV at h⊢
 split at h
 ·rename_i c1
  rw[if_pos c1]
  split at h
  ·cases h
  ·rename_i c2
   rw[if_neg c2]
   split at h
   ·rename_i c3
    rw[if_pos c3]
    cases hc:curV r id a.1 with
    |some s=>rw[j17 hc];exact .inl rfl
    |none=>
     rw[z6d hc] at h⊢
     split at h
     ·cases h
     ·rename_i c4
      rw[if_neg c4]
      split at h
      ·cases h
      ·rename_i c5
       rw[if_neg c5]
       split at h
       ·cases h
       ·rename_i c6
        rw[if_neg c6];exact .inr ⟨c4,rfl⟩
   ·cases h
 ·rename_i c1
  exact absurd h c1
theorem w88{sT:ByteArray}{ho c a b now:Int}{k:Nat}{id:ByteArray}(hk:k<2)(h: ¬badA (asgM sT ho c a b k id)):GdS sT ho c a b (j3p id (asgM sT ho c a b k id) now) k:=by
 by_cases hq:ofV (sT++lN.getD k noT) id<ho
 ·exact absurd (.inl (by unfold asgM;rw[if_pos hq])) h
 ·unfold asgM
  rw[if_neg hq]
  exact⟨hk,rfl,by show ho<=ofV (sT++lN.getD k noT) id;omega,rfl,rfl⟩
structure MvB(m:Mov):Prop where
 k:0<=m.1/\m.1<=1000
 i:0<=m.2/\m.2<=1000
 o:0<=m.3/\m.3<=1000
 l:0<=m.4/\m.4<=1000
 a:0<=m.5/\m.5<=1000
theorem w7b{sT:ByteArray}{ho c a b:Int}(hs:sT.size<=1000)(hm:MdB ho c a b){l:List Mov}(hl:l.length<=1000)(hb: ∀m∈l,MvB m){K:Reg->Prop}(h: ∀r,PlB sT ho c a b l.length r->K r):q2y (mkE sT ho c a b) l K:=by
 unfold q2y q6f
 have hv:=j95 (ho:=ho) (c:=c) (a:=a) (b:=b) hs
 refine Lp4.ind (fun (i t:Int) ks ls=>0<=i/\i<=(l.length:Int)/\PlB sT ho c a b i (Reg.mk t ks ls)) (fun (i _:Int) _ _=>((l.length:Int) - i).toNat) ?_ ⟨by decide,by omega,⟨by show (0:Int)<=0;decide,by show (0:Int)<=0;decide,by show (0:Int)<=0;decide,by show (0:Int)<=0;decide,fun s hs=>by cases hs⟩⟩
 rintro i t ks ls ⟨i0,i1,hp⟩ _
 refine Cnd.mk (fun hc=>⟨by omega,fun y hy=> ?_⟩) fun hc=>h _ (by rw[show i=(l.length:Int) by omega] at hp;exact hp)
 have hy:=hb y (List.mem_of_getElem? hy)
 have t0:0<=t:=hp.t0
 have t1:t<=3*i:=hp.t1
 obtain⟨y50,y51⟩:=hy.a
 obtain⟨y30,y31⟩:=hy.o
 obtain⟨y40,y41⟩:=hy.l
 have d0:=Int.tmod_nonneg 4 y50
 have d1:=Int.tmod_lt_of_pos y.5 (b:=4) (by decide)
 refine⟨by unfold InI;omega,by decide,by unfold InI;omega,by have:=hy.i;unfold InI;omega,w69 hy.i.1 fun id hid=> ?_⟩
 refine Jn4.mk (fun e t' ks' ls'=>e=0->PlB sT ho c a b (i+1) (Reg.mk t' ks' ls')) ?_ ?_
 ·refine⟨by decide,?_⟩
  refine Jn1.mk (fun _=>True) ?_ fun o _=> ?_
  ·exact Cnd.mk (fun _=>trivial) fun _=>Cnd.mk (fun _=>trivial) fun _=>Cnd.mk (fun _=>trivial) fun _=>trivial
  refine Cnd.mk (fun _=>⟨by decide,?_⟩) fun _=>Cnd.mk (fun _=>⟨by decide,?_⟩) fun _=>⟨by unfold InI;omega,w69 y30 fun id2 _=> ?_⟩
  ·show q6a id _
   have l0:=Int.tmod_nonneg 2 y40
   have l1:=Int.tmod_lt_of_pos y.4 (b:=2) (by decide)
   refine⟨⟨l0,l1⟩,fun key hkey=> ?_⟩
   have hkey:=(z6f hkey).symm
   have hk2:(y.4.tmod 2).toNat<2:=by omega
   generalize (y.4.tmod 2).toNat=k at hkey hk2
   subst hkey
   refine q6z (v:=mkE sT ho c a b) (s:=usr id) (key:=lN.getD k noT) hv (j5c (Nat.le_trans (j3m (j98 hid)) (by decide))) (by decide) ?_
   rw[w4b hk2 hm]
   have o1:=Int.tmod_lt_of_pos y.3 (b:=3) (by decide)
   refine⟨by unfold InI;omega,by decide,j18 (r:=Reg.mk t ks ls) (by omega) fun he=> ?_⟩
   rcases j99 he with e|⟨e1,e⟩
   ·rw[e];exact hp.sms (now:=t+y.5.tmod 4) (ks:=ks) (ls:=ls) (by show t<=_;omega) (by show _<=t+3;omega) (by show ks.length<=ks.length+1;omega) (Sms.refl _)
   ·rw[e];exact hp.new (now:=t+y.5.tmod 4) (s:=j3p id (asgM sT ho c a b k id) (t+y.5.tmod 4)) (by show t<=_;omega) (by show _<=t+3;omega) (w88 hk2 e1) hid
  ·have o0:=Int.tmod_nonneg 4 y30
   have o1:=Int.tmod_lt_of_pos y.3 (b:=4) (by decide)
   refine⟨⟨o0,o1⟩,fun x _=>w7a (r:=Reg.mk t ks ls) (fun n ls' hs' _=> ?_) fun e he h0=>absurd h0 he⟩
   exact hp.sms (now:=t+y.5.tmod 4) (ks:=ks) (ls:=ls') (by show t<=_;omega) (by show _<=t+3;omega) (by show ks.length<=ks.length+1;omega) hs'
  ·refine w2w (r:=Reg.mk t ks ls) (fun ks' ls' us hk hs' _=> ?_) fun e he h0=>absurd h0 he
   refine hp.sms (now:=t+y.5.tmod 4) (ks:=ks') (ls:=ls') (by show t<=_;omega) (by show _<=t+3;omega) ?_ hs'
   rcases hk with rfl|rfl
   ·exact Nat.le_succ _
   ·show (ks++_).length<=_;simp
 ·intro e t' ks' ls' hq
  refine Cnd.mk (fun he=>⟨by unfold InI;omega,⟨by omega,by omega,hq he⟩,by omega⟩) fun _=>⟨by unfold InI;omega,⟨by omega,by omega,hp.up⟩,by omega⟩
end Go.En
end
noncomputable section
set_option maxRecDepth 100000
namespace Go.En
open Go Go.Fl Go.Fl.Lk Go.Fx
theorem v0p{l:List Lnk}{b:ByteArray}: ∀(n:Nat) (a:ByteArray),IsDist (tup l) a b n-> ∃p:List Lnk,Gp (tup l) b a (tup p):=by
 intro n
 induction n with
 |zero=>intro a h;rw[IsDist.zero.1 h];exact⟨[],.done⟩
 |succ n ih=>
  intro a ha
  obtain⟨e,he,y,ho,hy⟩:=ha.next
  obtain⟨j,hj⟩:=List.mem_iff_getElem?.1 he
  obtain⟨j,⟨e,y,hj,ho,hy⟩,hmin⟩:=z56 (p:=fun j=> ∃e y,(tup l)[j]? =some e/\oth e a=some y/\IsDist (tup l) y b n) ⟨e,y,hj,ho,hy⟩
  obtain⟨p,hp⟩:=ih y hy
  obtain⟨f,hf,rfl⟩:=w37 hj
  exact⟨f::p,.step hj ho ha hy (fun i hi e' he' y' ho' hd'=>by have:=hmin i ⟨e',y',he',ho',hd'⟩;omega) hp⟩
theorem j5g{l:List Lnk}{a b:ByteArray}(hc:Conn (tup l) a b):Gp (tup l) b a (tup (q7v l a b).1):=by
 obtain⟨n,hn⟩:=hc.dist
 obtain⟨p,hp⟩:=v0p n a hn
 have:PathIs l a b p true:=⟨⟨fun _=>hc,fun _=>rfl⟩,fun _=>hp,fun h=>by cases h⟩
 rw[q7k this];exact hp
theorem w4c{l:List Lnk}{b:ByteArray}{t:Int}: ∀{p:List Lnk} {a:ByteArray},Gp (tup l) b a (tup p)->(∀e∈p,e.3<=t)->ldV b t p a=true
 |[],a,h,_=>by
  have h:Gp (tup l) b a []:=h
  cases h;exact dt rfl
 |k::p,a,h,ht=>by
  have h:Gp (tup l) b a (t3 k::tup p):=h
  cases h with
  |step _ ho _ _ _ hp=>
   have ih:=w4c (t:=t) hp fun e he=>ht e (List.mem_cons_of_mem _ he)
   have hk:=ht k List.mem_cons_self
   unfold ldV
   rw[if_neg (by omega)]
   by_cases c1:a=k.1
   ·rw[w6s c1] at ho;cases ho
    rw[if_pos c1.symm];exact ih
   ·by_cases c2:a=k.2
    ·rw[w6t c1 c2] at ho;cases ho
     rw[if_neg (fun e=>c1 e.symm),if_pos c2.symm];exact ih
    ·rw[w6u c1 c2] at ho;cases ho
theorem w7c{l:List Lnk}{t:Int}{e:Lnk}(h:e∈Hw l t):e.3<=t:=of_decide_eq_true (List.mem_filter.1 h).2
theorem w7d{l:List Lnk}{t:Int}{a b:ByteArray}(hc:Conn (tup (Hw l t)) a b): ∀e∈(q7v (Hw l t) a b).1,e.3<=t:=fun e he=>by
 have h:=(j5g hc).mem (t3 e) (List.mem_map.2 ⟨e,he,rfl⟩)
 obtain⟨f,hf,e2⟩:=List.mem_map.1 h
 rw[←w36 e2];exact w7c hf
theorem w2x{l:List Lnk}{t:Int}{a b:ByteArray}(hc:Conn (tup (Hw l t)) a b):ldV b t (q7v (Hw l t) a b).1 a=true:=w4c (j5g hc) (w7d hc)
structure AtIs(r:Reg)(id layer:ByteArray)(t:Int)(s:Slt):Prop where
 m:s∈r.3
 l:s.2=layer
 f:s.5<=t
 e:s.7=0∨t<s.6
 c:Conn (tup (Hw r.2 t)) id s.1
theorem w89{r:Reg}{id layer:ByteArray}{t:Int}{s:Slt}(h:atV r id layer t=some s):AtIs r id layer t s:=by
 have hp:=List.find?_some h
 unfold atP at hp
 simp only[Bool.and_eq_true,Bool.or_eq_true,decide_eq_true_eq] at hp
 exact⟨j91 h,hp.1,hp.2.1,hp.2.2.1,(q4c.1 hp.2.2.2).symm⟩
theorem w7e{sT:ByteArray}{ho c a b n:Int}{r:Reg}{id layer:ByteArray}{t:Int}{s:Slt}{q m:Int}(hp:PlB sT ho c a b n r)(hid:id∈idN)(h:AtIs r id layer t s):
  ∃k,GdS sT ho c a b s k/\chkV (Rcd.mk id t (Slt.mk s.1 s.2 s.3 m s.5 s.6 s.7) q (q7v (Hw r.2 t) id s.1).1) (mkE sT ho c a b)=if q=ofV (sT++s.2) s.1 then (if m=s.4 then 0 else 23) else 3:=by
 obtain⟨⟨k,g⟩,hi⟩:=hp.sl s h.m
 refine⟨k,g,?_⟩
 have hk:(keyV id && keyV s.1)=true:=by rw[j98 hid,j98 hi];rfl
 have hf:=h.f
 have he:=h.e
 rw[z0t (by exact hk) (fun e=>e.elim (fun e=>absurd (show t<s.5 from e) (by omega)) fun e=>by
  have e1: ¬s.7=0:=e.1
  have e2:s.6<=t:=e.2
  rcases he with he|he
  ·exact e1 he
  ·omega)]
 have hld:=w2x h.c
 obtain⟨i0,i1⟩:=j5e (c:=c) (q:=ofV (sT++s.2) s.1) g.kk
 obtain⟨r0,r1⟩:=z1v (sT++s.2) s.1
 have hx:xfV (mkE sT ho c a b) s.3 s.2=some (xpM sT ho c a b (ixM c (ofV (sT++s.2) s.1) k)):=by
  have:=w4a (sT:=sT) (ho:=ho) (c:=c) (a:=a) (b:=b) i0
  rw[i1,←g.l,←g.x] at this;exact this
 have hlo:lof (mkE sT ho c a b) s.2=some (lyM sT ho s.2):=by rw[g.l];exact j19 g.kk
 rw[z58 hld hlo hx]
 have hm:q3y (rgM a b) (ofV (sltX sT (ixM c (ofV (sT++s.2) s.1) k)) s.1)=s.4:=g.m.symm
 show (if q=ofV (sT++s.2) s.1 then (if insV (clM ho c _) q=true then (if m=q3y (rgM a b) (ofV (sltX sT _) s.1) then 0 else 23) else 25) else 3)=_
 rw[hm]
 by_cases h:q=ofV (sT++s.2) s.1
 ·rw[if_pos h,if_pos h,if_pos]
  rw[h]
  refine j5d.2 ?_
  have hq:=g.q
  have hk:=g.kk
  revert i0 i1
  unfold ixM
  split
  ·rename_i hq2
   intro i0 i1
   rw[if_neg (by omega)];exact⟨hq,hq2⟩
  ·intro i0 i1
   rw[if_pos (by omega)];exact⟨by omega,r1⟩
 ·rw[if_neg h,if_neg h]
theorem w9a{sT:ByteArray}{ho c a b:Int}{key:ByteArray}{n:Nat}(h:lN[n]? =some key):lof (mkE sT ho c a b) key=some (lyM sT ho key):=by
 have hn:n<2:=by
  rcases Nat.lt_or_ge n 2 with h2|h2
  ·exact h2
  ·rw[List.getElem?_eq_none (by simpa using h2)] at h;cases h
 rw[←z6f h];exact j19 hn
theorem z6g{x:AEnv}{l:List Mov}(hx:AEB x)(hb: ∀m∈l,MvB m){K:Bool->Prop}(h:K true):Zr x l K:=by
 unfold Zr Gm
 refine w2v (Cnd.mk (fun _=>fun _=>Cnd.mk (fun _=>h) fun hl=>w67 hx ?_) fun e=>absurd rfl e)
 have hs:(sTof x.1).size<=1000:=by rw[z0v];decide
 have hm:MdB (hoOf x.2) (cOf x.2 x.3) (aOf x.4) (bOf x.4 x.5):=j92 hx.h.1 hx.c.1 hx.a.1 hx.b.1
 unfold envX envV
 generalize sTof x.1=sT at hs⊢
 generalize hoOf x.2=ho at hm⊢
 generalize cOf x.2 x.3=c at hm⊢
 generalize aOf x.4=a at hm⊢
 generalize bOf x.4 x.5=b at hm⊢
 have hv:=j95 (ho:=ho) (c:=c) (a:=a) (b:=b) hs
 refine w7b (l:=l) hs hm (by omega) hb fun r hp=> ?_
 have t1:=hp.t1
 refine Lp1.ind (fun (t:Int)=>0<=t/\t<=r.1+1) (fun (t:Int)=>(r.1+1 - t).toNat) ?_ ⟨by decide,by have:=hp.t0;omega⟩
 rintro t ⟨t0,t2⟩
 refine Cnd.mk (fun hc=> ?_) fun _=>h
 refine Lp1.ind (fun (i:Int)=>0<=i/\i<=12) (fun (i:Int)=>(12 - i).toNat) ?_ ⟨by decide,by decide⟩
 rintro i ⟨i0,i1⟩
 refine Cnd.mk (fun hi=> ?_) fun _=>⟨by unfold InI;omega,⟨by omega,by omega⟩,by omega⟩
 have q0:=Int.tdiv_nonneg i0 (show (0:Int)<=2 by decide)
 have q1:i.tdiv 2<=i:=by rw[Int.tdiv_eq_ediv_of_nonneg i0];omega
 have m0:=Int.tmod_nonneg 2 i0
 have m1:=Int.tmod_lt_of_pos i (b:=2) (by decide)
 refine⟨by decide,by unfold InI;omega,by decide,w69 q0 fun id hid=>⟨⟨m0,m1⟩,fun key hkey=> ?_⟩⟩
 have nx:InI (i+1)/\(0<=i+1/\i+1<=12)/\(12 - (i+1)).toNat<(12 - i).toNat:=⟨by unfold InI;omega,⟨by omega,by omega⟩,by omega⟩
 refine w82 (fun hr=> ?_) fun hr=> ?_
 ·refine z13 (r:=r) (v:=mkE sT ho c a b) (id:=id) (key:=key) (t:=t) hv ?_
  have hlo:=w9a (sT:=sT) (ho:=ho) (c:=c) (a:=a) (b:=b) hkey
  cases ha:atV r id key t with
  |none=>rw[j3o hr (.inl ha)];exact Cnd.mk (fun _=>Cnd.mk (fun e=>by cases e) fun _=>nx) fun e=>absurd rfl e
  |some s=>
   rw[z59 hr ha hlo]
   have hat:=w89 ha
   obtain⟨k,g,hk⟩:=w7e (q:=ofV (sT++s.2) s.1) (m:=s.4) hp hid hat
   refine Cnd.mk (fun _=>Cnd.mk (fun _=>Cnd.mk (fun _=>Cnd.mk (fun _=>Cnd.mk (fun _=> ?_) fun e=>absurd rfl e) fun e=>absurd rfl e) fun e=>absurd ⟨rfl,rfl,rfl,rfl,rfl,rfl,rfl⟩ e) fun e=>absurd rfl e) fun e=>absurd rfl e
   have hpl:=j16 (l:=Hw r.2 t) (a:=id) (b:=s.1)
   have hul:=z0r r.2 t
   have hln:=hp.ln
   refine z9z (x:=Rcd.mk id t s (ofV (sT++key) s.1) (q7v (Hw r.2 t) id s.1).1) (v:=mkE sT ho c a b) hv (by show (q7v (Hw r.2 t) id s.1).1.length<=_;omega) ?_
   rw[if_pos rfl,if_pos rfl,hat.l] at hk
   have hk:chkV (Rcd.mk id t s (ofV (sT++key) s.1) (q7v (Hw r.2 t) id s.1).1) (mkE sT ho c a b)=0:=by
    rw[←hk,←hat.l]
   rw[hk]
   exact Cnd.mk (fun _=>nx) fun e=>absurd rfl e
 ·refine z13 (r:=r) (v:=mkE sT ho c a b) (id:=id) (key:=key) (t:=t) hv ?_
  rw[j5b (by rw[hr];decide)]
  exact Cnd.mk (fun _=>Cnd.mk (fun e=>by cases e) fun _=>nx) fun e=>absurd rfl e
end Go.En
end
noncomputable section
set_option maxRecDepth 100000
namespace Go.En
open Go Go.RowKit Go.Fl Go.Fl.Lk Go.Fx
section
variable {H:Type}{enc:TypeId×Value->H}{W:World}{base:Nat}{spare:Nat->Bool}{held:Bool}
theorem q9c{n:Int}(h:(Lit.int .u8 n).wf=true):0<=n/\n<=255:=by
 simp only[Lit.wf,Bool.and_eq_true,decide_eq_true_eq] at h
 have a:=h.1
 have b:=h.2
 simp[IntKind.min] at a
 simp[IntKind.max] at b
 exact⟨a,b⟩
theorem z94{n:Int}(h:(Lit.int .u16 n).wf=true):0<=n/\n<=65535:=by
 simp only[Lit.wf,Bool.and_eq_true,decide_eq_true_eq] at h
 have a:=h.1
 have b:=h.2
 simp[IntKind.min] at a
 simp[IntKind.max] at b
 exact⟨a,b⟩
theorem w2y{fuel:Nat}{cs:List Value}{x:DataW H×List MemPlace}(hl:cs.length=5)(h:DataW.trod enc Proofs.Tryz.prog W base spare held fuel 128 cs=some x): ∃y:Mov,RowF D (hv W) cs (D.shape .move y)/\MvB y:=by
 obtain⟨xs,m,hfu,rfl,_,hn,hf⟩:=DataW.trod_struct Proofs.Tryz.underlying128 h
 have c5:Proofs.Tryz.prog.cellsOf 5=1:=by kernel_rfl
 match xs,hn with
 |[z0,z1,z2,z3,z4],_=>
 have q0:=hf 0 _ rfl
 have q1:=hf 1 _ rfl
 have q2:=hf 2 _ rfl
 have q3:=hf 3 _ rfl
 have q4:=hf 4 _ rfl
 match cs,hl with
 |[u0,u1,u2,u3,u4],_=>
 change DataW.trod enc Proofs.Tryz.prog W base spare held m 5 (List.take (Proofs.Tryz.prog.cellsOf 5) [u0,u1,u2,u3,u4])=some z0 at q0
 rw[c5] at q0
 change DataW.trod enc Proofs.Tryz.prog W base spare held m 5 [u0]=some z0 at q0
 obtain⟨a0,e0,g0,w0⟩:=DataW.trod_int Proofs.Tryz.underlying5 q0
 have i0:=q9c w0
 change DataW.trod enc Proofs.Tryz.prog W base spare held m 5 (List.take (Proofs.Tryz.prog.cellsOf 5) [u1,u2,u3,u4])=some z1 at q1
 rw[c5] at q1
 change DataW.trod enc Proofs.Tryz.prog W base spare held m 5 [u1]=some z1 at q1
 obtain⟨a1,e1,g1,w1⟩:=DataW.trod_int Proofs.Tryz.underlying5 q1
 have i1:=q9c w1
 change DataW.trod enc Proofs.Tryz.prog W base spare held m 5 (List.take (Proofs.Tryz.prog.cellsOf 5) [u2,u3,u4])=some z2 at q2
 rw[c5] at q2
 change DataW.trod enc Proofs.Tryz.prog W base spare held m 5 [u2]=some z2 at q2
 obtain⟨a2,e2,g2,w2⟩:=DataW.trod_int Proofs.Tryz.underlying5 q2
 have i2:=q9c w2
 change DataW.trod enc Proofs.Tryz.prog W base spare held m 5 (List.take (Proofs.Tryz.prog.cellsOf 5) [u3,u4])=some z3 at q3
 rw[c5] at q3
 change DataW.trod enc Proofs.Tryz.prog W base spare held m 5 [u3]=some z3 at q3
 obtain⟨a3,e3,g3,w3⟩:=DataW.trod_int Proofs.Tryz.underlying5 q3
 have i3:=q9c w3
 change DataW.trod enc Proofs.Tryz.prog W base spare held m 5 (List.take (Proofs.Tryz.prog.cellsOf 5) [u4])=some z4 at q4
 rw[c5] at q4
 change DataW.trod enc Proofs.Tryz.prog W base spare held m 5 [u4]=some z4 at q4
 obtain⟨a4,e4,g4,w4⟩:=DataW.trod_int Proofs.Tryz.underlying5 q4
 have i4:=q9c w4
 simp only[List.cons.injEq,and_true] at e0
 subst e0
 subst g0
 simp only[List.cons.injEq,and_true] at e1
 subst e1
 subst g1
 simp only[List.cons.injEq,and_true] at e2
 subst e2
 subst g2
 simp only[List.cons.injEq,and_true] at e3
 subst e3
 subst g3
 simp only[List.cons.injEq,and_true] at e4
 subst e4
 subst g4
 refine⟨Mov.mk a0 a1 a2 a3 a4,(Z8 (.int _ _) (Z8 (.int _ _) (Z8 (.int _ _) (Z8 (.int _ _) (Z8 (.int _ _) z4m))))),?_⟩
 exact⟨⟨i0.1,by have:=i0.2;simp only;omega⟩,⟨i1.1,by have:=i1.2;simp only;omega⟩,⟨i2.1,by have:=i2.2;simp only;omega⟩,⟨i3.1,by have:=i3.2;simp only;omega⟩,⟨i4.1,by have:=i4.2;simp only;omega⟩⟩
theorem w2z{fuel:Nat}{cs:List Value}{x:DataW H×List MemPlace}(hl:cs.length=5)(h:DataW.trod enc Proofs.Tryz.prog W base spare held fuel 24 cs=some x): ∃y:AEnv,RowF D (hv W) cs (D.shape .aenv y)/\AEB y:=by
 obtain⟨xs,m,hfu,rfl,_,hn,hf⟩:=DataW.trod_struct Proofs.Tryz.underlying24 h
 have c5:Proofs.Tryz.prog.cellsOf 5=1:=by kernel_rfl
 have c22:Proofs.Tryz.prog.cellsOf 22=1:=by kernel_rfl
 match xs,hn with
 |[z0,z1,z2,z3,z4],_=>
 have q0:=hf 0 _ rfl
 have q1:=hf 1 _ rfl
 have q2:=hf 2 _ rfl
 have q3:=hf 3 _ rfl
 have q4:=hf 4 _ rfl
 match cs,hl with
 |[u0,u1,u2,u3,u4],_=>
 change DataW.trod enc Proofs.Tryz.prog W base spare held m 5 (List.take (Proofs.Tryz.prog.cellsOf 5) [u0,u1,u2,u3,u4])=some z0 at q0
 rw[c5] at q0
 change DataW.trod enc Proofs.Tryz.prog W base spare held m 5 [u0]=some z0 at q0
 obtain⟨a0,e0,g0,w0⟩:=DataW.trod_int Proofs.Tryz.underlying5 q0
 have i0:=q9c w0
 change DataW.trod enc Proofs.Tryz.prog W base spare held m 5 (List.take (Proofs.Tryz.prog.cellsOf 5) [u1,u2,u3,u4])=some z1 at q1
 rw[c5] at q1
 change DataW.trod enc Proofs.Tryz.prog W base spare held m 5 [u1]=some z1 at q1
 obtain⟨a1,e1,g1,w1⟩:=DataW.trod_int Proofs.Tryz.underlying5 q1
 have i1:=q9c w1
 change DataW.trod enc Proofs.Tryz.prog W base spare held m 22 (List.take (Proofs.Tryz.prog.cellsOf 22) [u2,u3,u4])=some z2 at q2
 rw[c22] at q2
 change DataW.trod enc Proofs.Tryz.prog W base spare held m 22 [u2]=some z2 at q2
 obtain⟨a2,e2,g2,w2⟩:=DataW.trod_int Proofs.Tryz.underlying22 q2
 have i2:=z94 w2
 change DataW.trod enc Proofs.Tryz.prog W base spare held m 22 (List.take (Proofs.Tryz.prog.cellsOf 22) [u3,u4])=some z3 at q3
 rw[c22] at q3
 change DataW.trod enc Proofs.Tryz.prog W base spare held m 22 [u3]=some z3 at q3
 obtain⟨a3,e3,g3,w3⟩:=DataW.trod_int Proofs.Tryz.underlying22 q3
 have i3:=z94 w3
 change DataW.trod enc Proofs.Tryz.prog W base spare held m 22 (List.take (Proofs.Tryz.prog.cellsOf 22) [u4])=some z4 at q4
 rw[c22] at q4
 change DataW.trod enc Proofs.Tryz.prog W base spare held m 22 [u4]=some z4 at q4
 obtain⟨a4,e4,g4,w4⟩:=DataW.trod_int Proofs.Tryz.underlying22 q4
 have i4:=z94 w4
 simp only[List.cons.injEq,and_true] at e0
 subst e0
 subst g0
 simp only[List.cons.injEq,and_true] at e1
 subst e1
 subst g1
 simp only[List.cons.injEq,and_true] at e2
 subst e2
 subst g2
 simp only[List.cons.injEq,and_true] at e3
 subst e3
 subst g3
 simp only[List.cons.injEq,and_true] at e4
 subst e4
 subst g4
 refine⟨AEnv.mk a0 a1 a2 a3 a4,(Z8 (.int _ _) (Z8 (.int _ _) (Z8 (.int _ _) (Z8 (.int _ _) (Z8 (.int _ _) z4m))))),?_⟩
 exact⟨⟨i1.1,by have:=i1.2;simp only;omega⟩,⟨i2.1,by have:=i2.2;simp only;omega⟩,⟨i3.1,by have:=i3.2;simp only;omega⟩,⟨i4.1,by have:=i4.2;simp only;omega⟩⟩
end
end Go.En
end
