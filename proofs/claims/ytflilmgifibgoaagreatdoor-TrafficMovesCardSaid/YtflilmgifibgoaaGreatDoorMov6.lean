/- TrafficMoves This is part 6 of 10. Conditions: those in the statements. -/
import Derived.Test.YtflilmgifibgoaaGreatDoorMov5
noncomputable section
set_option maxRecDepth 100000
namespace Go.En
open Go Go.Fl Go.Fl.Lk Go.Fx
def runE(v:Envt)(key:ByteArray):Option Exper:=(xof v key).bind fun x=>if x.5=2 then some x else none
theorem q36{v:Envt}{key:ByteArray}{x:Exper}:runE v key=some x↔xof v key=some x/\x.5=2:=by
 unfold runE
 cases h:xof v key with
 |none=>simp
 |some y=>
  by_cases h2:y.5=2
  ·simp[h2];rintro rfl;exact h2
  ·simp[h2];rintro rfl;exact h2
theorem v0q{v:Envt}{key:ByteArray}(h: ∀x,xof v key=some x->x.5≠2):runE v key=none:=by
 cases h2:runE v key with
 |none=>rfl
 |some x=>exact absurd (q36.1 h2).2 (h x (q36.1 h2).1)
abbrev NdX(v:Envt):Prop:=(v.6.map Exper.key).Nodup
theorem z0h{v:Envt}{key:ByteArray}{x:Exper}(hd:NdX v)(hx:x∈v.6)(hk:x.1=key):xof v key=some x:=by
 unfold xof
 cases h:v.6.find? fun x=>decide (x.1=key) with
 |none=>exact absurd hk (by have:=List.find?_eq_none.1 h x hx;simpa using this)
 |some y=>
  have hy:=List.mem_of_find?_eq_some h
  have hyk:y.1=key:=by have:=List.find?_some h;simpa using this
  obtain⟨i,hi⟩:=List.mem_iff_getElem?.1 hx
  obtain⟨j,hj⟩:=List.mem_iff_getElem?.1 hy
  have e1:(v.6.map Exper.key)[i]? =some key:=by rw[List.getElem?_map,hi];exact congrArg some hk
  have e2:(v.6.map Exper.key)[j]? =some key:=by rw[List.getElem?_map,hj];exact congrArg some hyk
  have:i=j:=(List.getElem?_inj (Qa e1) hd).1 (e1.trans e2.symm)
  subst this
  rw[hi] at hj
  exact hj.symm
theorem w43{v:Envt}{key:ByteArray}{x:Exper}(h:xof v key=some x):x∈v.6/\x.1=key:=⟨List.mem_of_find?_eq_some h,by have:=List.find?_some h;simpa using this⟩
theorem j01{v:Envt}{key:ByteArray}{K:Exper->Bool->Prop}(hn:v.6.length<=1000)(hd:NdX v)(h0:runE v key=none-> ∀x:Exper,x.6=[]->K x false)(h1: ∀x,runE v key=some x->K x true):Vf v key K:=by
 unfold Vf
 intro _
 refine LpH.ind (fun x=> ∃j:Nat,x.1=(j:Int)/\j<=v.6.length/\ ∀y∈v.6.take j,y.1=key->y.5≠2) (fun x=>((v.6.length:Int) - x.1).toNat) ?_ ⟨0,rfl,by omega,by simp⟩
 rintro⟨i,x⟩ ⟨j,hi,hj,hno⟩
 dsimp only at hi⊢
 subst hi
 refine Cnd.mk (fun hc=>⟨by omega,fun y hy=> ?_⟩) fun hc=> ?_
 ·have hy:v.6[j]? =some y:=hy
  have tk:v.6.take (j+1)=v.6.take j++[y]:=by rw[List.take_add_one,hy];rfl
  have nx: ¬(y.1=key/\y.5=2)->InI ((j:Int)+1)/\(∃j':Nat,(j:Int)+1=(j':Int)/\j'<=v.6.length/\ ∀y∈v.6.take j',y.1=key->y.5≠2)/\(v.6.length - ((j:Int)+1)).toNat<(v.6.length - (j:Int)).toNat:=fun hn2=>⟨by unfold InI;omega,⟨j+1,by omega,by omega,fun z hz hk=>by
   rw[tk] at hz
   rcases List.mem_append.1 hz with hz|hz
   ·exact hno z hz hk
   ·rw[List.mem_singleton.1 hz] at hk⊢;exact fun h2=>hn2 ⟨hk,h2⟩⟩,by omega⟩
  refine Cnd.mk (fun hk=>Cnd.mk (fun h2=> ?_) fun h2=>nx fun q=>h2 q.2) fun hk=>nx fun q=>hk q.1
  rw[Wg]
  exact h1 y (q36.2 ⟨z0h hd (getm hy) hk,h2⟩)
 ·rw[List.take_of_length_le (by omega)] at hno
  exact h0 (v0q fun x hx=>hno x (w43 hx).1 (w43 hx).2) _ rfl
theorem w0r{v:Envt}{key:ByteArray}{K:Int->Prop}(hn:v.5.length<=1000)(h0:lof v key=none->K (-1))(h1: ∀(j:Nat) l,v.5[j]? =some l->lof v key=some l->K (j:Int)):Zm v key K:=by
 unfold Zm
 exact fun _=>srch (fun l:Lay_=>decide (l.1=key)) (by omega) h0 fun i y Y hy _ hp hq=>Cnd.mk (fun he=>h1 i y hy (hp (dt he))) fun he=>hq (df he)
def fofE(v:Envt)(key:ByteArray):Option Flg:=v.4.find? fun f=>decide (f.1=key)
theorem v68{v:Envt}{key:ByteArray}{K:Flg->Bool->Prop}(hn:v.4.length<=1000)(h0:fofE v key=none-> ∀f,K f false)(h1: ∀f,fofE v key=some f->K f true):q3e v key K:=by
 unfold q3e
 refine fun _=>srch (fun l:Flg=>decide (l.1=key)) (by omega) (fun hno=>Cnd.yes (by decide) (h0 hno _)) fun i y Y hy hi hp hq=>Cnd.mk (fun he=>Cnd.no (by omega) ⟨by omega,fun z hz=> ?_⟩) fun he=>hq (df he)
 have hz:v.4[i]? =some z:=hz
 rw[hy] at hz;cases hz
 exact h1 y (hp (dt he))
structure Kpt(b a:Envt)(x y:Exper):Prop where
 ly:x.2=y.2
 fl:x.3=y.3
 sa:x.4=y.4
 ar:x.7=y.7
 cd:x.8=y.8
 cl: ∀q,0<=q->q<10000->insV x.6 q=true->insV y.6 q=true
 lay: ∃l m,lof b x.2=some l/\lof a x.2=some m/\l.2=m.2/\l.3=m.3
 flg: ∃f g,fofE b x.3=some f/\fofE a x.3=some g/\f.2=g.2/\f.3=g.3
structure EnvL(v:Envt):Prop where
 f:v.4.length<=1000
 l:v.5.length<=1000
 x:v.6.length<=1000
 cl: ∀x∈v.6,x.6.length<=1000000/\x.7.length<=1000000
 co: ∀l∈v.5,l.6.length<=1000000
 va: ∀f∈v.4,f.3.length<=1000000
theorem j55{α:Type}{a b:List α}(hl:a.length=b.length)(h: ∀(i:Nat) x y,a[i]? =some x->b[i]? =some y->x=y):a=b:=by
 refine List.ext_getElem? fun i=> ?_
 rcases Nat.lt_or_ge i a.length with hi|hi
 ·obtain⟨x,hx⟩:=getq (l:=a) (k:=i) hi
  obtain⟨y,hy⟩:=getq (l:=b) (k:=i) (by omega)
  rw[hx,hy,h i x y hx hy]
 ·rw[List.getElem?_eq_none hi,List.getElem?_eq_none (by omega)]
theorem w6s{b a:Envt}{x y:Exper}{K:Bool->Prop}(hb:EnvL b)(ha:EnvL a)(hx:x.6.length<=1000000/\x.7.length<=1000000)(h: ∀r,(r=true↔Kpt b a x y)->K r):Gg b a x y K:=by
 unfold Gg Bz
 have no: ∀{p:Prop},(Kpt b a x y->p)-> ¬p->K false:=fun f hp=>h false ⟨fun q=>by (cases q),fun q=>absurd (f q) hp⟩
 refine Cnd.mk (fun e2=>Cnd.mk (fun e3=>Cnd.mk (fun e4 _ _=>Cnd.mk (fun el _=> ?_) fun hn=>no (fun q=>by rw[q.ar]) hn) fun hn=>no (fun q=>q.sa) hn) fun hn=>no (fun q=>q.fl) hn) fun hn=>no (fun q=>q.ly) hn
 have hlen:x.7.length=y.7.length:=by omega
 refine Lp1.ind (fun (i:Int)=> ∃j:Nat,i=(j:Int)/\j<=x.7.length/\ ∀(k:Nat) p q,k<j->x.7[k]? =some p->y.7[k]? =some q->p=q) (fun (i:Int)=>(x.7.length - i).toNat) ?_ ⟨0,rfl,by omega,fun k p q hk=>by omega⟩
 rintro i ⟨j,rfl,hj,hsm⟩
 refine Cnd.mk (fun hc=>⟨by omega,fun p hp=>⟨by omega,fun q hq=>Cnd.mk (fun he=>⟨by unfold InI;omega,⟨j+1,by omega,by omega,fun k p' q' hk hp' hq'=> ?_⟩,by omega⟩) fun hn=>no (fun z=> ?_) hn⟩⟩) fun hc=> ?_
 ·have hp:x.7[j]? =some p:=hp
  have hq:y.7[j]? =some q:=hq
  by_cases e:k=j
  ·subst e
   rw[hp] at hp';rw[hq] at hq'
   cases hp';cases hq'
   obtain⟨p1,p2,p3⟩:=p
   obtain⟨q1,q2,q3⟩:=q
   obtain⟨r1,r2,r3⟩:=he
   simp only at r1 r2 r3
   rw[r1,r2,r3]
  ·exact hsm k p' q' (by omega) hp' hq'
 ·have hp:x.7[j]? =some p:=hp
  have hq:y.7[j]? =some q:=hq
  rw[z.ar,hq] at hp
  cases hp
  exact⟨rfl,rfl,rfl⟩
 have e7:x.7=y.7:=j55 hlen fun k p q hp hq=>hsm k p q (by have:=Qa hp;omega) hp hq
 rw[Wg,Wg]
 refine w0j _ (Nat.le_refl _) fun r hr=>Cnd.mk (fun hrt=> ?_) fun hrf=>no (fun z=>hr.2 z.cd) hrf
 have e8:=hr.1 hrt
 refine j53 fun s hs _=>Cnd.mk (fun hpos=>no (fun z=> ?_) (show ¬False from id)) fun hnp=> ?_
 ·obtain⟨q,q0,q1,h1,h2⟩:=hs.2.1 (by omega)
  exact h2 (z.cl q q0 q1 h1)
 have ecl: ∀q,0<=q->q<10000->insV x.6 q=true->insV y.6 q=true:=fun q q0 q1 h1=>Classical.byContradiction fun h2=>hnp (by have:=hs.2.2 ⟨q,q0,q1,h1,h2⟩;omega)
 refine w0r (v:=b) hb.l (fun hnb=>w0r (v:=a) ha.l (fun _=>Cnd.yes (by decide) (no (fun z=>z.lay) fun ⟨l,m,q,_⟩=>by rw[hnb] at q;cases q)) fun j m hm hlm=>Cnd.yes (by decide) (no (fun z=>z.lay) fun ⟨l,m,q,_⟩=>by rw[hnb] at q;cases q)) fun j l hl hlo=> ?_
 refine w0r (v:=a) ha.l (fun hna=>Cnd.no (by omega) (Cnd.yes (by decide) (no (fun z=>z.lay) fun ⟨l,m,_,q,_⟩=>by rw[hna] at q;cases q))) fun k m hm hmo=> ?_
 have hjl:=Qa hl
 have hkl:=Qa hm
 have atl: ∀{p:Lay_->Prop},p l->At b.5 (j:Int) p:=fun hp=>⟨by omega,fun z hz=>by
  have hz:b.5[j]? =some z:=hz
  rw[hl] at hz;cases hz;exact hp⟩
 have atm: ∀{p:Lay_->Prop},p m->At a.5 (k:Int) p:=fun hp=>⟨by omega,fun z hz=>by
  have hz:a.5[k]? =some z:=hz
  rw[hm] at hz;cases hz;exact hp⟩
 refine Cnd.no (by omega) (Cnd.no (by omega) (atl (atm (Cnd.mk (fun k2=>atl (atm (Cnd.mk (fun k3=> ?_) fun hn=>no (fun z=> ?_) hn))) fun hn=>no (fun z=> ?_) hn))))
 rotate_left
 ·obtain⟨l',m',q1,q2,_,q4⟩:=z.lay
  rw[hlo] at q1;rw[hmo] at q2;cases q1;cases q2;exact q4
 ·obtain⟨l',m',q1,q2,q3,_⟩:=z.lay
  rw[hlo] at q1;rw[hmo] at q2;cases q1;cases q2;exact q3
 refine v68 (v:=b) hb.f (fun hnb f=>v68 (v:=a) ha.f (fun _ g=>Cnd.no (by decide) (no (fun z=>z.flg) fun ⟨f,g,q,_⟩=>by rw[hnb] at q;cases q)) fun g _=>Cnd.no (by decide) (no (fun z=>z.flg) fun ⟨f,g,q,_⟩=>by rw[hnb] at q;cases q)) fun f hfo=> ?_
 refine v68 (v:=a) ha.f (fun hna g=>Cnd.yes rfl (Cnd.no (by decide) (no (fun z=>z.flg) fun ⟨f,g,_,q,_⟩=>by rw[hna] at q;cases q))) fun g hgo=>Cnd.yes rfl (Cnd.yes rfl (Cnd.mk (fun g2 _ _=> ?_) fun hn=>no (fun z=> ?_) hn))
 rotate_left
 ·obtain⟨f',g',q1,q2,q3,_⟩:=z.flg
  rw[hfo] at q1;rw[hgo] at q2;cases q1;cases q2;exact q3
 have fin: ∀{r:Bool},(r=true↔f.3=g.3)->K r:=fun {r} hr=>h r (hr.trans ⟨fun e=>⟨e2,e3,e4,e7,e8,ecl,⟨l,m,hlo,hmo,k2,k3⟩,⟨f,g,hfo,hgo,g2,e⟩⟩,fun z=>by
  obtain⟨f',g',q1,q2,_,q4⟩:=z.flg
  rw[hfo] at q1;rw[hgo] at q2;cases q1;cases q2;exact q4⟩)
 have hfl:=hb.va f (List.mem_of_find?_eq_some hfo)
 refine Cnd.mk (fun el2 _=> ?_) fun hn=>fin ⟨fun q=>by (cases q),fun q=>absurd (by rw[q]) hn⟩
 refine Lp1.ind (fun (i:Int)=> ∃j:Nat,i=(j:Int)/\j<=f.3.length/\ ∀(k:Nat) p q,k<j->f.3[k]? =some p->g.3[k]? =some q->p=q) (fun (i:Int)=>(f.3.length - i).toNat) ?_ ⟨0,rfl,by omega,fun k p q hk=>by omega⟩
 rintro i ⟨n,rfl,hn,hsm⟩
 refine Cnd.mk (fun hc=>⟨by omega,fun p hp=>⟨by omega,fun q hq=>z61 fun r hr=>Cnd.mk (fun hrt=>⟨by unfold InI;omega,⟨n+1,by omega,by omega,fun k p' q' hk hp' hq'=> ?_⟩,by omega⟩) fun hrf=>fin ⟨fun q=>by (cases q),fun z=>absurd (hr.2 ?_) hrf⟩⟩⟩) fun hc=>fin ⟨fun _=>j55 (by omega) fun k p q hp hq=>hsm k p q (by have:=Qa hp;omega) hp hq,fun _=>rfl⟩
 ·have hp:f.3[n]? =some p:=hp
  have hq:g.3[n]? =some q:=hq
  by_cases e:k=n
  ·subst e
   rw[hp] at hp';rw[hq] at hq'
   cases hp';cases hq'
   exact hr.1 hrt
  ·exact hsm k p' q' (by omega) hp' hq'
 ·have hp:f.3[n]? =some p:=hp
  have hq:g.3[n]? =some q:=hq
  rw[z,hq] at hp
  exact (Option.some.inj hp).symm
end Go.En
end
noncomputable section
set_option maxRecDepth 100000
namespace Go.En
open Go Go.Fl Go.Fl.Lk Go.Fx
def Clm(b:Envt)(y:Exper)(q:Int):Prop:=insV y.6 q=true/\ ∀x,runE b y.1=some x->insV x.6 q≠true
def Ovl(b:Envt)(y:Exper)(n:Int)(v:Envt):Prop:= ∃l q,lof v y.2=some l/\0<=q/\q<10000/\Clm b y q/\ ∃c∈l.6,Cvr c q/\n<c.3
structure FrS(b a:Envt)(y:Exper)(n e:Int):Prop where
 st:(∃x,xof b y.1=some x/\x.5=3)->e=25
 ov: ¬(∃x,xof b y.1=some x/\x.5=3)->Ovl b y n b∨Ovl b y n a->e=14
 ok: ¬(∃x,xof b y.1=some x/\x.5=3)-> ¬(Ovl b y n b∨Ovl b y n a)->e=0
theorem FrS.uniq{b a:Envt}{y:Exper}{n e e':Int}(h:FrS b a y n e)(k:FrS b a y n e'):e=e':=by
 by_cases h1: ∃x,xof b y.1=some x/\x.5=3
 ·rw[h.st h1,k.st h1]
 ·by_cases h2:Ovl b y n b∨Ovl b y n a
  ·rw[h.ov h1 h2,k.ov h1 h2]
  ·rw[h.ok h1 h2,k.ok h1 h2]
theorem v9g{v:Envt}{k:ByteArray}{l:Lay_}(h:lof v k=some l):l∈v.5:=List.mem_of_find?_eq_some h
theorem tOne{b v:Envt}{y:Exper}{n:Int}{s:List Spn}{A B:Prop}(hv:EnvL v)(hs:IsP s (Clm b y))(hA:Ovl b y n v->A)(hB: ¬Ovl b y n v->B):
  Zm v y.2 fun Wu=>Cnd ((0:Int)<=Wu) (At v.5 Wu fun y9=>Z6 y9 n fun W2=>W1 s W2 fun Q1=>Fits Q1->Cnd ((0:Int)<(↑Q1.length:Int)) A B) B:=by
 refine w0r hv.l (fun hno=>Cnd.no (by decide) (hB fun ⟨l,q,hl,_⟩=>by rw[hno] at hl;cases hl)) fun j l hl hlo=>Cnd.yes (by omega) ?_
 have hjl:=Qa hl
 refine⟨by omega,fun z hz=> ?_⟩
 have hz:v.5[j]? =some z:=hz
 rw[hl] at hz;cases hz
 refine j54 (hv.co l (getm hl)) fun p _ hp=>v0p fun c hc _=>Cnd.mk (fun hpos=> ?_) fun hnp=> ?_
 ·obtain⟨q,q0,q1,h1,h2⟩:=hc.2.1 (by omega)
  exact hA ⟨l,q,hlo,q0,q1,(hs.1 q q0 q1).1 h1,(hp q).1 h2⟩
 ·refine hB fun ⟨l',q,hl',q0,q1,h1,h2⟩=>hnp ?_
  rw[hlo] at hl';cases hl'
  have:=hc.2.2 ⟨q,q0,q1,(hs.1 q q0 q1).2 h1,(hp q).2 h2⟩
  omega
theorem v69{b a:Envt}{y:Exper}{n:Int}{K:Int->Prop}(hb:EnvL b)(ha:EnvL a)(hd:NdX b)(h: ∀e,FrS b a y n e->K e):Bk b a y n K:=by
 unfold Bk q4c
 have hbx:=hb.x
 intro _
 refine Lp1.ind (fun (i:Int)=> ∃j:Nat,i=(j:Int)/\j<=b.6.length/\ ∀z∈b.6.take j,z.1=y.1->z.5≠3) (fun (i:Int)=>(b.6.length - i).toNat) ?_ ⟨0,rfl,by omega,by simp⟩
 rintro i ⟨j,rfl,hj,hno⟩
 refine Cnd.mk (fun hc=>⟨by omega,fun z hz=> ?_⟩) fun hc=> ?_
 ·have hz:b.6[j]? =some z:=hz
  have tk:b.6.take (j+1)=b.6.take j++[z]:=by rw[List.take_add_one,hz];rfl
  have nx: ¬(z.1=y.1/\z.5=3)->InI ((j:Int)+1)/\(∃j':Nat,(j:Int)+1=(j':Int)/\j'<=b.6.length/\ ∀z∈b.6.take j',z.1=y.1->z.5≠3)/\(b.6.length - ((j:Int)+1)).toNat<(b.6.length - (j:Int)).toNat:=fun hn2=>⟨by unfold InI;omega,⟨j+1,by omega,by omega,fun w hw hk=>by
   rw[tk] at hw
   rcases List.mem_append.1 hw with hw|hw
   ·exact hno w hw hk
   ·rw[List.mem_singleton.1 hw] at hk⊢;exact fun h2=>hn2 ⟨hk,h2⟩⟩,by omega⟩
  refine Cnd.mk (fun hk=>Cnd.mk (fun h3=>h 25 ⟨fun _=>rfl,fun k=>absurd ⟨z,z0h hd (getm hz) hk,h3⟩ k,fun k=>absurd ⟨z,z0h hd (getm hz) hk,h3⟩ k⟩) fun h3=>nx fun q=>h3 q.2) fun hk=>nx fun q=>hk q.1
 rw[List.take_of_length_le (by omega)] at hno
 have hA: ¬ ∃x,xof b y.1=some x/\x.5=3:=fun ⟨x,hx,h3⟩=>hno x (w43 hx).1 (w43 hx).2 h3
 have rest: ∀{s:List Spn},IsP s (Clm b y)->Lp1 (fun Z0 w7a=>Cnd (Z0<(↑[b,a].length:Int)) (((0:Int)<=Z0/\Z0<(↑[b,a].length:Int))/\ ∀y6,[b,a][Z0.toNat]? =some y6->Zm (Envt.mk (Sett.mk y6.1.1 y6.1.2 y6.1.3) y6.2 y6.3 y6.4 y6.5 y6.6) y.2 fun Wu=>Cnd ((0:Int)<=Wu) (At y6.5 Wu fun y9=>Z6 y9 n fun W2=>W1 s W2 fun Q1=>Fits Q1->Cnd ((0:Int)<(↑Q1.length:Int)) (K (14:Int)) (InI (Z0+1)/\w7a (Z0+1))) (InI (Z0+1)/\w7a (Z0+1))) (K (0:Int))) (0:Int):=fun {s} hs=>by
  refine Lp1.ind (fun (i:Int)=>i=0∨(i=1/\ ¬Ovl b y n b)∨(i=2/\ ¬Ovl b y n b/\ ¬Ovl b y n a)) (fun (i:Int)=>(2 - i).toNat) ?_ (.inl rfl)
  rintro i hi
  refine Cnd.mk (fun hc=> ?_) fun hc=> ?_
  ·have hc:i<2:=hc
   rcases hi with rfl|⟨rfl,n1⟩|⟨rfl,_⟩
   ·refine⟨⟨by omega,by simp⟩,fun v hv=> ?_⟩
    cases hv
    exact tOne (v:=b) hb hs (fun o=>h 14 ⟨fun k=>absurd k hA,fun _ _=>rfl,fun _ k=>absurd (.inl o) k⟩) fun o=>⟨by unfold InI;omega,.inr (.inl ⟨by omega,o⟩),by omega⟩
   ·refine⟨⟨by omega,by simp⟩,fun v hv=> ?_⟩
    cases hv
    exact tOne (v:=a) ha hs (fun o=>h 14 ⟨fun k=>absurd k hA,fun _ _=>rfl,fun _ k=>absurd (.inr o) k⟩) fun o=>⟨by unfold InI;omega,.inr (.inr ⟨by omega,n1,o⟩),by omega⟩
   ·omega
  ·have hc: ¬i<2:=hc
   rcases hi with rfl|⟨rfl,n1⟩|⟨rfl,n1,n2⟩
   ·omega
   ·omega
   ·exact h 0 ⟨fun k=>absurd k hA,fun _ k=>k.elim (fun k=>absurd k n1) fun k=>absurd k n2,fun _ _=>rfl⟩
 refine j01 (v:=b) hb.x hd (fun hno x hx=>j53 fun s hs _=>rest (hs.congr fun q q0 q1=> ?_)) fun x hx=>j53 fun s hs _=>rest (hs.congr fun q q0 q1=> ?_)
 ·rw[hx]
  exact⟨fun k=>⟨k.1,fun x h=>by rw[hno] at h;cases h⟩,fun k=>⟨k.1,by simp[insV]⟩⟩
 ·exact⟨fun k=>⟨k.1,fun x' h=>by rw[hx] at h;cases h;exact k.2⟩,fun k=>⟨k.1,k.2 x hx⟩⟩
end Go.En
end
noncomputable section
set_option maxRecDepth 100000
namespace Go.En
open Go Go.Fl Go.Fl.Lk Go.Fx
theorem allL{α:Type}{l:List α}(p:α->Prop){G:Int->α->(Int->Prop)->Prop}{B:Prop}(hl:l.length<=1000000000)(hB:(∀y∈l,p y)->B)
  (hG: ∀(i:Nat) y Y,l[i]? =some y->(p y->InI ((i:Int)+1)/\Y ((i:Int)+1))->G (i:Int) y Y):
  Lp1 (fun x Y=>Cnd (x<(l.length:Int)) ((0<=x/\x<(l.length:Int))/\ ∀y,l[x.toNat]? =some y->G x y Y) B) 0:=
 srch (fun y=>dec (¬p y)) hl (fun h=>hB fun y hy=>Classical.byContradiction fun hn=>List.find?_eq_none.1 h y hy (q7p hn)) fun i y Y hy _ _ hq=>hG i y Y hy fun hp=>hq (W5 fun hn=>hn hp)
theorem allR{α:Type}{l:List α}(p:α->Prop){G:Int->α->(Int->Prop)->Prop}{B:Prop}(hl:l.length<=1000000000)(hB:(∀y∈l,p y)->B)
  (hG: ∀(i:Nat) y Y,l[i]? =some y->(p y->InI ((i:Int)+1)/\Y ((i:Int)+1))->G (i:Int) y Y):
  Lp1 (fun x Y=>l.length<=(9223372036854775807:Nat)->Cnd (x<(l.length:Int)) ((0<=x/\x<(l.length:Int))/\ ∀y,l[x.toNat]? =some y->G x y Y) B) 0:=
 y1e (fun y=>dec (¬p y)) hl (fun h=>hB fun y hy=>Classical.byContradiction fun hn=>List.find?_eq_none.1 h y hy (q7p hn)) fun i y Y hy _ _ hq=>hG i y Y hy fun hp=>hq (W5 fun hn=>hn hp)
theorem atq{α:Type}{l:List α}{i:Nat}{x:α}{p:α->Prop}(h:l[i]? =some x)(hp:p x):At l (i:Int) p:=by
 have:=Qa h
 exact⟨by omega,fun y hy=>by
  have hy:l[i]? =some y:=hy
  rw[h] at hy;cases hy;exact hp⟩
theorem j3l{s:Spn}{q:Int}:insV [s] q=true↔s.1<=q/\q<s.2:=by
 rw[q3i]
 exact⟨fun ⟨r,hr,k⟩=>by rw[List.mem_singleton.1 hr] at k;exact k,fun k=>⟨s,List.mem_singleton.2 rfl,k⟩⟩
def clA(a:Envt)(l:Lay_):List Col:=((lof a l.1).map fun m=>m.6).getD []
theorem w44{a:Envt}{l:Lay_}(h:lof a l.1=none):clA a l=[]:=by unfold clA;rw[h];rfl
theorem z65{a:Envt}{l m:Lay_}(h:lof a l.1=some m):clA a l=m.6:=by unfold clA;rw[h];rfl
theorem v7a{a:Envt}{l:Lay_}(ha:EnvL a):(clA a l).length<=1000000:=by
 cases h:lof a l.1 with
 |none=>rw[w44 h];simp
 |some m=>rw[z65 h];exact ha.co m (v9g h)
def endV(n c:Int):Int:=if 1099511627776 - n<c then 1099511627776 else n+c
theorem w45{n c:Int}{K:Int->Prop}(hn:0<=n/\n<=1099511627776)(hc:0<=c)(h:K (endV n c)):Hz n c K:=by
 unfold Hz
 unfold endV at h
 refine⟨by unfold InI;omega,Cnd.mk (fun k=>by rw[if_pos k] at h;exact h) fun k=> ?_⟩
 rw[if_neg k] at h
 exact⟨by unfold InI;omega,h⟩
structure Kps(b a:Envt)(l:Lay_)(n:Int):Prop where
 old: ∀c∈l.6,n<c.3-> ∀q,0<=q->q<10000->Cvr c q-> ∃d∈clA a l,Cvr d q/\c.3<=d.3
 new_:0<l.5-> ∀x∈b.6,runE a x.1=none->x.2=l.1->x.5=2->n<endV n l.5-> ∀q,0<=q->q<10000->insV x.6 q=true-> ∃d∈clA a l,Cvr d q/\endV n l.5<=d.3
theorem v9h{b a:Envt}{l:Lay_}{n:Int}{K:Bool->Prop}(hb:EnvL b)(ha:EnvL a)(hd:NdX a)(hl:l.6.length<=1000000)(hn:0<=n/\n<=1099511627776)(h: ∀r,(r=true↔Kps b a l n)->K r):q1i b a l n K:=by
 unfold q1i q6m
 have hbx:=hb.x
 have no: ¬Kps b a l n->K false:=fun hp=>h false ⟨fun q=>by (cases q),fun q=>absurd q hp⟩
 refine Jn1.mk (fun c=>c=clA a l) (w0r (v:=a) ha.l (fun hno=>Cnd.no (by decide) (w44 hno).symm) fun j m hm hmo=>Cnd.yes (by omega) (atq hm (z65 hmo).symm)) ?_
 rintro _ rfl _
 have hcl:=v7a (l:=l) ha
 refine allL (fun c:Col=>n<c.3-> ∀q,0<=q->q<10000->Cvr c q-> ∃d∈clA a l,Cvr d q/\c.3<=d.3) (by omega) (fun hc1=> ?_) fun i c Y hc hnx=>Cnd.mk (fun ht _=>j3k (t:=fun d=>c.3<=d.3) hcl fun s _ hs=>j53 fun m hm _=>Cnd.mk (fun h0=>hnx fun _ q q0 q1 hcv=> ?_) fun h0=>no fun kp=> ?_) fun hnt=>hnx fun k=>absurd k hnt
 ·refine Cnd.mk (fun h5=>h true ⟨fun _=>⟨hc1,fun k=>by omega⟩,fun _=>rfl⟩) fun h5 _=> ?_
  refine allL (fun x:Exper=>runE a x.1=none->x.2=l.1->x.5=2->n<endV n l.5-> ∀q,0<=q->q<10000->insV x.6 q=true-> ∃d∈clA a l,Cvr d q/\endV n l.5<=d.3) (by omega) (fun hc2=>h true ⟨fun _=>⟨hc1,fun _=>hc2⟩,fun _=>rfl⟩) fun i x Y hx hnx=> ?_
  have hxm:=getm hx
  refine j01 (v:=a) ha.x hd (fun hr _ _=>Cnd.no (by decide) (Cnd.mk (fun h2=>Cnd.mk (fun h3 _=> ?_) fun h3=>hnx fun _ _ k=>absurd k h3) fun h2=>hnx fun _ k=>absurd k h2)) fun y hr=>Cnd.yes rfl (hnx fun k=>by rw[hr] at k;cases k)
  refine allL (fun s:Spn=>n<endV n l.5-> ∀q,0<=q->q<10000->s.1<=q/\q<s.2-> ∃d∈clA a l,Cvr d q/\endV n l.5<=d.3) (by have:=(hb.cl x hxm).1;omega) (fun hall=>hnx fun _ _ _ hlt q q0 q1 hi=> ?_) fun i s Z hs hny=>w45 hn (by omega) (Cnd.mk (fun ht _=>j3k (t:=fun d=>endV n l.5<=d.3) hcl fun e _ he=>j53 fun m hm _=>Cnd.mk (fun h0=>hny fun _ q q0 q1 hcv=> ?_) fun h0=>no fun kp=> ?_) fun hnt=>hny fun k=>absurd k hnt)
  ·obtain⟨s,hs,hq⟩:=q3i.1 hi
   exact hall s hs hlt q q0 q1 hq
  ·refine Classical.byContradiction fun hno=> ?_
   have:=hm.2.2 ⟨q,q0,q1,j3l.2 hcv,fun k=>hno ((he q).1 k)⟩
   omega
  ·obtain⟨q,q0,q1,k1,k2⟩:=hm.2.1 (by omega)
   exact k2 ((he q).2 (kp.new_ (by omega) x hxm hr h2 h3 ht q q0 q1 (q3i.2 ⟨s,getm hs,j3l.1 k1⟩)))
 ·refine Classical.byContradiction fun hno=> ?_
  have:=hm.2.2 ⟨q,q0,q1,j3l.2 hcv,fun k=>hno ((hs q).1 k)⟩
  omega
 ·obtain⟨q,q0,q1,k1,k2⟩:=hm.2.1 (by omega)
  exact k2 ((hs q).2 (kp.old c (getm hc) ht q q0 q1 (j3l.1 k1)))
theorem j56{α:Type}{l:List α}{i:Nat}{p:α->Prop}(hi:i<l.length)(h: ∀x,l[i]? =some x->p x):At l (i:Int) p:=⟨by omega,fun y hy=>h y hy⟩
theorem v9i{m:Nat}(h:m<10000):(10000 - ((m:Int)+1)).toNat<(10000 - (m:Int)).toNat:=by omega
theorem lt10{q:Int}{m:Nat}(h:q<((m+1:Nat):Int))(e:q≠(m:Int)):q<(m:Int):=by omega
def frV(b a:Envt)(y:Exper)(n:Int):Int:=
 open Classical in if ∃x,xof b y.1=some x/\x.5=3 then 25 else if Ovl b y n b∨Ovl b y n a then 14 else 0
theorem v9j(b a:Envt)(y:Exper)(n:Int):FrS b a y n (frV b a y n):=by
 unfold frV
 refine⟨fun h=>if_pos h,fun h k=>by rw[if_neg h,if_pos k],fun h k=>by rw[if_neg h,if_neg k]⟩
def stpV(b a:Envt)(n:Int):ByteArray×Int:=
 if dec (0<=n/\n<=1099511627776)=true then
  match b.6.find? fun x=>dec (x.5=2/\runE a x.1≠none/\b.1≠a.1) with
  |some _=>(ByteArray.mk (Array.mk []),25)
  |none=>
   match b.6.find? fun x=>dec (x.5=2/\ ∃y,runE a x.1=some y/\ ¬Kpt b a x y) with
   |some x=>(x.1,25)
   |none=>
    match a.6.find? fun y=>dec (y.5=2/\frV b a y n≠0) with
    |some y=>(y.1,frV b a y n)
    |none=>
     match b.5.find? fun l=>dec (¬Kps b a l n) with
     |some l=>(l.1,28)
     |none=>(ByteArray.mk (Array.mk []),0)
 else (ByteArray.mk (Array.mk []),3)
theorem v7b{s t:Sett}(h:s.1=t.1/\s.2=t.2/\s.3=t.3):s=t:=by
 obtain⟨a,b,c⟩:=s
 obtain⟨d,e,f⟩:=t
 obtain⟨h1,h2,h3⟩:=h
 simp only at h1 h2 h3
 rw[h1,h2,h3]
theorem v7c{s t:Sett}(h: ¬(s.1=t.1/\s.2=t.2/\s.3=t.3)):s≠t:=fun e=>h (by rw[e];exact⟨rfl,rfl,rfl⟩)
theorem y1g{b a:Envt}{n:Int}{K:ByteArray->Int->Prop}(hb:EnvL b)(ha:EnvL a)(db:NdX b)(da:NdX a)(h:K (stpV b a n).1 (stpV b a n).2):q3f b a n K:=by
 unfold q3f q77
 have hbx:=hb.x
 have hax:=ha.x
 have hbl:=hb.l
 have out: ¬(0<=n/\n<=1099511627776)->K (ByteArray.mk (Array.mk [])) 3:=fun hn=>by
  unfold stpV at h
  rw[W5 hn] at h;exact h
 unfold W0
 refine Cnd.mk (fun h0=>Cnd.mk (fun h1=> ?_) fun h1=>out fun k=>h1 (dt k.2)) fun h0=>Cnd.no (by decide) (out fun k=>h0 k.1)
 have hn:0<=n/\n<=1099511627776:=⟨h0,of_decide_eq_true h1⟩
 unfold stpV at h
 rw[if_pos (q7p hn)] at h
 refine fun _=>srch (fun x:Exper=>dec (x.5=2/\runE a x.1≠none/\b.1≠a.1)) (by omega) (fun hf=> ?_) fun i x Y hx _ hp hq=>j01 (v:=a) ha.x da (fun hr _ _=>Cnd.no (by decide) (hq (W5 fun k=>k.2.1 hr))) fun y hr=>Cnd.yes rfl (Cnd.mk (fun h2=>Cnd.mk (fun hs=>hq (W5 fun k=>k.2.2 (v7b hs))) fun hs=> ?_) fun h2=>hq (W5 fun k=>h2 k.1))
 rotate_left
 ·rw[hp (q7p ⟨h2,(fun k=>by rw[hr] at k;cases k),v7c hs⟩)] at h;exact h
 rw[hf] at h
 refine fun _=>srch (fun x:Exper=>dec (x.5=2/\ ∃y,runE a x.1=some y/\ ¬Kpt b a x y)) (by omega) (fun hf2=> ?_) fun i x Y hx _ hp hq=>j01 (v:=a) ha.x da (fun hr _ _=>Cnd.no (by decide) (hq (W5 fun ⟨_,y,k,_⟩=>by rw[hr] at k;cases k))) fun y hr=>Cnd.yes rfl (Cnd.mk (fun h2=> ?_) fun h2=>hq (W5 fun k=>h2 k.1))
 rotate_left
 ·rw[Wg,Wg]
  refine w6s (b:=b) (a:=a) (x:=x) (y:=y) hb ha (hb.cl x (getm hx)) fun r hk=>Cnd.mk (fun ht=>hq (W5 fun ⟨_,y',k,k2⟩=>by rw[hr] at k;cases k;exact k2 (hk.1 ht))) fun ht=> ?_
  rw[hp (q7p ⟨h2,y,hr,fun k=>ht (hk.2 k)⟩)] at h;exact h
 rw[hf2] at h
 refine fun _=>srch (fun y:Exper=>dec (y.5=2/\frV b a y n≠0)) (by omega) (fun hf3=> ?_) fun i y Y hy _ hp hq=>Cnd.mk (fun h2=> ?_) fun h2=>hq (W5 fun k=>h2 k.1)
 rotate_left
 ·rw[Wg]
  refine v69 (b:=b) (a:=a) (y:=y) hb ha db fun e he=> ?_
  cases he.uniq (v9j b a y n)
  refine Cnd.mk (fun e0=>hq (W5 fun k=>k.2 e0)) fun e0=> ?_
  rw[hp (q7p ⟨h2,e0⟩)] at h;exact h
 rw[hf3] at h
 refine fun _=>srch (fun l:Lay_=>dec (¬Kps b a l n)) (by omega) (fun hf4=>by rw[hf4] at h;exact h) fun i l Y hl _ hp hq=>v9h (b:=b) (a:=a) hb ha da (hb.co l (getm hl)) hn fun r hr=>Cnd.mk (fun ht=>hq (W5 fun k=>k (hr.1 ht))) fun ht=> ?_
 rw[hp (q7p fun k=>ht (hr.2 k))] at h;exact h
end Go.En
end
noncomputable section
set_option maxRecDepth 100000
namespace Go.En
open Go Go.Fl Go.Fl.Lk Go.Fx
def ixF{α:Type}(p:α->Bool):List α->Nat->Option (Nat×α)
 |[],_=>none
 |a::l,i=>if p a=true then some (i,a) else ixF p l (i+1)
theorem v4w{α:Type}{l:List α}{p:α->Bool}{i:Nat}{y:α}(hy:l[i]? =some y)(hp:p y=true):ixF p (l.drop i) i=some (i,y):=by
 have hlt:=Qa hy
 rw[List.drop_eq_getElem_cons hlt]
 have e:l[i]=y:=by rw[List.getElem?_eq_getElem hlt] at hy;exact Option.some.inj hy
 rw[e,ixF,if_pos hp]
theorem v0r{α:Type}{l:List α}{p:α->Bool}{i:Nat}{y:α}(hy:l[i]? =some y)(hp:p y=false):ixF p (l.drop i) i=ixF p (l.drop (i+1)) (i+1):=by
 have hlt:=Qa hy
 rw[List.drop_eq_getElem_cons hlt]
 have e:l[i]=y:=by rw[List.getElem?_eq_getElem hlt] at hy;exact Option.some.inj hy
 rw[e,ixF,if_neg (by rw[hp];simp)]
theorem j71{α:Type}{p:α->Bool}: ∀{l:List α} {n i:Nat} {y:α},ixF p l n=some (i,y)->n<=i/\l[i - n]? =some y/\p y=true/\l.find? p=some y
 |[],_,_,_,h=>by cases h
 |a::l,n,i,y,h=>by
  rw[ixF] at h
  split at h
  ·rename_i hp
   cases h;exact⟨Nat.le_refl _,by simp,hp,by rw[List.find?_cons,hp]⟩
  ·rename_i hp
   obtain⟨h1,h2,h3,h4⟩:=j71 h
   refine⟨by omega,?_,h3,by rw[List.find?_cons,Bool.eq_false_iff.2 hp];exact h4⟩
   rw[show i - n=(i - (n+1))+1 by omega];exact h2
theorem v4x{α:Type}{p:α->Bool}{y':α}(hp':p y'=true): ∀{l:List α} {n i:Nat} {y:α},ixF p l n=some (i,y)->ixF p (l.set (i - n) y') n=some (i,y')
 |[],_,_,_,h=>by cases h
 |a::l,n,i,y,h=>by
  rw[ixF] at h
  split at h
  ·cases h
   rw[Nat.sub_self]
   show ixF p (y'::l) n=_
   rw[ixF,if_pos hp']
  ·rename_i hp
   have h1:=(j71 h).1
   have ih:=v4x hp' h
   rw[show i - n=(i - (n+1))+1 by omega]
   show ixF p (a::l.set (i - (n+1)) y') n=_
   rw[ixF,if_neg hp];exact ih
theorem v9k{α:Type}{l:List α}(p:α->Bool){G:Int->α->(Int->Prop)->Prop}{B:Prop}(hl:l.length<=1000000000)(hB:ixF p l 0=none->B)
  (hG: ∀(i:Nat) y Y,l[i]? =some y->i<l.length->(p y=true->ixF p l 0=some (i,y))->(p y=false->InI ((i:Int)+1)/\Y ((i:Int)+1))->G (i:Int) y Y):
  Lp1 (fun x Y=>Cnd (x<(l.length:Int)) ((0<=x/\x<(l.length:Int))/\ ∀y,l[x.toNat]? =some y->G x y Y) B) 0:=by
 refine Lp1.ind (fun i=> ∃j:Nat,i=(j:Int)/\j<=l.length/\ixF p l 0=ixF p (l.drop j) j) (fun i=>(l.length - i).toNat) ?_ ⟨0,rfl,by omega,rfl⟩
 rintro i ⟨j,rfl,hj,hf⟩
 refine Cnd.mk (fun hc=>⟨by omega,fun y hy=> ?_⟩) fun hc=> ?_
 ·have hy:l[j]? =some y:=hy
  refine hG j y _ hy (by omega) (fun hp=>by rw[hf,v4w hy hp]) fun hp=>⟨by unfold InI;omega,⟨j+1,by omega,by omega,by rw[hf,v0r hy hp]⟩,by omega⟩
 ·refine hB ?_
  rw[hf,List.drop_eq_nil_of_le (by omega)];rfl
theorem v9l{α:Type}{l:List α}(p:α->Bool){G:Int->α->(Int->Prop)->Prop}{B:Prop}(hl:l.length<=1000000000)(hB:ixF p l 0=none->B)
  (hG: ∀(i:Nat) y Y,l[i]? =some y->i<l.length->(p y=true->ixF p l 0=some (i,y))->(p y=false->InI ((i:Int)+1)/\Y ((i:Int)+1))->G (i:Int) y Y):
  Lp1 (fun x Y=>l.length<=(9223372036854775807:Nat)->Cnd (x<(l.length:Int)) ((0<=x/\x<(l.length:Int))/\ ∀y,l[x.toNat]? =some y->G x y Y) B) 0:=by
 refine Lp1.ind (fun i=> ∃j:Nat,i=(j:Int)/\j<=l.length/\ixF p l 0=ixF p (l.drop j) j) (fun i=>(l.length - i).toNat) ?_ ⟨0,rfl,by omega,rfl⟩
 rintro i ⟨j,rfl,hj,hf⟩ _
 refine Cnd.mk (fun hc=>⟨by omega,fun y hy=> ?_⟩) fun hc=> ?_
 ·have hy:l[j]? =some y:=hy
  refine hG j y _ hy (by omega) (fun hp=>by rw[hf,v4w hy hp]) fun hp=>⟨by unfold InI;omega,⟨j+1,by omega,by omega,by rw[hf,v0r hy hp]⟩,by omega⟩
 ·refine hB ?_
  rw[hf,List.drop_eq_nil_of_le (by omega)];rfl
def xix(v:Envt)(key:ByteArray):Option (Nat×Exper):=ixF (fun x=>decide (x.1=key)) v.6 0
def lix(v:Envt)(key:ByteArray):Option (Nat×Lay_):=ixF (fun l=>decide (l.1=key)) v.5 0
theorem Gi{v:Envt}{key:ByteArray}{j:Nat}{x:Exper}(h:xix v key=some (j,x)):v.6[j]? =some x/\x.1=key/\xof v key=some x:=by
 obtain⟨_,h2,h3,h4⟩:=j71 h
 exact⟨h2,of_decide_eq_true h3,h4⟩
theorem Bn{v:Envt}{key:ByteArray}{j:Nat}{l:Lay_}(h:lix v key=some (j,l)):v.5[j]? =some l/\l.1=key/\lof v key=some l:=by
 obtain⟨_,h2,h3,h4⟩:=j71 h
 exact⟨h2,of_decide_eq_true h3,h4⟩
theorem w3c{v:Envt}{key:ByteArray}{K:Int->Prop}(hn:v.5.length<=1000)(h0:lix v key=none->K (-1))(h1: ∀(j:Nat) l,lix v key=some (j,l)->K (j:Int)):Zm v key K:=by
 unfold Zm
 exact fun _=>v9k (fun l:Lay_=>decide (l.1=key)) (by omega) h0 fun i y Y _ _ hp hq=>Cnd.mk (fun he=>h1 i y (hp (dt he))) fun he=>hq (df he)
theorem v7d{v:Envt}{key:ByteArray}{K:Int->Prop}(hn:v.6.length<=1000)(h0:xix v key=none->K (-1))(h1: ∀(j:Nat) l,xix v key=some (j,l)->K (j:Int)):Ha v key K:=by
 unfold Ha
 exact v9l (fun l:Exper=>decide (l.1=key)) (by omega) h0 fun i y Y _ _ hp hq=>Cnd.mk (fun he=>h1 i y (hp (dt he))) fun he=>hq (df he)
def fndV(v:Envt)(key:ByteArray)(now:Int):Except Int (Nat×Exper×Nat×Lay_):=
 if 0<=now/\now<=1099511627776 then match xix v key with
  |none=> .error 11
  |some (j,x)=>match lix v x.2 with
   |none=> .error 11
   |some (k,l)=> .ok (j,x,k,l)
 else .error 3
structure Fnd(v:Envt)(key:ByteArray)(now:Int)(j:Nat)(x:Exper)(k:Nat)(l:Lay_):Prop where
 n0:0<=now
 n1:now<=1099511627776
 hx:xix v key=some (j,x)
 hl:lix v x.2=some (k,l)
theorem j57{v:Envt}{key:ByteArray}{now:Int}{j k:Nat}{x:Exper}{l:Lay_}(h:fndV v key now= .ok (j,x,k,l)):Fnd v key now j x k l:=by
 unfold fndV at h
 split at h
 ·rename_i hn
  split at h
  ·cases h
  ·rename_i hx
   split at h
   ·cases h
   ·rename_i hl
    cases h
    exact⟨hn.1,hn.2,hx,hl⟩
 ·cases h
theorem Fnd.v{v:Envt}{key:ByteArray}{now:Int}{j k:Nat}{x:Exper}{l:Lay_}(h:Fnd v key now j x k l):fndV v key now= .ok (j,x,k,l):=by
 unfold fndV
 rw[if_pos ⟨h.n0,h.n1⟩,h.hx]
 simp only[h.hl]
theorem j58{v:Envt}{key:ByteArray}{now e:Int}(h:fndV v key now= .error e):e≠0:=by
 unfold fndV at h
 split at h
 ·split at h
  ·cases h;decide
  ·split at h
   ·cases h;decide
   ·cases h
 ·cases h;decide
theorem w0s{now:Int}{K:Bool->Prop}(h: ∀r,(r=true↔0<=now/\now<=1099511627776)->K r):W0 now K:=by
 unfold W0
 exact Cnd.mk (fun h6=>h _ ⟨fun a=>⟨h6,of_decide_eq_true a⟩,fun a=>decide_eq_true a.2⟩) fun h6=>h _ ⟨fun a=>(by cases a),fun a=>absurd a.1 h6⟩
theorem v7e{v:Envt}{key:ByteArray}{now:Int}{K:Int->Int->Int->Prop}(hx:v.6.length<=1000)(hl:v.5.length<=1000)(h0: ∀e,fndV v key now= .error e->K 0 0 e)(h1: ∀(j k:Nat) x l,fndV v key now= .ok (j,x,k,l)->K (j:Int) (k:Int) 0):G3 v key now K:=by
 unfold G3 q74
 refine w0s fun r hr=>Cnd.mk (fun hr1 _=> ?_) fun hr1=>h0 3 (by unfold fndV;rw[if_neg fun k=>hr1 (hr.2 k)])
 have hm:=hr.1 hr1
 refine v9k (fun x:Exper=>decide (x.1=key)) (by omega) (fun hn=>Cnd.yes (by decide) (h0 11 ?_)) fun i y Y hy hi hp hq=>Cnd.mk (fun he=>Cnd.no (by omega) (atq hy ?_)) fun he=>hq (df he)
 ·have hn:xix v key=none:=hn
  unfold fndV
  rw[if_pos hm,hn]
 ·have hxx:xix v key=some (i,y):=hp (dt he)
  refine w3c (v:=v) hl (fun hno=>Cnd.yes (by decide) (h0 11 ?_)) fun k l hkl=>Cnd.no (by omega) (h1 i k y l (Fnd.v ⟨hm.1,hm.2,hxx,hkl⟩))
  unfold fndV
  rw[if_pos hm,hxx]
  simp only[hno]
theorem q21{α:Type}{l acc:List α}{G:α->(α->Prop)->Prop}{R:List α->Prop}(ha:acc=[])(hl:l.length<=1000000)(hG: ∀y∈l,∀K:α->Prop,K y->G y K)(h:R l):
  Lp2 (fun acc i Y=>Cnd (i<(l.length:Int)) ((0<=i/\i<(l.length:Int))/\ ∀y,l[i.toNat]? =some y->G y fun x=>Sml (acc++[x]).length/\InI (i+1)/\Y (acc++[x]) (i+1)) (R acc)) acc (0:Int):=by
 subst ha
 refine Lp2.ind (fun (acc:List α) (i:Int)=> ∃j:Nat,i=(j:Int)/\j<=l.length/\acc=l.take j) (fun _ (i:Int)=>(l.length - i).toNat) ?_ ⟨0,rfl,by omega,rfl⟩
 rintro acc i ⟨j,rfl,hj,rfl⟩
 refine Cnd.mk (fun hc=>⟨by omega,fun y hy=> ?_⟩) fun hc=>by rw[List.take_of_length_le (by omega)];exact h
 have hy:l[j]? =some y:=hy
 refine hG y (getm hy) _ ⟨by unfold Sml;simp;omega,by unfold InI;omega,⟨j+1,by omega,by omega,?_⟩,by omega⟩
 rw[List.take_add_one,hy];rfl
theorem smlA{α:Type}{l:List α}(h:l.length<=1000000):Sml ([]++l).length:=by rw[List.nil_append];unfold Sml;omega
theorem sml0{α:Type}{l:List α}(h:l.length<=1000000):(0:Int)<=(0:Int)/\(0:Int)<=((l.length:Nat):Int)/\Sml ((l.length:Nat):Int).toNat:=⟨by omega,by omega,by unfold Sml;omega⟩
theorem j72{v:Val}{K:Val->Prop}(hv:v.4.length<=1000000)(h:K v):Gc v K:=by
 obtain⟨a,b,c,d⟩:=v
 intro n0 hn
 exact Cnd.mk (fun hc=>by obtain rfl:=hn hc;exact h) fun _=>⟨smlA hv,h⟩
theorem j73{v:Srv}{K:Srv->Prop}(hv:v.5.length<=1000000)(h:K v):q43 v K:=by
 obtain⟨a,b,c,d,e⟩:=v
 intro n0 hn
 exact Cnd.mk (fun hc=>by obtain rfl:=hn hc;exact h) fun _=>⟨smlA hv,h⟩
theorem w0t{v:Tgt}{K:Tgt->Prop}(hv:v.3.length<=1000000)(h:K v):R9 v K:=by
 obtain⟨a,b,c⟩:=v
 intro n0 hn
 exact Cnd.mk (fun hc=>by obtain rfl:=hn hc;exact h) fun _=>⟨smlA hv,h⟩
theorem v0s{l:List Col}{K:List Col->Prop}(hv:l.length<=1000000)(h:K l):Q4 l K:=by
 intro n0 hn
 exact Cnd.mk (fun hc=>by obtain rfl:=hn hc;exact h) fun _=>⟨smlA hv,h⟩
theorem v3m{l:Lay_}{K:Lay_->Prop}(hv:l.6.length<=1000000)(h:K l):Ge l K:=by
 unfold Ge q91
 exact v0s hv h
theorem ExS.val{n:Nat}{e:Ex}(h:ExS n e):VsS e.4:=by
 cases n with
 |zero=>exact h.1
 |succ n=>exact h.1
theorem z0i: ∀(n:Nat) {e:Ex} {K:Ex->Prop},ExS n e->K e->q0h e K:=by
 intro n
 induction n with
 |zero=>
  intro e K he h X hX
  have hz:e.5=[]:=he.2.2.2
  refine hX e K ?_
  unfold q7h
  have hv:=he.val
  have hvl:=hv.len
  simp only[Wg]
  refine fun _=>⟨sml0 (by omega),fun _=>q21 rfl (by omega) (fun y hy K hK=>j72 (by have:=(hv.all y hy).len;omega) hK) fun _=>⟨sml0 (by rw[hz];simp),fun _=> ?_⟩⟩
  refine q21 (G:=fun y K=>X y K) rfl (by rw[hz];simp) (fun y hy=>by rw[hz] at hy;cases hy) ?_
  show K (Ex.mk e.1 e.2 e.3 e.4 e.5)
  rw[Wg];exact h
 |succ n ih=>
  intro e K he h X hX
  have hk:=he.kids
  refine hX e K ?_
  unfold q7h
  have hv:=he.val
  have hvl:=hv.len
  simp only[Wg]
  refine fun _=>⟨sml0 (by omega),fun _=>q21 rfl (by omega) (fun y hy K hK=>j72 (by have:=(hv.all y hy).len;omega) hK) fun _=>⟨sml0 (by omega),fun _=> ?_⟩⟩
  refine q21 (G:=fun y K=>X y K) rfl (by omega) (fun y hy K hK=>ih (he.2.2.2.2 y hy) hK X hX) ?_
  show K (Ex.mk e.1 e.2 e.3 e.4 e.5)
  rw[Wg];exact h
theorem w6t{g:Seg}{K:Seg->Prop}(hg:SegS g)(h:K g):Wp g K:=by
 have h1:=hg.incl
 have h2:=hg.excl
 have h3:=hg.cond
 obtain⟨a,b,c,d,e⟩:=g
 unfold Wp q6g
 simp only[Wg] at h1 h2 h3⊢
 intro n0 hn
 refine Cnd.mk (fun hc=> ?_) fun _=>⟨smlA (by omega),?_⟩
 ·obtain rfl:=hn hc
  intro n2 hn2
  exact Cnd.mk (fun hc=>by obtain rfl:=hn2 hc;exact z0i 4 h3 h) fun _=>⟨smlA (by omega),z0i 4 h3 h⟩
 ·intro n2 hn2
  exact Cnd.mk (fun hc=>by obtain rfl:=hn2 hc;exact z0i 4 h3 h) fun _=>⟨smlA (by omega),z0i 4 h3 h⟩
theorem j74{x:Exper}{K:Exper->Prop}(hx:ExpS x)(h:K x):Jg x K:=by
 have h1:=hx.claims.len
 have h2:=hx.arms.1
 have h3:=hx.cond
 obtain⟨a,b,c,d,e,f,g,i⟩:=x
 unfold Jg q1b
 simp only[Wg] at h1 h2 h3⊢
 intro n0 hn
 refine Cnd.mk (fun hc=> ?_) fun _=>⟨smlA (by omega),?_⟩
 ·obtain rfl:=hn hc
  intro n2 hn2
  exact Cnd.mk (fun hc=>by obtain rfl:=hn2 hc;exact z0i 4 h3 h) fun _=>⟨smlA (by omega),z0i 4 h3 h⟩
 ·intro n2 hn2
  exact Cnd.mk (fun hc=>by obtain rfl:=hn2 hc;exact z0i 4 h3 h) fun _=>⟨smlA (by omega),z0i 4 h3 h⟩
theorem v0t{n:Int}{r:Rul}{K:Rul->Prop}(hr:RulS n r)(h:K r):q0i r K:=by
 have h1:=hr.cond
 have h2:=hr.serve.split.1
 unfold q0i z1t
 simp only[Wg]
 exact z0i 4 h1 (j73 (v:=r.3) (by omega) h)
theorem v7f{f:Flg}{K:Flg->Prop}(hf:FlgS f)(ht: ∀t∈f.7,t.3.length<=1000000)(h:K f):U4 f K:=by
 have h1:=hf.vlen
 have h2:=hf.vals
 have h3:=hf.nlen
 have h4:=hf.tlen
 have h5:=hf.rlen
 have h6:=hf.rules
 have h7:=hf.dflt.split.1
 obtain⟨a,b,c,d,e,f,g,i,j⟩:=f
 unfold U4 z1u
 simp only[Wg] at h1 h2 h3 h4 h5 h6 h7 ht⊢
 refine fun _=>⟨sml0 (by omega),fun _=>q21 (G:=fun y K=>Gc y K) rfl (by omega) (fun y hy K hK=>j72 (by have:=(h2 y hy).len;omega) hK) ?_⟩
 intro n0 hn
 refine Cnd.mk (fun hc=> ?_) fun _=>⟨smlA (by omega),?_⟩
 ·obtain rfl:=hn hc
  refine fun _=>⟨sml0 (by omega),fun _=>q21 (G:=fun y K=>R9 y K) rfl (by omega) (fun y hy K hK=>w0t (ht y hy) hK) fun _=>⟨sml0 (by omega),fun _=> ?_⟩⟩
  exact q21 (G:=fun y K=>q0i y K) rfl (by omega) (fun y hy K hK=>v0t (h6 y hy) hK) (j73 (v:=j) (by omega) h)
 ·refine fun _=>⟨sml0 (by omega),fun _=>q21 (G:=fun y K=>R9 y K) rfl (by omega) (fun y hy K hK=>w0t (ht y hy) hK) fun _=>⟨sml0 (by omega),fun _=> ?_⟩⟩
  exact q21 (G:=fun y K=>q0i y K) rfl (by omega) (fun y hy K hK=>v0t (h6 y hy) hK) (j73 (v:=j) (by omega) h)
structure EnvK(v:Envt):Prop where
 al:v.2.length<=1000000
 sn:v.3.length<=1000
 sg: ∀g∈v.3,SegS g
 fn:v.4.length<=1000
 fl: ∀f∈v.4,FlgS f/\ ∀t∈f.7,t.3.length<=1000000
 ln:v.5.length<=1000
 ly: ∀l∈v.5,LayS l
 xn:v.6.length<=1000
 ex: ∀x∈v.6,ExpS x
theorem EnvK.l{v:Envt}(h:EnvK v):EnvL v:=⟨h.fn,h.ln,h.xn,fun x hx=>⟨by have:=(h.ex x hx).claims.len;omega,by have:=(h.ex x hx).arms.1;omega⟩,fun l hl=>by have:=(h.ly l hl).cl;omega,fun f hf=>by have:=(h.fl f hf).1.vlen;omega⟩
end Go.En
end
noncomputable section
set_option maxRecDepth 100000
namespace Go.En
open Go Go.Fl Go.Fl.Lk Go.Fx
def Gj(now:Int)(q:Nat):List Col->Int
 |[]=>now
 |c::l=>if c.1<=(q:Int)/\(q:Int)<c.2 then max (Gj now q l) c.3 else Gj now q l
def LastS(l:List Col)(now:Int)(q:Nat)(m:Int):Prop:=now<=m/\ ∀t,now<t->(t<=m↔ ∃c∈l,Cvr c (q:Int)/\t<=c.3)
theorem LastS.uniq{l:List Col}{now:Int}{q:Nat}{m m':Int}(h:LastS l now q m)(k:LastS l now q m'):m=m':=by
 rcases Int.lt_trichotomy m m' with e|e|e
 ·have:=(h.2 m' (by have:=h.1;omega)).2 ((k.2 m' (by have:=h.1;omega)).1 (Int.le_refl _));omega
 ·exact e
 ·have:=(k.2 m (by have:=k.1;omega)).2 ((h.2 m (by have:=k.1;omega)).1 (Int.le_refl _));omega
theorem LastS.mem{l l':List Col}{now:Int}{q:Nat}{m:Int}(h:LastS l now q m)(e: ∀c,c∈l↔c∈l'):LastS l' now q m:=
 ⟨h.1,fun t ht=>(h.2 t ht).trans ⟨fun ⟨c,a,b⟩=>⟨c,(e c).1 a,b⟩,fun ⟨c,a,b⟩=>⟨c,(e c).2 a,b⟩⟩⟩
theorem LastS.snoc{l:List Col}{now:Int}{q:Nat}{m:Int}{c:Col}(h:LastS l now q m)(hc:Cvr c (q:Int)):LastS (l++[c]) now q (max m c.3):=by
 refine⟨by have:=h.1;omega,fun t ht=> ?_⟩
 constructor
 ·intro hm
  rcases Int.le_total t m with k|k
  ·obtain⟨d,hd,z⟩:=(h.2 t ht).1 k
   exact⟨d,List.mem_append_left _ hd,z⟩
  ·rcases Int.le_total t c.3 with k2|k2
   ·exact⟨c,List.mem_append_right _ (List.mem_singleton.2 rfl),hc,k2⟩
   ·by_cases e:t<=m
    ·obtain⟨d,hd,z⟩:=(h.2 t ht).1 e
     exact⟨d,List.mem_append_left _ hd,z⟩
    ·exact⟨c,List.mem_append_right _ (List.mem_singleton.2 rfl),hc,by omega⟩
 ·rintro⟨d,hd,z1,z2⟩
  rcases List.mem_append.1 hd with hd|hd
  ·have:=(h.2 t ht).2 ⟨d,hd,z1,z2⟩;omega
  ·rw[List.mem_singleton.1 hd] at z2;omega
theorem LastS.skip{l r:List Col}{now:Int}{q:Nat}{m:Int}(h:LastS l now q m)(hc: ∀c∈r,¬Cvr c (q:Int)):LastS (l++r) now q m:=by
 refine⟨h.1,fun t ht=>(h.2 t ht).trans ⟨fun ⟨d,hd,z⟩=>⟨d,List.mem_append_left _ hd,z⟩,?_⟩⟩
 rintro⟨d,hd,z⟩
 rcases List.mem_append.1 hd with hd|hd
 ·exact⟨d,hd,z⟩
 ·exact absurd z.1 (hc d hd)
theorem j75(l:List Col)(now:Int)(q:Nat):LastS l now q (Gj now q l):=by
 induction l with
 |nil=>exact⟨Int.le_refl _,fun t ht=>⟨fun k=>by have:t<=now:=k;omega,fun ⟨c,hc,_⟩=>by cases hc⟩⟩
 |cons c l ih=>
  unfold Gj
  split
  ·rename_i hc
   exact (ih.snoc (c:=c) hc).mem fun d=>by rw[List.mem_append,List.mem_singleton,List.mem_cons,or_comm]
  ·rename_i hc
   refine (ih.skip (r:=[c]) fun d hd=> ?_).mem fun d=>by rw[List.mem_append,List.mem_singleton,List.mem_cons,or_comm]
   rw[List.mem_singleton.1 hd];exact hc
def extC(o:List Col)(n:Int):List Col:=match o[o.length - 1]? with
 |some y=>o.set (o.length - 1) (Col.mk y.1 n y.3)
 |none=>o
def colR(u:Nat->Int)(now:Int):Nat->List Col
 |0=>[]
 |n+1=>if u n<=now then colR u now n else if 0<n/\u (n - 1)=u n then extC (colR u now n) ((n:Int)+1) else colR u now n++[Col.mk (n:Int) ((n:Int)+1) (u n)]
theorem w0u{α:Type}(l:List α)(x:α):(l++[x])[(l++[x]).length - 1]? =some x:=by simp
theorem w46{α:Type}{l:List α}{x y:α}(h:l[l.length - 1]? =some y):(l.set (l.length - 1) x)[(l.set (l.length - 1) x).length - 1]? =some x:=by
 rw[List.length_set,List.getElem?_set_self (Qa h)]
structure ColI(u:Nat->Int)(now:Int)(n:Nat)(o:List Col):Prop where
 len:o.length<=n
 last: ∀y,o[o.length - 1]? =some y->y.2<=(n:Int)/\(y.2=(n:Int)->0<n/\u (n - 1)=y.3)
 on:0<n->now<u (n - 1)-> ∃y,o[o.length - 1]? =some y/\y.2=(n:Int)/\y.3=u (n - 1)
theorem j02(u:Nat->Int)(now:Int): ∀n,ColI u now n (colR u now n)
 |0=>⟨Nat.le_refl _,fun y hy=>by simp[colR] at hy,fun h=>absurd h (by omega)⟩
 |n+1=>by
  have ih:=j02 u now n
  rw[colR]
  split
  ·rename_i hu
   refine⟨by have:=ih.len;omega,fun y hy=> ?_,fun _ hn=> ?_⟩
   ·have:=(ih.last y hy).1
    exact⟨by omega,fun e=>by omega⟩
   ·rw[Nat.add_sub_cancel] at hn;omega
  ·rename_i hu
   split
   ·rename_i hn
    obtain⟨y,hy,h2,h3⟩:=ih.on hn.1 (by rw[hn.2];omega)
    unfold extC
    rw[hy]
    refine⟨by rw[List.length_set];have:=ih.len;omega,fun z hz=> ?_,fun _ _=>⟨_,w46 hy,by simp only;omega,?_⟩⟩
    ·rw[w46 hy] at hz
     cases hz
     refine⟨by simp only;omega,fun _=>⟨by omega,?_⟩⟩
     rw[Nat.add_sub_cancel,h3,hn.2]
    ·rw[Nat.add_sub_cancel,←hn.2];exact h3
   ·refine⟨by simp;exact ih.len,fun z hz=> ?_,fun _ _=>⟨_,w0u _ _,by simp only;omega,?_⟩⟩
    ·rw[w0u] at hz
     cases hz
     exact⟨by simp only;omega,fun _=>⟨by omega,by rw[Nat.add_sub_cancel]⟩⟩
    ·rw[Nat.add_sub_cancel]
theorem v0u{u:Nat->Int}{now:Int}{n:Nat}(h:u n<=now):colR u now (n+1)=colR u now n:=by rw[colR,if_pos h]
theorem w3d{u:Nat->Int}{now:Int}{n:Nat}{y:Col}(h:now<u n)(h0:0<n)(he:u (n - 1)=u n)(hy:(colR u now n)[(colR u now n).length - 1]? =some y):colR u now (n+1)=(colR u now n).set ((colR u now n).length - 1) (Col.mk y.1 ((n:Int)+1) y.3):=by
 rw[colR,if_neg (by omega),if_pos ⟨h0,he⟩]
 unfold extC
 rw[hy]
theorem w3e{u:Nat->Int}{now:Int}{n:Nat}(h:now<u n)(he: ¬(0<n/\u (n - 1)=u n)):colR u now (n+1)=colR u now n++[Col.mk (n:Int) ((n:Int)+1) (u n)]:=by
 rw[colR,if_neg (by omega),if_neg he]
def colV(all:List Col)(now:Int):List Col:=colR (fun q=>Gj now q all) now 10000
theorem j03{u:Nat->Int}{now:Int}: ∀{n:Nat},(∀c∈colR u now n,0<=c.1/\c.1<c.2/\c.2<=(n:Int)/\now<c.3)/\ ∀q:Nat,q<n->(now<u q-> ∃c∈colR u now n,Cvr c (q:Int)/\c.3=u q)/\ ∀c∈colR u now n,Cvr c (q:Int)->c.3=u q
 |0=>⟨fun c hc=>(by cases hc),fun q hq=>absurd hq (by omega)⟩
 |n+1=>by
  obtain⟨ih1,ih2⟩:=j03 (u:=u) (now:=now) (n:=n)
  have hI:=j02 u now n
  by_cases hu:u n<=now
  ·rw[v0u hu]
   refine⟨fun c hc=>by have:=ih1 c hc;omega,fun q hq=> ?_⟩
   by_cases e:q=n
   ·subst e
    refine⟨fun k=>by omega,fun c hc hv=> ?_⟩
    have h1:=ih1 c hc
    have h2:=hv.2
    omega
   ·exact ih2 q (by omega)
  ·by_cases he:0<n/\u (n - 1)=u n
   ·obtain⟨y,hy,h2,h3⟩:=hI.on he.1 (by rw[he.2];omega)
    rw[w3d (by omega) he.1 he.2 hy]
    generalize colR u now n=o at ih1 ih2 hy⊢
    have hym:=ih1 y (getm hy)
    have hnew:Col.mk y.1 ((n:Int)+1) y.3∈o.set (o.length - 1) (Col.mk y.1 ((n:Int)+1) y.3):=List.mem_or_eq_of_mem_set (l:=o) (i:=o.length - 1) (a:=Col.mk y.1 ((n:Int)+1) y.3) (b:=Col.mk y.1 ((n:Int)+1) y.3)|>fun _=>List.mem_iff_getElem?.2 ⟨o.length - 1,List.getElem?_set_self (Qa hy)⟩
    have keep: ∀c∈o,c≠y->c∈o.set (o.length - 1) (Col.mk y.1 ((n:Int)+1) y.3):=fun c hc hne=>by
     obtain⟨i,hi⟩:=List.mem_iff_getElem?.1 hc
     by_cases e:o.length - 1=i
     ·subst e;rw[hy] at hi;cases hi;exact absurd rfl hne
     ·exact List.mem_iff_getElem?.2 ⟨i,by rw[List.getElem?_set_ne e];exact hi⟩
    refine⟨fun c hc=> ?_,fun q hq=>⟨fun hn=> ?_,fun c hc hv=> ?_⟩⟩
    ·rcases List.mem_or_eq_of_mem_set hc with hc|rfl
     ·have:=ih1 c hc;omega
     ·simp only;omega
    ·by_cases e:q=n
     ·subst e
      exact⟨_,hnew,⟨by simp only;omega,by simp only;omega⟩,by simp only;rw[h3,he.2]⟩
     ·obtain⟨c,hc,hv,h4⟩:=(ih2 q (by omega)).1 hn
      by_cases ec:c=y
      ·subst ec
       exact⟨_,hnew,⟨hv.1,by simp only;omega⟩,h4⟩
      ·exact⟨c,keep c hc ec,hv,h4⟩
    ·rcases List.mem_or_eq_of_mem_set hc with hc|rfl
     ·have h5:=ih1 c hc
      have h6:=hv.2
      exact (ih2 q (by omega)).2 c hc hv
     ·by_cases e:q=n
      ·subst e;simp only;rw[h3,he.2]
      ·exact (ih2 q (by omega)).2 y (getm hy) ⟨hv.1,by omega⟩
   ·rw[w3e (by omega) he]
    refine⟨fun c hc=> ?_,fun q hq=>⟨fun hn=> ?_,fun c hc hv=> ?_⟩⟩
    ·rcases List.mem_append.1 hc with hc|hc
     ·have:=ih1 c hc;omega
     ·rw[List.mem_singleton.1 hc];simp only;omega
    ·by_cases e:q=n
     ·subst e
      exact⟨_,List.mem_append_right _ (List.mem_singleton.2 rfl),⟨by simp only;omega,by simp only;omega⟩,rfl⟩
     ·obtain⟨c,hc,hv,h4⟩:=(ih2 q (by omega)).1 hn
      exact⟨c,List.mem_append_left _ hc,hv,h4⟩
    ·rcases List.mem_append.1 hc with hc|hc
     ·have h5:=ih1 c hc
      have h6:=hv.2
      exact (ih2 q (by omega)).2 c hc hv
     ·have hce:=List.mem_singleton.1 hc
      rw[hce] at hv⊢
      have h6:=hv.1
      have h7:=hv.2
      simp only at h6 h7⊢
      have:q=n:=by omega
      rw[this]
theorem j76{all:List Col}{now t:Int}{q:Int}(q0:0<=q)(q1:q<10000)(ht:now<t):(∃c∈colV all now,Cvr c q/\t<=c.3)↔ ∃c∈all,Cvr c q/\t<=c.3:=by
 have hU:=j75 all now q.toNat
 have hC:=(j03 (u:=fun q=>Gj now q all) (now:=now) (n:=10000)).2 q.toNat (by omega)
 simp only[LastS,Int.toNat_of_nonneg q0] at hU hC
 rw[←hU.2 t ht]
 constructor
 ·rintro⟨c,hc,hv,h3⟩
  rw[←hC.2 c hc hv];exact h3
 ·intro h
  obtain⟨c,hc,hv,h3⟩:=hC.1 (by omega)
  exact⟨c,hc,hv,by rw[h3];exact h⟩
theorem v3n{α:Type}{l:List α}{i j:Nat}{y z c:α}(hi:l[i]? =some y)(hj:l[j]? =some z)(hij:i≠j):c∈(l.set i z).set j y↔c∈l:=by
 constructor
 ·intro h
  rcases List.mem_or_eq_of_mem_set h with h|rfl
  ·rcases List.mem_or_eq_of_mem_set h with h|rfl
   ·exact h
   ·exact getm hj
  ·exact getm hi
 ·intro h
  obtain⟨n,hn⟩:=List.mem_iff_getElem?.1 h
  by_cases e1:j=n
  ·subst e1
   rw[hj] at hn;cases hn
   exact List.mem_iff_getElem?.2 ⟨i,by rw[List.getElem?_set_ne (Ne.symm hij),List.getElem?_set_self (Qa hi)]⟩
  ·by_cases e2:i=n
   ·subst e2
    rw[hi] at hn;cases hn
    exact List.mem_iff_getElem?.2 ⟨j,by rw[List.getElem?_set_self (by rw[List.length_set];exact Qa hj)]⟩
   ·exact List.mem_iff_getElem?.2 ⟨n,by rw[List.getElem?_set_ne e1,List.getElem?_set_ne e2];exact hn⟩
def SrtS(l o:List Col):Prop:=o.length=l.length/\ ∀c,c∈o↔c∈l
theorem w0v{l:List Col}{K:List Col->Prop}(hl:l.length<=1000000)(h: ∀o,SrtS l o->(∀(a b:Nat) x y,a<b->o[a]? =some x->o[b]? =some y->x.1<=y.1)->K o):Gf l K:=by
 unfold Gf Bx
 refine v0s hl fun _=> ?_
 refine Lp2.ind (fun (i:Int) (o:List Col)=> ∃n:Nat,i=(n:Int)/\n<=l.length/\SrtS l o/\ ∀(a b:Nat) x y,a<b->b<n->o[a]? =some x->o[b]? =some y->x.1<=y.1) (fun (i:Int) _=>(l.length - i).toNat) ?_ ⟨0,rfl,by omega,⟨rfl,fun _=>Iff.rfl⟩,fun a b x y _ hb=>absurd hb (by omega)⟩
 rintro i o ⟨n,rfl,hn,hS,hs⟩
 refine Cnd.mk (fun hc=> ?_) fun hc=>h o hS fun a b x y hab hx hy=>hs a b x y hab (by have:=Qa hy;have:=hS.1;omega) hx hy
 refine Lp2.ind (fun (k:Int) (o:List Col)=> ∃m:Nat,k=(m:Int)/\m<=n/\SrtS l o/\ ∀(a b:Nat) x y,a<b->b<=n->b≠m->o[a]? =some x->o[b]? =some y->x.1<=y.1) (fun (k:Int) _=>k.toNat) ?_ ⟨n,rfl,Nat.le_refl _,hS,fun a b x y hab hb hbn hx hy=>hs a b x y hab (by omega) hx hy⟩
 rintro k o ⟨m,rfl,hm,hS,hs⟩
 have hlen:=hS.1
 have fin:(0<m-> ∀x y,o[m - 1]? =some x->o[m]? =some y->x.1<=y.1)->InI ((n:Int)+1)/\(∃n':Nat,(n:Int)+1=(n':Int)/\n'<=l.length/\SrtS l o/\ ∀(a b:Nat) x y,a<b->b<n'->o[a]? =some x->o[b]? =some y->x.1<=y.1)/\((l.length:Int) - ((n:Int)+1)).toNat<((l.length:Int) - (n:Int)).toNat:=fun hf=>by
  refine⟨by unfold InI;omega,⟨n+1,by omega,by omega,hS,fun a b x y hab hb hx hy=> ?_⟩,by omega⟩
  by_cases e:b=m
  ·subst e
   obtain⟨z,hz⟩:=getq (l:=o) (k:=b - 1) (by omega)
   have h1:=hf (by omega) z y hz hy
   by_cases e2:a=b - 1
   ·subst e2;rw[hx] at hz;cases hz;exact h1
   ·have:=hs a (b - 1) x z (by omega) (by omega) (by omega) hx hz;omega
  ·exact hs a b x y hab (by omega) e hx hy
 refine Cnd.mk (fun h0=>j56 (by omega) fun y4 h4=>⟨by unfold InI;omega,by omega,fun y6 h6=> ?_⟩) fun h0=>fin fun k=>absurd k (by omega)
 have h6:o[m - 1]? =some y6:=by rw[show ((m:Int) - 1).toNat=m - 1 by omega] at h6;exact h6
 refine Cnd.mk (fun hlt=>⟨by unfold InI;omega,by unfold InI;omega,by omega,fun y8 h8=>j56 (by omega) fun y10 h10=>j56 (by omega) fun y12 h12=>⟨by rw[List.length_set];omega,fun y14 h14=>⟨by unfold InI;omega,?_,by omega⟩⟩⟩) fun hge=>fin fun _ x y hx hy=>by
  rw[h6] at hx;cases hx
  rw[h4] at hy;cases hy
  omega
 have h8:o[m - 1]? =some y8:=by rw[show ((m:Int) - 1).toNat=m - 1 by omega] at h8;exact h8
 rw[h6] at h8;cases h8
 rw[h4] at h10;cases h10
 rw[show ((m:Int) - 1).toNat=m - 1 by omega,show ((m:Int)).toNat=m from rfl]
 refine⟨m - 1,by omega,by omega,⟨by rw[List.length_set,List.length_set];exact hlen,fun c=>(v3n h4 h6 (by omega)).trans (hS.2 c)⟩,?_⟩
 have g: ∀(a:Nat) x,((o.set m y6).set (m - 1) y4)[a]? =some x->(a=m - 1/\x=y4)∨(a=m/\x=y6)∨(a≠m - 1/\a≠m/\o[a]? =some x):=fun a x hx=>by
  by_cases e1:m - 1=a
  ·subst e1
   rw[List.getElem?_set_self (by rw[List.length_set];omega)] at hx
   cases hx;exact .inl ⟨rfl,rfl⟩
  ·rw[List.getElem?_set_ne e1] at hx
   by_cases e2:m=a
   ·subst e2
    rw[List.getElem?_set_self (by omega)] at hx
    cases hx;exact .inr (.inl ⟨rfl,rfl⟩)
   ·rw[List.getElem?_set_ne e2] at hx
    exact .inr (.inr ⟨Ne.symm e1,Ne.symm e2,hx⟩)
 rintro a b x y hab hb hbm hx hy
 rcases g b y hy with ⟨e,_⟩|⟨rfl,rfl⟩|⟨b1,b2,hy2⟩
 ·exact absurd e hbm
 ·rcases g a x hx with ⟨_,rfl⟩|⟨e,_⟩|⟨a1,a2,hx⟩
  ·omega
  ·omega
  ·exact hs a (b - 1) x y (by omega) (by omega) (by omega) hx h6
 ·rcases g a x hx with ⟨rfl,rfl⟩|⟨rfl,rfl⟩|⟨a1,a2,hx⟩
  ·exact hs m b x y (by omega) hb b2 h4 hy2
  ·exact hs (a - 1) b x y (by omega) hb b2 h6 hy2
  ·exact hs a b x y hab hb b2 hx hy2
theorem v3o{l:List Col}{now:Int}{K:List Col->Prop}(hl:l.length<=1000000)(h:K (colV l now)):Rl l now K:=by
 unfold Rl q2n
 refine w0v hl fun o hS hs=> ?_
 have hlen:=hS.1
 refine Lp3.ind (fun (c:List Col) (b:Int) (o':List Col)=> ∃n:Nat,b=(n:Int)/\n<=10000/\o'=o/\c=colR (fun q=>Gj now q l) now n) (fun _ (b:Int) _=>(10000 - b).toNat) ?_ ⟨0,rfl,by omega,rfl,rfl⟩
 rintro c b o' ⟨n,rfl,hn,rfl,rfl⟩
 refine Cnd.mk (fun hc=> ?_) fun hc=>by
  have:n=10000:=by omega
  subst this;exact h
 refine Jn3.mk (fun (m:Int) (p:List Col) (c:List Col)=>m=Gj now n l/\p=o'/\c=colR (fun q=>Gj now q l) now n) ?_ ?_
 ·intro _
  have fin: ∀m:Int,LastS o' now n m->m=Gj now n l/\o'=o'/\colR (fun q=>Gj now q l) now n=colR (fun q=>Gj now q l) now n:=fun m hm=>⟨(hm.mem hS.2).uniq (j75 l now n),rfl,rfl⟩
  refine Lp4.ind (fun (m i:Int) (p c:List Col)=> ∃j:Nat,i=(j:Int)/\j<=o'.length/\LastS (o'.take j) now n m/\p=o'/\c=colR (fun q=>Gj now q l) now n) (fun _ (i:Int) _ _=>(o'.length - i).toNat) ?_ ⟨0,rfl,by omega,⟨Int.le_refl _,fun t ht=>⟨fun k=>by omega,fun ⟨c,hc,_⟩=>by simp at hc⟩⟩,rfl,rfl⟩
  rintro m i p c ⟨j,rfl,hj,hm,rfl,rfl⟩
  refine Cnd.mk (fun hc2=>j56 (by omega) fun y hy=> ?_) fun hc2=>fin m (by rw[List.take_of_length_le (by omega)] at hm;exact hm)
  have tk:p.take (j+1)=p.take j++[y]:=by rw[List.take_add_one,hy];rfl
  refine Cnd.mk (fun hb=>fin m ?_) fun hb=>Cnd.mk (fun hv=>⟨by unfold InI;omega,⟨j+1,by omega,by omega,?_,rfl,rfl⟩,by omega⟩) fun hv=>⟨by unfold InI;omega,⟨j+1,by omega,by omega,?_,rfl,rfl⟩,by omega⟩
  ·have:=hm.skip (r:=p.drop j) fun d hd hcv=>by
    obtain⟨i,hi⟩:=List.mem_iff_getElem?.1 hd
    rw[List.getElem?_drop] at hi
    have h1:=hcv.1
    by_cases e:i=0
    ·subst e
     rw[Nat.add_zero,hy] at hi;cases hi;omega
    ·have:=hs j (j+i) y d (by omega) hy hi;omega
   rw[List.take_append_drop] at this;exact this
  ·rw[tk];exact hm.snoc ⟨by omega,hv⟩
  ·rw[tk]
   exact hm.skip fun d hd hcv=>by
    rw[List.mem_singleton.1 hd] at hcv
    exact hv hcv.2
 ·rintro m p c ⟨rfl,rfl,rfl⟩
  have hI:=j02 (fun q=>Gj now q l) now n
  have hl1:=hI.len
  have hU:=(j75 l now n).1
  have nx: ∀{c:List Col},c=colR (fun q=>Gj now q l) now (n+1)->InI ((n:Int)+1)/\(∃n':Nat,(n:Int)+1=(n':Int)/\n'<=10000/\p=p/\c=colR (fun q=>Gj now q l) now n')/\(10000 - ((n:Int)+1)).toNat<(10000 - (n:Int)).toNat:=fun he=>⟨by unfold InI;omega,⟨n+1,by omega,by omega,rfl,he⟩,by omega⟩
  refine Cnd.mk (fun he=>nx (v0u (u:=fun q=>Gj now q l) (by show Gj now n l<=now;omega)).symm) fun hne _=> ?_
  have hlt:now<Gj now n l:=by omega
  have new: ¬(0<n/\Gj now (n - 1) l=Gj now n l)->InI ((n:Int)+1)/\Sml (colR (fun q=>Gj now q l) now n++[Col.mk (n:Int) ((n:Int)+1) (Gj now n l)]).length/\InI ((n:Int)+1)/\(∃n':Nat,(n:Int)+1=(n':Int)/\n'<=10000/\p=p/\(colR (fun q=>Gj now q l) now n++[Col.mk (n:Int) ((n:Int)+1) (Gj now n l)])=colR (fun q=>Gj now q l) now n')/\(10000 - ((n:Int)+1)).toNat<(10000 - (n:Int)).toNat:=fun he=>⟨by unfold InI;omega,by unfold Sml;simp;omega,nx (w3e (u:=fun q=>Gj now q l) hlt he).symm⟩
  have no:(∀y,(colR (fun q=>Gj now q l) now n)[(colR (fun q=>Gj now q l) now n).length - 1]? =some y-> ¬(y.2=(n:Int)/\y.3=Gj now n l))-> ¬(0<n/\Gj now (n - 1) l=Gj now n l):=fun hy he=>by
   obtain⟨y,h1,h2,h3⟩:=hI.on he.1 (by show now<Gj now (n - 1) l;rw[he.2];exact hlt)
   exact hy y h1 ⟨h2,by rw[h3];exact he.2⟩
  generalize ho:colR (fun q=>Gj now q l) now n=o at hl1 new no⊢
  have eT:((o.length:Int) - 1).toNat=o.length - 1:=by omega
  rw[eT]
  refine Cnd.mk (fun hpos=>⟨by unfold InI;omega,by omega,fun y4 h4=>Cnd.mk (fun h2=>⟨by unfold InI;omega,by omega,fun y6 h6=>Cnd.mk (fun h3=>⟨by unfold InI;omega,by unfold InI;omega,by omega,fun y8 h8=>nx ?_⟩) fun h3=>new (no fun y hy k=> ?_)⟩) fun h2=>new (no fun y hy k=> ?_)⟩) fun hz=>new (no fun y hy _=> ?_)
  ·rw[h4] at h6;cases h6
   rw[h4] at h8;cases h8
   have hl2:=hI.last y4 (by rw[ho];exact h4)
   obtain⟨n0,hu⟩:=hl2.2 h2
   rw[←ho] at h4⊢
   exact (w3d (u:=fun q=>Gj now q l) hlt n0 (by rw[hu];exact h3) h4).symm
  ·rw[h6] at hy;cases hy;exact h3 k.2
  ·rw[h4] at hy;cases hy;exact h2 k.1
  ·have:=Qa hy;omega
end Go.En
end
noncomputable section
set_option maxRecDepth 100000
namespace Go.En
open Go Go.Fl Go.Fl.Lk Go.Fx
def TakP(v:Envt)(l:Lay_)(key but:ByteArray)(now q:Int):Prop:=(∃c∈l.6,Cvr c q/\now<c.3)∨(0<=q/\q<l.4)∨ ∃x∈v.6,x.2=key/\x.5≠3/\x.1≠but/\insV x.6 q=true
theorem v4y{v:Envt}{key but:ByteArray}{now:Int}{j:Nat}{l:Lay_}{K:List Spn->Prop}(hv:EnvL v)(hl:lix v key=some (j,l))(h: ∀s,IsP s (TakP v l key but now)->K s):H0 v key but now K:=by
 unfold H0 q6h
 have hxn:=hv.x
 refine w3c (v:=v) hv.l (fun hn=>by rw[hl] at hn;cases hn) fun j' l' hl'=> ?_
 rw[hl] at hl'
 cases hl'
 obtain⟨hj,_,_⟩:=Bn hl
 refine Cnd.no (by omega) (Jn1.mk (fun s=>s.length<=1000001/\ ∀q,insV s q=true↔(∃c∈l.6,Cvr c q/\now<c.3)∨(0<=q/\q<l.4)) ?_ ?_)
 ·have one:Z6 l now fun Q9=>Sml (Q9++[Spn.mk (0:Int) l.4]).length/\((Q9++[Spn.mk (0:Int) l.4]).length<=1000001/\ ∀q,insV (Q9++[Spn.mk (0:Int) l.4]) q=true↔(∃c∈l.6,Cvr c q/\now<c.3)∨(0<=q/\q<l.4)):=
   j54 (hv.co l (getm hj)) fun s hs hq=>⟨by unfold Sml;simp;omega,by simp;omega,fun q=>by rw[w42,hq q]⟩
  exact atq hj (atq hj ⟨one,one⟩)
 ·rintro s ⟨hsl,hsq⟩ _
  refine Lp2.ind (fun (s:List Spn) (i:Int)=> ∃n:Nat,i=(n:Int)/\n<=v.6.length/\s.length<=1000001+1000000*n/\ ∀q,insV s q=true↔(∃c∈l.6,Cvr c q/\now<c.3)∨(0<=q/\q<l.4)∨ ∃x∈v.6.take n,x.2=key/\x.5≠3/\x.1≠but/\insV x.6 q=true) (fun _ (i:Int)=>(v.6.length - i).toNat) ?_ ⟨0,rfl,by omega,by omega,fun q=>by rw[hsq q];simp⟩
  rintro s i ⟨n,rfl,hn,hsl,hsq⟩
  refine Cnd.mk (fun hc=>⟨by omega,fun x hx=> ?_⟩) fun hc=> ?_
  ·have hx:v.6[n]? =some x:=hx
   have tk:v.6.take (n+1)=v.6.take n++[x]:=by rw[List.take_add_one,hx];rfl
   have hcl:=(hv.cl x (getm hx)).1
   have miss:(¬(x.2=key/\x.5≠3/\x.1≠but))->InI ((n:Int)+1)/\(∃n':Nat,(n:Int)+1=(n':Int)/\n'<=v.6.length/\s.length<=1000001+1000000*n'/\ ∀q,insV s q=true↔(∃c∈l.6,Cvr c q/\now<c.3)∨(0<=q/\q<l.4)∨ ∃x∈v.6.take n',x.2=key/\x.5≠3/\x.1≠but/\insV x.6 q=true)/\((v.6.length:Int) - ((n:Int)+1)).toNat<((v.6.length:Int) - (n:Int)).toNat:=fun hno=>by
    refine⟨by unfold InI;omega,⟨n+1,by omega,by omega,by omega,fun q=> ?_⟩,by omega⟩
    rw[hsq q,tk]
    refine or_congr Iff.rfl (or_congr Iff.rfl ⟨fun ⟨y,hy,z⟩=>⟨y,List.mem_append_left _ hy,z⟩,fun ⟨y,hy,z⟩=> ?_⟩)
    rcases List.mem_append.1 hy with hy|hy
    ·exact⟨y,hy,z⟩
    ·rw[List.mem_singleton.1 hy] at z;exact absurd ⟨z.1,z.2.1,z.2.2.1⟩ hno
   refine Cnd.mk (fun h1=>Cnd.mk (fun h2=>miss fun k=>k.2.1 h2) fun h2=>Cnd.mk (fun h3=>miss fun k=>k.2.2 h3) fun h3=> ?_) fun h1=>miss fun k=>h1 k.1
   refine⟨by unfold Sml;rw[List.length_append];omega,by unfold InI;omega,⟨n+1,by omega,by omega,by rw[List.length_append];omega,fun q=> ?_⟩,by omega⟩
   rw[q20,Bool.or_eq_true,hsq q,tk]
   constructor
   ·rintro ((k|k|⟨y,hy,z⟩)|k)
    ·exact .inl k
    ·exact .inr (.inl k)
    ·exact .inr (.inr ⟨y,List.mem_append_left _ hy,z⟩)
    ·exact .inr (.inr ⟨x,List.mem_append_right _ (List.mem_singleton.2 rfl),h1,h2,h3,k⟩)
   ·rintro (k|k|⟨y,hy,z⟩)
    ·exact .inl (.inl k)
    ·exact .inl (.inr (.inl k))
    ·rcases List.mem_append.1 hy with hy|hy
     ·exact .inl (.inr (.inr ⟨y,hy,z⟩))
     ·rw[List.mem_singleton.1 hy] at z;exact .inr z.2.2.2
  ·rw[List.take_of_length_le (by omega)] at hsq
   refine h _ ((j70 _).congr fun q q0 q1=> ?_)
   rw[z0g,Int.toNat_of_nonneg q0]
   exact hsq q
abbrev noK:ByteArray:=ByteArray.mk (Array.mk [])
theorem y1h{v:Envt}{key:ByteArray}{now:Int}{j:Nat}{l:Lay_}{K:List Spn->Int->Prop}(hv:EnvL v)(hl:lix v key=some (j,l))(hn:0<=now/\now<=1099511627776)(h: ∀s,IsP s (fun q=> ¬TakP v l key noK now q)->K s 0):q3c v key now K:=by
 unfold q3c q76
 refine w0s fun r hr=>Cnd.yes (hr.2 hn) (w3c (v:=v) hv.l (fun hno=>by rw[hl] at hno;cases hno) fun j' l' _=>Cnd.no (by omega) (v4y (v:=v) hv hl fun s hs=>j53 fun f hf=>h f (hf.congr fun q q0 q1=> ?_)))
 rw[j3l]
 exact⟨fun k t=>k.2 ((hs.1 q q0 q1).2 t),fun k=>⟨⟨q0,q1⟩,fun t=>k ((hs.1 q q0 q1).1 t)⟩⟩
def canon(f:Nat->Bool):List Spn:=(Go.Fl.Sp.runs f 10000).map fun s=>Spn.mk s.1 s.2
theorem w3f{f g:Nat->Bool}(h: ∀i,i<10000->f i=g i):canon f=canon g:=by unfold canon;rw[Go.Fl.Sp.runs_congr h]
theorem w0w{f:Nat->Bool}{i:Nat}(hi:i<10000):Go.Fl.Sp.cov ((canon f).map fun s=>(s.lo,s.hi)) i=f i:=by unfold canon;rw[w41,Go.Fl.Sp.cov_norm hi]
theorem v0v{f:Nat->Bool}{i:Nat}(hi:i<10000):insV (canon f) (i:Int)=f i:=by rw[←z0g];exact w0w hi
theorem j59(f:Nat->Bool):SpsS (canon f):=by
 have h: ∀n,n<=10000-> ∀s∈Go.Fl.Sp.runs f n,0<=s.1/\s.1<s.2/\s.2<=(n:Int):=by
  intro n
  induction n with
  |zero=>intro _ s hs;cases hs
  |succ n ih=>
   intro hn s hs
   have ih:=ih (by omega)
   by_cases hf:f n=true
   ·by_cases h2: ∃t,(Go.Fl.Sp.runs f n)[(Go.Fl.Sp.runs f n).length - 1]? =some t/\t.2=(n:Int)
    ·obtain⟨t,ht,h2⟩:=h2
     rw[Go.Fl.Sp.runs_ext hf ht h2] at hs
     rcases List.mem_or_eq_of_mem_set hs with hs|rfl
     ·have:=ih s hs;omega
     ·have:=ih t (getm ht);simp only;omega
    ·rw[Go.Fl.Sp.runs_new hf fun t ht e=>h2 ⟨t,ht,e⟩] at hs
     rcases List.mem_append.1 hs with hs|hs
     ·have:=ih s hs;omega
     ·rw[List.mem_singleton.1 hs];simp only;omega
   ·rw[Go.Fl.Sp.runs_no (Bool.eq_false_iff.2 hf)] at hs
    have:=ih s hs;omega
 unfold canon
 refine⟨by rw[List.length_map];exact Go.Fl.Sp.runs_len f 10000,fun s hs=> ?_⟩
 obtain⟨t,ht,rfl⟩:=List.mem_map.1 hs
 exact h 10000 (Nat.le_refl _) t ht
def w0x(v:Envt)(l:Lay_)(key:ByteArray)(now:Int)(i:Nat):Bool:=dec (¬TakP v l key noK now (i:Int))
def envE:Envt:=Envt.mk (Sett.mk (ByteArray.mk (Array.mk [])) (ByteArray.mk (Array.mk [])) (0:Int)) [] [] [] [] []
def j77(v:Envt)(j:Nat)(x:Exper):Envt:=Envt.mk v.1 v.2 v.3 v.4 v.5 (v.6.set j x)
def clmV(v:Envt)(x:Exper)(l:Lay_)(size now:Int):List Spn:=canon fun i=>insV x.6 (i:Int)||Go.Fl.Sp.firstP (w0x v l x.2 now) size i
def j6a(v:Envt)(key:ByteArray)(size now:Int):Envt×Int:=match fndV v key now with
 | .error e=>(envE,e)
 | .ok (j,x,_,l)=>if x.5=3 then (envE,25) else if size<1 then (envE,3) else if (Go.Fl.Sp.cnt (w0x v l x.2 now) 10000:Int)<size then (envE,19) else
  if (16:Int)<(clmV v x l size now).length then (envE,5) else (j77 v j (Exper.mk x.1 x.2 x.3 x.4 x.5 (clmV v x l size now) x.7 x.8),0)
open Classical in
def j6b(v:Envt)(key:ByteArray)(now:Int):Envt×Int:=match fndV v key now with
 | .error e=>(envE,e)
 | .ok (j,x,_,l)=>if x.5=1 then (if ∃q:Int,0<=q/\q<10000/\insV x.6 q=true/\TakP v l x.2 key now q then (envE,14) else (j77 v j (Exper.mk x.1 x.2 x.3 x.4 2 x.6 x.7 x.8),0)) else (envE,25)
def allC(x:Exper)(l:Lay_)(now:Int):List Col:=if 0<l.5 then l.6++x.6.map fun s=>Col.mk s.1 s.2 (endV now l.5) else l.6
def j0b(v:Envt)(j:Nat)(x:Exper)(k:Nat)(l:Lay_)(now:Int):Envt:=Envt.mk v.1 v.2 v.3 v.4 (v.5.set k (Lay_.mk l.1 l.2 l.3 l.4 l.5 (colV (allC x l now) now))) (v.6.set j (Exper.mk x.1 x.2 x.3 x.4 3 x.6 x.7 x.8))
def w6u(v:Envt)(key:ByteArray)(now:Int):Envt×Int:=match fndV v key now with
 | .error e=>(envE,e)
 | .ok (j,x,k,l)=>if x.5=2 then (if (32:Int)<(colV (allC x l now) now).length then (envE,5) else (j0b v j x k l now,0)) else (envE,25)
theorem w0y{v:Envt}{acc:List Exper}{R:List Exper->Prop}(hv:EnvK v)(ha:acc=[])(h:R v.6):Lp2 (fun acc i Y=>Cnd (i<(v.6.length:Int)) ((0<=i/\i<(v.6.length:Int))/\ ∀y,v.6[i.toNat]? =some y->Jg y fun x=>Sml (acc++[x]).length/\InI (i+1)/\Y (acc++[x]) (i+1)) (R acc)) acc (0:Int):=
 q21 (G:=fun y K=>Jg y K) ha (by have:=hv.xn;omega) (fun y hy _ hK=>j74 (hv.ex y hy) hK) h
theorem w47{v:Envt}{acc:List Lay_}{R:List Lay_->Prop}(hv:EnvK v)(ha:acc=[])(h:R v.5):Lp2 (fun acc i Y=>Cnd (i<(v.5.length:Int)) ((0<=i/\i<(v.5.length:Int))/\ ∀y,v.5[i.toNat]? =some y->Ge y fun x=>Sml (acc++[x]).length/\InI (i+1)/\Y (acc++[x]) (i+1)) (R acc)) acc (0:Int):=
 q21 (G:=fun y K=>Ge y K) ha (by have:=hv.ln;omega) (fun y hy _ hK=>v3m (by have:=(hv.ly y hy).cl;omega) hK) h
theorem w0z{v:Envt}{acc:List Flg}{R:List Flg->Prop}(hv:EnvK v)(ha:acc=[])(h:R v.4):Lp2 (fun acc i Y=>Cnd (i<(v.4.length:Int)) ((0<=i/\i<(v.4.length:Int))/\ ∀y,v.4[i.toNat]? =some y->U4 y fun x=>Sml (acc++[x]).length/\InI (i+1)/\Y (acc++[x]) (i+1)) (R acc)) acc (0:Int):=
 q21 (G:=fun y K=>U4 y K) ha (by have:=hv.fn;omega) (fun y hy _ hK=>v7f (hv.fl y hy).1 (hv.fl y hy).2 hK) h
theorem w00{v:Envt}{acc:List Seg}{R:List Seg->Prop}(hv:EnvK v)(ha:acc=[])(h:R v.3):Lp2 (fun acc i Y=>Cnd (i<(v.3.length:Int)) ((0<=i/\i<(v.3.length:Int))/\ ∀y,v.3[i.toNat]? =some y->Wp y fun x=>Sml (acc++[x]).length/\InI (i+1)/\Y (acc++[x]) (i+1)) (R acc)) acc (0:Int):=
 q21 (G:=fun y K=>Wp y K) ha (by have:=hv.sn;omega) (fun y hy _ hK=>w6t (hv.sg y hy) hK) h
theorem v9m{l:List Spn}{n:Int}{K:List Spn->Prop}(hn:InI n)(h:K (canon (Go.Fl.Sp.firstP (Go.Fl.Sp.cov (l.map fun s=>(s.lo,s.hi))) n))):q1c l n K:=⟨hn,h⟩
theorem v9n{a b:List Spn}{K:List Spn->Prop}(h:K (canon fun i=>Go.Fl.Sp.cov (a.map fun s=>(s.lo,s.hi)) i||Go.Fl.Sp.cov (b.map fun s=>(s.lo,s.hi)) i)):q1d a b K:=h
theorem y1i{l:List Spn}{K:Int->Prop}(h:K (Go.Fl.Sp.cnt (Go.Fl.Sp.cov (l.map fun s=>(s.lo,s.hi))) 10000:Nat)):G2 l K:=h
theorem v9o{v:Envt}{key:ByteArray}{size now:Int}{K:Envt->Int->Prop}(hv:EnvK v)(h:K (j6a v key size now).1 (j6a v key size now).2):q1e v key size now K:=by
 unfold q1e q6k
 unfold j6a at h
 have hsn:=hv.sn
 have hfn:=hv.fn
 have hln:=hv.ln
 have hxn:=hv.xn
 refine v7e (v:=v) hv.xn hv.ln (fun e he=>Cnd.no (j58 he) (by rw[he] at h;exact h)) fun j k x l hf=>Cnd.yes rfl ?_
 rw[hf] at h
 simp only at h
 have hF:=j57 hf
 have hx:=(Gi hF.hx).1
 refine atq hx (Cnd.mk (fun h3=>by rw[if_pos h3] at h;exact h) fun h3=>Cnd.mk (fun hs=>by rw[if_neg h3,if_pos hs] at h;exact h) fun hs=> ?_)
 rw[if_neg h3,if_neg hs] at h
 refine y1h (v:=v) hv.l hF.hl ⟨hF.n0,hF.n1⟩ fun s hsP=> ?_
 have hcov: ∀i,i<10000->Go.Fl.Sp.cov (s.map fun s=>(s.lo,s.hi)) i=w0x v l x.2 now i:=fun i hi=>by
  rw[z0g]
  exact v89 (hsP.1 (i:Int) (by omega) (by omega))
 refine y1i ?_
 rw[Go.Fl.Sp.cnt_congr hcov]
 refine Cnd.mk (fun hc=>by rw[if_pos hc] at h;exact h) fun hc=> ?_
 rw[if_neg hc] at h
 have hle:=Go.Fl.Sp.cnt_le (w0x v l x.2 now) 10000
 have e:canon (fun i=>Go.Fl.Sp.cov (x.6.map fun s=>(s.lo,s.hi)) i||Go.Fl.Sp.cov ((canon (Go.Fl.Sp.firstP (Go.Fl.Sp.cov (s.map fun s=>(s.lo,s.hi))) size)).map fun s=>(s.lo,s.hi)) i)=clmV v x l size now:=by
  unfold clmV
  refine w3f fun i hi=> ?_
  rw[z0g,w0w hi,Go.Fl.Sp.firstP_congr fun q hq=>hcov q (by omega)]
 refine v9m (by unfold InI;omega) (v9n ?_)
 rw[e]
 intro _
 refine Cnd.mk (fun h16=>by rw[if_pos h16] at h;exact h) fun h16=> ?_
 rw[if_neg h16] at h
 simp only[Wg]
 intro n8 hn8
 refine Cnd.mk (fun hc=> ?_) fun _=>⟨smlA hv.al,?_⟩
 ·rw[←hn8 hc]
  exact fun _=>⟨sml0 (by omega),fun _=>w00 hv rfl fun _=>⟨sml0 (by omega),fun _=>w0z hv rfl fun _=>⟨sml0 (by omega),fun _=>w47 hv rfl fun _=>⟨sml0 (by omega),fun _=>w0y hv rfl (atq hx h)⟩⟩⟩⟩
 ·rw[List.nil_append]
  exact fun _=>⟨sml0 (by omega),fun _=>w00 hv rfl fun _=>⟨sml0 (by omega),fun _=>w0z hv rfl fun _=>⟨sml0 (by omega),fun _=>w47 hv rfl fun _=>⟨sml0 (by omega),fun _=>w0y hv rfl (atq hx h)⟩⟩⟩⟩
theorem v9p{v:Envt}{key:ByteArray}{now:Int}{K:Envt->Int->Prop}(hv:EnvK v)(h:K (j6b v key now).1 (j6b v key now).2):q1f v key now K:=by
 unfold q1f q6l
 unfold j6b at h
 have hsn:=hv.sn
 have hfn:=hv.fn
 have hln:=hv.ln
 have hxn:=hv.xn
 refine v7e (v:=v) hv.xn hv.ln (fun e he=>Cnd.no (j58 he) (by rw[he] at h;exact h)) fun j k x l hf=>Cnd.yes rfl ?_
 rw[hf] at h
 simp only at h
 have hF:=j57 hf
 have hx:=(Gi hF.hx).1
 refine atq hx (Cnd.mk (fun h1=> ?_) fun h1=>by rw[if_neg h1] at h;exact h)
 rw[if_pos h1] at h
 refine v4y (v:=v) hv.l hF.hl fun s hs=>v0p fun c hc _=> ?_
 have hne:(0:Int)<(c.length:Int)↔ ∃q:Int,0<=q/\q<10000/\insV x.6 q=true/\TakP v l x.2 key now q:=by
  have:=hc.2
  rw[show (0:Int)<(c.length:Int)↔0<c.length by omega,this]
  exact⟨fun ⟨q,a,b,c,d⟩=>⟨q,a,b,c,(hs.1 q a b).1 d⟩,fun ⟨q,a,b,c,d⟩=>⟨q,a,b,c,(hs.1 q a b).2 d⟩⟩
 refine Cnd.mk (fun h14=>by rw[if_pos (hne.1 h14)] at h;exact h) fun h14=> ?_
 rw[if_neg fun k=>h14 (hne.2 k)] at h
 simp only[Wg]
 intro n8 hn8
 refine Cnd.mk (fun hc=> ?_) fun _=>⟨smlA hv.al,?_⟩
 ·rw[←hn8 hc]
  exact fun _=>⟨sml0 (by omega),fun _=>w00 hv rfl fun _=>⟨sml0 (by omega),fun _=>w0z hv rfl fun _=>⟨sml0 (by omega),fun _=>w47 hv rfl fun _=>⟨sml0 (by omega),fun _=>w0y hv rfl (atq hx h)⟩⟩⟩⟩
 ·rw[List.nil_append]
  exact fun _=>⟨sml0 (by omega),fun _=>w00 hv rfl fun _=>⟨sml0 (by omega),fun _=>w0z hv rfl fun _=>⟨sml0 (by omega),fun _=>w47 hv rfl fun _=>⟨sml0 (by omega),fun _=>w0y hv rfl (atq hx h)⟩⟩⟩⟩
theorem v3p{v:Envt}{x:Exper}{l:Lay_}{now:Int}(hv:EnvK v)(hx:x∈v.6)(hl:l∈v.5):(allC x l now).length<=20000:=by
 have h1:=(hv.ly l hl).cl
 have h2:=(hv.ex x hx).claims.len
 unfold allC
 split
 ·rw[List.length_append,List.length_map];omega
 ·omega
theorem y1j{v:Envt}{key:ByteArray}{now:Int}{K:Envt->Int->Prop}(hv:EnvK v)(h:K (w6u v key now).1 (w6u v key now).2):q3b v key now K:=by
 unfold q3b q75
 unfold w6u at h
 have hsn:=hv.sn
 have hfn:=hv.fn
 have hln:=hv.ln
 have hxn:=hv.xn
 refine v7e (v:=v) hv.xn hv.ln (fun e he=>Cnd.no (j58 he) (by rw[he] at h;exact h)) fun j k x l hf=>Cnd.yes rfl ?_
 rw[hf] at h
 simp only at h
 have hF:=j57 hf
 have hx:=(Gi hF.hx).1
 have hl:=(Bn hF.hl).1
 have hL:=hv.ly l (getm hl)
 have hcl:=(hv.ex x (getm hx)).claims.len
 have hkl:=Qa hl
 have hal:=v3p (now:=now) hv (getm hx) (getm hl)
 refine atq hx (Cnd.mk (fun h2=> ?_) fun h2=>by rw[if_neg h2] at h;exact h)
 rw[if_pos h2] at h
 simp only[Wg]
 refine Jn1.mk (fun a=>a=v.2) (fun n4 hn4=>Cnd.mk (fun hc=>(hn4 hc).symm) fun _=>⟨smlA hv.al,rfl⟩) ?_
 rintro _ rfl
 refine fun _=>⟨sml0 (by omega),fun _=>w00 hv rfl fun _=>⟨sml0 (by omega),fun _=>w0z hv rfl ?_⟩⟩
 refine⟨by unfold Sml;omega,fun m hm=>by have:=(hv.ly m hm).cl;unfold Sml;omega,k,l,hl,fun _=>⟨sml0 (by omega),fun _=>w0y hv rfl (atq hx ⟨⟨by omega,by show (k:Int)<(v.5.length:Int);omega⟩,rfl,fun y hy=> ?_⟩)⟩⟩
 have hlk: ∀{y:Lay_},v.5[((k:Nat):Int).toNat]? =some y->y=l:=fun hy=>by
  have hy:v.5[k]? =some _:=hy
  rw[hl] at hy;cases hy;rfl
 refine Jn2.mk (fun (a:List Col) (s:List Lay_×Nat)=>a=allC x l now/\s=(v.5,k)) ?_ ?_
 ·refine⟨rfl,fun y19 h19=> ?_⟩
  cases hlk h19
  unfold allC
  refine Cnd.mk (fun h5=>atq hx fun _=> ?_) fun h5=>⟨by rw[if_neg h5],rfl⟩
  rw[if_pos h5]
  refine Lp3.ind (fun (a:List Col) (i:Int) (s:List Lay_×Nat)=> ∃n:Nat,i=(n:Int)/\n<=x.6.length/\a=l.6++(x.6.take n).map (fun s=>Col.mk s.1 s.2 (endV now l.5))/\s=(v.5,k)) (fun _ (i:Int) _=>(x.6.length - i).toNat) ?_ ⟨0,rfl,by omega,by simp,rfl⟩
  rintro a i s ⟨n,rfl,hn,rfl,rfl⟩
  refine Cnd.mk (fun hc=>⟨by omega,fun c hc2=>⟨rfl,fun y27 h27=> ?_⟩⟩) fun hc=>⟨by rw[List.take_of_length_le (by omega)],rfl⟩
  cases hlk h27
  have hc2:x.6[n]? =some c:=hc2
  have h1:=hL.cl
  refine w45 ⟨hF.n0,hF.n1⟩ hL.cool.1 ⟨by unfold Sml;simp;omega,by unfold InI;omega,⟨n+1,by omega,by omega,?_,rfl⟩,by omega⟩
  rw[List.take_add_one,hc2]
  simp
 ·rintro a s ⟨rfl,rfl⟩
  refine v3o (by omega) ⟨rfl,fun y20 h20=> ?_⟩
  cases hlk h20
  intro y22 h22
  have h22:(v.5.set k (Lay_.mk l.1 l.2 l.3 l.4 l.5 (colV (allC x l now) now)))[k]? =some y22:=h22
  rw[List.getElem?_set_self hkl] at h22
  cases h22
  intro _
  exact Cnd.mk (fun h32=>by rw[if_pos h32] at h;exact h) fun h32=>by rw[if_neg h32] at h;exact h
end Go.En
end
noncomputable section
set_option maxRecDepth 100000
namespace Go.En
open Go Go.Fl Go.Fl.Lk Go.Fx
theorem v0w{K:Bool->Prop}(h:K true):q4w K:=by
 unfold q4w q9l Gq
 have e:(Go.Fl.Sp.runs (Go.Fl.Sp.cov ([Spn.mk (5:Int) (9:Int),Spn.mk (0:Int) (5:Int),Spn.mk (7:Int) (7:Int)].map fun s=>(s.lo,s.hi))) 10000).map (fun s=>Spn.mk s.1 s.2)=[Spn.mk 0 9]:=by
  show (Go.Fl.Sp.runs (Go.Fl.Sp.cov [(5,9),(0,5),(7,7)]) 10000).map _=_
  rw[Go.Fl.Sp.awake_runs];rfl
 rw[e]
 refine fun _=>Cnd.yes (by decide) ⟨by decide,fun y hy=> ?_⟩
 cases hy
 refine Cnd.yes ⟨rfl,rfl⟩ ?_
 unfold G2
 have c:(Go.Fl.Sp.cnt (Go.Fl.Sp.cov ([Spn.mk (0:Int) (9:Int)].map fun s=>(s.lo,s.hi))) 10000:Nat)=9:=Go.Fl.Sp.awake_cnt
 rw[c]
 exact h
theorem modK{x n:Int}{K:Int->Prop}(hn:0<n)(hi:n<=1000000)(h: ∀r,0<=r->r<n->K r):j1z x n K:=by
 unfold j1z
 have h1:=Int.lt_tmod_of_pos x hn
 have h2:=Int.tmod_lt_of_pos x hn
 exact⟨by omega,Cnd.mk (fun hc=>⟨by unfold InI;omega,h _ (by omega) (by omega)⟩) fun hc=>h _ (by omega) h2⟩
theorem v7g{v:Envt}{n:Int}{K:ByteArray->Prop}(h: ∀key,K key):V8 v n K:=by
 unfold V8 Hy
 exact modK (by decide) (by decide) fun r r0 _ _=>Cnd.mk (fun hc=>⟨⟨r0,hc⟩,fun _ _=>h _⟩) fun _=>h _
theorem v0x{v:Envt}(hE:EnvS v)(hD:EnvD v):EnvK v:=
 ⟨by have:=hD.al;omega,by have:=hE.slen;omega,hE.segs,by have:=hE.flen;omega,fun f hf=>⟨hE.flags f hf,fun t ht=>by
  obtain⟨i,hi⟩:=List.mem_iff_getElem?.1 hf
  have:=((hD.flags.all i f hi).tgts t ht).2;omega⟩,by have:=hE.llen;omega,hE.layers,by have:=hE.xlen;omega,hE.exps⟩
def j78(x:Exper):Exper:=Exper.mk x.1 x.2 x.3 x.4 3 x.6 x.7 x.8
def v9q(x:Exper)(l:Lay_)(now:Int):Lay_:=Lay_.mk l.1 l.2 l.3 l.4 l.5 (colV (allC x l now) now)
theorem v3q{v:Envt}{key:ByteArray}{now:Int}(h:(w6u v key now).2=0): ∃j x k l,Fnd v key now j x k l/\x.5=2/\(colV (allC x l now) now).length<=32/\(w6u v key now).1=j0b v j x k l now:=by
 unfold w6u at h⊢
 cases hf:fndV v key now with
 |error e=>rw[hf] at h;exact absurd h (j58 hf)
 |ok q=>
  obtain⟨j,x,k,l⟩:=q
  rw[hf] at h
  simp only at h⊢
  by_cases h2:x.5=2
  ·rw[if_pos h2] at h⊢
   by_cases h3:(32:Int)<(colV (allC x l now) now).length
   ·rw[if_pos h3] at h;exact absurd h (by decide)
   ·rw[if_neg h3]
    exact⟨j,x,k,l,j57 hf,h2,by omega,rfl⟩
  ·rw[if_neg h2] at h;exact absurd h (by decide)
theorem v0y{v:Envt}{key:ByteArray}{size now:Int}(h:(j6a v key size now).2=0): ∃j x k l,Fnd v key now j x k l/\x.5≠3/\1<=size/\size<=Go.Fl.Sp.cnt (w0x v l x.2 now) 10000/\(clmV v x l size now).length<=16/\(j6a v key size now).1=j77 v j (Exper.mk x.1 x.2 x.3 x.4 x.5 (clmV v x l size now) x.7 x.8):=by
 unfold j6a at h⊢
 cases hf:fndV v key now with
 |error e=>rw[hf] at h;exact absurd h (j58 hf)
 |ok q=>
  obtain⟨j,x,k,l⟩:=q
  rw[hf] at h
  simp only at h⊢
  by_cases h1:x.5=3
  ·rw[if_pos h1] at h;exact absurd h (by decide)
  rw[if_neg h1] at h⊢
  by_cases h2:size<1
  ·rw[if_pos h2] at h;exact absurd h (by decide)
  rw[if_neg h2] at h⊢
  by_cases h3:(Go.Fl.Sp.cnt (w0x v l x.2 now) 10000:Int)<size
  ·rw[if_pos h3] at h;exact absurd h (by decide)
  rw[if_neg h3] at h⊢
  by_cases h4:(16:Int)<(clmV v x l size now).length
  ·rw[if_pos h4] at h;exact absurd h (by decide)
  rw[if_neg h4]
  exact⟨j,x,k,l,j57 hf,h1,by omega,by omega,by omega,rfl⟩
theorem v3r{v:Envt}{key:ByteArray}{now:Int}{j k:Nat}{x:Exper}{l:Lay_}(h:Fnd v key now j x k l):lix (j0b v j x k l now) x.2=some (k,v9q x l now):=
 v4x (y':=v9q x l now) (dt (Bn h.hl).2.1) h.hl
theorem v0z{v:Envt}{key:ByteArray}{now:Int}{j k:Nat}{x:Exper}{l:Lay_}(hv:EnvK v)(h:Fnd v key now j x k l)(hc:(colV (allC x l now) now).length<=32):EnvK (j0b v j x k l now):=by
 have hx:=hv.ex x (getm (Gi h.hx).1)
 have hl:=hv.ly l (getm (Bn h.hl).1)
 refine⟨hv.al,hv.sn,hv.sg,hv.fn,hv.fl,?_,?_,?_,?_⟩
 ·show (v.5.set k _).length<=1000
  rw[List.length_set];exact hv.ln
 ·exact z5l hv.ly ⟨hl.key,hl.kind,hl.salt,hl.hold,hl.cool,by simp only;omega⟩
 ·show (v.6.set j _).length<=1000
  rw[List.length_set];exact hv.xn
 ·exact z5l hv.ex ⟨hx.key,hx.layer,hx.flag,hx.claims,hx.arms,hx.cond⟩
theorem w6v{v:Envt}{key:ByteArray}{size now:Int}{j k:Nat}{x:Exper}{l:Lay_}(hv:EnvK v)(h:Fnd v key now j x k l):EnvK (j77 v j (Exper.mk x.1 x.2 x.3 x.4 x.5 (clmV v x l size now) x.7 x.8)):=by
 have hx:=hv.ex x (getm (Gi h.hx).1)
 refine⟨hv.al,hv.sn,hv.sg,hv.fn,hv.fl,hv.ln,hv.ly,?_,?_⟩
 ·show (v.6.set j _).length<=1000
  rw[List.length_set];exact hv.xn
 ·exact z5l hv.ex ⟨hx.key,hx.layer,hx.flag,j59 _,hx.arms,hx.cond⟩
theorem v00{p:Nat->Bool}{n:Int}{i:Nat}(h:Go.Fl.Sp.firstP p n i=true):p i=true:=by
 unfold Go.Fl.Sp.firstP at h
 exact (Bool.and_eq_true _ _|>.mp h).1
end Go.En
end
noncomputable section
set_option maxRecDepth 100000
namespace Go.Fx
open Go.Fl
theorem Dj.cnd{ι:Type}[Nonempty ι]{c A B:Prop}{FA FB:ι->Prop}(a:A-> ∃i,FA i)(b:B-> ∃i,FB i)(h:Cnd c A B): ∃i,Cnd c (FA i) (FB i):=by
 by_cases hc:c
 ·obtain⟨i,hi⟩:=a (h.1 hc);exact⟨i,Cnd.yes hc hi⟩
 ·obtain⟨i,hi⟩:=b (h.2 hc);exact⟨i,Cnd.no hc hi⟩
theorem Dj.and{ι:Type}{p A:Prop}{F:ι->Prop}(a:A-> ∃i,F i)(h:p/\A): ∃i,p/\F i:=by
 obtain⟨i,hi⟩:=a h.2;exact⟨i,h.1,hi⟩
theorem Dj.two{ι:Type}{A:Prop}{F:ι->Prop}(a:A-> ∃i,F i)(h:A/\A): ∃i,F i/\F i:=by
 obtain⟨i,hi⟩:=a h.1;exact⟨i,hi,hi⟩
theorem Dj.one{ι:Type}{c L B:Prop}{F G:ι->Prop}(v:c-> ∀i,F i)(a:L-> ∃i,F i)(b:B-> ∃i,G i)(h:L/\(c->B)): ∃i,F i/\(c->G i):=by
 by_cases hc:c
 ·obtain⟨i,hi⟩:=b (h.2 hc);exact⟨i,v hc i,fun _=>hi⟩
 ·obtain⟨i,hi⟩:=a h.1;exact⟨i,hi,fun k=>absurd k hc⟩
theorem Dj.imp{ι:Type}[Nonempty ι]{p A:Prop}{F:ι->Prop}(a:A-> ∃i,F i)(h:p->A): ∃i,p->F i:=by
 by_cases hp:p
 ·obtain⟨i,hi⟩:=a (h hp);exact⟨i,fun _=>hi⟩
 ·exact⟨Classical.choice ‹_›,fun k=>absurd k hp⟩
theorem Dj.opt{ι:Type}[Nonempty ι]{α:Type}{o:Option α}{A:α->Prop}{F:ι->α->Prop}(a: ∀y,A y-> ∃i,F i y)(h: ∀y,o=some y->A y): ∃i,∀y,o=some y->F i y:=by
 cases o with
 |none=>exact⟨Classical.choice ‹_›,fun y k=>by cases k⟩
 |some z=>obtain⟨i,hi⟩:=a z (h z rfl);exact⟨i,fun y k=>by cases k;exact hi⟩
theorem LpH.dj{ι T:Type}{b:T->(T->Prop)->Prop}{c:ι->T->(T->Prop)->Prop}{t:T}
  (h: ∀t Y (Z:ι->T->Prop),(∀u,Y u-> ∃i,Z i u)->b t Y-> ∃i,c i t (Z i))(k:LpH b t): ∃i,LpH (c i) t:=
 k (fun t=> ∃i,LpH (c i) t) fun t Y hY hb=>by
  obtain⟨i,hi⟩:=h t Y (fun i=>LpH (c i)) hY hb
  exact⟨i,fun X hX=>hX t _ (fun u hu=>hu X hX) hi⟩
theorem Jn0.dj{ι:Type}{k:Prop}{A:Prop->Prop}{k':ι->Prop}{A':ι->Prop->Prop}(h:k-> ∃i,k' i)(a: ∀Y (Z:ι->Prop),(Y-> ∃i,Z i)->A Y-> ∃i,A' i (Z i))(j:Jn0 k A): ∃i,Jn0 (k' i) (A' i):=by
 obtain⟨Y,h1,h2⟩:=j
 obtain⟨i,hi⟩:=a Y k' (fun y=>h (h1 y)) h2
 exact⟨i,k' i,id,hi⟩
theorem Jn1.dj{ι T0:Type}{k:T0->Prop}{A:(T0->Prop)->Prop}{k':ι->T0->Prop}{A':ι->(T0->Prop)->Prop}(h: ∀s0,k s0-> ∃i,k' i s0)(a: ∀Y (Z:ι->T0->Prop),(∀s0,Y s0-> ∃i,Z i s0)->A Y-> ∃i,A' i (Z i))(j:Jn1 k A): ∃i,Jn1 (k' i) (A' i):=by
 obtain⟨Y,h1,h2⟩:=j
 obtain⟨i,hi⟩:=a Y k' (fun s0 y=>h s0 (h1 s0 y)) h2
 exact⟨i,k' i,fun _ y=>y,hi⟩
theorem Lp1.dj{ι T0:Type}{b:T0->(T0->Prop)->Prop}{c:ι->T0->(T0->Prop)->Prop}{s0:T0}
  (h: ∀s0 Y (Z:ι->T0->Prop),(∀s0,Y s0-> ∃i,Z i s0)->b s0 Y-> ∃i,c i s0 (Z i))(k:Lp1 b s0): ∃i,Lp1 (c i) s0:=
 k (fun s0=> ∃i,Lp1 (c i) s0) fun s0 Y hY hb=>by
  obtain⟨i,hi⟩:=h s0 Y (fun i=>Lp1 (c i)) hY hb
  exact⟨i,fun X hX=>hX s0 _ (fun _ hu=>hu X hX) hi⟩
theorem Jn2.dj{ι T0 T1:Type}{k:T0->T1->Prop}{A:(T0->T1->Prop)->Prop}{k':ι->T0->T1->Prop}{A':ι->(T0->T1->Prop)->Prop}(h: ∀s0 s1,k s0 s1-> ∃i,k' i s0 s1)(a: ∀Y (Z:ι->T0->T1->Prop),(∀s0 s1,Y s0 s1-> ∃i,Z i s0 s1)->A Y-> ∃i,A' i (Z i))(j:Jn2 k A): ∃i,Jn2 (k' i) (A' i):=by
 obtain⟨Y,h1,h2⟩:=j
 obtain⟨i,hi⟩:=a Y k' (fun s0 s1 y=>h s0 s1 (h1 s0 s1 y)) h2
 exact⟨i,k' i,fun _ _ y=>y,hi⟩
theorem Lp2.dj{ι T0 T1:Type}{b:T0->T1->(T0->T1->Prop)->Prop}{c:ι->T0->T1->(T0->T1->Prop)->Prop}{s0:T0}{s1:T1}
  (h: ∀s0 s1 Y (Z:ι->T0->T1->Prop),(∀s0 s1,Y s0 s1-> ∃i,Z i s0 s1)->b s0 s1 Y-> ∃i,c i s0 s1 (Z i))(k:Lp2 b s0 s1): ∃i,Lp2 (c i) s0 s1:=
 k (fun s0 s1=> ∃i,Lp2 (c i) s0 s1) fun s0 s1 Y hY hb=>by
  obtain⟨i,hi⟩:=h s0 s1 Y (fun i=>Lp2 (c i)) hY hb
  exact⟨i,fun X hX=>hX s0 s1 _ (fun _ _ hu=>hu X hX) hi⟩
theorem Lp3.dj{ι T0 T1 T2:Type}{b:T0->T1->T2->(T0->T1->T2->Prop)->Prop}{c:ι->T0->T1->T2->(T0->T1->T2->Prop)->Prop}{s0:T0}{s1:T1}{s2:T2}
  (h: ∀s0 s1 s2 Y (Z:ι->T0->T1->T2->Prop),(∀s0 s1 s2,Y s0 s1 s2-> ∃i,Z i s0 s1 s2)->b s0 s1 s2 Y-> ∃i,c i s0 s1 s2 (Z i))(k:Lp3 b s0 s1 s2): ∃i,Lp3 (c i) s0 s1 s2:=
 k (fun s0 s1 s2=> ∃i,Lp3 (c i) s0 s1 s2) fun s0 s1 s2 Y hY hb=>by
  obtain⟨i,hi⟩:=h s0 s1 s2 Y (fun i=>Lp3 (c i)) hY hb
  exact⟨i,fun X hX=>hX s0 s1 s2 _ (fun _ _ _ hu=>hu X hX) hi⟩
theorem Jn4.dj{ι T0 T1 T2 T3:Type}{k:T0->T1->T2->T3->Prop}{A:(T0->T1->T2->T3->Prop)->Prop}{k':ι->T0->T1->T2->T3->Prop}{A':ι->(T0->T1->T2->T3->Prop)->Prop}(h: ∀s0 s1 s2 s3,k s0 s1 s2 s3-> ∃i,k' i s0 s1 s2 s3)(a: ∀Y (Z:ι->T0->T1->T2->T3->Prop),(∀s0 s1 s2 s3,Y s0 s1 s2 s3-> ∃i,Z i s0 s1 s2 s3)->A Y-> ∃i,A' i (Z i))(j:Jn4 k A): ∃i,Jn4 (k' i) (A' i):=by
 obtain⟨Y,h1,h2⟩:=j
 obtain⟨i,hi⟩:=a Y k' (fun s0 s1 s2 s3 y=>h s0 s1 s2 s3 (h1 s0 s1 s2 s3 y)) h2
 exact⟨i,k' i,fun _ _ _ _ y=>y,hi⟩
theorem Lp5.dj{ι T0 T1 T2 T3 T4:Type}{b:T0->T1->T2->T3->T4->(T0->T1->T2->T3->T4->Prop)->Prop}{c:ι->T0->T1->T2->T3->T4->(T0->T1->T2->T3->T4->Prop)->Prop}{s0:T0}{s1:T1}{s2:T2}{s3:T3}{s4:T4}
  (h: ∀s0 s1 s2 s3 s4 Y (Z:ι->T0->T1->T2->T3->T4->Prop),(∀s0 s1 s2 s3 s4,Y s0 s1 s2 s3 s4-> ∃i,Z i s0 s1 s2 s3 s4)->b s0 s1 s2 s3 s4 Y-> ∃i,c i s0 s1 s2 s3 s4 (Z i))(k:Lp5 b s0 s1 s2 s3 s4): ∃i,Lp5 (c i) s0 s1 s2 s3 s4:=
 k (fun s0 s1 s2 s3 s4=> ∃i,Lp5 (c i) s0 s1 s2 s3 s4) fun s0 s1 s2 s3 s4 Y hY hb=>by
  obtain⟨i,hi⟩:=h s0 s1 s2 s3 s4 Y (fun i=>Lp5 (c i)) hY hb
  exact⟨i,fun X hX=>hX s0 s1 s2 s3 s4 _ (fun _ _ _ _ _ hu=>hu X hX) hi⟩
theorem dC{ι:Type}[Nonempty ι]{c A B:Prop}{F G:ι->Prop}(a:A-> ∃i,F i)(b:B-> ∃i,G i):Cnd c A B-> ∃i,Cnd c (F i) (G i):=Dj.cnd a b
theorem dA{ι:Type}{p A:Prop}{F:ι->Prop}(a:A-> ∃i,F i):p/\A-> ∃i,p/\F i:=Dj.and a
theorem dW{ι:Type}{A:Prop}{F:ι->Prop}(a:A-> ∃i,F i):A/\A-> ∃i,F i/\F i:=Dj.two a
theorem dI{ι:Type}[Nonempty ι]{p A:Prop}{F:ι->Prop}(a:A-> ∃i,F i):(p->A)-> ∃i,p->F i:=Dj.imp a
theorem dO{ι:Type}[Nonempty ι]{α:Type}{o:Option α}{A:α->Prop}{F:ι->α->Prop}(a: ∀y,A y-> ∃i,F i y):(∀y,o=some y->A y)-> ∃i,∀y,o=some y->F i y:=Dj.opt a
theorem dT{ι:Type}[Nonempty ι]{α:Type}{p:Prop}{o:Option α}{A:α->Prop}{F:ι->α->Prop}(a: ∀y,A y-> ∃i,F i y):(p/\ ∀y,o=some y->A y)-> ∃i,p/\ ∀y,o=some y->F i y:=dA (dO a)
theorem d1{ι:Type}{c L B:Prop}{F G:ι->Prop}(v:c-> ∀i,F i)(a:L-> ∃i,F i)(b:B-> ∃i,G i):L/\(c->B)-> ∃i,F i/\(c->G i):=Dj.one v a b
abbrev Gj1{T0:Type}(P:(T0->Prop)->Prop):Prop:= ∀{ι:Type} [Nonempty ι] {K:T0->Prop} {K2:ι->T0->Prop},(∀s0,K s0-> ∃i,K2 i s0)->P K-> ∃i,P (K2 i)
abbrev Gj2{T0 T1:Type}(P:(T0->T1->Prop)->Prop):Prop:= ∀{ι:Type} [Nonempty ι] {K:T0->T1->Prop} {K2:ι->T0->T1->Prop},(∀s0 s1,K s0 s1-> ∃i,K2 i s0 s1)->P K-> ∃i,P (K2 i)
abbrev Gj3{T0 T1 T2:Type}(P:(T0->T1->T2->Prop)->Prop):Prop:= ∀{ι:Type} [Nonempty ι] {K:T0->T1->T2->Prop} {K2:ι->T0->T1->T2->Prop},(∀s0 s1 s2,K s0 s1 s2-> ∃i,K2 i s0 s1 s2)->P K-> ∃i,P (K2 i)
abbrev Gj4{T0 T1 T2 T3:Type}(P:(T0->T1->T2->T3->Prop)->Prop):Prop:= ∀{ι:Type} [Nonempty ι] {K:T0->T1->T2->T3->Prop} {K2:ι->T0->T1->T2->T3->Prop},(∀s0 s1 s2 s3,K s0 s1 s2 s3-> ∃i,K2 i s0 s1 s2 s3)->P K-> ∃i,P (K2 i)
abbrev Gj5{T0 T1 T2 T3 T4:Type}(P:(T0->T1->T2->T3->T4->Prop)->Prop):Prop:= ∀{ι:Type} [Nonempty ι] {K:T0->T1->T2->T3->T4->Prop} {K2:ι->T0->T1->T2->T3->T4->Prop},(∀s0 s1 s2 s3 s4,K s0 s1 s2 s3 s4-> ∃i,K2 i s0 s1 s2 s3 s4)->P K-> ∃i,P (K2 i)
end Go.Fx
end
noncomputable section
set_option maxRecDepth 100000
namespace Go.En
open Go Go.Fl Go.Fl.Lk Go.Fx
theorem z5m{s:ByteArray}:Gj1 (V1 s):=by
 unfold V1
 exact fun hk=>dA (hk _)
theorem Gk{s:ByteArray}:Gj1 (Vs s):=by
 unfold Vs z3g
 exact fun hk=>dC (hk _) (z5m fun _=>dC (Lp1.dj fun _ _ _ h1=>dC (dA (dO fun _=>dC (hk _) (dA (dO fun _=>dC (hk _) (dA (h1 _)))))) (hk _)) (hk _))
theorem w6w{s:ByteArray}:Gj1 (q8t s):=by
 unfold q8t
 exact fun hk=>Lp1.dj fun _ _ _ h1=>dC (dA (dO fun _=>dC (dC (dA (h1 _)) (dC (hk _) (dC (dC (dA (h1 _)) (dC (dA (h1 _)) (dC (dA (h1 _)) (hk _)))) (dC (dA (h1 _)) (dC (dA (h1 _)) (hk _)))))) (dC (hk _) (dC (dC (dA (h1 _)) (dC (dA (h1 _)) (dC (dA (h1 _)) (hk _)))) (dC (dA (h1 _)) (dC (dA (h1 _)) (hk _))))))) (hk _)
theorem j4q:Gj1 (Rf):=by
 unfold Rf
 exact fun hk=>hk _
theorem Zr{s:ByteArray}:Gj1 (Uk s):=by
 unfold Uk j0u
 exact fun hk=>w6w fun _=>dC (dC (hk _) (j4q fun _=>Lp1.dj fun _ _ _ h1=>dI (dC (dT (fun _=>dC (hk _) (dA (h1 _)))) (hk _)))) (hk _)
theorem j4r{s:Sett}:Gj1 (V2 s):=by
 unfold V2 q40
 exact fun hk=>Gk fun _=>dC (dC (hk _) (dC (hk _) (Zr fun _=>dC (hk _) (dC (dC (hk _) (hk _)) (hk _))))) (hk _)
theorem j4s{l:List (Decl)}:Gj1 (V3 l):=by
 unfold V3 q41
 exact fun hk=>dI (dC (hk _) (Lp1.dj fun _ _ _ h1=>dI (dC (dT (fun _=>Zr fun _=>dC (dT (fun _=>Zr fun _=>dC (dT (fun _=>dC (hk _) (dT (fun _=>dC (hk _) (dT (fun _=>dC (hk _) (dC (dT (fun _=>dA (dA (dO fun _=>dC (hk _) (dT (fun _=>dA (dA (dO fun _=>dC (dT (fun _=>dA (dA (dO fun _=>dC (dA (h1 _)) (hk _))))) (dA (h1 _)))))))))) (dA (h1 _))))))))) (hk _))) (hk _))) (hk _))))
theorem z0j{l:List (ByteArray)}:Gj1 (Hp l):=by
 unfold Hp q7b
 exact fun hk=>dI (dC (hk _) (Lp1.dj fun _ _ _ h1=>dI (dC (dT (fun _=>dC (hk _) (dT (fun _=>Gk fun _=>dC (dC (dT (fun _=>dA (dA (dO fun _=>dC (dA (h1 _)) (hk _))))) (dA (h1 _))) (hk _))))) (hk _))))
theorem w6x{e:Ex}:Gj1 (q8u e):=by
 unfold q8u
 exact fun hk=>dC (dC (dC (dI (dC (dI (hk _)) (hk _))) (hk _)) (hk _)) (hk _)
theorem U5{op:Int}:Gj1 (Zl op):=by
 unfold Zl
 exact fun hk=>dC (hk _) (hk _)
theorem w01{e:Ex}:Gj1 (q2h e):=by
 unfold q2h q9w
 exact fun hk=>dI (dI (Jn2.dj (fun _ _=>U5 fun _=>dC (dC (dC (dC (hk _) (dC (hk _) (hk _))) (dC (dC (hk _) (dC (hk _) (hk _))) (hk _))) (hk _)) (hk _)) fun _ _ h1=>dC (dI (h1 _ _)) (dC (dI (h1 _ _)) (dC (dI (h1 _ _)) (dC (dI (h1 _ _)) (U5 fun _=>dC (dC (h1 _ _) (dI (h1 _ _))) (h1 _ _)))))))
theorem w3g{v:Val}:Gj1 (q5k v):=by
 unfold q5k
 exact fun hk=>dC (dC (dC (hk _) (dI (hk _))) (dC (dC (hk _) (dI (hk _))) (dC (dC (hk _) (dI (hk _))) (hk _)))) (dC (dC (dC (hk _) (dI (hk _))) (dC (dC (hk _) (dI (hk _))) (hk _))) (dC (dC (dC (hk _) (dI (hk _))) (dC (dC (hk _) (dI (hk _))) (hk _))) (dC (dC (dC (hk _) (dI (hk _))) (dC (dC (hk _) (dI (hk _))) (hk _))) (hk _))))
theorem q9a{s:ByteArray}:Gj2 (Vt s):=by
 unfold Vt
 exact fun hk=>Jn1.dj (fun _=>Lp1.dj fun _ _ _ h1=>dC (dA (dO fun _=>dC (hk _ _) (dA (dO fun _=>dC (hk _ _) (dA (h1 _)))))) (dC (hk _ _) (dA (dO fun _=>dC (dC (dC (hk _ _) (Lp2.dj fun _ _ _ _ h2=>dC (dA (dA (dO fun _=>dA (dA (dA (h2 _ _)))))) (dC (hk _ _) (dC (dA (hk _ _)) (hk _ _))))) (hk _ _)) (dC (hk _ _) (Lp2.dj fun _ _ _ _ h3=>dC (dA (dA (dO fun _=>dA (dA (dA (h3 _ _)))))) (dC (hk _ _) (dC (dA (hk _ _)) (hk _ _))))))))) fun _ _ h4=>dC (dA (dO fun _=>dC (dA (h4 _)) (h4 _))) (h4 _)
theorem w3h{s:ByteArray}:Gj2 (q5l s):=by
 unfold q5l z3i
 exact fun hk=>LpH.dj fun _ _ _ h1=>dC (Lp1.dj fun _ _ _ h2=>dC (dA (dO fun _=>dC (dA (q9a fun _ _=>dC (dC (hk _ _) (dC (hk _ _) (dC (dA (d1 (by intro hc _;(repeat' (first|exact trivial|refine⟨?_,?_⟩|(intro e;exact absurd (hc.symm.trans e) (by decide))))) (d1 (by intro hc _;(repeat' (first|exact trivial|refine⟨?_,?_⟩|(intro e;exact absurd (hc.symm.trans e) (by decide))))) (dA (dI (dA (dA (h1 _))))) (dA (dA (h1 _)))) (dA (dA (h1 _))))) (hk _ _)))) (hk _ _))) (dA (h2 _)))) (dA (q9a fun _ _=>dC (dC (hk _ _) (dC (hk _ _) (dC (dA (d1 (by intro hc _;(repeat' (first|exact trivial|refine⟨?_,?_⟩|(intro e;exact absurd (hc.symm.trans e) (by decide))))) (d1 (by intro hc _;(repeat' (first|exact trivial|refine⟨?_,?_⟩|(intro e;exact absurd (hc.symm.trans e) (by decide))))) (dA (dI (dA (dA (h1 _))))) (dA (dA (h1 _)))) (dA (dA (h1 _))))) (hk _ _)))) (hk _ _)))) (hk _ _)
theorem w6y{l:List (ByteArray)}:Gj1 (q8w l):=by
 unfold q8w z6f
 exact fun hk=>dI (dC (hk _) (Lp1.dj fun _ _ _ h1=>dI (dC (dT (fun _=>Gk fun _=>dC (dA (h1 _)) (hk _))) (Lp1.dj fun _ _ _ h2=>dI (dC (dT (fun _=>dA (dA (dO fun _=>dC (dA (h2 _)) (hk _))))) (hk _))))))
theorem B4{v:Val}:Gj1 (q2j v):=by
 unfold q2j z3j
 exact fun hk=>dC (hk _) (dC (hk _) (w3g fun _=>dC (dC (dC (hk _) (dC (hk _) (hk _))) (dC (dC (hk _) (dC (hk _) (hk _))) (dC (Gk fun _=>dC (hk _) (hk _)) (dC (w3h fun _ _=>dC (hk _) (hk _)) (dC (w6y fun _=>hk _) (hk _)))))) (hk _)))
theorem w6z{e:Ex}:Gj1 (Hq e):=by
 unfold Hq z6h
 exact fun hk=>dC (hk _) (dC (hk _) (w01 fun _=>dC (dI (dC (hk _) (dI (dC (hk _) (Lp1.dj fun _ _ _ h1=>dI (dC (dT (fun _=>dC (dC (dA (h1 _)) (hk _)) (dA (h1 _)))) (U5 fun _=>dC (Zr fun _=>dC (U5 fun _=>dC (Zr fun _=>dC (Lp1.dj fun _ _ _ h2=>dI (dC (dT (fun _=>B4 fun _=>dC (dA (h2 _)) (hk _))) (dC (dA (dO fun _=>dC (hk _) (hk _))) (dC (dA (dO fun _=>dC (hk _) (hk _))) (dC (dA (dO fun _=>dC (hk _) (hk _))) (hk _)))))) (hk _)) (dC (Zr fun _=>dC (Lp1.dj fun _ _ _ h3=>dI (dC (dT (fun _=>B4 fun _=>dC (dA (h3 _)) (hk _))) (dC (dA (dO fun _=>dC (hk _) (hk _))) (dC (dA (dO fun _=>dC (hk _) (hk _))) (dC (dA (dO fun _=>dC (hk _) (hk _))) (hk _)))))) (hk _)) (Lp1.dj fun _ _ _ h4=>dI (dC (dT (fun _=>B4 fun _=>dC (dA (h4 _)) (hk _))) (dC (dA (dO fun _=>dC (hk _) (hk _))) (dC (dA (dO fun _=>dC (hk _) (hk _))) (dC (dA (dO fun _=>dC (hk _) (hk _))) (hk _)))))))) (hk _)) (U5 fun _=>dC (Zr fun _=>dC (Lp1.dj fun _ _ _ h5=>dI (dC (dT (fun _=>B4 fun _=>dC (dA (h5 _)) (hk _))) (dC (dA (dO fun _=>dC (hk _) (hk _))) (dC (dA (dO fun _=>dC (hk _) (hk _))) (dC (dA (dO fun _=>dC (hk _) (hk _))) (hk _)))))) (hk _)) (dC (Zr fun _=>dC (Lp1.dj fun _ _ _ h6=>dI (dC (dT (fun _=>B4 fun _=>dC (dA (h6 _)) (hk _))) (dC (dA (dO fun _=>dC (hk _) (hk _))) (dC (dA (dO fun _=>dC (hk _) (hk _))) (dC (dA (dO fun _=>dC (hk _) (hk _))) (hk _)))))) (hk _)) (Lp1.dj fun _ _ _ h7=>dI (dC (dT (fun _=>B4 fun _=>dC (dA (h7 _)) (hk _))) (dC (dA (dO fun _=>dC (hk _) (hk _))) (dC (dA (dO fun _=>dC (hk _) (hk _))) (dC (dA (dO fun _=>dC (hk _) (hk _))) (hk _))))))))))))))) (hk _)))
theorem z8x{ι:Type}[Nonempty ι]{Xa Xb:q3t}{e:Ex}{depth:Int}{n:Int}{K:Int->Int->Prop}{K2:ι->Int->Int->Prop}(hX: ∀{e:Ex} {depth:Int} {n:Int} {K:Int->Int->Prop} {K2:ι->Int->Int->Prop},(∀r0 r1,K r0 r1-> ∃i,K2 i r0 r1)->Xa e depth n K-> ∃i,Xb e depth n (K2 i))(hk: ∀r0 r1,K r0 r1-> ∃i,K2 i r0 r1):q56 Hq Xa e depth n K-> ∃i,q56 Hq Xb e depth n (K2 i):=by
 unfold q56
 exact dC (hk _ _) (dA (dC (hk _ _) (w6z fun _=>dC (Lp2.dj fun _ _ _ _ h1=>dI (dC (dT (fun _=>dA (hX fun _ _=>dC (dA (h1 _ _)) (hk _ _)))) (hk _ _))) (hk _ _))))
theorem w60{e:Ex}{depth:Int}{n:Int}{K:Int->Int->Prop}(p:q56 Hq R8 e depth n K):R8 e depth n K:=by
 intro X hX
 have hm: ∀{e:Ex} {depth:Int} {n:Int} {K:Int->Int->Prop},R8 e depth n K-> ∀{K2:Int->Int->Prop},(∀r0 r1,K r0 r1->K2 r0 r1)->X e depth n K2:=by
  intro e depth n K q K2 hk
  refine q (fun e depth n K=> ∀K2:Int->Int->Prop,(∀r0 r1,K r0 r1->K2 r0 r1)->X e depth n K2) (fun e depth n K s K2 hk=> ?_) K2 hk
  obtain⟨_,t⟩:=z8x (ι:=Unit) (Xb:=X) (fun f q=>⟨(),q _ fun r0 r1 k=>(f r0 r1 k).elim fun _ z=>z⟩) (K2:=fun _=>K2) (fun r0 r1 k=>⟨(),hk r0 r1 k⟩) s
  exact hX e depth n K2 t
 obtain⟨_,t⟩:=z8x (ι:=Unit) (Xb:=X) (fun f q=>⟨(),hm q fun r0 r1 k=>(f r0 r1 k).elim fun _ z=>z⟩) (K2:=fun _=>K) (fun _ _ k=>⟨(),k⟩) p
 exact hX e depth n K t
theorem w61{e:Ex}{depth:Int}{n:Int}:Gj2 (R8 e depth n):=by
 intro ι _ K K2 hk p
 refine p (fun e depth n K=> ∀K2:ι->Int->Int->Prop,(∀r0 r1,K r0 r1-> ∃i,K2 i r0 r1)-> ∃i,R8 e depth n (K2 i)) (fun e depth n K s K2 hk=> ?_) K2 hk
 obtain⟨i,t⟩:=z8x (Xb:=R8) (fun f q=>q _ f) hk s
 exact⟨i,w60 t⟩
theorem z8y{e:Ex}:Gj1 (q3u e):=by
 unfold q3u z6i
 exact fun hk=>w61 fun _ _=>hk _
theorem j79{g:Seg}:Gj1 (B9 g):=by
 unfold B9 q7c
 exact fun hk=>Zr fun _=>dC (Zr fun _=>dC (z0j fun _=>dC (z0j fun _=>dC (w6x fun _=>dC (hk _) (z8y fun _=>hk _)) (hk _)) (hk _)) (hk _)) (hk _)
theorem j4t{l:List (Seg)}:Gj1 (V4 l):=by
 unfold V4 q42
 exact fun hk=>dI (dC (hk _) (Lp1.dj fun _ _ _ h1=>dI (dC (dT (fun _=>j79 fun _=>dC (dC (dT (fun _=>dA (dA (dO fun _=>dC (dA (h1 _)) (hk _))))) (dA (h1 _))) (hk _))) (hk _))))
theorem j0c{f:Flg}:Gj1 (Up f):=by
 unfold Up q05
 exact fun hk=>dI (dC (hk _) (dC (hk _) (Lp1.dj fun _ _ _ h1=>dC (dT (fun _=>B4 fun _=>dC (dT (fun _=>dC (dA (h1 _)) (hk _))) (hk _))) (dC (hk _) (dC (hk _) (hk _))))))
theorem z5n{l:List (Prq)}:Gj1 (Wr l):=by
 unfold Wr G8
 exact fun hk=>dI (dC (hk _) (Lp1.dj fun _ _ _ h1=>dI (dC (dT (fun _=>Zr fun _=>dC (dC (dT (fun _=>dA (dA (dO fun _=>dC (dT (fun _=>dC (hk _) (dT (fun _=>dC (hk _) (dA (h1 _)))))) (hk _))))) (dT (fun _=>dC (hk _) (dT (fun _=>dC (hk _) (dA (h1 _))))))) (hk _))) (hk _))))
theorem j8a{l:List (Tgt)}{n:Int}:Gj1 (q0a l n):=by
 unfold q0a q7d
 exact fun hk=>dI (dC (hk _) (Lp1.dj fun _ _ _ h1=>dI (dC (dT (fun _=>Zr fun _=>dC (dT (fun _=>dC (hk _) (dT (fun _=>dC (hk _) (dT (fun _=>dI (dC (hk _) (dT (fun _=>z0j fun _=>dC (dA (h1 _)) (hk _)))))))))) (hk _))) (hk _))))
theorem j3m{l:List (Rng)}{variations:Int}:Gj1 (q2k l variations):=by
 unfold q2k
 exact fun hk=>dI (dC (hk _) (Lp2.dj fun _ _ _ _ h1=>dI (dC (dT (fun _=>dC (hk _) (dT (fun _=>dC (hk _) (dT (fun _=>dC (dT (fun _=>dC (hk _) (dC (dT (fun _=>dA (dA (dO fun _=>dC (hk _) (dT (fun _=>dA (h1 _ _))))))) (dT (fun _=>dA (h1 _ _)))))) (hk _))))))) (dC (hk _) (hk _)))))
theorem j3n{v:Srv}{variations:Int}:Gj1 (q2m v variations):=by
 unfold q2m z3k
 exact fun hk=>dC (Zr fun _=>dC (Zr fun _=>dC (Gk fun _=>dC (j3m fun _=>hk _) (hk _)) (hk _)) (hk _)) (dC (hk _) (dC (hk _) (dC (dC (dC (dI (dC (hk _) (hk _))) (hk _)) (hk _)) (hk _))))
theorem w3i{l:List (Rul)}{n:Int}:Gj1 (q5n l n):=by
 unfold q5n z3l
 exact fun hk=>dI (dC (hk _) (Lp1.dj fun _ _ _ h1=>dI (dC (dT (fun _=>Zr fun _=>dC (Lp1.dj fun _ _ _ h2=>dC (dT (fun _=>dT (fun _=>dC (hk _) (dA (h2 _))))) (dT (fun _=>z8y fun _=>dC (dT (fun _=>j3n fun _=>dC (dA (h1 _)) (hk _))) (hk _)))) (hk _))) (hk _))))
theorem w62{f:Flg}:Gj1 (q3x f):=by
 unfold q3x z6j
 exact fun hk=>dI (Zr fun _=>dC (dC (hk _) (dC (hk _) (j0c fun _=>dC (z5n fun _=>dC (j8a fun _=>dC (w3i fun _=>dC (j3n fun _=>hk _) (hk _)) (hk _)) (hk _)) (hk _)))) (hk _))
theorem j3o{l:Lay_}:Gj1 (Rg l):=by
 unfold Rg q80
 exact fun hk=>Zr fun _=>dC (Zr fun _=>dC (Gk fun _=>dC (dC (hk _) (dC (hk _) (dC (hk _) (dC (hk _) (dI (dC (hk _) (Lp1.dj fun _ _ _ h1=>dI (dC (dT (fun _=>dC (hk _) (dC (hk _) (dC (hk _) (dC (hk _) (dC (hk _) (dC (dA (dA (dO fun _=>dC (hk _) (dA (h1 _))))) (dA (h1 _))))))))) (hk _))))))))) (hk _)) (hk _)) (hk _)
theorem z9n{l:List (Lay_)}:Gj1 (Wz l):=by
 unfold Wz q58
 exact fun hk=>dI (dC (hk _) (Lp1.dj fun _ _ _ h1=>dI (dC (dT (fun _=>j3o fun _=>dC (dC (dT (fun _=>dA (dA (dO fun _=>dC (dA (h1 _)) (hk _))))) (dA (h1 _))) (hk _))) (hk _))))
theorem w3j{l:List (Spn)}:Gj1 (q5p l):=by
 unfold q5p
 exact fun hk=>dI (dC (hk _) (Lp1.dj fun _ _ _ h1=>dI (dC (dT (fun _=>dC (hk _) (dT (fun _=>dT (fun _=>dC (hk _) (dT (fun _=>dC (hk _) (dC (dT (fun _=>dA (dA (dO fun _=>dC (hk _) (dA (h1 _)))))) (dA (h1 _)))))))))) (hk _))))
theorem z05{x:Exper}:Gj1 (Jk x):=by
 unfold Jk Ht
 exact fun hk=>Zr fun _=>dC (Zr fun _=>dC (Zr fun _=>dC (Gk fun _=>dC (dC (hk _) (dC (hk _) (w3j fun _=>dC (j3m fun _=>dC (z8y fun _=>hk _) (hk _)) (hk _)))) (hk _)) (hk _)) (hk _)) (hk _)
theorem j3p{l:List (ByteArray)}{s:ByteArray}:Gj1 (Rh l s):=by
 unfold Rh
 exact fun hk=>Lp1.dj fun _ _ _ h1=>dI (dC (dT (fun _=>dC (hk _) (dA (h1 _)))) (hk _))
theorem z8z{l:List (Decl)}{kind:ByteArray}{name:ByteArray}:Gj1 (Uq l kind name):=by
 unfold Uq
 exact fun hk=>Lp1.dj fun _ _ _ h1=>dI (dC (dT (fun _=>dC (dT (fun _=>dC (dT (fun _=>hk _)) (dA (h1 _)))) (dA (h1 _)))) (dC (hk _) (hk _)))
theorem j6c{t:Int}{e:Ex}:Gj1 (Gv t e):=by
 unfold Gv
 exact fun hk=>dC (hk _) (dC (Lp1.dj fun _ _ _ h1=>dI (dC (dT (fun _=>dC (dA (h1 _)) (hk _))) (hk _))) (dI (dC (hk _) (dA (dO fun _=>dC (hk _) (Jn1.dj (fun _=>dC (dC (hk _) (hk _)) (dC (dC (hk _) (dC (hk _) (hk _))) (dC (hk _) (dC (hk _) (dC (hk _) (hk _)))))) fun _ _ h2=>dC (h2 _) (h2 _)))))))
theorem z80{ι:Type}[Nonempty ι]{Xa Xb:Gw}{l:List (Decl)}{segments:List (ByteArray)}{e:Ex}{K:Int->Prop}{K2:ι->Int->Prop}(hX: ∀{l:List (Decl)} {segments:List (ByteArray)} {e:Ex} {K:Int->Prop} {K2:ι->Int->Prop},(∀r0,K r0-> ∃i,K2 i r0)->Xa l segments e K-> ∃i,Xb l segments e (K2 i))(hk: ∀r0,K r0-> ∃i,K2 i r0):q59 Rh Zl Uq Gv Xa l segments e K-> ∃i,q59 Rh Zl Uq Gv Xb l segments e (K2 i):=by
 unfold q59
 exact dC (j3p fun _=>dC (Jn0.dj (Lp1.dj fun _ _ _ h1=>dI (dC (dT (fun _=>hX fun _=>dC (dA (h1 _)) (hk _))) (hk _))) fun _ _ h2=>U5 fun _=>dC (z8z fun _=>dC (hk _) (j6c fun _=>dC h2 (hk _))) h2) (hk _)) (Jn0.dj (Lp1.dj fun _ _ _ h3=>dI (dC (dT (fun _=>hX fun _=>dC (dA (h3 _)) (hk _))) (hk _))) fun _ _ h4=>U5 fun _=>dC (z8z fun _=>dC (hk _) (j6c fun _=>dC h4 (hk _))) h4)
theorem w63{l:List (Decl)}{segments:List (ByteArray)}{e:Ex}{K:Int->Prop}(p:q59 Rh Zl Uq Gv V6 l segments e K):V6 l segments e K:=by
 intro X hX
 have hm: ∀{l:List (Decl)} {segments:List (ByteArray)} {e:Ex} {K:Int->Prop},V6 l segments e K-> ∀{K2:Int->Prop},(∀r0,K r0->K2 r0)->X l segments e K2:=by
  intro l segments e K q K2 hk
  refine q (fun l segments e K=> ∀K2:Int->Prop,(∀r0,K r0->K2 r0)->X l segments e K2) (fun l segments e K s K2 hk=> ?_) K2 hk
  obtain⟨_,t⟩:=z80 (ι:=Unit) (Xb:=X) (fun f q=>⟨(),q _ fun r0 k=>(f r0 k).elim fun _ z=>z⟩) (K2:=fun _=>K2) (fun r0 k=>⟨(),hk r0 k⟩) s
  exact hX l segments e K2 t
 obtain⟨_,t⟩:=z80 (ι:=Unit) (Xb:=X) (fun f q=>⟨(),hm q fun r0 k=>(f r0 k).elim fun _ z=>z⟩) (K2:=fun _=>K) (fun _ k=>⟨(),k⟩) p
 exact hX l segments e K t
theorem w64{l:List (Decl)}{segments:List (ByteArray)}{e:Ex}:Gj1 (V6 l segments e):=by
 intro ι _ K K2 hk p
 refine p (fun l segments e K=> ∀K2:ι->Int->Prop,(∀r0,K r0-> ∃i,K2 i r0)-> ∃i,V6 l segments e (K2 i)) (fun l segments e K s K2 hk=> ?_) K2 hk
 obtain⟨i,t⟩:=z80 (Xb:=V6) (fun f q=>q _ f) hk s
 exact⟨i,w63 t⟩
theorem j3q{l:List (ByteArray)}{s:ByteArray}:Gj1 (Ri l s):=by
 unfold Ri
 exact fun hk=>Lp1.dj fun _ _ _ h1=>dI (dC (dT (fun _=>dC (dA (h1 _)) (dI (dC (dT (fun _=>dC (hk _) (dA (dA (dA (dA (dA (hk _)))))))) (dA (dA (dA (dA (dA (hk _)))))))))) (dI (dC (dT (fun _=>dC (hk _) (dA (dA (dA (dA (dA (hk _)))))))) (dA (dA (dA (dA (dA (hk _)))))))))
theorem z0k{ι:Type}[Nonempty ι]{Xa Xb:U3}{l:List (ByteArray)}{e:Ex}{K:List (ByteArray)->Prop}{K2:ι->List (ByteArray)->Prop}(hX: ∀{l:List (ByteArray)} {e:Ex} {K:List (ByteArray)->Prop} {K2:ι->List (ByteArray)->Prop},(∀r0,K r0-> ∃i,K2 i r0)->Xa l e K-> ∃i,Xb l e (K2 i))(hk: ∀r0,K r0-> ∃i,K2 i r0):Hu Ri Xa l e K-> ∃i,Hu Ri Xb l e (K2 i):=by
 unfold Hu
 exact Jn1.dj (fun _=>Lp2.dj fun _ _ _ _ h1=>dI (dC (dT (fun _=>hX fun _=>dA (h1 _ _))) (hk _))) fun _ _ h2=>dC (j3q fun _=>h2 _) (h2 _)
theorem j8b{l:List (ByteArray)}{e:Ex}{K:List (ByteArray)->Prop}(p:Hu Ri Vb l e K):Vb l e K:=by
 intro X hX
 have hm: ∀{l:List (ByteArray)} {e:Ex} {K:List (ByteArray)->Prop},Vb l e K-> ∀{K2:List (ByteArray)->Prop},(∀r0,K r0->K2 r0)->X l e K2:=by
  intro l e K q K2 hk
  refine q (fun l e K=> ∀K2:List (ByteArray)->Prop,(∀r0,K r0->K2 r0)->X l e K2) (fun l e K s K2 hk=> ?_) K2 hk
  obtain⟨_,t⟩:=z0k (ι:=Unit) (Xb:=X) (fun f q=>⟨(),q _ fun r0 k=>(f r0 k).elim fun _ z=>z⟩) (K2:=fun _=>K2) (fun r0 k=>⟨(),hk r0 k⟩) s
  exact hX l e K2 t
 obtain⟨_,t⟩:=z0k (ι:=Unit) (Xb:=X) (fun f q=>⟨(),hm q fun r0 k=>(f r0 k).elim fun _ z=>z⟩) (K2:=fun _=>K) (fun _ k=>⟨(),k⟩) p
 exact hX l e K t
theorem j8c{l:List (ByteArray)}{e:Ex}:Gj1 (Vb l e):=by
 intro ι _ K K2 hk p
 refine p (fun l e K=> ∀K2:ι->List (ByteArray)->Prop,(∀r0,K r0-> ∃i,K2 i r0)-> ∃i,Vb l e (K2 i)) (fun l e K s K2 hk=> ?_) K2 hk
 obtain⟨i,t⟩:=z0k (Xb:=Vb) (fun f q=>q _ f) hk s
 exact⟨i,j8b t⟩
theorem j8d{e:Ex}:Gj1 (q0c e):=by
 unfold q0c q7e
 exact fun hk=>j8c fun _=>hk _
theorem z2s{l:List (Seg)}:Gj1 (Vk l):=by
 unfold Vk q9z
 exact fun hk=>Lp2.dj fun _ _ _ _ h1=>dI (dC (dT (fun _=>j8d fun _=>Lp2.dj fun _ _ _ _ h2=>dI (dC (dT (fun _=>dT (fun _=>dA (dA (h2 _ _))))) (dA (h1 _ _))))) (hk _))
theorem w3k{edges:List (Edg)}{node:ByteArray}:Gj1 (q0d edges node):=by
 unfold q0d q83
 exact fun hk=>Lp2.dj fun _ _ _ _ h1=>dI (dC (dA (dO fun _=>dA (Lp3.dj fun _ _ _ _ _ h2=>dI (dC (dT (fun _=>dC (dT (fun _=>j3p fun _=>dC (dA (h2 _ _ _)) (dT (fun _=>j3q fun _=>dT (fun _=>dW (dA (dA (dA (h2 _ _ _))))))))) (dA (h2 _ _ _)))) (h1 _ _))))) (hk _))
theorem w02{nodes:List (ByteArray)}{edges:List (Edg)}:Gj1 (Bv nodes edges):=by
 unfold Bv q6c
 exact fun hk=>Lp2.dj fun _ _ _ _ h1=>dI (dC (dT (fun _=>dT (fun _=>w3k fun _=>j3p fun _=>dC (dT (fun _=>j3q fun _=>dA (h1 _ _))) (dA (h1 _ _))))) (hk _))
theorem z2t{nodes:List (ByteArray)}{edges:List (Edg)}:Gj2 (Z5 nodes edges):=by
 unfold Z5 q6e
 exact fun hk=>w02 fun _=>dI (dC (hk _ _) (dA (dO fun _=>hk _ _)))
theorem w3l{l:List (Decl)}{v:Srv}:Gj1 (q0f l v):=by
 unfold q0f z3o
 exact fun hk=>dC (z8z fun _=>dC (hk _) (dC (hk _) (hk _))) (hk _)
theorem w65:Gj3 (z6a):=by
 unfold z6a
 exact fun hk=>hk _ _ _
theorem w66{a:List (ByteArray)}{b:List (ByteArray)}:Gj1 (q8q a b):=by
 unfold q8q
 exact fun hk=>dI (dI (dC (Lp1.dj fun _ _ _ h1=>dI (dC (dT (fun _=>dT (fun _=>dC (dA (h1 _)) (hk _)))) (hk _))) (hk _)))
theorem w3m{a:Val}{b:Val}:Gj1 (q5j a b):=by
 unfold q5j z3c
 exact fun hk=>dC (dC (dC (w66 fun _=>hk _) (hk _)) (hk _)) (hk _)
theorem j0d{a:List (Val)}{b:List (Val)}:Gj1 (Z4 a b):=by
 unfold Z4 q0x
 exact fun hk=>dI (dI (dC (Lp1.dj fun _ _ _ h1=>dI (dC (dT (fun _=>dT (fun _=>w3m fun _=>dC (dA (h1 _)) (hk _)))) (hk _))) (hk _)))
theorem q8g{ι:Type}[Nonempty ι]{Xa Xb:Vz}{a:Ex}{b:Ex}{K:Bool->Prop}{K2:ι->Bool->Prop}(hX: ∀{a:Ex} {b:Ex} {K:Bool->Prop} {K2:ι->Bool->Prop},(∀r0,K r0-> ∃i,K2 i r0)->Xa a b K-> ∃i,Xb a b (K2 i))(hk: ∀r0,K r0-> ∃i,K2 i r0):U9 Z4 Xa a b K-> ∃i,U9 Z4 Xb a b (K2 i):=by
 unfold U9
 exact dC (dC (dC (j0d fun _=>dC (dI (dI (dC (Lp1.dj fun _ _ _ h1=>dI (dC (dT (fun _=>dT (fun _=>hX fun _=>dC (dA (h1 _)) (hk _)))) (hk _))) (hk _)))) (hk _)) (hk _)) (hk _)) (hk _)
theorem j4u{a:Ex}{b:Ex}{K:Bool->Prop}(p:U9 Z4 J3 a b K):J3 a b K:=by
 intro X hX
 have hm: ∀{a:Ex} {b:Ex} {K:Bool->Prop},J3 a b K-> ∀{K2:Bool->Prop},(∀r0,K r0->K2 r0)->X a b K2:=by
  intro a b K q K2 hk
  refine q (fun a b K=> ∀K2:Bool->Prop,(∀r0,K r0->K2 r0)->X a b K2) (fun a b K s K2 hk=> ?_) K2 hk
  obtain⟨_,t⟩:=q8g (ι:=Unit) (Xb:=X) (fun f q=>⟨(),q _ fun r0 k=>(f r0 k).elim fun _ z=>z⟩) (K2:=fun _=>K2) (fun r0 k=>⟨(),hk r0 k⟩) s
  exact hX a b K2 t
 obtain⟨_,t⟩:=q8g (ι:=Unit) (Xb:=X) (fun f q=>⟨(),hm q fun r0 k=>(f r0 k).elim fun _ z=>z⟩) (K2:=fun _=>K) (fun _ k=>⟨(),k⟩) p
 exact hX a b K t
theorem j4v{a:Ex}{b:Ex}:Gj1 (J3 a b):=by
 intro ι _ K K2 hk p
 refine p (fun a b K=> ∀K2:ι->Bool->Prop,(∀r0,K r0-> ∃i,K2 i r0)-> ∃i,J3 a b (K2 i)) (fun a b K s K2 hk=> ?_) K2 hk
 obtain⟨i,t⟩:=q8g (Xb:=J3) (fun f q=>q _ f) hk s
 exact⟨i,j4u t⟩
theorem z2u{l:List (Ex)}{e:Ex}:Gj1 (Zx l e):=by
 unfold Zx q9p
 exact fun hk=>Lp1.dj fun _ _ _ h1=>dI (dC (dT (fun _=>j4v fun _=>dC (hk _) (dA (h1 _)))) (hk _))
theorem q63{ι:Type}[Nonempty ι]{Xa Xb:Va}{l:List (Ex)}{e:Ex}{K:List (Ex)->Prop}{K2:ι->List (Ex)->Prop}(hX: ∀{l:List (Ex)} {e:Ex} {K:List (Ex)->Prop} {K2:ι->List (Ex)->Prop},(∀r0,K r0-> ∃i,K2 i r0)->Xa l e K-> ∃i,Xb l e (K2 i))(hk: ∀r0,K r0-> ∃i,K2 i r0):Ug Zx Zl Xa l e K-> ∃i,Ug Zx Zl Xb l e (K2 i):=by
 unfold Ug
 exact Jn1.dj (fun _=>Lp2.dj fun _ _ _ _ h1=>dI (dC (dT (fun _=>hX fun _=>dA (h1 _ _))) (hk _))) fun _ _ h2=>dC (z2u fun _=>dC (dW (dA (dA (h2 _)))) (h2 _)) (U5 fun _=>dC (z2u fun _=>dC (dW (dA (dA (h2 _)))) (h2 _)) (h2 _))
theorem j3r{l:List (Ex)}{e:Ex}{K:List (Ex)->Prop}(p:Ug Zx Zl J2 l e K):J2 l e K:=by
 intro X hX
 have hm: ∀{l:List (Ex)} {e:Ex} {K:List (Ex)->Prop},J2 l e K-> ∀{K2:List (Ex)->Prop},(∀r0,K r0->K2 r0)->X l e K2:=by
  intro l e K q K2 hk
  refine q (fun l e K=> ∀K2:List (Ex)->Prop,(∀r0,K r0->K2 r0)->X l e K2) (fun l e K s K2 hk=> ?_) K2 hk
  obtain⟨_,t⟩:=q63 (ι:=Unit) (Xb:=X) (fun f q=>⟨(),q _ fun r0 k=>(f r0 k).elim fun _ z=>z⟩) (K2:=fun _=>K2) (fun r0 k=>⟨(),hk r0 k⟩) s
  exact hX l e K2 t
 obtain⟨_,t⟩:=q63 (ι:=Unit) (Xb:=X) (fun f q=>⟨(),hm q fun r0 k=>(f r0 k).elim fun _ z=>z⟩) (K2:=fun _=>K) (fun _ k=>⟨(),k⟩) p
 exact hX l e K t
theorem j3s{l:List (Ex)}{e:Ex}:Gj1 (J2 l e):=by
 intro ι _ K K2 hk p
 refine p (fun l e K=> ∀K2:ι->List (Ex)->Prop,(∀r0,K r0-> ∃i,K2 i r0)-> ∃i,J2 l e (K2 i)) (fun l e K s K2 hk=> ?_) K2 hk
 obtain⟨i,t⟩:=q63 (Xb:=J2) (fun f q=>q _ f) hk s
 exact⟨i,j3r t⟩
theorem j0e{l:List (Rul)}:Gj1 (Um l):=by
 unfold Um q0y
 exact fun hk=>Lp2.dj fun _ _ _ _ h1=>dI (dC (dT (fun _=>j3s fun _=>dA (h1 _ _))) (hk _))
theorem G5{ns:List (Nd)}{ids:(Nd->Option (Int))}{full:Bool}{id:Int}:Gj4 (W8 ns ids full id):=by
 unfold W8
 exact fun hk=>dC (dI (hk _ _ _ _)) (hk _ _ _ _)
theorem z81{ns:List (Nd)}{ids:(Nd->Option (Int))}{full:Bool}{id:Int}:Gj4 (Vr ns ids full id):=by
 unfold Vr
 exact fun hk=>Lp2.dj fun _ _ _ _ h1=>dI (dC (dI (dA (dA (dO fun _=>dI (dA (dA (dC (h1 _ _) (dC (dT (fun _=>dT (fun _=>dA (h1 _ _)))) (h1 _ _))))))))) (hk _ _ _ _))
theorem z66{ns:List (Nd)}{ids:(Nd->Option (Int))}{full:Bool}{id:Int}:Gj4 (Vd ns ids full id):=by
 unfold Vd q2f
 exact fun hk=>G5 fun _ _ _ _=>dC (z81 fun _ _ _ _=>Lp2.dj fun _ _ _ _ h1=>dC (dA (dC (dA (dA (h1 _ _))) (dA (h1 _ _)))) (hk _ _ _ _)) (hk _ _ _ _)
theorem H8{ns:List (Nd)}{ids:(Nd->Option (Int))}{full:Bool}{id:Int}:Gj4 (Zw ns ids full id):=by
 unfold Zw R2
 exact fun hk=>G5 fun _ _ _ _=>dC (z66 fun _ _ _ _=>Lp1.dj fun _ _ _ h1=>dI (dC (dT (fun _=>dC (hk _ _ _ _) (dA (h1 _)))) (hk _ _ _ _))) (hk _ _ _ _)
theorem Uy{ns:List (Nd)}{ids:(Nd->Option (Int))}{full:Bool}{id:Int}:Gj4 (Zo ns ids full id):=by
 unfold Zo
 exact fun hk=>dC (hk _ _ _ _) (dT (fun _=>hk _ _ _ _))
theorem q22{ns:List (Nd)}{ids:(Nd->Option (Int))}{full:Bool}{id:Int}{test:Int}:Gj5 (Zk ns ids full id test):=by
 unfold Zk q4b
 exact fun hk=>Uy fun _ _ _ _=>dC (dT (fun _=>dT (fun _=>hk _ _ _ _ _))) (hk _ _ _ _ _)
theorem z06{ns:List (Nd)}{ids:(Nd->Option (Int))}{full:Bool}{test:Int}{yes:Int}{no:Int}:Gj4 (Qw ns ids full test yes no):=by
 unfold Qw q50
 exact fun hk=>dC (hk _ _ _ _) (dC (hk _ _ _ _) (G5 fun _ _ _ _=>dC (G5 fun _ _ _ _=>dC (Uy fun _ _ _ _=>dC (hk _ _ _ _) (Uy fun _ _ _ _=>dC (hk _ _ _ _) (dC (hk _ _ _ _) (dC (hk _ _ _ _) (dI (dC (hk _ _ _ _) (dI (dA (dI (dA (hk _ _ _ _))))))))))) (hk _ _ _ _)) (hk _ _ _ _)))
theorem q1t{ι:Type}[Nonempty ι]{Xa Xb:Jv}{ns:List (Nd)}{ids:(Nd->Option (Int))}{full:Bool}{f:Int}{g:Int}{h:Int}{known:(A3->Option (Int))}{K:Int->List (Nd)->(Nd->Option (Int))->Bool->(A3->Option (Int))->Prop}{K2:ι->Int->List (Nd)->(Nd->Option (Int))->Bool->(A3->Option (Int))->Prop}(hX: ∀{ns:List (Nd)} {ids:(Nd->Option (Int))} {full:Bool} {f:Int} {g:Int} {h:Int} {known:(A3->Option (Int))} {K:Int->List (Nd)->(Nd->Option (Int))->Bool->(A3->Option (Int))->Prop} {K2:ι->Int->List (Nd)->(Nd->Option (Int))->Bool->(A3->Option (Int))->Prop},(∀r0 r1 r2 r3 r4,K r0 r1 r2 r3 r4-> ∃i,K2 i r0 r1 r2 r3 r4)->Xa ns ids full f g h known K-> ∃i,Xb ns ids full f g h known (K2 i))(hk: ∀r0 r1 r2 r3 r4,K r0 r1 r2 r3 r4-> ∃i,K2 i r0 r1 r2 r3 r4):Z8 Zo Zk Qw Xa ns ids full f g h known K-> ∃i,Z8 Zo Zk Qw Xb ns ids full f g h known (K2 i):=by
 unfold Z8
 exact dC (hk _ _ _ _ _) (dC (hk _ _ _ _ _) (dC (hk _ _ _ _ _) (dC (hk _ _ _ _ _) (Uy fun _ _ _ _=>Uy fun _ _ _ _=>Uy fun _ _ _ _=>q22 fun _ _ _ _ _=>q22 fun _ _ _ _ _=>q22 fun _ _ _ _ _=>hX fun _ _ _ _ _=>hX fun _ _ _ _ _=>Jn4.dj (fun _ _ _ _=>hk _ _ _ _ _) fun _ _ h1=>dC (h1 _ _ _ _) (dC (h1 _ _ _ _) (z06 fun _ _ _ _=>h1 _ _ _ _))))))
theorem z67{ns:List (Nd)}{ids:(Nd->Option (Int))}{full:Bool}{f:Int}{g:Int}{h:Int}{known:(A3->Option (Int))}{K:Int->List (Nd)->(Nd->Option (Int))->Bool->(A3->Option (Int))->Prop}(p:Z8 Zo Zk Qw Zu ns ids full f g h known K):Zu ns ids full f g h known K:=by
 intro X hX
 have hm: ∀{ns:List (Nd)} {ids:(Nd->Option (Int))} {full:Bool} {f:Int} {g:Int} {h:Int} {known:(A3->Option (Int))} {K:Int->List (Nd)->(Nd->Option (Int))->Bool->(A3->Option (Int))->Prop},Zu ns ids full f g h known K-> ∀{K2:Int->List (Nd)->(Nd->Option (Int))->Bool->(A3->Option (Int))->Prop},(∀r0 r1 r2 r3 r4,K r0 r1 r2 r3 r4->K2 r0 r1 r2 r3 r4)->X ns ids full f g h known K2:=by
  intro ns ids full f g h known K q K2 hk
  refine q (fun ns ids full f g h known K=> ∀K2:Int->List (Nd)->(Nd->Option (Int))->Bool->(A3->Option (Int))->Prop,(∀r0 r1 r2 r3 r4,K r0 r1 r2 r3 r4->K2 r0 r1 r2 r3 r4)->X ns ids full f g h known K2) (fun ns ids full f g h known K s K2 hk=> ?_) K2 hk
  obtain⟨_,t⟩:=q1t (ι:=Unit) (Xb:=X) (fun f q=>⟨(),q _ fun r0 r1 r2 r3 r4 k=>(f r0 r1 r2 r3 r4 k).elim fun _ z=>z⟩) (K2:=fun _=>K2) (fun r0 r1 r2 r3 r4 k=>⟨(),hk r0 r1 r2 r3 r4 k⟩) s
  exact hX ns ids full f g h known K2 t
 obtain⟨_,t⟩:=q1t (ι:=Unit) (Xb:=X) (fun f q=>⟨(),hm q fun r0 r1 r2 r3 r4 k=>(f r0 r1 r2 r3 r4 k).elim fun _ z=>z⟩) (K2:=fun _=>K) (fun _ _ _ _ _ k=>⟨(),k⟩) p
 exact hX ns ids full f g h known K t
theorem z68{ns:List (Nd)}{ids:(Nd->Option (Int))}{full:Bool}{f:Int}{g:Int}{h:Int}{known:(A3->Option (Int))}:Gj5 (Zu ns ids full f g h known):=by
 intro ι _ K K2 hk p
 refine p (fun ns ids full f g h known K=> ∀K2:ι->Int->List (Nd)->(Nd->Option (Int))->Bool->(A3->Option (Int))->Prop,(∀r0 r1 r2 r3 r4,K r0 r1 r2 r3 r4-> ∃i,K2 i r0 r1 r2 r3 r4)-> ∃i,Zu ns ids full f g h known (K2 i)) (fun ns ids full f g h known K s K2 hk=> ?_) K2 hk
 obtain⟨i,t⟩:=q1t (Xb:=Zu) (fun f q=>q _ f) hk s
 exact⟨i,z67 t⟩
theorem q1u{ns:List (Nd)}{ids:(Nd->Option (Int))}{full:Bool}{f:Int}{g:Int}{h:Int}:Gj4 (Jw ns ids full f g h):=by
 unfold Jw q2g
 exact fun hk=>H8 fun _ _ _ _=>dC (G5 fun _ _ _ _=>dC (G5 fun _ _ _ _=>dC (z68 fun _ _ _ _ _=>hk _ _ _ _) (hk _ _ _ _)) (hk _ _ _ _)) (hk _ _ _ _)
theorem j3t{ns:List (Nd)}{ids:(Nd->Option (Int))}{full:Bool}{f:Int}:Gj4 (Jh ns ids full f):=by
 unfold Jh q71
 exact fun hk=>q1u fun _ _ _ _=>hk _ _ _ _
theorem j3u{ns:List (Nd)}{ids:(Nd->Option (Int))}{full:Bool}{f:Int}{g:Int}:Gj4 (Ji ns ids full f g):=by
 unfold Ji q72
 exact fun hk=>H8 fun _ _ _ _=>dC (q1u fun _ _ _ _=>hk _ _ _ _) (hk _ _ _ _)
theorem z4o{ns:List (Nd)}{ids:(Nd->Option (Int))}{full:Bool}{f:Int}{g:Int}:Gj4 (Jn ns ids full f g):=by
 unfold Jn q9q
 exact fun hk=>H8 fun _ _ _ _=>dC (q1u fun _ _ _ _=>hk _ _ _ _) (hk _ _ _ _)
theorem q4l{ι:Type}[Nonempty ι]{Xa Xb:Wl}{ns:List (Nd)}{ids:(Nd->Option (Int))}{full:Bool}{atoms:List (Ex)}{e:Ex}{K:Int->List (Nd)->(Nd->Option (Int))->Bool->Prop}{K2:ι->Int->List (Nd)->(Nd->Option (Int))->Bool->Prop}(hX: ∀{ns:List (Nd)} {ids:(Nd->Option (Int))} {full:Bool} {atoms:List (Ex)} {e:Ex} {K:Int->List (Nd)->(Nd->Option (Int))->Bool->Prop} {K2:ι->Int->List (Nd)->(Nd->Option (Int))->Bool->Prop},(∀r0 r1 r2 r3,K r0 r1 r2 r3-> ∃i,K2 i r0 r1 r2 r3)->Xa ns ids full atoms e K-> ∃i,Xb ns ids full atoms e (K2 i))(hk: ∀r0 r1 r2 r3,K r0 r1 r2 r3-> ∃i,K2 i r0 r1 r2 r3):Vi Jh Ji Jn Zx Qw Xa ns ids full atoms e K-> ∃i,Vi Jh Ji Jn Zx Qw Xb ns ids full atoms e (K2 i):=by
 unfold Vi
 exact dC (hk _ _ _ _) (dC (dA (dO fun _=>hX fun _ _ _ _=>j3t fun _ _ _ _=>hk _ _ _ _)) (Jn1.dj (fun _=>dC (dA (dO fun _=>hX fun _ _ _ _=>Lp5.dj fun _ _ _ _ _ _ _ h1=>dI (dC (dT (fun _=>hX fun _ _ _ _=>dC (j3u fun _ _ _ _=>dA (h1 _ _ _ _ _)) (z4o fun _ _ _ _=>dA (h1 _ _ _ _ _)))) (hk _ _ _ _)))) (z2u fun _=>dC (hk _ _ _ _) (z06 fun _ _ _ _=>hk _ _ _ _))) fun _ _ h2=>dC (h2 _) (h2 _)))
theorem j0f{ns:List (Nd)}{ids:(Nd->Option (Int))}{full:Bool}{atoms:List (Ex)}{e:Ex}{K:Int->List (Nd)->(Nd->Option (Int))->Bool->Prop}(p:Vi Jh Ji Jn Zx Qw Jj ns ids full atoms e K):Jj ns ids full atoms e K:=by
 intro X hX
 have hm: ∀{ns:List (Nd)} {ids:(Nd->Option (Int))} {full:Bool} {atoms:List (Ex)} {e:Ex} {K:Int->List (Nd)->(Nd->Option (Int))->Bool->Prop},Jj ns ids full atoms e K-> ∀{K2:Int->List (Nd)->(Nd->Option (Int))->Bool->Prop},(∀r0 r1 r2 r3,K r0 r1 r2 r3->K2 r0 r1 r2 r3)->X ns ids full atoms e K2:=by
  intro ns ids full atoms e K q K2 hk
  refine q (fun ns ids full atoms e K=> ∀K2:Int->List (Nd)->(Nd->Option (Int))->Bool->Prop,(∀r0 r1 r2 r3,K r0 r1 r2 r3->K2 r0 r1 r2 r3)->X ns ids full atoms e K2) (fun ns ids full atoms e K s K2 hk=> ?_) K2 hk
  obtain⟨_,t⟩:=q4l (ι:=Unit) (Xb:=X) (fun f q=>⟨(),q _ fun r0 r1 r2 r3 k=>(f r0 r1 r2 r3 k).elim fun _ z=>z⟩) (K2:=fun _=>K2) (fun r0 r1 r2 r3 k=>⟨(),hk r0 r1 r2 r3 k⟩) s
  exact hX ns ids full atoms e K2 t
 obtain⟨_,t⟩:=q4l (ι:=Unit) (Xb:=X) (fun f q=>⟨(),hm q fun r0 r1 r2 r3 k=>(f r0 r1 r2 r3 k).elim fun _ z=>z⟩) (K2:=fun _=>K) (fun _ _ _ _ k=>⟨(),k⟩) p
 exact hX ns ids full atoms e K t
theorem j0g{ns:List (Nd)}{ids:(Nd->Option (Int))}{full:Bool}{atoms:List (Ex)}{e:Ex}:Gj4 (Jj ns ids full atoms e):=by
 intro ι _ K K2 hk p
 refine p (fun ns ids full atoms e K=> ∀K2:ι->Int->List (Nd)->(Nd->Option (Int))->Bool->Prop,(∀r0 r1 r2 r3,K r0 r1 r2 r3-> ∃i,K2 i r0 r1 r2 r3)-> ∃i,Jj ns ids full atoms e (K2 i)) (fun ns ids full atoms e K s K2 hk=> ?_) K2 hk
 obtain⟨i,t⟩:=q4l (Xb:=Jj) (fun f q=>q _ f) hk s
 exact⟨i,j0f t⟩
theorem z69{l:List (Rul)}:Gj3 (Zv l):=by
 unfold Zv Re
 exact fun hk=>w65 fun _ _ _=>j0e fun _=>LpH.dj fun _ _ _ h1=>dI (dC (dT (fun _=>j0g fun _ _ _ _=>z4o fun _ _ _ _=>dC (dI (hk _ _ _)) (dC (dA (dA (dA (h1 _)))) (dA (h1 _))))) (dI (hk _ _ _)))
end Go.En
end
noncomputable section
set_option maxRecDepth 100000
namespace Go.En
open Go Go.Fl Go.Fl.Lk Go.Fx
def fof(v:Envt)(key:ByteArray):Option Flg:=v.4.find? fun f=>decide (f.1=key)
end Go.En
end
noncomputable section
set_option maxRecDepth 100000
namespace Go.En
open Go Go.Fl Go.Fl.Lk Go.Fx Go.Dg
open Classical in
def pick{β:Type}[Inhabited β](P:(β->Prop)->Prop):β:=if h: ∃c,∀K:β->Prop,K c->P K then Classical.choose h else default
theorem z2v{β:Type}[Inhabited β]{P:(β->Prop)->Prop}(h: ∃c,∀K:β->Prop,K c->P K){K:β->Prop}(hK:K (pick P)):P K:=by
 unfold pick at hK
 rw[dif_pos h] at hK
 exact Classical.choose_spec h K hK
open Classical in
def v3s{β:Type}[Inhabited β](Q:β->Prop)(P:(β->Prop)->Prop):β:=if h: ∃c,Q c/\ ∀K:β->Prop,K c->P K then Classical.choose h else default
theorem v3t{β:Type}[Inhabited β]{Q:β->Prop}{P:(β->Prop)->Prop}(h: ∃c,Q c/\ ∀K:β->Prop,K c->P K){K:β->Prop}(hK:Q (v3s Q P)->K (v3s Q P)):P K:=by
 unfold v3s at hK
 rw[dif_pos h] at hK
 exact (Classical.choose_spec h).2 K (hK (Classical.choose_spec h).1)
open Classical in
def w67(P:(Int->Prop)->Prop):Int:=if ∀K:Int->Prop,K 0->P K then 0 else pick P
theorem w48{P:(Int->Prop)->Prop}(h: ∃c,∀K:Int->Prop,K c->P K){K:Int->Prop}(hK:K (w67 P)):P K:=by
 unfold w67 at hK
 split at hK
 ·rename_i hz;exact hz K hK
 ·exact z2v h hK
theorem j6d{P:(Int->Prop)->Prop}(h: ∀K:Int->Prop,K 0->P K):w67 P=0:=by
 unfold w67;rw[if_pos h]
theorem z7a{β:Type}[Inhabited β]{P:(β->Prop)->Prop}(g:Gj1 P)(t:P fun _=>True): ∃c,∀K:β->Prop,K c->P K:=by
 obtain⟨c,hc⟩:=g (ι:=β) (K2:=fun i r=>r=i) (fun r _=>⟨r,rfl⟩) t
 refine⟨c,fun K hK=> ?_⟩
 obtain⟨_,k⟩:=g (ι:=Unit) (K2:=fun _=>K) (fun r e=>⟨(),by rw[e];exact hK⟩) hc
 exact k
def sE(s:Sett):Int:=pick (V2 s)
theorem y1k{s:Sett}{K:Int->Prop}(hs:s.holdoutKind.size<=1000)(h:K (sE s)):V2 s K:=z2v (z7a j4r (z4j hs fun _=>trivial)) h
def dE(l:List Decl):Int:=pick (V3 l)
theorem y1l{l:List Decl}{K:Int->Prop}(hl: ∀d∈l,d.kind.size<=1000/\d.name.size<=1000)(h:K (dE l)):V3 l K:=z2v (z7a j4s (z4k hl fun _=>trivial)) h
def gE(l:List Seg):Int:=pick (V4 l)
theorem y1m{l:List Seg}{K:Int->Prop}(hl: ∀g∈l,SegS g)(h:K (gE l)):V4 l K:=z2v (z7a j4t (z4l hl fun _=>trivial)) h
def lE(l:List Lay_):Int:=w67 (Wz l)
theorem v9r{l:List Lay_}{K:Int->Prop}(hl: ∀g∈l,LayS g)(h:K (lE l)):Wz l K:=w48 (z7a z9n (z9i hl fun _=>trivial)) h
def fE(f:Flg):Int:=pick (q3x f)
theorem y1n{f:Flg}{K:Int->Prop}(hf:FlgS f)(h:K (fE f)):q3x f K:=z2v (z7a w62 (j5x hf fun _=>trivial)) h
def xE(x:Exper):Int:=w67 (Jk x)
theorem v9s{x:Exper}{K:Int->Prop}(hx:ExpS x)(h:K (xE x)):Jk x K:=w48 (z7a z05 (z04 hx fun _=>trivial)) h
def eE(l:List Decl)(ks:List ByteArray)(e:Ex):Int:=pick (V6 l ks e)
theorem v7h{l:List Decl}{ks:List ByteArray}{e:Ex}{n:Nat}{K:Int->Prop}(he:ExS n e)(h:K (eE l ks e)):V6 l ks e K:=z2v (z7a w64 (z3u n he fun _=>trivial)) h
def vE(l:List Decl)(s:Srv):Int:=pick (q0f l s)
theorem v9t{l:List Decl}{s:Srv}{K:Int->Prop}(h:K (vE l s)):q0f l s K:=z2v (z7a w3l (z5k fun _=>trivial)) h
def cE(l:List Seg)(ks:List ByteArray):List Edg×ByteArray×Bool:=v3s (fun c=>c.2.1.size<=100) fun K=>Vk l fun es=>Z5 ks es fun s b=>K (es,s,b)
theorem y1o{l:List Seg}{ks:List ByteArray}{K:List Edg->ByteArray->Bool->Prop}(hl:l.length<=100)(hg: ∀g∈l,SegS g)(hN:ks.length<=100000)(hs: ∀x∈ks,x.size<=100)(h:(cE l ks).2.1.size<=100->K (cE l ks).1 (cE l ks).2.1 (cE l ks).2.2):Vk l fun es=>Z5 ks es (K es):=by
 have t0:Vk l fun es=>Z5 ks es fun s _=>s.size<=100:=z9k hl hg fun es hes=>q7q hN hes hs fun s _ h=>h
 have o: ∃c:List Edg×ByteArray×Bool,c.2.1.size<=100/\ ∀K:List Edg×ByteArray×Bool->Prop,K c->Vk l fun es=>Z5 ks es fun s b=>K (es,s,b):=by
  obtain⟨c,hc⟩:=z2s (ι:=List Edg×ByteArray×Bool) (K2:=fun i es=>Z5 ks es fun s b=>(es,s,b)=i/\s.size<=100) (fun es p=>z2t (K2:=fun i s b=>(es,s,b)=i/\s.size<=100) (fun s b k=>⟨(es,s,b),rfl,k⟩) p) t0
  by_cases hsz:c.2.1.size<=100
  ·refine⟨c,hsz,fun K hK=> ?_⟩
   obtain⟨_,k⟩:=z2s (ι:=Unit) (K2:=fun _ es=>Z5 ks es fun s b=>K (es,s,b)) (fun es p=>z2t (K2:=fun _ s b=>K (es,s,b)) (fun s b k=>⟨(),by rw[k.1];exact hK⟩) p) hc
   exact k
  ·refine⟨([],ByteArray.mk (Array.mk []),false),Nat.zero_le _,fun K _=> ?_⟩
   obtain⟨_,k⟩:=z2s (ι:=Unit) (K2:=fun _ es=>Z5 ks es fun s b=>K (es,s,b)) (fun es p=>z2t (K2:=fun _ s b=>K (es,s,b)) (fun s b k=>absurd (by rw[←k.1];exact k.2) hsz) p) hc
   exact k
 exact v3t (P:=fun K=>Vk l fun es=>Z5 ks es fun s b=>K (es,s,b)) o (K:=fun q=>K q.1 q.2.1 q.2.2) h
def uE(l:List Rul):List Int×Int×Bool:=pick fun K=>Zv l fun o n b=>K (o,n,b)
theorem y1p{l:List Rul}{K:List Int->Int->Bool->Prop}(hl:l.length<=100)(hr: ∀r∈l,ExS 4 r.cond)(h:K (uE l).1 (uE l).2.1 (uE l).2.2):Zv l K:=
 z2v (P:=fun K=>Zv l fun o n b=>K (o,n,b)) (z7a (fun h p=>z69 (fun o n b k=>h (o,n,b) k) p) (q1s hl hr fun _ _ _ _=>trivial)) (K:=fun q=>K q.1 q.2.1 q.2.2) h
def j3v{α:Type}(k:α->ByteArray)(l:List α):Prop:= ∀(i:Nat) a b,l[i]? =some a->l[i+1]? =some b->Lk.blt (k a) (k b)
theorem w3n{l:List Flg}{K:Int->Prop}(hl: ∀f∈l,FlgS f)(h0:(∀f∈l,fE f=0)->K 0)(h1: ∀e,e≠0-> ¬((∀f∈l,fE f=0)/\l.length<=30/\j3v Flg.key l)->K e):q5o l K:=by
 unfold q5o z3m
 refine fun _=>Cnd.mk (fun hc=>h1 _ (by decide) fun h=>by have:=h.2.1;omega) fun hc=> ?_
 refine Lp1.ind (fun (i:Int)=> ∃j:Nat,i=(j:Int)/\j<=l.length/\ ∀(m:Nat) f,m<j->l[m]? =some f->fE f=0) (fun (i:Int)=>(l.length - i).toNat) ?_ ⟨0,rfl,by omega,fun m f hm=>by omega⟩
 rintro i ⟨j,rfl,hj,hall⟩ _
 refine Cnd.mk (fun hc=>⟨by omega,fun y hy=> ?_⟩) fun hc=>h0 fun f hf=> ?_
 ·have hy:l[j]? =some y:=hy
  refine y1n (hl y (getm hy)) (Cnd.mk (fun he=> ?_) fun he=>h1 _ he fun h=>he (h.1 y (getm hy)))
  have next:InI ((j:Int)+1)/\(∃j':Nat,(j:Int)+1=(j':Int)/\j'<=l.length/\ ∀(m:Nat) f,m<j'->l[m]? =some f->fE f=0)/\(l.length - ((j:Int)+1)).toNat<(l.length - (j:Int)).toNat:=⟨by unfold InI;omega,⟨j+1,by omega,by omega,fun m f hm hf=>by
   rcases Nat.lt_or_ge m j with h1|h1
   ·exact hall m f h1 hf
   ·rw[show m=j by omega] at hf
    rw[hy] at hf;cases hf;exact he⟩,by omega⟩
  refine Cnd.mk (fun hp=>⟨by omega,fun y2 hy2=>⟨by unfold InI;omega,by omega,fun z hz=>Cnd.mk (fun _=>next) fun hb=>h1 _ (by decide) fun h=>hb ?_⟩⟩) fun _=>next
  have hy2:l[j]? =some y2:=hy2
  have hz:l[j - 1]? =some z:=by rw[show ((j:Int) - 1).toNat=j - 1 by omega] at hz;exact hz
  exact h.2.2 (j - 1) z y2 hz (by rw[show j - 1+1=j by omega];exact hy2)
 ·obtain⟨m,hm⟩:=List.mem_iff_getElem?.1 hf
  exact hall m f (by have:=Qa hm;omega) hm
theorem z82{l:List Exper}{K:Int->Prop}(hl: ∀f∈l,ExpS f)(h0:(∀f∈l,xE f=0)->K 0)(h1: ∀e,e≠0-> ¬((∀f∈l,xE f=0)/\l.length<=16/\j3v Exper.key l)->K e):Vu l K:=by
 unfold Vu Bi
 refine fun _=>Cnd.mk (fun hc=>h1 _ (by decide) fun h=>by have:=h.2.1;omega) fun hc=> ?_
 refine Lp1.ind (fun (i:Int)=> ∃j:Nat,i=(j:Int)/\j<=l.length/\ ∀(m:Nat) f,m<j->l[m]? =some f->xE f=0) (fun (i:Int)=>(l.length - i).toNat) ?_ ⟨0,rfl,by omega,fun m f hm=>by omega⟩
 rintro i ⟨j,rfl,hj,hall⟩ _
 refine Cnd.mk (fun hc=>⟨by omega,fun y hy=> ?_⟩) fun hc=>h0 fun f hf=> ?_
 ·have hy:l[j]? =some y:=hy
  dsimp only;rw[Wg]
  refine v9s (hl y (getm hy)) (Cnd.mk (fun he=> ?_) fun he=>h1 _ he fun h=>he (h.1 y (getm hy)))
  have next:InI ((j:Int)+1)/\(∃j':Nat,(j:Int)+1=(j':Int)/\j'<=l.length/\ ∀(m:Nat) f,m<j'->l[m]? =some f->xE f=0)/\(l.length - ((j:Int)+1)).toNat<(l.length - (j:Int)).toNat:=⟨by unfold InI;omega,⟨j+1,by omega,by omega,fun m f hm hf=>by
   rcases Nat.lt_or_ge m j with h1|h1
   ·exact hall m f h1 hf
   ·rw[show m=j by omega] at hf
    rw[hy] at hf;cases hf;exact he⟩,by omega⟩
  refine Cnd.mk (fun hp=>⟨by omega,fun y2 hy2=>⟨by unfold InI;omega,by omega,fun z hz=>Cnd.mk (fun _=>next) fun hb=>h1 _ (by decide) fun h=>hb ?_⟩⟩) fun _=>next
  have hy2:l[j]? =some y2:=hy2
  have hz:l[j - 1]? =some z:=by rw[show ((j:Int) - 1).toNat=j - 1 by omega] at hz;exact hz
  exact h.2.2 (j - 1) z y2 hz (by rw[show j - 1+1=j by omega];exact hy2)
 ·obtain⟨m,hm⟩:=List.mem_iff_getElem?.1 hf
  exact hall m f (by have:=Qa hm;omega) hm
structure R6Ok(v:Envt):Prop where
 s:sE v.1=0
 d:dE v.2=0
 g:gE v.3=0
 f: ∀f∈v.4,fE f=0
 l:lE v.5=0
 x: ∀x∈v.6,xE x=0
theorem z83{v:Envt}{K:Int->Prop}(hv:EnvS v)(h0:R6Ok v->K 0)(h1: ∀e,e≠0-> ¬(R6Ok v/\j3v Flg.key v.4/\j3v Exper.key v.6)->K e):Vv v K:=by
 unfold Vv Bj
 have hf:=hv.flen
 have hx:=hv.xlen
 refine y1k (show v.settings.holdoutKind.size<=1000 by have:=hv.hkind;omega) (Cnd.mk (fun e1=>y1l (fun d hd=>by have:=hv.attrs d hd;omega) (Cnd.mk (fun e2=>y1m hv.segs (Cnd.mk (fun e3=>w3n hv.flags (fun e4=>Cnd.yes rfl (v9r hv.layers (Cnd.mk (fun e5=>z82 hv.exps (fun e6=>h0 ⟨e1,e2,e3,e4,e5,e6⟩) fun e he hn=>h1 e he fun h=>hn ⟨h.1.x,by omega,h.2.2⟩) fun he=>h1 _ he fun h=>he h.1.l))) fun e he hn=>Cnd.no he (h1 e he fun h=>hn ⟨h.1.f,by omega,h.2.1⟩)) fun he=>h1 _ he fun h=>he h.1.g)) fun he=>h1 _ he fun h=>he h.1.d)) fun he=>h1 _ he fun h=>he h.1.s)
end Go.En
end
noncomputable section
set_option maxRecDepth 100000
namespace Go.En
open Go Go.Fl Go.Fl.Lk Go.Fx Go.Dg
theorem w68{α:Type}{l:List α}{p:α->Bool}{j:Nat}{x:α}(hx:l[j]? =some x)(hp:p x=true)(hn: ∀y∈l.take j,p y=false):l.find? p=some x:=by
 have e:l=l.take j++l.drop j:=(List.take_append_drop j l).symm
 rw[e,List.find?_append,List.find?_eq_none.2 (fun y hy=>by rw[hn y hy];simp),Option.none_or]
 exact j7p hx hp
theorem j8e{α:Type}{l:List α}{f:α->ByteArray}{key:ByteArray}{r:Int}(h:PlcS l f key r):(r<0/\l.find? (fun x=>decide (f x=key))=none)∨ ∃(j:Nat) (g:α),r=(j:Int)/\l[j]? =some g/\l.find? (fun x=>decide (f x=key))=some g:=by
 rcases h with ⟨rfl,h⟩|⟨h0,h1,⟨x,hx,e⟩,h2⟩
 ·exact .inl ⟨by decide,List.find?_eq_none.2 fun x hx=>by simpa using h x hx⟩
 ·exact .inr ⟨r.toNat,x,by omega,hx,w68 hx (dt e) fun y hy=>df (h2 y hy)⟩
def NdOk(v:Envt)(f:Flg):Prop:= ∀p∈f.6,∃g,fof v p.1=some g/\p.2<=(g.3.length:Int)
structure LeOk(ds:List Decl)(ks:List ByteArray)(f:Flg):Prop where
 r: ∀r∈f.8,eE ds ks r.2=0/\vE ds r.3=0
 d:vE ds f.9=0
 u:(uE f.8).2.2=true
 l:(uE f.8).1.length=0
theorem j0h{v:Envt}{f:Flg}{K:Int->Prop}(hv:EnvS v)(hf:FlgS f)(h0:NdOk v f->LeOk v.2 (v.3.map Seg.key) f->K 0)(h1: ∀e,e≠0-> ¬(NdOk v f/\LeOk v.2 (v.3.map Seg.key) f)->K e):Ur v f K:=by
 unfold Ur q06
 have ev:Envt.mk (Sett.mk v.1.1 v.1.2 v.1.3) v.2 v.3 v.4 v.5 v.6=v:=rfl
 rw[ev]
 have hsl:=hv.slen
 have hrl:=hf.rlen
 refine q2y (by omega) ?_
 refine Lp2.ind (fun (i:Int) (ks:List ByteArray)=> ∃j:Nat,i=(j:Int)/\j<=f.needs.length/\ks=v.3.map Seg.key/\ ∀(m:Nat) p,m<j->f.6[m]? =some p-> ∃g,fof v p.1=some g/\p.2<=(g.3.length:Int)) (fun (i:Int) _=>(f.needs.length - i).toNat) ?_ ⟨0,rfl,by omega,rfl,fun m p hm=>by omega⟩
 rintro i ks ⟨j,rfl,hj,rfl,hall⟩ _
 refine Cnd.mk (fun hc=>⟨by omega,fun q hq=>q5a fun r hr=> ?_⟩) fun hc=> ?_
 ·have hq:f.6[j]? =some q:=hq
  rcases j8e hr with ⟨hn,hno⟩|⟨k,g,rfl,hg,hfo⟩
  ·refine Cnd.yes hn (h1 _ (by decide) fun h=> ?_)
   obtain⟨g,hg,_⟩:=h.1 q (getm hq)
   have hg:v.flags.find? (fun x=>decide (x.key=q.1))=some g:=hg
   rw[hno] at hg;cases hg
  ·have hlt:=Qa hg
   refine Cnd.no (by omega) ⟨by omega,fun q2 hq2=>⟨by omega,fun g2 hg2 _=> ?_⟩⟩
   have hq2:f.6[j]? =some q2:=hq2
   have hg2:v.4[k]? =some g2:=hg2
   rw[hq] at hq2;cases hq2
   rw[hg] at hg2;cases hg2
   refine Cnd.mk (fun hlt2=>h1 _ (by decide) fun h=> ?_) fun hge=>⟨by unfold InI;omega,⟨j+1,by omega,by omega,rfl,fun m p hm hp=> ?_⟩,by omega⟩
   ·obtain⟨g2,hg2,hle⟩:=h.1 q (getm hq)
    have hg2:v.flags.find? (fun x=>decide (x.key=q.1))=some g2:=hg2
    rw[hfo] at hg2;cases hg2
    omega
   ·rcases Nat.lt_or_ge m j with hmj|hmj
    ·exact hall m p hmj hp
    ·rw[show m=j by omega] at hp
     rw[hq] at hp;cases hp
     exact⟨g,hfo,by omega⟩
 have hnd:NdOk v f:=fun p hp=>by
  obtain⟨m,hm⟩:=List.mem_iff_getElem?.1 hp
  exact hall m p (by have:=Qa hm;omega) hm
 clear hc hall hj j
 refine Lp2.ind (fun (i:Int) (ks:List ByteArray)=> ∃j:Nat,i=(j:Int)/\j<=f.rules.length/\ks=v.3.map Seg.key/\ ∀(m:Nat) r,m<j->f.8[m]? =some r->eE v.2 (v.3.map Seg.key) r.2=0/\vE v.2 r.3=0) (fun (i:Int) _=>(f.rules.length - i).toNat) ?_ ⟨0,rfl,by omega,rfl,fun m p hm=>by omega⟩
 rintro i ks ⟨j,rfl,hj,rfl,hall⟩ _
 refine Cnd.mk (fun hc=>⟨by omega,fun r hr=> ?_⟩) fun hc=> ?_
 ·have hr:f.8[j]? =some r:=hr
  dsimp only;rw[Wg]
  refine v7h (n:=4) (hf.rules r (getm hr)).cond (Cnd.mk (fun he=>⟨by omega,fun r2 hr2=>v9t (Cnd.mk (fun hs=>⟨by unfold InI;omega,⟨j+1,by omega,by omega,rfl,fun m p hm hp=> ?_⟩,by omega⟩) fun hs=>h1 _ hs fun h=> ?_)⟩) fun he=>h1 _ he fun h=>he (h.2.r r (getm hr)).1)
  ·have hr2:f.8[j]? =some r2:=hr2
   rw[hr] at hr2;cases hr2
   rcases Nat.lt_or_ge m j with hmj|hmj
   ·exact hall m p hmj hp
   ·rw[show m=j by omega] at hp
    rw[hr] at hp;cases hp
    exact⟨he,hs⟩
  ·have hr2:f.8[j]? =some r2:=hr2
   exact hs (h.2.r r2 (getm hr2)).2
 ·refine v9t (Cnd.mk (fun hd=>y1p (by omega) (fun r hr=>(hf.rules r hr).cond) (Cnd.mk (fun hu=>fun _=>Cnd.mk (fun hl=>h1 _ (by decide) fun h=>by have:=h.2.l;omega) fun hl=>h0 hnd ⟨fun r hr=> ?_,hd,hu,by omega⟩) fun hu=>h1 _ (by decide) fun h=>hu h.2.u)) fun hd=>h1 _ hd fun h=>hd h.2.d)
  obtain⟨m,hm⟩:=List.mem_iff_getElem?.1 hr
  exact hall m r (by have:=Qa hm;omega) hm
structure XeOk(v:Envt)(i:Nat)(x:Exper):Prop where
 l:(lof v x.2).isSome=true
 f: ∃g,fof v x.3=some g/\ ∀a∈x.7,a.3<=(g.3.length:Int)
 e:eE v.2 (v.3.map Seg.key) x.8=0
 c:x.5=3∨(∀l,lof v x.2=some l-> ∀q,0<=q->q<10000->insV x.6 q=true-> ¬q<l.4/\ ∀(j:Nat) y,j<i->v.6[j]? =some y->y.2=x.2->y.5≠3-> ¬insV y.6 q=true)/\(x.5=2-> ∀(j:Nat) y,j<i->v.6[j]? =some y->y.5=2->y.3=x.3->y.2=x.2)
theorem z08{v:Envt}{i:Nat}{x:Exper}{K:Int->Prop}(hv:EnvS v)(hx:v.6[i]? =some x)(h0:XeOk v i x->K 0)(h1: ∀e,e≠0-> ¬XeOk v i x->K e):Jy v (i:Int) K:=by
 unfold Jy V7
 have ev:Envt.mk (Sett.mk v.1.1 v.1.2 v.1.3) v.2 v.3 v.4 v.5 v.6=v:=rfl
 rw[ev]
 have hsl:=hv.slen
 have hxl:=hv.xlen
 have him:=Qa hx
 have hX:=hv.exps x (getm hx)
 refine⟨⟨by omega,by omega⟩,fun x' hx'=> ?_⟩
 have hx':v.6[i]? =some x':=hx'
 rw[hx] at hx';cases hx'
 refine q3h fun k hk=>q5a fun g hg=> ?_
 rcases j8e hk with ⟨hk0,hno⟩|⟨k,l,rfl,hl,hlo⟩
 ·refine Cnd.yes hk0 (h1 _ (by decide) fun h=> ?_)
  have:=h.l
  have e:lof v x.2=none:=hno
  rw[e] at this;cases this
 have hlo:lof v x.2=some l:=hlo
 refine Cnd.no (by omega) ?_
 rcases j8e hg with ⟨hg0,hno⟩|⟨g,y,rfl,hy,hfo⟩
 ·refine Cnd.yes hg0 (h1 _ (by decide) fun h=> ?_)
  obtain⟨y,hy,_⟩:=h.f
  have e:fof v x.3=none:=hno
  rw[e] at hy;cases hy
 have hfo:fof v x.3=some y:=hfo
 have hkl:=Qa hl
 have hgl:=Qa hy
 refine Cnd.no (by omega) ?_
 refine Lp1.ind (fun (j:Int)=> ∃m:Nat,j=(m:Int)/\m<=x.7.length/\ ∀(n:Nat) a,n<m->x.7[n]? =some a->a.3<=(y.3.length:Int)) (fun (j:Int)=>(x.7.length - j).toNat) ?_ ⟨0,rfl,by omega,fun n a hn=>by omega⟩
 rintro j ⟨m,rfl,hm,hall⟩ _
 refine Cnd.mk (fun hc=>⟨by omega,fun a ha=>⟨by omega,fun y2 hy2 _=> ?_⟩⟩) fun hc=> ?_
 ·have ha:x.7[m]? =some a:=ha
  have hy2:v.4[g]? =some y2:=hy2
  rw[hy] at hy2;cases hy2
  refine Cnd.mk (fun hlt=>h1 _ (by decide) fun h=> ?_) fun hge=>⟨by unfold InI;omega,⟨m+1,by omega,by omega,fun n b hn hb=> ?_⟩,by omega⟩
  ·obtain⟨y2,hy2,hle⟩:=h.f
   rw[hfo] at hy2;cases hy2
   have:=hle a (getm ha);omega
  ·rcases Nat.lt_or_ge n m with hnm|hnm
   ·exact hall n b hnm hb
   ·rw[show n=m by omega] at hb
    rw[ha] at hb;cases hb;omega
 have harm: ∃g,fof v x.3=some g/\ ∀a∈x.7,a.3<=(g.3.length:Int):=⟨y,hfo,fun a ha=>by
  obtain⟨n,hn⟩:=List.mem_iff_getElem?.1 ha
  exact hall n a (by have:=Qa hn;omega) hn⟩
 clear hc hall hm m
 refine q2y (by omega) ?_
 rw[Wg]
 refine v7h (n:=4) hX.cond (Cnd.mk (fun he=>Cnd.mk (fun h3=>h0 ⟨by rw[hlo];rfl,harm,he,.inl h3⟩) fun h3=>⟨by omega,fun l2 hl2=> ?_⟩) fun he=>h1 _ he fun h=>he h.e)
 have hl2:v.5[k]? =some l2:=hl2
 rw[hl] at hl2;cases hl2
 refine Lp3.ind (fun (t:List Spn) (j:Int) (_:List ByteArray)=> ∃k:Nat,j=(k:Int)/\k<=i/\(t.length:Int)<=1+j*10000/\ ∀q,insV t q=true↔(0<=q/\q<l.4)∨ ∃(m:Nat) (y:Exper),m<k/\v.6[m]? =some y/\y.2=x.2/\y.5≠3/\insV y.6 q=true) (fun _ (j:Int) _=>(i - j).toNat) ?_ ⟨0,rfl,by omega,by simp,fun q=> ?_⟩
 rotate_left
 ·rw[j00];simp
 rintro t j ks ⟨k,rfl,hk2,ht,htk⟩
 refine Cnd.mk (fun hc=>⟨by omega,fun y hy=> ?_⟩) fun hge=>j3j (by have:=hX.claims.len;omega) (by omega) fun c hcs _=> ?_
 ·have hcl:=(hv.exps y (getm hy)).claims.len
  have hy:v.6[k]? =some y:=hy
  have next: ∀{t':List Spn},(t'.length:Int)<=1+((k:Int)+1)*10000->(∀q,insV t' q=true↔insV t q=true∨(y.2=x.2/\y.5≠3/\insV y.6 q=true))->InI ((k:Int)+1)/\(∃k':Nat,(k:Int)+1=(k':Int)/\k'<=i/\(t'.length:Int)<=1+((k:Int)+1)*10000/\ ∀q,insV t' q=true↔(0<=q/\q<l.4)∨ ∃(m:Nat) (y:Exper),m<k'/\v.6[m]? =some y/\y.2=x.2/\y.5≠3/\insV y.6 q=true)/\(i - ((k:Int)+1)).toNat<(i - (k:Int)).toNat:=fun {t'} n1 n2=>⟨by unfold InI;omega,⟨k+1,by omega,by omega,n1,fun q=>by
   rw[n2,htk]
   constructor
   ·rintro ((h|⟨m,z,hm,hz⟩)|h)
    ·exact .inl h
    ·exact .inr ⟨m,z,by omega,hz⟩
    ·exact .inr ⟨k,y,by omega,hy,h⟩
   ·rintro (h|⟨m,z,hm,hz,h⟩)
    ·exact .inl (.inl h)
    ·rcases Nat.lt_or_ge m k with hmk|hmk
     ·exact .inl (.inr ⟨m,z,hmk,hz,h⟩)
     ·rw[show m=k by omega,hy] at hz
      cases hz;exact .inr h⟩,by omega⟩
  exact Cnd.mk (fun k1=>Cnd.mk (fun k2=>next (by omega) fun q=>⟨.inl,fun h=>h.elim id fun h=>absurd k2 h.2.1⟩) fun k2=>⟨by unfold Sml;simp;omega,next (by simp;omega) fun q=>by rw[q20,Bool.or_eq_true];exact⟨fun h=>h.elim .inl fun h=> .inr ⟨k1,k2,h⟩,fun h=>h.elim .inl fun h=> .inr h.2.2⟩⟩) fun k1=>next (by omega) fun q=>⟨.inl,fun h=>h.elim id fun h=>absurd h.1 k1⟩
 have hki:k=i:=by omega
 subst hki
 refine Cnd.mk (fun hpos=>h1 _ (by decide) fun h=> ?_) fun hno=> ?_
 ·obtain⟨q,q0,q1,hq1,hq2⟩:=hcs.nonempty.1 (by omega)
  obtain⟨h,_⟩:=h.c.resolve_left h3
  obtain⟨h4,h5⟩:=h l hlo q q0 q1 hq1
  rcases (htk q).1 hq2 with hh|⟨m,z,hm,hz,e2,e5,hi⟩
  ·exact h4 hh.2
  ·exact h5 m z hm hz e2 e5 hi
 have hcl: ∀l',lof v x.2=some l'-> ∀q,0<=q->q<10000->insV x.6 q=true-> ¬q<l'.4/\ ∀(j:Nat) y,j<k->v.6[j]? =some y->y.2=x.2->y.5≠3-> ¬insV y.6 q=true:=fun l' hl' q q0 q1 hq=>by
  rw[hlo] at hl';cases hl'
  have no: ¬insV t q=true:=fun ht=>hno (by have:=hcs.nonempty.2 ⟨q,q0,q1,hq,ht⟩;omega)
  exact⟨fun hlt=>no ((htk q).2 (.inl ⟨q0,hlt⟩)),fun j y hj hy e2 e5 hi=>no ((htk q).2 (.inr ⟨j,y,hj,hy,e2,e5,hi⟩))⟩
 refine Lp4.ind (fun (j:Int) (_ _:List Spn) (_:List ByteArray)=> ∃m:Nat,j=(m:Int)/\m<=k/\ ∀(n:Nat) y,n<m->v.6[n]? =some y->y.5=2->y.3=x.3->y.2=x.2) (fun (j:Int) _ _ _=>(k - j).toNat) ?_ ⟨0,rfl,by omega,fun n y hn=>by omega⟩
 rintro j _ _ _ ⟨m,rfl,hm,hall⟩
 have fin:(x.5=2->m=k)->K 0:=fun hf=>h0 ⟨by rw[hlo];rfl,harm,he,.inr ⟨hcl,fun h2 n z hn hz=>hall n z (by rw[hf h2];exact hn) hz⟩⟩
 refine Cnd.mk (fun hc=>Cnd.mk (fun h2=>⟨by omega,fun z hz=> ?_⟩) fun h2=>fin fun h=>absurd h h2) fun hc=>fin fun _=>by omega
 have hz:v.6[m]? =some z:=hz
 have next:(z.5=2->z.3=x.3->z.2=x.2)->InI ((m:Int)+1)/\(∃m':Nat,(m:Int)+1=(m':Int)/\m'<=k/\ ∀(n:Nat) y,n<m'->v.6[n]? =some y->y.5=2->y.3=x.3->y.2=x.2)/\(k - ((m:Int)+1)).toNat<(k - (m:Int)).toNat:=fun hn=>⟨by unfold InI;omega,⟨m+1,by omega,by omega,fun n y hn' hy=>by
  rcases Nat.lt_or_ge n m with h'|h'
  ·exact hall n y h' hy
  ·rw[show n=m by omega,hz] at hy
   cases hy;exact hn⟩,by omega⟩
 exact Cnd.mk (fun c1=>Cnd.mk (fun c2=>Cnd.mk (fun c3=>next fun _ _=>c3) fun c3=>h1 _ (by decide) fun h=>c3 ((h.c.resolve_left h3).2 h2 m z (by omega) hz c1 c2)) fun c2=>next fun _ h=>absurd h c2) fun c1=>next fun h=>absurd h c1
end Go.En
end
noncomputable section
set_option maxRecDepth 100000
namespace Go.En
open Go Go.Fl Go.Fl.Lk Go.Fx Go.Dg
theorem j8f{edges:List Edg}{node:ByteArray}{K:List ByteArray->Prop}(rk:ByteArray->Nat)(hE:edges.length<=100000)(hr: ∀e∈edges,rk e.dst<rk e.src)(h: ∀r,Asc r->(∀x∈r,rk x<rk node)->K r):q0d edges node K:=by
 unfold q0d q83
 have len: ∀{o:List ByteArray},Asc o->(∀x∈o,x∈edges.map Edg.dst)->o.length<=edges.length:=fun a b=>by have:=j7u a b;simpa using this
 refine Lp2.ind (fun (o t:List ByteArray)=>Asc o/\(∀x∈o,x∈edges.map Edg.dst)/\t.length<=o.length+1/\(∀x∈o,rk x<rk node)/\ ∀x∈t,rk x<=rk node) (fun o t=>2*(edges.length - o.length)+t.length) ?_ ⟨j7o,by simp,by simp,by simp,by simp⟩
 rintro o t ⟨ho,hs,ht,hro,hrt⟩ _
 refine Cnd.mk (fun hc=>⟨by omega,fun n hn=>⟨by omega,?_⟩⟩) fun _=>h o ho hro
 have hlo:=len ho hs
 have hnr:rk n<=rk node:=hrt n (getm hn)
 have hrd: ∀x∈List.drop (Int.toNat (1:Int)) (List.take (↑t.length:Int).toNat t),rk x<=rk node:=fun x hx=>hrt x (List.mem_of_mem_take (List.mem_of_mem_drop hx))
 refine Lp3.ind (fun (o' t':List ByteArray) (i:Int)=>0<=i/\i<=edges.length/\Asc o'/\(∀x∈o',x∈edges.map Edg.dst)/\t'.length<=o'.length/\2*(edges.length - o'.length)+t'.length<2*(edges.length - o.length)+t.length/\(∀x∈o',rk x<rk node)/\ ∀x∈t',rk x<=rk node) (fun _ _ (i:Int)=>(edges.length - i).toNat) ?_ ⟨by omega,by omega,ho,hs,by simp;omega,by simp;omega,hro,hrd⟩
 rintro o' t' i ⟨i0,i1,ho',hs',ht',hm,hro',hrt'⟩ _
 have hlo':=len ho' hs'
 refine Cnd.mk (fun hc=>⟨by omega,fun e he=>Cnd.mk (fun hes=>⟨by omega,fun e1 he1=>z2m fun r hr'=>Cnd.mk (fun _=>⟨by unfold InI;omega,⟨by omega,by omega,ho',hs',ht',hm,hro',hrt'⟩,by omega⟩) fun hn'=>⟨by omega,fun e2 he2=> ?_⟩⟩) fun _=>⟨by unfold InI;omega,⟨by omega,by omega,ho',hs',ht',hm,hro',hrt'⟩,by omega⟩⟩) fun _=>⟨⟨ho',hs',by omega,hro',hrt'⟩,hm⟩
 rw[he] at he1;cases he1
 rw[he] at he2;cases he2
 refine z60 ho' (by omega) fun q hq hmem=>⟨by omega,fun e3 he3=> ?_⟩
 rw[he] at he3;cases he3
 have hin:e.dst∈edges.map Edg.dst:=List.mem_map.2 ⟨e,getm he,rfl⟩
 have hlt:rk e.dst<rk node:=by
  have:=hr e (getm he)
  have e1:e.src=n:=hes
  rw[e1] at this;omega
 have hq2: ∀x∈q,x∈edges.map Edg.dst:=fun x hx=>by
  rcases (hmem x).1 hx with hx|rfl
  ·exact hs' x hx
  ·exact hin
 have hq3: ∀x∈q,rk x<rk node:=fun x hx=>by
  rcases (hmem x).1 hx with hx|rfl
  ·exact hro' x hx
  ·exact hlt
 have hlq:=len hq hq2
 have hne:e.dst∉o':=fun hx=>hn' (hr'.2 hx)
 have hlen:o'.length+1<=q.length:=by
  have h1:(e.dst::o').Nodup:=List.nodup_cons.2 ⟨hne,j1a ho'⟩
  exact j7s h1 fun x hx=>(hmem x).2 (by rcases List.mem_cons.1 hx with rfl|hx<;>simp[*])
 have ht3: ∀x∈[]++t'++[e.dst],rk x<=rk node:=fun x hx=>by
  rcases List.mem_append.1 hx with hx|hx
  ·exact hrt' x hx
  ·rw[List.mem_singleton.1 hx];omega
 have goal:Sml ([]++t').length/\Sml ([]++t'++[e.dst]).length/\InI (i+1)/\((0<=i+1/\i+1<=edges.length/\Asc q/\(∀x∈q,x∈edges.map Edg.dst)/\([]++t'++[e.dst]).length<=q.length/\2*(edges.length - q.length)+([]++t'++[e.dst]).length<2*(edges.length - o.length)+t.length/\(∀x∈q,rk x<rk node)/\ ∀x∈[]++t'++[e.dst],rk x<=rk node)/\(edges.length - (i+1)).toNat<(edges.length - i).toNat):=
  ⟨by unfold Sml;simp;omega,by unfold Sml;simp;omega,by unfold InI;omega,⟨by omega,by omega,hq,hq2,by simp;omega,by simp;omega,hq3,ht3⟩,by omega⟩
 exact⟨goal,goal⟩
theorem j4w{nodes:List ByteArray}{edges:List Edg}{K:ByteArray->Bool->Prop}(rk:ByteArray->Nat)(hN:nodes.length<=100000)(hE:edges.length<=100000)(hr: ∀e∈edges,rk e.dst<rk e.src)(h:K noT false):Z5 nodes edges K:=by
 unfold Z5 q6e Bv q6c
 refine Lp2.ind (fun (o:List ByteArray) (i:Int)=>0<=i/\i<=nodes.length/\o=[]) (fun _ (i:Int)=>(nodes.length - i).toNat) ?_ ⟨by omega,by omega,rfl⟩
 rintro o i ⟨i0,i1,rfl⟩ _
 refine Cnd.mk (fun hc=>⟨by omega,fun n hn=>⟨by omega,fun m hm=>j8f rk hE hr fun q _ hq=>z2m fun r hr'=> ?_⟩⟩) fun _ _=>Cnd.yes rfl h
 rw[hn] at hm;cases hm
 refine Cnd.mk (fun ht=> ?_) fun _=>⟨by unfold InI;omega,⟨by omega,by omega,rfl⟩,by omega⟩
 have:=hq n (hr'.1 ht);omega
def RkOk(rk:ByteArray->Nat)(v:Envt):Prop:= ∀f∈v.4,∀q∈f.6,rk q.1<rk f.1
structure VOk(v:Envt):Prop where
 r:R6Ok v
 g: ∀g∈v.3,g.5.1=0∨eE v.2 (v.3.map Seg.key) g.5=0
 c:(cE v.3 (v.3.map Seg.key)).2.2=false
 f: ∀f∈v.4,NdOk v f/\LeOk v.2 (v.3.map Seg.key) f
 x: ∀(i:Nat) x,v.6[i]? =some x->XeOk v i x
theorem z7b{v:Envt}{K:ByteArray->Int->Prop}(rk:ByteArray->Nat)(hv:EnvS v)(h0:VOk v-> ∀s,K s 0)(h1: ∀s e,e≠0-> ¬(VOk v/\j3v Flg.key v.4/\j3v Exper.key v.6/\RkOk rk v)->K s e):Ve v K:=by
 unfold Ve Rj
 have hsl:=hv.slen
 have hfl:=hv.flen
 have hxl:=hv.xlen
 have ev:Envt.mk (Sett.mk v.1.1 v.1.2 v.1.3) v.2 v.3 v.4 v.5 v.6=v:=rfl
 rw[ev]
 have s8:(ByteArray.mk (Array.mk [115,101,103,109,101,110,116,32])).size=8:=rfl
 have s5:(ByteArray.mk (Array.mk [102,108,97,103,32])).size=5:=rfl
 have s11:(ByteArray.mk (Array.mk [101,120,112,101,114,105,109,101,110,116,32])).size=11:=rfl
 have sk: ∀x∈v.segments.map Seg.key,x.size<=100:=fun x hx=>by obtain⟨g,hg,rfl⟩:=List.mem_map.1 hx;exact (hv.segs g hg).key
 have fk: ∀x∈v.flags.map Flg.key,x.size<=100:=fun x hx=>by obtain⟨g,hg,rfl⟩:=List.mem_map.1 hx;exact (hv.flags g hg).key
 have nlen:(v.flags.flatMap q2z).length<=4*v.flags.length:=by
  have: ∀l:List Flg,(∀f∈l,FlgS f)->(l.flatMap q2z).length<=4*l.length:=by
   intro l
   induction l with
   |nil=>simp
   |cons f l ih=>intro hf;have h1:=(hf f (by simp)).nlen;have h2:=ih fun g hg=>hf g (by simp[hg]);simp only[List.flatMap_cons,List.length_append,q2z,List.length_map,List.length_cons] at*;omega
  exact this _ hv.flags
 refine z83 hv (fun r6=>Cnd.yes rfl (q2y (by omega) ?_)) fun e he hn=>Cnd.no he (h1 _ _ he fun h=>hn ⟨h.1.r,h.2.1,h.2.2.1⟩)
 refine Lp2.ind (fun (i:Int) (ks:List ByteArray)=> ∃j:Nat,i=(j:Int)/\j<=v.segments.length/\ks=v.segments.map Seg.key/\ ∀(m:Nat) g,m<j->v.3[m]? =some g->g.5.1=0∨eE v.2 (v.3.map Seg.key) g.5=0) (fun (i:Int) _=>(v.segments.length - i).toNat) ?_ ⟨0,rfl,by omega,rfl,fun m g hm=>by omega⟩
 rintro i ks ⟨j,rfl,hj,rfl,hall⟩ _
 refine Cnd.mk (fun hc=>⟨by omega,fun g hg=> ?_⟩) fun hc=> ?_
 ·have hg:v.3[j]? =some g:=hg
  have next:(g.5.1=0∨eE v.2 (v.3.map Seg.key) g.5=0)->InI ((j:Int)+1)/\(∃j':Nat,(j:Int)+1=(j':Int)/\j'<=v.segments.length/\v.segments.map Seg.key=v.segments.map Seg.key/\ ∀(m:Nat) g,m<j'->v.3[m]? =some g->g.5.1=0∨eE v.2 (v.3.map Seg.key) g.5=0)/\(v.segments.length - ((j:Int)+1)).toNat<(v.segments.length - (j:Int)).toNat:=fun hq=>⟨by unfold InI;omega,⟨j+1,by omega,by omega,rfl,fun m z hm hz=>by
   rcases Nat.lt_or_ge m j with hmj|hmj
   ·exact hall m z hmj hz
   ·rw[show m=j by omega,hg] at hz
    cases hz;exact hq⟩,by omega⟩
  refine Cnd.mk (fun hz=>next (.inl hz)) fun hz=>⟨by omega,fun g2 hg2=> ?_⟩
  have hg2:v.3[j]? =some g2:=hg2
  rw[hg] at hg2;cases hg2
  dsimp only;rw[Wg]
  refine v7h (n:=4) (hv.segs g (getm hg)).cond (Cnd.mk (fun he=>next (.inr he)) fun he=>⟨by omega,fun g3 hg3=>⟨?_,h1 _ _ he fun h=> ?_⟩⟩)
  ·have:=(hv.segs g3 (getm hg3)).key
   rw[s8];omega
  ·rcases h.1.g g (getm hg) with h|h
   ·exact hz h
   ·exact he h
 have hseg: ∀g∈v.3,g.5.1=0∨eE v.2 (v.3.map Seg.key) g.5=0:=fun g hg=>by
  obtain⟨m,hm⟩:=List.mem_iff_getElem?.1 hg
  exact hall m g (by have:=Qa hm;omega) hm
 clear hc hall hj j
 refine y1o (ks:=v.segments.map Seg.key) (by omega) hv.segs (by simp;omega) sk fun hcs=> ?_
 refine Cnd.mk (fun hcy=>⟨by rw[s8];omega,h1 _ _ (by decide) fun h=> ?_⟩) fun hcy=> ?_
 ·have:=h.1.c
  rw[this] at hcy;cases hcy
 refine Lp3.ind (fun (i:Int) (_:List ByteArray) (_:List Edg)=> ∃j:Nat,i=(j:Int)/\j<=v.flags.length/\ ∀(m:Nat) f,m<j->v.4[m]? =some f->NdOk v f/\LeOk v.2 (v.3.map Seg.key) f) (fun (i:Int) _ _=>(v.flags.length - i).toNat) ?_ ⟨0,rfl,by omega,fun m g hm=>by omega⟩
 rintro i ks es ⟨j,rfl,hj,hall⟩ _
 refine Cnd.mk (fun hc=>⟨by omega,fun f hf=> ?_⟩) fun hc=> ?_
 ·have hf:v.4[j]? =some f:=hf
  refine j0h hv (hv.flags f (getm hf)) (fun n1 n2=>Cnd.yes rfl ⟨by unfold InI;omega,⟨j+1,by omega,by omega,fun m z hm hz=> ?_⟩,by omega⟩) fun e he hn=>Cnd.no he ⟨by omega,fun g hg=>⟨?_,h1 _ _ he fun h=>hn (h.1.f f (getm hf))⟩⟩
  ·rcases Nat.lt_or_ge m j with hmj|hmj
   ·exact hall m z hmj hz
   ·rw[show m=j by omega,hf] at hz
    cases hz;exact⟨n1,n2⟩
  ·have:=(hv.flags g (getm hg)).key
   rw[s5];omega
 have hfl2: ∀f∈v.4,NdOk v f/\LeOk v.2 (v.3.map Seg.key) f:=fun g hg=>by
  obtain⟨m,hm⟩:=List.mem_iff_getElem?.1 hg
  exact hall m g (by have:=Qa hm;omega) hm
 clear hc hall hj j
 refine z2o (by omega) (z03 (by omega) (fun f hf=>by have:=(hv.flags f hf).nlen;omega) ?_)
 have go: ∀{B:ByteArray->Bool->Prop},B noT false->(¬RkOk rk v-> ∀s b,s.size<=100->B s b)->Z5 (v.flags.map Flg.key) (v.flags.flatMap q2z) B:=fun b1 b2=>by
  by_cases hr:RkOk rk v
  ·refine j4w rk (by simp;omega) (by omega) (fun e he=> ?_) b1
   obtain⟨f,hf,hq⟩:=List.mem_flatMap.1 he
   obtain⟨q,hq2,rfl⟩:=List.mem_map.1 hq
   exact hr f hf q hq2
  ·exact q7q (by simp;omega) (by omega) fk (b2 hr)
 refine go (Cnd.no (by decide) ?_) fun hnr s b hs=>Cnd.mk (fun _=>⟨by rw[s5];omega,h1 _ _ (by decide) fun h=>hnr h.2.2.2⟩) fun _=> ?_
 all_goals
  refine Lp5.ind (fun (i:Int) (_:List ByteArray) (_ _:List Edg) (_:List ByteArray)=> ∃k:Nat,i=(k:Int)/\k<=v.experiments.length/\ ∀(m:Nat) x,m<k->v.6[m]? =some x->XeOk v m x) (fun (i:Int) _ _ _ _=>(v.experiments.length - i).toNat) ?_ ⟨0,rfl,by omega,fun m x hm=>by omega⟩
  rintro i a b c d ⟨k,rfl,hk,hall⟩ _
  refine Cnd.mk (fun hc=> ?_) fun hc=>h0 ⟨r6,hseg,by simpa using hcy,hfl2,fun m x hx=>hall m x (by have:=Qa hx;omega) hx⟩ _
  obtain⟨x,hx⟩: ∃x,v.6[k]? =some x:=⟨_,List.getElem?_eq_getElem (by omega)⟩
  refine z08 hv hx (fun hok=>Cnd.yes rfl ⟨by unfold InI;omega,⟨k+1,by omega,by omega,fun m z hm hz=> ?_⟩,by omega⟩) fun e he hn=>Cnd.no he ⟨by omega,fun z hz=>⟨?_,h1 _ _ he fun h=>hn (h.1.x k x hx)⟩⟩
  ·rcases Nat.lt_or_ge m k with hmk|hmk
   ·exact hall m z hmk hz
   ·have hmk:m=k:=by omega
    subst hmk
    rw[hx] at hz
    cases hz;exact hok
  ·have:=(hv.exps z (getm hz)).key
   rw[s11];omega
theorem q7r{v:Envt}{K:Bool->Prop}(rk:ByteArray->Nat)(hv:EnvS v)(h0:VOk v->K true)(h1: ¬(VOk v/\j3v Flg.key v.4/\j3v Exper.key v.6/\RkOk rk v)->K false):Gb v K:=by
 unfold Gb q90
 refine z7b rk hv (fun h _=>h0 h) fun _ e he hn=> ?_
 rw[show decide (e=0)=false from df he]
 exact h1 hn
end Go.En
end
noncomputable section
set_option maxRecDepth 100000
namespace Go.En
open Go Go.Fl Go.Fl.Lk Go.Fx
theorem j4x{α:Type}{P:(α->Prop)->Prop}(g:Gj1 P){K K':α->Prop}(h: ∀s,K s->K' s)(p:P K):P K':=by
 obtain⟨_,h2⟩:=g (ι:=Unit) (K2:=fun _=>K') (fun s hs=>⟨(),h s hs⟩) p
 exact h2
theorem cimp{c A A' B B':Prop}(h:Cnd c A B)(ha:A->A')(hb:B->B'):Cnd c A' B':=⟨fun k=>ha (h.1 k),fun k=>hb (h.2 k)⟩
theorem cneg{c A B:Prop}(h:Cnd c A B)(ha: ¬A): ¬c/\B:=⟨fun k=>ha (h.1 k),h.2 fun k=>ha (h.1 k)⟩
theorem z7c{u:Nat->Int}{now:Int}: ∀{n:Nat} (i:Nat) a b,(colR u now n)[i]? =some a->(colR u now n)[i+1]? =some b->a.2<=b.1
 |0,i,a,b,h,_=>by simp[colR] at h
 |n+1,i,a,b,ha,hb=>by
  by_cases hu:u n<=now
  ·rw[v0u hu] at ha hb
   exact z7c i a b ha hb
  ·by_cases he:0<n/\u (n - 1)=u n
   ·obtain⟨y,hy,h2,_⟩:=(j02 u now n).on he.1 (by rw[he.2];omega)
    rw[w3d (by omega) he.1 he.2 hy] at ha hb
    have hlb:=Qa hb
    rw[List.length_set] at hlb
    rw[List.getElem?_set_ne (by omega)] at ha
    by_cases e:(colR u now n).length - 1=i+1
    ·rw[e,List.getElem?_set_self (by omega)] at hb
     rw[e] at hy
     cases hb
     exact z7c i a y ha hy
    ·rw[List.getElem?_set_ne e] at hb
     exact z7c i a b ha hb
   ·rw[w3e (by omega) he] at ha hb
    have hlb:=Qa hb
    rw[List.length_append,List.length_singleton] at hlb
    rw[List.getElem?_append_left (by omega)] at ha
    by_cases e:i+1<(colR u now n).length
    ·rw[List.getElem?_append_left e] at hb
     exact z7c i a b ha hb
    ·rw[List.getElem?_append_right (by omega),show i+1 - (colR u now n).length=0 by omega] at hb
     cases hb
     have:=(j03 (u:=u) (now:=now) (n:=n)).1 a (getm ha)
     simp only;omega
theorem v3u{l:List Col}{now m:Int}{q:Nat}(hn:now<=m)(h: ∀c∈l,c.3<=m):Gj now q l<=m:=by
 induction l with
 |nil=>exact hn
 |cons c l ih=>
  have h1:=ih fun d hd=>h d (List.mem_cons_of_mem _ hd)
  have h2:=h c (List.mem_cons_self ..)
  unfold Gj
  split
  ·omega
  ·exact h1
structure ColOk(l:List Col):Prop where
 n:l.length<=32
 all: ∀c∈l,0<=c.1/\c.1<c.2/\c.2<=10000/\0<=c.3/\c.3<=1099511627776
 asc: ∀(i:Nat) a b,l[i]? =some a->l[i+1]? =some b->a.2<=b.1
theorem v7i{all:List Col}{now:Int}(h0:0<=now)(h1:now<=1099511627776)(h: ∀c∈all,c.3<=1099511627776)(hn:(colV all now).length<=32):ColOk (colV all now):=by
 refine⟨hn,fun c hc=> ?_,z7c⟩
 have hC:=j03 (u:=fun q=>Gj now q all) (now:=now) (n:=10000)
 have hc1:=hC.1 c hc
 have h3:c.3=Gj now c.1.toNat all:=(hC.2 c.1.toNat (by omega)).2 c hc ⟨by omega,by omega⟩
 have h4:=v3u (q:=c.1.toNat) h1 h
 omega
theorem v3v{l:Lay_}{c:List Col}{K K':Int->Prop}(hl:l.6.length<=1000000)(hc:(∀d∈l.6,d.3<=1099511627776)->ColOk c)(h0:K 0->K' 0)(h3: ¬K 3)(h5: ¬K 5)(h9: ¬K 9)(h6:K 6->K' 6)(h2:K 2->K' 2)(h:Rg l K):Rg (Lay_.mk l.1 l.2 l.3 l.4 l.5 c) K':=by
 unfold Rg q80 at h⊢
 refine j4x Zr (fun _ hb=>cimp hb (j4x Zr fun _ hb=>cimp hb (j4x Gk fun _ hb=>cimp hb (fun hx=> ?_) h2) h6) h6) h
 obtain⟨k1,hx⟩:=cneg hx h3
 obtain⟨k2,hx⟩:=cneg hx h3
 obtain⟨k3,hx⟩:=cneg hx h3
 obtain⟨k4,hx⟩:=cneg hx h3
 have hx:=hx (show l.6.length<=(9223372036854775807:Nat) by omega)
 obtain⟨k5,hx⟩:=cneg hx h5
 have hK:K 0/\ ∀(m:Nat) d,l.6[m]? =some d->d.3<=1099511627776:=by
  have:=hx (fun i=>0<=i->K 0/\ ∀(m:Nat) d,i<=(m:Int)->l.6[m]? =some d->d.3<=1099511627776) (fun i Y hY hb i0=>by
   have hb:=hb (show l.6.length<=(9223372036854775807:Nat) by omega)
   by_cases hi:i<(l.6.length:Int)
   ·obtain⟨y,hy⟩:=getq (l:=l.6) (k:=i.toNat) (by omega)
    have hb:=(hb.1 hi).2 y hy
    obtain⟨_,hb⟩:=cneg hb h3
    obtain⟨_,hb⟩:=cneg hb h3
    obtain⟨_,hb⟩:=cneg hb h3
    obtain⟨_,hb⟩:=cneg hb h3
    obtain⟨k6,hb⟩:=cneg hb h3
    have fin:Y (i+1)->K 0/\ ∀(m:Nat) d,i<=(m:Int)->l.6[m]? =some d->d.3<=1099511627776:=fun hYi=>by
     obtain⟨h1,h2⟩:=hY _ hYi (by omega)
     refine⟨h1,fun m d hm hd=> ?_⟩
     by_cases e:i=(m:Int)
     ·rw[show i.toNat=m by omega,hd] at hy
      cases hy;omega
     ·exact h2 m d (by omega) hd
    by_cases hp:0<i
    ·obtain⟨z,hz⟩:=getq (l:=l.6) (k:=(i - 1).toNat) (by omega)
     have hb:=(hb.1 hp).2.2 z hz
     exact fin (cneg hb h9).2.2
    ·exact fin (hb.2 hp).2
   ·exact⟨hb.2 hi,fun m d hm hd=>by have:=Qa hd;omega⟩) (Int.le_refl 0)
  exact⟨this.1,fun m d hd=>this.2 m d (by omega) hd⟩
 have hc:=hc fun d hd=>by
  obtain⟨m,hm⟩:=List.mem_iff_getElem?.1 hd
  exact hK.2 m d hm
 have hcn:=hc.n
 have hK':=h0 hK.1
 refine Cnd.no k1 (Cnd.no k2 (Cnd.no k3 (Cnd.no k4 fun _=>Cnd.no (by simp only;omega) ?_)))
 refine Lp1.ind (fun (i:Int)=>0<=i/\i<=c.length) (fun (i:Int)=>(c.length - i).toNat) ?_ ⟨by omega,by omega⟩
 rintro i ⟨i0,i1⟩ _
 refine Cnd.mk (fun hi=>⟨⟨i0,hi⟩,fun y hy=> ?_⟩) fun _=>hK'
 simp only at hi
 have hy:c[i.toNat]? =some y:=hy
 have ha:=hc.all y (getm hy)
 have nx:InI (i+1)/\(0<=i+1/\i+1<=(c.length:Int))/\((c.length:Int) - (i+1)).toNat<((c.length:Int) - i).toNat:=⟨by unfold InI;omega,⟨by omega,by omega⟩,by omega⟩
 refine Cnd.no (by omega) (Cnd.no (by omega) (Cnd.no (by omega) (Cnd.no (by omega) (Cnd.no (by omega) (Cnd.mk (fun hp=>⟨by unfold InI;omega,⟨by omega,by simp only;omega⟩,fun z hz=>Cnd.no ?_ nx⟩) fun _=>nx)))))
 have hz:c[i.toNat - 1]? =some z:=by rw[show (i - 1).toNat=i.toNat - 1 by omega] at hz;exact hz
 have:=hc.asc (i.toNat - 1) z y hz (by rw[show i.toNat - 1+1=i.toNat by omega];exact hy)
 omega
theorem v9u{body body':Int->(Int->Prop)->Prop}(h: ∀i Y,0<=i->body i Y->body' i (fun s=>0<=s/\Y s))(hl:Lp1 body 0):Lp1 body' 0:=by
 intro X' hX'
 exact hl (fun i=>0<=i->X' i) (fun i Y hY hb i0=>hX' i _ (fun s hs=>hY s hs.2 hs.1) (h i Y i0 hb)) (Int.le_refl 0)
theorem v01{v:List Lay_}{k:Nat}{l:Lay_}{c:List Col}(hv: ∀l∈v,LayS l)(hn:v.length<=1000)(hk:v[k]? =some l)(hc:(∀d∈l.6,d.3<=1099511627776)->ColOk c)(h:Wz v (fun e=>e=0)):Wz (v.set k (Lay_.mk l.1 l.2 l.3 l.4 l.5 c)) (fun e=>e=0):=by
 unfold Wz q58 at h⊢
 have h:=h (show v.length<=(9223372036854775807:Nat) by omega)
 rw[List.length_set]
 intro _
 refine cimp h id (v9u fun i Y i0 hb=> ?_)
 have hb:=hb (show v.length<=(9223372036854775807:Nat) by omega)
 intro _
 refine⟨fun hi=> ?_,fun hi=>hb.2 (by rw[List.length_set] at hi;exact hi)⟩
 rw[List.length_set] at hi
 have hb:=hb.1 hi
 refine⟨by rw[List.length_set];exact hb.1,fun y' hy'=> ?_⟩
 have rel: ∀{m:Nat} {z':Lay_},(v.set k (Lay_.mk l.1 l.2 l.3 l.4 l.5 c))[m]? =some z'-> ∃z,v[m]? =some z/\z.1=z'.1/\(z'=z∨(m=k/\z=l/\z'=Lay_.mk l.1 l.2 l.3 l.4 l.5 c)):=fun {m z'} hz=>by
  by_cases e:k=m
  ·subst e
   rw[List.getElem?_set_self (Qa hk)] at hz
   cases hz
   exact⟨l,hk,rfl,.inr ⟨rfl,rfl,rfl⟩⟩
  ·rw[List.getElem?_set_ne e] at hz
   exact⟨z',hz,rfl,.inl rfl⟩
 obtain⟨y,hy,hyk,hyy⟩:=rel hy'
 have hP:=hb.2 y hy
 have hA:Cnd (0<i) (At v i fun y6=>InI (i - 1)/\(0<=i - 1/\i - 1<(v.length:Int))/\ ∀y8,v[(i - 1).toNat]? =some y8->Cnd (Lk.blt y8.1 y6.1) (InI (i+1)/\Y (i+1)) ((9:Int)=0)) (InI (i+1)/\Y (i+1))->Cnd (0<i) (At (v.set k (Lay_.mk l.1 l.2 l.3 l.4 l.5 c)) i fun y6=>InI (i - 1)/\(0<=i - 1/\i - 1<((v.set k (Lay_.mk l.1 l.2 l.3 l.4 l.5 c)).length:Int))/\ ∀y8,(v.set k (Lay_.mk l.1 l.2 l.3 l.4 l.5 c))[(i - 1).toNat]? =some y8->Cnd (Lk.blt y8.1 y6.1) (InI (i+1)/\0<=i+1/\Y (i+1)) ((9:Int)=0)) (InI (i+1)/\0<=i+1/\Y (i+1)):=fun hA=>
  cimp hA (fun ha=>⟨by rw[List.length_set];exact ha.1,fun y6 h6=>by
   obtain⟨z6,hz6,e6,_⟩:=rel h6
   obtain⟨a1,a2,a3⟩:=ha.2 z6 hz6
   refine⟨a1,by rw[List.length_set];exact a2,fun y8 h8=> ?_⟩
   obtain⟨z8,hz8,e8,_⟩:=rel h8
   have:=a3 z8 hz8
   rw[e6,e8] at this
   exact cimp this (fun q=>⟨q.1,by omega,q.2⟩) id⟩) fun q=>⟨q.1,by omega,q.2⟩
 rcases hyy with rfl|⟨_,rfl,rfl⟩
 ·rw[List.length_set] at hA
  exact j4x j3o (fun e he=>cimp he hA id) hP
 ·rw[List.length_set] at hA
  refine v3v (by have:=(hv y (getm hk)).cl;omega) hc (fun he=>cimp he hA id) ?_ ?_ ?_ ?_ ?_ hP
  ·exact fun q=>absurd (q.2 (by decide)) (by decide)
  ·exact fun q=>absurd (q.2 (by decide)) (by decide)
  ·exact fun q=>absurd (q.2 (by decide)) (by decide)
  ·exact fun q=>absurd (q.2 (by decide)) (by decide)
  ·exact fun q=>absurd (q.2 (by decide)) (by decide)
theorem v7j{v:List Lay_}{k:Nat}{l:Lay_}{c:List Col}(hv: ∀l∈v,LayS l)(hn:v.length<=1000)(hk:v[k]? =some l)(hc:(∀d∈l.6,d.3<=1099511627776)->ColOk c)(h:lE v=0):lE (v.set k (Lay_.mk l.1 l.2 l.3 l.4 l.5 c))=0:=by
 have h1:Wz v (fun e=>e=0):=v9r hv h
 have h2:=v01 hv hn hk hc h1
 exact j6d fun K hK=>j4x z9n (fun e he=>by rw[he];exact hK) h2
theorem v7k{x:Exper}(hx:ExpS x)(h:xE x=0):xE (j78 x)=0:=by
 have h1:Jk x (fun e=>e=0):=v9s hx h
 refine j6d fun K hK=>j4x (K:=fun e=>e=0) z05 (fun e he=>by rw[he];exact hK) ?_
 unfold Jk Ht at h1⊢
 refine j4x Zr (fun _ hb=>cimp hb (j4x Zr fun _ hb=>cimp hb (j4x Zr fun _ hb=>cimp hb (j4x Gk fun _ hb=>cimp hb (fun hs=> ?_) id) id) id) id) h1
 obtain⟨_,hs⟩:=cneg hs (by decide)
 obtain⟨_,hs⟩:=cneg hs (by decide)
 exact Cnd.no (show ¬(3:Int)<1 by decide) (Cnd.no (show ¬(3:Int)<3 by decide) hs)
theorem j8g{v:Envt}{key:ByteArray}{now:Int}{j k:Nat}{x:Exper}{l:Lay_}(h:Fnd v key now j x k l):Mvd v (j0b v j x k l now):=
 ⟨rfl,rfl,rfl,rfl,.set j51 (Bn h.hl).1 ⟨rfl,rfl,rfl,rfl,rfl⟩,.set j52 (Gi h.hx).1 ⟨rfl,rfl,rfl,rfl,rfl,rfl,fun _ _ _ h=>h⟩⟩
theorem w3o{v w:Envt}(h:Mvd v w)(k:ByteArray):(lof v k=none/\lof w k=none)∨ ∃x y,lof v k=some x/\lof w k=some y/\v66 x y:=by
 unfold lof;exact w3b (fun x y hxy=>by rw[hxy.1]) h.ly
theorem v3w{v:Envt}{key:ByteArray}{now:Int}{j k:Nat}{x:Exper}{l:Lay_}(hv:EnvK v)(hV:VOk v)(h:Fnd v key now j x k l)(hc:(colV (allC x l now) now).length<=32):VOk (j0b v j x k l now):=by
 have hx:=(Gi h.hx).1
 have hl:=(Bn h.hl).1
 have hm:=j8g h
 have hn1:=h.n1
 refine⟨⟨hV.r.s,hV.r.d,hV.r.g,hV.r.f,?_,?_⟩,hV.g,hV.c,hV.f,?_⟩
 ·refine v7j hv.ly hv.ln hl (fun hd=>v7i h.n0 h.n1 (fun c hc=> ?_) hc) hV.r.l
  unfold allC at hc
  split at hc
  ·rcases List.mem_append.1 hc with hc|hc
   ·exact hd c hc
   ·obtain⟨s,_,rfl⟩:=List.mem_map.1 hc
    show endV now l.5<=_
    unfold endV
    split<;>omega
  ·exact hd c hc
 ·exact z5l hV.r.x (v7k (hv.ex x (getm hx)) (hV.r.x x (getm hx)))
 ·intro i y hy
  have hlo: ∀key:ByteArray,(lof v key).isSome=true->(lof (j0b v j x k l now) key).isSome=true:=fun key hs=>by
   rcases w3o hm key with ⟨e,_⟩|⟨a,b,_,e2,_⟩
   ·rw[e] at hs;cases hs
   ·rw[e2];rfl
  have hy:(v.6.set j (j78 x))[i]? =some y:=hy
  by_cases e:j=i
  ·subst e
   rw[List.getElem?_set_self (Qa hx)] at hy
   cases hy
   have hX:=hV.x j x hx
   exact⟨hlo _ hX.l,hX.f,hX.e,.inl rfl⟩
  ·rw[List.getElem?_set_ne e] at hy
   have hX:=hV.x i y hy
   refine⟨hlo _ hX.l,hX.f,hX.e,hX.c.imp id fun ⟨h1,h2⟩=>⟨fun l' hl' q q0 q1 hq=> ?_,fun h5 j' y' hj' hy'=> ?_⟩⟩
   ·rcases w3o hm y.2 with ⟨_,e2⟩|⟨a,b,e1,e2,hs⟩
    ·rw[e2] at hl';cases hl'
    ·rw[e2] at hl'
     cases hl'
     obtain⟨p1,p2⟩:=h1 a e1 q q0 q1 hq
     rw[hs.2.2.2.1]
     refine⟨p1,fun j' y' hj' hy' hl2 h3=> ?_⟩
     have hy':(v.6.set j (j78 x))[j']? =some y':=hy'
     by_cases e':j=j'
     ·subst e'
      rw[List.getElem?_set_self (Qa hx)] at hy'
      cases hy';exact absurd rfl h3
     ·rw[List.getElem?_set_ne e'] at hy'
      exact p2 j' y' hj' hy' hl2 h3
   ·have hy':(v.6.set j (j78 x))[j']? =some y':=hy'
    by_cases e':j=j'
    ·subst e'
     rw[List.getElem?_set_self (Qa hx)] at hy'
     cases hy'
     intro h52;exact absurd h52 (show ¬(3:Int)=2 by decide)
    ·rw[List.getElem?_set_ne e'] at hy'
     exact h2 h5 j' y' hj' hy'
end Go.En
end
noncomputable section
set_option maxRecDepth 100000
namespace Go.En
open Go Go.Fl Go.Fl.Lk Go.Fx
theorem v02{α:Type}{k:α->ByteArray}{l:List α}(hd:(l.map k).Nodup){x:α}(hx:x∈l):(l.find? fun y=>decide (k y=k x))=some x:=by
 induction l with
 |nil=>cases hx
 |cons a l ih=>
  rw[List.map_cons,List.nodup_cons] at hd
  rcases List.mem_cons.1 hx with rfl|hx
  ·rw[List.find?_cons,dt rfl]
  ·rw[List.find?_cons,df fun e=>hd.1 (List.mem_map.2 ⟨x,hx,e.symm⟩)]
   exact ih hd.2 hx
abbrev NdL(v:Envt):Prop:=(v.5.map Lay_.key).Nodup
theorem j8h{v:Envt}(hd:NdL v){l:Lay_}(hl:l∈v.5):lof v l.1=some l:=v02 (k:=Lay_.key) hd hl
theorem v03{v:Envt}(hd:NdL v){l m:Lay_}(hl:l∈v.5)(hm:m∈v.5)(e:l.1=m.1):l=m:=by
 have h1:=j8h hd hl
 rw[e,j8h hd hm] at h1
 exact (Option.some.inj h1).symm
theorem Mvd.ndX{v w:Envt}(h:Mvd v w)(hd:NdX v):NdX w:=by
 show (w.6.map Exper.key).Nodup
 rw[h.ex.map (f:=Exper.key) fun x y hxy=>hxy.1];exact hd
theorem Mvd.ndL{v w:Envt}(h:Mvd v w)(hd:NdL v):NdL w:=by
 show (w.5.map Lay_.key).Nodup
 rw[h.ly.map (f:=Lay_.key) fun x y hxy=>hxy.1];exact hd
theorem v3x{b a:Envt}{n:Int}(hn:0<=n/\n<=1099511627776)(h1:b.1=a.1)(h2: ∀x∈b.6,x.5=2-> ∀y,runE a x.1=some y->Kpt b a x y)(h3: ∀y∈a.6,y.5=2->frV b a y n=0)(h4: ∀l∈b.5,Kps b a l n):stpV b a n=(noK,0):=by
 unfold stpV
 rw[if_pos (q7p hn)]
 have e1:(b.6.find? fun x=>dec (x.5=2/\runE a x.1≠none/\b.1≠a.1))=none:=List.find?_eq_none.2 fun x _=>by
  rw[W5 fun k=>k.2.2 h1];decide
 have e2:(b.6.find? fun x=>dec (x.5=2/\ ∃y,runE a x.1=some y/\ ¬Kpt b a x y))=none:=List.find?_eq_none.2 fun x hx=>by
  rw[W5 fun ⟨k1,y,k2,k3⟩=>k3 (h2 x hx k1 y k2)];decide
 have e3:(a.6.find? fun y=>dec (y.5=2/\frV b a y n≠0))=none:=List.find?_eq_none.2 fun y hy=>by
  rw[W5 fun k=>k.2 (h3 y hy k.1)];decide
 have e4:(b.5.find? fun l=>dec (¬Kps b a l n))=none:=List.find?_eq_none.2 fun l hl=>by
  rw[W5 fun k=>k (h4 l hl)];decide
 rw[e1,e2,e3,e4]
theorem j8i{v w:Envt}{t:Int}{j:Nat}{x x':Exper}(hV:VOk v)(dx:NdX v)(ht:0<=t/\t<=1099511627776)(hm:Mvd v w)(hx:v.6[j]? =some x)(hw:w.6=v.6.set j x')(hk:x'.1=x.1)
  (hnew:x'.5=2->x.5≠3/\ ∀q,0<=q->q<10000->Clm v x' q-> ∀u,(u=v∨u=w)-> ∀l,lof u x'.2=some l-> ¬ ∃c∈l.6,Cvr c q/\t<c.3)(hkps: ∀l∈v.5,Kps v w l t):stpV v w t=(noK,0):=by
 refine v3x ht hm.st.symm (fun x0 hx0 h2 y hy=> ?_) (fun y hy h2=> ?_) hkps
 ·have hy:=(q36.1 hy).1
  rcases v67 hm x0.1 with ⟨_,e⟩|⟨a,b,e1,e2,hs⟩
  ·rw[e] at hy;cases hy
  rw[hy] at e2;cases e2
  rw[z0h dx hx0 rfl] at e1;cases e1
  obtain⟨i,hi⟩:=List.mem_iff_getElem?.1 hx0
  have hX:=hV.x i x0 hi
  refine⟨hs.2.1.symm,hs.2.2.1.symm,hs.2.2.2.1.symm,hs.2.2.2.2.1.symm,hs.2.2.2.2.2.1.symm,hs.2.2.2.2.2.2,?_,?_⟩
  ·rcases w3o hm x0.2 with ⟨e,_⟩|⟨l,m,e1,e2,hl⟩
   ·have:=hX.l
    rw[e] at this;cases this
   ·exact⟨l,m,e1,e2,hl.2.1.symm,hl.2.2.1.symm⟩
  ·obtain⟨g,hg,_⟩:=hX.f
   have hg:fofE v x0.3=some g:=hg
   refine⟨g,g,hg,?_,rfl,rfl⟩
   unfold fofE at hg⊢
   rw[hm.fl];exact hg
 ·have go: ∀z,xof v y.1=some z->z.5≠3->(∀u,(u=v∨u=w)-> ¬Ovl v y t u)->frV v w y t=0:=fun z hz hz3 ho=>by
   unfold frV
   rw[if_neg fun ⟨z2,h1,h3⟩=>by rw[hz] at h1;cases h1;exact hz3 h3,if_neg fun k=>k.elim (ho v (.inl rfl)) (ho w (.inr rfl))]
  rw[hw] at hy
  obtain⟨i,hi⟩:=List.mem_iff_getElem?.1 hy
  by_cases e:j=i
  ·subst e
   rw[List.getElem?_set_self (Qa hx)] at hi
   cases hi
   obtain⟨h3,hn⟩:=hnew h2
   exact go x (z0h dx (getm hx) hk.symm) h3 fun u hu ⟨l,q,hl,q0,q1,hc,hp⟩=>hn q q0 q1 hc u hu l hl hp
  ·rw[List.getElem?_set_ne e] at hi
   have hyo:=z0h dx (getm hi) rfl
   exact go y hyo (by omega) fun u _ ⟨_,q,_,_,_,hc,_⟩=>hc.2 y (q36.2 ⟨hyo,h2⟩) hc.1
theorem v4z{v w:Envt}{j:Nat}{x x' x0:Exper}(dx:NdX v)(hm:Mvd v w)(hx:v.6[j]? =some x)(hw:w.6=v.6.set j x')(hx0:x0∈v.6)(h2:x0.5=2)(hr:runE w x0.1=none):x0=x/\x'.5≠2∨x0=x/\x'.1≠x.1:=by
 obtain⟨i,hi⟩:=List.mem_iff_getElem?.1 hx0
 have dw:=hm.ndX dx
 by_cases e:j=i
 ·subst e
  rw[hx] at hi;cases hi
  by_cases hk:x'.1=x.1
  ·refine .inl ⟨rfl,fun h=> ?_⟩
   have:x'∈w.6:=by rw[hw];exact List.mem_iff_getElem?.2 ⟨j,List.getElem?_set_self (Qa hx)⟩
   have:=q36.2 ⟨z0h dw this hk,h⟩
   rw[hr] at this;cases this
  ·exact .inr ⟨rfl,hk⟩
 ·have:x0∈w.6:=by rw[hw];exact List.mem_iff_getElem?.2 ⟨i,by rw[List.getElem?_set_ne e];exact hi⟩
  have:=q36.2 ⟨z0h dw this rfl,h2⟩
  rw[hr] at this;cases this
theorem w49{v w:Envt}{t:Int}{j:Nat}{x x':Exper}(dx:NdX v)(dl:NdL v)(hm:Mvd v w)(hx:v.6[j]? =some x)(hw:w.6=v.6.set j x')(h5:w.5=v.5)(hk:x'.1=x.1)(hs:x.5=2->x'.5=2): ∀l∈v.5,Kps v w l t:=fun l hl=>by
 have hlo:lof w l.1=some l:=by unfold lof;rw[h5];exact j8h dl hl
 refine⟨fun c hc _ q _ _ hv=>⟨c,by rw[z65 hlo];exact hc,hv,Int.le_refl _⟩,fun _ x0 hx0 hr _ h2=> ?_⟩
 rcases v4z dx hm hx hw hx0 h2 hr with ⟨e,h⟩|⟨_,h⟩
 ·rw[e] at h2;exact absurd (hs h2) h
 ·exact absurd hk h
theorem v3y{v:Envt}{key:ByteArray}{t:Int}{j k:Nat}{x:Exper}{l:Lay_}(dx:NdX v)(dl:NdL v)(h:Fnd v key t j x k l): ∀l0∈v.5,Kps v (j0b v j x k l t) l0 t:=fun l0 hl0=>by
 have hm:=j8g h
 have hx:=(Gi h.hx).1
 have hl:=(Bn h.hl).1
 have hlk:=(Bn h.hl).2.1
 have hcl:l0=l/\clA (j0b v j x k l t) l0=colV (allC x l t) t∨l0≠l/\clA (j0b v j x k l t) l0=l0.6:=by
  by_cases e:l0=l
  ·refine .inl ⟨e,?_⟩
   rw[e]
   have:=(Bn (v3r h)).2.2
   rw[←hlk] at this
   exact z65 this
  ·refine .inr ⟨e,z65 ?_⟩
   refine j8h (v:=j0b v j x k l t) (hm.ndL dl) ?_
   obtain⟨i,hi⟩:=List.mem_iff_getElem?.1 hl0
   refine List.mem_iff_getElem?.2 ⟨i,?_⟩
   show (v.5.set k _)[i]? =some l0
   rw[List.getElem?_set_ne fun e2=>e (by subst e2;rw[hl] at hi;exact (Option.some.inj hi).symm)]
   exact hi
 refine⟨fun c hc hlt q q0 q1 hv=> ?_,fun h5 x0 hx0 hr hx2 h2 hlt q q0 q1 hq=> ?_⟩
 ·rcases hcl with ⟨rfl,e⟩|⟨_,e⟩
  ·rw[e]
   refine (j76 q0 q1 hlt).2 ⟨c,?_,hv,Int.le_refl _⟩
   unfold allC
   split
   ·exact List.mem_append_left _ hc
   ·exact hc
  ·rw[e];exact⟨c,hc,hv,Int.le_refl _⟩
 ·have hxx:x0=x:=by
   rcases v4z dx hm hx (x':=j78 x) rfl hx0 h2 hr with ⟨e,_⟩|⟨e,_⟩<;>exact e
  subst hxx
  have e:l0=l:=v03 dl hl0 (getm hl) (by rw[hlk];exact hx2.symm)
  subst e
  rcases hcl with ⟨_,e⟩|⟨e,_⟩
  ·rw[e]
   obtain⟨s,hs,z1,z2⟩:=q3i.1 hq
   refine (j76 q0 q1 hlt).2 ⟨Col.mk s.1 s.2 (endV t l0.5),?_,⟨z1,z2⟩,Int.le_refl _⟩
   unfold allC
   rw[if_pos h5]
   exact List.mem_append_right _ (List.mem_map.2 ⟨s,hs,rfl⟩)
  ·exact absurd rfl e
def ClearP(v:Envt)(t:Int):Prop:= ∀l∈v.5,∀x∈v.6,x.2=l.1->x.5≠3-> ∀q,0<=q->q<10000->insV x.6 q=true-> ∀c∈l.6,Cvr c q-> ¬t<c.3
theorem ClearP.mono{v:Envt}{t u:Int}(h:ClearP v t)(hu:t<=u):ClearP v u:=fun l hl x hx e h3 q q0 q1 hq c hc hv hlt=>h l hl x hx e h3 q q0 q1 hq c hc hv (by omega)
theorem w5a{v:Envt}{t:Int}{K:Bool->Prop}(hv:EnvL v)(h: ∀b,(b=true↔ClearP v t)->K b):q1h v t K:=by
 unfold q1h q92
 have hxn:=hv.x
 have hln:=hv.l
 refine allR (fun l:Lay_=> ∀x∈v.6,x.2=l.1->x.5≠3-> ∀q,0<=q->q<10000->insV x.6 q=true-> ∀c∈l.6,Cvr c q-> ¬t<c.3) (by omega) (fun hA=>h true ⟨fun _=>hA,fun _=>rfl⟩) fun i l Y hl nx=> ?_
 refine z64 (hv.co l (getm hl)) fun u hu=> ?_
 refine allR (fun x:Exper=>x.2=l.1->x.5≠3-> ∀q,0<=q->q<10000->insV x.6 q=true-> ∀c∈l.6,Cvr c q-> ¬t<c.3) (by omega) (fun hA=>nx hA) fun m x Z hx nz=> ?_
 refine atq hl (Cnd.mk (fun e=>Cnd.mk (fun h3=>nz fun _ k=>absurd h3 k) fun h3=> ?_) fun e=>nz fun k=>absurd k e)
 refine q35 (hv.cl x (getm hx)).1 fun o ho _=> ?_
 have hol:=ho.len
 have hul:=hu.len
 refine Lp1.ind (fun (i:Int)=> ∃n:Nat,i=(n:Int)/\n<=10000/\ ∀q:Int,0<=q->q<n->insV x.6 q=true-> ∀c∈l.6,Cvr c q-> ¬t<c.3) (fun (i:Int)=>(10000 - i).toNat) ?_ ⟨0,rfl,by omega,fun q _ _=>by omega⟩
 rintro i ⟨n,rfl,hn,hq⟩
 refine Cnd.mk (fun hc=>j56 (by omega) fun z hz=> ?_) fun hc=>nz fun _ _ q q0 q1=>hq q q0 (by omega)
 have hzf:z=insV x.6 (n:Int):=ho.get hz
 have step:(insV x.6 (n:Int)=true-> ∀c∈l.6,Cvr c (n:Int)-> ¬t<c.3)->InI ((n:Int)+1)/\(∃n':Nat,(n:Int)+1=(n':Int)/\n'<=10000/\ ∀q:Int,0<=q->q<n'->insV x.6 q=true-> ∀c∈l.6,Cvr c q-> ¬t<c.3)/\(10000 - ((n:Int)+1)).toNat<(10000 - (n:Int)).toNat:=fun hs=>by
  refine⟨by unfold InI;omega,⟨n+1,by omega,by omega,fun q q0 q1=> ?_⟩,v9i (by omega)⟩
  by_cases e:q=(n:Int)
  ·subst e;exact hs
  ·exact hq q q0 (lt10 q1 e)
 refine Cnd.mk (fun ht=>j56 (by omega) fun y hy=>Cnd.mk (fun hlt=>h false ⟨fun k=>(by cases k),fun hC=> ?_⟩) fun hlt=>step fun _ c hc hcv hcl=> ?_) fun hf=>step fun k=>absurd (hzf.trans k) hf
 ·obtain⟨c,hc,hcv,hcl⟩:=(hu.at_ n y y hy hlt).1 (Int.le_refl _)
  exact absurd (by omega) (hC l (getm hl) x (getm hx) e h3 (n:Int) (by omega) (by omega) (by rw[←hzf];exact ht) c hc hcv)
 ·have:=(hu.at_ n y c.3 hy hcl).2 ⟨c,hc,hcv,Int.le_refl _⟩
  omega
theorem v3z{v:Envt}(hV:VOk v){i j:Nat}{x y:Exper}(hx:v.6[i]? =some x)(hy:v.6[j]? =some y)(hij:i≠j)(h3:x.5≠3)(g3:y.5≠3)(e:x.2=y.2){q:Int}(q0:0<=q)(q1:q<10000)(hq:insV x.6 q=true)(gq:insV y.6 q=true):False:=by
 have one: ∀{i j:Nat} {x y:Exper},v.6[i]? =some x->v.6[j]? =some y->j<i->x.5≠3->y.5≠3->x.2=y.2->insV x.6 q=true->insV y.6 q=true->False:=fun {i j x y} hx hy hij h3 g3 e hq gq=>by
  have hX:=hV.x i x hx
  rcases hX.c with h|⟨h1,_⟩
  ·exact h3 h
  ·obtain⟨l,hl⟩:=Option.isSome_iff_exists.1 hX.l
   exact (h1 l hl q q0 q1 hq).2 j y hij hy e.symm g3 gq
 rcases Nat.lt_or_gt_of_ne hij with h|h
 ·exact one hy hx h g3 h3 e.symm gq hq
 ·exact one hx hy h h3 g3 e hq gq
end Go.En
end
noncomputable section
set_option maxRecDepth 100000
namespace Go.En
open Go Go.Fl Go.Fl.Lk Go.Fx
theorem v40{α:Type}{k:α->ByteArray}{l:List α}(h:l.Pairwise fun a b=>Lk.blt (k a) (k b)):j3v k l:=fun i a b ha hb=>by
 have h1:=Qa ha
 have h2:=Qa hb
 have:=List.pairwise_iff_getElem.1 h i (i+1) h1 h2 (by omega)
 rw[List.getElem?_eq_getElem h1] at ha
 rw[List.getElem?_eq_getElem h2] at hb
 rw[←Option.some.inj ha,←Option.some.inj hb];exact this
theorem v7l:flK.Pairwise fun a b=>Lk.blt a b:=by unfold flK;decide
theorem v7m:exK.Pairwise fun a b=>Lk.blt a b:=by unfold exK;decide
theorem y1q{v:Envt}(hD:EnvD v):v.4.Pairwise fun a b=>Lk.blt a.1 b.1:=by
 have:(v.4.map Flg.key).Pairwise fun a b=>Lk.blt a b:=by
  have e:v.4.map Flg.key=flK.take v.4.length:=hD.flags.keys
  rw[e];exact v7l.sublist (List.take_sublist _ _)
 exact List.pairwise_map.1 this
theorem y1r{v:Envt}(hD:EnvD v):v.6.Pairwise fun a b=>Lk.blt a.1 b.1:=List.pairwise_map.1 (v7m.sublist hD.exps)
def rkF(s:ByteArray):Nat:=if s=flK.getD 0 noT then 0 else if s=flK.getD 1 noT then 1 else if s=flK.getD 2 noT then 2 else if s=flK.getD 3 noT then 3 else 4
theorem v9v: ∀i,i<4->rkF (flK.getD i noT)=i:=by decide
theorem v41{v:Envt}(hD:EnvD v)(hE:EnvS v){i:Nat}{f:Flg}(h:v.4[i]? =some f):rkF f.1=i:=by
 have hi:=Qa h
 have hl:=hE.flen
 have hi4:i<4:=by
  have:v.4.length<=4:=hl
  omega
 have e:(v.4.map Flg.key)[i]? =some f.1:=by rw[List.getElem?_map,h];rfl
 have ek:v.4.map Flg.key=flK.take v.4.length:=hD.flags.keys
 rw[ek] at e
 have e2:=v0n e
 have:flK.getD i noT=f.1:=by rw[List.getD_eq_getElem?_getD,e2];rfl
 rw[←this];exact v9v i hi4
theorem v9w{v:Envt}(hD:EnvD v)(hE:EnvS v):RkOk rkF v:=fun f hf q hq=>by
 obtain⟨i,hi⟩:=List.mem_iff_getElem?.1 hf
 obtain⟨g,hg,e,_⟩:=(hD.flags.all i f hi).needs q hq
 obtain⟨j,hj⟩:=List.mem_iff_getElem?.1 hg
 have hjl:=Qa hj
 rw[List.length_take] at hjl
 have hj2:v.4[j]? =some g:=by rw[List.getElem?_take_of_lt (by omega)] at hj;exact hj
 have e1:=v41 hD hE hj2
 have e2:=v41 hD hE hi
 have e:q.1=g.1:=e
 rw[e,e1,e2];omega
theorem w03{list:List Int}{at_ n:Int}{K:Int->Int->Prop}(hD:DS list at_)(hl:at_<list.length)(hn:1<=n)(h: ∀r,0<=r->r<n->DS list (at_+1)->K r (at_+1)):J0 list at_ n K:=by
 obtain⟨h1,h2,h3,h4⟩:=hD
 unfold J0 z54 q9m
 refine fun _=>Cnd.yes (dt hl) ⟨by unfold InI;omega,by unfold InI;omega,by omega,fun y hy=>⟨by unfold InI;have:=h4 _ (getm hy);omega,by omega,?_⟩⟩
 obtain⟨a,b⟩:=h4 _ (getm hy)
 exact h _ (Int.tmod_nonneg _ a) (by have:=Int.tmod_lt_of_pos y (b:=n) (by omega);omega) ⟨h1,by omega,by omega,h4⟩
theorem z7d{list:List Int}{at_ n:Int}{K:Int->Int->Prop}(hD:DS list at_)(hn:1<=n)(h: ∀r a,0<=r->r<n->DS list a->at_<=a->K r a):J0 list at_ n K:=by
 by_cases hl:at_<list.length
 ·exact w03 hD hl hn fun r r0 r1 hD=>h r _ r0 r1 hD (by omega)
 ·unfold J0 z54 q9m
  exact fun _=>Cnd.no (fun k=>hl (of_decide_eq_true k)) (h 0 at_ (Int.le_refl 0) (by omega) hD (Int.le_refl _))
theorem v04{list:List Int}{at_ n:Int}{K:Int->Int->Prop}(hD:DS list at_)(hn:1<=n)(h: ∀r a,0<=r->r<n->DS list a->at_<=a->K r a):q4x list at_ n K:=by
 unfold q4x j0q
 refine z7d hD (by decide) fun r a r0 r1 hD ha=>⟨by unfold InI;omega,z7d hD (by decide) fun s b s0 s1 hD hb=>⟨by unfold InI;omega,by omega,?_⟩⟩
 exact h _ _ (Int.tmod_nonneg _ (by omega)) (by have:=Int.tmod_lt_of_pos (256*r+s) (b:=n) (by omega);omega) hD (by omega)
structure ActS(v w:Envt)(key:ByteArray)(t:Int)(j:Nat)(x x':Exper):Prop where
 k:EnvK w
 s:EnvS w
 m:Mvd v w
 hx:xix v key=some (j,x)
 hx':w.6[j]? =some x'
 st:stpV v w t=(noK,0)
 v3:x'.5=3->VOk w
 cl:ClearP w t
theorem v05{v:Envt}{j i:Nat}{x x' y:Exper}(hx:v.6[j]? =some x)(hy:(v.6.set j x')[i]? =some y):(i=j/\y=x')∨(i≠j/\v.6[i]? =some y):=by
 by_cases e:j=i
 ·subst e
  rw[List.getElem?_set_self (Qa hx)] at hy
  exact .inl ⟨rfl,(Option.some.inj hy).symm⟩
 ·rw[List.getElem?_set_ne e] at hy
  exact .inr ⟨Ne.symm e,hy⟩
theorem w3p{v:Envt}{x:Exper}{l:Lay_}{size now q:Int}(q0:0<=q)(q1:q<10000):(insV (clmV v x l size now) q=true->insV x.6 q=true∨ ¬TakP v l x.2 noK now q)/\(insV x.6 q=true->insV (clmV v x l size now) q=true):=by
 have e:insV (clmV v x l size now) q=(insV x.6 q||Go.Fl.Sp.firstP (w0x v l x.2 now) size q.toNat):=by
  unfold clmV
  have:=v0v (f:=fun i=>insV x.6 (i:Int)||Go.Fl.Sp.firstP (w0x v l x.2 now) size i) (i:=q.toNat) (by omega)
  simp only[Int.toNat_of_nonneg q0] at this
  exact this
 rw[e,Bool.or_eq_true]
 refine⟨fun h=>h.imp id fun h=> ?_,.inl⟩
 have:=j7n.1 (v00 h)
 rw[Int.toNat_of_nonneg q0] at this;exact this
theorem v06{v:Envt}{key:ByteArray}{size t:Int}{j k:Nat}{x:Exper}{l:Lay_}(hv:EnvK v)(hE:EnvS v)(hV:VOk v)(dx:NdX v)(dl:NdL v)(hcl:ClearP v t)(hF:Fnd v key t j x k l)(h3:x.5≠3):ActS v (j77 v j (Exper.mk x.1 x.2 x.3 x.4 x.5 (clmV v x l size t) x.7 x.8)) key t j x (Exper.mk x.1 x.2 x.3 x.4 x.5 (clmV v x l size t) x.7 x.8):=by
 have hx:=(Gi hF.hx).1
 have hl:=Bn hF.hl
 have hm:Mvd v (j77 v j (Exper.mk x.1 x.2 x.3 x.4 x.5 (clmV v x l size t) x.7 x.8)):=v0o hx ⟨rfl,rfl,rfl,rfl,rfl,rfl,fun q q0 q1=>(w3p q0 q1).2⟩
 refine⟨w6v hv hF,j7z hE hx rfl rfl rfl (j59 _) rfl rfl,hm,hF.hx,List.getElem?_set_self (Qa hx),?_,fun e=>absurd e h3,?_⟩
 ·refine j8i hV dx ⟨hF.n0,hF.n1⟩ hm hx rfl rfl (fun h2=>⟨h3,fun q q0 q1 hc u hu m hmm hp=> ?_⟩) (w49 dx dl hm hx rfl rfl rfl id)
  have e:lof u x.2=some l:=by rcases hu with rfl|rfl<;>exact hl.2.2
  have hmm:lof u x.2=some m:=hmm
  rw[e] at hmm
  cases hmm
  rcases (w3p q0 q1).1 hc.1 with h|h
  ·exact hc.2 x (q36.2 ⟨z0h dx (getm hx) rfl,h2⟩) h
  ·exact h (.inl hp)
 ·intro l0 hl0 y hy e y3 q q0 q1 hq c hc hv hlt
  obtain⟨i,hi⟩:=List.mem_iff_getElem?.1 hy
  rcases v05 hx hi with ⟨_,rfl⟩|⟨_,hi⟩
  ·rcases (w3p q0 q1).1 hq with h|h
   ·exact hcl l0 hl0 x (getm hx) e h3 q q0 q1 h c hc hv hlt
   ·have e2:l0=l:=v03 dl hl0 (getm hl.1) (by rw[hl.2.1];exact e.symm)
    subst e2
    exact h (.inl ⟨c,hc,hv,hlt⟩)
  ·exact hcl l0 hl0 y (getm hi) e y3 q q0 q1 hq c hc hv hlt
theorem v07{v:Envt}{key:ByteArray}{now:Int}(h:(j6b v key now).2=0): ∃j x k l,Fnd v key now j x k l/\x.5=1/\(¬ ∃q:Int,0<=q/\q<10000/\insV x.6 q=true/\TakP v l x.2 key now q)/\(j6b v key now).1=j77 v j (Exper.mk x.1 x.2 x.3 x.4 2 x.6 x.7 x.8):=by
 unfold j6b at h⊢
 cases hf:fndV v key now with
 |error e=>rw[hf] at h;exact absurd h (j58 hf)
 |ok q=>
  obtain⟨j,x,k,l⟩:=q
  rw[hf] at h
  simp only at h⊢
  by_cases h1:x.5=1
  ·rw[if_pos h1] at h⊢
   by_cases h2: ∃q:Int,0<=q/\q<10000/\insV x.6 q=true/\TakP v l x.2 key now q
   ·rw[if_pos h2] at h;exact absurd h (by decide)
   ·rw[if_neg h2]
    exact⟨j,x,k,l,j57 hf,h1,h2,rfl⟩
  ·rw[if_neg h1] at h;exact absurd h (by decide)
theorem v08{v:Envt}{key:ByteArray}{t:Int}{j k:Nat}{x:Exper}{l:Lay_}(hv:EnvK v)(hE:EnvS v)(hV:VOk v)(dx:NdX v)(dl:NdL v)(hcl:ClearP v t)(hF:Fnd v key t j x k l)(h1:x.5=1)(hno: ¬ ∃q:Int,0<=q/\q<10000/\insV x.6 q=true/\TakP v l x.2 key t q):ActS v (j77 v j (Exper.mk x.1 x.2 x.3 x.4 2 x.6 x.7 x.8)) key t j x (Exper.mk x.1 x.2 x.3 x.4 2 x.6 x.7 x.8):=by
 have hx:=(Gi hF.hx).1
 have hl:=Bn hF.hl
 have hX:=hv.ex x (getm hx)
 have hm:Mvd v (j77 v j (Exper.mk x.1 x.2 x.3 x.4 2 x.6 x.7 x.8)):=v0o hx ⟨rfl,rfl,rfl,rfl,rfl,rfl,fun _ _ _ h=>h⟩
 refine⟨?_,j7z hE hx rfl rfl rfl hX.claims rfl rfl,hm,hF.hx,List.getElem?_set_self (Qa hx),?_,fun e=>absurd e (show ¬(2:Int)=3 by decide),?_⟩
 ·refine⟨hv.al,hv.sn,hv.sg,hv.fn,hv.fl,hv.ln,hv.ly,?_,z5l hv.ex ⟨hX.key,hX.layer,hX.flag,hX.claims,hX.arms,hX.cond⟩⟩
  show (v.6.set j _).length<=1000
  rw[List.length_set];exact hv.xn
 ·refine j8i hV dx ⟨hF.n0,hF.n1⟩ hm hx rfl rfl (fun _=>⟨by omega,fun q q0 q1 hc u hu m hmm hp=> ?_⟩) (w49 dx dl hm hx rfl rfl rfl fun k=>by omega)
  have e:lof u x.2=some l:=by rcases hu with rfl|rfl<;>exact hl.2.2
  have hmm:lof u x.2=some m:=hmm
  rw[e] at hmm
  cases hmm
  exact hno ⟨q,q0,q1,hc.1,.inl hp⟩
 ·intro l0 hl0 y hy e y3 q q0 q1 hq c hc hv hlt
  obtain⟨i,hi⟩:=List.mem_iff_getElem?.1 hy
  rcases v05 hx hi with ⟨_,rfl⟩|⟨_,hi⟩
  ·exact hcl l0 hl0 x (getm hx) e (by omega) q q0 q1 hq c hc hv hlt
  ·exact hcl l0 hl0 y (getm hi) e y3 q q0 q1 hq c hc hv hlt
theorem v30{v:Envt}{key:ByteArray}{t:Int}{j k:Nat}{x:Exper}{l:Lay_}(hv:EnvK v)(hE:EnvS v)(hV:VOk v)(dx:NdX v)(dl:NdL v)(hcl:ClearP v t)(hF:Fnd v key t j x k l)(h2:x.5=2)(hc:(colV (allC x l t) t).length<=32):ActS v (j0b v j x k l t) key t j x (j78 x):=by
 have hx:=(Gi hF.hx).1
 have hl:=Bn hF.hl
 have hX:=hv.ex x (getm hx)
 have hL:=hv.ly l (getm hl.1)
 have hm:=j8g hF
 refine⟨v0z hv hF hc,?_,hm,hF.hx,List.getElem?_set_self (Qa hx),?_,fun _=>v3w hv hV hF hc,?_⟩
 ·have h1:=j7z (x:=j78 x) hE hx rfl rfl rfl hX.claims rfl rfl
  exact⟨h1.hkind,h1.attrs,h1.slen,h1.segs,h1.flen,h1.flags,by show (v.5.set k _).length<=2;rw[List.length_set];exact hE.llen,z5l hE.layers ⟨hL.key,hL.kind,hL.salt,hL.hold,hL.cool,by simp only;omega⟩,h1.xlen,h1.exps⟩
 ·exact j8i (x':=j78 x) hV dx ⟨hF.n0,hF.n1⟩ hm hx rfl rfl (fun h=>absurd h (show ¬(3:Int)=2 by decide)) (v3y dx dl hF)
 ·intro l0 hl0 y hy e y3 q q0 q1 hq c hc hv hlt
  obtain⟨i,hi⟩:=List.mem_iff_getElem?.1 hy
  rcases v05 (x':=j78 x) hx hi with ⟨_,rfl⟩|⟨hij,hi⟩
  ·exact absurd rfl y3
  ·rcases List.mem_or_eq_of_mem_set hl0 with hl0|rfl
   ·exact hcl l0 hl0 y (getm hi) e y3 q q0 q1 hq c hc hv hlt
   ·have hc:c∈colV (allC x l t) t:=hc
    obtain⟨d,hd,hdv,_⟩:=(j76 q0 q1 hlt).1 ⟨c,hc,hv,Int.le_refl _⟩
    have e:y.2=l.1:=e
    have hold:d∈l.6->False:=fun hd=>hcl l (getm hl.1) y (getm hi) e y3 q q0 q1 hq d hd hdv (by omega)
    unfold allC at hd
    split at hd
    ·rcases List.mem_append.1 hd with hd|hd
     ·exact hold hd
     ·obtain⟨s,hs,rfl⟩:=List.mem_map.1 hd
      exact v3z hV hi hx hij y3 (by omega) (by rw[e];exact hl.2.1) q0 q1 hq (q3i.2 ⟨s,hs,hdv⟩)
    ·exact hold hd
structure Inv(v:Envt)(t:Int):Prop where
 k:EnvK v
 s:EnvS v
 ok:v.6=[]∨VOk v
 dx:NdX v
 dl:NdL v
 xa:j3v Exper.key v.6
 fa:j3v Flg.key v.4
 rk:RkOk rkF v
 cl:ClearP v t
 t0:0<=t
theorem Inv.vok{v:Envt}{t:Int}(h:Inv v t){i:Nat}{x:Exper}(hx:v.6[i]? =some x):VOk v:=h.ok.elim (fun e=>by rw[e] at hx;simp at hx) id
theorem Inv.next{v w:Envt}{t u:Int}{key:ByteArray}{j:Nat}{x x':Exper}(h:Inv v t)(hA:ActS v w key t j x x')(hw:VOk w)(hu:t<=u):Inv w u where
 k:=hA.k
 s:=hA.s
 ok:= .inr hw
 dx:=hA.m.ndX h.dx
 dl:=hA.m.ndL h.dl
 xa i a b ha hb:=by
  obtain⟨a0,h1,e1⟩:=hA.m.ex.at_ ha
  obtain⟨b0,h2,e2⟩:=hA.m.ex.at_ hb
  have:=h.xa i a0 b0 h1 h2
  have e1:a.key=a0.key:=e1.1
  have e2:b.key=b0.key:=e2.1
  rw[e1,e2];exact this
 fa:=by rw[hA.m.fl];exact h.fa
 rk:=by unfold RkOk;rw[hA.m.fl];exact h.rk
 cl:=hA.cl.mono hu
 t0:=by have:=h.t0;omega
theorem y1s:exK.Nodup:=by unfold exK;decide
theorem y1t:lyK.Nodup:=by unfold lyK;decide
theorem v09{v:Envt}{t:Int}(hE:EnvS v)(hD:EnvD v)(hV:v.6=[]∨VOk v)(hc:ClearP v t)(t0:0<=t):Inv v t where
 k:=v0x hE hD
 s:=hE
 ok:=hV
 dx:=y1s.sublist hD.exps
 dl:=by
  show (v.5.map Lay_.key).Nodup
  have e:v.5.map Lay_.key=lyK.take v.5.length:=hD.layers
  rw[e];exact y1t.sublist (List.take_sublist _ _)
 xa:=v40 (y1r hD)
 fa:=v40 (y1q hD)
 rk:=v9w hD hE
 cl:=hc
 t0:=t0
theorem j3w{codes acts:List Int}{now:Int}{K:Bool->Prop}(hc:Byts codes)(ha:Byts acts)(h:K true):Jd codes acts now K:=by
 unfold Jd R4
 refine v0w (Cnd.yes rfl (modK (by decide) (by decide) fun t t0 t1=>w4v hc (by decide) (by decide) fun l hD=> ?_))
 refine z8w (V:=fun v=>v.6=[]∨VOk v) (fun v K hv h=>q7r rkF hv (fun hVk=>h true fun _=> .inr hVk) fun _=>h false fun q=>by cases q) (fun _=> .inl rfl) hD fun v a hE hd hV hD=> ?_
 refine w5a (v:=v) (v0x hE hd).l fun b hb=>Cnd.mk (fun hbt=> ?_) fun _=>h
 have hI:=v09 hE hd hV (hb.1 hbt) t0
 refine w4v ha (by decide) (by decide) fun acts hA=> ?_
 refine LpH.ind (fun (s:Int×Int×ByteArray×ByteArray×Int×List Decl×List Seg×List Flg×List Lay_×List Exper×Unit)=>DS acts s.2.1/\s.1<=220+30*s.2.1/\Inv (Envt.mk (Sett.mk s.2.2.1 s.2.2.2.1 s.2.2.2.2.1) s.2.2.2.2.2.1 s.2.2.2.2.2.2.1 s.2.2.2.2.2.2.2.1 s.2.2.2.2.2.2.2.2.1 s.2.2.2.2.2.2.2.2.2.1) s.1) (fun s=>(acts.length - s.2.1).toNat) ?_ ⟨hA,by simp only;omega,hI⟩
 rintro⟨t,p,salt,hkind,hold,ds,sg,fl,ly,ex,_⟩ ⟨hA,htp,hI⟩
 simp only at hA htp hI⊢
 generalize hve:Envt.mk (Sett.mk salt hkind hold) ds sg fl ly ex=v at hI⊢
 have hv1:v.1.1=salt/\v.1.2=hkind/\v.1.3=hold/\v.2=ds/\v.3=sg/\v.4=fl/\v.5=ly/\v.6=ex:=by rw[←hve];exact⟨rfl,rfl,rfl,rfl,rfl,rfl,rfl,rfl⟩
 obtain⟨e1,e2,e3,e4,e5,e6,e7,e8⟩:=hv1
 subst e1 e2 e3 e4 e5 e6 e7 e8
 clear hve
 unfold q9m
 refine fun _=>Cnd.mk (fun hlt=> ?_) fun _=>h
 have hlt:=of_decide_eq_true hlt
 have hp0:=hA.lo
 have hpl:=hA.len
 have ht0:=hI.t0
 refine w03 hA hlt (by decide) fun r r0 r1 hA=>v7g fun key=> ?_
 refine Jn1.mk (fun (s:Int×ByteArray×ByteArray×Int×List Decl×List Seg×List Flg×List Lay_×List Exper×Int×Unit)=>DS acts s.2.2.2.2.2.2.2.2.2.1/\p+1<=s.2.2.2.2.2.2.2.2.2.1/\(s.1=0-> ∃j x x',ActS v (Envt.mk (Sett.mk s.2.1 s.2.2.1 s.2.2.2.1) s.2.2.2.2.1 s.2.2.2.2.2.1 s.2.2.2.2.2.2.1 s.2.2.2.2.2.2.2.1 s.2.2.2.2.2.2.2.2.1) key t j x x')) ?_ ?_
 ·refine z7d hA (by decide) fun z a z0 z1 hA ha1=>Cnd.mk (fun _=> ?_) fun hz0=>Cnd.mk (fun _=> ?_) fun hz1=>Cnd.mk (fun _=> ?_) fun hz2=>by omega
  ·refine v04 hA (by decide) fun y a y0 y1 hA ha2=>⟨by unfold InI;omega,v9o (v:=v) hI.k ⟨hA,by simp only;omega,fun he=> ?_⟩⟩
   obtain⟨j,x,k,l,hF,h3,_,_,_,e⟩:=v0y he
   exact⟨j,x,_,by rw[e];exact v06 hI.k hI.s (hI.vok (Gi hF.hx).1) hI.dx hI.dl hI.cl hF h3⟩
  ·refine v9p (v:=v) hI.k ⟨hA,by simp only;omega,fun he=> ?_⟩
   obtain⟨j,x,k,l,hF,h1,hno,e⟩:=v07 he
   exact⟨j,x,_,by rw[e];exact v08 hI.k hI.s (hI.vok (Gi hF.hx).1) hI.dx hI.dl hI.cl hF h1 hno⟩
  ·refine y1j (v:=v) hI.k ⟨hA,by simp only;omega,fun he=> ?_⟩
   obtain⟨j,x,k,l,hF,h2,h32,e⟩:=v3q he
   exact⟨j,x,_,by rw[e];exact v30 hI.k hI.s (hI.vok (Gi hF.hx).1) hI.dx hI.dl hI.cl hF h2 h32⟩
 ·rintro⟨e,salt',hkind',hold',ds',sg',fl',ly',ex',a,_⟩ ⟨hA,hpa,hact⟩
  simp only at hA hpa hact⊢
  have back:((DS acts a/\t<=220+30*a/\Inv v t)/\(acts.length - a).toNat<(acts.length - p).toNat):=⟨⟨hA,by omega,hI⟩,by have:=hA.hi;omega⟩
  refine Cnd.mk (fun he=> ?_) fun _=>back
  obtain⟨j,x,x',hS⟩:=hact he
  generalize hwe:Envt.mk (Sett.mk salt' hkind' hold') ds' sg' fl' ly' ex'=w at hS⊢
  have hw1:w.1.1=salt'/\w.1.2=hkind'/\w.1.3=hold'/\w.2=ds'/\w.3=sg'/\w.4=fl'/\w.5=ly'/\w.6=ex':=by rw[←hwe];exact⟨rfl,rfl,rfl,rfl,rfl,rfl,rfl,rfl⟩
  obtain⟨e1,e2,e3,e4,e5,e6,e7,e8⟩:=hw1
  subst e1 e2 e3 e4 e5 e6 e7 e8
  clear hwe
  refine y1g (b:=v) (a:=w) hI.k.l hS.k.l hI.dx (hS.m.ndX hI.dx) ?_
  rw[hS.st]
  have hxj:=(Gi hS.hx).1
  have hxj':=hS.hx'
  have hjl:=Qa hxj'
  refine Cnd.yes rfl (Cnd.yes rfl (v7d (v:=v) hI.k.xn (fun hn=>by rw[hS.hx] at hn;cases hn) fun j2 x2 hx2=> ?_))
  rw[hS.hx] at hx2
  cases hx2
  have hss:=(hS.m.ex.2 j x x' hxj hxj').2.2.2.2.2.2
  refine Cnd.no (by omega) fun _=>Cnd.no (by omega) (atq hxj (atq hxj' (j4p (by have:=(hI.k.ex x (getm hxj)).claims.len;omega) (by have:=(hS.k.ex x' (getm hxj')).claims.len;omega) fun g hg _=>Cnd.no (fun hpos=> ?_) ?_)))
  ·obtain⟨q,q0,q1,hq1,hq2⟩:=hg.nonempty.1 (by omega)
   exact hq2 (hss q q0 q1 hq1)
  have go:VOk w->J0 acts a (30:Int) fun Je w3r=>InI (t+Je)/\q1h w (t+Je) fun w3s=>Cnd (w3s=true) ((DS acts w3r/\t+Je<=220+30*w3r/\Inv w (t+Je))/\(acts.length - w3r).toNat<(acts.length - p).toNat) (K false):=fun hVw=>
   z7d hA (by decide) fun r a2 r0 r1 hA2 ha2=>⟨by unfold InI;have:=hA2.hi;omega,w5a (v:=w) hS.k.l fun b hb=>Cnd.yes (hb.2 (hS.cl.mono (by omega))) ⟨⟨hA2,by omega,hI.next hS hVw (by omega)⟩,by have:=hA2.hi;omega⟩⟩
  refine q7r (v:=w) rkF hS.s (fun hVw=>Cnd.yes rfl (q7r (v:=w) rkF hS.s (fun _=>Cnd.yes rfl (go hVw)) fun _=>Cnd.no (by decide) back)) fun hno=>Cnd.no (by decide) (atq hxj' (Cnd.no (fun h3=>hno ?_) (q7r (v:=w) rkF hS.s (fun hVw=>Cnd.yes rfl (go hVw)) fun _=>Cnd.no (by decide) back)))
  have hVw:=hS.v3 h3
  have hn:=hI.next hS hVw (Int.le_refl t)
  exact⟨hVw,hn.fa,hn.xa,hn.rk⟩
end Go.En
end
