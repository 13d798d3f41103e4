/- CheckConditions: the diagram of a condition stands for its truth by the atoms This is part 5 of 9. Conditions: those in the statements. -/
import Derived.Test.YtlmjknifmlifiaaGreatDoorCo4
noncomputable section
set_option maxRecDepth 100000
namespace Go.En
open Go Go.Fl Go.Fx Go.Dg
theorem Vf{ns:List Nd}{ids:Nd->Option Int}{full:Bool}{id:Int}{K:Bool->List Nd->(Nd->Option Int)->Bool->Prop}(h:K (decide (Ok ns id)) ns ids full):Q4 ns ids full id K:=by
 unfold Q4
 refine⟨fun h1 _=> ?_,fun h1=> ?_⟩
 ·have:decide (id<(ns.length:Int))=decide (Ok ns id):=decide_eq_decide.2 ⟨fun a=>⟨h1,a⟩,fun a=>a.2⟩
  rw[this];exact h
 ·have:decide (Ok ns id)=false:=decide_eq_false fun a=>h1 a.1
  rw[this] at h;exact h
theorem Bo{ns:List Nd}{ids:Nd->Option Int}{full:Bool}{id:Int}{K:Int->List Nd->(Nd->Option Int)->Bool->Prop}(hi:Ok ns id)(h:K (top ns id) ns ids full):Qz ns ids full id K:=by
 unfold Qz
 refine⟨fun hn=> ?_,fun hn=>⟨⟨by omega,hi.2⟩,fun y hy=> ?_⟩⟩
 ·simp only[top,if_pos hn] at h;exact h
 ·simp only[top,if_neg hn,q6z hy] at h;exact h
theorem z5t{ns:List Nd}{ids:Nd->Option Int}{full:Bool}{id t:Int}{K:Int->Int->List Nd->(Nd->Option Int)->Bool->Prop}(hi:Ok ns id)(ht:t<=1000)(h:K (sd ns id t).1 (sd ns id t).2 ns ids full):Qw ns ids full id t K:=by
 unfold Qw
 refine Bo hi ⟨fun he=> ?_,fun he=> ?_⟩
 ·have h0: ¬id<0:=fun hn=>by simp only[top,if_pos hn] at he;omega
  refine⟨⟨by omega,hi.2⟩,fun y hy=>⟨⟨by omega,hi.2⟩,fun z hz=> ?_⟩⟩
  rw[hy] at hz
  cases hz
  simp only[sd,if_pos he,q6z hy] at h
  exact h
 ·simp only[sd,if_neg he] at h;exact h
theorem z18{ns:List Nd}{ids:Nd->Option Int}{full:Bool}{t y n:Int}{K:Int->List Nd->(Nd->Option Int)->Bool->Prop}(hl:ns.length<=4000)
  (h:K (node ns ids full t y n).1 (node ns ids full t y n).2.1 (node ns ids full t y n).2.2.1 (node ns ids full t y n).2.2.2):Qq ns ids full t y n K:=by
 unfold Qq
 by_cases hO:q1x ns t y n
 ·obtain⟨h1,h2,h3,h4,h5,h6⟩:=hO
  refine Cnd.no (by omega) (Cnd.no (by omega) (Vf (Cnd.yes (decide_eq_true h3) (Vf (Cnd.yes (decide_eq_true h4) (Bo h3 (Cnd.no (by omega) (Bo h4 (Cnd.no (by omega) ?_)))))))))
  rw[node,if_pos ⟨h1,h2,h3,h4,h5,h6⟩] at h
  refine⟨fun he=> ?_,fun he=> ?_⟩
  ·rw[if_pos he] at h;exact h
  rw[if_neg he] at h
  cases hid:ids (t,y,n) with
  |some id=>rw[hid] at h;exact Cnd.yes rfl h
  |none=>
   rw[hid] at h
   refine Cnd.no (by simp) fun _=>⟨fun hf=> ?_,fun hf=> ?_⟩
   ·rw[if_pos (by omega)] at h;exact h
   rw[if_neg (by omega)] at h
   have hlen:((ns++[(t,y,n)]).length:Int)=ns.length+1:=by simp
   have e1:((ns++[(t,y,n)]).length:Int) - 1=ns.length:=by omega
   have hs:Sml (ns++[(t,y,n)]).length:=by unfold Sml;simp;omega
   have hi:InI (((ns++[(t,y,n)]).length:Int) - 1):=by constructor<;>omega
   exact⟨hs,fun _=>⟨hi,fun _=>⟨hi,by rw[e1];exact h⟩⟩⟩
 ·rw[z1z hO] at h
  refine⟨fun _=>h,fun h1=>⟨fun _=>h,fun h2=>Vf ⟨fun h3=>Vf ⟨fun h4=>Bo (of_decide_eq_true h3) ⟨fun _=>h,fun h5=>Bo (of_decide_eq_true h4) ⟨fun _=>h,fun h6=> ?_⟩⟩,fun _=>h⟩,fun _=>h⟩⟩⟩
  exact absurd ⟨by omega,by omega,of_decide_eq_true h3,of_decide_eq_true h4,by omega,by omega⟩ hO
theorem z4e{X:List Nd->(Nd->Option Int)->Bool->Int->Int->Int->(Nd->Option Int)->(Int->List Nd->(Nd->Option Int)->Bool->(Nd->Option Int)->Prop)->Prop}{ns:List Nd}{ids:Nd->Option Int}{full:Bool}{f g h:Int}{m:Nd->Option Int}{K:Int->List Nd->(Nd->Option Int)->Bool->(Nd->Option Int)->Prop}(hI:Inv ns ids)(hl:ns.length<=4000)(hf:Ok ns f)(hg:Ok ns g)(hh:Ok ns h)(_:Cond ns f)(hm:Kn ns m)(hn:f<0)
  (hK: ∀r ns' ids' full' m',Cho ns ids full f g h r ns' ids' full'->Kn ns' m'->K r ns' ids' full' m'):Z4 Ud Qz Qw Qq X ns ids full f g h m K:=by
 have mk: ∀r,((f= -2/\r=g)∨(f≠ -2/\r=h))->Cho ns ids full f g h r ns ids full:=by
  rintro r hr
  refine Cho.stay hI hl (.inr ?_)
  rcases hr with ⟨h1,rfl⟩|⟨h1,rfl⟩
  ·exact⟨hg,fun v=>by rw[Zk (id:=f) hn,if_pos (by omega)],by unfold mtop;omega⟩
  ·exact⟨hh,fun v=>by rw[Zk (id:=f) hn,if_neg (by omega)],by unfold mtop;omega⟩
 unfold Z4
 have hf1:=hf.1
 refine⟨⟨by omega,by omega⟩,Cnd.yes hn (Cnd.yes (decide_eq_true hf1) ⟨fun he=>hK _ _ _ _ _ (mk g (.inl ⟨by omega,rfl⟩)) hm,fun he=>hK _ _ _ _ _ (mk h (.inr ⟨by omega,rfl⟩)) hm⟩)⟩
theorem z77: ∀(ns:List Nd) (ids:Nd->Option Int) (full:Bool) (f g h:Int) (m:Nd->Option Int) (K:Int->List Nd->(Nd->Option Int)->Bool->(Nd->Option Int)->Prop),Inv ns ids->ns.length<=4000->Ok ns f->Ok ns g->Ok ns h->Cond ns f->Kn ns m->
  (∀r ns' ids' full' m',Cho ns ids full f g h r ns' ids' full'->Kn ns' m'->K r ns' ids' full' m')->Jw ns ids full f g h m K:=by
 intro ns ids full f g h m K hI hl hf hg hh hc hm hK X hX
 have key: ∀(k:Nat) (ns:List Nd) (ids:Nd->Option Int) (full:Bool) (f g h:Int) (m:Nd->Option Int) (K:Int->List Nd->(Nd->Option Int)->Bool->(Nd->Option Int)->Prop),(1001 - mtop ns f g h).toNat<=k->Inv ns ids->ns.length<=4000->Ok ns f->Ok ns g->Ok ns h->Cond ns f->Kn ns m->
   (∀r ns' ids' full' m',Cho ns ids full f g h r ns' ids' full'->Kn ns' m'->K r ns' ids' full' m')->X ns ids full f g h m K:=by
  intro k
  induction k with
  |zero=>
   intro ns ids full f g h m K hk hI hl hf hg hh hc hm hK
   refine hX _ _ _ _ _ _ _ _ ?_
   have ht:=(q3r hI.nod hf.2)
   have hn:f<0:=by
    refine Int.not_le.1 fun h0=> ?_
    have:=ht.2.2 h0
    unfold mtop at hk;omega
   exact z4e hI hl hf hg hh hc hm hn hK
  |succ k ih=>
   intro ns ids full f g h m K hk hI hl hf hg hh hc hm hK
   refine hX _ _ _ _ _ _ _ _ ?_
   by_cases hn:f<0
   ·exact z4e hI hl hf hg hh hc hm hn hK
   have same: ∀r,(g=h/\r=g)->Cho ns ids full f g h r ns ids full:=by
    rintro r ⟨rfl,rfl⟩
    exact Cho.stay hI hl (.inr ⟨hg,fun v=>by simp,by unfold mtop;omega⟩)
   unfold Z4
   refine⟨by have:=hf.2;constructor<;>omega,Cnd.no hn (Cnd.no (by simp) ⟨fun hgh=>hK _ _ _ _ _ (same g ⟨hgh,rfl⟩) hm,fun hgh=>⟨fun hs=> ?_,fun _=> ?_⟩⟩)⟩
   ·obtain⟨id,hid⟩:=Option.isSome_iff_exists.1 hs
    rw[hid]
    refine hK _ _ _ _ _ (Cho.stay hI hl ?_) hm
    rcases hm f g h id hid with h1|⟨_,_,_,h4,h5,h6⟩
    ·exact .inl h1
    ·exact .inr ⟨h4,h5,h6⟩
   have t0:=q3r hI.nod hf.2
   have t1:=q3r hI.nod hg.2
   have t2:=q3r hI.nod hh.2
   have hft:=t0.2.2 (by omega)
   have ht:mtop ns f g h<=1000:=by unfold mtop;omega
   have ht0:0<=mtop ns f g h:=by unfold mtop;omega
   refine Bo hf (Bo hg (Bo hh ?_))
   rw[show min (min (top ns f) (top ns g)) (top ns h)=mtop ns f g h from rfl]
   refine z5t hf ht (z5t hg ht (z5t hh ht ?_))
   obtain⟨fa,fb,fc,fd,fe⟩:=q5m hI.nod hf ht (by unfold mtop;omega)
   obtain⟨ga,gb,gc,gd,ge⟩:=q5m hI.nod hg ht (by unfold mtop;omega)
   obtain⟨ha,hb,hc',hd,he⟩:=q5m hI.nod hh ht (by unfold mtop;omega)
   have cy:Cond ns (sd ns f (mtop ns f g h)).1:=fun v=>by
    have:=hc (setB v (mtop ns f g h) true)
    rw[fe] at this
    simp only[setB,if_true] at this
    rw[q3s hI.nod fa fc] at this
    exact this
   have cn:Cond ns (sd ns f (mtop ns f g h)).2:=fun v=>by
    have:=hc (setB v (mtop ns f g h) false)
    rw[fe] at this
    simp only[setB,if_true,Bool.false_eq_true,if_false] at this
    rw[q3s hI.nod fb fd] at this
    exact this
   have hty:mtop ns f g h<mtop ns (sd ns f (mtop ns f g h)).1 (sd ns g (mtop ns f g h)).1 (sd ns h (mtop ns f g h)).1:=by
    show _<min (min _ _) _;omega
   have htn:mtop ns f g h<mtop ns (sd ns f (mtop ns f g h)).2 (sd ns g (mtop ns f g h)).2 (sd ns h (mtop ns f g h)).2:=by
    show _<min (min _ _) _;omega
   refine ih _ _ _ _ _ _ _ _ (by omega) hI hl fa ga ha cy hm fun r1 ns1 ids1 full1 m1 C1 hm1=> ?_
   have hp1:=C1.grew.pre
   have hN1:=C1.grew.inv.nod
   have htn1:mtop ns1 (sd ns f (mtop ns f g h)).2 (sd ns g (mtop ns f g h)).2 (sd ns h (mtop ns f g h)).2=mtop ns (sd ns f (mtop ns f g h)).2 (sd ns g (mtop ns f g h)).2 (sd ns h (mtop ns f g h)).2:=z0n hp1 fb gb hb
   refine⟨fun e1=> ?_,fun e1=> ?_⟩
   ·refine hK _ _ _ _ _ ⟨⟨C1.grew.inv,C1.grew.pre,C1.grew.len,C1.grew.room,by have:=C1.grew.len;omega⟩,fun b hb0=>⟨(C1.few b hb0).1,?_⟩,?_,fun S d1 d2 d3=> ?_,(Sid.one hI.nod hf hg hh ht C1).2⟩ hm1
    ·have h1:=(C1.few b hb0).2
     have p1:=Nat.pow_le_pow_right (show 0<2 by omega) (show (b - mtop ns (sd ns f (mtop ns f g h)).1 (sd ns g (mtop ns f g h)).1 (sd ns h (mtop ns f g h)).1).toNat<=(b - mtop ns f g h).toNat by omega)
     omega
    ·rcases C1.res with h1|h1
     ·exact .inl ⟨rfl,h1.2⟩
     ·have:=h1.1.1;omega
    ·have h1:=(Sid.one hI.nod hf hg hh ht C1).1 S d1 d2 d3
     have p1:=Nat.pow_le_pow_right (show 0<2 by omega) (q7t (S:=S) (show mtop ns f g h<=mtop ns f g h+1 by omega))
     omega
   refine ih _ _ _ _ _ _ _ _ (by rw[htn1];omega) C1.grew.inv C1.grew.len (fb.pre hp1) (gb.pre hp1) (hb.pre hp1) (fun v=>by rw[Zi hI.nod hN1 hp1 fb];exact cn v) hm1 fun r2 ns2 ids2 full2 m2 C2 hm2=> ?_
   have hp2:=C2.grew.pre
   have hN2:=C2.grew.inv.nod
   have hp:=hp1.trans hp2
   have few2: ∀b,Tb ns b->Tb ns2 b/\ns2.length+2<=ns.length+2 ^ (b - mtop ns f g h).toNat:=fun b hb0=>by
    obtain⟨a1,a2⟩:=C1.few b hb0
    obtain⟨a3,a4⟩:=C2.few b a1
    rw[htn1] at a4
    have hlt:mtop ns f g h<b:=by
     have hq:=hb0 f (by omega) hf.2
     have:top ns f=(nd ns f).1:=by simp only[top,if_neg hn]
     unfold mtop;omega
    refine⟨a3,?_⟩
    have e:2 ^ (b - mtop ns f g h).toNat=2*2 ^ (b - mtop ns f g h - 1).toNat:=by
     rw[show (b - mtop ns f g h).toNat=(b - mtop ns f g h - 1).toNat+1 by omega,Nat.pow_succ];omega
    have p1:=Nat.pow_le_pow_right (show 0<2 by omega) (show (b - mtop ns (sd ns f (mtop ns f g h)).1 (sd ns g (mtop ns f g h)).1 (sd ns h (mtop ns f g h)).1).toNat<=(b - mtop ns f g h - 1).toNat by omega)
    have p2:=Nat.pow_le_pow_right (show 0<2 by omega) (show (b - mtop ns (sd ns f (mtop ns f g h)).2 (sd ns g (mtop ns f g h)).2 (sd ns h (mtop ns f g h)).2).toNat<=(b - mtop ns f g h - 1).toNat by omega)
    omega
   have gr2:Grew ns ids full 4000 ns2 ids2 full2:=by
    have:=C1.grew.trans C2.grew (Nat.le_refl _)
    exact⟨this.inv,this.pre,this.len,this.room,by have:=this.len;omega⟩
   have sid:=Sid.two hI.nod hf hg hh ht C1 C2
   have bad:ns2.length=4000->Cho ns ids full f g h (-1002) ns2 ids2 full2:=fun hb0=>⟨gr2,fun b hb1=>⟨(few2 b hb1).1,by have:=(few2 b hb1).2;omega⟩,.inl ⟨rfl,hb0⟩,fun S d1 d2 d3=>by have:=sid.dep S d1 d2 d3;omega,sid.cof⟩
   have full2':r2= -1002->ns2.length=4000:=fun e=>by
    rcases C2.res with h1|h1
    ·exact h1.2
    ·have:=h1.1.1;omega
   refine⟨fun e2=>hK _ _ _ _ _ (bad (full2' e2)) hm2,fun e2=> ?_⟩
   have o1:Ok ns1 r1/\Cse ns1 (sd ns f (mtop ns f g h)).1 (sd ns g (mtop ns f g h)).1 (sd ns h (mtop ns f g h)).1 r1/\mtop ns (sd ns f (mtop ns f g h)).1 (sd ns g (mtop ns f g h)).1 (sd ns h (mtop ns f g h)).1<=top ns1 r1:=by
    rcases C1.res with h1|h1
    ·exact absurd h1.1 e1
    ·exact h1
   have o2:Ok ns2 r2/\Cse ns2 (sd ns f (mtop ns f g h)).2 (sd ns g (mtop ns f g h)).2 (sd ns h (mtop ns f g h)).2 r2/\mtop ns1 (sd ns f (mtop ns f g h)).2 (sd ns g (mtop ns f g h)).2 (sd ns h (mtop ns f g h)).2<=top ns2 r2:=by
    rcases C2.res with h1|h1
    ·exact absurd h1.1 e2
    ·exact h1
   have o1t:top ns2 r1=top ns1 r1:=B7 hp2 o1.1.2
   have hO:q1x ns2 (mtop ns f g h) r1 r2:=⟨ht0,ht,o1.1.pre hp2,o2.1,by rw[o1t];have:=o1.2.2;omega,by have:=o2.2.2;rw[htn1] at this;omega⟩
   refine z18 C2.grew.len ?_
   obtain⟨hg3,htb,hres⟩:=z1y C2.grew.inv C2.grew.len hO (r:=(node ns2 ids2 full2 (mtop ns f g h) r1 r2).1) (ns':=(node ns2 ids2 full2 (mtop ns f g h) r1 r2).2.1) (ids':=(node ns2 ids2 full2 (mtop ns f g h) r1 r2).2.2.1) (full':=(node ns2 ids2 full2 (mtop ns f g h) r1 r2).2.2.2) rfl
   have hne:node ns2 ids2 full2 (mtop ns f g h) r1 r2=((node ns2 ids2 full2 (mtop ns f g h) r1 r2).1,(node ns2 ids2 full2 (mtop ns f g h) r1 r2).2.1,(node ns2 ids2 full2 (mtop ns f g h) r1 r2).2.2.1,(node ns2 ids2 full2 (mtop ns f g h) r1 r2).2.2.2):=rfl
   generalize (node ns2 ids2 full2 (mtop ns f g h) r1 r2).1=r3 at hg3 htb hres hne
   generalize (node ns2 ids2 full2 (mtop ns f g h) r1 r2).2.1=ns3 at hg3 htb hres hne
   generalize (node ns2 ids2 full2 (mtop ns f g h) r1 r2).2.2.1=ids3 at hg3 htb hres hne
   generalize (node ns2 ids2 full2 (mtop ns f g h) r1 r2).2.2.2=full3 at hg3 htb hres hne
   have hp3:=hp.trans hg3.pre
   have hN3:=hg3.inv.nod
   have hr3:(r3= -1002/\ns3.length=4000)∨(Ok ns3 r3/\Cse ns3 f g h r3/\mtop ns f g h<=top ns3 r3):=by
    rcases hres with h1|⟨_,h1,h2,h3⟩
    ·exact .inl ⟨h1.1,h1.2.1⟩
    ·refine .inr ⟨h1,fun v=> ?_,h2⟩
     rw[h3,Zi hI.nod hN3 hp3 hf,Zi hI.nod hN3 hp3 hg,Zi hI.nod hN3 hp3 hh,fe,ge,he]
     cases v (mtop ns f g h) with
     |true=>
      simp only[if_true]
      rw[Zi hN1 hN2 hp2 o1.1,o1.2.1,Zi hI.nod hN1 hp1 fa,Zi hI.nod hN1 hp1 ga,Zi hI.nod hN1 hp1 ha]
     |false=>
      simp only[Bool.false_eq_true,if_false]
      rw[o2.2.1,Zi hI.nod hN2 hp fb,Zi hI.nod hN2 hp gb,Zi hI.nod hN2 hp hb]
   have hcho:Cho ns ids full f g h r3 ns3 ids3 full3:=by
    have sn:=Sid.node hI.nod hf hg hh sid hN2 hN3 hg3.pre hp3 hne hg3.most hr3
    refine⟨?_,fun b hb0=>⟨?_,?_⟩,hr3,sn.1,sn.2⟩
    ·have:=gr2.trans hg3 (Nat.le_refl _)
     exact⟨this.inv,this.pre,this.len,this.room,by have:=this.len;omega⟩
    ·have hlt:mtop ns f g h<b:=by
      have hq:=hb0 f (by omega) hf.2
      have:top ns f=(nd ns f).1:=by simp only[top,if_neg hn]
      unfold mtop;omega
     exact htb b (few2 b hb0).1 hlt
    ·have:=(few2 b hb0).2
     have:=hg3.most
     omega
   refine hK _ _ _ _ _ hcho (Kn.put (hm2.pre hN2 hN3 hg3.pre hg3.len) ?_)
   rcases hr3 with h1|⟨h1,h2,h3⟩
   ·exact .inl h1
   ·exact .inr ⟨hf.pre hp3,hg.pre hp3,hh.pre hp3,h1,h2,by rw[z0n hp3 hf hg hh];exact h3⟩
 exact key _ ns ids full f g h m K (Nat.le_refl _) hI hl hf hg hh hc hm hK
theorem j1i{ns:List Nd}{ids:Nd->Option Int}{full:Bool}{id:Int}{K:(Int->Option Bool)->List Nd->(Nd->Option Int)->Bool->Prop}(hN:Nod ns)(hid:Ok ns id)(h: ∀F,Rc ns id F->K F ns ids full):
  Zv ns ids full id K:=by
 unfold Zv
 refine Vf (Cnd.yes (decide_eq_true hid) ?_)
 intro X hX
 have key: ∀(k:Nat) (id:Int) (n:Nat) (F:Int->Option Bool) (K:(Int->Option Bool)×Unit->Prop),id<k->Ok ns id->Tr F->
   (∀F',Tr F'->(∀x,(F x).isSome=true->(F' x).isSome=true)->(F' id).isSome=true->(∀x,(F' x).isSome=true->(F x).isSome=true∨Rch ns id x)->
    (∀x,(F' x).isSome=true->(F x).isSome=true∨(0<=x->(F' (nd ns x).2.1).isSome=true/\(F' (nd ns x).2.2).isSome=true))->K (F',()))->X n (id,F,()) K:=by
  intro k
  induction k with
  |zero=>
   intro id n F K hk hid hF hK
   refine hX _ _ _ ⟨fun hs=>hK F hF (fun _ h=>h) ((hF.get).1 hs) (fun x h=> .inl h) fun x h=> .inl h,fun hs=>Cnd.no (show ¬0<=id by omega) ?_⟩
   refine hK _ (hF.put id) (fun x h=>Zq.2 (.inr h)) (Zq.2 (.inl rfl)) (fun x h=> ?_) fun x h=> ?_
   ·rcases Zq.1 h with rfl|h
    ·exact .inr (.self _)
    ·exact .inl h
   ·rcases Zq.1 h with rfl|h
    ·exact .inr fun h0=>by omega
    ·exact .inl h
  |succ k ih=>
   intro id n F K hk hid hF hK
   refine hX _ _ _ ⟨fun hs=>hK F hF (fun _ h=>h) ((hF.get).1 hs) (fun x h=> .inl h) fun x h=> .inl h,fun hs=>⟨fun h0=> ?_,fun h0=> ?_⟩⟩
   ·have h0:0<=id:=h0
    obtain⟨k1,k2,k3,k4⟩:=kids hN hid h0
    refine⟨⟨h0,hid.2⟩,fun y hy=> ?_⟩
    have ey:nd ns id=y:=q6z hy
    refine ih _ _ _ _ (by rw[←ey];omega) (by rw[←ey];exact k1) (hF.put id) fun F1 t1 s1 i1 r1 c1=>⟨⟨h0,hid.2⟩,fun z hz=> ?_⟩
    have hz:ns[id.toNat]? =some z:=hz
    rw[hy] at hz
    cases hz
    refine ih _ _ _ _ (by rw[←ey];omega) (by rw[←ey];exact k2) t1 fun F2 t2 s2 i2 r2 c2=> ?_
    rw[←ey] at i1 r1 i2 r2
    refine hK F2 t2 (fun x h=>s2 x (s1 x (Zq.2 (.inr h)))) (s2 _ (s1 _ (Zq.2 (.inl rfl)))) (fun x h=> ?_) fun x h=> ?_
    ·rcases r2 x h with h|h
     ·rcases r1 x h with h|h
      ·rcases Zq.1 h with rfl|h
       ·exact .inr (.self _)
       ·exact .inl h
      ·exact .inr (.yes h0 h)
     ·exact .inr (.no h0 h)
    ·rcases c2 x h with h|h
     ·rcases c1 x h with h|h
      ·rcases Zq.1 h with rfl|h
       ·exact .inr fun _=>⟨s2 _ i1,i2⟩
       ·exact .inl h
      ·exact .inr fun hx=>⟨s2 _ (h hx).1,s2 _ (h hx).2⟩
     ·exact .inr h
   ·refine hK _ (hF.put id) (fun x h=>Zq.2 (.inr h)) (Zq.2 (.inl rfl)) (fun x h=> ?_) fun x h=> ?_
    ·rcases Zq.1 h with rfl|h
     ·exact .inr (.self _)
     ·exact .inl h
    ·rcases Zq.1 h with rfl|h
     ·exact .inr fun h1=>absurd h1 h0
     ·exact .inl h
 refine key (id.toNat+1) id _ _ _ (by omega) hid Tr.nil fun F t s i r c=>h F ⟨t,fun x=>⟨fun hx=> ?_,fun hx=> ?_⟩⟩
 ·rcases r x hx with h|h
  ·cases h
  ·exact h
 ·exact hx.sub i fun x hx=>(c x hx).resolve_left (by simp)
theorem z78{ns:List Nd}{ids:Nd->Option Int}{full:Bool}{id:Int}{K:(Int->Option Bool)->List Nd->(Nd->Option Int)->Bool->Prop}(hid: ¬Ok ns id)(h:K (fun _=>none) ns ids full):Zv ns ids full id K:=by
 unfold Zv
 exact Vf (Cnd.no (by simpa using hid) h)
theorem z79{ns:List Nd}{ids:Nd->Option Int}{full:Bool}{id:Int}{K:List Int->List Nd->(Nd->Option Int)->Bool->Prop}(hN:Nod ns)(hl:ns.length<=4000)(h: ∀l,Lvs ns id l->K l ns ids full):Z3 ns ids full id K:=by
 unfold Z3
 by_cases hid:Ok ns id
 ·refine j1i hN hid fun F hF=>⟨fun ks hks=> ?_,fun x hx=> ?_,fun l h1 h2=>h l ⟨h1,fun n=>by rw[h2,hF.2];exact⟨fun a=>⟨hid,a⟩,fun a=>a.2⟩⟩⟩
  ·have:=j3v (l':=univ ns) hks.1 fun x hx=>z6x (((hF.2 x).1 ((hks.2 x).1 hx)).ok hN hid)
   have e:(univ ns).length=ns.length+1001:=by simp[univ]
   unfold Sml
   omega
  ·have:=((hF.2 x).1 hx).ok hN hid
   have h1:=this.1
   have h2:=this.2
   constructor<;>omega
 ·exact z78 hid ⟨fun ks hks=>by
   have:ks=[]:=List.eq_nil_iff_forall_not_mem.2 fun x hx=>by have:=(hks.2 x).1 hx;simp at this
   subst this;unfold Sml;simp,fun x hx=>by simp at hx,fun l h1 h2=>h l ⟨h1,fun n=>by rw[h2];simp[hid]⟩⟩
def hold(hs:List Bool)(t:Int):Bool:=decide (0<=t) && decide (t<hs.length) && hs.getD t.toNat false
theorem j7n{ns:List Nd}{ids:Nd->Option Int}{full:Bool}{id:Int}{hs:List Bool}{K:Int->List Nd->(Nd->Option Int)->Bool->Prop}(hN:Nod ns)(h:K (if Ok ns id then ev ns (hold hs) id else -1) ns ids full):Ha ns ids full id hs K:=by
 unfold Ha
 by_cases hid:Ok ns id
 ·rw[if_pos hid] at h
  refine q1y (Cnd.yes (decide_eq_true hid) ?_)
  refine Lp1.ind (fun x=>Ok ns x/\ev ns (hold hs) x=ev ns (hold hs) id) (fun x=>(x+1).toNat) (fun x hx=> ?_) ⟨hid,rfl⟩
  obtain⟨hx,he⟩:=hx
  refine⟨fun h0=>⟨⟨h0,hx.2⟩,fun y hy _=> ?_⟩,fun h0=> ?_⟩
  ·have h0:0<=x:=h0
   have ey:=q6z hy
   obtain⟨k1,k2,k3,k4⟩:=kids hN hx h0
   obtain⟨t0,_⟩:=hN.nod x h0 hx.2
   rw[Ux hN h0 hx.2] at he
   rw[ey] at k1 k2 k3 k4 he t0
   refine⟨fun hlt=>⟨⟨t0,hlt⟩,fun b hb=> ?_⟩,fun hlt=> ?_⟩
   ·have hb':hold hs y.1=b:=by
     unfold hold
     rw[decide_eq_true t0,decide_eq_true hlt,List.getD_eq_getElem?_getD,hb]
     rfl
    rw[hb'] at he
    refine⟨fun e=> ?_,fun e=> ?_⟩
    ·rw[if_pos e] at he;exact⟨⟨k1,he⟩,by omega⟩
    ·rw[if_neg e] at he;exact⟨⟨k2,he⟩,by omega⟩
   ·have hb':hold hs y.1=false:=by simp[hold,hlt]
    rw[hb'] at he
    exact⟨⟨k2,he⟩,by omega⟩
  ·have hn:x<0:=by omega
   rw[Zk hn] at he
   refine⟨by have:=hx.1;constructor<;>omega,?_⟩
   rw[he];exact h
 ·rw[if_neg hid] at h
  exact q1y (Cnd.no (by simpa using hid) h)
theorem z19{ns:List Nd}{ids:Nd->Option Int}{full:Bool}{id:Int}{K:Bool->List Nd->(Nd->Option Int)->Bool->Prop}(hN:Nod ns)(hl:ns.length<=4000)(h: ∀b,(b=true↔Ok ns id/\Cond ns id)->K b ns ids full):Q6 ns ids full id K:=by
 unfold Q6
 by_cases hid:Ok ns id
 ·refine Vf (Cnd.yes (decide_eq_true hid) (z79 hN hl fun l hL=> ?_))
  have hc:=z6z hN hid hL
  intro hlen
  refine Lp1.ind (fun i:Int=>0<=i/\i<=l.length/\ ∀j:Nat,j<i.toNat-> ∀n,l[j]? =some n->n<=1) (fun i:Int=>l.length - i.toNat) (fun i hi=> ?_) ⟨by omega,by omega,fun j hj=>by omega⟩
  obtain⟨h0,h1,h2⟩:=hi
  refine⟨fun hlt=>⟨⟨h0,hlt⟩,fun y hy=>⟨fun h3=> ?_,fun h3=>⟨⟨by omega,by omega⟩,⟨by omega,by omega,fun j hj n hn=> ?_⟩,by omega⟩⟩⟩,fun hlt=>h true ⟨fun _=>⟨hid,hc.2 fun n hn=> ?_⟩,fun _=>rfl⟩⟩
  ·rw[show decide (0<=i)=true from decide_eq_true h0]
   exact h false ⟨fun e=>(by cases e),fun a=>by have:=hc.1 a.2 y (List.mem_of_getElem? hy);omega⟩
  ·by_cases hji:j=i.toNat
   ·subst hji;rw[hy] at hn;cases hn;omega
   ·exact h2 j (by omega) n hn
  ·obtain⟨j,hj⟩:=List.mem_iff_getElem?.1 hn
   exact h2 j (by have:=(List.getElem?_eq_some_iff.1 hj).1;omega) n hj
 ·exact Vf (Cnd.no (by simpa using hid) (h false ⟨fun e=>(by cases e),fun a=>absurd a.1 hid⟩))
theorem q6n{ns:List Nd}{ids:Nd->Option Int}{full:Bool}{f g h:Int}{K:Int->List Nd->(Nd->Option Int)->Bool->Prop}(hI:Inv ns ids)(hl:ns.length<=4000)
  (hK: ∀r ns' ids' full',ChR ns ids full f g h r ns' ids' full'->K r ns' ids' full'):Zl ns ids full f g h K:=by
 unfold Zl
 refine z19 hI.nod hl fun b hb=>⟨fun hbt=> ?_,fun hbt=> ?_⟩
 ·obtain⟨hf,hc⟩:=hb.1 hbt
  refine Vf ⟨fun hg=>Vf ⟨fun hh=> ?_,fun hh=> ?_⟩,fun hg=> ?_⟩
  ·exact z77 _ _ _ _ _ _ _ _ hI hl hf (of_decide_eq_true hg) (of_decide_eq_true hh) hc (Kn.nil ns) fun r ns' ids' full' m' C _=>hK _ _ _ _ (.inl ⟨hf,hc,of_decide_eq_true hg,of_decide_eq_true hh,C⟩)
  ·exact hK _ _ _ _ (.inr ⟨fun a=>hh (decide_eq_true a.2.2.2),rfl,rfl,rfl,rfl⟩)
  ·exact hK _ _ _ _ (.inr ⟨fun a=>hg (decide_eq_true a.2.2.1),rfl,rfl,rfl,rfl⟩)
 ·exact hK _ _ _ _ (.inr ⟨fun a=>hbt (hb.2 ⟨a.1,a.2.1⟩),rfl,rfl,rfl,rfl⟩)
theorem Js{ns:List Nd}{ids:Nd->Option Int}{full:Bool}{n:Int}{K:Int->List Nd->(Nd->Option Int)->Bool->Prop}(h:K (if 0<=n/\n<=1000 then -1 - n else -1002) ns ids full):Qp ns ids full n K:=by
 unfold Qp
 refine⟨fun h1=> ?_,fun h1=>⟨fun h2=> ?_,fun h2=>⟨⟨by omega,by omega⟩,?_⟩⟩⟩
 ·rw[if_neg (by omega)] at h;exact h
 ·rw[if_neg (by omega)] at h;exact h
 ·rw[if_pos (by omega)] at h;exact h
theorem j1j{ns:List Nd}{ids:Nd->Option Int}{full:Bool}{f g:Int}{K:Int->List Nd->(Nd->Option Int)->Bool->Prop}(hI:Inv ns ids)(hl:ns.length<=4000)
  (hK: ∀r ns' ids' full',OpR (Ok ns f/\Cond ns f/\Ok ns g/\Cond ns g) ns ids full f g (-1) r ns' ids' full'->K r ns' ids' full'):Zt ns ids full f g K:=by
 unfold Zt
 refine z19 hI.nod hl fun b hb=>⟨fun hbt=> ?_,fun hbt=> ?_⟩
 ·refine Js (q6n hI hl fun r ns' ids' full' C=>hK _ _ _ _ ?_)
  rcases C with ⟨a1,a2,a3,a4,a5⟩|⟨a1,a2⟩
  ·exact .inl ⟨⟨a1,a2,hb.1 hbt⟩,a5⟩
  ·exact .inr ⟨fun a=>a1 ⟨a.1,a.2.1,a.2.2.1,⟨by omega,by omega⟩⟩,a2⟩
 ·exact hK _ _ _ _ (.inr ⟨fun a=>hbt (hb.2 a.2.2),rfl,rfl,rfl,rfl⟩)
theorem j4v{ns:List Nd}{ids:Nd->Option Int}{full:Bool}{f g:Int}{K:Int->List Nd->(Nd->Option Int)->Bool->Prop}(hI:Inv ns ids)(hl:ns.length<=4000)
  (hK: ∀r ns' ids' full',OpR (Ok ns f/\Cond ns f/\Ok ns g/\Cond ns g) ns ids full f (-2) g r ns' ids' full'->K r ns' ids' full'):Zm ns ids full f g K:=by
 unfold Zm
 refine z19 hI.nod hl fun b hb=>⟨fun hbt=> ?_,fun hbt=> ?_⟩
 ·refine Js (q6n hI hl fun r ns' ids' full' C=>hK _ _ _ _ ?_)
  rcases C with ⟨a1,a2,a3,a4,a5⟩|⟨a1,a2⟩
  ·exact .inl ⟨⟨a1,a2,hb.1 hbt⟩,a5⟩
  ·exact .inr ⟨fun a=>a1 ⟨a.1,a.2.1,⟨by omega,by omega⟩,a.2.2.1⟩,a2⟩
 ·exact hK _ _ _ _ (.inr ⟨fun a=>hbt (hb.2 a.2.2),rfl,rfl,rfl,rfl⟩)
theorem j1k{ns:List Nd}{ids:Nd->Option Int}{full:Bool}{f:Int}{K:Int->List Nd->(Nd->Option Int)->Bool->Prop}(hI:Inv ns ids)(hl:ns.length<=4000)
  (hK: ∀r ns' ids' full',OpR (Ok ns f/\Cond ns f) ns ids full f (-1) (-2) r ns' ids' full'->K r ns' ids' full'):Zu ns ids full f K:=by
 unfold Zu
 refine Js (Js (q6n hI hl fun r ns' ids' full' C=>hK _ _ _ _ ?_))
 rcases C with ⟨a1,a2,a3,a4,a5⟩|⟨a1,a2⟩
 ·exact .inl ⟨⟨a1,a2⟩,a5⟩
 ·exact .inr ⟨fun a=>a1 ⟨a.1,a.2,⟨by omega,by omega⟩,⟨by omega,by omega⟩⟩,a2⟩
theorem j7o{ns:List Nd}{ids:Nd->Option Int}{full:Bool}{id:Int}{hs:List Bool}{K:Int->List Nd->(Nd->Option Int)->Bool->Prop}(hN:Nod ns)(h:K (if Ok ns id then ev ns (hold hs) id else -1) ns ids full):Vl ns ids full id hs K:=by
 unfold Vl
 by_cases hid:Ok ns id
 ·rw[if_pos hid] at h
  refine Vf (Cnd.yes (decide_eq_true hid) ?_)
  refine Lp1.ind (fun x=>Ok ns x/\ev ns (hold hs) x=ev ns (hold hs) id) (fun x=>(x+1).toNat) (fun x hx=> ?_) ⟨hid,rfl⟩
  obtain⟨hx,he⟩:=hx
  refine⟨fun h0=>⟨⟨h0,hx.2⟩,fun y hy _=> ?_⟩,fun h0=> ?_⟩
  ·have h0:0<=x:=h0
   have ey:=q6z hy
   obtain⟨k1,k2,k3,k4⟩:=kids hN hx h0
   obtain⟨t0,_⟩:=hN.nod x h0 hx.2
   rw[Ux hN h0 hx.2] at he
   rw[ey] at k1 k2 k3 k4 he t0
   refine⟨fun hlt=>⟨⟨t0,hlt⟩,fun b hb=> ?_⟩,fun hlt=> ?_⟩
   ·have hb':hold hs y.1=b:=by
     unfold hold
     rw[decide_eq_true t0,decide_eq_true hlt,List.getD_eq_getElem?_getD,hb]
     rfl
    rw[hb'] at he
    refine⟨fun e=> ?_,fun e=> ?_⟩
    ·rw[if_pos e] at he;exact⟨⟨k1,he⟩,by omega⟩
    ·rw[if_neg e] at he;exact⟨⟨k2,he⟩,by omega⟩
   ·have hb':hold hs y.1=false:=by simp[hold,hlt]
    rw[hb'] at he
    exact⟨⟨k2,he⟩,by omega⟩
  ·have hn:x<0:=by omega
   rw[Zk hn] at he
   refine⟨by have:=hx.1;constructor<;>omega,?_⟩
   rw[he];exact h
 ·rw[if_neg hid] at h
  exact Vf (Cnd.no (by simpa using hid) h)
end Go.En
end
noncomputable section
set_option maxRecDepth 100000
namespace Go.En
open Go Go.Fl Go.Fl.Lk Go.Fx Go.Dg
structure Gx(ns:List Nd)(full:Bool)(ns':List Nd)(ids':Nd->Option Int)(full':Bool):Prop where
 inv:Inv ns' ids'
 pre:ns<+:ns'
 len:ns'.length<=4000
 room:full'=full∨ns'.length=4000
theorem Gx.refl{ns:List Nd}{ids:Nd->Option Int}{full:Bool}(hI:Inv ns ids)(hl:ns.length<=4000):Gx ns full ns ids full:=⟨hI,List.prefix_refl _,hl,.inl rfl⟩
theorem Gx.trans{a b c:List Nd}{i j:Nd->Option Int}{f g h:Bool}(x:Gx a f b i g)(y:Gx b g c j h):Gx a f c j h:=by
 refine⟨y.inv,x.pre.trans y.pre,y.len,?_⟩
 rcases y.room with e|e
 ·rcases x.room with e'|e'
  ·exact .inl (e.trans e')
  ·have:=y.pre.length_le
   have:=y.len
   exact .inr (by omega)
 ·exact .inr e
def Mx(ns:List Nd)(F:(Int->Bool)->Bool)(S:List Int)(id:Int):Prop:=(id= -1002/\ns.length=4000)∨Dgm ns F S id
theorem Mx.pre{ns ns':List Nd}{F:(Int->Bool)->Bool}{S:List Int}{id:Int}(h:Mx ns F S id)(hN:Nod ns)(hN':Nod ns')(hp:ns<+:ns')(hl:ns'.length<=4000):Mx ns' F S id:=h.imp (fun e=>⟨e.1,by have:=hp.length_le;omega⟩) fun h=>h.pre hN hN' hp
theorem Mx.wide{ns:List Nd}{F:(Int->Bool)->Bool}{S S':List Int}{id:Int}(h:Mx ns F S id)(hs: ∀x∈S,x∈S'):Mx ns F S' id:=h.imp (fun e=>e) fun h=>h.wide hs
theorem Mx.eq{ns:List Nd}{F G:(Int->Bool)->Bool}{S:List Int}{id:Int}(h:Mx ns F S id)(e: ∀v,G v=F v):Mx ns G S id:=h.imp (fun e=>e) fun h=>⟨h.ok,fun v=>by rw[e];exact h.ev v,fun v v' k=>by rw[e,e];exact h.dep v v' k⟩
theorem Mx.dgm{ns:List Nd}{F:(Int->Bool)->Bool}{S:List Int}{id:Int}(h:Mx ns F S id)(hl:ns.length<4000):Dgm ns F S id:=h.resolve_left fun e=>by omega
def i01(F:(Int->Bool)->Bool):(Int->Bool)->Int:=fun v=>if F v=true then 1 else 0
def Few(ns ms:List Nd)(k:Nat):Prop:= ∃X:List Int,X.length<=k/\ ∀i:Int,0<=i->i<ns.length->i∈X∨Hol ms fun v=>ev ns v i
theorem Few.nil(ms:List Nd):Few [] ms 0:=⟨[],Nat.le_refl _,fun i h0 h1=>by simp at h1;omega⟩
theorem Few.le{ns ms:List Nd}{k k':Nat}(h:Few ns ms k)(hk:k<=k'):Few ns ms k':=by
 obtain⟨X,a,b⟩:=h
 exact⟨X,Nat.le_trans a hk,b⟩
theorem Few.old{ns ns' ms:List Nd}{k:Nat}(h:Few ns ms k)(hN:Nod ns)(hN':Nod ns')(hp:ns<+:ns')(new: ∀i:Int,ns.length<=i->i<ns'.length->Hol ms fun v=>ev ns' v i):Few ns' ms k:=by
 obtain⟨X,a,b⟩:=h
 refine⟨X,a,fun i h0 h1=> ?_⟩
 rcases Int.lt_or_le i ns.length with hi|hi
 ·refine (b i h0 hi).imp id fun q=> ?_
  obtain⟨j,ok,e⟩:=q
  exact⟨j,ok,fun v=>by show Go.Dg.ev ms v j=Go.Dg.ev ns' v i;rw[Zi hN hN' hp ⟨by omega,hi⟩];exact e v⟩
 ·exact .inr (new i hi h1)
theorem Few.new{ns ns' ms:List Nd}{k m:Nat}(h:Few ns ms k)(hN:Nod ns)(hN':Nod ns')(hp:ns<+:ns')(hm:ns'.length<=ns.length+m):Few ns' ms (k+m):=by
 obtain⟨X,a,b⟩:=h
 refine⟨X++(List.range m).map fun j:Nat=>(ns.length:Int)+j,by simp;omega,fun i h0 h1=> ?_⟩
 rcases Int.lt_or_le i ns.length with hi|hi
 ·rcases b i h0 hi with q|⟨j,ok,e⟩
  ·exact .inl (List.mem_append_left _ q)
  ·exact .inr ⟨j,ok,fun v=>by show Go.Dg.ev ms v j=Go.Dg.ev ns' v i;rw[Zi hN hN' hp ⟨by omega,hi⟩];exact e v⟩
 ·refine .inl (List.mem_append_right _ (List.mem_map.2 ⟨(i - ns.length).toNat,List.mem_range.2 (by omega),by omega⟩))
structure Chx(ns:List Nd)(full:Bool)(m:Nat)(F:(Int->Bool)->Bool)(ns':List Nd)(ids':Nd->Option Int)(full':Bool):Prop where
 gx:Gx ns full ns' ids' full'
 few:ns'.length<=ns.length+m
 old: ∀ms k,Nod ms->Few ns ms k->Hol ms (i01 F)->Few ns' ms k
theorem Chx.new{ns:List Nd}{ids:Nd->Option Int}{full:Bool}{m:Nat}{F:(Int->Bool)->Bool}{ns':List Nd}{ids':Nd->Option Int}{full':Bool}(h:Chx ns full m F ns' ids' full')(hI:Inv ns ids){ms:List Nd}{k:Nat}(hf:Few ns ms k):Few ns' ms (k+m):=hf.new hI.nod h.gx.inv.nod h.gx.pre h.few
theorem Chx.stay{ns:List Nd}{ids:Nd->Option Int}{full:Bool}(hI:Inv ns ids)(hl:ns.length<=4000)(m:Nat)(F:(Int->Bool)->Bool):Chx ns full m F ns ids full:=⟨Gx.refl hI hl,by omega,fun _ _ _ h _=>h⟩
theorem j7p{ns:List Nd}{ids:Nd->Option Int}{full:Bool}{f g h r:Int}{ns':List Nd}{ids':Nd->Option Int}{full':Bool}(C:Cho ns ids full f g h r ns' ids' full')(hI:Inv ns ids){F G H Q:(Int->Bool)->Bool}{S:List Int}(hf:Dgm ns F S f)(hg:Dgm ns G S g)(hh:Dgm ns H S h)
  (hQ: ∀v,Q v=if F v=true then G v else H v):Chx ns full (2 ^ S.length) Q ns' ids' full'/\Mx ns' Q S r:=by
 have hd:=C.dep S hf.dp hg.dp hh.dp
 have hc:2 ^ Go.Dg.cnt S (mtop ns f g h)<=2 ^ S.length:=q60 j4t
 have hp:=C.grew.pre
 have hN:=hI.nod
 have hN':=C.grew.inv.nod
 have val: ∀v,Fc ns f g h v=i01 Q v:=fun v=>by
  show (if ev ns v f=1 then ev ns v g else ev ns v h)=if Q v=true then 1 else 0
  rw[hf.ev,hg.ev,hh.ev,hQ]
  by_cases hF:F v=true
  ·rw[if_pos hF,if_pos hF,if_pos rfl]
  ·rw[if_neg hF,if_neg hF,if_neg (by decide)]
 refine⟨⟨⟨C.grew.inv,hp,C.grew.len,C.grew.room⟩,by omega,fun ms k hM hF hH=>hF.old hN hN' hp fun i h0 h1=> ?_⟩,?_⟩
 ·have hc:=C.cof i h0 h1
  rw[show Fc ns f g h=i01 Q from funext val] at hc
  exact hH.cof hM hc
 ·rcases C.res with ⟨e1,e2⟩|⟨ok,hs,_⟩
  ·exact .inl ⟨e1,e2⟩
  ·refine .inr ⟨ok,fun v=> ?_,fun v v' e=>by rw[hQ,hQ,hf.dep v v' e,hg.dep v v' e,hh.dep v v' e]⟩
   rw[hs v]
   have h1:=val v
   show (if ev ns' v f=1 then ev ns' v g else ev ns' v h)=_
   rw[Zi hN hN' hp hf.ok,Zi hN hN' hp hg.ok,Zi hN hN' hp hh.ok]
   exact h1
theorem j9g{ns:List Nd}{ids:Nd->Option Int}{full:Bool}{f g:Int}{F G:(Int->Bool)->Bool}{S:List Int}{K:Int->List Nd->(Nd->Option Int)->Bool->Prop}(hI:Inv ns ids)(hl:ns.length<=4000)(hf:Mx ns F S f)(hg:Mx ns G S g)
  (hK: ∀r ns' ids' full',Chx ns full (2 ^ S.length) (fun v=>F v && G v) ns' ids' full'->Mx ns' (fun v=>F v && G v) S r->K r ns' ids' full'):Zt ns ids full f g K:=by
 refine j1j hI hl fun r ns' ids' full' C=> ?_
 rcases C with ⟨⟨a1,_,a3,_⟩,C⟩|⟨no,e,rfl,rfl,rfl⟩
 ·have hf:=hf.resolve_left fun e=>q1z (e.1▸a1)
  have hg:=hg.resolve_left fun e=>q1z (e.1▸a3)
  obtain⟨a,b⟩:=j7p (Q:=fun v=>F v && G v) C hI hf hg Dgm.fls fun v=>by cases F v<;>simp
  exact hK _ _ _ _ a b
 ·refine hK _ _ _ _ (Chx.stay hI hl _ _) (.inl ⟨e,?_⟩)
  rcases hf with q|hf
  ·exact q.2
  ·rcases hg with q|hg
   ·exact q.2
   ·exact absurd ⟨hf.ok,hf.cond,hg.ok,hg.cond⟩ no
theorem j9h{ns:List Nd}{ids:Nd->Option Int}{full:Bool}{f g:Int}{F G:(Int->Bool)->Bool}{S:List Int}{K:Int->List Nd->(Nd->Option Int)->Bool->Prop}(hI:Inv ns ids)(hl:ns.length<=4000)(hf:Mx ns F S f)(hg:Mx ns G S g)
  (hK: ∀r ns' ids' full',Chx ns full (2 ^ S.length) (fun v=>F v||G v) ns' ids' full'->Mx ns' (fun v=>F v||G v) S r->K r ns' ids' full'):Zm ns ids full f g K:=by
 refine j4v hI hl fun r ns' ids' full' C=> ?_
 rcases C with ⟨⟨a1,_,a3,_⟩,C⟩|⟨no,e,rfl,rfl,rfl⟩
 ·have hf:=hf.resolve_left fun e=>q1z (e.1▸a1)
  have hg:=hg.resolve_left fun e=>q1z (e.1▸a3)
  obtain⟨a,b⟩:=j7p (Q:=fun v=>F v||G v) C hI hf Dgm.tru hg fun v=>by cases F v<;>simp
  exact hK _ _ _ _ a b
 ·refine hK _ _ _ _ (Chx.stay hI hl _ _) (.inl ⟨e,?_⟩)
  rcases hf with q|hf
  ·exact q.2
  ·rcases hg with q|hg
   ·exact q.2
   ·exact absurd ⟨hf.ok,hf.cond,hg.ok,hg.cond⟩ no
theorem j9i{ns:List Nd}{ids:Nd->Option Int}{full:Bool}{f:Int}{F:(Int->Bool)->Bool}{S:List Int}{K:Int->List Nd->(Nd->Option Int)->Bool->Prop}(hI:Inv ns ids)(hl:ns.length<=4000)(hf:Mx ns F S f)
  (hK: ∀r ns' ids' full',Chx ns full (2 ^ S.length) (fun v=> !F v) ns' ids' full'->Mx ns' (fun v=> !F v) S r->K r ns' ids' full'):Zu ns ids full f K:=by
 refine j1k hI hl fun r ns' ids' full' C=> ?_
 rcases C with ⟨⟨a1,_⟩,C⟩|⟨no,e,rfl,rfl,rfl⟩
 ·have hf:=hf.resolve_left fun e=>q1z (e.1▸a1)
  obtain⟨a,b⟩:=j7p (Q:=fun v=> !F v) C hI hf Dgm.fls Dgm.tru fun v=>by cases F v<;>simp
  exact hK _ _ _ _ a b
 ·refine hK _ _ _ _ (Chx.stay hI hl _ _) (.inl ⟨e,?_⟩)
  rcases hf with q|hf
  ·exact q.2
  ·exact absurd ⟨hf.ok,hf.cond⟩ no
theorem j1l{ns:List Nd}{ids:Nd->Option Int}{full:Bool}{t:Int}{K:Int->List Nd->(Nd->Option Int)->Bool->Prop}(hI:Inv ns ids)(hl:ns.length<=4000)(h0:0<=t)(h1:t<=1000)
  (hK: ∀r ns' ids' full',Chx ns full 1 (fun v=>v t) ns' ids' full'->Mx ns' (fun v=>v t) [t] r->K r ns' ids' full'):Qq ns ids full t (-2) (-1) K:=by
 have hO:q1x ns t (-2) (-1):=⟨h0,h1,⟨by omega,by omega⟩,⟨by omega,by omega⟩,by show t<if (-2:Int)<0 then 1001 else _;rw[if_pos (by decide)];omega,by show t<if (-1:Int)<0 then 1001 else _;rw[if_pos (by decide)];omega⟩
 refine z18 hl ?_
 obtain⟨g,_,q⟩:=z1y (r:=(node ns ids full t (-2) (-1)).1) (ns':=(node ns ids full t (-2) (-1)).2.1) (ids':=(node ns ids full t (-2) (-1)).2.2.1) (full':=(node ns ids full t (-2) (-1)).2.2.2) hI hl hO rfl
 have hat:=j0y (ns:=ns) (ids:=ids) (full:=full) (t:=t) (y:= -2) (n:= -1)
 have hN':=g.inv.nod
 refine hK _ _ _ _ ⟨⟨g.inv,g.pre,g.len,g.room⟩,g.most,fun ms k hM hF hH=>hF.old hI.nod hN' g.pre fun i i0 i1=> ?_⟩ ?_
 ·rcases hat with e|⟨e1,e2⟩
  ·rw[e] at i1;omega
  ·have hi:i=(node ns ids full t (-2) (-1)).1:=by rw[e1];omega
   rcases q with ⟨e,_⟩|⟨_,_,_,hev⟩
   ·rw[e1] at e;omega
   ·rw[show (fun v=>ev (node ns ids full t (-2) (-1)).2.1 v i)=i01 fun v=>v t from funext fun v=>by rw[hi,hev v,Zk (by omega),Zk (by omega)];rfl]
    exact hH
 ·rcases q with ⟨e,e2,_⟩|⟨_,ok,_,hev⟩
  ·exact .inl ⟨e,e2⟩
  ·exact .inr ⟨ok,fun v=>by rw[hev v,Zk (by omega),Zk (by omega)];rfl,fun v v' e=>e t (List.mem_singleton.2 rfl)⟩
end Go.En
end
noncomputable section
set_option maxRecDepth 100000
namespace Go.En
open Go Go.Fl Go.Fl.Lk Go.Fx
open Classical in
def addL:List Ex->List Ex->List Ex
 |l,[]=>l
 |l,x::xs=>addL (if x∈l then l else l++[x]) xs
theorem q7v(l a b:List Ex):addL l (a++b)=addL (addL l a) b:=by
 induction a generalizing l with
 |nil=>rfl
 |cons x a ih=>simp only[List.cons_append,addL];exact ih _
theorem j1m{l:List Ex}{e:Ex}(h:e∈l):addL l [e]=l:=by unfold addL;rw[if_pos h];rfl
theorem z67{l:List Ex}{e:Ex}(h:e∉l):addL l [e]=l++[e]:=by unfold addL;rw[if_neg h];rfl
theorem z2a{l a:List Ex}{x:Ex}:x∈addL l a↔x∈l∨x∈a:=by
 induction a generalizing l with
 |nil=>simp[addL]
 |cons y a ih=>
  unfold addL
  rw[ih,List.mem_cons]
  by_cases h:y∈l
  ·rw[if_pos h]
   exact⟨fun o=>o.imp id .inr,fun o=>o.elim .inl fun o=>o.elim (fun e=> .inl (e▸h)) .inr⟩
  ·rw[if_neg h,List.mem_append,List.mem_singleton,or_assoc]
theorem q1m(l a:List Ex):(addL l a).length<=l.length+a.length:=by
 induction a generalizing l with
 |nil=>exact Nat.le_refl _
 |cons x a ih=>
  unfold addL
  rw[List.length_cons]
  split
  ·have:=ih l;omega
  ·have:=ih (l++[x]);simp only[List.length_append,List.length_cons,List.length_nil] at this;omega
theorem j4w{e:Ex}(h:WfX e):lvE e=(if 5<=e.1 then [e] else [])++lvEL e.5:=by
 obtain⟨w1,w2,w3⟩:=h.self
 rw[R7]
 by_cases h1:e.1=1
 ·rw[if_pos h1,if_neg (by omega),w3 (.inl h1)];rfl
 ·rw[if_neg h1]
  by_cases h5:5<=e.1
  ·rw[if_neg (by omega),if_pos h5,w3 (.inr h5)];rfl
  ·rw[if_pos (by omega),if_neg h5,List.nil_append]
theorem z4f{l:List Ex}{j:Nat}{y:Ex}(hy:l[j]? =some y):lvEL (l.take (j+1))=lvEL (l.take j)++lvE y/\(lvEL (l.take j)).length+(lvE y).length<=(lvEL l).length:=by
 have e1:lvEL (l.take (j+1))=lvEL (l.take j)++lvE y:=by rw[List.take_add_one,hy,z17];simp[lvEL]
 refine⟨e1,?_⟩
 have e2:lvEL l=lvEL (l.take (j+1))++lvEL (l.drop (j+1)):=by rw[←z17,List.take_append_drop]
 rw[e2,e1,List.length_append,List.length_append];omega
theorem q87: ∀(n:Nat) {l:List Ex} {e:Ex} {K:List Ex->Prop},n<=5->ExS n e->WfX e->(∀x∈l,ExS 5 x)->l.length+(lvE e).length<=1000000->((∀x∈addL l (lvE e),ExS 5 x)->K (addL l (lvE e)))->G7 l e K:=by
 intro n l e K hn he hw hl hB h X hX
 induction n using Nat.strongRecOn generalizing l e K with
 |_ n ih=>
 refine hX _ _ _ ?_
 unfold B1
 rw[V9]
 obtain⟨w1,w2,w3⟩:=hw.self
 have hwf:=j4w hw
 have hwl:(if 5<=e.1 then [e] else []).length+(lvEL e.5).length=(lvE e).length:=by rw[hwf,List.length_append]
 have hone:(if 5<=e.1 then [e] else []).length<=1:=by split<;>simp
 refine Jn1.mk (fun r=>r=addL l (if 5<=e.1 then [e] else [])/\ ∀x∈r,ExS 5 x) ?_ fun r hr=> ?_
 ·have ix:5<=e.1->J4 l e fun x=>Cnd (x<0) ((Sml ([]++l).length/\Sml ([]++l++[e]).length/\([]++l++[e]=addL l (if 5<=e.1 then [e] else [])/\ ∀x∈[]++l++[e],ExS 5 x))/\Sml ([]++l).length/\Sml ([]++l++[e]).length/\([]++l++[e]=addL l (if 5<=e.1 then [e] else [])/\ ∀x∈[]++l++[e],ExS 5 x)) (l=addL l (if 5<=e.1 then [e] else [])/\ ∀x∈l,ExS 5 x):=fun h5=>
   q6y hl fun r hr=>by
    rw[if_pos h5]
    rcases hr with ⟨rfl,hne⟩|⟨r0,hr,_⟩
    ·have more:Sml ([]++l).length/\Sml ([]++l++[e]).length/\([]++l++[e]=addL l [e]/\ ∀x∈[]++l++[e],ExS 5 x):=⟨by unfold Sml;simp;omega,by unfold Sml;simp;omega,by rw[z67 hne];rfl,by rw[List.nil_append];exact z6v hl (he.le hn)⟩
     exact Cnd.yes (by decide) ⟨more,more⟩
    ·exact Cnd.no (by omega) ⟨(j1m (getm hr)).symm,hl⟩
  refine Cnd.mk (fun h5=>ix (by omega)) fun h5=>z4c fun r hr=>Cnd.mk (fun ht=>ix (by have:=hr.1 ht;omega)) fun ht=>⟨?_,hl⟩
  rw[if_neg fun h6=>ht (hr.2 ⟨by omega,w2⟩)];rfl
 ·obtain⟨rfl,hr⟩:=hr
  have hk:=he.kids
  have hrl:=q1m l (if 5<=e.1 then [e] else [])
  refine Lp2.ind (fun (q:List Ex) (i:Int)=> ∃j:Nat,i=(j:Int)/\j<=e.kids.length/\(∀x∈q,ExS 5 x)/\q=addL (addL l (if 5<=e.1 then [e] else [])) (lvEL (e.kids.take j))) (fun _ (i:Int)=>(e.kids.length - i).toNat) ?_ ⟨0,rfl,by omega,hr,rfl⟩
  rintro q i ⟨j,rfl,j1,hq,hqe⟩ _
  have hql:=q1m (addL l (if 5<=e.1 then [e] else [])) (lvEL (e.kids.take j))
  rw[←hqe] at hql
  refine Cnd.mk (fun hc=>⟨by omega,fun y hy=> ?_⟩) fun hc=> ?_
  ·have hy:e.kids[j]? =some y:=hy
   obtain⟨m,hm,hkd⟩:=he.kid (getm hy)
   obtain⟨t1,t2⟩:=z4f hy
   have t2:(lvEL (e.kids.take j)).length+(lvE y).length<=(lvEL e.5).length:=t2
   dsimp only;rw[V9]
   refine ih m (by omega) (by omega) hkd (hw.kid (getm hy)) hq (by omega) fun hs=>⟨by unfold InI;omega,⟨j+1,by omega,by omega,hs,by rw[t1,q7v,←hqe]⟩,by omega⟩
  ·rw[List.take_of_length_le (by omega),←q7v] at hqe
   have e3:q=addL l (lvE e):=hqe.trans (by rw[hwf])
   rw[e3] at hq⊢
   exact h hq
theorem q88: ∀(n:Nat) {l:List Ex} {e:Ex} {K:List Ex->Prop},wt e<=n->wt e<=4000000->WfX e->l.length+(lvE e).length<=4000000->K (addL l (lvE e))->G5 l e K:=by
 intro n l e K hn hwt hw hB h X hX
 induction n generalizing l e K with
 |zero=>have:=z0q e;omega
 |succ n ih=>
 refine hX _ _ _ ?_
 unfold Bx
 have hpos:=z0q e
 have h5:=j1c (e:=e)
 obtain⟨w1,w2,w3⟩:=hw.self
 have hwf:=j4w hw
 have hwl:(if 5<=e.1 then [e] else []).length+(lvEL e.5).length=(lvE e).length:=by rw[hwf,List.length_append]
 have hone:(if 5<=e.1 then [e] else []).length<=1:=by split<;>simp
 refine Jn1.mk (fun q=>q=addL l (if 5<=e.1 then [e] else [])) ?_ fun q hq=> ?_
 ·have look:5<=e.1-> ∀hl:l.length<=9223372036854775807,Lp1 (fun Zo z2b=>Cnd (Zo<(l.length:Int)) ((0<=Zo/\Zo<(l.length:Int))/\ ∀y4,l[Zo.toNat]? =some y4->Ja (Ex.mk y4.1 y4.2 y4.3 y4.4 y4.5) (Ex.mk e.1 e.2 e.3 e.4 e.5) fun Z7=>Cnd (Z7=true) (Cnd ((0:Int)<=Zo) (l=addL l (if 5<=e.1 then [e] else [])) (Sml (l++[Ex.mk e.1 e.2 e.3 e.4 e.5]).length/\(l++[Ex.mk e.1 e.2 e.3 e.4 e.5]=addL l (if 5<=e.1 then [e] else [])))) (InI (Zo+1)/\z2b (Zo+1))) (Cnd ((0:Int)<= -1) (l=addL l (if 5<=e.1 then [e] else [])) (Sml (l++[Ex.mk e.1 e.2 e.3 e.4 e.5]).length/\(l++[Ex.mk e.1 e.2 e.3 e.4 e.5]=addL l (if 5<=e.1 then [e] else []))))) (0:Int):=fun h5 hl=>by
   rw[V9,if_pos h5]
   refine Lp1.ind (fun (i:Int)=>0<=i/\i<=l.length/\e∉l.take i.toNat) (fun (i:Int)=>(l.length - i).toNat) ?_ ⟨by omega,by omega,by simp⟩
   rintro i ⟨i0,i1,hno⟩
   refine Cnd.mk (fun hc=>⟨by omega,fun y hy=> ?_⟩) fun hc=>Cnd.no (by decide) ⟨?_,?_⟩
   ·rw[V9]
    refine q2w _ (Nat.le_refl _) fun r hr=>Cnd.mk (fun hb=>Cnd.yes i0 (j1m (by rw[←hr.1 hb];exact getm hy)).symm) fun hb=>⟨by unfold InI;omega,⟨by omega,by omega,?_⟩,by omega⟩
    rw[show (i+1).toNat=i.toNat+1 by omega,List.take_add_one,hy]
    have:e≠y:=fun k=>hb (hr.2 k.symm)
    simp[hno,this]
   ·unfold Sml;simp;omega
   ·rw[List.take_of_length_le (by omega)] at hno
    exact (z67 hno).symm
  refine q9w fun r hr=>Cnd.mk (fun hb hl=>look (by have:=hr.1 hb;omega) hl) fun hb=>Cnd.mk (fun h5 hl=>look (by omega) hl) fun h5=> ?_
  rw[if_neg fun h6=>hb (hr.2 ⟨by omega,w2⟩)];rfl
 ·subst hq
  intro _
  have hrl:=q1m l (if 5<=e.1 then [e] else [])
  have hwe:=z14 e
  refine Lp2.ind (fun (q:List Ex) (i:Int)=> ∃j:Nat,i=(j:Int)/\j<=e.5.length/\q=addL (addL l (if 5<=e.1 then [e] else [])) (lvEL (e.5.take j))) (fun _ (i:Int)=>(e.5.length - i).toNat) ?_ ⟨0,rfl,by omega,rfl⟩
  rintro q i ⟨j,rfl,j1,hqe⟩
  have hql:=q1m (addL l (if 5<=e.1 then [e] else [])) (lvEL (e.5.take j))
  rw[←hqe] at hql
  refine Cnd.mk (fun hc=>⟨by omega,fun y hy=> ?_⟩) fun hc=> ?_
  ·have hy:e.5[j]? =some y:=hy
   have hkid:=z62 (getm hy)
   obtain⟨t1,t2⟩:=z4f hy
   dsimp only;rw[V9]
   exact ih (by omega) (by omega) (hw.kid (getm hy)) (by omega) ⟨by unfold InI;omega,⟨j+1,by omega,by omega,by rw[t1,q7v,←hqe]⟩,by omega⟩
  ·rw[List.take_of_length_le (by omega),←q7v] at hqe
   have e3:q=addL l (lvE e):=hqe.trans (by rw[hwf])
   rw[e3]
   exact h
theorem q89{e:Ex}{K:List Ex->Prop}(hwt:wt e<=1000000)(hw:WfX e)(hs: ∀x∈addL [] (lvE e),wt x<=2000000)(h:(lvE e).length<=1000000->K (addL [] (lvE e)))(hB:(lvE e).length<=1000000):G6 e K:=by
 unfold G6 By
 rw[V9]
 have hql:=q1m [] (lvE e)
 simp only[List.length_nil,Nat.zero_add] at hql
 refine q88 _ (Nat.le_refl _) (by omega) hw (by simp;omega) fun _=>⟨⟨by omega,by omega,by unfold Sml;omega⟩,fun _=> ?_⟩
 generalize addL [] (lvE e)=q at hs h hql⊢
 refine Lp2.ind (fun (r:List Ex) (i:Int)=>0<=i/\i<=q.length/\r=q.take i.toNat) (fun _ (i:Int)=>(q.length - i).toNat) ?_ ⟨by omega,by omega,rfl⟩
 rintro r i ⟨i0,i1,rfl⟩
 refine Cnd.mk (fun hc=>⟨by omega,fun y hy=> ?_⟩) fun hc=> ?_
 ·dsimp only;rw[V9]
  refine z16 _ (Nat.le_refl _) (hs y (getm hy)) ?_
  rw[V9]
  refine⟨?_,by unfold InI;omega,⟨by omega,by omega,?_⟩,by omega⟩
  ·unfold Sml;simp only[List.length_append,List.length_take,List.length_cons,List.length_nil];omega
  ·rw[show (i+1).toNat=i.toNat+1 by omega,List.take_add_one,hy];rfl
 rw[List.take_of_length_le (by omega)]
 exact h hB
end Go.En
end
noncomputable section
set_option maxRecDepth 100000
namespace Go.En
open Go Go.Fl Go.Fl.Lk Go.Fx Go.Dg
def sufs:List Ex->Nat
 |[]=>0
 |k::l=>2 ^ (lvEL (k::l)).length+sufs l
mutual
def xc:Ex->Nat
 |⟨op,_,_,_,kids⟩=>if op=2∨op=3∨op=4 then xcL kids+sufs kids.tail else 0
def xcL:List Ex->Nat
 |[]=>0
 |k::l=>xc k+xcL l
end
theorem j1n(e:Ex):xc e=if e.1=2∨e.1=3∨e.1=4 then xcL e.5+sufs e.5.tail else 0:=by
 cases e;rfl
theorem j9j{m:Nat}{l:List Ex}(h: ∀e∈l,xc e<=m):xcL l<=l.length*m:=by
 induction l with
 |nil=>simp[xcL]
 |cons a l ih=>
  have h1:=h a List.mem_cons_self
  have h2:=ih fun e he=>h e (List.mem_cons_of_mem _ he)
  simp only[xcL,List.length_cons,Nat.add_mul,Nat.one_mul];omega
def XX:Nat->Nat
 |0=>0
 |k+1=>3*XX k+2 ^ (2*3 ^ k)+2 ^ (3 ^ k)
structure DrX(k:Nat)(e:Ex):Prop where
 n:(lvE e).length<=3 ^ k
 x:xc e<=XX k
theorem z68{k:Nat}{e:Ex}(_:e.5=[])(h1:5<=e.1):DrX k e where
 n:=by
  rw[R7,if_neg (by omega),if_neg (by omega)]
  exact Nat.one_le_pow _ _ (by decide)
 x:=by
  rw[j1n,if_neg (by omega)]
  exact Nat.zero_le _
theorem j1o{k:Nat}{e:Ex}(h:DrX k e):(lvE (Ex.mk 4 (ByteArray.mk (Array.mk [])) (ByteArray.mk (Array.mk [])) [] [e])).length<=3 ^ k/\xc (Ex.mk 4 (ByteArray.mk (Array.mk [])) (ByteArray.mk (Array.mk [])) [] [e])<=XX k:=by
 have e1:lvE (Ex.mk 4 (ByteArray.mk (Array.mk [])) (ByteArray.mk (Array.mk [])) [] [e])=lvE e:=by rw[R7];simp[lvEL]
 have e2:xc (Ex.mk 4 (ByteArray.mk (Array.mk [])) (ByteArray.mk (Array.mk [])) [] [e])=xc e:=by rw[j1n];simp[xcL,sufs]
 rw[e1,e2]
 exact⟨h.n,h.x⟩
theorem j7q{m:Nat}{l:List Ex}(hl:l.length<=2)(h: ∀e∈l,(lvE e).length<=m):sufs l<=2 ^ (2*m)+2 ^ m:=by
 match l,hl with
 |[],_=>exact Nat.zero_le _
 |[a],_=>
  have h1:=q60 (h a List.mem_cons_self)
  have e:sufs [a]=2 ^ (lvE a).length:=by simp[sufs,lvEL]
  rw[e]
  exact Nat.le_trans h1 (Nat.le_add_left _ _)
 |[a,b],_=>
  have h1:=h a List.mem_cons_self
  have h2:=h b (List.mem_cons_of_mem _ List.mem_cons_self)
  have h3:=q60 (show (lvE a++lvE b).length<=2*m by rw[List.length_append];omega)
  have h4:=q60 h2
  have e:sufs [a,b]=2 ^ (lvE a++lvE b).length+2 ^ (lvE b).length:=by simp[sufs,lvEL]
  rw[e]
  exact Nat.add_le_add h3 h4
theorem j9k{segs:List ByteArray}:ClE segs DrX where
 hT k:=⟨by rw[R7,if_pos rfl];exact Nat.zero_le _,by rw[j1n,if_neg (by show ¬((1:Int)=2∨(1:Int)=3∨(1:Int)=4);decide)];exact Nat.zero_le _⟩
 hS k b _:=z68 rfl (by show (5:Int)<=5;decide)
 ht k e h h6:=z68 h.2.2.2 (by omega)
 hN k e h:=by
  obtain⟨b,c⟩:=j1o h
  have h3:3 ^ k<=3 ^ (k+1):=Nat.pow_le_pow_right (by decide) (by omega)
  exact⟨Nat.le_trans b h3,Nat.le_trans c (by show _<=3*XX k+2 ^ (2*3 ^ k)+2 ^ (3 ^ k);generalize 2 ^ (2*3 ^ k)=A;generalize 2 ^ (3 ^ k)=B;omega)⟩
 hA k op l ho hl hne h:=by
  have hh: ∀e∈l,(lvE e).length<=3 ^ k/\xc e<=XX k:=fun e he=>by
   rcases h e he with h|⟨e',h,rfl⟩
   ·exact⟨h.n,h.x⟩
   ·exact j1o h
  have n1:=z64 fun e he=>(hh e he).1
  have c1:=j9j fun e he=>(hh e he).2
  have m1:l.length*3 ^ k<=3*3 ^ k:=Nat.mul_le_mul_right _ hl
  have m2:l.length*XX k<=3*XX k:=Nat.mul_le_mul_right _ hl
  have p1:3 ^ (k+1)=3*3 ^ k:=by rw[Nat.pow_succ,Nat.mul_comm]
  have s1:=j7q (l:=l.tail) (by rw[List.length_tail];omega) fun e he=>(hh e (List.mem_of_mem_tail he)).1
  have o1: ¬op=1:=by omega
  have o2:op=2∨op=3∨op=4:=by omega
  refine⟨?_,?_⟩
  ·rw[R7,if_neg o1,if_pos o2]
   show (lvEL l).length<=_
   omega
  ·rw[j1n,if_pos o2]
   show xcL l+sufs l.tail<=3*XX k+2 ^ (2*3 ^ k)+2 ^ (3 ^ k)
   generalize 2 ^ (2*3 ^ k)=A at s1⊢
   generalize 2 ^ (3 ^ k)=B at s1⊢
   omega
end Go.En
end
noncomputable section
set_option maxRecDepth 100000
namespace Go.En
open Go Go.Fl Go.Fl.Lk Go.Fx Go.Dg
theorem HolS.kid{ats:List Ex}{ms:List Nd}{e k:Ex}(h:HolS ats ms e)(hk:k∈e.5):HolS ats ms k:=fun a ha=>h a (by rw[B9];exact List.mem_cons_of_mem _ (Hm.2 ⟨k,hk,ha⟩))
theorem HolS.self{ats:List Ex}{ms:List Nd}{e:Ex}(h:HolS ats ms e):Hol ms (semI ats e):=h e (by rw[B9];exact List.mem_cons_self)
structure CnX(ats:List Ex)(ns:List Nd)(full:Bool)(e:Ex)(ns':List Nd)(ids':Nd->Option Int)(full':Bool):Prop where
 gx:Gx ns full ns' ids' full'
 few:ns'.length<=ns.length+cst e
 old: ∀ms k,Nod ms->HolS ats ms e->Few ns ms k->Few ns' ms (k+xc e)
theorem q9a{α:Type}{l:List α}{j:Nat}{z:α}(h:l[j]? =some z):l.drop j=z::l.drop (j+1):=by
 have hl:=Qe h
 rw[List.drop_eq_getElem_cons hl]
 rw[List.getElem?_eq_getElem hl] at h
 rw[Option.some.inj h]
def lvsL(ats:List Ex)(l:List Ex):List Int:=(lvEL l).map fun x=>(ixL ats x:Int)
theorem j4x{ats:List Ex}{e:Ex}{X:Q2}{op:Z9}{H:Bool->Bool->Bool}{FF:List Ex->(Int->Bool)->Bool}{ns:List Nd}{ids:Nd->Option Int}{full:Bool}{start:Int}{K:Int->List Nd->(Nd->Option Int)->Bool->Prop}
  (kid: ∀{y:Ex} {ns:List Nd} {ids:Nd->Option Int} {full:Bool} {K:Int->List Nd->(Nd->Option Int)->Bool->Prop},y∈e.5->Inv ns ids->ns.length<=4000->(∀r ns' ids' full',CnX ats ns full y ns' ids' full'->Mx ns' (sem ats y) (lvs ats y) r->K r ns' ids' full')->X ns ids full ats (Ex.mk y.1 y.2 y.3 y.4 y.5) K)
  (hop: ∀{ns:List Nd} {ids:Nd->Option Int} {full:Bool} {f g:Int} {F G:(Int->Bool)->Bool} {S:List Int} {K:Int->List Nd->(Nd->Option Int)->Bool->Prop},Inv ns ids->ns.length<=4000->Mx ns F S f->Mx ns G S g->(∀r ns' ids' full',Chx ns full (2 ^ S.length) (fun v=>H (F v) (G v)) ns' ids' full'->Mx ns' (fun v=>H (F v) (G v)) S r->K r ns' ids' full')->op ns ids full f g K)
  (hF: ∀k l v,FF (k::l) v=H (sem ats k v) (FF l v))(h0:Dgm ns (FF []) [] start)(hlen:e.5.length<=1000)(hse: ∀v,sem ats e v=FF e.5 v)
  (hc:cst e=cstL e.5+e.5.length*2 ^ (lvEL e.5).length)(hx:xc e=xcL e.5+sufs e.5.tail)(hl:lvE e=lvEL e.5)(hI:Inv ns ids)(hln:ns.length<=4000)(hne:e.5≠[])
  (h: ∀r ns' ids' full',CnX ats ns full e ns' ids' full'->Mx ns' (sem ats e) (lvs ats e) r->K r ns' ids' full'):
  Lp5 (fun Zc Vm (j1s:List (Int×Int×Int)) q1p j1t j7x=>Cnd ((0:Int)<=Vm) (At e.5 Vm fun y3=>X j1s j1t q1p ats (Ex.mk y3.1 y3.2 y3.3 y3.4 y3.5) fun Vc (q9b:List (Int×Int×Int)) z5u j1u=>op q9b z5u j1u Vc Zc fun Z7 (z2e:List (Int×Int×Int)) j1v z7a=>InI (Vm - 1)/\j7x Z7 (Vm - 1) z2e z7a j1v) (K Zc j1s j1t q1p)) start ((↑e.5.length:Int) - 1) ns full ids:=by
 have hpos:=List.length_pos_iff.2 hne
 let T:Nat->Nat:=fun j=>if j=0 then sufs (e.5.drop 1) else sufs (e.5.drop j)
 have lv0:lvs ats e=lvsL ats e.5:=by unfold lvs lvsL;rw[hl]
 refine Lp5.ind (fun (f i:Int) ns2 full2 ids2=> ∃j:Nat,i=(j:Int) - 1/\j<=e.5.length/\Mx ns2 (FF (e.5.drop j)) (lvsL ats (e.5.drop j)) f/\Gx ns full ns2 ids2 full2/\ns2.length<=ns.length+cstL (e.5.drop j)+(e.5.length - j)*2 ^ (lvEL e.5).length/\ ∀ms k,Nod ms->HolS ats ms e->Few ns ms k->Few ns2 ms (k+xcL (e.5.drop j)+T j)) (fun _ (i:Int) _ _ _=>(i+1).toNat) ?_ ⟨e.5.length,rfl,Nat.le_refl _,?_,Gx.refl hI hln,by omega,fun ms k _ _ hf=>hf.le (by omega)⟩
 rotate_left
 ·rw[List.drop_length];exact .inr h0
 rintro f i ns2 full2 ids2 ⟨j,rfl,hj,d2,g2,c2,o2⟩
 refine Cnd.mk (fun hc2=>⟨by omega,fun z hz=> ?_⟩) fun hc2=> ?_
 ·obtain⟨i,rfl⟩: ∃i,j=i+1:=⟨j - 1,by omega⟩
  rw[show (((i+1:Nat):Int) - 1).toNat=i by omega] at hz
  have hd:=q9a hz
  refine kid (getm hz) g2.inv g2.len fun r3 ns3 ids3 full3 g3 m3=> ?_
  have w1: ∀x∈lvs ats z,x∈lvsL ats (e.5.drop i):=fun x hx=>by
   unfold lvsL;rw[hd];show x∈(lvE z++lvEL (e.5.drop (i+1))).map _
   rw[List.map_append];exact List.mem_append_left _ hx
  have w2: ∀x∈lvsL ats (e.5.drop (i+1)),x∈lvsL ats (e.5.drop i):=fun x hx=>by
   unfold lvsL;rw[hd];show x∈(lvE z++lvEL (e.5.drop (i+1))).map _
   rw[List.map_append];exact List.mem_append_right _ hx
  have ll:(lvsL ats (e.5.drop i)).length=(lvEL (e.5.drop i)).length:=by unfold lvsL;rw[List.length_map]
  have lle:(lvEL (e.5.drop i)).length<=(lvEL e.5).length:=by
   have:lvEL e.5=lvEL (e.5.take i)++lvEL (e.5.drop i):=by rw[←z17,List.take_append_drop]
   rw[this,List.length_append];omega
  refine hop (S:=lvsL ats (e.5.drop i)) g3.gx.inv g3.gx.len (m3.wide w1) ((d2.pre g2.inv.nod g3.gx.inv.nod g3.gx.pre g3.gx.len).wide w2) fun r4 ns4 ids4 full4 g4 m4=>⟨by unfold InI;omega,⟨i,by omega,by omega,m4.eq fun v=>by rw[hd,hF],(g2.trans g3.gx).trans g4.gx,?_,fun ms k hM hS hf=> ?_⟩,by omega⟩
  ·have c3:=g3.few
   have c4:=g4.few
   rw[ll] at c4
   have p:=q60 lle
   have e1:cstL (e.5.drop i)=cst z+cstL (e.5.drop (i+1)):=by rw[hd];rfl
   have e2:(e.5.length - i)*2 ^ (lvEL e.5).length=(e.5.length - (i+1))*2 ^ (lvEL e.5).length+2 ^ (lvEL e.5).length:=by
    rw[show e.5.length - i=(e.5.length - (i+1))+1 by omega,Nat.add_mul,Nat.one_mul]
   omega
  ·have f2:=o2 ms k hM hS hf
   have f3:=g3.old ms _ hM (hS.kid (getm hz)) f2
   have e1:xcL (e.5.drop i)=xc z+xcL (e.5.drop (i+1)):=by rw[hd];rfl
   have t1:T (i+1)=sufs (e.5.drop (i+1)):=if_neg (by omega)
   by_cases hi:i=0
   ·subst hi
    have t0:T 0=sufs (e.5.drop 1):=if_pos rfl
    have hH:Hol ms (i01 fun v=>H (sem ats z v) (FF (e.5.drop (0+1)) v)):=by
     have:(i01 fun v=>H (sem ats z v) (FF (e.5.drop (0+1)) v))=semI ats e:=funext fun v=>by
      show (if H (sem ats z v) (FF (e.5.drop (0+1)) v)=true then _ else _)=if sem ats e v=true then _ else _
      rw[hse,←hF,←hd,List.drop_zero]
     rw[this];exact hS.self
    refine (g4.old ms _ hM f3 hH).le ?_
    have t3:sufs (List.drop (0+1) e.5)=sufs (List.drop 1 e.5):=rfl
    rw[t0,e1,t1];omega
   ·have t2:T i=2 ^ (lvEL (e.5.drop i)).length+sufs (e.5.drop (i+1)):=by
     show (if i=0 then _ else sufs (e.5.drop i))=_
     rw[if_neg hi,hd];rfl
    refine (g4.new g3.gx.inv f3).le ?_
    rw[t2,e1,t1,ll];omega
 ·obtain rfl:j=0:=by omega
  rw[List.drop_zero] at d2 c2
  refine h _ _ _ _ ⟨g2,by rw[hc];simp only[Nat.sub_zero] at c2;omega,fun ms k hM hS hf=>(o2 ms k hM hS hf).le ?_⟩ (by rw[lv0];exact d2.eq hse)
  rw[hx,List.drop_zero]
  show k+xcL e.5+(if (0:Nat)=0 then sufs (e.5.drop 1) else _)<=_
  rw[if_pos rfl,List.drop_one];omega
theorem j1p{ats:List Ex}(ha:ats.length<=1000): ∀(n:Nat) {ns:List Nd} {ids:Nd->Option Int} {full:Bool} {e:Ex} {K:Int->List Nd->(Nd->Option Int)->Bool->Prop},ExS n e->WfN e->(∀x∈lvE e,x∈ats)->Inv ns ids->ns.length<=4000->
  (∀r ns' ids' full',CnX ats ns full e ns' ids' full'->Mx ns' (sem ats e) (lvs ats e) r->K r ns' ids' full')->Jj ns ids full ats e K:=by
 intro n ns ids full e K he hwn hin hI hl h X hX
 induction n using Nat.strongRecOn generalizing ns ids full e K with
 |_ n ih=>
 refine hX _ _ _ _ _ _ ?_
 unfold Vz
 have hop:=he.opK
 have kid0: ∀{y:Ex} {ns:List Nd} {ids:Nd->Option Int} {full:Bool} {K:Int->List Nd->(Nd->Option Int)->Bool->Prop},y∈e.5->(∀x∈lvE y,x∈ats)->Inv ns ids->ns.length<=4000->(∀r ns' ids' full',CnX ats ns full y ns' ids' full'->Mx ns' (sem ats y) (lvs ats y) r->K r ns' ids' full')->X ns ids full ats (Ex.mk y.1 y.2 y.3 y.4 y.5) K:=fun hy hi hI hr hK=>by
  obtain⟨m,hm,hk⟩:=he.kid hy
  rw[V9]
  exact ih m (by omega) hk (hwn.kid hy) hi hI hr hK
 have hse: ∀v,sem ats e v=if e.1=1 then true else if e.1=2 then bevA (fun x=>v (ixL ats x)) e.5 else if e.1=3 then bevO (fun x=>v (ixL ats x)) e.5 else if e.1=4 then bevN (fun x=>v (ixL ats x)) e.5 else v (ixL ats e):=fun v=>j04 _ e
 have hle:=R7 e
 have hce:=q85 e
 have hxe:=j1n e
 have hk3:e.5.length<=3:=he.kids
 have hls:lvs ats e=(lvE e).map fun x=>(ixL ats x:Int):=rfl
 have nd:2<=e.1->e.1<=4->lvE e=lvEL e.5/\cst e=cstL e.5+e.5.length*2 ^ (lvEL e.5).length/\xc e=xcL e.5+sufs e.5.tail/\(∀y∈e.5,∀x∈lvE y,x∈ats)/\e.5≠[]:=fun a b=>by
  have n1: ¬e.1=1:=by omega
  have n2:e.1=2∨e.1=3∨e.1=4:=by omega
  rw[if_neg n1,if_pos n2] at hle hce
  rw[if_pos n2] at hxe
  exact⟨hle,hce,hxe,fun y hy x hx=>hin x (by rw[hle];exact q5n.2 ⟨y,hy,hx⟩),hop a b⟩
 refine Cnd.mk (fun h1=> ?_) fun h1=>Cnd.mk (fun h2=> ?_) fun h2=>Cnd.mk (fun h3=> ?_) fun h3=>Cnd.mk (fun h4 _=> ?_) fun h4 _=> ?_
 ·rw[if_pos h1] at hce hle
  rw[if_neg (by omega)] at hxe
  refine Js (h _ _ _ _ ⟨Gx.refl hI hl,by omega,fun ms k _ _ hf=>hf.le (by omega)⟩ (.inr ⟨⟨by decide,by show (-1:Int) - 1<_;omega⟩,fun v=> ?_,fun v v' _=>by rw[hse,hse,if_pos h1,if_pos h1]⟩))
  rw[hse,if_pos h1,if_pos ⟨by decide,by decide⟩,Zk (by omega)];rfl
 ·obtain⟨a,b,c,d,f⟩:=nd (by omega) (by omega)
  refine Js fun _=>⟨by unfold InI;omega,?_⟩
  rw[if_pos ⟨by decide,by decide⟩]
  exact j4x (H:=fun a b=>a && b) (FF:=fun l v=>bevA (fun x=>v (ixL ats x)) l) (fun hy=>kid0 hy (d _ hy)) j9g (fun _ _ _=>rfl) (Dgm.tru (S:=[])) (by omega) (fun v=>by rw[hse,if_neg h1,if_pos h2]) b c a hI hl f h
 ·obtain⟨a,b,c,d,f⟩:=nd (by omega) (by omega)
  refine Js fun _=>⟨by unfold InI;omega,?_⟩
  rw[if_pos ⟨by decide,by decide⟩]
  exact j4x (H:=fun a b=>a||b) (FF:=fun l v=>bevO (fun x=>v (ixL ats x)) l) (fun hy=>kid0 hy (d _ hy)) j9h (fun _ _ _=>rfl) (Dgm.fls (S:=[])) (by omega) (fun v=>by rw[hse,if_neg h1,if_neg h2,if_pos h3]) b c a hI hl f h
 ·obtain⟨a,b,c,d,f⟩:=nd (by omega) (by omega)
  have hpos:=List.length_pos_iff.2 f
  refine Cnd.no (by omega) ⟨⟨by omega,by omega⟩,fun y hy=> ?_⟩
  have hy:e.5[0]? =some y:=hy
  have hl1:e.5=[y]:=by
   have hn:=hwn.self h4
   revert hy hn
   rcases e.5 with _|⟨z,_|⟨w,l⟩⟩
   ·intro q;cases q
   ·intro q _;rw[Option.some.inj q]
   ·intro _ q;simp at q
  have hy':y∈e.5:=getm hy
  have ev1:lvEL e.5=lvE y:=by rw[hl1];simp[lvEL]
  have ls1:lvs ats e=lvs ats y:=by rw[hls,a,ev1];rfl
  have hs1: ∀v,sem ats e v= !(sem ats y v):=fun v=>by rw[hse,if_neg h1,if_neg h2,if_neg h3,if_pos h4,hl1];rfl
  refine kid0 hy' (d y hy') hI hl fun r3 ns3 ids3 full3 g3 m3=> ?_
  refine j9i g3.gx.inv g3.gx.len m3 fun r4 ns4 ids4 full4 g4 m4=>h _ _ _ _ ⟨g3.gx.trans g4.gx,?_,fun ms k hM hS hf=> ?_⟩ (by rw[ls1];exact m4.eq hs1)
  ·have c3:=g3.few
   have c4:=g4.few
   rw[b,hl1]
   show _<=ns.length+(cst y+0+1*2 ^ (lvE y++[]).length)
   rw[List.append_nil,Nat.one_mul]
   rw[show (lvs ats y).length=(lvE y).length by unfold lvs;rw[List.length_map]] at c4
   omega
  ·have hH:Hol ms (i01 fun v=> !(sem ats y v)):=by
    have:(i01 fun v=> !(sem ats y v))=semI ats e:=funext fun v=>by
     show (if (!(sem ats y v))=true then _ else _)=if sem ats e v=true then _ else _
     rw[hs1]
    rw[this];exact hS.self
   refine (g4.old ms _ hM (g3.old ms _ hM (hS.kid hy') hf) hH).le ?_
   rw[c,hl1]
   show k+xc y<=k+(xc y+0+0)
   omega
 ·have nn: ¬(e.1=2∨e.1=3∨e.1=4):=by omega
  rw[if_neg h1,if_neg nn] at hle hce
  rw[if_neg nn] at hxe
  have hmem:e∈ats:=hin e (by rw[hle];exact List.mem_singleton.2 rfl)
  refine Lp1.ind (fun (i:Int)=>0<=i/\i<=ats.length/\e∉ats.take i.toNat) (fun (i:Int)=>(ats.length - i).toNat) ?_ ⟨by omega,by omega,by simp⟩
  rintro i ⟨i0,i1,hno⟩
  refine Cnd.mk (fun hc=>⟨⟨i0,hc⟩,fun y hy=> ?_⟩) fun hc=> ?_
  ·show Ja (Ex.mk y.1 y.2 y.3 y.4 y.5) _ _
   rw[V9,V9]
   refine q2w _ (Nat.le_refl _) fun r hr=>Cnd.mk (fun hb=> ?_) fun hb=>⟨by unfold InI;omega,⟨by omega,by omega,?_⟩,by omega⟩
   ·have hye:=hr.1 hb
    subst hye
    have hix:=j07 hy hno
    have hr2:((ixL ats y:Nat):Int)=i:=by rw[hix];omega
    have es: ∀v,sem ats y v=v i:=fun v=>by rw[hse,if_neg h1,if_neg h2,if_neg h3,if_neg h4,hr2]
    refine Js (Js ?_)
    refine j1l hI hl i0 (by omega) fun r4 ns4 ids4 full4 g4 m4=>h _ _ _ _ ⟨g4.gx,by rw[hce];exact g4.few,fun ms k hM hS hf=> ?_⟩ ?_
    ·have hH:Hol ms (i01 fun v=>v i):=by
      have:(i01 fun v=>v i)=semI ats y:=funext fun v=>by
       show (if v i=true then _ else _)=if sem ats y v=true then _ else _
       rw[es]
      rw[this];exact hS.self
     exact (g4.old ms _ hM hf hH).le (by omega)
    ·rw[hls,hle]
     show Mx ns4 _ [((ixL ats y:Nat):Int)] r4
     rw[hr2]
     exact m4.eq es
   ·rw[show (i+1).toNat=i.toNat+1 by omega,List.take_add_one,hy]
    have:e≠y:=fun k=>hb (hr.2 k.symm)
    simp[hno,this]
  ·exact absurd (by rw[List.take_of_length_le (by omega)];exact hmem) hno
theorem z8a{ats:List Ex}(ha:ats.length<=1000): ∀(n:Nat) {ns:List Nd} {ids:Nd->Option Int} {full:Bool} {e:Ex} {K:Int->List Nd->(Nd->Option Int)->Bool->Prop},ExS n e->WfN e->Inv ns ids->ns.length<=4000->
  (∀r ns' ids' full',Inv ns' ids'->ns'.length<=4000->((∃x∈lvE e,x∉ats)->r= -1002)->K r ns' ids' full')->Jj ns ids full ats e K:=by
 intro n ns ids full e K he hwn hI hl h X hX
 induction n using Nat.strongRecOn generalizing ns ids full e K with
 |_ n ih=>
 refine hX _ _ _ _ _ _ ?_
 unfold Vz
 have hop:=he.opK
 have kid0: ∀{y:Ex} {ns:List Nd} {ids:Nd->Option Int} {full:Bool} {K:Int->List Nd->(Nd->Option Int)->Bool->Prop},y∈e.5->Inv ns ids->ns.length<=4000->(∀r ns' ids' full',Inv ns' ids'->ns'.length<=4000->((∃x∈lvE y,x∉ats)->r= -1002)->K r ns' ids' full')->X ns ids full ats (Ex.mk y.1 y.2 y.3 y.4 y.5) K:=fun hy hI hr hK=>by
  obtain⟨m,hm,hk⟩:=he.kid hy
  rw[V9]
  exact ih m (by omega) hk (hwn.kid hy) hI hr hK
 have hle:=R7 e
 have hk3:e.5.length<=3:=he.kids
 have fold: ∀{op:Z9} {ns:List Nd} {ids:Nd->Option Int} {full:Bool} {start:Int},lvE e=lvEL e.5->(∀{ns:List Nd} {ids:Nd->Option Int} {full:Bool} {f g:Int} {K:Int->List Nd->(Nd->Option Int)->Bool->Prop},Inv ns ids->ns.length<=4000->(∀r ns' ids' full',Inv ns' ids'->ns'.length<=4000->(f= -1002∨g= -1002->r= -1002)->K r ns' ids' full')->op ns ids full f g K)->Inv ns ids->ns.length<=4000->
   Lp5 (fun Zc Vm (j1s:List (Int×Int×Int)) q1p j1t j7x=>Cnd ((0:Int)<=Vm) (At e.5 Vm fun y3=>X j1s j1t q1p ats (Ex.mk y3.1 y3.2 y3.3 y3.4 y3.5) fun Vc (q9b:List (Int×Int×Int)) z5u j1u=>op q9b z5u j1u Vc Zc fun Z7 (z2e:List (Int×Int×Int)) j1v z7a=>InI (Vm - 1)/\j7x Z7 (Vm - 1) z2e z7a j1v) (K Zc j1s j1t q1p)) start ((↑e.5.length:Int) - 1) ns full ids:=fun hle op1 hI hl=>by
  refine Lp5.ind (fun (f i:Int) ns2 _ ids2=> ∃j:Nat,i=(j:Int) - 1/\j<=e.5.length/\Inv ns2 ids2/\ns2.length<=4000/\((∃x∈lvEL (e.5.drop j),x∉ats)->f= -1002)) (fun _ (i:Int) _ _ _=>(i+1).toNat) ?_ ⟨e.5.length,rfl,Nat.le_refl _,hI,hl,fun ⟨x,hx,_⟩=>by rw[List.drop_length] at hx;cases hx⟩
  rintro f i ns2 full2 ids2 ⟨j,rfl,hj,hI2,hl2,d2⟩
  refine Cnd.mk (fun hc2=>⟨by omega,fun z hz=> ?_⟩) fun hc2=> ?_
  ·obtain⟨i,rfl⟩: ∃i,j=i+1:=⟨j - 1,by omega⟩
   rw[show (((i+1:Nat):Int) - 1).toNat=i by omega] at hz
   have hd:=q9a hz
   refine kid0 (getm hz) hI2 hl2 fun r3 ns3 ids3 full3 hI3 hl3 d3=>op1 hI3 hl3 fun r4 ns4 ids4 full4 hI4 hl4 d4=>⟨by unfold InI;omega,⟨i,by omega,by omega,hI4,hl4,fun ⟨x,hx,hno⟩=>d4 ?_⟩,by omega⟩
   rw[hd] at hx
   rcases List.mem_append.1 hx with hx|hx
   ·exact .inl (d3 ⟨x,hx,hno⟩)
   ·exact .inr (d2 ⟨x,hx,hno⟩)
  ·obtain rfl:j=0:=by omega
   rw[List.drop_zero] at d2
   exact h _ _ _ _ hI2 hl2 fun q=>d2 (by rw[←hle];exact q)
 have nd:2<=e.1->e.1<=4->lvE e=lvEL e.5:=fun a b=>by rw[hle,if_neg (by omega),if_pos (by omega)]
 refine Cnd.mk (fun h1=> ?_) fun h1=>Cnd.mk (fun h2=> ?_) fun h2=>Cnd.mk (fun h3=> ?_) fun h3=>Cnd.mk (fun h4 _=> ?_) fun h4 _=> ?_
 ·rw[if_pos h1] at hle
  exact Js (h _ _ _ _ hI hl fun ⟨x,hx,_⟩=>by rw[hle] at hx;cases hx)
 ·refine Js fun _=>⟨by unfold InI;omega,fold (nd (by omega) (by omega)) (fun hI hl hK=>j1j hI hl fun r ns' ids' full' C=> ?_) hI hl⟩
  rcases C with ⟨⟨a1,_,a3,_⟩,C⟩|⟨_,e,rfl,rfl,rfl⟩
  ·exact hK _ _ _ _ C.grew.inv C.grew.len fun o=>o.elim (fun q=>absurd (q▸a1) q1z) fun q=>absurd (q▸a3) q1z
  ·exact hK _ _ _ _ hI hl fun _=>e
 ·refine Js fun _=>⟨by unfold InI;omega,fold (nd (by omega) (by omega)) (fun hI hl hK=>j4v hI hl fun r ns' ids' full' C=> ?_) hI hl⟩
  rcases C with ⟨⟨a1,_,a3,_⟩,C⟩|⟨_,e,rfl,rfl,rfl⟩
  ·exact hK _ _ _ _ C.grew.inv C.grew.len fun o=>o.elim (fun q=>absurd (q▸a1) q1z) fun q=>absurd (q▸a3) q1z
  ·exact hK _ _ _ _ hI hl fun _=>e
 ·have hpos:=List.length_pos_iff.2 (hop (by show 2<=e.1;omega) (by show e.1<=4;omega))
  have hpos:0<e.5.length:=hpos
  refine Cnd.no (by omega) ⟨⟨by omega,by omega⟩,fun y hy=> ?_⟩
  have hy:e.5[0]? =some y:=hy
  have hl1:e.5=[y]:=by
   have hn:=hwn.self h4
   revert hy hn
   rcases e.5 with _|⟨z,_|⟨w,l⟩⟩
   ·intro q;cases q
   ·intro q _;rw[Option.some.inj q]
   ·intro _ q;simp at q
  have ev1:lvE e=lvE y:=by rw[nd (by omega) (by omega),hl1];simp[lvEL]
  refine kid0 (getm hy) hI hl fun r3 ns3 ids3 full3 hI3 hl3 d3=>j1k hI3 hl3 fun r ns' ids' full' C=> ?_
  rcases C with ⟨⟨a1,_⟩,C⟩|⟨_,e,rfl,rfl,rfl⟩
  ·exact h _ _ _ _ C.grew.inv C.grew.len fun o=>absurd (d3 (by rw[←ev1];exact o)▸a1) q1z
  ·exact h _ _ _ _ hI3 hl3 fun _=>e
 ·have nn: ¬(e.1=2∨e.1=3∨e.1=4):=by omega
  rw[if_neg h1,if_neg nn] at hle
  refine Lp1.ind (fun (i:Int)=>0<=i/\i<=ats.length) (fun (i:Int)=>(ats.length - i).toNat) ?_ ⟨by omega,by omega⟩
  rintro i ⟨i0,i1⟩
  refine Cnd.mk (fun hc=>⟨⟨i0,hc⟩,fun y hy=> ?_⟩) fun hc=> ?_
  ·show Ja (Ex.mk y.1 y.2 y.3 y.4 y.5) _ _
   rw[V9,V9]
   refine q2w _ (Nat.le_refl _) fun r hr=>Cnd.mk (fun hb=> ?_) fun hb=>⟨by unfold InI;omega,⟨by omega,by omega⟩,by omega⟩
   have hye:=hr.1 hb
   subst hye
   refine Js (Js ?_)
   refine j1l hI hl i0 (by omega) fun r4 ns4 ids4 full4 g4 m4=>h _ _ _ _ g4.gx.inv g4.gx.len fun ⟨x,hx,hno⟩=> ?_
   rw[hle] at hx
   rw[List.mem_singleton.1 hx] at hno
   exact absurd (getm hy) hno
  ·refine Js (Js (z18 hl ?_))
   have nb: ¬q1x ns (-1) (-2) (-1):=fun q=>by have:=q.1;omega
   show K (node ns ids full (-1) (-2) (-1)).1 (node ns ids full (-1) (-2) (-1)).2.1 (node ns ids full (-1) (-2) (-1)).2.2.1 (node ns ids full (-1) (-2) (-1)).2.2.2
   rw[z1z nb]
   exact h _ _ _ _ hI hl fun _=>rfl
end Go.En
end
noncomputable section
set_option maxRecDepth 100000
namespace Go.En
open Go Go.Fl Go.Fl.Lk Go.Fx Go.Dg
theorem j9l: ∀(n:Nat) {e x:Ex},wt e<=n->x∈lvE e->wt x<=wt e
 |0,e,x,h,_=>by have:=z0q e;omega
 |n+1,e,x,h,hx=>by
  rw[R7] at hx
  split at hx
  ·cases hx
  ·split at hx
   ·obtain⟨k,hk,hx⟩:=q5n.1 hx
    have h1:=z62 hk
    have h2:=j9l n (show wt k<=n by omega) hx
    omega
   ·rw[List.mem_singleton.1 hx];exact Nat.le_refl _
theorem z8b{l a:List Ex}(h:l.Nodup):(addL l a).Nodup:=by
 induction a generalizing l with
 |nil=>exact h
 |cons x a ih=>
  unfold addL
  refine ih ?_
  split
  ·exact h
  ·rename_i hx
   refine List.nodup_append.2 ⟨h,by simp,fun a ha b hb e2=> ?_⟩
   rw[List.mem_singleton.1 hb] at e2
   exact hx (by rw[←e2];exact ha)
def atsR(l:List Rul):List Ex:=addL [] (lvEL (l.map Rul.cond))
theorem j3z{l:List Rul}{x:Ex}:x∈atsR l↔ ∃r∈l,x∈lvE r.2:=by
 unfold atsR
 rw[z2a,q5n]
 constructor
 ·rintro (h|⟨k,hk,hx⟩)
  ·cases h
  ·obtain⟨r,hr,rfl⟩:=List.mem_map.1 hk
   exact⟨r,hr,hx⟩
 ·rintro⟨r,hr,hx⟩
  exact .inr ⟨r.2,List.mem_map.2 ⟨r,hr,rfl⟩,hx⟩
theorem z69{l:List Rul}:(atsR l).length<=(lvEL (l.map Rul.cond)).length:=by
 have:=q1m [] (lvEL (l.map Rul.cond))
 simpa [atsR] using this
theorem j4y: ∀{l:List Ex} {e:Ex},e∈l->ixL l e<l.length
 |a::l,e,h=>by
  unfold ixL
  rw[List.length_cons]
  split
  ·omega
  ·rename_i ne
   have:=j4y ((List.mem_cons.1 h).resolve_left fun q=>ne q.symm)
   omega
def plc(n:Nat):List Int:=(List.range n).map fun i:Nat=>(i:Int)
theorem j7r(n:Nat):(plc n).length=n:=by unfold plc;rw[List.length_map,List.length_range]
theorem j7s{ats:List Ex}{e:Ex}(h: ∀x∈lvE e,x∈ats): ∀i∈lvs ats e,i∈plc ats.length:=fun i hi=>by
 obtain⟨x,hx,rfl⟩:=List.mem_map.1 hi
 exact List.mem_map.2 ⟨ixL ats x,List.mem_range.2 (j4y (h x hx)),rfl⟩
theorem j1q(l m:List Ex):xcL (l++m)=xcL l+xcL m:=by
 induction l with
 |nil=>simp[xcL]
 |cons k l ih=>simp only[List.cons_append,xcL,ih];omega
theorem j7t{m:Nat}{l:List Ex}(h: ∀e∈l,wt e<=m):wtL l<=l.length*(1+m):=by
 induction l with
 |nil=>simp[wtL]
 |cons a l ih=>
  have h1:=h a List.mem_cons_self
  have h2:=ih fun e he=>h e (List.mem_cons_of_mem _ he)
  simp only[wtL,List.length_cons,Nat.add_mul,Nat.one_mul] at*;omega
theorem z8c{l:List Rul}{K:List Int->Bool->Prop}(hl:l.length<=8)(hr: ∀r∈l,ExS 4 r.2/\WfX r.2/\WfN r.2/\wt r.2<=100000)(hB:(lvEL (l.map Rul.cond)).length<=1000)
  (h0: ∀ns,Nod ns->ns.length=4000->ns.length<=cstL (l.map Rul.cond)+l.length*2 ^ (atsR l).length->(∀ms,Nod ms->(∀j,j<=l.length->Hol ms (anyI (atsR l) (l.take j)))->(∀r∈l,HolS (atsR l) ms r.2)->Few ns ms (xcL (l.map Rul.cond)))->K [] false)
  (h1:K (unr (atsR l) l l.length) true):Wr l K:=by
 unfold Wr Uq
 intro _
 refine Lp2.ind (fun (i:Int) (q:List Ex)=> ∃j:Nat,i=(j:Int)/\j<=l.length/\q=(l.map Rul.cond).take j) (fun (i:Int) _=>(l.length - i).toNat) ?_ ⟨0,rfl,by omega,rfl⟩
 rintro i q ⟨j,rfl,hj,rfl⟩
 refine Cnd.mk (fun hc=>⟨by omega,fun y hy=> ?_⟩) fun hc=> ?_
 ·have hy:l[j]? =some y:=hy
  dsimp only;rw[V9]
  refine⟨by unfold Sml;simp;omega,by unfold InI;omega,⟨j+1,by omega,by omega,?_⟩,by omega⟩
  rw[List.take_add_one,List.getElem?_map,hy];rfl
 have hjl:j=l.length:=by omega
 subst hjl
 rw[List.take_of_length_le (by rw[List.length_map];exact Nat.le_refl _)]
 have hml:(l.map Rul.cond).length=l.length:=List.length_map ..
 have hwl:=j7t (m:=100000) (l:=l.map Rul.cond) fun e he=>by
  obtain⟨r,hr',rfl⟩:=List.mem_map.1 he
  exact (hr r hr').2.2.2
 rw[hml] at hwl
 have m8:l.length*(1+100000)<=8*(1+100000):=Nat.mul_le_mul_right _ hl
 have wt0:wt (Ex.mk 3 (ByteArray.mk (Array.mk [])) (ByteArray.mk (Array.mk [])) [] (l.map Rul.cond))<=1000000:=by
  rw[z14]
  show 1+wtV []+wtL (l.map Rul.cond)<=_
  simp only[wtV];omega
 have lv0:lvE (Ex.mk 3 (ByteArray.mk (Array.mk [])) (ByteArray.mk (Array.mk [])) [] (l.map Rul.cond))=lvEL (l.map Rul.cond):=by rw[R7];simp
 refine q89 wt0 (WfX.mk' ⟨by show (1:Int)<=3;decide,by show (3:Int)<=15;decide,fun o=>o.elim (fun e=>absurd e (by show ¬(3:Int)=1;decide)) fun e=>absurd e (by show ¬(5:Int)<=3;decide)⟩ fun x hx=> ?_) (fun x hx=> ?_) (fun _=> ?_) (by rw[lv0];omega)
 ·obtain⟨r,hr',rfl⟩:=List.mem_map.1 (show x∈l.map Rul.cond from hx)
  exact (hr r hr').2.1
 ·rcases z2a.1 hx with hx|hx
  ·cases hx
  ·exact Nat.le_trans (Nat.le_trans (j9l _ (Nat.le_refl _) hx) wt0) (by decide)
 rw[lv0]
 show Wp _
 have hal:(atsR l).length<=1000:=Nat.le_trans z69 hB
 have hmem: ∀{y:Rul},y∈l-> ∀x∈lvE y.2,x∈atsR l:=fun hy x hx=>j3z.2 ⟨_,hy,hx⟩
 change Wp fun Zo z2b j9s=>Qp Zo z2b j9s 0 _
 unfold Wp
 refine Js fun _=> ?_
 rw[if_pos ⟨by decide,by decide⟩]
 let cs:List Ex:=l.map Rul.cond
 have csl:cs.length=l.length:=hml
 have tk: ∀{k:Nat} {y:Rul},l[k]? =some y->cs.take (k+1)=cs.take k++[y.2]:=fun {k y} hy=>by
  rw[List.take_add_one,show cs[k]? =some y.2 by show (l.map Rul.cond)[k]? =_;rw[List.getElem?_map,hy];rfl];rfl
 have mono1: ∀k,cstL (cs.take k)<=cstL cs:=fun k=>by
  have:cstL cs=cstL (cs.take k)+cstL (cs.drop k):=by rw[←q7u,List.take_append_drop]
  omega
 have mono2: ∀k,xcL (cs.take k)<=xcL cs:=fun k=>by
  have:xcL cs=xcL (cs.take k)+xcL (cs.drop k):=by rw[←j1q,List.take_append_drop]
  omega
 have nil0:Dgm [] (anyv (atsR l) (l.take 0)) (plc (atsR l).length) (-1):=⟨⟨by omega,by omega⟩,fun v=>by rw[Zk (by omega)];rfl,fun _ _ _=>rfl⟩
 refine LpH.ind (fun (x:Int×List Int×Int×List Nd×Bool×(Nd->Option Int)×Unit)=> ∃k:Nat,x.2.2.1=(k:Int)/\k<=l.length/\x.2.1=unr (atsR l) l k/\Gx [] false x.2.2.2.1 x.2.2.2.2.2.1 x.2.2.2.2.1/\Dgm x.2.2.2.1 (anyv (atsR l) (l.take k)) (plc (atsR l).length) x.1/\x.2.2.2.1.length<=cstL (cs.take k)+k*2 ^ (atsR l).length/\ ∀ms,Nod ms->(∀j,j<=l.length->Hol ms (anyI (atsR l) (l.take j)))->(∀r∈l,HolS (atsR l) ms r.2)->Few x.2.2.2.1 ms (xcL (cs.take k))) (fun x=>((l.length:Int) - x.2.2.1).toNat) ?_ ⟨0,rfl,by omega,(z66 _ l).symm,Gx.refl z5r (by simp),nil0,by simp,fun ms _ _ _=>(Few.nil ms).le (by omega)⟩
 rintro⟨before,out,i,ns,full,ids,u⟩ ⟨k,hi,hk,ho,g,hd,hc1,hf1⟩
 dsimp only at hi ho g hd hc1 hf1⊢
 subst hi ho
 have hul:=j7l (atsR l) l k
 refine Cnd.mk (fun hc=>⟨by omega,fun y hy=> ?_⟩) fun hc=> ?_
 rotate_left
 ·have hkl:k=l.length:=by omega
  subst hkl
  exact h1
 have hy:l[k]? =some y:=hy
 obtain⟨y1,y2,y3,y4⟩:=hr y (getm hy)
 have hkl:=Qe hy
 have tkl:l.take (k+1)=l.take k++[y]:=by rw[List.take_add_one,hy];rfl
 dsimp only;rw[V9]
 refine j1p hal 4 y1 y3 (hmem (getm hy)) g.inv g.len fun r2 ns2 ids2 full2 c2 m2=> ?_
 refine j9h (S:=plc (atsR l).length) c2.gx.inv c2.gx.len (m2.wide (j7s (hmem (getm hy)))) (.inr (hd.pre g.inv.nod c2.gx.inv.nod c2.gx.pre)) fun r3 ns3 ids3 full3 c3 m3=> ?_
 have g3:=(g.trans c2.gx).trans c3.gx
 have an: ∀v,anyv (atsR l) (l.take (k+1)) v=(sem (atsR l) y.2 v||anyv (atsR l) (l.take k) v):=fun v=>by rw[tkl,j1g,Bool.or_comm]
 have len3:ns3.length<=cstL (cs.take (k+1))+(k+1)*2 ^ (atsR l).length:=by
  have a:=c2.few
  have b:=c3.few
  rw[j7r] at b
  rw[tk hy,q7u,Nat.add_mul,Nat.one_mul]
  simp only[cstL];omega
 have few3: ∀ms,Nod ms->(∀j,j<=l.length->Hol ms (anyI (atsR l) (l.take j)))->(∀r∈l,HolS (atsR l) ms r.2)->Few ns3 ms (xcL (cs.take (k+1))):=fun ms hM hA hS=>by
  have f1:=hf1 ms hM hA hS
  have f2:=c2.old ms _ hM (hS y (getm hy)) f1
  have hH:Hol ms (i01 fun v=>sem (atsR l) y.2 v||anyv (atsR l) (l.take k) v):=by
   have:(i01 fun v=>sem (atsR l) y.2 v||anyv (atsR l) (l.take k) v)=anyI (atsR l) (l.take (k+1)):=funext fun v=>by
    show (if (sem (atsR l) y.2 v||anyv (atsR l) (l.take k) v)=true then _ else _)=if anyv (atsR l) (l.take (k+1)) v=true then _ else _
    rw[an]
   rw[this];exact hA _ hkl
  refine (c3.old ms _ hM f2 hH).le ?_
  rw[tk hy,j1q]
  simp only[xcL];omega
 have bad:ns3.length=4000->K [] false:=fun e=>by
  refine h0 ns3 g3.inv.nod e ?_ fun ms hM hA hS=>(few3 ms hM hA hS).le (mono2 _)
  have:=mono1 (k+1)
  have m:(k+1)*2 ^ (atsR l).length<=l.length*2 ^ (atsR l).length:=Nat.mul_le_mul_right _ hkl
  have e2:cstL (l.map Rul.cond)=cstL cs:=rfl
  omega
 show Cnd (full3=true) _ _
 refine Cnd.mk (fun hfl=>bad (g3.room.resolve_left fun e=>by rw[hfl] at e;cases e)) fun hfl=>Js ?_
 rw[if_neg (by omega)]
 refine Cnd.mk (fun he=>bad (m3.elim (fun q=>q.2) fun d=>absurd (he▸d.ok) q1z)) fun hne=> ?_
 have d3:=m3.resolve_left fun q=>hne q.1
 have hd3:=(hd.pre g.inv.nod c2.gx.inv.nod c2.gx.pre).pre c2.gx.inv.nod c3.gx.inv.nod c3.gx.pre
 have dn:Dgm ns3 (anyv (atsR l) (l.take (k+1))) (plc (atsR l).length) r3:=⟨d3.ok,fun v=>by rw[an];exact d3.ev v,fun v v' ee=>by rw[an,an];exact d3.dep v v' ee⟩
 have d3':Dgm ns3 (fun v=>anyv (atsR l) (l.take k) v||sem (atsR l) y.2 v) (plc (atsR l).length) r3:=⟨d3.ok,fun v=>by rw[Bool.or_comm];exact d3.ev v,fun v v' ee=>by have:=d3.dep v v' ee;rw[Bool.or_comm] at this;show (_||_)=(_||_);rw[this,Bool.or_comm]⟩
 have hiff:=j7m hy g3.inv.nod hd3 d3'
 refine Cnd.mk (fun he=>⟨by unfold InI;omega,by unfold Sml;simp;omega,by unfold InI;omega,⟨k+1,by simp,hkl,(j1h (hiff.1 he)).symm,g3,dn,len3,few3⟩,by omega⟩) fun hne2=>⟨by unfold InI;omega,⟨k+1,by simp,hkl,(j4u fun hu=>hne2 (hiff.2 hu)).symm,g3,dn,len3,few3⟩,by omega⟩
end Go.En
end
noncomputable section
set_option maxRecDepth 100000
namespace Go.En
open Go Go.Fl Go.Fl.Lk Go.Fx Go.Dg
theorem u64w(x:Int):Go.IntKind.u64.wrap x=x % 18446744073709551616:=rfl
end Go.En
end
noncomputable section
set_option maxRecDepth 100000
namespace Go.En
open Go Go.Fl Go.Fl.Lk Go.Fx Go.Dg
structure RlD(k:Nat)(r:Rul):Prop where
 ex:ExS (2*k) r.2
 c:DrC k r.2
 n:WfN r.2
 x:DrX k r.2
 w:wt r.2<=lvl k
theorem j30: ∀s∈[ByteArray.mk (Array.mk [97,108,112,104,97]),ByteArray.mk (Array.mk [98,101,116,97])],s.size<=100:=fun s hs=>by
 rcases List.mem_cons.1 hs with rfl|hs
 ·decide
 ·rw[List.mem_singleton.1 hs];decide
theorem j9m{list:List Int}(k:Nat){at_ levels:Int}{K:Ex->Int->Prop}(hk0:k<=100)(hk:levels<=k+1)(hl:1<=levels)(hD:DS list at_)(h: ∀e a,ExS (2*k) e->DrC k e->WfN e->DrX k e->wt e<=lvl k->DS list a->K e a):q4w list at_ [ByteArray.mk (Array.mk [97,108,112,104,97]),ByteArray.mk (Array.mk [98,101,116,97])] levels K:=
 z76 ((j1e j30).and (j9e.and (j9f.and (j9k.and j9c)))) k hk0 hk hl hD fun e a q hD=>h e a q.1 q.2.1 q.2.2.1 q.2.2.2.1 q.2.2.2.2.wt hD
theorem RlD.all{k:Nat}(hk:k<=2){r:Rul}(h:RlD k r):ExS 4 r.2/\WfX r.2/\WfN r.2/\wt r.2<=100000:=by
 refine⟨h.ex.le (by omega),h.c.w,h.n,Nat.le_trans h.w ?_⟩
 match k,hk with
 |0,_=>decide
 |1,_=>decide
 |2,_=>decide
end Go.En
end
noncomputable section
set_option maxRecDepth 100000
namespace Go.En
open Go Go.Fl Go.Fl.Lk Go.Fx Go.Dg
abbrev e0:ByteArray:=ByteArray.mk (Array.mk [])
theorem cyc0{K:List ByteArray->Prop}(h:K []):P_graph_Cyclic [] [] K:=by
 show Go.Fl.P_graph_Cyclic [] [] K
 unfold Go.Fl.P_graph_Cyclic
 refine Jn1.mk (fun _=>True) ?_ fun t _=> ?_
 ·unfold Go.Fl.H9
  intro _
  refine Lp2.ind (fun (k:Nat) _=>k=0) (fun _ _=>0) ?_ rfl
  rintro k F rfl
  exact Cnd.no (by simp) trivial
 ·have e:srt []=[]:=List.eq_nil_of_length_eq_zero (q5v [])
  have e2:cpt (srt [])=[]:=by rw[e];rfl
  rw[e2]
  refine⟨by unfold Sml;simp,by unfold Sml;simp,fun _=> ?_⟩
  refine Lp2.ind (fun (o:List ByteArray) (k:Nat)=>o=[]/\k=0) (fun _ _=>0) ?_ ⟨rfl,rfl⟩
  rintro o k ⟨rfl,rfl⟩
  exact Cnd.no (by simp) h
theorem j7u{e:Int}{K:Int->Prop}(h:K 0):q2d false e K:=Cnd.no (by decide) h
theorem j9n{K:Int->Prop}(h:K 0):Ws (Envt.mk (Sett.mk e0 e0 0) [] [] [] [] []) K:=by
 unfold Ws Ur
 have loop: ∀{α:Type} {f:Int->(Int->Prop)->α->Prop} {A:Prop},A->Lp1 (fun (i:Int) Y=>CAt ([]:List α) i (f i Y) A) 0:=fun hA=>by
  refine Lp1.ind (fun (i:Int)=>i=0) (fun _=>0) ?_ rfl
  rintro i rfl
  exact Cnd.no (by simp) hA
 refine Jn1.mk (fun r=>r=0) ?_ fun r hr=> ?_
 ·have key: ∀{K:Bool->Prop},K false->q0i e0 K:=fun h=>by
   unfold q0i q6b
   exact Cnd.yes (by decide) h
  have at0: ∀{K:Int->Prop},K 0->Vk [] K:=fun h=>by
   unfold Vk Ga
   intro _
   refine Cnd.no (by simp) fun _=> ?_
   exact loop h
  have fst0: ∀{K:Int->Prop},K 0->Rb [0,0,0,0] K:=fun h=>by
   unfold Rb
   intro _
   refine Lp1.ind (fun (i:Int)=>0<=i/\i<=4) (fun i=>(4 - i).toNat) ?_ ⟨by omega,by omega⟩
   rintro i ⟨i0,i1⟩
   refine Cnd.mk (fun hc=>⟨⟨i0,hc⟩,fun y hy=> ?_⟩) fun _=>h
   have hc:i<4:=hc
   have:y=0:=by
    have hm:=getm hy
    simpa using hm
   exact Cnd.yes this ⟨by unfold InI;omega,⟨by omega,by omega⟩,by omega⟩
  refine z13 ?_
  rw[show Go.Sg.vld e0=true by decide]
  refine j7u (Cnd.no (by decide) (j7u (key (Cnd.no (by decide) (Cnd.yes rfl ?_)))))
  refine j7u (at0 (fst0 ?_))
  rfl
 subst hr
 refine Cnd.yes rfl (Jn1.mk (fun r=>r=0) ?_ fun r hr=> ?_)
 ·intro _
  refine Cnd.no (by simp) fun _=> ?_
  exact loop rfl
 subst hr
 refine Cnd.yes rfl (Jn1.mk (fun r=>r=0) ?_ fun r hr=> ?_)
 ·intro _
  refine Cnd.no (by simp) fun _=> ?_
  exact loop rfl
 subst hr
 refine Cnd.yes rfl (Jn1.mk (fun r=>r=0) ?_ fun r hr=> ?_)
 ·intro _
  refine Cnd.no (by simp) fun _=> ?_
  exact loop rfl
 subst hr
 refine Cnd.yes rfl fun _=>Cnd.no (by simp) fun _=> ?_
 exact loop h
theorem env0{K:ByteArray->Int->Prop}(h:K e0 0):Wt (Envt.mk (Sett.mk e0 e0 0) [] [] [] [] []) K:=by
 unfold Wt Us
 refine j9n (Cnd.yes rfl fun _=> ?_)
 refine Lp2.ind (fun (o:List ByteArray) (i:Int)=>o=[]/\i=0) (fun _ _=>0) ?_ ⟨rfl,rfl⟩
 rintro o i ⟨rfl,rfl⟩
 refine Cnd.no (by simp) fun _=> ?_
 refine Lp2.ind (fun (o:List Edg) (i:Int)=>o=[]/\i=0) (fun _ _=>0) ?_ ⟨rfl,rfl⟩
 rintro o i ⟨rfl,rfl⟩
 refine Cnd.no (by simp) (cyc0 fun _=>Cnd.no (by simp) fun _=> ?_)
 refine Lp1.ind (fun (i:Int)=>i=0) (fun _=>0) ?_ rfl
 rintro i rfl
 refine Cnd.no (by simp) fun _=> ?_
 refine Lp2.ind (fun (o:List ByteArray) (i:Int)=>o=[]/\i=0) (fun _ _=>0) ?_ ⟨rfl,rfl⟩
 rintro o i ⟨rfl,rfl⟩
 refine Cnd.no (by simp) ?_
 have nd0: ∀{K:List Edg->Prop},K []->Re (Envt.mk (Sett.mk e0 e0 0) [] [] [] [] []) K:=fun h=>by
  unfold Re
  intro _
  refine Lp2.ind (fun (o:List Edg) (i:Int)=>o=[]/\i=0) (fun _ _=>0) ?_ ⟨rfl,rfl⟩
  rintro o i ⟨rfl,rfl⟩
  exact Cnd.no (by simp) h
 refine nd0 (cyc0 fun _=>Cnd.no (by simp) fun _=> ?_)
 refine Lp1.ind (fun (i:Int)=>i=0) (fun _=>0) ?_ rfl
 rintro i rfl
 exact Cnd.no (by simp) h
theorem z8d{K:Bool->Prop}(h:K true):Rf K:=by
 unfold Rf q1b
 let t:Rul:=Rul.mk (ByteArray.mk (Array.mk [97])) (Ex.mk 1 e0 e0 [] []) (Srv.mk 0 e0 e0 e0 [])
 have ht:RlD 0 t:=⟨(j1e (segs:=[]) fun s hs=>by cases hs).hT 0,(j9e (segs:=[])).hT 0,(j9f (segs:=[])).hT 0,(j9k (segs:=[])).hT 0,by show wt (Ex.mk 1 e0 e0 [] [])<=45;simp[wt,wtV,wtL]⟩
 have hlv:lvEL ([t,t].map Rul.cond)=[]:=by
  have:lvE t.2=[]:=by rw[R7];exact if_pos rfl
  show lvE t.2++(lvE t.2++[])=[]
  rw[this];rfl
 have hcs:cstL ([t,t].map Rul.cond)=0:=by
  have:cst t.2=0:=by rw[q85];exact if_pos rfl
  show cst t.2+(cst t.2+0)=0
  rw[this]
 have hst: ∀v,sem (atsR [t,t]) t.2 v=true:=fun v=>by unfold sem;rw[j04];exact if_pos rfl
 have hal:(atsR [t,t]).length=0:=by
  have:=z69 (l:=[t,t])
  rw[hlv] at this
  simpa using this
 have hun:unr (atsR [t,t]) [t,t] [t,t].length=[2]:=by
  have h0: ¬Unr (atsR [t,t]) [t,t] 0:=fun q=>by
   have:=q t rfl (fun _=>true) (hst _)
   cases this
  have h1:Unr (atsR [t,t]) [t,t] 1:=fun r hr v _=>by
   show ([t].any fun r=>sem (atsR [t,t]) r.2 v)=true
   simp[hst]
  show unr (atsR [t,t]) [t,t] (1+1)=_
  rw[j1h h1,j4u h0,z66];rfl
 refine z8c (l:=[t,t]) (by simp) (fun r hr=> ?_) (by rw[hlv];simp) (fun ns _ hn hle _=> ?_) ?_
 ·have:r=t:=by simpa using hr
  rw[this];exact ht.all (by omega)
 ·rw[hcs,hal] at hle
  simp at hle;omega
 rw[hun]
 refine env0 (Cnd.yes rfl fun _=>Cnd.yes rfl ⟨⟨by decide,by decide⟩,fun y hy=> ?_⟩)
 have:y=2:=(Option.some.inj hy).symm
 exact Cnd.yes this (Cnd.yes rfl (by rw[decide_eq_true rfl];exact h))
end Go.En
end
noncomputable section
set_option maxRecDepth 100000
namespace Go.En
open Go Go.Fl Go.Fl.Lk Go.Fx Go.Dg
theorem z4g{e:Ex}{K:List Ex->Prop}(he:ExS 4 e)(hw:WfX e)(hB:(lvE e).length<=1000)(h:(∀x∈addL [] (lvE e),ExS 5 x)->K (addL [] (lvE e))):q1e e K:=by
 unfold q1e q31
 rw[V9]
 exact q87 4 (by omega) he hw (by simp) (by simp;omega) h
theorem j7v{x n:Int}{K:Int->Prop}(hn:0<n)(hi:n<=1000)(h: ∀r,0<=r->r<n->K r):z1f x n K:=by
 unfold z1f
 have h1:=Int.lt_tmod_of_pos x hn
 have h2:=Int.tmod_lt_of_pos x hn
 exact⟨by omega,Cnd.mk (fun hc=>⟨by unfold InI;omega,h _ (by omega) (by omega)⟩) fun hc=>h _ (by omega) h2⟩
theorem q5o{codes:List Int}{drop n:Int}{K:Bool->Prop}(hb:Byts codes)(h:K true):Q0 codes drop n K:=by
 unfold Q0 Wx
 refine z8d (Cnd.yes rfl (j3y hb (by decide) (by decide) fun r hD=>j9m 2 (by decide) (by decide) (by decide) hD fun e a hE hC hN hX hw hD=> ?_))
 rw[V9]
 have hl9:(lvE e).length<=9:=hC.n
 have hcst:cst e<=1659:=by rw[←CC2];exact hC.c
 refine z4g hE hC.w (by omega) fun h5=> ?_
 have hal:=q1m [] (lvE e)
 have hnd:(addL [] (lvE e)).Nodup:=z8b List.nodup_nil
 have hme: ∀x,x∈addL [] (lvE e)↔x∈lvE e:=fun x=>by rw[z2a];simp
 generalize addL [] (lvE e)=ats at h5 hal hnd hme⊢
 simp only[List.length_nil,Nat.zero_add] at hal
 unfold Wp
 refine j1p (by omega) 4 hE hN (fun x hx=>(hme x).2 hx) z5r (by simp) fun r ns ids full c m=> ?_
 have hns:ns.length<=1659:=by have:=c.few;simp only[List.length_nil,Nat.zero_add] at this;omega
 have d:=m.dgm (by omega)
 refine Cnd.mk (fun hbad=>absurd (hbad▸d.ok) q1z) fun _=> ?_
 refine Lp5.ind (fun (_ i:Int) ns2 full2 ids2=>0<=i/\i<=40/\ns2=ns/\full2=full/\ids2=ids) (fun _ (i:Int) _ _ _=>(40 - i).toNat) ?_ ⟨by omega,by omega,rfl,rfl,rfl⟩
 rintro n i _ _ _ ⟨i0,i1,rfl,rfl,rfl⟩
 refine Cnd.mk (fun hc _=>⟨⟨by omega,by omega,by unfold Sml;omega⟩,fun _=> ?_⟩) fun hc _=> ?_
 ·refine Lp2.ind (fun (j:Int) (hs:List Bool)=>0<=j/\j<=ats.length/\hs.length=ats.length) (fun (j:Int) _=>(ats.length - j).toNat) ?_ ⟨by omega,by omega,by simp⟩
  rintro j hs ⟨j0,j1,hsl⟩
  refine Cnd.mk (fun hc2=> ?_) fun hc2=> ?_
  ·have hc2:j<ats.length:=by simpa using hc2
   exact⟨by decide,by rw[u64w];omega,⟨j0,by omega⟩,fun y _=>⟨by unfold InI;omega,⟨by omega,by omega,by rw[List.length_set];exact hsl⟩,by omega⟩⟩
  ·unfold q8p
   refine j7o c.gx.inv.nod ?_
   refine q6m h5 (by omega) 4 hE (fun x hx=>(hme x).2 hx) z5r (by simp;omega) fun r2 ns2 ids2 full2 d2 g2=>j7n g2.inv.nod (Cnd.yes ?_ ⟨by unfold InI;omega,⟨by omega,by omega,rfl,rfl,rfl⟩,by omega⟩)
   rw[if_pos d.ok,if_pos d2.ok,d.ev,d2.ev]
 ·refine Cnd.mk (fun _=>h) fun h0 _=>j7v (by omega) (by omega) fun x x0 x1=> ?_
  obtain⟨k,rfl⟩: ∃k:Nat,x=(k:Int):=⟨x.toNat,by omega⟩
  have hk:k<ats.length:=by omega
  have e1:[]++List.drop (Int.toNat (0:Int)) (List.take (k:Int).toNat ats)++List.drop ((k:Int)+1).toNat (List.take (ats.length:Int).toNat ats)=ats.take k++ats.drop (k+1):=by
   show List.take k ats++List.drop (k+1) (List.take ats.length ats)=_
   rw[List.take_length]
  refine⟨⟨by omega,by omega,by omega⟩,by unfold InI;omega,⟨by omega,by omega,by omega⟩,?_,?_,?_⟩
  ·show Sml (List.take k ats).length
   unfold Sml;rw[List.length_take];omega
  ·rw[e1]
   unfold Sml;rw[List.length_append,List.length_take,List.length_drop];omega
  ·rw[e1]
   obtain⟨y,hy⟩: ∃y,ats[k]? =some y:=⟨ats[k],List.getElem?_eq_getElem hk⟩
   have hsp:ats.take k++y::ats.drop (k+1)=ats:=by rw[←q9a hy,List.take_append_drop]
   have hno:y∉ats.take k++ats.drop (k+1):=fun hy2=>by
    rw[←hsp] at hnd
    obtain⟨_,n2,n3⟩:=List.nodup_append.1 hnd
    rcases List.mem_append.1 hy2 with q|q
    ·exact n3 y q y List.mem_cons_self rfl
    ·exact (List.nodup_cons.1 n2).1 q
   refine z8a (by rw[List.length_append,List.length_take,List.length_drop];omega) 4 hE hN c.gx.inv (by omega) fun r' ns' ids' full' _ _ hbad=> ?_
   rw[decide_eq_true (hbad ⟨y,(hme y).1 (getm hy),hno⟩)]
   exact h
end Go.En
end
