/- Explain and Check return what is specified for any register, record and environment with the layers and experiments of a made one; for every input of bulk at most 1048576 the law returns true. This is part 6 of 10. Conditions: those in the statements. -/
import Derived.Test.YtjepffgpbidclaaGreatDoorRows
import Derived.Test.YtjepffgpbidclaaGreatDoorAn5
import Derived.KernelRfl
noncomputable section
set_option maxRecDepth 100000
namespace Go.En
open Go Go.Fl Go.Fl.Lk Go.Fx
structure LkAt(r:Reg)(k:Nat)(e:Lnk):Prop where
 a:keyV e.1=true
 b:keyV e.2=true
 ne:e.1≠e.2
 lo:0<=e.3
 hi:e.3<=r.1
 up: ∀p,0<k->r.2[k - 1]? =some p->p.3<=e.3
structure SlP(r:Reg)(s:Slt):Prop where
 i:keyV s.1=true
 l:keyV s.2=true
 x:keyV s.3=true
 a0:1<=s.4
 a1:s.4<=8
 f0:0<=s.5
 f1:s.5<=r.1
 e:(s.7=0/\s.6=0)∨((s.7=1∨s.7=2)/\s.5<=s.6/\s.6<=r.1)
structure SlAt(r:Reg)(k:Nat)(s:Slt):Prop where
 p:SlP r s
 up: ∀p,0<k->r.3[k - 1]? =some p->p.5<=s.5
def OpAt(r:Reg)(k:Nat)(s:Slt):Prop:= ∀m t,m<k->r.3[m]? =some t->s.7=0->t.7=0->s.2=t.2-> ¬Conn (tup r.2) s.1 t.1
structure RegOk(r:Reg):Prop where
 n0:0<=r.1
 n1:r.1<=1099511627776
 ln:r.2.length<=64
 sn:r.3.length<=128
 lk: ∀k e,r.2[k]? =some e->LkAt r k e
 sl: ∀k s,r.3[k]? =some s->SlAt r k s
 op: ∀k s,r.3[k]? =some s->OpAt r k s
def regV(r:Reg):Bool:=dec (RegOk r)
theorem q3p{r:Reg}:regV r=true↔RegOk r:=z7z
structure RegB(r:Reg):Prop where
 lk: ∀e∈r.2,e.1.size<=1000000000/\e.2.size<=1000000000
 sl: ∀s∈r.3,s.1.size<=1000000000/\s.2.size<=1000000000/\s.3.size<=1000000000
theorem w9y{r:Reg}{s:Slt}{K:Bool->Prop}(hT:SlP r s->K true)(hF: ¬SlP r s->K false):q1c r s K:=by
 unfold q1c q5g
 have hD: ∀b:Bool,(b=true↔SlP r s)->K b:=fun b hb=>by
  cases b with
  |true=>exact hT (hb.1 rfl)
  |false=>exact hF fun h=>by have:=hb.2 h;cases this
 refine Wl (Cnd.mk (fun h1=> ?_) fun h1=>hF fun h=>h1 h.i)
 refine Wl (Cnd.mk (fun h2=> ?_) fun h2=>hF fun h=>h2 h.l)
 refine Wl (Cnd.mk (fun h3=> ?_) fun h3=>hF fun h=>h3 h.x)
 refine Cnd.mk (fun h4=>hF fun h=>by have:=h.a0;omega) fun h4=>Cnd.mk (fun h5=>hF fun h=>by have:=h.a1;omega) fun h5=>Cnd.mk (fun h6=>hF fun h=>by have:=h.f0;omega) fun h6=>Cnd.mk (fun h7=>hF fun h=>by have:=h.f1;omega) fun h7=> ?_
 have mk:((s.7=0/\s.6=0)∨((s.7=1∨s.7=2)/\s.5<=s.6/\s.6<=r.1))->SlP r s:=fun e=>⟨h1,h2,h3,by omega,by omega,by omega,by omega,e⟩
 refine Cnd.mk (fun h8=>hD _ ⟨fun h=>mk (.inl ⟨h8,of_decide_eq_true h⟩),fun h=>dt ?_⟩) fun h8=> ?_
 ·rcases h.e with h|h<;>omega
 ·have fin: ∀b:Bool,(b=true↔(s.7=1∨s.7=2))->Cnd (b=true) (Cnd (s.5<=s.6) (K (decide (s.6<=r.1))) (K false)) (K false):=fun b hb=>Cnd.mk (fun h9=>Cnd.mk (fun h10=>hD _ ⟨fun h=>mk (.inr ⟨hb.1 h9,h10,of_decide_eq_true h⟩),fun h=>dt ?_⟩) fun h10=>hF fun h=> ?_) fun h9=>hF fun h=> ?_
  ·refine Jn1.mk (fun b=>b=true↔(s.7=1∨s.7=2)) (Cnd.mk (fun h9=> ?_) fun h9=> ?_) fin
   ·show decide _=true↔_;rw[decide_eq_true_iff];omega
   ·show decide _=true↔_;rw[decide_eq_true_iff];omega
  ·rcases h.e with h|h<;>omega
  ·rcases h.e with h|h<;>omega
  ·refine h9 (hb.2 ?_)
   rcases h.e with h|h
   ·omega
   ·exact h.1
theorem j2a{r:Reg}{K:Bool->Prop}(h:K (regV r)):V4 r K:=by
 unfold V4 q33
 have hF: ¬RegOk r->K false:=fun hn=>by unfold regV at h;rw[z1w hn] at h;exact h
 have hT:RegOk r->K true:=fun ho=>by unfold regV at h;rw[z5m ho] at h;exact h
 refine Cnd.mk (fun h1=>hF fun h=>by have:=h.n0;omega) fun h1=>Cnd.mk (fun h2=>hF fun h=>by have:=h.n1;omega) fun h2=>fun _=>Cnd.mk (fun h3=>hF fun h=>by have:=h.ln;omega) fun h3=>fun _=>Cnd.mk (fun h4=>hF fun h=>by have:=h.sn;omega) fun h4=>fun _=> ?_
 refine Lp2.ind (fun b i=> ∃j:Nat,i=(j:Int)/\j<=r.2.length/\(∀k e,k<j->r.2[k]? =some e->LkAt r k e)/\((j=0/\b=0)∨ ∃p,0<j/\r.2[j - 1]? =some p/\b=p.3)) (fun _ i=>(r.2.length - i).toNat) ?_ ⟨0,rfl,by omega,fun k e hk=>by omega,.inl ⟨rfl,rfl⟩⟩
 rintro b i ⟨j,rfl,hj,hd,hb⟩
 refine Cnd.mk (fun hc=>⟨by omega,fun y hy=> ?_⟩) fun hc=>fun _=> ?_
 ·have hy:r.2[j]? =some y:=hy
  have no: ¬LkAt r j y->K false:=fun hn=>hF fun h=>hn (h.lk j y hy)
  refine Wl (Cnd.mk (fun c1=> ?_) fun c1=>no fun h=>c1 h.a)
  refine Wl (Cnd.mk (fun c2=> ?_) fun c2=>no fun h=>c2 h.b)
  refine Cnd.mk (fun c3=>no fun h=>h.ne c3) fun c3=>Cnd.mk (fun c4=>no fun h=> ?_) fun c4=>Cnd.mk (fun c5=>no fun h=>by have:=h.hi;omega) fun c5=>⟨by unfold InI;omega,⟨j+1,by omega,by omega,fun k e hk he=> ?_,.inr ⟨y,by omega,by simpa using hy,rfl⟩⟩,by omega⟩
  ·rcases hb with ⟨_,rfl⟩|⟨p,h0,hp,rfl⟩
   ·have:=h.lo;omega
   ·have:=h.up p h0 hp;omega
  ·rcases Nat.lt_or_ge k j with h1|h1
   ·exact hd k e h1 he
   ·rw[show k=j by omega] at he⊢
    rw[hy] at he;cases he
    rcases hb with ⟨h0,rfl⟩|⟨p,h0,hp,rfl⟩
    ·exact⟨c1,c2,c3,by omega,by omega,fun p hp=>by omega⟩
    ·exact⟨c1,c2,c3,by have:=(hd (j - 1) p (by omega) hp).lo;omega,by omega,fun p' _ hp'=>by rw[hp] at hp';cases hp';omega⟩
 have hlk: ∀k e,r.2[k]? =some e->LkAt r k e:=fun k e he=>hd k e (by have:=Qg he;omega) he
 refine Lp2.ind (fun b i=> ∃j:Nat,i=(j:Int)/\j<=r.3.length/\(∀k e,k<j->r.3[k]? =some e->SlAt r k e)/\((j=0/\b=0)∨ ∃p,0<j/\r.3[j - 1]? =some p/\b=p.5)) (fun _ i=>(r.3.length - i).toNat) ?_ ⟨0,rfl,by omega,fun k e hk=>by omega,.inl ⟨rfl,rfl⟩⟩
 clear hc hd hb hj j b
 rintro b i ⟨j,rfl,hj,hd,hb⟩
 refine Cnd.mk (fun hc=>⟨by omega,fun y hy=> ?_⟩) fun hc=>fun _=> ?_
 ·have hy:r.3[j]? =some y:=hy
  have no: ¬SlAt r j y->K false:=fun hn=>hF fun h=>hn (h.sl j y hy)
  refine w9y (fun c1=>Cnd.mk (fun _=>Cnd.mk (fun c4=>no fun h=> ?_) fun c4=>⟨by unfold InI;omega,⟨j+1,by omega,by omega,fun k e hk he=> ?_,.inr ⟨y,by omega,by simpa using hy,rfl⟩⟩,by omega⟩) fun c=>absurd rfl c) fun c1=>Cnd.mk (fun c=>by cases c) fun _=>no fun h=>c1 h.p
  ·rcases hb with ⟨_,rfl⟩|⟨p,h0,hp,rfl⟩
   ·have:=c1.f0;omega
   ·have:=h.up p h0 hp;omega
  ·rcases Nat.lt_or_ge k j with h1|h1
   ·exact hd k e h1 he
   ·rw[show k=j by omega] at he⊢
    rw[hy] at he;cases he
    rcases hb with ⟨h0,rfl⟩|⟨p,h0,hp,rfl⟩
    ·exact⟨c1,fun p hp=>by omega⟩
    ·exact⟨c1,fun p' _ hp'=>by rw[hp] at hp';cases hp';omega⟩
 have hsl: ∀k e,r.3[k]? =some e->SlAt r k e:=fun k e he=>hd k e (by have:=Qg he;omega) he
 clear hc hd hb hj j b
 refine Lp2.ind (fun i F=> ∃j:Nat,i=(j:Int)/\j<=r.3.length/\(∀k s,k<j->r.3[k]? =some s->OpAt r k s)/\(∀k s,k<j->r.3[k]? =some s->s.7=0->F (s.2,z1z r.2 s.1)=some true)/\(∀q b,F q=some b-> ∃k s,k<j/\r.3[k]? =some s/\s.7=0/\q=(s.2,z1z r.2 s.1))) (fun i _=>(r.3.length - i).toNat) ?_ ⟨0,rfl,by omega,fun k e hk=>by omega,fun k e hk=>by omega,fun q b hq=>by cases hq⟩
 rintro i F ⟨j,rfl,hj,hd,hi,ho⟩
 refine Cnd.mk (fun hc=>⟨by omega,fun y hy=> ?_⟩) fun hc=> ?_
 ·have hy:r.3[j]? =some y:=hy
  refine Cnd.mk (fun c1=>q7s (by omega) (Cnd.mk (fun c2=> ?_) fun c2=> ?_)) fun c1=>⟨by unfold InI;omega,⟨j+1,by omega,by omega,fun k e hk he=> ?_,fun k e hk he h0=> ?_,fun q b hq=> ?_⟩,by omega⟩
  ·refine hF fun h=> ?_
   cases hq:F (y.2,z1z r.2 y.1) with
   |none=>rw[hq] at c2;cases c2
   |some b=>
    obtain⟨k,s,hk,hs,h0,e⟩:=ho _ _ hq
    simp only[Prod.mk.injEq] at e
    exact h.op j y hy k s hk hs c1 h0 e.1 (q4w.1 e.2)
  ·have hop:OpAt r j y:=fun m t hm ht _ h0 he hcn=>by
    have:=hi m t hm ht h0
    rw[←he,←q4w.2 hcn] at this
    rw[this] at c2;exact c2 rfl
   refine⟨by unfold InI;omega,⟨j+1,by omega,by omega,fun k e hk he=> ?_,fun k e hk he h0=> ?_,fun q b hq=> ?_⟩,by omega⟩
   ·rcases Nat.lt_or_ge k j with h1|h1
    ·exact hd k e h1 he
    ·rw[show k=j by omega] at he⊢
     rw[hy] at he;cases he;exact hop
   ·unfold Fl.put
    split
    ·rfl
    ·rename_i hne
     rcases Nat.lt_or_ge k j with h1|h1
     ·exact hi k e h1 he h0
     ·rw[show k=j by omega] at he
      rw[hy] at he;cases he;exact absurd rfl hne
   ·unfold Fl.put at hq
    split at hq
    ·rename_i e;exact⟨j,y,by omega,hy,c1,e⟩
    ·obtain⟨k,s,hk,hs⟩:=ho q b hq
     exact⟨k,s,by omega,hs⟩
  ·rcases Nat.lt_or_ge k j with h1|h1
   ·exact hd k e h1 he
   ·rw[show k=j by omega] at he⊢
    rw[hy] at he;cases he;exact fun _ _ _ _ h0=>absurd h0 c1
  ·rcases Nat.lt_or_ge k j with h1|h1
   ·exact hi k e h1 he h0
   ·rw[show k=j by omega] at he
    rw[hy] at he;cases he;exact absurd h0 c1
  ·obtain⟨k,s,hk,hs⟩:=ho q b hq
   exact⟨k,s,by omega,hs⟩
 ·exact hT ⟨by omega,by omega,by omega,by omega,hlk,hsl,fun k e he=>hd k e (by have:=Qg he;omega) he⟩
theorem j6e{r:Reg}{j:Nat}{s:Slt}{K:Bool->Prop}(hB:RegB r)(hln:r.2.length<=64)(hsn:r.3.length<=128)(hs:r.3[j]? =some s)(hT:SlAt r j s->OpAt r j s->K true)(hF: ¬(SlAt r j s/\OpAt r j s)->K false):q76 r (j:Int) K:=by
 unfold q76 z2v
 have hlt:=Qg hs
 obtain⟨b1,b2,b3⟩:=hB.sl s (List.mem_of_getElem? hs)
 refine⟨by omega,fun y hy=> ?_⟩
 have hy:r.3[j]? =some y:=hy
 rw[hs] at hy;cases hy
 refine q25 b1 (Cnd.mk (fun h1=> ?_) fun h1=>hF fun h=>h1 h.1.p.i)
 refine q25 b2 (Cnd.mk (fun h2=> ?_) fun h2=>hF fun h=>h2 h.1.p.l)
 refine q25 b3 (Cnd.mk (fun h3=> ?_) fun h3=>hF fun h=>h3 h.1.p.x)
 refine Cnd.mk (fun h4=>hF fun h=>by have:=h.1.p.a0;omega) fun h4=>Cnd.mk (fun h5=>hF fun h=>by have:=h.1.p.a1;omega) fun h5=>Cnd.mk (fun h6=>hF fun h=>by have:=h.1.p.f0;omega) fun h6=>Cnd.mk (fun h7=>hF fun h=>by have:=h.1.p.f1;omega) fun h7=> ?_
 have loop:(∀p,0<j->r.3[j - 1]? =some p->p.5<=s.5)->((s.7=0/\s.6=0)∨((s.7=1∨s.7=2)/\s.5<=s.6/\s.6<=r.1))->
   Lp1 (fun x Y=>Cnd (x<(j:Int)) ((0<=x/\x<(r.3.length:Int))/\ ∀y8,r.3[x.toNat]? =some y8->Cnd (s.7=0) (Cnd (y8.7=0) (Cnd (s.2=y8.2) (q19 r.2 s.1 y8.1 fun x10=>Cnd (x10=true) (K false) (InI (x+1)/\Y (x+1))) (InI (x+1)/\Y (x+1))) (InI (x+1)/\Y (x+1))) (InI (x+1)/\Y (x+1))) (K true)) 0:=fun hup he=>by
  refine Lp1.ind (fun i=> ∃k:Nat,i=(k:Int)/\k<=j/\ ∀m t,m<k->r.3[m]? =some t->s.7=0->t.7=0->s.2=t.2-> ¬Conn (tup r.2) s.1 t.1) (fun i=>((j:Int) - i).toNat) ?_ ⟨0,rfl,by omega,fun m t hm=>by omega⟩
  rintro i ⟨k,rfl,hk,hd⟩
  refine Cnd.mk (fun hc=>⟨by omega,fun t ht=> ?_⟩) fun hc=>hT ⟨⟨h1,h2,h3,by omega,by omega,by omega,by omega,he⟩,hup⟩ fun m t hm=>hd m t (by omega)
  have ht:r.3[k]? =some t:=ht
  have nx:(s.7=0->t.7=0->s.2=t.2-> ¬Conn (tup r.2) s.1 t.1)->InI ((k:Int)+1)/\(∃k':Nat,(k:Int)+1=(k':Int)/\k'<=j/\ ∀m t,m<k'->r.3[m]? =some t->s.7=0->t.7=0->s.2=t.2-> ¬Conn (tup r.2) s.1 t.1)/\((j:Int) - ((k:Int)+1)).toNat<((j:Int) - (k:Int)).toNat:=fun hn=>⟨by unfold InI;omega,⟨k+1,by omega,by omega,fun m t' hm ht'=>by
   rcases Nat.lt_or_ge m k with h1|h1
   ·exact hd m t' h1 ht'
   ·rw[show m=k by omega] at ht'
    rw[ht] at ht';cases ht';exact hn⟩,by omega⟩
  exact Cnd.mk (fun c1=>Cnd.mk (fun c2=>Cnd.mk (fun c3=>z3q (by omega) (Cnd.mk (fun c4=>hF fun h=>h.2 k t (by omega) ht c1 c2 c3 (q26.1 c4)) fun c4=>nx fun _ _ _ hcn=>c4 (q26.2 hcn))) fun c3=>nx fun _ _ h=>absurd h c3) fun c2=>nx fun _ h=>absurd h c2) fun c1=>nx fun h=>absurd h c1
 have rest: ∀X:Prop,(((s.7=0/\s.6=0)∨((s.7=1∨s.7=2)/\s.5<=s.6/\s.6<=r.1))->X)->Cnd (s.7=0) (Cnd (s.6=0) X (K false)) (Jn1 (fun (b:Bool)=>Cnd (b=true) (Cnd (s.6<s.5) (K false) (Cnd (r.1<s.6) (K false) X)) (K false)) fun Y=>Cnd (s.7=1) (Y (decide (s.7=1))) (Y (decide (s.7=2)))):=fun X hX=>by
  have no: ¬((s.7=0/\s.6=0)∨((s.7=1∨s.7=2)/\s.5<=s.6/\s.6<=r.1))->K false:=fun hn=>hF fun h=>hn h.1.p.e
  refine Cnd.mk (fun c1=>Cnd.mk (fun c2=>hX (.inl ⟨c1,c2⟩)) fun c2=>no (by omega)) fun c1=>Jn1.mk (fun b=>b=true↔(s.7=1∨s.7=2)) (Cnd.mk (fun h9=> ?_) fun h9=> ?_) fun b hb=>Cnd.mk (fun c2=>Cnd.mk (fun c3=>no (by omega)) fun c3=>Cnd.mk (fun c4=>no (by omega)) fun c4=>hX (.inr ⟨hb.1 c2,by omega,by omega⟩)) fun c2=>no fun hn=> ?_
  ·show decide _=true↔_;rw[decide_eq_true_iff];omega
  ·show decide _=true↔_;rw[decide_eq_true_iff];omega
  ·refine c2 (hb.2 ?_)
   rcases hn with h|h
   ·omega
   ·exact h.1
 refine Cnd.mk (fun h8=>⟨by unfold InI;omega,by omega,fun p hp=>Cnd.mk (fun h9=>hF fun h=> ?_) fun h9=> ?_⟩) fun h8=> ?_
 ·have hp:r.3[j - 1]? =some p:=by rw[show ((j:Int) - 1).toNat=j - 1 by omega] at hp;exact hp
  have:=h.1.up p (by omega) hp;omega
 ·have hp:r.3[j - 1]? =some p:=by rw[show ((j:Int) - 1).toNat=j - 1 by omega] at hp;exact hp
  exact⟨_,id,rest _ fun he=>loop (fun p' _ hp'=>by rw[hp] at hp';cases hp';omega) he⟩
 ·exact⟨_,id,rest _ fun he=>loop (fun p' h0=>by omega) he⟩
theorem z35{r:Reg}{K:Bool->Prop}(hB:RegB r)(h:K (regV r)):q2s r K:=by
 unfold q2s q9u
 have hF: ¬RegOk r->K false:=fun hn=>by unfold regV at h;rw[z1w hn] at h;exact h
 have hT:RegOk r->K true:=fun ho=>by unfold regV at h;rw[z5m ho] at h;exact h
 refine Cnd.mk (fun h1=>hF fun h=>by have:=h.n0;omega) fun h1=>Cnd.mk (fun h2=>hF fun h=>by have:=h.n1;omega) fun h2=>fun _=>Cnd.mk (fun h3=>hF fun h=>by have:=h.ln;omega) fun h3=>fun _=>Cnd.mk (fun h4=>hF fun h=>by have:=h.sn;omega) fun h4=> ?_
 refine Lp1.ind (fun i=> ∃j:Nat,i=(j:Int)/\j<=r.2.length/\(∀k e,k<j->r.2[k]? =some e->LkAt r k e)) (fun i=>(r.2.length - i).toNat) ?_ ⟨0,rfl,by omega,fun k e hk=>by omega⟩
 rintro i ⟨j,rfl,hj,hd⟩
 refine fun _=>Cnd.mk (fun hc=>⟨by omega,fun y hy=> ?_⟩) fun hc=> ?_
 ·have hy:r.2[j]? =some y:=hy
  obtain⟨b1,b2⟩:=hB.lk y (List.mem_of_getElem? hy)
  have no: ¬LkAt r j y->K false:=fun hn=>hF fun h=>hn (h.lk j y hy)
  have nx:LkAt r j y->InI ((j:Int)+1)/\(∃j':Nat,(j:Int)+1=(j':Int)/\j'<=r.2.length/\(∀k e,k<j'->r.2[k]? =some e->LkAt r k e))/\(r.2.length - ((j:Int)+1)).toNat<(r.2.length - (j:Int)).toNat:=fun hl=>⟨by unfold InI;omega,⟨j+1,by omega,by omega,fun k e hk he=>by
   rcases Nat.lt_or_ge k j with h1|h1
   ·exact hd k e h1 he
   ·rw[show k=j by omega] at he⊢
    rw[hy] at he;cases he;exact hl⟩,by omega⟩
  refine q25 b1 (Cnd.mk (fun c1=> ?_) fun c1=>no fun h=>c1 h.a)
  refine q25 b2 (Cnd.mk (fun c2=> ?_) fun c2=>no fun h=>c2 h.b)
  refine Cnd.mk (fun c3=>no fun h=>h.ne c3) fun c3=>Cnd.mk (fun c4=>no fun h=>by have:=h.lo;omega) fun c4=>Cnd.mk (fun c5=>no fun h=>by have:=h.hi;omega) fun c5=>Cnd.mk (fun c6=>⟨by unfold InI;omega,by omega,fun p hp=>Cnd.mk (fun c7=>no fun h=> ?_) fun c7=>nx ?_⟩) fun c6=>nx ⟨c1,c2,c3,by omega,by omega,fun p hp=>by omega⟩
  ·have hp:r.2[j - 1]? =some p:=by rw[show ((j:Int) - 1).toNat=j - 1 by omega] at hp;exact hp
   have:=h.up p (by omega) hp;omega
  ·have hp:r.2[j - 1]? =some p:=by rw[show ((j:Int) - 1).toNat=j - 1 by omega] at hp;exact hp
   exact⟨c1,c2,c3,by omega,by omega,fun p' _ hp'=>by rw[hp] at hp';cases hp';omega⟩
 have hlk: ∀k e,r.2[k]? =some e->LkAt r k e:=fun k e he=>hd k e (by have:=Qg he;omega) he
 clear hc hd hj j
 refine Lp1.ind (fun i=> ∃j:Nat,i=(j:Int)/\j<=r.3.length/\(∀k e,k<j->r.3[k]? =some e->SlAt r k e/\OpAt r k e)) (fun i=>(r.3.length - i).toNat) ?_ ⟨0,rfl,by omega,fun k e hk=>by omega⟩
 rintro i ⟨j,rfl,hj,hd⟩
 refine fun _=>Cnd.mk (fun hc=> ?_) fun hc=>hT ⟨by omega,by omega,by omega,by omega,hlk,fun k e he=>(hd k e (by have:=Qg he;omega) he).1,fun k e he=>(hd k e (by have:=Qg he;omega) he).2⟩
 obtain⟨y,hy⟩: ∃y,r.3[j]? =some y:=⟨_,List.getElem?_eq_getElem (by omega)⟩
 refine j6e hB (by omega) (by omega) hy (fun s1 s2=>Cnd.mk (fun _=>⟨by unfold InI;omega,⟨j+1,by omega,by omega,fun k e hk he=> ?_⟩,by omega⟩) fun c=>absurd rfl c) fun hn=>Cnd.mk (fun c=>by cases c) fun _=>hF fun h=>hn ⟨h.sl j y hy,h.op j y hy⟩
 rcases Nat.lt_or_ge k j with h1|h1
 ·exact hd k e h1 he
 ·rw[show k=j by omega] at he⊢
  rw[hy] at he;cases he;exact⟨s1,s2⟩
abbrev noSl:Slt:=Slt.mk noT noT noT 0 0 0 0
def atP(r:Reg)(id layer:ByteArray)(t:Int)(s:Slt):Bool:=decide (s.2=layer) && (decide (s.5<=t) && ((decide (s.7=0)||decide (t<s.6)) && z3p (q27 r.2 t) s.1 id))
def atV(r:Reg)(id layer:ByteArray)(t:Int):Option Slt:=r.3.find? (atP r id layer t)
theorem z79{α:Type}{l:List α}{p:α->Bool}{j:Nat}{y:α}{β:Type}{z:α}{K:α->Bool->Prop}(h:K ((l.find? p).getD z) (l.find? p).isSome)(hf:l.find? p=(l.drop j).find? p)(hy:l[j]? =some y)(hp:p y=true)(_:β):K y true:=by
 rw[hf,q8n hy hp] at h;exact h
theorem j4m{α:Type}{l:List α}{p:α->Bool}{j:Nat}{z:α}{K:α->Bool->Prop}(h:K ((l.find? p).getD z) (l.find? p).isSome)(hf:l.find? p=(l.drop j).find? p)(hj:l.length<=j):K z false:=by
 rw[hf,List.drop_eq_nil_of_le hj] at h;exact h
theorem v3t{r:Reg}{id layer:ByteArray}{t:Int}{K:Slt->Bool->Prop}(hln:r.2.length<=64)(hsn:r.3.length<=128)(h:K ((atV r id layer t).getD noSl) (atV r id layer t).isSome):q5i r id layer t K:=by
 unfold q5i q9s
 have hu:=q28 r.2 t
 refine z98 (by omega) (q7s (by omega) fun _=> ?_)
 refine LpH.ind (fun x=> ∃j:Nat,x.1=(j:Int)/\j<=r.3.length/\r.3.find? (atP r id layer t)=(r.3.drop j).find? (atP r id layer t)) (fun x=>((r.3.length:Int) - (x.1:Int)).toNat) ?_ ⟨0,rfl,by omega,rfl⟩
 rintro⟨i,x⟩ ⟨j,hi,hj,hf⟩
 dsimp only at hi⊢
 subst hi
 refine Cnd.mk (fun hc=>⟨by omega,fun y hy=> ?_⟩) fun hc=>j4m h hf (by omega)
 have hy:r.3[j]? =some y:=hy
 have miss:atP r id layer t y=false->InI ((j:Int)+1)/\(∃j':Nat,(j:Int)+1=(j':Int)/\j'<=r.3.length/\r.3.find? (atP r id layer t)=(r.3.drop j').find? (atP r id layer t))/\(r.3.length - ((j:Int)+1)).toNat<(r.3.length - (j:Int)).toNat:=fun hp=>⟨by unfold InI;omega,⟨j+1,by omega,by omega,by rw[hf,Uv hy hp]⟩,by omega⟩
 have same: ∀o:Bool,(decide (y.7=0)||decide (t<y.6))=o->y.2=layer->y.5<=t->atP r id layer t y=(o && z3p (q27 r.2 t) y.1 id):=fun o ho h1 h2=>by unfold atP;rw[ho,dt h1,dt h2,Bool.true_and,Bool.true_and]
 have rt:z1z (q27 r.2 t) y.1=z1z (q27 r.2 t) id↔z3p (q27 r.2 t) y.1 id=true:=q4w.trans q26.symm
 exact Cnd.mk (fun c1=>Cnd.mk (fun c2=>Cnd.mk (fun c3=>q7s (by omega) (Cnd.mk (fun c4=>z79 h hf hy (by rw[same true (by rw[dt c3,Bool.true_or]) c1 c2,rt.1 c4];rfl) ()) fun c4=>miss (by rw[same true (by rw[dt c3,Bool.true_or]) c1 c2,Bool.true_and,←Bool.not_eq_true];exact fun e=>c4 (rt.2 e)))) fun c3=>Cnd.mk (fun c5=>q7s (by omega) (Cnd.mk (fun c4=>z79 h hf hy (by rw[same true (by rw[dt c5,Bool.or_true]) c1 c2,rt.1 c4];rfl) ()) fun c4=>miss (by rw[same true (by rw[dt c5,Bool.or_true]) c1 c2,Bool.true_and,←Bool.not_eq_true];exact fun e=>c4 (rt.2 e)))) fun c5=>miss (by rw[same false (by rw[df c3,df c5];rfl) c1 c2];rfl)) fun c2=>miss (by unfold atP;rw[df c2];simp)) fun c1=>miss (by unfold atP;rw[df c1];simp)
theorem v3u{r:Reg}{id layer:ByteArray}{t:Int}{K:Slt->Bool->Prop}(h:regV r=true->K ((atV r id layer t).getD noSl) (atV r id layer t).isSome)(hn:regV r=false->K noSl false):q5j r id layer t K:=by
 unfold q5j q9t
 refine j2a (Cnd.mk (fun hc=> ?_) fun hc=>hn (by simpa using hc))
 have hv:=q3p.1 hc
 exact v3t hv.ln hv.sn (h hc)
theorem w3i{r:Reg}{id layer:ByteArray}{t:Int}{K:Slt->Bool->Prop}(hB:RegB r)(h:regV r=true->K ((atV r id layer t).getD noSl) (atV r id layer t).isSome)(hn:regV r=false->K noSl false):z5e r id layer t K:=by
 unfold z5e j0x
 refine z35 hB (Cnd.mk (fun hc=> ?_) fun hc=>hn (by simpa using hc))
 have hv:=q3p.1 hc
 have h:=h hc
 have hln:=hv.ln
 have hsn:=hv.sn
 have hu:=q28 r.2 t
 refine z78 (by omega) ?_
 refine LpH.ind (fun x=> ∃j:Nat,x.1=(j:Int)/\j<=r.3.length/\r.3.find? (atP r id layer t)=(r.3.drop j).find? (atP r id layer t)) (fun x=>((r.3.length:Int) - (x.1:Int)).toNat) ?_ ⟨0,rfl,by omega,rfl⟩
 rintro⟨i,x⟩ ⟨j,hi,hj,hf⟩
 dsimp only at hi⊢
 subst hi
 refine fun _=>Cnd.mk (fun hc=>⟨by omega,fun y hy=> ?_⟩) fun hc=>j4m h hf (by omega)
 have hy:r.3[j]? =some y:=hy
 have miss:atP r id layer t y=false->InI ((j:Int)+1)/\(∃j':Nat,(j:Int)+1=(j':Int)/\j'<=r.3.length/\r.3.find? (atP r id layer t)=(r.3.drop j').find? (atP r id layer t))/\(r.3.length - ((j:Int)+1)).toNat<(r.3.length - (j:Int)).toNat:=fun hp=>⟨by unfold InI;omega,⟨j+1,by omega,by omega,by rw[hf,Uv hy hp]⟩,by omega⟩
 have same: ∀o:Bool,(decide (y.7=0)||decide (t<y.6))=o->y.2=layer->y.5<=t->atP r id layer t y=(o && z3p (q27 r.2 t) y.1 id):=fun o ho h1 h2=>by unfold atP;rw[ho,dt h1,dt h2,Bool.true_and,Bool.true_and]
 exact Cnd.mk (fun c1=>Cnd.mk (fun c2=>Cnd.mk (fun c3=>z3q (by omega) (Cnd.mk (fun c4=>z79 h hf hy (by rw[same true (by rw[dt c3,Bool.true_or]) c1 c2,c4];rfl) ()) fun c4=>miss (by rw[same true (by rw[dt c3,Bool.true_or]) c1 c2,Bool.true_and,←Bool.not_eq_true];exact c4))) fun c3=>Cnd.mk (fun c5=>z3q (by omega) (Cnd.mk (fun c4=>z79 h hf hy (by rw[same true (by rw[dt c5,Bool.or_true]) c1 c2,c4];rfl) ()) fun c4=>miss (by rw[same true (by rw[dt c5,Bool.or_true]) c1 c2,Bool.true_and,←Bool.not_eq_true];exact c4))) fun c5=>miss (by rw[same false (by rw[df c3,df c5];rfl) c1 c2];rfl)) fun c2=>miss (by unfold atP;rw[df c2];simp)) fun c1=>miss (by unfold atP;rw[df c1];simp)
end Go.En
end
noncomputable section
set_option maxRecDepth 100000
namespace Go.En
open Go Go.Fl Go.Fl.Lk Go.Fx
def ldV(b:ByteArray)(t:Int):List Lnk->ByteArray->Bool
 |[],a=>decide (a=b)
 |k::l,a=>if t<k.3 then false else if k.1=a then ldV b t l k.2 else if k.2=a then ldV b t l k.1 else false
theorem w3j{α:Type}{l:List α}{j:Nat}{y:α}(h:l[j]? =some y):l.drop j=y::l.drop (j+1):=by
 have hlt:=Qg h
 rw[List.drop_eq_getElem_cons hlt]
 rw[List.getElem?_eq_getElem hlt] at h
 rw[Option.some.inj h]
theorem w57{l:List Lnk}{a b:ByteArray}{t:Int}{K:Bool->Prop}(hl:l.length<=1000000)(h:K (ldV b t l a)):q1f l a b t K:=by
 unfold q1f
 refine fun _=>Lp2.ind (fun x i=> ∃j:Nat,i=(j:Int)/\j<=l.length/\ldV b t l a=ldV b t (l.drop j) x) (fun _ i=>(l.length - i).toNat) ?_ ⟨0,rfl,by omega,rfl⟩
 rintro x i ⟨j,rfl,hj,hf⟩
 refine Cnd.mk (fun hc=>⟨by omega,fun y hy=> ?_⟩) fun hc=> ?_
 ·have hy:l[j]? =some y:=hy
  rw[w3j hy,ldV] at hf
  refine Cnd.mk (fun h1=> ?_) fun h1=>Cnd.mk (fun h2=>⟨by unfold InI;omega,⟨j+1,by omega,by omega,?_⟩,by omega⟩) fun h2=>Cnd.mk (fun h3=>⟨by unfold InI;omega,⟨j+1,by omega,by omega,?_⟩,by omega⟩) fun h3=> ?_
  ·rw[hf,if_pos h1] at h;exact h
  ·rw[hf,if_neg h1,if_pos h2]
  ·rw[hf,if_neg h1,if_neg h2,if_pos h3]
  ·rw[hf,if_neg h1,if_neg h2,if_neg h3] at h;exact h
 ·rw[hf,List.drop_eq_nil_of_le (by omega),ldV] at h;exact h
theorem j4n{l:List Lnk}{a b:ByteArray}{t:Int}{K:Bool->Prop}(hl:l.length<=1000000)(h:K (ldV b t l a)):q5t l a b t K:=by
 unfold q5t
 refine Lp2.ind (fun x i=> ∃j:Nat,i=(j:Int)/\j<=l.length/\ldV b t l a=ldV b t (l.drop j) x) (fun _ i=>(l.length - i).toNat) ?_ ⟨0,rfl,by omega,rfl⟩
 rintro x i ⟨j,rfl,hj,hf⟩
 refine fun _=>Cnd.mk (fun hc=>⟨by omega,fun y hy=> ?_⟩) fun hc=> ?_
 ·have hy:l[j]? =some y:=hy
  have same: ∀{z:Lnk},l[((j:Nat):Int).toNat]? =some z->z=y:=fun {z} hz=>by
   have hz:l[j]? =some z:=hz
   rw[hy] at hz;exact (Option.some.inj hz).symm
  rw[w3j hy,ldV] at hf
  refine Cnd.mk (fun h1=> ?_) fun h1=>⟨by omega,fun z hz=> ?_⟩
  ·rw[hf,if_pos h1] at h;exact h
  rw[same hz]
  refine Cnd.mk (fun h2=>⟨by omega,fun z hz=> ?_⟩) fun h2=>⟨by omega,fun z hz=> ?_⟩
  ·rw[same hz]
   exact⟨by unfold InI;omega,⟨j+1,by omega,by omega,by rw[hf,if_neg h1,if_pos h2.symm]⟩,by omega⟩
  rw[same hz]
  refine Cnd.mk (fun h3=>⟨by omega,fun z hz=> ?_⟩) fun h3=> ?_
  ·rw[same hz]
   exact⟨by unfold InI;omega,⟨j+1,by omega,by omega,by rw[hf,if_neg h1,if_neg (fun e=>h2 e.symm),if_pos h3.symm]⟩,by omega⟩
  ·rw[hf,if_neg h1,if_neg (fun e=>h2 e.symm),if_neg (fun e=>h3 e.symm)] at h;exact h
 ·rw[hf,List.drop_eq_nil_of_le (by omega),ldV] at h;exact h
abbrev noLy:Lay_:=Lay_.mk noT noT noT 0 0 []
abbrev noXp:Exper:=Exper.mk noT noT noT noT 0 [] [] (Ex.mk 0 noT noT [] [])
def xfV(v:Envt)(key layer:ByteArray):Option Exper:=v.6.find? fun x=>decide (x.1=key) && decide (x.2=layer)
theorem j4o{v:Envt}{key:ByteArray}{K:Lay_->Bool->Prop}(hv:v.5.length<=1000000)(h:K ((lof v key).getD noLy) (lof v key).isSome):Ri v key K:=by
 unfold Ri
 refine fun _=>LpH.ind (fun x=> ∃j:Nat,x.1=(j:Int)/\j<=v.5.length/\(v.5.find? fun l=>decide (l.1=key))=(v.5.drop j).find? fun l=>decide (l.1=key)) (fun x=>((v.5.length:Int) - (x.1:Int)).toNat) ?_ ⟨0,rfl,by omega,rfl⟩
 rintro⟨i,x⟩ ⟨j,hi,hj,hf⟩
 dsimp only at hi⊢
 subst hi
 refine Cnd.mk (fun hc=>⟨by omega,fun y hy=> ?_⟩) fun hc=>j4m h hf (by omega)
 have hy:v.5[j]? =some y:=hy
 exact Cnd.mk (fun c=>z79 h hf hy (dt c) ()) fun c=>⟨by unfold InI;omega,⟨j+1,by omega,by omega,by rw[hf,Uv hy (df c)]⟩,by omega⟩
theorem z36{v:Envt}{key:ByteArray}{K:Lay_->Bool->Prop}(hv:v.5.length<=1000000)(h:K ((lof v key).getD noLy) (lof v key).isSome):q2u v key K:=by
 unfold q2u
 refine LpH.ind (fun x=> ∃j:Nat,x.1=(j:Int)/\j<=v.5.length/\(v.5.find? fun l=>decide (l.1=key))=(v.5.drop j).find? fun l=>decide (l.1=key)) (fun x=>((v.5.length:Int) - (x.1:Int)).toNat) ?_ ⟨0,rfl,by omega,rfl⟩
 rintro⟨i,x⟩ ⟨j,hi,hj,hf⟩
 dsimp only at hi⊢
 subst hi
 refine fun _=>Cnd.mk (fun hc=>⟨by omega,fun y hy=> ?_⟩) fun hc=>j4m h hf (by omega)
 have hy:v.5[j]? =some y:=hy
 refine Cnd.mk (fun c=>⟨by omega,fun z hz=> ?_⟩) fun c=>⟨by unfold InI;omega,⟨j+1,by omega,by omega,by rw[hf,Uv hy (df c)]⟩,by omega⟩
 have hz:v.5[j]? =some z:=hz
 rw[hy] at hz;cases hz
 exact z79 h hf hy (dt c) ()
theorem xEta{y:Exper}:Exper.mk y.1 y.2 y.3 y.4 y.5 y.6 y.7 (Ex.mk y.8.1 y.8.2 y.8.3 y.8.4 y.8.5)=y:=by rw[Bq]
theorem j9f{v:Envt}{key layer:ByteArray}{K:Exper->Bool->Prop}(hv:v.6.length<=1000000)(h:K ((xfV v key layer).getD noXp) (xfV v key layer).isSome):G4 v key layer K:=by
 unfold G4
 refine LpH.ind (fun x=> ∃j:Nat,x.1=(j:Int)/\j<=v.6.length/\(v.6.find? fun x=>decide (x.1=key) && decide (x.2=layer))=(v.6.drop j).find? fun x=>decide (x.1=key) && decide (x.2=layer)) (fun x=>((v.6.length:Int) - (x.1:Int)).toNat) ?_ ⟨0,rfl,by omega,rfl⟩
 rintro⟨i,x⟩ ⟨j,hi,hj,hf⟩
 dsimp only at hi⊢
 subst hi
 refine fun _=>Cnd.mk (fun hc=>⟨by omega,fun y hy=> ?_⟩) fun hc=>j4m h hf (by omega)
 have hy:v.6[j]? =some y:=hy
 have same: ∀{z:Exper},v.6[((j:Nat):Int).toNat]? =some z->z=y:=fun {z} hz=>by
  have hz:v.6[j]? =some z:=hz
  rw[hy] at hz;exact (Option.some.inj hz).symm
 refine Cnd.mk (fun c1=>⟨by omega,fun z hz=> ?_⟩) fun c1=>⟨by unfold InI;omega,⟨j+1,by omega,by omega,by rw[hf,Uv hy (by rw[df c1,Bool.false_and])]⟩,by omega⟩
 rw[same hz]
 refine Cnd.mk (fun c2=>⟨by omega,fun z hz=> ?_⟩) fun c2=>⟨by unfold InI;omega,⟨j+1,by omega,by omega,by rw[hf,Uv hy (by rw[df c2,Bool.and_false])]⟩,by omega⟩
 rw[same hz]
 show K (Exper.mk y.1 y.2 y.3 y.4 y.5 y.6 y.7 (Ex.mk y.8.1 y.8.2 y.8.3 y.8.4 y.8.5)) true
 rw[xEta]
 exact z79 h hf hy (by rw[dt c1,dt c2];rfl) ()
def chkR(x:Rcd)(v:Envt):Int:=
 if ldV x.3.1 x.2 x.5 x.1=true then
  match lof v x.3.2,xfV v x.3.3 x.3.2 with
  |some y,some e=>if x.4=ofV y.3 x.3.1 then (if insV e.6 x.4=true then (if x.3.4=q4h e.7 (ofV e.4 x.3.1) then 0 else 23) else 25) else 3
  |_,_=>11
 else 15
abbrev j9g(x:Rcd):Prop:=x.2<x.3.5∨(¬x.3.7=0/\x.3.6<=x.2)
def chkV(x:Rcd)(v:Envt):Int:=if (keyV x.1 && keyV x.3.1)=true then (if j9g x then 26 else chkR x v) else 6
theorem j2b{x:Rcd}{v:Envt}(h: ¬(keyV x.1 && keyV x.3.1)=true):chkV x v=6:=if_neg h
theorem j4p{x:Rcd}{v:Envt}(h:(keyV x.1 && keyV x.3.1)=true)(k:j9g x):chkV x v=26:=by unfold chkV;rw[if_pos h,if_pos k]
theorem z11{x:Rcd}{v:Envt}(h:(keyV x.1 && keyV x.3.1)=true)(k: ¬j9g x):chkV x v=chkR x v:=by unfold chkV;rw[if_pos h,if_neg k]
theorem j4q{x:Rcd}{v:Envt}(h: ¬ldV x.3.1 x.2 x.5 x.1=true):chkR x v=15:=if_neg h
theorem j2c{x:Rcd}{v:Envt}(h:ldV x.3.1 x.2 x.5 x.1=true)(k:lof v x.3.2=none∨xfV v x.3.3 x.3.2=none):chkR x v=11:=by
 unfold chkR
 rw[if_pos h]
 rcases k with k|k
 ·rw[k]
 ·rw[k];cases lof v x.3.2<;>rfl
theorem z8a{x:Rcd}{v:Envt}{y:Lay_}{e:Exper}(h:ldV x.3.1 x.2 x.5 x.1=true)(k:lof v x.3.2=some y)(l:xfV v x.3.3 x.3.2=some e):chkR x v=if x.4=ofV y.3 x.3.1 then (if insV e.6 x.4=true then (if x.3.4=q4h e.7 (ofV e.4 x.3.1) then 0 else 23) else 25) else 3:=by
 unfold chkR
 rw[if_pos h,k,l]
theorem j2d{v:Envt}{key:ByteArray}{y:Lay_}(h:lof v key=some y):y∈v.5:=List.mem_of_find?_eq_some h
theorem w3k{v:Envt}{key layer:ByteArray}{y:Exper}(h:xfV v key layer=some y):y∈v.6:=List.mem_of_find?_eq_some h
theorem j2e{x:Rcd}{v:Envt}{K:Int->Prop}(hv:AsB v)(hp:x.5.length<=1000000)(h:K (chkV x v)):Rk x v K:=by
 unfold Rk q5k
 have hln:=hv.ln
 have hxn:=hv.xn
 refine Jn1.mk (fun b=>b= !(keyV x.1 && keyV x.3.1)) (Wl (Cnd.mk (fun h1=>Wl ?_) fun h1=> ?_)) fun b hb=> ?_
 ·rw[h1];cases keyV x.3.1<;>rfl
 ·rw[Bool.not_eq_true] at h1;rw[h1];rfl
 subst hb
 refine Cnd.mk (fun hk=> ?_) fun hk=> ?_
 ·rw[j2b fun e=>by rw[e] at hk;cases hk] at h;exact h
 have hk:(keyV x.1 && keyV x.3.1)=true:=by
  cases hq:(keyV x.1 && keyV x.3.1) with
  |true=>rfl
  |false=>rw[hq] at hk;exact absurd rfl hk
 have hks:x.3.1.size<=10000000:=Nat.le_trans (j18 ((Bool.and_eq_true _ _▸hk).2)) (by decide)
 refine Jn1.mk (fun b=>b=true↔j9g x) (Cnd.mk (fun c1=>⟨fun _=> .inl c1,fun _=>dt c1⟩) fun c1=>Cnd.mk (fun c2=>⟨fun h=>(by cases h),fun h=> ?_⟩) fun c2=>⟨fun h=> .inr ⟨c2,of_decide_eq_true h⟩,fun h=>dt ?_⟩) fun b hb=>Cnd.mk (fun hl=> ?_) fun hl=> ?_
 ·rcases h with h|h
  ·exact absurd h c1
  ·exact absurd c2 h.1
 ·rcases h with h|h
  ·exact absurd h c1
  ·exact h.2
 ·rw[j4p hk (hb.1 hl)] at h;exact h
 rw[z11 hk fun k=>hl (hb.2 k)] at h
 refine w57 hp (Cnd.mk (fun c1=> ?_) fun c1=>by rw[j4q c1] at h;exact h)
 refine j4o (v:=v) (by omega) fun _=> ?_
 cases hlo:lof v x.3.2 with
 |none=>
  rw[j2c c1 (.inl hlo)] at h
  refine srch (fun e=>decide (e.1=x.3.3) && decide (e.2=x.3.2)) (by omega) (fun _=>Cnd.mk (fun c=>by cases c) fun _=>h) fun i y Y hy hi h1 h2=>Cnd.mk (fun c2=>Cnd.mk (fun c3=>Cnd.mk (fun c=>by cases c) fun _=>h) fun c3=>h2 (by rw[df c3,Bool.and_false])) fun c2=>h2 (by rw[df c2,Bool.false_and])
 |some ly=>
  have hls:=hv.ls ly (j2d hlo)
  refine srch (fun e=>decide (e.1=x.3.3) && decide (e.2=x.3.2)) (by omega) (fun hn=>Cnd.mk (fun _=>Cnd.mk (fun _=> ?_) fun c=>absurd (by decide) c) fun c=>absurd rfl c) fun i y Y hy hi h1 h2=>Cnd.mk (fun c2=>Cnd.mk (fun c3=>Cnd.mk (fun _=>Cnd.mk (fun c=>by omega) fun _=>⟨by omega,fun y' hy'=> ?_⟩) fun c=>absurd rfl c) fun c3=>h2 (by rw[df c3,Bool.and_false])) fun c2=>h2 (by rw[df c2,Bool.false_and])
  ·rw[j2c c1 (.inr hn)] at h;exact h
  ·have hy':v.6[i]? =some y':=hy'
   rw[hy] at hy';cases hy'
   have hx:xfV v x.3.3 x.3.2=some y:=h1 (by rw[dt c2,dt c3];rfl)
   rw[z8a c1 hlo hx] at h
   have hm:=w3k hx
   obtain⟨q1,q2⟩:=hv.cl y hm
   refine Hq hls hks (Cnd.mk (fun c4=>fun _=> ?_) fun c4=>by rw[if_neg (show ¬x.4=ofV ly.3 x.3.1 from c4)] at h;exact h)
   rw[if_pos (show x.4=ofV ly.3 x.3.1 from c4)] at h
   refine srch (fun r=>decide (r.1<=x.4) && decide (x.4<r.2)) (by omega) (fun hn=>Cnd.mk (fun c=>absurd c (by decide)) fun _=> ?_) fun i y' Y hy hi h1 h2=>Cnd.mk (fun c5=>Cnd.mk (fun c6=>Cnd.mk (fun _=> ?_) fun c=>by omega) fun c6=>h2 (by rw[df c6,Bool.and_false])) fun c5=>h2 (by rw[df c5,Bool.false_and])
   ·have hi: ¬insV y.6 x.4=true:=by unfold insV;rw[hn];simp
    rw[if_neg hi] at h;exact h
   ·have hi:insV y.6 x.4=true:=by unfold insV;rw[h1 (by rw[dt c5,dt c6];rfl)];rfl
    rw[if_pos hi] at h
    refine Hq (hv.xs y hm) hks (q9h q2 (Cnd.mk (fun c7=> ?_) fun c7=> ?_))
    ·rw[if_pos c7] at h;exact h
    ·rw[if_neg c7] at h;exact h
theorem w3l{l:List Spn}{b:Int}:insV l b=true↔ ∃r∈l,(decide (r.1<=b) && decide (b<r.2))=true:=by
 unfold insV
 rw[List.find?_isSome]
theorem w3m{l:List Spn}{b:Int}{K A:Prop}(hl:l.length<=1000000)(hT:insV l b=true->K)(hF:insV l b=false->A):
  Lp2 (fun (c:Bool) (i:Int) Y=>l.length<=(9223372036854775807:Nat)->Cnd (i<(l.length:Int)) (Cnd (c=true) (InI (i+1)/\Y true (i+1)) (((0:Int)<=i/\i<(l.length:Int))/\ ∀y8,l[i.toNat]? =some y8->Cnd (y8.1<=b) (((0:Int)<=i/\i<(l.length:Int))/\ ∀y10,l[i.toNat]? =some y10->InI (i+1)/\Y (decide (b<y10.2)) (i+1)) (InI (i+1)/\Y false (i+1)))) (Cnd (c=true) K A)) false 0:=by
 refine Lp2.ind (fun c i=> ∃j:Nat,i=(j:Int)/\j<=l.length/\(c=true↔ ∃r∈l.take j,(decide (r.1<=b) && decide (b<r.2))=true)) (fun _ i=>(l.length - i).toNat) ?_ ⟨0,rfl,by omega,by simp⟩
 rintro c i ⟨j,rfl,hj,hc⟩
 refine fun _=>Cnd.mk (fun hlt=> ?_) fun hlt=> ?_
 ·obtain⟨y,hy⟩: ∃y,l[j]? =some y:=⟨_,List.getElem?_eq_getElem (by omega)⟩
  have same: ∀{z:Spn},l[((j:Nat):Int).toNat]? =some z->z=y:=fun {z} hz=>by
   have hz:l[j]? =some z:=hz
   rw[hy] at hz;exact (Option.some.inj hz).symm
  have nx: ∀d:Bool,(d=true↔(c=true∨(decide (y.1<=b) && decide (b<y.2))=true))->InI ((j:Int)+1)/\(∃j':Nat,(j:Int)+1=(j':Int)/\j'<=l.length/\(d=true↔ ∃r∈l.take j',(decide (r.1<=b) && decide (b<r.2))=true))/\(l.length - ((j:Int)+1)).toNat<(l.length - (j:Int)).toNat:=fun d hd=>⟨by unfold InI;omega,⟨j+1,by omega,by omega,by
   rw[hd,hc,tk1 hy]
   constructor
   ·rintro (⟨r,h1,h2⟩|h)
    ·exact⟨r,List.mem_append_left _ h1,h2⟩
    ·exact⟨y,by simp,h⟩
   ·rintro⟨r,h1,h2⟩
    rcases List.mem_append.1 h1 with h1|h1
    ·exact .inl ⟨r,h1,h2⟩
    ·rw[List.mem_singleton.1 h1] at h2;exact .inr h2⟩,by omega⟩
  refine Cnd.mk (fun c1=>nx true ⟨fun _=> .inl c1,fun _=>rfl⟩) fun c1=>⟨by omega,fun z hz=> ?_⟩
  rw[same hz]
  refine Cnd.mk (fun c2=>⟨by omega,fun z hz=> ?_⟩) fun c2=>nx false ⟨fun h=>(by cases h),fun h=> ?_⟩
  ·rw[same hz]
   refine nx _ ⟨fun h=> .inr (by rw[dt c2,h];rfl),fun h=> ?_⟩
   rcases h with h|h
   ·exact absurd h c1
   ·rw[Bool.and_eq_true] at h;exact h.2
  ·rcases h with h|h
   ·exact absurd h c1
   ·rw[df c2,Bool.false_and] at h;cases h
 ·rw[List.take_of_length_le (by omega),←w3l] at hc
  refine Cnd.mk (fun c1=>hT (hc.1 c1)) fun c1=>hF ?_
  rw[←Bool.not_eq_true];exact fun h=>c1 (hc.2 h)
theorem j4r{x:Rcd}{v:Envt}{K:Int->Prop}(hv:AsB v)(hp:x.5.length<=1000000)(s1:x.1.size<=1000000000)(s2:x.3.1.size<=1000000000)(h:K (chkV x v)):q5u x v K:=by
 unfold q5u q9v
 have hln:=hv.ln
 have hxn:=hv.xn
 refine q25 s1 (Cnd.mk (fun k1=>q25 s2 (Cnd.mk (fun k2=> ?_) fun k2=> ?_)) fun k1=> ?_)
 rotate_left
 ·rw[j2b (by rw[Bool.and_eq_true];exact fun h=>k2 h.2)] at h;exact h
 ·rw[j2b (by rw[Bool.and_eq_true];exact fun h=>k1 h.1)] at h;exact h
 have hk:(keyV x.1 && keyV x.3.1)=true:=by rw[k1,k2];rfl
 have hks:x.3.1.size<=10000000:=Nat.le_trans (j18 k2) (by decide)
 have late:j9g x->K 26:=fun hl=>by rw[j4p hk hl] at h;exact h
 have rest: ¬j9g x->K (chkR x v):=fun hl=>by rw[z11 hk hl] at h;exact h
 clear h
 refine Cnd.mk (fun c1=>late (.inl c1)) fun c1=>Cnd.mk (fun c2=> ?_) fun c2=>Cnd.mk (fun c3=>late (.inr ⟨c2,c3⟩)) fun c3=> ?_
 all_goals
  have h:=rest (by
   rintro (k|k)
   ·exact c1 k
   ·first|exact c3 k.2|exact k.1 c2)
  refine j4n hp (Cnd.mk (fun d1=> ?_) fun d1=>by rw[j4q d1] at h;exact h)
  refine z36 (v:=v) (by omega) (j9f (v:=v) (by omega) ?_)
  cases hlo:lof v x.3.2 with
  |none=>
   rw[j2c d1 (.inl hlo)] at h
   exact Cnd.mk (fun c=>by cases c) fun _=>h
  |some ly=>
   refine Cnd.mk (fun _=> ?_) fun c=>absurd rfl c
   cases hx:xfV v x.3.3 x.3.2 with
   |none=>
    rw[j2c d1 (.inr hx)] at h
    exact Cnd.mk (fun c=>by cases c) fun _=>h
   |some y=>
    rw[z8a d1 hlo hx] at h
    refine Cnd.mk (fun _=> ?_) fun c=>absurd rfl c
    have hm:=w3k hx
    obtain⟨q1,q2⟩:=hv.cl y hm
    simp only[Option.getD_some]
    refine z7p (hv.ls ly (j2d hlo)) hks (Cnd.mk (fun c4=> ?_) fun c4=>by rw[if_neg (show ¬x.4=ofV ly.3 x.3.1 from c4)] at h;exact h)
    rw[if_pos (show x.4=ofV ly.3 x.3.1 from c4)] at h
    refine w3m q1 (fun hi=> ?_) fun hi=>by rw[if_neg (by rw[hi];simp)] at h;exact h
    rw[if_pos hi] at h
    refine z7p (hv.xs y hm) hks (j6c q2 (Cnd.mk (fun c7=> ?_) fun c7=> ?_))
    ·rw[if_pos c7] at h;exact h
    ·rw[if_neg c7] at h;exact h
abbrev noRc:Rcd:=Rcd.mk noT 0 noSl 0 []
def expV(r:Reg)(v:Envt)(id key:ByteArray)(t:Int):Rcd×Int:=
 if regV r=true then
  match atV r id key t,lof v key with
  |some s,some y=>(Rcd.mk id t s (ofV y.3 s.1) (j19 (q27 r.2 t) id s.1).1,0)
  |_,_=>(noRc,11)
 else (noRc,25)
theorem w3n{r:Reg}{id key:ByteArray}{t:Int}{s:Slt}(h:atV r id key t=some s):s∈r.3:=List.mem_of_find?_eq_some h
theorem j71{r:Reg}{v:Envt}{id key:ByteArray}{t:Int}(h: ¬regV r=true):expV r v id key t=(noRc,25):=if_neg h
theorem j2f{r:Reg}{v:Envt}{id key:ByteArray}{t:Int}(h:regV r=true)(k:atV r id key t=none∨lof v key=none):expV r v id key t=(noRc,11):=by
 unfold expV
 rw[if_pos h]
 rcases k with k|k
 ·rw[k]
 ·rw[k];cases atV r id key t<;>rfl
theorem z8b{r:Reg}{v:Envt}{id key:ByteArray}{t:Int}{s:Slt}{y:Lay_}(h:regV r=true)(k:atV r id key t=some s)(l:lof v key=some y):expV r v id key t=(Rcd.mk id t s (ofV y.3 s.1) (j19 (q27 r.2 t) id s.1).1,0):=by
 unfold expV
 rw[if_pos h,k,l]
theorem j0a{r:Reg}{v:Envt}{id key:ByteArray}{t:Int}{K:Rcd->Int->Prop}(hv:AsB v)(h:K (expV r v id key t).1 (expV r v id key t).2):Us r v id key t K:=by
 unfold Us q2r
 have hln:=hv.ln
 refine j2a (Cnd.mk (fun c=>v3u (fun _=>j4o (v:=v) (by omega) ?_) fun hn=>by rw[c] at hn;cases hn) fun c=>by rw[j71 c] at h;exact h)
 have hr:=q3p.1 c
 cases ha:atV r id key t with
 |none=>
  rw[j2f c (.inl ha)] at h
  exact Cnd.mk (fun c=>by cases c) fun _=>h
 |some s=>
  refine Cnd.mk (fun _=> ?_) fun c=>absurd rfl c
  cases hlo:lof v key with
  |none=>
   rw[j2f c (.inr hlo)] at h
   exact Cnd.mk (fun c=>by cases c) fun _=>h
  |some y=>
   rw[z8b c ha hlo] at h
   refine Cnd.mk (fun _=> ?_) fun c=>absurd rfl c
   have hu:=q28 r.2 t
   have hl:=hr.ln
   obtain⟨k,hk⟩:=List.mem_iff_getElem?.1 (w3n ha)
   have hs:=j18 (hr.sl k s hk).p.i
   exact z98 (by omega) (w3h (by omega) (Hq (hv.ls y (j2d hlo)) (Nat.le_trans hs (by decide)) h))
theorem z88{r:Reg}{v:Envt}{id key:ByteArray}{t:Int}{K:Rcd->Int->Prop}(hv:AsB v)(hB:RegB r)(h:K (expV r v id key t).1 (expV r v id key t).2):q1l r v id key t K:=by
 unfold q1l q5r
 have hln:=hv.ln
 refine z35 hB (Cnd.mk (fun c=>w3i hB (fun _=>z36 (v:=v) (by omega) ?_) fun hn=>by rw[c] at hn;cases hn) fun c=>by rw[j71 c] at h;exact h)
 have hr:=q3p.1 c
 cases ha:atV r id key t with
 |none=>
  rw[j2f c (.inl ha)] at h
  exact Cnd.mk (fun c=>by cases c) fun _=>h
 |some s=>
  refine Cnd.mk (fun _=> ?_) fun c=>absurd rfl c
  cases hlo:lof v key with
  |none=>
   rw[j2f c (.inr hlo)] at h
   exact Cnd.mk (fun c=>by cases c) fun _=>h
  |some y=>
   rw[z8b c ha hlo] at h
   refine Cnd.mk (fun _=> ?_) fun c=>absurd rfl c
   have hu:=q28 r.2 t
   have hl:=hr.ln
   obtain⟨k,hk⟩:=List.mem_iff_getElem?.1 (w3n ha)
   have hs:=j18 (hr.sl k s hk).p.i
   exact z78 (by omega) (j9e (by omega) (z7p (hv.ls y (j2d hlo)) (Nat.le_trans hs (by decide)) h))
theorem j4s{a:List Lnk}{K:Bool->Prop}(hl:a.length<=1000000)(h:K true):Rq a a K:=by
 unfold Rq
 refine fun _ _=>Cnd.mk (fun _=>Lp1.ind (fun i=> ∃j:Nat,i=(j:Int)/\j<=a.length) (fun i=>(a.length - i).toNat) ?_ ⟨0,rfl,by omega⟩) fun c=>absurd rfl c
 rintro i ⟨j,rfl,hj⟩
 refine fun _=>Cnd.mk (fun hc=>⟨by omega,fun y hy=>⟨by omega,fun z hz=> ?_⟩⟩) fun _=>h
 rw[hy] at hz;cases hz
 exact Cnd.mk (fun _=>⟨by unfold InI;omega,⟨j+1,by omega,by omega⟩,by omega⟩) fun c=>absurd ⟨rfl,rfl,rfl⟩ c
theorem w9z{a:Rcd}{K:Bool->Prop}(hl:a.5.length<=1000000)(h:K true):q8a a a K:=by
 unfold q8a z2x
 exact Cnd.mk (fun _=>Cnd.mk (fun _=>Cnd.mk (fun _=>Cnd.mk (fun _=>j4s hl h) fun c=>absurd rfl c) fun c=>absurd ⟨rfl,rfl,rfl,rfl,rfl,rfl,rfl⟩ c) fun c=>absurd rfl c) fun c=>absurd rfl c
theorem z8c{l:List Lnk}{a b:ByteArray}:(j19 l a b).1.length<=2*l.length:=by
 rcases Classical.em (∃q:List Lnk×Bool,PathIs l a b q.1 q.2) with h|h
 ·obtain⟨⟨p,x⟩,hp⟩:=h
  rw[z10 hp]
  cases x with
  |false=>rw[hp.2.2 rfl];exact Nat.zero_le _
  |true=>
   have:=q8o (hp.2.1 rfl).len
   rwa [q0z] at this
 ·exfalso
  rcases Classical.em (Conn (tup l) a b) with hc|hc
  ·obtain⟨n,hn⟩:=hc.dist
   have ex: ∀(n:Nat) (a:ByteArray),IsDist (tup l) a b n-> ∃p:List Lnk,Gp (tup l) b a (tup p):=by
    intro n
    induction n with
    |zero=>intro a h;rw[IsDist.zero.1 h];exact⟨[],.done⟩
    |succ n ih=>
     intro a ha
     obtain⟨e,he,y,ho,hy⟩:=ha.next
     obtain⟨j,hj⟩:=List.mem_iff_getElem?.1 he
     obtain⟨j,⟨e,y,hj,ho,hy⟩,hmin⟩:=j4i (p:=fun j=> ∃e y,(tup l)[j]? =some e/\oth e a=some y/\IsDist (tup l) y b n) ⟨e,y,hj,ho,hy⟩
     obtain⟨p,hp⟩:=ih y hy
     obtain⟨f,hf,rfl⟩:=v1u hj
     exact⟨f::p,.step hj ho ha hy (fun i hi e' he' y' ho' hd'=>by have:=hmin i ⟨e',y',he',ho',hd'⟩;omega) hp⟩
   obtain⟨p,hp⟩:=ex n a hn
   exact h ⟨(p,true),⟨fun _=>hc,fun _=>rfl⟩,fun _=>hp,fun h=>by cases h⟩
  ·exact h ⟨([],false),⟨fun h=>(by cases h),fun h=>absurd h hc⟩,fun h=>(by cases h),fun _=>rfl⟩
theorem w58{r:Reg}{v:Envt}{id key:ByteArray}{t:Int}:(expV r v id key t).1.5.length<=200:=by
 unfold expV
 split
 ·rename_i c
  have hr:=q3p.1 c
  have hl:=hr.ln
  split
  ·have h1:=q28 r.2 t
   have h2:=z8c (l:=q27 r.2 t) (a:=id) (b:=by assumption)
   refine Nat.le_trans z8c ?_
   omega
  ·simp
 ·simp
end Go.En
end
noncomputable section
set_option maxRecDepth 100000
namespace Go.En
open Go Go.Fl Go.Fl.Lk Go.Fx
theorem w3o{l:List Lnk}{K:List Lnk->Prop}(hl:l.length<=1000000)(h:K l):Zb l K:=by
 unfold Zb
 refine fun n hn=>Cnd.mk (fun c=> ?_) fun _=>⟨by unfold Sml;simp;omega,h⟩
 rw[hn c] at h;exact h
theorem w3p{l:List Slt}{K:List Slt->Prop}(hl:l.length<=1000000)(h:K l):Zd l K:=by
 unfold Zd
 refine fun n hn=>Cnd.mk (fun c=> ?_) fun _=>⟨by unfold Sml;simp;omega,h⟩
 rw[hn c] at h;exact h
def z8d(r:Reg)(now:Int):Int:=if regV r=true then (if now<r.1 then 26 else if 1099511627776<now then 26 else 0) else 25
theorem w59{r:Reg}{now:Int}{K:Int->Prop}(h:K (z8d r now)):Bx r now K:=by
 unfold Bx q34
 unfold z8d at h
 refine j2a (Cnd.mk (fun c=> ?_) fun c=>by rw[if_neg c] at h;exact h)
 rw[if_pos c] at h
 refine Cnd.mk (fun c=>by rw[if_pos c] at h;exact h) fun c=> ?_
 rw[if_neg c] at h
 exact Cnd.mk (fun c=>by rw[if_pos c] at h;exact h) fun c=>by rw[if_neg c] at h;exact h
structure RdyAt(r:Reg)(now:Int):Prop where
 ok:RegOk r
 lo:r.1<=now
 hi:now<=1099511627776
theorem j0b{r:Reg}{now:Int}:z8d r now=0↔RdyAt r now:=by
 unfold z8d
 constructor
 ·intro h
  split at h
  ·rename_i c
   split at h
   ·cases h
   ·split at h
    ·cases h
    ·exact⟨q3p.1 c,by omega,by omega⟩
  ·cases h
 ·intro h
  have h1:=h.lo
  have h2:=h.hi
  rw[if_pos (q3p.2 h.ok),if_neg (by omega),if_neg (by omega)]
def curP(r:Reg)(id layer:ByteArray)(s:Slt):Bool:=decide (s.7=0) && (decide (s.2=layer) && z3p r.2 s.1 id)
def curV(r:Reg)(id layer:ByteArray):Option Slt:=r.3.find? (curP r id layer)
theorem v1y{r:Reg}{id layer:ByteArray}{K:Int->Prop}(hln:r.2.length<=64)(hsn:r.3.length<=128)(h0:curV r id layer=none->K (-1))(h1: ∀(i:Nat) s,r.3[i]? =some s->curV r id layer=some s->K (i:Int)):G1 r id layer K:=by
 unfold G1 q0p
 have rt: ∀y:Slt,z1z r.2 y.1=z1z r.2 id↔z3p r.2 y.1 id=true:=fun y=>q4w.trans q26.symm
 refine q7s (by omega) fun _=>srch (curP r id layer) (by omega) h0 fun i y Y hy hi g1 g2=> ?_
 refine Cnd.mk (fun c1=>Cnd.mk (fun c2=>q7s (by omega) (Cnd.mk (fun c3=>h1 i y hy (g1 ?_)) fun c3=>g2 ?_)) fun c2=>g2 ?_) fun c1=>g2 ?_
 ·unfold curP;rw[dt c1,dt c2,(rt y).1 c3];rfl
 ·unfold curP;rw[dt c1,dt c2,Bool.true_and,Bool.true_and,←Bool.not_eq_true];exact fun e=>c3 ((rt y).2 e)
 ·unfold curP;rw[df c2];simp
 ·unfold curP;rw[df c1];simp
abbrev noRg:Reg:=Reg.mk 0 [] []
def z4y(r:Reg)(id layer:ByteArray)(cool now:Int)(s:Slt):Bool:=decide (s.2=layer) && (!decide (s.7=0) && (decide (now - s.6<cool) && z3p r.2 s.1 id))
def w6a(r:Reg)(id layer:ByteArray)(cool now:Int):Bool:=(r.3.find? (z4y r id layer cool now)).isSome
abbrev w6b(id:ByteArray)(a:Asg)(now:Int):Slt:=Slt.mk id a.1 a.2 a.4 now 0 0
abbrev badA(a:Asg):Prop:=a.5=true∨ ¬keyV a.2=true∨a.4<1∨8<a.4
def asnR(r:Reg)(id:ByteArray)(a:Asg)(cool now:Int):Reg×Slt×Int:=
 match curV r id a.1 with
 |some s=>(Reg.mk now r.2 r.3,s,0)
 |none=>if badA a then (noRg,noSl,11) else if w6a r id a.1 cool now=true then (noRg,noSl,28) else if 128<=(r.3.length:Int) then (noRg,noSl,19) else (Reg.mk now r.2 (r.3++[w6b id a now]),w6b id a now,0)
def asnV(r:Reg)(id:ByteArray)(a:Asg)(cool now:Int):Reg×Slt×Int:=
 if z8d r now=0 then (if cool<0 then (noRg,noSl,3) else if (keyV id && keyV a.1)=true then asnR r id a cool now else (noRg,noSl,6)) else (noRg,noSl,z8d r now)
theorem w3q{r:Reg}{id:ByteArray}{a:Asg}{cool now:Int}{s:Slt}(h:curV r id a.1=some s):asnR r id a cool now=(Reg.mk now r.2 r.3,s,0):=by unfold asnR;rw[h]
theorem j4t{r:Reg}{id:ByteArray}{a:Asg}{cool now:Int}(h:curV r id a.1=none):asnR r id a cool now=if badA a then (noRg,noSl,11) else if w6a r id a.1 cool now=true then (noRg,noSl,28) else if 128<=(r.3.length:Int) then (noRg,noSl,19) else (Reg.mk now r.2 (r.3++[w6b id a now]),w6b id a now,0):=by unfold asnR;rw[h]
theorem w3r{r:Reg}{id:ByteArray}{a:Asg}{cool now:Int}{K:Reg->Slt->Int->Prop}(_:cool<=9223372036854775807)(h:K (asnV r id a cool now).1 (asnV r id a cool now).2.1 (asnV r id a cool now).2.2):Rh r id a cool now K:=by
 unfold Rh q2n
 refine w59 (Cnd.mk (fun c=> ?_) fun c=> ?_)
 rotate_left
 ·rw[show asnV r id a cool now=(noRg,noSl,z8d r now) from if_neg c] at h;exact h
 have hr:=j0b.1 c
 have hln:=hr.ok.ln
 have hsn:=hr.ok.sn
 rw[show asnV r id a cool now=if cool<0 then (noRg,noSl,3) else if (keyV id && keyV a.1)=true then asnR r id a cool now else (noRg,noSl,6) from if_pos c] at h
 refine Cnd.mk (fun c1=>by rw[if_pos c1] at h;exact h) fun c1=> ?_
 rw[if_neg c1] at h
 refine Wl (Cnd.mk (fun k1=>Wl (Cnd.mk (fun k2=> ?_) fun k2=> ?_)) fun k1=> ?_)
 rotate_left
 ·rw[if_neg (by rw[Bool.and_eq_true];exact fun e=>k2 e.2)] at h;exact h
 ·rw[if_neg (by rw[Bool.and_eq_true];exact fun e=>k1 e.1)] at h;exact h
 rw[if_pos (by rw[k1,k2];rfl)] at h
 refine w3o (by omega) (w3p (by omega) (v1y hln hsn (fun hc=> ?_) fun i s hs hc=> ?_))
 rotate_left
 ·rw[w3q hc] at h
  have hlt:=Qg hs
  refine Cnd.mk (fun _=>⟨by omega,fun y hy=> ?_⟩) fun c=>by omega
  have hy:r.3[i]? =some y:=hy
  rw[hs] at hy;cases hy
  exact h
 rw[j4t hc] at h
 refine Cnd.mk (fun c=>absurd c (by decide)) fun _=> ?_
 have bad:badA a->K noRg noSl 11:=fun hb=>by rw[if_pos hb] at h;exact h
 refine Cnd.mk (fun b1=>bad (.inl b1)) fun b1=>Wl (Cnd.mk (fun b2=>Cnd.mk (fun b3=>bad (.inr (.inr (.inl b3)))) fun b3=>Cnd.mk (fun b4=>bad (.inr (.inr (.inr b4)))) fun b4=> ?_) fun b2=>bad (.inr (.inl b2)))
 have nb: ¬badA a:=by
  rintro (e|e|e|e)
  ·exact b1 e
  ·exact e b2
  ·exact b3 e
  ·exact b4 e
 rw[if_neg nb] at h
 have rt: ∀y:Slt,z1z r.2 y.1=z1z r.2 id↔z3p r.2 y.1 id=true:=fun y=>q4w.trans q26.symm
 refine q7s (by omega) fun _=>LpH.ind (fun x=> ∃j:Nat,x.1=(j:Int)/\j<=r.3.length/\r.3.find? (z4y r id a.1 cool now)=(r.3.drop j).find? (z4y r id a.1 cool now)) (fun x=>((r.3.length:Int) - (x.1:Int)).toNat) ?_ ⟨0,rfl,by omega,rfl⟩
 rintro⟨i,x⟩ ⟨j,hi,hj,hf⟩
 dsimp only at hi⊢
 subst hi
 refine Cnd.mk (fun hc=>⟨by omega,fun y hy=> ?_⟩) fun hc=>fun _=> ?_
 ·have hy:r.3[j]? =some y:=hy
  have miss:z4y r id a.1 cool now y=false->InI ((j:Int)+1)/\(∃j':Nat,(j:Int)+1=(j':Int)/\j'<=r.3.length/\r.3.find? (z4y r id a.1 cool now)=(r.3.drop j').find? (z4y r id a.1 cool now))/\(((r.3.length:Int) - ((j:Int)+1)).toNat<((r.3.length:Int) - (j:Int)).toNat):=fun hp=>⟨by unfold InI;omega,⟨j+1,by omega,by omega,by rw[hf,Uv hy hp]⟩,by omega⟩
  have hsl:=(hr.ok.sl j y hy).p
  have hlo:=hr.lo
  have hhi:=hr.hi
  refine Cnd.mk (fun c1=>Cnd.mk (fun c2=>miss (by unfold z4y;rw[dt c2];simp)) fun c2=>⟨?_,Cnd.mk (fun c3=>q7s (by omega) (Cnd.mk (fun c4=> ?_) fun c4=>miss ?_)) fun c3=>miss ?_⟩) fun c1=>miss (by unfold z4y;rw[df c1];simp)
  ·have h0:=hsl.f0
   have h1:=hsl.f1
   rcases hsl.e with e|e
   ·exact absurd e.1 c2
   ·unfold InI;omega
  ·have hp:z4y r id a.1 cool now y=true:=by unfold z4y;rw[dt c1,df c2,dt c3,(rt y).1 c4];rfl
   rw[if_pos (by unfold w6a;rw[hf,q8n hy hp];rfl)] at h;exact h
  ·unfold z4y;rw[dt c1,df c2,dt c3]
   have:z3p r.2 y.1 id=false:=by rw[←Bool.not_eq_true];exact fun e=>c4 ((rt y).2 e)
   rw[this];rfl
  ·unfold z4y;rw[df c3];simp
 ·rw[if_neg (by unfold w6a;rw[hf,List.drop_eq_nil_of_le (by omega)];simp)] at h
  refine Cnd.mk (fun c1=>by rw[if_pos c1] at h;exact h) fun c1=> ?_
  rw[if_neg c1] at h
  exact⟨by unfold Sml;simp;omega,h⟩
end Go.En
end
noncomputable section
set_option maxRecDepth 100000
namespace Go.En
open Go Go.Fl Go.Fl.Lk Go.Fx
abbrev fN:List ByteArray:=[(ByteArray.mk (Array.mk [102,97,115,116,45,102,108,97,103])),(ByteArray.mk (Array.mk [115,104,111,112,45,102,108,97,103])),(ByteArray.mk (Array.mk [115,108,111,119,45,102,108,97,103])),(ByteArray.mk (Array.mk [116,111,112,45,102,108,97,103]))]
abbrev xN:List ByteArray:=[(ByteArray.mk (Array.mk [98,108,117,101])),(ByteArray.mk (Array.mk [102,97,115,116])),(ByteArray.mk (Array.mk [103,114,101,101,110])),(ByteArray.mk (Array.mk [115,108,111,119]))]
abbrev lN:List ByteArray:=[(ByteArray.mk (Array.mk [104,111,109,101])),(ByteArray.mk (Array.mk [115,104,111,112]))]
abbrev usrN:ByteArray:=(ByteArray.mk (Array.mk [117,115,101,114]))
abbrev usr(id:ByteArray):Subj:=Subj.mk [Ctxt.mk usrN id []]
theorem z13(l:List Int):(bsOf l).size=l.length:=by rw[w1n,strOfNums_size]
def sltX(sT:ByteArray)(i:Nat):ByteArray:=sT++bsOf [Go.IntKind.u8.wrap ((48:Int)+Go.IntKind.u8.wrap (i:Int))]
def vlM(k:Nat):Val:=Val.mk 2 (((k:Int)+1)*10) noT []
def flM(key:ByteArray):Flg:=Flg.mk key 2 [vlM 0,vlM 1,vlM 2] true 3 [] [] [] (Srv.mk 3 noT noT noT [])
def lyM(sT:ByteArray)(ho:Int)(key:ByteArray):Lay_:=Lay_.mk key usrN (sT++key) ho 0 []
def clM(ho c:Int)(i:Nat):List Spn:=if 2<=i then [Spn.mk c 10000] else [Spn.mk ho c]
def rgM(a b:Int):List Rng:=[Rng.mk 0 a 1,Rng.mk a b 2,Rng.mk b 10000 3]
def xpM(sT:ByteArray)(ho c a b:Int)(i:Nat):Exper:=Exper.mk (xN.getD i noT) (lN.getD (i % 2) noT) (fN.getD i noT) (sltX sT i) 2 (clM ho c i) (rgM a b) (Ex.mk 1 noT noT [] [])
def mkE(sT:ByteArray)(ho c a b:Int):Envt:=Envt.mk (Sett.mk noT noT 0) [] [] (fN.map flM) (lN.map (lyM sT ho)) ((List.range 4).map (xpM sT ho c a b))
theorem z8e{K:List ByteArray->Prop}(h:K lN):q9p K:=h
theorem j6f{l:List ByteArray}{i:Nat}{y:ByteArray}(h:l[i]? =some y):l.getD i noT=y:=by rw[List.getD_eq_getElem?_getD,h];rfl
theorem j2g{α β:Type}{l:List α}{f:α->β}{j:Nat}{y:α}(h:l[j]? =some y):(l.map f).take (j+1)=(l.map f).take j++[f y]:=tk1 (by rw[List.getElem?_map,h];rfl)
def sTof(salt:Int):ByteArray:=(ByteArray.mk (Array.mk [115]))++bsOf [Go.IntKind.u8.wrap ((97:Int)+salt.tmod (26:Int))]
abbrev hoOf(hold:Int):Int:=hold.tmod (50:Int)*(20:Int)
abbrev cOf(hold cut:Int):Int:=hoOf hold+(1:Int)+cut.tmod ((10000:Int) - hoOf hold - (1:Int))
abbrev aOf(one:Int):Int:=(1:Int)+one.tmod (9998:Int)
abbrev bOf(one two:Int):Int:=aOf one+(1:Int)+two.tmod ((9999:Int) - aOf one)
def envV(salt hold cut one two:Int):Envt:=mkE (sTof salt) (hoOf hold) (cOf hold cut) (aOf one) (bOf one two)
theorem j2h(x y:ByteArray):(x++y).size=x.size+y.size:=ByteArray.size_append
theorem z14(salt:Int):(sTof salt).size=2:=by unfold sTof;rw[j2h,z13];rfl
structure MdB(ho c a b:Int):Prop where
 h0:0<=ho
 h1:ho<=980
 c0:ho<c
 c1:c<=9999
 a0:1<=a
 b0:a<b
 b1:b<=9999
theorem tmB{n m:Int}(h:0<=n)(k:0<m):0<=n.tmod m/\n.tmod m<m:=⟨Int.tmod_nonneg _ h,Int.tmod_lt_of_pos _ k⟩
theorem w7h{hold cut one two:Int}(h1:0<=hold)(h2:0<=cut)(h3:0<=one)(h4:0<=two):MdB (hoOf hold) (cOf hold cut) (aOf one) (bOf one two):=by
 have t1:=tmB (m:=50) h1 (by decide)
 have t2:=tmB (m:=9998) h3 (by decide)
 have t3:=tmB (m:=9999 - aOf one) h4 (by unfold aOf;omega)
 have t4:=tmB (m:=10000 - hoOf hold - 1) h2 (by unfold hoOf;omega)
 constructor<;>simp only[hoOf,aOf,cOf,bOf] at* <;>omega
theorem w3s{salt hold cut one two:Int}{K:Envt->Prop}(h1:0<=hold)(g1:hold<=1000000)(h2:0<=cut)(g2:cut<=1000000)(h3:0<=one)(g3:one<=1000000)(h4:0<=two)(g4:two<=1000000)(h:K (envV salt hold cut one two)):Vt salt hold cut one two K:=by
 unfold Vt q0k
 have hb:=w7h h1 h2 h3 h4
 have t1:=tmB (m:=50) h1 (by decide)
 have t2:=tmB (m:=9998) h3 (by decide)
 have t3:=tmB (m:=9999 - aOf one) h4 (by unfold aOf;omega)
 have t4:=tmB (m:=10000 - hoOf hold - 1) h2 (by unfold hoOf;omega)
 have hin: ∀n:Int, -1000000<=n->n<=10000000->InI n:=fun n h h'=>by unfold InI;omega
 have sml: ∀{α:Type} (l:List α),l.length<=10->Sml l.length:=fun l hl=>by unfold Sml;omega
 refine⟨by decide,?_,hin _ (by omega) (by omega),by decide,hin _ (by omega) (by omega),?_⟩
 ·rw[z13];show (((1+1:Nat)):Int)<=9223372036854775807;decide
 refine Lp2.ind (fun i l=> ∃j:Nat,i=(j:Int)/\j<=4/\l=(fN.map flM).take j) (fun i _=>(4 - i).toNat) ?_ ⟨0,rfl,by omega,rfl⟩
 rintro i l ⟨j,rfl,hj,rfl⟩
 refine fun _=>Cnd.mk (fun hc=>⟨⟨by omega,hc⟩,fun y hy=> ?_⟩) fun hc=> ?_
 ·have hy:fN[j]? =some y:=hy
  have hc:(j:Int)<4:=hc
  refine Lp2.ind (fun k l=> ∃m:Nat,k=(m:Int)+1/\m<=3/\l=[vlM 0,vlM 1,vlM 2].take m) (fun k _=>(4 - k).toNat) ?_ ⟨0,rfl,by omega,rfl⟩
  rintro k l ⟨m,rfl,hm,rfl⟩
  refine Cnd.mk (fun hk=>⟨hin _ (by omega) (by omega),sml _ (by simp;omega),hin _ (by omega) (by omega),⟨m+1,by omega,by omega,?_⟩,by omega⟩) fun hk=>⟨sml _ (by simp;omega),hin _ (by omega) (by omega),⟨j+1,by omega,by omega,?_⟩,by omega⟩
  ·have:m=0∨m=1∨m=2:=by omega
   rcases this with rfl|rfl|rfl<;>rfl
  ·rw[show m=3 by omega,j2g hy];rfl
 have hj4:j=4:=by
  have hc: ¬(j:Int)<4:=hc
  omega
 subst hj4
 rw[show (fN.map flM).take 4=fN.map flM from rfl]
 refine Lp2.ind (fun i l=> ∃j:Nat,i=(j:Int)/\j<=2/\l=(lN.map (lyM (sTof salt) (hoOf hold))).take j) (fun i _=>(2 - i).toNat) ?_ ⟨0,rfl,by omega,rfl⟩
 rintro i l ⟨j,rfl,hj,rfl⟩
 refine Cnd.mk (fun hc=>z8e ⟨⟨by omega,hc⟩,fun y hy=>z8e ⟨⟨by omega,hc⟩,fun z hz=> ?_⟩⟩) fun hc=> ?_
 ·have hy:lN[j]? =some y:=hy
  have hz:lN[j]? =some z:=hz
  rw[hy] at hz;cases hz
  have hys:y.size=4:=by
   rcases List.mem_cons.1 (List.mem_of_getElem? hy) with rfl|hq
   ·rfl
   ·rw[List.mem_singleton.1 hq];rfl
  refine⟨?_,sml _ (by simp;omega),hin _ (by omega) (by omega),⟨j+1,by omega,by omega,?_⟩,by omega⟩
  ·have:=z14 salt
   unfold sTof at this
   rw[this,hys];decide
  ·rw[j2g hy];rfl
 have hj2:j=2:=by omega
 subst hj2
 rw[show (lN.map (lyM (sTof salt) (hoOf hold))).take 2=lN.map (lyM (sTof salt) (hoOf hold)) from rfl]
 have b1:=hb.h1
 have b2:=hb.h0
 have b3:=hb.c0
 have b4:=hb.c1
 have b5:=hb.b1
 have b6:=hb.a0
 have b7:=hb.b0
 simp only[hoOf,aOf,cOf,bOf] at b1 b2 b3 b4 b5 b6 b7 t3 t4
 refine⟨hin _ (by omega) (by omega),by decide,hin _ (by omega) (by omega),hin _ (by omega) (by omega),hin _ (by omega) (by omega),hin _ (by omega) (by omega),by omega,hin _ (by omega) (by omega),hin _ (by omega) (by omega),hin _ (by omega) (by omega),hin _ (by omega) (by omega),hin _ (by omega) (by omega),by omega,hin _ (by omega) (by omega),?_⟩
 refine Lp2.ind (fun i l=> ∃j:Nat,i=(j:Int)/\j<=4/\l=((List.range 4).map (xpM (sTof salt) (hoOf hold) (cOf hold cut) (aOf one) (bOf one two))).take j) (fun i _=>(4 - i).toNat) ?_ ⟨0,rfl,by omega,rfl⟩
 rintro i l ⟨j,rfl,hj,rfl⟩
 refine Cnd.mk (fun hc=> ?_) fun hc=> ?_
 ·have tk:((List.range 4).map (xpM (sTof salt) (hoOf hold) (cOf hold cut) (aOf one) (bOf one two))).take (j+1)=((List.range 4).map (xpM (sTof salt) (hoOf hold) (cOf hold cut) (aOf one) (bOf one two))).take j++[xpM (sTof salt) (hoOf hold) (cOf hold cut) (aOf one) (bOf one two) j]:=j2g (by rw[List.getElem?_range (by omega)])
  have len: ∀x:Exper,Sml (((List.range 4).map (xpM (sTof salt) (hoOf hold) (cOf hold cut) (aOf one) (bOf one two))).take j++[x]).length:=fun x=>sml _ (by rw[List.length_append,List.length_take,List.length_map,List.length_range,List.length_singleton];omega)
  have nx: ∀x:Exper,x=xpM (sTof salt) (hoOf hold) (cOf hold cut) (aOf one) (bOf one two) j->Sml (((List.range 4).map (xpM (sTof salt) (hoOf hold) (cOf hold cut) (aOf one) (bOf one two))).take j++[x]).length/\InI ((j:Int)+1)/\(∃j':Nat,(j:Int)+1=(j':Int)/\j'<=4/\((List.range 4).map (xpM (sTof salt) (hoOf hold) (cOf hold cut) (aOf one) (bOf one two))).take j++[x]=((List.range 4).map (xpM (sTof salt) (hoOf hold) (cOf hold cut) (aOf one) (bOf one two))).take j')/\(4 - ((j:Int)+1)).toNat<(4 - (j:Int)).toNat:=fun x hx=>⟨len x,hin _ (by omega) (by omega),⟨j+1,by omega,by omega,by rw[hx,tk]⟩,by omega⟩
  have mk: ∀(y4 y6 y9:ByteArray) (cl:List Spn),fN[((j:Nat):Int).toNat]? =some y4->xN[((j:Nat):Int).toNat]? =some y6->lN[(((j:Nat):Int).tmod (2:Int)).toNat]? =some y9->cl=clM (hoOf hold) (cOf hold cut) j->Exper.mk y6 y9 y4 (sltX (sTof salt) j) 2 cl (rgM (aOf one) (bOf one two)) (Ex.mk 1 noT noT [] [])=xpM (sTof salt) (hoOf hold) (cOf hold cut) (aOf one) (bOf one two) j:=fun y4 y6 y9 cl e4 e6 e9 ec=>by
   have e9:lN[j % 2]? =some y9:=by
    rw[show (((j:Nat):Int).tmod 2).toNat=j % 2 by rw[Int.tmod_eq_emod_of_nonneg (by omega)];omega] at e9
    exact e9
   unfold xpM
   rw[j6f (l:=fN) (i:=j) e4,j6f (l:=xN) (i:=j) e6,j6f e9,ec]
  have hA: ∀y4 y6 y9:ByteArray,fN[((j:Nat):Int).toNat]? =some y4->xN[((j:Nat):Int).toNat]? =some y6->lN[(((j:Nat):Int).tmod (2:Int)).toNat]? =some y9->(2:Int)<=(j:Int)->_:=fun y4 y6 y9 e4 e6 e9 e2=>nx _ (mk y4 y6 y9 [Spn.mk (cOf hold cut) 10000] e4 e6 e9 (by unfold clM;rw[if_pos (by omega)]))
  have hB: ∀y4 y6 y9:ByteArray,fN[((j:Nat):Int).toNat]? =some y4->xN[((j:Nat):Int).toNat]? =some y6->lN[(((j:Nat):Int).tmod (2:Int)).toNat]? =some y9-> ¬(2:Int)<=(j:Int)->_:=fun y4 y6 y9 e4 e6 e9 e2=>nx _ (mk y4 y6 y9 [Spn.mk (hoOf hold) (cOf hold cut)] e4 e6 e9 (by unfold clM;rw[if_neg (by omega)]))
  have z0:(2:Int)≠(0:Int):=by decide
  have z1:(0:Int)<=((j:Nat):Int)/\((j:Nat):Int)<((fN.length:Nat):Int):=⟨by omega,hc⟩
  have z2:(0:Int)<=((j:Nat):Int)/\((j:Nat):Int)<((xN.length:Nat):Int):=⟨by omega,hc⟩
  have z3:(0:Int)<=((j:Nat):Int).tmod (2:Int)/\((j:Nat):Int).tmod (2:Int)<((lN.length:Nat):Int):=tmB (m:=2) (by omega) (by decide)
  have z4:(((sTof salt).size+(bsOf [Go.IntKind.u8.wrap ((48:Int)+Go.IntKind.u8.wrap ((j:Nat):Int))]).size:Nat):Int)<=9223372036854775807:=by rw[z14,z13];show (((2+1:Nat)):Int)<=9223372036854775807;decide
  (repeat' (first|assumption|exact hA _ _ _ (by assumption) (by assumption) (by assumption) (by assumption)|exact hB _ _ _ (by assumption) (by assumption) (by assumption) (by assumption)|exact z4|refine z8e ?_|refine Cnd.mk (fun _=> ?_) fun _=> ?_|refine⟨?_,?_⟩|intro _))
 ·have hj4:j=4:=by omega
  subst hj4
  rw[show ((List.range 4).map (xpM (sTof salt) (hoOf hold) (cOf hold cut) (aOf one) (bOf one two))).take 4=(List.range 4).map (xpM (sTof salt) (hoOf hold) (cOf hold cut) (aOf one) (bOf one two)) from rfl]
  exact h
end Go.En
end
noncomputable section
set_option maxRecDepth 100000
namespace Go.En
open Go Go.Fl Go.Fl.Lk Go.Fx
theorem j6g{sT:ByteArray}{ho c a b:Int}{x:Exper}(h:x∈(mkE sT ho c a b).6): ∃i,i<4/\x=xpM sT ho c a b i:=by
 obtain⟨i,hi,rfl⟩:=List.mem_map.1 h
 exact⟨i,List.mem_range.1 hi,rfl⟩
theorem w3t(sT:ByteArray)(i:Nat):(sltX sT i).size=sT.size+1:=by unfold sltX;rw[j2h,z13];rfl
theorem w90(ho c:Int)(i:Nat):(clM ho c i).length=1:=by unfold clM;split<;>rfl
theorem w91:wt (Ex.mk 1 noT noT [] [])<=2000000/\EvB (Ex.mk 1 noT noT [] []):=⟨by rw[j14];simp[wtV,wtL],EvB.mk' (by simp) (by simp)⟩
theorem w7i{sT:ByteArray}{ho c a b:Int}(hs:sT.size<=1000):AsB (mkE sT ho c a b) where
 ln:=by unfold mkE;simp
 xn:=by unfold mkE;simp
 sg:=⟨by unfold mkE;simp,fun g hg=>(by cases hg),fun g hg=>(by cases hg),by unfold mkE;simp[edg]⟩
 ex x hx:=by obtain⟨i,_,rfl⟩:=j6g hx;exact w91
 sa:=by show noT.size<=10000000;decide
 ls l hl:=by
  obtain⟨k,hk,rfl⟩:=List.mem_map.1 hl
  show (sT++k).size<=_
  have:k.size=4:=by
   rcases List.mem_cons.1 hk with rfl|hq
   ·rfl
   ·rw[List.mem_singleton.1 hq];rfl
  rw[j2h,this];omega
 xs x hx:=by
  obtain⟨i,_,rfl⟩:=j6g hx
  show (sltX sT i).size<=_
  rw[w3t];omega
 cl x hx:=by
  obtain⟨i,_,rfl⟩:=j6g hx
  refine⟨?_,by show (rgM a b).length<=_;unfold rgM;simp⟩
  show (clM ho c i).length<=_
  rw[w90];decide
 nd:=by
  show (((List.range 4).map (xpM sT ho c a b)).map Exper.key).Nodup
  rw[List.map_map]
  show ((List.range 4).map fun i=>xN.getD i noT).Nodup
  decide
theorem w6c{id:ByteArray}(h:id.size<=1000):SubB (usr id):=
 ⟨by simp,fun c hc=>(by rw[List.mem_singleton.1 hc];simp),fun c hc a ha=>(by rw[List.mem_singleton.1 hc] at ha;cases ha),fun c hc=>(by rw[List.mem_singleton.1 hc];show id.size<=_;omega)⟩
def ixM(c q:Int)(k:Nat):Nat:=if q<c then k else k+2
theorem w92{lo hi q:Int}:insV [Spn.mk lo hi] q=true↔lo<=q/\q<hi:=by rw[w3l];simp
theorem w3u{ho c q:Int}{i:Nat}:insV (clM ho c i) q=true↔(if 2<=i then c<=q/\q<10000 else ho<=q/\q<c):=by
 unfold clM
 split<;>exact w92
theorem w93{a b q:Int}(h:0<=q)(h2:q<10000):q4h (rgM a b) q=1∨q4h (rgM a b) q=2∨q4h (rgM a b) q=3∨(b<=q->False)/\(a<=q->b<=q)/\ ¬q<a:=by
 unfold q4h rgM
 by_cases h1:q<a
 ·left;rw[List.find?_cons,dt h,dt h1];simp
 ·rw[List.find?_cons,df h1,Bool.and_false]
  simp only
  by_cases h3:q<b
  ·right;left;rw[List.find?_cons,dt (show a<=q by omega),dt h3];simp
  ·right;right;left
   rw[List.find?_cons,df h3,Bool.and_false]
   simp only
   rw[List.find?_cons,dt (show b<=q by omega),dt h2];simp
theorem w94{a b q:Int}(h:0<=q)(h2:q<10000):1<=q4h (rgM a b) q/\q4h (rgM a b) q<=3:=by
 rcases w93 (a:=a) (b:=b) h h2 with h|h|h|⟨h,k,l⟩
 ·omega
 ·omega
 ·omega
 ·exact absurd (k (by omega)) (fun e=>h e)
theorem w95{α:Type}{p:α->Bool}{f:Nat->α}{i:Nat}(hi:i<4)(hp:p (f i)=true)(hn: ∀j,j<i->p (f j)=false):((List.range 4).map f).find? p=some (f i):=by
 have:i=0∨i=1∨i=2∨i=3:=by omega
 show [f 0,f 1,f 2,f 3].find? p=_
 rcases this with rfl|rfl|rfl|rfl
 ·rw[List.find?_cons,hp]
 ·rw[List.find?_cons,hn 0 (by omega),List.find?_cons,hp]
 ·rw[List.find?_cons,hn 0 (by omega),List.find?_cons,hn 1 (by omega),List.find?_cons,hp]
 ·rw[List.find?_cons,hn 0 (by omega),List.find?_cons,hn 1 (by omega),List.find?_cons,hn 2 (by omega),List.find?_cons,hp]
theorem v1z: ∀i,i<4-> ∀j,j<i->xN.getD j noT≠xN.getD i noT:=by decide
theorem v10{sT:ByteArray}{ho c a b:Int}{i:Nat}(hi:i<4):xof (mkE sT ho c a b) (xN.getD i noT)=some (xpM sT ho c a b i):=
 w95 hi (dt rfl) fun j hj=>df (v1z i hi j hj)
theorem v11{sT:ByteArray}{ho c a b:Int}{i:Nat}(hi:i<4):xfV (mkE sT ho c a b) (xN.getD i noT) (lN.getD (i % 2) noT)=some (xpM sT ho c a b i):=
 w95 hi (z83 (dt rfl) (dt rfl)) fun j hj=>q4v (.inl (df (v1z i hi j hj)))
theorem w3v{sT:ByteArray}{ho c a b:Int}{k:Nat}(hk:k<2):lof (mkE sT ho c a b) (lN.getD k noT)=some (lyM sT ho (lN.getD k noT)):=by
 show [lyM sT ho (ByteArray.mk (Array.mk [104,111,109,101])),lyM sT ho (ByteArray.mk (Array.mk [115,104,111,112]))].find? _=_
 have:k=0∨k=1:=by omega
 rcases this with rfl|rfl
 ·rw[List.find?_cons,dt (by rfl)];rfl
 ·rw[List.find?_cons,df (by show ¬((ByteArray.mk (Array.mk [104,111,109,101])):ByteArray)=(ByteArray.mk (Array.mk [115,104,111,112]));decide),List.find?_cons,dt (by rfl)];rfl
theorem w3w{c q:Int}{k:Nat}(hk:k<2):ixM c q k<4/\ixM c q k % 2=k:=by unfold ixM;split<;>omega
theorem w96{sT:ByteArray}{ho c a b:Int}{s:Subj}{i:Nat}(hi:i<4):j4h (mkE sT ho c a b) s (xN.getD i noT)=true:=by
 unfold j4h
 rw[v10 hi]
 show cndV _ s (Ex.mk 1 noT noT [] [])=true
 unfold cndV
 rw[w2y];simp
theorem w3x(id:ByteArray):fnd (usr id) usrN=some (Ctxt.mk usrN id []):=by unfold fnd;rw[List.find?_cons,dt (by rfl)]
theorem v18{sT:ByteArray}{ho c a b:Int}{s:Subj}{q:Int}{k:Nat}(hk:k<2)(h0:ho<=q)(h1:q<10000):hitV (mkE sT ho c a b) s (lN.getD k noT) q=some (xpM sT ho c a b (ixM c q k)):=by
 obtain⟨i0,i1⟩:=w3w (c:=c) (q:=q) hk
 have lne: ∀i,i<4-> ∀k,k<2->i % 2≠k->lN.getD (i % 2) noT≠lN.getD k noT:=by decide
 refine w95 i0 (z83 (dt ?_) (z83 (dt rfl) (z83 (w3u.2 ?_) (w96 i0)))) fun j hj=> ?_
 ·show lN.getD (ixM c q k % 2) noT=_;rw[i1]
 ·unfold ixM at i0 i1⊢
  split
  ·rename_i hq
   rw[if_neg (by omega)];exact⟨h0,hq⟩
  ·rw[if_pos (by omega)];exact⟨by omega,h1⟩
 ·by_cases hjk:j % 2=k
  ·refine q4v (.inr (q4v (.inr (q4v (.inl ?_)))))
   rw[←Bool.not_eq_true]
   intro hi
   have hi:=(w3u (ho:=ho) (c:=c) (q:=q) (i:=j)).1 hi
   unfold ixM at hj
   split at hj
   ·omega
   ·rw[if_neg (by omega)] at hi;omega
  ·exact q4v (.inl (df (lne j (by omega) k hk hjk)))
def asgM(sT:ByteArray)(ho c a b:Int)(k:Nat)(id:ByteArray):Asg:=
 if ofV (sT++lN.getD k noT) id<ho then Asg.mk (lN.getD k noT) noT (ofV (sT++lN.getD k noT) id) 0 true else
  Asg.mk (lN.getD k noT) (xN.getD (ixM c (ofV (sT++lN.getD k noT) id) k) noT) (ofV (sT++lN.getD k noT) id) (q4h (rgM a b) (ofV (sltX sT (ixM c (ofV (sT++lN.getD k noT) id) k)) id)) false
theorem v19{sT:ByteArray}{ho c a b:Int}{k:Nat}{id:ByteArray}(hk:k<2)(_:MdB ho c a b):asgV (mkE sT ho c a b) (usr id) [] (lN.getD k noT)=(asgM sT ho c a b k id,0):=by
 obtain⟨r0,r1⟩:=z7o (sT++lN.getD k noT) id
 have hb:bktV (lyM sT ho (lN.getD k noT)) (usr id)=ofV (sT++lN.getD k noT) id:=by
  unfold bktV
  show (match fnd (usr id) usrN with|some c=>ofV (sT++lN.getD k noT) c.2|none=> -1)=_
  rw[w3x]
 have hh:j9b (mkE sT ho c a b) (usr id)=false:=by
  have hf:fnd (usr id) (mkE sT ho c a b).1.2=none:=by
   show fnd (usr id) noT=none
   unfold fnd
   rw[List.find?_cons,df (by show ¬usrN=noT;decide)];rfl
  unfold j9b
  rw[hf]
 have hl:layV (mkE sT ho c a b) (usr id) (lyM sT ho (lN.getD k noT)) [] (lN.getD k noT)=asgM sT ho c a b k id:=by
  unfold layV
  rw[show fcdV (mkE sT ho c a b) [] (lN.getD k noT)=none by simp[fcdV,frcV]]
  dsimp only
  rw[hb,hh]
  rw[show fnd (usr id) (lyM sT ho (lN.getD k noT)).2=some (Ctxt.mk usrN id []) from w3x id,show (lyM sT ho (lN.getD k noT)).4=ho from rfl]
  unfold asgM
  by_cases hq:ofV (sT++lN.getD k noT) id<ho
  ·rw[if_pos hq,if_pos (.inr ⟨rfl,hq⟩)]
  ·rw[if_neg hq,if_neg fun h=>h.elim (fun h=>by cases h) fun h=>hq h.2]
   dsimp only
   rw[v18 hk (by omega) r1]
   rfl
 unfold asgV
 rw[w3v hk]
 dsimp only
 rw[hl]
structure GdS(sT:ByteArray)(ho c a b:Int)(s:Slt)(k:Nat):Prop where
 kk:k<2
 l:s.2=lN.getD k noT
 q:ho<=ofV (sT++s.2) s.1
 x:s.3=xN.getD (ixM c (ofV (sT++s.2) s.1) k) noT
 m:s.4=q4h (rgM a b) (ofV (sltX sT (ixM c (ofV (sT++s.2) s.1) k)) s.1)
theorem j72{sT:ByteArray}{ho c a b:Int}{k:Nat}{x:Rcd}(hg:GdS sT ho c a b x.3 k)(hld:ldV x.3.1 x.2 x.5 x.1=true):chkR x (mkE sT ho c a b)=if x.4=ofV (sT++x.3.2) x.3.1 then (if x.3.4=q4h (rgM a b) (ofV (sltX sT (ixM c (ofV (sT++x.3.2) x.3.1) k)) x.3.1) then 0 else 23) else 3:=by
 obtain⟨i0,i1⟩:=w3w (c:=c) (q:=ofV (sT++x.3.2) x.3.1) hg.kk
 obtain⟨r0,r1⟩:=z7o (sT++x.3.2) x.3.1
 have hx:xfV (mkE sT ho c a b) x.3.3 x.3.2=some (xpM sT ho c a b (ixM c (ofV (sT++x.3.2) x.3.1) k)):=by
  have:=v11 (sT:=sT) (ho:=ho) (c:=c) (a:=a) (b:=b) i0
  rw[i1,←hg.l,←hg.x] at this;exact this
 have hlo:lof (mkE sT ho c a b) x.3.2=some (lyM sT ho x.3.2):=by rw[hg.l];exact w3v hg.kk
 rw[z8a hld hlo hx]
 show (if x.4=ofV (sT++x.3.2) x.3.1 then (if insV (clM ho c _) x.4=true then (if x.3.4=q4h (rgM a b) (ofV (sltX sT _) x.3.1) then 0 else 23) else 25) else 3)=_
 by_cases h:x.4=ofV (sT++x.3.2) x.3.1
 ·rw[if_pos h,if_pos h,if_pos]
  rw[h]
  refine w3u.2 ?_
  have hq:=hg.q
  have hk:=hg.kk
  revert i0 i1
  unfold ixM
  split
  ·rename_i hq2
   intro i0 i1
   rw[if_neg (by omega)];exact⟨hq,hq2⟩
  ·intro i0 i1
   rw[if_pos (by omega)];exact⟨by omega,r1⟩
 ·rw[if_neg h,if_neg h]
theorem q7t{s:ByteArray}(h:s.size<=32)(k:w29 s)(l:(resW.find? fun y=>decide (y=s)).isNone=true):keyV s=true:=by
 unfold keyV
 rw[dt h,dt k,l];rfl
theorem v2a: ∀k,k<2->keyV (lN.getD k noT)=true:=fun k hk=>by
 have:k=0∨k=1:=by omega
 rcases this with rfl|rfl<;>exact q7t (by decide) (by decide+kernel) (by rw[z74];decide+kernel)
theorem v3v: ∀k,k<4->keyV (xN.getD k noT)=true:=fun k hk=>by
 have:k=0∨k=1∨k=2∨k=3:=by omega
 rcases this with rfl|rfl|rfl|rfl<;>exact q7t (by decide) (by decide+kernel) (by rw[z74];decide+kernel)
abbrev annN:ByteArray:=(ByteArray.mk (Array.mk [97,110,110]))
theorem j2i:keyV annN=true:=q7t (by decide) (by decide+kernel) (by rw[z74];decide+kernel)
theorem reg0:RegOk noRg:=⟨by decide,by decide,by decide,by decide,fun k e h=>by simp at h,fun k e h=>by simp at h,fun k e h=>by simp at h⟩
theorem w3y(l:List Lnk)(a:ByteArray):z3p l a a=true:=q26.2 (Conn.refl _ _)
theorem w6d{K:Bool->Prop}(h:K true):q1g K:=by
 unfold q1g q5l
 refine w3s (by decide) (by decide) (by decide) (by decide) (by decide) (by decide) (by decide) (by decide) ?_
 have hm:MdB (hoOf 0) (cOf 0 9998) (aOf 4000) (bOf 4000 3000):=w7h (by decide) (by decide) (by decide) (by decide)
 have hs:(sTof 0).size<=1000:=by rw[z14];decide
 show z6m annN _
 unfold envV
 have h0:hoOf 0=0:=by decide
 generalize sTof 0=sT at hs⊢
 generalize hoOf 0=ho at hm h0⊢
 generalize cOf 0 9998=c at hm⊢
 generalize aOf 4000=a at hm⊢
 generalize bOf 4000 3000=b at hm⊢
 have hv:=w7i (ho:=ho) (c:=c) (a:=a) (b:=b) hs
 obtain⟨r0,r1⟩:=z7o (sT++lN.getD 0 noT) annN
 refine z73 (v:=mkE sT ho c a b) (s:=usr annN) (key:=lN.getD 0 noT) hv (w6c (by decide)) (by decide) ?_
 rw[v19 (by decide) hm]
 have ha:asgM sT ho c a b 0 annN=Asg.mk (lN.getD 0 noT) (xN.getD (ixM c (ofV (sT++lN.getD 0 noT) annN) 0) noT) (ofV (sT++lN.getD 0 noT) annN) (q4h (rgM a b) (ofV (sltX sT (ixM c (ofV (sT++lN.getD 0 noT) annN) 0)) annN)) false:=by
  unfold asgM;rw[if_neg (by omega)]
 obtain⟨i0,i1⟩:=w3w (c:=c) (q:=ofV (sT++lN.getD 0 noT) annN) (k:=0) (by decide)
 have kx:=v3v _ i0
 obtain⟨p0,p1⟩:=w94 (a:=a) (b:=b) (z7o (sltX sT (ixM c (ofV (sT++lN.getD 0 noT) annN) 0)) annN).1 (z7o _ _).2
 rw[ha]
 have hg:GdS sT ho c a b (Slt.mk annN (lN.getD 0 noT) (xN.getD (ixM c (ofV (sT++lN.getD 0 noT) annN) 0) noT) (q4h (rgM a b) (ofV (sltX sT (ixM c (ofV (sT++lN.getD 0 noT) annN) 0)) annN)) 1 0 0) 0:=⟨by decide,rfl,by show ho<=ofV (sT++lN.getD 0 noT) annN;omega,rfl,rfl⟩
 generalize hq:ofV (sT++lN.getD 0 noT) annN=q at*
 generalize ha2:q4h (rgM a b) (ofV (sltX sT (ixM c q 0)) annN)=ar at*
 generalize xN.getD (ixM c q 0) noT=xk at*
 have hr1:RegOk (Reg.mk 1 [] [Slt.mk annN (lN.getD 0 noT) xk ar 1 0 0]):=⟨by show (0:Int)<=1;decide,by show (1:Int)<=1099511627776;decide,by show 0<=64;decide,by show 1<=128;decide,fun k e h=>by simp at h,fun k s hs=>by
  cases k with
  |zero=>cases hs;exact⟨⟨j2i,v2a 0 (by decide),kx,p0,by show ar<=8;omega,by show (0:Int)<=1;decide,by show (1:Int)<=1;decide,.inl ⟨rfl,rfl⟩⟩,fun p hp=>by cases hp⟩
  |succ k=>simp at hs,fun k s hs m t hm ht=>by
  cases k with
  |zero=>omega
  |succ k=>simp at hs⟩
 have hA:asnV noRg annN (Asg.mk (lN.getD 0 noT) xk q ar false) 0 1=(Reg.mk 1 [] [Slt.mk annN (lN.getD 0 noT) xk ar 1 0 0],Slt.mk annN (lN.getD 0 noT) xk ar 1 0 0,0):=by
  unfold asnV
  rw[if_pos (j0b.2 ⟨reg0,by decide,by decide⟩),if_neg (by decide),if_pos (by rw[j2i,v2a 0 (by decide)];rfl),j4t rfl,if_neg,if_neg,if_neg (by decide)]
  ·rfl
  ·show ¬false=true;decide
  ·rintro (e|e|e|e)
   ·cases e
   ·exact e kx
   ·have e:ar<1:=e;omega
   ·have e:8<ar:=e;omega
 refine w3r (r:=noRg) (by decide) ?_
 rw[hA]
 have hat:atV (Reg.mk 1 [] [Slt.mk annN (lN.getD 0 noT) xk ar 1 0 0]) annN (lN.getD 0 noT) 1=some (Slt.mk annN (lN.getD 0 noT) xk ar 1 0 0):=by
  unfold atV
  rw[List.find?_cons,show atP _ annN (lN.getD 0 noT) 1 (Slt.mk annN (lN.getD 0 noT) xk ar 1 0 0)=true by unfold atP;rw[dt rfl,dt (by show (1:Int)<=1;decide),dt rfl,w3y];rfl]
 refine j0a (r:=Reg.mk 1 [] [Slt.mk annN (lN.getD 0 noT) xk ar 1 0 0]) (v:=mkE sT ho c a b) (id:=annN) (key:=lN.getD 0 noT) (t:=1) hv ?_
 have hE:=z8b (v:=mkE sT ho c a b) (q3p.2 hr1) hat (w3v (by decide))
 rw[hE]
 have hb:ofV (lyM sT ho (lN.getD 0 noT)).3 annN=q:=hq
 generalize hp:(j19 (q27 (Reg.mk 1 [] [Slt.mk annN (lN.getD 0 noT) xk ar 1 0 0]).2 1) annN annN).1=p
 have hpn:p=[]:=by
  have:=z8c (l:=q27 (Reg.mk 1 [] [Slt.mk annN (lN.getD 0 noT) xk ar 1 0 0]).2 1) (a:=annN) (b:=annN)
  rw[hp] at this
  exact List.eq_nil_of_length_eq_zero (by simpa [q27] using this)
 subst hpn
 dsimp only
 rw[hb]
 have hld:ldV annN 1 [] annN=true:=by unfold ldV;exact dt rfl
 have c1:chkV (Rcd.mk annN 1 (Slt.mk annN (lN.getD 0 noT) xk ar 1 0 0) q []) (mkE sT ho c a b)=0:=by
  rw[z11 (by rw[j2i];rfl) (fun e=>e.elim (fun e=>absurd (show (1:Int)<1 from e) (by decide)) fun e=>e.1 rfl),j72 hg hld,if_pos hq.symm,if_pos]
  show ar=q4h (rgM a b) (ofV (sltX sT (ixM c (ofV (sT++lN.getD 0 noT) annN) 0)) annN)
  rw[hq];exact ha2.symm
 have c2:chkV (Rcd.mk annN 1 (Slt.mk annN (lN.getD 0 noT) xk ar 1 0 0) ((q+1).tmod 10000) []) (mkE sT ho c a b)=3:=by
  rw[z11 (by rw[j2i];rfl) (fun e=>e.elim (fun e=>absurd (show (1:Int)<1 from e) (by decide)) fun e=>e.1 rfl),j72 hg hld,if_neg]
  show ¬(q+1).tmod 10000=ofV (sT++lN.getD 0 noT) annN
  rw[hq,Int.tmod_eq_emod_of_nonneg (by omega)];omega
 refine⟨by unfold InI;omega,by decide,Cnd.mk (fun _=>Cnd.mk (fun _=>Cnd.mk (fun _=>Cnd.mk (fun _=>Cnd.mk (fun _=>Cnd.mk (fun _=>Cnd.mk (fun _=>j2e (v:=mkE sT ho c a b) hv (Nat.zero_le _) ?_) fun e=>absurd rfl e) fun e=>absurd rfl e) fun e=>absurd rfl e) fun e=>absurd (show 0<ar by omega) e) fun e=>absurd rfl e) fun e=>absurd rfl e) fun e=>absurd rfl e⟩
 rw[c1]
 refine Cnd.mk (fun _=>j2e (v:=mkE sT ho c a b) hv (Nat.zero_le _) ?_) fun e=>absurd rfl e
 rw[c2];exact h
structure AEB(x:AEnv):Prop where
 h:0<=x.2/\x.2<=1000000
 c:0<=x.3/\x.3<=1000000
 a:0<=x.4/\x.4<=1000000
 b:0<=x.5/\x.5<=1000000
def envX(x:AEnv):Envt:=envV x.1 x.2 x.3 x.4 x.5
theorem w6e(x:AEnv):AsB (envX x):=w7i (by rw[z14];decide)
theorem w97{x:AEnv}{K:Envt->Prop}(hx:AEB x)(h:K (envX x)):Jx x K:=by
 unfold Jx V6
 exact w3s hx.h.1 hx.h.2 hx.c.1 hx.c.2 hx.a.1 hx.a.2 hx.b.1 hx.b.2 h
theorem j6h{x:AEnv}{r:Reg}{z:Rcd}{id layer:ByteArray}{t:Int}(hx:AEB x)(hr:RegB r)(z1:z.1.size<=1000000000)(z2:z.3.1.size<=1000000000){K:Bool->Prop}(h:K true):Jg x r z id layer t K:=by
 unfold Jg q0s
 have hv:=w6e x
 refine w6d (Cnd.mk (fun _=>fun _=>Cnd.mk (fun _=>h) fun h1=>fun _=>Cnd.mk (fun _=>h) fun h2=>fun _=>Cnd.mk (fun _=>h) fun h3=>w97 hx ?_) fun e=>absurd rfl e)
 refine j0a (v:=envX x) hv (z88 (v:=envX x) hv hr (Cnd.mk (fun _=>w9z (a:=(expV r (envX x) id layer t).1) (Nat.le_trans w58 (by decide)) (Cnd.mk (fun _=>j2e (x:=z) (v:=envX x) hv (by omega) (j4r (x:=z) (v:=envX x) hv (by omega) z1 z2 ?_)) fun e=>absurd rfl e)) fun e=>absurd rfl e))
 rw[dt rfl];exact h
end Go.En
end
noncomputable section
set_option maxRecDepth 100000
namespace Go.En
open Go Go.RowKit Go.Fl Go.Fl.Lk Go.Fx
open Go.Proofs.YtjepffgpbidclaaGreatDoor.Rows (uptoBulk uptoBulkAll)
section
variable {H:Type}{enc:TypeId×Value->H}{W:World}{base:Nat}{spare:Nat->Bool}{held:Bool}
theorem w6f(d:DataW H):1<=uptoBulk d:=by
 cases d with
 |lit l=>cases l<;>simp[uptoBulk]
 |_=>simp[uptoBulk]
theorem w6g(l:List (DataW H)):l.length<=uptoBulkAll l:=by
 induction l with
 |nil=>simp
 |cons d l ih=>have:=w6f d;simp only[List.length_cons,uptoBulkAll];omega
theorem w98{l:List (DataW H)}{i:Nat}{d:DataW H}(h:l[i]? =some d):uptoBulk d<=uptoBulkAll l:=by
 induction l generalizing i with
 |nil=>simp at h
 |cons a l ih=>
  cases i with
  |zero=>simp at h;subst h;simp only[uptoBulkAll];omega
  |succ i=>have:=ih (i:=i) (by simpa using h);simp only[uptoBulkAll];omega
theorem w7j{α:Type}{f:α->Nat}: ∀{l:List α} {ds:List (DataW H)},l.length=ds.length->(∀(i:Nat) y d,l[i]? =some y->ds[i]? =some d->f y<=uptoBulk d)->(l.map f).sum<=uptoBulkAll ds
 |[],_,_,_=>by simp
 |y::l,[],h,_=>by simp at h
 |y::l,d::ds,h,hk=>by
  have h0:=hk 0 y d rfl rfl
  have h1:=w7j (l:=l) (ds:=ds) (by simpa using h) fun i y d hy hd=>hk (i+1) y d (by simpa using hy) (by simpa using hd)
  simp only[List.map_cons,List.sum_cons,uptoBulkAll];omega
theorem w3z{T:Sg.C}{e t:TypeId}{fuel:Nat}{cs:List Value}{x:DataW H×List MemPlace}{f:Sg.car T->Nat}{A:Sg.car T->Prop}(hu:Proofs.Tryz.prog.underlying t=some (.slice e))(hc:Proofs.Tryz.prog.cellsOf e=D.size T)
  (hel: ∀n cs x,fuel=n+1->cs.length=D.size T->DataW.trod enc Proofs.Tryz.prog W base spare held n e cs=some x->uptoBulk x.1<=1048576-> ∃y,RowF D (hv W) cs (D.shape T y)/\f y<=uptoBulk x.1/\A y)
  (h:DataW.trod enc Proofs.Tryz.prog W base spare held fuel t cs=some x)(hb:uptoBulk x.1<=1048576):
  ∃(l:List (Sg.car T)) (v:Value),cs=[v]/\RepF D (hv W) v (.sl T l)/\(l.map f).sum+1<=uptoBulk x.1/\l.length<=uptoBulk x.1/\ ∀y∈l,A y:=by
 rcases DataW.trod_slice hu h with ⟨rfl,rfl⟩|⟨a,len,cap,Ws,rest,n,hfu,rfl,rfl,_,hl,_,hlen,hE,_,_⟩
 ·exact⟨[],_,rfl,w1o T,by simp[uptoBulk],by simp,by simp⟩
 ·have hbb:uptoBulkAll (Ws.map (·.1))+1<=uptoBulk (DataW.slice (Ws.map (·.1)) (rest.map (·.1))):=by simp only[uptoBulk];omega
  have hel0:=w6g (Ws.map (·.1))
  rw[List.length_map] at hel0
  have hb1:uptoBulk (DataW.slice (Ws.map (·.1)) (rest.map (·.1)))<=1048576:=hb
  obtain⟨l,hl1,hl2⟩:=w89 (α:=Sg.car T) (Q:=fun i y=> ∃cs d,(Ws.map (·.1))[i]? =some d/\cs.length=D.size T/\VRow (hv W) (a.add (i*D.size T)) cs/\RowF D (hv W) cs (D.shape T y)/\f y<=uptoBulk d/\A y) len (fun i hi=>by
   have h1:=hE i hi
   rw[hc] at h1
   have h0:Ws[i]? =some Ws[i]:=List.getElem?_eq_getElem (by omega)
   rw[h0] at h1
   obtain⟨cs,h3,h4⟩:=Option.bind_eq_some_iff.1 h1
   obtain⟨h5,h6⟩:=v1f h3
   have h7:(Ws.map (·.1))[i]? =some Ws[i].1:=by rw[List.getElem?_map,h0];rfl
   have h8:=w98 h7
   obtain⟨y,hy,hm,hA⟩:=hel _ _ _ hfu h5 h4 (by omega)
   exact⟨y,cs,_,h7,h5,h6,hy,hm,hA⟩)
  refine⟨l,_,rfl,?_,?_,?_,fun y hy=> ?_⟩
  ·have:=RepF.ofRSl okP.ok (D:=D) (σ:=hv W) (v:= .slice (some a) l.length cap) (T:=T) (l:=l) ⟨some a,cap,rfl,by omega,by omega,fun i x hx=>by
    obtain⟨cs,d,_,h1,h2,h3,_⟩:=hl2 i x hx
    exact⟨a,cs,rfl,h1,h2,h3⟩⟩
   rw[hl1] at this;exact this
  ·have:=w7j (f:=f) (l:=l) (ds:=Ws.map (·.1)) (by rw[hl1,List.length_map,hlen]) fun i y d hy hd=>by
    obtain⟨_,d',h1,_,_,_,h2,_⟩:=hl2 i y hy
    rw[hd] at h1;cases h1;exact h2
   simp only;omega
  ·simp only;omega
  ·obtain⟨i,hi⟩:=List.getElem?_of_mem hy
   obtain⟨_,_,_,_,_,_,_,hA⟩:=hl2 i y hi
   exact hA
theorem z3r{fuel:Nat}{cs:List Value}{x:DataW H×List MemPlace}(h:DataW.trod enc Proofs.Tryz.prog W base spare held fuel 9 cs=some x): ∃s:ByteArray,cs=[.string s]/\s.size+1<=uptoBulk x.1:=by
 obtain⟨s,rfl,rfl,_⟩:=DataW.trod_string Proofs.Tryz.underlying9 h
 refine⟨s,rfl,?_⟩
 have:s.data.toList.length=s.size:=rfl
 simp only[uptoBulk];omega
theorem z38{n:Int}(h:(Lit.int .i64 n).wf=true):InI n:=by
 simp only[Lit.wf,Bool.and_eq_true,decide_eq_true_eq] at h
 have a:=h.1
 have b:=h.2
 simp[IntKind.min] at a
 simp[IntKind.max] at b
 exact⟨a,b⟩
theorem w30{n:Int}(h:(Lit.int .u8 n).wf=true):0<=n/\n<=255:=by
 simp only[Lit.wf,Bool.and_eq_true,decide_eq_true_eq] at h
 have a:=h.1
 have b:=h.2
 simp[IntKind.min] at a
 simp[IntKind.max] at b
 exact⟨a,b⟩
theorem j2j{n:Int}(h:(Lit.int .u16 n).wf=true):0<=n/\n<=65535:=by
 simp only[Lit.wf,Bool.and_eq_true,decide_eq_true_eq] at h
 have a:=h.1
 have b:=h.2
 simp[IntKind.min] at a
 simp[IntKind.max] at b
 exact⟨a,b⟩
theorem w99{σ:Hv}{a b:List Value}{s t:List (FV Sg)}(h:RowF D σ a s)(k:RowF D σ b t):RowF D σ (a++b) (s++t):=by
 refine⟨by rw[List.length_append,List.length_append,h.1,k.1],fun j v x hj hx=> ?_⟩
 rcases Nat.lt_or_ge j a.length with hlt|hge
 ·rw[List.getElem?_append_left hlt] at hj
  rw[List.getElem?_append_left (by rw[←h.1];exact hlt)] at hx
  exact h.2 j v x hj hx
 ·rw[List.getElem?_append_right hge] at hj
  rw[List.getElem?_append_right (by rw[←h.1];exact hge),←h.1] at hx
  exact k.2 _ v x hj hx
theorem j73{fuel:Nat}{cs:List Value}{x:DataW H×List MemPlace}(hl:cs.length=3)(h:DataW.trod enc Proofs.Tryz.prog W base spare held fuel 58 cs=some x)(hb:uptoBulk x.1<=1048576): ∃y:Lnk,RowF D (hv W) cs (D.shape .link y)/\(y.1.size<=1048576/\y.2.size<=1048576):=by
 obtain⟨xs,m,hfu,rfl,_,hn,hf⟩:=DataW.trod_struct Proofs.Tryz.underlying58 h
 have c3:Proofs.Tryz.prog.cellsOf 3=1:=by kernel_rfl
 have c9:Proofs.Tryz.prog.cellsOf 9=1:=by kernel_rfl
 match xs,hn with
 |[z0,z1,z2],_=>
 have q0:=hf 0 _ rfl
 have q1:=hf 1 _ rfl
 have q2:=hf 2 _ rfl
 match cs,hl with
 |[u0,u1,u2],_=>
 simp only[List.map_cons,List.map_nil,uptoBulk,uptoBulkAll] at hb
 change DataW.trod enc Proofs.Tryz.prog W base spare held m 9 (List.take (Proofs.Tryz.prog.cellsOf 9) [u0,u1,u2])=some z0 at q0
 rw[c9] at q0
 change DataW.trod enc Proofs.Tryz.prog W base spare held m 9 [u0]=some z0 at q0
 obtain⟨a0,e0,g0⟩:=z3r q0
 change DataW.trod enc Proofs.Tryz.prog W base spare held m 9 (List.take (Proofs.Tryz.prog.cellsOf 9) [u1,u2])=some z1 at q1
 rw[c9] at q1
 change DataW.trod enc Proofs.Tryz.prog W base spare held m 9 [u1]=some z1 at q1
 obtain⟨a1,e1,g1⟩:=z3r q1
 change DataW.trod enc Proofs.Tryz.prog W base spare held m 3 (List.take (Proofs.Tryz.prog.cellsOf 3) [u2])=some z2 at q2
 rw[c3] at q2
 change DataW.trod enc Proofs.Tryz.prog W base spare held m 3 [u2]=some z2 at q2
 obtain⟨a2,e2,g2,w2⟩:=DataW.trod_int Proofs.Tryz.underlying3 q2
 have i2:=z38 w2
 simp only[List.cons.injEq,and_true] at e0
 subst e0
 simp only[List.cons.injEq,and_true] at e1
 subst e1
 simp only[List.cons.injEq,and_true] at e2
 subst e2
 subst g2
 refine⟨Lnk.mk a0 a1 a2,(Q0 (.str _) (Q0 (.str _) (Q0 (.int _ _) q62))),?_⟩
 exact⟨by simp only;omega,by simp only;omega⟩
theorem j74{fuel:Nat}{cs:List Value}{x:DataW H×List MemPlace}(hl:cs.length=7)(h:DataW.trod enc Proofs.Tryz.prog W base spare held fuel 30 cs=some x)(hb:uptoBulk x.1<=1048576): ∃y:Slt,RowF D (hv W) cs (D.shape .slot y)/\(y.1.size<=1048576/\y.2.size<=1048576/\y.3.size<=1048576):=by
 obtain⟨xs,m,hfu,rfl,_,hn,hf⟩:=DataW.trod_struct Proofs.Tryz.underlying30 h
 have c3:Proofs.Tryz.prog.cellsOf 3=1:=by kernel_rfl
 have c9:Proofs.Tryz.prog.cellsOf 9=1:=by kernel_rfl
 match xs,hn with
 |[z0,z1,z2,z3,z4,z5,z6],_=>
 have q0:=hf 0 _ rfl
 have q1:=hf 1 _ rfl
 have q2:=hf 2 _ rfl
 have q3:=hf 3 _ rfl
 have q4:=hf 4 _ rfl
 have q5:=hf 5 _ rfl
 have q6:=hf 6 _ rfl
 match cs,hl with
 |[u0,u1,u2,u3,u4,u5,u6],_=>
 simp only[List.map_cons,List.map_nil,uptoBulk,uptoBulkAll] at hb
 change DataW.trod enc Proofs.Tryz.prog W base spare held m 9 (List.take (Proofs.Tryz.prog.cellsOf 9) [u0,u1,u2,u3,u4,u5,u6])=some z0 at q0
 rw[c9] at q0
 change DataW.trod enc Proofs.Tryz.prog W base spare held m 9 [u0]=some z0 at q0
 obtain⟨a0,e0,g0⟩:=z3r q0
 change DataW.trod enc Proofs.Tryz.prog W base spare held m 9 (List.take (Proofs.Tryz.prog.cellsOf 9) [u1,u2,u3,u4,u5,u6])=some z1 at q1
 rw[c9] at q1
 change DataW.trod enc Proofs.Tryz.prog W base spare held m 9 [u1]=some z1 at q1
 obtain⟨a1,e1,g1⟩:=z3r q1
 change DataW.trod enc Proofs.Tryz.prog W base spare held m 9 (List.take (Proofs.Tryz.prog.cellsOf 9) [u2,u3,u4,u5,u6])=some z2 at q2
 rw[c9] at q2
 change DataW.trod enc Proofs.Tryz.prog W base spare held m 9 [u2]=some z2 at q2
 obtain⟨a2,e2,g2⟩:=z3r q2
 change DataW.trod enc Proofs.Tryz.prog W base spare held m 3 (List.take (Proofs.Tryz.prog.cellsOf 3) [u3,u4,u5,u6])=some z3 at q3
 rw[c3] at q3
 change DataW.trod enc Proofs.Tryz.prog W base spare held m 3 [u3]=some z3 at q3
 obtain⟨a3,e3,g3,w3⟩:=DataW.trod_int Proofs.Tryz.underlying3 q3
 have i3:=z38 w3
 change DataW.trod enc Proofs.Tryz.prog W base spare held m 3 (List.take (Proofs.Tryz.prog.cellsOf 3) [u4,u5,u6])=some z4 at q4
 rw[c3] at q4
 change DataW.trod enc Proofs.Tryz.prog W base spare held m 3 [u4]=some z4 at q4
 obtain⟨a4,e4,g4,w4⟩:=DataW.trod_int Proofs.Tryz.underlying3 q4
 have i4:=z38 w4
 change DataW.trod enc Proofs.Tryz.prog W base spare held m 3 (List.take (Proofs.Tryz.prog.cellsOf 3) [u5,u6])=some z5 at q5
 rw[c3] at q5
 change DataW.trod enc Proofs.Tryz.prog W base spare held m 3 [u5]=some z5 at q5
 obtain⟨a5,e5,g5,w5⟩:=DataW.trod_int Proofs.Tryz.underlying3 q5
 have i5:=z38 w5
 change DataW.trod enc Proofs.Tryz.prog W base spare held m 3 (List.take (Proofs.Tryz.prog.cellsOf 3) [u6])=some z6 at q6
 rw[c3] at q6
 change DataW.trod enc Proofs.Tryz.prog W base spare held m 3 [u6]=some z6 at q6
 obtain⟨a6,e6,g6,w6⟩:=DataW.trod_int Proofs.Tryz.underlying3 q6
 have i6:=z38 w6
 simp only[List.cons.injEq,and_true] at e0
 subst e0
 simp only[List.cons.injEq,and_true] at e1
 subst e1
 simp only[List.cons.injEq,and_true] at e2
 subst e2
 simp only[List.cons.injEq,and_true] at e3
 subst e3
 subst g3
 simp only[List.cons.injEq,and_true] at e4
 subst e4
 subst g4
 simp only[List.cons.injEq,and_true] at e5
 subst e5
 subst g5
 simp only[List.cons.injEq,and_true] at e6
 subst e6
 subst g6
 refine⟨Slt.mk a0 a1 a2 a3 a4 a5 a6,(Q0 (.str _) (Q0 (.str _) (Q0 (.str _) (Q0 (.int _ _) (Q0 (.int _ _) (Q0 (.int _ _) (Q0 (.int _ _) q62))))))),?_⟩
 exact⟨by simp only;omega,by simp only;omega,by simp only;omega⟩
theorem j4u{fuel:Nat}{cs:List Value}{x:DataW H×List MemPlace}(hl:cs.length=3)(h:DataW.trod enc Proofs.Tryz.prog W base spare held fuel 28 cs=some x)(hb:uptoBulk x.1<=1048576): ∃y:Reg,RowF D (hv W) cs (D.shape .register y)/\RegB y:=by
 obtain⟨xs,m,hfu,rfl,_,hn,hf⟩:=DataW.trod_struct Proofs.Tryz.underlying28 h
 have c3:Proofs.Tryz.prog.cellsOf 3=1:=by kernel_rfl
 have c25:Proofs.Tryz.prog.cellsOf 25=1:=by kernel_rfl
 have c26:Proofs.Tryz.prog.cellsOf 26=1:=by kernel_rfl
 match xs,hn with
 |[z0,z1,z2],_=>
 have q0:=hf 0 _ rfl
 have q1:=hf 1 _ rfl
 have q2:=hf 2 _ rfl
 match cs,hl with
 |[u0,u1,u2],_=>
 simp only[List.map_cons,List.map_nil,uptoBulk,uptoBulkAll] at hb
 change DataW.trod enc Proofs.Tryz.prog W base spare held m 3 (List.take (Proofs.Tryz.prog.cellsOf 3) [u0,u1,u2])=some z0 at q0
 rw[c3] at q0
 change DataW.trod enc Proofs.Tryz.prog W base spare held m 3 [u0]=some z0 at q0
 obtain⟨a0,e0,g0,w0⟩:=DataW.trod_int Proofs.Tryz.underlying3 q0
 have i0:=z38 w0
 change DataW.trod enc Proofs.Tryz.prog W base spare held m 25 (List.take (Proofs.Tryz.prog.cellsOf 25) [u1,u2])=some z1 at q1
 rw[c25] at q1
 change DataW.trod enc Proofs.Tryz.prog W base spare held m 25 [u1]=some z1 at q1
 obtain⟨a1,v1,e1,r1,g1,b1,A1⟩:=w3z (T:=C.link) (f:=fun _=>0) (A:=fun y:Lnk=>y.1.size<=1048576/\y.2.size<=1048576) Proofs.Tryz.underlying25 (by kernel_rfl) (fun n cs x _ hl hx hb=>by
  obtain⟨y,h1,h2⟩:=j73 hl hx hb
  exact⟨y,h1,Nat.zero_le _,h2⟩) q1 (by omega)
 change DataW.trod enc Proofs.Tryz.prog W base spare held m 26 (List.take (Proofs.Tryz.prog.cellsOf 26) [u2])=some z2 at q2
 rw[c26] at q2
 change DataW.trod enc Proofs.Tryz.prog W base spare held m 26 [u2]=some z2 at q2
 obtain⟨a2,v2,e2,r2,g2,b2,A2⟩:=w3z (T:=C.slot) (f:=fun _=>0) (A:=fun y:Slt=>y.1.size<=1048576/\y.2.size<=1048576/\y.3.size<=1048576) Proofs.Tryz.underlying26 (by kernel_rfl) (fun n cs x _ hl hx hb=>by
  obtain⟨y,h1,h2⟩:=j74 hl hx hb
  exact⟨y,h1,Nat.zero_le _,h2⟩) q2 (by omega)
 simp only[List.cons.injEq,and_true] at e0
 subst e0
 subst g0
 simp only[List.cons.injEq,and_true] at e1
 subst e1
 simp only[List.cons.injEq,and_true] at e2
 subst e2
 refine⟨Reg.mk a0 a1 a2,(Q0 (.int _ _) (Q0 r1 (Q0 r2 q62))),?_⟩
 exact⟨fun e he=>⟨Nat.le_trans (A1 e he).1 (by decide),Nat.le_trans (A1 e he).2 (by decide)⟩,fun s hs=>⟨Nat.le_trans (A2 s hs).1 (by decide),Nat.le_trans (A2 s hs).2.1 (by decide),Nat.le_trans (A2 s hs).2.2 (by decide)⟩⟩
theorem j9h{fuel:Nat}{cs:List Value}{x:DataW H×List MemPlace}(hl:cs.length=11)(h:DataW.trod enc Proofs.Tryz.prog W base spare held fuel 32 cs=some x)(hb:uptoBulk x.1<=1048576): ∃y:Rcd,RowF D (hv W) cs (D.shape .record y)/\(y.1.size<=1048576/\y.3.1.size<=1048576):=by
 obtain⟨xs,m,hfu,rfl,_,hn,hf⟩:=DataW.trod_struct Proofs.Tryz.underlying32 h
 have c3:Proofs.Tryz.prog.cellsOf 3=1:=by kernel_rfl
 have c9:Proofs.Tryz.prog.cellsOf 9=1:=by kernel_rfl
 have c25:Proofs.Tryz.prog.cellsOf 25=1:=by kernel_rfl
 have c30:Proofs.Tryz.prog.cellsOf 30=7:=by kernel_rfl
 match xs,hn with
 |[z0,z1,z2,z3,z4],_=>
 have q0:=hf 0 _ rfl
 have q1:=hf 1 _ rfl
 have q2:=hf 2 _ rfl
 have q3:=hf 3 _ rfl
 have q4:=hf 4 _ rfl
 match cs,hl with
 |[u0,u1,u2,u3,u4,u5,u6,u7,u8,u9,u10],_=>
 simp only[List.map_cons,List.map_nil,uptoBulk,uptoBulkAll] at hb
 change DataW.trod enc Proofs.Tryz.prog W base spare held m 9 (List.take (Proofs.Tryz.prog.cellsOf 9) [u0,u1,u2,u3,u4,u5,u6,u7,u8,u9,u10])=some z0 at q0
 rw[c9] at q0
 change DataW.trod enc Proofs.Tryz.prog W base spare held m 9 [u0]=some z0 at q0
 obtain⟨a0,e0,g0⟩:=z3r q0
 change DataW.trod enc Proofs.Tryz.prog W base spare held m 3 (List.take (Proofs.Tryz.prog.cellsOf 3) [u1,u2,u3,u4,u5,u6,u7,u8,u9,u10])=some z1 at q1
 rw[c3] at q1
 change DataW.trod enc Proofs.Tryz.prog W base spare held m 3 [u1]=some z1 at q1
 obtain⟨a1,e1,g1,w1⟩:=DataW.trod_int Proofs.Tryz.underlying3 q1
 have i1:=z38 w1
 change DataW.trod enc Proofs.Tryz.prog W base spare held m 30 (List.take (Proofs.Tryz.prog.cellsOf 30) [u2,u3,u4,u5,u6,u7,u8,u9,u10])=some z2 at q2
 rw[c30] at q2
 change DataW.trod enc Proofs.Tryz.prog W base spare held m 30 [u2,u3,u4,u5,u6,u7,u8]=some z2 at q2
 obtain⟨a2,r2,g2⟩:=j74 rfl q2 (by omega)
 change DataW.trod enc Proofs.Tryz.prog W base spare held m 3 (List.take (Proofs.Tryz.prog.cellsOf 3) [u9,u10])=some z3 at q3
 rw[c3] at q3
 change DataW.trod enc Proofs.Tryz.prog W base spare held m 3 [u9]=some z3 at q3
 obtain⟨a3,e3,g3,w3⟩:=DataW.trod_int Proofs.Tryz.underlying3 q3
 have i3:=z38 w3
 change DataW.trod enc Proofs.Tryz.prog W base spare held m 25 (List.take (Proofs.Tryz.prog.cellsOf 25) [u10])=some z4 at q4
 rw[c25] at q4
 change DataW.trod enc Proofs.Tryz.prog W base spare held m 25 [u10]=some z4 at q4
 obtain⟨a4,v4,e4,r4,g4,b4,A4⟩:=w3z (T:=C.link) (f:=fun _=>0) (A:=fun y:Lnk=>y.1.size<=1048576/\y.2.size<=1048576) Proofs.Tryz.underlying25 (by kernel_rfl) (fun n cs x _ hl hx hb=>by
  obtain⟨y,h1,h2⟩:=j73 hl hx hb
  exact⟨y,h1,Nat.zero_le _,h2⟩) q4 (by omega)
 simp only[List.cons.injEq,and_true] at e0
 subst e0
 simp only[List.cons.injEq,and_true] at e1
 subst e1
 subst g1
 simp only[List.cons.injEq,and_true] at e3
 subst e3
 subst g3
 simp only[List.cons.injEq,and_true] at e4
 subst e4
 refine⟨Rcd.mk a0 a1 a2 a3 a4,(Q0 (.str _) (Q0 (.int _ _) (w99 r2 (Q0 (.int _ _) (Q0 r4 q62))))),?_⟩
 exact⟨by simp only;omega,g2.1⟩
theorem w6h{fuel:Nat}{cs:List Value}{x:DataW H×List MemPlace}(hl:cs.length=5)(h:DataW.trod enc Proofs.Tryz.prog W base spare held fuel 24 cs=some x)(hb:uptoBulk x.1<=1048576): ∃y:AEnv,RowF D (hv W) cs (D.shape .aenv y)/\AEB y:=by
 obtain⟨xs,m,hfu,rfl,_,hn,hf⟩:=DataW.trod_struct Proofs.Tryz.underlying24 h
 have c5:Proofs.Tryz.prog.cellsOf 5=1:=by kernel_rfl
 have c22:Proofs.Tryz.prog.cellsOf 22=1:=by kernel_rfl
 match xs,hn with
 |[z0,z1,z2,z3,z4],_=>
 have q0:=hf 0 _ rfl
 have q1:=hf 1 _ rfl
 have q2:=hf 2 _ rfl
 have q3:=hf 3 _ rfl
 have q4:=hf 4 _ rfl
 match cs,hl with
 |[u0,u1,u2,u3,u4],_=>
 simp only[List.map_cons,List.map_nil,uptoBulk,uptoBulkAll] at hb
 change DataW.trod enc Proofs.Tryz.prog W base spare held m 5 (List.take (Proofs.Tryz.prog.cellsOf 5) [u0,u1,u2,u3,u4])=some z0 at q0
 rw[c5] at q0
 change DataW.trod enc Proofs.Tryz.prog W base spare held m 5 [u0]=some z0 at q0
 obtain⟨a0,e0,g0,w0⟩:=DataW.trod_int Proofs.Tryz.underlying5 q0
 have i0:=w30 w0
 change DataW.trod enc Proofs.Tryz.prog W base spare held m 5 (List.take (Proofs.Tryz.prog.cellsOf 5) [u1,u2,u3,u4])=some z1 at q1
 rw[c5] at q1
 change DataW.trod enc Proofs.Tryz.prog W base spare held m 5 [u1]=some z1 at q1
 obtain⟨a1,e1,g1,w1⟩:=DataW.trod_int Proofs.Tryz.underlying5 q1
 have i1:=w30 w1
 change DataW.trod enc Proofs.Tryz.prog W base spare held m 22 (List.take (Proofs.Tryz.prog.cellsOf 22) [u2,u3,u4])=some z2 at q2
 rw[c22] at q2
 change DataW.trod enc Proofs.Tryz.prog W base spare held m 22 [u2]=some z2 at q2
 obtain⟨a2,e2,g2,w2⟩:=DataW.trod_int Proofs.Tryz.underlying22 q2
 have i2:=j2j w2
 change DataW.trod enc Proofs.Tryz.prog W base spare held m 22 (List.take (Proofs.Tryz.prog.cellsOf 22) [u3,u4])=some z3 at q3
 rw[c22] at q3
 change DataW.trod enc Proofs.Tryz.prog W base spare held m 22 [u3]=some z3 at q3
 obtain⟨a3,e3,g3,w3⟩:=DataW.trod_int Proofs.Tryz.underlying22 q3
 have i3:=j2j w3
 change DataW.trod enc Proofs.Tryz.prog W base spare held m 22 (List.take (Proofs.Tryz.prog.cellsOf 22) [u4])=some z4 at q4
 rw[c22] at q4
 change DataW.trod enc Proofs.Tryz.prog W base spare held m 22 [u4]=some z4 at q4
 obtain⟨a4,e4,g4,w4⟩:=DataW.trod_int Proofs.Tryz.underlying22 q4
 have i4:=j2j w4
 simp only[List.cons.injEq,and_true] at e0
 subst e0
 subst g0
 simp only[List.cons.injEq,and_true] at e1
 subst e1
 subst g1
 simp only[List.cons.injEq,and_true] at e2
 subst e2
 subst g2
 simp only[List.cons.injEq,and_true] at e3
 subst e3
 subst g3
 simp only[List.cons.injEq,and_true] at e4
 subst e4
 subst g4
 refine⟨AEnv.mk a0 a1 a2 a3 a4,(Q0 (.int _ _) (Q0 (.int _ _) (Q0 (.int _ _) (Q0 (.int _ _) (Q0 (.int _ _) q62))))),?_⟩
 exact⟨⟨i1.1,by have:=i1.2;simp only;omega⟩,⟨i2.1,by have:=i2.2;simp only;omega⟩,⟨i3.1,by have:=i3.2;simp only;omega⟩,⟨i4.1,by have:=i4.2;simp only;omega⟩⟩
end
end Go.En
end
