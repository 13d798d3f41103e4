/- TrafficCools This is part 6 of 10. Conditions: those in the statements. -/
import Derived.Test.YtflilmgifibgoaaGreatDoorCoo5
noncomputable section
set_option maxRecDepth 100000
namespace Go.En
open Go Go.Fl Go.Fl.Lk Go.Fx
def U0(now:Int)(q:Nat):List Col->Int
 |[]=>now
 |c::l=>if c.1<=(q:Int)/\(q:Int)<c.2 then max (U0 now q l) c.3 else U0 now q l
def LastS(l:List Col)(now:Int)(q:Nat)(m:Int):Prop:=now<=m/\ ∀t,now<t->(t<=m↔ ∃c∈l,Cvr c (q:Int)/\t<=c.3)
theorem LastS.uniq{l:List Col}{now:Int}{q:Nat}{m m':Int}(h:LastS l now q m)(k:LastS l now q m'):m=m':=by
 rcases Int.lt_trichotomy m m' with e|e|e
 ·have:=(h.2 m' (by have:=h.1;omega)).2 ((k.2 m' (by have:=h.1;omega)).1 (Int.le_refl _));omega
 ·exact e
 ·have:=(k.2 m (by have:=k.1;omega)).2 ((h.2 m (by have:=k.1;omega)).1 (Int.le_refl _));omega
theorem LastS.mem{l l':List Col}{now:Int}{q:Nat}{m:Int}(h:LastS l now q m)(e: ∀c,c∈l↔c∈l'):LastS l' now q m:=
 ⟨h.1,fun t ht=>(h.2 t ht).trans ⟨fun ⟨c,a,b⟩=>⟨c,(e c).1 a,b⟩,fun ⟨c,a,b⟩=>⟨c,(e c).2 a,b⟩⟩⟩
theorem LastS.snoc{l:List Col}{now:Int}{q:Nat}{m:Int}{c:Col}(h:LastS l now q m)(hc:Cvr c (q:Int)):LastS (l++[c]) now q (max m c.3):=by
 refine⟨by have:=h.1;omega,fun t ht=> ?_⟩
 constructor
 ·intro hm
  rcases Int.le_total t m with k|k
  ·obtain⟨d,hd,z⟩:=(h.2 t ht).1 k
   exact⟨d,List.mem_append_left _ hd,z⟩
  ·rcases Int.le_total t c.3 with k2|k2
   ·exact⟨c,List.mem_append_right _ (List.mem_singleton.2 rfl),hc,k2⟩
   ·by_cases e:t<=m
    ·obtain⟨d,hd,z⟩:=(h.2 t ht).1 e
     exact⟨d,List.mem_append_left _ hd,z⟩
    ·exact⟨c,List.mem_append_right _ (List.mem_singleton.2 rfl),hc,by omega⟩
 ·rintro⟨d,hd,z1,z2⟩
  rcases List.mem_append.1 hd with hd|hd
  ·have:=(h.2 t ht).2 ⟨d,hd,z1,z2⟩;omega
  ·rw[List.mem_singleton.1 hd] at z2;omega
theorem LastS.skip{l r:List Col}{now:Int}{q:Nat}{m:Int}(h:LastS l now q m)(hc: ∀c∈r,¬Cvr c (q:Int)):LastS (l++r) now q m:=by
 refine⟨h.1,fun t ht=>(h.2 t ht).trans ⟨fun ⟨d,hd,z⟩=>⟨d,List.mem_append_left _ hd,z⟩,?_⟩⟩
 rintro⟨d,hd,z⟩
 rcases List.mem_append.1 hd with hd|hd
 ·exact⟨d,hd,z⟩
 ·exact absurd z.1 (hc d hd)
theorem j28(l:List Col)(now:Int)(q:Nat):LastS l now q (U0 now q l):=by
 induction l with
 |nil=>exact⟨Int.le_refl _,fun t ht=>⟨fun k=>by have:t<=now:=k;omega,fun ⟨c,hc,_⟩=>by cases hc⟩⟩
 |cons c l ih=>
  unfold U0
  split
  ·rename_i hc
   exact (ih.snoc (c:=c) hc).mem fun d=>by rw[List.mem_append,List.mem_singleton,List.mem_cons,or_comm]
  ·rename_i hc
   refine (ih.skip (r:=[c]) fun d hd=> ?_).mem fun d=>by rw[List.mem_append,List.mem_singleton,List.mem_cons,or_comm]
   rw[List.mem_singleton.1 hd];exact hc
def extC(o:List Col)(n:Int):List Col:=match o[o.length - 1]? with
 |some y=>o.set (o.length - 1) (Col.mk y.1 n y.3)
 |none=>o
def colR(u:Nat->Int)(now:Int):Nat->List Col
 |0=>[]
 |n+1=>if u n<=now then colR u now n else if 0<n/\u (n - 1)=u n then extC (colR u now n) ((n:Int)+1) else colR u now n++[Col.mk (n:Int) ((n:Int)+1) (u n)]
theorem j5k{α:Type}(l:List α)(x:α):(l++[x])[(l++[x]).length - 1]? =some x:=by simp
theorem j87{α:Type}{l:List α}{x y:α}(h:l[l.length - 1]? =some y):(l.set (l.length - 1) x)[(l.set (l.length - 1) x).length - 1]? =some x:=by
 rw[List.length_set,List.getElem?_set_self (Qb h)]
structure ColI(u:Nat->Int)(now:Int)(n:Nat)(o:List Col):Prop where
 len:o.length<=n
 last: ∀y,o[o.length - 1]? =some y->y.2<=(n:Int)/\(y.2=(n:Int)->0<n/\u (n - 1)=y.3)
 on:0<n->now<u (n - 1)-> ∃y,o[o.length - 1]? =some y/\y.2=(n:Int)/\y.3=u (n - 1)
theorem j29(u:Nat->Int)(now:Int): ∀n,ColI u now n (colR u now n)
 |0=>⟨Nat.le_refl _,fun y hy=>by simp[colR] at hy,fun h=>absurd h (by omega)⟩
 |n+1=>by
  have ih:=j29 u now n
  rw[colR]
  split
  ·rename_i hu
   refine⟨by have:=ih.len;omega,fun y hy=> ?_,fun _ hn=> ?_⟩
   ·have:=(ih.last y hy).1
    exact⟨by omega,fun e=>by omega⟩
   ·rw[Nat.add_sub_cancel] at hn;omega
  ·rename_i hu
   split
   ·rename_i hn
    obtain⟨y,hy,h2,h3⟩:=ih.on hn.1 (by rw[hn.2];omega)
    unfold extC
    rw[hy]
    refine⟨by rw[List.length_set];have:=ih.len;omega,fun z hz=> ?_,fun _ _=>⟨_,j87 hy,by simp only;omega,?_⟩⟩
    ·rw[j87 hy] at hz
     cases hz
     refine⟨by simp only;omega,fun _=>⟨by omega,?_⟩⟩
     rw[Nat.add_sub_cancel,h3,hn.2]
    ·rw[Nat.add_sub_cancel,←hn.2];exact h3
   ·refine⟨by simp;exact ih.len,fun z hz=> ?_,fun _ _=>⟨_,j5k _ _,by simp only;omega,?_⟩⟩
    ·rw[j5k] at hz
     cases hz
     exact⟨by simp only;omega,fun _=>⟨by omega,by rw[Nat.add_sub_cancel]⟩⟩
    ·rw[Nat.add_sub_cancel]
theorem w8j{u:Nat->Int}{now:Int}{n:Nat}(h:u n<=now):colR u now (n+1)=colR u now n:=by rw[colR,if_pos h]
theorem w4o{u:Nat->Int}{now:Int}{n:Nat}{y:Col}(h:now<u n)(h0:0<n)(he:u (n - 1)=u n)(hy:(colR u now n)[(colR u now n).length - 1]? =some y):colR u now (n+1)=(colR u now n).set ((colR u now n).length - 1) (Col.mk y.1 ((n:Int)+1) y.3):=by
 rw[colR,if_neg (by omega),if_pos ⟨h0,he⟩]
 unfold extC
 rw[hy]
theorem w4p{u:Nat->Int}{now:Int}{n:Nat}(h:now<u n)(he: ¬(0<n/\u (n - 1)=u n)):colR u now (n+1)=colR u now n++[Col.mk (n:Int) ((n:Int)+1) (u n)]:=by
 rw[colR,if_neg (by omega),if_neg he]
def colV(all:List Col)(now:Int):List Col:=colR (fun q=>U0 now q all) now 10000
theorem j88{u:Nat->Int}{now:Int}: ∀{n:Nat},(∀c∈colR u now n,0<=c.1/\c.1<c.2/\c.2<=(n:Int)/\now<c.3)/\ ∀q:Nat,q<n->(now<u q-> ∃c∈colR u now n,Cvr c (q:Int)/\c.3=u q)/\ ∀c∈colR u now n,Cvr c (q:Int)->c.3=u q
 |0=>⟨fun c hc=>(by cases hc),fun q hq=>absurd hq (by omega)⟩
 |n+1=>by
  obtain⟨ih1,ih2⟩:=j88 (u:=u) (now:=now) (n:=n)
  have hI:=j29 u now n
  by_cases hu:u n<=now
  ·rw[w8j hu]
   refine⟨fun c hc=>by have:=ih1 c hc;omega,fun q hq=> ?_⟩
   by_cases e:q=n
   ·subst e
    refine⟨fun k=>by omega,fun c hc hv=> ?_⟩
    have h1:=ih1 c hc
    have h2:=hv.2
    omega
   ·exact ih2 q (by omega)
  ·by_cases he:0<n/\u (n - 1)=u n
   ·obtain⟨y,hy,h2,h3⟩:=hI.on he.1 (by rw[he.2];omega)
    rw[w4o (by omega) he.1 he.2 hy]
    generalize colR u now n=o at ih1 ih2 hy⊢
    have hym:=ih1 y (getm hy)
    have hnew:Col.mk y.1 ((n:Int)+1) y.3∈o.set (o.length - 1) (Col.mk y.1 ((n:Int)+1) y.3):=List.mem_or_eq_of_mem_set (l:=o) (i:=o.length - 1) (a:=Col.mk y.1 ((n:Int)+1) y.3) (b:=Col.mk y.1 ((n:Int)+1) y.3)|>fun _=>List.mem_iff_getElem?.2 ⟨o.length - 1,List.getElem?_set_self (Qb hy)⟩
    have keep: ∀c∈o,c≠y->c∈o.set (o.length - 1) (Col.mk y.1 ((n:Int)+1) y.3):=fun c hc hne=>by
     obtain⟨i,hi⟩:=List.mem_iff_getElem?.1 hc
     by_cases e:o.length - 1=i
     ·subst e;rw[hy] at hi;cases hi;exact absurd rfl hne
     ·exact List.mem_iff_getElem?.2 ⟨i,by rw[List.getElem?_set_ne e];exact hi⟩
    refine⟨fun c hc=> ?_,fun q hq=>⟨fun hn=> ?_,fun c hc hv=> ?_⟩⟩
    ·rcases List.mem_or_eq_of_mem_set hc with hc|rfl
     ·have:=ih1 c hc;omega
     ·simp only;omega
    ·by_cases e:q=n
     ·subst e
      exact⟨_,hnew,⟨by simp only;omega,by simp only;omega⟩,by simp only;rw[h3,he.2]⟩
     ·obtain⟨c,hc,hv,h4⟩:=(ih2 q (by omega)).1 hn
      by_cases ec:c=y
      ·subst ec
       exact⟨_,hnew,⟨hv.1,by simp only;omega⟩,h4⟩
      ·exact⟨c,keep c hc ec,hv,h4⟩
    ·rcases List.mem_or_eq_of_mem_set hc with hc|rfl
     ·have h5:=ih1 c hc
      have h6:=hv.2
      exact (ih2 q (by omega)).2 c hc hv
     ·by_cases e:q=n
      ·subst e;simp only;rw[h3,he.2]
      ·exact (ih2 q (by omega)).2 y (getm hy) ⟨hv.1,by omega⟩
   ·rw[w4p (by omega) he]
    refine⟨fun c hc=> ?_,fun q hq=>⟨fun hn=> ?_,fun c hc hv=> ?_⟩⟩
    ·rcases List.mem_append.1 hc with hc|hc
     ·have:=ih1 c hc;omega
     ·rw[List.mem_singleton.1 hc];simp only;omega
    ·by_cases e:q=n
     ·subst e
      exact⟨_,List.mem_append_right _ (List.mem_singleton.2 rfl),⟨by simp only;omega,by simp only;omega⟩,rfl⟩
     ·obtain⟨c,hc,hv,h4⟩:=(ih2 q (by omega)).1 hn
      exact⟨c,List.mem_append_left _ hc,hv,h4⟩
    ·rcases List.mem_append.1 hc with hc|hc
     ·have h5:=ih1 c hc
      have h6:=hv.2
      exact (ih2 q (by omega)).2 c hc hv
     ·have hce:=List.mem_singleton.1 hc
      rw[hce] at hv⊢
      have h6:=hv.1
      have h7:=hv.2
      simp only at h6 h7⊢
      have:q=n:=by omega
      rw[this]
theorem w7d{all:List Col}{now t:Int}{q:Int}(q0:0<=q)(q1:q<10000)(ht:now<t):(∃c∈colV all now,Cvr c q/\t<=c.3)↔ ∃c∈all,Cvr c q/\t<=c.3:=by
 have hU:=j28 all now q.toNat
 have hC:=(j88 (u:=fun q=>U0 now q all) (now:=now) (n:=10000)).2 q.toNat (by omega)
 simp only[LastS,Int.toNat_of_nonneg q0] at hU hC
 rw[←hU.2 t ht]
 constructor
 ·rintro⟨c,hc,hv,h3⟩
  rw[←hC.2 c hc hv];exact h3
 ·intro h
  obtain⟨c,hc,hv,h3⟩:=hC.1 (by omega)
  exact⟨c,hc,hv,by rw[h3];exact h⟩
theorem w7e{α:Type}{l:List α}{i j:Nat}{y z c:α}(hi:l[i]? =some y)(hj:l[j]? =some z)(hij:i≠j):c∈(l.set i z).set j y↔c∈l:=by
 constructor
 ·intro h
  rcases List.mem_or_eq_of_mem_set h with h|rfl
  ·rcases List.mem_or_eq_of_mem_set h with h|rfl
   ·exact h
   ·exact getm hj
  ·exact getm hi
 ·intro h
  obtain⟨n,hn⟩:=List.mem_iff_getElem?.1 h
  by_cases e1:j=n
  ·subst e1
   rw[hj] at hn;cases hn
   exact List.mem_iff_getElem?.2 ⟨i,by rw[List.getElem?_set_ne (Ne.symm hij),List.getElem?_set_self (Qb hi)]⟩
  ·by_cases e2:i=n
   ·subst e2
    rw[hi] at hn;cases hn
    exact List.mem_iff_getElem?.2 ⟨j,by rw[List.getElem?_set_self (by rw[List.length_set];exact Qb hj)]⟩
   ·exact List.mem_iff_getElem?.2 ⟨n,by rw[List.getElem?_set_ne e1,List.getElem?_set_ne e2];exact hn⟩
def SrtS(l o:List Col):Prop:=o.length=l.length/\ ∀c,c∈o↔c∈l
theorem j5l{l:List Col}{K:List Col->Prop}(hl:l.length<=1000000)(h: ∀o,SrtS l o->(∀(a b:Nat) x y,a<b->o[a]? =some x->o[b]? =some y->x.1<=y.1)->K o):Vk l K:=by
 unfold Vk Ho
 refine w4m hl fun _=> ?_
 refine Lp2.ind (fun (i:Int) (o:List Col)=> ∃n:Nat,i=(n:Int)/\n<=l.length/\SrtS l o/\ ∀(a b:Nat) x y,a<b->b<n->o[a]? =some x->o[b]? =some y->x.1<=y.1) (fun (i:Int) _=>(l.length - i).toNat) ?_ ⟨0,rfl,by omega,⟨rfl,fun _=>Iff.rfl⟩,fun a b x y _ hb=>absurd hb (by omega)⟩
 rintro i o ⟨n,rfl,hn,hS,hs⟩
 refine Cnd.mk (fun hc=> ?_) fun hc=>h o hS fun a b x y hab hx hy=>hs a b x y hab (by have:=Qb hy;have:=hS.1;omega) hx hy
 refine Lp2.ind (fun (k:Int) (o:List Col)=> ∃m:Nat,k=(m:Int)/\m<=n/\SrtS l o/\ ∀(a b:Nat) x y,a<b->b<=n->b≠m->o[a]? =some x->o[b]? =some y->x.1<=y.1) (fun (k:Int) _=>k.toNat) ?_ ⟨n,rfl,Nat.le_refl _,hS,fun a b x y hab hb hbn hx hy=>hs a b x y hab (by omega) hx hy⟩
 rintro k o ⟨m,rfl,hm,hS,hs⟩
 have hlen:=hS.1
 have fin:(0<m-> ∀x y,o[m - 1]? =some x->o[m]? =some y->x.1<=y.1)->InI ((n:Int)+1)/\(∃n':Nat,(n:Int)+1=(n':Int)/\n'<=l.length/\SrtS l o/\ ∀(a b:Nat) x y,a<b->b<n'->o[a]? =some x->o[b]? =some y->x.1<=y.1)/\((l.length:Int) - ((n:Int)+1)).toNat<((l.length:Int) - (n:Int)).toNat:=fun hf=>by
  refine⟨by unfold InI;omega,⟨n+1,by omega,by omega,hS,fun a b x y hab hb hx hy=> ?_⟩,by omega⟩
  by_cases e:b=m
  ·subst e
   obtain⟨z,hz⟩:=getq (l:=o) (k:=b - 1) (by omega)
   have h1:=hf (by omega) z y hz hy
   by_cases e2:a=b - 1
   ·subst e2;rw[hx] at hz;cases hz;exact h1
   ·have:=hs a (b - 1) x z (by omega) (by omega) (by omega) hx hz;omega
  ·exact hs a b x y hab (by omega) e hx hy
 refine Cnd.mk (fun h0=>j84 (by omega) fun y4 h4=>⟨by unfold InI;omega,by omega,fun y6 h6=> ?_⟩) fun h0=>fin fun k=>absurd k (by omega)
 have h6:o[m - 1]? =some y6:=by rw[show ((m:Int) - 1).toNat=m - 1 by omega] at h6;exact h6
 refine Cnd.mk (fun hlt=>⟨by unfold InI;omega,by unfold InI;omega,by omega,fun y8 h8=>j84 (by omega) fun y10 h10=>j84 (by omega) fun y12 h12=>⟨by rw[List.length_set];omega,fun y14 h14=>⟨by unfold InI;omega,?_,by omega⟩⟩⟩) fun hge=>fin fun _ x y hx hy=>by
  rw[h6] at hx;cases hx
  rw[h4] at hy;cases hy
  omega
 have h8:o[m - 1]? =some y8:=by rw[show ((m:Int) - 1).toNat=m - 1 by omega] at h8;exact h8
 rw[h6] at h8;cases h8
 rw[h4] at h10;cases h10
 rw[show ((m:Int) - 1).toNat=m - 1 by omega,show ((m:Int)).toNat=m from rfl]
 refine⟨m - 1,by omega,by omega,⟨by rw[List.length_set,List.length_set];exact hlen,fun c=>(w7e h4 h6 (by omega)).trans (hS.2 c)⟩,?_⟩
 have g: ∀(a:Nat) x,((o.set m y6).set (m - 1) y4)[a]? =some x->(a=m - 1/\x=y4)∨(a=m/\x=y6)∨(a≠m - 1/\a≠m/\o[a]? =some x):=fun a x hx=>by
  by_cases e1:m - 1=a
  ·subst e1
   rw[List.getElem?_set_self (by rw[List.length_set];omega)] at hx
   cases hx;exact .inl ⟨rfl,rfl⟩
  ·rw[List.getElem?_set_ne e1] at hx
   by_cases e2:m=a
   ·subst e2
    rw[List.getElem?_set_self (by omega)] at hx
    cases hx;exact .inr (.inl ⟨rfl,rfl⟩)
   ·rw[List.getElem?_set_ne e2] at hx
    exact .inr (.inr ⟨Ne.symm e1,Ne.symm e2,hx⟩)
 rintro a b x y hab hb hbm hx hy
 rcases g b y hy with ⟨e,_⟩|⟨rfl,rfl⟩|⟨b1,b2,hy2⟩
 ·exact absurd e hbm
 ·rcases g a x hx with ⟨_,rfl⟩|⟨e,_⟩|⟨a1,a2,hx⟩
  ·omega
  ·omega
  ·exact hs a (b - 1) x y (by omega) (by omega) (by omega) hx h6
 ·rcases g a x hx with ⟨rfl,rfl⟩|⟨rfl,rfl⟩|⟨a1,a2,hx⟩
  ·exact hs m b x y (by omega) hb b2 h4 hy2
  ·exact hs (a - 1) b x y (by omega) hb b2 h6 hy2
  ·exact hs a b x y hab hb b2 hx hy2
theorem w7f{l:List Col}{now:Int}{K:List Col->Prop}(hl:l.length<=1000000)(h:K (colV l now)):Gd l now K:=by
 unfold Gd Bz
 refine j5l hl fun o hS hs=> ?_
 have hlen:=hS.1
 refine Lp3.ind (fun (c:List Col) (b:Int) (o':List Col)=> ∃n:Nat,b=(n:Int)/\n<=10000/\o'=o/\c=colR (fun q=>U0 now q l) now n) (fun _ (b:Int) _=>(10000 - b).toNat) ?_ ⟨0,rfl,by omega,rfl,rfl⟩
 rintro c b o' ⟨n,rfl,hn,rfl,rfl⟩
 refine Cnd.mk (fun hc=> ?_) fun hc=>by
  have:n=10000:=by omega
  subst this;exact h
 refine Jn3.mk (fun (m:Int) (p:List Col) (c:List Col)=>m=U0 now n l/\p=o'/\c=colR (fun q=>U0 now q l) now n) ?_ ?_
 ·intro _
  have fin: ∀m:Int,LastS o' now n m->m=U0 now n l/\o'=o'/\colR (fun q=>U0 now q l) now n=colR (fun q=>U0 now q l) now n:=fun m hm=>⟨(hm.mem hS.2).uniq (j28 l now n),rfl,rfl⟩
  refine Lp4.ind (fun (m i:Int) (p c:List Col)=> ∃j:Nat,i=(j:Int)/\j<=o'.length/\LastS (o'.take j) now n m/\p=o'/\c=colR (fun q=>U0 now q l) now n) (fun _ (i:Int) _ _=>(o'.length - i).toNat) ?_ ⟨0,rfl,by omega,⟨Int.le_refl _,fun t ht=>⟨fun k=>by omega,fun ⟨c,hc,_⟩=>by simp at hc⟩⟩,rfl,rfl⟩
  rintro m i p c ⟨j,rfl,hj,hm,rfl,rfl⟩
  refine Cnd.mk (fun hc2=>j84 (by omega) fun y hy=> ?_) fun hc2=>fin m (by rw[List.take_of_length_le (by omega)] at hm;exact hm)
  have tk:p.take (j+1)=p.take j++[y]:=by rw[List.take_add_one,hy];rfl
  refine Cnd.mk (fun hb=>fin m ?_) fun hb=>Cnd.mk (fun hv=>⟨by unfold InI;omega,⟨j+1,by omega,by omega,?_,rfl,rfl⟩,by omega⟩) fun hv=>⟨by unfold InI;omega,⟨j+1,by omega,by omega,?_,rfl,rfl⟩,by omega⟩
  ·have:=hm.skip (r:=p.drop j) fun d hd hcv=>by
    obtain⟨i,hi⟩:=List.mem_iff_getElem?.1 hd
    rw[List.getElem?_drop] at hi
    have h1:=hcv.1
    by_cases e:i=0
    ·subst e
     rw[Nat.add_zero,hy] at hi;cases hi;omega
    ·have:=hs j (j+i) y d (by omega) hy hi;omega
   rw[List.take_append_drop] at this;exact this
  ·rw[tk];exact hm.snoc ⟨by omega,hv⟩
  ·rw[tk]
   exact hm.skip fun d hd hcv=>by
    rw[List.mem_singleton.1 hd] at hcv
    exact hv hcv.2
 ·rintro m p c ⟨rfl,rfl,rfl⟩
  have hI:=j29 (fun q=>U0 now q l) now n
  have hl1:=hI.len
  have hU:=(j28 l now n).1
  have nx: ∀{c:List Col},c=colR (fun q=>U0 now q l) now (n+1)->InI ((n:Int)+1)/\(∃n':Nat,(n:Int)+1=(n':Int)/\n'<=10000/\p=p/\c=colR (fun q=>U0 now q l) now n')/\(10000 - ((n:Int)+1)).toNat<(10000 - (n:Int)).toNat:=fun he=>⟨by unfold InI;omega,⟨n+1,by omega,by omega,rfl,he⟩,by omega⟩
  refine Cnd.mk (fun he=>nx (w8j (u:=fun q=>U0 now q l) (by show U0 now n l<=now;omega)).symm) fun hne _=> ?_
  have hlt:now<U0 now n l:=by omega
  have new: ¬(0<n/\U0 now (n - 1) l=U0 now n l)->InI ((n:Int)+1)/\Sml (colR (fun q=>U0 now q l) now n++[Col.mk (n:Int) ((n:Int)+1) (U0 now n l)]).length/\InI ((n:Int)+1)/\(∃n':Nat,(n:Int)+1=(n':Int)/\n'<=10000/\p=p/\(colR (fun q=>U0 now q l) now n++[Col.mk (n:Int) ((n:Int)+1) (U0 now n l)])=colR (fun q=>U0 now q l) now n')/\(10000 - ((n:Int)+1)).toNat<(10000 - (n:Int)).toNat:=fun he=>⟨by unfold InI;omega,by unfold Sml;simp;omega,nx (w4p (u:=fun q=>U0 now q l) hlt he).symm⟩
  have no:(∀y,(colR (fun q=>U0 now q l) now n)[(colR (fun q=>U0 now q l) now n).length - 1]? =some y-> ¬(y.2=(n:Int)/\y.3=U0 now n l))-> ¬(0<n/\U0 now (n - 1) l=U0 now n l):=fun hy he=>by
   obtain⟨y,h1,h2,h3⟩:=hI.on he.1 (by show now<U0 now (n - 1) l;rw[he.2];exact hlt)
   exact hy y h1 ⟨h2,by rw[h3];exact he.2⟩
  generalize ho:colR (fun q=>U0 now q l) now n=o at hl1 new no⊢
  have eT:((o.length:Int) - 1).toNat=o.length - 1:=by omega
  rw[eT]
  refine Cnd.mk (fun hpos=>⟨by unfold InI;omega,by omega,fun y4 h4=>Cnd.mk (fun h2=>⟨by unfold InI;omega,by omega,fun y6 h6=>Cnd.mk (fun h3=>⟨by unfold InI;omega,by unfold InI;omega,by omega,fun y8 h8=>nx ?_⟩) fun h3=>new (no fun y hy k=> ?_)⟩) fun h2=>new (no fun y hy k=> ?_)⟩) fun hz=>new (no fun y hy _=> ?_)
  ·rw[h4] at h6;cases h6
   rw[h4] at h8;cases h8
   have hl2:=hI.last y4 (by rw[ho];exact h4)
   obtain⟨n0,hu⟩:=hl2.2 h2
   rw[←ho] at h4⊢
   exact (w4o (u:=fun q=>U0 now q l) hlt n0 (by rw[hu];exact h3) h4).symm
  ·rw[h6] at hy;cases hy;exact h3 k.2
  ·rw[h4] at hy;cases hy;exact h2 k.1
  ·have:=Qb hy;omega
end Go.En
end
noncomputable section
set_option maxRecDepth 100000
namespace Go.En
open Go Go.Fl Go.Fl.Lk Go.Fx
def TakP(v:Envt)(l:Lay_)(key but:ByteArray)(now q:Int):Prop:=(∃c∈l.6,Cvr c q/\now<c.3)∨(0<=q/\q<l.4)∨ ∃x∈v.6,x.2=key/\x.5≠3/\x.1≠but/\insV x.6 q=true
theorem v2l{v:Envt}{key but:ByteArray}{now:Int}{j:Nat}{l:Lay_}{K:List Spn->Prop}(hv:EnvL v)(hl:lix v key=some (j,l))(h: ∀s,IsP s (TakP v l key but now)->K s):Rz v key but now K:=by
 unfold Rz q3a
 have hxn:=hv.x
 refine j7r (v:=v) hv.l (fun hn=>by rw[hl] at hn;cases hn) fun j' l' hl'=> ?_
 rw[hl] at hl'
 cases hl'
 obtain⟨hj,_,_⟩:=q63 hl
 refine Cnd.no (by omega) (Jn1.mk (fun s=>s.length<=1000001/\ ∀q,insV s q=true↔(∃c∈l.6,Cvr c q/\now<c.3)∨(0<=q/\q<l.4)) ?_ ?_)
 ·have one:J8 l now fun J1=>Sml (J1++[Spn.mk (0:Int) l.4]).length/\((J1++[Spn.mk (0:Int) l.4]).length<=1000001/\ ∀q,insV (J1++[Spn.mk (0:Int) l.4]) q=true↔(∃c∈l.6,Cvr c q/\now<c.3)∨(0<=q/\q<l.4)):=
   w0r (hv.co l (getm hj)) fun s hs hq=>⟨by unfold Sml;simp;omega,by simp;omega,fun q=>by rw[j83,hq q]⟩
  exact atq hj (atq hj ⟨one,one⟩)
 ·rintro s ⟨hsl,hsq⟩ _
  refine Lp2.ind (fun (s:List Spn) (i:Int)=> ∃n:Nat,i=(n:Int)/\n<=v.6.length/\s.length<=1000001+1000000*n/\ ∀q,insV s q=true↔(∃c∈l.6,Cvr c q/\now<c.3)∨(0<=q/\q<l.4)∨ ∃x∈v.6.take n,x.2=key/\x.5≠3/\x.1≠but/\insV x.6 q=true) (fun _ (i:Int)=>(v.6.length - i).toNat) ?_ ⟨0,rfl,by omega,by omega,fun q=>by rw[hsq q];simp⟩
  rintro s i ⟨n,rfl,hn,hsl,hsq⟩
  refine Cnd.mk (fun hc=>⟨by omega,fun x hx=> ?_⟩) fun hc=> ?_
  ·have hx:v.6[n]? =some x:=hx
   have tk:v.6.take (n+1)=v.6.take n++[x]:=by rw[List.take_add_one,hx];rfl
   have hcl:=(hv.cl x (getm hx)).1
   have miss:(¬(x.2=key/\x.5≠3/\x.1≠but))->InI ((n:Int)+1)/\(∃n':Nat,(n:Int)+1=(n':Int)/\n'<=v.6.length/\s.length<=1000001+1000000*n'/\ ∀q,insV s q=true↔(∃c∈l.6,Cvr c q/\now<c.3)∨(0<=q/\q<l.4)∨ ∃x∈v.6.take n',x.2=key/\x.5≠3/\x.1≠but/\insV x.6 q=true)/\((v.6.length:Int) - ((n:Int)+1)).toNat<((v.6.length:Int) - (n:Int)).toNat:=fun hno=>by
    refine⟨by unfold InI;omega,⟨n+1,by omega,by omega,by omega,fun q=> ?_⟩,by omega⟩
    rw[hsq q,tk]
    refine or_congr Iff.rfl (or_congr Iff.rfl ⟨fun ⟨y,hy,z⟩=>⟨y,List.mem_append_left _ hy,z⟩,fun ⟨y,hy,z⟩=> ?_⟩)
    rcases List.mem_append.1 hy with hy|hy
    ·exact⟨y,hy,z⟩
    ·rw[List.mem_singleton.1 hy] at z;exact absurd ⟨z.1,z.2.1,z.2.2.1⟩ hno
   refine Cnd.mk (fun h1=>Cnd.mk (fun h2=>miss fun k=>k.2.1 h2) fun h2=>Cnd.mk (fun h3=>miss fun k=>k.2.2 h3) fun h3=> ?_) fun h1=>miss fun k=>h1 k.1
   refine⟨by unfold Sml;rw[List.length_append];omega,by unfold InI;omega,⟨n+1,by omega,by omega,by rw[List.length_append];omega,fun q=> ?_⟩,by omega⟩
   rw[q3u,Bool.or_eq_true,hsq q,tk]
   constructor
   ·rintro ((k|k|⟨y,hy,z⟩)|k)
    ·exact .inl k
    ·exact .inr (.inl k)
    ·exact .inr (.inr ⟨y,List.mem_append_left _ hy,z⟩)
    ·exact .inr (.inr ⟨x,List.mem_append_right _ (List.mem_singleton.2 rfl),h1,h2,h3,k⟩)
   ·rintro (k|k|⟨y,hy,z⟩)
    ·exact .inl (.inl k)
    ·exact .inl (.inr (.inl k))
    ·rcases List.mem_append.1 hy with hy|hy
     ·exact .inl (.inr (.inr ⟨y,hy,z⟩))
     ·rw[List.mem_singleton.1 hy] at z;exact .inr z.2.2.2
  ·rw[List.take_of_length_le (by omega)] at hsq
   refine h _ ((j23 _).congr fun q q0 q1=> ?_)
   rw[q62,Int.toNat_of_nonneg q0]
   exact hsq q
abbrev noK:ByteArray:=ByteArray.mk (Array.mk [])
theorem v2m{v:Envt}{key:ByteArray}{now:Int}{j:Nat}{l:Lay_}{K:List Spn->Int->Prop}(hv:EnvL v)(hl:lix v key=some (j,l))(hn:0<=now/\now<=1099511627776)(h: ∀s,IsP s (fun q=> ¬TakP v l key noK now q)->K s 0):G4 v key now K:=by
 unfold G4 q4w
 refine j5i fun r hr=>Cnd.yes (hr.2 hn) (j7r (v:=v) hv.l (fun hno=>by rw[hl] at hno;cases hno) fun j' l' _=>Cnd.no (by omega) (v2l (v:=v) hv hl fun s hs=>v2i fun f hf=>h f (hf.congr fun q q0 q1=> ?_)))
 rw[v0n]
 exact⟨fun k t=>k.2 ((hs.1 q q0 q1).2 t),fun k=>⟨⟨q0,q1⟩,fun t=>k ((hs.1 q q0 q1).1 t)⟩⟩
def canon(f:Nat->Bool):List Spn:=(Go.Fl.Sp.runs f 10000).map fun s=>Spn.mk s.1 s.2
theorem j7s{f g:Nat->Bool}(h: ∀i,i<10000->f i=g i):canon f=canon g:=by unfold canon;rw[Go.Fl.Sp.runs_congr h]
theorem j5m{f:Nat->Bool}{i:Nat}(hi:i<10000):Go.Fl.Sp.cov ((canon f).map fun s=>(s.lo,s.hi)) i=f i:=by unfold canon;rw[j82,Go.Fl.Sp.cov_norm hi]
theorem w4q{f:Nat->Bool}{i:Nat}(hi:i<10000):insV (canon f) (i:Int)=f i:=by rw[←q62];exact j5m hi
theorem w0t(f:Nat->Bool):SpsS (canon f):=by
 have h: ∀n,n<=10000-> ∀s∈Go.Fl.Sp.runs f n,0<=s.1/\s.1<s.2/\s.2<=(n:Int):=by
  intro n
  induction n with
  |zero=>intro _ s hs;cases hs
  |succ n ih=>
   intro hn s hs
   have ih:=ih (by omega)
   by_cases hf:f n=true
   ·by_cases h2: ∃t,(Go.Fl.Sp.runs f n)[(Go.Fl.Sp.runs f n).length - 1]? =some t/\t.2=(n:Int)
    ·obtain⟨t,ht,h2⟩:=h2
     rw[Go.Fl.Sp.runs_ext hf ht h2] at hs
     rcases List.mem_or_eq_of_mem_set hs with hs|rfl
     ·have:=ih s hs;omega
     ·have:=ih t (getm ht);simp only;omega
    ·rw[Go.Fl.Sp.runs_new hf fun t ht e=>h2 ⟨t,ht,e⟩] at hs
     rcases List.mem_append.1 hs with hs|hs
     ·have:=ih s hs;omega
     ·rw[List.mem_singleton.1 hs];simp only;omega
   ·rw[Go.Fl.Sp.runs_no (Bool.eq_false_iff.2 hf)] at hs
    have:=ih s hs;omega
 unfold canon
 refine⟨by rw[List.length_map];exact Go.Fl.Sp.runs_len f 10000,fun s hs=> ?_⟩
 obtain⟨t,ht,rfl⟩:=List.mem_map.1 hs
 exact h 10000 (Nat.le_refl _) t ht
def j7t(v:Envt)(l:Lay_)(key:ByteArray)(now:Int)(i:Nat):Bool:=dec (¬TakP v l key noK now (i:Int))
def envE:Envt:=Envt.mk (Sett.mk (ByteArray.mk (Array.mk [])) (ByteArray.mk (Array.mk [])) (0:Int)) [] [] [] [] []
def v0q(v:Envt)(j:Nat)(x:Exper):Envt:=Envt.mk v.1 v.2 v.3 v.4 v.5 (v.6.set j x)
def clmV(v:Envt)(x:Exper)(l:Lay_)(size now:Int):List Spn:=canon fun i=>insV x.6 (i:Int)||Go.Fl.Sp.firstP (j7t v l x.2 now) size i
def j1g(v:Envt)(key:ByteArray)(size now:Int):Envt×Int:=match fndV v key now with
 | .error e=>(envE,e)
 | .ok (j,x,_,l)=>if x.5=3 then (envE,25) else if size<1 then (envE,3) else if (Go.Fl.Sp.cnt (j7t v l x.2 now) 10000:Int)<size then (envE,19) else
  if (16:Int)<(clmV v x l size now).length then (envE,5) else (v0q v j (Exper.mk x.1 x.2 x.3 x.4 x.5 (clmV v x l size now) x.7 x.8),0)
def allC(x:Exper)(l:Lay_)(now:Int):List Col:=if 0<l.5 then l.6++x.6.map fun s=>Col.mk s.1 s.2 (endV now l.5) else l.6
def w0u(v:Envt)(j:Nat)(x:Exper)(k:Nat)(l:Lay_)(now:Int):Envt:=Envt.mk v.1 v.2 v.3 v.4 (v.5.set k (Lay_.mk l.1 l.2 l.3 l.4 l.5 (colV (allC x l now) now))) (v.6.set j (Exper.mk x.1 x.2 x.3 x.4 3 x.6 x.7 x.8))
def w0v(v:Envt)(key:ByteArray)(now:Int):Envt×Int:=match fndV v key now with
 | .error e=>(envE,e)
 | .ok (j,x,k,l)=>if x.5=2 then (if (32:Int)<(colV (allC x l now) now).length then (envE,5) else (w0u v j x k l now,0)) else (envE,25)
theorem w4r{v:Envt}{acc:List Exper}{R:List Exper->Prop}(hv:EnvK v)(ha:acc=[])(h:R v.6):Lp2 (fun acc i Y=>Cnd (i<(v.6.length:Int)) ((0<=i/\i<(v.6.length:Int))/\ ∀y,v.6[i.toNat]? =some y->Z1 y fun x=>Sml (acc++[x]).length/\InI (i+1)/\Y (acc++[x]) (i+1)) (R acc)) acc (0:Int):=
 q0a (G:=fun y K=>Z1 y K) ha (by have:=hv.xn;omega) (fun y hy _ hK=>j27 (hv.ex y hy) hK) h
theorem w8k{v:Envt}{acc:List Lay_}{R:List Lay_->Prop}(hv:EnvK v)(ha:acc=[])(h:R v.5):Lp2 (fun acc i Y=>Cnd (i<(v.5.length:Int)) ((0<=i/\i<(v.5.length:Int))/\ ∀y,v.5[i.toNat]? =some y->Gc y fun x=>Sml (acc++[x]).length/\InI (i+1)/\Y (acc++[x]) (i+1)) (R acc)) acc (0:Int):=
 q0a (G:=fun y K=>Gc y K) ha (by have:=hv.ln;omega) (fun y hy _ hK=>w7c (by have:=(hv.ly y hy).cl;omega) hK) h
theorem w4s{v:Envt}{acc:List Flg}{R:List Flg->Prop}(hv:EnvK v)(ha:acc=[])(h:R v.4):Lp2 (fun acc i Y=>Cnd (i<(v.4.length:Int)) ((0<=i/\i<(v.4.length:Int))/\ ∀y,v.4[i.toNat]? =some y->Uu y fun x=>Sml (acc++[x]).length/\InI (i+1)/\Y (acc++[x]) (i+1)) (R acc)) acc (0:Int):=
 q0a (G:=fun y K=>Uu y K) ha (by have:=hv.fn;omega) (fun y hy _ hK=>v0p (hv.fl y hy).1 (hv.fl y hy).2 hK) h
theorem w4t{v:Envt}{acc:List Seg}{R:List Seg->Prop}(hv:EnvK v)(ha:acc=[])(h:R v.3):Lp2 (fun acc i Y=>Cnd (i<(v.3.length:Int)) ((0<=i/\i<(v.3.length:Int))/\ ∀y,v.3[i.toNat]? =some y->J6 y fun x=>Sml (acc++[x]).length/\InI (i+1)/\Y (acc++[x]) (i+1)) (R acc)) acc (0:Int):=
 q0a (G:=fun y K=>J6 y K) ha (by have:=hv.sn;omega) (fun y hy _ hK=>w0s (hv.sg y hy) hK) h
theorem v2n{l:List Spn}{n:Int}{K:List Spn->Prop}(hn:InI n)(h:K (canon (Go.Fl.Sp.firstP (Go.Fl.Sp.cov (l.map fun s=>(s.lo,s.hi))) n))):R1 l n K:=⟨hn,h⟩
theorem v2o{a b:List Spn}{K:List Spn->Prop}(h:K (canon fun i=>Go.Fl.Sp.cov (a.map fun s=>(s.lo,s.hi)) i||Go.Fl.Sp.cov (b.map fun s=>(s.lo,s.hi)) i)):R2 a b K:=h
theorem v4d{l:List Spn}{K:Int->Prop}(h:K (Go.Fl.Sp.cnt (Go.Fl.Sp.cov (l.map fun s=>(s.lo,s.hi))) 10000:Nat)):Vu l K:=h
theorem w8l{v:Envt}{key:ByteArray}{size now:Int}{K:Envt->Int->Prop}(hv:EnvK v)(h:K (j1g v key size now).1 (j1g v key size now).2):R3 v key size now K:=by
 unfold R3 q3e
 unfold j1g at h
 have hsn:=hv.sn
 have hfn:=hv.fn
 have hln:=hv.ln
 have hxn:=hv.xn
 refine v2k (v:=v) hv.xn hv.ln (fun e he=>Cnd.no (j86 he) (by rw[he] at h;exact h)) fun j k x l hf=>Cnd.yes rfl ?_
 rw[hf] at h
 simp only at h
 have hF:=j85 hf
 have hx:=(q96 hF.hx).1
 refine atq hx (Cnd.mk (fun h3=>by rw[if_pos h3] at h;exact h) fun h3=>Cnd.mk (fun hs=>by rw[if_neg h3,if_pos hs] at h;exact h) fun hs=> ?_)
 rw[if_neg h3,if_neg hs] at h
 refine v2m (v:=v) hv.l hF.hl ⟨hF.n0,hF.n1⟩ fun s hsP=> ?_
 have hcov: ∀i,i<10000->Go.Fl.Sp.cov (s.map fun s=>(s.lo,s.hi)) i=j7t v l x.2 now i:=fun i hi=>by
  rw[q62]
  exact v2c (hsP.1 (i:Int) (by omega) (by omega))
 refine v4d ?_
 rw[Go.Fl.Sp.cnt_congr hcov]
 refine Cnd.mk (fun hc=>by rw[if_pos hc] at h;exact h) fun hc=> ?_
 rw[if_neg hc] at h
 have hle:=Go.Fl.Sp.cnt_le (j7t v l x.2 now) 10000
 have e:canon (fun i=>Go.Fl.Sp.cov (x.6.map fun s=>(s.lo,s.hi)) i||Go.Fl.Sp.cov ((canon (Go.Fl.Sp.firstP (Go.Fl.Sp.cov (s.map fun s=>(s.lo,s.hi))) size)).map fun s=>(s.lo,s.hi)) i)=clmV v x l size now:=by
  unfold clmV
  refine j7s fun i hi=> ?_
  rw[q62,j5m hi,Go.Fl.Sp.firstP_congr fun q hq=>hcov q (by omega)]
 refine v2n (by unfold InI;omega) (v2o ?_)
 rw[e]
 intro _
 refine Cnd.mk (fun h16=>by rw[if_pos h16] at h;exact h) fun h16=> ?_
 rw[if_neg h16] at h
 simp only[Ww]
 intro n8 hn8
 refine Cnd.mk (fun hc=> ?_) fun _=>⟨smlA hv.al,?_⟩
 ·rw[←hn8 hc]
  exact fun _=>⟨sml0 (by omega),fun _=>w4t hv rfl fun _=>⟨sml0 (by omega),fun _=>w4s hv rfl fun _=>⟨sml0 (by omega),fun _=>w8k hv rfl fun _=>⟨sml0 (by omega),fun _=>w4r hv rfl (atq hx h)⟩⟩⟩⟩
 ·rw[List.nil_append]
  exact fun _=>⟨sml0 (by omega),fun _=>w4t hv rfl fun _=>⟨sml0 (by omega),fun _=>w4s hv rfl fun _=>⟨sml0 (by omega),fun _=>w8k hv rfl fun _=>⟨sml0 (by omega),fun _=>w4r hv rfl (atq hx h)⟩⟩⟩⟩
theorem w7g{v:Envt}{x:Exper}{l:Lay_}{now:Int}(hv:EnvK v)(hx:x∈v.6)(hl:l∈v.5):(allC x l now).length<=20000:=by
 have h1:=(hv.ly l hl).cl
 have h2:=(hv.ex x hx).claims.len
 unfold allC
 split
 ·rw[List.length_append,List.length_map];omega
 ·omega
theorem v4e{v:Envt}{key:ByteArray}{now:Int}{K:Envt->Int->Prop}(hv:EnvK v)(h:K (w0v v key now).1 (w0v v key now).2):q0m v key now K:=by
 unfold q0m q4v
 unfold w0v at h
 have hsn:=hv.sn
 have hfn:=hv.fn
 have hln:=hv.ln
 have hxn:=hv.xn
 refine v2k (v:=v) hv.xn hv.ln (fun e he=>Cnd.no (j86 he) (by rw[he] at h;exact h)) fun j k x l hf=>Cnd.yes rfl ?_
 rw[hf] at h
 simp only at h
 have hF:=j85 hf
 have hx:=(q96 hF.hx).1
 have hl:=(q63 hF.hl).1
 have hL:=hv.ly l (getm hl)
 have hcl:=(hv.ex x (getm hx)).claims.len
 have hkl:=Qb hl
 have hal:=w7g (now:=now) hv (getm hx) (getm hl)
 refine atq hx (Cnd.mk (fun h2=> ?_) fun h2=>by rw[if_neg h2] at h;exact h)
 rw[if_pos h2] at h
 simp only[Ww]
 refine Jn1.mk (fun a=>a=v.2) (fun n4 hn4=>Cnd.mk (fun hc=>(hn4 hc).symm) fun _=>⟨smlA hv.al,rfl⟩) ?_
 rintro _ rfl
 refine fun _=>⟨sml0 (by omega),fun _=>w4t hv rfl fun _=>⟨sml0 (by omega),fun _=>w4s hv rfl ?_⟩⟩
 refine⟨by unfold Sml;omega,fun m hm=>by have:=(hv.ly m hm).cl;unfold Sml;omega,k,l,hl,fun _=>⟨sml0 (by omega),fun _=>w4r hv rfl (atq hx ⟨⟨by omega,by show (k:Int)<(v.5.length:Int);omega⟩,rfl,fun y hy=> ?_⟩)⟩⟩
 have hlk: ∀{y:Lay_},v.5[((k:Nat):Int).toNat]? =some y->y=l:=fun hy=>by
  have hy:v.5[k]? =some _:=hy
  rw[hl] at hy;cases hy;rfl
 refine Jn2.mk (fun (a:List Col) (s:List Lay_×Nat)=>a=allC x l now/\s=(v.5,k)) ?_ ?_
 ·refine⟨rfl,fun y19 h19=> ?_⟩
  cases hlk h19
  unfold allC
  refine Cnd.mk (fun h5=>atq hx fun _=> ?_) fun h5=>⟨by rw[if_neg h5],rfl⟩
  rw[if_pos h5]
  refine Lp3.ind (fun (a:List Col) (i:Int) (s:List Lay_×Nat)=> ∃n:Nat,i=(n:Int)/\n<=x.6.length/\a=l.6++(x.6.take n).map (fun s=>Col.mk s.1 s.2 (endV now l.5))/\s=(v.5,k)) (fun _ (i:Int) _=>(x.6.length - i).toNat) ?_ ⟨0,rfl,by omega,by simp,rfl⟩
  rintro a i s ⟨n,rfl,hn,rfl,rfl⟩
  refine Cnd.mk (fun hc=>⟨by omega,fun c hc2=>⟨rfl,fun y27 h27=> ?_⟩⟩) fun hc=>⟨by rw[List.take_of_length_le (by omega)],rfl⟩
  cases hlk h27
  have hc2:x.6[n]? =some c:=hc2
  have h1:=hL.cl
  refine w7b ⟨hF.n0,hF.n1⟩ hL.cool.1 ⟨by unfold Sml;simp;omega,by unfold InI;omega,⟨n+1,by omega,by omega,?_,rfl⟩,by omega⟩
  rw[List.take_add_one,hc2]
  simp
 ·rintro a s ⟨rfl,rfl⟩
  refine w7f (by omega) ⟨rfl,fun y20 h20=> ?_⟩
  cases hlk h20
  intro y22 h22
  have h22:(v.5.set k (Lay_.mk l.1 l.2 l.3 l.4 l.5 (colV (allC x l now) now)))[k]? =some y22:=h22
  rw[List.getElem?_set_self hkl] at h22
  cases h22
  intro _
  exact Cnd.mk (fun h32=>by rw[if_pos h32] at h;exact h) fun h32=>by rw[if_neg h32] at h;exact h
end Go.En
end
noncomputable section
set_option maxRecDepth 100000
namespace Go.En
open Go Go.Fl Go.Fl.Lk Go.Fx
theorem w4u{K:Bool->Prop}(h:K true):q1t K:=by
 unfold q1t q56 Vo
 have e:(Go.Fl.Sp.runs (Go.Fl.Sp.cov ([Spn.mk (5:Int) (9:Int),Spn.mk (0:Int) (5:Int),Spn.mk (7:Int) (7:Int)].map fun s=>(s.lo,s.hi))) 10000).map (fun s=>Spn.mk s.1 s.2)=[Spn.mk 0 9]:=by
  show (Go.Fl.Sp.runs (Go.Fl.Sp.cov [(5,9),(0,5),(7,7)]) 10000).map _=_
  rw[Go.Fl.Sp.awake_runs];rfl
 rw[e]
 refine fun _=>Cnd.yes (by decide) ⟨by decide,fun y hy=> ?_⟩
 cases hy
 refine Cnd.yes ⟨rfl,rfl⟩ ?_
 unfold Vu
 have c:(Go.Fl.Sp.cnt (Go.Fl.Sp.cov ([Spn.mk (0:Int) (9:Int)].map fun s=>(s.lo,s.hi))) 10000:Nat)=9:=Go.Fl.Sp.awake_cnt
 rw[c]
 exact h
theorem modK{x n:Int}{K:Int->Prop}(hn:0<n)(hi:n<=1000000)(h: ∀r,0<=r->r<n->K r):z7w x n K:=by
 unfold z7w
 have h1:=Int.lt_tmod_of_pos x hn
 have h2:=Int.tmod_lt_of_pos x hn
 exact⟨by omega,Cnd.mk (fun hc=>⟨by unfold InI;omega,h _ (by omega) (by omega)⟩) fun hc=>h _ (by omega) h2⟩
theorem w4v{v:Envt}{n:Int}{K:ByteArray->Prop}(h: ∀key,K key):Wj v n K:=by
 unfold Wj Us
 exact modK (by decide) (by decide) fun r r0 _ _=>Cnd.mk (fun hc=>⟨⟨r0,hc⟩,fun _ _=>h _⟩) fun _=>h _
theorem w4w{v:Envt}(hE:EnvS v)(hD:EnvD v):EnvK v:=
 ⟨by have:=hD.al;omega,by have:=hE.slen;omega,hE.segs,by have:=hE.flen;omega,fun f hf=>⟨hE.flags f hf,fun t ht=>by
  obtain⟨i,hi⟩:=List.mem_iff_getElem?.1 hf
  have:=((hD.flags.all i f hi).tgts t ht).2;omega⟩,by have:=hE.llen;omega,hE.layers,by have:=hE.xlen;omega,hE.exps⟩
def w7h(x:Exper):Exper:=Exper.mk x.1 x.2 x.3 x.4 3 x.6 x.7 x.8
def w0w(x:Exper)(l:Lay_)(now:Int):Lay_:=Lay_.mk l.1 l.2 l.3 l.4 l.5 (colV (allC x l now) now)
theorem w7i{v:Envt}{key:ByteArray}{now:Int}(h:(w0v v key now).2=0): ∃j x k l,Fnd v key now j x k l/\x.5=2/\(colV (allC x l now) now).length<=32/\(w0v v key now).1=w0u v j x k l now:=by
 unfold w0v at h⊢
 cases hf:fndV v key now with
 |error e=>rw[hf] at h;exact absurd h (j86 hf)
 |ok q=>
  obtain⟨j,x,k,l⟩:=q
  rw[hf] at h
  simp only at h⊢
  by_cases h2:x.5=2
  ·rw[if_pos h2] at h⊢
   by_cases h3:(32:Int)<(colV (allC x l now) now).length
   ·rw[if_pos h3] at h;exact absurd h (by decide)
   ·rw[if_neg h3]
    exact⟨j,x,k,l,j85 hf,h2,by omega,rfl⟩
  ·rw[if_neg h2] at h;exact absurd h (by decide)
theorem w4x{v:Envt}{key:ByteArray}{size now:Int}(h:(j1g v key size now).2=0): ∃j x k l,Fnd v key now j x k l/\x.5≠3/\1<=size/\size<=Go.Fl.Sp.cnt (j7t v l x.2 now) 10000/\(clmV v x l size now).length<=16/\(j1g v key size now).1=v0q v j (Exper.mk x.1 x.2 x.3 x.4 x.5 (clmV v x l size now) x.7 x.8):=by
 unfold j1g at h⊢
 cases hf:fndV v key now with
 |error e=>rw[hf] at h;exact absurd h (j86 hf)
 |ok q=>
  obtain⟨j,x,k,l⟩:=q
  rw[hf] at h
  simp only at h⊢
  by_cases h1:x.5=3
  ·rw[if_pos h1] at h;exact absurd h (by decide)
  rw[if_neg h1] at h⊢
  by_cases h2:size<1
  ·rw[if_pos h2] at h;exact absurd h (by decide)
  rw[if_neg h2] at h⊢
  by_cases h3:(Go.Fl.Sp.cnt (j7t v l x.2 now) 10000:Int)<size
  ·rw[if_pos h3] at h;exact absurd h (by decide)
  rw[if_neg h3] at h⊢
  by_cases h4:(16:Int)<(clmV v x l size now).length
  ·rw[if_pos h4] at h;exact absurd h (by decide)
  rw[if_neg h4]
  exact⟨j,x,k,l,j85 hf,h1,by omega,by omega,by omega,rfl⟩
theorem w7j{v:Envt}{key:ByteArray}{now:Int}{j k:Nat}{x:Exper}{l:Lay_}(h:Fnd v key now j x k l):xix (w0u v j x k l now) key=some (j,w7h x):=
 w4k (y':=w7h x) (dt (q96 h.hx).2.1) h.hx
theorem w7k{v:Envt}{key:ByteArray}{now:Int}{j k:Nat}{x:Exper}{l:Lay_}(h:Fnd v key now j x k l):lix (w0u v j x k l now) x.2=some (k,w0w x l now):=
 w4k (y':=w0w x l now) (dt (q63 h.hl).2.1) h.hl
theorem w4y{v:Envt}{key:ByteArray}{now:Int}{j k:Nat}{x:Exper}{l:Lay_}(hv:EnvK v)(h:Fnd v key now j x k l)(hc:(colV (allC x l now) now).length<=32):EnvK (w0u v j x k l now):=by
 have hx:=hv.ex x (getm (q96 h.hx).1)
 have hl:=hv.ly l (getm (q63 h.hl).1)
 refine⟨hv.al,hv.sn,hv.sg,hv.fn,hv.fl,?_,?_,?_,?_⟩
 ·show (v.5.set k _).length<=1000
  rw[List.length_set];exact hv.ln
 ·exact w4h hv.ly ⟨hl.key,hl.kind,hl.salt,hl.hold,hl.cool,by simp only;omega⟩
 ·show (v.6.set j _).length<=1000
  rw[List.length_set];exact hv.xn
 ·exact w4h hv.ex ⟨hx.key,hx.layer,hx.flag,hx.claims,hx.arms,hx.cond⟩
theorem j1h{x:Exper}{l:Lay_}{now u q:Int}(hn:0<=now)(hn1:now<=1000)(hc:0<=l.5/\l.5<=100)(hu:now<=u)(hu1:u<now+l.5)(q0:0<=q)(q1:q<10000)(hq:insV x.6 q=true): ∃c∈(w0w x l now).6,Cvr c q/\u<c.3:=by
 obtain⟨s,hs,h1,h2⟩:=q61.1 hq
 have he:endV now l.5=now+l.5:=by unfold endV;rw[if_neg (by omega)]
 obtain⟨c,hc,hv,h3⟩:=(w7d (all:=allC x l now) (now:=now) (t:=u+1) q0 q1 (by omega)).2 ⟨Col.mk s.1 s.2 (endV now l.5),by
  unfold allC
  rw[if_pos (by omega)]
  exact List.mem_append_right _ (List.mem_map.2 ⟨s,hs,rfl⟩),⟨h1,h2⟩,by simp only;omega⟩
 exact⟨c,hc,hv,by omega⟩
theorem w4z{p:Nat->Bool}{n:Int}{i:Nat}(h:Go.Fl.Sp.firstP p n i=true):p i=true:=by
 unfold Go.Fl.Sp.firstP at h
 exact (Bool.and_eq_true _ _|>.mp h).1
theorem z9o{codes:List Int}{which other size now later:Int}{K:Bool->Prop}(hc:Byts codes)(h:K true):Zm codes which other size now later K:=by
 unfold Zm Gw
 refine w4u (Cnd.yes rfl (modK (by decide) (by decide) fun t t0 t1=>w62 hc (by decide) (by decide) fun l hD=>z3g hD fun v a hE hd hD=>w4v fun key=>v4e (v:=v) (w4w hE hd) (Cnd.mk (fun h0=> ?_) fun _=>h)))
 have hv:=w4w hE hd
 obtain⟨j,x,k,l,hF,h2,h32,e⟩:=w7i h0
 rw[e]
 have hw:=w4y hv hF h32
 have hX:=w7j hF
 have hL:=w7k hF
 have hlc:=(hv.ly l (getm (q63 hF.hl).1)).cool
 have hlk:l.1=x.2:=(q63 hF.hl).2.1
 generalize hwe:w0u v j x k l t=w at hw hX hL⊢
 have hxj:=(q96 hX).1
 have hlj:=(q63 hL).1
 refine w4l (v:=w) hw.xn (fun hn=>by rw[hX] at hn;cases hn) fun j' x' hx'=> ?_
 rw[hX] at hx'
 cases hx'
 refine Cnd.no (by omega) (atq hxj (v0o (v:=w) hw.ln (fun hn=>by rw[show (w7h x).2=x.2 from rfl,hL] at hn;cases hn) fun k' l' hl'=> ?_))
 rw[show (w7h x).2=x.2 from rfl,hL] at hl'
 cases hl'
 refine Cnd.no (by omega) (atq hxj (atq hlj ⟨by unfold InI;show _<=t+l.5/\t+l.5<=_;omega,modK (by decide) (by decide) fun u u0 u1=>⟨by unfold InI;omega,atq hlj ?_⟩⟩))
 have hL1:lix w (w0w x l t).1=some (k,w0w x l t):=by show lix w l.1=_;rw[hlk];exact hL
 refine v2m (v:=w) hw.l hL1 ⟨by omega,by omega⟩ fun s hs=>Cnd.yes rfl (Cnd.mk (fun hlt=>v0m fun c hcc _=>Cnd.mk (fun hpos=> ?_) fun _=> ?_) fun hlt=> ?_)
 ·obtain⟨q,q0,q1,hq1,hq2⟩:=hcc.2.1 (by omega)
  exact absurd (.inl (j1h t0 (by omega) hlc (by omega) hlt q0 q1 hq2)) ((hs.1 q q0 q1).1 hq1)
 all_goals
  refine w4v fun y=> ?_
  refine w4l (v:=w) hw.xn (fun _=>modK (by decide) (by decide) fun n n0 n1=>⟨by unfold InI;omega,w8l (v:=w) hw (Cnd.mk (fun _=>Cnd.yes (by decide) h) fun _=>h)⟩) fun jj z hz=>modK (by decide) (by decide) fun n n0 n1=>⟨by unfold InI;omega,w8l (v:=w) hw (Cnd.mk (fun hc0=>Cnd.no (by omega) ?_) fun _=>h)⟩
  obtain⟨j2,x2,k2,l2,hF2,_,_,_,_,e2⟩:=w4x hc0
  have hx2:=hF2.hx
  rw[hz] at hx2
  cases hx2
  rw[e2]
  have hzj:=(q96 hz).1
  refine atq hzj (atq hlj (Cnd.mk (fun hsame _=>Cnd.mk (fun hlen=> ?_) fun hlen=> ?_) fun _=>h))
  ·exfalso
   have hlen:((w.6.set jj _).length:Int)<=(jj:Int):=hlen
   rw[List.length_set] at hlen
   have:=Qb hzj;omega
  have hset:(v0q w jj (Exper.mk z.1 z.2 z.3 z.4 z.5 (clmV w z l2 (1+n) (t+u)) z.7 z.8)).6[jj]? =some (Exper.mk z.1 z.2 z.3 z.4 z.5 (clmV w z l2 (1+n) (t+u)) z.7 z.8):=List.getElem?_set_self (Qb hzj)
  refine atq hset (atq hzj (j0e (by have:=(w0t fun i=>insV z.6 (i:Int)||Go.Fl.Sp.firstP (j7t w l2 z.2 (t+u)) (1+n) i).len;unfold clmV;simp only;omega) (by have:=(hw.ex z (getm hzj)).claims.len;omega) fun g hg=>Cnd.mk (fun _=>h) fun hend=>z9n (by have:=hg.1.len;omega) (by have:=(hw.ex _ (getm hxj)).claims.len;omega) fun c hcc _=> ?_))
  have:c.length=0:=by
   refine Classical.byContradiction fun hne=> ?_
   obtain⟨q,q0,q1,hq1,hq2⟩:=hcc.nonempty.1 (by omega)
   obtain⟨_,hq3,hq4⟩:=(hg.2 q).1 hq1
   have hq3:insV (clmV w z l2 (1+n) (t+u)) q=true:=hq3
   rw[←Int.toNat_of_nonneg q0] at hq3
   unfold clmV at hq3
   rw[w4q (by omega),Int.toNat_of_nonneg q0,Bool.or_eq_true] at hq3
   rcases hq3 with hq3|hq3
   ·exact hq4 hq3
   ·have hfree:=j2u.1 (w4z hq3)
    rw[Int.toNat_of_nonneg q0] at hfree
    have hl2:=hF2.hl
    rw[hsame,hL1] at hl2
    cases hl2
    exact hfree (.inl (j1h t0 (by omega) hlc (by omega) (by simp only[w0w] at hend;omega) q0 q1 hq2))
  rw[this]
  exact h
end Go.En
end
