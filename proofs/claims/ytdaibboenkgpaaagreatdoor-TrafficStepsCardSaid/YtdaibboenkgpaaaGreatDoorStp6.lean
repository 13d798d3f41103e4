/- TrafficSteps This is part 6 of 10. Conditions: those in the statements. -/
import Derived.Test.YtdaibboenkgpaaaGreatDoorStp5
noncomputable section
set_option maxRecDepth 100000
namespace Go.En
open Go Go.Fl Go.Fl.Lk Go.Fx
theorem q1k(a b:List Spn)(q:Int):insV (a++b) q=(insV a q||insV b q):=by
 unfold insV
 rw[List.find?_append]
 cases List.find? (fun r:Spn=>decide (r.1<=q) && decide (q<r.2)) a<;>simp
theorem j6i(y:Spn)(q:Int):insV [y] q=(decide (y.1<=q) && decide (q<y.2)):=by
 unfold insV
 rw[List.find?_cons]
 cases decide (y.1<=q) && decide (q<y.2)<;>simp
theorem q5x{l:List Spn}{q:Int}:insV l q=true↔ ∃r∈l,r.1<=q/\q<r.2:=by
 unfold insV
 rw[List.find?_isSome]
 simp only[Bool.and_eq_true,decide_eq_true_eq]
structure BAt(o:List Bool)(f:Nat->Bool):Prop where
 len:o.length=10000
 at_: ∀q,q<10000->o[q]? =some (f q)
theorem BAt.set{o:List Bool}{f g:Nat->Bool}{k:Nat}{v:Bool}(h:BAt o f)(hv:g k=v)(hg: ∀q,q<10000->q≠k->g q=f q):BAt (o.set k v) g:=by
 refine⟨by rw[List.length_set];exact h.len,fun q hq=> ?_⟩
 have hl:=h.len
 rw[List.getElem?_set]
 split
 ·rename_i he
  subst he
  rw[if_pos (by omega),hv]
 ·rename_i hne
  rw[h.at_ q hq,hg q hq (fun e=>hne e.symm)]
theorem BAt.of{o:List Bool}{f g:Nat->Bool}(h:BAt o f)(hg: ∀q,q<10000->g q=f q):BAt o g:=⟨h.len,fun q hq=>by rw[h.at_ q hq,hg q hq]⟩
theorem BAt.get{o:List Bool}{f:Nat->Bool}(h:BAt o f){k:Nat}{y:Bool}(hy:o[k]? =some y):y=f k:=by
 have hl:=Qe hy
 have:=h.at_ k (by have:=h.len;omega)
 rw[hy] at this;exact Option.some.inj this
theorem Ug{l:List Spn}{K:List Bool->Prop}(hl:l.length<=1000000)(h: ∀b,BAt b (fun q=>insV l (q:Int))->K b):V5 l K:=by
 unfold V5
 refine⟨⟨by decide,by decide,by unfold Sml;decide⟩,Lp2.ind (fun i o=> ∃j:Nat,i=(j:Int)/\j<=l.length/\BAt o (fun q=>insV (l.take j) (q:Int))) (fun i _=>(l.length - i).toNat) ?_ ⟨0,rfl,by omega,⟨List.length_replicate,fun q hq=>by rw[List.getElem?_replicate,if_pos (show q<Int.toNat 10000 from hq)];rfl⟩⟩⟩
 rintro i o ⟨j,rfl,hj,hb⟩ _
 refine Cnd.mk (fun hc=>⟨by omega,fun y hy=> ?_⟩) fun hc=>h o (hb.of fun q hq=>by rw[List.take_of_length_le (by omega)])
 have hy:l[j]? =some y:=hy
 have hlt:=Qe hy
 refine Lp2.ind (fun (b:Int) o=>max y.1 0<=b/\b<=max (max y.1 0) (min y.2 10000)/\BAt o (fun q=>insV (l.take j) (q:Int)||(decide (y.1<=(q:Int)) && decide ((q:Int)<b)))) (fun b _=>(10000 - b).toNat) ?_ ⟨Int.le_refl _,by omega,hb.of fun q hq=> ?_⟩
 ·rintro b o ⟨b0,b1,hb⟩
  refine⟨by omega,fun z hz=> ?_⟩
  have hz:l[j]? =some z:=hz
  rw[hy] at hz;cases hz
  refine Cnd.mk (fun hlt2=>⟨by have:=hb.len;omega,fun w hw=>⟨by unfold InI;omega,⟨by omega,by omega,hb.set (k:=b.toNat) ?_ fun q hq hne=> ?_⟩,by omega⟩⟩) fun hge=>⟨by unfold InI;omega,⟨j+1,by omega,by omega,hb.of fun q hq=> ?_⟩,by omega⟩
  ·rw[dt (show y.1<=(b.toNat:Int) by omega),dt (show (b.toNat:Int)<b+1 by omega)];simp
  ·congr 2
   by_cases hqb:(q:Int)<b
   ·rw[dt hqb,dt (show (q:Int)<b+1 by omega)]
   ·rw[df hqb,df (show ¬(q:Int)<b+1 by omega)]
  ·rw[List.take_add_one,hy,q1k]
   show (_||insV [y] (q:Int))=_
   rw[j6i]
   congr 1
   by_cases h1:y.1<=(q:Int)
   ·rw[dt h1,Bool.true_and,Bool.true_and]
    by_cases h2:(q:Int)<y.2
    ·rw[dt h2,dt (show (q:Int)<b by omega)]
    ·rw[df h2,df (show ¬(q:Int)<b by omega)]
   ·rw[df h1];simp
 ·have:(decide (y.1<=(q:Int)) && decide ((q:Int)<max y.1 0))=false:=by
   by_cases h1:y.1<=(q:Int)
   ·rw[df (show ¬(q:Int)<max y.1 0 by omega)];simp
   ·rw[df h1];simp
  rw[this,Bool.or_false]
def IsS(l:List Spn)(p:Int->Prop):Prop:=SpsS l/\ ∀q,insV l q=true↔(0<=q/\q<10000)/\p q
theorem IsS.nonempty{l:List Spn}{p:Int->Prop}(h:IsS l p):0<l.length↔ ∃q,0<=q/\q<10000/\p q:=by
 constructor
 ·intro hp
  obtain⟨h1,h2,h3⟩:=h.1.all l[0] (List.getElem_mem hp)
  have:=(h.2 l[0].lo).1 (q5x.2 ⟨l[0],List.getElem_mem hp,Int.le_refl _,h2⟩)
  exact⟨_,this.1.1,this.1.2,this.2⟩
 ·rintro⟨q,q0,q1,hq⟩
  obtain⟨r,hr,_⟩:=q5x.1 ((h.2 q).2 ⟨⟨q0,q1⟩,hq⟩)
  exact List.length_pos_of_mem hr
theorem Hz{b:List Bool}{f:Nat->Bool}{K:List Spn->Prop}(hb:BAt b f)(h: ∀l,IsS l (fun q=>f q.toNat=true)->K l):W6 b K:=by
 unfold W6
 have hlen:=hb.len
 refine Lp2.ind (fun (o:List Spn) (i:Int)=> ∃j:Nat,i=(j:Int)/\j<=10000/\o.length<=j/\(∀s∈o,0<=s.lo/\s.lo<s.hi/\s.hi<=(j:Int))/\(∀q:Int,insV o q=true↔(0<=q/\q<(j:Int))/\f q.toNat=true)/\(0<j->f (j - 1)=true-> ∃a s,o=a++[s]/\s.hi=(j:Int))) (fun _ i=>(10000 - i).toNat) ?_ ⟨0,rfl,by omega,by simp,by simp,fun q=>⟨fun h=>(by cases h),fun h=>by omega⟩,fun h=>by omega⟩
 rintro o i ⟨j,rfl,hj,hol,hos,hin,hlast⟩ _
 refine Cnd.mk (fun hc=>⟨by omega,fun y hy=> ?_⟩) fun hc=>h o ⟨⟨by omega,fun s hs=>by have:=hos s hs;omega⟩,fun q=>(hin q).trans ⟨fun k=>⟨⟨k.1.1,by have:=k.1.2;omega⟩,k.2⟩,fun k=>⟨⟨k.1.1,by have:=k.1.2;omega⟩,k.2⟩⟩⟩
 have hy:b[j]? =some y:=hy
 have hyf:=hb.get hy
 have fresh:f j=true->Sml (o++[Spn.mk (j:Int) ((j:Int)+1)]).length/\InI ((j:Int)+1)/\(∃j':Nat,(j:Int)+1=(j':Int)/\j'<=10000/\(o++[Spn.mk (j:Int) ((j:Int)+1)]).length<=j'/\(∀s∈o++[Spn.mk (j:Int) ((j:Int)+1)],0<=s.lo/\s.lo<s.hi/\s.hi<=(j':Int))/\(∀q:Int,insV (o++[Spn.mk (j:Int) ((j:Int)+1)]) q=true↔(0<=q/\q<(j':Int))/\f q.toNat=true)/\(0<j'->f (j' - 1)=true-> ∃a s,o++[Spn.mk (j:Int) ((j:Int)+1)]=a++[s]/\s.hi=(j':Int)))/\(10000 - ((j:Int)+1)).toNat<(10000 - (j:Int)).toNat:=fun hf=>by
  refine⟨by unfold Sml;simp;omega,by unfold InI;omega,⟨j+1,by omega,by omega,by simp;omega,Zc (fun s hs=>by have:=hos s hs;omega) ⟨by simp only;omega,by simp only;omega,by simp only;omega⟩,fun q=> ?_,fun _ _=>⟨o,_,rfl,by simp only;omega⟩⟩,by omega⟩
  rw[q1k,j6i,Bool.or_eq_true,hin q,Bool.and_eq_true,decide_eq_true_eq,decide_eq_true_eq]
  simp only
  constructor
  ·rintro (⟨⟨a,b⟩,c⟩|⟨a,b⟩)
   ·exact⟨⟨a,by omega⟩,c⟩
   ·have:q=(j:Int):=by omega
    subst this
    exact⟨⟨by omega,by omega⟩,hf⟩
  ·rintro⟨⟨a,b⟩,c⟩
   by_cases hq:q<(j:Int)
   ·exact .inl ⟨⟨a,hq⟩,c⟩
   ·exact .inr ⟨by omega,by omega⟩
 refine Cnd.mk (fun ht=> ?_) fun hf=> ?_
 ·have hfj:f j=true:=by rw[←hyf,ht]
  refine Cnd.mk (fun hpos=>⟨by unfold InI;omega,by omega,fun z hz=> ?_⟩) fun _=>⟨by unfold InI;omega,fresh hfj⟩
  have hz:b[j - 1]? =some z:=by rw[show ((j:Int) - 1).toNat=j - 1 by omega] at hz;exact hz
  have hzf:=hb.get hz
  refine Cnd.mk (fun ht2 _=> ?_) fun _=>⟨by unfold InI;omega,fresh hfj⟩
  obtain⟨a,s,rfl,hs⟩:=hlast (by omega) (by rw[←hzf,ht2])
  have hal:(a++[s]).length=a.length+1:=by simp
  rw[hal] at hol
  refine⟨by unfold InI;omega,by unfold InI;omega,by omega,fun w hw=> ?_⟩
  rw[show (((a++[s]).length:Int) - 1).toNat=a.length by omega] at hw⊢
  have hw':w=s:=by simpa using hw.symm
  subst hw'
  have hset:(a++[w]).set a.length (Spn.mk w.1 ((j:Int)+1))=a++[Spn.mk w.1 ((j:Int)+1)]:=by simp
  rw[hset]
  obtain⟨w1,w2,w3⟩:=hos w (by simp)
  refine⟨by unfold InI;omega,⟨j+1,by omega,by omega,by simp;omega,Zc (fun s hs=>by have:=hos s (by simp[hs]);omega) ⟨by simp only;omega,by simp only;omega,by simp only;omega⟩,fun q=> ?_,fun _ _=>⟨a,_,rfl,by simp only;omega⟩⟩,by omega⟩
  have ho:=hin q
  rw[q1k,j6i,Bool.or_eq_true,Bool.and_eq_true,decide_eq_true_eq,decide_eq_true_eq] at ho⊢
  simp only
  rw[hs] at ho
  constructor
  ·rintro (k|⟨k1,k2⟩)
   ·have:=ho.1 (.inl k);exact⟨⟨this.1.1,by omega⟩,this.2⟩
   ·by_cases hq:q<(j:Int)
    ·have:=ho.1 (.inr ⟨k1,hq⟩);exact⟨⟨this.1.1,by omega⟩,this.2⟩
    ·have:q=(j:Int):=by omega
     subst this
     exact⟨⟨by omega,by omega⟩,hfj⟩
  ·rintro⟨⟨k1,k2⟩,k3⟩
   by_cases hq:q<(j:Int)
   ·rcases ho.2 ⟨⟨k1,hq⟩,k3⟩ with k|⟨k4,_⟩
    ·exact .inl k
    ·exact .inr ⟨k4,by omega⟩
   ·exact .inr ⟨by omega,by omega⟩
 ·have hfj:f j=false:=by rw[←hyf];simpa using hf
  refine⟨by unfold InI;omega,⟨j+1,by omega,by omega,by omega,fun s hs=>by have:=hos s hs;omega,fun q=> ?_,fun _ hh=> ?_⟩,by omega⟩
  ·rw[hin q]
   constructor
   ·rintro⟨⟨a,b⟩,c⟩;exact⟨⟨a,by omega⟩,c⟩
   ·rintro⟨⟨a,b⟩,c⟩
    refine⟨⟨a,?_⟩,c⟩
    by_cases hq:q<(j:Int)
    ·exact hq
    ·have:q=(j:Int):=by omega
     subst this
     rw[Int.toNat_natCast,hfj] at c;cases c
  ·rw[Nat.add_sub_cancel,hfj] at hh;cases hh
theorem j3h{a b:List Spn}{K:List Spn->Prop}(ha:a.length<=1000000)(hb:b.length<=1000000)(h: ∀l,IsS l (fun q=>insV a q=true∨insV b q=true)->K l):Rq a b K:=by
 unfold Rq q7z
 refine Ug ha fun x hx=>Ug hb fun y hy=>Lp2.ind (fun (i:Int) (o:List Bool)=> ∃j:Nat,i=(j:Int)/\j<=10000/\BAt o (fun q=>if q<j then insV a (q:Int)||insV b (q:Int) else insV a (q:Int))) (fun i _=>(10000 - i).toNat) ?_ ⟨0,rfl,by omega,hx.of fun q hq=>by simp⟩
 rintro i o ⟨j,rfl,hj,ho⟩ _
 have hlen:=ho.len
 have hyl:=hy.len
 refine Cnd.mk (fun hc=>⟨by omega,fun z hz=> ?_⟩) fun hc=>Hz (ho.of (g:=fun q=>insV a (q:Int)||insV b (q:Int)) fun q hq=>by rw[if_pos (by omega)]) fun l hl=>h l ⟨hl.1,fun q=>by
  rw[hl.2 q]
  constructor
  ·rintro⟨h1,h2⟩;rw[Int.toNat_of_nonneg h1.1,Bool.or_eq_true] at h2;exact⟨h1,h2⟩
  ·rintro⟨h1,h2⟩;refine⟨h1,?_⟩;simp only;rw[Int.toNat_of_nonneg h1.1,Bool.or_eq_true];exact h2⟩
 have hz:o[j]? =some z:=hz
 have hzf:=ho.get hz
 simp only[Nat.lt_irrefl,if_false] at hzf
 have step: ∀{v:Bool},v=(insV a (j:Int)||insV b (j:Int))->InI ((j:Int)+1)/\(∃j':Nat,(j:Int)+1=(j':Int)/\j'<=10000/\BAt (o.set j v) (fun q=>if q<j' then insV a (q:Int)||insV b (q:Int) else insV a (q:Int)))/\(10000 - ((j:Int)+1)).toNat<(10000 - (j:Int)).toNat:=fun {v} hv=>⟨by unfold InI;omega,⟨j+1,by omega,by omega,ho.set (by rw[if_pos (by omega),hv]) fun q hq hne=>by
  by_cases hqj:q<j
  ·rw[if_pos hqj,if_pos (by omega)]
  ·rw[if_neg hqj,if_neg (by omega)]⟩,by omega⟩
 refine Cnd.mk (fun ht=>⟨by omega,fun w hw=>step (by rw[←hzf,ht];rfl)⟩) fun hf=>⟨by omega,fun w hw=>⟨by omega,fun u hu=>step ?_⟩⟩
 have hw:y[j]? =some w:=hw
 rw[hy.get hw,←hzf,Bool.eq_false_iff.2 hf];rfl
theorem z1d{a b:List Spn}{K:List Spn->Prop}(ha:a.length<=1000000)(hb:b.length<=1000000)(h: ∀l,IsS l (fun q=>insV a q=true/\insV b q=true)->K l):Wx a b K:=by
 unfold Wx q5m
 refine Ug ha fun x hx=>Ug hb fun y hy=>Lp2.ind (fun (i:Int) (o:List Bool)=> ∃j:Nat,i=(j:Int)/\j<=10000/\BAt o (fun q=>if q<j then insV a (q:Int) && insV b (q:Int) else insV a (q:Int))) (fun i _=>(10000 - i).toNat) ?_ ⟨0,rfl,by omega,hx.of fun q hq=>by simp⟩
 rintro i o ⟨j,rfl,hj,ho⟩ _
 have hlen:=ho.len
 have hyl:=hy.len
 refine Cnd.mk (fun hc=>⟨by omega,fun z hz=> ?_⟩) fun hc=>Hz (ho.of (g:=fun q=>insV a (q:Int) && insV b (q:Int)) fun q hq=>by rw[if_pos (by omega)]) fun l hl=>h l ⟨hl.1,fun q=>by
  rw[hl.2 q]
  constructor
  ·rintro⟨h1,h2⟩;rw[Int.toNat_of_nonneg h1.1,Bool.and_eq_true] at h2;exact⟨h1,h2⟩
  ·rintro⟨h1,h2⟩;refine⟨h1,?_⟩;simp only;rw[Int.toNat_of_nonneg h1.1,Bool.and_eq_true];exact h2⟩
 have hz:o[j]? =some z:=hz
 have hzf:=ho.get hz
 simp only[Nat.lt_irrefl,if_false] at hzf
 have step: ∀{v:Bool},v=(insV a (j:Int) && insV b (j:Int))->InI ((j:Int)+1)/\(∃j':Nat,(j:Int)+1=(j':Int)/\j'<=10000/\BAt (o.set j v) (fun q=>if q<j' then insV a (q:Int) && insV b (q:Int) else insV a (q:Int)))/\(10000 - ((j:Int)+1)).toNat<(10000 - (j:Int)).toNat:=fun {v} hv=>⟨by unfold InI;omega,⟨j+1,by omega,by omega,ho.set (by rw[if_pos (by omega),hv]) fun q hq hne=>by
  by_cases hqj:q<j
  ·rw[if_pos hqj,if_pos (by omega)]
  ·rw[if_neg hqj,if_neg (by omega)]⟩,by omega⟩
 refine Cnd.mk (fun ht=>⟨by omega,fun w hw=>⟨by omega,fun u hu=>step ?_⟩⟩) fun hf=>⟨by omega,fun w hw=>step (by rw[←hzf,Bool.eq_false_iff.2 hf];rfl)⟩
 have hw:y[j]? =some w:=hw
 rw[hy.get hw,←hzf,ht];rfl
end Go.En
end
noncomputable section
set_option maxRecDepth 100000
namespace Go.En
open Go Go.Fl Go.Fl.Lk Go.Fx Go.Dg
def v4i(v:Envt):Prop:= ∀(i j:Nat) x y,j<i->v.6[i]? =some x->v.6[j]? =some y->x.5≠3->y.5≠3->y.2=x.2-> ∀q,0<=q->q<10000-> ¬(insV x.6 q=true/\insV y.6 q=true)
theorem q7k{v:Envt}{i:Nat}{K:Int->Prop}(hv:EnvS v)(i1:(i:Int)<v.experiments.length)(h0:(∀x,v.6[i]? =some x->x.5≠3-> ∀(j:Nat) y,j<i->v.6[j]? =some y->y.5≠3->y.2=x.2-> ∀q,0<=q->q<10000-> ¬(insV x.6 q=true/\insV y.6 q=true))->K 0)(h: ∀r,r≠0->K r):Jt v (i:Int) K:=by
 unfold Jt Vj
 have ev:Envt.mk (Sett.mk v.1.1 v.1.2 v.1.3) v.2 v.3 v.4 v.5 v.6=v:=rfl
 rw[ev]
 have hsl:=hv.slen
 have hxl:=hv.xlen
 refine⟨⟨by omega,i1⟩,fun x hx=>q1w fun k hk=>q8y fun g hg=>Cnd.mk (fun _=>h _ (by decide)) fun hk0=>Cnd.mk (fun _=>h _ (by decide)) fun hg0=> ?_⟩
 have hx:v.6[i]? =some x:=hx
 have hX:=hv.exps x (getm hx)
 have kb:0<=k/\k<(v.layers.length:Int):=by rcases hk with ⟨a,_⟩|⟨a,b,_⟩<;>omega
 have gb:0<=g/\g<(v.flags.length:Int):=by rcases hg with ⟨a,_⟩|⟨a,b,_⟩<;>omega
 refine Lp1.ind (fun (j:Int)=>0<=j/\j<=x.arms.length) (fun (j:Int)=>(x.arms.length - j).toNat) ?_ ⟨by omega,by omega⟩
 rintro j ⟨j0,j1⟩ _
 refine Cnd.mk (fun hc=>⟨by omega,fun _ _=>⟨gb,fun _ _ _=>Cnd.mk (fun _=>h _ (by decide)) fun _=>⟨by unfold InI;omega,⟨by omega,by omega⟩,by omega⟩⟩⟩) fun _=> ?_
 refine q42 (by omega) ?_
 rw[Zd]
 refine q7j 4 hX.cond fun _=>Cnd.mk (fun _=>Cnd.mk (fun h3=>h0 fun x' hx' hn=>by rw[hx] at hx';cases hx';exact absurd h3 hn) fun h3=>⟨kb,fun l hl=> ?_⟩) fun hne=>h _ hne
 refine Lp3.ind (fun (t:List Spn) (j:Int) (_:List ByteArray)=> ∃k:Nat,j=(k:Int)/\k<=i/\(t.length:Int)<=1+j*10000/\ ∀(m:Nat) y,m<k->v.6[m]? =some y->y.5≠3->y.2=x.2-> ∀q,insV y.6 q=true->insV t q=true) (fun _ (j:Int) _=>(i - j).toNat) ?_ ⟨0,rfl,by omega,by simp,fun m y hm=>by omega⟩
 rintro t j ks ⟨k,rfl,hk2,ht,htk⟩
 have him:=Qe hx
 refine Cnd.mk (fun hc=>⟨by omega,fun y hy=> ?_⟩) fun hge=>z1d (by have:=hX.claims.len;omega) (by omega) fun c hcs _=>Cnd.mk (fun _=>h _ (by decide)) fun hno=> ?_
 ·have hcl:=(hv.exps y (getm hy)).claims.len
  have hy:v.6[k]? =some y:=hy
  have next: ∀{t':List Spn},(t'.length:Int)<=1+((k:Int)+1)*10000->(∀q,insV t q=true->insV t' q=true)->(y.5≠3->y.2=x.2-> ∀q,insV y.6 q=true->insV t' q=true)->InI ((k:Int)+1)/\(∃k':Nat,(k:Int)+1=(k':Int)/\k'<=i/\(t'.length:Int)<=1+((k:Int)+1)*10000/\ ∀(m:Nat) y,m<k'->v.6[m]? =some y->y.5≠3->y.2=x.2-> ∀q,insV y.6 q=true->insV t' q=true)/\(i - ((k:Int)+1)).toNat<(i - (k:Int)).toNat:=fun {t'} h1 h2 h3=>⟨by unfold InI;omega,⟨k+1,by omega,by omega,h1,fun m z hm hz a b q hq=>by
   by_cases hmk:m<k
   ·exact h2 q (htk m z hmk hz a b q hq)
   ·have:m=k:=by omega
    subst this
    rw[hy] at hz;cases hz
    exact h3 a b q hq⟩,by omega⟩
  exact Cnd.mk (fun k1=>Cnd.mk (fun k2=>next (by omega) (fun _ h=>h) fun h3'=>absurd k2 h3') fun k2=>⟨by unfold Sml;simp;omega,next (by simp;omega) (fun q hq=>by rw[q1k,hq];rfl) fun _ _ q hq=>by rw[q1k,hq];simp⟩) fun k1=>next (by omega) (fun _ h=>h) fun _ h2=>absurd h2 k1
 ·have hki:k=i:=by omega
  subst hki
  have fin:K 0:=h0 fun x' hx' hn m y hm hy h5 h2 q q0 q1 hq=>by
   rw[hx] at hx';cases hx'
   refine hno ?_
   have:=hcs.nonempty.2 ⟨q,q0,q1,hq.1,htk m y hm hy h5 h2 q hq.2⟩
   omega
  refine Lp4.ind (fun (j:Int) (_ _:List Spn) (_:List ByteArray)=>0<=j/\j<=v.experiments.length) (fun (j:Int) _ _ _=>(v.experiments.length - j).toNat) ?_ ⟨by omega,by omega⟩
  rintro j a b c ⟨j0,j1⟩
  (repeat' (first|exact h _ (by decide)|exact fin|assumption|(unfold InI;omega)|omega|refine Cnd.mk (fun _=> ?_) fun _=> ?_|refine⟨?_,?_⟩|intro _))
theorem z25{v:Envt}{K:ByteArray->Int->Prop}(hv:EnvS v)(h0:v4i v-> ∀s,K s 0)(h: ∀s r,r≠0->K s r):W0 v K:=by
 unfold W0 G9
 have hsl:=hv.slen
 have hfl:=hv.flen
 have hxl:=hv.xlen
 have ev:Envt.mk (Sett.mk v.1.1 v.1.2 v.1.3) v.2 v.3 v.4 v.5 v.6=v:=rfl
 rw[ev]
 have s8:(ByteArray.mk (Array.mk [115,101,103,109,101,110,116,32])).size=8:=rfl
 have s5:(ByteArray.mk (Array.mk [102,108,97,103,32])).size=5:=rfl
 have s11:(ByteArray.mk (Array.mk [101,120,112,101,114,105,109,101,110,116,32])).size=11:=rfl
 have sk: ∀x∈v.segments.map Seg.key,x.size<=100:=fun x hx=>by obtain⟨g,hg,rfl⟩:=List.mem_map.1 hx;exact (hv.segs g hg).key
 have fk: ∀x∈v.flags.map Flg.key,x.size<=100:=fun x hx=>by obtain⟨g,hg,rfl⟩:=List.mem_map.1 hx;exact (hv.flags g hg).key
 have nlen:(v.flags.flatMap q2y).length<=4*v.flags.length:=by
  have: ∀l:List Flg,(∀f∈l,FlgS f)->(l.flatMap q2y).length<=4*l.length:=by
   intro l
   induction l with
   |nil=>simp
   |cons f l ih=>intro hf;have h1:=(hf f (by simp)).nlen;have h2:=ih fun g hg=>hf g (by simp[hg]);simp only[List.flatMap_cons,List.length_append,q2y,List.length_map,List.length_cons] at*;omega
  exact this _ hv.flags
 refine q7i hv fun _=>Cnd.mk (fun _=>q42 (by omega) ?_) fun hne=>h _ _ hne
 refine Lp2.ind (fun (i:Int) (ks:List ByteArray)=>0<=i/\i<=v.segments.length/\ks=v.segments.map Seg.key) (fun (i:Int) _=>(v.segments.length - i).toNat) ?_ ⟨by omega,by omega,rfl⟩
 rintro i ks ⟨i0,i1,rfl⟩ _
 refine Cnd.mk (fun hc=>⟨by omega,fun g hg=>Cnd.mk (fun _=>⟨by unfold InI;omega,⟨by omega,by omega,rfl⟩,by omega⟩) fun _=>⟨by omega,fun g hg=> ?_⟩⟩) fun _=> ?_
 ·dsimp only;rw[Zd]
  refine q7j 4 (hv.segs g (getm hg)).cond fun _=>Cnd.mk (fun _=>⟨by unfold InI;omega,⟨by omega,by omega,rfl⟩,by omega⟩) fun hne=>⟨by omega,fun g hg=>⟨?_,h _ _ hne⟩⟩
  have:=(hv.segs g (getm hg)).key
  rw[s8];omega
 refine z8w (by omega) hv.segs fun es hes=>q5w (by simp;omega) hes sk fun s b hs=>Cnd.mk (fun _=>⟨by rw[s8];omega,h _ _ (by decide)⟩) fun _=> ?_
 refine Lp3.ind (fun (i:Int) (_:List ByteArray) (_:List Edg)=>0<=i/\i<=v.flags.length) (fun (i:Int) _ _=>(v.flags.length - i).toNat) ?_ ⟨by omega,by omega⟩
 rintro i ks es ⟨i0,i1⟩ _
 refine Cnd.mk (fun hc=>⟨by omega,fun f hf=>q9r hv (hv.flags f (getm hf)) fun _=>Cnd.mk (fun _=>⟨by unfold InI;omega,⟨by omega,by omega⟩,by omega⟩) fun hne=>⟨by omega,fun g hg=>⟨?_,h _ _ hne⟩⟩⟩) fun _=> ?_
 ·have:=(hv.flags g (getm hg)).key
  rw[s5];omega
 refine z09 (by omega) (q9q (by omega) (fun f hf=>by have:=(hv.flags f hf).nlen;omega) (q5w (by simp;omega) (by omega) fk fun s b hs=>Cnd.mk (fun _=>⟨by rw[s5];omega,h _ _ (by decide)⟩) fun _=> ?_))
 refine Lp5.ind (fun (i:Int) (_:List ByteArray) (_ _:List Edg) (_:List ByteArray)=> ∃k:Nat,i=(k:Int)/\k<=v.experiments.length/\ ∀(m:Nat) x,m<k->v.6[m]? =some x->x.5≠3-> ∀(j:Nat) y,j<m->v.6[j]? =some y->y.5≠3->y.2=x.2-> ∀q,0<=q->q<10000-> ¬(insV x.6 q=true/\insV y.6 q=true)) (fun (i:Int) _ _ _ _=>(v.experiments.length - i).toNat) ?_ ⟨0,rfl,by omega,fun m x hm=>by omega⟩
 rintro i a b c d ⟨k,rfl,hk,hall⟩ _
 refine Cnd.mk (fun hc=>q7k hv hc (fun hf=>Cnd.yes rfl ⟨by unfold InI;omega,⟨k+1,by omega,by omega,fun m x hm hx=> ?_⟩,by omega⟩) fun r hr=>Cnd.no hr ⟨by omega,fun x hx=>⟨?_,h _ _ hr⟩⟩) fun hge=>h0 (fun i j x y hji hx hy h1 h2 h3=>hall i x (by have:=Qe hx;omega) hx h1 j y hji hy h2 h3) _
 ·by_cases hmk:m<k
  ·exact hall m x hmk hx
  ·have:m=k:=by omega
   subst this
   exact hf x hx
 ·have:=(hv.exps x (getm hx)).key
  rw[s11];omega
theorem j3i{v:Envt}{K:Bool->Prop}(hv:EnvS v)(h: ∀r,(r=true->v4i v)->K r):Up v K:=by
 unfold Up q8a
 refine z25 hv (fun hd _=>h _ fun _=>hd) fun _ r hr=>h _ fun hb=> ?_
 exact absurd (of_decide_eq_true hb) hr
end Go.En
end
noncomputable section
set_option maxRecDepth 100000
namespace Go.En
open Go Go.Fl Go.Fl.Lk Go.Fx
def PR{α:Type}(R:α->α->Prop)(l m:List α):Prop:=m.length=l.length/\ ∀(i:Nat) x y,l[i]? =some x->m[i]? =some y->R x y
theorem PR.refl{α:Type}{R:α->α->Prop}(hr: ∀a,R a a)(l:List α):PR R l l:=⟨rfl,fun i x y hx hy=>by rw[hx] at hy;cases hy;exact hr x⟩
theorem PR.set{α:Type}{R:α->α->Prop}(hr: ∀a,R a a){l:List α}{i:Nat}{a b:α}(ha:l[i]? =some a)(hab:R a b):PR R l (l.set i b):=by
 refine⟨List.length_set,fun j x y hx hy=> ?_⟩
 rw[List.getElem?_set] at hy
 split at hy
 ·rename_i he
  subst he
  rw[if_pos (Qe ha)] at hy
  cases hy
  rw[ha] at hx;cases hx;exact hab
 ·rw[hx] at hy;cases hy;exact hr x
def v6b(a b:Lay_):Prop:=b.1=a.1/\b.2=a.2/\b.3=a.3/\b.4=a.4/\b.5=a.5
def v4j(a b:Exper):Prop:=b.1=a.1/\b.2=a.2/\b.3=a.3/\b.4=a.4/\b.7=a.7/\b.8=a.8/\ ∀q,0<=q->q<10000->insV a.6 q=true->insV b.6 q=true
theorem j4o(a:Lay_):v6b a a:=⟨rfl,rfl,rfl,rfl,rfl⟩
theorem j4p(a:Exper):v4j a a:=⟨rfl,rfl,rfl,rfl,rfl,rfl,fun _ _ _ h=>h⟩
structure Mvd(v w:Envt):Prop where
 st:w.1=v.1
 at_:w.2=v.2
 sg:w.3=v.3
 fl:w.4=v.4
 ly:PR v6b v.5 w.5
 ex:PR v4j v.6 w.6
theorem z4m{v:Envt}{key:ByteArray}{now:Int}{K:Int->Int->Prop}(hxn:v.6.length<=1000)(hln:v.5.length<=1000)(h1: ∀(j:Nat) x,v.6[j]? =some x->K (j:Int) 0)(h0: ∀i e,e≠0->K i e):q3z v key now K:=by
 unfold q3z z7d
 have rest: ∀{r:Int},(r<0∨ ∃(j:Nat) (x:Exper),r=(j:Int)/\v.6[j]? =some x)->R0 now fun Qd=>Cnd (Qd=true) (Cnd (r<0) (K 0 11) (At v.6 r fun y2=>Zw v y2.2 fun Qk=>Cnd (Qk<0) (K 0 11) (K r 0))) (K 0 3):=fun {r} hr=>j2e fun _ _=>Cnd.mk (fun _=>Cnd.mk (fun _=>h0 _ _ (by decide)) fun hn=> ?_) fun _=>h0 _ _ (by decide)
 ·exact Rx (v:=v) hxn (fun _=>rest (.inl (by decide))) fun j x hx _=>rest (.inr ⟨j,x,rfl,hx⟩)
 ·rcases hr with hr|⟨j,x,rfl,hx⟩
  ·exact absurd hr hn
  ·refine⟨by have:=Qe hx;omega,fun y hy=>Vv (v:=v) hln (fun _=>Cnd.mk (fun _=>h0 _ _ (by decide)) fun _=>h1 j x hx) fun k l _ _=>Cnd.mk (fun _=>h0 _ _ (by decide)) fun _=>h1 j x hx⟩
theorem Ut{α:Type}{P:α->Prop}{l:List α}{i:Nat}{b:α}(h: ∀x∈l,P x)(hb:P b): ∀x∈l.set i b,P x:=fun x hx=>(List.mem_or_eq_of_mem_set hx).elim (h x) fun e=>by rw[e];exact hb
theorem w8r(x:Exper):Exper.mk x.1 x.2 x.3 x.4 x.5 x.6 x.7 (Ex.mk x.8.1 x.8.2 x.8.3 x.8.4 x.8.5)=x:=by rw[Zd]
theorem z4n{v:Envt}{j:Nat}{x0 x:Exper}{K:Envt->Prop}(hxn:v.6.length<=1000)(hx:v.6[j]? =some x0)(h:K (Envt.mk v.1 v.2 v.3 v.4 v.5 (v.6.set j x))):q08 v (j:Int) x K:=by
 unfold q08
 simp only[List.nil_append]
 exact⟨by unfold Sml;omega,by have:=Qe hx;omega,fun y hy=>by rw[w8r];exact h⟩
theorem j6j{v:Envt}(hE:EnvS v){j:Nat}{x0 x:Exper}(hx:v.6[j]? =some x0)(h1:x.1=x0.1)(h2:x.2=x0.2)(h3:x.3=x0.3)(h6:SpsS x.6)(h7:x.7=x0.7)(h8:x.8=x0.8):EnvS (Envt.mk v.1 v.2 v.3 v.4 v.5 (v.6.set j x)):=by
 have h0:=hE.exps x0 (getm hx)
 exact⟨hE.hkind,hE.attrs,hE.slen,hE.segs,hE.flen,hE.flags,hE.llen,hE.layers,by simp only[List.length_set];exact hE.xlen,Ut hE.exps ⟨by rw[h1];exact h0.key,by rw[h2];exact h0.layer,by rw[h3];exact h0.flag,h6,by rw[h7];exact h0.arms,by rw[h8];exact h0.cond⟩⟩
theorem w8s{v:Envt}{j:Nat}{x0 x:Exper}(hx:v.6[j]? =some x0)(h:v4j x0 x):Mvd v (Envt.mk v.1 v.2 v.3 v.4 v.5 (v.6.set j x)):=⟨rfl,rfl,rfl,rfl,.refl j4o _,.set j4p hx h⟩
theorem w1c{l:List Spn}{K:Int->Prop}(h: ∀n,K n):z16 l K:=by
 unfold z16 z7e
 refine Hg fun b hb=>Lp2.ind (fun (n i:Int)=>0<=i/\i<=10000/\0<=n/\n<=i) (fun _ (i:Int)=>(10000 - i).toNat) ?_ ⟨by omega,by omega,by omega,by omega⟩
 rintro n i ⟨i0,i1,n0,n1⟩ _
 exact Cnd.mk (fun hc=>⟨by omega,fun y hy=>Cnd.mk (fun _=>⟨by unfold InI;omega,by unfold InI;omega,⟨by omega,by omega,by omega,by omega⟩,by omega⟩) fun _=>⟨by unfold InI;omega,⟨by omega,by omega,by omega,by omega⟩,by omega⟩⟩) fun _=>h _
theorem j80{v:Envt}{key:ByteArray}{size now:Int}{K:Envt->Int->Prop}(hE:EnvS v)(hsz:size<=100000)(h: ∀w e,(e=0->EnvS w/\Mvd v w)->K w e):q8b v key size now K:=by
 unfold q8b z32
 have hxn:v.6.length<=1000:=Nat.le_trans hE.xlen (by decide)
 have hln:v.5.length<=1000:=Nat.le_trans hE.llen (by decide)
 refine z4m (v:=v) hxn hln (fun j x hx=>Cnd.yes rfl ⟨by have:=Qe hx;omega,fun y hy=> ?_⟩) fun i e he=>Cnd.no he (h _ _ fun h0=>absurd h0 he)
 have hy:v.6[j]? =some y:=hy
 rw[hx] at hy;cases hy
 have hc:=(hE.exps x (getm hx)).claims
 refine Cnd.mk (fun _=>h _ _ fun h0=>absurd h0 (by decide)) fun _=>Cnd.mk (fun _=>h _ _ fun h0=>absurd h0 (by decide)) fun hs1=>j2l (v:=v) fun l e hl=>w1c fun n=>Cnd.mk (fun _=>h _ _ fun h0=>absurd h0 (by decide)) fun _=>z08 ⟨by omega,by omega⟩ fun g hg=> ?_
 refine j3h (by have:=hc.len;omega) (by have:=hg.len;omega) fun r hr _=>Cnd.mk (fun _=>h _ _ fun h0=>absurd h0 (by decide)) fun _=> ?_
 refine z4n (v:=v) hxn hx ?_
 refine h _ _ fun _=>⟨j6j hE hx rfl rfl rfl hr.1 rfl (Zd),w8s hx ⟨rfl,rfl,rfl,rfl,rfl,Zd,fun q q0 q1 hq=>(hr.2 q).2 ⟨⟨q0,q1⟩,.inl hq⟩⟩⟩
theorem j81{v:Envt}{key:ByteArray}{now:Int}{K:Envt->Int->Prop}(hE:EnvS v)(h: ∀w e,(e=0->EnvS w/\Mvd v w)->K w e):q8c v key now K:=by
 unfold q8c z33
 have hxn:v.6.length<=1000:=Nat.le_trans hE.xlen (by decide)
 have hln:v.5.length<=1000:=Nat.le_trans hE.llen (by decide)
 refine z4m (v:=v) hxn hln (fun j x hx=>Cnd.yes rfl ⟨by have:=Qe hx;omega,fun y hy=> ?_⟩) fun i e he=>Cnd.no he (h _ _ fun h0=>absurd h0 he)
 have hy:v.6[j]? =some y:=hy
 rw[hx] at hy;cases hy
 have hc:=(hE.exps x (getm hx)).claims
 refine Cnd.mk (fun _=>z8v (v:=v) fun l _=>z59 fun c _ _=>Cnd.mk (fun _=>h _ _ fun h0=>absurd h0 (by decide)) fun _=> ?_) fun _=>h _ _ fun h0=>absurd h0 (by decide)
 refine z4n (v:=v) hxn hx ?_
 exact h _ _ fun _=>⟨j6j hE hx rfl rfl rfl hc rfl (Zd),w8s hx ⟨rfl,rfl,rfl,rfl,rfl,Zd,fun q q0 q1 hq=>hq⟩⟩
theorem j3j{u:List Int}{now:Int}{K:List Col->Prop}(hu:u.length<=10000)(h: ∀l,K l):Bx u now K:=by
 unfold Bx
 refine Lp2.ind (fun (o:List Col) (i:Int)=> ∃j:Nat,i=(j:Int)/\j<=u.length/\o.length<=j/\(∀y,0<j->u[j - 1]? =some y->now<y->0<o.length)) (fun _ i=>(u.length - i).toNat) ?_ ⟨0,rfl,by omega,by simp,fun y hj=>by omega⟩
 rintro o i ⟨j,rfl,hj,hol,hop⟩ _
 refine Cnd.mk (fun hc=>⟨by omega,fun y hy=> ?_⟩) fun _=>h _
 have hy:u[j]? =some y:=hy
 have add: ∀c:Col,Sml (o++[c]).length/\InI ((j:Int)+1)/\(∃j':Nat,(j:Int)+1=(j':Int)/\j'<=u.length/\(o++[c]).length<=j'/\(∀y,0<j'->u[j' - 1]? =some y->now<y->0<(o++[c]).length))/\(u.length - ((j:Int)+1)).toNat<(u.length - (j:Int)).toNat:=fun c=>⟨by unfold Sml;simp;omega,by unfold InI;omega,⟨j+1,by omega,by omega,by simp;omega,fun _ _ _ _=>by simp⟩,by omega⟩
 refine Cnd.mk (fun hle=>⟨by unfold InI;omega,⟨j+1,by omega,by omega,by omega,fun z _ hz hlt=> ?_⟩,by omega⟩) fun hgt=>Cnd.mk (fun hpos=>⟨by unfold InI;omega,by omega,fun z hz=>⟨by omega,fun w hw=>Cnd.mk (fun he _=> ?_) fun _=>⟨by unfold InI;omega,by omega,fun c hc=>add _⟩⟩⟩) fun _=>⟨by unfold InI;omega,by omega,fun c hc=>add _⟩
 ·rw[Nat.add_sub_cancel,hy] at hz;cases hz;omega
 ·have hw:u[j]? =some w:=hw
  rw[hy] at hw;cases hw
  have hz:u[j - 1]? =some z:=by rw[show ((j:Int) - 1).toNat=j - 1 by omega] at hz;exact hz
  have hp:=hop z (by omega) hz (by omega)
  refine⟨by unfold InI;omega,by unfold InI;omega,by omega,fun c hc=>⟨by unfold InI;omega,⟨j+1,by omega,by omega,by rw[List.length_set];omega,fun _ _ _ _=>by rw[List.length_set];exact hp⟩,by omega⟩⟩
theorem w1d{v:Envt}{key:ByteArray}{now:Int}{K:Envt->Int->Prop}(hE:EnvS v)(hD: ∀x∈v.6,∃l∈v.5,x.2=l.1)(n0:0<=now)(n1:now<=1000)(h: ∀w e,(e=0->EnvS w/\Mvd v w)->K w e):z17 v key now K:=by
 unfold z17 z7f
 have hxn:v.6.length<=1000:=Nat.le_trans hE.xlen (by decide)
 have hln:v.5.length<=1000:=Nat.le_trans hE.llen (by decide)
 refine z4m (v:=v) hxn hln (fun j x hx=>Cnd.yes rfl ⟨by have:=Qe hx;omega,fun y hy=> ?_⟩) fun i e he=>Cnd.no he (h _ _ fun h0=>absurd h0 he)
 have hy:v.6[j]? =some y:=hy
 rw[hx] at hy;cases hy
 have hc:=(hE.exps x (getm hx)).claims
 refine Cnd.mk (fun _=>Vv (v:=v) hln (fun hn=> ?_) fun k l hl _=>⟨by have:=Qe hl;omega,fun l' hl'=> ?_⟩) fun _=>h _ _ fun h0=>absurd h0 (by decide)
 ·obtain⟨l,hl,hk⟩:=hD x (getm hx)
  unfold lof at hn
  rw[List.find?_eq_none] at hn
  exact absurd (dt hk.symm) (hn l hl)
 have hl':v.5[k]? =some l':=hl'
 rw[hl] at hl';cases hl'
 have hL:=hE.layers l (getm hl)
 refine q2x fun u hu=>Hg fun b hb=> ?_
 have fin: ∀u:List Int,u.length=10000->Bx u now fun Z1=>Fits Z1->Cnd (32<(↑Z1.length:Int)) (K (Envt.mk (Sett.mk (ByteArray.mk (Array.mk [])) (ByteArray.mk (Array.mk [])) 0) [] [] [] [] []) 5) (q08 (Envt.mk (Sett.mk v.1.1 v.1.2 v.1.3) v.2 v.3 v.4 v.5 v.6) (j:Int) (Exper.mk x.1 x.2 x.3 x.4 3 x.6 x.7 (Ex.mk x.8.1 x.8.2 x.8.3 x.8.4 x.8.5)) fun Qw=>Sml ([]++Qw.5).length/\(0<=(k:Int)/\(k:Int)<(↑([]++Qw.5).length:Int))/\ ∀y13,([]++Qw.5)[(k:Int).toNat]? =some y13->K (Envt.mk (Sett.mk Qw.1.1 Qw.1.2 Qw.1.3) Qw.2 Qw.3 Qw.4 (([]++Qw.5).set (k:Int).toNat (Lay_.mk l.1 l.2 l.3 l.4 l.5 Z1)) Qw.6) 0):=fun u hu=>j3j (by omega) fun c _=>Cnd.mk (fun _=>h _ _ fun h0=>absurd h0 (by decide)) fun hc32=>by
  refine z4n (v:=v) hxn hx ?_
  simp only[List.nil_append]
  refine⟨by unfold Sml;omega,by have:=Qe hl;omega,fun _ _=>h _ _ fun _=>⟨?_,?_⟩⟩
  ·have h1:=j6j (x:=Exper.mk x.1 x.2 x.3 x.4 3 x.6 x.7 (Ex.mk x.8.1 x.8.2 x.8.3 x.8.4 x.8.5)) hE hx rfl rfl rfl hc rfl (Zd)
   exact⟨h1.hkind,h1.attrs,h1.slen,h1.segs,h1.flen,h1.flags,by simp only[List.length_set];exact hE.llen,Ut hE.layers ⟨hL.key,hL.kind,hL.salt,hL.hold,hL.cool,by simp only;omega⟩,h1.xlen,h1.exps⟩
  ·exact⟨rfl,rfl,rfl,rfl,.set j4o hl ⟨rfl,rfl,rfl,rfl,rfl⟩,.set j4p hx ⟨rfl,rfl,rfl,rfl,rfl,Zd,fun q _ _ hq=>hq⟩⟩
 refine Lp2.ind (fun (i:Int) (u:List Int)=>0<=i/\i<=10000/\u.length=10000) (fun (i:Int) _=>(10000 - i).toNat) ?_ ⟨by omega,by omega,hu⟩
 rintro i u ⟨i0,i1,hu⟩ _
 refine Cnd.mk (fun hc=>Cnd.mk (fun _=>⟨by omega,fun z hz=>Cnd.mk (fun _=>⟨by omega,fun w hw=> ?_⟩) fun _=>⟨by unfold InI;omega,⟨by omega,by omega,hu⟩,by omega⟩⟩) fun _=>fin u hu) fun _=>fin u hu
 unfold z0h
 have hcl:=hL.cool
 have step: ∀m:Int,At u i fun y15=>InI (i+1)/\(0<=i+1/\i+1<=10000/\(u.set i.toNat (Max.max w m)).length=10000)/\(10000 - (i+1)).toNat<(10000 - i).toNat:=fun m=>⟨by omega,fun _ _=>⟨by unfold InI;omega,⟨by omega,by omega,by rw[List.length_set];exact hu⟩,by omega⟩⟩
 exact⟨by unfold InI;omega,Cnd.mk (fun _=>step _) fun _=>⟨by unfold InI;omega,step _⟩⟩
end Go.En
end
noncomputable section
set_option maxRecDepth 100000
namespace Go.En
open Go Go.Fl Go.Fl.Lk Go.Fx
theorem w8t{list:List Int}{at_:Int}{v:Envt}{now:Int}{K:Envt->Int->Prop}(hD:DS list at_)(hE:EnvS v)(hX: ∀x∈v.6,∃l∈v.5,x.2=l.1)(n0:0<=now)(n1:now<=1000)(h: ∀w a,DS list a->EnvS w->(w=v∨Mvd v w/\v4i w)->K w a):z90 list at_ v now K:=by
 unfold z90 j5m
 have hxl:=hE.xlen
 refine fun _=>Cnd.mk (fun _=>h v _ hD hE (.inl rfl)) fun hn _=>Qc hD (by omega) fun q a q0 q1 hD=>⟨⟨q0,q1⟩,fun y hy=> ?_⟩
 refine Jn1.mk (fun x=>DS list x.2.2.2.2.2.2.2.2.2.1/\(x.1=0->EnvS (Envt.mk (Sett.mk x.2.1 x.2.2.1 x.2.2.2.1) x.2.2.2.2.1 x.2.2.2.2.2.1 x.2.2.2.2.2.2.1 x.2.2.2.2.2.2.2.1 x.2.2.2.2.2.2.2.2.1)/\(Envt.mk (Sett.mk x.2.1 x.2.2.1 x.2.2.2.1) x.2.2.2.2.1 x.2.2.2.2.2.1 x.2.2.2.2.2.2.1 x.2.2.2.2.2.2.2.1 x.2.2.2.2.2.2.2.2.1=v∨Mvd v (Envt.mk (Sett.mk x.2.1 x.2.2.1 x.2.2.2.1) x.2.2.2.2.1 x.2.2.2.2.2.1 x.2.2.2.2.2.2.1 x.2.2.2.2.2.2.2.1 x.2.2.2.2.2.2.2.2.1)))) ?_ ?_
 ·refine Qc hD (by decide) fun r a r0 r1 hD=>Cnd.mk (fun _=>U2 hD (by decide) fun u a u0 u1 hD=>⟨by unfold InI;omega,j80 (v:=v) hE (by omega) fun w e hw=>⟨hD,fun he=>⟨(hw he).1,.inr (hw he).2⟩⟩⟩) fun h0=>Cnd.mk (fun _=>j81 (v:=v) hE fun w e hw=>⟨hD,fun he=>⟨(hw he).1,.inr (hw he).2⟩⟩) fun h1=>Cnd.mk (fun _=>w1d (v:=v) hE hX n0 n1 fun w e hw=>⟨hD,fun he=>⟨(hw he).1,.inr (hw he).2⟩⟩) fun h2=>absurd r1 (by omega)
 ·rintro⟨e,a1,a2,a3,a4,a5,a6,a7,a8,a9,_⟩ ⟨hD,hw⟩
  simp only at hD hw⊢
  refine Cnd.mk (fun he=> ?_) fun _=>h v _ hD hE (.inl rfl)
  obtain⟨hEw,hmv⟩:=hw he
  refine j3i hEw fun b hb=>Cnd.mk (fun ht=>h _ _ hD hEw ?_) fun _=>h v _ hD hE (.inl rfl)
  rcases hmv with hmv|hmv
  ·exact .inl hmv
  ·exact .inr ⟨hmv,hb ht⟩
end Go.En
end
noncomputable section
set_option maxRecDepth 100000
namespace Go.En
open Go Go.Fl Go.Fl.Lk Go.Fx
theorem j2o(l:List Spn)(i:Nat):Go.Fl.Sp.cov (l.map fun s=>(s.lo,s.hi)) i=insV l (i:Int):=by
 rw[Bool.eq_iff_iff,q5x]
 unfold Go.Fl.Sp.cov
 simp only[List.any_map,List.any_eq_true,Function.comp,Bool.and_eq_true,decide_eq_true_eq]
theorem v1c(l:List (Int×Int)):(l.map fun s=>Spn.mk s.1 s.2).map (fun s=>(s.lo,s.hi))=l:=by
 rw[List.map_map]
 exact List.map_id l
def IsP(l:List Spn)(p:Int->Prop):Prop:=(∀q,0<=q->q<10000->(insV l q=true↔p q))/\(0<l.length↔ ∃q,0<=q/\q<10000/\p q)
theorem w23(f:Nat->Bool):IsP ((Go.Fl.Sp.runs f 10000).map fun s=>Spn.mk s.1 s.2) fun q=>f q.toNat=true:=by
 have at_: ∀i:Nat,i<10000->insV ((Go.Fl.Sp.runs f 10000).map fun s=>Spn.mk s.1 s.2) (i:Int)=f i:=fun i hi=>by
  rw[←j2o,v1c,Go.Fl.Sp.cov_norm hi]
 refine⟨fun q q0 q1=> ?_,?_⟩
 ·have:=at_ q.toNat (by omega)
  rw[Int.toNat_of_nonneg q0] at this
  rw[this]
 ·constructor
  ·intro hl
   refine Classical.byContradiction fun hno=> ?_
   have:Go.Fl.Sp.runs f 10000=[]:=Go.Fl.Sp.runs_empty fun i hi=>by
    cases hf:f i with
    |false=>rfl
    |true=>exact absurd ⟨(i:Int),by omega,by omega,hf⟩ hno
   rw[this] at hl;simp at hl
  ·rintro⟨q,q0,q1,hq⟩
   have:=at_ q.toNat (by omega)
   rw[hq,Int.toNat_of_nonneg q0,q5x] at this
   obtain⟨r,hr,_⟩:=this
   exact List.length_pos_of_mem hr
theorem IsP.congr{l:List Spn}{p p':Int->Prop}(h:IsP l p)(e: ∀q,0<=q->q<10000->(p q↔p' q)):IsP l p':=
 ⟨fun q a b=>(h.1 q a b).trans (e q a b),h.2.trans ⟨fun ⟨q,a,b,c⟩=>⟨q,a,b,(e q a b).1 c⟩,fun ⟨q,a,b,c⟩=>⟨q,a,b,(e q a b).2 c⟩⟩⟩
theorem IsS.toP{l:List Spn}{p:Int->Prop}(h:IsS l p):IsP l p:=⟨fun q a b=>(h.2 q).trans ⟨fun k=>k.2,fun k=>⟨⟨a,b⟩,k⟩⟩,h.nonempty⟩
theorem j82{a b:List Spn}{K:List Spn->Prop}(h: ∀l,IsP l (fun q=>insV a q=true/\insV b q≠true)->K l):V9 a b K:=
 h _ ((w23 _).congr fun q q0 q1=>by
  show (Go.Fl.Sp.cov _ _ && !Go.Fl.Sp.cov _ _)=true↔_
  rw[j2o,j2o,Int.toNat_of_nonneg q0]
  cases insV a q<;>cases insV b q<;>simp)
theorem v4k{a b:List Spn}{K:List Spn->Prop}(h: ∀l,IsP l (fun q=>insV a q=true/\insV b q=true)->K l):Ve a b K:=
 h _ ((w23 _).congr fun q q0 q1=>by
  show (Go.Fl.Sp.cov _ _ && Go.Fl.Sp.cov _ _)=true↔_
  rw[j2o,j2o,Int.toNat_of_nonneg q0]
  cases insV a q<;>cases insV b q<;>simp)
theorem z3m{a b:List Spn}{K:List Spn->Prop}(ha:a.length<=1000000)(hb:b.length<=1000000)(h: ∀l,IsS l (fun q=>insV a q=true/\insV b q≠true)->K l):Vt a b K:=by
 unfold Vt q70
 refine Ug ha fun x hx=>Ug hb fun y hy=>Lp2.ind (fun (i:Int) (o:List Bool)=> ∃j:Nat,i=(j:Int)/\j<=10000/\BAt o (fun q=>if q<j then insV a (q:Int) && !insV b (q:Int) else insV a (q:Int))) (fun i _=>(10000 - i).toNat) ?_ ⟨0,rfl,by omega,hx.of fun q hq=>by simp⟩
 rintro i o ⟨j,rfl,hj,ho⟩ _
 have hlen:=ho.len
 have hyl:=hy.len
 refine Cnd.mk (fun hc=>⟨by omega,fun z hz=> ?_⟩) fun hc=>Hz (ho.of (g:=fun q=>insV a (q:Int) && !insV b (q:Int)) fun q hq=>by rw[if_pos (by omega)]) fun l hl=>h l ⟨hl.1,fun q=>by
  rw[hl.2 q]
  constructor
  ·rintro⟨h1,h2⟩
   have h2:(insV a ((q.toNat:Nat):Int) && !insV b ((q.toNat:Nat):Int))=true:=h2
   rw[Int.toNat_of_nonneg h1.1,Bool.and_eq_true,Bool.not_eq_true'] at h2
   exact⟨h1,h2.1,by rw[h2.2];decide⟩
  ·rintro⟨h1,h2,h3⟩
   refine⟨h1,?_⟩
   show (insV a ((q.toNat:Nat):Int) && !insV b ((q.toNat:Nat):Int))=true
   rw[Int.toNat_of_nonneg h1.1,h2,Bool.eq_false_iff.2 h3];rfl⟩
 have hz:o[j]? =some z:=hz
 have hzf:=ho.get hz
 simp only[Nat.lt_irrefl,if_false] at hzf
 have step: ∀{v:Bool},v=(insV a (j:Int) && !insV b (j:Int))->InI ((j:Int)+1)/\(∃j':Nat,(j:Int)+1=(j':Int)/\j'<=10000/\BAt (o.set j v) (fun q=>if q<j' then insV a (q:Int) && !insV b (q:Int) else insV a (q:Int)))/\(10000 - ((j:Int)+1)).toNat<(10000 - (j:Int)).toNat:=fun {v} hv=>⟨by unfold InI;omega,⟨j+1,by omega,by omega,ho.set (by rw[if_pos (by omega),hv]) fun q hq hne=>by
  by_cases hqj:q<j
  ·rw[if_pos hqj,if_pos (by omega)]
  ·rw[if_neg hqj,if_neg (by omega)]⟩,by omega⟩
 refine Cnd.mk (fun ht=>⟨by omega,fun w hw=>⟨by omega,fun u hu=>step ?_⟩⟩) fun hf=>⟨by omega,fun w hw=>step (by rw[←hzf,Bool.eq_false_iff.2 hf];rfl)⟩
 have hw:y[j]? =some w:=hw
 have hwf:=hy.get hw
 rw[←hwf,←hzf,ht]
 cases w<;>rfl
theorem z1e{a:List Spn}{K:List Spn->Prop}(ha:a.length<=1000000)(h: ∀l,IsS l (fun q=>insV a q=true)->K l):q5n a K:=by
 unfold q5n z0m
 refine Ug ha fun x hx=>Hz hx fun l hl=>h l ⟨hl.1,fun q=>by
  rw[hl.2 q]
  constructor
  ·rintro⟨h1,h2⟩;rw[Int.toNat_of_nonneg h1.1] at h2;exact⟨h1,h2⟩
  ·rintro⟨h1,h2⟩;refine⟨h1,?_⟩;simp only;rw[Int.toNat_of_nonneg h1.1];exact h2⟩
def Cvr(c:Col)(q:Int):Prop:=c.1<=q/\q<c.2
structure UAt(u:List Int)(l:List Col)(now:Int):Prop where
 len:u.length=10000
 lo: ∀(q:Nat) x,u[q]? =some x->now<=x
 at_: ∀(q:Nat) x t,u[q]? =some x->now<t->(t<=x↔ ∃c∈l,Cvr c (q:Int)/\t<=c.3)
theorem Gc{l:List Col}{now:Int}{K:List Int->Prop}(hl:l.length<=1000000)(h: ∀u,UAt u l now->K u):Z3 l now K:=by
 unfold Z3
 refine⟨⟨by decide,by decide,by unfold Sml;decide⟩,?_⟩
 refine Lp2.ind (fun (i:Int) (u:List Int)=> ∃j:Nat,i=(j:Int)/\j<=10000/\u.length=10000/\ ∀q,q<j->u[q]? =some now) (fun i _=>(10000 - i).toNat) ?_ ⟨0,rfl,by omega,List.length_replicate,fun q hq=>by omega⟩
 rintro i u ⟨j,rfl,hj,hu,hq⟩ _
 refine Cnd.mk (fun hc=>⟨by omega,fun y hy=>⟨by unfold InI;omega,⟨j+1,by omega,by omega,by rw[List.length_set];exact hu,fun q hqj=> ?_⟩,by omega⟩⟩) fun hc=> ?_
 ·show (u.set j now)[q]? =some now
  by_cases e:j=q
  ·subst e;rw[List.getElem?_set_self (by omega)]
  ·rw[List.getElem?_set_ne e];exact hq q (by omega)
 have u0:UAt u (l.take 0) now:=⟨hu,fun q x hx=>by
  have hlt:=Qe hx
  rw[hq q (by omega)] at hx;cases hx;exact Int.le_refl _,fun q x t hx ht=>by
  have hlt:=Qe hx
  rw[hq q (by omega)] at hx;cases hx
  exact⟨fun k=>by omega,fun ⟨c,hc,_⟩=>by simp at hc⟩⟩
 refine Lp2.ind (fun (i:Int) (u:List Int)=> ∃j:Nat,i=(j:Int)/\j<=l.length/\UAt u (l.take j) now) (fun i _=>(l.length - i).toNat) ?_ ⟨0,rfl,by omega,u0⟩
 rintro i u ⟨j,rfl,hj,hu⟩ _
 refine Cnd.mk (fun hc=>⟨by omega,fun c hcj=> ?_⟩) fun hc=>h u (by rw[List.take_of_length_le (by omega)] at hu;exact hu)
 have hcj:l[j]? =some c:=hcj
 have tk:l.take (j+1)=l.take j++[c]:=by rw[List.take_add_one,hcj];rfl
 have atc: ∀{p:Col->Prop},p c->At l (j:Int) p:=fun hp=>⟨by omega,fun y hy=>by
  have hy:l[j]? =some y:=hy
  rw[hcj] at hy;cases hy;exact hp⟩
 refine Lp2.ind (fun (k:Int) (w:List Int)=>max c.1 0<=k/\w.length=10000/\(∀(q:Nat) x,w[q]? =some x->now<=x)/\ ∀(q:Nat) x t,w[q]? =some x->now<t->(t<=x↔(∃d∈l.take j,Cvr d (q:Int)/\t<=d.3)∨(Cvr c (q:Int)/\(q:Int)<k/\t<=c.3))) (fun k _=>(10000 - k).toNat) ?_ ⟨by omega,hu.len,hu.lo,fun q x t hx ht=> ?_⟩
 rotate_left
 ·rw[hu.at_ q x t hx ht]
  exact⟨.inl,fun o=>o.elim id fun ⟨⟨a,b⟩,k,_⟩=>by omega⟩
 rintro k w ⟨hk,hw,hlo,hat⟩
 refine atc (Cnd.mk (fun hc2=> ?_) fun hc2=>⟨by unfold InI;omega,⟨j+1,by omega,by omega,hw,hlo,fun q x t hx ht=> ?_⟩,by omega⟩)
 ·have hk0:0<=k:=by omega
  have hk1:k<10000:=by omega
  refine⟨by omega,fun y9 h9=>atc ⟨by omega,fun y13 _=>⟨by unfold InI;omega,⟨by omega,by rw[List.length_set];exact hw,fun q x hx=> ?_,fun q x t hx ht=> ?_⟩,by omega⟩⟩⟩
  ·by_cases e:k.toNat=q
   ·subst e
    rw[List.getElem?_set_self (by omega)] at hx
    cases hx
    have:=hlo _ _ h9;omega
   ·rw[List.getElem?_set_ne e] at hx;exact hlo q x hx
  ·by_cases e:k.toNat=q
   ·subst e
    rw[List.getElem?_set_self (by omega)] at hx
    cases hx
    have hkk:((k.toNat:Nat):Int)=k:=Int.toNat_of_nonneg hk0
    have hcv:Cvr c ((k.toNat:Nat):Int):=by rw[hkk];exact⟨by omega,by omega⟩
    have h1:=hat _ _ t h9 ht
    constructor
    ·intro hm
     rcases Int.le_total c.3 y9 with q|q
     ·exact (h1.1 (by omega)).imp id fun z=>⟨z.1,by omega,z.2.2⟩
     ·by_cases h3:t<=c.3
      ·exact .inr ⟨hcv,by omega,h3⟩
      ·omega
    ·rintro (z|⟨_,_,z⟩)
     ·have:=h1.2 (.inl z);omega
     ·omega
   ·rw[List.getElem?_set_ne e] at hx
    rw[hat q x t hx ht]
    exact or_congr Iff.rfl ⟨fun ⟨a,b,d⟩=>⟨a,by omega,d⟩,fun ⟨a,b,d⟩=>⟨a,by omega,d⟩⟩
 ·have hqlt:=Qe hx
  rw[hat q x t hx ht,tk]
  constructor
  ·rintro (⟨d,hd,z⟩|⟨z,_,z3⟩)
   ·exact⟨d,List.mem_append_left _ hd,z⟩
   ·exact⟨c,List.mem_append_right _ (List.mem_singleton.2 rfl),z,z3⟩
  ·rintro⟨d,hd,z,z3⟩
   rcases List.mem_append.1 hd with hd|hd
   ·exact .inl ⟨d,hd,z,z3⟩
   ·rw[List.mem_singleton.1 hd] at z z3
    have z1:=z.1
    have z2:=z.2
    exact .inr ⟨z,by omega,z3⟩
theorem j3k{u:List Int}{l:List Col}{now:Int}{K:List Spn->Prop}(hu:UAt u l now)(h: ∀s,IsS s (fun q=> ∃c∈l,Cvr c q/\now<c.3)->K s):Un u now K:=by
 unfold Un q7y
 have hl:=hu.len
 refine fun _=>⟨⟨by omega,by omega,by unfold Sml;omega⟩,?_⟩
 refine Lp2.ind (fun (i:Int) (o:List Bool)=> ∃j:Nat,i=(j:Int)/\j<=10000/\o.length=10000/\ ∀(q:Nat) y b,q<j->u[q]? =some y->o[q]? =some b->b=decide (now<y)) (fun i _=>(10000 - i).toNat) ?_ ⟨0,rfl,by omega,by rw[List.length_replicate,Int.toNat_natCast];exact hl,fun q y b hq=>by omega⟩
 rintro i o ⟨j,rfl,hj,ho,hq⟩ _
 refine Cnd.mk (fun hc=>⟨by omega,fun y hy=>⟨by omega,fun z _=>⟨by unfold InI;omega,⟨j+1,by omega,by omega,by rw[List.length_set];exact ho,fun q y' b hqj hy' hb=> ?_⟩,by omega⟩⟩⟩) fun hc=> ?_
 ·have hy:u[j]? =some y:=hy
  have hb:(o.set j (decide (now<y)))[q]? =some b:=hb
  by_cases e:j=q
  ·subst e
   rw[List.getElem?_set_self (by omega)] at hb
   rw[hy] at hy';cases hy'
   exact (Option.some.inj hb).symm
  ·rw[List.getElem?_set_ne e] at hb
   exact hq q y' b (by omega) hy' hb
 ·let f:Nat->Bool:=fun q=>decide (now<u.getD q 0)
  have hb:BAt o f:=⟨ho,fun q hq2=>by
   obtain⟨y,hy⟩: ∃y,u[q]? =some y:=⟨_,List.getElem?_eq_getElem (by omega)⟩
   obtain⟨b,hb⟩: ∃b,o[q]? =some b:=⟨_,List.getElem?_eq_getElem (by omega)⟩
   rw[hb,hq q y b (by omega) hy hb]
   show _=some (decide (now<u.getD q 0))
   rw[List.getD_eq_getElem?_getD,hy];rfl⟩
  refine Hz hb fun s hs=>h s ⟨hs.1,fun q=> ?_⟩
  rw[hs.2 q]
  refine and_congr_right fun hq2=> ?_
  obtain⟨y,hy⟩: ∃y,u[q.toNat]? =some y:=⟨_,List.getElem?_eq_getElem (by omega)⟩
  show decide (now<u.getD q.toNat 0)=true↔_
  rw[List.getD_eq_getElem?_getD,hy,decide_eq_true_eq]
  show now<y↔_
  have:=hu.at_ q.toNat y (now+1) hy (by omega)
  rw[Int.toNat_of_nonneg hq2.1] at this
  exact⟨fun k=>by obtain⟨c,a,b,d⟩:=this.1 (by omega);exact⟨c,a,b,by omega⟩,fun ⟨c,a,b,d⟩=>by have:=this.2 ⟨c,a,b,by omega⟩;omega⟩
theorem v1d(s:List Spn)(a b q:Int):insV (s++[Spn.mk a b]) q=true↔insV s q=true∨(a<=q/\q<b):=by
 rw[q1k,Bool.or_eq_true,q5x (l:=[Spn.mk a b])]
 exact or_congr Iff.rfl ⟨fun ⟨r,hr,k⟩=>by rw[List.mem_singleton.1 hr] at k;exact k,fun k=>⟨_,List.mem_singleton.2 rfl,k⟩⟩
theorem j2p{l:List Col}{t:Col->Prop}[DecidablePred t]{K:List Spn->Prop}(hl:l.length<=1000000)(h: ∀s,s.length<=l.length->(∀q,insV s q=true↔ ∃c∈l,Cvr c q/\t c)->K s):
  Lp2 (fun (Qd:List Spn) (Q5:Int) q9s=>CAt l Q5 (fun y2=>Cnd (t y2) (Sml (Qd++[Spn.mk y2.1 y2.2]).length/\InI (Q5+1)/\q9s (Qd++[Spn.mk y2.1 y2.2]) (Q5+1)) (InI (Q5+1)/\q9s Qd (Q5+1))) (K Qd)) [] (0:Int):=by
 refine Lp2.ind (fun (s:List Spn) (i:Int)=> ∃j:Nat,i=(j:Int)/\j<=l.length/\s.length<=j/\ ∀q,insV s q=true↔ ∃c∈l.take j,Cvr c q/\t c) (fun _ (i:Int)=>(l.length - i).toNat) ?_ ⟨0,rfl,by omega,by simp,fun q=>by simp[insV]⟩
 rintro s i ⟨j,rfl,hj,hs,hq⟩
 refine Cnd.mk (fun hc=>⟨by omega,fun c hcj=> ?_⟩) fun hc=>h s (by omega) fun q=>by rw[hq q,List.take_of_length_le (by omega)]
 have hcj:l[j]? =some c:=hcj
 have tk:l.take (j+1)=l.take j++[c]:=by rw[List.take_add_one,hcj];rfl
 refine Cnd.mk (fun ht=>⟨by unfold Sml;simp;omega,by unfold InI;omega,⟨j+1,by omega,by omega,by simp;omega,fun q=> ?_⟩,by omega⟩) fun ht=>⟨by unfold InI;omega,⟨j+1,by omega,by omega,by omega,fun q=> ?_⟩,by omega⟩
 ·rw[v1d,hq q,tk]
  constructor
  ·rintro (⟨d,hd,z⟩|z)
   ·exact⟨d,List.mem_append_left _ hd,z⟩
   ·exact⟨c,List.mem_append_right _ (List.mem_singleton.2 rfl),z,ht⟩
  ·rintro⟨d,hd,z⟩
   rcases List.mem_append.1 hd with hd|hd
   ·exact .inl ⟨d,hd,z⟩
   ·rw[List.mem_singleton.1 hd] at z;exact .inr z.1
 ·rw[hq q,tk]
  constructor
  ·rintro⟨d,hd,z⟩;exact⟨d,List.mem_append_left _ hd,z⟩
  ·rintro⟨d,hd,z⟩
   rcases List.mem_append.1 hd with hd|hd
   ·exact⟨d,hd,z⟩
   ·rw[List.mem_singleton.1 hd] at z;exact absurd z.2 ht
theorem w40{l:Lay_}{now:Int}{K:List Spn->Prop}(hl:l.6.length<=1000000)(h: ∀s,s.length<=1000000->(∀q,insV s q=true↔ ∃c∈l.6,Cvr c q/\now<c.3)->K s):J7 l now K:=by
 unfold J7
 exact fun _=>j2p (t:=fun c=>now<c.3) hl fun s hs hq=>h s (by omega) hq
end Go.En
end
noncomputable section
set_option maxRecDepth 100000
namespace Go.En
open Go Go.Fl Go.Fl.Lk Go.Fx
def runE(v:Envt)(key:ByteArray):Option Exper:=(xof v key).bind fun x=>if x.5=2 then some x else none
theorem q7l{v:Envt}{key:ByteArray}{x:Exper}:runE v key=some x↔xof v key=some x/\x.5=2:=by
 unfold runE
 cases h:xof v key with
 |none=>simp
 |some y=>
  by_cases h2:y.5=2
  ·simp[h2];rintro rfl;exact h2
  ·simp[h2];rintro rfl;exact h2
theorem j2q{v:Envt}{key:ByteArray}(h: ∀x,xof v key=some x->x.5≠2):runE v key=none:=by
 cases h2:runE v key with
 |none=>rfl
 |some x=>exact absurd (q7l.1 h2).2 (h x (q7l.1 h2).1)
abbrev NdX(v:Envt):Prop:=(v.6.map Exper.key).Nodup
theorem w1e{v:Envt}{key:ByteArray}{x:Exper}(hd:NdX v)(hx:x∈v.6)(hk:x.1=key):xof v key=some x:=by
 unfold xof
 cases h:v.6.find? fun x=>decide (x.1=key) with
 |none=>exact absurd hk (by have:=List.find?_eq_none.1 h x hx;simpa using this)
 |some y=>
  have hy:=List.mem_of_find?_eq_some h
  have hyk:y.1=key:=by have:=List.find?_some h;simpa using this
  obtain⟨i,hi⟩:=List.mem_iff_getElem?.1 hx
  obtain⟨j,hj⟩:=List.mem_iff_getElem?.1 hy
  have e1:(v.6.map Exper.key)[i]? =some key:=by rw[List.getElem?_map,hi];exact congrArg some hk
  have e2:(v.6.map Exper.key)[j]? =some key:=by rw[List.getElem?_map,hj];exact congrArg some hyk
  have:i=j:=(List.getElem?_inj (Qe e1) hd).1 (e1.trans e2.symm)
  subst this
  rw[hi] at hj
  exact hj.symm
theorem j4q{v:Envt}{key:ByteArray}{x:Exper}(h:xof v key=some x):x∈v.6/\x.1=key:=⟨List.mem_of_find?_eq_some h,by have:=List.find?_some h;simpa using this⟩
theorem z97{v:Envt}{key:ByteArray}{K:Exper->Bool->Prop}(hn:v.6.length<=1000)(hd:NdX v)(h0:runE v key=none-> ∀x:Exper,x.6=[]->K x false)(h1: ∀x,runE v key=some x->K x true):W1 v key K:=by
 unfold W1
 intro _
 refine LpH.ind (fun x=> ∃j:Nat,x.1=(j:Int)/\j<=v.6.length/\ ∀y∈v.6.take j,y.1=key->y.5≠2) (fun x=>((v.6.length:Int) - x.1).toNat) ?_ ⟨0,rfl,by omega,by simp⟩
 rintro⟨i,x⟩ ⟨j,hi,hj,hno⟩
 dsimp only at hi⊢
 subst hi
 refine Cnd.mk (fun hc=>⟨by omega,fun y hy=> ?_⟩) fun hc=> ?_
 ·have hy:v.6[j]? =some y:=hy
  have tk:v.6.take (j+1)=v.6.take j++[y]:=by rw[List.take_add_one,hy];rfl
  have nx: ¬(y.1=key/\y.5=2)->InI ((j:Int)+1)/\(∃j':Nat,(j:Int)+1=(j':Int)/\j'<=v.6.length/\ ∀y∈v.6.take j',y.1=key->y.5≠2)/\(v.6.length - ((j:Int)+1)).toNat<(v.6.length - (j:Int)).toNat:=fun hn2=>⟨by unfold InI;omega,⟨j+1,by omega,by omega,fun z hz hk=>by
   rw[tk] at hz
   rcases List.mem_append.1 hz with hz|hz
   ·exact hno z hz hk
   ·rw[List.mem_singleton.1 hz] at hk⊢;exact fun h2=>hn2 ⟨hk,h2⟩⟩,by omega⟩
  refine Cnd.mk (fun hk=>Cnd.mk (fun h2=> ?_) fun h2=>nx fun q=>h2 q.2) fun hk=>nx fun q=>hk q.1
  rw[Zd]
  exact h1 y (q7l.2 ⟨w1e hd (getm hy) hk,h2⟩)
 ·rw[List.take_of_length_le (by omega)] at hno
  exact h0 (j2q fun x hx=>hno x (j4q hx).1 (j4q hx).2) _ rfl
theorem z98{v:Envt}{key:ByteArray}{K:Exper->Bool->Prop}(hn:v.6.length<=1000)(h0:runE v key=none-> ∀x:Exper,x.6=[]->K x false)(h1: ∀x,runE v key=some x->K x true):Us v key K:=by
 unfold Us q8g
 refine Rx (v:=v) hn (fun hno=>Cnd.yes (by decide) (h0 (j2q fun x hx=>by rw[hno] at hx;cases hx) _ rfl)) fun j x hj hx=>Cnd.no (by omega) ?_
 have hlt:=Qe hj
 have atx: ∀{p:Exper->Prop},p x->At v.6 (j:Int) p:=fun hp=>⟨by omega,fun y hy=>by
  have hy:v.6[j]? =some y:=hy
  rw[hj] at hy;cases hy;exact hp⟩
 refine atx (Cnd.mk (fun h2=>atx ?_) fun h2=>h0 (j2q fun y hy=>by rw[hx] at hy;cases hy;exact h2) _ rfl)
 rw[Zd]
 exact h1 x (q7l.2 ⟨hx,h2⟩)
theorem j83{v:Envt}{key:ByteArray}{K:Int->Prop}(hn:v.5.length<=1000)(h0:lof v key=none->K (-1))(h1: ∀(j:Nat) l,v.5[j]? =some l->lof v key=some l->K (j:Int)):We v key K:=by
 unfold We
 exact fun _=>srch (fun l:Lay_=>decide (l.1=key)) (by omega) h0 fun i y Y hy _ hp hq=>Cnd.mk (fun he=>h1 i y hy (hp (dt he))) fun he=>hq (df he)
theorem w1f{v:Envt}{key:ByteArray}{K:Int->Prop}(hn:v.4.length<=1000)(h0:(v.4.find? fun f=>decide (f.1=key))=none->K (-1))(h1: ∀(j:Nat) g,v.4[j]? =some g->(v.4.find? fun f=>decide (f.1=key))=some g->K (j:Int)):Gu v key K:=by
 unfold Gu
 exact j8u (fun l:Flg=>decide (l.1=key)) (by omega) h0 fun i y Y hy _ hp hq=>Cnd.mk (fun he=>h1 i y hy (hp (dt he))) fun he=>hq (df he)
def fofE(v:Envt)(key:ByteArray):Option Flg:=v.4.find? fun f=>decide (f.1=key)
theorem v4l{v:Envt}{key:ByteArray}{K:Flg->Bool->Prop}(hn:v.4.length<=1000)(h0:fofE v key=none-> ∀f,K f false)(h1: ∀f,fofE v key=some f->K f true):q1t v key K:=by
 unfold q1t
 refine fun _=>srch (fun l:Flg=>decide (l.1=key)) (by omega) (fun hno=>Cnd.yes (by decide) (h0 hno _)) fun i y Y hy hi hp hq=>Cnd.mk (fun he=>Cnd.no (by omega) ⟨by omega,fun z hz=> ?_⟩) fun he=>hq (df he)
 have hz:v.4[i]? =some z:=hz
 rw[hy] at hz;cases hz
 exact h1 y (hp (dt he))
structure Kpt(b a:Envt)(x y:Exper):Prop where
 ly:x.2=y.2
 fl:x.3=y.3
 sa:x.4=y.4
 ar:x.7=y.7
 cd:x.8=y.8
 cl: ∀q,0<=q->q<10000->insV x.6 q=true->insV y.6 q=true
 lay: ∃l m,lof b x.2=some l/\lof a x.2=some m/\l.2=m.2/\l.3=m.3
 flg: ∃f g,fofE b x.3=some f/\fofE a x.3=some g/\f.2=g.2/\f.3=g.3
structure EnvL(v:Envt):Prop where
 f:v.4.length<=1000
 l:v.5.length<=1000
 x:v.6.length<=1000
 cl: ∀x∈v.6,x.6.length<=1000000/\x.7.length<=1000000
 co: ∀l∈v.5,l.6.length<=1000000
 va: ∀f∈v.4,f.3.length<=1000000
theorem z8i{α:Type}{a b:List α}(hl:a.length=b.length)(h: ∀(i:Nat) x y,a[i]? =some x->b[i]? =some y->x=y):a=b:=by
 refine List.ext_getElem? fun i=> ?_
 rcases Nat.lt_or_ge i a.length with hi|hi
 ·obtain⟨x,hx⟩:=getq (l:=a) (k:=i) hi
  obtain⟨y,hy⟩:=getq (l:=b) (k:=i) (by omega)
  rw[hx,hy,h i x y hx hy]
 ·rw[List.getElem?_eq_none hi,List.getElem?_eq_none (by omega)]
theorem w41{b a:Envt}{x y:Exper}{K:Bool->Prop}(hb:EnvL b)(ha:EnvL a)(hx:x.6.length<=1000000/\x.7.length<=1000000)(h: ∀r,(r=true↔Kpt b a x y)->K r):Uq b a x y K:=by
 unfold Uq Ru
 have no: ∀{p:Prop},(Kpt b a x y->p)-> ¬p->K false:=fun f hp=>h false ⟨fun q=>by (cases q),fun q=>absurd (f q) hp⟩
 refine Cnd.mk (fun e2=>Cnd.mk (fun e3=>Cnd.mk (fun e4 _ _=>Cnd.mk (fun el _=> ?_) fun hn=>no (fun q=>by rw[q.ar]) hn) fun hn=>no (fun q=>q.sa) hn) fun hn=>no (fun q=>q.fl) hn) fun hn=>no (fun q=>q.ly) hn
 have hlen:x.7.length=y.7.length:=by omega
 refine Lp1.ind (fun (i:Int)=> ∃j:Nat,i=(j:Int)/\j<=x.7.length/\ ∀(k:Nat) p q,k<j->x.7[k]? =some p->y.7[k]? =some q->p=q) (fun (i:Int)=>(x.7.length - i).toNat) ?_ ⟨0,rfl,by omega,fun k p q hk=>by omega⟩
 rintro i ⟨j,rfl,hj,hsm⟩
 refine Cnd.mk (fun hc=>⟨by omega,fun p hp=>⟨by omega,fun q hq=>Cnd.mk (fun he=>⟨by unfold InI;omega,⟨j+1,by omega,by omega,fun k p' q' hk hp' hq'=> ?_⟩,by omega⟩) fun hn=>no (fun z=> ?_) hn⟩⟩) fun hc=> ?_
 ·have hp:x.7[j]? =some p:=hp
  have hq:y.7[j]? =some q:=hq
  by_cases e:k=j
  ·subst e
   rw[hp] at hp';rw[hq] at hq'
   cases hp';cases hq'
   obtain⟨p1,p2,p3⟩:=p
   obtain⟨q1,q2,q3⟩:=q
   obtain⟨r1,r2,r3⟩:=he
   simp only at r1 r2 r3
   rw[r1,r2,r3]
  ·exact hsm k p' q' (by omega) hp' hq'
 ·have hp:x.7[j]? =some p:=hp
  have hq:y.7[j]? =some q:=hq
  rw[z.ar,hq] at hp
  cases hp
  exact⟨rfl,rfl,rfl⟩
 have e7:x.7=y.7:=z8i hlen fun k p q hp hq=>hsm k p q (by have:=Qe hp;omega) hp hq
 rw[Zd,Zd]
 refine j8s _ (Nat.le_refl _) fun r hr=>Cnd.mk (fun hrt=> ?_) fun hrf=>no (fun z=>hr.2 z.cd) hrf
 have e8:=hr.1 hrt
 refine j82 fun s hs _=>Cnd.mk (fun hpos=>no (fun z=> ?_) (show ¬False from id)) fun hnp=> ?_
 ·obtain⟨q,q0,q1,h1,h2⟩:=hs.2.1 (by omega)
  exact h2 (z.cl q q0 q1 h1)
 have ecl: ∀q,0<=q->q<10000->insV x.6 q=true->insV y.6 q=true:=fun q q0 q1 h1=>Classical.byContradiction fun h2=>hnp (by have:=hs.2.2 ⟨q,q0,q1,h1,h2⟩;omega)
 refine j83 (v:=b) hb.l (fun hnb=>j83 (v:=a) ha.l (fun _=>Cnd.yes (by decide) (no (fun z=>z.lay) fun ⟨l,m,q,_⟩=>by rw[hnb] at q;cases q)) fun j m hm hlm=>Cnd.yes (by decide) (no (fun z=>z.lay) fun ⟨l,m,q,_⟩=>by rw[hnb] at q;cases q)) fun j l hl hlo=> ?_
 refine j83 (v:=a) ha.l (fun hna=>Cnd.no (by omega) (Cnd.yes (by decide) (no (fun z=>z.lay) fun ⟨l,m,_,q,_⟩=>by rw[hna] at q;cases q))) fun k m hm hmo=> ?_
 have hjl:=Qe hl
 have hkl:=Qe hm
 have atl: ∀{p:Lay_->Prop},p l->At b.5 (j:Int) p:=fun hp=>⟨by omega,fun z hz=>by
  have hz:b.5[j]? =some z:=hz
  rw[hl] at hz;cases hz;exact hp⟩
 have atm: ∀{p:Lay_->Prop},p m->At a.5 (k:Int) p:=fun hp=>⟨by omega,fun z hz=>by
  have hz:a.5[k]? =some z:=hz
  rw[hm] at hz;cases hz;exact hp⟩
 refine Cnd.no (by omega) (Cnd.no (by omega) (atl (atm (Cnd.mk (fun k2=>atl (atm (Cnd.mk (fun k3=> ?_) fun hn=>no (fun z=> ?_) hn))) fun hn=>no (fun z=> ?_) hn))))
 rotate_left
 ·obtain⟨l',m',q1,q2,_,q4⟩:=z.lay
  rw[hlo] at q1;rw[hmo] at q2;cases q1;cases q2;exact q4
 ·obtain⟨l',m',q1,q2,q3,_⟩:=z.lay
  rw[hlo] at q1;rw[hmo] at q2;cases q1;cases q2;exact q3
 refine v4l (v:=b) hb.f (fun hnb f=>v4l (v:=a) ha.f (fun _ g=>Cnd.no (by decide) (no (fun z=>z.flg) fun ⟨f,g,q,_⟩=>by rw[hnb] at q;cases q)) fun g _=>Cnd.no (by decide) (no (fun z=>z.flg) fun ⟨f,g,q,_⟩=>by rw[hnb] at q;cases q)) fun f hfo=> ?_
 refine v4l (v:=a) ha.f (fun hna g=>Cnd.yes rfl (Cnd.no (by decide) (no (fun z=>z.flg) fun ⟨f,g,_,q,_⟩=>by rw[hna] at q;cases q))) fun g hgo=>Cnd.yes rfl (Cnd.yes rfl (Cnd.mk (fun g2 _ _=> ?_) fun hn=>no (fun z=> ?_) hn))
 rotate_left
 ·obtain⟨f',g',q1,q2,q3,_⟩:=z.flg
  rw[hfo] at q1;rw[hgo] at q2;cases q1;cases q2;exact q3
 have fin: ∀{r:Bool},(r=true↔f.3=g.3)->K r:=fun {r} hr=>h r (hr.trans ⟨fun e=>⟨e2,e3,e4,e7,e8,ecl,⟨l,m,hlo,hmo,k2,k3⟩,⟨f,g,hfo,hgo,g2,e⟩⟩,fun z=>by
  obtain⟨f',g',q1,q2,_,q4⟩:=z.flg
  rw[hfo] at q1;rw[hgo] at q2;cases q1;cases q2;exact q4⟩)
 have hfl:=hb.va f (List.mem_of_find?_eq_some hfo)
 refine Cnd.mk (fun el2 _=> ?_) fun hn=>fin ⟨fun q=>by (cases q),fun q=>absurd (by rw[q]) hn⟩
 refine Lp1.ind (fun (i:Int)=> ∃j:Nat,i=(j:Int)/\j<=f.3.length/\ ∀(k:Nat) p q,k<j->f.3[k]? =some p->g.3[k]? =some q->p=q) (fun (i:Int)=>(f.3.length - i).toNat) ?_ ⟨0,rfl,by omega,fun k p q hk=>by omega⟩
 rintro i ⟨n,rfl,hn,hsm⟩
 refine Cnd.mk (fun hc=>⟨by omega,fun p hp=>⟨by omega,fun q hq=>z6a fun r hr=>Cnd.mk (fun hrt=>⟨by unfold InI;omega,⟨n+1,by omega,by omega,fun k p' q' hk hp' hq'=> ?_⟩,by omega⟩) fun hrf=>fin ⟨fun q=>by (cases q),fun z=>absurd (hr.2 ?_) hrf⟩⟩⟩) fun hc=>fin ⟨fun _=>z8i (by omega) fun k p q hp hq=>hsm k p q (by have:=Qe hp;omega) hp hq,fun _=>rfl⟩
 ·have hp:f.3[n]? =some p:=hp
  have hq:g.3[n]? =some q:=hq
  by_cases e:k=n
  ·subst e
   rw[hp] at hp';rw[hq] at hq'
   cases hp';cases hq'
   exact hr.1 hrt
  ·exact hsm k p' q' (by omega) hp' hq'
 ·have hp:f.3[n]? =some p:=hp
  have hq:g.3[n]? =some q:=hq
  rw[z,hq] at hp
  exact (Option.some.inj hp).symm
theorem z9n{a b:List Rng}{K:Bool->Prop}(ha:a.length<=1000000)(h: ∀r,(r=true↔a=b)->K r):B2 a b K:=by
 unfold B2
 refine fun _ _=>Cnd.mk (fun el=> ?_) fun hn=>h false ⟨fun q=>by (cases q),fun q=>absurd (by rw[q]) hn⟩
 refine Lp1.ind (fun (i:Int)=> ∃j:Nat,i=(j:Int)/\j<=a.length/\ ∀(k:Nat) p q,k<j->a[k]? =some p->b[k]? =some q->p=q) (fun (i:Int)=>(a.length - i).toNat) ?_ ⟨0,rfl,by omega,fun k p q hk=>by omega⟩
 rintro i ⟨n,rfl,hn,hsm⟩ _
 refine Cnd.mk (fun hc=>⟨by omega,fun p hp=>⟨by omega,fun q hq=>Cnd.mk (fun he=>⟨by unfold InI;omega,⟨n+1,by omega,by omega,fun k p' q' hk hp' hq'=> ?_⟩,by omega⟩) fun hne=>h false ⟨fun q=>by (cases q),fun z=>absurd ?_ hne⟩⟩⟩) fun hc=>h true ⟨fun _=>z8i (by omega) fun k p q hp hq=>hsm k p q (by have:=Qe hp;omega) hp hq,fun _=>rfl⟩
 ·have hp:a[n]? =some p:=hp
  have hq:b[n]? =some q:=hq
  by_cases e:k=n
  ·subst e
   rw[hp] at hp';rw[hq] at hq'
   cases hp';cases hq'
   obtain⟨p1,p2,p3⟩:=p
   obtain⟨q1,q2,q3⟩:=q
   obtain⟨r1,r2,r3⟩:=he
   simp only at r1 r2 r3
   rw[r1,r2,r3]
  ·exact hsm k p' q' (by omega) hp' hq'
 ·have hp:a[n]? =some p:=hp
  have hq:b[n]? =some q:=hq
  rw[z,hq] at hp
  cases hp
  exact⟨rfl,rfl,rfl⟩
end Go.En
end
noncomputable section
set_option maxRecDepth 100000
namespace Go.En
open Go Go.Fl Go.Fl.Lk Go.Fx
theorem j3l: ∀(n:Nat) {a b:Ex} {K:Bool->Prop},wt a<=n->(∀r,(r=true↔a=b)->K r)->Uk a b K:=by
 intro n a b K ha h X hX
 induction n generalizing a b K with
 |zero=>have:=v17 a;omega
 |succ n ih=>
 refine hX _ _ _ ?_
 unfold q3a
 have no:(a≠b)->K false:=fun hn=>h _ ⟨fun h=>(by cases h),fun e=>absurd e hn⟩
 refine Cnd.mk (fun h1=>Cnd.mk (fun h2=>Cnd.mk (fun h3=>q2w fun r hr=>Cnd.mk (fun hc _ _=>Cnd.mk (fun hl=> ?_) fun h=>no fun e=>h (by rw[e])) fun hc=>no fun e=>hc (hr.2 (by rw[e]))) fun h=>no fun e=>h (by rw[e])) fun h=>no fun e=>h (by rw[e])) fun h=>no fun e=>h (by rw[e])
 have h4:=hr.1 hc
 refine z8b (by omega) (fun x hx y _ K hK=> ?_) fun r hr=>h r (hr.trans ⟨fun h5=> ?_,fun e=>by rw[e]⟩)
 ·rw[Zd,Zd]
  exact ih (by have:=v18 hx;omega) hK
 ·cases a;cases b;simp_all
theorem w1g{b a:Envt}{x y:Exper}{K:Int->Prop}(hb:EnvL b)(ha:EnvL a)(hx:x.6.length<=1000000/\x.7.length<=1000000)(hy:y.6.length<=1000000)(h: ∀e,(e=0↔Kpt b a x y)->(e≠0->e=25)->K e):z2a b a x y K:=by
 unfold z2a z7k
 have no: ∀{p:Prop},(Kpt b a x y->p)-> ¬p->K 25:=fun f hp=>h 25 ⟨fun q=>absurd q (by decide),fun q=>absurd (f q) hp⟩ fun _=>rfl
 refine Cnd.mk (fun e2=>Cnd.mk (fun e3=>Cnd.mk (fun e4=>z9n hx.2 fun r hr=>Cnd.mk (fun hrt=> ?_) fun hrf=>no (fun q=>hr.2 q.ar) hrf) fun hn=>no (fun q=>q.sa) hn) fun hn=>no (fun q=>q.fl) hn) fun hn=>no (fun q=>q.ly) hn
 have e7:=hr.1 hrt
 rw[Zd,Zd]
 refine j3l _ (Nat.le_refl _) fun r hr=>Cnd.mk (fun hrt=> ?_) fun hrf=>no (fun z=>hr.2 z.cd) hrf
 have e8:=hr.1 hrt
 refine z3m hx.1 hy fun s hs _=> ?_
 have hs:=hs.toP
 refine Cnd.mk (fun hpos=>no (fun z=> ?_) (show ¬False from id)) fun hnp=> ?_
 ·obtain⟨q,q0,q1,h1,h2⟩:=hs.2.1 (by omega)
  exact h2 (z.cl q q0 q1 h1)
 have ecl: ∀q,0<=q->q<10000->insV x.6 q=true->insV y.6 q=true:=fun q q0 q1 h1=>Classical.byContradiction fun h2=>hnp (by have:=hs.2.2 ⟨q,q0,q1,h1,h2⟩;omega)
 refine Vv (v:=b) hb.l (fun hnb=>Vv (v:=a) ha.l (fun _=>Cnd.yes (by decide) (no (fun z=>z.lay) fun ⟨l,m,q,_⟩=>by rw[hnb] at q;cases q)) fun j m hm hlm=>Cnd.yes (by decide) (no (fun z=>z.lay) fun ⟨l,m,q,_⟩=>by rw[hnb] at q;cases q)) fun j l hl hlo=> ?_
 refine Vv (v:=a) ha.l (fun hna=>Cnd.no (by omega) (Cnd.yes (by decide) (no (fun z=>z.lay) fun ⟨l,m,_,q,_⟩=>by rw[hna] at q;cases q))) fun k m hm hmo=> ?_
 have hjl:=Qe hl
 have hkl:=Qe hm
 have atl: ∀{p:Lay_->Prop},p l->At b.5 (j:Int) p:=fun hp=>⟨by omega,fun z hz=>by
  have hz:b.5[j]? =some z:=hz
  rw[hl] at hz;cases hz;exact hp⟩
 have atm: ∀{p:Lay_->Prop},p m->At a.5 (k:Int) p:=fun hp=>⟨by omega,fun z hz=>by
  have hz:a.5[k]? =some z:=hz
  rw[hm] at hz;cases hz;exact hp⟩
 refine Cnd.no (by omega) (Cnd.no (by omega) (atl (atm (Cnd.mk (fun k2=>atl (atm (Cnd.mk (fun k3=> ?_) fun hn=>no (fun z=> ?_) hn))) fun hn=>no (fun z=> ?_) hn))))
 rotate_left
 ·obtain⟨l',m',q1,q2,_,q4⟩:=z.lay
  rw[hlo] at q1;rw[hmo] at q2;cases q1;cases q2;exact q4
 ·obtain⟨l',m',q1,q2,q3,_⟩:=z.lay
  rw[hlo] at q1;rw[hmo] at q2;cases q1;cases q2;exact q3
 refine w1f (v:=b) hb.f (fun hnb=>w1f (v:=a) ha.f (fun _=>Cnd.yes (by decide) (no (fun z=>z.flg) fun ⟨f,g,q,_⟩=>by unfold fofE at q;rw[hnb] at q;cases q)) fun i g _ _=>Cnd.yes (by decide) (no (fun z=>z.flg) fun ⟨f,g,q,_⟩=>by unfold fofE at q;rw[hnb] at q;cases q)) fun i f hfi hfo=> ?_
 refine w1f (v:=a) ha.f (fun hna=>Cnd.no (by omega) (Cnd.yes (by decide) (no (fun z=>z.flg) fun ⟨f,g,_,q,_⟩=>by unfold fofE at q;rw[hna] at q;cases q))) fun i2 g hgi hgo=> ?_
 have hfl:=Qe hfi
 have hgl:=Qe hgi
 have atf: ∀{p:Flg->Prop},p f->At b.4 (i:Int) p:=fun hp=>⟨by omega,fun z hz=>by
  have hz:b.4[i]? =some z:=hz
  rw[hfi] at hz;cases hz;exact hp⟩
 have atg: ∀{p:Flg->Prop},p g->At a.4 (i2:Int) p:=fun hp=>⟨by omega,fun z hz=>by
  have hz:a.4[i2]? =some z:=hz
  rw[hgi] at hz;cases hz;exact hp⟩
 refine Cnd.no (by omega) (Cnd.no (by omega) (atf (atg (Cnd.mk (fun g2=>atf (atg (q2w fun r hr=>Cnd.mk (fun hrt=>h 0 ⟨fun _=>⟨e2,e3,e4,e7,e8,ecl,⟨l,m,hlo,hmo,k2,k3⟩,⟨f,g,hfo,hgo,g2,hr.1 hrt⟩⟩,fun _=>rfl⟩ fun q=>absurd rfl q) fun hrf=>no (fun z=> ?_) hrf))) fun hn=>no (fun z=> ?_) hn))))
 ·obtain⟨f',g',q1,q2,_,q4⟩:=z.flg
  unfold fofE at q1 q2
  rw[hfo] at q1;rw[hgo] at q2;cases q1;cases q2;exact hr.2 q4
 ·obtain⟨f',g',q1,q2,q3,_⟩:=z.flg
  unfold fofE at q1 q2
  rw[hfo] at q1;rw[hgo] at q2;cases q1;cases q2;exact q3
def Clm(b:Envt)(y:Exper)(q:Int):Prop:=insV y.6 q=true/\ ∀x,runE b y.1=some x->insV x.6 q≠true
def Ovl(b:Envt)(y:Exper)(n:Int)(v:Envt):Prop:= ∃l q,lof v y.2=some l/\0<=q/\q<10000/\Clm b y q/\ ∃c∈l.6,Cvr c q/\n<c.3
structure FrS(b a:Envt)(y:Exper)(n e:Int):Prop where
 st:(∃x,xof b y.1=some x/\x.5=3)->e=25
 ov: ¬(∃x,xof b y.1=some x/\x.5=3)->Ovl b y n b∨Ovl b y n a->e=14
 ok: ¬(∃x,xof b y.1=some x/\x.5=3)-> ¬(Ovl b y n b∨Ovl b y n a)->e=0
theorem FrS.uniq{b a:Envt}{y:Exper}{n e e':Int}(h:FrS b a y n e)(k:FrS b a y n e'):e=e':=by
 by_cases h1: ∃x,xof b y.1=some x/\x.5=3
 ·rw[h.st h1,k.st h1]
 ·by_cases h2:Ovl b y n b∨Ovl b y n a
  ·rw[h.ov h1 h2,k.ov h1 h2]
  ·rw[h.ok h1 h2,k.ok h1 h2]
theorem v6c{v:Envt}{k:ByteArray}{l:Lay_}(h:lof v k=some l):l∈v.5:=List.mem_of_find?_eq_some h
theorem tOne{b v:Envt}{y:Exper}{n:Int}{s:List Spn}{A B:Prop}(hv:EnvL v)(hs:IsP s (Clm b y))(hA:Ovl b y n v->A)(hB: ¬Ovl b y n v->B):
  We v y.2 fun Zx=>Cnd ((0:Int)<=Zx) (At v.5 Zx fun y9=>J7 y9 n fun J2=>Ve s J2 fun Qw=>Fits Qw->Cnd ((0:Int)<(↑Qw.length:Int)) A B) B:=by
 refine j83 hv.l (fun hno=>Cnd.no (by decide) (hB fun ⟨l,q,hl,_⟩=>by rw[hno] at hl;cases hl)) fun j l hl hlo=>Cnd.yes (by omega) ?_
 have hjl:=Qe hl
 refine⟨by omega,fun z hz=> ?_⟩
 have hz:v.5[j]? =some z:=hz
 rw[hl] at hz;cases hz
 refine w40 (hv.co l (getm hl)) fun p _ hp=>v4k fun c hc _=>Cnd.mk (fun hpos=> ?_) fun hnp=> ?_
 ·obtain⟨q,q0,q1,h1,h2⟩:=hc.2.1 (by omega)
  exact hA ⟨l,q,hlo,q0,q1,(hs.1 q q0 q1).1 h1,(hp q).1 h2⟩
 ·refine hB fun ⟨l',q,hl',q0,q1,h1,h2⟩=>hnp ?_
  rw[hlo] at hl';cases hl'
  have:=hc.2.2 ⟨q,q0,q1,(hs.1 q q0 q1).2 h1,(hp q).2 h2⟩
  omega
theorem rOne{b v:Envt}{y:Exper}{n:Int}{s:List Spn}{A B:Prop}(hv:EnvL v)(hsl:s.length<=1000000)(hs:IsP s (Clm b y))(hA:Ovl b y n v->A)(hB: ¬Ovl b y n v->B):
  Zw v y.2 fun Zx=>Cnd ((0:Int)<=Zx) (At v.5 Zx fun y9=>Z3 y9.6 n fun u=>Un u n fun J2=>Wx s J2 fun Qw=>Fits Qw->Cnd ((0:Int)<(↑Qw.length:Int)) A B) B:=by
 refine Vv hv.l (fun hno=>Cnd.no (by decide) (hB fun ⟨l,q,hl,_⟩=>by rw[hno] at hl;cases hl)) fun j l hl hlo=>Cnd.yes (by omega) ?_
 have hjl:=Qe hl
 refine⟨by omega,fun z hz=> ?_⟩
 have hz:v.5[j]? =some z:=hz
 rw[hl] at hz;cases hz
 refine Gc (hv.co l (getm hl)) fun u hu=>j3k hu fun p hp=>z1d hsl (by have:=hp.1.len;omega) fun c hc _=> ?_
 have hp:=hp.toP
 have hc:=hc.toP
 refine Cnd.mk (fun hpos=> ?_) fun hnp=> ?_
 ·obtain⟨q,q0,q1,h1,h2⟩:=hc.2.1 (by omega)
  exact hA ⟨l,q,hlo,q0,q1,(hs.1 q q0 q1).1 h1,(hp.1 q q0 q1).1 h2⟩
 ·refine hB fun ⟨l',q,hl',q0,q1,h1,h2⟩=>hnp ?_
  rw[hlo] at hl';cases hl'
  have:=hc.2.2 ⟨q,q0,q1,(hs.1 q q0 q1).2 h1,(hp.1 q q0 q1).2 h2⟩
  omega
theorem v4m{b a:Envt}{y:Exper}{n:Int}{K:Int->Prop}(hb:EnvL b)(ha:EnvL a)(hd:NdX b)(h: ∀e,FrS b a y n e->K e):Rb b a y n K:=by
 unfold Rb q2q
 have hbx:=hb.x
 intro _
 refine Lp1.ind (fun (i:Int)=> ∃j:Nat,i=(j:Int)/\j<=b.6.length/\ ∀z∈b.6.take j,z.1=y.1->z.5≠3) (fun (i:Int)=>(b.6.length - i).toNat) ?_ ⟨0,rfl,by omega,by simp⟩
 rintro i ⟨j,rfl,hj,hno⟩
 refine Cnd.mk (fun hc=>⟨by omega,fun z hz=> ?_⟩) fun hc=> ?_
 ·have hz:b.6[j]? =some z:=hz
  have tk:b.6.take (j+1)=b.6.take j++[z]:=by rw[List.take_add_one,hz];rfl
  have nx: ¬(z.1=y.1/\z.5=3)->InI ((j:Int)+1)/\(∃j':Nat,(j:Int)+1=(j':Int)/\j'<=b.6.length/\ ∀z∈b.6.take j',z.1=y.1->z.5≠3)/\(b.6.length - ((j:Int)+1)).toNat<(b.6.length - (j:Int)).toNat:=fun hn2=>⟨by unfold InI;omega,⟨j+1,by omega,by omega,fun w hw hk=>by
   rw[tk] at hw
   rcases List.mem_append.1 hw with hw|hw
   ·exact hno w hw hk
   ·rw[List.mem_singleton.1 hw] at hk⊢;exact fun h2=>hn2 ⟨hk,h2⟩⟩,by omega⟩
  refine Cnd.mk (fun hk=>Cnd.mk (fun h3=>h 25 ⟨fun _=>rfl,fun k=>absurd ⟨z,w1e hd (getm hz) hk,h3⟩ k,fun k=>absurd ⟨z,w1e hd (getm hz) hk,h3⟩ k⟩) fun h3=>nx fun q=>h3 q.2) fun hk=>nx fun q=>hk q.1
 rw[List.take_of_length_le (by omega)] at hno
 have hA: ¬ ∃x,xof b y.1=some x/\x.5=3:=fun ⟨x,hx,h3⟩=>hno x (j4q hx).1 (j4q hx).2 h3
 have rest: ∀{s:List Spn},IsP s (Clm b y)->Lp1 (fun Qo w5b=>Cnd (Qo<(↑[b,a].length:Int)) (((0:Int)<=Qo/\Qo<(↑[b,a].length:Int))/\ ∀y6,[b,a][Qo.toNat]? =some y6->We (Envt.mk (Sett.mk y6.1.1 y6.1.2 y6.1.3) y6.2 y6.3 y6.4 y6.5 y6.6) y.2 fun Zx=>Cnd ((0:Int)<=Zx) (At y6.5 Zx fun y9=>J7 y9 n fun J2=>Ve s J2 fun Qw=>Fits Qw->Cnd ((0:Int)<(↑Qw.length:Int)) (K (14:Int)) (InI (Qo+1)/\w5b (Qo+1))) (InI (Qo+1)/\w5b (Qo+1))) (K (0:Int))) (0:Int):=fun {s} hs=>by
  refine Lp1.ind (fun (i:Int)=>i=0∨(i=1/\ ¬Ovl b y n b)∨(i=2/\ ¬Ovl b y n b/\ ¬Ovl b y n a)) (fun (i:Int)=>(2 - i).toNat) ?_ (.inl rfl)
  rintro i hi
  refine Cnd.mk (fun hc=> ?_) fun hc=> ?_
  ·have hc:i<2:=hc
   rcases hi with rfl|⟨rfl,n1⟩|⟨rfl,_⟩
   ·refine⟨⟨by omega,by simp⟩,fun v hv=> ?_⟩
    cases hv
    exact tOne (v:=b) hb hs (fun o=>h 14 ⟨fun k=>absurd k hA,fun _ _=>rfl,fun _ k=>absurd (.inl o) k⟩) fun o=>⟨by unfold InI;omega,.inr (.inl ⟨by omega,o⟩),by omega⟩
   ·refine⟨⟨by omega,by simp⟩,fun v hv=> ?_⟩
    cases hv
    exact tOne (v:=a) ha hs (fun o=>h 14 ⟨fun k=>absurd k hA,fun _ _=>rfl,fun _ k=>absurd (.inr o) k⟩) fun o=>⟨by unfold InI;omega,.inr (.inr ⟨by omega,n1,o⟩),by omega⟩
   ·omega
  ·have hc: ¬i<2:=hc
   rcases hi with rfl|⟨rfl,n1⟩|⟨rfl,n1,n2⟩
   ·omega
   ·omega
   ·exact h 0 ⟨fun k=>absurd k hA,fun _ k=>k.elim (fun k=>absurd k n1) fun k=>absurd k n2,fun _ _=>rfl⟩
 refine z97 (v:=b) hb.x hd (fun hno x hx=>j82 fun s hs _=>rest (hs.congr fun q q0 q1=> ?_)) fun x hx=>j82 fun s hs _=>rest (hs.congr fun q q0 q1=> ?_)
 ·rw[hx]
  exact⟨fun k=>⟨k.1,fun x h=>by rw[hno] at h;cases h⟩,fun k=>⟨k.1,by simp[insV]⟩⟩
 ·exact⟨fun k=>⟨k.1,fun x' h=>by rw[hx] at h;cases h;exact k.2⟩,fun k=>⟨k.1,k.2 x hx⟩⟩
theorem v6d{b a:Envt}{y:Exper}{n:Int}{K:Int->Prop}(hb:EnvL b)(ha:EnvL a)(hy:y.6.length<=1000000)(h: ∀e,FrS b a y n e->K e):q8h b a y n K:=by
 unfold q8h z37
 have hbx:=hb.x
 have part:(¬ ∃x,xof b y.1=some x/\x.5=3)-> ∀{s:List Spn},s.length<=1000000->IsP s (Clm b y)->Lp3 (fun Zi (q5y:List Envt) w5d v4u=>Cnd (Zi<(↑[b,a].length:Int)) (At q5y Zi fun y7=>Zw (Envt.mk (Sett.mk y7.1.1 y7.1.2 y7.1.3) y7.2 y7.3 y7.4 y7.5 y7.6) y.2 fun J8=>Cnd ((0:Int)<=J8) (At y7.5 J8 fun y10=>Z3 y10.6 n fun Qw=>Un Qw n fun Qi=>Wx w5d Qi fun Zh=>Fits Zh->Cnd ((0:Int)<(↑Zh.length:Int)) (K (14:Int)) (InI (Zi+1)/\v4u (Zi+1) q5y w5d)) (InI (Zi+1)/\v4u (Zi+1) q5y w5d)) (K (0:Int))) (0:Int) [b,a] s:=fun hA {s} hsl hs=>by
  refine Lp3.ind (fun (i:Int) (l:List Envt) (c:List Spn)=>l=[b,a]/\c=s/\(i=0∨(i=1/\ ¬Ovl b y n b)∨(i=2/\ ¬Ovl b y n b/\ ¬Ovl b y n a))) (fun (i:Int) _ _=>(2 - i).toNat) ?_ ⟨rfl,rfl,.inl rfl⟩
  rintro i _ _ ⟨rfl,rfl,hi⟩
  refine Cnd.mk (fun hc=> ?_) fun hc=> ?_
  ·have hc:i<2:=hc
   rcases hi with rfl|⟨rfl,n1⟩|⟨rfl,_⟩
   ·refine⟨⟨by omega,by simp⟩,fun v hv=> ?_⟩
    cases hv
    exact rOne (v:=b) hb hsl hs (fun o=>h 14 ⟨fun k=>absurd k hA,fun _ _=>rfl,fun _ k=>absurd (.inl o) k⟩) fun o=>⟨by unfold InI;omega,⟨rfl,rfl,.inr (.inl ⟨by omega,o⟩)⟩,by omega⟩
   ·refine⟨⟨by omega,by simp⟩,fun v hv=> ?_⟩
    cases hv
    exact rOne (v:=a) ha hsl hs (fun o=>h 14 ⟨fun k=>absurd k hA,fun _ _=>rfl,fun _ k=>absurd (.inr o) k⟩) fun o=>⟨by unfold InI;omega,⟨rfl,rfl,.inr (.inr ⟨by omega,n1,o⟩)⟩,by omega⟩
   ·omega
  ·have hc: ¬i<2:=hc
   rcases hi with rfl|⟨rfl,n1⟩|⟨rfl,n1,n2⟩
   ·omega
   ·omega
   ·exact h 0 ⟨fun k=>absurd k hA,fun _ k=>k.elim (fun k=>absurd k n1) fun k=>absurd k n2,fun _ _=>rfl⟩
 have clm: ∀{s0:List Spn},IsS s0 (fun q=>insV y.6 q=true)-> ∀{Y:List Spn->Prop},(∀s,s.length<=1000000->IsP s (Clm b y)->Y s)->Us b y.1 fun Qo q6j=>Cnd (q6j=true) (Vt y.6 Qo.6 fun Zi=>Y Zi) (Y s0):=fun {s0} hs0 {Y} hY=>by
  refine z98 (v:=b) hb.x (fun hno x _=>Cnd.no (by decide) (hY s0 (by have:=hs0.1.len;omega) (hs0.toP.congr fun q q0 q1=>⟨fun k=>⟨k,fun x h=>by rw[hno] at h;cases h⟩,fun k=>k.1⟩))) fun x hx=>Cnd.yes rfl ?_
  have hxm:=(j4q (q7l.1 hx).1).1
  exact z3m hy (hb.cl x hxm).1 fun s hs=>hY s (by have:=hs.1.len;omega) (hs.toP.congr fun q q0 q1=>⟨fun k=>⟨k.1,fun x' h=>by rw[hx] at h;cases h;exact k.2⟩,fun k=>⟨k.1,k.2 x hx⟩⟩)
 refine Rx (v:=b) hb.x (fun hno=>Cnd.no (by decide) ?_) fun j x hj hx=>Cnd.yes (by omega) ?_
 ·refine z1e hy fun s0 hs0=>Jn1.mk (fun s=>s.length<=1000000/\IsP s (Clm b y)) (clm hs0 fun s a b=>⟨a,b⟩) fun s hs _=>part (fun ⟨x,hx,_⟩=>by rw[hno] at hx;cases hx) hs.1 hs.2
 ·have hlt:=Qe hj
  refine⟨by omega,fun z hz=> ?_⟩
  have hz:b.6[j]? =some z:=hz
  rw[hj] at hz;cases hz
  refine Cnd.mk (fun h3=>h 25 ⟨fun _=>rfl,fun k=>absurd ⟨x,hx,h3⟩ k,fun k=>absurd ⟨x,hx,h3⟩ k⟩) fun h3=> ?_
  refine z1e hy fun s0 hs0=>Jn1.mk (fun s=>s.length<=1000000/\IsP s (Clm b y)) (clm hs0 fun s a b=>⟨a,b⟩) fun s hs _=>part (fun ⟨x',hx',h'⟩=>by rw[hx] at hx';cases hx';exact h3 h') hs.1 hs.2
end Go.En
end
noncomputable section
set_option maxRecDepth 100000
namespace Go.En
open Go Go.Fl Go.Fl.Lk Go.Fx
theorem allL{α:Type}{l:List α}(p:α->Prop){G:Int->α->(Int->Prop)->Prop}{B:Prop}(hl:l.length<=1000000000)(hB:(∀y∈l,p y)->B)
  (hG: ∀(i:Nat) y Y,l[i]? =some y->(p y->InI ((i:Int)+1)/\Y ((i:Int)+1))->G (i:Int) y Y):
  Lp1 (fun x Y=>Cnd (x<(l.length:Int)) ((0<=x/\x<(l.length:Int))/\ ∀y,l[x.toNat]? =some y->G x y Y) B) 0:=
 srch (fun y=>dec (¬p y)) hl (fun h=>hB fun y hy=>Classical.byContradiction fun hn=>List.find?_eq_none.1 h y hy (Re hn)) fun i y Y hy _ _ hq=>hG i y Y hy fun hp=>hq (Jd fun hn=>hn hp)
theorem allR{α:Type}{l:List α}(p:α->Prop){G:Int->α->(Int->Prop)->Prop}{B:Prop}(hl:l.length<=1000000000)(hB:(∀y∈l,p y)->B)
  (hG: ∀(i:Nat) y Y,l[i]? =some y->(p y->InI ((i:Int)+1)/\Y ((i:Int)+1))->G (i:Int) y Y):
  Lp1 (fun x Y=>l.length<=(9223372036854775807:Nat)->Cnd (x<(l.length:Int)) ((0<=x/\x<(l.length:Int))/\ ∀y,l[x.toNat]? =some y->G x y Y) B) 0:=
 j8u (fun y=>dec (¬p y)) hl (fun h=>hB fun y hy=>Classical.byContradiction fun hn=>List.find?_eq_none.1 h y hy (Re hn)) fun i y Y hy _ _ hq=>hG i y Y hy fun hp=>hq (Jd fun hn=>hn hp)
theorem atq{α:Type}{l:List α}{i:Nat}{x:α}{p:α->Prop}(h:l[i]? =some x)(hp:p x):At l (i:Int) p:=by
 have:=Qe h
 exact⟨by omega,fun y hy=>by
  have hy:l[i]? =some y:=hy
  rw[h] at hy;cases hy;exact hp⟩
theorem j6k{s:Spn}{q:Int}:insV [s] q=true↔s.1<=q/\q<s.2:=by
 rw[q5x]
 exact⟨fun ⟨r,hr,k⟩=>by rw[List.mem_singleton.1 hr] at k;exact k,fun k=>⟨s,List.mem_singleton.2 rfl,k⟩⟩
def clA(a:Envt)(l:Lay_):List Col:=((lof a l.1).map fun m=>m.6).getD []
theorem j6l{a:Envt}{l:Lay_}(h:lof a l.1=none):clA a l=[]:=by unfold clA;rw[h];rfl
theorem j6m{a:Envt}{l m:Lay_}(h:lof a l.1=some m):clA a l=m.6:=by unfold clA;rw[h];rfl
theorem v4n{a:Envt}{l:Lay_}(ha:EnvL a):(clA a l).length<=1000000:=by
 cases h:lof a l.1 with
 |none=>rw[j6l h];simp
 |some m=>rw[j6m h];exact ha.co m (v6c h)
def endV(n c:Int):Int:=if 1099511627776 - n<c then 1099511627776 else n+c
theorem w24{n c:Int}{K:Int->Prop}(hn:0<=n/\n<=1099511627776)(hc:0<=c)(h:K (endV n c)):Bz n c K:=by
 unfold Bz
 unfold endV at h
 refine⟨by unfold InI;omega,Cnd.mk (fun k=>by rw[if_pos k] at h;exact h) fun k=> ?_⟩
 rw[if_neg k] at h
 exact⟨by unfold InI;omega,h⟩
theorem v6e{n c:Int}{K:Int->Prop}(hn:0<=n/\n<=1099511627776)(hc:0<=c)(h:K (endV n c)):z0h n c K:=w24 (K:=K) hn hc h
structure Kps(b a:Envt)(l:Lay_)(n:Int):Prop where
 old: ∀c∈l.6,n<c.3-> ∀q,0<=q->q<10000->Cvr c q-> ∃d∈clA a l,Cvr d q/\c.3<=d.3
 new_:0<l.5-> ∀x∈b.6,runE a x.1=none->x.2=l.1->x.5=2->n<endV n l.5-> ∀q,0<=q->q<10000->insV x.6 q=true-> ∃d∈clA a l,Cvr d q/\endV n l.5<=d.3
theorem v6f{b a:Envt}{l:Lay_}{n:Int}{K:Bool->Prop}(hb:EnvL b)(ha:EnvL a)(hd:NdX a)(hl:l.6.length<=1000000)(hn:0<=n/\n<=1099511627776)(h: ∀r,(r=true↔Kps b a l n)->K r):B0 b a l n K:=by
 unfold B0 q4o
 have hbx:=hb.x
 have no: ¬Kps b a l n->K false:=fun hp=>h false ⟨fun q=>by (cases q),fun q=>absurd q hp⟩
 refine Jn1.mk (fun c=>c=clA a l) (j83 (v:=a) ha.l (fun hno=>Cnd.no (by decide) (j6l hno).symm) fun j m hm hmo=>Cnd.yes (by omega) (atq hm (j6m hmo).symm)) ?_
 rintro _ rfl _
 have hcl:=v4n (l:=l) ha
 refine allL (fun c:Col=>n<c.3-> ∀q,0<=q->q<10000->Cvr c q-> ∃d∈clA a l,Cvr d q/\c.3<=d.3) (by omega) (fun hc1=> ?_) fun i c Y hc hnx=>Cnd.mk (fun ht _=>j2p (t:=fun d=>c.3<=d.3) hcl fun s _ hs=>j82 fun m hm _=>Cnd.mk (fun h0=>hnx fun _ q q0 q1 hcv=> ?_) fun h0=>no fun kp=> ?_) fun hnt=>hnx fun k=>absurd k hnt
 ·refine Cnd.mk (fun h5=>h true ⟨fun _=>⟨hc1,fun k=>by omega⟩,fun _=>rfl⟩) fun h5 _=> ?_
  refine allL (fun x:Exper=>runE a x.1=none->x.2=l.1->x.5=2->n<endV n l.5-> ∀q,0<=q->q<10000->insV x.6 q=true-> ∃d∈clA a l,Cvr d q/\endV n l.5<=d.3) (by omega) (fun hc2=>h true ⟨fun _=>⟨hc1,fun _=>hc2⟩,fun _=>rfl⟩) fun i x Y hx hnx=> ?_
  have hxm:=getm hx
  refine z97 (v:=a) ha.x hd (fun hr _ _=>Cnd.no (by decide) (Cnd.mk (fun h2=>Cnd.mk (fun h3 _=> ?_) fun h3=>hnx fun _ _ k=>absurd k h3) fun h2=>hnx fun _ k=>absurd k h2)) fun y hr=>Cnd.yes rfl (hnx fun k=>by rw[hr] at k;cases k)
  refine allL (fun s:Spn=>n<endV n l.5-> ∀q,0<=q->q<10000->s.1<=q/\q<s.2-> ∃d∈clA a l,Cvr d q/\endV n l.5<=d.3) (by have:=(hb.cl x hxm).1;omega) (fun hall=>hnx fun _ _ _ hlt q q0 q1 hi=> ?_) fun i s Z hs hny=>w24 hn (by omega) (Cnd.mk (fun ht _=>j2p (t:=fun d=>endV n l.5<=d.3) hcl fun e _ he=>j82 fun m hm _=>Cnd.mk (fun h0=>hny fun _ q q0 q1 hcv=> ?_) fun h0=>no fun kp=> ?_) fun hnt=>hny fun k=>absurd k hnt)
  ·obtain⟨s,hs,hq⟩:=q5x.1 hi
   exact hall s hs hlt q q0 q1 hq
  ·refine Classical.byContradiction fun hno=> ?_
   have:=hm.2.2 ⟨q,q0,q1,j6k.2 hcv,fun k=>hno ((he q).1 k)⟩
   omega
  ·obtain⟨q,q0,q1,k1,k2⟩:=hm.2.1 (by omega)
   exact k2 ((he q).2 (kp.new_ (by omega) x hxm hr h2 h3 ht q q0 q1 (q5x.2 ⟨s,getm hs,j6k.1 k1⟩)))
 ·refine Classical.byContradiction fun hno=> ?_
  have:=hm.2.2 ⟨q,q0,q1,j6k.2 hcv,fun k=>hno ((hs q).1 k)⟩
  omega
 ·obtain⟨q,q0,q1,k1,k2⟩:=hm.2.1 (by omega)
  exact k2 ((hs q).2 (kp.old c (getm hc) ht q q0 q1 (j6k.1 k1)))
theorem j84{α:Type}{l:List α}{i:Nat}{p:α->Prop}(hi:i<l.length)(h: ∀x,l[i]? =some x->p x):At l (i:Int) p:=⟨by omega,fun y hy=>h y hy⟩
theorem v6g{m:Nat}(h:m<10000):(10000 - ((m:Int)+1)).toNat<(10000 - (m:Int)).toNat:=by omega
theorem lt10{q:Int}{m:Nat}(h:q<((m+1:Nat):Int))(e:q≠(m:Int)):q<(m:Int):=by omega
theorem v4o{b a:Envt}{l:Lay_}{n:Int}{K:Int->Prop}(hb:EnvL b)(ha:EnvL a)(hl:l.6.length<=1000000)(hn:0<=n/\n<=1099511627776)(h: ∀e,(e=0↔Kps b a l n)->(e≠0->e=28)->K e):q5o b a l n K:=by
 unfold q5o z0n
 have hbx:=hb.x
 have no: ¬Kps b a l n->K 28:=fun hp=>h 28 ⟨fun q=>by (cases q),fun q=>absurd q hp⟩ fun _=>rfl
 refine Jn1.mk (fun u=>UAt u (clA a l) n) (Vv (v:=a) ha.l (fun hno=>Cnd.no (by decide) (Gc (by simp) fun u hu=>by rw[j6l hno];exact hu)) fun j m hm hmo=>Cnd.yes (by omega) (atq hm (Gc (ha.co m (getm hm)) fun u hu=>by rw[j6m hmo];exact hu))) ?_
 intro u hu
 refine Gc hl fun w hw=> ?_
 have hul:=hu.len
 have hwl:=hw.len
 refine Lp1.ind (fun (i:Int)=> ∃j:Nat,i=(j:Int)/\j<=10000/\ ∀(q:Nat) x y,q<j->u[q]? =some x->w[q]? =some y->y<=x) (fun (i:Int)=>(10000 - i).toNat) ?_ ⟨0,rfl,by omega,fun q x y hq=>by omega⟩
 rintro i ⟨j,rfl,hj,hle⟩ _
 refine Cnd.mk (fun hc=>j84 (by omega) fun x hx=>j84 (by omega) fun y hy=>Cnd.mk (fun hxy=>no fun kp=> ?_) fun hxy=>⟨by unfold InI;omega,⟨j+1,by omega,by omega,fun q x' y' hq hx' hy'=> ?_⟩,by omega⟩) fun hc=> ?_
 ·have h1:=hu.lo j x hx
  obtain⟨c,hc,hcv,hct⟩:=(hw.at_ j y y hy (by omega)).1 (Int.le_refl _)
  obtain⟨d,hd,hdv,hdt⟩:=kp.old c hc (by omega) j (by omega) (by omega) hcv
  have:=(hu.at_ j x y hx (by omega)).2 ⟨d,hd,hdv,by omega⟩
  omega
 ·by_cases e:q=j
  ·subst e
   rw[hx] at hx';rw[hy] at hy';cases hx';cases hy';omega
  ·exact hle q x' y' (by omega) hx' hy'
 have hc1: ∀c∈l.6,n<c.3-> ∀q,0<=q->q<10000->Cvr c q-> ∃d∈clA a l,Cvr d q/\c.3<=d.3:=fun c hcm ht q q0 q1 hcv=>by
  obtain⟨x,hx⟩:=getq (l:=u) (k:=q.toNat) (by omega)
  obtain⟨y,hy⟩:=getq (l:=w) (k:=q.toNat) (by omega)
  have h1:=hle q.toNat x y (by omega) hx hy
  have h2:=hw.at_ q.toNat y c.3 hy ht
  have h3:=hu.at_ q.toNat x c.3 hx ht
  rw[Int.toNat_of_nonneg q0] at h2 h3
  exact h3.1 (Int.le_trans (h2.2 ⟨c,hcm,hcv,Int.le_refl _⟩) h1)
 refine Lp1.ind (fun (i:Int)=> ∃j:Nat,i=(j:Int)/\j<=b.6.length/\ ∀x∈b.6.take j,runE a x.1=none->x.2=l.1->x.5=2->n<endV n l.5-> ∀q,0<=q->q<10000->insV x.6 q=true-> ∃d∈clA a l,Cvr d q/\endV n l.5<=d.3) (fun (i:Int)=>(b.6.length - i).toNat) ?_ ⟨0,rfl,by omega,by simp⟩
 rintro i ⟨k,rfl,hk,hall⟩ _
 refine Cnd.mk (fun hc3=>Cnd.mk (fun h5=>j84 (by omega) fun x hx=> ?_) fun h5=>h 0 ⟨fun _=>⟨hc1,fun q=>absurd q h5⟩,fun _=>rfl⟩ fun q=>absurd rfl q) fun hc3=>h 0 ⟨fun _=>⟨hc1,fun _=>by rw[List.take_of_length_le (by omega)] at hall;exact hall⟩,fun _=>rfl⟩ fun q=>absurd rfl q
 have hxm:=getm hx
 have tk:b.6.take (k+1)=b.6.take k++[x]:=by rw[List.take_add_one,hx];rfl
 have hnx:(runE a x.1=none->x.2=l.1->x.5=2->n<endV n l.5-> ∀q,0<=q->q<10000->insV x.6 q=true-> ∃d∈clA a l,Cvr d q/\endV n l.5<=d.3)->InI ((k:Int)+1)/\(∃j':Nat,(k:Int)+1=(j':Int)/\j'<=b.6.length/\ ∀x∈b.6.take j',runE a x.1=none->x.2=l.1->x.5=2->n<endV n l.5-> ∀q,0<=q->q<10000->insV x.6 q=true-> ∃d∈clA a l,Cvr d q/\endV n l.5<=d.3)/\(b.6.length - ((k:Int)+1)).toNat<(b.6.length - (k:Int)).toNat:=fun hp=>⟨by unfold InI;omega,⟨k+1,by omega,by omega,fun z hz=>by
  rw[tk] at hz
  rcases List.mem_append.1 hz with hz|hz
  ·exact hall z hz
  ·rw[List.mem_singleton.1 hz];exact hp⟩,by omega⟩
 refine z98 (v:=a) ha.x (fun hr _ _=>Cnd.no (by decide) (Cnd.mk (fun h3=>Cnd.mk (fun h2=> ?_) fun h2=>hnx fun _ q=>absurd q h2) fun h3=>hnx fun _ _ q=>absurd q h3)) fun y hr=>Cnd.yes rfl (hnx fun q=>by rw[hr] at q;cases q)
 refine Ug (hb.cl x hxm).1 fun o ho=> ?_
 have hol:=ho.len
 refine Lp1.ind (fun (i:Int)=> ∃j:Nat,i=(j:Int)/\j<=10000/\(n<endV n l.5-> ∀q:Int,0<=q->q<j->insV x.6 q=true-> ∃d∈clA a l,Cvr d q/\endV n l.5<=d.3)) (fun (i:Int)=>(10000 - i).toNat) ?_ ⟨0,rfl,by omega,fun _ q hq=>by omega⟩
 rintro i ⟨m,rfl,hm,hq⟩ _
 have hny:(n<endV n l.5->insV x.6 (m:Int)=true-> ∃d∈clA a l,Cvr d (m:Int)/\endV n l.5<=d.3)->m<10000->InI ((m:Int)+1)/\(∃j':Nat,(m:Int)+1=(j':Int)/\j'<=10000/\(n<endV n l.5-> ∀q:Int,0<=q->q<j'->insV x.6 q=true-> ∃d∈clA a l,Cvr d q/\endV n l.5<=d.3))/\(10000 - ((m:Int)+1)).toNat<(10000 - (m:Int)).toNat:=fun hp hm1=>⟨by unfold InI;omega,⟨m+1,by omega,by omega,fun ht q q0 q1 hi=>by
  by_cases e:q=(m:Int)
  ·subst e;exact hp ht hi
  ·exact hq ht q q0 (lt10 q1 e) hi⟩,v6g hm1⟩
 refine Cnd.mk (fun hc4=>j84 (by omega) fun t ht=> ?_) fun hc4=>hnx fun _ _ _ hlt q q0 q1 hi=>hq hlt q q0 (by omega) hi
 have hm1:m<10000:=by omega
 have htv:=ho.get ht
 refine Cnd.mk (fun htt=>j84 (by omega) fun z hz=>v6e hn (by omega) (Cnd.mk (fun hlt=>no fun kp=> ?_) fun hlt=>hny (fun hne _=> ?_) hm1)) fun htf=>hny (fun _ hi=>absurd (htv.trans hi) htf) hm1
 ·have h1:=hu.lo m z hz
  obtain⟨d,hd,hdv,hdt⟩:=kp.new_ h5 x hxm hr h2 h3 (by omega) m (by omega) (by omega) (htv.symm.trans htt)
  have:=(hu.at_ m z (endV n l.5) hz (by omega)).2 ⟨d,hd,hdv,hdt⟩
  omega
 ·exact (hu.at_ m z (endV n l.5) hz hne).1 (by omega)
def frV(b a:Envt)(y:Exper)(n:Int):Int:=
 open Classical in if ∃x,xof b y.1=some x/\x.5=3 then 25 else if Ovl b y n b∨Ovl b y n a then 14 else 0
theorem v2c(b a:Envt)(y:Exper)(n:Int):FrS b a y n (frV b a y n):=by
 unfold frV
 refine⟨fun h=>if_pos h,fun h k=>by rw[if_neg h,if_pos k],fun h k=>by rw[if_neg h,if_neg k]⟩
def stpV(b a:Envt)(n:Int):ByteArray×Int:=
 if dec (0<=n/\n<=1099511627776)=true then
  match b.6.find? fun x=>dec (x.5=2/\runE a x.1≠none/\b.1≠a.1) with
  |some _=>(ByteArray.mk (Array.mk []),25)
  |none=>
   match b.6.find? fun x=>dec (x.5=2/\ ∃y,runE a x.1=some y/\ ¬Kpt b a x y) with
   |some x=>(x.1,25)
   |none=>
    match a.6.find? fun y=>dec (y.5=2/\frV b a y n≠0) with
    |some y=>(y.1,frV b a y n)
    |none=>
     match b.5.find? fun l=>dec (¬Kps b a l n) with
     |some l=>(l.1,28)
     |none=>(ByteArray.mk (Array.mk []),0)
 else (ByteArray.mk (Array.mk []),3)
theorem w8u{s t:Sett}(h:s.1=t.1/\s.2=t.2/\s.3=t.3):s=t:=by
 obtain⟨a,b,c⟩:=s
 obtain⟨d,e,f⟩:=t
 obtain⟨h1,h2,h3⟩:=h
 simp only at h1 h2 h3
 rw[h1,h2,h3]
theorem w8v{s t:Sett}(h: ¬(s.1=t.1/\s.2=t.2/\s.3=t.3)):s≠t:=fun e=>h (by rw[e];exact⟨rfl,rfl,rfl⟩)
theorem v8b{b a:Envt}{n:Int}{K:ByteArray->Int->Prop}(hb:EnvL b)(ha:EnvL a)(db:NdX b)(da:NdX a)(h:K (stpV b a n).1 (stpV b a n).2):q1u b a n K:=by
 unfold q1u q6b
 have hbx:=hb.x
 have hax:=ha.x
 have hbl:=hb.l
 have out: ¬(0<=n/\n<=1099511627776)->K (ByteArray.mk (Array.mk [])) 3:=fun hn=>by
  unfold stpV at h
  rw[Jd hn] at h;exact h
 unfold q2o
 refine Cnd.mk (fun h0=>Cnd.mk (fun h1=> ?_) fun h1=>out fun k=>h1 (dt k.2)) fun h0=>Cnd.no (by decide) (out fun k=>h0 k.1)
 have hn:0<=n/\n<=1099511627776:=⟨h0,of_decide_eq_true h1⟩
 unfold stpV at h
 rw[if_pos (Re hn)] at h
 refine fun _=>srch (fun x:Exper=>dec (x.5=2/\runE a x.1≠none/\b.1≠a.1)) (by omega) (fun hf=> ?_) fun i x Y hx _ hp hq=>z97 (v:=a) ha.x da (fun hr _ _=>Cnd.no (by decide) (hq (Jd fun k=>k.2.1 hr))) fun y hr=>Cnd.yes rfl (Cnd.mk (fun h2=>Cnd.mk (fun hs=>hq (Jd fun k=>k.2.2 (w8u hs))) fun hs=> ?_) fun h2=>hq (Jd fun k=>h2 k.1))
 rotate_left
 ·rw[hp (Re ⟨h2,(fun k=>by rw[hr] at k;cases k),w8v hs⟩)] at h;exact h
 rw[hf] at h
 refine fun _=>srch (fun x:Exper=>dec (x.5=2/\ ∃y,runE a x.1=some y/\ ¬Kpt b a x y)) (by omega) (fun hf2=> ?_) fun i x Y hx _ hp hq=>z97 (v:=a) ha.x da (fun hr _ _=>Cnd.no (by decide) (hq (Jd fun ⟨_,y,k,_⟩=>by rw[hr] at k;cases k))) fun y hr=>Cnd.yes rfl (Cnd.mk (fun h2=> ?_) fun h2=>hq (Jd fun k=>h2 k.1))
 rotate_left
 ·rw[Zd,Zd]
  refine w41 (b:=b) (a:=a) (x:=x) (y:=y) hb ha (hb.cl x (getm hx)) fun r hk=>Cnd.mk (fun ht=>hq (Jd fun ⟨_,y',k,k2⟩=>by rw[hr] at k;cases k;exact k2 (hk.1 ht))) fun ht=> ?_
  rw[hp (Re ⟨h2,y,hr,fun k=>ht (hk.2 k)⟩)] at h;exact h
 rw[hf2] at h
 refine fun _=>srch (fun y:Exper=>dec (y.5=2/\frV b a y n≠0)) (by omega) (fun hf3=> ?_) fun i y Y hy _ hp hq=>Cnd.mk (fun h2=> ?_) fun h2=>hq (Jd fun k=>h2 k.1)
 rotate_left
 ·rw[Zd]
  refine v4m (b:=b) (a:=a) (y:=y) hb ha db fun e he=> ?_
  cases he.uniq (v2c b a y n)
  refine Cnd.mk (fun e0=>hq (Jd fun k=>k.2 e0)) fun e0=> ?_
  rw[hp (Re ⟨h2,e0⟩)] at h;exact h
 rw[hf3] at h
 refine fun _=>srch (fun l:Lay_=>dec (¬Kps b a l n)) (by omega) (fun hf4=>by rw[hf4] at h;exact h) fun i l Y hl _ hp hq=>v6f (b:=b) (a:=a) hb ha da (hb.co l (getm hl)) hn fun r hr=>Cnd.mk (fun ht=>hq (Jd fun k=>k (hr.1 ht))) fun ht=> ?_
 rw[hp (Re fun k=>ht (hr.2 k))] at h;exact h
theorem v8c{b a:Envt}{n:Int}{K:ByteArray->Int->Prop}(hb:EnvL b)(ha:EnvL a)(_:NdX a)(h:K (stpV b a n).1 (stpV b a n).2):z2b b a n K:=by
 unfold z2b z7l
 have hbx:=hb.x
 have hax:=ha.x
 have hbl:=hb.l
 have out: ¬(0<=n/\n<=1099511627776)->K (ByteArray.mk (Array.mk [])) 3:=fun hn=>by
  unfold stpV at h
  rw[Jd hn] at h;exact h
 unfold R0
 refine Cnd.mk (fun h0=>Cnd.mk (fun h1=> ?_) fun h1=>out fun k=>h1 (dt k.2)) fun h0=>Cnd.no (by decide) (out fun k=>h0 k.1)
 have hn:0<=n/\n<=1099511627776:=⟨h0,of_decide_eq_true h1⟩
 unfold stpV at h
 rw[if_pos (Re hn)] at h
 refine j8u (fun x:Exper=>dec (x.5=2/\runE a x.1≠none/\b.1≠a.1)) (by omega) (fun hf=> ?_) fun i x Y hx _ hp hq=>z98 (v:=a) ha.x (fun hr _ _=>Cnd.no (by decide) (hq (Jd fun k=>k.2.1 hr))) fun y hr=>Cnd.yes rfl (atq hx (Cnd.mk (fun h2=>Cnd.mk (fun hs=>hq (Jd fun k=>k.2.2 (w8u hs))) fun hs=> ?_) fun h2=>hq (Jd fun k=>h2 k.1)))
 rotate_left
 ·rw[hp (Re ⟨h2,(fun k=>by rw[hr] at k;cases k),w8v hs⟩)] at h;exact h
 rw[hf] at h
 refine j8u (fun x:Exper=>dec (x.5=2/\ ∃y,runE a x.1=some y/\ ¬Kpt b a x y)) (by omega) (fun hf2=> ?_) fun i x Y hx _ hp hq=>z98 (v:=a) ha.x (fun hr _ _=>Cnd.no (by decide) (hq (Jd fun ⟨_,y,k,_⟩=>by rw[hr] at k;cases k))) fun y hr=>Cnd.yes rfl (Cnd.mk (fun h2=> ?_) fun h2=>hq (Jd fun k=>h2 k.1))
 rotate_left
 ·rw[Zd,Zd]
  refine w1g (b:=b) (a:=a) (x:=x) (y:=y) hb ha (hb.cl x (getm hx)) (ha.cl y (j4q (q7l.1 hr).1).1).1 fun e hk hk2=>Cnd.mk (fun ht=>hq (Jd fun ⟨_,y',k,k2⟩=>by rw[hr] at k;cases k;exact k2 (hk.1 ht))) fun ht=> ?_
  rw[hp (Re ⟨h2,y,hr,fun k=>ht (hk.2 k)⟩)] at h;rw[hk2 ht];exact h
 rw[hf2] at h
 refine j8u (fun y:Exper=>dec (y.5=2/\frV b a y n≠0)) (by omega) (fun hf3=> ?_) fun i y Y hy _ hp hq=>Cnd.mk (fun h2=> ?_) fun h2=>hq (Jd fun k=>h2 k.1)
 rotate_left
 ·rw[Zd]
  refine v6d (b:=b) (a:=a) (y:=y) hb ha (ha.cl y (getm hy)).1 fun e he=> ?_
  cases he.uniq (v2c b a y n)
  refine Cnd.mk (fun e0=>hq (Jd fun k=>k.2 e0)) fun e0=> ?_
  rw[hp (Re ⟨h2,e0⟩)] at h;exact h
 rw[hf3] at h
 refine j8u (fun l:Lay_=>dec (¬Kps b a l n)) (by omega) (fun hf4=>by rw[hf4] at h;exact h) fun i l Y hl _ hp hq=>v4o (b:=b) (a:=a) hb ha (hb.co l (getm hl)) hn fun e he he2=>Cnd.mk (fun ht=>hq (Jd fun k=>k (he.1 ht))) fun ht=>atq hl ?_
 rw[hp (Re fun k=>ht (he.2 k))] at h;rw[he2 ht];exact h
end Go.En
end
noncomputable section
set_option maxRecDepth 100000
namespace Go.En
open Go Go.Fl Go.Fl.Lk Go.Fx
inductive ExW:Ex->Prop
 |mk (e:Ex):e.name.size<=1000->e.kind.size<=1000->(∀v∈e.values,v.text.size<=1000)->(∀k∈e.kids,ExW k)->ExW e
theorem ExW.nm{e:Ex}:ExW e->e.name.size<=1000
 | .mk _ h _ _ _=>h
theorem ExW.kd{e:Ex}:ExW e->e.kind.size<=1000
 | .mk _ _ h _ _=>h
theorem ExW.vl{e:Ex}:ExW e-> ∀v∈e.values,v.text.size<=1000
 | .mk _ _ _ h _=>h
theorem ExW.kid{e:Ex}:ExW e-> ∀k∈e.kids,ExW k
 | .mk _ _ _ _ h=>h
structure SgW(g:Seg):Prop where
 key:g.key.size<=1000
 kind:g.kind.size<=1000
 cond:ExW g.cond
structure SrW(s:Srv):Prop where
 kind:s.kind.size<=1000
 by_:s.by_.size<=1000
structure RlW(r:Rul):Prop where
 name:r.name.size<=1000
 cond:ExW r.cond
 serve:SrW r.serve
structure FlW(f:Flg):Prop where
 key:f.key.size<=1000
 vn:f.3.length<=1000000
 vals: ∀v∈f.variations,v.text.size<=1000
 needs: ∀q∈f.needs,q.flag.size<=1000
 tgts: ∀t∈f.targets,t.kind.size<=1000
 rules: ∀r∈f.rules,RlW r
 dflt:SrW f.dflt
structure LyW(l:Lay_):Prop where
 key:l.key.size<=1000
 kind:l.kind.size<=1000
 co:l.6.length<=1000000
structure XpW(x:Exper):Prop where
 key:x.key.size<=1000
 layer:x.layer.size<=1000
 flag:x.flag.size<=1000
 cl:x.6.length<=1000000
 ar:x.7.length<=1000000
 cond:ExW x.cond
structure EnvW(v:Envt):Prop where
 hk:v.1.2.size<=1000
 attrs: ∀d∈v.attributes,d.kind.size<=1000/\d.name.size<=1000
 segs: ∀g∈v.segments,SgW g
 flags: ∀f∈v.flags,FlW f
 layers: ∀l∈v.layers,LyW l
 exps: ∀x∈v.experiments,XpW x
 fn:v.4.length<=1000
 ln:v.5.length<=1000
 xn:v.6.length<=1000
theorem EnvW.l{v:Envt}(h:EnvW v):EnvL v:=⟨h.fn,h.ln,h.xn,fun x hx=>⟨(h.exps x hx).cl,(h.exps x hx).ar⟩,fun l hl=>(h.layers l hl).co,fun f hf=>(h.flags f hf).vn⟩
theorem ExS.w: ∀{n:Nat} {e:Ex},ExS n e->ExW e:=by
 intro n
 induction n using Nat.strongRecOn with
 |_ n ih=>
 intro e h
 have hn:=h.nm
 have hk:=h.kd
 refine .mk e (by omega) (by omega) (fun v hv=>by have:=(h.vals.all v hv).txt;omega) fun k hk=> ?_
 obtain⟨q,hq,hx⟩:=h.kid hk
 exact ih q (by omega) hx
theorem SegS.w{g:Seg}(h:SegS g):SgW g:=⟨by have:=h.key;omega,by have:=h.kind;omega,h.cond.w⟩
theorem SrvS.w{n:Int}{s:Srv}(h:SrvS n s):SrW s:=⟨by have:=h.kind;omega,by have:=h.by_;omega⟩
theorem RulS.w{n:Int}{r:Rul}(h:RulS n r):RlW r:=⟨by have:=h.name;omega,h.cond.w,h.serve.w⟩
theorem FlgS.w{f:Flg}(h:FlgS f):FlW f:=⟨by have:=h.key;omega,by have:=h.vlen;omega,fun v hv=>by have:=(h.vals v hv).txt;omega,fun q hq=>by have:=h.needs q hq;omega,fun t ht=>by have:=h.tgts t ht;omega,fun r hr=>(h.rules r hr).w,h.dflt.w⟩
theorem LayS.w{l:Lay_}(h:LayS l):LyW l:=⟨by have:=h.key;omega,by have:=h.kind;omega,by have:=h.cl;omega⟩
theorem ExpS.w{x:Exper}(h:ExpS x):XpW x:=⟨by have:=h.key;omega,by have:=h.layer;omega,by have:=h.flag;omega,by have:=h.claims.len;omega,by have:=h.arms.1;omega,h.cond.w⟩
theorem EnvS.w{v:Envt}(h:EnvS v):EnvW v:=⟨by have:=h.hkind;omega,fun d hd=>by have:=h.attrs d hd;omega,fun g hg=>(h.segs g hg).w,fun f hf=>(h.flags f hf).w,fun l hl=>(h.layers l hl).w,fun x hx=>(h.exps x hx).w,by have:=h.flen;omega,by have:=h.llen;omega,by have:=h.xlen;omega⟩
theorem w42{e:Ex}{K:Int->Prop}(he:ExW e)(h: ∀r,K r):q15 e K:=by
 unfold q15 z5k
 have hv:=he.vl
 have hn:=he.nm
 have hk:=he.kd
 rw[Zd]
 refine Cnd.mk (fun _=>h _) fun _=>Cnd.mk (fun _=>h _) fun _=>z8t fun r hr=>Cnd.mk (fun hc=> ?_) fun _=>h _
 have hne:=hr hc
 have z:e.op=9∨e.op=10∨e.op=11->(0:Int)<(e.values.length:Int):=fun ho=>by
  have:=List.length_pos_iff.2 (hne (by omega) (by omega));omega
 (repeat' (first|exact h _|refine R6 fun _ _=> ?_|refine Jj (by omega) fun _=> ?_|(refine q80 (hv _ (getm (by assumption))) fun _=> ?_)|(refine Lp1.ind (fun (i:Int)=>0<=i/\i<=e.kids.length+e.values.length) (fun (i:Int)=>(e.kids.length+e.values.length - i).toNat) (fun i hi=> ?_) ⟨by omega,by omega⟩)|assumption|(unfold InI;omega)|omega|refine Cnd.mk (fun _=> ?_) fun _=> ?_|refine⟨?_,?_⟩|intro _))
theorem w43{e:Ex}(he:ExW e): ∀{d m:Int} {K:Int->Int->Prop},0<=d->d<=11->0<=m->(∀r m,0<=m->K r m)->z0c e d m K:=by
 induction he with
 |mk e nm kd vl kids ih=>
 intro d m K d0 d1 m0 h X hX
 refine hX _ _ _ _ ?_
 unfold z5l
 rw[Zd]
 refine Cnd.mk (fun _=>h _ _ m0) fun _=>⟨by unfold InI;omega,Cnd.mk (fun _=>h _ _ (by omega)) fun _=>w42 (.mk e nm kd vl kids) fun _=>Cnd.mk (fun _=> ?_) fun _=>h _ _ (by omega)⟩
 refine Lp2.ind (fun (i m:Int)=>0<=i/\i<=e.kids.length/\0<=m) (fun (i _:Int)=>(e.kids.length - i).toNat) ?_ ⟨by omega,by omega,by omega⟩
 rintro i m ⟨i0,i1,m0⟩ _
 refine Cnd.mk (fun hc=>⟨by omega,fun y hy=>⟨by unfold InI;omega,?_⟩⟩) fun _=>h _ _ m0
 rw[Zd]
 exact ih y (getm hy) (by omega) (by omega) m0 (fun r m m0=>Cnd.mk (fun _=>⟨by unfold InI;omega,⟨by omega,by omega,m0⟩,by omega⟩) fun _=>h _ _ m0) X hX
theorem z8j{e:Ex}{K:Int->Prop}(he:ExW e)(h: ∀r,K r):q16 e K:=by
 unfold q16 z5m
 rw[Zd]
 exact w43 he (by decide) (by decide) (by decide) fun r _ _=>h r
theorem j6n{g:Seg}{K:Int->Prop}(hg:SgW g)(h: ∀r,K r):R1 g K:=by
 unfold R1 q5g
 have h1:=hg.key
 have h2:=hg.kind
 rw[Zd]
 (repeat' (first|exact h _|refine Jj (by omega) fun _=> ?_|refine q3l fun _=> ?_|refine j4l fun _=> ?_|refine z8j hg.cond fun _=> ?_|assumption|(unfold InI;omega)|omega|refine Cnd.mk (fun _=> ?_) fun _=> ?_|refine⟨?_,?_⟩|intro _))
theorem j3m{l:List Seg}{K:Int->Prop}(hl: ∀g∈l,SgW g)(h: ∀r,K r):G8 l K:=by
 unfold G8 q3f
 refine fun _=>Cnd.mk (fun _=>h _) fun _=> ?_
 refine Lp1.ind (fun (i:Int)=>0<=i/\i<=l.length) (fun (i:Int)=>(l.length - i).toNat) ?_ ⟨by omega,by omega⟩
 rintro i ⟨i0,i1⟩ _
 refine Cnd.mk (fun hc=>⟨by omega,fun y hy=> ?_⟩) fun _=>h _
 dsimp only;rw[Zd]
 refine j6n (hl y (getm hy)) fun _=> ?_
 (repeat' (first|exact h _|assumption|(unfold InI;omega)|omega|refine Cnd.mk (fun _=> ?_) fun _=> ?_|refine⟨?_,?_⟩|intro _))
theorem z9o{f:Flg}{K:Int->Prop}(hf: ∀v∈f.variations,v.text.size<=1000)(h: ∀r,K r):V6 f K:=by
 unfold V6 Br
 have hv:=hf
 (repeat' (first|exact h _|(refine q80 (hv _ (getm (by assumption))) fun _=> ?_)|(refine Lp1.ind (fun (i:Int)=>0<=i/\i<=f.variations.length) (fun (i:Int)=>(f.variations.length - i).toNat) (fun i hi=> ?_) ⟨by omega,by omega⟩)|assumption|(unfold InI;omega)|omega|refine Cnd.mk (fun _=> ?_) fun _=> ?_|refine⟨?_,?_⟩|intro _))
theorem z4o{l:List Prq}{K:Int->Prop}(hl: ∀q∈l,q.flag.size<=1000)(h: ∀r,K r):Wf l K:=by
 unfold Wf Ga
 refine fun _=>Cnd.mk (fun _=>h _) fun _=> ?_
 refine Lp1.ind (fun (i:Int)=>0<=i/\i<=l.length) (fun (i:Int)=>(l.length - i).toNat) ?_ ⟨by omega,by omega⟩
 rintro i ⟨i0,i1⟩ _
 refine Cnd.mk (fun hc=>⟨by omega,fun y hy=>Jj (by have:=hl y (getm hy);omega) fun _=> ?_⟩) fun _=>h _
 (repeat' (first|exact h _|assumption|(unfold InI;omega)|omega|refine Cnd.mk (fun _=> ?_) fun _=> ?_|refine⟨?_,?_⟩|intro _))
theorem j6o{l:List Tgt}{n:Int}{K:Int->Prop}(hl: ∀t∈l,t.kind.size<=1000)(h: ∀r,K r):R2 l n K:=by
 unfold R2 q5h
 refine fun _=>Cnd.mk (fun _=>h _) fun _=> ?_
 refine Lp1.ind (fun (i:Int)=>0<=i/\i<=l.length) (fun (i:Int)=>(l.length - i).toNat) ?_ ⟨by omega,by omega⟩
 rintro i ⟨i0,i1⟩ _
 refine Cnd.mk (fun hc=>⟨by omega,fun y hy=>Jj (by have:=hl y (getm hy);omega) fun _=> ?_⟩) fun _=>h _
 (repeat' (first|exact h _|refine q3l fun _=> ?_|assumption|(unfold InI;omega)|omega|refine Cnd.mk (fun _=> ?_) fun _=> ?_|refine⟨?_,?_⟩|intro _))
theorem j2r{n:Int}{s:Srv}{K:Int->Prop}(hs:SrW s)(h: ∀r,K r):q06 s n K:=by
 unfold q06 z1x
 have h1:=hs.kind
 have h2:=hs.by_
 (repeat' (first|exact h _|refine Jj (by omega) fun _=> ?_|refine Vw fun _=> ?_|refine q8z fun _ _ _=> ?_|assumption|(unfold InI;omega)|omega|refine Cnd.mk (fun _=> ?_) fun _=> ?_|refine⟨?_,?_⟩|intro _))
theorem w1h{n:Int}{l:List Rul}{K:Int->Prop}(hl: ∀r∈l,RlW r)(h: ∀r,K r):q3w l n K:=by
 unfold q3w z1y
 refine fun _=>Cnd.mk (fun _=>h _) fun _=> ?_
 refine Lp1.ind (fun (i:Int)=>0<=i/\i<=l.length) (fun (i:Int)=>(l.length - i).toNat) ?_ ⟨by omega,by omega⟩
 rintro i ⟨i0,i1⟩ _
 refine Cnd.mk (fun hc=>⟨by omega,fun y hy=>Jj (by have:=(hl y (getm hy)).name;omega) fun _=>Cnd.mk (fun _=> ?_) fun _=>h _⟩) fun _=>h _
 refine Lp1.ind (fun (j:Int)=>0<=j/\j<=i) (fun (j:Int)=>(i - j).toNat) ?_ ⟨by omega,by omega⟩
 rintro j ⟨j0,j1⟩
 refine Cnd.mk (fun hc=>⟨by omega,fun y hy=>⟨by omega,fun z hz=>Cnd.mk (fun _=>h _) fun _=>⟨by unfold InI;omega,⟨by omega,by omega⟩,by omega⟩⟩⟩) fun _=>⟨by omega,fun y hy=> ?_⟩
 dsimp only;rw[Zd]
 refine z8j (hl y (getm hy)).cond fun _=>Cnd.mk (fun _=>⟨by omega,fun z hz=>j2r (hl z (getm hz)).serve fun _=> ?_⟩) fun _=>h _
 (repeat' (first|exact h _|assumption|(unfold InI;omega)|omega|refine Cnd.mk (fun _=> ?_) fun _=> ?_|refine⟨?_,?_⟩|intro _))
theorem w44{f:Flg}{K:Int->Prop}(hf:FlW f)(h: ∀r,K r):q60 f K:=by
 unfold q60 z5n
 have h1:=hf.key
 (repeat' (first|exact h _|refine Jj (by omega) fun _=> ?_|refine z9o hf.vals fun _=> ?_|refine z4o hf.needs fun _=> ?_|refine j6o hf.tgts fun _=> ?_|refine w1h hf.rules fun _=> ?_|refine j2r hf.dflt fun _=> ?_|assumption|(unfold InI;omega)|omega|refine Cnd.mk (fun _=> ?_) fun _=> ?_|refine⟨?_,?_⟩|intro _))
theorem w1i{l:List Flg}{K:Int->Prop}(hl: ∀f∈l,FlW f)(h: ∀r,K r):q3x l K:=by
 unfold q3x z1z
 refine fun _=>Cnd.mk (fun _=>h _) fun _=> ?_
 refine Lp1.ind (fun (i:Int)=>0<=i/\i<=l.length) (fun (i:Int)=>(l.length - i).toNat) ?_ ⟨by omega,by omega⟩
 rintro i ⟨i0,i1⟩ _
 refine Cnd.mk (fun hc=>⟨by omega,fun y hy=>w44 (hl y (getm hy)) fun _=> ?_⟩) fun _=>h _
 (repeat' (first|exact h _|assumption|(unfold InI;omega)|omega|refine Cnd.mk (fun _=> ?_) fun _=> ?_|refine⟨?_,?_⟩|intro _))
theorem w1j{l:Lay_}{K:Int->Prop}(hl:LyW l)(h: ∀r,K r):q3y l K:=by
 unfold q3y z10
 have h1:=hl.key
 have h2:=hl.kind
 (repeat' (first|exact h _|refine Jj (by omega) fun _=> ?_|refine Vw fun _=> ?_|(refine Lp1.ind (fun (i:Int)=>0<=i/\i<=l.cooling.length) (fun (i:Int)=>(l.cooling.length - i).toNat) (fun i hi=> ?_) ⟨by omega,by omega⟩)|assumption|(unfold InI;omega)|omega|refine Cnd.mk (fun _=> ?_) fun _=> ?_|refine⟨?_,?_⟩|intro _))
theorem j85{l:List Lay_}{K:Int->Prop}(hl: ∀f∈l,LyW f)(h: ∀r,K r):q07 l K:=by
 unfold q07 q74
 refine fun _=>Cnd.mk (fun _=>h _) fun _=> ?_
 refine Lp1.ind (fun (i:Int)=>0<=i/\i<=l.length) (fun (i:Int)=>(l.length - i).toNat) ?_ ⟨by omega,by omega⟩
 rintro i ⟨i0,i1⟩ _
 refine Cnd.mk (fun hc=>⟨by omega,fun y hy=>w1j (hl y (getm hy)) fun _=> ?_⟩) fun _=>h _
 (repeat' (first|exact h _|assumption|(unfold InI;omega)|omega|refine Cnd.mk (fun _=> ?_) fun _=> ?_|refine⟨?_,?_⟩|intro _))
theorem z9p{x:Exper}{K:Int->Prop}(hx:XpW x)(h: ∀r,K r):V7 x K:=by
 unfold V7 Bs
 have h1:=hx.key
 have h2:=hx.layer
 have h3:=hx.flag
 rw[Zd]
 (repeat' (first|exact h _|refine Jj (by omega) fun _=> ?_|refine Vw fun _=> ?_|refine j2f fun _ _ _=> ?_|refine q8z fun _ _ _=> ?_|refine z8j hx.cond fun _=> ?_|assumption|(unfold InI;omega)|omega|refine Cnd.mk (fun _=> ?_) fun _=> ?_|refine⟨?_,?_⟩|intro _))
theorem v6h{α:Type}{k:α->ByteArray}{l:List α}(h: ∀(i:Nat) a b,l[i]? =some a->l[i+1]? =some b->Lk.blt (k a) (k b)):(l.map k).Nodup:=by
 have key: ∀(d i:Nat) a b,l[i]? =some a->l[i+1+d]? =some b->Lk.blt (k a) (k b):=fun d=>by
  induction d with
  |zero=>exact h
  |succ d ih=>
   intro i a b ha hb
   obtain⟨c,hc⟩:=getq (l:=l) (k:=i+1+d) (by have:=Qe hb;omega)
   exact j0g (ih i a c ha hc) (h _ c b hc hb)
 rw[List.nodup_iff_pairwise_ne,List.pairwise_iff_getElem]
 intro i j hi hj hij e
 rw[List.length_map] at hi hj
 rw[List.getElem_map,List.getElem_map] at e
 have:=key (j - i - 1) i l[i] l[j] (List.getElem?_eq_getElem hi) (by rw[show i+1+(j - i - 1)=j by omega];exact List.getElem?_eq_getElem hj)
 rw[e] at this
 exact z1h _ this
theorem z8k{l:List Exper}{K:Int->Prop}(hl: ∀f∈l,XpW f)(h: ∀r,(r=0->(l.map Exper.key).Nodup)->K r):Vc l K:=by
 unfold Vc H7
 have no: ∀{r:Int},r≠0->K r:=fun hr=>h _ fun k=>absurd k hr
 refine fun _=>Cnd.mk (fun _=>no (by decide)) fun _=> ?_
 refine Lp1.ind (fun (i:Int)=> ∃j:Nat,i=(j:Int)/\j<=l.length/\ ∀(q:Nat) a b,q+1<j->l[q]? =some a->l[q+1]? =some b->Lk.blt a.1 b.1) (fun (i:Int)=>(l.length - i).toNat) ?_ ⟨0,rfl,by omega,fun q a b hq=>by omega⟩
 rintro i ⟨j,rfl,hj,hasc⟩ _
 refine Cnd.mk (fun hc=>⟨by omega,fun y hy=> ?_⟩) fun hc=>h _ fun _=>v6h fun q a b ha hb=>hasc q a b (by have:=Qe hb;omega) ha hb
 have hy:l[j]? =some y:=hy
 dsimp only;rw[Zd]
 refine z9p (hl y (getm hy)) fun e=>Cnd.mk (fun _=>Cnd.mk (fun hpos=>⟨by omega,fun y2 hy2=>⟨by unfold InI;omega,by omega,fun z hz=>Cnd.mk (fun hlt=>⟨by unfold InI;omega,⟨j+1,by omega,by omega,fun q a b hq ha hb=> ?_⟩,by omega⟩) fun _=>no (by decide)⟩⟩) fun hz=>⟨by unfold InI;omega,⟨j+1,by omega,by omega,fun q a b hq=>by omega⟩,by omega⟩) fun he=>no he
 have hy2:l[j]? =some y2:=hy2
 have hz:l[j - 1]? =some z:=by rw[show ((j:Int) - 1).toNat=j - 1 by omega] at hz;exact hz
 by_cases e2:q+1=j
 ·rw[show q=j - 1 by omega,hz] at ha
  rw[e2,hy2] at hb
  cases ha;cases hb;exact hlt
 ·exact hasc q a b (by omega) ha hb
theorem q7m{v:Envt}{K:Int->Prop}(hv:EnvW v)(h: ∀r,(r=0->NdX v)->K r):Wo v K:=by
 unfold Wo H8
 have no: ∀{r:Int},¬r=0->K r:=fun hr=>h _ fun k=>absurd k hr
 exact z3j (s:=Sett.mk v.1.1 v.1.2 v.1.3) hv.hk fun _=>Cnd.mk (fun _=>z3k hv.attrs fun _=>Cnd.mk (fun _=>j3m hv.segs fun _=>Cnd.mk (fun _=>w1i hv.flags fun _=>Cnd.mk (fun _=>j85 hv.layers fun _=>Cnd.mk (fun _=>z8k hv.exps fun r hr=>h r hr) no) no) no) no) no
end Go.En
end
noncomputable section
set_option maxRecDepth 100000
namespace Go.En
open Go Go.Fl Go.Fl.Lk Go.Fx
theorem v6i{list:List Int}{a:Int}{segs:List Seg}{Kc:Flg->Int->List Seg->Prop}(hD:DS list a)(hsl:segs.length<=3)(hsegs: ∀g∈segs,SegS g)(h: ∀f a,FlgS f->DS list a->Kc f a segs):Q3 list a (5:Int) fun Qk Jv=>InI ((1:Int)+Qk)/\Q3 list Jv (6:Int) fun Qo q6j=>Q3 list q6j (4:Int) fun Zi q5y=>InI ((1:Int)+Zi)/\Lp4 (fun Zj R9 v41 w5c v6l=>Cnd (Zj<1+Zi) (Uy list R9 ((1:Int)+Qk) fun Zx z27=>Sml (v41++[Zx]).length/\InI (Zj+1)/\v6l (Zj+1) z27 (v41++[Zx]) w5c) (Q3 list R9 ((1:Int)+Zi) fun Zx z27=>InI ((1:Int)+Zx)/\Lp4 (fun J8 z2m v4p w80 v8x=>Cnd (J8<0) (Q3 list z2m (4:Int) fun Z1 U7=>Cnd (Z1=1) False (InI (J8+1)/\v8x (J8+1) U7 v4p w80)) (Lp5 (fun Z1 U7 z28 j3s w1o w85=>Q3 list U7 (3:Int) fun J2 q83=>Cnd (Z1<J2) (Q3 list q83 ((1:Int)+Zi) fun Qw w5a=>InI ((1:Int)+Qw)/\q5d list w5a fun Qi q6k=>Jn1 (fun (Zh:ByteArray×Int×List ByteArray×List Seg×List Val×List Tgt×Unit)=>Fits Zh.2.2.1->Cnd ((0:Int)<(↑Zh.2.2.1.length:Int)) (Sml (Zh.2.2.2.2.2.1++[Tgt.mk Zh.1 ((1:Int)+Qw) Zh.2.2.1]).length/\InI (Z1+1)/\w85 (Z1+1) Zh.2.1 (Zh.2.2.2.2.2.1++[Tgt.mk Zh.1 ((1:Int)+Qw) Zh.2.2.1]) Zh.2.2.2.2.1 Zh.2.2.2.1) (InI (Z1+1)/\w85 (Z1+1) Zh.2.1 Zh.2.2.2.2.2.1 Zh.2.2.2.2.1 Zh.2.2.2.1)) fun (w86:ByteArray×Int×List ByteArray×List Seg×List Val×List Tgt×Unit->Prop)=>Q3 list q6k (4:Int) fun q0z w1p=>Cnd (q0z=1) (w86 (ByteArray.mk (Array.mk [100,101,118,105,99,101]),w1p,Qi,w1o,j3s,z28,())) (w86 (ByteArray.mk (Array.mk [117,115,101,114]),w1p,Qi,w1o,j3s,z28,()))) (Jn1 (fun (Qw:Int×List Rul×List ByteArray×List Seg×List Val×List Tgt×Unit)=>Bi list Qw.1 ((1:Int)+Zi) fun Qi q6k=>Kc (Flg.mk (ByteArray.mk (Array.mk [102,122])) ((1:Int)+Qk) Qw.2.2.2.2.1 (decide (Qo<5)) ((1:Int)+Zx) [] Qw.2.2.2.2.2.1 Qw.2.1 Qi) q6k Qw.2.2.2.1) fun (w1q:Int×List Rul×List ByteArray×List Seg×List Val×List Tgt×Unit->Prop)=>LpH (fun (Qi:Int×Int×List Rul×List ByteArray×List Seg×List Val×List Tgt×Unit) (w49:Int×Int×List Rul×List ByteArray×List Seg×List Val×List Tgt×Unit->Prop)=>Q3 list Qi.2.1 (5:Int) fun Zh z6k=>Cnd (Qi.1<Zh) (At Qi.2.2.2.1 Qi.1 fun y15=>V1 (Envt.mk (Sett.mk (ByteArray.mk (Array.mk [])) (ByteArray.mk (Array.mk [])) (0:Int)) [] Qi.2.2.2.2.1 [] [] []) fun G1=>q5e list z6k G1 (3:Int) fun Qh z9q=>Bi list z9q ((1:Int)+Zi) fun Q9 j2w=>Sml (Qi.2.2.1++[Rul.mk y15 (Ex.mk Qh.1 Qh.2 Qh.3 Qh.4 Qh.5) Q9]).length/\J6 (Qi.2.2.1++[Rul.mk y15 (Ex.mk Qh.1 Qh.2 Qh.3 Qh.4 Qh.5) Q9]) fun G2 _ v42=>Cnd (v42=true) (Fits G2->Cnd ((0:Int)<(↑G2.length:Int)) ((Qi.2.2.1++[Rul.mk y15 (Ex.mk Qh.1 Qh.2 Qh.3 Qh.4 Qh.5) Q9]).length<=(9223372036854775807:Nat)->InI ((↑(Qi.2.2.1++[Rul.mk y15 (Ex.mk Qh.1 Qh.2 Qh.3 Qh.4 Qh.5) Q9]).length:Int) - 1)/\((0:Int)<=(↑(Qi.2.2.1++[Rul.mk y15 (Ex.mk Qh.1 Qh.2 Qh.3 Qh.4 Qh.5) Q9]).length:Int) - 1/\(↑(Qi.2.2.1++[Rul.mk y15 (Ex.mk Qh.1 Qh.2 Qh.3 Qh.4 Qh.5) Q9]).length:Int) - 1<=(↑(Qi.2.2.1++[Rul.mk y15 (Ex.mk Qh.1 Qh.2 Qh.3 Qh.4 Qh.5) Q9]).length:Int))/\w1q (j2w,List.take ((↑(Qi.2.2.1++[Rul.mk y15 (Ex.mk Qh.1 Qh.2 Qh.3 Qh.4 Qh.5) Q9]).length:Int) - 1).toNat (Qi.2.2.1++[Rul.mk y15 (Ex.mk Qh.1 Qh.2 Qh.3 Qh.4 Qh.5) Q9]),Qi.2.2.2.1,Qi.2.2.2.2.1,Qi.2.2.2.2.2.1,Qi.2.2.2.2.2.2.1,())) (InI (Qi.1+1)/\w49 (Qi.1+1,j2w,Qi.2.2.1++[Rul.mk y15 (Ex.mk Qh.1 Qh.2 Qh.3 Qh.4 Qh.5) Q9],Qi.2.2.2.1,Qi.2.2.2.2.1,Qi.2.2.2.2.2.1,Qi.2.2.2.2.2.2.1,()))) ((Qi.2.2.1++[Rul.mk y15 (Ex.mk Qh.1 Qh.2 Qh.3 Qh.4 Qh.5) Q9]).length<=(9223372036854775807:Nat)->InI ((↑(Qi.2.2.1++[Rul.mk y15 (Ex.mk Qh.1 Qh.2 Qh.3 Qh.4 Qh.5) Q9]).length:Int) - 1)/\((0:Int)<=(↑(Qi.2.2.1++[Rul.mk y15 (Ex.mk Qh.1 Qh.2 Qh.3 Qh.4 Qh.5) Q9]).length:Int) - 1/\(↑(Qi.2.2.1++[Rul.mk y15 (Ex.mk Qh.1 Qh.2 Qh.3 Qh.4 Qh.5) Q9]).length:Int) - 1<=(↑(Qi.2.2.1++[Rul.mk y15 (Ex.mk Qh.1 Qh.2 Qh.3 Qh.4 Qh.5) Q9]).length:Int))/\w1q (j2w,List.take ((↑(Qi.2.2.1++[Rul.mk y15 (Ex.mk Qh.1 Qh.2 Qh.3 Qh.4 Qh.5) Q9]).length:Int) - 1).toNat (Qi.2.2.1++[Rul.mk y15 (Ex.mk Qh.1 Qh.2 Qh.3 Qh.4 Qh.5) Q9]),Qi.2.2.2.1,Qi.2.2.2.2.1,Qi.2.2.2.2.2.1,Qi.2.2.2.2.2.2.1,()))) (w1q (z6k,Qi.2.2.1,Qi.2.2.2.1,Qi.2.2.2.2.1,Qi.2.2.2.2.2.1,Qi.2.2.2.2.2.2.1,()))) ((0:Int),q83,[],[ByteArray.mk (Array.mk [102,105,114,115,116]),ByteArray.mk (Array.mk [115,101,99,111,110,100]),ByteArray.mk (Array.mk [116,104,105,114,100]),ByteArray.mk (Array.mk [102,111,117,114,116,104])],w1o,j3s,z28,()))) (0:Int) z2m [] w80 v4p)) (0:Int) z27 w5c v41)) (0:Int) q5y [] segs:=by
 refine Qc hD (by decide) fun kind a k0 k1 hD=>⟨by unfold InI;omega,Qc hD (by decide) fun on a _ _ hD=>Qc hD (by decide) fun m a m0 m1 hD=>⟨by unfold InI;omega,?_⟩⟩
 refine Lp4.ind (fun (j:Int) (a:Int) (vals:List Val) (sg:List Seg)=>0<=j/\j<=1+m/\DS list a/\(vals.length:Int)=j/\(∀v∈vals,ValS v)/\sg=segs) (fun j _ _ _=>(1+m - j).toNat) ?_ ⟨Int.le_refl 0,by omega,hD,rfl,by simp,rfl⟩
 rintro j a vals sg ⟨j0,j1,hD,hvl,hvs,hsg⟩
 cases hsg
 refine Cnd.mk (fun hc=>q1j hD fun v a hv hD=>⟨by unfold Sml;simp;omega,by unfold InI;omega,⟨by omega,by omega,hD,by simp;omega,Zc hvs hv,rfl⟩,by omega⟩) fun hc=> ?_
 refine Qc hD (by omega) fun off a o0 o1 hD=>⟨by unfold InI;omega,?_⟩
 have hvm:(vals.length:Int)=1+m:=by omega
 refine Lp4.ind (fun (j:Int) (a:Int) (sg:List Seg) (vs:List Val)=>j=0/\DS list a/\sg=segs/\vs=vals) (fun _ _ _ _=>0) ?_ ⟨rfl,hD,rfl,rfl⟩
 rintro j a sg vs ⟨hj,hD,hsg,hvs2⟩
 cases hj;cases hsg;cases hvs2
 refine Cnd.no (by decide) ?_
 refine Lp5.ind (fun (j:Int) (a:Int) (tgts:List Tgt) (vs:List Val) (sg:List Seg)=>0<=j/\j<=3/\(tgts.length:Int)<=j/\(∀t∈tgts,t.kind.size<=100)/\DS list a/\vs=vals/\sg=segs) (fun j _ _ _ _=>(3 - j).toNat) ?_ ⟨Int.le_refl 0,by omega,by simp,by simp,hD,rfl,rfl⟩
 rintro j a tgts vs sg ⟨j0,j1,htl,hts,hD,hvs2,hsg⟩
 cases hsg;cases hvs2
 refine Qc hD (by decide) fun q a q0 q1 hD=>Cnd.mk (fun hc=>Qc hD (by omega) fun w a w0 w1 hD=>⟨by unfold InI;omega,q7h hD fun ks a hks _ hD=> ?_⟩) fun _=> ?_
 ·refine Jn1.mk (fun x=>x.1.size<=100/\DS list x.2.1/\x.2.2=(ks,segs,vals,tgts,())) (Qc hD (by decide) fun r a _ _ hD=>Cnd.mk (fun _=>⟨(by decide:(ByteArray.mk (Array.mk [100,101,118,105,99,101])).size<=100),hD,rfl⟩) fun _=>⟨(by decide:(ByteArray.mk (Array.mk [117,115,101,114])).size<=100),hD,rfl⟩) ?_
  rintro⟨kd,a,rest⟩ ⟨hkd,hD,hr⟩
  simp only at hkd hD hr⊢
  subst hr
  simp only
  exact fun _=>Cnd.mk (fun _=>⟨by unfold Sml;simp;omega,by unfold InI;omega,⟨by omega,by omega,by simp;omega,Zc hts hkd,hD,trivial,trivial⟩,by omega⟩) fun _=>⟨by unfold InI;omega,⟨by omega,by omega,by omega,hts,hD,trivial,trivial⟩,by omega⟩
 refine Jn1.mk (fun (x:Int×List Rul×List ByteArray×List Seg×List Val×List Tgt×Unit)=>DS list x.1/\x.2.1.length<=4/\(∀r∈x.2.1,RulS (1+m) r)/\x.2.2.2=(segs,vals,tgts,())) ?_ ?_
 case refine_2=>
  rintro⟨a,rules,names,rest⟩ ⟨hD,hrl,hrs,hr⟩
  simp only at hD hrl hrs hr⊢
  subst hr
  simp only
  refine z8a hD (by omega) (by omega) fun s a hs hD=>h _ _ ⟨(by decide:(ByteArray.mk (Array.mk [102,122])).size<=100),⟨by simp only;omega,by simp only;omega⟩,hvs,by simp,by simp,by simp only;omega,hts,hrl,by rw[hvm];exact hrs,by rw[hvm];exact hs⟩ hD
 have nm4: ∀s∈([ByteArray.mk (Array.mk [102,105,114,115,116]),ByteArray.mk (Array.mk [115,101,99,111,110,100]),ByteArray.mk (Array.mk [116,104,105,114,100]),ByteArray.mk (Array.mk [102,111,117,114,116,104])]:List ByteArray),s.size<=100:=by decide
 have nl4:([ByteArray.mk (Array.mk [102,105,114,115,116]),ByteArray.mk (Array.mk [115,101,99,111,110,100]),ByteArray.mk (Array.mk [116,104,105,114,100]),ByteArray.mk (Array.mk [102,111,117,114,116,104])]:List ByteArray).length=4:=rfl
 generalize ([ByteArray.mk (Array.mk [102,105,114,115,116]),ByteArray.mk (Array.mk [115,101,99,111,110,100]),ByteArray.mk (Array.mk [116,104,105,114,100]),ByteArray.mk (Array.mk [102,111,117,114,116,104])]:List ByteArray)=ns4 at nm4 nl4⊢
 refine LpH.ind (fun (x:Int×Int×List Rul×List ByteArray×List Seg×List Val×List Tgt×Unit)=>0<=x.1/\x.1<=4/\DS list x.2.1/\(x.2.2.1.length:Int)=x.1/\(∀r∈x.2.2.1,RulS (1+m) r)/\x.2.2.2=(ns4,segs,vals,tgts,())) (fun x=>(4 - x.1).toNat) ?_ ⟨Int.le_refl 0,by simp,hD,rfl,by simp,rfl⟩
 rintro⟨j,a,rules,rest⟩ ⟨j0,j1,hD,hrl,hrs,hr⟩
 simp only at j0 j1 hD hrl hrs hr⊢
 subst hr
 simp only
 refine Qc hD (by decide) fun q a q0 q1 hD=>Cnd.mk (fun hc=>⟨by rw[nl4];omega,fun y hy=> ?_⟩) fun _=>⟨hD,by omega,hrs,trivial⟩
 refine q2v (by simp only;omega) (w8e (fun s hs=> ?_) 2 (by omega) (by decide) (by decide) hD fun e a he hD=>z8a hD (by omega) (by omega) fun s a hs hD=>⟨by unfold Sml;simp;omega,?_⟩)
 ·obtain⟨g,hg,rfl⟩:=List.mem_map.1 hs;exact (hsegs g hg).key
 have hrs':=Zc hrs (x:=Rul.mk y (Ex.mk e.1 e.2 e.3 e.4 e.5) s) ⟨nm4 y (getm hy),he.eta,hs⟩
 have hl':(rules++[Rul.mk y (Ex.mk e.1 e.2 e.3 e.4 e.5) s]).length=rules.length+1:=by simp
 have cut: ∀r∈List.take (((rules++[Rul.mk y (Ex.mk e.1 e.2 e.3 e.4 e.5) s]).length:Int) - 1).toNat (rules++[Rul.mk y (Ex.mk e.1 e.2 e.3 e.4 e.5) s]),RulS (1+m) r:=fun r hr=>hrs' r (List.mem_of_mem_take hr)
 generalize rules++[Rul.mk y (Ex.mk e.1 e.2 e.3 e.4 e.5) s]=rs at hrs' hl' cut⊢
 refine q0h (by omega) (fun r hr=>(hrs' r hr).cond) fun o n b ho=>Cnd.mk (fun _ _=>Cnd.mk (fun _ _=>⟨by unfold InI;omega,by omega,hD,by simp only[List.length_take];omega,cut,trivial⟩) fun _=>⟨by unfold InI;omega,⟨by omega,by omega,hD,by omega,hrs',trivial⟩,by omega⟩) fun _ _=>⟨by unfold InI;omega,by omega,hD,by simp only[List.length_take];omega,cut,trivial⟩
structure ChI(hkind:ByteArray)(attrs:List Decl)(segs:List Seg)(flags:List Flg)(layers:List Lay_)(exps:List Exper)(i:Int):Prop where
 hk:hkind.size<=100
 at_: ∀d∈attrs,d.kind.size<=100/\d.name.size<=100
 sl:segs.length<=3
 sg: ∀g∈segs,SegS g
 fn:(flags.length:Int)<=4+i
 fl: ∀f∈flags,FlgS f
 ln:layers.length<=2
 ly: ∀l∈layers,LayS l
 xn:exps.length<=3
 ex: ∀x∈exps,ExpS x
theorem w8w{α:Type}{P:α->Prop}{l:List α}{a b c:Nat}(h: ∀x∈l,P x): ∀x∈List.take a l++List.drop b (List.take c l),P x:=fun x hx=>(List.mem_append.1 hx).elim (fun k=>h x (List.mem_of_mem_take k)) fun k=>h x (List.mem_of_mem_take (List.mem_of_mem_drop k))
theorem j6p{α:Type}{l:List α}{x:Int}(h0:0<=x)(h1:x<l.length):(List.take x.toNat l++List.drop (x+1).toNat (List.take (l.length:Int).toNat l)).length<=l.length:=by
 rw[List.length_append,List.length_take,List.length_drop,List.length_take];omega
theorem w1k{list:List Int}{at_ now:Int}{v:Envt}{K:Envt->Int->Prop}(hD:DS list at_)(hv:EnvS v)(hal:v.2.length<=100)(h: ∀w a,EnvW w->DS list a->K w a):z18 list at_ v now K:=by
 unfold z18 z7g
 have h1:=hv.slen
 have h2:=hv.flen
 have h3:=hv.llen
 have h4:=hv.xlen
 have tt: ∀s∈q95,s.size<=100:=by decide
 have usr:(ByteArray.mk (Array.mk [117,115,101,114])).size<=100:=by decide
 simp only[List.nil_append]
 refine⟨by unfold Sml;omega,by unfold Sml;omega,by unfold Sml;omega,by unfold Sml;omega,by unfold Sml;omega,?_⟩
 refine LpH.ind (fun (x:Int×ByteArray×ByteArray×Int×List Decl×List Flg×List Exper×Int×List Lay_×List Seg×Unit)=>0<=x.1/\x.1<=3/\DS list x.2.2.2.2.2.2.2.1/\ChI x.2.2.1 x.2.2.2.2.1 x.2.2.2.2.2.2.2.2.2.1 x.2.2.2.2.2.1 x.2.2.2.2.2.2.2.2.1 x.2.2.2.2.2.2.1 x.1) (fun x=>(3 - x.1).toNat) ?_ ⟨Int.le_refl 0,by simp,hD,⟨hv.hkind,hv.attrs,h1,hv.segs,by simp only;omega,hv.flags,h3,hv.layers,h4,hv.exps⟩⟩
 rintro⟨i,salt,hkind,hold,attrs,flags,exps,a,layers,segs,u⟩ ⟨i0,i1,hD,hI⟩
 simp only at i0 i1 hD hI⊢
 have c1:=hI.sl
 have c2:=hI.fn
 have c3:=hI.ln
 have c4:=hI.xn
 refine Qc hD (by decide) fun r a r0 r1 hD=>Cnd.mk (fun hir=> ?_) fun _=>h _ _ ⟨by have:=hI.hk;simp only;omega,fun d hd=>by have:=hI.at_ d hd;omega,fun g hg=>(hI.sg g hg).w,fun f hf=>(hI.fl f hf).w,fun l hl=>(hI.ly l hl).w,fun x hx=>(hI.ex x hx).w,by simp only;omega,by simp only;omega,by simp only;omega⟩ hD
 have nx: ∀{hkind:ByteArray} {attrs:List Decl} {flags:List Flg} {exps:List Exper} {a:Int} {layers:List Lay_} {segs:List Seg},DS list a->ChI hkind attrs segs flags layers exps (i+1)->InI (i+1)/\(0<=i+1/\i+1<=3/\DS list a/\ChI hkind attrs segs flags layers exps (i+1))/\(3 - (i+1)).toNat<(3 - i).toNat:=fun hD hJ=>⟨by unfold InI;omega,⟨by omega,by omega,hD,hJ⟩,by omega⟩
 have hJ:ChI hkind attrs segs flags layers exps (i+1):=⟨hI.hk,hI.at_,hI.sl,hI.sg,by omega,hI.fl,hI.ln,hI.ly,hI.xn,hI.ex⟩
 have fzd: ∀{f:Flg},FlgS f->ChI hkind attrs segs (flags++[f]) layers exps (i+1):=fun hf=>⟨hI.hk,hI.at_,hI.sl,hI.sg,by simp;omega,Zc hI.fl hf,hI.ln,hI.ly,hI.xn,hI.ex⟩
 have cutX: ∀{x:Int},0<=x->x<exps.length->ChI hkind attrs segs flags layers (List.take x.toNat exps++List.drop (x+1).toNat (List.take (exps.length:Int).toNat exps)) (i+1):=fun x0 x1=>⟨hI.hk,hI.at_,hI.sl,hI.sg,by omega,hI.fl,hI.ln,hI.ly,by have:=j6p x0 x1;omega,w8w hI.ex⟩
 refine Qc hD (by decide) fun z a z0 z1 hD=> ?_
 refine Cnd.mk (fun _=>q0f hD fun t a ht hD=>U2 hD (by decide) fun w a _ _ hD=>nx hD {hJ with hk:=usr}) fun _=> ?_
 refine Cnd.mk (fun _=>Qc hD (by decide) fun k a k0 k1 hD _=>Cnd.mk (fun hk=>q7h hD fun ks a hks _ hD=>⟨by omega,fun y hy=>nx hD {hJ with sl:=by rw[List.length_set];omega,sg:=Ut hI.sg ?_}⟩) fun _=>nx hD hJ) fun _=> ?_
 ·have:=hI.sg y (getm hy)
  exact⟨this.key,this.kind,hks,this.excl,this.cond.eta⟩
 refine Cnd.mk (fun _=>Qc hD (by decide) fun k a k0 k1 hD _=>Cnd.mk (fun hk=>⟨by omega,fun y hy=>⟨by omega,fun y2 hy2=>nx hD {hJ with fn:=by rw[List.length_set];omega,fl:=Ut hI.fl ?_}⟩⟩) fun _=>nx hD hJ) fun _=> ?_
 ·have:=hI.fl y2 (getm hy2)
  exact⟨this.key,this.vlen,this.vals,this.nlen,this.needs,this.tlen,this.tgts,this.rlen,this.rules,this.dflt⟩
 refine Cnd.mk (fun _=>Qc hD (by decide) fun k a k0 k1 hD _=>Cnd.mk (fun hk=>⟨by omega,fun y hy _=>z8a hD (by have:=(hI.fl y (getm hy)).vlen;omega) (by have:=(hI.fl y (getm hy)).vlen;omega) fun s a hs hD=>⟨by omega,fun y2 hy2=>nx hD {hJ with fn:=by rw[List.length_set];omega,fl:=Ut hI.fl ?_}⟩⟩) fun _=>nx hD hJ) fun _=> ?_
 ·have:=hI.fl y2 (getm hy2)
  rw[hy] at hy2;cases hy2
  exact⟨this.key,this.vlen,this.vals,this.nlen,this.needs,this.tlen,this.tgts,this.rlen,this.rules,hs⟩
 refine Cnd.mk (fun _=>Qc hD (by decide) fun k a k0 k1 hD _=>Cnd.mk (fun hk=>⟨by omega,by unfold InI;omega,by omega,⟨trivial,by omega⟩,by have:=j6p k0 hk;unfold Sml;omega,nx hD {hJ with fn:=by have:=j6p k0 hk;omega,fl:=w8w hI.fl}⟩) fun _=>nx hD hJ) fun _=> ?_
 have fzk: ∀{a:Int},DS list a-> ∀f a,FlgS f->DS list a->Sml (flags++[f]).length/\InI (i+1)/\(0<=i+1/\i+1<=3/\DS list a/\ChI hkind attrs segs (flags++[f]) layers exps (i+1))/\(3 - (i+1)).toNat<(3 - i).toNat:=fun _ f a hf hD=>⟨by unfold Sml;simp;omega,nx hD (fzd hf)⟩
 refine Cnd.mk (fun _ _=>Cnd.mk (fun _=>v6i hD hI.sl hI.sg (Kc:=fun f a sg=>Sml (flags++[f]).length/\InI (i+1)/\(0<=i+1/\i+1<=3/\DS list a/\ChI hkind attrs sg (flags++[f]) layers exps (i+1))/\(3 - (i+1)).toNat<(3 - i).toNat) (fzk hD)) fun hne _=>⟨by unfold InI;omega,by omega,fun y hy=>Cnd.mk (fun _=>v6i hD hI.sl hI.sg (Kc:=fun f a sg=>Sml (flags++[f]).length/\InI (i+1)/\(0<=i+1/\i+1<=3/\DS list a/\ChI hkind attrs sg (flags++[f]) layers exps (i+1))/\(3 - (i+1)).toNat<(3 - i).toNat) (fzk hD)) fun _=>nx hD hJ⟩) fun _=> ?_
 refine Cnd.mk (fun _=>Qc hD (by decide) fun k a k0 k1 hD _=>Cnd.mk (fun hk=>⟨by omega,fun y hy=>nx hD {hJ with ln:=by rw[List.length_set];omega,ly:=Ut hI.ly ?_}⟩) fun _=>nx hD hJ) fun _=> ?_
 ·have:=hI.ly y (getm hy)
  exact⟨this.key,this.kind,this.salt,this.hold,this.cool,by simp⟩
 refine Cnd.mk (fun _=>Qc hD (by decide) fun k a k0 k1 hD _=>Cnd.mk (fun hk=>Qc hD (by decide) fun q a q0 q1 hD=>⟨by unfold InI;omega,by omega,fun y hy=>nx hD {hJ with xn:=by rw[List.length_set];omega,ex:=Ut hI.ex ?_}⟩) fun _=>nx hD hJ) fun _=> ?_
 ·have:=hI.ex y (getm hy)
  exact⟨this.key,this.layer,this.flag,this.claims,this.arms,this.cond.eta⟩
 refine Cnd.mk (fun _=>Qc hD (by decide) fun k a k0 k1 hD _=>Cnd.mk (fun hk=>⟨by omega,fun y hy=>U2 hD (by decide) fun w a w0 w1 hD=>z08 ⟨by omega,by omega⟩ fun c hc=>⟨by omega,fun y2 hy2=>nx hD {hJ with xn:=by rw[List.length_set];omega,ex:=Ut hI.ex ?_}⟩⟩) fun _=>nx hD hJ) fun _=> ?_
 ·have:=hI.ex y2 (getm hy2)
  exact⟨this.key,this.layer,this.flag,hc,this.arms,this.cond.eta⟩
 have del: ∀{a:Int},DS list a->Q3 list a (4:Int) fun Qo q6j=>Fits exps->Cnd (Qo<(↑exps.length:Int)) (((0:Int)<=(0:Int)/\(0:Int)<=Qo/\Qo<=(↑exps.length:Int))/\InI (Qo+1)/\((0:Int)<=Qo+1/\Qo+1<=(↑exps.length:Int)/\(↑exps.length:Int)<=(↑exps.length:Int))/\(True/\(0:Int)<=Qo/\Qo<=Qo+1/\Qo+1<=(↑exps.length:Int)/\(↑exps.length:Int)<=(↑exps.length:Int))/\Sml (List.take Qo.toNat exps++List.drop (Qo+1).toNat (List.take (↑exps.length:Int).toNat exps)).length/\InI (i+1)/\(0<=i+1/\i+1<=3/\DS list q6j/\ChI hkind attrs segs flags layers (List.take Qo.toNat exps++List.drop (Qo+1).toNat (List.take (↑exps.length:Int).toNat exps)) (i+1))/\(3 - (i+1)).toNat<(3 - i).toNat) (InI (i+1)/\(0<=i+1/\i+1<=3/\DS list q6j/\ChI hkind attrs segs flags layers exps (i+1))/\(3 - (i+1)).toNat<(3 - i).toNat):=fun hD=>Qc hD (by decide) fun k a k0 k1 hD _=>Cnd.mk (fun hk=>⟨by omega,by unfold InI;omega,by omega,⟨trivial,by omega⟩,by have:=j6p k0 hk;unfold Sml;omega,nx hD (cutX k0 hk)⟩) fun _=>nx hD hJ
 refine Cnd.mk (fun _ _=>Cnd.mk (fun hpos=>Qc hD (by decide) fun q a q0 q1 hD=>Cnd.mk (fun _ _=>⟨by unfold InI;omega,by omega,nx hD {hJ with at_:=fun d hd=>hI.at_ d (List.mem_of_mem_take hd)}⟩) fun _=>del hD) fun _=>del hD) fun _=>nx hD hJ
end Go.En
end
noncomputable section
set_option maxRecDepth 100000
namespace Go.En
open Go Go.Fl Go.Fl.Lk Go.Fx
theorem szE:(ByteArray.mk (Array.mk [])).size<=1000:=by decide
theorem fitA{a b:ByteArray}(ha:a.size<=1000)(hb:b.size<=4):((a.size+b.size:Nat):Int)<=9223372036854775807:=by omega
theorem szB{a b:ByteArray}(ha:a.size<=900)(hb:b.size<=4):(a++b).size<=1000:=by rw[ByteArray.size_append];omega
theorem Jk{list:List Int}{at_:Int}{K:ByteArray->Int->Prop}(hD:DS list at_)(h: ∀r a,r.size<=100->DS list a->K r a):H9 list at_ K:=by
 unfold H9 j5n
 have hz: ∀s∈([ByteArray.mk (Array.mk []),ByteArray.mk (Array.mk [66,97,100]),ByteArray.mk (Array.mk [57,97]),ByteArray.mk (Array.mk [111,110]),ByteArray.mk (Array.mk [107,101,121]),ByteArray.mk (Array.mk [122,122]),ByteArray.mk (Array.mk [97]),ByteArray.mk (Array.mk [97,108,112,104,97]),ByteArray.mk (Array.mk [102,97]),ByteArray.mk (Array.mk [102,98]),ByteArray.mk (Array.mk [108,97]),ByteArray.mk (Array.mk [120,97]),ByteArray.mk (Array.mk [97,98,99,100,101,102,103,104,105,106,107,108,109,110,111,112,113,114,115,116,117,118,119,120,121,122,48,49,50,51,52,53,54]),ByteArray.mk (Array.mk [117,115,101,114]),ByteArray.mk (Array.mk [97,46,98])]:List ByteArray),s.size<=100:=by decide
 have hl:([ByteArray.mk (Array.mk []),ByteArray.mk (Array.mk [66,97,100]),ByteArray.mk (Array.mk [57,97]),ByteArray.mk (Array.mk [111,110]),ByteArray.mk (Array.mk [107,101,121]),ByteArray.mk (Array.mk [122,122]),ByteArray.mk (Array.mk [97]),ByteArray.mk (Array.mk [97,108,112,104,97]),ByteArray.mk (Array.mk [102,97]),ByteArray.mk (Array.mk [102,98]),ByteArray.mk (Array.mk [108,97]),ByteArray.mk (Array.mk [120,97]),ByteArray.mk (Array.mk [97,98,99,100,101,102,103,104,105,106,107,108,109,110,111,112,113,114,115,116,117,118,119,120,121,122,48,49,50,51,52,53,54]),ByteArray.mk (Array.mk [117,115,101,114]),ByteArray.mk (Array.mk [97,46,98])]:List ByteArray).length=15:=rfl
 generalize ([ByteArray.mk (Array.mk []),ByteArray.mk (Array.mk [66,97,100]),ByteArray.mk (Array.mk [57,97]),ByteArray.mk (Array.mk [111,110]),ByteArray.mk (Array.mk [107,101,121]),ByteArray.mk (Array.mk [122,122]),ByteArray.mk (Array.mk [97]),ByteArray.mk (Array.mk [97,108,112,104,97]),ByteArray.mk (Array.mk [102,97]),ByteArray.mk (Array.mk [102,98]),ByteArray.mk (Array.mk [108,97]),ByteArray.mk (Array.mk [120,97]),ByteArray.mk (Array.mk [97,98,99,100,101,102,103,104,105,106,107,108,109,110,111,112,113,114,115,116,117,118,119,120,121,122,48,49,50,51,52,53,54]),ByteArray.mk (Array.mk [117,115,101,114]),ByteArray.mk (Array.mk [97,46,98])]:List ByteArray)=l at hz hl⊢
 exact fun _=>Qc hD (by omega) fun r a r0 r1 hD=>⟨⟨r0,r1⟩,fun y hy=>h _ _ (hz y (getm hy)) hD⟩
theorem Z0{list:List Int}{at_:Int}{K:Int->Int->Prop}(hD:DS list at_)(h: ∀r a,InI r->DS list a->K r a):Vd list at_ K:=by
 unfold Vd z7h
 have hz: ∀y∈[(0:Int),(-1:Int),(1:Int),(2:Int),(8:Int),(9:Int),(10000:Int),(10001:Int),(1099511627776:Int),(1099511627777:Int),(-1099511627777:Int),(1099511627777:Int),(4:Int),(5:Int),(6:Int)], -9223372036854775808<=y/\y<=9223372036854775807:=by decide
 have hl:[(0:Int),(-1:Int),(1:Int),(2:Int),(8:Int),(9:Int),(10000:Int),(10001:Int),(1099511627776:Int),(1099511627777:Int),(-1099511627777:Int),(1099511627777:Int),(4:Int),(5:Int),(6:Int)].length=15:=rfl
 generalize [(0:Int),(-1:Int),(1:Int),(2:Int),(8:Int),(9:Int),(10000:Int),(10001:Int),(1099511627776:Int),(1099511627777:Int),(-1099511627777:Int),(1099511627777:Int),(4:Int),(5:Int),(6:Int)]=l at hz hl⊢
 exact fun _=>Qc hD (by omega) fun r a r0 r1 hD=>⟨⟨r0,r1⟩,fun y hy=>h _ _ (by have:=hz y (getm hy);unfold InI;omega) hD⟩
theorem j86{n:Int}{K:List ByteArray->Prop}(hn:n<=1000)(h: ∀l,K l):z5p n K:=by
 unfold z5p
 refine Lp2.ind (fun (l:List ByteArray) (i:Int)=>0<=i/\i<=1000/\(l.length:Int)=i) (fun _ i=>(1000 - i).toNat) ?_ ⟨by omega,by omega,rfl⟩
 rintro l i ⟨i0,i1,hl⟩
 have d1:i.tdiv 10=i / 10:=Int.tdiv_eq_ediv_of_nonneg i0
 have d2:i.tmod 10=i % 10:=Int.tmod_eq_emod_of_nonneg i0
 refine Cnd.mk (fun hc=>⟨by decide,by rw[d1];unfold InI;omega,by rw[d1];unfold InI;omega,fitA (by decide) (Vu _),by decide,by rw[d2];unfold InI;omega,fitA (szB (by decide) (Vu _)) (Vu _),by unfold Sml;simp;omega,by unfold InI;omega,⟨by omega,by omega,by simp;omega⟩,by omega⟩) fun _=>h _
theorem j6q{list:List Int}{at_:Int}{K:Val->Int->Prop}(hD:DS list at_)(h: ∀r a,ValS r->DS list a->K r a):z34 list at_ K:=by
 unfold z34 j96
 exact Qc hD (by decide) fun k a k0 k1 hD=>⟨by unfold InI;omega,q1j hD h⟩
theorem q6i{list:List Int}: ∀(n:Nat) {at_:Int} {e:Ex} {K:Ex->Int->Prop},ExS n e->DS list at_->(∀r a,ExW r->DS list a->K r a)->Hb list at_ e K:=by
 intro n at_ e K he hD h X hX
 induction n using Nat.strongRecOn generalizing at_ e K with
 |_ n ih=>
 refine hX _ _ _ _ ?_
 unfold q8d
 have hw:=he.w
 have hkl:=he.kids
 have hvl:=he.vals.len
 simp only[List.nil_append]
 refine fun _=>Cnd.mk (fun hpos=>Qc hD (by decide) fun r a r0 r1 hD=>Cnd.mk (fun _=>⟨by unfold Sml;omega,fun _=>Qc hD (by omega) fun q a q0 q1 hD=>⟨by omega,fun y hy=> ?_⟩⟩) fun _=> ?_) fun _=> ?_
 ·obtain⟨m,hm,hk⟩:=he.kid (getm hy)
  exact ih m (by omega) hk.eta hD fun x a hx hD=>⟨by omega,fun _ _=>h _ _ (.mk _ hw.nm hw.kd hw.vl (Ut hw.kid (by rw[Zd];exact hx))) hD⟩
 ·
  refine Qc hD (by decide) fun z a z0 z1 hD=> ?_
  refine Cnd.mk (fun _=>Qc hD (by decide) fun q a q0 q1 hD=>⟨by unfold InI;omega,h _ _ (.mk _ hw.nm hw.kd hw.vl hw.kid) hD⟩) fun _=> ?_
  refine Cnd.mk (fun _=>Jk hD fun t a ht hD=>h _ _ (.mk _ hw.nm (show t.size<=1000 by omega) hw.vl hw.kid) hD) fun _=> ?_
  refine Cnd.mk (fun _=>Jk hD fun t a ht hD=>h _ _ (.mk _ (show t.size<=1000 by omega) hw.kd hw.vl hw.kid) hD) fun _=> ?_
  refine Cnd.mk (fun _=>⟨by unfold Sml;omega,j6q hD fun v a hv hD=>⟨by unfold Sml;simp;omega,h _ _ (.mk _ hw.nm hw.kd (Zc hw.vl (by have:=hv.txt;omega)) hw.kid) hD⟩⟩) fun _=> ?_
  refine Cnd.mk (fun _=>h _ _ (.mk _ hw.nm hw.kd (by simp) hw.kid) hD) fun _=> ?_
  refine Cnd.mk (fun _=>Qc hD (by decide) fun q a q0 q1 hD=>Z0 hD fun m a hm hD=>h _ _ (.mk _ hw.nm hw.kd (fun v hv=>by rw[List.mem_singleton.1 hv];exact szE) hw.kid) hD) fun _=> ?_
  refine Cnd.mk (fun _=>⟨by unfold Sml;omega,Hy hD fun t a ht _ hD=>⟨by unfold Sml;simp;omega,h _ _ (.mk _ hw.nm hw.kd hw.vl (Zc hw.kid (by rw[Zd];exact ht.w))) hD⟩⟩) fun _=> ?_
  refine Cnd.mk (fun _=> ?_) fun _=> ?_
  ·refine LpH.ind (fun (x:Int×Int×Int×ByteArray×ByteArray×List Val×List Ex×Unit)=>0<=x.1/\x.1<=11/\DS list x.2.1/\ExW (Ex.mk x.2.2.1 x.2.2.2.1 x.2.2.2.2.1 x.2.2.2.2.2.1 x.2.2.2.2.2.2.1)) (fun x=>(11 - x.1).toNat) ?_ ⟨Int.le_refl 0,by simp,hD,by simp only[Zd];exact hw⟩
   rintro⟨i,a,op,kd,nm,vs,ks,u⟩ ⟨i0,i1,hD,hx⟩
   simp only at i0 i1 hD hx⊢
   exact Qc hD (by decide) fun q a q0 q1 hD=>⟨by unfold InI;omega,Cnd.mk (fun _=>⟨by unfold InI;omega,⟨by omega,by omega,hD,.mk _ szE szE (by simp) fun k hk=>by rw[List.mem_singleton.1 hk];exact hx⟩,by omega⟩) fun _=>h _ _ hx hD⟩
  refine Cnd.mk (fun _=> ?_) fun _=> ?_
  ·refine Lp3.ind (fun (i:Int) (ks:List Ex) (a:Int)=>0<=i/\i<=11/\(ks.length:Int)<=3+i/\(∀k∈ks,ExW k)/\DS list a) (fun i _ _=>(11 - i).toNat) ?_ ⟨by omega,by omega,by omega,hw.kid,hD⟩
   rintro i ks a ⟨i0,i1,hl,hks,hD⟩
   exact Cnd.mk (fun _=>⟨by unfold Sml;omega,Hy hD fun t a ht _ hD=>⟨by unfold Sml;simp;omega,by unfold InI;omega,⟨by omega,by omega,by simp;omega,Zc hks (by rw[Zd];exact ht.w),hD⟩,by omega⟩⟩) fun _=>h _ _ (.mk _ hw.nm hw.kd hw.vl hks) hD
  exact Cnd.mk (fun _=>Hy hD fun t a ht _ hD=>h _ _ (.mk _ szE szE (by simp) fun k hk=>by
   rcases List.mem_cons.1 hk with rfl|hk
   ·rw[Zd];exact hw
   ·rw[List.mem_singleton.1 hk,Zd];exact ht.w) hD) fun _=>h _ _ (by rw[Zd];exact hw) hD
 refine Qc hD (by decide) fun z a z0 z1 hD=> ?_
 refine Cnd.mk (fun _=>Qc hD (by decide) fun q a q0 q1 hD=>⟨by unfold InI;omega,h _ _ (.mk _ hw.nm hw.kd hw.vl hw.kid) hD⟩) fun _=> ?_
 refine Cnd.mk (fun _=>Jk hD fun t a ht hD=>h _ _ (.mk _ hw.nm (show t.size<=1000 by omega) hw.vl hw.kid) hD) fun _=> ?_
 refine Cnd.mk (fun _=>Jk hD fun t a ht hD=>h _ _ (.mk _ (show t.size<=1000 by omega) hw.kd hw.vl hw.kid) hD) fun _=> ?_
 refine Cnd.mk (fun _=>⟨by unfold Sml;omega,j6q hD fun v a hv hD=>⟨by unfold Sml;simp;omega,h _ _ (.mk _ hw.nm hw.kd (Zc hw.vl (by have:=hv.txt;omega)) hw.kid) hD⟩⟩) fun _=> ?_
 refine Cnd.mk (fun _=>h _ _ (.mk _ hw.nm hw.kd (by simp) hw.kid) hD) fun _=> ?_
 refine Cnd.mk (fun _=>Qc hD (by decide) fun q a q0 q1 hD=>Z0 hD fun m a hm hD=>h _ _ (.mk _ hw.nm hw.kd (fun v hv=>by rw[List.mem_singleton.1 hv];exact szE) hw.kid) hD) fun _=> ?_
 refine Cnd.mk (fun _=>⟨by unfold Sml;omega,Hy hD fun t a ht _ hD=>⟨by unfold Sml;simp;omega,h _ _ (.mk _ hw.nm hw.kd hw.vl (Zc hw.kid (by rw[Zd];exact ht.w))) hD⟩⟩) fun _=> ?_
 refine Cnd.mk (fun _=> ?_) fun _=> ?_
 ·refine LpH.ind (fun (x:Int×Int×Int×ByteArray×ByteArray×List Val×List Ex×Unit)=>0<=x.1/\x.1<=11/\DS list x.2.1/\ExW (Ex.mk x.2.2.1 x.2.2.2.1 x.2.2.2.2.1 x.2.2.2.2.2.1 x.2.2.2.2.2.2.1)) (fun x=>(11 - x.1).toNat) ?_ ⟨Int.le_refl 0,by simp,hD,by simp only[Zd];exact hw⟩
  rintro⟨i,a,op,kd,nm,vs,ks,u⟩ ⟨i0,i1,hD,hx⟩
  simp only at i0 i1 hD hx⊢
  exact Qc hD (by decide) fun q a q0 q1 hD=>⟨by unfold InI;omega,Cnd.mk (fun _=>⟨by unfold InI;omega,⟨by omega,by omega,hD,.mk _ szE szE (by simp) fun k hk=>by rw[List.mem_singleton.1 hk];exact hx⟩,by omega⟩) fun _=>h _ _ hx hD⟩
 refine Cnd.mk (fun _=> ?_) fun _=> ?_
 ·refine Lp3.ind (fun (i:Int) (ks:List Ex) (a:Int)=>0<=i/\i<=11/\(ks.length:Int)<=3+i/\(∀k∈ks,ExW k)/\DS list a) (fun i _ _=>(11 - i).toNat) ?_ ⟨by omega,by omega,by omega,hw.kid,hD⟩
  rintro i ks a ⟨i0,i1,hl,hks,hD⟩
  exact Cnd.mk (fun _=>⟨by unfold Sml;omega,Hy hD fun t a ht _ hD=>⟨by unfold Sml;simp;omega,by unfold InI;omega,⟨by omega,by omega,by simp;omega,Zc hks (by rw[Zd];exact ht.w),hD⟩,by omega⟩⟩) fun _=>h _ _ (.mk _ hw.nm hw.kd hw.vl hks) hD
 exact Cnd.mk (fun _=>Hy hD fun t a ht _ hD=>h _ _ (.mk _ szE szE (by simp) fun k hk=>by
  rcases List.mem_cons.1 hk with rfl|hk
  ·rw[Zd];exact hw
  ·rw[List.mem_singleton.1 hk,Zd];exact ht.w) hD) fun _=>h _ _ (by rw[Zd];exact hw) hD
theorem j87{list:List Int}{at_:Int}{g:Seg}{K:Seg->Int->Prop}(hg:SegS g)(hD:DS list at_)(h: ∀r a,SgW r->DS list a->K r a):q8e list at_ g K:=by
 unfold q8e z35
 have hw:=hg.w
 have h1:=hg.incl
 simp only[List.nil_append]
 refine Qc hD (by decide) fun z a z0 z1 hD=> ?_
 refine Cnd.mk (fun _=>Jk hD fun t a ht hD=>h _ _ ⟨show t.size<=1000 by omega,hw.kind,by rw[Zd];exact hw.cond⟩ hD) fun _=> ?_
 refine Cnd.mk (fun _=>Jk hD fun t a ht hD=>h _ _ ⟨hw.key,show t.size<=1000 by omega,by rw[Zd];exact hw.cond⟩ hD) fun _=> ?_
 refine Cnd.mk (fun _=>⟨by unfold Sml;omega,w2s hD fun t a ht hD=>⟨by unfold Sml;simp;omega,h _ _ ⟨hw.key,hw.kind,by rw[Zd];exact hw.cond⟩ hD⟩⟩) fun _=> ?_
 refine Cnd.mk (fun _=>Qc hD (by decide) fun q a q0 q1 hD=>⟨by unfold InI;omega,j86 (by omega) fun l=>h _ _ ⟨hw.key,hw.kind,by rw[Zd];exact hw.cond⟩ hD⟩) fun _=> ?_
 refine Cnd.mk (fun _=>q6i 4 hg.cond.eta hD fun x a hx hD=>h _ _ ⟨hw.key,hw.kind,by rw[Zd];exact hx⟩ hD) fun _=> ?_
 exact Cnd.mk (fun _=>Jk hD fun t a ht hD=>h _ _ ⟨hw.key,hw.kind,.mk _ (show t.size<=1000 by omega) szE (by simp) (by simp)⟩ hD) fun _=>h _ _ ⟨hw.key,hw.kind,by rw[Zd];exact hw.cond⟩ hD
theorem j2s{list:List Int}{at_:Int}{l:List Rng}{K:List Rng->Int->Prop}(hl:l.length<=100)(hD:DS list at_)(h: ∀r a,r.length<=1000->DS list a->K r a):q7b list at_ l K:=by
 unfold q7b z7j
 simp only[List.nil_append]
 refine⟨by unfold Sml;omega,fun _=>Cnd.mk (fun _=>h _ _ (by omega) hD) fun hne _=>Qc hD (by omega) fun k a k0 k1 hD=>Qc hD (by decide) fun z a z0 z1 hD=> ?_⟩
 refine Cnd.mk (fun _=>Z0 hD fun m a _ hD=>⟨by omega,fun _ _=>h _ _ (by rw[List.length_set];omega) hD⟩) fun _=> ?_
 refine Cnd.mk (fun _=>Z0 hD fun m a _ hD=>⟨by omega,fun _ _=>h _ _ (by rw[List.length_set];omega) hD⟩) fun _=> ?_
 refine Cnd.mk (fun _=>Z0 hD fun m a _ hD=>⟨by omega,fun _ _=>h _ _ (by rw[List.length_set];omega) hD⟩) fun _=> ?_
 refine Cnd.mk (fun _=>⟨by omega,h _ _ (by rw[List.length_take];omega) hD⟩) fun _=> ?_
 refine Cnd.mk (fun _=>⟨by omega,fun y _=>⟨by unfold Sml;simp;omega,h _ _ (by simp;omega) hD⟩⟩) fun _=> ?_
 refine Cnd.mk (fun _=> ?_) fun _=>h _ _ (by omega) hD
 refine Lp3.ind (fun (o:List Rng) (i:Int) (a:Int)=>0<=i/\i<=17/\(o.length:Int)=i/\DS list a) (fun _ i _=>(17 - i).toNat) ?_ ⟨by omega,by omega,rfl,hD⟩
 rintro o i a ⟨i0,i1,hol,hD⟩
 have d2:i.tmod 2=i % 2:=Int.tmod_eq_emod_of_nonneg i0
 exact Qc hD (by decide) fun q a q0 q1 hD=>⟨by unfold InI;omega,Cnd.mk (fun _=>⟨by unfold InI;omega,by decide,by rw[d2];unfold InI;omega,by unfold Sml;simp;omega,by unfold InI;omega,⟨by omega,by omega,by simp;omega,hD⟩,by omega⟩) fun _ _=>⟨by unfold InI;omega,by omega,fun _ _=>h _ _ (by rw[List.length_set];omega) hD⟩⟩
theorem j4r{list:List Int}{at_:Int}{s:Srv}{K:Srv->Int->Prop}(hs:SrW s)(hl:s.5.length<=100)(hD:DS list at_)(h: ∀r a,SrW r->DS list a->K r a):z5q list at_ s K:=by
 unfold z5q j09
 refine Qc hD (by decide) fun z a z0 z1 hD=> ?_
 refine Cnd.mk (fun _=>Z0 hD fun m a _ hD=>h _ _ ⟨hs.kind,hs.by_⟩ hD) fun _=> ?_
 refine Cnd.mk (fun _=>Jk hD fun t a ht hD=>h _ _ ⟨show t.size<=1000 by omega,hs.by_⟩ hD) fun _=> ?_
 refine Cnd.mk (fun _=>Jk hD fun t a ht hD=>h _ _ ⟨hs.kind,show t.size<=1000 by omega⟩ hD) fun _=> ?_
 exact Cnd.mk (fun _=>h _ _ ⟨hs.kind,hs.by_⟩ hD) fun _=>j2s hl hD fun r a _ hD=>h _ _ ⟨hs.kind,hs.by_⟩ hD
theorem w8x{list:List Int}{at_:Int}{f:Flg}{K:Flg->Int->Prop}(hf:FlgS f)(hD:DS list at_)(h: ∀r a,FlW r->DS list a->K r a):z91 list at_ f K:=by
 unfold z91 j5o
 have hw:=hf.w
 have h1:=hf.vlen
 have h2:=hf.rlen
 have h3:=hf.tlen
 have h4:=hf.nlen
 have usr:(ByteArray.mk (Array.mk [117,115,101,114])).size<=1000:=by decide
 simp only[List.nil_append]
 have all: ∀{ky:ByteArray} {kd:Int} {vs:List Val} {of:Int} {ns:List Prq} {ts:List Tgt} {rs:List Rul} {df:Srv} {a:Int},ky.size<=1000->vs.length<=1000000->(∀v∈vs,v.text.size<=1000)->(∀q∈ns,q.flag.size<=1000)->(∀t∈ts,t.kind.size<=1000)->(∀r∈rs,RlW r)->SrW df->DS list a->K (Flg.mk ky kd vs f.4 of ns ts rs df) a:=fun k1 k2 k3 k4 k5 k6 k7 hD=>h _ _ ⟨k1,k2,k3,k4,k5,k6,k7⟩ hD
 refine⟨by unfold Sml;omega,by unfold Sml;omega,by unfold Sml;omega,by unfold Sml;omega,Qc hD (by decide) fun z a z0 z1 hD=> ?_⟩
 refine Cnd.mk (fun _=>Jk hD fun t a ht hD=>all (by omega) hw.vn hw.vals hw.needs hw.tgts hw.rules hw.dflt hD) fun _=> ?_
 refine Cnd.mk (fun _=>Z0 hD fun m a _ hD=>all hw.key hw.vn hw.vals hw.needs hw.tgts hw.rules hw.dflt hD) fun _=> ?_
 refine Cnd.mk (fun _=>j6q hD fun v a hv hD=>⟨by unfold Sml;simp;omega,all hw.key (by simp;omega) (Zc hw.vals (by have:=hv.txt;omega)) hw.needs hw.tgts hw.rules hw.dflt hD⟩) fun _=> ?_
 refine Cnd.mk (fun _ _=>⟨by unfold InI;omega,Qc hD (by omega) fun k a k0 k1 hD=>⟨by omega,all hw.key (by rw[List.length_take];omega) (fun v hv=>hw.vals v (List.mem_of_mem_take hv)) hw.needs hw.tgts hw.rules hw.dflt hD⟩⟩) fun _=> ?_
 refine Cnd.mk (fun _=>Z0 hD fun m a _ hD=>all hw.key hw.vn hw.vals hw.needs hw.tgts hw.rules hw.dflt hD) fun _=> ?_
 refine Cnd.mk (fun _=>Jk hD fun t a ht hD=>Z0 hD fun m a _ hD=>⟨by unfold Sml;simp;omega,all hw.key hw.vn hw.vals (Zc hw.needs (show t.size<=1000 by omega)) hw.tgts hw.rules hw.dflt hD⟩) fun _=> ?_
 refine Cnd.mk (fun _=>Jk hD fun t a ht hD=>q7h hD fun ks a _ _ hD=>⟨by unfold Sml;simp;omega,all hw.key hw.vn hw.vals hw.needs (Zc hw.tgts (show t.size<=1000 by omega)) hw.rules hw.dflt hD⟩) fun _=> ?_
 refine Cnd.mk (fun _=>Z0 hD fun m a _ hD=>Qc hD (by decide) fun q a q0 q1 hD=>⟨by unfold InI;omega,j86 (by omega) fun ks=>⟨by unfold Sml;simp;omega,all hw.key hw.vn hw.vals hw.needs (Zc hw.tgts usr) hw.rules hw.dflt hD⟩⟩) fun _=> ?_
 have tr: ∀{t:ByteArray},t.size<=1000->RlW (Rul.mk t (Ex.mk (1:Int) (ByteArray.mk (Array.mk [])) (ByteArray.mk (Array.mk [])) [] []) (Srv.mk f.9.1 f.9.2 f.9.3 f.9.4 f.9.5)):=fun ht=>⟨ht,.mk _ szE szE (by simp) (by simp),hw.dflt⟩
 refine Cnd.mk (fun _=>Jk hD fun t a ht hD=>⟨by unfold Sml;simp;omega,all hw.key hw.vn hw.vals hw.needs hw.tgts (Zc hw.rules (tr (by omega))) hw.dflt hD⟩) fun _=> ?_
 refine Jn1.mk (fun _=>True) (Cnd.mk (fun _=>trivial) fun _=>trivial) fun b _=> ?_
 refine Cnd.mk (fun _ _=>Cnd.mk (fun hpos _=>Qc hD (by omega) fun k a k0 k1 hD=>⟨by omega,fun y hy=>q6i 4 (hf.rules y (getm hy)).cond.eta hD fun x a hx hD=>⟨by omega,fun y2 hy2=>all hw.key hw.vn hw.vals hw.needs hw.tgts (Ut hw.rules ⟨(hw.rules y2 (getm hy2)).name,by rw[Zd];exact hx,(hw.rules y2 (getm hy2)).serve⟩) hw.dflt hD⟩⟩) fun _=>all hw.key hw.vn hw.vals hw.needs hw.tgts hw.rules hw.dflt hD) fun _=> ?_
 refine Cnd.mk (fun _ _=>Cnd.mk (fun hpos _=>Qc hD (by omega) fun k a k0 k1 hD=>⟨by omega,fun y hy=>j4r (s:=y.3) (hw.rules y (getm hy)).serve (by have:=(hf.rules y (getm hy)).serve.split.1;omega) hD fun x a hx hD=>⟨by omega,fun y2 hy2=>all hw.key hw.vn hw.vals hw.needs hw.tgts (Ut hw.rules ⟨(hw.rules y2 (getm hy2)).name,by rw[Zd];exact (hw.rules y2 (getm hy2)).cond,hx⟩) hw.dflt hD⟩⟩) fun _=>all hw.key hw.vn hw.vals hw.needs hw.tgts hw.rules hw.dflt hD) fun _=> ?_
 refine Cnd.mk (fun _=>j4r (s:=f.9) hw.dflt (by have:=hf.dflt.split.1;omega) hD fun x a hx hD=>all hw.key hw.vn hw.vals hw.needs hw.tgts hw.rules hx hD) fun _=> ?_
 refine Cnd.mk (fun _=> ?_) fun _=>all hw.key hw.vn hw.vals hw.needs hw.tgts hw.rules hw.dflt hD
 refine Lp2.ind (fun (a:Int) (rs:List Rul)=>rs.length<=13/\(∀r∈rs,RlW r)/\DS list a) (fun _ rs=>13 - rs.length) ?_ ⟨by omega,hw.rules,hD⟩
 rintro a rs ⟨hrl,hrs,hD⟩ _
 exact Qc hD (by decide) fun q a q0 q1 hD=>⟨by unfold InI;omega,Cnd.mk (fun _ _=>⟨by unfold InI;omega,fitA (by decide) (Vu _),by unfold Sml;simp;omega,⟨by simp;omega,Zc hrs (tr (szB (by decide) (Vu _))),hD⟩,by simp;omega⟩) fun _=>all hw.key hw.vn hw.vals hw.needs hw.tgts hrs hw.dflt hD⟩
theorem w45{list:List Int}{at_:Int}{l:Lay_}{K:Lay_->Int->Prop}(hl:LayS l)(hD:DS list at_)(h: ∀r a,LyW r->DS list a->K r a):z5s list at_ l K:=by
 unfold z5s j1a
 have hw:=hl.w
 have h1:=hl.cl
 simp only[List.nil_append]
 refine⟨by unfold Sml;omega,Qc hD (by decide) fun z a z0 z1 hD=> ?_⟩
 refine Cnd.mk (fun _=>Jk hD fun t a ht hD=>h _ _ ⟨show t.size<=1000 by omega,hw.kind,hw.co⟩ hD) fun _=> ?_
 refine Cnd.mk (fun _=>Jk hD fun t a ht hD=>h _ _ ⟨hw.key,show t.size<=1000 by omega,hw.co⟩ hD) fun _=> ?_
 refine Cnd.mk (fun _=>Z0 hD fun m a _ hD=>h _ _ ⟨hw.key,hw.kind,hw.co⟩ hD) fun _=> ?_
 refine Cnd.mk (fun _=>Z0 hD fun m a _ hD=>h _ _ ⟨hw.key,hw.kind,hw.co⟩ hD) fun _=> ?_
 refine Cnd.mk (fun _=>Z0 hD fun m a _ hD=>Z0 hD fun m a _ hD=>Z0 hD fun m a _ hD=>⟨by unfold Sml;simp;omega,h _ _ ⟨hw.key,hw.kind,by simp;omega⟩ hD⟩) fun _=> ?_
 refine Cnd.mk (fun _=> ?_) fun _=>h _ _ ⟨hw.key,hw.kind,hw.co⟩ hD
 refine Lp3.ind (fun (i:Int) (o:List Col) (a:Int)=>0<=i/\i<=33/\(o.length:Int)=i/\DS list a) (fun i _ _=>(33 - i).toNat) ?_ ⟨by omega,by omega,rfl,hD⟩
 rintro i o a ⟨i0,i1,hol,hD⟩
 exact Qc hD (by decide) fun q a q0 q1 hD=>⟨by unfold InI;omega,Cnd.mk (fun _=>⟨by unfold InI;omega,by unfold Sml;simp;omega,by unfold InI;omega,⟨by omega,by omega,by simp;omega,hD⟩,by omega⟩) fun _=>h _ _ ⟨hw.key,hw.kind,by simp only;omega⟩ hD⟩
theorem j2t{list:List Int}{at_:Int}{x:Exper}{K:Exper->Int->Prop}(hx:ExpS x)(hD:DS list at_)(h: ∀r a,XpW r->DS list a->K r a):q1r list at_ x K:=by
 unfold q1r q6a
 have hw:=hx.w
 have h1:=hx.claims.len
 have h2:=hx.arms.1
 have ec:ExW (Ex.mk x.8.1 x.8.2 x.8.3 x.8.4 x.8.5):=by rw[Zd];exact hw.cond
 simp only[List.nil_append]
 refine⟨by unfold Sml;omega,Qc hD (by decide) fun z a z0 z1 hD=> ?_⟩
 refine Cnd.mk (fun _=>Jk hD fun t a ht hD=>h _ _ ⟨show t.size<=1000 by omega,hw.layer,hw.flag,hw.cl,hw.ar,ec⟩ hD) fun _=> ?_
 refine Cnd.mk (fun _=>Jk hD fun t a ht hD=>h _ _ ⟨hw.key,show t.size<=1000 by omega,hw.flag,hw.cl,hw.ar,ec⟩ hD) fun _=> ?_
 refine Cnd.mk (fun _=>Jk hD fun t a ht hD=>h _ _ ⟨hw.key,hw.layer,show t.size<=1000 by omega,hw.cl,hw.ar,ec⟩ hD) fun _=> ?_
 refine Cnd.mk (fun _=>Qc hD (by decide) fun q a q0 q1 hD=>⟨by unfold InI;omega,h _ _ ⟨hw.key,hw.layer,hw.flag,hw.cl,hw.ar,ec⟩ hD⟩) fun _=> ?_
 refine Cnd.mk (fun _=>Z0 hD fun m a _ hD=>Z0 hD fun m a _ hD=>⟨by unfold Sml;simp;omega,h _ _ ⟨hw.key,hw.layer,hw.flag,by simp;omega,hw.ar,ec⟩ hD⟩) fun _=> ?_
 refine Cnd.mk (fun _=> ?_) fun _=> ?_
 ·refine Lp3.ind (fun (i:Int) (o:List Spn) (a:Int)=>0<=i/\i<=17/\(o.length:Int)=i/\DS list a) (fun i _ _=>(17 - i).toNat) ?_ ⟨by omega,by omega,rfl,hD⟩
  rintro i o a ⟨i0,i1,hol,hD⟩
  exact Qc hD (by decide) fun q a q0 q1 hD=>⟨by unfold InI;omega,Cnd.mk (fun _=>⟨by unfold InI;omega,by unfold InI;omega,by unfold InI;omega,by unfold Sml;simp;omega,by unfold InI;omega,⟨by omega,by omega,by simp;omega,hD⟩,by omega⟩) fun _=>h _ _ ⟨hw.key,hw.layer,hw.flag,by simp only;omega,hw.ar,ec⟩ hD⟩
 refine Jn1.mk (fun _=>True) (Cnd.mk (fun _=>trivial) fun _=>trivial) fun b _=> ?_
 exact Cnd.mk (fun _=>j2s (by omega) hD fun r a hr hD=>h _ _ ⟨hw.key,hw.layer,hw.flag,hw.cl,by simp only;omega,ec⟩ hD) fun _=>Cnd.mk (fun _=>q6i 4 hx.cond.eta hD fun e a he hD=>h _ _ ⟨hw.key,hw.layer,hw.flag,hw.cl,hw.ar,by rw[Zd];exact he⟩ hD) fun _=>h _ _ ⟨hw.key,hw.layer,hw.flag,hw.cl,hw.ar,ec⟩ hD
theorem w46{list:List Int}{at_:Int}{v:Envt}{K:Envt->Int->Prop}(hD:DS list at_)(hv:EnvS v)(hal:v.2.length<=100)(h: ∀w a,EnvW w->DS list a->K w a):z5t list at_ v K:=by
 unfold z5t j1b
 have hw:=hv.w
 have h1:=hv.slen
 have h2:=hv.flen
 have h3:=hv.llen
 have h4:=hv.xlen
 simp only[List.nil_append]
 have same: ∀{a:Int},DS list a->K (Envt.mk (Sett.mk v.1.1 v.1.2 v.1.3) v.2 v.3 v.4 v.5 v.6) a:=fun hD=>h _ _ hw hD
 refine⟨by unfold Sml;omega,by unfold Sml;omega,by unfold Sml;omega,by unfold Sml;omega,by unfold Sml;omega,Qc hD (by decide) fun z a z0 z1 hD=> ?_⟩
 refine Cnd.mk (fun _=>q0f hD fun t a ht hD=>Jk hD fun n a hn hD=>Z0 hD fun m a _ hD=>h _ _ {hw with hk:=show n.size<=1000 by omega} hD) fun _=> ?_
 refine Cnd.mk (fun _=>Jk hD fun t a ht hD=>Jk hD fun n a hn hD=>Qc hD (by decide) fun q a q0 q1 hD=>⟨by unfold Sml;simp;omega,h _ _ {hw with attrs:=Zc hw.attrs ⟨show t.size<=1000 by omega,show n.size<=1000 by omega⟩} hD⟩) fun _=> ?_
 refine Cnd.mk (fun _ _=>Cnd.mk (fun hpos _=>Qc hD (by omega) fun k a k0 k1 hD=>⟨by omega,fun y hy=>by
  rw[Zd]
  exact j87 (hv.segs y (getm hy)) hD fun g a hg hD=>⟨by omega,fun _ _=>h _ _ {hw with segs:=Ut hw.segs ⟨hg.key,hg.kind,by rw[Zd];exact hg.cond⟩} hD⟩⟩) fun _=>same hD) fun _=> ?_
 refine Jn1.mk (fun _=>True) (Cnd.mk (fun _=>trivial) fun _=>trivial) fun b _=> ?_
 refine Cnd.mk (fun _ _=>Cnd.mk (fun hpos _=>Qc hD (by omega) fun k a k0 k1 hD=>⟨by omega,fun y hy=>w8x (f:=y) (hv.flags y (getm hy)) hD fun g a hg hD=>⟨by omega,fun _ _=>h _ _ {hw with flags:=Ut hw.flags hg,fn:=by rw[List.length_set];exact hw.fn} hD⟩⟩) fun _=>same hD) fun _=> ?_
 refine Cnd.mk (fun _ _=>Cnd.mk (fun hpos _=>Qc hD (by omega) fun k a k0 k1 hD=>⟨by omega,fun y hy=>w45 (hv.layers y (getm hy)) hD fun g a hg hD=>⟨by omega,fun _ _=>h _ _ {hw with layers:=Ut hw.layers hg,ln:=by rw[List.length_set];exact hw.ln} hD⟩⟩) fun _=>same hD) fun _=> ?_
 refine Cnd.mk (fun _ _=>Cnd.mk (fun hpos _=>Qc hD (by omega) fun k a k0 k1 hD=>⟨by omega,fun y hy=>by
  rw[Zd]
  exact j2t (hv.exps y (getm hy)) hD fun g a hg hD=>⟨by omega,fun _ _=>by
   rw[Zd]
   exact h _ _ {hw with exps:=Ut hw.exps hg,xn:=by rw[List.length_set];exact hw.xn} hD⟩⟩) fun _=>same hD) fun _=> ?_
 refine Cnd.mk (fun _ _=>Cnd.mk (fun hpos=>⟨by omega,fun y hy=>⟨by omega,fun y2 hy2=>⟨by omega,fun _ _=>⟨by rw[List.length_set];omega,fun _ _=>h _ _ {hw with flags:=Ut (Ut hw.flags (hw.flags y (getm hy))) (hw.flags y2 (getm hy2)),fn:=by rw[List.length_set,List.length_set];exact hw.fn} hD⟩⟩⟩⟩) fun _ _=>Cnd.mk (fun hpos=>⟨by omega,fun y hy=>⟨by omega,fun y2 hy2=>⟨by omega,fun _ _=>⟨by rw[List.length_set];omega,fun _ _=>by
  rw[Zd,Zd]
  exact h _ _ {hw with segs:=Ut (Ut hw.segs (hw.segs y (getm hy))) (hw.segs y2 (getm hy2))} hD⟩⟩⟩⟩) fun _=>same hD) fun _=> ?_
 refine Cnd.mk (fun _=> ?_) fun _=>same hD
 refine Lp2.ind (fun (i:Int) (gs:List Seg)=>0<=i/\i<=20/\(gs.length:Int)<=3+i/\ ∀g∈gs,SgW g) (fun (i:Int) _=>(20 - i).toNat) ?_ ⟨by omega,by omega,by omega,hw.segs⟩
 rintro i gs ⟨i0,i1,hgl,hgs⟩ _
 have fin:K (Envt.mk (Sett.mk v.1.1 v.1.2 v.1.3) v.2 gs v.4 v.5 v.6) a:=h _ _ {hw with segs:=hgs} hD
 exact Cnd.mk (fun hpos=>Cnd.mk (fun hlt _=>⟨by unfold InI;omega,by omega,fun y hy=>⟨by unfold InI;omega,fitA (by decide) (Vu _),by unfold Sml;simp;omega,by unfold InI;omega,⟨by omega,by omega,by simp;omega,Zc hgs ⟨szB (by decide) (Vu _),(hgs y (getm hy)).kind,by rw[Zd];exact (hgs y (getm hy)).cond⟩⟩,by omega⟩⟩) fun _=>fin) fun _=>fin
end Go.En
end
noncomputable section
set_option maxRecDepth 100000
namespace Go.En
open Go Go.Fl Go.Fl.Lk Go.Fx
theorem w47{K:Bool->Prop}(h:K true):q27 K:=by
 unfold q27 q7x H1
 have e:(Go.Fl.Sp.runs (Go.Fl.Sp.cov ([Spn.mk (5:Int) (9:Int),Spn.mk (0:Int) (5:Int),Spn.mk (7:Int) (7:Int)].map fun s=>(s.lo,s.hi))) 10000).map (fun s=>Spn.mk s.1 s.2)=[Spn.mk 0 9]:=by
  show (Go.Fl.Sp.runs (Go.Fl.Sp.cov [(5,9),(0,5),(7,7)]) 10000).map _=_
  rw[Go.Fl.Sp.awake_runs];rfl
 rw[e]
 refine fun _=>Cnd.yes (by decide) ⟨by decide,fun y hy=> ?_⟩
 cases hy
 refine Cnd.yes ⟨rfl,rfl⟩ ?_
 unfold q1m
 have c:(Go.Fl.Sp.cnt (Go.Fl.Sp.cov ([Spn.mk (0:Int) (9:Int)].map fun s=>(s.lo,s.hi))) 10000:Nat)=9:=Go.Fl.Sp.awake_cnt
 rw[c]
 exact h
theorem j2u{codes:List Int}{now:Int}{K:Bool->Prop}(hc:Byts codes)(h:K true):Je codes now K:=by
 unfold Je Hs
 refine w47 (Cnd.yes rfl (v04 hc (by decide) (by decide) fun l hD=>v1b (by decide) (by decide) fun t t0 t1=> ?_))
 refine z8h (V:=fun _=>True) (fun _ _ hv h=>z8x hv fun b=>h b fun _=>trivial) (fun _=>trivial) hD fun v a hE hd _ hD=> ?_
 refine w8t (v:=v) hD hE (fun x hx=>(hd.exp x hx).layer) t0 (by omega) fun w a hD hEw hw=> ?_
 have hal:v.2.length<=100:=hd.al
 have halw:w.2.length<=100:=by
  rcases hw with rfl|⟨hm,_⟩
  ·exact hal
  ·rw[hm.at_];exact hal
 refine w1k (v:=w) hD hEw halw fun c a hc hD=>w46 (v:=v) hD hE hal fun s a hs _ _=> ?_
 have hall: ∀y∈[Env2.mk v w,Env2.mk v c,Env2.mk c v,Env2.mk w c,Env2.mk v s],EnvW y.1/\EnvW y.2:=fun y hy=>by
  rcases List.mem_cons.1 hy with rfl|hy
  ·exact⟨hE.w,hEw.w⟩
  rcases List.mem_cons.1 hy with rfl|hy
  ·exact⟨hE.w,hc⟩
  rcases List.mem_cons.1 hy with rfl|hy
  ·exact⟨hc,hE.w⟩
  rcases List.mem_cons.1 hy with rfl|hy
  ·exact⟨hEw.w,hc⟩
  ·rw[List.mem_singleton.1 hy];exact⟨hE.w,hs⟩
 have hlen:[Env2.mk v w,Env2.mk v c,Env2.mk c v,Env2.mk w c,Env2.mk v s].length<=1000000000:=(by decide:5<=1000000000)
 refine allL (l:=[Env2.mk v w,Env2.mk v c,Env2.mk c v,Env2.mk w c,Env2.mk v s]) (fun _=>True) hlen (fun _=>h) fun i y Y hy hnx=> ?_
 obtain⟨hb,ha⟩:=hall y (getm hy)
 refine q7m (v:=y.1) hb fun r hr=>Cnd.mk (fun h0=>q7m (v:=y.2) ha fun q hq=>Cnd.mk (fun g0=>⟨by unfold InI;omega,fun _=> ?_⟩) fun _=>hnx trivial) fun _=>hnx trivial
 refine allL (l:=[t,now,t+60,(1099511627776:Int)]) (fun _=>True) (by simp) (fun _=>hnx trivial) fun j m Z hm hmx=> ?_
 exact v8b (b:=y.1) (a:=y.2) hb.l ha.l (hr h0) (hq g0) (v8c (b:=y.1) (a:=y.2) hb.l ha.l (hq g0) (Cnd.yes rfl (Cnd.yes rfl (hmx trivial))))
end Go.En
end
