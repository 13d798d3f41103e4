/- TrafficActs This is part 6 of 10. Conditions: those in the statements. -/
import Derived.Test.YtflilmgifibgoaaGreatDoorAct5
noncomputable section
set_option maxRecDepth 100000
namespace Go.En
open Go Go.Fl Go.Fl.Lk Go.Fx
theorem q7g(a b:List Spn)(q:Int):insV (a++b) q=(insV a q||insV b q):=by
 unfold insV
 rw[List.find?_append]
 cases List.find? (fun r:Spn=>decide (r.1<=q) && decide (q<r.2)) a<;>simp
theorem j8t(y:Spn)(q:Int):insV [y] q=(decide (y.1<=q) && decide (q<y.2)):=by
 unfold insV
 rw[List.find?_cons]
 cases decide (y.1<=q) && decide (q<y.2)<;>simp
theorem q76{l:List Spn}{q:Int}:insV l q=true↔ ∃r∈l,r.1<=q/\q<r.2:=by
 unfold insV
 rw[List.find?_isSome]
 simp only[Bool.and_eq_true,decide_eq_true_eq]
structure BAt(o:List Bool)(f:Nat->Bool):Prop where
 len:o.length=10000
 at_: ∀q,q<10000->o[q]? =some (f q)
theorem BAt.set{o:List Bool}{f g:Nat->Bool}{k:Nat}{v:Bool}(h:BAt o f)(hv:g k=v)(hg: ∀q,q<10000->q≠k->g q=f q):BAt (o.set k v) g:=by
 refine⟨by rw[List.length_set];exact h.len,fun q hq=> ?_⟩
 have hl:=h.len
 rw[List.getElem?_set]
 split
 ·rename_i he
  subst he
  rw[if_pos (by omega),hv]
 ·rename_i hne
  rw[h.at_ q hq,hg q hq (fun e=>hne e.symm)]
theorem BAt.of{o:List Bool}{f g:Nat->Bool}(h:BAt o f)(hg: ∀q,q<10000->g q=f q):BAt o g:=⟨h.len,fun q hq=>by rw[h.at_ q hq,hg q hq]⟩
theorem BAt.get{o:List Bool}{f:Nat->Bool}(h:BAt o f){k:Nat}{y:Bool}(hy:o[k]? =some y):y=f k:=by
 have hl:=Qe hy
 have:=h.at_ k (by have:=h.len;omega)
 rw[hy] at this;exact Option.some.inj this
theorem J9{l:List Spn}{K:List Bool->Prop}(hl:l.length<=1000000)(h: ∀b,BAt b (fun q=>insV l (q:Int))->K b):Ha l K:=by
 unfold Ha
 refine⟨⟨by decide,by decide,by unfold Sml;decide⟩,Lp2.ind (fun i o=> ∃j:Nat,i=(j:Int)/\j<=l.length/\BAt o (fun q=>insV (l.take j) (q:Int))) (fun i _=>(l.length - i).toNat) ?_ ⟨0,rfl,by omega,⟨List.length_replicate,fun q hq=>by rw[List.getElem?_replicate,if_pos (show q<Int.toNat 10000 from hq)];rfl⟩⟩⟩
 rintro i o ⟨j,rfl,hj,hb⟩ _
 refine Cnd.mk (fun hc=>⟨by omega,fun y hy=> ?_⟩) fun hc=>h o (hb.of fun q hq=>by rw[List.take_of_length_le (by omega)])
 have hy:l[j]? =some y:=hy
 have hlt:=Qe hy
 refine Lp2.ind (fun (b:Int) o=>max y.1 0<=b/\b<=max (max y.1 0) (min y.2 10000)/\BAt o (fun q=>insV (l.take j) (q:Int)||(decide (y.1<=(q:Int)) && decide ((q:Int)<b)))) (fun b _=>(10000 - b).toNat) ?_ ⟨Int.le_refl _,by omega,hb.of fun q hq=> ?_⟩
 ·rintro b o ⟨b0,b1,hb⟩
  refine⟨by omega,fun z hz=> ?_⟩
  have hz:l[j]? =some z:=hz
  rw[hy] at hz;cases hz
  refine Cnd.mk (fun hlt2=>⟨by have:=hb.len;omega,fun w hw=>⟨by unfold InI;omega,⟨by omega,by omega,hb.set (k:=b.toNat) ?_ fun q hq hne=> ?_⟩,by omega⟩⟩) fun hge=>⟨by unfold InI;omega,⟨j+1,by omega,by omega,hb.of fun q hq=> ?_⟩,by omega⟩
  ·rw[dt (show y.1<=(b.toNat:Int) by omega),dt (show (b.toNat:Int)<b+1 by omega)];simp
  ·congr 2
   by_cases hqb:(q:Int)<b
   ·rw[dt hqb,dt (show (q:Int)<b+1 by omega)]
   ·rw[df hqb,df (show ¬(q:Int)<b+1 by omega)]
  ·rw[List.take_add_one,hy,q7g]
   show (_||insV [y] (q:Int))=_
   rw[j8t]
   congr 1
   by_cases h1:y.1<=(q:Int)
   ·rw[dt h1,Bool.true_and,Bool.true_and]
    by_cases h2:(q:Int)<y.2
    ·rw[dt h2,dt (show (q:Int)<b by omega)]
    ·rw[df h2,df (show ¬(q:Int)<b by omega)]
   ·rw[df h1];simp
 ·have:(decide (y.1<=(q:Int)) && decide ((q:Int)<max y.1 0))=false:=by
   by_cases h1:y.1<=(q:Int)
   ·rw[df (show ¬(q:Int)<max y.1 0 by omega)];simp
   ·rw[df h1];simp
  rw[this,Bool.or_false]
def IsS(l:List Spn)(p:Int->Prop):Prop:=SpsS l/\ ∀q,insV l q=true↔(0<=q/\q<10000)/\p q
theorem IsS.nonempty{l:List Spn}{p:Int->Prop}(h:IsS l p):0<l.length↔ ∃q,0<=q/\q<10000/\p q:=by
 constructor
 ·intro hp
  obtain⟨h1,h2,h3⟩:=h.1.all l[0] (List.getElem_mem hp)
  have:=(h.2 l[0].lo).1 (q76.2 ⟨l[0],List.getElem_mem hp,Int.le_refl _,h2⟩)
  exact⟨_,this.1.1,this.1.2,this.2⟩
 ·rintro⟨q,q0,q1,hq⟩
  obtain⟨r,hr,_⟩:=q76.1 ((h.2 q).2 ⟨⟨q0,q1⟩,hq⟩)
  exact List.length_pos_of_mem hr
theorem R7{b:List Bool}{f:Nat->Bool}{K:List Spn->Prop}(hb:BAt b f)(h: ∀l,IsS l (fun q=>f q.toNat=true)->K l):Wm b K:=by
 unfold Wm
 have hlen:=hb.len
 refine Lp2.ind (fun (o:List Spn) (i:Int)=> ∃j:Nat,i=(j:Int)/\j<=10000/\o.length<=j/\(∀s∈o,0<=s.lo/\s.lo<s.hi/\s.hi<=(j:Int))/\(∀q:Int,insV o q=true↔(0<=q/\q<(j:Int))/\f q.toNat=true)/\(0<j->f (j - 1)=true-> ∃a s,o=a++[s]/\s.hi=(j:Int))) (fun _ i=>(10000 - i).toNat) ?_ ⟨0,rfl,by omega,by simp,by simp,fun q=>⟨fun h=>(by cases h),fun h=>by omega⟩,fun h=>by omega⟩
 rintro o i ⟨j,rfl,hj,hol,hos,hin,hlast⟩ _
 refine Cnd.mk (fun hc=>⟨by omega,fun y hy=> ?_⟩) fun hc=>h o ⟨⟨by omega,fun s hs=>by have:=hos s hs;omega⟩,fun q=>(hin q).trans ⟨fun k=>⟨⟨k.1.1,by have:=k.1.2;omega⟩,k.2⟩,fun k=>⟨⟨k.1.1,by have:=k.1.2;omega⟩,k.2⟩⟩⟩
 have hy:b[j]? =some y:=hy
 have hyf:=hb.get hy
 have fresh:f j=true->Sml (o++[Spn.mk (j:Int) ((j:Int)+1)]).length/\InI ((j:Int)+1)/\(∃j':Nat,(j:Int)+1=(j':Int)/\j'<=10000/\(o++[Spn.mk (j:Int) ((j:Int)+1)]).length<=j'/\(∀s∈o++[Spn.mk (j:Int) ((j:Int)+1)],0<=s.lo/\s.lo<s.hi/\s.hi<=(j':Int))/\(∀q:Int,insV (o++[Spn.mk (j:Int) ((j:Int)+1)]) q=true↔(0<=q/\q<(j':Int))/\f q.toNat=true)/\(0<j'->f (j' - 1)=true-> ∃a s,o++[Spn.mk (j:Int) ((j:Int)+1)]=a++[s]/\s.hi=(j':Int)))/\(10000 - ((j:Int)+1)).toNat<(10000 - (j:Int)).toNat:=fun hf=>by
  refine⟨by unfold Sml;simp;omega,by unfold InI;omega,⟨j+1,by omega,by omega,by simp;omega,Jc (fun s hs=>by have:=hos s hs;omega) ⟨by simp only;omega,by simp only;omega,by simp only;omega⟩,fun q=> ?_,fun _ _=>⟨o,_,rfl,by simp only;omega⟩⟩,by omega⟩
  rw[q7g,j8t,Bool.or_eq_true,hin q,Bool.and_eq_true,decide_eq_true_eq,decide_eq_true_eq]
  simp only
  constructor
  ·rintro (⟨⟨a,b⟩,c⟩|⟨a,b⟩)
   ·exact⟨⟨a,by omega⟩,c⟩
   ·have:q=(j:Int):=by omega
    subst this
    exact⟨⟨by omega,by omega⟩,hf⟩
  ·rintro⟨⟨a,b⟩,c⟩
   by_cases hq:q<(j:Int)
   ·exact .inl ⟨⟨a,hq⟩,c⟩
   ·exact .inr ⟨by omega,by omega⟩
 refine Cnd.mk (fun ht=> ?_) fun hf=> ?_
 ·have hfj:f j=true:=by rw[←hyf,ht]
  refine Cnd.mk (fun hpos=>⟨by unfold InI;omega,by omega,fun z hz=> ?_⟩) fun _=>⟨by unfold InI;omega,fresh hfj⟩
  have hz:b[j - 1]? =some z:=by rw[show ((j:Int) - 1).toNat=j - 1 by omega] at hz;exact hz
  have hzf:=hb.get hz
  refine Cnd.mk (fun ht2 _=> ?_) fun _=>⟨by unfold InI;omega,fresh hfj⟩
  obtain⟨a,s,rfl,hs⟩:=hlast (by omega) (by rw[←hzf,ht2])
  have hal:(a++[s]).length=a.length+1:=by simp
  rw[hal] at hol
  refine⟨by unfold InI;omega,by unfold InI;omega,by omega,fun w hw=> ?_⟩
  rw[show (((a++[s]).length:Int) - 1).toNat=a.length by omega] at hw⊢
  have hw':w=s:=by simpa using hw.symm
  subst hw'
  have hset:(a++[w]).set a.length (Spn.mk w.1 ((j:Int)+1))=a++[Spn.mk w.1 ((j:Int)+1)]:=by simp
  rw[hset]
  obtain⟨w1,w2,w3⟩:=hos w (by simp)
  refine⟨by unfold InI;omega,⟨j+1,by omega,by omega,by simp;omega,Jc (fun s hs=>by have:=hos s (by simp[hs]);omega) ⟨by simp only;omega,by simp only;omega,by simp only;omega⟩,fun q=> ?_,fun _ _=>⟨a,_,rfl,by simp only;omega⟩⟩,by omega⟩
  have ho:=hin q
  rw[q7g,j8t,Bool.or_eq_true,Bool.and_eq_true,decide_eq_true_eq,decide_eq_true_eq] at ho⊢
  simp only
  rw[hs] at ho
  constructor
  ·rintro (k|⟨k1,k2⟩)
   ·have:=ho.1 (.inl k);exact⟨⟨this.1.1,by omega⟩,this.2⟩
   ·by_cases hq:q<(j:Int)
    ·have:=ho.1 (.inr ⟨k1,hq⟩);exact⟨⟨this.1.1,by omega⟩,this.2⟩
    ·have:q=(j:Int):=by omega
     subst this
     exact⟨⟨by omega,by omega⟩,hfj⟩
  ·rintro⟨⟨k1,k2⟩,k3⟩
   by_cases hq:q<(j:Int)
   ·rcases ho.2 ⟨⟨k1,hq⟩,k3⟩ with k|⟨k4,_⟩
    ·exact .inl k
    ·exact .inr ⟨k4,by omega⟩
   ·exact .inr ⟨by omega,by omega⟩
 ·have hfj:f j=false:=by rw[←hyf];simpa using hf
  refine⟨by unfold InI;omega,⟨j+1,by omega,by omega,by omega,fun s hs=>by have:=hos s hs;omega,fun q=> ?_,fun _ hh=> ?_⟩,by omega⟩
  ·rw[hin q]
   constructor
   ·rintro⟨⟨a,b⟩,c⟩;exact⟨⟨a,by omega⟩,c⟩
   ·rintro⟨⟨a,b⟩,c⟩
    refine⟨⟨a,?_⟩,c⟩
    by_cases hq:q<(j:Int)
    ·exact hq
    ·have:q=(j:Int):=by omega
     subst this
     rw[Int.toNat_natCast,hfj] at c;cases c
  ·rw[Nat.add_sub_cancel,hfj] at hh;cases hh
theorem z5q{a b:List Spn}{K:List Spn->Prop}(ha:a.length<=1000000)(hb:b.length<=1000000)(h: ∀l,IsS l (fun q=>insV a q=true∨insV b q=true)->K l):V0 a b K:=by
 unfold V0 q6b
 refine J9 ha fun x hx=>J9 hb fun y hy=>Lp2.ind (fun (i:Int) (o:List Bool)=> ∃j:Nat,i=(j:Int)/\j<=10000/\BAt o (fun q=>if q<j then insV a (q:Int)||insV b (q:Int) else insV a (q:Int))) (fun i _=>(10000 - i).toNat) ?_ ⟨0,rfl,by omega,hx.of fun q hq=>by simp⟩
 rintro i o ⟨j,rfl,hj,ho⟩ _
 have hlen:=ho.len
 have hyl:=hy.len
 refine Cnd.mk (fun hc=>⟨by omega,fun z hz=> ?_⟩) fun hc=>R7 (ho.of (g:=fun q=>insV a (q:Int)||insV b (q:Int)) fun q hq=>by rw[if_pos (by omega)]) fun l hl=>h l ⟨hl.1,fun q=>by
  rw[hl.2 q]
  constructor
  ·rintro⟨h1,h2⟩;rw[Int.toNat_of_nonneg h1.1,Bool.or_eq_true] at h2;exact⟨h1,h2⟩
  ·rintro⟨h1,h2⟩;refine⟨h1,?_⟩;simp only;rw[Int.toNat_of_nonneg h1.1,Bool.or_eq_true];exact h2⟩
 have hz:o[j]? =some z:=hz
 have hzf:=ho.get hz
 simp only[Nat.lt_irrefl,if_false] at hzf
 have step: ∀{v:Bool},v=(insV a (j:Int)||insV b (j:Int))->InI ((j:Int)+1)/\(∃j':Nat,(j:Int)+1=(j':Int)/\j'<=10000/\BAt (o.set j v) (fun q=>if q<j' then insV a (q:Int)||insV b (q:Int) else insV a (q:Int)))/\(10000 - ((j:Int)+1)).toNat<(10000 - (j:Int)).toNat:=fun {v} hv=>⟨by unfold InI;omega,⟨j+1,by omega,by omega,ho.set (by rw[if_pos (by omega),hv]) fun q hq hne=>by
  by_cases hqj:q<j
  ·rw[if_pos hqj,if_pos (by omega)]
  ·rw[if_neg hqj,if_neg (by omega)]⟩,by omega⟩
 refine Cnd.mk (fun ht=>⟨by omega,fun w hw=>step (by rw[←hzf,ht];rfl)⟩) fun hf=>⟨by omega,fun w hw=>⟨by omega,fun u hu=>step ?_⟩⟩
 have hw:y[j]? =some w:=hw
 rw[hy.get hw,←hzf,Bool.eq_false_iff.2 hf];rfl
theorem j43{a b:List Spn}{K:List Spn->Prop}(ha:a.length<=1000000)(hb:b.length<=1000000)(h: ∀l,IsS l (fun q=>insV a q=true/\insV b q=true)->K l):Hj a b K:=by
 unfold Hj q7x
 refine J9 ha fun x hx=>J9 hb fun y hy=>Lp2.ind (fun (i:Int) (o:List Bool)=> ∃j:Nat,i=(j:Int)/\j<=10000/\BAt o (fun q=>if q<j then insV a (q:Int) && insV b (q:Int) else insV a (q:Int))) (fun i _=>(10000 - i).toNat) ?_ ⟨0,rfl,by omega,hx.of fun q hq=>by simp⟩
 rintro i o ⟨j,rfl,hj,ho⟩ _
 have hlen:=ho.len
 have hyl:=hy.len
 refine Cnd.mk (fun hc=>⟨by omega,fun z hz=> ?_⟩) fun hc=>R7 (ho.of (g:=fun q=>insV a (q:Int) && insV b (q:Int)) fun q hq=>by rw[if_pos (by omega)]) fun l hl=>h l ⟨hl.1,fun q=>by
  rw[hl.2 q]
  constructor
  ·rintro⟨h1,h2⟩;rw[Int.toNat_of_nonneg h1.1,Bool.and_eq_true] at h2;exact⟨h1,h2⟩
  ·rintro⟨h1,h2⟩;refine⟨h1,?_⟩;simp only;rw[Int.toNat_of_nonneg h1.1,Bool.and_eq_true];exact h2⟩
 have hz:o[j]? =some z:=hz
 have hzf:=ho.get hz
 simp only[Nat.lt_irrefl,if_false] at hzf
 have step: ∀{v:Bool},v=(insV a (j:Int) && insV b (j:Int))->InI ((j:Int)+1)/\(∃j':Nat,(j:Int)+1=(j':Int)/\j'<=10000/\BAt (o.set j v) (fun q=>if q<j' then insV a (q:Int) && insV b (q:Int) else insV a (q:Int)))/\(10000 - ((j:Int)+1)).toNat<(10000 - (j:Int)).toNat:=fun {v} hv=>⟨by unfold InI;omega,⟨j+1,by omega,by omega,ho.set (by rw[if_pos (by omega),hv]) fun q hq hne=>by
  by_cases hqj:q<j
  ·rw[if_pos hqj,if_pos (by omega)]
  ·rw[if_neg hqj,if_neg (by omega)]⟩,by omega⟩
 refine Cnd.mk (fun ht=>⟨by omega,fun w hw=>⟨by omega,fun u hu=>step ?_⟩⟩) fun hf=>⟨by omega,fun w hw=>step (by rw[←hzf,Bool.eq_false_iff.2 hf];rfl)⟩
 have hw:y[j]? =some w:=hw
 rw[hy.get hw,←hzf,ht];rfl
end Go.En
end
noncomputable section
set_option maxRecDepth 100000
namespace Go.En
open Go Go.Fl Go.Fl.Lk Go.Fx
def PR{α:Type}(R:α->α->Prop)(l m:List α):Prop:=m.length=l.length/\ ∀(i:Nat) x y,l[i]? =some x->m[i]? =some y->R x y
theorem q80{α:Type}{P:α->Prop}{l:List α}{i:Nat}{b:α}(h: ∀x∈l,P x)(hb:P b): ∀x∈l.set i b,P x:=fun x hx=>(List.mem_or_eq_of_mem_set hx).elim (h x) fun e=>by rw[e];exact hb
theorem v0v(x:Exper):Exper.mk x.1 x.2 x.3 x.4 x.5 x.6 x.7 (Ex.mk x.8.1 x.8.2 x.8.3 x.8.4 x.8.5)=x:=by rw[Ju]
theorem z6t{v:Envt}{j:Nat}{x0 x:Exper}{K:Envt->Prop}(hxn:v.6.length<=1000)(hx:v.6[j]? =some x0)(h:K (Envt.mk v.1 v.2 v.3 v.4 v.5 (v.6.set j x))):q2y v (j:Int) x K:=by
 unfold q2y
 simp only[List.nil_append]
 exact⟨by unfold Sml;omega,by have:=Qe hx;omega,fun y hy=>by rw[v0v];exact h⟩
end Go.En
end
noncomputable section
set_option maxRecDepth 100000
namespace Go.En
open Go Go.Fl Go.Fl.Lk Go.Fx
theorem z3p(l:List Spn)(i:Nat):Go.Fl.Sp.cov (l.map fun s=>(s.lo,s.hi)) i=insV l (i:Int):=by
 rw[Bool.eq_iff_iff,q76]
 unfold Go.Fl.Sp.cov
 simp only[List.any_map,List.any_eq_true,Function.comp,Bool.and_eq_true,decide_eq_true_eq]
theorem w5e(l:List (Int×Int)):(l.map fun s=>Spn.mk s.1 s.2).map (fun s=>(s.lo,s.hi))=l:=by
 rw[List.map_map]
 exact List.map_id l
def IsP(l:List Spn)(p:Int->Prop):Prop:=(∀q,0<=q->q<10000->(insV l q=true↔p q))/\(0<l.length↔ ∃q,0<=q/\q<10000/\p q)
theorem j8u(f:Nat->Bool):IsP ((Go.Fl.Sp.runs f 10000).map fun s=>Spn.mk s.1 s.2) fun q=>f q.toNat=true:=by
 have at_: ∀i:Nat,i<10000->insV ((Go.Fl.Sp.runs f 10000).map fun s=>Spn.mk s.1 s.2) (i:Int)=f i:=fun i hi=>by
  rw[←z3p,w5e,Go.Fl.Sp.cov_norm hi]
 refine⟨fun q q0 q1=> ?_,?_⟩
 ·have:=at_ q.toNat (by omega)
  rw[Int.toNat_of_nonneg q0] at this
  rw[this]
 ·constructor
  ·intro hl
   refine Classical.byContradiction fun hno=> ?_
   have:Go.Fl.Sp.runs f 10000=[]:=Go.Fl.Sp.runs_empty fun i hi=>by
    cases hf:f i with
    |false=>rfl
    |true=>exact absurd ⟨(i:Int),by omega,by omega,hf⟩ hno
   rw[this] at hl;simp at hl
  ·rintro⟨q,q0,q1,hq⟩
   have:=at_ q.toNat (by omega)
   rw[hq,Int.toNat_of_nonneg q0,q76] at this
   obtain⟨r,hr,_⟩:=this
   exact List.length_pos_of_mem hr
theorem IsP.congr{l:List Spn}{p p':Int->Prop}(h:IsP l p)(e: ∀q,0<=q->q<10000->(p q↔p' q)):IsP l p':=
 ⟨fun q a b=>(h.1 q a b).trans (e q a b),h.2.trans ⟨fun ⟨q,a,b,c⟩=>⟨q,a,b,(e q a b).1 c⟩,fun ⟨q,a,b,c⟩=>⟨q,a,b,(e q a b).2 c⟩⟩⟩
theorem v86{a b:List Spn}{K:List Spn->Prop}(h: ∀l,IsP l (fun q=>insV a q=true/\insV b q≠true)->K l):q1b a b K:=
 h _ ((j8u _).congr fun q q0 q1=>by
  show (Go.Fl.Sp.cov _ _ && !Go.Fl.Sp.cov _ _)=true↔_
  rw[z3p,z3p,Int.toNat_of_nonneg q0]
  cases insV a q<;>cases insV b q<;>simp)
theorem v6y{a b:List Spn}{K:List Spn->Prop}(h: ∀l,IsP l (fun q=>insV a q=true/\insV b q=true)->K l):Bg a b K:=
 h _ ((j8u _).congr fun q q0 q1=>by
  show (Go.Fl.Sp.cov _ _ && Go.Fl.Sp.cov _ _)=true↔_
  rw[z3p,z3p,Int.toNat_of_nonneg q0]
  cases insV a q<;>cases insV b q<;>simp)
theorem j51{a b:List Spn}{K:List Spn->Prop}(ha:a.length<=1000000)(hb:b.length<=1000000)(h: ∀l,IsS l (fun q=>insV a q=true/\insV b q≠true)->K l):B1 a b K:=by
 unfold B1 z0e
 refine J9 ha fun x hx=>J9 hb fun y hy=>Lp2.ind (fun (i:Int) (o:List Bool)=> ∃j:Nat,i=(j:Int)/\j<=10000/\BAt o (fun q=>if q<j then insV a (q:Int) && !insV b (q:Int) else insV a (q:Int))) (fun i _=>(10000 - i).toNat) ?_ ⟨0,rfl,by omega,hx.of fun q hq=>by simp⟩
 rintro i o ⟨j,rfl,hj,ho⟩ _
 have hlen:=ho.len
 have hyl:=hy.len
 refine Cnd.mk (fun hc=>⟨by omega,fun z hz=> ?_⟩) fun hc=>R7 (ho.of (g:=fun q=>insV a (q:Int) && !insV b (q:Int)) fun q hq=>by rw[if_pos (by omega)]) fun l hl=>h l ⟨hl.1,fun q=>by
  rw[hl.2 q]
  constructor
  ·rintro⟨h1,h2⟩
   have h2:(insV a ((q.toNat:Nat):Int) && !insV b ((q.toNat:Nat):Int))=true:=h2
   rw[Int.toNat_of_nonneg h1.1,Bool.and_eq_true,Bool.not_eq_true'] at h2
   exact⟨h1,h2.1,by rw[h2.2];decide⟩
  ·rintro⟨h1,h2,h3⟩
   refine⟨h1,?_⟩
   show (insV a ((q.toNat:Nat):Int) && !insV b ((q.toNat:Nat):Int))=true
   rw[Int.toNat_of_nonneg h1.1,h2,Bool.eq_false_iff.2 h3];rfl⟩
 have hz:o[j]? =some z:=hz
 have hzf:=ho.get hz
 simp only[Nat.lt_irrefl,if_false] at hzf
 have step: ∀{v:Bool},v=(insV a (j:Int) && !insV b (j:Int))->InI ((j:Int)+1)/\(∃j':Nat,(j:Int)+1=(j':Int)/\j'<=10000/\BAt (o.set j v) (fun q=>if q<j' then insV a (q:Int) && !insV b (q:Int) else insV a (q:Int)))/\(10000 - ((j:Int)+1)).toNat<(10000 - (j:Int)).toNat:=fun {v} hv=>⟨by unfold InI;omega,⟨j+1,by omega,by omega,ho.set (by rw[if_pos (by omega),hv]) fun q hq hne=>by
  by_cases hqj:q<j
  ·rw[if_pos hqj,if_pos (by omega)]
  ·rw[if_neg hqj,if_neg (by omega)]⟩,by omega⟩
 refine Cnd.mk (fun ht=>⟨by omega,fun w hw=>⟨by omega,fun u hu=>step ?_⟩⟩) fun hf=>⟨by omega,fun w hw=>step (by rw[←hzf,Bool.eq_false_iff.2 hf];rfl)⟩
 have hw:y[j]? =some w:=hw
 have hwf:=hy.get hw
 rw[←hwf,←hzf,ht]
 cases w<;>rfl
def Cvr(c:Col)(q:Int):Prop:=c.1<=q/\q<c.2
structure UAt(u:List Int)(l:List Col)(now:Int):Prop where
 len:u.length=10000
 lo: ∀(q:Nat) x,u[q]? =some x->now<=x
 at_: ∀(q:Nat) x t,u[q]? =some x->now<t->(t<=x↔ ∃c∈l,Cvr c (q:Int)/\t<=c.3)
theorem q1x{l:List Col}{now:Int}{K:List Int->Prop}(hl:l.length<=1000000)(h: ∀u,UAt u l now->K u):W2 l now K:=by
 unfold W2
 refine⟨⟨by decide,by decide,by unfold Sml;decide⟩,?_⟩
 refine Lp2.ind (fun (i:Int) (u:List Int)=> ∃j:Nat,i=(j:Int)/\j<=10000/\u.length=10000/\ ∀q,q<j->u[q]? =some now) (fun i _=>(10000 - i).toNat) ?_ ⟨0,rfl,by omega,List.length_replicate,fun q hq=>by omega⟩
 rintro i u ⟨j,rfl,hj,hu,hq⟩ _
 refine Cnd.mk (fun hc=>⟨by omega,fun y hy=>⟨by unfold InI;omega,⟨j+1,by omega,by omega,by rw[List.length_set];exact hu,fun q hqj=> ?_⟩,by omega⟩⟩) fun hc=> ?_
 ·show (u.set j now)[q]? =some now
  by_cases e:j=q
  ·subst e;rw[List.getElem?_set_self (by omega)]
  ·rw[List.getElem?_set_ne e];exact hq q (by omega)
 have u0:UAt u (l.take 0) now:=⟨hu,fun q x hx=>by
  have hlt:=Qe hx
  rw[hq q (by omega)] at hx;cases hx;exact Int.le_refl _,fun q x t hx ht=>by
  have hlt:=Qe hx
  rw[hq q (by omega)] at hx;cases hx
  exact⟨fun k=>by omega,fun ⟨c,hc,_⟩=>by simp at hc⟩⟩
 refine Lp2.ind (fun (i:Int) (u:List Int)=> ∃j:Nat,i=(j:Int)/\j<=l.length/\UAt u (l.take j) now) (fun i _=>(l.length - i).toNat) ?_ ⟨0,rfl,by omega,u0⟩
 rintro i u ⟨j,rfl,hj,hu⟩ _
 refine Cnd.mk (fun hc=>⟨by omega,fun c hcj=> ?_⟩) fun hc=>h u (by rw[List.take_of_length_le (by omega)] at hu;exact hu)
 have hcj:l[j]? =some c:=hcj
 have tk:l.take (j+1)=l.take j++[c]:=by rw[List.take_add_one,hcj];rfl
 have atc: ∀{p:Col->Prop},p c->At l (j:Int) p:=fun hp=>⟨by omega,fun y hy=>by
  have hy:l[j]? =some y:=hy
  rw[hcj] at hy;cases hy;exact hp⟩
 refine Lp2.ind (fun (k:Int) (w:List Int)=>max c.1 0<=k/\w.length=10000/\(∀(q:Nat) x,w[q]? =some x->now<=x)/\ ∀(q:Nat) x t,w[q]? =some x->now<t->(t<=x↔(∃d∈l.take j,Cvr d (q:Int)/\t<=d.3)∨(Cvr c (q:Int)/\(q:Int)<k/\t<=c.3))) (fun k _=>(10000 - k).toNat) ?_ ⟨by omega,hu.len,hu.lo,fun q x t hx ht=> ?_⟩
 rotate_left
 ·rw[hu.at_ q x t hx ht]
  exact⟨.inl,fun o=>o.elim id fun ⟨⟨a,b⟩,k,_⟩=>by omega⟩
 rintro k w ⟨hk,hw,hlo,hat⟩
 refine atc (Cnd.mk (fun hc2=> ?_) fun hc2=>⟨by unfold InI;omega,⟨j+1,by omega,by omega,hw,hlo,fun q x t hx ht=> ?_⟩,by omega⟩)
 ·have hk0:0<=k:=by omega
  have hk1:k<10000:=by omega
  refine⟨by omega,fun y9 h9=>atc ⟨by omega,fun y13 _=>⟨by unfold InI;omega,⟨by omega,by rw[List.length_set];exact hw,fun q x hx=> ?_,fun q x t hx ht=> ?_⟩,by omega⟩⟩⟩
  ·by_cases e:k.toNat=q
   ·subst e
    rw[List.getElem?_set_self (by omega)] at hx
    cases hx
    have:=hlo _ _ h9;omega
   ·rw[List.getElem?_set_ne e] at hx;exact hlo q x hx
  ·by_cases e:k.toNat=q
   ·subst e
    rw[List.getElem?_set_self (by omega)] at hx
    cases hx
    have hkk:((k.toNat:Nat):Int)=k:=Int.toNat_of_nonneg hk0
    have hcv:Cvr c ((k.toNat:Nat):Int):=by rw[hkk];exact⟨by omega,by omega⟩
    have h1:=hat _ _ t h9 ht
    constructor
    ·intro hm
     rcases Int.le_total c.3 y9 with q|q
     ·exact (h1.1 (by omega)).imp id fun z=>⟨z.1,by omega,z.2.2⟩
     ·by_cases h3:t<=c.3
      ·exact .inr ⟨hcv,by omega,h3⟩
      ·omega
    ·rintro (z|⟨_,_,z⟩)
     ·have:=h1.2 (.inl z);omega
     ·omega
   ·rw[List.getElem?_set_ne e] at hx
    rw[hat q x t hx ht]
    exact or_congr Iff.rfl ⟨fun ⟨a,b,d⟩=>⟨a,by omega,d⟩,fun ⟨a,b,d⟩=>⟨a,by omega,d⟩⟩
 ·have hqlt:=Qe hx
  rw[hat q x t hx ht,tk]
  constructor
  ·rintro (⟨d,hd,z⟩|⟨z,_,z3⟩)
   ·exact⟨d,List.mem_append_left _ hd,z⟩
   ·exact⟨c,List.mem_append_right _ (List.mem_singleton.2 rfl),z,z3⟩
  ·rintro⟨d,hd,z,z3⟩
   rcases List.mem_append.1 hd with hd|hd
   ·exact .inl ⟨d,hd,z,z3⟩
   ·rw[List.mem_singleton.1 hd] at z z3
    have z1:=z.1
    have z2:=z.2
    exact .inr ⟨z,by omega,z3⟩
theorem j52{u:List Int}{l:List Col}{now:Int}{K:List Spn->Prop}(hu:UAt u l now)(h: ∀s,IsS s (fun q=> ∃c∈l,Cvr c q/\now<c.3)->K s):Bw u now K:=by
 unfold Bw z0c
 have hl:=hu.len
 refine fun _=>⟨⟨by omega,by omega,by unfold Sml;omega⟩,?_⟩
 refine Lp2.ind (fun (i:Int) (o:List Bool)=> ∃j:Nat,i=(j:Int)/\j<=10000/\o.length=10000/\ ∀(q:Nat) y b,q<j->u[q]? =some y->o[q]? =some b->b=decide (now<y)) (fun i _=>(10000 - i).toNat) ?_ ⟨0,rfl,by omega,by rw[List.length_replicate,Int.toNat_natCast];exact hl,fun q y b hq=>by omega⟩
 rintro i o ⟨j,rfl,hj,ho,hq⟩ _
 refine Cnd.mk (fun hc=>⟨by omega,fun y hy=>⟨by omega,fun z _=>⟨by unfold InI;omega,⟨j+1,by omega,by omega,by rw[List.length_set];exact ho,fun q y' b hqj hy' hb=> ?_⟩,by omega⟩⟩⟩) fun hc=> ?_
 ·have hy:u[j]? =some y:=hy
  have hb:(o.set j (decide (now<y)))[q]? =some b:=hb
  by_cases e:j=q
  ·subst e
   rw[List.getElem?_set_self (by omega)] at hb
   rw[hy] at hy';cases hy'
   exact (Option.some.inj hb).symm
  ·rw[List.getElem?_set_ne e] at hb
   exact hq q y' b (by omega) hy' hb
 ·let f:Nat->Bool:=fun q=>decide (now<u.getD q 0)
  have hb:BAt o f:=⟨ho,fun q hq2=>by
   obtain⟨y,hy⟩: ∃y,u[q]? =some y:=⟨_,List.getElem?_eq_getElem (by omega)⟩
   obtain⟨b,hb⟩: ∃b,o[q]? =some b:=⟨_,List.getElem?_eq_getElem (by omega)⟩
   rw[hb,hq q y b (by omega) hy hb]
   show _=some (decide (now<u.getD q 0))
   rw[List.getD_eq_getElem?_getD,hy];rfl⟩
  refine R7 hb fun s hs=>h s ⟨hs.1,fun q=> ?_⟩
  rw[hs.2 q]
  refine and_congr_right fun hq2=> ?_
  obtain⟨y,hy⟩: ∃y,u[q.toNat]? =some y:=⟨_,List.getElem?_eq_getElem (by omega)⟩
  show decide (now<u.getD q.toNat 0)=true↔_
  rw[List.getD_eq_getElem?_getD,hy,decide_eq_true_eq]
  show now<y↔_
  have:=hu.at_ q.toNat y (now+1) hy (by omega)
  rw[Int.toNat_of_nonneg hq2.1] at this
  exact⟨fun k=>by obtain⟨c,a,b,d⟩:=this.1 (by omega);exact⟨c,a,b,by omega⟩,fun ⟨c,a,b,d⟩=>by have:=this.2 ⟨c,a,b,by omega⟩;omega⟩
theorem w5f(s:List Spn)(a b q:Int):insV (s++[Spn.mk a b]) q=true↔insV s q=true∨(a<=q/\q<b):=by
 rw[q7g,Bool.or_eq_true,q76 (l:=[Spn.mk a b])]
 exact or_congr Iff.rfl ⟨fun ⟨r,hr,k⟩=>by rw[List.mem_singleton.1 hr] at k;exact k,fun k=>⟨_,List.mem_singleton.2 rfl,k⟩⟩
theorem v0w{l:List Col}{t:Col->Prop}[DecidablePred t]{K:List Spn->Prop}(hl:l.length<=1000000)(h: ∀s,s.length<=l.length->(∀q,insV s q=true↔ ∃c∈l,Cvr c q/\t c)->K s):
  Lp2 (fun (Qh:List Spn) (Zn:Int) z1z=>CAt l Zn (fun y2=>Cnd (t y2) (Sml (Qh++[Spn.mk y2.1 y2.2]).length/\InI (Zn+1)/\z1z (Qh++[Spn.mk y2.1 y2.2]) (Zn+1)) (InI (Zn+1)/\z1z Qh (Zn+1))) (K Qh)) [] (0:Int):=by
 refine Lp2.ind (fun (s:List Spn) (i:Int)=> ∃j:Nat,i=(j:Int)/\j<=l.length/\s.length<=j/\ ∀q,insV s q=true↔ ∃c∈l.take j,Cvr c q/\t c) (fun _ (i:Int)=>(l.length - i).toNat) ?_ ⟨0,rfl,by omega,by simp,fun q=>by simp[insV]⟩
 rintro s i ⟨j,rfl,hj,hs,hq⟩
 refine Cnd.mk (fun hc=>⟨by omega,fun c hcj=> ?_⟩) fun hc=>h s (by omega) fun q=>by rw[hq q,List.take_of_length_le (by omega)]
 have hcj:l[j]? =some c:=hcj
 have tk:l.take (j+1)=l.take j++[c]:=by rw[List.take_add_one,hcj];rfl
 refine Cnd.mk (fun ht=>⟨by unfold Sml;simp;omega,by unfold InI;omega,⟨j+1,by omega,by omega,by simp;omega,fun q=> ?_⟩,by omega⟩) fun ht=>⟨by unfold InI;omega,⟨j+1,by omega,by omega,by omega,fun q=> ?_⟩,by omega⟩
 ·rw[w5f,hq q,tk]
  constructor
  ·rintro (⟨d,hd,z⟩|z)
   ·exact⟨d,List.mem_append_left _ hd,z⟩
   ·exact⟨c,List.mem_append_right _ (List.mem_singleton.2 rfl),z,ht⟩
  ·rintro⟨d,hd,z⟩
   rcases List.mem_append.1 hd with hd|hd
   ·exact .inl ⟨d,hd,z⟩
   ·rw[List.mem_singleton.1 hd] at z;exact .inr z.1
 ·rw[hq q,tk]
  constructor
  ·rintro⟨d,hd,z⟩;exact⟨d,List.mem_append_left _ hd,z⟩
  ·rintro⟨d,hd,z⟩
   rcases List.mem_append.1 hd with hd|hd
   ·exact⟨d,hd,z⟩
   ·rw[List.mem_singleton.1 hd] at z;exact absurd z.2 ht
theorem w65{l:Lay_}{now:Int}{K:List Spn->Prop}(hl:l.6.length<=1000000)(h: ∀s,s.length<=1000000->(∀q,insV s q=true↔ ∃c∈l.6,Cvr c q/\now<c.3)->K s):W4 l now K:=by
 unfold W4
 exact fun _=>v0w (t:=fun c=>now<c.3) hl fun s hs hq=>h s (by omega) hq
end Go.En
end
noncomputable section
set_option maxRecDepth 100000
namespace Go.En
open Go Go.Fl Go.Fl.Lk Go.Fx
abbrev NdX(v:Envt):Prop:=(v.6.map Exper.key).Nodup
structure EnvL(v:Envt):Prop where
 f:v.4.length<=1000
 l:v.5.length<=1000
 x:v.6.length<=1000
 cl: ∀x∈v.6,x.6.length<=1000000/\x.7.length<=1000000
 co: ∀l∈v.5,l.6.length<=1000000
 va: ∀f∈v.4,f.3.length<=1000000
theorem w66{α:Type}{a b:List α}(hl:a.length=b.length)(h: ∀(i:Nat) x y,a[i]? =some x->b[i]? =some y->x=y):a=b:=by
 refine List.ext_getElem? fun i=> ?_
 rcases Nat.lt_or_ge i a.length with hi|hi
 ·obtain⟨x,hx⟩:=getq (l:=a) (k:=i) hi
  obtain⟨y,hy⟩:=getq (l:=b) (k:=i) (by omega)
  rw[hx,hy,h i x y hx hy]
 ·rw[List.getElem?_eq_none hi,List.getElem?_eq_none (by omega)]
theorem z1x{a b:List Rng}{K:Bool->Prop}(ha:a.length<=1000000)(h: ∀r,(r=true↔a=b)->K r):Hq a b K:=by
 unfold Hq
 refine fun _ _=>Cnd.mk (fun el=> ?_) fun hn=>h false ⟨fun q=>by (cases q),fun q=>absurd (by rw[q]) hn⟩
 refine Lp1.ind (fun (i:Int)=> ∃j:Nat,i=(j:Int)/\j<=a.length/\ ∀(k:Nat) p q,k<j->a[k]? =some p->b[k]? =some q->p=q) (fun (i:Int)=>(a.length - i).toNat) ?_ ⟨0,rfl,by omega,fun k p q hk=>by omega⟩
 rintro i ⟨n,rfl,hn,hsm⟩ _
 refine Cnd.mk (fun hc=>⟨by omega,fun p hp=>⟨by omega,fun q hq=>Cnd.mk (fun he=>⟨by unfold InI;omega,⟨n+1,by omega,by omega,fun k p' q' hk hp' hq'=> ?_⟩,by omega⟩) fun hne=>h false ⟨fun q=>by (cases q),fun z=>absurd ?_ hne⟩⟩⟩) fun hc=>h true ⟨fun _=>w66 (by omega) fun k p q hp hq=>hsm k p q (by have:=Qe hp;omega) hp hq,fun _=>rfl⟩
 ·have hp:a[n]? =some p:=hp
  have hq:b[n]? =some q:=hq
  by_cases e:k=n
  ·subst e
   rw[hp] at hp';rw[hq] at hq'
   cases hp';cases hq'
   obtain⟨p1,p2,p3⟩:=p
   obtain⟨q1,q2,q3⟩:=q
   obtain⟨r1,r2,r3⟩:=he
   simp only at r1 r2 r3
   rw[r1,r2,r3]
  ·exact hsm k p' q' (by omega) hp' hq'
 ·have hp:a[n]? =some p:=hp
  have hq:b[n]? =some q:=hq
  rw[z,hq] at hp
  cases hp
  exact⟨rfl,rfl,rfl⟩
end Go.En
end
noncomputable section
set_option maxRecDepth 100000
namespace Go.En
open Go Go.Fl Go.Fl.Lk Go.Fx
theorem allL{α:Type}{l:List α}(p:α->Prop){G:Int->α->(Int->Prop)->Prop}{B:Prop}(hl:l.length<=1000000000)(hB:(∀y∈l,p y)->B)
  (hG: ∀(i:Nat) y Y,l[i]? =some y->(p y->InI ((i:Int)+1)/\Y ((i:Int)+1))->G (i:Int) y Y):
  Lp1 (fun x Y=>Cnd (x<(l.length:Int)) ((0<=x/\x<(l.length:Int))/\ ∀y,l[x.toNat]? =some y->G x y Y) B) 0:=
 srch (fun y=>dec (¬p y)) hl (fun h=>hB fun y hy=>Classical.byContradiction fun hn=>List.find?_eq_none.1 h y hy (w46 hn)) fun i y Y hy _ _ hq=>hG i y Y hy fun hp=>hq (w00 fun hn=>hn hp)
theorem allR{α:Type}{l:List α}(p:α->Prop){G:Int->α->(Int->Prop)->Prop}{B:Prop}(hl:l.length<=1000000000)(hB:(∀y∈l,p y)->B)
  (hG: ∀(i:Nat) y Y,l[i]? =some y->(p y->InI ((i:Int)+1)/\Y ((i:Int)+1))->G (i:Int) y Y):
  Lp1 (fun x Y=>l.length<=(9223372036854775807:Nat)->Cnd (x<(l.length:Int)) ((0<=x/\x<(l.length:Int))/\ ∀y,l[x.toNat]? =some y->G x y Y) B) 0:=
 y1a (fun y=>dec (¬p y)) hl (fun h=>hB fun y hy=>Classical.byContradiction fun hn=>List.find?_eq_none.1 h y hy (w46 hn)) fun i y Y hy _ _ hq=>hG i y Y hy fun hp=>hq (w00 fun hn=>hn hp)
theorem atq{α:Type}{l:List α}{i:Nat}{x:α}{p:α->Prop}(h:l[i]? =some x)(hp:p x):At l (i:Int) p:=by
 have:=Qe h
 exact⟨by omega,fun y hy=>by
  have hy:l[i]? =some y:=hy
  rw[h] at hy;cases hy;exact hp⟩
theorem w3w{s:Spn}{q:Int}:insV [s] q=true↔s.1<=q/\q<s.2:=by
 rw[q76]
 exact⟨fun ⟨r,hr,k⟩=>by rw[List.mem_singleton.1 hr] at k;exact k,fun k=>⟨s,List.mem_singleton.2 rfl,k⟩⟩
def endV(n c:Int):Int:=if 1099511627776 - n<c then 1099511627776 else n+c
theorem w5g{n c:Int}{K:Int->Prop}(hn:0<=n/\n<=1099511627776)(hc:0<=c)(h:K (endV n c)):q1a n c K:=by
 unfold q1a
 unfold endV at h
 refine⟨by unfold InI;omega,Cnd.mk (fun k=>by rw[if_pos k] at h;exact h) fun k=> ?_⟩
 rw[if_neg k] at h
 exact⟨by unfold InI;omega,h⟩
theorem v87{n c:Int}{K:Int->Prop}(hn:0<=n/\n<=1099511627776)(hc:0<=c)(h:K (endV n c)):j3l n c K:=w5g (K:=K) hn hc h
theorem j44{α:Type}{l:List α}{i:Nat}{p:α->Prop}(hi:i<l.length)(h: ∀x,l[i]? =some x->p x):At l (i:Int) p:=⟨by omega,fun y hy=>h y hy⟩
theorem v88{m:Nat}(h:m<10000):(10000 - ((m:Int)+1)).toNat<(10000 - (m:Int)).toNat:=by omega
end Go.En
end
noncomputable section
set_option maxRecDepth 100000
namespace Go.En
open Go Go.Fl Go.Fl.Lk Go.Fx
inductive ExW:Ex->Prop
 |mk (e:Ex):e.name.size<=1000->e.kind.size<=1000->(∀v∈e.values,v.text.size<=1000)->(∀k∈e.kids,ExW k)->ExW e
theorem ExW.nm{e:Ex}:ExW e->e.name.size<=1000
 | .mk _ h _ _ _=>h
theorem ExW.kd{e:Ex}:ExW e->e.kind.size<=1000
 | .mk _ _ h _ _=>h
theorem ExW.vl{e:Ex}:ExW e-> ∀v∈e.values,v.text.size<=1000
 | .mk _ _ _ h _=>h
structure SgW(g:Seg):Prop where
 key:g.key.size<=1000
 kind:g.kind.size<=1000
 cond:ExW g.cond
structure SrW(s:Srv):Prop where
 kind:s.kind.size<=1000
 by_:s.by_.size<=1000
structure RlW(r:Rul):Prop where
 name:r.name.size<=1000
 cond:ExW r.cond
 serve:SrW r.serve
structure FlW(f:Flg):Prop where
 key:f.key.size<=1000
 vn:f.3.length<=1000000
 vals: ∀v∈f.variations,v.text.size<=1000
 needs: ∀q∈f.needs,q.flag.size<=1000
 tgts: ∀t∈f.targets,t.kind.size<=1000
 rules: ∀r∈f.rules,RlW r
 dflt:SrW f.dflt
structure LyW(l:Lay_):Prop where
 key:l.key.size<=1000
 kind:l.kind.size<=1000
 co:l.6.length<=1000000
structure XpW(x:Exper):Prop where
 key:x.key.size<=1000
 layer:x.layer.size<=1000
 flag:x.flag.size<=1000
 cl:x.6.length<=1000000
 ar:x.7.length<=1000000
 cond:ExW x.cond
structure EnvW(v:Envt):Prop where
 hk:v.1.2.size<=1000
 attrs: ∀d∈v.attributes,d.kind.size<=1000/\d.name.size<=1000
 segs: ∀g∈v.segments,SgW g
 flags: ∀f∈v.flags,FlW f
 layers: ∀l∈v.layers,LyW l
 exps: ∀x∈v.experiments,XpW x
 fn:v.4.length<=1000
 ln:v.5.length<=1000
 xn:v.6.length<=1000
theorem ExS.w: ∀{n:Nat} {e:Ex},ExS n e->ExW e:=by
 intro n
 induction n using Nat.strongRecOn with
 |_ n ih=>
 intro e h
 have hn:=h.nm
 have hk:=h.kd
 refine .mk e (by omega) (by omega) (fun v hv=>by have:=(h.vals.all v hv).txt;omega) fun k hk=> ?_
 obtain⟨q,hq,hx⟩:=h.kid hk
 exact ih q (by omega) hx
theorem SegS.w{g:Seg}(h:SegS g):SgW g:=⟨by have:=h.key;omega,by have:=h.kind;omega,h.cond.w⟩
theorem SrvS.w{n:Int}{s:Srv}(h:SrvS n s):SrW s:=⟨by have:=h.kind;omega,by have:=h.by_;omega⟩
theorem RulS.w{n:Int}{r:Rul}(h:RulS n r):RlW r:=⟨by have:=h.name;omega,h.cond.w,h.serve.w⟩
theorem FlgS.w{f:Flg}(h:FlgS f):FlW f:=⟨by have:=h.key;omega,by have:=h.vlen;omega,fun v hv=>by have:=(h.vals v hv).txt;omega,fun q hq=>by have:=h.needs q hq;omega,fun t ht=>by have:=h.tgts t ht;omega,fun r hr=>(h.rules r hr).w,h.dflt.w⟩
theorem LayS.w{l:Lay_}(h:LayS l):LyW l:=⟨by have:=h.key;omega,by have:=h.kind;omega,by have:=h.cl;omega⟩
theorem ExpS.w{x:Exper}(h:ExpS x):XpW x:=⟨by have:=h.key;omega,by have:=h.layer;omega,by have:=h.flag;omega,by have:=h.claims.len;omega,by have:=h.arms.1;omega,h.cond.w⟩
theorem w67{e:Ex}{K:Int->Prop}(he:ExW e)(h: ∀r,K r):q33 e K:=by
 unfold q33 z7m
 have hv:=he.vl
 have hn:=he.nm
 have hk:=he.kd
 rw[Ju]
 refine Cnd.mk (fun _=>h _) fun _=>Cnd.mk (fun _=>h _) fun _=>j00 fun r hr=>Cnd.mk (fun hc=> ?_) fun _=>h _
 have hne:=hr hc
 have z:e.op=9∨e.op=10∨e.op=11->(0:Int)<(e.values.length:Int):=fun ho=>by
  have:=List.length_pos_iff.2 (hne (by omega) (by omega));omega
 (repeat' (first|exact h _|refine q0k fun _ _=> ?_|refine Z8 (by omega) fun _=> ?_|(refine z09 (hv _ (getm (by assumption))) fun _=> ?_)|(refine Lp1.ind (fun (i:Int)=>0<=i/\i<=e.kids.length+e.values.length) (fun (i:Int)=>(e.kids.length+e.values.length - i).toNat) (fun i hi=> ?_) ⟨by omega,by omega⟩)|assumption|(unfold InI;omega)|omega|refine Cnd.mk (fun _=> ?_) fun _=> ?_|refine⟨?_,?_⟩|intro _))
theorem w68{e:Ex}(he:ExW e): ∀{d m:Int} {K:Int->Int->Prop},0<=d->d<=11->0<=m->(∀r m,0<=m->K r m)->z2m e d m K:=by
 induction he with
 |mk e nm kd vl kids ih=>
 intro d m K d0 d1 m0 h X hX
 refine hX _ _ _ _ ?_
 unfold z7n
 rw[Ju]
 refine Cnd.mk (fun _=>h _ _ m0) fun _=>⟨by unfold InI;omega,Cnd.mk (fun _=>h _ _ (by omega)) fun _=>w67 (.mk e nm kd vl kids) fun _=>Cnd.mk (fun _=> ?_) fun _=>h _ _ (by omega)⟩
 refine Lp2.ind (fun (i m:Int)=>0<=i/\i<=e.kids.length/\0<=m) (fun (i _:Int)=>(e.kids.length - i).toNat) ?_ ⟨by omega,by omega,by omega⟩
 rintro i m ⟨i0,i1,m0⟩ _
 refine Cnd.mk (fun hc=>⟨by omega,fun y hy=>⟨by unfold InI;omega,?_⟩⟩) fun _=>h _ _ m0
 rw[Ju]
 exact ih y (getm hy) (by omega) (by omega) m0 (fun r m m0=>Cnd.mk (fun _=>⟨by unfold InI;omega,⟨by omega,by omega,m0⟩,by omega⟩) fun _=>h _ _ m0) X hX
theorem j0l{e:Ex}{K:Int->Prop}(he:ExW e)(h: ∀r,K r):q34 e K:=by
 unfold q34 z7o
 rw[Ju]
 exact w68 he (by decide) (by decide) (by decide) fun r _ _=>h r
theorem j8v{g:Seg}{K:Int->Prop}(hg:SgW g)(h: ∀r,K r):q0c g K:=by
 unfold q0c q7q
 have h1:=hg.key
 have h2:=hg.kind
 rw[Ju]
 (repeat' (first|exact h _|refine Z8 (by omega) fun _=> ?_|refine q5h fun _=> ?_|refine j63 fun _=> ?_|refine j0l hg.cond fun _=> ?_|assumption|(unfold InI;omega)|omega|refine Cnd.mk (fun _=> ?_) fun _=> ?_|refine⟨?_,?_⟩|intro _))
theorem j53{l:List Seg}{K:Int->Prop}(hl: ∀g∈l,SgW g)(h: ∀r,K r):H4 l K:=by
 unfold H4 q48
 refine fun _=>Cnd.mk (fun _=>h _) fun _=> ?_
 refine Lp1.ind (fun (i:Int)=>0<=i/\i<=l.length) (fun (i:Int)=>(l.length - i).toNat) ?_ ⟨by omega,by omega⟩
 rintro i ⟨i0,i1⟩ _
 refine Cnd.mk (fun hc=>⟨by omega,fun y hy=> ?_⟩) fun _=>h _
 dsimp only;rw[Ju]
 refine j8v (hl y (getm hy)) fun _=> ?_
 (repeat' (first|exact h _|assumption|(unfold InI;omega)|omega|refine Cnd.mk (fun _=> ?_) fun _=> ?_|refine⟨?_,?_⟩|intro _))
theorem j1z{f:Flg}{K:Int->Prop}(hf: ∀v∈f.variations,v.text.size<=1000)(h: ∀r,K r):Ud f K:=by
 unfold Ud q02
 have hv:=hf
 (repeat' (first|exact h _|(refine z09 (hv _ (getm (by assumption))) fun _=> ?_)|(refine Lp1.ind (fun (i:Int)=>0<=i/\i<=f.variations.length) (fun (i:Int)=>(f.variations.length - i).toNat) (fun i hi=> ?_) ⟨by omega,by omega⟩)|assumption|(unfold InI;omega)|omega|refine Cnd.mk (fun _=> ?_) fun _=> ?_|refine⟨?_,?_⟩|intro _))
theorem z6u{l:List Prq}{K:Int->Prop}(hl: ∀q∈l,q.flag.size<=1000)(h: ∀r,K r):Wd l K:=by
 unfold Wd Gv
 refine fun _=>Cnd.mk (fun _=>h _) fun _=> ?_
 refine Lp1.ind (fun (i:Int)=>0<=i/\i<=l.length) (fun (i:Int)=>(l.length - i).toNat) ?_ ⟨by omega,by omega⟩
 rintro i ⟨i0,i1⟩ _
 refine Cnd.mk (fun hc=>⟨by omega,fun y hy=>Z8 (by have:=hl y (getm hy);omega) fun _=> ?_⟩) fun _=>h _
 (repeat' (first|exact h _|assumption|(unfold InI;omega)|omega|refine Cnd.mk (fun _=> ?_) fun _=> ?_|refine⟨?_,?_⟩|intro _))
theorem j8w{l:List Tgt}{n:Int}{K:Int->Prop}(hl: ∀t∈l,t.kind.size<=1000)(h: ∀r,K r):q0d l n K:=by
 unfold q0d q7r
 refine fun _=>Cnd.mk (fun _=>h _) fun _=> ?_
 refine Lp1.ind (fun (i:Int)=>0<=i/\i<=l.length) (fun (i:Int)=>(l.length - i).toNat) ?_ ⟨by omega,by omega⟩
 rintro i ⟨i0,i1⟩ _
 refine Cnd.mk (fun hc=>⟨by omega,fun y hy=>Z8 (by have:=hl y (getm hy);omega) fun _=> ?_⟩) fun _=>h _
 (repeat' (first|exact h _|refine q5h fun _=> ?_|assumption|(unfold InI;omega)|omega|refine Cnd.mk (fun _=> ?_) fun _=> ?_|refine⟨?_,?_⟩|intro _))
theorem j45{n:Int}{s:Srv}{K:Int->Prop}(hs:SrW s)(h: ∀r,K r):q2r s n K:=by
 unfold q2r z4b
 have h1:=hs.kind
 have h2:=hs.by_
 (repeat' (first|exact h _|refine Z8 (by omega) fun _=> ?_|refine V2 fun _=> ?_|refine z07 fun _ _ _=> ?_|assumption|(unfold InI;omega)|omega|refine Cnd.mk (fun _=> ?_) fun _=> ?_|refine⟨?_,?_⟩|intro _))
theorem w3x{n:Int}{l:List Rul}{K:Int->Prop}(hl: ∀r∈l,RlW r)(h: ∀r,K r):q5r l n K:=by
 unfold q5r z4c
 refine fun _=>Cnd.mk (fun _=>h _) fun _=> ?_
 refine Lp1.ind (fun (i:Int)=>0<=i/\i<=l.length) (fun (i:Int)=>(l.length - i).toNat) ?_ ⟨by omega,by omega⟩
 rintro i ⟨i0,i1⟩ _
 refine Cnd.mk (fun hc=>⟨by omega,fun y hy=>Z8 (by have:=(hl y (getm hy)).name;omega) fun _=>Cnd.mk (fun _=> ?_) fun _=>h _⟩) fun _=>h _
 refine Lp1.ind (fun (j:Int)=>0<=j/\j<=i) (fun (j:Int)=>(i - j).toNat) ?_ ⟨by omega,by omega⟩
 rintro j ⟨j0,j1⟩
 refine Cnd.mk (fun hc=>⟨by omega,fun y hy=>⟨by omega,fun z hz=>Cnd.mk (fun _=>h _) fun _=>⟨by unfold InI;omega,⟨by omega,by omega⟩,by omega⟩⟩⟩) fun _=>⟨by omega,fun y hy=> ?_⟩
 dsimp only;rw[Ju]
 refine j0l (hl y (getm hy)).cond fun _=>Cnd.mk (fun _=>⟨by omega,fun z hz=>j45 (hl z (getm hz)).serve fun _=> ?_⟩) fun _=>h _
 (repeat' (first|exact h _|assumption|(unfold InI;omega)|omega|refine Cnd.mk (fun _=> ?_) fun _=> ?_|refine⟨?_,?_⟩|intro _))
theorem w69{f:Flg}{K:Int->Prop}(hf:FlW f)(h: ∀r,K r):q9j f K:=by
 unfold q9j z7p
 have h1:=hf.key
 (repeat' (first|exact h _|refine Z8 (by omega) fun _=> ?_|refine j1z hf.vals fun _=> ?_|refine z6u hf.needs fun _=> ?_|refine j8w hf.tgts fun _=> ?_|refine w3x hf.rules fun _=> ?_|refine j45 hf.dflt fun _=> ?_|assumption|(unfold InI;omega)|omega|refine Cnd.mk (fun _=> ?_) fun _=> ?_|refine⟨?_,?_⟩|intro _))
theorem w3y{l:List Flg}{K:Int->Prop}(hl: ∀f∈l,FlW f)(h: ∀r,K r):q5s l K:=by
 unfold q5s z4d
 refine fun _=>Cnd.mk (fun _=>h _) fun _=> ?_
 refine Lp1.ind (fun (i:Int)=>0<=i/\i<=l.length) (fun (i:Int)=>(l.length - i).toNat) ?_ ⟨by omega,by omega⟩
 rintro i ⟨i0,i1⟩ _
 refine Cnd.mk (fun hc=>⟨by omega,fun y hy=>w69 (hl y (getm hy)) fun _=> ?_⟩) fun _=>h _
 (repeat' (first|exact h _|assumption|(unfold InI;omega)|omega|refine Cnd.mk (fun _=> ?_) fun _=> ?_|refine⟨?_,?_⟩|intro _))
theorem w3z{l:Lay_}{K:Int->Prop}(hl:LyW l)(h: ∀r,K r):q5t l K:=by
 unfold q5t z4e
 have h1:=hl.key
 have h2:=hl.kind
 (repeat' (first|exact h _|refine Z8 (by omega) fun _=> ?_|refine V2 fun _=> ?_|(refine Lp1.ind (fun (i:Int)=>0<=i/\i<=l.cooling.length) (fun (i:Int)=>(l.cooling.length - i).toNat) (fun i hi=> ?_) ⟨by omega,by omega⟩)|assumption|(unfold InI;omega)|omega|refine Cnd.mk (fun _=> ?_) fun _=> ?_|refine⟨?_,?_⟩|intro _))
theorem w09{l:List Lay_}{K:Int->Prop}(hl: ∀f∈l,LyW f)(h: ∀r,K r):q2s l K:=by
 unfold q2s z0j
 refine fun _=>Cnd.mk (fun _=>h _) fun _=> ?_
 refine Lp1.ind (fun (i:Int)=>0<=i/\i<=l.length) (fun (i:Int)=>(l.length - i).toNat) ?_ ⟨by omega,by omega⟩
 rintro i ⟨i0,i1⟩ _
 refine Cnd.mk (fun hc=>⟨by omega,fun y hy=>w3z (hl y (getm hy)) fun _=> ?_⟩) fun _=>h _
 (repeat' (first|exact h _|assumption|(unfold InI;omega)|omega|refine Cnd.mk (fun _=> ?_) fun _=> ?_|refine⟨?_,?_⟩|intro _))
theorem j10{x:Exper}{K:Int->Prop}(hx:XpW x)(h: ∀r,K r):Ue x K:=by
 unfold Ue q03
 have h1:=hx.key
 have h2:=hx.layer
 have h3:=hx.flag
 rw[Ju]
 (repeat' (first|exact h _|refine Z8 (by omega) fun _=> ?_|refine V2 fun _=> ?_|refine j4v fun _ _ _=> ?_|refine z07 fun _ _ _=> ?_|refine j0l hx.cond fun _=> ?_|assumption|(unfold InI;omega)|omega|refine Cnd.mk (fun _=> ?_) fun _=> ?_|refine⟨?_,?_⟩|intro _))
theorem v89{α:Type}{k:α->ByteArray}{l:List α}(h: ∀(i:Nat) a b,l[i]? =some a->l[i+1]? =some b->Lk.blt (k a) (k b)):(l.map k).Nodup:=by
 have key: ∀(d i:Nat) a b,l[i]? =some a->l[i+1+d]? =some b->Lk.blt (k a) (k b):=fun d=>by
  induction d with
  |zero=>exact h
  |succ d ih=>
   intro i a b ha hb
   obtain⟨c,hc⟩:=getq (l:=l) (k:=i+1+d) (by have:=Qe hb;omega)
   exact j2o (ih i a c ha hc) (h _ c b hc hb)
 rw[List.nodup_iff_pairwise_ne,List.pairwise_iff_getElem]
 intro i j hi hj hij e
 rw[List.length_map] at hi hj
 rw[List.getElem_map,List.getElem_map] at e
 have:=key (j - i - 1) i l[i] l[j] (List.getElem?_eq_getElem hi) (by rw[show i+1+(j - i - 1)=j by omega];exact List.getElem?_eq_getElem hj)
 rw[e] at this
 exact z3t _ this
theorem j0m{l:List Exper}{K:Int->Prop}(hl: ∀f∈l,XpW f)(h: ∀r,(r=0->(l.map Exper.key).Nodup)->K r):Vd l K:=by
 unfold Vd Be
 have no: ∀{r:Int},r≠0->K r:=fun hr=>h _ fun k=>absurd k hr
 refine fun _=>Cnd.mk (fun _=>no (by decide)) fun _=> ?_
 refine Lp1.ind (fun (i:Int)=> ∃j:Nat,i=(j:Int)/\j<=l.length/\ ∀(q:Nat) a b,q+1<j->l[q]? =some a->l[q+1]? =some b->Lk.blt a.1 b.1) (fun (i:Int)=>(l.length - i).toNat) ?_ ⟨0,rfl,by omega,fun q a b hq=>by omega⟩
 rintro i ⟨j,rfl,hj,hasc⟩ _
 refine Cnd.mk (fun hc=>⟨by omega,fun y hy=> ?_⟩) fun hc=>h _ fun _=>v89 fun q a b ha hb=>hasc q a b (by have:=Qe hb;omega) ha hb
 have hy:l[j]? =some y:=hy
 dsimp only;rw[Ju]
 refine j10 (hl y (getm hy)) fun e=>Cnd.mk (fun _=>Cnd.mk (fun hpos=>⟨by omega,fun y2 hy2=>⟨by unfold InI;omega,by omega,fun z hz=>Cnd.mk (fun hlt=>⟨by unfold InI;omega,⟨j+1,by omega,by omega,fun q a b hq ha hb=> ?_⟩,by omega⟩) fun _=>no (by decide)⟩⟩) fun hz=>⟨by unfold InI;omega,⟨j+1,by omega,by omega,fun q a b hq=>by omega⟩,by omega⟩) fun he=>no he
 have hy2:l[j]? =some y2:=hy2
 have hz:l[j - 1]? =some z:=by rw[show ((j:Int) - 1).toNat=j - 1 by omega] at hz;exact hz
 by_cases e2:q+1=j
 ·rw[show q=j - 1 by omega,hz] at ha
  rw[e2,hy2] at hb
  cases ha;cases hb;exact hlt
 ·exact hasc q a b (by omega) ha hb
theorem j0n{v:Envt}{K:Int->Prop}(hv:EnvW v)(h: ∀r,(r=0->NdX v)->K r):Wo v K:=by
 unfold Wo Bf
 have no: ∀{r:Int},¬r=0->K r:=fun hr=>h _ fun k=>absurd k hr
 exact z5n (s:=Sett.mk v.1.1 v.1.2 v.1.3) hv.hk fun _=>Cnd.mk (fun _=>z5o hv.attrs fun _=>Cnd.mk (fun _=>j53 hv.segs fun _=>Cnd.mk (fun _=>w3y hv.flags fun _=>Cnd.mk (fun _=>w09 hv.layers fun _=>Cnd.mk (fun _=>j0m hv.exps fun r hr=>h r hr) no) no) no) no) no
end Go.En
end
noncomputable section
set_option maxRecDepth 100000
namespace Go.En
open Go Go.Fl Go.Fl.Lk Go.Fx
def ixF{α:Type}(p:α->Bool):List α->Nat->Option (Nat×α)
 |[],_=>none
 |a::l,i=>if p a=true then some (i,a) else ixF p l (i+1)
theorem v4s{α:Type}{l:List α}{p:α->Bool}{i:Nat}{y:α}(hy:l[i]? =some y)(hp:p y=true):ixF p (l.drop i) i=some (i,y):=by
 have hlt:=Qe hy
 rw[List.drop_eq_getElem_cons hlt]
 have e:l[i]=y:=by rw[List.getElem?_eq_getElem hlt] at hy;exact Option.some.inj hy
 rw[e,ixF,if_pos hp]
theorem v0x{α:Type}{l:List α}{p:α->Bool}{i:Nat}{y:α}(hy:l[i]? =some y)(hp:p y=false):ixF p (l.drop i) i=ixF p (l.drop (i+1)) (i+1):=by
 have hlt:=Qe hy
 rw[List.drop_eq_getElem_cons hlt]
 have e:l[i]=y:=by rw[List.getElem?_eq_getElem hlt] at hy;exact Option.some.inj hy
 rw[e,ixF,if_neg (by rw[hp];simp)]
theorem w30{α:Type}{p:α->Bool}: ∀{l:List α} {n i:Nat} {y:α},ixF p l n=some (i,y)->n<=i/\l[i - n]? =some y/\p y=true/\l.find? p=some y
 |[],_,_,_,h=>by cases h
 |a::l,n,i,y,h=>by
  rw[ixF] at h
  split at h
  ·rename_i hp
   cases h;exact⟨Nat.le_refl _,by simp,hp,by rw[List.find?_cons,hp]⟩
  ·rename_i hp
   obtain⟨h1,h2,h3,h4⟩:=w30 h
   refine⟨by omega,?_,h3,by rw[List.find?_cons,Bool.eq_false_iff.2 hp];exact h4⟩
   rw[show i - n=(i - (n+1))+1 by omega];exact h2
theorem v9a{α:Type}{l:List α}(p:α->Bool){G:Int->α->(Int->Prop)->Prop}{B:Prop}(hl:l.length<=1000000000)(hB:ixF p l 0=none->B)
  (hG: ∀(i:Nat) y Y,l[i]? =some y->i<l.length->(p y=true->ixF p l 0=some (i,y))->(p y=false->InI ((i:Int)+1)/\Y ((i:Int)+1))->G (i:Int) y Y):
  Lp1 (fun x Y=>Cnd (x<(l.length:Int)) ((0<=x/\x<(l.length:Int))/\ ∀y,l[x.toNat]? =some y->G x y Y) B) 0:=by
 refine Lp1.ind (fun i=> ∃j:Nat,i=(j:Int)/\j<=l.length/\ixF p l 0=ixF p (l.drop j) j) (fun i=>(l.length - i).toNat) ?_ ⟨0,rfl,by omega,rfl⟩
 rintro i ⟨j,rfl,hj,hf⟩
 refine Cnd.mk (fun hc=>⟨by omega,fun y hy=> ?_⟩) fun hc=> ?_
 ·have hy:l[j]? =some y:=hy
  refine hG j y _ hy (by omega) (fun hp=>by rw[hf,v4s hy hp]) fun hp=>⟨by unfold InI;omega,⟨j+1,by omega,by omega,by rw[hf,v0x hy hp]⟩,by omega⟩
 ·refine hB ?_
  rw[hf,List.drop_eq_nil_of_le (by omega)];rfl
theorem v4t{α:Type}{l:List α}(p:α->Bool){G:Int->α->(Int->Prop)->Prop}{B:Prop}(hl:l.length<=1000000000)(hB:ixF p l 0=none->B)
  (hG: ∀(i:Nat) y Y,l[i]? =some y->i<l.length->(p y=true->ixF p l 0=some (i,y))->(p y=false->InI ((i:Int)+1)/\Y ((i:Int)+1))->G (i:Int) y Y):
  Lp1 (fun x Y=>l.length<=(9223372036854775807:Nat)->Cnd (x<(l.length:Int)) ((0<=x/\x<(l.length:Int))/\ ∀y,l[x.toNat]? =some y->G x y Y) B) 0:=by
 refine Lp1.ind (fun i=> ∃j:Nat,i=(j:Int)/\j<=l.length/\ixF p l 0=ixF p (l.drop j) j) (fun i=>(l.length - i).toNat) ?_ ⟨0,rfl,by omega,rfl⟩
 rintro i ⟨j,rfl,hj,hf⟩ _
 refine Cnd.mk (fun hc=>⟨by omega,fun y hy=> ?_⟩) fun hc=> ?_
 ·have hy:l[j]? =some y:=hy
  refine hG j y _ hy (by omega) (fun hp=>by rw[hf,v4s hy hp]) fun hp=>⟨by unfold InI;omega,⟨j+1,by omega,by omega,by rw[hf,v0x hy hp]⟩,by omega⟩
 ·refine hB ?_
  rw[hf,List.drop_eq_nil_of_le (by omega)];rfl
def xix(v:Envt)(key:ByteArray):Option (Nat×Exper):=ixF (fun x=>decide (x.1=key)) v.6 0
def lix(v:Envt)(key:ByteArray):Option (Nat×Lay_):=ixF (fun l=>decide (l.1=key)) v.5 0
theorem q1y{v:Envt}{key:ByteArray}{j:Nat}{x:Exper}(h:xix v key=some (j,x)):v.6[j]? =some x/\x.1=key/\xof v key=some x:=by
 obtain⟨_,h2,h3,h4⟩:=w30 h
 exact⟨h2,of_decide_eq_true h3,h4⟩
theorem z8f{v:Envt}{key:ByteArray}{j:Nat}{l:Lay_}(h:lix v key=some (j,l)):v.5[j]? =some l/\l.1=key/\lof v key=some l:=by
 obtain⟨_,h2,h3,h4⟩:=w30 h
 exact⟨h2,of_decide_eq_true h3,h4⟩
theorem w31{v:Envt}{key:ByteArray}{K:Int->Prop}(hn:v.5.length<=1000)(h0:lix v key=none->K (-1))(h1: ∀(j:Nat) l,lix v key=some (j,l)->K (j:Int)):Ug v key K:=by
 unfold Ug
 exact fun _=>v9a (fun l:Lay_=>decide (l.1=key)) (by omega) h0 fun i y Y _ _ hp hq=>Cnd.mk (fun he=>h1 i y (hp (dt he))) fun he=>hq (df he)
theorem j8x{v:Envt}{key:ByteArray}{K:Int->Prop}(hn:v.5.length<=1000)(h0:lix v key=none->K (-1))(h1: ∀(j:Nat) l,lix v key=some (j,l)->K (j:Int)):Wu v key K:=by
 unfold Wu
 exact v4t (fun l:Lay_=>decide (l.1=key)) (by omega) h0 fun i y Y _ _ hp hq=>Cnd.mk (fun he=>h1 i y (hp (dt he))) fun he=>hq (df he)
theorem v6z{v:Envt}{key:ByteArray}{K:Int->Prop}(hn:v.6.length<=1000)(h0:xix v key=none->K (-1))(h1: ∀(j:Nat) l,xix v key=some (j,l)->K (j:Int)):Gx v key K:=by
 unfold Gx
 exact v4t (fun l:Exper=>decide (l.1=key)) (by omega) h0 fun i y Y _ _ hp hq=>Cnd.mk (fun he=>h1 i y (hp (dt he))) fun he=>hq (df he)
def fndV(v:Envt)(key:ByteArray)(now:Int):Except Int (Nat×Exper×Nat×Lay_):=
 if 0<=now/\now<=1099511627776 then match xix v key with
  |none=> .error 11
  |some (j,x)=>match lix v x.2 with
   |none=> .error 11
   |some (k,l)=> .ok (j,x,k,l)
 else .error 3
structure Fnd(v:Envt)(key:ByteArray)(now:Int)(j:Nat)(x:Exper)(k:Nat)(l:Lay_):Prop where
 n0:0<=now
 n1:now<=1099511627776
 hx:xix v key=some (j,x)
 hl:lix v x.2=some (k,l)
theorem z8g{v:Envt}{key:ByteArray}{now:Int}{j k:Nat}{x:Exper}{l:Lay_}(h:fndV v key now= .ok (j,x,k,l)):Fnd v key now j x k l:=by
 unfold fndV at h
 split at h
 ·rename_i hn
  split at h
  ·cases h
  ·rename_i hx
   split at h
   ·cases h
   ·rename_i hl
    cases h
    exact⟨hn.1,hn.2,hx,hl⟩
 ·cases h
theorem Fnd.v{v:Envt}{key:ByteArray}{now:Int}{j k:Nat}{x:Exper}{l:Lay_}(h:Fnd v key now j x k l):fndV v key now= .ok (j,x,k,l):=by
 unfold fndV
 rw[if_pos ⟨h.n0,h.n1⟩,h.hx]
 simp only[h.hl]
theorem j68{v:Envt}{key:ByteArray}{now e:Int}(h:fndV v key now= .error e):e≠0:=by
 unfold fndV at h
 split at h
 ·split at h
  ·cases h;decide
  ·split at h
   ·cases h;decide
   ·cases h
 ·cases h;decide
theorem w1a{now:Int}{K:Bool->Prop}(h: ∀r,(r=true↔0<=now/\now<=1099511627776)->K r):Ge now K:=by
 unfold Ge
 exact Cnd.mk (fun h6=>h _ ⟨fun a=>⟨h6,of_decide_eq_true a⟩,fun a=>decide_eq_true a.2⟩) fun h6=>h _ ⟨fun a=>(by cases a),fun a=>absurd a.1 h6⟩
theorem v60{v:Envt}{key:ByteArray}{now:Int}{K:Int->Int->Int->Prop}(hx:v.6.length<=1000)(hl:v.5.length<=1000)(h0: ∀e,fndV v key now= .error e->K 0 0 e)(h1: ∀(j k:Nat) x l,fndV v key now= .ok (j,x,k,l)->K (j:Int) (k:Int) 0):Gn v key now K:=by
 unfold Gn q8h
 refine w1a fun r hr=>Cnd.mk (fun hr1 _=> ?_) fun hr1=>h0 3 (by unfold fndV;rw[if_neg fun k=>hr1 (hr.2 k)])
 have hm:=hr.1 hr1
 refine v9a (fun x:Exper=>decide (x.1=key)) (by omega) (fun hn=>Cnd.yes (by decide) (h0 11 ?_)) fun i y Y hy hi hp hq=>Cnd.mk (fun he=>Cnd.no (by omega) (atq hy ?_)) fun he=>hq (df he)
 ·have hn:xix v key=none:=hn
  unfold fndV
  rw[if_pos hm,hn]
 ·have hxx:xix v key=some (i,y):=hp (dt he)
  refine w31 (v:=v) hl (fun hno=>Cnd.yes (by decide) (h0 11 ?_)) fun k l hkl=>Cnd.no (by omega) (h1 i k y l (Fnd.v ⟨hm.1,hm.2,hxx,hkl⟩))
  unfold fndV
  rw[if_pos hm,hxx]
  simp only[hno]
theorem v61{v:Envt}{key:ByteArray}{now:Int}{K:Int->Int->Prop}(hx:v.6.length<=1000)(hl:v.5.length<=1000)(h0: ∀e,fndV v key now= .error e->K 0 e)(h1: ∀(j k:Nat) x l,fndV v key now= .ok (j,x,k,l)->K (j:Int) 0):q5u v key now K:=by
 unfold q5u z9g
 refine v6z (v:=v) hx (fun hn=>z06 fun r hr=>Cnd.mk (fun hr1=>Cnd.yes (by decide) (h0 11 ?_)) fun hr1=>h0 3 (by unfold fndV;rw[if_neg fun k=>hr1 (hr.2 k)])) fun j x hxx=>z06 fun r hr=>Cnd.mk (fun hr1=>Cnd.no (by omega) (atq (q1y hxx).1 ?_)) fun hr1=>h0 3 (by unfold fndV;rw[if_neg fun k=>hr1 (hr.2 k)])
 ·unfold fndV
  rw[if_pos (hr.1 hr1),hn]
 ·have hm:=hr.1 hr1
  refine j8x (v:=v) hl (fun hno=>Cnd.yes (by decide) (h0 11 ?_)) fun k l hkl=>Cnd.no (by omega) (h1 j k x l (Fnd.v ⟨hm.1,hm.2,hxx,hkl⟩))
  unfold fndV
  rw[if_pos hm,hxx]
  simp only[hno]
theorem q29{α:Type}{l acc:List α}{G:α->(α->Prop)->Prop}{R:List α->Prop}(ha:acc=[])(hl:l.length<=1000000)(hG: ∀y∈l,∀K:α->Prop,K y->G y K)(h:R l):
  Lp2 (fun acc i Y=>Cnd (i<(l.length:Int)) ((0<=i/\i<(l.length:Int))/\ ∀y,l[i.toNat]? =some y->G y fun x=>Sml (acc++[x]).length/\InI (i+1)/\Y (acc++[x]) (i+1)) (R acc)) acc (0:Int):=by
 subst ha
 refine Lp2.ind (fun (acc:List α) (i:Int)=> ∃j:Nat,i=(j:Int)/\j<=l.length/\acc=l.take j) (fun _ (i:Int)=>(l.length - i).toNat) ?_ ⟨0,rfl,by omega,rfl⟩
 rintro acc i ⟨j,rfl,hj,rfl⟩
 refine Cnd.mk (fun hc=>⟨by omega,fun y hy=> ?_⟩) fun hc=>by rw[List.take_of_length_le (by omega)];exact h
 have hy:l[j]? =some y:=hy
 refine hG y (getm hy) _ ⟨by unfold Sml;simp;omega,by unfold InI;omega,⟨j+1,by omega,by omega,?_⟩,by omega⟩
 rw[List.take_add_one,hy];rfl
theorem smlA{α:Type}{l:List α}(h:l.length<=1000000):Sml ([]++l).length:=by rw[List.nil_append];unfold Sml;omega
theorem sml0{α:Type}{l:List α}(h:l.length<=1000000):(0:Int)<=(0:Int)/\(0:Int)<=((l.length:Nat):Int)/\Sml ((l.length:Nat):Int).toNat:=⟨by omega,by omega,by unfold Sml;omega⟩
theorem j8y{v:Val}{K:Val->Prop}(hv:v.4.length<=1000000)(h:K v):Uz v K:=by
 obtain⟨a,b,c,d⟩:=v
 intro n0 hn
 exact Cnd.mk (fun hc=>by obtain rfl:=hn hc;exact h) fun _=>⟨smlA hv,h⟩
theorem j8z{v:Srv}{K:Srv->Prop}(hv:v.5.length<=1000000)(h:K v):q49 v K:=by
 obtain⟨a,b,c,d,e⟩:=v
 intro n0 hn
 exact Cnd.mk (fun hc=>by obtain rfl:=hn hc;exact h) fun _=>⟨smlA hv,h⟩
theorem w1b{v:Tgt}{K:Tgt->Prop}(hv:v.3.length<=1000000)(h:K v):R0 v K:=by
 obtain⟨a,b,c⟩:=v
 intro n0 hn
 exact Cnd.mk (fun hc=>by obtain rfl:=hn hc;exact h) fun _=>⟨smlA hv,h⟩
theorem v0y{l:List Col}{K:List Col->Prop}(hv:l.length<=1000000)(h:K l):Q5 l K:=by
 intro n0 hn
 exact Cnd.mk (fun hc=>by obtain rfl:=hn hc;exact h) fun _=>⟨smlA hv,h⟩
theorem v3l{l:Lay_}{K:Lay_->Prop}(hv:l.6.length<=1000000)(h:K l):U1 l K:=by
 unfold U1 z0p
 exact v0y hv h
theorem ExS.val{n:Nat}{e:Ex}(h:ExS n e):VsS e.4:=by
 cases n with
 |zero=>exact h.1
 |succ n=>exact h.1
theorem z1b: ∀(n:Nat) {e:Ex} {K:Ex->Prop},ExS n e->K e->q0g e K:=by
 intro n
 induction n with
 |zero=>
  intro e K he h X hX
  have hz:e.5=[]:=he.2.2.2
  refine hX e K ?_
  unfold q7y
  have hv:=he.val
  have hvl:=hv.len
  simp only[Ju]
  refine fun _=>⟨sml0 (by omega),fun _=>q29 rfl (by omega) (fun y hy K hK=>j8y (by have:=(hv.all y hy).len;omega) hK) fun _=>⟨sml0 (by rw[hz];simp),fun _=> ?_⟩⟩
  refine q29 (G:=fun y K=>X y K) rfl (by rw[hz];simp) (fun y hy=>by rw[hz] at hy;cases hy) ?_
  show K (Ex.mk e.1 e.2 e.3 e.4 e.5)
  rw[Ju];exact h
 |succ n ih=>
  intro e K he h X hX
  have hk:=he.kids
  refine hX e K ?_
  unfold q7y
  have hv:=he.val
  have hvl:=hv.len
  simp only[Ju]
  refine fun _=>⟨sml0 (by omega),fun _=>q29 rfl (by omega) (fun y hy K hK=>j8y (by have:=(hv.all y hy).len;omega) hK) fun _=>⟨sml0 (by omega),fun _=> ?_⟩⟩
  refine q29 (G:=fun y K=>X y K) rfl (by omega) (fun y hy K hK=>ih (he.2.2.2.2 y hy) hK X hX) ?_
  show K (Ex.mk e.1 e.2 e.3 e.4 e.5)
  rw[Ju];exact h
theorem w7a{g:Seg}{K:Seg->Prop}(hg:SegS g)(h:K g):J8 g K:=by
 have h1:=hg.incl
 have h2:=hg.excl
 have h3:=hg.cond
 obtain⟨a,b,c,d,e⟩:=g
 unfold J8 q6m
 simp only[Ju] at h1 h2 h3⊢
 intro n0 hn
 refine Cnd.mk (fun hc=> ?_) fun _=>⟨smlA (by omega),?_⟩
 ·obtain rfl:=hn hc
  intro n2 hn2
  exact Cnd.mk (fun hc=>by obtain rfl:=hn2 hc;exact z1b 4 h3 h) fun _=>⟨smlA (by omega),z1b 4 h3 h⟩
 ·intro n2 hn2
  exact Cnd.mk (fun hc=>by obtain rfl:=hn2 hc;exact z1b 4 h3 h) fun _=>⟨smlA (by omega),z1b 4 h3 h⟩
theorem j80{x:Exper}{K:Exper->Prop}(hx:ExpS x)(h:K x):Z6 x K:=by
 have h1:=hx.claims.len
 have h2:=hx.arms.1
 have h3:=hx.cond
 obtain⟨a,b,c,d,e,f,g,i⟩:=x
 unfold Z6 q08
 simp only[Ju] at h1 h2 h3⊢
 intro n0 hn
 refine Cnd.mk (fun hc=> ?_) fun _=>⟨smlA (by omega),?_⟩
 ·obtain rfl:=hn hc
  intro n2 hn2
  exact Cnd.mk (fun hc=>by obtain rfl:=hn2 hc;exact z1b 4 h3 h) fun _=>⟨smlA (by omega),z1b 4 h3 h⟩
 ·intro n2 hn2
  exact Cnd.mk (fun hc=>by obtain rfl:=hn2 hc;exact z1b 4 h3 h) fun _=>⟨smlA (by omega),z1b 4 h3 h⟩
theorem v0z{n:Int}{r:Rul}{K:Rul->Prop}(hr:RulS n r)(h:K r):q0h r K:=by
 have h1:=hr.cond
 have h2:=hr.serve.split.1
 unfold q0h z2r
 simp only[Ju]
 exact z1b 4 h1 (j8z (v:=r.3) (by omega) h)
theorem v62{f:Flg}{K:Flg->Prop}(hf:FlgS f)(ht: ∀t∈f.7,t.3.length<=1000000)(h:K f):Us f K:=by
 have h1:=hf.vlen
 have h2:=hf.vals
 have h3:=hf.nlen
 have h4:=hf.tlen
 have h5:=hf.rlen
 have h6:=hf.rules
 have h7:=hf.dflt.split.1
 obtain⟨a,b,c,d,e,f,g,i,j⟩:=f
 unfold Us z2s
 simp only[Ju] at h1 h2 h3 h4 h5 h6 h7 ht⊢
 refine fun _=>⟨sml0 (by omega),fun _=>q29 (G:=fun y K=>Uz y K) rfl (by omega) (fun y hy K hK=>j8y (by have:=(h2 y hy).len;omega) hK) ?_⟩
 intro n0 hn
 refine Cnd.mk (fun hc=> ?_) fun _=>⟨smlA (by omega),?_⟩
 ·obtain rfl:=hn hc
  refine fun _=>⟨sml0 (by omega),fun _=>q29 (G:=fun y K=>R0 y K) rfl (by omega) (fun y hy K hK=>w1b (ht y hy) hK) fun _=>⟨sml0 (by omega),fun _=> ?_⟩⟩
  exact q29 (G:=fun y K=>q0h y K) rfl (by omega) (fun y hy K hK=>v0z (h6 y hy) hK) (j8z (v:=j) (by omega) h)
 ·refine fun _=>⟨sml0 (by omega),fun _=>q29 (G:=fun y K=>R0 y K) rfl (by omega) (fun y hy K hK=>w1b (ht y hy) hK) fun _=>⟨sml0 (by omega),fun _=> ?_⟩⟩
  exact q29 (G:=fun y K=>q0h y K) rfl (by omega) (fun y hy K hK=>v0z (h6 y hy) hK) (j8z (v:=j) (by omega) h)
structure EnvK(v:Envt):Prop where
 al:v.2.length<=1000000
 sn:v.3.length<=1000
 sg: ∀g∈v.3,SegS g
 fn:v.4.length<=1000
 fl: ∀f∈v.4,FlgS f/\ ∀t∈f.7,t.3.length<=1000000
 ln:v.5.length<=1000
 ly: ∀l∈v.5,LayS l
 xn:v.6.length<=1000
 ex: ∀x∈v.6,ExpS x
theorem EnvK.l{v:Envt}(h:EnvK v):EnvL v:=⟨h.fn,h.ln,h.xn,fun x hx=>⟨by have:=(h.ex x hx).claims.len;omega,by have:=(h.ex x hx).arms.1;omega⟩,fun l hl=>by have:=(h.ly l hl).cl;omega,fun f hf=>by have:=(h.fl f hf).1.vlen;omega⟩
end Go.En
end
noncomputable section
set_option maxRecDepth 100000
namespace Go.En
open Go Go.Fl Go.Fl.Lk Go.Fx
def Wb(now:Int)(q:Nat):List Col->Int
 |[]=>now
 |c::l=>if c.1<=(q:Int)/\(q:Int)<c.2 then max (Wb now q l) c.3 else Wb now q l
def LastS(l:List Col)(now:Int)(q:Nat)(m:Int):Prop:=now<=m/\ ∀t,now<t->(t<=m↔ ∃c∈l,Cvr c (q:Int)/\t<=c.3)
theorem LastS.uniq{l:List Col}{now:Int}{q:Nat}{m m':Int}(h:LastS l now q m)(k:LastS l now q m'):m=m':=by
 rcases Int.lt_trichotomy m m' with e|e|e
 ·have:=(h.2 m' (by have:=h.1;omega)).2 ((k.2 m' (by have:=h.1;omega)).1 (Int.le_refl _));omega
 ·exact e
 ·have:=(k.2 m (by have:=k.1;omega)).2 ((h.2 m (by have:=k.1;omega)).1 (Int.le_refl _));omega
theorem LastS.mem{l l':List Col}{now:Int}{q:Nat}{m:Int}(h:LastS l now q m)(e: ∀c,c∈l↔c∈l'):LastS l' now q m:=
 ⟨h.1,fun t ht=>(h.2 t ht).trans ⟨fun ⟨c,a,b⟩=>⟨c,(e c).1 a,b⟩,fun ⟨c,a,b⟩=>⟨c,(e c).2 a,b⟩⟩⟩
theorem LastS.snoc{l:List Col}{now:Int}{q:Nat}{m:Int}{c:Col}(h:LastS l now q m)(hc:Cvr c (q:Int)):LastS (l++[c]) now q (max m c.3):=by
 refine⟨by have:=h.1;omega,fun t ht=> ?_⟩
 constructor
 ·intro hm
  rcases Int.le_total t m with k|k
  ·obtain⟨d,hd,z⟩:=(h.2 t ht).1 k
   exact⟨d,List.mem_append_left _ hd,z⟩
  ·rcases Int.le_total t c.3 with k2|k2
   ·exact⟨c,List.mem_append_right _ (List.mem_singleton.2 rfl),hc,k2⟩
   ·by_cases e:t<=m
    ·obtain⟨d,hd,z⟩:=(h.2 t ht).1 e
     exact⟨d,List.mem_append_left _ hd,z⟩
    ·exact⟨c,List.mem_append_right _ (List.mem_singleton.2 rfl),hc,by omega⟩
 ·rintro⟨d,hd,z1,z2⟩
  rcases List.mem_append.1 hd with hd|hd
  ·have:=(h.2 t ht).2 ⟨d,hd,z1,z2⟩;omega
  ·rw[List.mem_singleton.1 hd] at z2;omega
theorem LastS.skip{l r:List Col}{now:Int}{q:Nat}{m:Int}(h:LastS l now q m)(hc: ∀c∈r,¬Cvr c (q:Int)):LastS (l++r) now q m:=by
 refine⟨h.1,fun t ht=>(h.2 t ht).trans ⟨fun ⟨d,hd,z⟩=>⟨d,List.mem_append_left _ hd,z⟩,?_⟩⟩
 rintro⟨d,hd,z⟩
 rcases List.mem_append.1 hd with hd|hd
 ·exact⟨d,hd,z⟩
 ·exact absurd z.1 (hc d hd)
theorem j81(l:List Col)(now:Int)(q:Nat):LastS l now q (Wb now q l):=by
 induction l with
 |nil=>exact⟨Int.le_refl _,fun t ht=>⟨fun k=>by have:t<=now:=k;omega,fun ⟨c,hc,_⟩=>by cases hc⟩⟩
 |cons c l ih=>
  unfold Wb
  split
  ·rename_i hc
   exact (ih.snoc (c:=c) hc).mem fun d=>by rw[List.mem_append,List.mem_singleton,List.mem_cons,or_comm]
  ·rename_i hc
   refine (ih.skip (r:=[c]) fun d hd=> ?_).mem fun d=>by rw[List.mem_append,List.mem_singleton,List.mem_cons,or_comm]
   rw[List.mem_singleton.1 hd];exact hc
def extC(o:List Col)(n:Int):List Col:=match o[o.length - 1]? with
 |some y=>o.set (o.length - 1) (Col.mk y.1 n y.3)
 |none=>o
def colR(u:Nat->Int)(now:Int):Nat->List Col
 |0=>[]
 |n+1=>if u n<=now then colR u now n else if 0<n/\u (n - 1)=u n then extC (colR u now n) ((n:Int)+1) else colR u now n++[Col.mk (n:Int) ((n:Int)+1) (u n)]
theorem w1c{α:Type}(l:List α)(x:α):(l++[x])[(l++[x]).length - 1]? =some x:=by simp
theorem w5h{α:Type}{l:List α}{x y:α}(h:l[l.length - 1]? =some y):(l.set (l.length - 1) x)[(l.set (l.length - 1) x).length - 1]? =some x:=by
 rw[List.length_set,List.getElem?_set_self (Qe h)]
structure ColI(u:Nat->Int)(now:Int)(n:Nat)(o:List Col):Prop where
 len:o.length<=n
 last: ∀y,o[o.length - 1]? =some y->y.2<=(n:Int)/\(y.2=(n:Int)->0<n/\u (n - 1)=y.3)
 on:0<n->now<u (n - 1)-> ∃y,o[o.length - 1]? =some y/\y.2=(n:Int)/\y.3=u (n - 1)
theorem j82(u:Nat->Int)(now:Int): ∀n,ColI u now n (colR u now n)
 |0=>⟨Nat.le_refl _,fun y hy=>by simp[colR] at hy,fun h=>absurd h (by omega)⟩
 |n+1=>by
  have ih:=j82 u now n
  rw[colR]
  split
  ·rename_i hu
   refine⟨by have:=ih.len;omega,fun y hy=> ?_,fun _ hn=> ?_⟩
   ·have:=(ih.last y hy).1
    exact⟨by omega,fun e=>by omega⟩
   ·rw[Nat.add_sub_cancel] at hn;omega
  ·rename_i hu
   split
   ·rename_i hn
    obtain⟨y,hy,h2,h3⟩:=ih.on hn.1 (by rw[hn.2];omega)
    unfold extC
    rw[hy]
    refine⟨by rw[List.length_set];have:=ih.len;omega,fun z hz=> ?_,fun _ _=>⟨_,w5h hy,by simp only;omega,?_⟩⟩
    ·rw[w5h hy] at hz
     cases hz
     refine⟨by simp only;omega,fun _=>⟨by omega,?_⟩⟩
     rw[Nat.add_sub_cancel,h3,hn.2]
    ·rw[Nat.add_sub_cancel,←hn.2];exact h3
   ·refine⟨by simp;exact ih.len,fun z hz=> ?_,fun _ _=>⟨_,w1c _ _,by simp only;omega,?_⟩⟩
    ·rw[w1c] at hz
     cases hz
     exact⟨by simp only;omega,fun _=>⟨by omega,by rw[Nat.add_sub_cancel]⟩⟩
    ·rw[Nat.add_sub_cancel]
theorem v4u{u:Nat->Int}{now:Int}{n:Nat}(h:u n<=now):colR u now (n+1)=colR u now n:=by rw[colR,if_pos h]
theorem v00{u:Nat->Int}{now:Int}{n:Nat}{y:Col}(h:now<u n)(h0:0<n)(he:u (n - 1)=u n)(hy:(colR u now n)[(colR u now n).length - 1]? =some y):colR u now (n+1)=(colR u now n).set ((colR u now n).length - 1) (Col.mk y.1 ((n:Int)+1) y.3):=by
 rw[colR,if_neg (by omega),if_pos ⟨h0,he⟩]
 unfold extC
 rw[hy]
theorem v01{u:Nat->Int}{now:Int}{n:Nat}(h:now<u n)(he: ¬(0<n/\u (n - 1)=u n)):colR u now (n+1)=colR u now n++[Col.mk (n:Int) ((n:Int)+1) (u n)]:=by
 rw[colR,if_neg (by omega),if_neg he]
def colV(all:List Col)(now:Int):List Col:=colR (fun q=>Wb now q all) now 10000
theorem v3m{α:Type}{l:List α}{i j:Nat}{y z c:α}(hi:l[i]? =some y)(hj:l[j]? =some z)(hij:i≠j):c∈(l.set i z).set j y↔c∈l:=by
 constructor
 ·intro h
  rcases List.mem_or_eq_of_mem_set h with h|rfl
  ·rcases List.mem_or_eq_of_mem_set h with h|rfl
   ·exact h
   ·exact getm hj
  ·exact getm hi
 ·intro h
  obtain⟨n,hn⟩:=List.mem_iff_getElem?.1 h
  by_cases e1:j=n
  ·subst e1
   rw[hj] at hn;cases hn
   exact List.mem_iff_getElem?.2 ⟨i,by rw[List.getElem?_set_ne (Ne.symm hij),List.getElem?_set_self (Qe hi)]⟩
  ·by_cases e2:i=n
   ·subst e2
    rw[hi] at hn;cases hn
    exact List.mem_iff_getElem?.2 ⟨j,by rw[List.getElem?_set_self (by rw[List.length_set];exact Qe hj)]⟩
   ·exact List.mem_iff_getElem?.2 ⟨n,by rw[List.getElem?_set_ne e1,List.getElem?_set_ne e2];exact hn⟩
def SrtS(l o:List Col):Prop:=o.length=l.length/\ ∀c,c∈o↔c∈l
theorem w1d{l:List Col}{K:List Col->Prop}(hl:l.length<=1000000)(h: ∀o,SrtS l o->(∀(a b:Nat) x y,a<b->o[a]? =some x->o[b]? =some y->x.1<=y.1)->K o):U2 l K:=by
 unfold U2 B2
 refine v0y hl fun _=> ?_
 refine Lp2.ind (fun (i:Int) (o:List Col)=> ∃n:Nat,i=(n:Int)/\n<=l.length/\SrtS l o/\ ∀(a b:Nat) x y,a<b->b<n->o[a]? =some x->o[b]? =some y->x.1<=y.1) (fun (i:Int) _=>(l.length - i).toNat) ?_ ⟨0,rfl,by omega,⟨rfl,fun _=>Iff.rfl⟩,fun a b x y _ hb=>absurd hb (by omega)⟩
 rintro i o ⟨n,rfl,hn,hS,hs⟩
 refine Cnd.mk (fun hc=> ?_) fun hc=>h o hS fun a b x y hab hx hy=>hs a b x y hab (by have:=Qe hy;have:=hS.1;omega) hx hy
 refine Lp2.ind (fun (k:Int) (o:List Col)=> ∃m:Nat,k=(m:Int)/\m<=n/\SrtS l o/\ ∀(a b:Nat) x y,a<b->b<=n->b≠m->o[a]? =some x->o[b]? =some y->x.1<=y.1) (fun (k:Int) _=>k.toNat) ?_ ⟨n,rfl,Nat.le_refl _,hS,fun a b x y hab hb hbn hx hy=>hs a b x y hab (by omega) hx hy⟩
 rintro k o ⟨m,rfl,hm,hS,hs⟩
 have hlen:=hS.1
 have fin:(0<m-> ∀x y,o[m - 1]? =some x->o[m]? =some y->x.1<=y.1)->InI ((n:Int)+1)/\(∃n':Nat,(n:Int)+1=(n':Int)/\n'<=l.length/\SrtS l o/\ ∀(a b:Nat) x y,a<b->b<n'->o[a]? =some x->o[b]? =some y->x.1<=y.1)/\((l.length:Int) - ((n:Int)+1)).toNat<((l.length:Int) - (n:Int)).toNat:=fun hf=>by
  refine⟨by unfold InI;omega,⟨n+1,by omega,by omega,hS,fun a b x y hab hb hx hy=> ?_⟩,by omega⟩
  by_cases e:b=m
  ·subst e
   obtain⟨z,hz⟩:=getq (l:=o) (k:=b - 1) (by omega)
   have h1:=hf (by omega) z y hz hy
   by_cases e2:a=b - 1
   ·subst e2;rw[hx] at hz;cases hz;exact h1
   ·have:=hs a (b - 1) x z (by omega) (by omega) (by omega) hx hz;omega
  ·exact hs a b x y hab (by omega) e hx hy
 refine Cnd.mk (fun h0=>j44 (by omega) fun y4 h4=>⟨by unfold InI;omega,by omega,fun y6 h6=> ?_⟩) fun h0=>fin fun k=>absurd k (by omega)
 have h6:o[m - 1]? =some y6:=by rw[show ((m:Int) - 1).toNat=m - 1 by omega] at h6;exact h6
 refine Cnd.mk (fun hlt=>⟨by unfold InI;omega,by unfold InI;omega,by omega,fun y8 h8=>j44 (by omega) fun y10 h10=>j44 (by omega) fun y12 h12=>⟨by rw[List.length_set];omega,fun y14 h14=>⟨by unfold InI;omega,?_,by omega⟩⟩⟩) fun hge=>fin fun _ x y hx hy=>by
  rw[h6] at hx;cases hx
  rw[h4] at hy;cases hy
  omega
 have h8:o[m - 1]? =some y8:=by rw[show ((m:Int) - 1).toNat=m - 1 by omega] at h8;exact h8
 rw[h6] at h8;cases h8
 rw[h4] at h10;cases h10
 rw[show ((m:Int) - 1).toNat=m - 1 by omega,show ((m:Int)).toNat=m from rfl]
 refine⟨m - 1,by omega,by omega,⟨by rw[List.length_set,List.length_set];exact hlen,fun c=>(v3m h4 h6 (by omega)).trans (hS.2 c)⟩,?_⟩
 have g: ∀(a:Nat) x,((o.set m y6).set (m - 1) y4)[a]? =some x->(a=m - 1/\x=y4)∨(a=m/\x=y6)∨(a≠m - 1/\a≠m/\o[a]? =some x):=fun a x hx=>by
  by_cases e1:m - 1=a
  ·subst e1
   rw[List.getElem?_set_self (by rw[List.length_set];omega)] at hx
   cases hx;exact .inl ⟨rfl,rfl⟩
  ·rw[List.getElem?_set_ne e1] at hx
   by_cases e2:m=a
   ·subst e2
    rw[List.getElem?_set_self (by omega)] at hx
    cases hx;exact .inr (.inl ⟨rfl,rfl⟩)
   ·rw[List.getElem?_set_ne e2] at hx
    exact .inr (.inr ⟨Ne.symm e1,Ne.symm e2,hx⟩)
 rintro a b x y hab hb hbm hx hy
 rcases g b y hy with ⟨e,_⟩|⟨rfl,rfl⟩|⟨b1,b2,hy2⟩
 ·exact absurd e hbm
 ·rcases g a x hx with ⟨_,rfl⟩|⟨e,_⟩|⟨a1,a2,hx⟩
  ·omega
  ·omega
  ·exact hs a (b - 1) x y (by omega) (by omega) (by omega) hx h6
 ·rcases g a x hx with ⟨rfl,rfl⟩|⟨rfl,rfl⟩|⟨a1,a2,hx⟩
  ·exact hs m b x y (by omega) hb b2 h4 hy2
  ·exact hs (a - 1) b x y (by omega) hb b2 h6 hy2
  ·exact hs a b x y hab hb b2 hx hy2
theorem v3n{l:List Col}{now:Int}{K:List Col->Prop}(hl:l.length<=1000000)(h:K (colV l now)):H7 l now K:=by
 unfold H7 q2v
 refine w1d hl fun o hS hs=> ?_
 have hlen:=hS.1
 refine Lp3.ind (fun (c:List Col) (b:Int) (o':List Col)=> ∃n:Nat,b=(n:Int)/\n<=10000/\o'=o/\c=colR (fun q=>Wb now q l) now n) (fun _ (b:Int) _=>(10000 - b).toNat) ?_ ⟨0,rfl,by omega,rfl,rfl⟩
 rintro c b o' ⟨n,rfl,hn,rfl,rfl⟩
 refine Cnd.mk (fun hc=> ?_) fun hc=>by
  have:n=10000:=by omega
  subst this;exact h
 refine Jn3.mk (fun (m:Int) (p:List Col) (c:List Col)=>m=Wb now n l/\p=o'/\c=colR (fun q=>Wb now q l) now n) ?_ ?_
 ·intro _
  have fin: ∀m:Int,LastS o' now n m->m=Wb now n l/\o'=o'/\colR (fun q=>Wb now q l) now n=colR (fun q=>Wb now q l) now n:=fun m hm=>⟨(hm.mem hS.2).uniq (j81 l now n),rfl,rfl⟩
  refine Lp4.ind (fun (m i:Int) (p c:List Col)=> ∃j:Nat,i=(j:Int)/\j<=o'.length/\LastS (o'.take j) now n m/\p=o'/\c=colR (fun q=>Wb now q l) now n) (fun _ (i:Int) _ _=>(o'.length - i).toNat) ?_ ⟨0,rfl,by omega,⟨Int.le_refl _,fun t ht=>⟨fun k=>by omega,fun ⟨c,hc,_⟩=>by simp at hc⟩⟩,rfl,rfl⟩
  rintro m i p c ⟨j,rfl,hj,hm,rfl,rfl⟩
  refine Cnd.mk (fun hc2=>j44 (by omega) fun y hy=> ?_) fun hc2=>fin m (by rw[List.take_of_length_le (by omega)] at hm;exact hm)
  have tk:p.take (j+1)=p.take j++[y]:=by rw[List.take_add_one,hy];rfl
  refine Cnd.mk (fun hb=>fin m ?_) fun hb=>Cnd.mk (fun hv=>⟨by unfold InI;omega,⟨j+1,by omega,by omega,?_,rfl,rfl⟩,by omega⟩) fun hv=>⟨by unfold InI;omega,⟨j+1,by omega,by omega,?_,rfl,rfl⟩,by omega⟩
  ·have:=hm.skip (r:=p.drop j) fun d hd hcv=>by
    obtain⟨i,hi⟩:=List.mem_iff_getElem?.1 hd
    rw[List.getElem?_drop] at hi
    have h1:=hcv.1
    by_cases e:i=0
    ·subst e
     rw[Nat.add_zero,hy] at hi;cases hi;omega
    ·have:=hs j (j+i) y d (by omega) hy hi;omega
   rw[List.take_append_drop] at this;exact this
  ·rw[tk];exact hm.snoc ⟨by omega,hv⟩
  ·rw[tk]
   exact hm.skip fun d hd hcv=>by
    rw[List.mem_singleton.1 hd] at hcv
    exact hv hcv.2
 ·rintro m p c ⟨rfl,rfl,rfl⟩
  have hI:=j82 (fun q=>Wb now q l) now n
  have hl1:=hI.len
  have hU:=(j81 l now n).1
  have nx: ∀{c:List Col},c=colR (fun q=>Wb now q l) now (n+1)->InI ((n:Int)+1)/\(∃n':Nat,(n:Int)+1=(n':Int)/\n'<=10000/\p=p/\c=colR (fun q=>Wb now q l) now n')/\(10000 - ((n:Int)+1)).toNat<(10000 - (n:Int)).toNat:=fun he=>⟨by unfold InI;omega,⟨n+1,by omega,by omega,rfl,he⟩,by omega⟩
  refine Cnd.mk (fun he=>nx (v4u (u:=fun q=>Wb now q l) (by show Wb now n l<=now;omega)).symm) fun hne _=> ?_
  have hlt:now<Wb now n l:=by omega
  have new: ¬(0<n/\Wb now (n - 1) l=Wb now n l)->InI ((n:Int)+1)/\Sml (colR (fun q=>Wb now q l) now n++[Col.mk (n:Int) ((n:Int)+1) (Wb now n l)]).length/\InI ((n:Int)+1)/\(∃n':Nat,(n:Int)+1=(n':Int)/\n'<=10000/\p=p/\(colR (fun q=>Wb now q l) now n++[Col.mk (n:Int) ((n:Int)+1) (Wb now n l)])=colR (fun q=>Wb now q l) now n')/\(10000 - ((n:Int)+1)).toNat<(10000 - (n:Int)).toNat:=fun he=>⟨by unfold InI;omega,by unfold Sml;simp;omega,nx (v01 (u:=fun q=>Wb now q l) hlt he).symm⟩
  have no:(∀y,(colR (fun q=>Wb now q l) now n)[(colR (fun q=>Wb now q l) now n).length - 1]? =some y-> ¬(y.2=(n:Int)/\y.3=Wb now n l))-> ¬(0<n/\Wb now (n - 1) l=Wb now n l):=fun hy he=>by
   obtain⟨y,h1,h2,h3⟩:=hI.on he.1 (by show now<Wb now (n - 1) l;rw[he.2];exact hlt)
   exact hy y h1 ⟨h2,by rw[h3];exact he.2⟩
  generalize ho:colR (fun q=>Wb now q l) now n=o at hl1 new no⊢
  have eT:((o.length:Int) - 1).toNat=o.length - 1:=by omega
  rw[eT]
  refine Cnd.mk (fun hpos=>⟨by unfold InI;omega,by omega,fun y4 h4=>Cnd.mk (fun h2=>⟨by unfold InI;omega,by omega,fun y6 h6=>Cnd.mk (fun h3=>⟨by unfold InI;omega,by unfold InI;omega,by omega,fun y8 h8=>nx ?_⟩) fun h3=>new (no fun y hy k=> ?_)⟩) fun h2=>new (no fun y hy k=> ?_)⟩) fun hz=>new (no fun y hy _=> ?_)
  ·rw[h4] at h6;cases h6
   rw[h4] at h8;cases h8
   have hl2:=hI.last y4 (by rw[ho];exact h4)
   obtain⟨n0,hu⟩:=hl2.2 h2
   rw[←ho] at h4⊢
   exact (v00 (u:=fun q=>Wb now q l) hlt n0 (by rw[hu];exact h3) h4).symm
  ·rw[h6] at hy;cases hy;exact h3 k.2
  ·rw[h4] at hy;cases hy;exact h2 k.1
  ·have:=Qe hy;omega
end Go.En
end
noncomputable section
set_option maxRecDepth 100000
namespace Go.En
open Go Go.Fl Go.Fl.Lk Go.Fx
def TakP(v:Envt)(l:Lay_)(key but:ByteArray)(now q:Int):Prop:=(∃c∈l.6,Cvr c q/\now<c.3)∨(0<=q/\q<l.4)∨ ∃x∈v.6,x.2=key/\x.5≠3/\x.1≠but/\insV x.6 q=true
theorem v4v{v:Envt}{key but:ByteArray}{now:Int}{j:Nat}{l:Lay_}{K:List Spn->Prop}(hv:EnvL v)(hl:lix v key=some (j,l))(h: ∀s,IsP s (TakP v l key but now)->K s):Ho v key but now K:=by
 unfold Ho q6n
 have hxn:=hv.x
 refine w31 (v:=v) hv.l (fun hn=>by rw[hl] at hn;cases hn) fun j' l' hl'=> ?_
 rw[hl] at hl'
 cases hl'
 obtain⟨hj,_,_⟩:=z8f hl
 refine Cnd.no (by omega) (Jn1.mk (fun s=>s.length<=1000001/\ ∀q,insV s q=true↔(∃c∈l.6,Cvr c q/\now<c.3)∨(0<=q/\q<l.4)) ?_ ?_)
 ·have one:W4 l now fun Jf=>Sml (Jf++[Spn.mk (0:Int) l.4]).length/\((Jf++[Spn.mk (0:Int) l.4]).length<=1000001/\ ∀q,insV (Jf++[Spn.mk (0:Int) l.4]) q=true↔(∃c∈l.6,Cvr c q/\now<c.3)∨(0<=q/\q<l.4)):=
   w65 (hv.co l (getm hj)) fun s hs hq=>⟨by unfold Sml;simp;omega,by simp;omega,fun q=>by rw[w5f,hq q]⟩
  exact atq hj (atq hj ⟨one,one⟩)
 ·rintro s ⟨hsl,hsq⟩ _
  refine Lp2.ind (fun (s:List Spn) (i:Int)=> ∃n:Nat,i=(n:Int)/\n<=v.6.length/\s.length<=1000001+1000000*n/\ ∀q,insV s q=true↔(∃c∈l.6,Cvr c q/\now<c.3)∨(0<=q/\q<l.4)∨ ∃x∈v.6.take n,x.2=key/\x.5≠3/\x.1≠but/\insV x.6 q=true) (fun _ (i:Int)=>(v.6.length - i).toNat) ?_ ⟨0,rfl,by omega,by omega,fun q=>by rw[hsq q];simp⟩
  rintro s i ⟨n,rfl,hn,hsl,hsq⟩
  refine Cnd.mk (fun hc=>⟨by omega,fun x hx=> ?_⟩) fun hc=> ?_
  ·have hx:v.6[n]? =some x:=hx
   have tk:v.6.take (n+1)=v.6.take n++[x]:=by rw[List.take_add_one,hx];rfl
   have hcl:=(hv.cl x (getm hx)).1
   have miss:(¬(x.2=key/\x.5≠3/\x.1≠but))->InI ((n:Int)+1)/\(∃n':Nat,(n:Int)+1=(n':Int)/\n'<=v.6.length/\s.length<=1000001+1000000*n'/\ ∀q,insV s q=true↔(∃c∈l.6,Cvr c q/\now<c.3)∨(0<=q/\q<l.4)∨ ∃x∈v.6.take n',x.2=key/\x.5≠3/\x.1≠but/\insV x.6 q=true)/\((v.6.length:Int) - ((n:Int)+1)).toNat<((v.6.length:Int) - (n:Int)).toNat:=fun hno=>by
    refine⟨by unfold InI;omega,⟨n+1,by omega,by omega,by omega,fun q=> ?_⟩,by omega⟩
    rw[hsq q,tk]
    refine or_congr Iff.rfl (or_congr Iff.rfl ⟨fun ⟨y,hy,z⟩=>⟨y,List.mem_append_left _ hy,z⟩,fun ⟨y,hy,z⟩=> ?_⟩)
    rcases List.mem_append.1 hy with hy|hy
    ·exact⟨y,hy,z⟩
    ·rw[List.mem_singleton.1 hy] at z;exact absurd ⟨z.1,z.2.1,z.2.2.1⟩ hno
   refine Cnd.mk (fun h1=>Cnd.mk (fun h2=>miss fun k=>k.2.1 h2) fun h2=>Cnd.mk (fun h3=>miss fun k=>k.2.2 h3) fun h3=> ?_) fun h1=>miss fun k=>h1 k.1
   refine⟨by unfold Sml;rw[List.length_append];omega,by unfold InI;omega,⟨n+1,by omega,by omega,by rw[List.length_append];omega,fun q=> ?_⟩,by omega⟩
   rw[q7g,Bool.or_eq_true,hsq q,tk]
   constructor
   ·rintro ((k|k|⟨y,hy,z⟩)|k)
    ·exact .inl k
    ·exact .inr (.inl k)
    ·exact .inr (.inr ⟨y,List.mem_append_left _ hy,z⟩)
    ·exact .inr (.inr ⟨x,List.mem_append_right _ (List.mem_singleton.2 rfl),h1,h2,h3,k⟩)
   ·rintro (k|k|⟨y,hy,z⟩)
    ·exact .inl (.inl k)
    ·exact .inl (.inr (.inl k))
    ·rcases List.mem_append.1 hy with hy|hy
     ·exact .inl (.inr (.inr ⟨y,hy,z⟩))
     ·rw[List.mem_singleton.1 hy] at z;exact .inr z.2.2.2
  ·rw[List.take_of_length_le (by omega)] at hsq
   refine h _ ((j8u _).congr fun q q0 q1=> ?_)
   rw[z3p,Int.toNat_of_nonneg q0]
   exact hsq q
abbrev noK:ByteArray:=ByteArray.mk (Array.mk [])
theorem y1c{v:Envt}{key:ByteArray}{now:Int}{j:Nat}{l:Lay_}{K:List Spn->Int->Prop}(hv:EnvL v)(hl:lix v key=some (j,l))(hn:0<=now/\now<=1099511627776)(h: ∀s,IsP s (fun q=> ¬TakP v l key noK now q)->K s 0):q3k v key now K:=by
 unfold q3k q8j
 refine w1a fun r hr=>Cnd.yes (hr.2 hn) (w31 (v:=v) hv.l (fun hno=>by rw[hl] at hno;cases hno) fun j' l' _=>Cnd.no (by omega) (v4v (v:=v) hv hl fun s hs=>v86 fun f hf=>h f (hf.congr fun q q0 q1=> ?_)))
 rw[w3w]
 exact⟨fun k t=>k.2 ((hs.1 q q0 q1).2 t),fun k=>⟨⟨q0,q1⟩,fun t=>k ((hs.1 q q0 q1).1 t)⟩⟩
def canon(f:Nat->Bool):List Spn:=(Go.Fl.Sp.runs f 10000).map fun s=>Spn.mk s.1 s.2
theorem j46{f g:Nat->Bool}(h: ∀i,i<10000->f i=g i):canon f=canon g:=by unfold canon;rw[Go.Fl.Sp.runs_congr h]
theorem v02{f:Nat->Bool}{i:Nat}(hi:i<10000):Go.Fl.Sp.cov ((canon f).map fun s=>(s.lo,s.hi)) i=f i:=by unfold canon;rw[w5e,Go.Fl.Sp.cov_norm hi]
theorem w7b(f:Nat->Bool):SpsS (canon f):=by
 have h: ∀n,n<=10000-> ∀s∈Go.Fl.Sp.runs f n,0<=s.1/\s.1<s.2/\s.2<=(n:Int):=by
  intro n
  induction n with
  |zero=>intro _ s hs;cases hs
  |succ n ih=>
   intro hn s hs
   have ih:=ih (by omega)
   by_cases hf:f n=true
   ·by_cases h2: ∃t,(Go.Fl.Sp.runs f n)[(Go.Fl.Sp.runs f n).length - 1]? =some t/\t.2=(n:Int)
    ·obtain⟨t,ht,h2⟩:=h2
     rw[Go.Fl.Sp.runs_ext hf ht h2] at hs
     rcases List.mem_or_eq_of_mem_set hs with hs|rfl
     ·have:=ih s hs;omega
     ·have:=ih t (getm ht);simp only;omega
    ·rw[Go.Fl.Sp.runs_new hf fun t ht e=>h2 ⟨t,ht,e⟩] at hs
     rcases List.mem_append.1 hs with hs|hs
     ·have:=ih s hs;omega
     ·rw[List.mem_singleton.1 hs];simp only;omega
   ·rw[Go.Fl.Sp.runs_no (Bool.eq_false_iff.2 hf)] at hs
    have:=ih s hs;omega
 unfold canon
 refine⟨by rw[List.length_map];exact Go.Fl.Sp.runs_len f 10000,fun s hs=> ?_⟩
 obtain⟨t,ht,rfl⟩:=List.mem_map.1 hs
 exact h 10000 (Nat.le_refl _) t ht
def w7c(v:Envt)(l:Lay_)(key:ByteArray)(now:Int)(i:Nat):Bool:=dec (¬TakP v l key noK now (i:Int))
def envE:Envt:=Envt.mk (Sett.mk (ByteArray.mk (Array.mk [])) (ByteArray.mk (Array.mk [])) (0:Int)) [] [] [] [] []
def v3o(v:Envt)(j:Nat)(x:Exper):Envt:=Envt.mk v.1 v.2 v.3 v.4 v.5 (v.6.set j x)
def clmV(v:Envt)(x:Exper)(l:Lay_)(size now:Int):List Spn:=canon fun i=>insV x.6 (i:Int)||Go.Fl.Sp.firstP (w7c v l x.2 now) size i
def j06(v:Envt)(key:ByteArray)(size now:Int):Envt×Int:=match fndV v key now with
 | .error e=>(envE,e)
 | .ok (j,x,_,l)=>if x.5=3 then (envE,25) else if size<1 then (envE,3) else if (Go.Fl.Sp.cnt (w7c v l x.2 now) 10000:Int)<size then (envE,19) else
  if (16:Int)<(clmV v x l size now).length then (envE,5) else (v3o v j (Exper.mk x.1 x.2 x.3 x.4 x.5 (clmV v x l size now) x.7 x.8),0)
open Classical in
def j07(v:Envt)(key:ByteArray)(now:Int):Envt×Int:=match fndV v key now with
 | .error e=>(envE,e)
 | .ok (j,x,_,l)=>if x.5=1 then (if ∃q:Int,0<=q/\q<10000/\insV x.6 q=true/\TakP v l x.2 key now q then (envE,14) else (v3o v j (Exper.mk x.1 x.2 x.3 x.4 2 x.6 x.7 x.8),0)) else (envE,25)
def allC(x:Exper)(l:Lay_)(now:Int):List Col:=if 0<l.5 then l.6++x.6.map fun s=>Col.mk s.1 s.2 (endV now l.5) else l.6
def v9b(v:Envt)(j:Nat)(x:Exper)(k:Nat)(l:Lay_)(now:Int):Envt:=Envt.mk v.1 v.2 v.3 v.4 (v.5.set k (Lay_.mk l.1 l.2 l.3 l.4 l.5 (colV (allC x l now) now))) (v.6.set j (Exper.mk x.1 x.2 x.3 x.4 3 x.6 x.7 x.8))
def w1e(v:Envt)(key:ByteArray)(now:Int):Envt×Int:=match fndV v key now with
 | .error e=>(envE,e)
 | .ok (j,x,k,l)=>if x.5=2 then (if (32:Int)<(colV (allC x l now) now).length then (envE,5) else (v9b v j x k l now,0)) else (envE,25)
theorem w1f{v:Envt}{acc:List Exper}{R:List Exper->Prop}(hv:EnvK v)(ha:acc=[])(h:R v.6):Lp2 (fun acc i Y=>Cnd (i<(v.6.length:Int)) ((0<=i/\i<(v.6.length:Int))/\ ∀y,v.6[i.toNat]? =some y->Z6 y fun x=>Sml (acc++[x]).length/\InI (i+1)/\Y (acc++[x]) (i+1)) (R acc)) acc (0:Int):=
 q29 (G:=fun y K=>Z6 y K) ha (by have:=hv.xn;omega) (fun y hy _ hK=>j80 (hv.ex y hy) hK) h
theorem w5i{v:Envt}{acc:List Lay_}{R:List Lay_->Prop}(hv:EnvK v)(ha:acc=[])(h:R v.5):Lp2 (fun acc i Y=>Cnd (i<(v.5.length:Int)) ((0<=i/\i<(v.5.length:Int))/\ ∀y,v.5[i.toNat]? =some y->U1 y fun x=>Sml (acc++[x]).length/\InI (i+1)/\Y (acc++[x]) (i+1)) (R acc)) acc (0:Int):=
 q29 (G:=fun y K=>U1 y K) ha (by have:=hv.ln;omega) (fun y hy _ hK=>v3l (by have:=(hv.ly y hy).cl;omega) hK) h
theorem w1g{v:Envt}{acc:List Flg}{R:List Flg->Prop}(hv:EnvK v)(ha:acc=[])(h:R v.4):Lp2 (fun acc i Y=>Cnd (i<(v.4.length:Int)) ((0<=i/\i<(v.4.length:Int))/\ ∀y,v.4[i.toNat]? =some y->Us y fun x=>Sml (acc++[x]).length/\InI (i+1)/\Y (acc++[x]) (i+1)) (R acc)) acc (0:Int):=
 q29 (G:=fun y K=>Us y K) ha (by have:=hv.fn;omega) (fun y hy _ hK=>v62 (hv.fl y hy).1 (hv.fl y hy).2 hK) h
theorem w1h{v:Envt}{acc:List Seg}{R:List Seg->Prop}(hv:EnvK v)(ha:acc=[])(h:R v.3):Lp2 (fun acc i Y=>Cnd (i<(v.3.length:Int)) ((0<=i/\i<(v.3.length:Int))/\ ∀y,v.3[i.toNat]? =some y->J8 y fun x=>Sml (acc++[x]).length/\InI (i+1)/\Y (acc++[x]) (i+1)) (R acc)) acc (0:Int):=
 q29 (G:=fun y K=>J8 y K) ha (by have:=hv.sn;omega) (fun y hy _ hK=>w7a (hv.sg y hy) hK) h
theorem v9c{l:List Spn}{n:Int}{K:List Spn->Prop}(hn:InI n)(h:K (canon (Go.Fl.Sp.firstP (Go.Fl.Sp.cov (l.map fun s=>(s.lo,s.hi))) n))):q1c l n K:=⟨hn,h⟩
theorem v9d{a b:List Spn}{K:List Spn->Prop}(h:K (canon fun i=>Go.Fl.Sp.cov (a.map fun s=>(s.lo,s.hi)) i||Go.Fl.Sp.cov (b.map fun s=>(s.lo,s.hi)) i)):q1d a b K:=h
theorem y1d{l:List Spn}{K:Int->Prop}(h:K (Go.Fl.Sp.cnt (Go.Fl.Sp.cov (l.map fun s=>(s.lo,s.hi))) 10000:Nat)):Gj l K:=h
theorem v9e{v:Envt}{key:ByteArray}{size now:Int}{K:Envt->Int->Prop}(hv:EnvK v)(h:K (j06 v key size now).1 (j06 v key size now).2):q1e v key size now K:=by
 unfold q1e q6r
 unfold j06 at h
 have hsn:=hv.sn
 have hfn:=hv.fn
 have hln:=hv.ln
 have hxn:=hv.xn
 refine v60 (v:=v) hv.xn hv.ln (fun e he=>Cnd.no (j68 he) (by rw[he] at h;exact h)) fun j k x l hf=>Cnd.yes rfl ?_
 rw[hf] at h
 simp only at h
 have hF:=z8g hf
 have hx:=(q1y hF.hx).1
 refine atq hx (Cnd.mk (fun h3=>by rw[if_pos h3] at h;exact h) fun h3=>Cnd.mk (fun hs=>by rw[if_neg h3,if_pos hs] at h;exact h) fun hs=> ?_)
 rw[if_neg h3,if_neg hs] at h
 refine y1c (v:=v) hv.l hF.hl ⟨hF.n0,hF.n1⟩ fun s hsP=> ?_
 have hcov: ∀i,i<10000->Go.Fl.Sp.cov (s.map fun s=>(s.lo,s.hi)) i=w7c v l x.2 now i:=fun i hi=>by
  rw[z3p]
  exact v4o (hsP.1 (i:Int) (by omega) (by omega))
 refine y1d ?_
 rw[Go.Fl.Sp.cnt_congr hcov]
 refine Cnd.mk (fun hc=>by rw[if_pos hc] at h;exact h) fun hc=> ?_
 rw[if_neg hc] at h
 have hle:=Go.Fl.Sp.cnt_le (w7c v l x.2 now) 10000
 have e:canon (fun i=>Go.Fl.Sp.cov (x.6.map fun s=>(s.lo,s.hi)) i||Go.Fl.Sp.cov ((canon (Go.Fl.Sp.firstP (Go.Fl.Sp.cov (s.map fun s=>(s.lo,s.hi))) size)).map fun s=>(s.lo,s.hi)) i)=clmV v x l size now:=by
  unfold clmV
  refine j46 fun i hi=> ?_
  rw[z3p,v02 hi,Go.Fl.Sp.firstP_congr fun q hq=>hcov q (by omega)]
 refine v9c (by unfold InI;omega) (v9d ?_)
 rw[e]
 intro _
 refine Cnd.mk (fun h16=>by rw[if_pos h16] at h;exact h) fun h16=> ?_
 rw[if_neg h16] at h
 simp only[Ju]
 intro n8 hn8
 refine Cnd.mk (fun hc=> ?_) fun _=>⟨smlA hv.al,?_⟩
 ·rw[←hn8 hc]
  exact fun _=>⟨sml0 (by omega),fun _=>w1h hv rfl fun _=>⟨sml0 (by omega),fun _=>w1g hv rfl fun _=>⟨sml0 (by omega),fun _=>w5i hv rfl fun _=>⟨sml0 (by omega),fun _=>w1f hv rfl (atq hx h)⟩⟩⟩⟩
 ·rw[List.nil_append]
  exact fun _=>⟨sml0 (by omega),fun _=>w1h hv rfl fun _=>⟨sml0 (by omega),fun _=>w1g hv rfl fun _=>⟨sml0 (by omega),fun _=>w5i hv rfl fun _=>⟨sml0 (by omega),fun _=>w1f hv rfl (atq hx h)⟩⟩⟩⟩
theorem v9f{v:Envt}{key:ByteArray}{now:Int}{K:Envt->Int->Prop}(hv:EnvK v)(h:K (j07 v key now).1 (j07 v key now).2):q1h v key now K:=by
 unfold q1h q6u
 unfold j07 at h
 have hsn:=hv.sn
 have hfn:=hv.fn
 have hln:=hv.ln
 have hxn:=hv.xn
 refine v60 (v:=v) hv.xn hv.ln (fun e he=>Cnd.no (j68 he) (by rw[he] at h;exact h)) fun j k x l hf=>Cnd.yes rfl ?_
 rw[hf] at h
 simp only at h
 have hF:=z8g hf
 have hx:=(q1y hF.hx).1
 refine atq hx (Cnd.mk (fun h1=> ?_) fun h1=>by rw[if_neg h1] at h;exact h)
 rw[if_pos h1] at h
 refine v4v (v:=v) hv.l hF.hl fun s hs=>v6y fun c hc _=> ?_
 have hne:(0:Int)<(c.length:Int)↔ ∃q:Int,0<=q/\q<10000/\insV x.6 q=true/\TakP v l x.2 key now q:=by
  have:=hc.2
  rw[show (0:Int)<(c.length:Int)↔0<c.length by omega,this]
  exact⟨fun ⟨q,a,b,c,d⟩=>⟨q,a,b,c,(hs.1 q a b).1 d⟩,fun ⟨q,a,b,c,d⟩=>⟨q,a,b,c,(hs.1 q a b).2 d⟩⟩
 refine Cnd.mk (fun h14=>by rw[if_pos (hne.1 h14)] at h;exact h) fun h14=> ?_
 rw[if_neg fun k=>h14 (hne.2 k)] at h
 simp only[Ju]
 intro n8 hn8
 refine Cnd.mk (fun hc=> ?_) fun _=>⟨smlA hv.al,?_⟩
 ·rw[←hn8 hc]
  exact fun _=>⟨sml0 (by omega),fun _=>w1h hv rfl fun _=>⟨sml0 (by omega),fun _=>w1g hv rfl fun _=>⟨sml0 (by omega),fun _=>w5i hv rfl fun _=>⟨sml0 (by omega),fun _=>w1f hv rfl (atq hx h)⟩⟩⟩⟩
 ·rw[List.nil_append]
  exact fun _=>⟨sml0 (by omega),fun _=>w1h hv rfl fun _=>⟨sml0 (by omega),fun _=>w1g hv rfl fun _=>⟨sml0 (by omega),fun _=>w5i hv rfl fun _=>⟨sml0 (by omega),fun _=>w1f hv rfl (atq hx h)⟩⟩⟩⟩
theorem v3p{v:Envt}{x:Exper}{l:Lay_}{now:Int}(hv:EnvK v)(hx:x∈v.6)(hl:l∈v.5):(allC x l now).length<=20000:=by
 have h1:=(hv.ly l hl).cl
 have h2:=(hv.ex x hx).claims.len
 unfold allC
 split
 ·rw[List.length_append,List.length_map];omega
 ·omega
theorem y1e{v:Envt}{key:ByteArray}{now:Int}{K:Envt->Int->Prop}(hv:EnvK v)(h:K (w1e v key now).1 (w1e v key now).2):q3j v key now K:=by
 unfold q3j q8i
 unfold w1e at h
 have hsn:=hv.sn
 have hfn:=hv.fn
 have hln:=hv.ln
 have hxn:=hv.xn
 refine v60 (v:=v) hv.xn hv.ln (fun e he=>Cnd.no (j68 he) (by rw[he] at h;exact h)) fun j k x l hf=>Cnd.yes rfl ?_
 rw[hf] at h
 simp only at h
 have hF:=z8g hf
 have hx:=(q1y hF.hx).1
 have hl:=(z8f hF.hl).1
 have hL:=hv.ly l (getm hl)
 have hcl:=(hv.ex x (getm hx)).claims.len
 have hkl:=Qe hl
 have hal:=v3p (now:=now) hv (getm hx) (getm hl)
 refine atq hx (Cnd.mk (fun h2=> ?_) fun h2=>by rw[if_neg h2] at h;exact h)
 rw[if_pos h2] at h
 simp only[Ju]
 refine Jn1.mk (fun a=>a=v.2) (fun n4 hn4=>Cnd.mk (fun hc=>(hn4 hc).symm) fun _=>⟨smlA hv.al,rfl⟩) ?_
 rintro _ rfl
 refine fun _=>⟨sml0 (by omega),fun _=>w1h hv rfl fun _=>⟨sml0 (by omega),fun _=>w1g hv rfl ?_⟩⟩
 refine⟨by unfold Sml;omega,fun m hm=>by have:=(hv.ly m hm).cl;unfold Sml;omega,k,l,hl,fun _=>⟨sml0 (by omega),fun _=>w1f hv rfl (atq hx ⟨⟨by omega,by show (k:Int)<(v.5.length:Int);omega⟩,rfl,fun y hy=> ?_⟩)⟩⟩
 have hlk: ∀{y:Lay_},v.5[((k:Nat):Int).toNat]? =some y->y=l:=fun hy=>by
  have hy:v.5[k]? =some _:=hy
  rw[hl] at hy;cases hy;rfl
 refine Jn2.mk (fun (a:List Col) (s:List Lay_×Nat)=>a=allC x l now/\s=(v.5,k)) ?_ ?_
 ·refine⟨rfl,fun y19 h19=> ?_⟩
  cases hlk h19
  unfold allC
  refine Cnd.mk (fun h5=>atq hx fun _=> ?_) fun h5=>⟨by rw[if_neg h5],rfl⟩
  rw[if_pos h5]
  refine Lp3.ind (fun (a:List Col) (i:Int) (s:List Lay_×Nat)=> ∃n:Nat,i=(n:Int)/\n<=x.6.length/\a=l.6++(x.6.take n).map (fun s=>Col.mk s.1 s.2 (endV now l.5))/\s=(v.5,k)) (fun _ (i:Int) _=>(x.6.length - i).toNat) ?_ ⟨0,rfl,by omega,by simp,rfl⟩
  rintro a i s ⟨n,rfl,hn,rfl,rfl⟩
  refine Cnd.mk (fun hc=>⟨by omega,fun c hc2=>⟨rfl,fun y27 h27=> ?_⟩⟩) fun hc=>⟨by rw[List.take_of_length_le (by omega)],rfl⟩
  cases hlk h27
  have hc2:x.6[n]? =some c:=hc2
  have h1:=hL.cl
  refine w5g ⟨hF.n0,hF.n1⟩ hL.cool.1 ⟨by unfold Sml;simp;omega,by unfold InI;omega,⟨n+1,by omega,by omega,?_,rfl⟩,by omega⟩
  rw[List.take_add_one,hc2]
  simp
 ·rintro a s ⟨rfl,rfl⟩
  refine v3n (by omega) ⟨rfl,fun y20 h20=> ?_⟩
  cases hlk h20
  intro y22 h22
  have h22:(v.5.set k (Lay_.mk l.1 l.2 l.3 l.4 l.5 (colV (allC x l now) now)))[k]? =some y22:=h22
  rw[List.getElem?_set_self hkl] at h22
  cases h22
  intro _
  exact Cnd.mk (fun h32=>by rw[if_pos h32] at h;exact h) fun h32=>by rw[if_neg h32] at h;exact h
end Go.En
end
noncomputable section
set_option maxRecDepth 100000
namespace Go.En
open Go Go.Fl Go.Fl.Lk Go.Fx
theorem v03{K:Bool->Prop}(h:K true):q42 K:=by
 unfold q42 q98 Gc
 have e:(Go.Fl.Sp.runs (Go.Fl.Sp.cov ([Spn.mk (5:Int) (9:Int),Spn.mk (0:Int) (5:Int),Spn.mk (7:Int) (7:Int)].map fun s=>(s.lo,s.hi))) 10000).map (fun s=>Spn.mk s.1 s.2)=[Spn.mk 0 9]:=by
  show (Go.Fl.Sp.runs (Go.Fl.Sp.cov [(5,9),(0,5),(7,7)]) 10000).map _=_
  rw[Go.Fl.Sp.awake_runs];rfl
 rw[e]
 refine fun _=>Cnd.yes (by decide) ⟨by decide,fun y hy=> ?_⟩
 cases hy
 refine Cnd.yes ⟨rfl,rfl⟩ ?_
 unfold Gj
 have c:(Go.Fl.Sp.cnt (Go.Fl.Sp.cov ([Spn.mk (0:Int) (9:Int)].map fun s=>(s.lo,s.hi))) 10000:Nat)=9:=Go.Fl.Sp.awake_cnt
 rw[c]
 exact h
theorem modK{x n:Int}{K:Int->Prop}(hn:0<n)(hi:n<=1000000)(h: ∀r,0<=r->r<n->K r):j3e x n K:=by
 unfold j3e
 have h1:=Int.lt_tmod_of_pos x hn
 have h2:=Int.tmod_lt_of_pos x hn
 exact⟨by omega,Cnd.mk (fun hc=>⟨by unfold InI;omega,h _ (by omega) (by omega)⟩) fun hc=>h _ (by omega) h2⟩
theorem v63{v:Envt}{n:Int}{K:ByteArray->Prop}(h: ∀key,K key):Vm v n K:=by
 unfold Vm Hn
 exact modK (by decide) (by decide) fun r r0 _ _=>Cnd.mk (fun hc=>⟨⟨r0,hc⟩,fun _ _=>h _⟩) fun _=>h _
theorem v64{v:Envt}(hE:EnvS v)(hD:EnvD v):EnvK v:=
 ⟨by have:=hD.al;omega,by have:=hE.slen;omega,hE.segs,by have:=hE.flen;omega,fun f hf=>⟨hE.flags f hf,fun t ht=>by
  obtain⟨i,hi⟩:=List.mem_iff_getElem?.1 hf
  have:=((hD.flags.all i f hi).tgts t ht).2;omega⟩,by have:=hE.llen;omega,hE.layers,by have:=hE.xlen;omega,hE.exps⟩
theorem v04{v:Envt}{key:ByteArray}{now:Int}{j k:Nat}{x:Exper}{l:Lay_}(hv:EnvK v)(h:Fnd v key now j x k l)(hc:(colV (allC x l now) now).length<=32):EnvK (v9b v j x k l now):=by
 have hx:=hv.ex x (getm (q1y h.hx).1)
 have hl:=hv.ly l (getm (z8f h.hl).1)
 refine⟨hv.al,hv.sn,hv.sg,hv.fn,hv.fl,?_,?_,?_,?_⟩
 ·show (v.5.set k _).length<=1000
  rw[List.length_set];exact hv.ln
 ·exact q80 hv.ly ⟨hl.key,hl.kind,hl.salt,hl.hold,hl.cool,by simp only;omega⟩
 ·show (v.6.set j _).length<=1000
  rw[List.length_set];exact hv.xn
 ·exact q80 hv.ex ⟨hx.key,hx.layer,hx.flag,hx.claims,hx.arms,hx.cond⟩
theorem w7d{v:Envt}{key:ByteArray}{size now:Int}{j k:Nat}{x:Exper}{l:Lay_}(hv:EnvK v)(h:Fnd v key now j x k l):EnvK (v3o v j (Exper.mk x.1 x.2 x.3 x.4 x.5 (clmV v x l size now) x.7 x.8)):=by
 have hx:=hv.ex x (getm (q1y h.hx).1)
 refine⟨hv.al,hv.sn,hv.sg,hv.fn,hv.fl,hv.ln,hv.ly,?_,?_⟩
 ·show (v.6.set j _).length<=1000
  rw[List.length_set];exact hv.xn
 ·exact q80 hv.ex ⟨hx.key,hx.layer,hx.flag,w7b _,hx.arms,hx.cond⟩
end Go.En
end
noncomputable section
set_option maxRecDepth 100000
namespace Go.En
open Go Go.Fl Go.Fl.Lk Go.Fx
theorem w1i{b:List Bool}{f:Nat->Bool}{K:List Spn->Prop}(hb:BAt b f)(h:K (canon f)):Wm b K:=by
 unfold Wm
 have hlen:=hb.len
 refine Lp2.ind (fun (o:List Spn) (i:Int)=> ∃j:Nat,i=(j:Int)/\j<=10000/\o=(Go.Fl.Sp.runs f j).map fun s=>Spn.mk s.1 s.2) (fun _ i=>(10000 - i).toNat) ?_ ⟨0,rfl,by omega,rfl⟩
 rintro o i ⟨j,rfl,hj,ho⟩ _
 have hrl:=Go.Fl.Sp.runs_len f j
 have hol:o.length=(Go.Fl.Sp.runs f j).length:=by rw[ho,List.length_map]
 refine Cnd.mk (fun hc=>⟨by omega,fun y hy=> ?_⟩) fun hc=>by
  have:j=10000:=by omega
  subst this
  rw[ho];exact h
 have hy:b[j]? =some y:=hy
 have hyf:=hb.get hy
 have nx: ∀{o':List Spn},o'=(Go.Fl.Sp.runs f (j+1)).map (fun s=>Spn.mk s.1 s.2)->InI ((j:Int)+1)/\(∃j':Nat,(j:Int)+1=(j':Int)/\j'<=10000/\o'=(Go.Fl.Sp.runs f j').map fun s=>Spn.mk s.1 s.2)/\(10000 - ((j:Int)+1)).toNat<(10000 - (j:Int)).toNat:=fun he=>⟨by unfold InI;omega,⟨j+1,by omega,by omega,he⟩,by omega⟩
 have new:f j=true-> ¬(0<j/\f (j - 1)=true)->InI ((j:Int)+1)/\Sml (o++[Spn.mk (j:Int) ((j:Int)+1)]).length/\InI ((j:Int)+1)/\(∃j':Nat,(j:Int)+1=(j':Int)/\j'<=10000/\o++[Spn.mk (j:Int) ((j:Int)+1)]=(Go.Fl.Sp.runs f j').map fun s=>Spn.mk s.1 s.2)/\(10000 - ((j:Int)+1)).toNat<(10000 - (j:Int)).toNat:=fun hf hp=>
  ⟨by unfold InI;omega,by unfold Sml;simp;omega,nx (by rw[Go.Fl.Sp.runs_new hf (Go.Fl.Sp.runs_noprev hp),List.map_append,ho];rfl)⟩
 refine Cnd.mk (fun ht=>Cnd.mk (fun h0=>⟨by unfold InI;omega,by omega,fun z hz=> ?_⟩) fun h0=>new (by rw[←hyf];exact ht) fun k=>by omega) fun hf=>nx (by rw[Go.Fl.Sp.runs_no (by rw[←hyf];exact Bool.eq_false_iff.2 hf)];exact ho)
 have hz:b[j - 1]? =some z:=by rw[show ((j:Int) - 1).toNat=j - 1 by omega] at hz;exact hz
 have hzf:=hb.get hz
 refine Cnd.mk (fun hzt _=> ?_) fun hzt=>new (by rw[←hyf];exact ht) fun k=>hzt (by rw[hzf];exact k.2)
 obtain⟨s,hs,h2⟩:=Go.Fl.Sp.runs_prev (p:=f) (k:=j) (by omega) (by rw[←hzf];exact hzt)
 have hsl:=Qe hs
 refine⟨by unfold InI;omega,by unfold InI;omega,by omega,fun w hw=>nx ?_⟩
 have eT:((o.length:Int) - 1).toNat=(Go.Fl.Sp.runs f j).length - 1:=by omega
 rw[eT] at hw⊢
 rw[ho,List.getElem?_map,hs] at hw
 cases hw
 rw[Go.Fl.Sp.runs_ext (by rw[←hyf];exact ht) hs h2,List.map_set,ho]
theorem w1j{a b:List Spn}{K:List Spn->Prop}(ha:a.length<=1000000)(hb:b.length<=1000000)(h:K (canon fun i=>insV a (i:Int)||insV b (i:Int))):V0 a b K:=by
 unfold V0 q6b
 refine J9 ha fun x hx=>J9 hb fun y hy=>Lp2.ind (fun (i:Int) (o:List Bool)=> ∃j:Nat,i=(j:Int)/\j<=10000/\BAt o (fun q=>if q<j then insV a (q:Int)||insV b (q:Int) else insV a (q:Int))) (fun i _=>(10000 - i).toNat) ?_ ⟨0,rfl,by omega,hx.of fun q hq=>by simp⟩
 rintro i o ⟨j,rfl,hj,ho⟩ _
 have hlen:=ho.len
 have hyl:=hy.len
 refine Cnd.mk (fun hc=>⟨by omega,fun z hz=> ?_⟩) fun hc=>w1i (ho.of (g:=fun q=>insV a (q:Int)||insV b (q:Int)) fun q hq=>by rw[if_pos (by omega)]) h
 have hz:o[j]? =some z:=hz
 have hzf:=ho.get hz
 simp only[Nat.lt_irrefl,if_false] at hzf
 have step: ∀{v:Bool},v=(insV a (j:Int)||insV b (j:Int))->InI ((j:Int)+1)/\(∃j':Nat,(j:Int)+1=(j':Int)/\j'<=10000/\BAt (o.set j v) (fun q=>if q<j' then insV a (q:Int)||insV b (q:Int) else insV a (q:Int)))/\(10000 - ((j:Int)+1)).toNat<(10000 - (j:Int)).toNat:=fun {v} hv=>⟨by unfold InI;omega,⟨j+1,by omega,by omega,ho.set (by rw[if_pos (by omega)];exact hv.symm) fun q hq hqj=>by
  by_cases hlt:q<j
  ·rw[if_pos hlt,if_pos (by omega)]
  ·rw[if_neg hlt,if_neg (by omega)]⟩,by omega⟩
 refine Cnd.mk (fun ht=>⟨by omega,fun w hw=>step (by rw[←hzf,ht];rfl)⟩) fun hf=>⟨by omega,fun w hw=>⟨by omega,fun u hu=>step ?_⟩⟩
 have hw:y[j]? =some w:=hw
 rw[hy.get hw,←hzf,Bool.eq_false_iff.2 hf];rfl
theorem w32{l:List Spn}{K:Int->Prop}(hl:l.length<=1000000)(h:K (Go.Fl.Sp.cnt (fun i=>insV l (i:Int)) 10000:Nat)):z4k l K:=by
 unfold z4k z9h
 refine J9 hl fun b hb=>Lp2.ind (fun (n i:Int)=> ∃j:Nat,i=(j:Int)/\j<=10000/\n=(Go.Fl.Sp.cnt (fun i=>insV l (i:Int)) j:Nat)) (fun _ (i:Int)=>(10000 - i).toNat) ?_ ⟨0,rfl,by omega,rfl⟩
 rintro n i ⟨j,rfl,hj,rfl⟩ _
 have hlen:=hb.len
 have hle:=Go.Fl.Sp.cnt_le (fun i=>insV l (i:Int)) j
 refine Cnd.mk (fun hc=>⟨by omega,fun y hy=> ?_⟩) fun hc=>by
  have:j=10000:=by omega
  subst this;exact h
 have hy:b[j]? =some y:=hy
 have hyf:y=insV l (j:Int):=hb.get hy
 have hstep:Go.Fl.Sp.cnt (fun i=>insV l (i:Int)) (j+1)=Go.Fl.Sp.cnt (fun i=>insV l (i:Int)) j+if insV l (j:Int)=true then 1 else 0:=rfl
 rw[←hyf] at hstep
 refine Cnd.mk (fun ht=>⟨by unfold InI;omega,by unfold InI;omega,⟨j+1,by omega,by omega,by rw[hstep,if_pos ht];omega⟩,by omega⟩) fun hf=>⟨by unfold InI;omega,⟨j+1,by omega,by omega,by rw[hstep,if_neg hf,Nat.add_zero]⟩,by omega⟩
theorem w1k{l:List Spn}{n:Int}{K:List Spn->Prop}(hl:l.length<=1000000)(hn:n<=1000000)(h: ∀s,IsS s (fun q=>Go.Fl.Sp.firstP (fun i=>insV l (i:Int)) n q.toNat=true)->K s):Hb l n K:=by
 unfold Hb z0f
 refine J9 hl fun b hb=> ?_
 generalize hf:(fun i:Nat=>insV l (i:Int))=f at hb h
 have hlf:=Go.Fl.Sp.leftN_le f n
 refine Lp3.ind (fun (m i:Int) (o:List Bool)=> ∃j:Nat,i=(j:Int)/\j<=10000/\m=Go.Fl.Sp.leftN f n j/\BAt o (fun q=>if q<j then Go.Fl.Sp.firstP f n q else f q)) (fun _ i _=>(10000 - i).toNat) ?_ ⟨0,rfl,by omega,rfl,hb.of fun q hq=>by simp⟩
 rintro m i o ⟨j,rfl,hj,rfl,ho⟩ _
 have hlen:=ho.len
 have hl1:=(hlf j).1
 refine Cnd.mk (fun hc=>⟨by omega,fun z hz=> ?_⟩) fun hc=>R7 (ho.of (g:=Go.Fl.Sp.firstP f n) fun q hq=>by rw[if_pos (by omega)]) h
 have hz:o[j]? =some z:=hz
 have hzf:=ho.get hz
 simp only[Nat.lt_irrefl,if_false] at hzf
 have nx: ∀{m':Int} {o':List Bool},m'=Go.Fl.Sp.leftN f n (j+1)->BAt o' (fun q=>if q<j+1 then Go.Fl.Sp.firstP f n q else f q)->InI ((j:Int)+1)/\(∃j':Nat,(j:Int)+1=(j':Int)/\j'<=10000/\m'=Go.Fl.Sp.leftN f n j'/\BAt o' (fun q=>if q<j' then Go.Fl.Sp.firstP f n q else f q))/\(10000 - ((j:Int)+1)).toNat<(10000 - (j:Int)).toNat:=fun h1 h2=>⟨by unfold InI;omega,⟨j+1,by omega,by omega,h1,h2⟩,by omega⟩
 have keep:Go.Fl.Sp.firstP f n j=f j->BAt o (fun q=>if q<j+1 then Go.Fl.Sp.firstP f n q else f q):=fun e=>ho.of fun q hq=>by
  by_cases hlt:q<j
  ·rw[if_pos hlt,if_pos (by omega)]
  ·by_cases e2:q=j
   ·subst e2;rw[if_pos (by omega),if_neg hlt,e]
   ·rw[if_neg hlt,if_neg (by omega)]
 have lf:Go.Fl.Sp.leftN f n (j+1)=if f j=true/\0<Go.Fl.Sp.leftN f n j then Go.Fl.Sp.leftN f n j - 1 else Go.Fl.Sp.leftN f n j:=rfl
 have fp:Go.Fl.Sp.firstP f n j=(f j && decide (0<Go.Fl.Sp.leftN f n j)):=rfl
 rw[←hzf] at lf fp
 have same: ∀{p:Bool->Prop},p z->At o (j:Int) p:=fun hp=>⟨by omega,fun w hw=>by
  have hw:o[j]? =some w:=hw
  rw[hz] at hw;cases hw;exact hp⟩
 refine Cnd.mk (fun ht=>Cnd.mk (fun hle=>⟨by omega,fun _ _=>nx (by rw[lf,if_neg (by omega)]) ?_⟩) fun hpos=>same (Cnd.yes ht ⟨by unfold InI;omega,nx (by rw[lf,if_pos ⟨ht,by omega⟩]) (keep ?_)⟩)) fun hfl=>same (Cnd.no hfl (nx (by rw[lf,if_neg fun k=>hfl k.1]) (keep ?_)))
 ·refine ho.set (k:=j) (v:=false) ?_ fun q hq hqj=> ?_
  ·rw[if_pos (by omega),fp,df (by omega),Bool.and_false]
  ·by_cases hlt:q<j
   ·rw[if_pos hlt,if_pos (by omega)]
   ·rw[if_neg hlt,if_neg (by omega)]
 ·rw[fp,←hzf,dt (by omega),Bool.and_true]
 ·rw[fp,←hzf,Bool.eq_false_iff.2 hfl,Bool.false_and]
theorem v4w{v:Envt}{key but:ByteArray}{now:Int}{j:Nat}{l:Lay_}{K:List Spn->Prop}(hv:EnvL v)(hl:lix v key=some (j,l))(h: ∀s,IsS s (TakP v l key but now)->K s):Bz v key but now K:=by
 unfold Bz z0d
 have hxn:=hv.x
 refine j8x (v:=v) hv.l (fun hn=>by rw[hl] at hn;cases hn) fun j' l' hl'=> ?_
 rw[hl] at hl'
 cases hl'
 obtain⟨hj,_,_⟩:=z8f hl
 refine Cnd.no (by omega) (Jn1.mk (fun s=>IsS s fun q=>(∃c∈l.6,Cvr c q/\now<c.3)∨(0<=q/\q<l.4)) ?_ ?_)
 ·have one: ∀{u:List Int},UAt u l.6 now->Bw u now fun Wt=>V0 [Spn.mk (0:Int) l.4] Wt fun Z4=>IsS Z4 fun q=>(∃c∈l.6,Cvr c q/\now<c.3)∨(0<=q/\q<l.4):=fun hu=>
   j52 hu fun s hs=>z5q (by simp) (by have:=hs.1.len;omega) fun t ht=>⟨ht.1,fun q=>by
    rw[ht.2 q]
    refine and_congr_right fun hq=> ?_
    simp only[w3w,hs.2 q]
    exact⟨fun k=>k.elim .inr fun k=> .inl k.2,fun k=>k.elim (fun k=> .inr ⟨hq,k⟩) .inl⟩⟩
  have hco:=hv.co l (getm hj)
  exact atq hj (atq hj ⟨q1x hco fun u hu=>one hu,q1x hco fun u hu=>⟨one hu,one hu⟩⟩)
 ·rintro s hs
  refine Lp2.ind (fun (s:List Spn) (i:Int)=> ∃n:Nat,i=(n:Int)/\n<=v.6.length/\IsS s fun q=>(∃c∈l.6,Cvr c q/\now<c.3)∨(0<=q/\q<l.4)∨ ∃x∈v.6.take n,x.2=key/\x.5≠3/\x.1≠but/\insV x.6 q=true) (fun _ (i:Int)=>(v.6.length - i).toNat) ?_ ⟨0,rfl,by omega,hs.1,fun q=>by rw[hs.2 q];simp⟩
  rintro s i ⟨n,rfl,hn,hs⟩ _
  refine Cnd.mk (fun hc=>⟨by omega,fun x hx=> ?_⟩) fun hc=>h s (by rw[List.take_of_length_le (by omega)] at hs;exact hs)
  have hx:v.6[n]? =some x:=hx
  have tk:v.6.take (n+1)=v.6.take n++[x]:=by rw[List.take_add_one,hx];rfl
  have hcl:=(hv.cl x (getm hx)).1
  have miss:(¬(x.2=key/\x.5≠3/\x.1≠but))->InI ((n:Int)+1)/\(∃n':Nat,(n:Int)+1=(n':Int)/\n'<=v.6.length/\IsS s fun q=>(∃c∈l.6,Cvr c q/\now<c.3)∨(0<=q/\q<l.4)∨ ∃x∈v.6.take n',x.2=key/\x.5≠3/\x.1≠but/\insV x.6 q=true)/\((v.6.length:Int) - ((n:Int)+1)).toNat<((v.6.length:Int) - (n:Int)).toNat:=fun hno=>by
   refine⟨by unfold InI;omega,⟨n+1,by omega,by omega,hs.1,fun q=> ?_⟩,by omega⟩
   rw[hs.2 q,tk]
   refine and_congr_right fun _=>or_congr Iff.rfl (or_congr Iff.rfl ⟨fun ⟨y,hy,z⟩=>⟨y,List.mem_append_left _ hy,z⟩,fun ⟨y,hy,z⟩=> ?_⟩)
   rcases List.mem_append.1 hy with hy|hy
   ·exact⟨y,hy,z⟩
   ·rw[List.mem_singleton.1 hy] at z;exact absurd ⟨z.1,z.2.1,z.2.2.1⟩ hno
  refine Cnd.mk (fun h1=>Cnd.mk (fun h3=>miss fun k=>k.2.2 h3) fun h3=>Cnd.mk (fun h2=>miss fun k=>k.2.1 h2) fun h2=> ?_) fun h1=>miss fun k=>h1 k.1
  refine z5q (by have:=hs.1.len;omega) hcl fun t ht=>⟨by unfold InI;omega,⟨n+1,by omega,by omega,ht.1,fun q=> ?_⟩,by omega⟩
  rw[ht.2 q,tk]
  refine and_congr_right fun hq=> ?_
  simp only[hs.2 q]
  constructor
  ·rintro (⟨_,k|k|⟨y,hy,z⟩⟩|k)
   ·exact .inl k
   ·exact .inr (.inl k)
   ·exact .inr (.inr ⟨y,List.mem_append_left _ hy,z⟩)
   ·exact .inr (.inr ⟨x,List.mem_append_right _ (List.mem_singleton.2 rfl),h1,h2,h3,k⟩)
  ·rintro (k|k|⟨y,hy,z⟩)
   ·exact .inl ⟨hq,.inl k⟩
   ·exact .inl ⟨hq,.inr (.inl k)⟩
   ·rcases List.mem_append.1 hy with hy|hy
    ·exact .inl ⟨hq,.inr (.inr ⟨y,hy,z⟩)⟩
    ·rw[List.mem_singleton.1 hy] at z;exact .inr z.2.2.2
theorem y1f{v:Envt}{key:ByteArray}{now:Int}{j:Nat}{l:Lay_}{K:List Spn->Int->Prop}(hv:EnvL v)(hl:lix v key=some (j,l))(hn:0<=now/\now<=1099511627776)(h: ∀s,IsS s (fun q=> ¬TakP v l key noK now q)->K s 0):q2o v key now K:=by
 unfold q2o z37
 refine z06 fun r hr=>Cnd.yes (hr.2 hn) (j8x (v:=v) hv.l (fun hno=>by rw[hl] at hno;cases hno) fun j' l' _=>Cnd.no (by omega) (v4w (v:=v) hv hl fun s hs=>j51 (by simp) (by have:=hs.1.len;omega) fun f hf=>h f ⟨hf.1,fun q=> ?_⟩))
 rw[hf.2 q]
 refine and_congr_right fun hq=> ?_
 simp only[w3w]
 exact⟨fun k t=>k.2 ((hs.2 q).2 ⟨hq,t⟩),fun k=>⟨hq,fun t=>k ((hs.2 q).1 t).2⟩⟩
theorem v9g{v:Envt}{key:ByteArray}{size now:Int}{K:Envt->Int->Prop}(hv:EnvK v)(h:K (j06 v key size now).1 (j06 v key size now).2):z0q v key size now K:=by
 unfold z0q z57
 unfold j06 at h
 have hxn:=hv.xn
 refine v61 (v:=v) hv.xn hv.ln (fun e he=>Cnd.no (j68 he) (by rw[he] at h;exact h)) fun j k x l hf=>Cnd.yes rfl ?_
 rw[hf] at h
 simp only at h
 have hF:=z8g hf
 have hx:=(q1y hF.hx).1
 refine atq hx (Cnd.mk (fun h3=>by rw[if_pos h3] at h;exact h) fun h3=>Cnd.mk (fun hs=>by rw[if_neg h3,if_pos hs] at h;exact h) fun hs=> ?_)
 rw[if_neg h3,if_neg hs] at h
 refine y1f (v:=v) hv.l hF.hl ⟨hF.n0,hF.n1⟩ fun s hsP=> ?_
 have hcov: ∀i,i<10000->insV s ((i:Nat):Int)=w7c v l x.2 now i:=fun i hi=>
  v4o ((hsP.2 (i:Int)).trans ⟨fun k=>k.2,fun k=>⟨⟨by omega,by omega⟩,k⟩⟩)
 have hsl:=hsP.1.len
 refine w32 (by omega) ?_
 rw[Go.Fl.Sp.cnt_congr hcov]
 refine Cnd.mk (fun hc=>by rw[if_pos hc] at h;exact h) fun hc=> ?_
 rw[if_neg hc] at h
 have hle:=Go.Fl.Sp.cnt_le (w7c v l x.2 now) 10000
 have hcl:=(hv.ex x (getm hx)).claims.len
 refine w1k (by omega) (by omega) fun g hg=>w1j (by omega) (by have:=hg.1.len;omega) ?_
 have e:(canon fun i=>insV x.6 (i:Int)||insV g (i:Int))=clmV v x l size now:=by
  unfold clmV
  refine j46 fun i hi=> ?_
  congr 1
  rw[←Go.Fl.Sp.firstP_congr (p:=fun i=>insV s ((i:Nat):Int)) fun q hq=>hcov q (by omega),Bool.eq_iff_iff,hg.2 (i:Int)]
  exact⟨fun k=>k.2,fun k=>⟨⟨by omega,by omega⟩,k⟩⟩
 rw[e]
 refine fun _=>Cnd.mk (fun h16=>by rw[if_pos h16] at h;exact h) fun h16=>z6t (v:=v) hxn hx ?_
 rw[if_neg h16] at h
 simp only[Ju]
 exact h
theorem v9h{v:Envt}{key:ByteArray}{now:Int}{K:Envt->Int->Prop}(hv:EnvK v)(h:K (j07 v key now).1 (j07 v key now).2):z0s v key now K:=by
 unfold z0s z58
 unfold j07 at h
 have hxn:=hv.xn
 refine v61 (v:=v) hv.xn hv.ln (fun e he=>Cnd.no (j68 he) (by rw[he] at h;exact h)) fun j k x l hf=>Cnd.yes rfl ?_
 rw[hf] at h
 simp only at h
 have hF:=z8g hf
 have hx:=(q1y hF.hx).1
 have hxk:x.1=key:=(q1y hF.hx).2.1
 have hcl:=(hv.ex x (getm hx)).claims.len
 refine atq hx (Cnd.mk (fun h1=> ?_) fun h1=>by rw[if_neg h1] at h;exact h)
 rw[if_pos h1] at h
 rw[hxk]
 refine v4w (v:=v) hv.l hF.hl fun s hs=>j43 (by omega) (by have:=hs.1.len;omega) fun c hc _=> ?_
 have hne:(0:Int)<(c.length:Int)↔ ∃q:Int,0<=q/\q<10000/\insV x.6 q=true/\TakP v l x.2 key now q:=by
  rw[show (0:Int)<(c.length:Int)↔0<c.length by omega,hc.nonempty]
  exact⟨fun ⟨q,a,b,c,d⟩=>⟨q,a,b,c,((hs.2 q).1 d).2⟩,fun ⟨q,a,b,c,d⟩=>⟨q,a,b,c,(hs.2 q).2 ⟨⟨a,b⟩,d⟩⟩⟩
 refine Cnd.mk (fun h14=>by rw[if_pos (hne.1 h14)] at h;exact h) fun h14=>z6t (v:=v) hxn hx ?_
 rw[if_neg fun k=>h14 (hne.2 k)] at h
 simp only[Ju]
 rw[←hxk]
 exact h
theorem v3q{u:List Int}{all:List Col}{now:Int}{K:List Col->Prop}(hu:u.length=10000)(hq: ∀(q:Nat) y,u[q]? =some y->LastS all now q y)(h:K (colV all now)):q1i u now K:=by
 unfold q1i
 have hq: ∀(q:Nat) y,u[q]? =some y->y=Wb now q all:=fun q y hy=>(hq q y hy).uniq (j81 all now q)
 refine Lp2.ind (fun (o:List Col) (i:Int)=> ∃j:Nat,i=(j:Int)/\j<=10000/\o=colR (fun q=>Wb now q all) now j) (fun _ i=>(10000 - i).toNat) ?_ ⟨0,rfl,by omega,rfl⟩
 rintro o i ⟨n,rfl,hn,rfl⟩ _
 have hI:=j82 (fun q=>Wb now q all) now n
 have hl1:=hI.len
 refine Cnd.mk (fun hc=>⟨by omega,fun y hy=> ?_⟩) fun hc=>by
  have:n=10000:=by omega
  subst this;exact h
 have hy:u[n]? =some y:=hy
 have hyv:=hq n y hy
 have nx: ∀{c:List Col},c=colR (fun q=>Wb now q all) now (n+1)->InI ((n:Int)+1)/\(∃n':Nat,(n:Int)+1=(n':Int)/\n'<=10000/\c=colR (fun q=>Wb now q all) now n')/\(10000 - ((n:Int)+1)).toNat<(10000 - (n:Int)).toNat:=fun he=>⟨by unfold InI;omega,⟨n+1,by omega,by omega,he⟩,by omega⟩
 refine Cnd.mk (fun he=>nx (v4u (u:=fun q=>Wb now q all) (by show Wb now n all<=now;omega)).symm) fun hne=> ?_
 have hlt:now<Wb now n all:=by omega
 have new: ¬(0<n/\Wb now (n - 1) all=Wb now n all)->InI ((n:Int)+1)/\At u (n:Int) fun y4=>Sml (colR (fun q=>Wb now q all) now n++[Col.mk (n:Int) ((n:Int)+1) y4]).length/\InI ((n:Int)+1)/\(∃n':Nat,(n:Int)+1=(n':Int)/\n'<=10000/\(colR (fun q=>Wb now q all) now n++[Col.mk (n:Int) ((n:Int)+1) y4])=colR (fun q=>Wb now q all) now n')/\(10000 - ((n:Int)+1)).toNat<(10000 - (n:Int)).toNat:=fun he=>⟨by unfold InI;omega,atq hy ⟨by unfold Sml;simp;omega,nx (by rw[hyv];exact (v01 (u:=fun q=>Wb now q all) hlt he).symm)⟩⟩
 refine Cnd.mk (fun h0=>⟨by unfold InI;omega,by omega,fun z hz=>atq hy (Cnd.mk (fun hzy _=> ?_) fun hzy=>new fun k=>hzy ?_)⟩) fun h0=>new fun k=>by omega
 ·have hz:u[n - 1]? =some z:=by rw[show ((n:Int) - 1).toNat=n - 1 by omega] at hz;exact hz
  have hzv:=hq (n - 1) z hz
  have heq:Wb now (n - 1) all=Wb now n all:=by rw[←hzv,←hyv];exact hzy
  obtain⟨w,hw,_,_⟩:=hI.on (by omega) (by show now<Wb now (n - 1) all;rw[heq];exact hlt)
  have hwl:=Qe hw
  refine⟨by unfold InI;omega,by unfold InI;omega,by omega,fun w' hw'=>nx ?_⟩
  have eT: ∀o:List Col,((o.length:Int) - 1).toNat=o.length - 1:=fun o=>by omega
  rw[eT] at hw'⊢
  rw[hw] at hw';cases hw'
  exact (v00 (u:=fun q=>Wb now q all) hlt (by omega) heq hw).symm
 ·have hz:u[n - 1]? =some z:=by rw[show ((n:Int) - 1).toNat=n - 1 by omega] at hz;exact hz
  rw[hq (n - 1) z hz,hyv];exact k.2
theorem UAt.last{u:List Int}{l:List Col}{now:Int}(h:UAt u l now)(q:Nat)(y:Int)(hy:u[q]? =some y):LastS l now q y:=⟨h.lo q y hy,fun t ht=>h.at_ q y t hy ht⟩
theorem LastS.claims{l:List Col}{s:List Spn}{now e y:Int}{q:Nat}(h:LastS l now q y)(hq:insV s (q:Int)=true):LastS (l++s.map fun s=>Col.mk s.1 s.2 e) now q (max y e):=by
 refine⟨by have:=h.1;omega,fun t ht=> ?_⟩
 have h2:=h.2 t ht
 constructor
 ·intro hm
  by_cases k:t<=y
  ·obtain⟨c,hc,z⟩:=h2.1 k
   exact⟨c,List.mem_append_left _ hc,z⟩
  ·obtain⟨r,hr,z1,z2⟩:=q76.1 hq
   exact⟨Col.mk r.1 r.2 e,List.mem_append_right _ (List.mem_map.2 ⟨r,hr,rfl⟩),⟨z1,z2⟩,by simp only;omega⟩
 ·rintro⟨c,hc,z1,z2⟩
  rcases List.mem_append.1 hc with hc|hc
  ·have:=h2.2 ⟨c,hc,z1,z2⟩;omega
  ·obtain⟨r,_,rfl⟩:=List.mem_map.1 hc
   simp only at z2;omega
theorem LastS.noclaims{l:List Col}{s:List Spn}{now e y:Int}{q:Nat}(h:LastS l now q y)(hq:insV s (q:Int)≠true):LastS (l++s.map fun s=>Col.mk s.1 s.2 e) now q y:=
 h.skip fun c hc hv=>by
  obtain⟨r,hr,rfl⟩:=List.mem_map.1 hc
  exact hq (q76.2 ⟨r,hr,hv.1,hv.2⟩)
theorem v3r{α:Type}{l:List α}{n:Nat}{y:α}(h:l[n]? =some y):l.set n y=l:=by
 refine List.ext_getElem? fun i=> ?_
 by_cases e:n=i
 ·subst e;rw[List.getElem?_set_self (Qe h),h]
 ·rw[List.getElem?_set_ne e]
theorem y1g{v:Envt}{key:ByteArray}{now:Int}{K:Envt->Int->Prop}(hv:EnvK v)(h:K (w1e v key now).1 (w1e v key now).2):z4l v key now K:=by
 unfold z4l z9i
 unfold w1e at h
 have hxn:=hv.xn
 have hln:=hv.ln
 refine v61 (v:=v) hv.xn hv.ln (fun e he=>Cnd.no (j68 he) (by rw[he] at h;exact h)) fun j k x l hf=>Cnd.yes rfl ?_
 rw[hf] at h
 simp only at h
 have hF:=z8g hf
 have hx:=(q1y hF.hx).1
 have hl:=(z8f hF.hl).1
 have hL:=hv.ly l (getm hl)
 have hcl:=(hv.ex x (getm hx)).claims.len
 have hkl:=Qe hl
 refine atq hx (Cnd.mk (fun h2=> ?_) fun h2=>by rw[if_neg h2] at h;exact h)
 rw[if_pos h2] at h
 refine j8x (v:=v) hv.ln (fun hn=>by rw[hF.hl] at hn;cases hn) fun k' l' hl'=> ?_
 rw[hF.hl] at hl'
 cases hl'
 have hlc:=hL.cl
 refine atq hl (q1x (by omega) fun u hu=>J9 (by omega) fun b hb=> ?_)
 have hbl:=hb.len
 have fin: ∀{u:List Int},u.length=10000->(∀(q:Nat) y,u[q]? =some y->LastS (allC x l now) now q y)->q1i u now fun Q9=>Fits Q9->Cnd ((32:Int)<(↑Q9.length:Int)) (K (Envt.mk (Sett.mk (ByteArray.mk (Array.mk [])) (ByteArray.mk (Array.mk [])) (0:Int)) [] [] [] [] []) (5:Int)) (q2y (Envt.mk (Sett.mk v.1.1 v.1.2 v.1.3) v.2 v.3 v.4 v.5 v.6) (j:Int) (Exper.mk x.1 x.2 x.3 x.4 (3:Int) x.6 x.7 (Ex.mk x.8.1 x.8.2 x.8.3 x.8.4 x.8.5)) fun Qr=>Sml ([]++Qr.5).length/\((0:Int)<=(k:Int)/\(k:Int)<(↑([]++Qr.5).length:Int))/\ ∀y13,([]++Qr.5)[((k:Nat):Int).toNat]? =some y13->K (Envt.mk (Sett.mk Qr.1.1 Qr.1.2 Qr.1.3) Qr.2 Qr.3 Qr.4 (([]++Qr.5).set ((k:Nat):Int).toNat (Lay_.mk l.1 l.2 l.3 l.4 l.5 Q9)) Qr.6) (0:Int)):=fun hul huq=>by
  refine v3q hul huq fun _=>Cnd.mk (fun h32=>by rw[if_pos h32] at h;exact h) fun h32=>z6t (v:=v) hxn hx ?_
  rw[if_neg h32] at h
  simp only[List.nil_append,Ju]
  exact⟨by unfold Sml;omega,by omega,fun _ _=>h⟩
 refine Lp2.ind (fun (i:Int) (u:List Int)=> ∃n:Nat,i=(n:Int)/\n<=10000/\u.length=10000/\ ∀(q:Nat) y,u[q]? =some y->LastS (if q<n then allC x l now else l.6) now q y) (fun (i:Int) _=>(10000 - i).toNat) ?_ ⟨0,rfl,by omega,hu.len,fun q y hy=>by rw[if_neg (by omega)];exact hu.last q y hy⟩
 rintro i u ⟨n,rfl,hn,hul,huq⟩ _
 refine Cnd.mk (fun hc=>Cnd.mk (fun h5=> ?_) fun h5=>fin hul fun q y hy=> ?_) fun hc=>fin hul fun q y hy=> ?_
 ·have hnx: ∀{y y':Int},u[n]? =some y->LastS (allC x l now) now n y'->InI ((n:Int)+1)/\(∃n':Nat,(n:Int)+1=(n':Int)/\n'<=10000/\(u.set n y').length=10000/\ ∀(q:Nat) z,(u.set n y')[q]? =some z->LastS (if q<n' then allC x l now else l.6) now q z)/\(10000 - ((n:Int)+1)).toNat<(10000 - (n:Int)).toNat:=fun {y y'} hy hy'=>by
   refine⟨by unfold InI;omega,⟨n+1,by omega,by omega,by rw[List.length_set];exact hul,fun q z hz=> ?_⟩,v88 (by omega)⟩
   by_cases e:n=q
   ·subst e
    rw[List.getElem?_set_self (by omega)] at hz
    cases hz
    rw[if_pos (by omega)];exact hy'
   ·rw[List.getElem?_set_ne e] at hz
    have:=huq q z hz
    by_cases hlt:q<n
    ·rw[if_pos hlt] at this;rw[if_pos (by omega)];exact this
    ·rw[if_neg hlt] at this;rw[if_neg (by omega)];exact this
  have eall:allC x l now=l.6++x.6.map fun s=>Col.mk s.1 s.2 (endV now l.5):=by unfold allC;rw[if_pos h5]
  refine j44 (by omega) fun z hz=> ?_
  have hzf:z=insV x.6 (n:Int):=hb.get hz
  refine Cnd.mk (fun ht=>j44 (by omega) fun y hy=>v87 ⟨hF.n0,hF.n1⟩ hL.cool.1 (j44 (by omega) fun _ _=> ?_)) fun hf=> ?_
  ·have h1:=huq n y hy
   rw[if_neg (by omega)] at h1
   exact hnx hy (by rw[eall];exact h1.claims (by rw[←hzf];exact ht))
  ·obtain⟨y,hy⟩:=getq (l:=u) (k:=n) (by omega)
   have h1:=huq n y hy
   rw[if_neg (by omega)] at h1
   have:=hnx hy (by rw[eall];exact h1.noclaims (s:=x.6) (e:=endV now l.5) (by rw[←hzf];exact hf))
   rw[v3r hy] at this
   exact this
 ·have:=huq q y hy
  have eall:allC x l now=l.6:=by unfold allC;rw[if_neg h5]
  rw[eall] at this⊢
  rw[ite_self] at this;exact this
 ·have:=huq q y hy
  have hqlt:=Qe hy
  rw[if_pos (by omega)] at this
  exact this
end Go.En
end
noncomputable section
set_option maxRecDepth 100000
namespace Go.En
open Go Go.Fl Go.Fl.Lk Go.Fx
structure FlgT(f:Flg):Prop where
 s:FlgS f
 tk: ∀t∈f.targets,t.keys.length<=1000000
theorem v9i{list:List Int}{a:Int}{segs:List Seg}{Kc:Flg->Int->List Seg->Prop}(hD:DS list a)(hsl:segs.length<=3)(hsegs: ∀g∈segs,SegS g)(h: ∀f a,FlgT f->DS list a->Kc f a segs):Zp list a (5:Int) fun Qw V3=>InI ((1:Int)+Qw)/\Zp list V3 (6:Int) fun Zl z4v=>Zp list z4v (4:Int) fun Jf j11=>InI ((1:Int)+Jf)/\Lp4 (fun Wt q7k v7u w7k v9o=>Cnd (Wt<1+Jf) (G6 list q7k ((1:Int)+Qw) fun Z4 z8h=>Sml (v7u++[Z4]).length/\InI (Wt+1)/\v9o (Wt+1) z8h (v7u++[Z4]) w7k) (Zp list q7k ((1:Int)+Jf) fun Z4 z8h=>InI ((1:Int)+Z4)/\Lp4 (fun Jo z1y v7e v07 y2a=>Cnd (Jo<0) (Zp list z1y (4:Int) fun Q9 Wa=>Cnd (Q9=1) False (InI (Jo+1)/\y2a (Jo+1) Wa v7e v07)) (Lp5 (fun Q9 Wa z5b j59 w4a v1d=>Zp list Wa (3:Int) fun Wc z1c=>Cnd (Q9<Wc) (Zp list z1c ((1:Int)+Jf) fun Qr z8q=>InI ((1:Int)+Qr)/\z0a list z8q fun Qc Ry=>Jn1 (fun (Zs:ByteArray×Int×List ByteArray×List Seg×List Val×List Tgt×Unit)=>Fits Zs.2.2.1->Cnd ((0:Int)<(↑Zs.2.2.1.length:Int)) (Sml (Zs.2.2.2.2.2.1++[Tgt.mk Zs.1 ((1:Int)+Qr) Zs.2.2.1]).length/\InI (Q9+1)/\v1d (Q9+1) Zs.2.1 (Zs.2.2.2.2.2.1++[Tgt.mk Zs.1 ((1:Int)+Qr) Zs.2.2.1]) Zs.2.2.2.2.1 Zs.2.2.2.1) (InI (Q9+1)/\v1d (Q9+1) Zs.2.1 Zs.2.2.2.2.2.1 Zs.2.2.2.2.1 Zs.2.2.2.1)) fun (v1e:ByteArray×Int×List ByteArray×List Seg×List Val×List Tgt×Unit->Prop)=>Zp list Ry (4:Int) fun Zo z6w=>Cnd (Zo=1) (v1e (ByteArray.mk (Array.mk [100,101,118,105,99,101]),z6w,Qc,w4a,j59,z5b,())) (v1e (ByteArray.mk (Array.mk [117,115,101,114]),z6w,Qc,w4a,j59,z5b,()))) (Jn1 (fun (Qr:Int×List Rul×List ByteArray×List Seg×List Val×List Tgt×Unit)=>q0t list Qr.1 ((1:Int)+Jf) fun Qc Ry=>Kc (Flg.mk (ByteArray.mk (Array.mk [102,122])) ((1:Int)+Qw) Qr.2.2.2.2.1 (decide (Zl<5)) ((1:Int)+Z4) [] Qr.2.2.2.2.2.1 Qr.2.1 Qc) Ry Qr.2.2.2.1) fun (w4b:Int×List Rul×List ByteArray×List Seg×List Val×List Tgt×Unit->Prop)=>LpH (fun (Qc:Int×Int×List Rul×List ByteArray×List Seg×List Val×List Tgt×Unit) (w7h:Int×Int×List Rul×List ByteArray×List Seg×List Val×List Tgt×Unit->Prop)=>Zp list Qc.2.1 (5:Int) fun Zs w1n=>Cnd (Qc.1<Zs) (At Qc.2.2.2.1 Qc.1 fun y15=>V8 (Envt.mk (Sett.mk (ByteArray.mk (Array.mk [])) (ByteArray.mk (Array.mk [])) (0:Int)) [] Qc.2.2.2.2.1 [] [] []) fun Gi=>q7o list w1n Gi (3:Int) fun Qd q4s=>q0t list q4s ((1:Int)+Jf) fun Qs q81=>Sml (Qc.2.2.1++[Rul.mk y15 (Ex.mk Qd.1 Qd.2 Qd.3 Qd.4 Qd.5) Qs]).length/\Jw (Qc.2.2.1++[Rul.mk y15 (Ex.mk Qd.1 Qd.2 Qd.3 Qd.4 Qd.5) Qs]) fun Gt _ v7v=>Cnd (v7v=true) (Fits Gt->Cnd ((0:Int)<(↑Gt.length:Int)) ((Qc.2.2.1++[Rul.mk y15 (Ex.mk Qd.1 Qd.2 Qd.3 Qd.4 Qd.5) Qs]).length<=(9223372036854775807:Nat)->InI ((↑(Qc.2.2.1++[Rul.mk y15 (Ex.mk Qd.1 Qd.2 Qd.3 Qd.4 Qd.5) Qs]).length:Int) - 1)/\((0:Int)<=(↑(Qc.2.2.1++[Rul.mk y15 (Ex.mk Qd.1 Qd.2 Qd.3 Qd.4 Qd.5) Qs]).length:Int) - 1/\(↑(Qc.2.2.1++[Rul.mk y15 (Ex.mk Qd.1 Qd.2 Qd.3 Qd.4 Qd.5) Qs]).length:Int) - 1<=(↑(Qc.2.2.1++[Rul.mk y15 (Ex.mk Qd.1 Qd.2 Qd.3 Qd.4 Qd.5) Qs]).length:Int))/\w4b (q81,List.take ((↑(Qc.2.2.1++[Rul.mk y15 (Ex.mk Qd.1 Qd.2 Qd.3 Qd.4 Qd.5) Qs]).length:Int) - 1).toNat (Qc.2.2.1++[Rul.mk y15 (Ex.mk Qd.1 Qd.2 Qd.3 Qd.4 Qd.5) Qs]),Qc.2.2.2.1,Qc.2.2.2.2.1,Qc.2.2.2.2.2.1,Qc.2.2.2.2.2.2.1,())) (InI (Qc.1+1)/\w7h (Qc.1+1,q81,Qc.2.2.1++[Rul.mk y15 (Ex.mk Qd.1 Qd.2 Qd.3 Qd.4 Qd.5) Qs],Qc.2.2.2.1,Qc.2.2.2.2.1,Qc.2.2.2.2.2.1,Qc.2.2.2.2.2.2.1,()))) ((Qc.2.2.1++[Rul.mk y15 (Ex.mk Qd.1 Qd.2 Qd.3 Qd.4 Qd.5) Qs]).length<=(9223372036854775807:Nat)->InI ((↑(Qc.2.2.1++[Rul.mk y15 (Ex.mk Qd.1 Qd.2 Qd.3 Qd.4 Qd.5) Qs]).length:Int) - 1)/\((0:Int)<=(↑(Qc.2.2.1++[Rul.mk y15 (Ex.mk Qd.1 Qd.2 Qd.3 Qd.4 Qd.5) Qs]).length:Int) - 1/\(↑(Qc.2.2.1++[Rul.mk y15 (Ex.mk Qd.1 Qd.2 Qd.3 Qd.4 Qd.5) Qs]).length:Int) - 1<=(↑(Qc.2.2.1++[Rul.mk y15 (Ex.mk Qd.1 Qd.2 Qd.3 Qd.4 Qd.5) Qs]).length:Int))/\w4b (q81,List.take ((↑(Qc.2.2.1++[Rul.mk y15 (Ex.mk Qd.1 Qd.2 Qd.3 Qd.4 Qd.5) Qs]).length:Int) - 1).toNat (Qc.2.2.1++[Rul.mk y15 (Ex.mk Qd.1 Qd.2 Qd.3 Qd.4 Qd.5) Qs]),Qc.2.2.2.1,Qc.2.2.2.2.1,Qc.2.2.2.2.2.1,Qc.2.2.2.2.2.2.1,()))) (w4b (w1n,Qc.2.2.1,Qc.2.2.2.1,Qc.2.2.2.2.1,Qc.2.2.2.2.2.1,Qc.2.2.2.2.2.2.1,()))) ((0:Int),z1c,[],[ByteArray.mk (Array.mk [102,105,114,115,116]),ByteArray.mk (Array.mk [115,101,99,111,110,100]),ByteArray.mk (Array.mk [116,104,105,114,100]),ByteArray.mk (Array.mk [102,111,117,114,116,104])],w4a,j59,z5b,()))) (0:Int) z1y [] v07 v7e)) (0:Int) z8h w7k v7u)) (0:Int) j11 [] segs:=by
 refine Qf hD (by decide) fun kind a k0 k1 hD=>⟨by unfold InI;omega,Qf hD (by decide) fun on a _ _ hD=>Qf hD (by decide) fun m a m0 m1 hD=>⟨by unfold InI;omega,?_⟩⟩
 refine Lp4.ind (fun (j:Int) (a:Int) (vals:List Val) (sg:List Seg)=>0<=j/\j<=1+m/\DS list a/\(vals.length:Int)=j/\(∀v∈vals,ValS v)/\sg=segs) (fun j _ _ _=>(1+m - j).toNat) ?_ ⟨Int.le_refl 0,by omega,hD,rfl,by simp,rfl⟩
 rintro j a vals sg ⟨j0,j1,hD,hvl,hvs,hsg⟩
 cases hsg
 refine Cnd.mk (fun hc=>q5v hD fun v a hv hD=>⟨by unfold Sml;simp;omega,by unfold InI;omega,⟨by omega,by omega,hD,by simp;omega,Jc hvs hv,rfl⟩,by omega⟩) fun hc=> ?_
 refine Qf hD (by omega) fun off a o0 o1 hD=>⟨by unfold InI;omega,?_⟩
 have hvm:(vals.length:Int)=1+m:=by omega
 refine Lp4.ind (fun (j:Int) (a:Int) (sg:List Seg) (vs:List Val)=>j=0/\DS list a/\sg=segs/\vs=vals) (fun _ _ _ _=>0) ?_ ⟨rfl,hD,rfl,rfl⟩
 rintro j a sg vs ⟨hj,hD,hsg,hvs2⟩
 cases hj;cases hsg;cases hvs2
 refine Cnd.no (by decide) ?_
 refine Lp5.ind (fun (j:Int) (a:Int) (tgts:List Tgt) (vs:List Val) (sg:List Seg)=>0<=j/\j<=3/\(tgts.length:Int)<=j/\(∀t∈tgts,t.kind.size<=100/\t.keys.length<=1000000)/\DS list a/\vs=vals/\sg=segs) (fun j _ _ _ _=>(3 - j).toNat) ?_ ⟨Int.le_refl 0,by omega,by simp,by simp,hD,rfl,rfl⟩
 rintro j a tgts vs sg ⟨j0,j1,htl,hts,hD,hvs2,hsg⟩
 cases hsg;cases hvs2
 refine Qf hD (by decide) fun q a q0 q1 hD=>Cnd.mk (fun hc=>Qf hD (by omega) fun w a w0 w1 hD=>⟨by unfold InI;omega,z3k hD fun ks a hks _ hD=> ?_⟩) fun _=> ?_
 ·refine Jn1.mk (fun x=>x.1.size<=100/\DS list x.2.1/\x.2.2=(ks,segs,vals,tgts,())) (Qf hD (by decide) fun r a _ _ hD=>Cnd.mk (fun _=>⟨(by decide:(ByteArray.mk (Array.mk [100,101,118,105,99,101])).size<=100),hD,rfl⟩) fun _=>⟨(by decide:(ByteArray.mk (Array.mk [117,115,101,114])).size<=100),hD,rfl⟩) ?_
  rintro⟨kd,a,rest⟩ ⟨hkd,hD,hr⟩
  simp only at hkd hD hr⊢
  subst hr
  simp only
  exact fun _=>Cnd.mk (fun _=>⟨by unfold Sml;simp;omega,by unfold InI;omega,⟨by omega,by omega,by simp;omega,Jc hts ⟨hkd,Nat.le_trans hks (by decide)⟩,hD,trivial,trivial⟩,by omega⟩) fun _=>⟨by unfold InI;omega,⟨by omega,by omega,by omega,hts,hD,trivial,trivial⟩,by omega⟩
 refine Jn1.mk (fun (x:Int×List Rul×List ByteArray×List Seg×List Val×List Tgt×Unit)=>DS list x.1/\x.2.1.length<=4/\(∀r∈x.2.1,RulS (1+m) r)/\x.2.2.2=(segs,vals,tgts,())) ?_ ?_
 case refine_2=>
  rintro⟨a,rules,names,rest⟩ ⟨hD,hrl,hrs,hr⟩
  simp only at hD hrl hrs hr⊢
  subst hr
  simp only
  refine j0c hD (by omega) (by omega) fun s a hs hD=>h _ _ ⟨⟨(by decide:(ByteArray.mk (Array.mk [102,122])).size<=100),⟨by simp only;omega,by simp only;omega⟩,hvs,by simp,by simp,by simp only;omega,fun t ht=>(hts t ht).1,hrl,by rw[hvm];exact hrs,by rw[hvm];exact hs⟩,fun t ht=>(hts t ht).2⟩ hD
 have nm4: ∀s∈([ByteArray.mk (Array.mk [102,105,114,115,116]),ByteArray.mk (Array.mk [115,101,99,111,110,100]),ByteArray.mk (Array.mk [116,104,105,114,100]),ByteArray.mk (Array.mk [102,111,117,114,116,104])]:List ByteArray),s.size<=100:=by decide
 have nl4:([ByteArray.mk (Array.mk [102,105,114,115,116]),ByteArray.mk (Array.mk [115,101,99,111,110,100]),ByteArray.mk (Array.mk [116,104,105,114,100]),ByteArray.mk (Array.mk [102,111,117,114,116,104])]:List ByteArray).length=4:=rfl
 generalize ([ByteArray.mk (Array.mk [102,105,114,115,116]),ByteArray.mk (Array.mk [115,101,99,111,110,100]),ByteArray.mk (Array.mk [116,104,105,114,100]),ByteArray.mk (Array.mk [102,111,117,114,116,104])]:List ByteArray)=ns4 at nm4 nl4⊢
 refine LpH.ind (fun (x:Int×Int×List Rul×List ByteArray×List Seg×List Val×List Tgt×Unit)=>0<=x.1/\x.1<=4/\DS list x.2.1/\(x.2.2.1.length:Int)=x.1/\(∀r∈x.2.2.1,RulS (1+m) r)/\x.2.2.2=(ns4,segs,vals,tgts,())) (fun x=>(4 - x.1).toNat) ?_ ⟨Int.le_refl 0,by simp,hD,rfl,by simp,rfl⟩
 rintro⟨j,a,rules,rest⟩ ⟨j0,j1,hD,hrl,hrs,hr⟩
 simp only at j0 j1 hD hrl hrs hr⊢
 subst hr
 simp only
 refine Qf hD (by decide) fun q a q0 q1 hD=>Cnd.mk (fun hc=>⟨by rw[nl4];omega,fun y hy=> ?_⟩) fun _=>⟨hD,by omega,hrs,trivial⟩
 refine q4q (by simp only;omega) (v0j (fun s hs=> ?_) 2 (by omega) (by decide) (by decide) hD fun e a he hD=>j0c hD (by omega) (by omega) fun s a hs hD=>⟨by unfold Sml;simp;omega,?_⟩)
 ·obtain⟨g,hg,rfl⟩:=List.mem_map.1 hs;exact (hsegs g hg).key
 have hrs':=Jc hrs (x:=Rul.mk y (Ex.mk e.1 e.2 e.3 e.4 e.5) s) ⟨nm4 y (getm hy),he.eta,hs⟩
 have hl':(rules++[Rul.mk y (Ex.mk e.1 e.2 e.3 e.4 e.5) s]).length=rules.length+1:=by simp
 have cut: ∀r∈List.take (((rules++[Rul.mk y (Ex.mk e.1 e.2 e.3 e.4 e.5) s]).length:Int) - 1).toNat (rules++[Rul.mk y (Ex.mk e.1 e.2 e.3 e.4 e.5) s]),RulS (1+m) r:=fun r hr=>hrs' r (List.mem_of_mem_take hr)
 generalize rules++[Rul.mk y (Ex.mk e.1 e.2 e.3 e.4 e.5) s]=rs at hrs' hl' cut⊢
 refine q1w (by omega) (fun r hr=>(hrs' r hr).cond) fun o n b ho=>Cnd.mk (fun _ _=>Cnd.mk (fun _ _=>⟨by unfold InI;omega,by omega,hD,by simp only[List.length_take];omega,cut,trivial⟩) fun _=>⟨by unfold InI;omega,⟨by omega,by omega,hD,by omega,hrs',trivial⟩,by omega⟩) fun _ _=>⟨by unfold InI;omega,by omega,hD,by simp only[List.length_take];omega,cut,trivial⟩
structure ChI(hkind:ByteArray)(attrs:List Decl)(segs:List Seg)(flags:List Flg)(layers:List Lay_)(exps:List Exper)(i:Int):Prop where
 hk:hkind.size<=100
 at_: ∀d∈attrs,d.kind.size<=100/\d.name.size<=100
 sl:segs.length<=3
 sg: ∀g∈segs,SegS g
 fn:(flags.length:Int)<=4+i
 fl: ∀f∈flags,FlgT f
 ln:layers.length<=2
 ly: ∀l∈layers,LayS l
 xn:exps.length<=3
 ex: ∀x∈exps,ExpS x
 al:attrs.length<=100
theorem v05{α:Type}{P:α->Prop}{l:List α}{a b c:Nat}(h: ∀x∈l,P x): ∀x∈List.take a l++List.drop b (List.take c l),P x:=fun x hx=>(List.mem_append.1 hx).elim (fun k=>h x (List.mem_of_mem_take k)) fun k=>h x (List.mem_of_mem_take (List.mem_of_mem_drop k))
theorem j83{α:Type}{l:List α}{x:Int}(h0:0<=x)(h1:x<l.length):(List.take x.toNat l++List.drop (x+1).toNat (List.take (l.length:Int).toNat l)).length<=l.length:=by
 rw[List.length_append,List.length_take,List.length_drop,List.length_take];omega
theorem w1l{list:List Int}{at_ now:Int}{v:Envt}{K:Envt->Int->Prop}(hD:DS list at_)(hv:EnvS v)(hal:v.2.length<=100)(htk: ∀f∈v.4,∀t∈f.targets,t.keys.length<=1000000)(h: ∀w a i,i<=3->ChI w.1.2 w.2 w.3 w.4 w.5 w.6 i->DS list a->K w a):z4j list at_ v now K:=by
 unfold z4j z9f
 have h1:=hv.slen
 have h2:=hv.flen
 have h3:=hv.llen
 have h4:=hv.xlen
 have tt: ∀s∈z2f,s.size<=100:=by decide
 have usr:(ByteArray.mk (Array.mk [117,115,101,114])).size<=100:=by decide
 simp only[List.nil_append]
 refine⟨by unfold Sml;omega,by unfold Sml;omega,by unfold Sml;omega,by unfold Sml;omega,by unfold Sml;omega,?_⟩
 refine LpH.ind (fun (x:Int×ByteArray×ByteArray×Int×List Decl×List Flg×List Exper×Int×List Lay_×List Seg×Unit)=>0<=x.1/\x.1<=3/\DS list x.2.2.2.2.2.2.2.1/\ChI x.2.2.1 x.2.2.2.2.1 x.2.2.2.2.2.2.2.2.2.1 x.2.2.2.2.2.1 x.2.2.2.2.2.2.2.2.1 x.2.2.2.2.2.2.1 x.1) (fun x=>(3 - x.1).toNat) ?_ ⟨Int.le_refl 0,by simp,hD,⟨hv.hkind,hv.attrs,h1,hv.segs,by simp only;omega,fun f hf=>⟨hv.flags f hf,htk f hf⟩,h3,hv.layers,h4,hv.exps,hal⟩⟩
 rintro⟨i,salt,hkind,hold,attrs,flags,exps,a,layers,segs,u⟩ ⟨i0,i1,hD,hI⟩
 simp only at i0 i1 hD hI⊢
 have c1:=hI.sl
 have c2:=hI.fn
 have c3:=hI.ln
 have c4:=hI.xn
 refine Qf hD (by decide) fun r a r0 r1 hD=>Cnd.mk (fun hir=> ?_) fun _=>h _ _ i (by omega) hI hD
 have nx: ∀{hkind:ByteArray} {attrs:List Decl} {flags:List Flg} {exps:List Exper} {a:Int} {layers:List Lay_} {segs:List Seg},DS list a->ChI hkind attrs segs flags layers exps (i+1)->InI (i+1)/\(0<=i+1/\i+1<=3/\DS list a/\ChI hkind attrs segs flags layers exps (i+1))/\(3 - (i+1)).toNat<(3 - i).toNat:=fun hD hJ=>⟨by unfold InI;omega,⟨by omega,by omega,hD,hJ⟩,by omega⟩
 have hJ:ChI hkind attrs segs flags layers exps (i+1):=⟨hI.hk,hI.at_,hI.sl,hI.sg,by omega,hI.fl,hI.ln,hI.ly,hI.xn,hI.ex,hI.al⟩
 have fzd: ∀{f:Flg},FlgT f->ChI hkind attrs segs (flags++[f]) layers exps (i+1):=fun hf=>⟨hI.hk,hI.at_,hI.sl,hI.sg,by simp;omega,Jc hI.fl hf,hI.ln,hI.ly,hI.xn,hI.ex,hI.al⟩
 have cutX: ∀{x:Int},0<=x->x<exps.length->ChI hkind attrs segs flags layers (List.take x.toNat exps++List.drop (x+1).toNat (List.take (exps.length:Int).toNat exps)) (i+1):=fun x0 x1=>⟨hI.hk,hI.at_,hI.sl,hI.sg,by omega,hI.fl,hI.ln,hI.ly,by have:=j83 x0 x1;omega,v05 hI.ex,hI.al⟩
 refine Qf hD (by decide) fun z a z0 z1 hD=> ?_
 refine Cnd.mk (fun _=>q4a hD fun t a ht hD=>Hw hD (by decide) fun w a _ _ hD=>nx hD {hJ with hk:=usr}) fun _=> ?_
 refine Cnd.mk (fun _=>Qf hD (by decide) fun k a k0 k1 hD _=>Cnd.mk (fun hk=>z3k hD fun ks a hks _ hD=>⟨by omega,fun y hy=>nx hD {hJ with sl:=by rw[List.length_set];omega,sg:=q80 hI.sg ?_}⟩) fun _=>nx hD hJ) fun _=> ?_
 ·have:=hI.sg y (getm hy)
  exact⟨this.key,this.kind,hks,this.excl,this.cond.eta⟩
 refine Cnd.mk (fun _=>Qf hD (by decide) fun k a k0 k1 hD _=>Cnd.mk (fun hk=>⟨by omega,fun y hy=>⟨by omega,fun y2 hy2=>nx hD {hJ with fn:=by rw[List.length_set];omega,fl:=q80 hI.fl ?_}⟩⟩) fun _=>nx hD hJ) fun _=> ?_
 ·have:=hI.fl y2 (getm hy2)
  exact⟨⟨this.s.key,this.s.vlen,this.s.vals,this.s.nlen,this.s.needs,this.s.tlen,this.s.tgts,this.s.rlen,this.s.rules,this.s.dflt⟩,this.tk⟩
 refine Cnd.mk (fun _=>Qf hD (by decide) fun k a k0 k1 hD _=>Cnd.mk (fun hk=>⟨by omega,fun y hy _=>j0c hD (by have:=(hI.fl y (getm hy)).s.vlen;omega) (by have:=(hI.fl y (getm hy)).s.vlen;omega) fun s a hs hD=>⟨by omega,fun y2 hy2=>nx hD {hJ with fn:=by rw[List.length_set];omega,fl:=q80 hI.fl ?_}⟩⟩) fun _=>nx hD hJ) fun _=> ?_
 ·have:=hI.fl y2 (getm hy2)
  rw[hy] at hy2;cases hy2
  exact⟨⟨this.s.key,this.s.vlen,this.s.vals,this.s.nlen,this.s.needs,this.s.tlen,this.s.tgts,this.s.rlen,this.s.rules,hs⟩,this.tk⟩
 refine Cnd.mk (fun _=>Qf hD (by decide) fun k a k0 k1 hD _=>Cnd.mk (fun hk=>⟨by omega,by unfold InI;omega,by omega,⟨trivial,by omega⟩,by have:=j83 k0 hk;unfold Sml;omega,nx hD {hJ with fn:=by have:=j83 k0 hk;omega,fl:=v05 hI.fl}⟩) fun _=>nx hD hJ) fun _=> ?_
 have fzk: ∀{a:Int},DS list a-> ∀f a,FlgT f->DS list a->Sml (flags++[f]).length/\InI (i+1)/\(0<=i+1/\i+1<=3/\DS list a/\ChI hkind attrs segs (flags++[f]) layers exps (i+1))/\(3 - (i+1)).toNat<(3 - i).toNat:=fun _ f a hf hD=>⟨by unfold Sml;simp;omega,nx hD (fzd hf)⟩
 refine Cnd.mk (fun _ _=>Cnd.mk (fun _=>v9i hD hI.sl hI.sg (Kc:=fun f a sg=>Sml (flags++[f]).length/\InI (i+1)/\(0<=i+1/\i+1<=3/\DS list a/\ChI hkind attrs sg (flags++[f]) layers exps (i+1))/\(3 - (i+1)).toNat<(3 - i).toNat) (fzk hD)) fun hne _=>⟨by unfold InI;omega,by omega,fun y hy=>Cnd.mk (fun _=>v9i hD hI.sl hI.sg (Kc:=fun f a sg=>Sml (flags++[f]).length/\InI (i+1)/\(0<=i+1/\i+1<=3/\DS list a/\ChI hkind attrs sg (flags++[f]) layers exps (i+1))/\(3 - (i+1)).toNat<(3 - i).toNat) (fzk hD)) fun _=>nx hD hJ⟩) fun _=> ?_
 refine Cnd.mk (fun _=>Qf hD (by decide) fun k a k0 k1 hD _=>Cnd.mk (fun hk=>⟨by omega,fun y hy=>nx hD {hJ with ln:=by rw[List.length_set];omega,ly:=q80 hI.ly ?_}⟩) fun _=>nx hD hJ) fun _=> ?_
 ·have:=hI.ly y (getm hy)
  exact⟨this.key,this.kind,this.salt,this.hold,this.cool,by simp⟩
 refine Cnd.mk (fun _=>Qf hD (by decide) fun k a k0 k1 hD _=>Cnd.mk (fun hk=>Qf hD (by decide) fun q a q0 q1 hD=>⟨by unfold InI;omega,by omega,fun y hy=>nx hD {hJ with xn:=by rw[List.length_set];omega,ex:=q80 hI.ex ?_}⟩) fun _=>nx hD hJ) fun _=> ?_
 ·have:=hI.ex y (getm hy)
  exact⟨this.key,this.layer,this.flag,this.claims,this.arms,this.cond.eta⟩
 refine Cnd.mk (fun _=>Qf hD (by decide) fun k a k0 k1 hD _=>Cnd.mk (fun hk=>⟨by omega,fun y hy=>Hw hD (by decide) fun w a w0 w1 hD=>j0z ⟨by omega,by omega⟩ fun c hc=>⟨by omega,fun y2 hy2=>nx hD {hJ with xn:=by rw[List.length_set];omega,ex:=q80 hI.ex ?_}⟩⟩) fun _=>nx hD hJ) fun _=> ?_
 ·have:=hI.ex y2 (getm hy2)
  exact⟨this.key,this.layer,this.flag,hc,this.arms,this.cond.eta⟩
 have del: ∀{a:Int},DS list a->Zp list a (4:Int) fun Zl z4v=>Fits exps->Cnd (Zl<(↑exps.length:Int)) (((0:Int)<=(0:Int)/\(0:Int)<=Zl/\Zl<=(↑exps.length:Int))/\InI (Zl+1)/\((0:Int)<=Zl+1/\Zl+1<=(↑exps.length:Int)/\(↑exps.length:Int)<=(↑exps.length:Int))/\(True/\(0:Int)<=Zl/\Zl<=Zl+1/\Zl+1<=(↑exps.length:Int)/\(↑exps.length:Int)<=(↑exps.length:Int))/\Sml (List.take Zl.toNat exps++List.drop (Zl+1).toNat (List.take (↑exps.length:Int).toNat exps)).length/\InI (i+1)/\(0<=i+1/\i+1<=3/\DS list z4v/\ChI hkind attrs segs flags layers (List.take Zl.toNat exps++List.drop (Zl+1).toNat (List.take (↑exps.length:Int).toNat exps)) (i+1))/\(3 - (i+1)).toNat<(3 - i).toNat) (InI (i+1)/\(0<=i+1/\i+1<=3/\DS list z4v/\ChI hkind attrs segs flags layers exps (i+1))/\(3 - (i+1)).toNat<(3 - i).toNat):=fun hD=>Qf hD (by decide) fun k a k0 k1 hD _=>Cnd.mk (fun hk=>⟨by omega,by unfold InI;omega,by omega,⟨trivial,by omega⟩,by have:=j83 k0 hk;unfold Sml;omega,nx hD (cutX k0 hk)⟩) fun _=>nx hD hJ
 refine Cnd.mk (fun _ _=>Cnd.mk (fun hpos=>Qf hD (by decide) fun q a q0 q1 hD=>Cnd.mk (fun _ _=>⟨by unfold InI;omega,by omega,nx hD {hJ with at_:=fun d hd=>hI.at_ d (List.mem_of_mem_take hd),al:=by have:=hI.al;rw[List.length_take];omega}⟩) fun _=>del hD) fun _=>del hD) fun _=>nx hD hJ
theorem ChI.w{w:Envt}{i:Int}(hi:i<=3)(hI:ChI w.1.2 w.2 w.3 w.4 w.5 w.6 i):EnvW w:=by
 have c2:=hI.fn
 have c3:=hI.ln
 have c4:=hI.xn
 exact⟨by have:=hI.hk;omega,fun d hd=>by have:=hI.at_ d hd;omega,fun g hg=>(hI.sg g hg).w,fun f hf=>(hI.fl f hf).s.w,fun l hl=>(hI.ly l hl).w,fun x hx=>(hI.ex x hx).w,by omega,by omega,by omega⟩
end Go.En
end
noncomputable section
set_option maxRecDepth 100000
namespace Go.En
open Go Go.Fl Go.Fl.Lk Go.Fx
theorem v65{l:List Decl}{K:Bool->Prop}(hl:l.length<=1000000)(h:K true):Ra l l K:=by
 unfold Ra
 exact fun _ _=>Cnd.yes rfl (allR (fun _=>True) (by omega) (fun _=>h) fun i y Y hy nx=>atq hy (Cnd.yes ⟨rfl,rfl,rfl⟩ (nx trivial)))
theorem v9j{l:List Prq}{K:Bool->Prop}(hl:l.length<=1000000)(h:K true):Va l l K:=by
 unfold Va
 exact fun _ _=>Cnd.yes rfl (allR (fun _=>True) (by omega) (fun _=>h) fun i y Y hy nx=>atq hy (Cnd.yes ⟨rfl,rfl⟩ (nx trivial)))
theorem v66{l:List Col}{K:Bool->Prop}(hl:l.length<=1000000)(h:K true):Bk l l K:=by
 unfold Bk
 exact fun _ _=>Cnd.yes rfl (allR (fun _=>True) (by omega) (fun _=>h) fun i y Y hy nx=>atq hy (Cnd.yes ⟨rfl,rfl,rfl⟩ (nx trivial)))
theorem v3s{l:List Spn}{K:Bool->Prop}(hl:l.length<=1000000)(h:K true):q3o l l K:=by
 unfold q3o
 exact fun _ _=>Cnd.yes rfl (allR (fun _=>True) (by omega) (fun _=>h) fun i y Y hy nx=>atq hy (Cnd.yes ⟨rfl,rfl⟩ (nx trivial)))
theorem v9k{g:Seg}{K:Bool->Prop}(hg:SegS g)(h:K true):Bh g g K:=by
 unfold Bh q4i
 exact Cnd.yes rfl (Cnd.yes rfl (z4s fun r hr=>Cnd.yes (hr.2 rfl) (z4s fun r hr=>Cnd.yes (hr.2 rfl) (q1u 4 hg.cond fun r hr=>by rw[hr.2 rfl];exact h))))
theorem v67{l:List Seg}{K:Bool->Prop}(hl:l.length<=1000000)(hs: ∀g∈l,SegS g)(h:K true):Rb l l K:=by
 unfold Rb q2z
 simp only[Ju]
 exact fun _ _=>Cnd.yes trivial (allR (fun _=>True) (by omega) (fun _=>h) fun i y Y hy nx=>atq hy (v9k (g:=y) (hs y (getm hy)) (Cnd.yes rfl (nx trivial))))
theorem v4x{s:Srv}{K:Bool->Prop}(hs:s.5.length<=1000000)(h:K true):R3 s s K:=by
 unfold R3 q8k
 exact Cnd.yes rfl (Cnd.yes rfl (Cnd.yes rfl (Cnd.yes rfl (z1x hs fun r hr=>by rw[hr.2 rfl];exact h))))
theorem v68{l:List Tgt}{K:Bool->Prop}(hl:l.length<=1000000)(h:K true):Bi l l K:=by
 unfold Bi q4j
 exact fun _ _=>Cnd.yes rfl (allR (fun _=>True) (by omega) (fun _=>h) fun i y Y hy nx=>atq hy (Cnd.yes rfl (atq hy (atq hy (Cnd.yes rfl (atq hy (atq hy (z4s fun r hr=>Cnd.yes (hr.2 rfl) (nx trivial)))))))))
theorem v3t{n:Int}{l:List Rul}{K:Bool->Prop}(hl:l.length<=1000000)(hr: ∀r∈l,RulS n r)(h:K true):q3l l l K:=by
 unfold q3l q8l
 exact fun _ _=>Cnd.yes rfl (allR (fun _=>True) (by omega) (fun _=>h) fun i y Y hy nx=>atq hy (Cnd.yes rfl (atq hy (atq hy (q1u 4 (hr y (getm hy)).cond fun r hq=>Cnd.yes (hq.2 rfl) (atq hy (atq hy (v4x (s:=y.3) (by have:=(hr y (getm hy)).serve.split.1;omega) (Cnd.yes rfl (nx trivial))))))))))
theorem v69{f:Flg}{K:Bool->Prop}(hf:FlgS f)(h:K true):q5a f f K:=by
 unfold q5a z0r
 exact Cnd.yes rfl (Cnd.yes rfl (z1v fun r hr=>Cnd.yes (hr.2 rfl) (Cnd.yes rfl (Cnd.yes rfl (v9j (by have:=hf.nlen;omega) (Cnd.yes rfl (v68 (by have:=hf.tlen;omega) (Cnd.yes rfl (v3t (by have:=hf.rlen;omega) hf.rules (Cnd.yes rfl (v4x (s:=f.9) (by have:=hf.dflt.split.1;omega) h)))))))))))
theorem v3u{l:List Flg}{K:Bool->Prop}(hl:l.length<=1000000)(hs: ∀g∈l,FlgS g)(h:K true):q3m l l K:=by
 unfold q3m q8m
 exact fun _ _=>Cnd.yes rfl (allR (fun _=>True) (by omega) (fun _=>h) fun i y Y hy nx=>atq hy (v69 (f:=y) (hs y (getm hy)) (Cnd.yes rfl (nx trivial))))
theorem v7a{l:List Lay_}{K:Bool->Prop}(hl:l.length<=1000000)(hs: ∀g∈l,LayS g)(h:K true):q1g l l K:=by
 unfold q1g q6t q8o q8n
 exact fun _ _=>Cnd.yes rfl (allR (fun _=>True) (by omega) (fun _=>h) fun i y Y hy nx=>atq hy (Cnd.yes rfl (Cnd.yes rfl (Cnd.yes rfl (Cnd.yes rfl (Cnd.yes rfl (v66 (by have:=(hs y (getm hy)).cl;omega) (Cnd.yes rfl (nx trivial)))))))))
theorem v3v{x:Exper}{K:Bool->Prop}(hx:ExpS x)(h:K true):U4 x x K:=by
 unfold U4 B3
 exact Cnd.yes rfl (Cnd.yes rfl (Cnd.yes rfl (Cnd.yes rfl (Cnd.yes rfl (v3s (by have:=hx.claims.len;omega) (Cnd.yes rfl (z1x (by have:=hx.arms.1;omega) fun r hr=>Cnd.yes (hr.2 rfl) (q1u 4 hx.cond fun r hr=>by rw[hr.2 rfl];exact h))))))))
theorem v06{l:List Exper}{K:Bool->Prop}(hl:l.length<=1000000)(hs: ∀g∈l,ExpS g)(h:K true):V4 l l K:=by
 unfold V4 Rv
 simp only[Ju]
 exact fun _ _=>Cnd.yes trivial (allR (fun _=>True) (by omega) (fun _=>h) fun i y Y hy nx=>atq hy (v3v (x:=y) (hs y (getm hy)) (Cnd.yes rfl (nx trivial))))
theorem v7b{w:Envt}{K:Bool->Prop}(hw:EnvK w)(h:K true):z7q w w K:=by
 unfold z7q j3k
 exact Cnd.yes ⟨rfl,rfl,rfl⟩ (v65 hw.al (Cnd.yes rfl (v67 (by have:=hw.sn;omega) hw.sg (Cnd.yes rfl (v3u (by have:=hw.fn;omega) (fun f hf=>(hw.fl f hf).1) (Cnd.yes rfl (v7a (by have:=hw.ln;omega) hw.ly (Cnd.yes rfl (v06 (by have:=hw.xn;omega) hw.ex h)))))))))
theorem z3q:EnvK envE:=⟨by simp[envE],by simp[envE],by simp[envE],by simp[envE],by simp[envE],by simp[envE],by simp[envE],by simp[envE],by simp[envE]⟩
theorem w7e{v:Envt}{key:ByteArray}{now:Int}{j k:Nat}{x:Exper}{l:Lay_}(hv:EnvK v)(h:Fnd v key now j x k l):EnvK (v3o v j (Exper.mk x.1 x.2 x.3 x.4 2 x.6 x.7 x.8)):=by
 have hx:=hv.ex x (getm (q1y h.hx).1)
 refine⟨hv.al,hv.sn,hv.sg,hv.fn,hv.fl,hv.ln,hv.ly,?_,?_⟩
 ·show (v.6.set j _).length<=1000
  rw[List.length_set];exact hv.xn
 ·exact q80 hv.ex ⟨hx.key,hx.layer,hx.flag,hx.claims,hx.arms,hx.cond⟩
theorem v7c{v:Envt}{key:ByteArray}{size now:Int}(hv:EnvK v):EnvK (j06 v key size now).1:=by
 unfold j06
 split
 ·exact z3q
 ·rename_i hf
  split
  ·exact z3q
  split
  ·exact z3q
  split
  ·exact z3q
  split
  ·exact z3q
  ·exact w7d hv (z8g hf)
theorem v7d{v:Envt}{key:ByteArray}{now:Int}(hv:EnvK v):EnvK (j07 v key now).1:=by
 unfold j07
 split
 ·exact z3q
 ·rename_i hf
  split
  ·split
   ·exact z3q
   ·exact w7e hv (z8g hf)
  ·exact z3q
theorem v9l{v:Envt}{key:ByteArray}{now:Int}(hv:EnvK v):EnvK (w1e v key now).1:=by
 unfold w1e
 split
 ·exact z3q
 ·rename_i hf
  split
  ·split
   ·exact z3q
   ·exact v04 hv (z8g hf) (by omega)
  ·exact z3q
theorem ChI.k{w:Envt}{i:Int}(hi:i<=3)(hI:ChI w.1.2 w.2 w.3 w.4 w.5 w.6 i):EnvK w:=by
 have c2:=hI.fn
 have c3:=hI.ln
 have c4:=hI.xn
 have c5:=hI.sl
 have c6:=hI.al
 exact⟨by omega,by omega,hI.sg,by omega,fun f hf=>⟨(hI.fl f hf).s,(hI.fl f hf).tk⟩,by omega,hI.ly,by omega,hI.ex⟩
theorem j54{codes:List Int}{which size now:Int}{K:Bool->Prop}(hc:Byts codes)(h:K true):Jj codes which size now K:=by
 unfold Jj B5
 refine v03 (Cnd.yes rfl (v3d hc (by decide) (by decide) fun l hD=>z8e hD fun v a hE hd hD=>w1l (v:=v) hD hE hd.al (fun f hf t ht=>((v64 hE hd).fl f hf).2 t ht) fun w a i hi hI _=>j0n (v:=w) (hI.w hi) fun r _=>Cnd.mk (fun _=> ?_) fun _=>h))
 have hw:EnvK w:=hI.k hi
 refine v63 fun key=>modK (by decide) (by decide) fun s1 _ _=>modK (by decide) (by decide) fun s2 p0 p1=>⟨by unfold InI;omega,modK (by decide) (by decide) fun t1 _ _=>modK (by decide) (by decide) fun t2 q0 q1=>⟨by unfold InI;omega,fun _=> ?_⟩⟩
 refine allL (l:=[now,t1,(1099511627776:Int) - t2]) (fun _=>True) (by simp) (fun _=>h) fun i t Y ht nx=> ?_
 refine fun _=>allL (l:=[size,s1,s2 - 5]) (fun _=>True) (by simp) (fun _=> ?_) fun j z Z hz nz=> ?_
 ·exact v9f (v:=w) hw (v9h (v:=w) hw (y1e (v:=w) hw (y1g (v:=w) hw (Cnd.yes rfl (Cnd.yes rfl (v7b (v7d hw) (Cnd.yes rfl (v7b (v9l hw) (Cnd.yes rfl (nx trivial))))))))))
 ·exact v9e (v:=w) hw (atq hz (v9g (v:=w) hw (Cnd.yes rfl (v7b (v7c hw) (Cnd.yes rfl (nz trivial))))))
end Go.En
end
