/- SegmentMembers: for every input of bulk at most 1048576 the law returns true and leaves its arguments as they were. This is part 7 of 7. Conditions: those in the statements. -/
import Derived.Test.YthpeboomdlgfaaaGreatDoorRows
import Derived.Test.YthpeboomdlgfaaaGreatDoorCards
import Derived.Test.YthpeboomdlgfaaaGreatDoorTie
import Derived.Test.YthpeboomdlgfaaaGreatDoorM6
import Derived.KernelRfl
import Derived.WalkKit
import Derived.ProofKit
import Derived.OpenShut
import Derived.Deep.DeepHandedRow
import Derived.Deep.DeepWitnessRowRef
import Derived.Lay
import Derived.SevenTiedAt
noncomputable section
set_option maxRecDepth 100000
namespace Go.En
open Go Go.Fl Go.Fl.Lk Go.Fx Go.Sg
theorem v2m {a b:Val} {K:Bool->Prop} (h: ∀r,(r=true↔a=b)->K r):q15 a b K:=by
 unfold q15 z4u
 have no:(a≠b)->K false:=fun hn=>h _ ⟨fun h=>(by cases h),fun e=>absurd e hn⟩
 refine Cnd.mk (fun h1=>Cnd.mk (fun h2=>Cnd.mk (fun h3=>z6k fun r hr=>h r (hr.trans ⟨fun h4=> ?_,fun e=>by rw [e]⟩)) fun h=>no fun e=>h (by rw [e])) fun h=>no fun e=>h (by rw [e])) fun h=>no fun e=>h (by rw [e])
 cases a;cases b;simp_all
theorem v7a: ∀(n:Nat) {a b:Ex} {K:Bool->Prop},wt b<=n->(∀r,(r=true↔a=b)->K r)->q1o a b K:=by
 intro n a b K hn h X hX
 induction n generalizing a b K with
 |zero=>have:=z08 b;omega
 |succ n ih=>
 refine hX _ _ _ ?_
 unfold z9x
 have no:(a≠b)->K false:=fun hn=>h _ ⟨fun h=>(by cases h),fun e=>absurd e hn⟩
 refine Cnd.mk (fun h1=>Cnd.mk (fun h2=>Cnd.mk (fun h3 ha4 _=>Cnd.mk (fun hl _=> ?_) fun h=>no fun e=>h (by rw [e])) fun h=>no fun e=>h (by rw [e])) fun h=>no fun e=>h (by rw [e])) fun h=>no fun e=>h (by rw [e])
 refine Lp1.ind (fun (i:Int)=>0<=i/\i<=a.4.length/\a.4.take i.toNat=b.4.take i.toNat) (fun (i:Int)=>(a.4.length - i).toNat) ?_ ⟨by omega,by omega,by simp⟩
 rintro i ⟨i0,i1,he⟩
 refine Cnd.mk (fun hc=>⟨by omega,fun x hx=>⟨by omega,fun y hy=>v2m fun r hr=>Cnd.mk (fun hb=>⟨by unfold InI;omega,⟨by omega,by omega,?_⟩,by omega⟩) fun hb=>no fun e=> ?_⟩⟩) fun hc ha5 _=>Cnd.mk (fun hl5 _=> ?_) fun h=>no fun e=>h (by rw [e])
 ·rw [show (i+1).toNat=i.toNat+1 by omega,List.take_add_one,List.take_add_one,he,hx,hy,hr.1 hb]
 ·subst e;rw [hx] at hy;cases hy;exact hb (hr.2 rfl)
 rw [List.take_of_length_le (by omega),List.take_of_length_le (by omega)] at he
 refine Lp1.ind (fun (i:Int)=>0<=i/\i<=a.5.length/\a.5.take i.toNat=b.5.take i.toNat) (fun (i:Int)=>(a.5.length - i).toNat) ?_ ⟨by omega,by omega,by simp⟩
 rintro i ⟨i0,i1,he5⟩
 refine Cnd.mk (fun hc=>⟨by omega,fun x hx=>⟨by omega,fun y hy=> ?_⟩⟩) fun hc=>h _ ⟨fun _=> ?_,fun _=>rfl⟩
 ·rw [Wq,Wq]
  have hkid:=z35 (getm hy)
  refine ih (by omega) fun r hr=>Cnd.mk (fun hb=>⟨by unfold InI;omega,⟨by omega,by omega,?_⟩,by omega⟩) fun hb=>no fun e=> ?_
  ·rw [show (i+1).toNat=i.toNat+1 by omega,List.take_add_one,List.take_add_one,he5,hx,hy,hr.1 hb]
  ·subst e;rw [hx] at hy;cases hy;exact hb (hr.2 rfl)
 ·rw [List.take_of_length_le (by omega),List.take_of_length_le (by omega)] at he5
  cases a;cases b;simp_all
theorem v2n: ∀(n:Nat) {e:Ex} {K:Ex->Prop},wt e<=n->wt e<=2000000->K e->q16 e K:=by
 intro n e K hn hw h X hX
 induction n generalizing e K with
 |zero=>have:=z08 e;omega
 |succ n ih=>
 refine hX _ _ ?_
 unfold z4v
 have h4:=u56 (e:=e)
 have h5:=w49 (e:=e)
 refine fun _=>⟨⟨by omega,by omega,by unfold Sml;omega⟩,fun _=> ?_⟩
 refine Lp2.ind (fun (r:List Val) (i:Int)=>0<=i/\i<=e.4.length/\r=e.4.take i.toNat) (fun _ (i:Int)=>(e.4.length - i).toNat) ?_ ⟨by omega,by omega,rfl⟩
 rintro r i ⟨i0,i1,rfl⟩
 refine Cnd.mk (fun hc=>⟨by omega,fun y hy=>q98 (by have:=u72 (getm hy);omega) ⟨?_,by unfold InI;omega,⟨by omega,by omega,?_⟩,by omega⟩⟩) fun hc _=>⟨⟨by omega,by omega,by unfold Sml;omega⟩,fun _=> ?_⟩
 ·unfold Sml;simp only [List.length_append,List.length_take,List.length_cons,List.length_nil];omega
 ·rw [show (i+1).toNat=i.toNat+1 by omega,List.take_add_one,hy];rfl
 rw [List.take_of_length_le (by omega)]
 refine Lp2.ind (fun (r:List Ex) (i:Int)=>0<=i/\i<=e.5.length/\r=e.5.take i.toNat) (fun _ (i:Int)=>(e.5.length - i).toNat) ?_ ⟨by omega,by omega,rfl⟩
 rintro r i ⟨i0,i1,rfl⟩
 refine Cnd.mk (fun hc=>⟨by omega,fun y hy=> ?_⟩) fun hc=> ?_
 ·have hkid:=z35 (getm hy)
  rw [Wq]
  refine ih (by omega) (by omega) ?_
  rw [Wq]
  refine ⟨?_,by unfold InI;omega,⟨by omega,by omega,?_⟩,by omega⟩
  ·unfold Sml;simp only [List.length_append,List.length_take,List.length_cons,List.length_nil];omega
  ·rw [show (i+1).toNat=i.toNat+1 by omega,List.take_add_one,hy];rfl
 ·rw [List.take_of_length_le (by omega)]
  cases e;exact h
def atm (e:Ex):Prop:=e.1=5∨(6<=e.1/\e.1<=15)
theorem w5a: ∀(n:Nat) {l:List Ex} {e:Ex} {K:List Ex->Prop},wt e<=n->l.length+wt e<=4000000->(∀r,(∀a,a∈r↔a∈l∨(a∈subs e/\atm a))->r.length<=l.length+wt e->K r)->Rt l e K:=by
 intro n l e K hn hw h X hX
 induction n generalizing l e K with
 |zero=>have:=z08 e;omega
 |succ n ih=>
 refine hX _ _ _ ?_
 unfold q9t
 have hpos:=z08 e
 have h5:=w49 (e:=e)
 refine Jn1.mk (fun q=>(∀a,a∈q↔a∈l∨(a=e/\atm e))/\q.length<=l.length+1) ?_ fun q hq=> ?_
 ·have look:atm e-> ∀hl:l.length<=9223372036854775807,Lp1 (fun Qm j0z=>Cnd (Qm<(l.length:Int)) ((0<=Qm/\Qm<(l.length:Int))/\ ∀y4,l[Qm.toNat]? =some y4->q1o (Ex.mk y4.1 y4.2 y4.3 y4.4 y4.5) (Ex.mk e.1 e.2 e.3 e.4 e.5) fun Js=>Cnd (Js=true) (Cnd ((0:Int)<=Qm) ((∀a,a∈l↔a∈l∨(a=e/\atm e))/\l.length<=l.length+1) (Sml (l++[Ex.mk e.1 e.2 e.3 e.4 e.5]).length/\((∀a,a∈l++[Ex.mk e.1 e.2 e.3 e.4 e.5]↔a∈l∨(a=e/\atm e))/\(l++[Ex.mk e.1 e.2 e.3 e.4 e.5]).length<=l.length+1))) (InI (Qm+1)/\j0z (Qm+1))) (Cnd ((0:Int)<= -1) ((∀a,a∈l↔a∈l∨(a=e/\atm e))/\l.length<=l.length+1) (Sml (l++[Ex.mk e.1 e.2 e.3 e.4 e.5]).length/\((∀a,a∈l++[Ex.mk e.1 e.2 e.3 e.4 e.5]↔a∈l∨(a=e/\atm e))/\(l++[Ex.mk e.1 e.2 e.3 e.4 e.5]).length<=l.length+1)))) (0:Int):=fun hat hl=>by
   rw [Wq]
   refine Lp1.ind (fun (i:Int)=>0<=i/\i<=l.length/\e∉l.take i.toNat) (fun (i:Int)=>(l.length - i).toNat) ?_ ⟨by omega,by omega,by simp⟩
   rintro i ⟨i0,i1,hno⟩
   refine Cnd.mk (fun hc=>⟨by omega,fun y hy=> ?_⟩) fun hc=>Cnd.no (by decide) ⟨?_,fun a=> ?_,by simp⟩
   ·rw [Wq]
    refine v7a _ (Nat.le_refl _) fun r hr=>Cnd.mk (fun hb=>Cnd.yes i0 ⟨fun a=>⟨.inl,fun k=>k.elim id fun k=>by rw [k.1,←hr.1 hb];exact getm hy⟩,by omega⟩) fun hb=>⟨by unfold InI;omega,⟨by omega,by omega,?_⟩,by omega⟩
    rw [show (i+1).toNat=i.toNat+1 by omega,List.take_add_one,hy]
    have:e≠y:=fun k=>hb (hr.2 k.symm)
    simp [hno,this]
   ·unfold Sml;simp;omega
   ·rw [List.mem_append,List.mem_singleton]
    exact ⟨fun k=>k.imp id fun k=>⟨k,hat⟩,fun k=>k.imp id fun k=>k.1⟩
  refine z9b fun r hr=>Cnd.mk (fun hb hl=>look (.inr (hr.1 hb)) hl) fun hb=>Cnd.mk (fun h5 hl=>look (.inl h5) hl) fun h5=>⟨fun a=>⟨.inl,fun k=>k.elim id fun k=> ?_⟩,by omega⟩
  rcases k.2 with k|k
  ·exact absurd k h5
  ·exact absurd (hr.2 k) hb
 ·obtain ⟨hq,hql⟩:=hq
  intro _
  have hwe:=w48 e
  refine Lp2.ind (fun (p:List Ex) (i:Int)=>0<=i/\i<=e.5.length/\(∀a,a∈p↔a∈q∨(a∈j9f (e.5.take i.toNat)/\atm a))/\p.length+wtL (e.5.drop i.toNat)<=q.length+wtL e.5) (fun _ (i:Int)=>(e.5.length - i).toNat) ?_ ⟨by omega,by omega,by simp [j9f],by simp⟩
  rintro p i ⟨i0,i1,hp,hpl⟩
  refine Cnd.mk (fun hc=>⟨by omega,fun y hy=> ?_⟩) fun hc=>h _ (fun a=> ?_) ?_
  ·rw [Wq]
   have hkid:=z35 (getm hy)
   rw [drp hy,wtL] at hpl
   refine ih (by omega) (by omega) fun r hr hrl=>⟨by unfold InI;omega,⟨by omega,by omega,fun a=> ?_,?_⟩,by omega⟩
   ·rw [hr,hp,show (i+1).toNat=i.toNat+1 by omega,List.take_add_one,hy,q8o,q8o]
    constructor
    ·rintro ((k|⟨⟨z,hz,ha⟩,k⟩)|⟨ha,k⟩)
     ·exact .inl k
     ·exact .inr ⟨⟨z,List.mem_append_left _ hz,ha⟩,k⟩
     ·exact .inr ⟨⟨y,by simp,ha⟩,k⟩
    ·rintro (k|⟨⟨z,hz,ha⟩,k⟩)
     ·exact .inl (.inl k)
     ·rcases List.mem_append.1 hz with hz|hz
      ·exact .inl (.inr ⟨⟨z,hz,ha⟩,k⟩)
      ·have:z=y:=by simpa using hz
       subst this;exact .inr ⟨ha,k⟩
   ·rw [show (i+1).toNat=i.toNat+1 by omega];omega
  ·rw [hp,hq,List.take_of_length_le (by omega),z6m,List.mem_cons]
   constructor
   ·rintro ((k|⟨rfl,k⟩)|⟨ha,k⟩)
    ·exact .inl k
    ·exact .inr ⟨.inl rfl,k⟩
    ·exact .inr ⟨.inr ha,k⟩
   ·rintro (k|⟨rfl|ha,k⟩)
    ·exact .inl (.inl k)
    ·exact .inl (.inr ⟨rfl,k⟩)
    ·exact .inr ⟨ha,k⟩
  ·have:0<=wtL (e.5.drop i.toNat):=Nat.zero_le _
   omega
def nms (e:Ex):List ByteArray:=((subs e).filter fun a=>decide (a.1=5)).map Ex.name
def rfs (e:Ex):List ByteArray:=cpt (srt (nms e))
theorem v2o {e:Ex} {x:ByteArray}:x∈nms e↔ ∃a∈subs e,a.1=5/\a.3=x:=by
 unfold nms
 simp only [List.mem_map,List.mem_filter,decide_eq_true_eq]
 exact ⟨fun ⟨a,⟨h1,h2⟩,h3⟩=>⟨a,h1,h2,h3⟩,fun ⟨a,h1,h2,h3⟩=>⟨a,⟨h1,h2⟩,h3⟩⟩
theorem u57 (e:Ex):Asc (rfs e):=(z9d _).1
theorem y1f {e:Ex} {x:ByteArray}:x∈rfs e↔x∈nms e:=(z9d _).2.1 x
theorem u3q {e:Ex} {l:List ByteArray} (h:Asc l) (hm: ∀y,y∈l↔y∈nms e):l=rfs e:=z6n h (u57 e) fun y=>by rw [hm,y1f]
theorem j6i {e:Ex} {K:List ByteArray->Prop} (hw:wt e<=2000000) (h:K (rfs e)):Uw e K:=by
 unfold Uw q5z q05 q9u
 rw [Wq]
 dsimp only
 rw [Wq]
 refine w5a _ (Nat.le_refl _) (by simp;omega) fun q hq hql _=>⟨⟨by omega,by omega,by unfold Sml;simp at hql;omega⟩,fun _=> ?_⟩
 have hq: ∀a,a∈q↔(a∈subs e/\atm a):=fun a=>(hq a).trans (by simp)
 have hql:q.length<=wt e:=by simpa using hql
 refine Lp2.ind (fun (r:List Ex) (i:Int)=>0<=i/\i<=q.length/\r=q.take i.toNat) (fun _ (i:Int)=>(q.length - i).toNat) ?_ ⟨by omega,by omega,rfl⟩
 rintro r i ⟨i0,i1,rfl⟩
 refine Cnd.mk (fun hc=>⟨by omega,fun y hy=> ?_⟩) fun hc=> ?_
 ·have hy2:=u3p _ (Nat.le_refl _) ((hq y).1 (getm hy)).1
  rw [Wq]
  refine v2n _ (Nat.le_refl _) (by omega) ?_
  rw [Wq]
  refine ⟨?_,by unfold InI;omega,⟨by omega,by omega,?_⟩,by omega⟩
  ·unfold Sml;simp only [List.length_append,List.length_take,List.length_cons,List.length_nil];omega
  ·rw [show (i+1).toNat=i.toNat+1 by omega,List.take_add_one,hy];rfl
 rw [List.take_of_length_le (by omega)]
 intro _
 refine Lp2.ind (fun (r:List ByteArray) (i:Int)=>0<=i/\i<=q.length/\r.length<=i.toNat/\ ∀x,x∈r↔ ∃a∈q.take i.toNat,a.1=5/\a.3=x) (fun _ (i:Int)=>(q.length - i).toNat) ?_ ⟨by omega,by omega,by simp,by simp⟩
 rintro r i ⟨i0,i1,hrl,hr⟩
 have next: ∀{y:Ex} {x:ByteArray},q[i.toNat]? =some y->((∃a∈q.take (i+1).toNat,a.1=5/\a.3=x)↔(∃a∈q.take i.toNat,a.1=5/\a.3=x)∨(y.1=5/\y.3=x)):=fun {y x} hy=>by
  rw [show (i+1).toNat=i.toNat+1 by omega,List.take_add_one,hy]
  constructor
  ·rintro ⟨a,ha,k⟩
   rcases List.mem_append.1 ha with ha|ha
   ·exact .inl ⟨a,ha,k⟩
   ·have:a=y:=by simpa using ha
    subst this;exact .inr k
  ·rintro (⟨a,ha,k⟩|k)
   ·exact ⟨a,List.mem_append_left _ ha,k⟩
   ·exact ⟨y,by simp,k⟩
 refine Cnd.mk (fun hc=>⟨by omega,fun y hy=>Cnd.mk (fun h5=>⟨by unfold Sml;simp;omega,by unfold InI;omega,⟨by omega,by omega,by simp;omega,fun x=> ?_⟩,by omega⟩) fun h5=>⟨by unfold InI;omega,⟨by omega,by omega,by omega,fun x=> ?_⟩,by omega⟩⟩) fun hc=> ?_
 ·rw [next hy,List.mem_append,hr,List.mem_singleton]
  exact ⟨fun k=>k.imp id fun k=>⟨h5,k.symm⟩,fun k=>k.imp id fun k=>k.2.symm⟩
 ·rw [next hy,hr]
  exact ⟨.inl,fun k=>k.elim id fun k=>absurd k.1 h5⟩
 ·rw [List.take_of_length_le (by omega)] at hr
  show K (cpt (srt r))
  have e1:cpt (srt r)=rfs e:=u3q (z9d _).1 fun y=>by
   rw [(z9d r).2.1,hr,v2o]
   exact ⟨fun ⟨a,ha,k⟩=>⟨a,((hq a).1 ha).1,k⟩,fun ⟨a,ha,k⟩=>⟨a,(hq a).2 ⟨ha,.inl k.1⟩,k⟩⟩
  rw [e1];exact h
theorem u3r {r m:List ByteArray} (hr:Asc r) (h: ∀x∈r,x∈m):r.length<=m.length:=by
 rcases Nat.lt_or_ge m.length r.length with hl|hl
 ·obtain ⟨x,hx,hn⟩:=Go.Gr.y1a (j03 hr) hl
  exact absurd (h x hx) hn
 ·exact hl
theorem j3x (e:Ex) (x:ByteArray):x∈nms e↔(e.1=5/\e.3=x)∨ ∃k∈e.5,x∈nms k:=by
 rw [v2o,z6m]
 constructor
 ·rintro ⟨a,ha,h⟩
  rcases List.mem_cons.1 ha with rfl|ha
  ·exact .inl h
  ·obtain ⟨k,hk,ha⟩:=q8o.1 ha
   exact .inr ⟨k,hk,v2o.2 ⟨a,ha,h⟩⟩
 ·rintro (h|⟨k,hk,h⟩)
  ·exact ⟨e,List.mem_cons_self,h⟩
  ·obtain ⟨a,ha,h⟩:=v2o.1 h
   exact ⟨a,List.mem_cons_of_mem _ (q8o.2 ⟨k,hk,ha⟩),h⟩
theorem v2p: ∀(n:Nat) {l:List ByteArray} {e:Ex} {K:List ByteArray->Prop},wt e<=n->Asc l->l.length+wt e<=1100000->(∀r,Asc r->(∀y,y∈r↔y∈l∨y∈nms e)->r.length<=l.length+wt e->K r)->Bo l e K:=by
 intro n l e K hn hl hw h X hX
 induction n generalizing l e K with
 |zero=>have:=z08 e;omega
 |succ n ih=>
 refine hX _ _ _ ?_
 unfold q8z
 have hpos:=z08 e
 have h5:=w49 (e:=e)
 have hwe:=w48 e
 refine Jn1.mk (fun q=>Asc q/\(∀y,y∈q↔y∈l∨(e.1=5/\e.3=y))/\q.length<=l.length+1) ?_ fun q hq=> ?_
 ·refine Cnd.mk (fun h5=>z6i hl (by omega) fun r hr hm=>⟨hr,fun y=>(hm y).trans ⟨fun k=>k.imp id fun k=>⟨h5,k.symm⟩,fun k=>k.imp id fun k=>k.2.symm⟩,?_⟩) fun h5=>⟨hl,fun y=>⟨.inl,fun k=>k.elim id fun k=>absurd k.1 h5⟩,by omega⟩
  have:=u3r hr (m:=e.3::l) fun x hx=>by rcases (hm x).1 hx with hx|rfl<;>simp [*]
  simpa using this
 obtain ⟨hq,hm,hql⟩:=hq
 refine Lp2.ind (fun (p:List ByteArray) (i:Int)=>0<=i/\i<=e.5.length/\Asc p/\(∀y,y∈p↔y∈q∨ ∃k∈e.5.take i.toNat,y∈nms k)/\p.length+wtL (e.5.drop i.toNat)<=q.length+wtL e.5) (fun _ (i:Int)=>(e.5.length - i).toNat) ?_ ⟨by omega,by omega,hq,by simp,by simp⟩
 rintro p i ⟨i0,i1,hp,hpm,hpl⟩ _
 refine Cnd.mk (fun hc=>⟨by omega,fun y hy=> ?_⟩) fun hc=>h _ hp (fun y=> ?_) ?_
 ·rw [Wq]
  have hkid:=z35 (getm hy)
  rw [drp hy,wtL] at hpl
  refine ih (by omega) hp (by omega) fun r hr hrm hrl=>⟨by unfold InI;omega,⟨by omega,by omega,hr,fun x=> ?_,?_⟩,by omega⟩
  ·rw [hrm,hpm,show (i+1).toNat=i.toNat+1 by omega,List.take_add_one,hy]
   constructor
   ·rintro ((k|⟨z,hz,k⟩)|k)
    ·exact .inl k
    ·exact .inr ⟨z,List.mem_append_left _ hz,k⟩
    ·exact .inr ⟨y,by simp,k⟩
   ·rintro (k|⟨z,hz,k⟩)
    ·exact .inl (.inl k)
    ·rcases List.mem_append.1 hz with hz|hz
     ·exact .inl (.inr ⟨z,hz,k⟩)
     ·have:z=y:=by simpa using hz
      subst this;exact .inr k
  ·rw [show (i+1).toNat=i.toNat+1 by omega];omega
 ·rw [hpm,hm,List.take_of_length_le (by omega),j3x]
  exact ⟨fun k=>k.elim (fun k=>k.elim .inl fun k=> .inr (.inl k)) fun k=> .inr (.inr k),fun k=>k.elim (fun k=> .inl (.inl k)) fun k=>k.elim (fun k=> .inl (.inr k)) .inr⟩
 ·omega
theorem v2q {e:Ex} {K:List ByteArray->Prop} (hw:wt e<=1100000) (h:K (rfs e)):Hm e K:=by
 unfold Hm q81
 rw [Wq]
 exact v2p _ (Nat.le_refl _) j6b (by simpa using hw) fun r hr hm _=>by rw [u3q (e:=e) hr fun y=>(hm y).trans (by simp)];exact h
end Go.En
end
noncomputable section
set_option maxRecDepth 100000
namespace Go.En
open Go Go.Fl Go.Fl.Lk Go.Fx Go.Sg
open Go.Gr (Ord Grd Rdy Nxt)
abbrev prE (e:Edg):ByteArray×ByteArray:=(e.1,e.2)
def edg (l:List Seg):List Edg:=l.flatMap fun g=>(rfs g.5).map fun r=>Edg.mk g.1 r
abbrev OrdS (l:List Seg) (o:List ByteArray) (r:Int):Prop:=Ord (l.map Seg.key) ((edg l).map prE) o r
structure SegB (l:List Seg):Prop where
 n:l.length<=50
 w: ∀g∈l,wt g.5<=1000000
 v: ∀g∈l,EvB g.5
 e:(edg l).length<=1000000
theorem y3i (l:List Seg) (i:Nat):(edg (l.take i)).length<=(edg l).length:=by
 conv=>rhs;rw [←List.take_append_drop i l]
 unfold edg
 rw [List.flatMap_append,List.length_append]
 omega
theorem w5b: ∀(n:Nat) (l:List Ex),wtL l<=n->(j9f l).length<=wtL l
 |0,[],_=>by simp [j9f]
 |0,k::l,h=>by have:=z08 k;simp only [wtL] at h;omega
 |n+1,[],_=>by simp [j9f]
 |n+1,k::l,h=>by
  have h1:=z08 k
  have h2:=w48 k
  simp only [wtL] at h
  have e1:(subs k).length<=wt k:=by
   rw [z6m,List.length_cons]
   have:=w5b n k.5 (by omega)
   omega
  have e2:=w5b n l (by omega)
  simp only [j9f,wtL,List.length_append];omega
theorem u2o (e:Ex):(subs e).length<=wt e:=by
 rw [z6m,List.length_cons,w48]
 have:=w5b _ e.5 (Nat.le_refl _)
 omega
theorem y1g (e:Ex):(rfs e).length<=wt e:=by
 have h1:=(z9d (nms e)).2.2.2
 have h2:(nms e).length<=(subs e).length:=by
  unfold nms;rw [List.length_map];exact List.length_filter_le _ _
 have:=u2o e
 unfold rfs;omega
theorem y3j (l:List Seg) (g:Seg):edg (l++[g])=edg l++(rfs g.5).map fun r=>Edg.mk g.1 r:=by simp [edg]
theorem u58 {l:List Seg} (h: ∀g∈l,wt g.5<=20000):(edg l).length<=20000*l.length:=by
 induction l with
 |nil=>simp [edg]
 |cons g l ih=>
  have h1:=h g List.mem_cons_self
  have h2:=ih fun g hg=>h g (List.mem_cons_of_mem _ hg)
  have h3:=y1g g.5
  unfold edg at h2⊢
  simp only [List.flatMap_cons,List.length_append,List.length_map,List.length_cons]
  omega
theorem j9g {l:List Seg} {K:List ByteArray->Int->Prop} (hB:SegB l) (h: ∀o r,OrdS l o r->K o r):G0 l K:=by
 unfold G0 q72
 have hn:=hB.n
 intro _
 refine Lp3.ind (fun (ks:List ByteArray) (es:List Edg) (i:Int)=>0<=i/\i<=l.length/\ks=(l.take i.toNat).map Seg.key/\es=edg (l.take i.toNat)) (fun _ _ (i:Int)=>(l.length - i).toNat) ?_ ⟨by omega,by omega,by simp,by simp [edg]⟩
 rintro ks es i ⟨i0,i1,rfl,rfl⟩
 have tl:(l.take i.toNat).length<=50:=by rw [List.length_take];omega
 have te:=Nat.le_trans (y3i l i.toNat) hB.e
 refine Cnd.mk (fun hc=>⟨by omega,fun g hg=>⟨by unfold Sml;simp;omega,?_⟩⟩) fun hc=> ?_
 ·rw [Wq]
  have hw:=hB.w g (getm hg)
  have hr:=y1g g.5
  refine j6i (by omega) fun _=> ?_
  refine Lp2.ind (fun (es:List Edg) (j:Int)=>0<=j/\j<=(rfs g.5).length/\es=edg (l.take i.toNat)++((rfs g.5).take j.toNat).map fun r=>Edg.mk g.1 r) (fun _ (j:Int)=>((rfs g.5).length - j).toNat) ?_ ⟨by omega,by omega,by simp⟩
  rintro es j ⟨j0,j1,rfl⟩
  refine Cnd.mk (fun hc=>⟨by omega,fun r hr'=>⟨?_,by unfold InI;omega,⟨by omega,by omega,?_⟩,by omega⟩⟩) fun hc=>⟨by unfold InI;omega,⟨by omega,by omega,?_,?_⟩,by omega⟩
  ·unfold Sml;simp only [List.length_append,List.length_map,List.length_take,List.length_cons,List.length_nil];omega
  ·rw [show (j+1).toNat=j.toNat+1 by omega,List.take_add_one,hr'];simp
  ·rw [show (i+1).toNat=i.toNat+1 by omega,List.take_add_one,hg];simp
  ·rw [show (i+1).toNat=i.toNat+1 by omega,List.take_add_one,hg,List.take_of_length_le (show (rfs g.5).length<=j.toNat by omega)]
   exact (y3j (l.take i.toNat) g).symm
 ·rw [List.take_of_length_le (by omega)]
  rw [List.take_of_length_le (by omega)] at te
  exact y55 (by simp;omega) (by rw [List.length_map];omega) h
theorem v7b {l:List Seg} {K:List Edg->Prop} (hB:SegB l) (h:K (edg l)):Uj l K:=by
 unfold Uj z14
 have hn:=hB.n
 refine Lp2.ind (fun (es:List Edg) (i:Int)=>0<=i/\i<=l.length/\es=edg (l.take i.toNat)) (fun _ (i:Int)=>(l.length - i).toNat) ?_ ⟨by omega,by omega,by simp [edg]⟩
 rintro es i ⟨i0,i1,rfl⟩ _
 have tl:(l.take i.toNat).length<=50:=by rw [List.length_take];omega
 have te:=Nat.le_trans (y3i l i.toNat) hB.e
 refine Cnd.mk (fun hc=>⟨by omega,fun g hg=> ?_⟩) fun hc=> ?_
 ·rw [Wq]
  have hw:=hB.w g (getm hg)
  have hr:=y1g g.5
  refine v2q (by omega) ?_
  refine Lp2.ind (fun (es:List Edg) (j:Int)=>0<=j/\j<=(rfs g.5).length/\es=edg (l.take i.toNat)++((rfs g.5).take j.toNat).map fun r=>Edg.mk g.1 r) (fun _ (j:Int)=>((rfs g.5).length - j).toNat) ?_ ⟨by omega,by omega,by simp⟩
  rintro es j ⟨j0,j1,rfl⟩ _
  refine Cnd.mk (fun hc2=>⟨by omega,fun g' hg'=>⟨by omega,fun r hr'=> ?_⟩⟩) fun hc=>⟨by unfold InI;omega,⟨by omega,by omega,?_⟩,by omega⟩
  ·rw [hg] at hg';cases hg'
   refine ⟨?_,by unfold InI;omega,⟨by omega,by omega,?_⟩,by omega⟩
   ·unfold Sml;simp only [List.length_append,List.length_map,List.length_take,List.length_cons,List.length_nil];omega
   ·rw [show (j+1).toNat=j.toNat+1 by omega,List.take_add_one,hr'];simp
  ·rw [show (i+1).toNat=i.toNat+1 by omega,List.take_add_one,hg,List.take_of_length_le (show (rfs g.5).length<=j.toNat by omega)]
   exact (y3j (l.take i.toNat) g).symm
 ·rw [List.take_of_length_le (by omega)];exact h
theorem y1h {o:List ByteArray} {E:List Edg} {x:ByteArray} {K:Bool->Prop} (h: ∀r,(r=true↔(x∉o/\Okn (E.map prE) o x))->K r):q64 o E x K:=by
 unfold q64 j4t
 refine Lp1.ind (fun (i:Int)=>0<=i/\i<=E.length/\ ∀e∈E.take i.toNat,e.1=x->e.2∈o) (fun (i:Int)=>(E.length - i).toNat) ?_ ⟨by omega,by omega,by simp⟩
 rintro i ⟨i0,i1,hall⟩ _
 refine Cnd.mk (fun hc=>⟨by omega,fun e he=> ?_⟩) fun hc=> ?_
 ·have next:(e.1=x->e.2∈o)->InI (i+1)/\((0<=i+1/\i+1<=E.length/\ ∀e∈E.take (i+1).toNat,e.1=x->e.2∈o)/\(E.length - (i+1)).toNat<(E.length - i).toNat):=fun hh=>⟨by unfold InI;omega,⟨by omega,by omega,by
   rw [show (i+1).toNat=i.toNat+1 by omega,List.take_add_one,he];exact Jq hall hh⟩,by omega⟩
  refine Cnd.mk (fun hx=>⟨by omega,fun e' he'=> ?_⟩) fun hx=>next fun k=>absurd k hx
  rw [he] at he';cases he'
  refine G5 fun r hr=>Cnd.mk (fun hb=>next fun _=>hr.1 hb) fun hb=>h _ ⟨fun k=>(by cases k),fun k=>absurd (hr.2 (k.2 (prE e) (List.mem_map_of_mem (getm he)) hx)) hb⟩
 ·rw [List.take_of_length_le (by omega)] at hall
  refine G5 fun r hr=> ?_
  refine h _ ?_
  have hok:Okn (E.map prE) o x:=by
   intro e he hx
   obtain ⟨e',he',rfl⟩:=List.mem_map.1 he
   exact hall e' he' hx
  cases r
  ·exact ⟨fun _=>⟨fun k=>(by have:=hr.2 k;cases this),hok⟩,fun _=>rfl⟩
  ·exact ⟨fun k=>(by cases k),fun k=>absurd (hr.1 rfl) k.1⟩
theorem y1i {ns:List ByteArray} {E:List Edg} {K:List ByteArray->Int->Prop} (hn:ns.length<=1000000) (hE:E.length<=1000000) (h: ∀l r,Ord ns (E.map prE) l r->K l r):q65 ns E K:=by
 unfold q65 j4u
 refine Lp1.ind (fun (i:Int)=>0<=i/\i<=ns.length/\(ns.take i.toNat).Nodup) (fun (i:Int)=>(ns.length - i).toNat) ?_ ⟨by omega,by omega,by simp⟩
 rintro i ⟨i0,i1,hnd⟩ _
 refine Cnd.mk (fun hc=>⟨by omega,by omega,fun x hx=> ?_⟩) fun hc=> ?_
 ·rw [show List.drop (Int.toNat 0) (List.take i.toNat ns)=ns.take i.toNat from rfl]
  refine G5 fun r hr=>Cnd.mk (fun hb=>h _ _ (.inl ⟨fun hd=>Go.Gr.v2l hd hx (hr.1 hb),rfl,rfl⟩)) fun hb=>⟨by unfold InI;omega,⟨by omega,by omega,?_⟩,by omega⟩
  rw [show (i+1).toNat=i.toNat+1 by omega,List.take_add_one,hx]
  exact Go.Gr.w88 hnd fun hm=>hb (hr.2 hm)
 rw [List.take_of_length_le (by omega)] at hnd
 refine Lp1.ind (fun (i:Int)=>0<=i/\i<=E.length/\ ∀e∈E.take i.toNat,e.1∈ns/\e.2∈ns) (fun (i:Int)=>(E.length - i).toNat) ?_ ⟨by omega,by omega,by simp⟩
 rintro i ⟨i0,i1,hall⟩ _
 refine Cnd.mk (fun hc=>⟨by omega,fun e he=> ?_⟩) fun hc=> ?_
 ·have hme:prE e∈E.map prE:=List.mem_map_of_mem (getm he)
  refine G5 fun r hr=>Cnd.mk (fun hb=>⟨by omega,fun e' he'=> ?_⟩) fun hb=>h _ _ (.inr (.inl ⟨hnd,⟨prE e,hme,.inl fun hm=>hb (hr.2 hm)⟩,rfl,rfl⟩))
  rw [he] at he';cases he'
  refine G5 fun r2 hr2=>Cnd.mk (fun hb2=>⟨by unfold InI;omega,⟨by omega,by omega,?_⟩,by omega⟩) fun hb2=>h _ _ (.inr (.inl ⟨hnd,⟨prE e,hme,.inr fun hm=>hb2 (hr2.2 hm)⟩,rfl,rfl⟩))
  rw [show (i+1).toNat=i.toNat+1 by omega,List.take_add_one,he]
  exact Jq hall ⟨hr.1 hb,hr2.1 hb2⟩
 rw [List.take_of_length_le (by omega)] at hall
 have hall': ∀e∈E.map prE,e.1∈ns/\e.2∈ns:=fun e he=>by
  obtain ⟨e',he',rfl⟩:=List.mem_map.1 he
  exact hall e' he'
 refine Lp1.ind (fun (o:List ByteArray)=>Grd ns (E.map prE) o/\o.length<=ns.length) (fun o=>ns.length - o.length) ?_ ⟨.nil,by simp⟩
 rintro o ⟨hg,hle⟩ _ _
 refine Cnd.mk (fun hc=> ?_) fun hc=>h _ _ (.inr (.inr ⟨hnd,hall',.inr ⟨hg,by omega,rfl⟩⟩))
 refine Lp4.ind (fun (y94:ByteArray) (found:Bool) (i:Int) (o':List ByteArray)=>o'=o/\0<=i/\i<=ns.length/\(found=true->Rdy ns (E.map prE) o y94/\ ∀y∈ns.take i.toNat,Rdy ns (E.map prE) o y-> ¬blt y y94)/\(found=false-> ∀y∈ns.take i.toNat,¬Rdy ns (E.map prE) o y)) (fun _ _ (i:Int) _=>(ns.length - i).toNat) ?_ ⟨rfl,by omega,by omega,by simp,by simp⟩
 rintro y94 found i o' ⟨rfl,i0,i1,hf1,hf0⟩ _
 refine Cnd.mk (fun hc=>⟨by omega,fun x hx=> ?_⟩) fun hc=> ?_
 ·have hxm:=getm hx
  have tk:(i+1).toNat=i.toNat+1:=by omega
  refine y1h fun r hr=> ?_
  have hrd:r=true↔Rdy ns (E.map prE) o' x:=hr.trans ⟨fun h=>⟨hxm,h.1,h.2⟩,fun h=>⟨h.2.1,h.2.2⟩⟩
  refine Cnd.mk (fun hb=> ?_) fun hb=>⟨by unfold InI;omega,⟨rfl,by omega,by omega,fun hf=>⟨(hf1 hf).1,?_⟩,fun hf=> ?_⟩,by omega⟩
  ·have hrx:=hrd.1 hb
   refine Cnd.mk (fun hf=>⟨by omega,fun z hz=> ?_⟩) fun hf=>⟨by omega,fun z hz=> ?_⟩
   ·rw [hx] at hz;cases hz
    obtain ⟨g1,g2⟩:=hf1 hf
    refine Cnd.mk (fun hlt=>⟨by omega,fun z hz=> ?_⟩) fun hlt=>⟨by unfold InI;omega,⟨rfl,by omega,by omega,fun _=>⟨g1,?_⟩,fun k=>by rw [k] at hf;cases hf⟩,by omega⟩
    ·rw [hx] at hz;cases hz
     refine ⟨by unfold InI;omega,⟨rfl,by omega,by omega,fun _=>⟨hrx,?_⟩,fun k=>by cases k⟩,by omega⟩
     rw [tk,List.take_add_one,hx]
     exact Jq (fun y hy hry hyx=>g2 y hy hry (z4h hyx hlt)) fun _=>Ut _
    ·rw [tk,List.take_add_one,hx]
     exact Jq g2 fun _=>hlt
   ·rw [hx] at hz;cases hz
    refine ⟨by unfold InI;omega,⟨rfl,by omega,by omega,fun _=>⟨hrx,?_⟩,fun k=>by cases k⟩,by omega⟩
    rw [tk,List.take_add_one,hx]
    exact Jq (fun y hy hry=>absurd hry (hf0 (by simpa using hf) y hy)) fun _=>Ut _
  ·rw [tk,List.take_add_one,hx]
   exact Jq (hf1 hf).2 fun hry=>absurd (hrd.2 hry) hb
  ·rw [tk,List.take_add_one,hx]
   exact Jq (hf0 hf) fun hry=>hb (hrd.2 hry)
 ·rw [List.take_of_length_le (by omega)] at hf1 hf0
  refine Cnd.mk (fun hf=>⟨by unfold Sml;simp;omega,by unfold Sml;simp;omega,⟨?_,by simp;omega⟩,by simp;omega⟩) fun hf=> ?_
  ·rw [List.nil_append]
   exact hg.snoc ⟨(hf1 hf).1,fun y hry=>(hf1 hf).2 y hry.1 hry⟩
  ·exact h _ _ (.inr (.inr ⟨hnd,hall',.inl ⟨o',hg,by omega,fun x hx=>hf0 (by simpa using hf) x hx.1 hx,rfl,rfl⟩⟩))
theorem v7c {l:List Seg} {K:List ByteArray->Int->Prop} (hB:SegB l) (h: ∀o r,OrdS l o r->K o r):q4f l K:=by
 unfold q4f z92
 have hn:=hB.n
 have he:=hB.e
 exact z2x (by omega) (v7b hB (y1i (by simp;omega) (by omega) h))
end Go.En
end
noncomputable section
set_option maxRecDepth 100000
namespace Go.En
open Go Go.Fl Go.Fl.Lk Go.Fx Go.Sg
open Go.Gr (Ord Grd Rdy Nxt)
open Classical in
def cntn (g:Seg) (s:Subj) (inn:List ByteArray):Bool:=
 match fnd s g.2 with
 |none=>false
 |some c=>if c.2∈g.4 then false else if c.2∈g.3 then true else if g.5.1=0 then false else evl (tst s) (fun x=>dec (x∈inn)) g.5
theorem w89 {g:Seg} {s:Subj} {a b:List ByteArray} (h: ∀x,x∈a↔x∈b):cntn g s a=cntn g s b:=by
 have e:(fun x=>dec (x∈a))=fun x=>dec (x∈b):=funext fun x=>by rw [propext (h x)]
 unfold cntn;rw [e]
theorem v7d {α:Type} {l:List α} {x:α} {A A' B B':Prop} (hl:l.length<=9223372036854775807) (hy:x∈l->A) (hn:x∉l->B):
  Lp1 (fun i Y=>Cnd (i<(l.length:Int)) ((0<=i/\i<(l.length:Int))/\ ∀y,l[i.toNat]? =some y->Cnd (x=y) (Cnd (0<=i) A A') (InI (i+1)/\Y (i+1))) (Cnd ((0:Int)<= -1) B' B)) 0:=by
 refine Lp1.ind (fun (i:Int)=>0<=i/\i<=l.length/\x∉l.take i.toNat) (fun (i:Int)=>(l.length - i).toNat) ?_ ⟨by omega,by omega,by simp⟩
 rintro i ⟨i0,i1,hno⟩
 refine Cnd.mk (fun hc=>⟨by omega,fun y hy'=>Cnd.mk (fun e=>Cnd.yes i0 (hy (e▸getm hy'))) fun e=>⟨by unfold InI;omega,⟨by omega,by omega,?_⟩,by omega⟩⟩) fun hc=>Cnd.no (by decide) (hn ?_)
 ·rw [show (i+1).toNat=i.toNat+1 by omega,List.take_add_one,hy']
  simp [hno,e]
 ·rwa [List.take_of_length_le (by omega)] at hno
theorem j0u {g:Seg} {s:Subj} {inn:List ByteArray} {K:Bool->Prop} (hs:SubB s) (hw:wt g.5<=1000000) (hv:EvB g.5) (h:K (cntn g s inn)):Vj g s inn K:=by
 unfold Vj q29
 refine w45 hs ?_
 unfold cntn at h
 cases hf:fnd s g.2 with
 |none=>rw [hf] at h;exact Cnd.no (by simp) h
 |some c=>
  rw [hf] at h
  dsimp only at h
  dsimp only [Option.getD_some]
  refine Cnd.yes rfl fun hl=>v7d hl (fun hx=> ?_) fun hx hl2=>v7d hl2 (fun hy=> ?_) fun hy=>Cnd.mk (fun h0=> ?_) fun h0=> ?_
  ·rwa [if_pos hx] at h
  ·rwa [if_neg hx,if_pos hy] at h
  ·rwa [if_neg hx,if_neg hy,if_pos h0] at h
  ·rw [if_neg hx,if_neg hy,if_neg h0] at h
   rw [Wq]
   exact w69 hs _ (Nat.le_refl _) (by omega) hv h
theorem v2r {g:Seg} {s:Subj} {inn:List ByteArray} {K:Bool->Prop} (hs:SubB s) (hw:wt g.5<=1000000) (hv:EvB g.5) (h:K (cntn g s inn)):q18 g s inn K:=by
 unfold q18 z4y
 refine w87 hs ?_
 unfold cntn at h
 cases hf:fnd s g.2 with
 |none=>rw [hf] at h;exact Cnd.no (by simp) h
 |some c=>
  rw [hf] at h
  dsimp only at h
  dsimp only [Option.getD_some]
  refine Cnd.yes rfl (G5 fun r hr=>Cnd.mk (fun hb=> ?_) fun hb=>G5 fun r2 hr2=>Cnd.mk (fun hb2=> ?_) fun hb2=>Cnd.mk (fun h0=> ?_) fun h0=> ?_)
  ·rwa [if_pos (hr.1 hb)] at h
  ·rwa [if_neg (fun k=>hb (hr.2 k)),if_pos (hr2.1 hb2)] at h
  ·rwa [if_neg (fun k=>hb (hr.2 k)),if_neg (fun k=>hb2 (hr2.2 k)),if_pos h0] at h
  ·rw [if_neg (fun k=>hb (hr.2 k)),if_neg (fun k=>hb2 (hr2.2 k)),if_neg h0] at h
   rw [Wq]
   exact y1e hs _ (Nat.le_refl _) (by omega) hv h
def memb (l:List Seg) (s:Subj) (inn:List ByteArray) (k:ByteArray):Bool:=
 match l.find? fun g=>decide (g.1=k) with
 |none=>false
 |some g=>cntn g s inn
def mbs (l:List Seg) (s:Subj):List ByteArray->List ByteArray->List ByteArray
 |acc,[]=>acc
 |acc,k::o=>mbs l s (if memb l s acc k=true then acc++[k] else acc) o
theorem w5c (l:List Seg) (s:Subj): ∀(o acc:List ByteArray),(acc++o).Nodup->(mbs l s acc o).Nodup
 |[],acc,h=>by simpa [mbs] using h
 |k::o,acc,h=>by
  unfold mbs
  refine w5c l s o _ ?_
  split
  ·simpa using h
  ·exact h.sublist (List.Sublist.append_left (List.sublist_cons_self k o) acc)
theorem w5d (l:List Seg) (s:Subj): ∀(o acc:List ByteArray) (y:ByteArray),y∈mbs l s acc o->y∈acc∨y∈o
 |[],acc,y,h=> .inl h
 |k::o,acc,y,h=>by
  unfold mbs at h
  rcases w5d l s o _ y h with h|h
  ·split at h
   ·rcases List.mem_append.1 h with h|h
    ·exact .inl h
    ·exact .inr (by rw [List.mem_singleton.1 h];simp)
   ·exact .inl h
  ·exact .inr (List.mem_cons_of_mem _ h)
def MemS (l:List Seg) (s:Subj) (m:List ByteArray):Prop:= ∃o r,OrdS l o r/\m=srt (mbs l s [] o)
theorem MemS.uniq {l:List Seg} {s:Subj} {m m':List ByteArray} (h:MemS l s m) (h':MemS l s m'):m=m':=by
 obtain ⟨o,r,ho,rfl⟩:=h
 obtain ⟨o',r',ho',rfl⟩:=h'
 rw [(ho.uniq ho').1]
theorem v7e {ns:List ByteArray} {E:List (ByteArray×ByteArray)} {o:List ByteArray} {r:Int} (h:Ord ns E o r):(o=[]/\r≠0)∨(r=0/\ns.Nodup/\Grd ns E o/\o.length=ns.length):=by
 rcases h with ⟨_,rfl,rfl⟩|⟨_,_,rfl,rfl⟩|⟨h1,_,⟨_,_,_,_,rfl,rfl⟩|⟨a,b,rfl⟩⟩
 ·exact .inl ⟨rfl,by decide⟩
 ·exact .inl ⟨rfl,by decide⟩
 ·exact .inl ⟨rfl,by decide⟩
 ·exact .inr ⟨rfl,h1,a,b⟩
theorem j3y {l:List Seg} (hn:(l.map Seg.key).Nodup) {g:Seg} (hg:g∈l):(l.find? fun x=>decide (x.1=g.1))=some g:=by
 induction l with
 |nil=>simp at hg
 |cons a l ih=>
  rw [List.map_cons,List.nodup_cons] at hn
  rw [List.find?_cons]
  rcases List.mem_cons.1 hg with rfl|hg
  ·simp
  ·have: ¬a.1=g.1:=fun e=>hn.1 (by rw [show a.key=g.key from e];exact List.mem_map_of_mem hg)
   rw [decide_eq_false this]
   exact ih hn.2 hg
theorem u59:srt []=[]:=by
 have:=Wx []
 exact List.eq_nil_of_length_eq_zero (by simpa using this)
theorem q3p {l:List Seg} {s:Subj} {K:List ByteArray->Prop} (hB:SegB l) (hs:SubB s) (h: ∀m,MemS l s m->K m):Zz l s K:=by
 unfold Zz q4b
 refine j9g hB fun o r ho=> ?_
 rcases v7e ho with ⟨rfl,h0⟩|⟨rfl,hnd,hg,hlen⟩
 ·refine Cnd.no h0 (h _ ⟨[],r,ho,?_⟩)
  rw [mbs,u59]
 have hn:=hB.n
 have hlen:o.length=l.length:=by simpa using hlen
 have hon:=Go.Gr.Grd.nodup hg
 refine Cnd.yes rfl fun _=> ?_
 refine Lp2.ind (fun (i:Int) (F:ByteArray->Option Seg)=>0<=i/\i<=l.length/\ ∀g∈l.take i.toNat,F g.1=some g) (fun (i:Int) _=>(l.length - i).toNat) ?_ ⟨by omega,by omega,by simp⟩
 rintro i F ⟨i0,i1,hF⟩
 refine Cnd.mk (fun hc=>⟨by omega,fun g hg'=>⟨by unfold InI;omega,⟨by omega,by omega,?_⟩,by omega⟩⟩) fun hc _=> ?_
 ·rw [show (i+1).toNat=i.toNat+1 by omega,List.take_add_one,hg',Wq]
  refine Jq (fun x hx=> ?_) ?_
  ·have:x.1≠g.1:=by
    intro e
    have h1:(l.map Seg.key)[i.toNat]? =some g.1:=by rw [List.getElem?_map,hg'];rfl
    refine Go.Gr.v2l hnd h1 ?_
    rw [←List.map_take,←e]
    exact List.mem_map_of_mem hx
   simp only [put,if_neg this]
   exact hF x hx
  ·simp [put]
 rw [List.take_of_length_le (by omega)] at hF
 refine Lp2.ind (fun (acc:List ByteArray) (j:Int)=>0<=j/\j<=o.length/\acc.length<=j.toNat/\mbs l s [] o=mbs l s acc (o.drop j.toNat)) (fun _ (j:Int)=>(o.length - j).toNat) ?_ ⟨by omega,by omega,by simp,rfl⟩
 rintro acc j ⟨j0,j1,hal,hm⟩
 refine Cnd.mk (fun hc=>⟨by omega,fun k hk=> ?_⟩) fun hc=> ?_
 ·have hko:k∈l.map Seg.key:=Go.Gr.Grd.sub hg k (getm hk)
  obtain ⟨g,hgl,hgk⟩:=List.mem_map.1 hko
  have hgk:g.1=k:=hgk
  subst hgk
  rw [hF g hgl]
  dsimp only [Option.getD_some]
  rw [Wq]
  rw [drp hk,mbs] at hm
  have hmb:memb l s acc g.1=cntn g s acc:=by unfold memb;rw [j3y hnd hgl]
  refine j0u hs (hB.w g hgl) (hB.v g hgl) ?_
  rw [hmb] at hm
  refine Cnd.mk (fun hb=>⟨by unfold Sml;simp;omega,by unfold InI;omega,⟨by omega,by omega,by simp;omega,?_⟩,by omega⟩) fun hb=>⟨by unfold InI;omega,⟨by omega,by omega,by omega,?_⟩,by omega⟩
  ·have hb:cntn g s acc=true:=hb
   rw [if_pos hb] at hm
   rw [show (j+1).toNat=j.toNat+1 by omega];exact hm
  ·have hb: ¬cntn g s acc=true:=hb
   rw [if_neg hb] at hm
   rw [show (j+1).toNat=j.toNat+1 by omega];exact hm
 ·rw [List.drop_eq_nil_of_le (by omega),mbs] at hm
  show K (srt acc)
  rw [←hm]
  exact h _ ⟨o,0,ho,rfl⟩
theorem w7a {l:List Seg} {s:Subj} {K:List ByteArray->Prop} (hB:SegB l) (hs:SubB s) (h: ∀m,MemS l s m->K m):q0k l s K:=by
 unfold q0k z2i
 refine v7c hB fun o r ho=> ?_
 have hn:=hB.n
 have hoc:=v7e ho
 have hon:o.Nodup/\o.length<=l.length:=by
  rcases hoc with ⟨rfl,_⟩|⟨_,_,hg,hl⟩
  ·simp
  ·exact ⟨Go.Gr.Grd.nodup hg,by simpa using Nat.le_of_eq hl⟩
 obtain ⟨hon,hol⟩:=hon
 refine Lp2.ind (fun (inn:List ByteArray) (j:Int)=>0<=j/\j<=o.length/\Asc inn/\inn.length<=j.toNat/\ ∃acc,(∀y,y∈inn↔y∈acc)/\mbs l s [] o=mbs l s acc (o.drop j.toNat)) (fun _ (j:Int)=>(o.length - j).toNat) ?_ ⟨by omega,by omega,j6b,by simp,[],by simp,rfl⟩
 rintro inn j ⟨j0,j1,ha,hil,acc,hacc,hm⟩ _
 refine Cnd.mk (fun hc=> ?_) fun hc=> ?_
 ·obtain ⟨k,hk⟩: ∃k,o[j.toNat]? =some k:=⟨_,List.getElem?_eq_getElem (by omega)⟩
  rcases hoc with ⟨rfl,_⟩|⟨_,hnd,hg,hl⟩
  ·simp at hc;omega
  have hko:k∈l.map Seg.key:=Go.Gr.Grd.sub hg k (getm hk)
  obtain ⟨g,hgl,hgk⟩:=List.mem_map.1 hko
  have hgk:g.1=k:=hgk
  subst hgk
  rw [drp hk,mbs,show memb l s acc g.1=cntn g s acc by unfold memb;rw [j3y hnd hgl]] at hm
  have hcg:cntn g s inn=cntn g s acc:=w89 hacc
  rw [←hcg] at hm
  refine Lp2.ind (fun (p:List ByteArray) (i:Int)=>0<=i/\i<=l.length/\((p=inn/\ ∀x∈l.take i.toNat,x.1≠g.1)∨(g∈l.take i.toNat/\Asc p/\p.length<=j.toNat+1/\ ∀y,y∈p↔y∈(if cntn g s inn=true then acc++[g.1] else acc)))) (fun _ (i:Int)=>(l.length - i).toNat) ?_ ⟨by omega,by omega,.inl ⟨rfl,by simp⟩⟩
  rintro p i ⟨i0,i1,hp⟩ _
  refine Cnd.mk (fun hc2=>⟨by omega,fun x hx=>⟨by omega,fun k' hk'=> ?_⟩⟩) fun hc2=> ?_
  ·rw [hk] at hk';cases hk'
   have tk:(i+1).toNat=i.toNat+1:=by omega
   refine Cnd.mk (fun e=>⟨by omega,fun x' hx'=> ?_⟩) fun e=>⟨by unfold InI;omega,⟨by omega,by omega,?_⟩,by omega⟩
   ·rw [hx] at hx';cases hx'
    have hxg:x=g:=by
     have h1:=j3y hnd (getm hx)
     have h2:=j3y hnd hgl
     rw [show x.1=g.1 from e] at h1
     rw [h1] at h2;exact Option.some.inj h2
    subst hxg
    have hnot:x∉l.take i.toNat:=by
     intro hm'
     have h1:(l.map Seg.key)[i.toNat]? =some x.1:=by rw [List.getElem?_map,hx];rfl
     exact Go.Gr.v2l hnd h1 (by rw [←List.map_take];exact List.mem_map_of_mem hm')
    rcases hp with ⟨rfl,hno⟩|⟨hp,_⟩
    ·rw [Wq]
     refine v2r hs (hB.w x hgl) (hB.v x hgl) (Cnd.mk (fun hb=>⟨by omega,fun k' hk'=> ?_⟩) fun hb=>⟨by unfold InI;omega,⟨by omega,by omega,.inr ⟨?_,ha,by omega,fun y=> ?_⟩⟩,by omega⟩)
     ·rw [hk] at hk';cases hk'
      have hb:cntn x s p=true:=hb
      refine z6i ha (by omega) fun q hq hqm=>⟨by unfold InI;omega,⟨by omega,by omega,.inr ⟨?_,hq,?_,fun y=> ?_⟩⟩,by omega⟩
      ·rw [tk,List.take_add_one,hx];simp
      ·have:=u3r hq (m:=x.1::p) fun y hy=>by
        rcases (hqm y).1 hy with hy|hy
        ·exact List.mem_cons_of_mem _ hy
        ·rw [hy];exact List.mem_cons_self
       simp at this;omega
      ·rw [if_pos hb,hqm,List.mem_append,List.mem_singleton,hacc]
     ·rw [tk,List.take_add_one,hx];simp
     ·have hb: ¬cntn x s p=true:=hb
      rw [if_neg hb,hacc]
    ·exact absurd hp hnot
   ·rw [tk,List.take_add_one,hx]
    rcases hp with ⟨rfl,hno⟩|⟨hp,hp2⟩
    ·exact .inl ⟨rfl,Jq hno e⟩
    ·exact .inr ⟨List.mem_append_left _ hp,hp2⟩
  ·rw [List.take_of_length_le (by omega)] at hp
   rcases hp with ⟨_,hno⟩|⟨_,hpa,hpl,hpm⟩
   ·exact absurd rfl (hno g hgl)
   ·exact ⟨by unfold InI;omega,⟨by omega,by omega,hpa,by omega,_,hpm,by rw [show (j+1).toNat=j.toNat+1 by omega];exact hm⟩,by omega⟩
 ·rw [List.drop_eq_nil_of_le (by omega),mbs] at hm
  have hnm:(mbs l s [] o).Nodup:=w5c l s o [] (by simpa using hon)
  have e:inn=srt (mbs l s [] o):=z6n ha (Go.Gr.y1d hnm) fun y=>by rw [z1j,hm,hacc]
  rw [e]
  exact h _ ⟨o,r,ho,rfl⟩
theorem q1x {l:List Seg} {s:Subj} {key:ByteArray} {K:Bool->Prop} (hB:SegB l) (hs:SubB s) (h: ∀m,MemS l s m->K (dec (key∈m))):Jf l s key K:=by
 unfold Jf q3a
 exact q3p hB hs fun m hm hl=>v2k hl fun r hr=>by rw [j7x hr];exact h m hm
end Go.En
end
noncomputable section
set_option maxRecDepth 100000
namespace Go.En
open Go Go.Fl Go.Fl.Lk Go.Fx Go.Sg
structure ClE (segs:List ByteArray) (Q:Nat->Ex->Prop):Prop where
 hT: ∀k,Q k (Ex.mk 1 (ByteArray.mk (Array.mk [])) (ByteArray.mk (Array.mk [])) [] [])
 hS: ∀k b,b∈segs->Q k (Ex.mk 5 (ByteArray.mk (Array.mk [])) b [] [])
 ht: ∀k e,ExS 0 e->6<=e.1->Q k e
 hN: ∀k e,Q k e->Q (k+1) (Ex.mk 4 (ByteArray.mk (Array.mk [])) (ByteArray.mk (Array.mk [])) [] [e])
 hA: ∀k op l,op=2∨op=3->l.length<=3->l≠[]->(∀e∈l,Q k e∨ ∃e',Q k e'/\e=Ex.mk 4 (ByteArray.mk (Array.mk [])) (ByteArray.mk (Array.mk [])) [] [e'])->Q (k+1) (Ex.mk op (ByteArray.mk (Array.mk [])) (ByteArray.mk (Array.mk [])) [] l)
theorem ClE.and {segs:List ByteArray} {Q R:Nat->Ex->Prop} (a:ClE segs Q) (b:ClE segs R):ClE segs fun k e=>Q k e/\R k e:=
 ⟨fun k=>⟨a.hT k,b.hT k⟩,fun k x hx=>⟨a.hS k x hx,b.hS k x hx⟩,fun k e h1 h2=>⟨a.ht k e h1 h2,b.ht k e h1 h2⟩,fun k e h=>⟨a.hN k e h.1,b.hN k e h.2⟩,
  fun k op l h1 h2 h3 h=>⟨a.hA k op l h1 h2 h3 fun e he=>(h e he).imp (·.1) fun ⟨e',h,h'⟩=>⟨e',h.1,h'⟩,b.hA k op l h1 h2 h3 fun e he=>(h e he).imp (·.2) fun ⟨e',h,h'⟩=>⟨e',h.2,h'⟩⟩⟩
theorem y56 {list:List Int} {segs:List ByteArray} {Q:Nat->Ex->Prop} (c:ClE segs Q):
  ∀(k:Nat) {at_ levels:Int} {K:Ex->Int->Prop},k<=100->levels<=k+1->1<=levels->DS list at_->(∀r a,Q k r->DS list a->K r a)->q47 list at_ segs levels K:=by
 obtain ⟨hT,hS,ht,hN,hA⟩:=c
 intro k at_ levels K hk0 hk hl hD h X hX
 induction k generalizing at_ levels K with
 |zero=>
  refine hX _ _ _ _ _ ?_
  unfold z60
  refine Qo hD (by decide) fun r a r0 r1 hD=>Jn1.mk (fun x=>0<=x/\x<=3) (Cnd.mk (fun _=>Cnd.mk (fun _=>⟨by unfold InI;omega,by omega,by omega⟩) fun _=>⟨by omega,by omega⟩) fun _=>by omega) fun x hx=> ?_
  have t:=j3n (K:=fun r a=>K (Ex.mk r.1 r.2 r.3 r.4 r.5) a) hD fun r a hr h6 hD=>h _ a (by rw [Wq];exact ht 0 r hr h6) hD
  refine Cnd.mk (fun _=>h _ _ (hT 0) hD) fun _=>Cnd.mk (fun _ _=>Cnd.mk (fun hc _=> ?_) fun _=>t) fun _=>Cnd.mk (fun hc=>by omega) fun _=> ?_
  ·exact Qo hD (by omega) fun r a r0 r1 hD=>⟨⟨r0,r1⟩,fun y hy=>h _ _ (hS 0 y (getm hy)) hD⟩
  ·exact Jn1.mk (fun x=>x=false) (Cnd.mk (fun hc=>by omega) fun _=>decide_eq_false (by omega)) fun x hx=>Cnd.mk (fun hc=>by rw [hx] at hc;cases hc) fun _=>t
 |succ k ih=>
  refine hX _ _ _ _ _ ?_
  unfold z60
  have go: ∀{at_:Int} {K:Ex->Int->Prop},1<=levels - 1->DS list at_->(∀r a,Q k r->DS list a->K r a)->X list at_ segs (levels - 1) K:=fun h1 hD hK=>ih (by omega) (by omega) h1 hD hK
  refine Qo hD (by decide) fun r a r0 r1 hD=>Jn1.mk (fun x=>0<=x/\x<=7/\(levels<=1->x<=3)) (Cnd.mk (fun _=>Cnd.mk (fun _=>⟨by unfold InI;omega,by omega,by omega,by omega⟩) fun _=>⟨by omega,by omega,by omega⟩) fun _=>by omega) fun x hx=> ?_
  have t:=j3n (K:=fun r a=>K (Ex.mk r.1 r.2 r.3 r.4 r.5) a) hD fun r a hr h6 hD=>h _ a (by rw [Wq];exact ht _ r hr h6) hD
  refine Cnd.mk (fun _=>h _ _ (hT _) hD) fun _=>Cnd.mk (fun _ _=>Cnd.mk (fun hc _=> ?_) fun _=>t) fun _=>Cnd.mk (fun hc=> ?_) fun _=> ?_
  ·exact Qo hD (by omega) fun r a r0 r1 hD=>⟨⟨r0,r1⟩,fun y hy=>h _ _ (hS _ y (getm hy)) hD⟩
  ·refine ⟨by unfold InI;omega,go (by omega) hD fun e a he hD=>h _ _ ?_ hD⟩
   rw [Wq];exact hN k e he
  refine Jn1.mk (fun y=>y=true->2<=levels) (Cnd.mk (fun hc _=>by omega) fun _ hc=>by have:=of_decide_eq_true hc;omega) fun y hy=>Cnd.mk (fun hc=> ?_) fun _=>t
  have hy:=hy hc
  refine Qo hD (by decide) fun r a r0 r1 hD=>⟨by unfold InI;omega,Qo hD (by decide) fun q a q0 q1 hD=>⟨by unfold InI;omega,?_⟩⟩
  refine LpH.ind (fun x=>0<=x.1/\x.1<=2+q/\DS list x.2.1/\x.2.2=(2+r,ByteArray.mk (Array.mk []),ByteArray.mk (Array.mk []),[],x.2.2.2.2.2.2.1,())/\(x.2.2.2.2.2.2.1.length:Int)=x.1/\ ∀e∈x.2.2.2.2.2.2.1,Q k e∨ ∃e',Q k e'/\e=Ex.mk 4 (ByteArray.mk (Array.mk [])) (ByteArray.mk (Array.mk [])) [] [e']) (fun x=>(3 - x.1).toNat) ?_ ⟨Int.le_refl 0,by simp only;omega,hD,rfl,rfl,by simp⟩
  rintro ⟨i,a,x⟩ ⟨i0,i1,hD,hx,hl,he⟩
  simp only at i0 i1 hD hx hl he
  generalize x.2.2.2.2.1=l at*
  subst hx
  simp only at hl he⊢
  refine Cnd.mk (fun hc=>⟨by unfold InI;omega,go (by omega) hD fun e a hk hD=> ?_⟩) fun hc=>h _ _ (hA k (2+r) l (by omega) (by omega) (fun e=>by rw [e] at hl;simp at hl;omega) he) hD
  refine Jn1.mk (fun z=>(fun e=>Q k e∨ ∃e',Q k e'/\e=Ex.mk 4 (ByteArray.mk (Array.mk [])) (ByteArray.mk (Array.mk [])) [] [e']) (Ex.mk z.1 z.2.1 z.2.2.1 z.2.2.2.1 z.2.2.2.2.1)) (Cnd.mk (fun _=> .inr ⟨e,hk,by simp only;rw [Wq]⟩) fun _=> .inl (by simp only;rw [Wq];exact hk)) fun z hz=> ?_
  exact ⟨by unfold Sml;simp;omega,by unfold InI;omega,⟨by omega,by omega,hD,trivial,by simp;omega,Jq he hz⟩,by omega⟩
structure DrE (segs:List ByteArray) (w:Nat) (e:Ex):Prop where
 wt:wt e<=w
 nms: ∀x∈nms e,x∈segs
 ev:EvB e
theorem EvB.mk' {e:Ex} (h: ∀w∈e.4,ValB w) (hk: ∀k∈e.5,EvB k):EvB e:=fun a ha=>by
 rw [z6m] at ha
 rcases List.mem_cons.1 ha with rfl|ha
 ·exact h
 ·obtain ⟨k,hk',ha⟩:=q8o.1 ha
  exact hk k hk' a ha
theorem u73 {l:List Val} {b:Nat} (h: ∀v∈l,v.4.length<=b):wtV l<=l.length*(1+b):=by
 induction l with
 |nil=>simp [wtV]
 |cons v l ih=>
  have h1:=h v List.mem_cons_self
  have h2:=ih fun v hv=>h v (List.mem_cons_of_mem _ hv)
  simp only [wtV,List.length_cons,Nat.add_mul,Nat.one_mul] at*
  omega
theorem u74 {l:List Ex} {b:Nat} (h: ∀e∈l,wt e<=b):wtL l<=l.length*b:=by
 induction l with
 |nil=>simp [wtL]
 |cons v l ih=>
  have h1:=h v List.mem_cons_self
  have h2:=ih fun v hv=>h v (List.mem_cons_of_mem _ hv)
  simp only [wtL,List.length_cons,Nat.add_mul,Nat.one_mul] at*
  omega
def lvl:Nat->Nat
 |0=>45
 |k+1=>4+3*lvl k
theorem u0e (k:Nat):45<=lvl k:=by
 induction k with
 |zero=>exact Nat.le_refl _
 |succ k ih=>simp only [lvl];omega
theorem u75 {segs:List ByteArray}:ClE segs fun k e=>DrE segs (lvl k) e:=by
 have leaf: ∀{e:Ex} {x:ByteArray},e.5=[]->x∈nms e->e.1=5/\e.3=x:=fun {e x} h5 hx=>by
  rw [j3x,h5] at hx
  exact hx.elim id fun ⟨k,hk,_⟩=>by simp at hk
 refine ⟨fun k=>⟨?_,fun x hx=> ?_,EvB.mk' (by simp) (by simp)⟩,fun k b hb=>⟨?_,fun x hx=> ?_,EvB.mk' (by simp) (by simp)⟩,fun k e he h6=>⟨?_,fun x hx=> ?_,EvB.mk' (fun w hw=> ?_) (by rw [he.2.2.2];simp)⟩,fun k e he=>⟨?_,fun x hx=> ?_,EvB.mk' (by simp) (by simpa using he.ev)⟩,fun k op l hop h3 hne he=>⟨?_,fun x hx=> ?_,EvB.mk' (by simp) fun e hm=> ?_⟩⟩
 ·have:=u0e k;simp only [wt,wtV,wtL];omega
 ·have:=(leaf rfl hx).1;simp at this
 ·have:=u0e k;simp only [wt,wtV,wtL];omega
 ·rw [←(leaf rfl hx).2];exact hb
 ·have h1:=u0e k
  have h2:=u73 (l:=e.4) (b:=10) fun v hv=>(he.vals.all v hv).len
  have h3:=he.vals.len
  rw [w48,he.2.2.2]
  simp only [wtL];omega
 ·have:=(leaf he.2.2.2 hx).1;omega
 ·exact ⟨Nat.le_trans (he.vals.all w hw).txt (by decide),Nat.le_trans (he.vals.all w hw).len (by decide)⟩
 ·have:=he.wt;simp only [wt,wtV,wtL,lvl];omega
 ·rw [j3x] at hx
  rcases hx with hx|⟨k,hk,hx⟩
  ·simp at hx
  ·have:k=e:=by simpa using hk
   rw [this] at hx;exact he.nms x hx
 ·rw [w48]
  have:wtL l<=l.length*(1+lvl k):=u74 fun e hm=>by
   rcases he e hm with h|⟨e',h,rfl⟩
   ·have:=h.wt;omega
   ·have:=h.wt;simp only [wt,wtV,wtL];omega
  have h4:l.length*(1+lvl k)<=3*(1+lvl k):=Nat.mul_le_mul_right _ h3
  simp only [wtV,lvl];omega
 ·rw [j3x] at hx
  rcases hx with hx|⟨q,hq,hx⟩
  ·simp only at hx;omega
  ·rcases he q hq with h|⟨e',h,rfl⟩
   ·exact h.nms x hx
   ·rw [j3x] at hx
    rcases hx with hx|⟨k,hk,hx⟩
    ·simp at hx
    ·have:k=e':=by simpa using hk
     rw [this] at hx;exact h.nms x hx
 ·rcases he e hm with h|⟨e',h,rfl⟩
  ·exact h.ev
  ·exact EvB.mk' (by simp) (by simpa using h.ev)
theorem u6a {segs:List ByteArray} (hs: ∀s∈segs,s.size<=100):ClE segs fun k e=>ExS (2*k) e:=
 ⟨fun k=>ExS.le (n:=0) ⟨.nil,⟨sz0,sz0⟩,opl (by simp),rfl⟩ (by omega),fun k b hb=>ExS.le (n:=0) ⟨.nil,⟨hs _ hb,sz0⟩,opl (by simp),rfl⟩ (by omega),fun k e he _=>he.le (by omega),fun k e he=>(u2h he sz0 sz0).le (by omega),
  fun k op l hop h3 hne he=>⟨.nil,⟨sz0,sz0⟩,⟨InI.mk (by simp only;omega) (by simp only;omega),fun _ _=>hne⟩,h3,fun e hm=>by
   rcases he e hm with h|⟨e',h,rfl⟩
   ·exact h.up
   ·exact u2h h sz0 sz0⟩⟩
def Byts (l:List Int):Prop:= ∀x∈l,0<=x/\x<256
theorem y3k {l:List Int} {most:Int} {K:List Int->Int->Prop} (hb:Byts l) (h0:0<=most) (h1:most<=1000) (h: ∀r,DS r 0->K r 0):z9y l most K:=by
 unfold z9y
 refine Jn1.mk (fun r=>DS r 0) ?_ h
 refine fun _=>Cnd.mk (fun hc=>⟨by omega,?_⟩) fun hc=>⟨by omega,by omega,by omega,hb⟩
 rw [show List.drop (Int.toNat 0) (List.take most.toNat l)=l.take most.toNat from rfl]
 exact ⟨by rw [List.length_take];omega,by omega,by omega,fun x hx=>hb x (List.mem_of_mem_take hx)⟩
structure CtxS (c:Ctxt):Prop where
 a:c.attrs.length<=8
 l: ∀a∈c.attrs,ValS a.value
 k:c.key.size<=5
theorem j7z {list:List Int} {at_:Int} {kind:ByteArray} {K:Ctxt->Int->Prop} (hD:DS list at_) (h: ∀c a,c.kind=kind->CtxS c->DS list a->K c a):q1s list at_ kind K:=by
 unfold q1s z9z
 refine y2y hD fun key a hk hD=>q3o fun l hl hd=> ?_
 refine Lp3.ind (fun (i:Int) (r:List Attr) (a:Int)=>0<=i/\i<=l.length/\r.length<=i.toNat/\(∀a∈r,ValS a.value)/\DS list a) (fun (i:Int) _ _=>(l.length - i).toNat) ?_ ⟨by omega,by omega,by simp,by simp,hD⟩
 rintro i r a ⟨i0,i1,hr,hv,hD⟩ _
 refine Cnd.mk (fun hc=>⟨by omega,fun y hy=>Cnd.mk (fun _=>Qo hD (by decide) fun q a q0 q1 hD=>Cnd.mk (fun _=>⟨by omega,fun y2 hy2=>⟨by omega,fun y3 hy3=>q4s hD fun v a hvv hD=>⟨by unfold Sml;simp;omega,by unfold InI;omega,⟨by omega,by omega,by simp;omega,Jq hv hvv,hD⟩,by omega⟩⟩⟩) fun _=>⟨by unfold InI;omega,⟨by omega,by omega,by omega,hv,hD⟩,by omega⟩) fun _=>⟨by unfold InI;omega,⟨by omega,by omega,by omega,hv,hD⟩,by omega⟩⟩) fun _=>h _ _ rfl ⟨by simp only;omega,hv,hk⟩ hD
theorem v7f {list:List Int} {at_:Int} {K:Subj->Int->Prop} (hD:DS list at_) (h: ∀s a,s.ctxs.length<=2->(∀c∈s.ctxs,CtxS c)->K s a):q4c list at_ K:=by
 unfold q4c z90
 refine Qo hD (by decide) fun q a q0 q1 hD=> ?_
 refine Jn2.mk (fun (a:Int) (l:List Ctxt)=>l.length<=1/\(∀c∈l,CtxS c)/\DS list a) ?_ fun a l hx=> ?_
 ·have one:q1s list a (ByteArray.mk (Array.mk [100,101,118,105,99,101])) fun c a=>Sml ([]++[c]).length/\(([]++[c]:List Ctxt).length<=1/\(∀x∈([]++[c]:List Ctxt),CtxS x)/\DS list a):=j7z hD fun c a _ hc hD=>⟨by unfold Sml;simp,by simp,by simpa using hc,hD⟩
  exact Cnd.mk (fun _=>one) fun _=>Cnd.mk (fun _=>one) fun _=>Cnd.mk (fun _=>one) fun _=>⟨by simp,by simp,hD⟩
 ·obtain ⟨hl,hc,hD⟩:=hx
  have fin: ∀a,K (Subj.mk l) a:=fun a=>h _ _ (by simp only;omega) hc
  exact Cnd.mk (fun _=>fin _) fun _=>Cnd.mk (fun _=>fin _) fun _=>j7z hD fun c a _ hcc _=>⟨by unfold Sml;simp;omega,h _ _ (by simp;omega) (Jq hc hcc)⟩
theorem w9a {s:Subj} (h:s.ctxs.length<=2) (hc: ∀c∈s.ctxs,CtxS c):SubB s:=
 ⟨by omega,fun c hm=>by have:=(hc c hm).a;omega,fun c hm a ha=>by have:=((hc c hm).l a ha);have h1:=this.len;have h2:=this.txt;omega,fun c hm=>by have:=(hc c hm).k;omega⟩
theorem u0f {l:List Seg} (hn:l.length<=50) (h: ∀g∈l,∃segs,DrE segs 20000 g.5):SegB l:=⟨hn,fun g hg=>Nat.le_trans (h g hg).choose_spec.wt (by decide),fun g hg=>(h g hg).choose_spec.ev,by
 have:=u58 (l:=l) fun g hg=>(h g hg).choose_spec.wt
 omega⟩
end Go.En
end
noncomputable section
set_option maxRecDepth 100000
namespace Go.En
open Go Go.Fl Go.Fl.Lk Go.Fx Go.Sg
open Go.Gr (Ord Grd Rdy Nxt)
theorem w9b (l:List Seg) (s:Subj): ∀(a b acc:List ByteArray),mbs l s acc (a++b)=mbs l s (mbs l s acc a) b
 |[],b,acc=>rfl
 |k::a,b,acc=>by rw [List.cons_append,mbs,mbs,w9b l s a b]
theorem v2s (l:List Seg) (s:Subj): ∀(o acc:List ByteArray) (y:ByteArray),y∈acc->y∈mbs l s acc o
 |[],acc,y,h=>h
 |k::o,acc,y,h=>by
  rw [mbs]
  refine v2s l s o _ y ?_
  split
  ·exact List.mem_append_left _ h
  ·exact h
theorem v7g {T:Ex->Bool} {I J:ByteArray->Bool}: ∀(n:Nat) {e:Ex},wt e<=n->(∀x∈nms e,I x=J x)->evl T I e=evl T J e
 |0,e,h,_=>by have:=z08 e;omega
 |n+1,e,h,hx=>by
  have hk: ∀k∈e.5,evl T I k=evl T J k:=fun k hk=>v7g n (by have:=z35 hk;omega) fun x hm=>hx x ((j3x e x).2 (.inr ⟨k,hk,hm⟩))
  have hA: ∀l:List Ex,(∀k∈l,evl T I k=evl T J k)->evlA T I l=evlA T J l/\evlO T I l=evlO T J l/\evlN T I l=evlN T J l:=by
   intro l
   induction l with
   |nil=>intro _;simp [evlA,evlO,evlN]
   |cons k l ih=>
    intro h
    obtain ⟨h1,h2,h3⟩:=ih fun q hq=>h q (List.mem_cons_of_mem _ hq)
    have h0:=h k List.mem_cons_self
    simp only [evlA,evlO,evlN,h0,h1,h2,and_self]
  obtain ⟨h1,h2,h3⟩:=hA e.5 hk
  rw [y3h,y3h T J,h1,h2,h3]
  by_cases h5:e.1=5
  ·rw [hx e.3 ((j3x e _).2 (.inl ⟨h5,rfl⟩))]
  ·simp only [if_neg h5]
theorem w9c {g:Seg} {s:Subj} {a b:List ByteArray} (h: ∀x∈nms g.5,(x∈a↔x∈b)):cntn g s a=cntn g s b:=by
 unfold cntn
 have e:=v7g (T:=tst s) (I:=fun x=>dec (x∈a)) (J:=fun x=>dec (x∈b)) (wt g.5) (Nat.le_refl _) fun x hx=>by show dec _=dec _;rw [propext (h x hx)]
 rw [e]
theorem u6b {l:List Seg} {s:Subj} {o:List ByteArray} (hnd:(l.map Seg.key).Nodup) (hg:Grd (l.map Seg.key) ((edg l).map prE) o) (hlen:o.length=(l.map Seg.key).length) {g:Seg} (hgl:g∈l):g.1∈mbs l s [] o↔cntn g s (mbs l s [] o)=true:=by
 have hon:=Go.Gr.Grd.nodup hg
 have hgo:g.1∈o:=by
  refine Classical.byContradiction fun hn=> ?_
  have h1:=Go.Gr.w88 hon hn
  have h2:(o++[g.1]).length<=(l.map Seg.key).length:=by
   rcases Nat.lt_or_ge (l.map Seg.key).length (o++[g.1]).length with hl|hl
   ·obtain ⟨x,hx,hno⟩:=Go.Gr.y1a h1 hl
    refine absurd ?_ hno
    rcases List.mem_append.1 hx with hx|hx
    ·exact Go.Gr.Grd.sub hg x hx
    ·rw [List.mem_singleton.1 hx];exact List.mem_map_of_mem hgl
   ·exact hl
  simp at h2;simp at hlen;omega
 obtain ⟨k,hk⟩:=List.mem_iff_getElem?.1 hgo
 have hsplit:o=o.take k++g.1::o.drop (k+1):=by
  conv=>lhs;rw [←List.take_append_drop k o,drp hk]
 have hnx:=hg k g.1 hk
 have hdis: ∀x∈o.take k,x∉g.1::o.drop (k+1):=by
  rw [hsplit] at hon
  exact fun x hx hy=>(List.nodup_append.1 hon).2.2 x hx x hy rfl
 have hgd:g.1∉o.drop (k+1):=by
  rw [hsplit] at hon
  exact (List.nodup_cons.1 (List.nodup_append.1 hon).2.1).1
 have hfin:mbs l s [] o=mbs l s (if cntn g s (mbs l s [] (o.take k))=true then mbs l s [] (o.take k)++[g.1] else mbs l s [] (o.take k)) (o.drop (k+1)):=by
  conv=>lhs;rw [hsplit,w9b,mbs]
  rw [show memb l s (mbs l s [] (o.take k)) g.1=cntn g s (mbs l s [] (o.take k)) by unfold memb;rw [j3y hnd hgl]]
 have hacc: ∀x∈o.take k,(x∈mbs l s [] (o.take k)↔x∈mbs l s [] o):=fun x hx=>by
  rw [hfin]
  constructor
  ·intro h
   refine v2s _ _ _ _ _ ?_
   split
   ·exact List.mem_append_left _ h
   ·exact h
  ·intro h
   rcases w5d _ _ _ _ _ h with h|h
   ·split at h
    ·rcases List.mem_append.1 h with h|h
     ·exact h
     ·exact absurd (by rw [List.mem_singleton.1 h];exact List.mem_cons_self) (hdis x hx)
    ·exact h
   ·exact absurd (List.mem_cons_of_mem _ h) (hdis x hx)
 have hneed: ∀x∈nms g.5,x∈o.take k:=fun x hx=>by
  refine hnx.1.2.2 (g.1,x) ?_ rfl
  refine List.mem_map.2 ⟨Edg.mk g.1 x,?_,rfl⟩
  unfold edg
  exact List.mem_flatMap.2 ⟨g,hgl,List.mem_map.2 ⟨x,y1f.2 hx,rfl⟩⟩
 have hc:cntn g s (mbs l s [] (o.take k))=cntn g s (mbs l s [] o):=w9c fun x hx=>hacc x (hneed x hx)
 have hno:g.1∉mbs l s [] (o.take k):=fun h=>by
  rcases w5d _ _ _ _ _ h with h|h
  ·simp at h
  ·exact hdis g.1 h List.mem_cons_self
 rw [hc] at hfin
 by_cases hb:cntn g s (mbs l s [] o)=true
 ·refine ⟨fun _=>hb,fun _=> ?_⟩
  rw [hfin,if_pos hb]
  exact v2s _ _ _ _ _ (List.mem_append_right _ List.mem_cons_self)
 ·refine ⟨fun h=> ?_,fun h=>absurd h hb⟩
  rw [hfin,if_neg hb] at h
  rcases w5d _ _ _ _ _ h with h|h
  ·exact absurd h hno
  ·exact absurd h hgd
theorem u76 {ns:List ByteArray} {E:List (ByteArray×ByteArray)} {o:List ByteArray} {r:Int} (h:Ord ns E o r) (hnd:ns.Nodup) (hin: ∀e∈E,e.1∈ns/\e.2∈ns) (hf: ∀e∈E,blt e.2 e.1):r=0/\Grd ns E o/\o.length=ns.length:=by
 rcases h with ⟨h1,_,_⟩|⟨_,⟨e,he,hb⟩,_,_⟩|⟨_,_,⟨q,_,h3,h4,_,_⟩|⟨a,b,rfl⟩⟩
 ·exact absurd hnd h1
 ·have:=hin e he;rcases hb with hb|hb<;>simp [this] at hb
 ·exact (Go.Gr.y1c hnd hin hf h3 h4).elim
 ·exact ⟨rfl,a,b⟩
structure Falls (l:List Seg):Prop where
 nd:(l.map Seg.key).Nodup
 nm: ∀g∈l,∀x∈nms g.5,x∈l.map Seg.key/\blt x g.1
theorem Falls.ord {l:List Seg} (h:Falls l) {o:List ByteArray} {r:Int} (ho:OrdS l o r):r=0/\Grd (l.map Seg.key) ((edg l).map prE) o/\o.length=(l.map Seg.key).length:=by
 have key: ∀e∈(edg l).map prE,(e.1∈l.map Seg.key/\e.2∈l.map Seg.key)/\blt e.2 e.1:=fun e he=>by
  obtain ⟨d,hd,rfl⟩:=List.mem_map.1 he
  unfold edg at hd
  obtain ⟨g,hg,hd⟩:=List.mem_flatMap.1 hd
  obtain ⟨x,hx,rfl⟩:=List.mem_map.1 hd
  have:=h.nm g hg x (y1f.1 hx)
  exact ⟨⟨List.mem_map_of_mem hg,this.1⟩,this.2⟩
 exact u76 ho h.nd (fun e he=>(key e he).1) fun e he=>(key e he).2
theorem MemS.mean {l:List Seg} (hl:Falls l) {s:Subj} {m:List ByteArray} (h:MemS l s m):Asc m/\(∀y∈m,y∈l.map Seg.key)/\ ∀g∈l,(g.1∈m↔cntn g s m=true):=by
 obtain ⟨o,r,ho,rfl⟩:=h
 obtain ⟨rfl,hg,hlen⟩:=hl.ord ho
 have hon:=Go.Gr.Grd.nodup hg
 refine ⟨Go.Gr.y1d (w5c _ _ _ _ (by simpa using hon)),fun y hy=> ?_,fun g hgl=> ?_⟩
 ·rw [z1j] at hy
  rcases w5d _ _ _ _ _ hy with hy|hy
  ·simp at hy
  ·exact Go.Gr.Grd.sub hg y hy
 ·rw [z1j,u6b hl.nd hg hlen hgl]
  rw [w89 (a:=srt (mbs l s [] o)) (b:=mbs l s [] o) fun x=>z1j _ x]
abbrev aB:ByteArray:=ByteArray.mk (Array.mk [97])
abbrev bB:ByteArray:=ByteArray.mk (Array.mk [98])
abbrev y1j:ByteArray:=ByteArray.mk (Array.mk [98,101,116,97])
abbrev j0v:ByteArray:=ByteArray.mk (Array.mk [117,115,101,114])
abbrev noE:Ex:=Ex.mk 0 (ByteArray.mk (Array.mk [])) (ByteArray.mk (Array.mk [])) [] []
theorem y3l {e:Ex} (h5:e.5=[]) (h:e.1≠5): ∀x,x∉nms e:=fun x hx=>by
 rw [j3x,h5] at hx
 exact hx.elim (fun k=>h k.1) fun ⟨k,hk,_⟩=>by simp at hk
theorem u0g {g:Seg} (h: ∀x,x∉nms g.5):Falls [g]:=⟨by simp,fun q hq x hx=>by
 have:q=g:=by simpa using hq
 subst this;exact absurd hx (h x)⟩
theorem u0h {g:Seg} {s:Subj} {m:List ByteArray} (hn: ∀x,x∉nms g.5) (h:MemS [g] s m):m=if cntn g s []=true then [g.1] else []:=by
 obtain ⟨ha,hs,hm⟩:=h.mean (u0g hn)
 have hg:=hm g List.mem_cons_self
 rw [w9c (b:=[]) fun x hx=>absurd hx (hn x)] at hg
 have hs: ∀y∈m,y=g.1:=fun y hy=>by simpa using hs y hy
 refine z6n ha ?_ fun y=> ?_
 ·split
  ·exact List.pairwise_singleton _ _
  ·exact j6b
 ·split
  ·rename_i hb
   rw [List.mem_singleton]
   exact ⟨hs y,fun e=>by rw [e];exact hg.2 hb⟩
  ·rename_i hb
   exact ⟨fun hy=>absurd (hg.1 (hs y hy▸hy)) hb,fun hy=>by simp at hy⟩
theorem u2p {K:Bool->Prop} (h:K true):q0j K:=by
 unfold q0j z2d
 have hB:SegB [Seg.mk y1j j0v [aB,bB] [bB] noE]:=u0f (by simp) fun g hg=>⟨[],by
  have:g=Seg.mk y1j j0v [aB,bB] [bB] noE:=by simpa using hg
  subst this
  exact ⟨by simp [wt,wtV,wtL],fun x hx=>absurd hx (y3l rfl (by decide) x),EvB.mk' (by simp) (by simp)⟩⟩
 have hS: ∀k:ByteArray,k.size<=5->SubB (Subj.mk [Ctxt.mk j0v k []]):=fun k hk=>w9a (by simp) fun c hc=>by
  have:c=Ctxt.mk j0v k []:=by simpa using hc
  subst this
  exact ⟨by simp,by simp,hk⟩
 have hno: ∀x,x∉nms (Seg.mk y1j j0v [aB,bB] [bB] noE).5:=y3l rfl (by decide)
 have ca:cntn (Seg.mk y1j j0v [aB,bB] [bB] noE) (Subj.mk [Ctxt.mk j0v aB []]) []=true:=by
  unfold cntn
  rw [show fnd (Subj.mk [Ctxt.mk j0v aB []]) (Seg.mk y1j j0v [aB,bB] [bB] noE).2=some (Ctxt.mk j0v aB []) by unfold fnd;simp]
  simp only
  rw [if_neg (show ¬aB∈[bB] by rw [List.mem_singleton];decide),if_pos (show aB∈[aB,bB] from List.mem_cons_self)]
 have cb:cntn (Seg.mk y1j j0v [aB,bB] [bB] noE) (Subj.mk [Ctxt.mk j0v bB []]) []=false:=by
  unfold cntn
  rw [show fnd (Subj.mk [Ctxt.mk j0v bB []]) (Seg.mk y1j j0v [aB,bB] [bB] noE).2=some (Ctxt.mk j0v bB []) by unfold fnd;simp]
  simp only
  rw [if_pos (show bB∈[bB] from List.mem_cons_self)]
 refine q1x hB (hS _ (by decide)) fun m hm=> ?_
 have e1:=u0h hno hm
 rw [ca,if_pos rfl] at e1
 subst e1
 refine Cnd.mk (fun _=> ?_) fun hn=>absurd (v2j (by simp)) hn
 refine q1x hB (hS _ (by decide)) fun m2 hm2=> ?_
 have e2:=u0h hno hm2
 rw [cb,if_neg (by decide)] at e2
 subst e2
 refine Cnd.mk (fun hn=> ?_) fun _=> ?_
 ·have:=v2i.1 hn;simp at this
 refine q3p hB (hS _ (by decide)) fun m3 hm3 _=> ?_
 rw [hm3.uniq hm]
 exact h
end Go.En
end
noncomputable section
set_option maxRecDepth 100000
namespace Go.En
open Go Go.Fl Go.Fl.Lk Go.Fx Go.Sg
def sgK:List ByteArray:=[ByteArray.mk (Array.mk [97,108,112,104,97]),ByteArray.mk (Array.mk [98,101,116,97]),ByteArray.mk (Array.mk [103,97,109,109,97])]
structure GS (l:List Seg):Prop where
 keys:l.map Seg.key=sgK.take l.length
 cond: ∀(i:Nat) g,l[i]? =some g->DrE (sgK.take i) 20000 g.5
theorem DrE.le {segs:List ByteArray} {a b:Nat} {e:Ex} (h:DrE segs a e) (hab:a<=b):DrE segs b e:=⟨Nat.le_trans h.wt hab,h.nms,h.ev⟩
theorem DrE.eta {segs:List ByteArray} {w:Nat} {e:Ex} (h:DrE segs w e):DrE segs w (Ex.mk e.1 e.2 e.3 e.4 e.5):=by rw [Wq];exact h
theorem u3s:GS []:=⟨rfl,by simp⟩
theorem u2q {segs:List ByteArray}:DrE segs 20000 (Ex.mk 0 (ByteArray.mk (Array.mk [])) (ByteArray.mk (Array.mk [])) [] []):=
 ⟨by simp [wt,wtV,wtL],fun x hx=>by rw [j3x] at hx;rcases hx with ⟨h,_⟩|⟨k,hk,_⟩<;>simp at*,EvB.mk' (by simp) (by simp)⟩
theorem v2t {list:List Int} {at_ hold:Int} {salt hkind:ByteArray} {attrs:List Decl} {flags:List Flg} {layers:List Lay_} {expers:List Exper}
  {K:Int->ByteArray->ByteArray->Int->List Decl->List Seg->List Flg->List Lay_->List Exper->Prop} (hD:DS list at_)
  (h: ∀a segs,DS list a->segs.length<=3->(∀g∈segs,SegS g)->GS segs->K a salt hkind hold attrs segs flags layers expers):q11 list at_ salt hkind hold attrs [] flags layers expers K:=by
 unfold q11 z4n
 refine Qo hD (by decide) fun n a n0 n1 hD=>j3m n0 (by simp only [List.length_cons,List.length_nil];omega) ?_
 rw [show ([ByteArray.mk (Array.mk [97,108,112,104,97]),ByteArray.mk (Array.mk [98,101,116,97]),ByteArray.mk (Array.mk [103,97,109,109,97])]:List ByteArray)=sgK from rfl]
 have nms: ∀s∈List.take n.toNat sgK,s.size<=100:=fun s hs=>by
  have:=List.mem_of_mem_take hs
  have k: ∀s∈sgK,s.size<=100:=by decide
  exact k s this
 have hlen:(List.take n.toNat sgK).length<=3:=by
  rw [List.length_take];have:sgK.length=3:=rfl;omega
 have hfst: ∀i,i<=(List.take n.toNat sgK).length->(List.take n.toNat sgK).take i=sgK.take i:=fun i hi=>by
  rw [List.take_take,Nat.min_eq_left]
  rw [List.length_take] at hi;omega
 generalize List.take n.toNat _=l at nms hlen hfst
 refine Lp3.ind (fun (i a:Int) (gs:List Seg)=>DS list a/\0<=i/\i<=l.length/\(gs.length:Int)=i/\(∀g∈gs,SegS g)/\GS gs) (fun (i:Int) _ _=>(3 - i).toNat) ?_ ⟨hD,Int.le_refl 0,by omega,rfl,by simp,u3s⟩
 rintro i a gs ⟨hD,i0,i1,hl,hg,hgs⟩ _
 refine Cnd.mk (fun hc=>⟨by omega,fun y hy=>w4p hD fun inc a hi1 _ hD=>w4p hD fun exc a he1 _ hD=> ?_⟩) fun _=>h _ _ hD (by omega) hg hgs
 refine Jn2.mk (fun k a=>k.size<=100/\DS list a) (Qo hD (by decide) fun r a r0 r1 hD=>Cnd.mk (fun _=>⟨by decide,hD⟩) fun _=>⟨by decide,hD⟩) fun kind a hx=> ?_
 obtain ⟨hkd,hD⟩:=hx
 refine Jn1.mk (fun x=>(ExS 4 (Ex.mk x.1 x.2.1 x.2.2.1 x.2.2.2.1 x.2.2.2.2.1)/\DrE (l.take i.toNat) 20000 (Ex.mk x.1 x.2.1 x.2.2.1 x.2.2.2.1 x.2.2.2.2.1))/\DS list x.2.2.2.2.2.1) (Qo hD (by decide) fun r a r0 r1 hD=>Cnd.mk (fun _=>⟨by omega,?_⟩) fun _=>⟨⟨ExS.le (n:=0) ⟨.nil,⟨sz0,sz0⟩,opl (by simp),rfl⟩ (by omega),u2q⟩,hD⟩) fun x hx=> ?_
 ·exact y56 ((u6a fun s hs=>nms s (List.mem_of_mem_take (List.mem_of_mem_drop hs))).and u75) 2 (by omega) (by decide) (by decide) hD fun e a he hD=>⟨⟨he.1.eta,(he.2.le (by decide)).eta⟩,hD⟩
 ·have hk:l[i.toNat]? =some y:=hy
  refine ⟨by unfold Sml;simp;omega,by unfold InI;omega,⟨hx.2,by omega,by omega,by simp;omega,Jq hg ⟨nms _ (getm hy),hkd,hi1,he1,hx.1.1⟩,?_,fun j g hj=> ?_⟩,by omega⟩
  ·rw [List.map_append,hgs.keys,List.length_append,List.length_singleton,←hfst _ (by omega),←hfst _ (by omega),List.take_add_one,show l[gs.length]? =some y by rw [←hk];congr 1;omega]
   rfl
  ·rcases Nat.lt_or_ge j gs.length with hlt|hge
   ·rw [List.getElem?_append_left hlt] at hj;exact hgs.cond j g hj
   ·rw [List.getElem?_append_right hge] at hj
    have hj0:j=gs.length:=by
     rcases Nat.eq_zero_or_pos (j - gs.length) with h0|h0
     ·omega
     ·rw [List.getElem?_eq_none (by simp;omega)] at hj;cases hj
    subst hj0
    simp only [Nat.sub_self,List.getElem?_cons_zero,Option.some.injEq] at hj
    subst hj
    rw [←hfst _ (by omega),show gs.length=i.toNat by omega]
    exact hx.1.2
end Go.En
end
noncomputable section
set_option maxRecDepth 100000
namespace Go.En
open Go Go.Fl Go.Fl.Lk Go.Fx Go.Dg
theorem v2u {l:List ByteArray} {n:Nat} {p:ByteArray->Prop} (h: ∀x∈l,p x): ∀x∈l.take n,p x:=fun x hx=>h x (List.mem_of_mem_take hx)
theorem y57 {ds:List Decl} (hd: ∀d∈ds,d.kind.size<=100/\d.name.size<=100):EnvS (Envt.mk (Sett.mk (ByteArray.mk (Array.mk [])) (ByteArray.mk (Array.mk [])) 0) ds [] [] [] []):=
 ⟨sz0,hd,by simp,by simp,by simp,by simp,by simp,by simp,by simp,by simp⟩
theorem u9s:ExS 4 (Ex.mk 1 (ByteArray.mk (Array.mk [])) (ByteArray.mk (Array.mk [])) [] []):=ExS.le (n:=0) ⟨VsS.nil,⟨sz0,sz0⟩,opl (by simp),rfl⟩ (by decide)
theorem j9h {list:List Int} {at_ now:Int} {K:Envt->Int->Prop} (hD:DS list at_) (h: ∀v a,EnvS v->GS v.segments->DS list a->K v a):Gz list at_ now K:=by
 unfold Gz q71
 have tt: ∀s∈j6n,s.size<=100:=by decide
 refine q3o fun attrs _ had=> ?_
 have hat: ∀d∈attrs,d.kind.size<=100/\d.name.size<=100:=fun d hd=>⟨(had d hd).1,(had d hd).2.1⟩
 refine Jn1.mk (fun x=>x.2.1.size<=100/\DS list x.2.2.2.1/\x.2.2.2.2.1=attrs) (Qo hD (by decide) fun r a _ _ hD=>Cnd.mk (fun _=>z6d hD fun t a _ hD=>q5s hD (by decide) fun w a _ _ hD=>⟨(by decide:(ByteArray.mk (Array.mk [117,115,101,114])).size<=100),hD,rfl⟩) fun _=>⟨sz0,hD,rfl⟩) ?_
 rintro ⟨salt,hkind,hold,a,ds,u⟩ ⟨hhk,hD,hds⟩
 simp only at hhk hD hds⊢
 subst hds
 refine v2t hD fun a segs hD hsl hsegs hgs=>Qo hD (by decide) fun n a n0 n1 hD=>j3m n0 (by simp only [List.length_cons,List.length_nil];omega) ?_
 have fin: ∀{flags:List Flg} {layers:List Lay_} {exps:List Exper} {a:Int},DS list a->flags.length<=4->(∀f∈flags,FlgS f)->layers.length<=2->(∀l∈layers,LayS l)->exps.length<=3->(∀x∈exps,ExpS x)->
   q1m (Envt.mk (Sett.mk salt hkind hold) ds segs flags layers exps) fun b=>Cnd (b=true) (K (Envt.mk (Sett.mk salt hkind hold) ds segs flags layers exps) a) (Jg fun ds=>K (Envt.mk (Sett.mk (ByteArray.mk (Array.mk [])) (ByteArray.mk (Array.mk [])) 0) ds [] [] [] []) a):=fun hD h1 h2 h3 h4 h5 h6=>by
  have hv:EnvS (Envt.mk (Sett.mk salt hkind hold) ds segs _ _ _):=⟨hhk,hat,hsl,hsegs,h1,h2,h3,h4,h5,h6⟩
  exact j7t hv fun b=>Cnd.mk (fun _=>h _ _ hv hgs hD) fun _=>q3o fun ds _ had=>h _ _ (y57 fun d hd=>⟨(had d hd).1,(had d hd).2.1⟩) u3s hD
 have nms: ∀s∈List.take n.toNat [ByteArray.mk (Array.mk [102,97]),ByteArray.mk (Array.mk [102,98]),ByteArray.mk (Array.mk [102,99]),ByteArray.mk (Array.mk [102,100])],s.size<=100:=v2u (by decide)
 have hlen:(List.take n.toNat [ByteArray.mk (Array.mk [102,97]),ByteArray.mk (Array.mk [102,98]),ByteArray.mk (Array.mk [102,99]),ByteArray.mk (Array.mk [102,100])]).length<=4:=by
  rw [List.length_take];simp only [List.length_cons,List.length_nil];omega
 generalize List.take n.toNat _=l at nms hlen
 refine LpH.ind (fun (x:Int×Int×List Flg×List Seg×List Lay_×List Exper×Unit)=>0<=x.1/\x.1<=(l.length:Int)/\DS list x.2.1/\(x.2.2.1.length:Int)=x.1/\(∀f∈x.2.2.1,FlgS f)/\x.2.2.2=(segs,[],[],())) (fun x=>((l.length:Int) - x.1).toNat) ?_ ⟨Int.le_refl 0,by simp,hD,rfl,by simp,rfl⟩
 rintro ⟨i,a,flags,rest⟩ ⟨i0,i1,hD,hfl,hfs,hr⟩
 simp only at i0 i1 hD hfl hfs hr⊢
 subst hr
 simp only
 intro _
 refine Cnd.mk (fun hc=>⟨by omega,fun key hkey=> ?_⟩) fun _=> ?_
 ·
  refine Qo hD (by decide) fun kind a k0 k1 hD=>⟨by unfold InI;omega,Qo hD (by decide) fun on a _ _ hD=>Qo hD (by decide) fun m a m0 m1 hD=>⟨by unfold InI;omega,?_⟩⟩
  refine LpH.ind (fun (x:Int×Int×List Val×List Exper×List Lay_×List Flg×List Seg×Unit)=>0<=x.1/\x.1<=1+m/\DS list x.2.1/\(x.2.2.1.length:Int)=x.1/\(∀v∈x.2.2.1,ValS v)/\x.2.2.2=([],[],flags,segs,())) (fun x=>(1+m - x.1).toNat) ?_ ⟨Int.le_refl 0,by simp only;omega,hD,rfl,by simp,rfl⟩
  rintro ⟨j,a,vals,rest⟩ ⟨j0,j1,hD,hvl,hvs,hr⟩
  simp only at j0 j1 hD hvl hvs hr⊢
  subst hr
  simp only
  refine Cnd.mk (fun hc=>q4s hD fun v a hv hD=>⟨by unfold Sml;simp;omega,by unfold InI;omega,⟨by omega,by omega,hD,by simp;omega,Jq hvs hv,trivial⟩,by omega⟩) fun hc=> ?_
  refine Qo hD (by omega) fun off a o0 o1 hD=>⟨by unfold InI;omega,?_⟩
  have hlv:vals.length=(1+m).toNat:=by omega
  refine LpH.ind (fun (x:Int×List Prq×Int×List Seg×List Flg×List Lay_×List Exper×List Val×Unit)=>0<=x.1/\x.1<=(flags.length:Int)/\(x.2.1.length:Int)<=x.1/\(∀q∈x.2.1,q.flag.size<=100)/\DS list x.2.2.1/\x.2.2.2=(segs,flags,[],[],vals,())) (fun x=>((flags.length:Int) - x.1).toNat) ?_ ⟨Int.le_refl 0,by simp,by simp,by simp,hD,rfl⟩
  rintro ⟨j,needs,a,rest⟩ ⟨j0,j1,hnl,hns,hD,hr⟩
  simp only at j0 j1 hnl hns hD hr⊢
  subst hr
  simp only
  intro _
  refine Cnd.mk (fun hc=>Qo hD (by decide) fun q a _ _ hD=>Cnd.mk (fun _=>⟨by omega,fun y hy=>⟨by omega,fun z hz _=>Qo hD (by have:=(hfs z (getm hz)).vlen;omega) fun w a w0 w1 hD=> ?_⟩⟩) fun _=>⟨by unfold InI;omega,⟨by omega,by omega,by omega,hns,hD,trivial⟩,by omega⟩) fun _=> ?_
  ·have:=(hfs z (getm hz)).vlen
   exact ⟨by unfold InI;omega,by unfold Sml;simp;omega,by unfold InI;omega,⟨by omega,by omega,by simp;omega,Jq hns (hfs y (getm hy)).key,hD,trivial⟩,by omega⟩
  have hnl4:needs.length<=4:=by omega
  refine LpH.ind (fun (x:Int×List Tgt×Int×List Val×List Exper×List Lay_×List Flg×List Seg×List Prq×Unit)=>0<=x.1/\x.1<=3/\(x.2.1.length:Int)<=x.1/\(∀t∈x.2.1,t.kind.size<=100)/\DS list x.2.2.1/\x.2.2.2=(vals,[],[],flags,segs,needs,())) (fun x=>(3 - x.1).toNat) ?_ ⟨Int.le_refl 0,by simp,by simp,by simp,hD,rfl⟩
  rintro ⟨j,tgts,a,rest⟩ ⟨j0,j1,htl,hts,hD,hr⟩
  simp only at j0 j1 htl hts hD hr⊢
  subst hr
  simp only
  refine Qo hD (by decide) fun q a q0 q1 hD=>Cnd.mk (fun hc=>Qo hD (by omega) fun w a w0 w1 hD=>⟨by unfold InI;omega,w4p hD fun ks a _ _ hD=> ?_⟩) fun _=> ?_
  ·refine Jn1.mk (fun x=>x.1.size<=100/\DS list x.2.1/\x.2.2=(ks,needs,segs,flags,[],[],vals,tgts,())) (Qo hD (by decide) fun r a _ _ hD=>Cnd.mk (fun _=>⟨(by decide:(ByteArray.mk (Array.mk [100,101,118,105,99,101])).size<=100),hD,rfl⟩) fun _=>⟨(by decide:(ByteArray.mk (Array.mk [117,115,101,114])).size<=100),hD,rfl⟩) ?_
   rintro ⟨kd,a,rest⟩ ⟨hkd,hD,hr⟩
   simp only at hkd hD hr⊢
   subst hr
   simp only
   exact fun _=>Cnd.mk (fun _=>⟨by unfold Sml;simp;omega,by unfold InI;omega,⟨by omega,by omega,by simp;omega,Jq hts hkd,hD,trivial⟩,by omega⟩) fun _=>⟨by unfold InI;omega,⟨by omega,by omega,by omega,hts,hD,trivial⟩,by omega⟩
  refine Jn1.mk (fun (x:Int×List Rul×List ByteArray×List Prq×List Seg×List Flg×List Lay_×List Exper×List Val×List Tgt×Unit)=>DS list x.1/\x.2.1.length<=4/\(∀r∈x.2.1,RulS (1+m) r)/\x.2.2.2=(needs,segs,flags,[],[],vals,tgts,())) ?_ ?_
  case refine_2=>
   rintro ⟨a,rules,names,rest⟩ ⟨hD,hrl,hrs,hr⟩
   simp only at hD hrl hrs hr⊢
   subst hr
   simp only
   refine w81 hD (by omega) (by omega) fun s a hs hD=>⟨by unfold Sml;simp;omega,by unfold InI;omega,⟨by omega,by omega,hD,by simp;omega,Jq hfs ?_,trivial⟩,by omega⟩
   have hvm:(vals.length:Int)=1+m:=by omega
   exact ⟨nms key (getm hkey),⟨by simp only;omega,by simp only;omega⟩,hvs,hnl4,hns,by simp only;omega,hts,hrl,by rw [hvm];exact hrs,by rw [hvm];exact hs⟩
  have nm4: ∀s∈([ByteArray.mk (Array.mk [102,105,114,115,116]),ByteArray.mk (Array.mk [115,101,99,111,110,100]),ByteArray.mk (Array.mk [116,104,105,114,100]),ByteArray.mk (Array.mk [102,111,117,114,116,104])]:List ByteArray),s.size<=100:=by decide
  have nl4:([ByteArray.mk (Array.mk [102,105,114,115,116]),ByteArray.mk (Array.mk [115,101,99,111,110,100]),ByteArray.mk (Array.mk [116,104,105,114,100]),ByteArray.mk (Array.mk [102,111,117,114,116,104])]:List ByteArray).length=4:=rfl
  generalize ([ByteArray.mk (Array.mk [102,105,114,115,116]),ByteArray.mk (Array.mk [115,101,99,111,110,100]),ByteArray.mk (Array.mk [116,104,105,114,100]),ByteArray.mk (Array.mk [102,111,117,114,116,104])]:List ByteArray)=ns4 at nm4 nl4⊢
  refine LpH.ind (fun (x:Int×Int×List Rul×List ByteArray×List Prq×List Seg×List Flg×List Lay_×List Exper×List Val×List Tgt×Unit)=>0<=x.1/\x.1<=4/\DS list x.2.1/\(x.2.2.1.length:Int)=x.1/\(∀r∈x.2.2.1,RulS (1+m) r)/\x.2.2.2=(ns4,needs,segs,flags,[],[],vals,tgts,())) (fun x=>(4 - x.1).toNat) ?_ ⟨Int.le_refl 0,by simp,hD,rfl,by simp,rfl⟩
  rintro ⟨j,a,rules,rest⟩ ⟨j0,j1,hD,hrl,hrs,hr⟩
  simp only at j0 j1 hD hrl hrs hr⊢
  subst hr
  simp only
  refine Qo hD (by decide) fun q a q0 q1 hD=>Cnd.mk (fun hc=>⟨by rw [nl4];omega,fun y hy=> ?_⟩) fun _=>⟨hD,by omega,hrs,trivial⟩
  refine z30 (by simp only;omega) (v6r (fun s hs=> ?_) 2 (by omega) (by decide) (by decide) hD fun e a he hD=>w81 hD (by omega) (by omega) fun s a hs hD=>⟨by unfold Sml;simp;omega,?_⟩)
  ·obtain ⟨g,hg,rfl⟩:=List.mem_map.1 hs;exact (hsegs g hg).key
  have hrs':=Jq hrs (x:=Rul.mk y (Ex.mk e.1 e.2 e.3 e.4 e.5) s) ⟨nm4 y (getm hy),he.eta,hs⟩
  have hl':(rules++[Rul.mk y (Ex.mk e.1 e.2 e.3 e.4 e.5) s]).length=rules.length+1:=by simp
  have cut: ∀r∈List.take (((rules++[Rul.mk y (Ex.mk e.1 e.2 e.3 e.4 e.5) s]).length:Int) - 1).toNat (rules++[Rul.mk y (Ex.mk e.1 e.2 e.3 e.4 e.5) s]),RulS (1+m) r:=fun r hr=>hrs' r (List.mem_of_mem_take hr)
  generalize rules++[Rul.mk y (Ex.mk e.1 e.2 e.3 e.4 e.5) s]=rs at hrs' hl' cut⊢
  refine q9o (by omega) (fun r hr=>(hrs' r hr).cond) fun o n b ho=>Cnd.mk (fun _ _=>Cnd.mk (fun _ _=>⟨by unfold InI;omega,by omega,hD,by simp only [List.length_take];omega,cut,trivial⟩) fun _=>⟨by unfold InI;omega,⟨by omega,by omega,hD,by omega,hrs',trivial⟩,by omega⟩) fun _ _=>⟨by unfold InI;omega,by omega,hD,by simp only [List.length_take];omega,cut,trivial⟩
 ·
  refine Qo hD (by decide) fun n a n0 n1 hD=>j3m n0 (by simp only [List.length_cons,List.length_nil];omega) ?_
  have nms: ∀s∈List.take n.toNat [ByteArray.mk (Array.mk [108,97]),ByteArray.mk (Array.mk [108,98])],s.size<=100:=v2u (by decide)
  have hlen:(List.take n.toNat [ByteArray.mk (Array.mk [108,97]),ByteArray.mk (Array.mk [108,98])]).length<=2:=by
   rw [List.length_take];simp only [List.length_cons,List.length_nil];omega
  generalize List.take n.toNat _=ls at nms hlen
  have hf4:flags.length<=4:=by omega
  refine LpH.ind (fun (x:Int×Int×List Lay_×List Exper×List Seg×List Flg×Unit)=>0<=x.1/\x.1<=(ls.length:Int)/\DS list x.2.1/\(x.2.2.1.length:Int)=x.1/\(∀f∈x.2.2.1,LayS f)/\x.2.2.2=([],segs,flags,())) (fun x=>((ls.length:Int) - x.1).toNat) ?_ ⟨Int.le_refl 0,by simp,hD,rfl,by simp,rfl⟩
  rintro ⟨j,a,layers,rest⟩ ⟨j0,j1,hD,hll,hls,hr⟩
  simp only at j0 j1 hD hll hls hr⊢
  subst hr
  simp only
  intro _
  refine Cnd.mk (fun hc=>⟨by omega,fun y hy=>y5t hD (nms y (getm hy)) fun l a hl _ hD=>⟨by unfold Sml;simp;omega,by unfold InI;omega,⟨by omega,by omega,hD,by simp;omega,Jq hls hl,trivial⟩,by omega⟩⟩) fun _=> ?_
  refine Qo hD (by decide) fun n a n0 n1 hD=>j3m n0 (by simp only [List.length_cons,List.length_nil];omega) ?_
  have nmx: ∀s∈List.take n.toNat [ByteArray.mk (Array.mk [120,97]),ByteArray.mk (Array.mk [120,98]),ByteArray.mk (Array.mk [120,99])],s.size<=100:=v2u (by decide)
  have hxen:(List.take n.toNat [ByteArray.mk (Array.mk [120,97]),ByteArray.mk (Array.mk [120,98]),ByteArray.mk (Array.mk [120,99])]).length<=3:=by
   rw [List.length_take];simp only [List.length_cons,List.length_nil];omega
  generalize List.take n.toNat _=xs at nmx hxen
  have hl2:layers.length<=2:=by omega
  refine LpH.ind (fun (x:Int×Int×List Exper×List Flg×List Seg×List Lay_×Unit)=>0<=x.1/\x.1<=(xs.length:Int)/\DS list x.2.1/\(x.2.2.1.length:Int)<=x.1/\(∀f∈x.2.2.1,ExpS f)/\x.2.2.2=(flags,segs,layers,())) (fun x=>((xs.length:Int) - x.1).toNat) ?_ ⟨Int.le_refl 0,by simp,hD,by simp,by simp,rfl⟩
  rintro ⟨k,a,exps,rest⟩ ⟨k0,k1,hD,hxl,hxs,hr⟩
  simp only at k0 k1 hD hxl hxs hr⊢
  subst hr
  simp only
  intro _
  have hfin:=fun {a:Int} (hD:DS list a)=>fin (flags:=flags) (layers:=layers) (exps:=exps) hD hf4 hfs hl2 hls (by omega) hxs
  refine Cnd.mk (fun hc _=>Cnd.mk (fun hfl0 _=>Cnd.mk (fun hll0=>⟨by omega,fun y hy _=> ?_⟩) fun _=>hfin hD) fun _=>hfin hD) fun _=>hfin hD
  refine Qo hD (by omega) fun q a q0 q1 hD=>⟨by omega,fun f hf _ hfv=>Qo hD (by omega) fun q' a q0' q1' hD=>⟨by omega,fun l hl=>z6d hD fun t a ht hD=>Qo hD (by decide) fun u a u0 u1 hD=>⟨by unfold InI;omega,?_⟩⟩⟩
  have hF:=hfs f (getm hf)
  have hL:=hls l (getm hl)
  have hv1:=hF.vlen
  refine w80 hD (by omega) (by omega) fun arms a harms hD=> ?_
  refine Jn1.mk (fun (x:Int×Int×List Rng×List Exper×List Lay_×List Flg×List Seg×Unit)=>DS list x.2.1/\x.2.2=(arms,exps,layers,flags,segs,())) (Cnd.mk (fun _=>Qo hD (by decide) fun r a _ _ hD=>Cnd.mk (fun _=>⟨hD,rfl⟩) fun _=>⟨hD,rfl⟩) fun _=>⟨hD,rfl⟩) ?_
  rintro ⟨state,a,rest⟩ ⟨hD,hr⟩
  simp only at hD hr⊢
  subst hr
  simp only
  refine Jn1.mk (fun (x:Int×ByteArray×ByteArray×List Val×List Ex×Int×List Seg×List Flg×List Lay_×List Exper×List Rng×Unit)=>ExS 4 (Ex.mk x.1 x.2.1 x.2.2.1 x.2.2.2.1 x.2.2.2.2.1)/\DS list x.2.2.2.2.2.1/\x.2.2.2.2.2.2=(segs,flags,layers,exps,arms,())) (Qo hD (by decide) fun r a _ _ hD=>Cnd.mk (fun _=>z30 (by simp only;omega) (v6r (fun s hs=> ?_) 2 (by omega) (by decide) (by decide) hD fun e a he hD=>⟨he.eta,hD,rfl⟩)) fun _=>⟨u9s,hD,rfl⟩) ?_
  ·obtain ⟨g,hg,rfl⟩:=List.mem_map.1 hs;exact (hsegs g hg).key
  rintro ⟨e1,e2,e3,e4,e5,a,rest⟩ ⟨he,hD,hr⟩
  simp only at he hD hr⊢
  subst hr
  simp only
  refine y00 fun sp _ _=>q5s hD (by decide) fun w a _ _ hD=>q5s hD (by decide) fun w' a _ _ hD=>j7q fun sq _=>q5s hD (by decide) fun w2 a w20 w21 hD=>v6t (by omega) fun cl hcl=> ?_
  have hxs':=Jq hxs (x:=Exper.mk y l.1 f.1 t state cl arms (Ex.mk e1 e2 e3 e4 e5)) ⟨nmx y (getm hy),hL.key,hF.key,hcl,⟨harms.1,fun r hr=>by obtain ⟨p,q,s,t⟩:=harms.2 r hr;exact ⟨p,q,s,by omega⟩⟩,he⟩
  have hl':(exps++[Exper.mk y l.1 f.1 t state cl arms (Ex.mk e1 e2 e3 e4 e5)]).length=exps.length+1:=by simp
  have cut: ∀r∈List.take (((exps++[Exper.mk y l.1 f.1 t state cl arms (Ex.mk e1 e2 e3 e4 e5)]).length:Int) - 1).toNat (exps++[Exper.mk y l.1 f.1 t state cl arms (Ex.mk e1 e2 e3 e4 e5)]),ExpS r:=fun r hr=>hxs' r (List.mem_of_mem_take hr)
  generalize exps++[Exper.mk y l.1 f.1 t state cl arms (Ex.mk e1 e2 e3 e4 e5)]=xs' at hxs' hl' cut⊢
  have hv:EnvS (Envt.mk (Sett.mk salt hkind hold) ds segs flags layers xs'):=⟨hhk,hat,hsl,hsegs,hf4,hfs,hl2,hls,by simp only;omega,hxs'⟩
  refine ⟨by unfold Sml;omega,j7t hv fun b=>Cnd.mk (fun _=>⟨by unfold InI;omega,⟨by omega,by omega,hD,by omega,hxs',trivial⟩,by omega⟩) fun _ _=>⟨by unfold InI;omega,by omega,by unfold InI;omega,⟨by omega,by omega,hD,by simp only [List.length_take];omega,cut,trivial⟩,by omega⟩⟩
end Go.En
end
noncomputable section
set_option maxRecDepth 100000
namespace Go.En
open Go Go.Fl Go.Fl.Lk Go.Fx Go.Sg
theorem y58 {codes who:List Int} {s:Subj} {key:ByteArray} {K:Bool->Prop} (hc:Byts codes) (hw:Byts who) (hs:SubB s) (h:K true):Jo codes who s key K:=by
 unfold Jo R5
 refine u2p (Cnd.yes rfl fun _=>Cnd.mk (fun _=>h) fun _=> ?_)
 refine y3k hc (by decide) (by decide) fun cl hD=>j9h hD fun v a hE hG _=>y3k hw (by decide) (by decide) fun wl hD2=> ?_
 refine v7f hD2 fun q _ hs1 hs2 _=> ?_
 have hq:=w9a hs1 hs2
 have hn3:v.3.length<=3:=hE.slen
 change GS v.3 at hG
 have hB:SegB v.3:=u0f (by omega) fun g hg=>by
  obtain ⟨i,hi⟩:=List.getElem?_of_mem hg
  exact ⟨_,hG.cond i g hi⟩
 have hall: ∀y∈[Subj.mk q.1,Subj.mk s.1],SubB (Subj.mk y.1):=fun y hy=>by
  rcases List.mem_cons.1 hy with rfl|hy
  ·exact hq
  ·rw [List.mem_singleton.1 hy];exact hs
 have hln:[Subj.mk q.1,Subj.mk s.1].length=2:=rfl
 generalize [Subj.mk q.1,Subj.mk s.1]=L at hall hln⊢
 refine Lp2.ind (fun (i:Int) (l:List Subj)=>0<=i/\i<=2/\l=L) (fun (i:Int) _=>(2 - i).toNat) ?_ ⟨by omega,by omega,rfl⟩
 rintro i l ⟨i0,i1,rfl⟩
 refine Cnd.mk (fun hc=>⟨by omega,fun y hy=> ?_⟩) fun _=>h
 have hy:=hall y (getm hy)
 refine q3p hB hy fun m hm=>w7a hB hy fun m' hm'=>w83 fun r hr=>Cnd.yes (hr.2 (hm.uniq hm')) ?_
 have has: ∀{k:ByteArray} {A B:Prop},A->Jf v.3 (Subj.mk y.1) k fun x=>Je m k fun z=>Cnd (x=z) A B:=fun hA=>
  q1x hB hy fun m2 hm2=>G5 fun r hr=>Cnd.yes (by rw [hm2.uniq hm,j7x hr]) hA
 refine Lp3.ind (fun (j:Int) (p:List ByteArray) (l2:List Subj)=>0<=j/\j<=v.3.length/\p=m/\l2=l) (fun (j:Int) _ _=>(v.3.length - j).toNat) ?_ ⟨by omega,by omega,rfl,rfl⟩
 rintro j p l2 ⟨j0,j1,rfl,rfl⟩ _
 exact Cnd.mk (fun hc=>⟨by omega,fun g hg=>has ⟨by unfold InI;omega,⟨by omega,by omega,rfl,rfl⟩,by omega⟩⟩) fun _=>has ⟨by unfold InI;omega,⟨by omega,by omega,rfl⟩,by omega⟩
end Go.En
end
noncomputable section
set_option maxRecDepth 100000
namespace Go.En
open Go Go.RowKit Go.Fl Go.Fl.Lk Go.Fx
open Go.Proofs.YthpeboomdlgfaaaGreatDoor.Rows (uptoBulk uptoBulkAll)
section
variable {H:Type} {enc:TypeId×Value->H} {W:World} {base:Nat} {spare:Nat->Bool} {held:Bool}
theorem u2r (d:DataW H):1<=uptoBulk d:=by
 cases d with
 |lit l=>cases l<;>simp [uptoBulk]
 |_=>simp [uptoBulk]
theorem u2s (l:List (DataW H)):l.length<=uptoBulkAll l:=by
 induction l with
 |nil=>simp
 |cons d l ih=>have:=u2r d;simp only [List.length_cons,uptoBulkAll];omega
theorem u6c {l:List (DataW H)} {i:Nat} {d:DataW H} (h:l[i]? =some d):uptoBulk d<=uptoBulkAll l:=by
 induction l generalizing i with
 |nil=>simp at h
 |cons a l ih=>
  cases i with
  |zero=>simp at h;subst h;simp only [uptoBulkAll];omega
  |succ i=>have:=ih (i:=i) (by simpa using h);simp only [uptoBulkAll];omega
theorem u3t {α:Type} {f:α->Nat}: ∀{l:List α} {ds:List (DataW H)},l.length=ds.length->(∀(i:Nat) y d,l[i]? =some y->ds[i]? =some d->f y<=uptoBulk d)->(l.map f).sum<=uptoBulkAll ds
 |[],_,_,_=>by simp
 |y::l,[],h,_=>by simp at h
 |y::l,d::ds,h,hk=>by
  have h0:=hk 0 y d rfl rfl
  have h1:=u3t (l:=l) (ds:=ds) (by simpa using h) fun i y d hy hd=>hk (i+1) y d (by simpa using hy) (by simpa using hd)
  simp only [List.map_cons,List.sum_cons,uptoBulkAll];omega
theorem u0i {T:Sg.C} {e t:TypeId} {fuel:Nat} {cs:List Value} {x:DataW H×List MemPlace} {f:Sg.car T->Nat} {A:Sg.car T->Prop} (hu:Proofs.Tryz.prog.underlying t=some (.slice e)) (hc:Proofs.Tryz.prog.cellsOf e=D.size T)
  (hel: ∀n cs x,fuel=n+1->cs.length=D.size T->DataW.trod enc Proofs.Tryz.prog W base spare held n e cs=some x->uptoBulk x.1<=1048576-> ∃y,RowF D (hv W) cs (D.shape T y)/\f y<=uptoBulk x.1/\A y)
  (h:DataW.trod enc Proofs.Tryz.prog W base spare held fuel t cs=some x) (hb:uptoBulk x.1<=1048576):
  ∃(l:List (Sg.car T)) (v:Value),cs=[v]/\RepF D (hv W) v (.sl T l)/\(l.map f).sum+1<=uptoBulk x.1/\l.length<=uptoBulk x.1/\ ∀y∈l,A y:=by
 rcases DataW.trod_slice hu h with ⟨rfl,rfl⟩|⟨a,len,cap,Ur,rest,n,hfu,rfl,rfl,_,hl,_,hlen,hE,_,_⟩
 ·exact ⟨[],_,rfl,Jt T,by simp [uptoBulk],by simp,by simp⟩
 ·have hbb:uptoBulkAll (Ur.map (·.1))+1<=uptoBulk (DataW.slice (Ur.map (·.1)) (rest.map (·.1))):=by simp only [uptoBulk];omega
  have hel0:=u2s (Ur.map (·.1))
  rw [List.length_map] at hel0
  have hb1:uptoBulk (DataW.slice (Ur.map (·.1)) (rest.map (·.1)))<=1048576:=hb
  obtain ⟨l,hl1,hl2⟩:=y8u (α:=Sg.car T) (Q:=fun i y=> ∃cs d,(Ur.map (·.1))[i]? =some d/\cs.length=D.size T/\VRow (hv W) (a.add (i*D.size T)) cs/\RowF D (hv W) cs (D.shape T y)/\f y<=uptoBulk d/\A y) len (fun i hi=>by
   have h1:=hE i hi
   rw [hc] at h1
   have h0:Ur[i]? =some Ur[i]:=List.getElem?_eq_getElem (by omega)
   rw [h0] at h1
   obtain ⟨cs,h3,h4⟩:=Option.bind_eq_some_iff.1 h1
   obtain ⟨h5,h6⟩:=y8t h3
   have h7:(Ur.map (·.1))[i]? =some Ur[i].1:=by rw [List.getElem?_map,h0];rfl
   have h8:=u6c h7
   obtain ⟨y,hy,hm,hA⟩:=hel _ _ _ hfu h5 h4 (by omega)
   exact ⟨y,cs,_,h7,h5,h6,hy,hm,hA⟩)
  refine ⟨l,_,rfl,?_,?_,?_,fun y hy=> ?_⟩
  ·have:=RepF.ofRSl okP.ok (D:=D) (σ:=hv W) (v:= .slice (some a) l.length cap) (T:=T) (l:=l) ⟨some a,cap,rfl,by omega,by omega,fun i x hx=>by
    obtain ⟨cs,d,_,h1,h2,h3,_⟩:=hl2 i x hx
    exact ⟨a,cs,rfl,h1,h2,h3⟩⟩
   rw [hl1] at this;exact this
  ·have:=u3t (f:=f) (l:=l) (ds:=Ur.map (·.1)) (by rw [hl1,List.length_map,hlen]) fun i y d hy hd=>by
    obtain ⟨_,d',h1,_,_,_,h2,_⟩:=hl2 i y hy
    rw [hd] at h1;cases h1;exact h2
   simp only;omega
  ·simp only;omega
  ·obtain ⟨i,hi⟩:=List.getElem?_of_mem hy
   obtain ⟨_,_,_,_,_,_,_,hA⟩:=hl2 i y hi
   exact hA
theorem w5e {fuel:Nat} {cs:List Value} {x:DataW H×List MemPlace} (h:DataW.trod enc Proofs.Tryz.prog W base spare held fuel 9 cs=some x): ∃s:ByteArray,cs=[.string s]/\s.size+1<=uptoBulk x.1:=by
 obtain ⟨s,rfl,rfl,_⟩:=DataW.trod_string Proofs.Tryz.underlying9 h
 refine ⟨s,rfl,?_⟩
 have:s.data.toList.length=s.size:=rfl
 simp only [uptoBulk];omega
theorem u2t {fuel:Nat} {cs:List Value} {x:DataW H×List MemPlace} (h:DataW.trod enc Proofs.Tryz.prog W base spare held fuel 30 cs=some x) (hb:uptoBulk x.1<=1048576): ∃(l:List ByteArray) (v:Value),cs=[v]/\RepF D (hv W) v (.sl C.str l)/\l.length<=uptoBulk x.1:=by
 obtain ⟨l,v,h1,h2,_,h3,_⟩:=u0i (T:=C.str) (f:=fun _=>0) (A:=fun _=>True) Proofs.Tryz.underlying30 (by kernel_rfl) (fun n cs x _ _ hx _=>by
  obtain ⟨s,rfl,_⟩:=w5e hx
  exact ⟨s,Qc (.str _) Jn,Nat.zero_le _,trivial⟩) h hb
 exact ⟨l,v,h1,h2,h3⟩
theorem u6d {fuel:Nat} {cs:List Value} {x:DataW H×List MemPlace} (hl:cs.length=4) (h:DataW.trod enc Proofs.Tryz.prog W base spare held fuel 112 cs=some x) (hb:uptoBulk x.1<=1048576): ∃y:Val,RowF D (hv W) cs (D.shape .val y)/\1+y.4.length<=uptoBulk x.1/\y.3.size<=1048576/\y.4.length<=1048576:=by
 obtain ⟨xs,m,hfu,rfl,_,hn,hf⟩:=DataW.trod_struct Proofs.Tryz.underlying112 h
 have c3:Proofs.Tryz.prog.cellsOf 3=1:=by kernel_rfl
 have c9:Proofs.Tryz.prog.cellsOf 9=1:=by kernel_rfl
 have c30:Proofs.Tryz.prog.cellsOf 30=1:=by kernel_rfl
 match xs,hn with
 |[z0,z1,z2,z3],_=>
 have q0:=hf 0 _ rfl
 have q1:=hf 1 _ rfl
 have q2:=hf 2 _ rfl
 have q3:=hf 3 _ rfl
 match cs,hl with
 |[u0,u1,u2,u3],_=>
 simp only [List.map_cons,List.map_nil,uptoBulk,uptoBulkAll] at hb
 change DataW.trod enc Proofs.Tryz.prog W base spare held m 3 (List.take (Proofs.Tryz.prog.cellsOf 3) [u0,u1,u2,u3])=some z0 at q0
 rw [c3] at q0
 change DataW.trod enc Proofs.Tryz.prog W base spare held m 3 [u0]=some z0 at q0
 obtain ⟨a0,e0,g0,_⟩:=DataW.trod_int Proofs.Tryz.underlying3 q0
 change DataW.trod enc Proofs.Tryz.prog W base spare held m 3 (List.take (Proofs.Tryz.prog.cellsOf 3) [u1,u2,u3])=some z1 at q1
 rw [c3] at q1
 change DataW.trod enc Proofs.Tryz.prog W base spare held m 3 [u1]=some z1 at q1
 obtain ⟨a1,e1,g1,_⟩:=DataW.trod_int Proofs.Tryz.underlying3 q1
 change DataW.trod enc Proofs.Tryz.prog W base spare held m 9 (List.take (Proofs.Tryz.prog.cellsOf 9) [u2,u3])=some z2 at q2
 rw [c9] at q2
 change DataW.trod enc Proofs.Tryz.prog W base spare held m 9 [u2]=some z2 at q2
 obtain ⟨a2,e2,g2⟩:=w5e q2
 change DataW.trod enc Proofs.Tryz.prog W base spare held m 30 (List.take (Proofs.Tryz.prog.cellsOf 30) [u3])=some z3 at q3
 rw [c30] at q3
 change DataW.trod enc Proofs.Tryz.prog W base spare held m 30 [u3]=some z3 at q3
 obtain ⟨a3,v3,e3,r3,g3⟩:=u2t q3 (by omega)
 simp only [List.cons.injEq,and_true] at e0
 subst e0
 subst g0
 simp only [List.cons.injEq,and_true] at e1
 subst e1
 subst g1
 simp only [List.cons.injEq,and_true] at e2
 subst e2
 simp only [List.cons.injEq,and_true] at e3
 subst e3
 refine ⟨Val.mk a0 a1 a2 a3,(Qc (.int _ _) (Qc (.int _ _) (Qc (.str _) (Qc r3 Jn)))),?_⟩
 simp only [List.map_cons,List.map_nil,uptoBulk,uptoBulkAll] at hb⊢
 exact ⟨by omega,by omega,by omega⟩
theorem u2u {fuel:Nat} {cs:List Value} {x:DataW H×List MemPlace} (hl:cs.length=5) (h:DataW.trod enc Proofs.Tryz.prog W base spare held fuel 157 cs=some x) (hb:uptoBulk x.1<=1048576): ∃y:Attr,RowF D (hv W) cs (D.shape .attr y)/\y.value.list.length<=1048576/\y.value.text.size<=1048576:=by
 obtain ⟨xs,m,hfu,rfl,_,hn,hf⟩:=DataW.trod_struct Proofs.Tryz.underlying157 h
 have c9:Proofs.Tryz.prog.cellsOf 9=1:=by kernel_rfl
 have c112:Proofs.Tryz.prog.cellsOf 112=4:=by kernel_rfl
 match xs,hn with
 |[z0,z1],_=>
 have q0:=hf 0 _ rfl
 have q1:=hf 1 _ rfl
 match cs,hl with
 |[u0,u1,u2,u3,u4],_=>
 simp only [List.map_cons,List.map_nil,uptoBulk,uptoBulkAll] at hb
 change DataW.trod enc Proofs.Tryz.prog W base spare held m 9 (List.take (Proofs.Tryz.prog.cellsOf 9) [u0,u1,u2,u3,u4])=some z0 at q0
 rw [c9] at q0
 change DataW.trod enc Proofs.Tryz.prog W base spare held m 9 [u0]=some z0 at q0
 obtain ⟨a0,e0,g0⟩:=w5e q0
 change DataW.trod enc Proofs.Tryz.prog W base spare held m 112 (List.take (Proofs.Tryz.prog.cellsOf 112) [u1,u2,u3,u4])=some z1 at q1
 rw [c112] at q1
 change DataW.trod enc Proofs.Tryz.prog W base spare held m 112 [u1,u2,u3,u4]=some z1 at q1
 obtain ⟨a1,r1,g1⟩:=u6d rfl q1 (by omega)
 simp only [List.cons.injEq,and_true] at e0
 subst e0
 refine ⟨Attr.mk a0 a1,(Qc (.str _) r1),?_⟩
 exact ⟨g1.2.2,g1.2.1⟩
theorem u6e {fuel:Nat} {cs:List Value} {x:DataW H×List MemPlace} (hl:cs.length=3) (h:DataW.trod enc Proofs.Tryz.prog W base spare held fuel 63 cs=some x) (hb:uptoBulk x.1<=1048576): ∃y:Ctxt,RowF D (hv W) cs (D.shape .ctx y)/\y.attrs.length<=1048576/\(∀a∈y.attrs,a.value.list.length<=1048576/\a.value.text.size<=1048576)/\y.key.size<=1048576:=by
 obtain ⟨xs,m,hfu,rfl,_,hn,hf⟩:=DataW.trod_struct Proofs.Tryz.underlying63 h
 have c9:Proofs.Tryz.prog.cellsOf 9=1:=by kernel_rfl
 have c61:Proofs.Tryz.prog.cellsOf 61=1:=by kernel_rfl
 match xs,hn with
 |[z0,z1,z2],_=>
 have q0:=hf 0 _ rfl
 have q1:=hf 1 _ rfl
 have q2:=hf 2 _ rfl
 match cs,hl with
 |[u0,u1,u2],_=>
 simp only [List.map_cons,List.map_nil,uptoBulk,uptoBulkAll] at hb
 change DataW.trod enc Proofs.Tryz.prog W base spare held m 9 (List.take (Proofs.Tryz.prog.cellsOf 9) [u0,u1,u2])=some z0 at q0
 rw [c9] at q0
 change DataW.trod enc Proofs.Tryz.prog W base spare held m 9 [u0]=some z0 at q0
 obtain ⟨a0,e0,g0⟩:=w5e q0
 change DataW.trod enc Proofs.Tryz.prog W base spare held m 9 (List.take (Proofs.Tryz.prog.cellsOf 9) [u1,u2])=some z1 at q1
 rw [c9] at q1
 change DataW.trod enc Proofs.Tryz.prog W base spare held m 9 [u1]=some z1 at q1
 obtain ⟨a1,e1,g1⟩:=w5e q1
 change DataW.trod enc Proofs.Tryz.prog W base spare held m 61 (List.take (Proofs.Tryz.prog.cellsOf 61) [u2])=some z2 at q2
 rw [c61] at q2
 change DataW.trod enc Proofs.Tryz.prog W base spare held m 61 [u2]=some z2 at q2
 obtain ⟨a2,v2,e2,r2,g2,b2,A2⟩:=u0i (T:=C.attr) (f:=fun _=>0) (A:=fun a:Attr=>a.value.list.length<=1048576/\a.value.text.size<=1048576) Proofs.Tryz.underlying61 (by kernel_rfl) (fun n cs x _ hl hx hb=>by
  obtain ⟨y,h1,h2⟩:=u2u hl hx hb
  exact ⟨y,h1,Nat.zero_le _,h2⟩) q2 (by omega)
 simp only [List.cons.injEq,and_true] at e0
 subst e0
 simp only [List.cons.injEq,and_true] at e1
 subst e1
 simp only [List.cons.injEq,and_true] at e2
 subst e2
 refine ⟨Ctxt.mk a0 a1 a2,(Qc (.str _) (Qc (.str _) (Qc r2 Jn))),?_⟩
 exact ⟨by simp only;omega,A2,by simp only;omega⟩
theorem u2v {fuel:Nat} {cs:List Value} {x:DataW H×List MemPlace} (hl:cs.length=1) (h:DataW.trod enc Proofs.Tryz.prog W base spare held fuel 44 cs=some x) (hb:uptoBulk x.1<=1048576): ∃y:Subj,RowF D (hv W) cs (D.shape .subj y)/\SubB y:=by
 obtain ⟨xs,m,hfu,rfl,_,hn,hf⟩:=DataW.trod_struct Proofs.Tryz.underlying44 h
 have c42:Proofs.Tryz.prog.cellsOf 42=1:=by kernel_rfl
 match xs,hn with
 |[z0],_=>
 have q0:=hf 0 _ rfl
 match cs,hl with
 |[u0],_=>
 simp only [List.map_cons,List.map_nil,uptoBulk,uptoBulkAll] at hb
 change DataW.trod enc Proofs.Tryz.prog W base spare held m 42 (List.take (Proofs.Tryz.prog.cellsOf 42) [u0])=some z0 at q0
 rw [c42] at q0
 change DataW.trod enc Proofs.Tryz.prog W base spare held m 42 [u0]=some z0 at q0
 obtain ⟨a0,v0,e0,r0,g0,b0,A0⟩:=u0i (T:=C.ctx) (f:=fun _=>0) (A:=fun c:Ctxt=>c.attrs.length<=1048576/\(∀a∈c.attrs,a.value.list.length<=1048576/\a.value.text.size<=1048576)/\c.key.size<=1048576) Proofs.Tryz.underlying42 (by kernel_rfl) (fun n cs x _ hl hx hb=>by
  obtain ⟨y,h1,h2⟩:=u6e hl hx hb
  exact ⟨y,h1,Nat.zero_le _,h2⟩) q0 (by omega)
 simp only [List.cons.injEq,and_true] at e0
 subst e0
 refine ⟨Subj.mk a0,(Qc r0 Jn),?_⟩
 exact ⟨by simp only;omega,fun c hc=>by have:=(A0 c hc).1;omega,fun c hc a ha=>by have:=(A0 c hc).2.1 a ha;omega,fun c hc=>by have:=(A0 c hc).2.2;omega⟩
end
end Go.En
end
section
namespace Go.En
open Go Go.RowKit Go.Fl Go.Fx
/-- Bytes as numbers. -/
def u8s (l : List UInt8) : List Int := l.map fun b => ((b.toNat : Nat) : Int)
theorem u3u {l : List UInt8} : Byts (u8s l) := fun x hx => by
  obtain ⟨b, _, rfl⟩ := List.mem_map.1 hx
  have := b.toNat_lt
  exact ⟨by omega, by omega⟩
theorem u77 {σ : Hv} {v : Value} {l : List UInt8} (h : RSl 1 RU8 σ v l) : RSl (D.size C.u8) (ElF D C.u8) σ v (u8s l) := by
  obtain ⟨a, cap, rfl, h1, h2, h3⟩ := h
  refine ⟨a, cap, by simp [u8s], by simpa [u8s] using h1, by simpa [u8s] using h2, fun i x hx => ?_⟩
  simp only [u8s, List.getElem?_map, Option.map_eq_some_iff] at hx
  obtain ⟨b, hb, rfl⟩ := hx
  obtain ⟨ad, cs, e1, e2, e3, e4⟩ := h3 i b hb
  have e4 : cs = _ := e4
  subst e4
  exact ⟨ad, _, e1, rfl, e3, Qc (.int _ _) Jn⟩
theorem z4c (x0 : List UInt8) (x1 : List UInt8) (x2 : Subj) (x3 : ByteArray) {v0 : Value} {v1 : Value} {v2 : List Value} {σ : Hv} {w : World} (hV : View σ w) (hG : Glb D σ) (rd0 : RSl 1 RU8 σ v0 x0) (rd1 : RSl 1 RU8 σ v1 x1) (rd2 : RowF D σ v2 (D.shape C.subj x2)) (h : ∀ K : Bool → Prop, K true → Jo (u8s x0) (u8s x1) x2 x3 K) :
    Calls Go.Proofs.Tryz.prog 4 #[v0, v1, .agg v2.toArray, .string x3] w fun e w1 => ∃ r, e = .returned (.bool r) ∧ Grow [] σ w σ w1 ∧ r = true := by
  have he : (R7 Jo).m ([.f (.sl C.u8 (u8s x0)), .f (.sl C.u8 (u8s x1)), .el C.subj x2, .f (.str x3)] : List (Fx.Tr Sg)) (fun rets _ => rets = [.f (.bool true)]) = Jo (u8s x0) (u8s x1) x2 x3 (fun b => ([.f (.bool b)] : List (Fx.Tr Sg)) = [.f (.bool true)]) := by kernel_rfl
  have hp : (R7 Jo).m ([.f (.sl C.u8 (u8s x0)), .f (.sl C.u8 (u8s x1)), .el C.subj x2, .f (.str x3)] : List (Fx.Tr Sg)) (fun rets _ => rets = [.f (.bool true)]) := Eq.mpr he (h _ rfl)
  have hm := z4a _ _ hp w σ [v0, v1, .agg v2.toArray, .string x3] [] hG (LayL.cons (ms := []) (.f (RepF.ofRSl okP.ok (u77 rd0))) (LayL.cons (ms := []) (.f (RepF.ofRSl okP.ok (u77 rd1))) (LayL.cons (ms := []) (.el rd2) (LayL.cons (ms := []) (.f (.str _)) .nil)))) (St.start hV)
  refine Calls.mono hm ?_
  rintro e w1 ⟨rets, outs, rv, σ1, msr, mso, rfl, hK, hLr, _, hS⟩
  subst hK
  cases hLr with
  | cons h1 hn =>
  cases hn
  cases h1 with
  | f hf =>
  cases hf
  exact ⟨true, rfl, hS.done.forget, rfl⟩
end Go.En
namespace Go.Proofs.YthpeboomdlgfaaaGreatDoor.segmentMembersUpto
open Go Go.RowKit Go.Fl Go.ChangeShapes Go.WideShapes Go.ChangeAt
open Go.ChangeMaps (open_string shut_string)
theorem own : ownKnob Tryz.prog.godebug = none := by kernel_rfl
theorem laidOut : laidOutB Tryz.prog = true := by kernel_rfl
set_option maxRecDepth 100000 in
theorem contract (H : Type) (enc : TypeId × Value → H) (W : World) (base : Nat) (args : Array Value) (ds gs : List (DataW H)) (before : List MemPlace)
    (hval : ∀ (j : Nat) t v, Tryz.f4.params[j]? = some t → args[j]? = some v → Value.okWide Tryz.prog W .any base t v)
    (hW : DataW.Whole enc Tryz.prog Tryz.f4.params.toList Rows.segmentMembersSpec.vars false W args.toList ds gs before)
    (hsz : (DataW.weightsEach Tryz.prog (Tryz.f4.params.toList ++ (Rows.OpenSpec.upto Rows.segmentMembersSpec).bare.plain.varTypes Tryz.prog) (ds ++ gs)).all (· ≤ reachBytes) = true)
    (hL : laidMetH Tryz.prog Rows.segmentMembersUptoRow.laid W) (hsh : W.ShapedOpen Tryz.prog) (hcnd : ∀ k, (Rows.OpenSpec.upto Rows.segmentMembersSpec).cond = some k → k H (ds ++ gs) = true) :
    Calls Tryz.prog 4 args W fun e W' => ∃ v, e = .returned v ∧ Rows.segmentMembersSpec.post enc Tryz.prog Tryz.f4 false true false false W args v W' := by
  have hG : Go.Fx.Glb Go.En.D (hv W) := Go.En.v8v hL hsh
  have hW' := hW
  obtain ⟨p, q, hA0, hV, rfl, hfz, hnd⟩ := hW
  have hA : DataW.TrodAll enc Tryz.prog W 0 (fun _ => true) true Tryz.f4.params.toList args.toList ds p := hA0
  rw [Tryz.params4] at hA hval hsz
  obtain ⟨v0, vs0, d0, ds0, p0, q0, hargs, rfl, rfl, h0, r0⟩ := trodAll_cons hA
  obtain ⟨v1, vs1, d1, ds1, p1, q1, rfl, rfl, rfl, h1, r1⟩ := trodAll_cons r0
  obtain ⟨v2, vs2, d2, ds2, p2, q2, rfl, rfl, rfl, h2, r2⟩ := trodAll_cons r1
  obtain ⟨v3, vs3, d3, ds3, p3, q3, rfl, rfl, rfl, h3, r3⟩ := trodAll_cons r2
  obtain ⟨rfl, rfl, rfl⟩ := trodAll_nil r3
  obtain rfl : args = #[v0, v1, v2, v3] := by cases args; simp_all
  obtain ⟨rfl, rfl⟩ := trodVars_none hV
  have hbk : Rows.uptoBulkAll ([d0, d1, d2, d3] ++ ([] : List (DataW H))) ≤ 1048576 := of_decide_eq_true (hcnd _ rfl)
  simp only [List.cons_append, List.nil_append, Rows.uptoBulkAll] at hbk
  have k0 := h0
  have lt0 : ∀ x ∈ p0, x.block < W.heap.size := by obtain ⟨m, hm⟩ := k0; exact DataW.trod_lt m _ _ _ hm
  obtain ⟨x0, rd0⟩ := u7p Tryz.underlying22 Tryz.underlying5 (by kernel_rfl) (of_decide_eq_true (by kernel_rfl)) (hval 0 22 v0 rfl rfl) h0 (y2q hsz (j := 0) (t := 22) rfl rfl)
  have k1 := h1
  have lt1 : ∀ x ∈ p1, x.block < W.heap.size := by obtain ⟨m, hm⟩ := k1; exact DataW.trod_lt m _ _ _ hm
  obtain ⟨x1, rd1⟩ := u7p Tryz.underlying22 Tryz.underlying5 (by kernel_rfl) (of_decide_eq_true (by kernel_rfl)) (hval 1 22 v1 rfl rfl) h1 (y2q hsz (j := 1) (t := 22) rfl rfl)
  have k2 := h2
  have lt2 : ∀ x ∈ p2, x.block < W.heap.size := by obtain ⟨m, hm⟩ := k2; exact DataW.trod_lt m _ _ _ hm
  obtain ⟨c2, rfl, z2⟩ := okWide_struct Tryz.underlying44 (hval 2 44 v2 rfl rfl)
  have hz2 : (Tryz.prog.cellsOf 44) = 1 := by kernel_rfl
  obtain ⟨m2, hm2⟩ := k2
  have hm2 : DataW.trod enc Tryz.prog W 0 (fun _ => true) true m2 44 c2.toList = some (d2, p2) := hm2
  obtain ⟨x2, rd2, sz2⟩ := Go.En.u2v (by rw [Array.length_toList, z2, hz2]) hm2 (by simp only; omega)
  obtain ⟨x3, rfl, rfl, rfl, wx3⟩ := open_string Tryz.underlying9 (hval 3 9 v3 rfl rfl) h3
  refine (Go.En.z4c x0 x1 x2 x3 (u5l W) hG rd0 rd1 rd2 (fun _ hk => Go.En.y58 Go.En.u3u Go.En.u3u sz2 hk)).mono fun e W' he => ?_
  obtain ⟨r, rfl, hg, hr⟩ := he
  have hrt : r = true := hr
  subst hrt
  have bel := u17 hg.keeps
  exact ⟨_, rfl, _, _, _, [], _, [], hW', trodAll_mk1 (shut_bool Tryz.underlying4 _), (trodAll_cons_mk (Below.trod laidOut (by kernel_rfl) (of_decide_eq_true (by kernel_rfl)) k0 bel lt0) (trodAll_cons_mk (Below.trod laidOut (by kernel_rfl) (of_decide_eq_true (by kernel_rfl)) k1 bel lt1) (trodAll_cons_mk (Below.trod laidOut (by kernel_rfl) (of_decide_eq_true (by kernel_rfl)) h2 bel lt2) (trodAll_cons_mk (shut_string Tryz.underlying9 wx3) trodAll_mk0)))), rfl, bel.frame _, fun h => by cases h⟩
theorem reads (os : Os) {H : Type} (enc : TypeId × Value → H) : ∃ places, DataW.whole enc Tryz.prog ((World.laidAll Tryz.prog os Rows.segmentMembersUptoRow.laid).forCall (fun _ _ => 0) ⟨#[], #[.slice none 0 0, .slice none 0 0, .agg #[.slice none 0 0], .string ⟨#[]⟩], []⟩).memory Tryz.f4.params.toList Rows.segmentMembersSpec.vars false (#[.slice none 0 0, .slice none 0 0, .agg #[.slice none 0 0], .string ⟨#[]⟩] : Array Value).toList 8 = some ([.nil, .nil, .agg [.nil], .lit (.string [])], [], places) :=
  ⟨[], by kernel_rfl⟩
set_option maxRecDepth 100000 in
theorem lifted (os : Os) (started : os.Started) (H : Type) (enc : TypeId × Value → H) (F : Stop.Interp) :
    ReturnsInHanded {} Tryz.checked os 4 .any ((Rows.OpenSpec.upto Rows.segmentMembersSpec).preRow enc Tryz.prog Tryz.f4 Rows.segmentMembersUptoRow.domain false Rows.segmentMembersUptoRow.laid) (((Rows.OpenSpec.upto Rows.segmentMembersSpec).at F).post enc Tryz.prog Tryz.f4 false true false false) := by
  obtain ⟨places, hx⟩ := reads os enc
  refine returnsInHanded_of_row (C := Tryz.checked) (s := (Rows.OpenSpec.upto Rows.segmentMembersSpec)) own started (by kernel_rfl) Tryz.func4
    (witness_row_atRef (enc := enc) (C := Tryz.checked) false (World.laidAll Tryz.prog os Rows.segmentMembersUptoRow.laid) #[.slice none 0 0, .slice none 0 0, .agg #[.slice none 0 0], .string ⟨#[]⟩] (World.laidAll_os _ _ _) (by kernel_rfl) (by kernel_rfl) (by kernel_rfl)
      (OpenSpec.preRow_of_cond 8 hx (by kernel_rfl) (fun k hk => by cases hk; kernel_rfl) (by kernel_rfl) (by rw [MakeChecks.laidMetH_plain _ _ _ (by kernel_rfl)]; exact laidMet_laidAll _ (by kernel_rfl) (by kernel_rfl)))) ?_
  intro W base args ds gs before hval hW _ hcnd hsz hL hsh _
  exact contract H enc W base args ds gs before hval hW hsz hL hsh hcnd
theorem u2w : (Rows.segmentMembersUptoRow.inPlace == Tryz.pinned.checked.prog.inPlace 4) = true := by kernel_rfl
theorem kUnf : (Rows.segmentMembersUptoRow.unfollowed == Tryz.pinned.checked.prog.unfollowed 4) = true := by kernel_rfl
theorem kRec : (Rows.segmentMembersUptoRow.recurses == Tryz.pinned.checked.prog.recurses 4) = true := by kernel_rfl
theorem u78 : (Rows.segmentMembersUptoRow.named == Tryz.pinned.checked.prog.varsNamed 4) = true := by kernel_rfl
theorem closed : joinedFacts Tryz.pinned.checked.prog 4 Tryz.f4 (Rows.OpenSpec.upto Rows.segmentMembersSpec).bare Rows.segmentMembersUptoRow = true := by
  unfold joinedFacts
  rw [u2w, kUnf, kRec, u78]
  kernel_rfl
theorem said : Rows.SegmentMembersUptoSaid :=
  OpenClaim.holds_of_cond 4 Tryz.f4 rfl rfl rfl rfl rfl rfl rfl ⟨rfl, rfl, rfl, rfl, rfl⟩ rfl rfl rfl rfl rfl (by kernel_rfl) Tryz.func4 closed
    (of_decide_eq_true (by kernel_rfl)) (by unfold Func.isWrapper; first | (rw [if_pos (by decide +kernel)]; kernel_rfl) | (rw [if_neg (by decide +kernel)]; exact ⟨rfl, rfl⟩))
    (fun os started H enc _ F => by rw [OpenClaim.pre_eq_preRow]; exact lifted os started H enc F)
theorem plain (f : FuncId) (fn : Func) (hf : Tryz.pinned.checked.prog.funcNamed "flagstone/flagstonelaw12.SegmentMembers" = some f) (hfn : Tryz.pinned.checked.prog.funcs[f]? = some fn) :
    true = Tryz.pinned.checked.prog.looks [] ∧ ∀ (j : Nat) t, fn.params[j]? = some t → Tryz.pinned.checked.prog.wantsStandIn t = false := by
  obtain rfl : f = 4 := Option.some.inj ((show Tryz.prog.funcNamed "flagstone/flagstonelaw12.SegmentMembers" = some 4 by kernel_rfl).symm.trans hf) |>.symm
  obtain rfl : fn = Tryz.f4 := (Option.some.inj (Tryz.func4.symm.trans hfn)).symm
  refine ⟨by kernel_rfl, fun j t ht => ?_⟩
  rw [Tryz.params4] at ht
  match j with
  | 0 => cases ht; exact (show Tryz.prog.wantsStandIn 22 = false by kernel_rfl)
  | 1 => cases ht; exact (show Tryz.prog.wantsStandIn 22 = false by kernel_rfl)
  | 2 => cases ht; exact (show Tryz.prog.wantsStandIn 44 = false by kernel_rfl)
  | 3 => cases ht; exact (show Tryz.prog.wantsStandIn 9 = false by kernel_rfl)
  | j + 4 => cases ht
theorem card : Rows.SegmentMembersUptoCardSaid :=
  Claim7.holds_tied_plain_at .later [] _ _ _ _ said (fun _ h => by cases h) (by kernel_rfl) (fun _ h => by cases h) segmentMembersUpto_row_tie rfl ⟨rfl, rfl⟩ (by kernel_rfl) rfl plain (by kernel_rfl)
end Go.Proofs.YthpeboomdlgfaaaGreatDoor.segmentMembersUpto
end
#print axioms Go.Proofs.YthpeboomdlgfaaaGreatDoor.segmentMembersUpto.card
