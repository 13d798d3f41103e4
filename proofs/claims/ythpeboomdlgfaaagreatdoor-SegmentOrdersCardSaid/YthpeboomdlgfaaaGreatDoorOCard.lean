/- SegmentOrders: for every input the law returns true and leaves its arguments as they were. This is part 7 of 7. Conditions: those in the statements. -/
import Derived.Test.YthpeboomdlgfaaaGreatDoorRows
import Derived.Test.YthpeboomdlgfaaaGreatDoorCards
import Derived.Test.YthpeboomdlgfaaaGreatDoorTie
import Derived.Test.YthpeboomdlgfaaaGreatDoorO6
import Derived.KernelRfl
import Derived.WalkKit
import Derived.ProofKit
import Derived.OpenShut
import Derived.Deep.DeepHandedRow
import Derived.Deep.DeepWitnessRowRef
import Derived.Lay
import Derived.SevenTiedAt
noncomputable section
set_option maxRecDepth 100000
namespace Go.En
open Go Go.Fl Go.Fl.Lk Go.Fx Go.Sg
mutual
def evl (T:Ex→Bool) (I:ByteArray→Bool):Ex→Bool
 |⟨op,kind,name,values,kids⟩=>if op=1 then true else if op=2 then evlA T I kids else if op=3 then evlO T I kids else if op=4 then evlN T I kids else if op=5 then I name else T ⟨op,kind,name,values,kids⟩
def evlA (T:Ex→Bool) (I:ByteArray→Bool):List Ex→Bool
 |[]=>true
 |k::l=>if evl T I k=true then evlA T I l else false
def evlO (T:Ex→Bool) (I:ByteArray→Bool):List Ex→Bool
 |[]=>false
 |k::l=>if evl T I k=true then true else evlO T I l
def evlN (T:Ex→Bool) (I:ByteArray→Bool):List Ex→Bool
 |[]=>false
 |k::_=> !(evl T I k)
end
theorem y37 (T:Ex→Bool) (I:ByteArray→Bool) (e:Ex):evl T I e=if e.1=1 then true else if e.1=2 then evlA T I e.5 else if e.1=3 then evlO T I e.5 else if e.1=4 then evlN T I e.5 else if e.1=5 then I e.3 else T e:=by
 cases e;rfl
mutual
def subs:Ex→List Ex
 |⟨op,kind,name,values,kids⟩=>⟨op,kind,name,values,kids⟩::w1v kids
def w1v:List Ex→List Ex
 |[]=>[]
 |k::l=>subs k++w1v l
end
theorem z9z (e:Ex):subs e=e::w1v e.5:=by cases e;rfl
theorem z2o {a:Ex} {l:List Ex}:a∈w1v l↔ ∃k∈l,a∈subs k:=by
 induction l with
 |nil=>simp [w1v]
 |cons k l ih=>simp [w1v,ih]
mutual
def wt:Ex→Nat
 |⟨_,_,_,values,kids⟩=>1+wtV values+wtL kids
def wtL:List Ex→Nat
 |[]=>0
 |k::l=>wt k+wtL l
def wtV:List Val→Nat
 |[]=>0
 |v::l=>1+v.4.length+wtV l
end
theorem w85 (e:Ex):wt e=1+wtV e.4+wtL e.5:=by cases e;rfl
theorem z90 (e:Ex):1≤wt e:=by rw [w85];omega
theorem u6l (l:List Ex):l.length≤wtL l:=by
 induction l with
 |nil=>simp
 |cons k l ih=>have:=z90 k;simp only [List.length_cons,wtL];omega
theorem u6m {k:Ex} {l:List Ex} (h:k∈l):wt k≤wtL l:=by
 induction l with
 |nil=>simp at h
 |cons a l ih=>
  simp only [wtL]
  rcases List.mem_cons.1 h with rfl|h
  ·omega
  ·have:=ih h;omega
theorem u6n (l:List Val):l.length≤wtV l:=by
 induction l with
 |nil=>simp
 |cons k l ih=>simp only [List.length_cons,wtV];omega
theorem u6o {v:Val} {l:List Val} (h:v∈l):v.4.length<wtV l:=by
 induction l with
 |nil=>simp at h
 |cons a l ih=>
  simp only [wtV]
  rcases List.mem_cons.1 h with rfl|h
  ·omega
  ·have:=ih h;omega
theorem z91 {e k:Ex} (h:k∈e.5):wt k<wt e:=by have:=u6m h;rw [w85 e];omega
theorem v4d {e:Ex}:e.5.length<wt e:=by have:=u6l e.5;rw [w85 e];omega
theorem u6p {e:Ex}:e.4.length<wt e:=by have:=u6n e.4;rw [w85 e];omega
theorem u73 {e:Ex} {v:Val} (h:v∈e.4):v.4.length<wt e:=by have:=u6o h;rw [w85 e];omega
theorem u4b: ∀(n:Nat) {e a:Ex},wt e≤n→a∈subs e→wt a≤wt e
 |0,e,_,h,_=>by have:=z90 e;omega
 |n+1,e,a,h,hm=>by
  rw [z9z] at hm
  rcases List.mem_cons.1 hm with rfl|hm
  ·exact Nat.le_refl _
  ·obtain ⟨k,hk,ha⟩:=z2o.1 hm
   have h1:=z91 hk
   have:=u4b n (e:=k) (by omega) ha
   omega
def EvB (e:Ex):Prop:= ∀a∈subs e,∀w∈a.4,ValB w
theorem EvB.kid {e k:Ex} (h:EvB e) (hk:k∈e.5):EvB k:=fun a ha=>h a (by rw [z9z];exact List.mem_cons_of_mem _ (z2o.2 ⟨k,hk,ha⟩))
theorem EvB.val {e:Ex} (h:EvB e): ∀w∈e.4,ValB w:=h e (by rw [z9z];exact List.mem_cons_self)
theorem u6q {s:Subj} {inn:List ByteArray} (hs:SubB s): ∀(n:Nat) {e:Ex} {K:Bool→Prop},wt e≤n→wt e≤2000000→EvB e→K (evl (tst s) (fun x=>dec (x∈inn)) e)→y5d s inn e K:=by
 intro n e K hn hw he h X hX
 induction n generalizing e K with
 |zero=>have:=z90 e;omega
 |succ n ih=>
 refine hX _ _ _ _ ?_
 unfold w9r
 rw [y37] at h
 have hk:=v4d (e:=e)
 refine Cnd.ite h (fun _ h=>h) fun _ h=>Cnd.ite h (fun _ h=> ?_) fun _ h=>Cnd.ite h (fun _ h=> ?_) fun _ h=>Cnd.ite h (fun _ h _=> ?_) fun _ h=>Cnd.ite h (fun _ h=>z9r fun r hr=>by rw [w7f hr];exact h) fun _ h=> ?_
 ·refine Lp1.ind (fun (i:Int)=>0≤i∧i≤e.5.length∧evlA (tst s) (fun x=>dec (x∈inn)) e.5=evlA (tst s) (fun x=>dec (x∈inn)) (e.5.drop i.toNat)) (fun (i:Int)=>(e.5.length - i).toNat) ?_ ⟨by omega,by omega,rfl⟩
  rintro i ⟨i0,i1,hd⟩ _
  refine Cnd.mk (fun hc=>⟨by omega,fun y hy=> ?_⟩) fun hc=> ?_
  ·rw [drp hy,evlA] at hd
   rw [q14]
   have hkid:=z91 (getm hy)
   refine ih (by omega) (by omega) (he.kid (getm hy)) ?_
   refine Cnd.mk (fun hb=>⟨by unfold InI;omega,⟨by omega,by omega,?_⟩,by omega⟩) fun hb=> ?_
   ·rw [if_pos hb] at hd;rw [show (i+1).toNat=i.toNat+1 by omega];exact hd
   ·rw [if_neg hb] at hd;rwa [hd] at h
  ·rw [List.drop_eq_nil_of_le (by omega)] at hd
   rwa [hd] at h
 ·refine Lp1.ind (fun (i:Int)=>0≤i∧i≤e.5.length∧evlO (tst s) (fun x=>dec (x∈inn)) e.5=evlO (tst s) (fun x=>dec (x∈inn)) (e.5.drop i.toNat)) (fun (i:Int)=>(e.5.length - i).toNat) ?_ ⟨by omega,by omega,rfl⟩
  rintro i ⟨i0,i1,hd⟩ _
  refine Cnd.mk (fun hc=>⟨by omega,fun y hy=> ?_⟩) fun hc=> ?_
  ·rw [drp hy,evlO] at hd
   rw [q14]
   have hkid:=z91 (getm hy)
   refine ih (by omega) (by omega) (he.kid (getm hy)) ?_
   refine Cnd.mk (fun hb=> ?_) fun hb=>⟨by unfold InI;omega,⟨by omega,by omega,?_⟩,by omega⟩
   ·rw [if_pos hb] at hd;rwa [hd] at h
   ·rw [if_neg hb] at hd;rw [show (i+1).toNat=i.toNat+1 by omega];exact hd
  ·rw [List.drop_eq_nil_of_le (by omega)] at hd
   rwa [hd] at h
 ·refine Cnd.mk (fun hc=>⟨⟨by omega,hc⟩,fun y hy=> ?_⟩) fun hc=> ?_
  ·obtain ⟨t,ht⟩:=get0 hy
   rw [ht,evlN] at h
   rw [q14]
   have hym:y∈e.5:=by rw [ht];simp
   have hkid:=z91 hym
   refine ih (by omega) (by omega) (he.kid hym) ?_
   revert h
   generalize evl (tst s) (fun x=>dec (x∈inn)) y=b
   intro h
   cases b<;>exact h
  ·have:e.5=[]:=List.eq_nil_of_length_eq_zero (by omega)
   rw [this] at h;exact h
 ·rw [q14]
  exact y2f hs he.val h
theorem w86 {s:Subj} {inn:List ByteArray} (hs:SubB s): ∀(n:Nat) {e:Ex} {K:Bool→Prop},wt e≤n→wt e≤2000000→EvB e→K (evl (tst s) (fun x=>dec (x∈inn)) e)→q6e s inn e K:=by
 intro n e K hn hw he h X hX
 induction n generalizing e K with
 |zero=>have:=z90 e;omega
 |succ n ih=>
 refine hX _ _ _ _ ?_
 unfold z52
 rw [y37] at h
 have hk:=v4d (e:=e)
 refine Cnd.ite h (fun _ h=>h) fun _ h=>Cnd.ite h (fun _ h _=> ?_) fun _ h=>Cnd.ite h (fun _ h _=> ?_) fun _ h=>Cnd.ite h (fun _ h _=> ?_) fun _ h=>Cnd.ite h (fun _ h hl=>v4c hl fun r hr=>by rw [w7f hr];exact h) fun _ h=> ?_
 ·refine Lp1.ind (fun (i:Int)=>0≤i∧i≤e.5.length∧evlA (tst s) (fun x=>dec (x∈inn)) e.5=evlA (tst s) (fun x=>dec (x∈inn)) (e.5.drop i.toNat)) (fun (i:Int)=>(e.5.length - i).toNat) ?_ ⟨by omega,by omega,rfl⟩
  rintro i ⟨i0,i1,hd⟩
  refine Cnd.mk (fun hc=>⟨by omega,fun y hy=> ?_⟩) fun hc=> ?_
  ·rw [drp hy,evlA] at hd
   rw [q14]
   have hkid:=z91 (getm hy)
   refine ih (by omega) (by omega) (he.kid (getm hy)) ?_
   refine Cnd.mk (fun hb=>⟨by unfold InI;omega,⟨by omega,by omega,?_⟩,by omega⟩) fun hb=> ?_
   ·rw [if_pos hb] at hd;rw [show (i+1).toNat=i.toNat+1 by omega];exact hd
   ·rw [if_neg hb] at hd;rw [hd] at h;rw [decide_eq_true i0];exact h
  ·rw [List.drop_eq_nil_of_le (by omega)] at hd
   rwa [hd] at h
 ·refine Lp1.ind (fun (i:Int)=>0≤i∧i≤e.5.length∧evlO (tst s) (fun x=>dec (x∈inn)) e.5=evlO (tst s) (fun x=>dec (x∈inn)) (e.5.drop i.toNat)) (fun (i:Int)=>(e.5.length - i).toNat) ?_ ⟨by omega,by omega,rfl⟩
  rintro i ⟨i0,i1,hd⟩
  refine Cnd.mk (fun hc=>⟨by omega,fun y hy=> ?_⟩) fun hc=> ?_
  ·rw [drp hy,evlO] at hd
   rw [q14]
   have hkid:=z91 (getm hy)
   refine ih (by omega) (by omega) (he.kid (getm hy)) ?_
   refine Cnd.mk (fun hb=> ?_) fun hb=>⟨by unfold InI;omega,⟨by omega,by omega,?_⟩,by omega⟩
   ·rw [if_pos hb] at hd;rw [hd] at h;rw [decide_eq_true i0];exact h
   ·rw [if_neg hb] at hd;rw [show (i+1).toNat=i.toNat+1 by omega];exact hd
  ·rw [List.drop_eq_nil_of_le (by omega)] at hd
   rwa [hd] at h
 ·refine Cnd.mk (fun hc=>⟨⟨by omega,hc⟩,fun y hy=> ?_⟩) fun hc=> ?_
  ·obtain ⟨t,ht⟩:=get0 hy
   rw [ht,evlN] at h
   rw [q14]
   have hym:y∈e.5:=by rw [ht];simp
   have hkid:=z91 hym
   refine ih (by omega) (by omega) (he.kid hym) ?_
   revert h
   generalize evl (tst s) (fun x=>dec (x∈inn)) y=b
   intro h
   cases b<;>exact h
  ·have:e.5=[]:=List.eq_nil_of_length_eq_zero (by omega)
   rw [this] at h;exact h
 ·rw [q14]
  exact w84 hs he.val h
end Go.En
end
noncomputable section
set_option maxRecDepth 100000
namespace Go.En
open Go Go.Fl Go.Fl.Lk Go.Fx Go.Sg
theorem v4e {a b:Val} {K:Bool→Prop} (h: ∀r,(r=true↔a=b)→K r):q7p a b K:=by
 unfold q7p z79
 have no:(a≠b)→K false:=fun hn=>h _ ⟨fun h=>(by cases h),fun e=>absurd e hn⟩
 refine Cnd.mk (fun h1=>Cnd.mk (fun h2=>Cnd.mk (fun h3=>z9x fun r hr=>h r (hr.trans ⟨fun h4=> ?_,fun e=>by rw [e]⟩)) fun h=>no fun e=>h (by rw [e])) fun h=>no fun e=>h (by rw [e])) fun h=>no fun e=>h (by rw [e])
 cases a;cases b;simp_all
theorem v8i: ∀(n:Nat) {a b:Ex} {K:Bool→Prop},wt b≤n→(∀r,(r=true↔a=b)→K r)→q67 a b K:=by
 intro n a b K hn h X hX
 induction n generalizing a b K with
 |zero=>have:=z90 b;omega
 |succ n ih=>
 refine hX _ _ _ ?_
 unfold j22
 have no:(a≠b)→K false:=fun hn=>h _ ⟨fun h=>(by cases h),fun e=>absurd e hn⟩
 refine Cnd.mk (fun h1=>Cnd.mk (fun h2=>Cnd.mk (fun h3 ha4 _=>Cnd.mk (fun hl _=> ?_) fun h=>no fun e=>h (by rw [e])) fun h=>no fun e=>h (by rw [e])) fun h=>no fun e=>h (by rw [e])) fun h=>no fun e=>h (by rw [e])
 refine Lp1.ind (fun (i:Int)=>0≤i∧i≤a.4.length∧a.4.take i.toNat=b.4.take i.toNat) (fun (i:Int)=>(a.4.length - i).toNat) ?_ ⟨by omega,by omega,by simp⟩
 rintro i ⟨i0,i1,he⟩
 refine Cnd.mk (fun hc=>⟨by omega,fun x hx=>⟨by omega,fun y hy=>v4e fun r hr=>Cnd.mk (fun hb=>⟨by unfold InI;omega,⟨by omega,by omega,?_⟩,by omega⟩) fun hb=>no fun e=> ?_⟩⟩) fun hc ha5 _=>Cnd.mk (fun hl5 _=> ?_) fun h=>no fun e=>h (by rw [e])
 ·rw [show (i+1).toNat=i.toNat+1 by omega,List.take_add_one,List.take_add_one,he,hx,hy,hr.1 hb]
 ·subst e;rw [hx] at hy;cases hy;exact hb (hr.2 rfl)
 rw [List.take_of_length_le (by omega),List.take_of_length_le (by omega)] at he
 refine Lp1.ind (fun (i:Int)=>0≤i∧i≤a.5.length∧a.5.take i.toNat=b.5.take i.toNat) (fun (i:Int)=>(a.5.length - i).toNat) ?_ ⟨by omega,by omega,by simp⟩
 rintro i ⟨i0,i1,he5⟩
 refine Cnd.mk (fun hc=>⟨by omega,fun x hx=>⟨by omega,fun y hy=> ?_⟩⟩) fun hc=>h _ ⟨fun _=> ?_,fun _=>rfl⟩
 ·rw [q14,q14]
  have hkid:=z91 (getm hy)
  refine ih (by omega) fun r hr=>Cnd.mk (fun hb=>⟨by unfold InI;omega,⟨by omega,by omega,?_⟩,by omega⟩) fun hb=>no fun e=> ?_
  ·rw [show (i+1).toNat=i.toNat+1 by omega,List.take_add_one,List.take_add_one,he5,hx,hy,hr.1 hb]
  ·subst e;rw [hx] at hy;cases hy;exact hb (hr.2 rfl)
 ·rw [List.take_of_length_le (by omega),List.take_of_length_le (by omega)] at he5
  cases a;cases b;simp_all
theorem v4f: ∀(n:Nat) {e:Ex} {K:Ex→Prop},wt e≤n→wt e≤2000000→K e→q7q e K:=by
 intro n e K hn hw h X hX
 induction n generalizing e K with
 |zero=>have:=z90 e;omega
 |succ n ih=>
 refine hX _ _ ?_
 unfold z8a
 have h4:=u6p (e:=e)
 have h5:=v4d (e:=e)
 refine fun _=>⟨⟨by omega,by omega,by unfold Sml;omega⟩,fun _=> ?_⟩
 refine Lp2.ind (fun (r:List Val) (i:Int)=>0≤i∧i≤e.4.length∧r=e.4.take i.toNat) (fun _ (i:Int)=>(e.4.length - i).toNat) ?_ ⟨by omega,by omega,rfl⟩
 rintro r i ⟨i0,i1,rfl⟩
 refine Cnd.mk (fun hc=>⟨by omega,fun y hy=>z39 (by have:=u73 (getm hy);omega) ⟨?_,by unfold InI;omega,⟨by omega,by omega,?_⟩,by omega⟩⟩) fun hc _=>⟨⟨by omega,by omega,by unfold Sml;omega⟩,fun _=> ?_⟩
 ·unfold Sml;simp only [List.length_append,List.length_take,List.length_cons,List.length_nil];omega
 ·rw [show (i+1).toNat=i.toNat+1 by omega,List.take_add_one,hy];rfl
 rw [List.take_of_length_le (by omega)]
 refine Lp2.ind (fun (r:List Ex) (i:Int)=>0≤i∧i≤e.5.length∧r=e.5.take i.toNat) (fun _ (i:Int)=>(e.5.length - i).toNat) ?_ ⟨by omega,by omega,rfl⟩
 rintro r i ⟨i0,i1,rfl⟩
 refine Cnd.mk (fun hc=>⟨by omega,fun y hy=> ?_⟩) fun hc=> ?_
 ·have hkid:=z91 (getm hy)
  rw [q14]
  refine ih (by omega) (by omega) ?_
  rw [q14]
  refine ⟨?_,by unfold InI;omega,⟨by omega,by omega,?_⟩,by omega⟩
  ·unfold Sml;simp only [List.length_append,List.length_take,List.length_cons,List.length_nil];omega
  ·rw [show (i+1).toNat=i.toNat+1 by omega,List.take_add_one,hy];rfl
 ·rw [List.take_of_length_le (by omega)]
  cases e;exact h
def atm (e:Ex):Prop:=e.1=5∨(6≤e.1∧e.1≤15)
theorem w7h: ∀(n:Nat) {l:List Ex} {e:Ex} {K:List Ex→Prop},wt e≤n→l.length+wt e≤4000000→(∀r,(∀a,a∈r↔a∈l∨(a∈subs e∧atm a))→r.length≤l.length+wt e→K r)→q45 l e K:=by
 intro n l e K hn hw h X hX
 induction n generalizing l e K with
 |zero=>have:=z90 e;omega
 |succ n ih=>
 refine hX _ _ _ ?_
 unfold z3s
 have hpos:=z90 e
 have h5:=v4d (e:=e)
 refine Jn1.mk (fun q=>(∀a,a∈q↔a∈l∨(a=e∧atm e))∧q.length≤l.length+1) ?_ fun q hq=> ?_
 ·have look:atm e→ ∀hl:l.length≤9223372036854775807,Lp1 (fun x3_0 Y3_1=>Cnd (x3_0<(l.length:Int)) ((0≤x3_0∧x3_0<(l.length:Int))∧ ∀y4,l[x3_0.toNat]? =some y4→q67 (Ex.mk y4.1 y4.2 y4.3 y4.4 y4.5) (Ex.mk e.1 e.2 e.3 e.4 e.5) fun x6_0=>Cnd (x6_0=true) (Cnd ((0:Int)≤x3_0) ((∀a,a∈l↔a∈l∨(a=e∧atm e))∧l.length≤l.length+1) (Sml (l++[Ex.mk e.1 e.2 e.3 e.4 e.5]).length∧((∀a,a∈l++[Ex.mk e.1 e.2 e.3 e.4 e.5]↔a∈l∨(a=e∧atm e))∧(l++[Ex.mk e.1 e.2 e.3 e.4 e.5]).length≤l.length+1))) (InI (x3_0+1)∧Y3_1 (x3_0+1))) (Cnd ((0:Int)≤ -1) ((∀a,a∈l↔a∈l∨(a=e∧atm e))∧l.length≤l.length+1) (Sml (l++[Ex.mk e.1 e.2 e.3 e.4 e.5]).length∧((∀a,a∈l++[Ex.mk e.1 e.2 e.3 e.4 e.5]↔a∈l∨(a=e∧atm e))∧(l++[Ex.mk e.1 e.2 e.3 e.4 e.5]).length≤l.length+1)))) (0:Int):=fun hat hl=>by
   rw [q14]
   refine Lp1.ind (fun (i:Int)=>0≤i∧i≤l.length∧e∉l.take i.toNat) (fun (i:Int)=>(l.length - i).toNat) ?_ ⟨by omega,by omega,by simp⟩
   rintro i ⟨i0,i1,hno⟩
   refine Cnd.mk (fun hc=>⟨by omega,fun y hy=> ?_⟩) fun hc=>Cnd.no (by decide) ⟨?_,fun a=> ?_,by simp⟩
   ·rw [q14]
    refine v8i _ (Nat.le_refl _) fun r hr=>Cnd.mk (fun hb=>Cnd.yes i0 ⟨fun a=>⟨.inl,fun k=>k.elim id fun k=>by rw [k.1,←hr.1 hb];exact getm hy⟩,by omega⟩) fun hb=>⟨by unfold InI;omega,⟨by omega,by omega,?_⟩,by omega⟩
    rw [show (i+1).toNat=i.toNat+1 by omega,List.take_add_one,hy]
    have:e≠y:=fun k=>hb (hr.2 k.symm)
    simp [hno,this]
   ·unfold Sml;simp;omega
   ·rw [List.mem_append,List.mem_singleton]
    exact ⟨fun k=>k.imp id fun k=>⟨k,hat⟩,fun k=>k.imp id fun k=>k.1⟩
  refine j2g fun r hr=>Cnd.mk (fun hb hl=>look (.inr (hr.1 hb)) hl) fun hb=>Cnd.mk (fun h5 hl=>look (.inl h5) hl) fun h5=>⟨fun a=>⟨.inl,fun k=>k.elim id fun k=> ?_⟩,by omega⟩
  rcases k.2 with k|k
  ·exact absurd k h5
  ·exact absurd (hr.2 k) hb
 ·obtain ⟨hq,hql⟩:=hq
  intro _
  have hwe:=w85 e
  refine Lp2.ind (fun (p:List Ex) (i:Int)=>0≤i∧i≤e.5.length∧(∀a,a∈p↔a∈q∨(a∈w1v (e.5.take i.toNat)∧atm a))∧p.length+wtL (e.5.drop i.toNat)≤q.length+wtL e.5) (fun _ (i:Int)=>(e.5.length - i).toNat) ?_ ⟨by omega,by omega,by simp [w1v],by simp⟩
  rintro p i ⟨i0,i1,hp,hpl⟩
  refine Cnd.mk (fun hc=>⟨by omega,fun y hy=> ?_⟩) fun hc=>h _ (fun a=> ?_) ?_
  ·rw [q14]
   have hkid:=z91 (getm hy)
   rw [drp hy,wtL] at hpl
   refine ih (by omega) (by omega) fun r hr hrl=>⟨by unfold InI;omega,⟨by omega,by omega,fun a=> ?_,?_⟩,by omega⟩
   ·rw [hr,hp,show (i+1).toNat=i.toNat+1 by omega,List.take_add_one,hy,z2o,z2o]
    constructor
    ·rintro ((k|⟨⟨z,hz,ha⟩,k⟩)|⟨ha,k⟩)
     ·exact .inl k
     ·exact .inr ⟨⟨z,List.mem_append_left _ hz,ha⟩,k⟩
     ·exact .inr ⟨⟨y,by simp,ha⟩,k⟩
    ·rintro (k|⟨⟨z,hz,ha⟩,k⟩)
     ·exact .inl (.inl k)
     ·rcases List.mem_append.1 hz with hz|hz
      ·exact .inl (.inr ⟨⟨z,hz,ha⟩,k⟩)
      ·have:z=y:=by simpa using hz
       subst this;exact .inr ⟨ha,k⟩
   ·rw [show (i+1).toNat=i.toNat+1 by omega];omega
  ·rw [hp,hq,List.take_of_length_le (by omega),z9z,List.mem_cons]
   constructor
   ·rintro ((k|⟨rfl,k⟩)|⟨ha,k⟩)
    ·exact .inl k
    ·exact .inr ⟨.inl rfl,k⟩
    ·exact .inr ⟨.inr ha,k⟩
   ·rintro (k|⟨rfl|ha,k⟩)
    ·exact .inl (.inl k)
    ·exact .inl (.inr ⟨rfl,k⟩)
    ·exact .inr ⟨ha,k⟩
  ·have:0≤wtL (e.5.drop i.toNat):=Nat.zero_le _
   omega
def nms (e:Ex):List ByteArray:=((subs e).filter fun a=>decide (a.1=5)).map Ex.name
def rfs (e:Ex):List ByteArray:=cpt (srt (nms e))
theorem v4g {e:Ex} {x:ByteArray}:x∈nms e↔ ∃a∈subs e,a.1=5∧a.3=x:=by
 unfold nms
 simp only [List.mem_map,List.mem_filter,decide_eq_true_eq]
 exact ⟨fun ⟨a,⟨h1,h2⟩,h3⟩=>⟨a,h1,h2,h3⟩,fun ⟨a,h1,h2,h3⟩=>⟨a,⟨h1,h2⟩,h3⟩⟩
theorem u6r (e:Ex):Asc (rfs e):=(j2h _).1
theorem y2i {e:Ex} {x:ByteArray}:x∈rfs e↔x∈nms e:=(j2h _).2.1 x
theorem u74 {e:Ex} {l:List ByteArray} (h:Asc l) (hm: ∀y,y∈l↔y∈nms e):l=rfs e:=z93 h (u6r e) fun y=>by rw [hm,y2i]
theorem j86 {e:Ex} {K:List ByteArray→Prop} (hw:wt e≤2000000) (h:K (rfs e)):q3b e K:=by
 unfold q3b z0j q6p z3t
 rw [q14]
 dsimp only
 rw [q14]
 refine w7h _ (Nat.le_refl _) (by simp;omega) fun q hq hql _=>⟨⟨by omega,by omega,by unfold Sml;simp at hql;omega⟩,fun _=> ?_⟩
 have hq: ∀a,a∈q↔(a∈subs e∧atm a):=fun a=>(hq a).trans (by simp)
 have hql:q.length≤wt e:=by simpa using hql
 refine Lp2.ind (fun (r:List Ex) (i:Int)=>0≤i∧i≤q.length∧r=q.take i.toNat) (fun _ (i:Int)=>(q.length - i).toNat) ?_ ⟨by omega,by omega,rfl⟩
 rintro r i ⟨i0,i1,rfl⟩
 refine Cnd.mk (fun hc=>⟨by omega,fun y hy=> ?_⟩) fun hc=> ?_
 ·have hy2:=u4b _ (Nat.le_refl _) ((hq y).1 (getm hy)).1
  rw [q14]
  refine v4f _ (Nat.le_refl _) (by omega) ?_
  rw [q14]
  refine ⟨?_,by unfold InI;omega,⟨by omega,by omega,?_⟩,by omega⟩
  ·unfold Sml;simp only [List.length_append,List.length_take,List.length_cons,List.length_nil];omega
  ·rw [show (i+1).toNat=i.toNat+1 by omega,List.take_add_one,hy];rfl
 rw [List.take_of_length_le (by omega)]
 intro _
 refine Lp2.ind (fun (r:List ByteArray) (i:Int)=>0≤i∧i≤q.length∧r.length≤i.toNat∧ ∀x,x∈r↔ ∃a∈q.take i.toNat,a.1=5∧a.3=x) (fun _ (i:Int)=>(q.length - i).toNat) ?_ ⟨by omega,by omega,by simp,by simp⟩
 rintro r i ⟨i0,i1,hrl,hr⟩
 have next: ∀{y:Ex} {x:ByteArray},q[i.toNat]? =some y→((∃a∈q.take (i+1).toNat,a.1=5∧a.3=x)↔(∃a∈q.take i.toNat,a.1=5∧a.3=x)∨(y.1=5∧y.3=x)):=fun {y x} hy=>by
  rw [show (i+1).toNat=i.toNat+1 by omega,List.take_add_one,hy]
  constructor
  ·rintro ⟨a,ha,k⟩
   rcases List.mem_append.1 ha with ha|ha
   ·exact .inl ⟨a,ha,k⟩
   ·have:a=y:=by simpa using ha
    subst this;exact .inr k
  ·rintro (⟨a,ha,k⟩|k)
   ·exact ⟨a,List.mem_append_left _ ha,k⟩
   ·exact ⟨y,by simp,k⟩
 refine Cnd.mk (fun hc=>⟨by omega,fun y hy=>Cnd.mk (fun h5=>⟨by unfold Sml;simp;omega,by unfold InI;omega,⟨by omega,by omega,by simp;omega,fun x=> ?_⟩,by omega⟩) fun h5=>⟨by unfold InI;omega,⟨by omega,by omega,by omega,fun x=> ?_⟩,by omega⟩⟩) fun hc=> ?_
 ·rw [next hy,List.mem_append,hr,List.mem_singleton]
  exact ⟨fun k=>k.imp id fun k=>⟨h5,k.symm⟩,fun k=>k.imp id fun k=>k.2.symm⟩
 ·rw [next hy,hr]
  exact ⟨.inl,fun k=>k.elim id fun k=>absurd k.1 h5⟩
 ·rw [List.take_of_length_le (by omega)] at hr
  show K (cpt (srt r))
  have e1:cpt (srt r)=rfs e:=u74 (j2h _).1 fun y=>by
   rw [(j2h r).2.1,hr,v4g]
   exact ⟨fun ⟨a,ha,k⟩=>⟨a,((hq a).1 ha).1,k⟩,fun ⟨a,ha,k⟩=>⟨a,(hq a).2 ⟨ha,.inl k.1⟩,k⟩⟩
  rw [e1];exact h
theorem w0h (e:Ex) (x:ByteArray):x∈nms e↔(e.1=5∧e.3=x)∨ ∃k∈e.5,x∈nms k:=by
 rw [v4g,z9z]
 constructor
 ·rintro ⟨a,ha,h⟩
  rcases List.mem_cons.1 ha with rfl|ha
  ·exact .inl h
  ·obtain ⟨k,hk,ha⟩:=z2o.1 ha
   exact .inr ⟨k,hk,v4g.2 ⟨a,ha,h⟩⟩
 ·rintro (h|⟨k,hk,h⟩)
  ·exact ⟨e,List.mem_cons_self,h⟩
  ·obtain ⟨a,ha,h⟩:=v4g.1 h
   exact ⟨a,List.mem_cons_of_mem _ (z2o.2 ⟨k,hk,ha⟩),h⟩
end Go.En
end
noncomputable section
set_option maxRecDepth 100000
namespace Go.En
open Go Go.Fl Go.Fl.Lk Go.Fx Go.Sg
open Go.Gr (Ord Grd Rdy Nxt)
abbrev prE (e:Edg):ByteArray×ByteArray:=(e.1,e.2)
def edg (l:List Seg):List Edg:=l.flatMap fun g=>(rfs g.5).map fun r=>Edg.mk g.1 r
abbrev OrdS (l:List Seg) (o:List ByteArray) (r:Int):Prop:=Ord (l.map Seg.key) ((edg l).map prE) o r
structure SegB (l:List Seg):Prop where
 n:l.length≤50
 w: ∀g∈l,wt g.5≤1000000
 v: ∀g∈l,EvB g.5
 e:(edg l).length≤1000000
theorem u3h (l:List Seg) (i:Nat):(edg (l.take i)).length≤(edg l).length:=by
 conv=>rhs;rw [←List.take_append_drop i l]
 unfold edg
 rw [List.flatMap_append,List.length_append]
 omega
theorem w7i: ∀(n:Nat) (l:List Ex),wtL l≤n→(w1v l).length≤wtL l
 |0,[],_=>by simp [w1v]
 |0,k::l,h=>by have:=z90 k;simp only [wtL] at h;omega
 |n+1,[],_=>by simp [w1v]
 |n+1,k::l,h=>by
  have h1:=z90 k
  have h2:=w85 k
  simp only [wtL] at h
  have e1:(subs k).length≤wt k:=by
   rw [z9z,List.length_cons]
   have:=w7i n k.5 (by omega)
   omega
  have e2:=w7i n l (by omega)
  simp only [w1v,wtL,List.length_append];omega
theorem u3i (e:Ex):(subs e).length≤wt e:=by
 rw [z9z,List.length_cons,w85]
 have:=w7i _ e.5 (Nat.le_refl _)
 omega
theorem u03 (e:Ex):(rfs e).length≤wt e:=by
 have h1:=(j2h (nms e)).2.2.2
 have h2:(nms e).length≤(subs e).length:=by
  unfold nms;rw [List.length_map];exact List.length_filter_le _ _
 have:=u3i e
 unfold rfs;omega
theorem u3j (l:List Seg) (g:Seg):edg (l++[g])=edg l++(rfs g.5).map fun r=>Edg.mk g.1 r:=by simp [edg]
theorem u6s {l:List Seg} (h: ∀g∈l,wt g.5≤20000):(edg l).length≤20000*l.length:=by
 induction l with
 |nil=>simp [edg]
 |cons g l ih=>
  have h1:=h g List.mem_cons_self
  have h2:=ih fun g hg=>h g (List.mem_cons_of_mem _ hg)
  have h3:=u03 g.5
  unfold edg at h2⊢
  simp only [List.flatMap_cons,List.length_append,List.length_map,List.length_cons]
  omega
theorem w1w {l:List Seg} {K:List ByteArray→Int→Prop} (hB:SegB l) (h: ∀o r,OrdS l o r→K o r):q32 l K:=by
 unfold q32 z13
 have hn:=hB.n
 intro _
 refine Lp3.ind (fun (ks:List ByteArray) (es:List Edg) (i:Int)=>0≤i∧i≤l.length∧ks=(l.take i.toNat).map Seg.key∧es=edg (l.take i.toNat)) (fun _ _ (i:Int)=>(l.length - i).toNat) ?_ ⟨by omega,by omega,by simp,by simp [edg]⟩
 rintro ks es i ⟨i0,i1,rfl,rfl⟩
 have tl:(l.take i.toNat).length≤50:=by rw [List.length_take];omega
 have te:=Nat.le_trans (u3h l i.toNat) hB.e
 refine Cnd.mk (fun hc=>⟨by omega,fun g hg=>⟨by unfold Sml;simp;omega,?_⟩⟩) fun hc=> ?_
 ·rw [q14]
  have hw:=hB.w g (getm hg)
  have hr:=u03 g.5
  refine j86 (by omega) fun _=> ?_
  refine Lp2.ind (fun (es:List Edg) (j:Int)=>0≤j∧j≤(rfs g.5).length∧es=edg (l.take i.toNat)++((rfs g.5).take j.toNat).map fun r=>Edg.mk g.1 r) (fun _ (j:Int)=>((rfs g.5).length - j).toNat) ?_ ⟨by omega,by omega,by simp⟩
  rintro es j ⟨j0,j1,rfl⟩
  refine Cnd.mk (fun hc=>⟨by omega,fun r hr'=>⟨?_,by unfold InI;omega,⟨by omega,by omega,?_⟩,by omega⟩⟩) fun hc=>⟨by unfold InI;omega,⟨by omega,by omega,?_,?_⟩,by omega⟩
  ·unfold Sml;simp only [List.length_append,List.length_map,List.length_take,List.length_cons,List.length_nil];omega
  ·rw [show (j+1).toNat=j.toNat+1 by omega,List.take_add_one,hr'];simp
  ·rw [show (i+1).toNat=i.toNat+1 by omega,List.take_add_one,hg];simp
  ·rw [show (i+1).toNat=i.toNat+1 by omega,List.take_add_one,hg,List.take_of_length_le (show (rfs g.5).length≤j.toNat by omega)]
   exact (u3j (l.take i.toNat) g).symm
 ·rw [List.take_of_length_le (by omega)]
  rw [List.take_of_length_le (by omega)] at te
  exact y6v (by simp;omega) (by rw [List.length_map];omega) h
end Go.En
end
noncomputable section
set_option maxRecDepth 100000
namespace Go.En
open Go Go.Fl Go.Fl.Lk Go.Fx Go.Sg
open Go.Gr (Ord Grd Rdy Nxt)
open Classical in
def cntn (g:Seg) (s:Subj) (inn:List ByteArray):Bool:=
 match fnd s g.2 with
 |none=>false
 |some c=>if c.2∈g.4 then false else if c.2∈g.3 then true else if g.5.1=0 then false else evl (tst s) (fun x=>dec (x∈inn)) g.5
theorem y6w {g:Seg} {s:Subj} {a b:List ByteArray} (h: ∀x,x∈a↔x∈b):cntn g s a=cntn g s b:=by
 have e:(fun x=>dec (x∈a))=fun x=>dec (x∈b):=funext fun x=>by rw [propext (h x)]
 unfold cntn;rw [e]
theorem v8j {α:Type} {l:List α} {x:α} {A A' B B':Prop} (hl:l.length≤9223372036854775807) (hy:x∈l→A) (hn:x∉l→B):
  Lp1 (fun i Y=>Cnd (i<(l.length:Int)) ((0≤i∧i<(l.length:Int))∧ ∀y,l[i.toNat]? =some y→Cnd (x=y) (Cnd (0≤i) A A') (InI (i+1)∧Y (i+1))) (Cnd ((0:Int)≤ -1) B' B)) 0:=by
 refine Lp1.ind (fun (i:Int)=>0≤i∧i≤l.length∧x∉l.take i.toNat) (fun (i:Int)=>(l.length - i).toNat) ?_ ⟨by omega,by omega,by simp⟩
 rintro i ⟨i0,i1,hno⟩
 refine Cnd.mk (fun hc=>⟨by omega,fun y hy'=>Cnd.mk (fun e=>Cnd.yes i0 (hy (e▸getm hy'))) fun e=>⟨by unfold InI;omega,⟨by omega,by omega,?_⟩,by omega⟩⟩) fun hc=>Cnd.no (by decide) (hn ?_)
 ·rw [show (i+1).toNat=i.toNat+1 by omega,List.take_add_one,hy']
  simp [hno,e]
 ·rwa [List.take_of_length_le (by omega)] at hno
theorem j3z {g:Seg} {s:Subj} {inn:List ByteArray} {K:Bool→Prop} (hs:SubB s) (hw:wt g.5≤1000000) (hv:EvB g.5) (h:K (cntn g s inn)):q2h g s inn K:=by
 unfold q2h q8j
 refine w7d hs ?_
 unfold cntn at h
 cases hf:fnd s g.2 with
 |none=>rw [hf] at h;exact Cnd.no (by simp) h
 |some c=>
  rw [hf] at h
  dsimp only at h
  dsimp only [Option.getD_some]
  refine Cnd.yes rfl fun hl=>v8j hl (fun hx=> ?_) fun hx hl2=>v8j hl2 (fun hy=> ?_) fun hy=>Cnd.mk (fun h0=> ?_) fun h0=> ?_
  ·rwa [if_pos hx] at h
  ·rwa [if_neg hx,if_pos hy] at h
  ·rwa [if_neg hx,if_neg hy,if_pos h0] at h
  ·rw [if_neg hx,if_neg hy,if_neg h0] at h
   rw [q14]
   exact w86 hs _ (Nat.le_refl _) (by omega) hv h
def memb (l:List Seg) (s:Subj) (inn:List ByteArray) (k:ByteArray):Bool:=
 match l.find? fun g=>decide (g.1=k) with
 |none=>false
 |some g=>cntn g s inn
def mbs (l:List Seg) (s:Subj):List ByteArray→List ByteArray→List ByteArray
 |acc,[]=>acc
 |acc,k::o=>mbs l s (if memb l s acc k=true then acc++[k] else acc) o
theorem v8k (l:List Seg) (s:Subj): ∀(o acc:List ByteArray),(acc++o).Nodup→(mbs l s acc o).Nodup
 |[],acc,h=>by simpa [mbs] using h
 |k::o,acc,h=>by
  unfold mbs
  refine v8k l s o _ ?_
  split
  ·simpa using h
  ·exact h.sublist (List.Sublist.append_left (List.sublist_cons_self k o) acc)
theorem w7j (l:List Seg) (s:Subj): ∀(o acc:List ByteArray) (y:ByteArray),y∈mbs l s acc o→y∈acc∨y∈o
 |[],acc,y,h=> .inl h
 |k::o,acc,y,h=>by
  unfold mbs at h
  rcases w7j l s o _ y h with h|h
  ·split at h
   ·rcases List.mem_append.1 h with h|h
    ·exact .inl h
    ·exact .inr (by rw [List.mem_singleton.1 h];simp)
   ·exact .inl h
  ·exact .inr (List.mem_cons_of_mem _ h)
def MemS (l:List Seg) (s:Subj) (m:List ByteArray):Prop:= ∃o r,OrdS l o r∧m=srt (mbs l s [] o)
theorem MemS.uniq {l:List Seg} {s:Subj} {m m':List ByteArray} (h:MemS l s m) (h':MemS l s m'):m=m':=by
 obtain ⟨o,r,ho,rfl⟩:=h
 obtain ⟨o',r',ho',rfl⟩:=h'
 rw [(ho.uniq ho').1]
theorem u04 {ns:List ByteArray} {E:List (ByteArray×ByteArray)} {o:List ByteArray} {r:Int} (h:Ord ns E o r):(o=[]∧r≠0)∨(r=0∧ns.Nodup∧Grd ns E o∧o.length=ns.length):=by
 rcases h with ⟨_,rfl,rfl⟩|⟨_,_,rfl,rfl⟩|⟨h1,_,⟨_,_,_,_,rfl,rfl⟩|⟨a,b,rfl⟩⟩
 ·exact .inl ⟨rfl,by decide⟩
 ·exact .inl ⟨rfl,by decide⟩
 ·exact .inl ⟨rfl,by decide⟩
 ·exact .inr ⟨rfl,h1,a,b⟩
theorem y38 {l:List Seg} (hn:(l.map Seg.key).Nodup) {g:Seg} (hg:g∈l):(l.find? fun x=>decide (x.1=g.1))=some g:=by
 induction l with
 |nil=>simp at hg
 |cons a l ih=>
  rw [List.map_cons,List.nodup_cons] at hn
  rw [List.find?_cons]
  rcases List.mem_cons.1 hg with rfl|hg
  ·simp
  ·have: ¬a.1=g.1:=fun e=>hn.1 (by rw [show a.key=g.key from e];exact List.mem_map_of_mem hg)
   rw [decide_eq_false this]
   exact ih hn.2 hg
theorem u6t:srt []=[]:=by
 have:=q15 []
 exact List.eq_nil_of_length_eq_zero (by simpa using this)
theorem q3k {l:List Seg} {s:Subj} {K:List ByteArray→Prop} (hB:SegB l) (hs:SubB s) (h: ∀m,MemS l s m→K m):q01 l s K:=by
 unfold q01 q9d
 refine w1w hB fun o r ho=> ?_
 rcases u04 ho with ⟨rfl,h0⟩|⟨rfl,hnd,hg,hlen⟩
 ·refine Cnd.no h0 (h _ ⟨[],r,ho,?_⟩)
  rw [mbs,u6t]
 have hn:=hB.n
 have hlen:o.length=l.length:=by simpa using hlen
 have hon:=Go.Gr.Grd.nodup hg
 refine Cnd.yes rfl fun _=> ?_
 refine Lp2.ind (fun (i:Int) (F:ByteArray→Option Seg)=>0≤i∧i≤l.length∧ ∀g∈l.take i.toNat,F g.1=some g) (fun (i:Int) _=>(l.length - i).toNat) ?_ ⟨by omega,by omega,by simp⟩
 rintro i F ⟨i0,i1,hF⟩
 refine Cnd.mk (fun hc=>⟨by omega,fun g hg'=>⟨by unfold InI;omega,⟨by omega,by omega,?_⟩,by omega⟩⟩) fun hc _=> ?_
 ·rw [show (i+1).toNat=i.toNat+1 by omega,List.take_add_one,hg',q14]
  refine q2e (fun x hx=> ?_) ?_
  ·have:x.1≠g.1:=by
    intro e
    have h1:(l.map Seg.key)[i.toNat]? =some g.1:=by rw [List.getElem?_map,hg'];rfl
    refine Go.Gr.u3e hnd h1 ?_
    rw [←List.map_take,←e]
    exact List.mem_map_of_mem hx
   simp only [put,if_neg this]
   exact hF x hx
  ·simp [put]
 rw [List.take_of_length_le (by omega)] at hF
 refine Lp2.ind (fun (acc:List ByteArray) (j:Int)=>0≤j∧j≤o.length∧acc.length≤j.toNat∧mbs l s [] o=mbs l s acc (o.drop j.toNat)) (fun _ (j:Int)=>(o.length - j).toNat) ?_ ⟨by omega,by omega,by simp,rfl⟩
 rintro acc j ⟨j0,j1,hal,hm⟩
 refine Cnd.mk (fun hc=>⟨by omega,fun k hk=> ?_⟩) fun hc=> ?_
 ·have hko:k∈l.map Seg.key:=Go.Gr.Grd.sub hg k (getm hk)
  obtain ⟨g,hgl,hgk⟩:=List.mem_map.1 hko
  have hgk:g.1=k:=hgk
  subst hgk
  rw [hF g hgl]
  dsimp only [Option.getD_some]
  rw [q14]
  rw [drp hk,mbs] at hm
  have hmb:memb l s acc g.1=cntn g s acc:=by unfold memb;rw [y38 hnd hgl]
  refine j3z hs (hB.w g hgl) (hB.v g hgl) ?_
  rw [hmb] at hm
  refine Cnd.mk (fun hb=>⟨by unfold Sml;simp;omega,by unfold InI;omega,⟨by omega,by omega,by simp;omega,?_⟩,by omega⟩) fun hb=>⟨by unfold InI;omega,⟨by omega,by omega,by omega,?_⟩,by omega⟩
  ·have hb:cntn g s acc=true:=hb
   rw [if_pos hb] at hm
   rw [show (j+1).toNat=j.toNat+1 by omega];exact hm
  ·have hb: ¬cntn g s acc=true:=hb
   rw [if_neg hb] at hm
   rw [show (j+1).toNat=j.toNat+1 by omega];exact hm
 ·rw [List.drop_eq_nil_of_le (by omega),mbs] at hm
  show K (srt acc)
  rw [←hm]
  exact h _ ⟨o,0,ho,rfl⟩
theorem z2p {l:List Seg} {s:Subj} {key:ByteArray} {K:Bool→Prop} (hB:SegB l) (hs:SubB s) (h: ∀m,MemS l s m→K (dec (key∈m))):q2i l s key K:=by
 unfold q2i q8k
 exact q3k hB hs fun m hm hl=>v4c hl fun r hr=>by rw [w7f hr];exact h m hm
end Go.En
end
noncomputable section
set_option maxRecDepth 100000
namespace Go.En
open Go Go.Fl Go.Fl.Lk Go.Fx Go.Sg
structure ClE (segs:List ByteArray) (Q:Nat→Ex→Prop):Prop where
 hT: ∀k,Q k (Ex.mk 1 (ByteArray.mk (Array.mk [])) (ByteArray.mk (Array.mk [])) [] [])
 hS: ∀k b,b∈segs→Q k (Ex.mk 5 (ByteArray.mk (Array.mk [])) b [] [])
 ht: ∀k e,ExS 0 e→6≤e.1→Q k e
 hN: ∀k e,Q k e→Q (k+1) (Ex.mk 4 (ByteArray.mk (Array.mk [])) (ByteArray.mk (Array.mk [])) [] [e])
 hA: ∀k op l,op=2∨op=3→l.length≤3→l≠[]→(∀e∈l,Q k e∨ ∃e',Q k e'∧e=Ex.mk 4 (ByteArray.mk (Array.mk [])) (ByteArray.mk (Array.mk [])) [] [e'])→Q (k+1) (Ex.mk op (ByteArray.mk (Array.mk [])) (ByteArray.mk (Array.mk [])) [] l)
theorem ClE.and {segs:List ByteArray} {Q R:Nat→Ex→Prop} (a:ClE segs Q) (b:ClE segs R):ClE segs fun k e=>Q k e∧R k e:=
 ⟨fun k=>⟨a.hT k,b.hT k⟩,fun k x hx=>⟨a.hS k x hx,b.hS k x hx⟩,fun k e h1 h2=>⟨a.ht k e h1 h2,b.ht k e h1 h2⟩,fun k e h=>⟨a.hN k e h.1,b.hN k e h.2⟩,
  fun k op l h1 h2 h3 h=>⟨a.hA k op l h1 h2 h3 fun e he=>(h e he).imp (·.1) fun ⟨e',h,h'⟩=>⟨e',h.1,h'⟩,b.hA k op l h1 h2 h3 fun e he=>(h e he).imp (·.2) fun ⟨e',h,h'⟩=>⟨e',h.2,h'⟩⟩⟩
theorem v0z {list:List Int} {segs:List ByteArray} {Q:Nat→Ex→Prop} (c:ClE segs Q):
  ∀(k:Nat) {at_ levels:Int} {K:Ex→Int→Prop},k≤100→levels≤k+1→1≤levels→DS list at_→(∀r a,Q k r→DS list a→K r a)→q5a list at_ segs levels K:=by
 obtain ⟨hT,hS,ht,hN,hA⟩:=c
 intro k at_ levels K hk0 hk hl hD h X hX
 induction k generalizing at_ levels K with
 |zero=>
  refine hX _ _ _ _ _ ?_
  unfold j0g
  refine q0f hD (by decide) fun r a r0 r1 hD=>Jn1.mk (fun x=>0≤x∧x≤3) (Cnd.mk (fun _=>Cnd.mk (fun _=>⟨by unfold InI;omega,by omega,by omega⟩) fun _=>⟨by omega,by omega⟩) fun _=>by omega) fun x hx=> ?_
  have t:=j6k (K:=fun r a=>K (Ex.mk r.1 r.2 r.3 r.4 r.5) a) hD fun r a hr h6 hD=>h _ a (by rw [q14];exact ht 0 r hr h6) hD
  refine Cnd.mk (fun _=>h _ _ (hT 0) hD) fun _=>Cnd.mk (fun _ _=>Cnd.mk (fun hc _=> ?_) fun _=>t) fun _=>Cnd.mk (fun hc=>by omega) fun _=> ?_
  ·exact q0f hD (by omega) fun r a r0 r1 hD=>⟨⟨r0,r1⟩,fun y hy=>h _ _ (hS 0 y (getm hy)) hD⟩
  ·exact Jn1.mk (fun x=>x=false) (Cnd.mk (fun hc=>by omega) fun _=>decide_eq_false (by omega)) fun x hx=>Cnd.mk (fun hc=>by rw [hx] at hc;cases hc) fun _=>t
 |succ k ih=>
  refine hX _ _ _ _ _ ?_
  unfold j0g
  have go: ∀{at_:Int} {K:Ex→Int→Prop},1≤levels - 1→DS list at_→(∀r a,Q k r→DS list a→K r a)→X list at_ segs (levels - 1) K:=fun h1 hD hK=>ih (by omega) (by omega) h1 hD hK
  refine q0f hD (by decide) fun r a r0 r1 hD=>Jn1.mk (fun x=>0≤x∧x≤7∧(levels≤1→x≤3)) (Cnd.mk (fun _=>Cnd.mk (fun _=>⟨by unfold InI;omega,by omega,by omega,by omega⟩) fun _=>⟨by omega,by omega,by omega⟩) fun _=>by omega) fun x hx=> ?_
  have t:=j6k (K:=fun r a=>K (Ex.mk r.1 r.2 r.3 r.4 r.5) a) hD fun r a hr h6 hD=>h _ a (by rw [q14];exact ht _ r hr h6) hD
  refine Cnd.mk (fun _=>h _ _ (hT _) hD) fun _=>Cnd.mk (fun _ _=>Cnd.mk (fun hc _=> ?_) fun _=>t) fun _=>Cnd.mk (fun hc=> ?_) fun _=> ?_
  ·exact q0f hD (by omega) fun r a r0 r1 hD=>⟨⟨r0,r1⟩,fun y hy=>h _ _ (hS _ y (getm hy)) hD⟩
  ·refine ⟨by unfold InI;omega,go (by omega) hD fun e a he hD=>h _ _ ?_ hD⟩
   rw [q14];exact hN k e he
  refine Jn1.mk (fun y=>y=true→2≤levels) (Cnd.mk (fun hc _=>by omega) fun _ hc=>by have:=of_decide_eq_true hc;omega) fun y hy=>Cnd.mk (fun hc=> ?_) fun _=>t
  have hy:=hy hc
  refine q0f hD (by decide) fun r a r0 r1 hD=>⟨by unfold InI;omega,q0f hD (by decide) fun q a q0 q1 hD=>⟨by unfold InI;omega,?_⟩⟩
  refine LpH.ind (fun x=>0≤x.1∧x.1≤2+q∧DS list x.2.1∧x.2.2=(2+r,ByteArray.mk (Array.mk []),ByteArray.mk (Array.mk []),[],x.2.2.2.2.2.2.1,())∧(x.2.2.2.2.2.2.1.length:Int)=x.1∧ ∀e∈x.2.2.2.2.2.2.1,Q k e∨ ∃e',Q k e'∧e=Ex.mk 4 (ByteArray.mk (Array.mk [])) (ByteArray.mk (Array.mk [])) [] [e']) (fun x=>(3 - x.1).toNat) ?_ ⟨Int.le_refl 0,by simp only;omega,hD,rfl,rfl,by simp⟩
  rintro ⟨i,a,x⟩ ⟨i0,i1,hD,hx,hl,he⟩
  simp only at i0 i1 hD hx hl he
  generalize x.2.2.2.2.1=l at*
  subst hx
  simp only at hl he⊢
  refine Cnd.mk (fun hc=>⟨by unfold InI;omega,go (by omega) hD fun e a hk hD=> ?_⟩) fun hc=>h _ _ (hA k (2+r) l (by omega) (by omega) (fun e=>by rw [e] at hl;simp at hl;omega) he) hD
  refine Jn1.mk (fun z=>(fun e=>Q k e∨ ∃e',Q k e'∧e=Ex.mk 4 (ByteArray.mk (Array.mk [])) (ByteArray.mk (Array.mk [])) [] [e']) (Ex.mk z.1 z.2.1 z.2.2.1 z.2.2.2.1 z.2.2.2.2.1)) (Cnd.mk (fun _=> .inr ⟨e,hk,by simp only;rw [q14]⟩) fun _=> .inl (by simp only;rw [q14];exact hk)) fun z hz=> ?_
  exact ⟨by unfold Sml;simp;omega,by unfold InI;omega,⟨by omega,by omega,hD,trivial,by simp;omega,q2e he hz⟩,by omega⟩
structure DrE (segs:List ByteArray) (w:Nat) (e:Ex):Prop where
 wt:wt e≤w
 nms: ∀x∈nms e,x∈segs
 ev:EvB e
theorem EvB.mk' {e:Ex} (h: ∀w∈e.4,ValB w) (hk: ∀k∈e.5,EvB k):EvB e:=fun a ha=>by
 rw [z9z] at ha
 rcases List.mem_cons.1 ha with rfl|ha
 ·exact h
 ·obtain ⟨k,hk',ha⟩:=z2o.1 ha
  exact hk k hk' a ha
theorem u75 {l:List Val} {b:Nat} (h: ∀v∈l,v.4.length≤b):wtV l≤l.length*(1+b):=by
 induction l with
 |nil=>simp [wtV]
 |cons v l ih=>
  have h1:=h v List.mem_cons_self
  have h2:=ih fun v hv=>h v (List.mem_cons_of_mem _ hv)
  simp only [wtV,List.length_cons,Nat.add_mul,Nat.one_mul] at*
  omega
theorem u76 {l:List Ex} {b:Nat} (h: ∀e∈l,wt e≤b):wtL l≤l.length*b:=by
 induction l with
 |nil=>simp [wtL]
 |cons v l ih=>
  have h1:=h v List.mem_cons_self
  have h2:=ih fun v hv=>h v (List.mem_cons_of_mem _ hv)
  simp only [wtL,List.length_cons,Nat.add_mul,Nat.one_mul] at*
  omega
def lvl:Nat→Nat
 |0=>45
 |k+1=>4+3*lvl k
theorem u05 (k:Nat):45≤lvl k:=by
 induction k with
 |zero=>exact Nat.le_refl _
 |succ k ih=>simp only [lvl];omega
theorem u4c {segs:List ByteArray}:ClE segs fun k e=>DrE segs (lvl k) e:=by
 have leaf: ∀{e:Ex} {x:ByteArray},e.5=[]→x∈nms e→e.1=5∧e.3=x:=fun {e x} h5 hx=>by
  rw [w0h,h5] at hx
  exact hx.elim id fun ⟨k,hk,_⟩=>by simp at hk
 refine ⟨fun k=>⟨?_,fun x hx=> ?_,EvB.mk' (by simp) (by simp)⟩,fun k b hb=>⟨?_,fun x hx=> ?_,EvB.mk' (by simp) (by simp)⟩,fun k e he h6=>⟨?_,fun x hx=> ?_,EvB.mk' (fun w hw=> ?_) (by rw [he.2.2.2];simp)⟩,fun k e he=>⟨?_,fun x hx=> ?_,EvB.mk' (by simp) (by simpa using he.ev)⟩,fun k op l hop h3 hne he=>⟨?_,fun x hx=> ?_,EvB.mk' (by simp) fun e hm=> ?_⟩⟩
 ·have:=u05 k;simp only [wt,wtV,wtL];omega
 ·have:=(leaf rfl hx).1;simp at this
 ·have:=u05 k;simp only [wt,wtV,wtL];omega
 ·rw [←(leaf rfl hx).2];exact hb
 ·have h1:=u05 k
  have h2:=u75 (l:=e.4) (b:=10) fun v hv=>(he.vals.all v hv).len
  have h3:=he.vals.len
  rw [w85,he.2.2.2]
  simp only [wtL];omega
 ·have:=(leaf he.2.2.2 hx).1;omega
 ·exact ⟨Nat.le_trans (he.vals.all w hw).txt (by decide),Nat.le_trans (he.vals.all w hw).len (by decide)⟩
 ·have:=he.wt;simp only [wt,wtV,wtL,lvl];omega
 ·rw [w0h] at hx
  rcases hx with hx|⟨k,hk,hx⟩
  ·simp at hx
  ·have:k=e:=by simpa using hk
   rw [this] at hx;exact he.nms x hx
 ·rw [w85]
  have:wtL l≤l.length*(1+lvl k):=u76 fun e hm=>by
   rcases he e hm with h|⟨e',h,rfl⟩
   ·have:=h.wt;omega
   ·have:=h.wt;simp only [wt,wtV,wtL];omega
  have h4:l.length*(1+lvl k)≤3*(1+lvl k):=Nat.mul_le_mul_right _ h3
  simp only [wtV,lvl];omega
 ·rw [w0h] at hx
  rcases hx with hx|⟨q,hq,hx⟩
  ·simp only at hx;omega
  ·rcases he q hq with h|⟨e',h,rfl⟩
   ·exact h.nms x hx
   ·rw [w0h] at hx
    rcases hx with hx|⟨k,hk,hx⟩
    ·simp at hx
    ·have:k=e':=by simpa using hk
     rw [this] at hx;exact h.nms x hx
 ·rcases he e hm with h|⟨e',h,rfl⟩
  ·exact h.ev
  ·exact EvB.mk' (by simp) (by simpa using h.ev)
theorem u06 {list:List Int} {segs:List ByteArray} (k:Nat) {at_ levels:Int} {K:Ex→Int→Prop} (hk0:k≤100) (hk:levels≤k+1) (hl:1≤levels) (hD:DS list at_) (h: ∀r a,DrE segs (lvl k) r→DS list a→K r a):q5a list at_ segs levels K:=v0z u4c k hk0 hk hl hD h
theorem u6u {segs:List ByteArray} (hs: ∀s∈segs,s.size≤100):ClE segs fun k e=>ExS (2*k) e:=
 ⟨fun k=>ExS.le (n:=0) ⟨.nil,⟨sz0,sz0⟩,opl (by simp),rfl⟩ (by omega),fun k b hb=>ExS.le (n:=0) ⟨.nil,⟨hs _ hb,sz0⟩,opl (by simp),rfl⟩ (by omega),fun k e he _=>he.le (by omega),fun k e he=>(u29 he sz0 sz0).le (by omega),
  fun k op l hop h3 hne he=>⟨.nil,⟨sz0,sz0⟩,⟨InI.mk (by simp only;omega) (by simp only;omega),fun _ _=>hne⟩,h3,fun e hm=>by
   rcases he e hm with h|⟨e',h,rfl⟩
   ·exact h.up
   ·exact u29 h sz0 sz0⟩⟩
def Byts (l:List Int):Prop:= ∀x∈l,0≤x∧x<256
theorem y39 {l:List Int} {most:Int} {K:List Int→Int→Prop} (hb:Byts l) (h0:0≤most) (h1:most≤1000) (h: ∀r,DS r 0→K r 0):j23 l most K:=by
 unfold j23
 refine Jn1.mk (fun r=>DS r 0) ?_ h
 refine fun _=>Cnd.mk (fun hc=>⟨by omega,?_⟩) fun hc=>⟨by omega,by omega,by omega,hb⟩
 rw [show List.drop (Int.toNat 0) (List.take most.toNat l)=l.take most.toNat from rfl]
 exact ⟨by rw [List.length_take];omega,by omega,by omega,fun x hx=>hb x (List.mem_of_mem_take hx)⟩
structure CtxS (c:Ctxt):Prop where
 a:c.attrs.length≤8
 l: ∀a∈c.attrs,ValS a.value
 k:c.key.size≤5
theorem w0i {list:List Int} {at_:Int} {kind:ByteArray} {K:Ctxt→Int→Prop} (hD:DS list at_) (h: ∀c a,c.kind=kind→CtxS c→DS list a→K c a):q7b list at_ kind K:=by
 unfold q7b j24
 refine y3s hD fun key a hk hD=>q8u fun l hl hd=> ?_
 refine Lp3.ind (fun (i:Int) (r:List Attr) (a:Int)=>0≤i∧i≤l.length∧r.length≤i.toNat∧(∀a∈r,ValS a.value)∧DS list a) (fun (i:Int) _ _=>(l.length - i).toNat) ?_ ⟨by omega,by omega,by simp,by simp,hD⟩
 rintro i r a ⟨i0,i1,hr,hv,hD⟩ _
 refine Cnd.mk (fun hc=>⟨by omega,fun y hy=>Cnd.mk (fun _=>q0f hD (by decide) fun q a q0 q1 hD=>Cnd.mk (fun _=>⟨by omega,fun y2 hy2=>⟨by omega,fun y3 hy3=>q9q hD fun v a hvv hD=>⟨by unfold Sml;simp;omega,by unfold InI;omega,⟨by omega,by omega,by simp;omega,q2e hv hvv,hD⟩,by omega⟩⟩⟩) fun _=>⟨by unfold InI;omega,⟨by omega,by omega,by omega,hv,hD⟩,by omega⟩) fun _=>⟨by unfold InI;omega,⟨by omega,by omega,by omega,hv,hD⟩,by omega⟩⟩) fun _=>h _ _ rfl ⟨by simp only;omega,hv,hk⟩ hD
theorem v8l {list:List Int} {at_:Int} {K:Subj→Int→Prop} (hD:DS list at_) (h: ∀s a,s.ctxs.length≤2→(∀c∈s.ctxs,CtxS c)→K s a):q9e list at_ K:=by
 unfold q9e j25
 refine q0f hD (by decide) fun q a q0 q1 hD=> ?_
 refine Jn2.mk (fun (a:Int) (l:List Ctxt)=>l.length≤1∧(∀c∈l,CtxS c)∧DS list a) ?_ fun a l hx=> ?_
 ·have one:q7b list a (ByteArray.mk (Array.mk [100,101,118,105,99,101])) fun c a=>Sml ([]++[c]).length∧(([]++[c]:List Ctxt).length≤1∧(∀x∈([]++[c]:List Ctxt),CtxS x)∧DS list a):=w0i hD fun c a _ hc hD=>⟨by unfold Sml;simp,by simp,by simpa using hc,hD⟩
  exact Cnd.mk (fun _=>one) fun _=>Cnd.mk (fun _=>one) fun _=>Cnd.mk (fun _=>one) fun _=>⟨by simp,by simp,hD⟩
 ·obtain ⟨hl,hc,hD⟩:=hx
  have fin: ∀a,K (Subj.mk l) a:=fun a=>h _ _ (by simp only;omega) hc
  exact Cnd.mk (fun _=>fin _) fun _=>Cnd.mk (fun _=>fin _) fun _=>w0i hD fun c a _ hcc _=>⟨by unfold Sml;simp;omega,h _ _ (by simp;omega) (q2e hc hcc)⟩
theorem v00 {s:Subj} (h:s.ctxs.length≤2) (hc: ∀c∈s.ctxs,CtxS c):SubB s:=
 ⟨by omega,fun c hm=>by have:=(hc c hm).a;omega,fun c hm a ha=>by have:=((hc c hm).l a ha);have h1:=this.len;have h2:=this.txt;omega,fun c hm=>by have:=(hc c hm).k;omega⟩
theorem y2j {l:List Seg} (hn:l.length≤50) (h: ∀g∈l,∃segs,DrE segs 20000 g.5):SegB l:=⟨hn,fun g hg=>Nat.le_trans (h g hg).choose_spec.wt (by decide),fun g hg=>(h g hg).choose_spec.ev,by
 have:=u6s (l:=l) fun g hg=>(h g hg).choose_spec.wt
 omega⟩
end Go.En
end
noncomputable section
set_option maxRecDepth 100000
namespace Go.En
open Go Go.Fl Go.Fl.Lk Go.Fx Go.Sg
open Go.Gr (Ord Grd Rdy Nxt)
theorem v01 (l:List Seg) (s:Subj): ∀(a b acc:List ByteArray),mbs l s acc (a++b)=mbs l s (mbs l s acc a) b
 |[],b,acc=>rfl
 |k::a,b,acc=>by rw [List.cons_append,mbs,mbs,v01 l s a b]
theorem v4h (l:List Seg) (s:Subj): ∀(o acc:List ByteArray) (y:ByteArray),y∈acc→y∈mbs l s acc o
 |[],acc,y,h=>h
 |k::o,acc,y,h=>by
  rw [mbs]
  refine v4h l s o _ y ?_
  split
  ·exact List.mem_append_left _ h
  ·exact h
theorem v8m {T:Ex→Bool} {I J:ByteArray→Bool}: ∀(n:Nat) {e:Ex},wt e≤n→(∀x∈nms e,I x=J x)→evl T I e=evl T J e
 |0,e,h,_=>by have:=z90 e;omega
 |n+1,e,h,hx=>by
  have hk: ∀k∈e.5,evl T I k=evl T J k:=fun k hk=>v8m n (by have:=z91 hk;omega) fun x hm=>hx x ((w0h e x).2 (.inr ⟨k,hk,hm⟩))
  have hA: ∀l:List Ex,(∀k∈l,evl T I k=evl T J k)→evlA T I l=evlA T J l∧evlO T I l=evlO T J l∧evlN T I l=evlN T J l:=by
   intro l
   induction l with
   |nil=>intro _;simp [evlA,evlO,evlN]
   |cons k l ih=>
    intro h
    obtain ⟨h1,h2,h3⟩:=ih fun q hq=>h q (List.mem_cons_of_mem _ hq)
    have h0:=h k List.mem_cons_self
    simp only [evlA,evlO,evlN,h0,h1,h2,and_self]
  obtain ⟨h1,h2,h3⟩:=hA e.5 hk
  rw [y37,y37 T J,h1,h2,h3]
  by_cases h5:e.1=5
  ·rw [hx e.3 ((w0h e _).2 (.inl ⟨h5,rfl⟩))]
  ·simp only [if_neg h5]
theorem j87 {g:Seg} {s:Subj} {a b:List ByteArray} (h: ∀x∈nms g.5,(x∈a↔x∈b)):cntn g s a=cntn g s b:=by
 unfold cntn
 have e:=v8m (T:=tst s) (I:=fun x=>dec (x∈a)) (J:=fun x=>dec (x∈b)) (wt g.5) (Nat.le_refl _) fun x hx=>by show dec _=dec _;rw [propext (h x hx)]
 rw [e]
theorem u6v {l:List Seg} {s:Subj} {o:List ByteArray} (hnd:(l.map Seg.key).Nodup) (hg:Grd (l.map Seg.key) ((edg l).map prE) o) (hlen:o.length=(l.map Seg.key).length) {g:Seg} (hgl:g∈l):g.1∈mbs l s [] o↔cntn g s (mbs l s [] o)=true:=by
 have hon:=Go.Gr.Grd.nodup hg
 have hgo:g.1∈o:=by
  refine Classical.byContradiction fun hn=> ?_
  have h1:=Go.Gr.y6u hon hn
  have h2:(o++[g.1]).length≤(l.map Seg.key).length:=by
   rcases Nat.lt_or_ge (l.map Seg.key).length (o++[g.1]).length with hl|hl
   ·obtain ⟨x,hx,hno⟩:=Go.Gr.u00 h1 hl
    refine absurd ?_ hno
    rcases List.mem_append.1 hx with hx|hx
    ·exact Go.Gr.Grd.sub hg x hx
    ·rw [List.mem_singleton.1 hx];exact List.mem_map_of_mem hgl
   ·exact hl
  simp at h2;simp at hlen;omega
 obtain ⟨k,hk⟩:=List.mem_iff_getElem?.1 hgo
 have hsplit:o=o.take k++g.1::o.drop (k+1):=by
  conv=>lhs;rw [←List.take_append_drop k o,drp hk]
 have hnx:=hg k g.1 hk
 have hdis: ∀x∈o.take k,x∉g.1::o.drop (k+1):=by
  rw [hsplit] at hon
  exact fun x hx hy=>(List.nodup_append.1 hon).2.2 x hx x hy rfl
 have hgd:g.1∉o.drop (k+1):=by
  rw [hsplit] at hon
  exact (List.nodup_cons.1 (List.nodup_append.1 hon).2.1).1
 have hfin:mbs l s [] o=mbs l s (if cntn g s (mbs l s [] (o.take k))=true then mbs l s [] (o.take k)++[g.1] else mbs l s [] (o.take k)) (o.drop (k+1)):=by
  conv=>lhs;rw [hsplit,v01,mbs]
  rw [show memb l s (mbs l s [] (o.take k)) g.1=cntn g s (mbs l s [] (o.take k)) by unfold memb;rw [y38 hnd hgl]]
 have hacc: ∀x∈o.take k,(x∈mbs l s [] (o.take k)↔x∈mbs l s [] o):=fun x hx=>by
  rw [hfin]
  constructor
  ·intro h
   refine v4h _ _ _ _ _ ?_
   split
   ·exact List.mem_append_left _ h
   ·exact h
  ·intro h
   rcases w7j _ _ _ _ _ h with h|h
   ·split at h
    ·rcases List.mem_append.1 h with h|h
     ·exact h
     ·exact absurd (by rw [List.mem_singleton.1 h];exact List.mem_cons_self) (hdis x hx)
    ·exact h
   ·exact absurd (List.mem_cons_of_mem _ h) (hdis x hx)
 have hneed: ∀x∈nms g.5,x∈o.take k:=fun x hx=>by
  refine hnx.1.2.2 (g.1,x) ?_ rfl
  refine List.mem_map.2 ⟨Edg.mk g.1 x,?_,rfl⟩
  unfold edg
  exact List.mem_flatMap.2 ⟨g,hgl,List.mem_map.2 ⟨x,y2i.2 hx,rfl⟩⟩
 have hc:cntn g s (mbs l s [] (o.take k))=cntn g s (mbs l s [] o):=j87 fun x hx=>hacc x (hneed x hx)
 have hno:g.1∉mbs l s [] (o.take k):=fun h=>by
  rcases w7j _ _ _ _ _ h with h|h
  ·simp at h
  ·exact hdis g.1 h List.mem_cons_self
 rw [hc] at hfin
 by_cases hb:cntn g s (mbs l s [] o)=true
 ·refine ⟨fun _=>hb,fun _=> ?_⟩
  rw [hfin,if_pos hb]
  exact v4h _ _ _ _ _ (List.mem_append_right _ List.mem_cons_self)
 ·refine ⟨fun h=> ?_,fun h=>absurd h hb⟩
  rw [hfin,if_neg hb] at h
  rcases w7j _ _ _ _ _ h with h|h
  ·exact absurd h hno
  ·exact absurd h hgd
theorem u77 {ns:List ByteArray} {E:List (ByteArray×ByteArray)} {o:List ByteArray} {r:Int} (h:Ord ns E o r) (hnd:ns.Nodup) (hin: ∀e∈E,e.1∈ns∧e.2∈ns) (hf: ∀e∈E,blt e.2 e.1):r=0∧Grd ns E o∧o.length=ns.length:=by
 rcases h with ⟨h1,_,_⟩|⟨_,⟨e,he,hb⟩,_,_⟩|⟨_,_,⟨q,_,h3,h4,_,_⟩|⟨a,b,rfl⟩⟩
 ·exact absurd hnd h1
 ·have:=hin e he;rcases hb with hb|hb<;>simp [this] at hb
 ·exact (Go.Gr.y2h hnd hin hf h3 h4).elim
 ·exact ⟨rfl,a,b⟩
structure Falls (l:List Seg):Prop where
 nd:(l.map Seg.key).Nodup
 nm: ∀g∈l,∀x∈nms g.5,x∈l.map Seg.key∧blt x g.1
theorem Falls.ord {l:List Seg} (h:Falls l) {o:List ByteArray} {r:Int} (ho:OrdS l o r):r=0∧Grd (l.map Seg.key) ((edg l).map prE) o∧o.length=(l.map Seg.key).length:=by
 have key: ∀e∈(edg l).map prE,(e.1∈l.map Seg.key∧e.2∈l.map Seg.key)∧blt e.2 e.1:=fun e he=>by
  obtain ⟨d,hd,rfl⟩:=List.mem_map.1 he
  unfold edg at hd
  obtain ⟨g,hg,hd⟩:=List.mem_flatMap.1 hd
  obtain ⟨x,hx,rfl⟩:=List.mem_map.1 hd
  have:=h.nm g hg x (y2i.1 hx)
  exact ⟨⟨List.mem_map_of_mem hg,this.1⟩,this.2⟩
 exact u77 ho h.nd (fun e he=>(key e he).1) fun e he=>(key e he).2
theorem MemS.mean {l:List Seg} (hl:Falls l) {s:Subj} {m:List ByteArray} (h:MemS l s m):Asc m∧(∀y∈m,y∈l.map Seg.key)∧ ∀g∈l,(g.1∈m↔cntn g s m=true):=by
 obtain ⟨o,r,ho,rfl⟩:=h
 obtain ⟨rfl,hg,hlen⟩:=hl.ord ho
 have hon:=Go.Gr.Grd.nodup hg
 refine ⟨Go.Gr.u01 (v8k _ _ _ _ (by simpa using hon)),fun y hy=> ?_,fun g hgl=> ?_⟩
 ·rw [z7s] at hy
  rcases w7j _ _ _ _ _ hy with hy|hy
  ·simp at hy
  ·exact Go.Gr.Grd.sub hg y hy
 ·rw [z7s,u6v hl.nd hg hlen hgl]
  rw [y6w (a:=srt (mbs l s [] o)) (b:=mbs l s [] o) fun x=>z7s _ x]
abbrev aB:ByteArray:=ByteArray.mk (Array.mk [97])
abbrev bB:ByteArray:=ByteArray.mk (Array.mk [98])
abbrev y2k:ByteArray:=ByteArray.mk (Array.mk [98,101,116,97])
abbrev j30:ByteArray:=ByteArray.mk (Array.mk [117,115,101,114])
abbrev noE:Ex:=Ex.mk 0 (ByteArray.mk (Array.mk [])) (ByteArray.mk (Array.mk [])) [] []
theorem y4a {e:Ex} (h5:e.5=[]) (h:e.1≠5): ∀x,x∉nms e:=fun x hx=>by
 rw [w0h,h5] at hx
 exact hx.elim (fun k=>h k.1) fun ⟨k,hk,_⟩=>by simp at hk
theorem u07 {g:Seg} (h: ∀x,x∉nms g.5):Falls [g]:=⟨by simp,fun q hq x hx=>by
 have:q=g:=by simpa using hq
 subst this;exact absurd hx (h x)⟩
theorem u08 {g:Seg} {s:Subj} {m:List ByteArray} (hn: ∀x,x∉nms g.5) (h:MemS [g] s m):m=if cntn g s []=true then [g.1] else []:=by
 obtain ⟨ha,hs,hm⟩:=h.mean (u07 hn)
 have hg:=hm g List.mem_cons_self
 rw [j87 (b:=[]) fun x hx=>absurd hx (hn x)] at hg
 have hs: ∀y∈m,y=g.1:=fun y hy=>by simpa using hs y hy
 refine z93 ha ?_ fun y=> ?_
 ·split
  ·exact List.pairwise_singleton _ _
  ·exact v33
 ·split
  ·rename_i hb
   rw [List.mem_singleton]
   exact ⟨hs y,fun e=>by rw [e];exact hg.2 hb⟩
  ·rename_i hb
   exact ⟨fun hy=>absurd (hg.1 (hs y hy▸hy)) hb,fun hy=>by simp at hy⟩
theorem u3k {K:Bool→Prop} (h:K true):q6f K:=by
 unfold q6f z54
 have hB:SegB [Seg.mk y2k j30 [aB,bB] [bB] noE]:=y2j (by simp) fun g hg=>⟨[],by
  have:g=Seg.mk y2k j30 [aB,bB] [bB] noE:=by simpa using hg
  subst this
  exact ⟨by simp [wt,wtV,wtL],fun x hx=>absurd hx (y4a rfl (by decide) x),EvB.mk' (by simp) (by simp)⟩⟩
 have hS: ∀k:ByteArray,k.size≤5→SubB (Subj.mk [Ctxt.mk j30 k []]):=fun k hk=>v00 (by simp) fun c hc=>by
  have:c=Ctxt.mk j30 k []:=by simpa using hc
  subst this
  exact ⟨by simp,by simp,hk⟩
 have hno: ∀x,x∉nms (Seg.mk y2k j30 [aB,bB] [bB] noE).5:=y4a rfl (by decide)
 have ca:cntn (Seg.mk y2k j30 [aB,bB] [bB] noE) (Subj.mk [Ctxt.mk j30 aB []]) []=true:=by
  unfold cntn
  rw [show fnd (Subj.mk [Ctxt.mk j30 aB []]) (Seg.mk y2k j30 [aB,bB] [bB] noE).2=some (Ctxt.mk j30 aB []) by unfold fnd;simp]
  simp only
  rw [if_neg (show ¬aB∈[bB] by rw [List.mem_singleton];decide),if_pos (show aB∈[aB,bB] from List.mem_cons_self)]
 have cb:cntn (Seg.mk y2k j30 [aB,bB] [bB] noE) (Subj.mk [Ctxt.mk j30 bB []]) []=false:=by
  unfold cntn
  rw [show fnd (Subj.mk [Ctxt.mk j30 bB []]) (Seg.mk y2k j30 [aB,bB] [bB] noE).2=some (Ctxt.mk j30 bB []) by unfold fnd;simp]
  simp only
  rw [if_pos (show bB∈[bB] from List.mem_cons_self)]
 refine z2p hB (hS _ (by decide)) fun m hm=> ?_
 have e1:=u08 hno hm
 rw [ca,if_pos rfl] at e1
 subst e1
 refine Cnd.mk (fun _=> ?_) fun hn=>absurd (v4b (by simp)) hn
 refine z2p hB (hS _ (by decide)) fun m2 hm2=> ?_
 have e2:=u08 hno hm2
 rw [cb,if_neg (by decide)] at e2
 subst e2
 refine Cnd.mk (fun hn=> ?_) fun _=> ?_
 ·have:=v4a.1 hn;simp at this
 refine q3k hB (hS _ (by decide)) fun m3 hm3 _=> ?_
 rw [hm3.uniq hm]
 exact h
end Go.En
end
noncomputable section
set_option maxRecDepth 100000
namespace Go.En
open Go Go.Fl Go.Fl.Lk Go.Fx Go.Sg
def sgK:List ByteArray:=[ByteArray.mk (Array.mk [97,108,112,104,97]),ByteArray.mk (Array.mk [98,101,116,97]),ByteArray.mk (Array.mk [103,97,109,109,97])]
structure GS (l:List Seg):Prop where
 keys:l.map Seg.key=sgK.take l.length
 cond: ∀(i:Nat) g,l[i]? =some g→DrE (sgK.take i) 20000 g.5
theorem DrE.le {segs:List ByteArray} {a b:Nat} {e:Ex} (h:DrE segs a e) (hab:a≤b):DrE segs b e:=⟨Nat.le_trans h.wt hab,h.nms,h.ev⟩
theorem DrE.eta {segs:List ByteArray} {w:Nat} {e:Ex} (h:DrE segs w e):DrE segs w (Ex.mk e.1 e.2 e.3 e.4 e.5):=by rw [q14];exact h
theorem u4d:GS []:=⟨rfl,by simp⟩
theorem u3l {segs:List ByteArray}:DrE segs 20000 (Ex.mk 0 (ByteArray.mk (Array.mk [])) (ByteArray.mk (Array.mk [])) [] []):=
 ⟨by simp [wt,wtV,wtL],fun x hx=>by rw [w0h] at hx;rcases hx with ⟨h,_⟩|⟨k,hk,_⟩<;>simp at*,EvB.mk' (by simp) (by simp)⟩
theorem v4i {list:List Int} {at_ hold:Int} {salt hkind:ByteArray} {attrs:List Decl} {flags:List Flg} {layers:List Lay_} {expers:List Exper}
  {K:Int→ByteArray→ByteArray→Int→List Decl→List Seg→List Flg→List Lay_→List Exper→Prop} (hD:DS list at_)
  (h: ∀a segs,DS list a→segs.length≤3→(∀g∈segs,SegS g)→GS segs→K a salt hkind hold attrs segs flags layers expers):q7h list at_ salt hkind hold attrs [] flags layers expers K:=by
 unfold q7h z7y
 refine q0f hD (by decide) fun n a n0 n1 hD=>j6j n0 (by simp only [List.length_cons,List.length_nil];omega) ?_
 rw [show ([ByteArray.mk (Array.mk [97,108,112,104,97]),ByteArray.mk (Array.mk [98,101,116,97]),ByteArray.mk (Array.mk [103,97,109,109,97])]:List ByteArray)=sgK from rfl]
 have nms: ∀s∈List.take n.toNat sgK,s.size≤100:=fun s hs=>by
  have:=List.mem_of_mem_take hs
  have k: ∀s∈sgK,s.size≤100:=by decide
  exact k s this
 have hlen:(List.take n.toNat sgK).length≤3:=by
  rw [List.length_take];have:sgK.length=3:=rfl;omega
 have hfst: ∀i,i≤(List.take n.toNat sgK).length→(List.take n.toNat sgK).take i=sgK.take i:=fun i hi=>by
  rw [List.take_take,Nat.min_eq_left]
  rw [List.length_take] at hi;omega
 generalize List.take n.toNat _=l at nms hlen hfst
 refine Lp3.ind (fun (i a:Int) (gs:List Seg)=>DS list a∧0≤i∧i≤l.length∧(gs.length:Int)=i∧(∀g∈gs,SegS g)∧GS gs) (fun (i:Int) _ _=>(3 - i).toNat) ?_ ⟨hD,Int.le_refl 0,by omega,rfl,by simp,u4d⟩
 rintro i a gs ⟨hD,i0,i1,hl,hg,hgs⟩ _
 refine Cnd.mk (fun hc=>⟨by omega,fun y hy=>w6w hD fun inc a hi1 _ hD=>w6w hD fun exc a he1 _ hD=> ?_⟩) fun _=>h _ _ hD (by omega) hg hgs
 refine Jn2.mk (fun k a=>k.size≤100∧DS list a) (q0f hD (by decide) fun r a r0 r1 hD=>Cnd.mk (fun _=>⟨by decide,hD⟩) fun _=>⟨by decide,hD⟩) fun kind a hx=> ?_
 obtain ⟨hkd,hD⟩:=hx
 refine Jn1.mk (fun x=>(ExS 4 (Ex.mk x.1 x.2.1 x.2.2.1 x.2.2.2.1 x.2.2.2.2.1)∧DrE (l.take i.toNat) 20000 (Ex.mk x.1 x.2.1 x.2.2.1 x.2.2.2.1 x.2.2.2.2.1))∧DS list x.2.2.2.2.2.1) (q0f hD (by decide) fun r a r0 r1 hD=>Cnd.mk (fun _=>⟨by omega,?_⟩) fun _=>⟨⟨ExS.le (n:=0) ⟨.nil,⟨sz0,sz0⟩,opl (by simp),rfl⟩ (by omega),u3l⟩,hD⟩) fun x hx=> ?_
 ·exact v0z ((u6u fun s hs=>nms s (List.mem_of_mem_take (List.mem_of_mem_drop hs))).and u4c) 2 (by omega) (by decide) (by decide) hD fun e a he hD=>⟨⟨he.1.eta,(he.2.le (by decide)).eta⟩,hD⟩
 ·have hk:l[i.toNat]? =some y:=hy
  refine ⟨by unfold Sml;simp;omega,by unfold InI;omega,⟨hx.2,by omega,by omega,by simp;omega,q2e hg ⟨nms _ (getm hy),hkd,hi1,he1,hx.1.1⟩,?_,fun j g hj=> ?_⟩,by omega⟩
  ·rw [List.map_append,hgs.keys,List.length_append,List.length_singleton,←hfst _ (by omega),←hfst _ (by omega),List.take_add_one,show l[gs.length]? =some y by rw [←hk];congr 1;omega]
   rfl
  ·rcases Nat.lt_or_ge j gs.length with hlt|hge
   ·rw [List.getElem?_append_left hlt] at hj;exact hgs.cond j g hj
   ·rw [List.getElem?_append_right hge] at hj
    have hj0:j=gs.length:=by
     rcases Nat.eq_zero_or_pos (j - gs.length) with h0|h0
     ·omega
     ·rw [List.getElem?_eq_none (by simp;omega)] at hj;cases hj
    subst hj0
    simp only [Nat.sub_self,List.getElem?_cons_zero,Option.some.injEq] at hj
    subst hj
    rw [←hfst _ (by omega),show gs.length=i.toNat by omega]
    exact hx.1.2
end Go.En
end
noncomputable section
set_option maxRecDepth 100000
namespace Go.En
open Go Go.Fl Go.Fl.Lk Go.Fx Go.Dg
theorem v4j {l:List ByteArray} {n:Nat} {p:ByteArray→Prop} (h: ∀x∈l,p x): ∀x∈l.take n,p x:=fun x hx=>h x (List.mem_of_mem_take hx)
theorem y6x {ds:List Decl} (hd: ∀d∈ds,d.kind.size≤100∧d.name.size≤100):EnvS (Envt.mk (Sett.mk (ByteArray.mk (Array.mk [])) (ByteArray.mk (Array.mk [])) 0) ds [] [] [] []):=
 ⟨sz0,hd,by simp,by simp,by simp,by simp,by simp,by simp,by simp,by simp⟩
theorem u88:ExS 4 (Ex.mk 1 (ByteArray.mk (Array.mk [])) (ByteArray.mk (Array.mk [])) [] []):=ExS.le (n:=0) ⟨VsS.nil,⟨sz0,sz0⟩,opl (by simp),rfl⟩ (by decide)
theorem w1x {list:List Int} {at_ now:Int} {K:Envt→Int→Prop} (hD:DS list at_) (h: ∀v a,EnvS v→GS v.segments→DS list a→K v a):q31 list at_ now K:=by
 unfold q31 z11
 have tt: ∀s∈j9b,s.size≤100:=by decide
 refine q8u fun attrs _ had=> ?_
 have hat: ∀d∈attrs,d.kind.size≤100∧d.name.size≤100:=fun d hd=>⟨(had d hd).1,(had d hd).2.1⟩
 refine Jn1.mk (fun x=>x.2.1.size≤100∧DS list x.2.2.2.1∧x.2.2.2.2.1=attrs) (q0f hD (by decide) fun r a _ _ hD=>Cnd.mk (fun _=>z9q hD fun t a _ hD=>z0c hD (by decide) fun w a _ _ hD=>⟨(by decide:(ByteArray.mk (Array.mk [117,115,101,114])).size≤100),hD,rfl⟩) fun _=>⟨sz0,hD,rfl⟩) ?_
 rintro ⟨salt,hkind,hold,a,ds,u⟩ ⟨hhk,hD,hds⟩
 simp only at hhk hD hds⊢
 subst hds
 refine v4i hD fun a segs hD hsl hsegs hgs=>q0f hD (by decide) fun n a n0 n1 hD=>j6j n0 (by simp only [List.length_cons,List.length_nil];omega) ?_
 have fin: ∀{flags:List Flg} {layers:List Lay_} {exps:List Exper} {a:Int},DS list a→flags.length≤4→(∀f∈flags,FlgS f)→layers.length≤2→(∀l∈layers,LayS l)→exps.length≤3→(∀x∈exps,ExpS x)→
   q65 (Envt.mk (Sett.mk salt hkind hold) ds segs flags layers exps) fun b=>Cnd (b=true) (K (Envt.mk (Sett.mk salt hkind hold) ds segs flags layers exps) a) (q09 fun ds=>K (Envt.mk (Sett.mk (ByteArray.mk (Array.mk [])) (ByteArray.mk (Array.mk [])) 0) ds [] [] [] []) a):=fun hD h1 h2 h3 h4 h5 h6=>by
  have hv:EnvS (Envt.mk (Sett.mk salt hkind hold) ds segs _ _ _):=⟨hhk,hat,hsl,hsegs,h1,h2,h3,h4,h5,h6⟩
  exact w0c hv fun b=>Cnd.mk (fun _=>h _ _ hv hgs hD) fun _=>q8u fun ds _ had=>h _ _ (y6x fun d hd=>⟨(had d hd).1,(had d hd).2.1⟩) u4d hD
 have nms: ∀s∈List.take n.toNat [ByteArray.mk (Array.mk [102,97]),ByteArray.mk (Array.mk [102,98]),ByteArray.mk (Array.mk [102,99]),ByteArray.mk (Array.mk [102,100])],s.size≤100:=v4j (by decide)
 have hlen:(List.take n.toNat [ByteArray.mk (Array.mk [102,97]),ByteArray.mk (Array.mk [102,98]),ByteArray.mk (Array.mk [102,99]),ByteArray.mk (Array.mk [102,100])]).length≤4:=by
  rw [List.length_take];simp only [List.length_cons,List.length_nil];omega
 generalize List.take n.toNat _=l at nms hlen
 refine LpH.ind (fun (x:Int×Int×List Flg×List Seg×List Lay_×List Exper×Unit)=>0≤x.1∧x.1≤(l.length:Int)∧DS list x.2.1∧(x.2.2.1.length:Int)=x.1∧(∀f∈x.2.2.1,FlgS f)∧x.2.2.2=(segs,[],[],())) (fun x=>((l.length:Int) - x.1).toNat) ?_ ⟨Int.le_refl 0,by simp,hD,rfl,by simp,rfl⟩
 rintro ⟨i,a,flags,rest⟩ ⟨i0,i1,hD,hfl,hfs,hr⟩
 simp only at i0 i1 hD hfl hfs hr⊢
 subst hr
 simp only
 intro _
 refine Cnd.mk (fun hc=>⟨by omega,fun key hkey=> ?_⟩) fun _=> ?_
 ·
  refine q0f hD (by decide) fun kind a k0 k1 hD=>⟨by unfold InI;omega,q0f hD (by decide) fun on a _ _ hD=>q0f hD (by decide) fun m a m0 m1 hD=>⟨by unfold InI;omega,?_⟩⟩
  refine LpH.ind (fun (x:Int×Int×List Val×List Exper×List Lay_×List Flg×List Seg×Unit)=>0≤x.1∧x.1≤1+m∧DS list x.2.1∧(x.2.2.1.length:Int)=x.1∧(∀v∈x.2.2.1,ValS v)∧x.2.2.2=([],[],flags,segs,())) (fun x=>(1+m - x.1).toNat) ?_ ⟨Int.le_refl 0,by simp only;omega,hD,rfl,by simp,rfl⟩
  rintro ⟨j,a,vals,rest⟩ ⟨j0,j1,hD,hvl,hvs,hr⟩
  simp only at j0 j1 hD hvl hvs hr⊢
  subst hr
  simp only
  refine Cnd.mk (fun hc=>q9q hD fun v a hv hD=>⟨by unfold Sml;simp;omega,by unfold InI;omega,⟨by omega,by omega,hD,by simp;omega,q2e hvs hv,trivial⟩,by omega⟩) fun hc=> ?_
  refine q0f hD (by omega) fun off a o0 o1 hD=>⟨by unfold InI;omega,?_⟩
  have hlv:vals.length=(1+m).toNat:=by omega
  refine LpH.ind (fun (x:Int×List Prq×Int×List Seg×List Flg×List Lay_×List Exper×List Val×Unit)=>0≤x.1∧x.1≤(flags.length:Int)∧(x.2.1.length:Int)≤x.1∧(∀q∈x.2.1,q.flag.size≤100)∧DS list x.2.2.1∧x.2.2.2=(segs,flags,[],[],vals,())) (fun x=>((flags.length:Int) - x.1).toNat) ?_ ⟨Int.le_refl 0,by simp,by simp,by simp,hD,rfl⟩
  rintro ⟨j,needs,a,rest⟩ ⟨j0,j1,hnl,hns,hD,hr⟩
  simp only at j0 j1 hnl hns hD hr⊢
  subst hr
  simp only
  intro _
  refine Cnd.mk (fun hc=>q0f hD (by decide) fun q a _ _ hD=>Cnd.mk (fun _=>⟨by omega,fun y hy=>⟨by omega,fun z hz _=>q0f hD (by have:=(hfs z (getm hz)).vlen;omega) fun w a w0 w1 hD=> ?_⟩⟩) fun _=>⟨by unfold InI;omega,⟨by omega,by omega,by omega,hns,hD,trivial⟩,by omega⟩) fun _=> ?_
  ·have:=(hfs z (getm hz)).vlen
   exact ⟨by unfold InI;omega,by unfold Sml;simp;omega,by unfold InI;omega,⟨by omega,by omega,by simp;omega,q2e hns (hfs y (getm hy)).key,hD,trivial⟩,by omega⟩
  have hnl4:needs.length≤4:=by omega
  refine LpH.ind (fun (x:Int×List Tgt×Int×List Val×List Exper×List Lay_×List Flg×List Seg×List Prq×Unit)=>0≤x.1∧x.1≤3∧(x.2.1.length:Int)≤x.1∧(∀t∈x.2.1,t.kind.size≤100)∧DS list x.2.2.1∧x.2.2.2=(vals,[],[],flags,segs,needs,())) (fun x=>(3 - x.1).toNat) ?_ ⟨Int.le_refl 0,by simp,by simp,by simp,hD,rfl⟩
  rintro ⟨j,tgts,a,rest⟩ ⟨j0,j1,htl,hts,hD,hr⟩
  simp only at j0 j1 htl hts hD hr⊢
  subst hr
  simp only
  refine q0f hD (by decide) fun q a q0 q1 hD=>Cnd.mk (fun hc=>q0f hD (by omega) fun w a w0 w1 hD=>⟨by unfold InI;omega,w6w hD fun ks a _ _ hD=> ?_⟩) fun _=> ?_
  ·refine Jn1.mk (fun x=>x.1.size≤100∧DS list x.2.1∧x.2.2=(ks,needs,segs,flags,[],[],vals,tgts,())) (q0f hD (by decide) fun r a _ _ hD=>Cnd.mk (fun _=>⟨(by decide:(ByteArray.mk (Array.mk [100,101,118,105,99,101])).size≤100),hD,rfl⟩) fun _=>⟨(by decide:(ByteArray.mk (Array.mk [117,115,101,114])).size≤100),hD,rfl⟩) ?_
   rintro ⟨kd,a,rest⟩ ⟨hkd,hD,hr⟩
   simp only at hkd hD hr⊢
   subst hr
   simp only
   exact fun _=>Cnd.mk (fun _=>⟨by unfold Sml;simp;omega,by unfold InI;omega,⟨by omega,by omega,by simp;omega,q2e hts hkd,hD,trivial⟩,by omega⟩) fun _=>⟨by unfold InI;omega,⟨by omega,by omega,by omega,hts,hD,trivial⟩,by omega⟩
  refine Jn1.mk (fun (x:Int×List Rul×List ByteArray×List Prq×List Seg×List Flg×List Lay_×List Exper×List Val×List Tgt×Unit)=>DS list x.1∧x.2.1.length≤4∧(∀r∈x.2.1,RulS (1+m) r)∧x.2.2.2=(needs,segs,flags,[],[],vals,tgts,())) ?_ ?_
  case refine_2=>
   rintro ⟨a,rules,names,rest⟩ ⟨hD,hrl,hrs,hr⟩
   simp only at hD hrl hrs hr⊢
   subst hr
   simp only
   refine v0t hD (by omega) (by omega) fun s a hs hD=>⟨by unfold Sml;simp;omega,by unfold InI;omega,⟨by omega,by omega,hD,by simp;omega,q2e hfs ?_,trivial⟩,by omega⟩
   have hvm:(vals.length:Int)=1+m:=by omega
   exact ⟨nms key (getm hkey),⟨by simp only;omega,by simp only;omega⟩,hvs,hnl4,hns,by simp only;omega,hts,hrl,by rw [hvm];exact hrs,by rw [hvm];exact hs⟩
  have nm4: ∀s∈([ByteArray.mk (Array.mk [102,105,114,115,116]),ByteArray.mk (Array.mk [115,101,99,111,110,100]),ByteArray.mk (Array.mk [116,104,105,114,100]),ByteArray.mk (Array.mk [102,111,117,114,116,104])]:List ByteArray),s.size≤100:=by decide
  have nl4:([ByteArray.mk (Array.mk [102,105,114,115,116]),ByteArray.mk (Array.mk [115,101,99,111,110,100]),ByteArray.mk (Array.mk [116,104,105,114,100]),ByteArray.mk (Array.mk [102,111,117,114,116,104])]:List ByteArray).length=4:=rfl
  generalize ([ByteArray.mk (Array.mk [102,105,114,115,116]),ByteArray.mk (Array.mk [115,101,99,111,110,100]),ByteArray.mk (Array.mk [116,104,105,114,100]),ByteArray.mk (Array.mk [102,111,117,114,116,104])]:List ByteArray)=ns4 at nm4 nl4⊢
  refine LpH.ind (fun (x:Int×Int×List Rul×List ByteArray×List Prq×List Seg×List Flg×List Lay_×List Exper×List Val×List Tgt×Unit)=>0≤x.1∧x.1≤4∧DS list x.2.1∧(x.2.2.1.length:Int)=x.1∧(∀r∈x.2.2.1,RulS (1+m) r)∧x.2.2.2=(ns4,needs,segs,flags,[],[],vals,tgts,())) (fun x=>(4 - x.1).toNat) ?_ ⟨Int.le_refl 0,by simp,hD,rfl,by simp,rfl⟩
  rintro ⟨j,a,rules,rest⟩ ⟨j0,j1,hD,hrl,hrs,hr⟩
  simp only at j0 j1 hD hrl hrs hr⊢
  subst hr
  simp only
  refine q0f hD (by decide) fun q a q0 q1 hD=>Cnd.mk (fun hc=>⟨by rw [nl4];omega,fun y hy=> ?_⟩) fun _=>⟨hD,by omega,hrs,trivial⟩
  refine z7j (by simp only;omega) (v7w (fun s hs=> ?_) 2 (by omega) (by decide) (by decide) hD fun e a he hD=>v0t hD (by omega) (by omega) fun s a hs hD=>⟨by unfold Sml;simp;omega,?_⟩)
  ·obtain ⟨g,hg,rfl⟩:=List.mem_map.1 hs;exact (hsegs g hg).key
  have hrs':=q2e hrs (x:=Rul.mk y (Ex.mk e.1 e.2 e.3 e.4 e.5) s) ⟨nm4 y (getm hy),he.eta,hs⟩
  have hl':(rules++[Rul.mk y (Ex.mk e.1 e.2 e.3 e.4 e.5) s]).length=rules.length+1:=by simp
  have cut: ∀r∈List.take (((rules++[Rul.mk y (Ex.mk e.1 e.2 e.3 e.4 e.5) s]).length:Int) - 1).toNat (rules++[Rul.mk y (Ex.mk e.1 e.2 e.3 e.4 e.5) s]),RulS (1+m) r:=fun r hr=>hrs' r (List.mem_of_mem_take hr)
  generalize rules++[Rul.mk y (Ex.mk e.1 e.2 e.3 e.4 e.5) s]=rs at hrs' hl' cut⊢
  refine z3n (by omega) (fun r hr=>(hrs' r hr).cond) fun o n b ho=>Cnd.mk (fun _ _=>Cnd.mk (fun _ _=>⟨by unfold InI;omega,by omega,hD,by simp only [List.length_take];omega,cut,trivial⟩) fun _=>⟨by unfold InI;omega,⟨by omega,by omega,hD,by omega,hrs',trivial⟩,by omega⟩) fun _ _=>⟨by unfold InI;omega,by omega,hD,by simp only [List.length_take];omega,cut,trivial⟩
 ·
  refine q0f hD (by decide) fun n a n0 n1 hD=>j6j n0 (by simp only [List.length_cons,List.length_nil];omega) ?_
  have nms: ∀s∈List.take n.toNat [ByteArray.mk (Array.mk [108,97]),ByteArray.mk (Array.mk [108,98])],s.size≤100:=v4j (by decide)
  have hlen:(List.take n.toNat [ByteArray.mk (Array.mk [108,97]),ByteArray.mk (Array.mk [108,98])]).length≤2:=by
   rw [List.length_take];simp only [List.length_cons,List.length_nil];omega
  generalize List.take n.toNat _=ls at nms hlen
  have hf4:flags.length≤4:=by omega
  refine LpH.ind (fun (x:Int×Int×List Lay_×List Exper×List Seg×List Flg×Unit)=>0≤x.1∧x.1≤(ls.length:Int)∧DS list x.2.1∧(x.2.2.1.length:Int)=x.1∧(∀f∈x.2.2.1,LayS f)∧x.2.2.2=([],segs,flags,())) (fun x=>((ls.length:Int) - x.1).toNat) ?_ ⟨Int.le_refl 0,by simp,hD,rfl,by simp,rfl⟩
  rintro ⟨j,a,layers,rest⟩ ⟨j0,j1,hD,hll,hls,hr⟩
  simp only at j0 j1 hD hll hls hr⊢
  subst hr
  simp only
  intro _
  refine Cnd.mk (fun hc=>⟨by omega,fun y hy=>y6h hD (nms y (getm hy)) fun l a hl _ hD=>⟨by unfold Sml;simp;omega,by unfold InI;omega,⟨by omega,by omega,hD,by simp;omega,q2e hls hl,trivial⟩,by omega⟩⟩) fun _=> ?_
  refine q0f hD (by decide) fun n a n0 n1 hD=>j6j n0 (by simp only [List.length_cons,List.length_nil];omega) ?_
  have nmx: ∀s∈List.take n.toNat [ByteArray.mk (Array.mk [120,97]),ByteArray.mk (Array.mk [120,98]),ByteArray.mk (Array.mk [120,99])],s.size≤100:=v4j (by decide)
  have hxen:(List.take n.toNat [ByteArray.mk (Array.mk [120,97]),ByteArray.mk (Array.mk [120,98]),ByteArray.mk (Array.mk [120,99])]).length≤3:=by
   rw [List.length_take];simp only [List.length_cons,List.length_nil];omega
  generalize List.take n.toNat _=xs at nmx hxen
  have hl2:layers.length≤2:=by omega
  refine LpH.ind (fun (x:Int×Int×List Exper×List Flg×List Seg×List Lay_×Unit)=>0≤x.1∧x.1≤(xs.length:Int)∧DS list x.2.1∧(x.2.2.1.length:Int)≤x.1∧(∀f∈x.2.2.1,ExpS f)∧x.2.2.2=(flags,segs,layers,())) (fun x=>((xs.length:Int) - x.1).toNat) ?_ ⟨Int.le_refl 0,by simp,hD,by simp,by simp,rfl⟩
  rintro ⟨k,a,exps,rest⟩ ⟨k0,k1,hD,hxl,hxs,hr⟩
  simp only at k0 k1 hD hxl hxs hr⊢
  subst hr
  simp only
  intro _
  have hfin:=fun {a:Int} (hD:DS list a)=>fin (flags:=flags) (layers:=layers) (exps:=exps) hD hf4 hfs hl2 hls (by omega) hxs
  refine Cnd.mk (fun hc _=>Cnd.mk (fun hfl0 _=>Cnd.mk (fun hll0=>⟨by omega,fun y hy _=> ?_⟩) fun _=>hfin hD) fun _=>hfin hD) fun _=>hfin hD
  refine q0f hD (by omega) fun q a q0 q1 hD=>⟨by omega,fun f hf _ hfv=>q0f hD (by omega) fun q' a q0' q1' hD=>⟨by omega,fun l hl=>z9q hD fun t a ht hD=>q0f hD (by decide) fun u a u0 u1 hD=>⟨by unfold InI;omega,?_⟩⟩⟩
  have hF:=hfs f (getm hf)
  have hL:=hls l (getm hl)
  have hv1:=hF.vlen
  refine v0s hD (by omega) (by omega) fun arms a harms hD=> ?_
  refine Jn1.mk (fun (x:Int×Int×List Rng×List Exper×List Lay_×List Flg×List Seg×Unit)=>DS list x.2.1∧x.2.2=(arms,exps,layers,flags,segs,())) (Cnd.mk (fun _=>q0f hD (by decide) fun r a _ _ hD=>Cnd.mk (fun _=>⟨hD,rfl⟩) fun _=>⟨hD,rfl⟩) fun _=>⟨hD,rfl⟩) ?_
  rintro ⟨state,a,rest⟩ ⟨hD,hr⟩
  simp only at hD hr⊢
  subst hr
  simp only
  refine Jn1.mk (fun (x:Int×ByteArray×ByteArray×List Val×List Ex×Int×List Seg×List Flg×List Lay_×List Exper×List Rng×Unit)=>ExS 4 (Ex.mk x.1 x.2.1 x.2.2.1 x.2.2.2.1 x.2.2.2.2.1)∧DS list x.2.2.2.2.2.1∧x.2.2.2.2.2.2=(segs,flags,layers,exps,arms,())) (q0f hD (by decide) fun r a _ _ hD=>Cnd.mk (fun _=>z7j (by simp only;omega) (v7w (fun s hs=> ?_) 2 (by omega) (by decide) (by decide) hD fun e a he hD=>⟨he.eta,hD,rfl⟩)) fun _=>⟨u88,hD,rfl⟩) ?_
  ·obtain ⟨g,hg,rfl⟩:=List.mem_map.1 hs;exact (hsegs g hg).key
  rintro ⟨e1,e2,e3,e4,e5,a,rest⟩ ⟨he,hD,hr⟩
  simp only at he hD hr⊢
  subst hr
  simp only
  refine y1x fun sp _ _=>z0c hD (by decide) fun w a _ _ hD=>z0c hD (by decide) fun w' a _ _ hD=>j99 fun sq _=>z0c hD (by decide) fun w2 a w20 w21 hD=>v7y (by omega) fun cl hcl=> ?_
  have hxs':=q2e hxs (x:=Exper.mk y l.1 f.1 t state cl arms (Ex.mk e1 e2 e3 e4 e5)) ⟨nmx y (getm hy),hL.key,hF.key,hcl,⟨harms.1,fun r hr=>by obtain ⟨p,q,s,t⟩:=harms.2 r hr;exact ⟨p,q,s,by omega⟩⟩,he⟩
  have hl':(exps++[Exper.mk y l.1 f.1 t state cl arms (Ex.mk e1 e2 e3 e4 e5)]).length=exps.length+1:=by simp
  have cut: ∀r∈List.take (((exps++[Exper.mk y l.1 f.1 t state cl arms (Ex.mk e1 e2 e3 e4 e5)]).length:Int) - 1).toNat (exps++[Exper.mk y l.1 f.1 t state cl arms (Ex.mk e1 e2 e3 e4 e5)]),ExpS r:=fun r hr=>hxs' r (List.mem_of_mem_take hr)
  generalize exps++[Exper.mk y l.1 f.1 t state cl arms (Ex.mk e1 e2 e3 e4 e5)]=xs' at hxs' hl' cut⊢
  have hv:EnvS (Envt.mk (Sett.mk salt hkind hold) ds segs flags layers xs'):=⟨hhk,hat,hsl,hsegs,hf4,hfs,hl2,hls,by simp only;omega,hxs'⟩
  refine ⟨by unfold Sml;omega,w0c hv fun b=>Cnd.mk (fun _=>⟨by unfold InI;omega,⟨by omega,by omega,hD,by omega,hxs',trivial⟩,by omega⟩) fun _ _=>⟨by unfold InI;omega,by omega,by unfold InI;omega,⟨by omega,by omega,hD,by simp only [List.length_take];omega,cut,trivial⟩,by omega⟩⟩
end Go.En
end
noncomputable section
set_option maxRecDepth 100000
namespace Go.En
open Go Go.Fl Go.Fl.Lk Go.Fx Go.Sg
open Go.Gr (Ord Grd Rdy Nxt)
theorem u09:Asc sgK:=by unfold sgK Asc;decide
theorem u78 {l:List Seg} (h:GS l) {i:Nat} {g:Seg} (hi:l[i]? =some g):sgK[i]? =some g.1:=by
 have h1:(l.map Seg.key)[i]? =some g.1:=by rw [List.getElem?_map,hi];rfl
 rw [h.keys,List.getElem?_take] at h1
 split at h1
 ·exact h1
 ·cases h1
theorem u79 {l:List Seg} (h:GS l) {i:Nat} {g:Seg} (hi:l[i]? =some g) {x:ByteArray} (hx:x∈nms g.5): ∃j,j<i∧sgK[j]? =some x:=by
 obtain ⟨j,hj⟩:=List.getElem?_of_mem ((h.cond i g hi).nms x hx)
 rw [List.getElem?_take] at hj
 split at hj
 ·exact ⟨j,by assumption,hj⟩
 ·cases hj
theorem GS.falls {l:List Seg} (h:GS l):Falls l:=⟨by rw [h.keys];exact (j35 u09).sublist (List.take_sublist _ _),fun g hg x hx=>by
 obtain ⟨i,hi⟩:=List.getElem?_of_mem hg
 obtain ⟨j,hlt,hj⟩:=u79 h hi hx
 refine ⟨?_,Go.Gr.v8h u09 hj (u78 h hi) hlt⟩
 rw [h.keys]
 exact List.mem_of_getElem? (i:=j) (by rw [List.getElem?_take,if_pos (by have:=q0j hi;omega)];exact hj)⟩
theorem w7k {l r:List Seg} (hf:Falls l) (hp:r.Perm l) {z:Seg} (hz: ∀x∈l.map Seg.key,blt x z.1) (hn: ∀x∈nms z.5,x∈l.map Seg.key):Falls (r++[z]):=by
 have hk: ∀x,x∈r.map Seg.key↔x∈l.map Seg.key:=fun x=>(hp.map Seg.key).mem_iff
 refine ⟨?_,fun g hg x hx=> ?_⟩
 ·rw [List.map_append,List.nodup_append]
  refine ⟨((hp.map Seg.key).nodup_iff).2 hf.nd,by simp,fun x hx y hy e=> ?_⟩
  have hy:y=z.1:=by simpa using hy
  subst hy;subst e
  exact q26 _ (hz _ ((hk _).1 hx))
 ·rcases List.mem_append.1 hg with hg|hg
  ·have:=hf.nm g (hp.mem_iff.1 hg) x hx
   exact ⟨by rw [List.map_append];exact List.mem_append_left _ ((hk x).2 this.1),this.2⟩
  ·have hg:g=z:=by simpa using hg
   subst hg
   exact ⟨by rw [List.map_append];exact List.mem_append_left _ ((hk x).2 (hn x hx)),hz x (hn x hx)⟩
theorem y4b {l r:List Seg} (h:GS l) (hp:r.Perm l) {z:Seg} (hz: ∀x∈l.map Seg.key,blt x z.1) (hn: ∀x∈nms z.5,x∈l.map Seg.key) {s:Subj} {m m2:List ByteArray} (h1:MemS l s m) (h2:MemS (r++[z]) s m2):
  ∀(i:Nat) g,l[i]? =some g→(g.1∈m↔g.1∈m2):=by
 have a:=MemS.mean h.falls h1
 have b:=MemS.mean (w7k h.falls hp hz hn) h2
 intro i
 induction i using Nat.strongRecOn with
 |_ i ih=>
  intro g hg
  rw [a.2.2 g (getm hg),b.2.2 g (List.mem_append_left _ (hp.mem_iff.2 (getm hg))),j87 fun x hx=> ?_]
  obtain ⟨j,hlt,hj⟩:=u79 h hg hx
  have hjl:j<l.length:=by have:=q0j hg;omega
  have h3:=List.getElem?_eq_getElem hjl
  have h4:=u78 h h3
  rw [hj] at h4
  rw [Option.some.inj h4]
  exact ih j hlt _ h3
theorem u8a {l r:List Seg} (h:GS l) (hp:r.Perm l) {z:Seg} (hz: ∀x∈l.map Seg.key,blt x z.1) (hn: ∀x∈nms z.5,x∈l.map Seg.key) {s:Subj} {m m2 q:List ByteArray} (h1:MemS l s m) (h2:MemS (r++[z]) s m2)
  (ha:Asc q) (hq: ∀y,y∈q↔y∈m2∧y≠z.1):q=m:=by
 have a:=MemS.mean h.falls h1
 have b:=MemS.mean (w7k h.falls hp hz hn) h2
 refine z93 ha a.1 fun y=> ?_
 rw [hq]
 constructor
 ·rintro ⟨hy,hne⟩
  have:=b.2.1 y hy
  rw [List.map_append,List.mem_append] at this
  rcases this with hk|hk
  ·obtain ⟨g,hg,rfl⟩:=List.mem_map.1 (((hp.map Seg.key).mem_iff).1 hk)
   obtain ⟨i,hi⟩:=List.getElem?_of_mem hg
   exact (y4b h hp hz hn h1 h2 i g hi).2 hy
  ·exact absurd (by simpa using hk) hne
 ·intro hy
  obtain ⟨g,hg,rfl⟩:=List.mem_map.1 (a.2.1 y hy)
  obtain ⟨i,hi⟩:=List.getElem?_of_mem hg
  refine ⟨(y4b h hp hz hn h1 h2 i g hi).1 hy,fun e=> ?_⟩
  have:=hz g.1 (List.mem_map_of_mem hg)
  rw [show g.1=z.1 from e] at this
  exact q26 _ this
theorem u3m: ∀x∈sgK,blt x (ByteArray.mk (Array.mk [122,101,116,97])):=by unfold sgK blt;decide
theorem u3n {x n:Int} {K:Int→Prop} (hn:0<n) (hi:n≤1000) (h: ∀r,0≤r→r<n→K r):j27 x n K:=by
 unfold j27
 have h1:=Int.lt_tmod_of_pos x hn
 have h2:=Int.tmod_lt_of_pos x hn
 exact ⟨by omega,Cnd.mk (fun hc=>⟨by unfold InI;omega,h _ (by omega) (by omega)⟩) fun hc=>h _ (by omega) h2⟩
theorem u1a {codes who:List Int} {turn:Int} {K:Bool→Prop} (hc:Byts codes) (hw:Byts who) (h:K true):q1j codes who turn K:=by
 unfold q1j q5s
 refine u3k (Cnd.yes rfl ?_)
 refine y39 hc (by decide) (by decide) fun cl hD=>w1x hD fun v a hE hG hD=>y39 hw (by decide) (by decide) fun wl hD2=> ?_
 refine v8l hD2 fun s _ hs1 hs2 hl=> ?_
 have hs:=v00 hs1 hs2
 obtain ⟨cx⟩:=s
 have hs:SubB (Subj.mk cx):=hs
 have hn3:v.3.length≤3:=hE.slen
 change GS v.3 at hG
 have hB:SegB v.3:=y2j (by omega) fun g hg=>by
  obtain ⟨i,hi⟩:=List.getElem?_of_mem hg
  exact ⟨_,hG.cond i g hi⟩
 refine Cnd.mk (fun h0=> ?_) fun h0 _=> ?_
 ·have hnil:v.3=[]:=List.eq_nil_of_length_eq_zero (by omega)
  refine q3k hB hs fun m hm _=> ?_
  have a:=MemS.mean hG.falls hm
  have e:m=[]:=List.eq_nil_iff_forall_not_mem.2 fun y hy=>by
   have:=a.2.1 y hy
   rw [hnil] at this
   simp at this
  rw [e]
  exact h
 refine u3n (by omega) (by omega) fun k k0 k1=> ?_
 refine ⟨⟨k0,by omega,Int.le_refl _⟩,⟨Int.le_refl 0,k0,by omega⟩,?_⟩
 have e1:[]++List.drop k.toNat (List.take (v.3.length:Int).toNat v.3)=v.3.drop k.toNat:=by simp
 have e2:List.drop (Int.toNat 0) (List.take k.toNat v.3)=v.3.take k.toNat:=rfl
 rw [e1,e2]
 have hp:(v.3.drop k.toNat++v.3.take k.toNat).Perm v.3:=(List.perm_append_comm).trans (by rw [List.take_append_drop])
 have hdl:(v.3.drop k.toNat).length≤3:=by rw [List.length_drop];omega
 have hrl:=hp.length_eq
 generalize v.3.drop k.toNat++v.3.take k.toNat=r at hp hrl⊢
 refine ⟨by unfold Sml;omega,by unfold Sml;omega,⟨Int.le_refl 0,by omega⟩,fun y hy=> ?_⟩
 refine u06 1 (by decide) (by decide) (by decide) hD fun e _ he _=> ?_
 have hz:=fun (x:ByteArray) (hx:x∈v.3.map Seg.key)=>u3m x (by rw [hG.keys] at hx;exact List.mem_of_mem_take hx)
 have hn: ∀x∈nms (Ex.mk e.1 e.2 e.3 e.4 e.5),x∈v.3.map Seg.key:=fun x hx=>by
  rw [q14] at hx
  rw [List.mem_singleton.1 (he.nms x hx)]
  exact List.mem_map_of_mem (getm hy)
 have he:DrE [y.1] 20000 (Ex.mk e.1 e.2 e.3 e.4 e.5):=(he.le (by decide)).eta
 generalize Ex.mk e.1 e.2 e.3 e.4 e.5=e at he hn⊢
 generalize ByteArray.mk (Array.mk [122,101,116,97])=zk at hz⊢
 have two:=fun {m m2 q:List ByteArray}=>u8a (z:=Seg.mk zk (ByteArray.mk (Array.mk [117,115,101,114])) [] [] e) hG hp hz hn (s:=Subj.mk cx) (m:=m) (m2:=m2) (q:=q)
 have fl:=w7k (z:=Seg.mk zk (ByteArray.mk (Array.mk [117,115,101,114])) [] [] e) hG.falls hp hz hn
 have hB2:SegB (r++[Seg.mk zk (ByteArray.mk (Array.mk [117,115,101,114])) [] [] e]):=y2j (by simp;omega) fun g hg=>by
  rcases List.mem_append.1 hg with hg|hg
  ·obtain ⟨i,hi⟩:=List.getElem?_of_mem (hp.mem_iff.1 hg)
   exact ⟨_,hG.cond i g hi⟩
  ·rw [List.mem_singleton.1 hg];exact ⟨_,he⟩
 refine ⟨by unfold Sml;simp;omega,q3k hB hs fun m hm=>q3k hB2 hs fun m2 hm2=> ?_⟩
 have b:=MemS.mean fl hm2
 refine Jn1.mk (fun q=>q=m) (fun hlm=> ?_) fun q hq=>v0v fun b hb=>by rw [(hb.2 hq.symm:b=true)];exact h
 refine Cnd.mk (fun hc _=>⟨by unfold InI;omega,⟨by omega,by omega⟩,fun w hw=> ?_⟩) fun hc=> ?_
 ·have hj:((m2.length:Int) - 1).toNat=m2.length - 1:=by omega
  rw [hj] at hw⊢
  refine Cnd.mk (fun ez _=>⟨by unfold InI;omega,⟨by omega,by omega⟩,?_⟩) fun nz=> ?_
  ·have d:=Go.Gr.u02 b.1 hw
   rw [List.drop_eq_nil_of_le (by omega),List.append_nil] at d
   exact two hm hm2 d.1 fun y=>by rw [d.2,ez]
  ·refine two hm hm2 b.1 fun y=>⟨fun hy=>⟨hy,fun ey=> ?_⟩,fun hy=>hy.1⟩
   have ey:y=zk:=ey
   subst ey
   obtain ⟨j,hj'⟩:=List.getElem?_of_mem hy
   have hjl:=q0j hj'
   rcases Nat.lt_or_ge j (m2.length - 1) with hlt|hge
   ·have h1:=Go.Gr.v8h b.1 hj' hw hlt
    have h2:=b.2.1 w (getm hw)
    rw [List.map_append,List.mem_append] at h2
    rcases h2 with h2|h2
    ·exact w2z h1 (hz w (((hp.map Seg.key).mem_iff).1 h2))
    ·exact nz (by simpa using h2)
   ·rw [show j=m2.length - 1 by omega,hw] at hj'
    exact nz (Option.some.inj hj')
 ·have hnil:m2=[]:=List.eq_nil_of_length_eq_zero (by omega)
  exact two hm hm2 b.1 fun y=>by rw [hnil];simp
end Go.En
end
section
namespace Go.En
open Go Go.RowKit Go.Fl Go.Fx
/-- Bytes as numbers. -/
def u8s (l : List UInt8) : List Int := l.map fun b => ((b.toNat : Nat) : Int)
theorem u4e {l : List UInt8} : Byts (u8s l) := fun x hx => by
  obtain ⟨b, _, rfl⟩ := List.mem_map.1 hx
  have := b.toNat_lt
  exact ⟨by omega, by omega⟩
theorem u8b {σ : Hv} {v : Value} {l : List UInt8} (h : RSl 1 RU8 σ v l) : RSl (D.size C.u8) (ElF D C.u8) σ v (u8s l) := by
  obtain ⟨a, cap, rfl, h1, h2, h3⟩ := h
  refine ⟨a, cap, by simp [u8s], by simpa [u8s] using h1, by simpa [u8s] using h2, fun i x hx => ?_⟩
  simp only [u8s, List.getElem?_map, Option.map_eq_some_iff] at hx
  obtain ⟨b, hb, rfl⟩ := hx
  obtain ⟨ad, cs, e1, e2, e3, e4⟩ := h3 i b hb
  have e4 : cs = _ := e4
  subst e4
  exact ⟨ad, _, e1, rfl, e3, q0a (.int _ _) q1r⟩
theorem z92 (x0 : List UInt8) (x1 : List UInt8) (x2 : Int) {v0 : Value} {v1 : Value} {σ : Hv} {w : World} (hV : View σ w) (hG : Glb D σ) (rd0 : RSl 1 RU8 σ v0 x0) (rd1 : RSl 1 RU8 σ v1 x1) (h : ∀ K : Bool → Prop, K true → q1j (u8s x0) (u8s x1) x2 K) :
    Calls Go.Proofs.Tryz.prog 6 #[v0, v1, .int .i64 x2] w fun e w1 => ∃ r, e = .returned (.bool r) ∧ Grow [] σ w σ w1 ∧ r = true := by
  have he : (q5u q1j).m ([.f (.sl C.u8 (u8s x0)), .f (.sl C.u8 (u8s x1)), .f (.int .i64 x2)] : List (Fx.Tr Sg)) (fun rets _ => rets = [.f (.bool true)]) = q1j (u8s x0) (u8s x1) x2 (fun b => ([.f (.bool b)] : List (Fx.Tr Sg)) = [.f (.bool true)]) := by kernel_rfl
  have hp : (q5u q1j).m ([.f (.sl C.u8 (u8s x0)), .f (.sl C.u8 (u8s x1)), .f (.int .i64 x2)] : List (Fx.Tr Sg)) (fun rets _ => rets = [.f (.bool true)]) := Eq.mpr he (h _ rfl)
  have hm := z9p _ _ hp w σ [v0, v1, .int .i64 x2] [] hG (LayL.cons (ms := []) (.f (RepF.ofRSl okP.ok (u8b rd0))) (LayL.cons (ms := []) (.f (RepF.ofRSl okP.ok (u8b rd1))) (LayL.cons (ms := []) (.f (.int _ _)) .nil))) (St.start hV)
  refine Calls.mono hm ?_
  rintro e w1 ⟨rets, outs, rv, σ1, msr, mso, rfl, hK, hLr, _, hS⟩
  subst hK
  cases hLr with
  | cons h1 hn =>
  cases hn
  cases h1 with
  | f hf =>
  cases hf
  exact ⟨true, rfl, hS.done.forget, rfl⟩
end Go.En
namespace Go.Proofs.YthpeboomdlgfaaaGreatDoor.segmentOrders
open Go Go.RowKit Go.Fl Go.ChangeShapes Go.WideShapes Go.ChangeAt
open Go.ChangeMaps (open_string shut_string)
theorem own : ownKnob Tryz.prog.godebug = none := by kernel_rfl
theorem laidOut : laidOutB Tryz.prog = true := by kernel_rfl
set_option maxRecDepth 100000 in
theorem contract (H : Type) (enc : TypeId × Value → H) (W : World) (base : Nat) (args : Array Value) (ds gs : List (DataW H)) (before : List MemPlace)
    (hval : ∀ (j : Nat) t v, Tryz.f6.params[j]? = some t → args[j]? = some v → Value.okWide Tryz.prog W .any base t v)
    (hW : DataW.Whole enc Tryz.prog Tryz.f6.params.toList Rows.segmentOrdersSpec.vars false W args.toList ds gs before)
    (hsz : (DataW.weightsEach Tryz.prog (Tryz.f6.params.toList ++ (OpenSpec.ofChange Rows.segmentOrdersSpec).bare.plain.varTypes Tryz.prog) (ds ++ gs)).all (· ≤ reachBytes) = true)
    (hL : laidMetH Tryz.prog Rows.segmentOrdersRow.laid W) (hsh : W.ShapedOpen Tryz.prog) :
    Calls Tryz.prog 6 args W fun e W' => ∃ v, e = .returned v ∧ Rows.segmentOrdersSpec.post enc Tryz.prog Tryz.f6 false true false false W args v W' := by
  have hG : Go.Fx.Glb Go.En.D (hv W) := Go.En.v90 hL hsh
  have hW' := hW
  obtain ⟨p, q, hA0, hV, rfl, hfz, hnd⟩ := hW
  have hA : DataW.TrodAll enc Tryz.prog W 0 (fun _ => true) true Tryz.f6.params.toList args.toList ds p := hA0
  rw [Tryz.params6] at hA hval hsz
  obtain ⟨v0, vs0, d0, ds0, p0, q0, hargs, rfl, rfl, h0, r0⟩ := trodAll_cons hA
  obtain ⟨v1, vs1, d1, ds1, p1, q1, rfl, rfl, rfl, h1, r1⟩ := trodAll_cons r0
  obtain ⟨v2, vs2, d2, ds2, p2, q2, rfl, rfl, rfl, h2, r2⟩ := trodAll_cons r1
  obtain ⟨rfl, rfl, rfl⟩ := trodAll_nil r2
  obtain rfl : args = #[v0, v1, v2] := by cases args; simp_all
  obtain ⟨rfl, rfl⟩ := trodVars_none hV
  have k0 := h0
  have lt0 : ∀ x ∈ p0, x.block < W.heap.size := by obtain ⟨m, hm⟩ := k0; exact DataW.trod_lt m _ _ _ hm
  obtain ⟨x0, rd0⟩ := u7q Tryz.underlying22 Tryz.underlying5 (by kernel_rfl) (of_decide_eq_true (by kernel_rfl)) (hval 0 22 v0 rfl rfl) h0 (y3k hsz (j := 0) (t := 22) rfl rfl)
  have k1 := h1
  have lt1 : ∀ x ∈ p1, x.block < W.heap.size := by obtain ⟨m, hm⟩ := k1; exact DataW.trod_lt m _ _ _ hm
  obtain ⟨x1, rd1⟩ := u7q Tryz.underlying22 Tryz.underlying5 (by kernel_rfl) (of_decide_eq_true (by kernel_rfl)) (hval 1 22 v1 rfl rfl) h1 (y3k hsz (j := 1) (t := 22) rfl rfl)
  obtain ⟨x2, rfl, rfl, rfl, wx2⟩ := open_int Tryz.underlying3 (hval 2 3 v2 rfl rfl) h2
  have bx2 := wx2
  simp only [Lit.wf, Bool.and_eq_true, decide_eq_true_eq] at bx2
  have blo2 : -9223372036854775808 ≤ x2 := by have := bx2.1; simp [IntKind.min] at this; exact this
  have bhi2 : x2 ≤ 9223372036854775807 := by have := bx2.2; simp [IntKind.max] at this; exact this
  refine (Go.En.z92 x0 x1 x2 (u53 W) hG rd0 rd1 (fun _ hk => Go.En.u1a Go.En.u4e Go.En.u4e hk)).mono fun e W' he => ?_
  obtain ⟨r, rfl, hg, hr⟩ := he
  have hrt : r = true := hr
  subst hrt
  have bel := u2w hg.keeps
  exact ⟨_, rfl, _, _, _, [], _, [], hW', trodAll_mk1 (shut_bool Tryz.underlying4 _), (trodAll_cons_mk (Below.trod laidOut (by kernel_rfl) (of_decide_eq_true (by kernel_rfl)) k0 bel lt0) (trodAll_cons_mk (Below.trod laidOut (by kernel_rfl) (of_decide_eq_true (by kernel_rfl)) k1 bel lt1) (trodAll_cons_mk (shut_int Tryz.underlying3 wx2) trodAll_mk0))), rfl, bel.frame _, fun h => by cases h⟩
theorem reads (os : Os) {H : Type} (enc : TypeId × Value → H) : ∃ places, DataW.whole enc Tryz.prog ((World.laidAll Tryz.prog os Rows.segmentOrdersRow.laid).forCall (fun _ _ => 0) ⟨#[], #[.slice none 0 0, .slice none 0 0, .int .i64 0], []⟩).memory Tryz.f6.params.toList Rows.segmentOrdersSpec.vars false (#[.slice none 0 0, .slice none 0 0, .int .i64 0] : Array Value).toList 8 = some ([.nil, .nil, .lit (.int .i64 0)], [], places) :=
  ⟨[], by kernel_rfl⟩
set_option maxRecDepth 100000 in
theorem lifted (os : Os) (started : os.Started) (H : Type) (enc : TypeId × Value → H) (F : Stop.Interp) :
    ReturnsInHanded {} Tryz.checked os 6 .any ((OpenSpec.ofChange Rows.segmentOrdersSpec).preRow enc Tryz.prog Tryz.f6 Rows.segmentOrdersRow.domain false Rows.segmentOrdersRow.laid) (((OpenSpec.ofChange Rows.segmentOrdersSpec).at F).post enc Tryz.prog Tryz.f6 false true false false) := by
  obtain ⟨places, hx⟩ := reads os enc
  refine returnsInHanded_of_row (C := Tryz.checked) (s := (OpenSpec.ofChange Rows.segmentOrdersSpec)) own started (by kernel_rfl) Tryz.func6
    (witness_row_atRef (enc := enc) (C := Tryz.checked) false (World.laidAll Tryz.prog os Rows.segmentOrdersRow.laid) #[.slice none 0 0, .slice none 0 0, .int .i64 0] (World.laidAll_os _ _ _) (by kernel_rfl) (by kernel_rfl) (by kernel_rfl)
      (OpenSpec.preRow_of_cond 8 hx (by kernel_rfl) (fun k hk => by cases hk) (by kernel_rfl) (by rw [MakeChecks.laidMetH_plain _ _ _ (by kernel_rfl)]; exact laidMet_laidAll _ (by kernel_rfl) (by kernel_rfl)))) ?_
  intro W base args ds gs before hval hW _ _ hsz hL hsh _
  exact contract H enc W base args ds gs before hval hW hsz hL hsh
theorem u3o : (Rows.segmentOrdersRow.inPlace == Tryz.pinned.checked.prog.inPlace 6) = true := by kernel_rfl
theorem kUnf : (Rows.segmentOrdersRow.unfollowed == Tryz.pinned.checked.prog.unfollowed 6) = true := by kernel_rfl
theorem kRec : (Rows.segmentOrdersRow.recurses == Tryz.pinned.checked.prog.recurses 6) = true := by kernel_rfl
theorem u8c : (Rows.segmentOrdersRow.named == Tryz.pinned.checked.prog.varsNamed 6) = true := by kernel_rfl
theorem closed : joinedFacts Tryz.pinned.checked.prog 6 Tryz.f6 (OpenSpec.ofChange Rows.segmentOrdersSpec).bare Rows.segmentOrdersRow = true := by
  unfold joinedFacts
  rw [u3o, kUnf, kRec, u8c]
  kernel_rfl
theorem said : Rows.SegmentOrdersSaid :=
  OpenClaim.holds_of_cond 6 Tryz.f6 rfl rfl rfl rfl rfl rfl rfl ⟨rfl, rfl, rfl, rfl, rfl⟩ rfl rfl rfl rfl rfl (by kernel_rfl) Tryz.func6 closed
    (of_decide_eq_true (by kernel_rfl)) (by unfold Func.isWrapper; first | (rw [if_pos (by decide +kernel)]; kernel_rfl) | (rw [if_neg (by decide +kernel)]; exact ⟨rfl, rfl⟩))
    (fun os started H enc _ F => by rw [OpenClaim.pre_eq_preRow]; exact lifted os started H enc F)
theorem plain (f : FuncId) (fn : Func) (hf : Tryz.pinned.checked.prog.funcNamed "flagstone/flagstonelaw12.SegmentOrders" = some f) (hfn : Tryz.pinned.checked.prog.funcs[f]? = some fn) :
    true = Tryz.pinned.checked.prog.looks [] ∧ ∀ (j : Nat) t, fn.params[j]? = some t → Tryz.pinned.checked.prog.wantsStandIn t = false := by
  obtain rfl : f = 6 := Option.some.inj ((show Tryz.prog.funcNamed "flagstone/flagstonelaw12.SegmentOrders" = some 6 by kernel_rfl).symm.trans hf) |>.symm
  obtain rfl : fn = Tryz.f6 := (Option.some.inj (Tryz.func6.symm.trans hfn)).symm
  refine ⟨by kernel_rfl, fun j t ht => ?_⟩
  rw [Tryz.params6] at ht
  match j with
  | 0 => cases ht; exact (show Tryz.prog.wantsStandIn 22 = false by kernel_rfl)
  | 1 => cases ht; exact (show Tryz.prog.wantsStandIn 22 = false by kernel_rfl)
  | 2 => cases ht; exact (show Tryz.prog.wantsStandIn 3 = false by kernel_rfl)
  | j + 3 => cases ht
theorem card : Rows.SegmentOrdersCardSaid :=
  Claim7.holds_tied_plain_at .later [] _ _ _ _ said (fun _ h => by cases h) (by kernel_rfl) (fun _ h => by cases h) segmentOrders_row_tie rfl ⟨rfl, rfl⟩ (by kernel_rfl) rfl plain (by kernel_rfl)
end Go.Proofs.YthpeboomdlgfaaaGreatDoor.segmentOrders
end
#print axioms Go.Proofs.YthpeboomdlgfaaaGreatDoor.segmentOrders.card
