/- For every input AuditSpoilt returns true and leaves its arguments as they were. This is part 6 of 10. Conditions: those in the statements. -/
import Derived.Test.YtjepffgpbidclaaGreatDoorSp5
import Derived.KernelRfl
noncomputable section
set_option maxRecDepth 100000
namespace Go.En
open Go Go.Fl Go.Fl.Lk Go.Fx
def ldV(b:ByteArray)(t:Int):List Lnk->ByteArray->Bool
 |[],a=>decide (a=b)
 |k::l,a=>if t<k.3 then false else if k.1=a then ldV b t l k.2 else if k.2=a then ldV b t l k.1 else false
theorem w2k{α:Type}{l:List α}{j:Nat}{y:α}(h:l[j]? =some y):l.drop j=y::l.drop (j+1):=by
 have hlt:=Qk h
 rw[List.drop_eq_getElem_cons hlt]
 rw[List.getElem?_eq_getElem hlt] at h
 rw[Option.some.inj h]
theorem w5k{l:List Lnk}{a b:ByteArray}{t:Int}{K:Bool->Prop}(hl:l.length<=1000000)(h:K (ldV b t l a)):q1f l a b t K:=by
 unfold q1f
 refine fun _=>Lp2.ind (fun x i=> ∃j:Nat,i=(j:Int)/\j<=l.length/\ldV b t l a=ldV b t (l.drop j) x) (fun _ i=>(l.length - i).toNat) ?_ ⟨0,rfl,by omega,rfl⟩
 rintro x i ⟨j,rfl,hj,hf⟩
 refine Cnd.mk (fun hc=>⟨by omega,fun y hy=> ?_⟩) fun hc=> ?_
 ·have hy:l[j]? =some y:=hy
  rw[w2k hy,ldV] at hf
  refine Cnd.mk (fun h1=> ?_) fun h1=>Cnd.mk (fun h2=>⟨by unfold InI;omega,⟨j+1,by omega,by omega,?_⟩,by omega⟩) fun h2=>Cnd.mk (fun h3=>⟨by unfold InI;omega,⟨j+1,by omega,by omega,?_⟩,by omega⟩) fun h3=> ?_
  ·rw[hf,if_pos h1] at h;exact h
  ·rw[hf,if_neg h1,if_pos h2]
  ·rw[hf,if_neg h1,if_neg h2,if_pos h3]
  ·rw[hf,if_neg h1,if_neg h2,if_neg h3] at h;exact h
 ·rw[hf,List.drop_eq_nil_of_le (by omega),ldV] at h;exact h
theorem j3z{l:List Lnk}{a b:ByteArray}{t:Int}{K:Bool->Prop}(hl:l.length<=1000000)(h:K (ldV b t l a)):q5q l a b t K:=by
 unfold q5q
 refine Lp2.ind (fun x i=> ∃j:Nat,i=(j:Int)/\j<=l.length/\ldV b t l a=ldV b t (l.drop j) x) (fun _ i=>(l.length - i).toNat) ?_ ⟨0,rfl,by omega,rfl⟩
 rintro x i ⟨j,rfl,hj,hf⟩
 refine fun _=>Cnd.mk (fun hc=>⟨by omega,fun y hy=> ?_⟩) fun hc=> ?_
 ·have hy:l[j]? =some y:=hy
  have same: ∀{z:Lnk},l[((j:Nat):Int).toNat]? =some z->z=y:=fun {z} hz=>by
   have hz:l[j]? =some z:=hz
   rw[hy] at hz;exact (Option.some.inj hz).symm
  rw[w2k hy,ldV] at hf
  refine Cnd.mk (fun h1=> ?_) fun h1=>⟨by omega,fun z hz=> ?_⟩
  ·rw[hf,if_pos h1] at h;exact h
  rw[same hz]
  refine Cnd.mk (fun h2=>⟨by omega,fun z hz=> ?_⟩) fun h2=>⟨by omega,fun z hz=> ?_⟩
  ·rw[same hz]
   exact⟨by unfold InI;omega,⟨j+1,by omega,by omega,by rw[hf,if_neg h1,if_pos h2.symm]⟩,by omega⟩
  rw[same hz]
  refine Cnd.mk (fun h3=>⟨by omega,fun z hz=> ?_⟩) fun h3=> ?_
  ·rw[same hz]
   exact⟨by unfold InI;omega,⟨j+1,by omega,by omega,by rw[hf,if_neg h1,if_neg (fun e=>h2 e.symm),if_pos h3.symm]⟩,by omega⟩
  ·rw[hf,if_neg h1,if_neg (fun e=>h2 e.symm),if_neg (fun e=>h3 e.symm)] at h;exact h
 ·rw[hf,List.drop_eq_nil_of_le (by omega),ldV] at h;exact h
abbrev noLy:Lay_:=Lay_.mk noT noT noT 0 0 []
abbrev noXp:Exper:=Exper.mk noT noT noT noT 0 [] [] (Ex.mk 0 noT noT [] [])
def xfV(v:Envt)(key layer:ByteArray):Option Exper:=v.6.find? fun x=>decide (x.1=key) && decide (x.2=layer)
theorem j30{v:Envt}{key:ByteArray}{K:Lay_->Bool->Prop}(hv:v.5.length<=1000000)(h:K ((lof v key).getD noLy) (lof v key).isSome):Rv v key K:=by
 unfold Rv
 refine fun _=>LpH.ind (fun x=> ∃j:Nat,x.1=(j:Int)/\j<=v.5.length/\(v.5.find? fun l=>decide (l.1=key))=(v.5.drop j).find? fun l=>decide (l.1=key)) (fun x=>((v.5.length:Int) - (x.1:Int)).toNat) ?_ ⟨0,rfl,by omega,rfl⟩
 rintro⟨i,x⟩ ⟨j,hi,hj,hf⟩
 dsimp only at hi⊢
 subst hi
 refine Cnd.mk (fun hc=>⟨by omega,fun y hy=> ?_⟩) fun hc=>j7e h hf (by omega)
 have hy:v.5[j]? =some y:=hy
 exact Cnd.mk (fun c=>j3y h hf hy (dt c) ()) fun c=>⟨by unfold InI;omega,⟨j+1,by omega,by omega,by rw[hf,G9 hy (df c)]⟩,by omega⟩
theorem j31{v:Envt}{key:ByteArray}{K:Lay_->Bool->Prop}(hv:v.5.length<=1000000)(h:K ((lof v key).getD noLy) (lof v key).isSome):q5m v key K:=by
 unfold q5m
 refine LpH.ind (fun x=> ∃j:Nat,x.1=(j:Int)/\j<=v.5.length/\(v.5.find? fun l=>decide (l.1=key))=(v.5.drop j).find? fun l=>decide (l.1=key)) (fun x=>((v.5.length:Int) - (x.1:Int)).toNat) ?_ ⟨0,rfl,by omega,rfl⟩
 rintro⟨i,x⟩ ⟨j,hi,hj,hf⟩
 dsimp only at hi⊢
 subst hi
 refine fun _=>Cnd.mk (fun hc=>⟨by omega,fun y hy=> ?_⟩) fun hc=>j7e h hf (by omega)
 have hy:v.5[j]? =some y:=hy
 refine Cnd.mk (fun c=>⟨by omega,fun z hz=> ?_⟩) fun c=>⟨by unfold InI;omega,⟨j+1,by omega,by omega,by rw[hf,G9 hy (df c)]⟩,by omega⟩
 have hz:v.5[j]? =some z:=hz
 rw[hy] at hz;cases hz
 exact j3y h hf hy (dt c) ()
theorem xEta{y:Exper}:Exper.mk y.1 y.2 y.3 y.4 y.5 y.6 y.7 (Ex.mk y.8.1 y.8.2 y.8.3 y.8.4 y.8.5)=y:=by rw[Bx]
theorem j8n{v:Envt}{key layer:ByteArray}{K:Exper->Bool->Prop}(hv:v.6.length<=1000000)(h:K ((xfV v key layer).getD noXp) (xfV v key layer).isSome):Hg v key layer K:=by
 unfold Hg
 refine LpH.ind (fun x=> ∃j:Nat,x.1=(j:Int)/\j<=v.6.length/\(v.6.find? fun x=>decide (x.1=key) && decide (x.2=layer))=(v.6.drop j).find? fun x=>decide (x.1=key) && decide (x.2=layer)) (fun x=>((v.6.length:Int) - (x.1:Int)).toNat) ?_ ⟨0,rfl,by omega,rfl⟩
 rintro⟨i,x⟩ ⟨j,hi,hj,hf⟩
 dsimp only at hi⊢
 subst hi
 refine fun _=>Cnd.mk (fun hc=>⟨by omega,fun y hy=> ?_⟩) fun hc=>j7e h hf (by omega)
 have hy:v.6[j]? =some y:=hy
 have same: ∀{z:Exper},v.6[((j:Nat):Int).toNat]? =some z->z=y:=fun {z} hz=>by
  have hz:v.6[j]? =some z:=hz
  rw[hy] at hz;exact (Option.some.inj hz).symm
 refine Cnd.mk (fun c1=>⟨by omega,fun z hz=> ?_⟩) fun c1=>⟨by unfold InI;omega,⟨j+1,by omega,by omega,by rw[hf,G9 hy (by rw[df c1,Bool.false_and])]⟩,by omega⟩
 rw[same hz]
 refine Cnd.mk (fun c2=>⟨by omega,fun z hz=> ?_⟩) fun c2=>⟨by unfold InI;omega,⟨j+1,by omega,by omega,by rw[hf,G9 hy (by rw[df c2,Bool.and_false])]⟩,by omega⟩
 rw[same hz]
 show K (Exper.mk y.1 y.2 y.3 y.4 y.5 y.6 y.7 (Ex.mk y.8.1 y.8.2 y.8.3 y.8.4 y.8.5)) true
 rw[xEta]
 exact j3y h hf hy (by rw[dt c1,dt c2];rfl) ()
def chkR(x:Rcd)(v:Envt):Int:=
 if ldV x.3.1 x.2 x.5 x.1=true then
  match lof v x.3.2,xfV v x.3.3 x.3.2 with
  |some y,some e=>if x.4=ofV y.3 x.3.1 then (if insV e.6 x.4=true then (if x.3.4=q4g e.7 (ofV e.4 x.3.1) then 0 else 23) else 25) else 3
  |_,_=>11
 else 15
abbrev j8o(x:Rcd):Prop:=x.2<x.3.5∨(¬x.3.7=0/\x.3.6<=x.2)
def chkV(x:Rcd)(v:Envt):Int:=if (keyV x.1 && keyV x.3.1)=true then (if j8o x then 26 else chkR x v) else 6
theorem j1n{x:Rcd}{v:Envt}(h: ¬(keyV x.1 && keyV x.3.1)=true):chkV x v=6:=if_neg h
theorem j32{x:Rcd}{v:Envt}(h:(keyV x.1 && keyV x.3.1)=true)(k:j8o x):chkV x v=26:=by unfold chkV;rw[if_pos h,if_pos k]
theorem z1z{x:Rcd}{v:Envt}(h:(keyV x.1 && keyV x.3.1)=true)(k: ¬j8o x):chkV x v=chkR x v:=by unfold chkV;rw[if_pos h,if_neg k]
theorem j33{x:Rcd}{v:Envt}(h: ¬ldV x.3.1 x.2 x.5 x.1=true):chkR x v=15:=if_neg h
theorem j1o{x:Rcd}{v:Envt}(h:ldV x.3.1 x.2 x.5 x.1=true)(k:lof v x.3.2=none∨xfV v x.3.3 x.3.2=none):chkR x v=11:=by
 unfold chkR
 rw[if_pos h]
 rcases k with k|k
 ·rw[k]
 ·rw[k];cases lof v x.3.2<;>rfl
theorem z7r{x:Rcd}{v:Envt}{y:Lay_}{e:Exper}(h:ldV x.3.1 x.2 x.5 x.1=true)(k:lof v x.3.2=some y)(l:xfV v x.3.3 x.3.2=some e):chkR x v=if x.4=ofV y.3 x.3.1 then (if insV e.6 x.4=true then (if x.3.4=q4g e.7 (ofV e.4 x.3.1) then 0 else 23) else 25) else 3:=by
 unfold chkR
 rw[if_pos h,k,l]
theorem j5t{v:Envt}{key:ByteArray}{y:Lay_}(h:lof v key=some y):y∈v.5:=List.mem_of_find?_eq_some h
theorem w2l{v:Envt}{key layer:ByteArray}{y:Exper}(h:xfV v key layer=some y):y∈v.6:=List.mem_of_find?_eq_some h
theorem j1p{x:Rcd}{v:Envt}{K:Int->Prop}(hv:AsB v)(hp:x.5.length<=1000000)(h:K (chkV x v)):Rx x v K:=by
 unfold Rx q5j
 have hln:=hv.ln
 have hxn:=hv.xn
 refine Jn1.mk (fun b=>b= !(keyV x.1 && keyV x.3.1)) (Jg (Cnd.mk (fun h1=>Jg ?_) fun h1=> ?_)) fun b hb=> ?_
 ·rw[h1];cases keyV x.3.1<;>rfl
 ·rw[Bool.not_eq_true] at h1;rw[h1];rfl
 subst hb
 refine Cnd.mk (fun hk=> ?_) fun hk=> ?_
 ·rw[j1n fun e=>by rw[e] at hk;cases hk] at h;exact h
 have hk:(keyV x.1 && keyV x.3.1)=true:=by
  cases hq:(keyV x.1 && keyV x.3.1) with
  |true=>rfl
  |false=>rw[hq] at hk;exact absurd rfl hk
 have hks:x.3.1.size<=10000000:=Nat.le_trans (z7o ((Bool.and_eq_true _ _▸hk).2)) (by decide)
 refine Jn1.mk (fun b=>b=true↔j8o x) (Cnd.mk (fun c1=>⟨fun _=> .inl c1,fun _=>dt c1⟩) fun c1=>Cnd.mk (fun c2=>⟨fun h=>(by cases h),fun h=> ?_⟩) fun c2=>⟨fun h=> .inr ⟨c2,of_decide_eq_true h⟩,fun h=>dt ?_⟩) fun b hb=>Cnd.mk (fun hl=> ?_) fun hl=> ?_
 ·rcases h with h|h
  ·exact absurd h c1
  ·exact absurd c2 h.1
 ·rcases h with h|h
  ·exact absurd h c1
  ·exact h.2
 ·rw[j32 hk (hb.1 hl)] at h;exact h
 rw[z1z hk fun k=>hl (hb.2 k)] at h
 refine w5k hp (Cnd.mk (fun c1=> ?_) fun c1=>by rw[j33 c1] at h;exact h)
 refine j30 (v:=v) (by omega) fun _=> ?_
 cases hlo:lof v x.3.2 with
 |none=>
  rw[j1o c1 (.inl hlo)] at h
  refine srch (fun e=>decide (e.1=x.3.3) && decide (e.2=x.3.2)) (by omega) (fun _=>Cnd.mk (fun c=>by cases c) fun _=>h) fun i y Y hy hi h1 h2=>Cnd.mk (fun c2=>Cnd.mk (fun c3=>Cnd.mk (fun c=>by cases c) fun _=>h) fun c3=>h2 (by rw[df c3,Bool.and_false])) fun c2=>h2 (by rw[df c2,Bool.false_and])
 |some ly=>
  have hls:=hv.ls ly (j5t hlo)
  refine srch (fun e=>decide (e.1=x.3.3) && decide (e.2=x.3.2)) (by omega) (fun hn=>Cnd.mk (fun _=>Cnd.mk (fun _=> ?_) fun c=>absurd (by decide) c) fun c=>absurd rfl c) fun i y Y hy hi h1 h2=>Cnd.mk (fun c2=>Cnd.mk (fun c3=>Cnd.mk (fun _=>Cnd.mk (fun c=>by omega) fun _=>⟨by omega,fun y' hy'=> ?_⟩) fun c=>absurd rfl c) fun c3=>h2 (by rw[df c3,Bool.and_false])) fun c2=>h2 (by rw[df c2,Bool.false_and])
  ·rw[j1o c1 (.inr hn)] at h;exact h
  ·have hy':v.6[i]? =some y':=hy'
   rw[hy] at hy';cases hy'
   have hx:xfV v x.3.3 x.3.2=some y:=h1 (by rw[dt c2,dt c3];rfl)
   rw[z7r c1 hlo hx] at h
   have hm:=w2l hx
   obtain⟨q1,q2⟩:=hv.cl y hm
   refine H5 hls hks (Cnd.mk (fun c4=>fun _=> ?_) fun c4=>by rw[if_neg (show ¬x.4=ofV ly.3 x.3.1 from c4)] at h;exact h)
   rw[if_pos (show x.4=ofV ly.3 x.3.1 from c4)] at h
   refine srch (fun r=>decide (r.1<=x.4) && decide (x.4<r.2)) (by omega) (fun hn=>Cnd.mk (fun c=>absurd c (by decide)) fun _=> ?_) fun i y' Y hy hi h1 h2=>Cnd.mk (fun c5=>Cnd.mk (fun c6=>Cnd.mk (fun _=> ?_) fun c=>by omega) fun c6=>h2 (by rw[df c6,Bool.and_false])) fun c5=>h2 (by rw[df c5,Bool.false_and])
   ·have hi: ¬insV y.6 x.4=true:=by unfold insV;rw[hn];simp
    rw[if_neg hi] at h;exact h
   ·have hi:insV y.6 x.4=true:=by unfold insV;rw[h1 (by rw[dt c5,dt c6];rfl)];rfl
    rw[if_pos hi] at h
    refine H5 (hv.xs y hm) hks (q9c q2 (Cnd.mk (fun c7=> ?_) fun c7=> ?_))
    ·rw[if_pos c7] at h;exact h
    ·rw[if_neg c7] at h;exact h
theorem w2m{l:List Spn}{b:Int}:insV l b=true↔ ∃r∈l,(decide (r.1<=b) && decide (b<r.2))=true:=by
 unfold insV
 rw[List.find?_isSome]
theorem w2n{l:List Spn}{b:Int}{K A:Prop}(hl:l.length<=1000000)(hT:insV l b=true->K)(hF:insV l b=false->A):
  Lp2 (fun (c:Bool) (i:Int) Y=>l.length<=(9223372036854775807:Nat)->Cnd (i<(l.length:Int)) (Cnd (c=true) (InI (i+1)/\Y true (i+1)) (((0:Int)<=i/\i<(l.length:Int))/\ ∀y8,l[i.toNat]? =some y8->Cnd (y8.1<=b) (((0:Int)<=i/\i<(l.length:Int))/\ ∀y10,l[i.toNat]? =some y10->InI (i+1)/\Y (decide (b<y10.2)) (i+1)) (InI (i+1)/\Y false (i+1)))) (Cnd (c=true) K A)) false 0:=by
 refine Lp2.ind (fun c i=> ∃j:Nat,i=(j:Int)/\j<=l.length/\(c=true↔ ∃r∈l.take j,(decide (r.1<=b) && decide (b<r.2))=true)) (fun _ i=>(l.length - i).toNat) ?_ ⟨0,rfl,by omega,by simp⟩
 rintro c i ⟨j,rfl,hj,hc⟩
 refine fun _=>Cnd.mk (fun hlt=> ?_) fun hlt=> ?_
 ·obtain⟨y,hy⟩: ∃y,l[j]? =some y:=⟨_,List.getElem?_eq_getElem (by omega)⟩
  have same: ∀{z:Spn},l[((j:Nat):Int).toNat]? =some z->z=y:=fun {z} hz=>by
   have hz:l[j]? =some z:=hz
   rw[hy] at hz;exact (Option.some.inj hz).symm
  have nx: ∀d:Bool,(d=true↔(c=true∨(decide (y.1<=b) && decide (b<y.2))=true))->InI ((j:Int)+1)/\(∃j':Nat,(j:Int)+1=(j':Int)/\j'<=l.length/\(d=true↔ ∃r∈l.take j',(decide (r.1<=b) && decide (b<r.2))=true))/\(l.length - ((j:Int)+1)).toNat<(l.length - (j:Int)).toNat:=fun d hd=>⟨by unfold InI;omega,⟨j+1,by omega,by omega,by
   rw[hd,hc,tk1 hy]
   constructor
   ·rintro (⟨r,h1,h2⟩|h)
    ·exact⟨r,List.mem_append_left _ h1,h2⟩
    ·exact⟨y,by simp,h⟩
   ·rintro⟨r,h1,h2⟩
    rcases List.mem_append.1 h1 with h1|h1
    ·exact .inl ⟨r,h1,h2⟩
    ·rw[List.mem_singleton.1 h1] at h2;exact .inr h2⟩,by omega⟩
  refine Cnd.mk (fun c1=>nx true ⟨fun _=> .inl c1,fun _=>rfl⟩) fun c1=>⟨by omega,fun z hz=> ?_⟩
  rw[same hz]
  refine Cnd.mk (fun c2=>⟨by omega,fun z hz=> ?_⟩) fun c2=>nx false ⟨fun h=>(by cases h),fun h=> ?_⟩
  ·rw[same hz]
   refine nx _ ⟨fun h=> .inr (by rw[dt c2,h];rfl),fun h=> ?_⟩
   rcases h with h|h
   ·exact absurd h c1
   ·rw[Bool.and_eq_true] at h;exact h.2
  ·rcases h with h|h
   ·exact absurd h c1
   ·rw[df c2,Bool.false_and] at h;cases h
 ·rw[List.take_of_length_le (by omega),←w2m] at hc
  refine Cnd.mk (fun c1=>hT (hc.1 c1)) fun c1=>hF ?_
  rw[←Bool.not_eq_true];exact fun h=>c1 (hc.2 h)
theorem j34{x:Rcd}{v:Envt}{K:Int->Prop}(hv:AsB v)(hp:x.5.length<=1000000)(s1:x.1.size<=1000000000)(s2:x.3.1.size<=1000000000)(h:K (chkV x v)):q5r x v K:=by
 unfold q5r q9p
 have hln:=hv.ln
 have hxn:=hv.xn
 refine j3u s1 (Cnd.mk (fun k1=>j3u s2 (Cnd.mk (fun k2=> ?_) fun k2=> ?_)) fun k1=> ?_)
 rotate_left
 ·rw[j1n (by rw[Bool.and_eq_true];exact fun h=>k2 h.2)] at h;exact h
 ·rw[j1n (by rw[Bool.and_eq_true];exact fun h=>k1 h.1)] at h;exact h
 have hk:(keyV x.1 && keyV x.3.1)=true:=by rw[k1,k2];rfl
 have hks:x.3.1.size<=10000000:=Nat.le_trans (z7o k2) (by decide)
 have late:j8o x->K 26:=fun hl=>by rw[j32 hk hl] at h;exact h
 have rest: ¬j8o x->K (chkR x v):=fun hl=>by rw[z1z hk hl] at h;exact h
 clear h
 refine Cnd.mk (fun c1=>late (.inl c1)) fun c1=>Cnd.mk (fun c2=> ?_) fun c2=>Cnd.mk (fun c3=>late (.inr ⟨c2,c3⟩)) fun c3=> ?_
 all_goals
  have h:=rest (by
   rintro (k|k)
   ·exact c1 k
   ·first|exact c3 k.2|exact k.1 c2)
  refine j3z hp (Cnd.mk (fun d1=> ?_) fun d1=>by rw[j33 d1] at h;exact h)
  refine j31 (v:=v) (by omega) (j8n (v:=v) (by omega) ?_)
  cases hlo:lof v x.3.2 with
  |none=>
   rw[j1o d1 (.inl hlo)] at h
   exact Cnd.mk (fun c=>by cases c) fun _=>h
  |some ly=>
   refine Cnd.mk (fun _=> ?_) fun c=>absurd rfl c
   cases hx:xfV v x.3.3 x.3.2 with
   |none=>
    rw[j1o d1 (.inr hx)] at h
    exact Cnd.mk (fun c=>by cases c) fun _=>h
   |some y=>
    rw[z7r d1 hlo hx] at h
    refine Cnd.mk (fun _=> ?_) fun c=>absurd rfl c
    have hm:=w2l hx
    obtain⟨q1,q2⟩:=hv.cl y hm
    simp only[Option.getD_some]
    refine j3h (hv.ls ly (j5t hlo)) hks (Cnd.mk (fun c4=> ?_) fun c4=>by rw[if_neg (show ¬x.4=ofV ly.3 x.3.1 from c4)] at h;exact h)
    rw[if_pos (show x.4=ofV ly.3 x.3.1 from c4)] at h
    refine w2n q1 (fun hi=> ?_) fun hi=>by rw[if_neg (by rw[hi];simp)] at h;exact h
    rw[if_pos hi] at h
    refine j3h (hv.xs y hm) hks (j5r q2 (Cnd.mk (fun c7=> ?_) fun c7=> ?_))
    ·rw[if_pos c7] at h;exact h
    ·rw[if_neg c7] at h;exact h
abbrev noRc:Rcd:=Rcd.mk noT 0 noSl 0 []
def expV(r:Reg)(v:Envt)(id key:ByteArray)(t:Int):Rcd×Int:=
 if regV r=true then
  match atV r id key t,lof v key with
  |some s,some y=>(Rcd.mk id t s (ofV y.3 s.1) (z7q (q26 r.2 t) id s.1).1,0)
  |_,_=>(noRc,11)
 else (noRc,25)
theorem w2o{r:Reg}{id key:ByteArray}{t:Int}{s:Slt}(h:atV r id key t=some s):s∈r.3:=List.mem_of_find?_eq_some h
theorem j7f{r:Reg}{v:Envt}{id key:ByteArray}{t:Int}(h: ¬regV r=true):expV r v id key t=(noRc,25):=if_neg h
theorem j5u{r:Reg}{v:Envt}{id key:ByteArray}{t:Int}(h:regV r=true)(k:atV r id key t=none∨lof v key=none):expV r v id key t=(noRc,11):=by
 unfold expV
 rw[if_pos h]
 rcases k with k|k
 ·rw[k]
 ·rw[k];cases atV r id key t<;>rfl
theorem z7s{r:Reg}{v:Envt}{id key:ByteArray}{t:Int}{s:Slt}{y:Lay_}(h:regV r=true)(k:atV r id key t=some s)(l:lof v key=some y):expV r v id key t=(Rcd.mk id t s (ofV y.3 s.1) (z7q (q26 r.2 t) id s.1).1,0):=by
 unfold expV
 rw[if_pos h,k,l]
theorem z9t{r:Reg}{v:Envt}{id key:ByteArray}{t:Int}{K:Rcd->Int->Prop}(hv:AsB v)(h:K (expV r v id key t).1 (expV r v id key t).2):U3 r v id key t K:=by
 unfold U3 q2p
 have hln:=hv.ln
 refine j1m (Cnd.mk (fun c=>v23 (fun _=>j30 (v:=v) (by omega) ?_) fun hn=>by rw[c] at hn;cases hn) fun c=>by rw[j7f c] at h;exact h)
 have hr:=z1y.1 c
 cases ha:atV r id key t with
 |none=>
  rw[j5u c (.inl ha)] at h
  exact Cnd.mk (fun c=>by cases c) fun _=>h
 |some s=>
  refine Cnd.mk (fun _=> ?_) fun c=>absurd rfl c
  cases hlo:lof v key with
  |none=>
   rw[j5u c (.inr hlo)] at h
   exact Cnd.mk (fun c=>by cases c) fun _=>h
  |some y=>
   rw[z7s c ha hlo] at h
   refine Cnd.mk (fun _=> ?_) fun c=>absurd rfl c
   have hu:=z1w r.2 t
   have hl:=hr.ln
   obtain⟨k,hk⟩:=List.mem_iff_getElem?.1 (w2o ha)
   have hs:=z7o (hr.sl k s hk).p.i
   exact z9r (by omega) (w2j (by omega) (H5 (hv.ls y (j5t hlo)) (Nat.le_trans hs (by decide)) h))
theorem j35{l:List Lnk}{a b:ByteArray}:(z7q l a b).1.length<=2*l.length:=by
 rcases Classical.em (∃q:List Lnk×Bool,PathIs l a b q.1 q.2) with h|h
 ·obtain⟨⟨p,x⟩,hp⟩:=h
  rw[z1x hp]
  cases x with
  |false=>rw[hp.2.2 rfl];exact Nat.zero_le _
  |true=>
   have:=q8k (hp.2.1 rfl).len
   rwa [q25] at this
 ·exfalso
  rcases Classical.em (Conn (tup l) a b) with hc|hc
  ·obtain⟨n,hn⟩:=hc.dist
   have ex: ∀(n:Nat) (a:ByteArray),IsDist (tup l) a b n-> ∃p:List Lnk,Gp (tup l) b a (tup p):=by
    intro n
    induction n with
    |zero=>intro a h;rw[IsDist.zero.1 h];exact⟨[],.done⟩
    |succ n ih=>
     intro a ha
     obtain⟨e,he,y,ho,hy⟩:=ha.next
     obtain⟨j,hj⟩:=List.mem_iff_getElem?.1 he
     obtain⟨j,⟨e,y,hj,ho,hy⟩,hmin⟩:=j3v (p:=fun j=> ∃e y,(tup l)[j]? =some e/\oth e a=some y/\IsDist (tup l) y b n) ⟨e,y,hj,ho,hy⟩
     obtain⟨p,hp⟩:=ih y hy
     obtain⟨f,hf,rfl⟩:=v03 hj
     exact⟨f::p,.step hj ho ha hy (fun i hi e' he' y' ho' hd'=>by have:=hmin i ⟨e',y',he',ho',hd'⟩;omega) hp⟩
   obtain⟨p,hp⟩:=ex n a hn
   exact h ⟨(p,true),⟨fun _=>hc,fun _=>rfl⟩,fun _=>hp,fun h=>by cases h⟩
  ·exact h ⟨([],false),⟨fun h=>(by cases h),fun h=>absurd h hc⟩,fun h=>(by cases h),fun _=>rfl⟩
end Go.En
end
noncomputable section
set_option maxRecDepth 100000
namespace Go.En
open Go Go.Fl Go.Fl.Lk Go.Fx
theorem z7t{l:List Lnk}{K:List Lnk->Prop}(hl:l.length<=1000000)(h:K l):Qy l K:=by
 unfold Qy
 refine fun n hn=>Cnd.mk (fun c=> ?_) fun _=>⟨by unfold Sml;simp;omega,h⟩
 rw[hn c] at h;exact h
theorem z7u{l:List Slt}{K:List Slt->Prop}(hl:l.length<=1000000)(h:K l):Qz l K:=by
 unfold Qz
 refine fun n hn=>Cnd.mk (fun c=> ?_) fun _=>⟨by unfold Sml;simp;omega,h⟩
 rw[hn c] at h;exact h
def z7v(r:Reg)(now:Int):Int:=if regV r=true then (if now<r.1 then 26 else if 1099511627776<now then 26 else 0) else 25
theorem j1q{r:Reg}{now:Int}{K:Int->Prop}(h:K (z7v r now)):Uf r now K:=by
 unfold Uf q32
 unfold z7v at h
 refine j1m (Cnd.mk (fun c=> ?_) fun c=>by rw[if_neg c] at h;exact h)
 rw[if_pos c] at h
 refine Cnd.mk (fun c=>by rw[if_pos c] at h;exact h) fun c=> ?_
 rw[if_neg c] at h
 exact Cnd.mk (fun c=>by rw[if_pos c] at h;exact h) fun c=>by rw[if_neg c] at h;exact h
structure RdyAt(r:Reg)(now:Int):Prop where
 ok:RegOk r
 lo:r.1<=now
 hi:now<=1099511627776
theorem q8l{r:Reg}{now:Int}:z7v r now=0↔RdyAt r now:=by
 unfold z7v
 constructor
 ·intro h
  split at h
  ·rename_i c
   split at h
   ·cases h
   ·split at h
    ·cases h
    ·exact⟨z1y.1 c,by omega,by omega⟩
  ·cases h
 ·intro h
  have h1:=h.lo
  have h2:=h.hi
  rw[if_pos (z1y.2 h.ok),if_neg (by omega),if_neg (by omega)]
def curP(r:Reg)(id layer:ByteArray)(s:Slt):Bool:=decide (s.7=0) && (decide (s.2=layer) && z7p r.2 s.1 id)
def curV(r:Reg)(id layer:ByteArray):Option Slt:=r.3.find? (curP r id layer)
theorem v09{r:Reg}{id layer:ByteArray}{K:Int->Prop}(hln:r.2.length<=64)(hsn:r.3.length<=128)(h0:curV r id layer=none->K (-1))(h1: ∀(i:Nat) s,r.3[i]? =some s->curV r id layer=some s->K (i:Int)):He r id layer K:=by
 unfold He q0r
 have rt: ∀y:Slt,z1v r.2 y.1=z1v r.2 id↔z7p r.2 y.1 id=true:=fun y=>q4t.trans q4u.symm
 refine q4h (by omega) fun _=>srch (curP r id layer) (by omega) h0 fun i y Y hy hi g1 g2=> ?_
 refine Cnd.mk (fun c1=>Cnd.mk (fun c2=>q4h (by omega) (Cnd.mk (fun c3=>h1 i y hy (g1 ?_)) fun c3=>g2 ?_)) fun c2=>g2 ?_) fun c1=>g2 ?_
 ·unfold curP;rw[dt c1,dt c2,(rt y).1 c3];rfl
 ·unfold curP;rw[dt c1,dt c2,Bool.true_and,Bool.true_and,←Bool.not_eq_true];exact fun e=>c3 ((rt y).2 e)
 ·unfold curP;rw[df c2];simp
 ·unfold curP;rw[df c1];simp
abbrev noRg:Reg:=Reg.mk 0 [] []
def z4k(r:Reg)(id layer:ByteArray)(cool now:Int)(s:Slt):Bool:=decide (s.2=layer) && (!decide (s.7=0) && (decide (now - s.6<cool) && z7p r.2 s.1 id))
def w5l(r:Reg)(id layer:ByteArray)(cool now:Int):Bool:=(r.3.find? (z4k r id layer cool now)).isSome
abbrev j5v(id:ByteArray)(a:Asg)(now:Int):Slt:=Slt.mk id a.1 a.2 a.4 now 0 0
abbrev badA(a:Asg):Prop:=a.5=true∨ ¬keyV a.2=true∨a.4<1∨8<a.4
def asnR(r:Reg)(id:ByteArray)(a:Asg)(cool now:Int):Reg×Slt×Int:=
 match curV r id a.1 with
 |some s=>(Reg.mk now r.2 r.3,s,0)
 |none=>if badA a then (noRg,noSl,11) else if w5l r id a.1 cool now=true then (noRg,noSl,28) else if 128<=(r.3.length:Int) then (noRg,noSl,19) else (Reg.mk now r.2 (r.3++[j5v id a now]),j5v id a now,0)
def asnV(r:Reg)(id:ByteArray)(a:Asg)(cool now:Int):Reg×Slt×Int:=
 if z7v r now=0 then (if cool<0 then (noRg,noSl,3) else if (keyV id && keyV a.1)=true then asnR r id a cool now else (noRg,noSl,6)) else (noRg,noSl,z7v r now)
theorem j36{r:Reg}{id:ByteArray}{a:Asg}{cool now:Int}{s:Slt}(h:curV r id a.1=some s):asnR r id a cool now=(Reg.mk now r.2 r.3,s,0):=by unfold asnR;rw[h]
theorem z7w{r:Reg}{id:ByteArray}{a:Asg}{cool now:Int}(h:curV r id a.1=none):asnR r id a cool now=if badA a then (noRg,noSl,11) else if w5l r id a.1 cool now=true then (noRg,noSl,28) else if 128<=(r.3.length:Int) then (noRg,noSl,19) else (Reg.mk now r.2 (r.3++[j5v id a now]),j5v id a now,0):=by unfold asnR;rw[h]
theorem j37{r:Reg}{id:ByteArray}{a:Asg}{cool now:Int}{K:Reg->Slt->Int->Prop}(_:cool<=9223372036854775807)(h:K (asnV r id a cool now).1 (asnV r id a cool now).2.1 (asnV r id a cool now).2.2):U1 r id a cool now K:=by
 unfold U1 q2l
 refine j1q (Cnd.mk (fun c=> ?_) fun c=> ?_)
 rotate_left
 ·rw[show asnV r id a cool now=(noRg,noSl,z7v r now) from if_neg c] at h;exact h
 have hr:=q8l.1 c
 have hln:=hr.ok.ln
 have hsn:=hr.ok.sn
 rw[show asnV r id a cool now=if cool<0 then (noRg,noSl,3) else if (keyV id && keyV a.1)=true then asnR r id a cool now else (noRg,noSl,6) from if_pos c] at h
 refine Cnd.mk (fun c1=>by rw[if_pos c1] at h;exact h) fun c1=> ?_
 rw[if_neg c1] at h
 refine Jg (Cnd.mk (fun k1=>Jg (Cnd.mk (fun k2=> ?_) fun k2=> ?_)) fun k1=> ?_)
 rotate_left
 ·rw[if_neg (by rw[Bool.and_eq_true];exact fun e=>k2 e.2)] at h;exact h
 ·rw[if_neg (by rw[Bool.and_eq_true];exact fun e=>k1 e.1)] at h;exact h
 rw[if_pos (by rw[k1,k2];rfl)] at h
 refine z7t (by omega) (z7u (by omega) (v09 hln hsn (fun hc=> ?_) fun i s hs hc=> ?_))
 rotate_left
 ·rw[j36 hc] at h
  have hlt:=Qk hs
  refine Cnd.mk (fun _=>⟨by omega,fun y hy=> ?_⟩) fun c=>by omega
  have hy:r.3[i]? =some y:=hy
  rw[hs] at hy;cases hy
  exact h
 rw[z7w hc] at h
 refine Cnd.mk (fun c=>absurd c (by decide)) fun _=> ?_
 have bad:badA a->K noRg noSl 11:=fun hb=>by rw[if_pos hb] at h;exact h
 refine Cnd.mk (fun b1=>bad (.inl b1)) fun b1=>Jg (Cnd.mk (fun b2=>Cnd.mk (fun b3=>bad (.inr (.inr (.inl b3)))) fun b3=>Cnd.mk (fun b4=>bad (.inr (.inr (.inr b4)))) fun b4=> ?_) fun b2=>bad (.inr (.inl b2)))
 have nb: ¬badA a:=by
  rintro (e|e|e|e)
  ·exact b1 e
  ·exact e b2
  ·exact b3 e
  ·exact b4 e
 rw[if_neg nb] at h
 have rt: ∀y:Slt,z1v r.2 y.1=z1v r.2 id↔z7p r.2 y.1 id=true:=fun y=>q4t.trans q4u.symm
 refine q4h (by omega) fun _=>LpH.ind (fun x=> ∃j:Nat,x.1=(j:Int)/\j<=r.3.length/\r.3.find? (z4k r id a.1 cool now)=(r.3.drop j).find? (z4k r id a.1 cool now)) (fun x=>((r.3.length:Int) - (x.1:Int)).toNat) ?_ ⟨0,rfl,by omega,rfl⟩
 rintro⟨i,x⟩ ⟨j,hi,hj,hf⟩
 dsimp only at hi⊢
 subst hi
 refine Cnd.mk (fun hc=>⟨by omega,fun y hy=> ?_⟩) fun hc=>fun _=> ?_
 ·have hy:r.3[j]? =some y:=hy
  have miss:z4k r id a.1 cool now y=false->InI ((j:Int)+1)/\(∃j':Nat,(j:Int)+1=(j':Int)/\j'<=r.3.length/\r.3.find? (z4k r id a.1 cool now)=(r.3.drop j').find? (z4k r id a.1 cool now))/\(((r.3.length:Int) - ((j:Int)+1)).toNat<((r.3.length:Int) - (j:Int)).toNat):=fun hp=>⟨by unfold InI;omega,⟨j+1,by omega,by omega,by rw[hf,G9 hy hp]⟩,by omega⟩
  have hsl:=(hr.ok.sl j y hy).p
  have hlo:=hr.lo
  have hhi:=hr.hi
  refine Cnd.mk (fun c1=>Cnd.mk (fun c2=>miss (by unfold z4k;rw[dt c2];simp)) fun c2=>⟨?_,Cnd.mk (fun c3=>q4h (by omega) (Cnd.mk (fun c4=> ?_) fun c4=>miss ?_)) fun c3=>miss ?_⟩) fun c1=>miss (by unfold z4k;rw[df c1];simp)
  ·have h0:=hsl.f0
   have h1:=hsl.f1
   rcases hsl.e with e|e
   ·exact absurd e.1 c2
   ·unfold InI;omega
  ·have hp:z4k r id a.1 cool now y=true:=by unfold z4k;rw[dt c1,df c2,dt c3,(rt y).1 c4];rfl
   rw[if_pos (by unfold w5l;rw[hf,q8j hy hp];rfl)] at h;exact h
  ·unfold z4k;rw[dt c1,df c2,dt c3]
   have:z7p r.2 y.1 id=false:=by rw[←Bool.not_eq_true];exact fun e=>c4 ((rt y).2 e)
   rw[this];rfl
  ·unfold z4k;rw[df c3];simp
 ·rw[if_neg (by unfold w5l;rw[hf,List.drop_eq_nil_of_le (by omega)];simp)] at h
  refine Cnd.mk (fun c1=>by rw[if_pos c1] at h;exact h) fun c1=> ?_
  rw[if_neg c1] at h
  exact⟨by unfold Sml;simp;omega,h⟩
end Go.En
end
noncomputable section
set_option maxRecDepth 100000
namespace Go.En
open Go Go.Fl Go.Fl.Lk Go.Fx
abbrev fN:List ByteArray:=[(ByteArray.mk (Array.mk [102,97,115,116,45,102,108,97,103])),(ByteArray.mk (Array.mk [115,104,111,112,45,102,108,97,103])),(ByteArray.mk (Array.mk [115,108,111,119,45,102,108,97,103])),(ByteArray.mk (Array.mk [116,111,112,45,102,108,97,103]))]
abbrev xN:List ByteArray:=[(ByteArray.mk (Array.mk [98,108,117,101])),(ByteArray.mk (Array.mk [102,97,115,116])),(ByteArray.mk (Array.mk [103,114,101,101,110])),(ByteArray.mk (Array.mk [115,108,111,119]))]
abbrev lN:List ByteArray:=[(ByteArray.mk (Array.mk [104,111,109,101])),(ByteArray.mk (Array.mk [115,104,111,112]))]
abbrev usrN:ByteArray:=(ByteArray.mk (Array.mk [117,115,101,114]))
abbrev usr(id:ByteArray):Subj:=Subj.mk [Ctxt.mk usrN id []]
theorem z10(l:List Int):(bsOf l).size=l.length:=by rw[w0z,strOfNums_size]
def sltX(sT:ByteArray)(i:Nat):ByteArray:=sT++bsOf [Go.IntKind.u8.wrap ((48:Int)+Go.IntKind.u8.wrap (i:Int))]
def vlM(k:Nat):Val:=Val.mk 2 (((k:Int)+1)*10) noT []
def flM(key:ByteArray):Flg:=Flg.mk key 2 [vlM 0,vlM 1,vlM 2] true 3 [] [] [] (Srv.mk 3 noT noT noT [])
def lyM(sT:ByteArray)(ho:Int)(key:ByteArray):Lay_:=Lay_.mk key usrN (sT++key) ho 0 []
def clM(ho c:Int)(i:Nat):List Spn:=if 2<=i then [Spn.mk c 10000] else [Spn.mk ho c]
def rgM(a b:Int):List Rng:=[Rng.mk 0 a 1,Rng.mk a b 2,Rng.mk b 10000 3]
def xpM(sT:ByteArray)(ho c a b:Int)(i:Nat):Exper:=Exper.mk (xN.getD i noT) (lN.getD (i % 2) noT) (fN.getD i noT) (sltX sT i) 2 (clM ho c i) (rgM a b) (Ex.mk 1 noT noT [] [])
def mkE(sT:ByteArray)(ho c a b:Int):Envt:=Envt.mk (Sett.mk noT noT 0) [] [] (fN.map flM) (lN.map (lyM sT ho)) ((List.range 4).map (xpM sT ho c a b))
theorem z11{K:List ByteArray->Prop}(h:K lN):Bk K:=h
theorem z7x{l:List ByteArray}{i:Nat}{y:ByteArray}(h:l[i]? =some y):l.getD i noT=y:=by rw[List.getD_eq_getElem?_getD,h];rfl
theorem j1r{α β:Type}{l:List α}{f:α->β}{j:Nat}{y:α}(h:l[j]? =some y):(l.map f).take (j+1)=(l.map f).take j++[f y]:=tk1 (by rw[List.getElem?_map,h];rfl)
def sTof(salt:Int):ByteArray:=(ByteArray.mk (Array.mk [115]))++bsOf [Go.IntKind.u8.wrap ((97:Int)+salt.tmod (26:Int))]
abbrev hoOf(hold:Int):Int:=hold.tmod (50:Int)*(20:Int)
abbrev cOf(hold cut:Int):Int:=hoOf hold+(1:Int)+cut.tmod ((10000:Int) - hoOf hold - (1:Int))
abbrev aOf(one:Int):Int:=(1:Int)+one.tmod (9998:Int)
abbrev bOf(one two:Int):Int:=aOf one+(1:Int)+two.tmod ((9999:Int) - aOf one)
def envV(salt hold cut one two:Int):Envt:=mkE (sTof salt) (hoOf hold) (cOf hold cut) (aOf one) (bOf one two)
theorem j1s(x y:ByteArray):(x++y).size=x.size+y.size:=ByteArray.size_append
theorem q7v(salt:Int):(sTof salt).size=2:=by unfold sTof;rw[j1s,z10];rfl
structure MdB(ho c a b:Int):Prop where
 h0:0<=ho
 h1:ho<=980
 c0:ho<c
 c1:c<=9999
 a0:1<=a
 b0:a<b
 b1:b<=9999
theorem tmB{n m:Int}(h:0<=n)(k:0<m):0<=n.tmod m/\n.tmod m<m:=⟨Int.tmod_nonneg _ h,Int.tmod_lt_of_pos _ k⟩
theorem w2p{hold cut one two:Int}(h1:0<=hold)(h2:0<=cut)(h3:0<=one)(h4:0<=two):MdB (hoOf hold) (cOf hold cut) (aOf one) (bOf one two):=by
 have t1:=tmB (m:=50) h1 (by decide)
 have t2:=tmB (m:=9998) h3 (by decide)
 have t3:=tmB (m:=9999 - aOf one) h4 (by unfold aOf;omega)
 have t4:=tmB (m:=10000 - hoOf hold - 1) h2 (by unfold hoOf;omega)
 constructor<;>simp only[hoOf,aOf,cOf,bOf] at* <;>omega
theorem w2q{salt hold cut one two:Int}{K:Envt->Prop}(h1:0<=hold)(g1:hold<=1000000)(h2:0<=cut)(g2:cut<=1000000)(h3:0<=one)(g3:one<=1000000)(h4:0<=two)(g4:two<=1000000)(h:K (envV salt hold cut one two)):V3 salt hold cut one two K:=by
 unfold V3 q0m
 have hb:=w2p h1 h2 h3 h4
 have t1:=tmB (m:=50) h1 (by decide)
 have t2:=tmB (m:=9998) h3 (by decide)
 have t3:=tmB (m:=9999 - aOf one) h4 (by unfold aOf;omega)
 have t4:=tmB (m:=10000 - hoOf hold - 1) h2 (by unfold hoOf;omega)
 have hin: ∀n:Int, -1000000<=n->n<=10000000->InI n:=fun n h h'=>by unfold InI;omega
 have sml: ∀{α:Type} (l:List α),l.length<=10->Sml l.length:=fun l hl=>by unfold Sml;omega
 refine⟨by decide,?_,hin _ (by omega) (by omega),by decide,hin _ (by omega) (by omega),?_⟩
 ·rw[z10];show (((1+1:Nat)):Int)<=9223372036854775807;decide
 refine Lp2.ind (fun i l=> ∃j:Nat,i=(j:Int)/\j<=4/\l=(fN.map flM).take j) (fun i _=>(4 - i).toNat) ?_ ⟨0,rfl,by omega,rfl⟩
 rintro i l ⟨j,rfl,hj,rfl⟩
 refine fun _=>Cnd.mk (fun hc=>⟨⟨by omega,hc⟩,fun y hy=> ?_⟩) fun hc=> ?_
 ·have hy:fN[j]? =some y:=hy
  have hc:(j:Int)<4:=hc
  refine Lp2.ind (fun k l=> ∃m:Nat,k=(m:Int)+1/\m<=3/\l=[vlM 0,vlM 1,vlM 2].take m) (fun k _=>(4 - k).toNat) ?_ ⟨0,rfl,by omega,rfl⟩
  rintro k l ⟨m,rfl,hm,rfl⟩
  refine Cnd.mk (fun hk=>⟨hin _ (by omega) (by omega),sml _ (by simp;omega),hin _ (by omega) (by omega),⟨m+1,by omega,by omega,?_⟩,by omega⟩) fun hk=>⟨sml _ (by simp;omega),hin _ (by omega) (by omega),⟨j+1,by omega,by omega,?_⟩,by omega⟩
  ·have:m=0∨m=1∨m=2:=by omega
   rcases this with rfl|rfl|rfl<;>rfl
  ·rw[show m=3 by omega,j1r hy];rfl
 have hj4:j=4:=by
  have hc: ¬(j:Int)<4:=hc
  omega
 subst hj4
 rw[show (fN.map flM).take 4=fN.map flM from rfl]
 refine Lp2.ind (fun i l=> ∃j:Nat,i=(j:Int)/\j<=2/\l=(lN.map (lyM (sTof salt) (hoOf hold))).take j) (fun i _=>(2 - i).toNat) ?_ ⟨0,rfl,by omega,rfl⟩
 rintro i l ⟨j,rfl,hj,rfl⟩
 refine Cnd.mk (fun hc=>z11 ⟨⟨by omega,hc⟩,fun y hy=>z11 ⟨⟨by omega,hc⟩,fun z hz=> ?_⟩⟩) fun hc=> ?_
 ·have hy:lN[j]? =some y:=hy
  have hz:lN[j]? =some z:=hz
  rw[hy] at hz;cases hz
  have hys:y.size=4:=by
   rcases List.mem_cons.1 (List.mem_of_getElem? hy) with rfl|hq
   ·rfl
   ·rw[List.mem_singleton.1 hq];rfl
  refine⟨?_,sml _ (by simp;omega),hin _ (by omega) (by omega),⟨j+1,by omega,by omega,?_⟩,by omega⟩
  ·have:=q7v salt
   unfold sTof at this
   rw[this,hys];decide
  ·rw[j1r hy];rfl
 have hj2:j=2:=by omega
 subst hj2
 rw[show (lN.map (lyM (sTof salt) (hoOf hold))).take 2=lN.map (lyM (sTof salt) (hoOf hold)) from rfl]
 have b1:=hb.h1
 have b2:=hb.h0
 have b3:=hb.c0
 have b4:=hb.c1
 have b5:=hb.b1
 have b6:=hb.a0
 have b7:=hb.b0
 simp only[hoOf,aOf,cOf,bOf] at b1 b2 b3 b4 b5 b6 b7 t3 t4
 refine⟨hin _ (by omega) (by omega),by decide,hin _ (by omega) (by omega),hin _ (by omega) (by omega),hin _ (by omega) (by omega),hin _ (by omega) (by omega),by omega,hin _ (by omega) (by omega),hin _ (by omega) (by omega),hin _ (by omega) (by omega),hin _ (by omega) (by omega),hin _ (by omega) (by omega),by omega,hin _ (by omega) (by omega),?_⟩
 refine Lp2.ind (fun i l=> ∃j:Nat,i=(j:Int)/\j<=4/\l=((List.range 4).map (xpM (sTof salt) (hoOf hold) (cOf hold cut) (aOf one) (bOf one two))).take j) (fun i _=>(4 - i).toNat) ?_ ⟨0,rfl,by omega,rfl⟩
 rintro i l ⟨j,rfl,hj,rfl⟩
 refine Cnd.mk (fun hc=> ?_) fun hc=> ?_
 ·have tk:((List.range 4).map (xpM (sTof salt) (hoOf hold) (cOf hold cut) (aOf one) (bOf one two))).take (j+1)=((List.range 4).map (xpM (sTof salt) (hoOf hold) (cOf hold cut) (aOf one) (bOf one two))).take j++[xpM (sTof salt) (hoOf hold) (cOf hold cut) (aOf one) (bOf one two) j]:=j1r (by rw[List.getElem?_range (by omega)])
  have len: ∀x:Exper,Sml (((List.range 4).map (xpM (sTof salt) (hoOf hold) (cOf hold cut) (aOf one) (bOf one two))).take j++[x]).length:=fun x=>sml _ (by rw[List.length_append,List.length_take,List.length_map,List.length_range,List.length_singleton];omega)
  have nx: ∀x:Exper,x=xpM (sTof salt) (hoOf hold) (cOf hold cut) (aOf one) (bOf one two) j->Sml (((List.range 4).map (xpM (sTof salt) (hoOf hold) (cOf hold cut) (aOf one) (bOf one two))).take j++[x]).length/\InI ((j:Int)+1)/\(∃j':Nat,(j:Int)+1=(j':Int)/\j'<=4/\((List.range 4).map (xpM (sTof salt) (hoOf hold) (cOf hold cut) (aOf one) (bOf one two))).take j++[x]=((List.range 4).map (xpM (sTof salt) (hoOf hold) (cOf hold cut) (aOf one) (bOf one two))).take j')/\(4 - ((j:Int)+1)).toNat<(4 - (j:Int)).toNat:=fun x hx=>⟨len x,hin _ (by omega) (by omega),⟨j+1,by omega,by omega,by rw[hx,tk]⟩,by omega⟩
  have mk: ∀(y4 y6 y9:ByteArray) (cl:List Spn),fN[((j:Nat):Int).toNat]? =some y4->xN[((j:Nat):Int).toNat]? =some y6->lN[(((j:Nat):Int).tmod (2:Int)).toNat]? =some y9->cl=clM (hoOf hold) (cOf hold cut) j->Exper.mk y6 y9 y4 (sltX (sTof salt) j) 2 cl (rgM (aOf one) (bOf one two)) (Ex.mk 1 noT noT [] [])=xpM (sTof salt) (hoOf hold) (cOf hold cut) (aOf one) (bOf one two) j:=fun y4 y6 y9 cl e4 e6 e9 ec=>by
   have e9:lN[j % 2]? =some y9:=by
    rw[show (((j:Nat):Int).tmod 2).toNat=j % 2 by rw[Int.tmod_eq_emod_of_nonneg (by omega)];omega] at e9
    exact e9
   unfold xpM
   rw[z7x (l:=fN) (i:=j) e4,z7x (l:=xN) (i:=j) e6,z7x e9,ec]
  have hA: ∀y4 y6 y9:ByteArray,fN[((j:Nat):Int).toNat]? =some y4->xN[((j:Nat):Int).toNat]? =some y6->lN[(((j:Nat):Int).tmod (2:Int)).toNat]? =some y9->(2:Int)<=(j:Int)->_:=fun y4 y6 y9 e4 e6 e9 e2=>nx _ (mk y4 y6 y9 [Spn.mk (cOf hold cut) 10000] e4 e6 e9 (by unfold clM;rw[if_pos (by omega)]))
  have hB: ∀y4 y6 y9:ByteArray,fN[((j:Nat):Int).toNat]? =some y4->xN[((j:Nat):Int).toNat]? =some y6->lN[(((j:Nat):Int).tmod (2:Int)).toNat]? =some y9-> ¬(2:Int)<=(j:Int)->_:=fun y4 y6 y9 e4 e6 e9 e2=>nx _ (mk y4 y6 y9 [Spn.mk (hoOf hold) (cOf hold cut)] e4 e6 e9 (by unfold clM;rw[if_neg (by omega)]))
  have z0:(2:Int)≠(0:Int):=by decide
  have z1:(0:Int)<=((j:Nat):Int)/\((j:Nat):Int)<((fN.length:Nat):Int):=⟨by omega,hc⟩
  have z2:(0:Int)<=((j:Nat):Int)/\((j:Nat):Int)<((xN.length:Nat):Int):=⟨by omega,hc⟩
  have z3:(0:Int)<=((j:Nat):Int).tmod (2:Int)/\((j:Nat):Int).tmod (2:Int)<((lN.length:Nat):Int):=tmB (m:=2) (by omega) (by decide)
  have z4:(((sTof salt).size+(bsOf [Go.IntKind.u8.wrap ((48:Int)+Go.IntKind.u8.wrap ((j:Nat):Int))]).size:Nat):Int)<=9223372036854775807:=by rw[q7v,z10];show (((2+1:Nat)):Int)<=9223372036854775807;decide
  (repeat' (first|assumption|exact hA _ _ _ (by assumption) (by assumption) (by assumption) (by assumption)|exact hB _ _ _ (by assumption) (by assumption) (by assumption) (by assumption)|exact z4|refine z11 ?_|refine Cnd.mk (fun _=> ?_) fun _=> ?_|refine⟨?_,?_⟩|intro _))
 ·have hj4:j=4:=by omega
  subst hj4
  rw[show ((List.range 4).map (xpM (sTof salt) (hoOf hold) (cOf hold cut) (aOf one) (bOf one two))).take 4=(List.range 4).map (xpM (sTof salt) (hoOf hold) (cOf hold cut) (aOf one) (bOf one two)) from rfl]
  exact h
end Go.En
end
noncomputable section
set_option maxRecDepth 100000
namespace Go.En
open Go Go.Fl Go.Fl.Lk Go.Fx
theorem j5w{sT:ByteArray}{ho c a b:Int}{x:Exper}(h:x∈(mkE sT ho c a b).6): ∃i,i<4/\x=xpM sT ho c a b i:=by
 obtain⟨i,hi,rfl⟩:=List.mem_map.1 h
 exact⟨i,List.mem_range.1 hi,rfl⟩
theorem w2r(sT:ByteArray)(i:Nat):(sltX sT i).size=sT.size+1:=by unfold sltX;rw[j1s,z10];rfl
theorem w9a(ho c:Int)(i:Nat):(clM ho c i).length=1:=by unfold clM;split<;>rfl
theorem w9b:wt (Ex.mk 1 noT noT [] [])<=2000000/\EvB (Ex.mk 1 noT noT [] []):=⟨by rw[j1i];simp[wtV,wtL],EvB.mk' (by simp) (by simp)⟩
theorem j38{sT:ByteArray}{ho c a b:Int}(hs:sT.size<=1000):AsB (mkE sT ho c a b) where
 ln:=by unfold mkE;simp
 xn:=by unfold mkE;simp
 sg:=⟨by unfold mkE;simp,fun g hg=>(by cases hg),fun g hg=>(by cases hg),by unfold mkE;simp[edg]⟩
 ex x hx:=by obtain⟨i,_,rfl⟩:=j5w hx;exact w9b
 sa:=by show noT.size<=10000000;decide
 ls l hl:=by
  obtain⟨k,hk,rfl⟩:=List.mem_map.1 hl
  show (sT++k).size<=_
  have:k.size=4:=by
   rcases List.mem_cons.1 hk with rfl|hq
   ·rfl
   ·rw[List.mem_singleton.1 hq];rfl
  rw[j1s,this];omega
 xs x hx:=by
  obtain⟨i,_,rfl⟩:=j5w hx
  show (sltX sT i).size<=_
  rw[w2r];omega
 cl x hx:=by
  obtain⟨i,_,rfl⟩:=j5w hx
  refine⟨?_,by show (rgM a b).length<=_;unfold rgM;simp⟩
  show (clM ho c i).length<=_
  rw[w9a];decide
 nd:=by
  show (((List.range 4).map (xpM sT ho c a b)).map Exper.key).Nodup
  rw[List.map_map]
  show ((List.range 4).map fun i=>xN.getD i noT).Nodup
  decide
theorem j7g{id:ByteArray}(h:id.size<=1000):SubB (usr id):=
 ⟨by simp,fun c hc=>(by rw[List.mem_singleton.1 hc];simp),fun c hc a ha=>(by rw[List.mem_singleton.1 hc] at ha;cases ha),fun c hc=>(by rw[List.mem_singleton.1 hc];show id.size<=_;omega)⟩
def ixM(c q:Int)(k:Nat):Nat:=if q<c then k else k+2
theorem w9c{lo hi q:Int}:insV [Spn.mk lo hi] q=true↔lo<=q/\q<hi:=by rw[w2m];simp
theorem w2s{ho c q:Int}{i:Nat}:insV (clM ho c i) q=true↔(if 2<=i then c<=q/\q<10000 else ho<=q/\q<c):=by
 unfold clM
 split<;>exact w9c
theorem w9d{a b q:Int}(h:0<=q)(h2:q<10000):q4g (rgM a b) q=1∨q4g (rgM a b) q=2∨q4g (rgM a b) q=3∨(b<=q->False)/\(a<=q->b<=q)/\ ¬q<a:=by
 unfold q4g rgM
 by_cases h1:q<a
 ·left;rw[List.find?_cons,dt h,dt h1];simp
 ·rw[List.find?_cons,df h1,Bool.and_false]
  simp only
  by_cases h3:q<b
  ·right;left;rw[List.find?_cons,dt (show a<=q by omega),dt h3];simp
  ·right;right;left
   rw[List.find?_cons,df h3,Bool.and_false]
   simp only
   rw[List.find?_cons,dt (show b<=q by omega),dt h2];simp
theorem w9e{a b q:Int}(h:0<=q)(h2:q<10000):1<=q4g (rgM a b) q/\q4g (rgM a b) q<=3:=by
 rcases w9d (a:=a) (b:=b) h h2 with h|h|h|⟨h,k,l⟩
 ·omega
 ·omega
 ·omega
 ·exact absurd (k (by omega)) (fun e=>h e)
theorem w9f{α:Type}{p:α->Bool}{f:Nat->α}{i:Nat}(hi:i<4)(hp:p (f i)=true)(hn: ∀j,j<i->p (f j)=false):((List.range 4).map f).find? p=some (f i):=by
 have:i=0∨i=1∨i=2∨i=3:=by omega
 show [f 0,f 1,f 2,f 3].find? p=_
 rcases this with rfl|rfl|rfl|rfl
 ·rw[List.find?_cons,hp]
 ·rw[List.find?_cons,hn 0 (by omega),List.find?_cons,hp]
 ·rw[List.find?_cons,hn 0 (by omega),List.find?_cons,hn 1 (by omega),List.find?_cons,hp]
 ·rw[List.find?_cons,hn 0 (by omega),List.find?_cons,hn 1 (by omega),List.find?_cons,hn 2 (by omega),List.find?_cons,hp]
theorem v1a: ∀i,i<4-> ∀j,j<i->xN.getD j noT≠xN.getD i noT:=by decide
theorem v1b{sT:ByteArray}{ho c a b:Int}{i:Nat}(hi:i<4):xof (mkE sT ho c a b) (xN.getD i noT)=some (xpM sT ho c a b i):=
 w9f hi (dt rfl) fun j hj=>df (v1a i hi j hj)
theorem v1c{sT:ByteArray}{ho c a b:Int}{i:Nat}(hi:i<4):xfV (mkE sT ho c a b) (xN.getD i noT) (lN.getD (i % 2) noT)=some (xpM sT ho c a b i):=
 w9f hi (z8k (dt rfl) (dt rfl)) fun j hj=>q4s (.inl (df (v1a i hi j hj)))
theorem j7h{sT:ByteArray}{ho c a b:Int}{k:Nat}(hk:k<2):lof (mkE sT ho c a b) (lN.getD k noT)=some (lyM sT ho (lN.getD k noT)):=by
 show [lyM sT ho (ByteArray.mk (Array.mk [104,111,109,101])),lyM sT ho (ByteArray.mk (Array.mk [115,104,111,112]))].find? _=_
 have:k=0∨k=1:=by omega
 rcases this with rfl|rfl
 ·rw[List.find?_cons,dt (by rfl)];rfl
 ·rw[List.find?_cons,df (by show ¬((ByteArray.mk (Array.mk [104,111,109,101])):ByteArray)=(ByteArray.mk (Array.mk [115,104,111,112]));decide),List.find?_cons,dt (by rfl)];rfl
theorem w2t{c q:Int}{k:Nat}(hk:k<2):ixM c q k<4/\ixM c q k % 2=k:=by unfold ixM;split<;>omega
theorem w9g{sT:ByteArray}{ho c a b:Int}{s:Subj}{i:Nat}(hi:i<4):j3t (mkE sT ho c a b) s (xN.getD i noT)=true:=by
 unfold j3t
 rw[v1b hi]
 show cndV _ s (Ex.mk 1 noT noT [] [])=true
 unfold cndV
 rw[w1y];simp
theorem w2u(id:ByteArray):fnd (usr id) usrN=some (Ctxt.mk usrN id []):=by unfold fnd;rw[List.find?_cons,dt (by rfl)]
theorem v1d{sT:ByteArray}{ho c a b:Int}{s:Subj}{q:Int}{k:Nat}(hk:k<2)(h0:ho<=q)(h1:q<10000):hitV (mkE sT ho c a b) s (lN.getD k noT) q=some (xpM sT ho c a b (ixM c q k)):=by
 obtain⟨i0,i1⟩:=w2t (c:=c) (q:=q) hk
 have lne: ∀i,i<4-> ∀k,k<2->i % 2≠k->lN.getD (i % 2) noT≠lN.getD k noT:=by decide
 refine w9f i0 (z8k (dt ?_) (z8k (dt rfl) (z8k (w2s.2 ?_) (w9g i0)))) fun j hj=> ?_
 ·show lN.getD (ixM c q k % 2) noT=_;rw[i1]
 ·unfold ixM at i0 i1⊢
  split
  ·rename_i hq
   rw[if_neg (by omega)];exact⟨h0,hq⟩
  ·rw[if_pos (by omega)];exact⟨by omega,h1⟩
 ·by_cases hjk:j % 2=k
  ·refine q4s (.inr (q4s (.inr (q4s (.inl ?_)))))
   rw[←Bool.not_eq_true]
   intro hi
   have hi:=(w2s (ho:=ho) (c:=c) (q:=q) (i:=j)).1 hi
   unfold ixM at hj
   split at hj
   ·omega
   ·rw[if_neg (by omega)] at hi;omega
  ·exact q4s (.inl (df (lne j (by omega) k hk hjk)))
def asgM(sT:ByteArray)(ho c a b:Int)(k:Nat)(id:ByteArray):Asg:=
 if ofV (sT++lN.getD k noT) id<ho then Asg.mk (lN.getD k noT) noT (ofV (sT++lN.getD k noT) id) 0 true else
  Asg.mk (lN.getD k noT) (xN.getD (ixM c (ofV (sT++lN.getD k noT) id) k) noT) (ofV (sT++lN.getD k noT) id) (q4g (rgM a b) (ofV (sltX sT (ixM c (ofV (sT++lN.getD k noT) id) k)) id)) false
theorem w6p{sT:ByteArray}{ho c a b:Int}{k:Nat}{id:ByteArray}(hk:k<2)(_:MdB ho c a b):asgV (mkE sT ho c a b) (usr id) [] (lN.getD k noT)=(asgM sT ho c a b k id,0):=by
 obtain⟨r0,r1⟩:=z3a (sT++lN.getD k noT) id
 have hb:bktV (lyM sT ho (lN.getD k noT)) (usr id)=ofV (sT++lN.getD k noT) id:=by
  unfold bktV
  show (match fnd (usr id) usrN with|some c=>ofV (sT++lN.getD k noT) c.2|none=> -1)=_
  rw[w2u]
 have hh:j8l (mkE sT ho c a b) (usr id)=false:=by
  have hf:fnd (usr id) (mkE sT ho c a b).1.2=none:=by
   show fnd (usr id) noT=none
   unfold fnd
   rw[List.find?_cons,df (by show ¬usrN=noT;decide)];rfl
  unfold j8l
  rw[hf]
 have hl:layV (mkE sT ho c a b) (usr id) (lyM sT ho (lN.getD k noT)) [] (lN.getD k noT)=asgM sT ho c a b k id:=by
  unfold layV
  rw[show fcdV (mkE sT ho c a b) [] (lN.getD k noT)=none by simp[fcdV,frcV]]
  dsimp only
  rw[hb,hh]
  rw[show fnd (usr id) (lyM sT ho (lN.getD k noT)).2=some (Ctxt.mk usrN id []) from w2u id,show (lyM sT ho (lN.getD k noT)).4=ho from rfl]
  unfold asgM
  by_cases hq:ofV (sT++lN.getD k noT) id<ho
  ·rw[if_pos hq,if_pos (.inr ⟨rfl,hq⟩)]
  ·rw[if_neg hq,if_neg fun h=>h.elim (fun h=>by cases h) fun h=>hq h.2]
   dsimp only
   rw[v1d hk (by omega) r1]
   rfl
 unfold asgV
 rw[j7h hk]
 dsimp only
 rw[hl]
structure GdS(sT:ByteArray)(ho c a b:Int)(s:Slt)(k:Nat):Prop where
 kk:k<2
 l:s.2=lN.getD k noT
 q:ho<=ofV (sT++s.2) s.1
 x:s.3=xN.getD (ixM c (ofV (sT++s.2) s.1) k) noT
 m:s.4=q4g (rgM a b) (ofV (sltX sT (ixM c (ofV (sT++s.2) s.1) k)) s.1)
theorem j7i{sT:ByteArray}{ho c a b:Int}{k:Nat}{x:Rcd}(hg:GdS sT ho c a b x.3 k)(hld:ldV x.3.1 x.2 x.5 x.1=true):chkR x (mkE sT ho c a b)=if x.4=ofV (sT++x.3.2) x.3.1 then (if x.3.4=q4g (rgM a b) (ofV (sltX sT (ixM c (ofV (sT++x.3.2) x.3.1) k)) x.3.1) then 0 else 23) else 3:=by
 obtain⟨i0,i1⟩:=w2t (c:=c) (q:=ofV (sT++x.3.2) x.3.1) hg.kk
 obtain⟨r0,r1⟩:=z3a (sT++x.3.2) x.3.1
 have hx:xfV (mkE sT ho c a b) x.3.3 x.3.2=some (xpM sT ho c a b (ixM c (ofV (sT++x.3.2) x.3.1) k)):=by
  have:=v1c (sT:=sT) (ho:=ho) (c:=c) (a:=a) (b:=b) i0
  rw[i1,←hg.l,←hg.x] at this;exact this
 have hlo:lof (mkE sT ho c a b) x.3.2=some (lyM sT ho x.3.2):=by rw[hg.l];exact j7h hg.kk
 rw[z7r hld hlo hx]
 show (if x.4=ofV (sT++x.3.2) x.3.1 then (if insV (clM ho c _) x.4=true then (if x.3.4=q4g (rgM a b) (ofV (sltX sT _) x.3.1) then 0 else 23) else 25) else 3)=_
 by_cases h:x.4=ofV (sT++x.3.2) x.3.1
 ·rw[if_pos h,if_pos h,if_pos]
  rw[h]
  refine w2s.2 ?_
  have hq:=hg.q
  have hk:=hg.kk
  revert i0 i1
  unfold ixM
  split
  ·rename_i hq2
   intro i0 i1
   rw[if_neg (by omega)];exact⟨hq,hq2⟩
  ·intro i0 i1
   rw[if_pos (by omega)];exact⟨by omega,r1⟩
 ·rw[if_neg h,if_neg h]
theorem q3m{s:ByteArray}(h:s.size<=32)(k:w2a s)(l:(resW.find? fun y=>decide (y=s)).isNone=true):keyV s=true:=by
 unfold keyV
 rw[dt h,dt k,l];rfl
theorem v1e: ∀k,k<2->keyV (lN.getD k noT)=true:=fun k hk=>by
 have:k=0∨k=1:=by omega
 rcases this with rfl|rfl<;>exact q3m (by decide) (by decide+kernel) (by rw[z3h];decide+kernel)
theorem v25: ∀k,k<4->keyV (xN.getD k noT)=true:=fun k hk=>by
 have:k=0∨k=1∨k=2∨k=3:=by omega
 rcases this with rfl|rfl|rfl|rfl<;>exact q3m (by decide) (by decide+kernel) (by rw[z3h];decide+kernel)
abbrev annN:ByteArray:=(ByteArray.mk (Array.mk [97,110,110]))
theorem j1t:keyV annN=true:=q3m (by decide) (by decide+kernel) (by rw[z3h];decide+kernel)
theorem reg0:RegOk noRg:=⟨by decide,by decide,by decide,by decide,fun k e h=>by simp at h,fun k e h=>by simp at h,fun k e h=>by simp at h⟩
theorem w2v(l:List Lnk)(a:ByteArray):z7p l a a=true:=q4u.2 (Conn.refl _ _)
theorem w5m{K:Bool->Prop}(h:K true):q1g K:=by
 unfold q1g q5k
 refine w2q (by decide) (by decide) (by decide) (by decide) (by decide) (by decide) (by decide) (by decide) ?_
 have hm:MdB (hoOf 0) (cOf 0 9998) (aOf 4000) (bOf 4000 3000):=w2p (by decide) (by decide) (by decide) (by decide)
 have hs:(sTof 0).size<=1000:=by rw[q7v];decide
 show q62 annN _
 unfold envV
 have h0:hoOf 0=0:=by decide
 generalize sTof 0=sT at hs⊢
 generalize hoOf 0=ho at hm h0⊢
 generalize cOf 0 9998=c at hm⊢
 generalize aOf 4000=a at hm⊢
 generalize bOf 4000 3000=b at hm⊢
 have hv:=j38 (ho:=ho) (c:=c) (a:=a) (b:=b) hs
 obtain⟨r0,r1⟩:=z3a (sT++lN.getD 0 noT) annN
 refine q7s (v:=mkE sT ho c a b) (s:=usr annN) (key:=lN.getD 0 noT) hv (j7g (by decide)) (by decide) ?_
 rw[w6p (by decide) hm]
 have ha:asgM sT ho c a b 0 annN=Asg.mk (lN.getD 0 noT) (xN.getD (ixM c (ofV (sT++lN.getD 0 noT) annN) 0) noT) (ofV (sT++lN.getD 0 noT) annN) (q4g (rgM a b) (ofV (sltX sT (ixM c (ofV (sT++lN.getD 0 noT) annN) 0)) annN)) false:=by
  unfold asgM;rw[if_neg (by omega)]
 obtain⟨i0,i1⟩:=w2t (c:=c) (q:=ofV (sT++lN.getD 0 noT) annN) (k:=0) (by decide)
 have kx:=v25 _ i0
 obtain⟨p0,p1⟩:=w9e (a:=a) (b:=b) (z3a (sltX sT (ixM c (ofV (sT++lN.getD 0 noT) annN) 0)) annN).1 (z3a _ _).2
 rw[ha]
 have hg:GdS sT ho c a b (Slt.mk annN (lN.getD 0 noT) (xN.getD (ixM c (ofV (sT++lN.getD 0 noT) annN) 0) noT) (q4g (rgM a b) (ofV (sltX sT (ixM c (ofV (sT++lN.getD 0 noT) annN) 0)) annN)) 1 0 0) 0:=⟨by decide,rfl,by show ho<=ofV (sT++lN.getD 0 noT) annN;omega,rfl,rfl⟩
 generalize hq:ofV (sT++lN.getD 0 noT) annN=q at*
 generalize ha2:q4g (rgM a b) (ofV (sltX sT (ixM c q 0)) annN)=ar at*
 generalize xN.getD (ixM c q 0) noT=xk at*
 have hr1:RegOk (Reg.mk 1 [] [Slt.mk annN (lN.getD 0 noT) xk ar 1 0 0]):=⟨by show (0:Int)<=1;decide,by show (1:Int)<=1099511627776;decide,by show 0<=64;decide,by show 1<=128;decide,fun k e h=>by simp at h,fun k s hs=>by
  cases k with
  |zero=>cases hs;exact⟨⟨j1t,v1e 0 (by decide),kx,p0,by show ar<=8;omega,by show (0:Int)<=1;decide,by show (1:Int)<=1;decide,.inl ⟨rfl,rfl⟩⟩,fun p hp=>by cases hp⟩
  |succ k=>simp at hs,fun k s hs m t hm ht=>by
  cases k with
  |zero=>omega
  |succ k=>simp at hs⟩
 have hA:asnV noRg annN (Asg.mk (lN.getD 0 noT) xk q ar false) 0 1=(Reg.mk 1 [] [Slt.mk annN (lN.getD 0 noT) xk ar 1 0 0],Slt.mk annN (lN.getD 0 noT) xk ar 1 0 0,0):=by
  unfold asnV
  rw[if_pos (q8l.2 ⟨reg0,by decide,by decide⟩),if_neg (by decide),if_pos (by rw[j1t,v1e 0 (by decide)];rfl),z7w rfl,if_neg,if_neg,if_neg (by decide)]
  ·rfl
  ·show ¬false=true;decide
  ·rintro (e|e|e|e)
   ·cases e
   ·exact e kx
   ·have e:ar<1:=e;omega
   ·have e:8<ar:=e;omega
 refine j37 (r:=noRg) (by decide) ?_
 rw[hA]
 have hat:atV (Reg.mk 1 [] [Slt.mk annN (lN.getD 0 noT) xk ar 1 0 0]) annN (lN.getD 0 noT) 1=some (Slt.mk annN (lN.getD 0 noT) xk ar 1 0 0):=by
  unfold atV
  rw[List.find?_cons,show atP _ annN (lN.getD 0 noT) 1 (Slt.mk annN (lN.getD 0 noT) xk ar 1 0 0)=true by unfold atP;rw[dt rfl,dt (by show (1:Int)<=1;decide),dt rfl,w2v];rfl]
 refine z9t (r:=Reg.mk 1 [] [Slt.mk annN (lN.getD 0 noT) xk ar 1 0 0]) (v:=mkE sT ho c a b) (id:=annN) (key:=lN.getD 0 noT) (t:=1) hv ?_
 have hE:=z7s (v:=mkE sT ho c a b) (z1y.2 hr1) hat (j7h (by decide))
 rw[hE]
 have hb:ofV (lyM sT ho (lN.getD 0 noT)).3 annN=q:=hq
 generalize hp:(z7q (q26 (Reg.mk 1 [] [Slt.mk annN (lN.getD 0 noT) xk ar 1 0 0]).2 1) annN annN).1=p
 have hpn:p=[]:=by
  have:=j35 (l:=q26 (Reg.mk 1 [] [Slt.mk annN (lN.getD 0 noT) xk ar 1 0 0]).2 1) (a:=annN) (b:=annN)
  rw[hp] at this
  exact List.eq_nil_of_length_eq_zero (by simpa [q26] using this)
 subst hpn
 dsimp only
 rw[hb]
 have hld:ldV annN 1 [] annN=true:=by unfold ldV;exact dt rfl
 have c1:chkV (Rcd.mk annN 1 (Slt.mk annN (lN.getD 0 noT) xk ar 1 0 0) q []) (mkE sT ho c a b)=0:=by
  rw[z1z (by rw[j1t];rfl) (fun e=>e.elim (fun e=>absurd (show (1:Int)<1 from e) (by decide)) fun e=>e.1 rfl),j7i hg hld,if_pos hq.symm,if_pos]
  show ar=q4g (rgM a b) (ofV (sltX sT (ixM c (ofV (sT++lN.getD 0 noT) annN) 0)) annN)
  rw[hq];exact ha2.symm
 have c2:chkV (Rcd.mk annN 1 (Slt.mk annN (lN.getD 0 noT) xk ar 1 0 0) ((q+1).tmod 10000) []) (mkE sT ho c a b)=3:=by
  rw[z1z (by rw[j1t];rfl) (fun e=>e.elim (fun e=>absurd (show (1:Int)<1 from e) (by decide)) fun e=>e.1 rfl),j7i hg hld,if_neg]
  show ¬(q+1).tmod 10000=ofV (sT++lN.getD 0 noT) annN
  rw[hq,Int.tmod_eq_emod_of_nonneg (by omega)];omega
 refine⟨by unfold InI;omega,by decide,Cnd.mk (fun _=>Cnd.mk (fun _=>Cnd.mk (fun _=>Cnd.mk (fun _=>Cnd.mk (fun _=>Cnd.mk (fun _=>Cnd.mk (fun _=>j1p (v:=mkE sT ho c a b) hv (Nat.zero_le _) ?_) fun e=>absurd rfl e) fun e=>absurd rfl e) fun e=>absurd rfl e) fun e=>absurd (show 0<ar by omega) e) fun e=>absurd rfl e) fun e=>absurd rfl e) fun e=>absurd rfl e⟩
 rw[c1]
 refine Cnd.mk (fun _=>j1p (v:=mkE sT ho c a b) hv (Nat.zero_le _) ?_) fun e=>absurd rfl e
 rw[c2];exact h
structure AEB(x:AEnv):Prop where
 h:0<=x.2/\x.2<=1000000
 c:0<=x.3/\x.3<=1000000
 a:0<=x.4/\x.4<=1000000
 b:0<=x.5/\x.5<=1000000
def envX(x:AEnv):Envt:=envV x.1 x.2 x.3 x.4 x.5
theorem w5n(x:AEnv):AsB (envX x):=j38 (by rw[q7v];decide)
theorem w2w{x:AEnv}{K:Envt->Prop}(hx:AEB x)(h:K (envX x)):Wc x K:=by
 unfold Wc Uh
 exact w2q hx.h.1 hx.h.2 hx.c.1 hx.c.2 hx.a.1 hx.a.2 hx.b.1 hx.b.2 h
end Go.En
end
noncomputable section
set_option maxRecDepth 100000
namespace Go.En
open Go Go.Fl Go.Fl.Lk Go.Fx
abbrev idN:List ByteArray:=[(ByteArray.mk (Array.mk [97,110,110])),(ByteArray.mk (Array.mk [98,111,98])),(ByteArray.mk (Array.mk [99,97,116])),(ByteArray.mk (Array.mk [100,97,110])),(ByteArray.mk (Array.mk [101,118,101])),(ByteArray.mk (Array.mk [102,97,121]))]
theorem w9h{i:ByteArray}(h:i∈idN):i=idN.getD 0 noT∨i=idN.getD 1 noT∨i=idN.getD 2 noT∨i=idN.getD 3 noT∨i=idN.getD 4 noT∨i=idN.getD 5 noT:=by
 rcases List.mem_cons.1 h with h|h
 ·exact .inl h
 rcases List.mem_cons.1 h with h|h
 ·exact .inr (.inl h)
 rcases List.mem_cons.1 h with h|h
 ·exact .inr (.inr (.inl h))
 rcases List.mem_cons.1 h with h|h
 ·exact .inr (.inr (.inr (.inl h)))
 rcases List.mem_cons.1 h with h|h
 ·exact .inr (.inr (.inr (.inr (.inl h))))
 ·exact .inr (.inr (.inr (.inr (.inr (List.mem_singleton.1 h)))))
theorem w6q{i:ByteArray}(h:i∈idN):keyV i=true:=by
 rcases w9h h with rfl|rfl|rfl|rfl|rfl|rfl<;>exact q3m (by decide) (by decide+kernel) (by rw[z3h];decide+kernel)
theorem j8p{n:Int}{K:ByteArray->Prop}(h0:0<=n)(h: ∀y∈idN,K y):z2r n K:=by
 unfold z2r j41
 show (_->_)
 intro _
 have h1:=Int.tmod_nonneg 6 h0
 have h2:=Int.tmod_lt_of_pos n (b:=6) (by decide)
 refine⟨by decide,⟨h1,h2⟩,fun y hy=>h y (List.mem_of_getElem? hy)⟩
structure SmS(s t:Slt):Prop where
 i:s.1=t.1
 l:s.2=t.2
 x:s.3=t.3
 a:s.4=t.4
structure Sms(l k:List Slt):Prop where
 n:l.length=k.length
 s: ∀s∈l,∃t∈k,SmS s t
theorem Sms.refl(l:List Slt):Sms l l:=⟨rfl,fun s h=>⟨s,h,rfl,rfl,rfl,rfl⟩⟩
theorem Sms.set{l k:List Slt}(h:Sms l k){i:Nat}{y z:Slt}(hy:l[i]? =some y)(hz:SmS z y):Sms (l.set i z) k:=
 ⟨by rw[List.length_set];exact h.n,fun s hs=>by
  rcases List.mem_or_eq_of_mem_set hs with hs|rfl
  ·exact h.s s hs
  ·obtain⟨t,ht,e⟩:=h.s y (List.mem_of_getElem? hy)
   exact⟨t,ht,hz.i.trans e.i,hz.l.trans e.l,hz.x.trans e.x,hz.a.trans e.a⟩⟩
theorem Sms.set2{l k:List Slt}(h:Sms l k){i:Nat}{y z u w:Slt}(hy:l[i]? =some y)(hz:SmS z y)(hu:(l.set i z)[i]? =some u)(hw:SmS w u):Sms ((l.set i z).set i w) k:=(h.set hy hz).set hu hw
theorem w9i{r:Reg}{x:ByteArray}{now:Int}{K:Reg->Int->Int->Prop}(h1: ∀c ls,Sms ls r.3->K (Reg.mk now r.2 ls) c 0)(h2: ∀e,e≠0->K noRg 0 e):q1j r x now K:=by
 unfold q1j q5t
 refine j1q (Cnd.mk (fun c=> ?_) fun c=>h2 _ c)
 have ok:=(q8l.1 c).ok
 have hln:=ok.ln
 have hsn:=ok.sn
 refine Jg (Cnd.mk (fun _=> ?_) fun _=>h2 _ (by decide))
 refine z7t (by omega) (z7u (by omega) fun _=> ?_)
 refine Lp3.ind (fun (n i:Int) ls=>0<=n/\n<=i/\0<=i/\i<=(r.3.length:Int)/\Sms ls r.3) (fun _ (i:Int) _=>((r.3.length:Int) - i).toNat) ?_ ⟨by decide,by decide,by decide,by omega,Sms.refl _⟩
 rintro n i ls ⟨n0,n1,i0,i1,hs⟩
 have hn:=hs.n
 have nx:i<r.3.length->InI (i+1)/\(0<=n/\n<=i+1/\0<=i+1/\i+1<=r.3.length/\Sms ls r.3)/\((r.3.length:Int) - (i+1)).toNat<((r.3.length:Int) - i).toNat:=fun hi=>⟨by unfold InI;omega,⟨n0,by omega,by omega,by omega,hs⟩,by omega⟩
 refine Cnd.mk (fun hc=>⟨by omega,fun y _=>Cnd.mk (fun _=>fun y2 _=>Cnd.mk (fun _=>fun y3 h3 y4 h4=>⟨by unfold InI;omega,by unfold InI;omega,⟨by omega,by omega,by omega,by omega,?_⟩,by omega⟩) fun _=>nx hc) fun _=>nx hc⟩) fun hc=>h1 _ _ hs
 exact hs.set2 h3 ⟨rfl,rfl,rfl,rfl⟩ h4 ⟨rfl,rfl,rfl,rfl⟩
theorem w5o{r:Reg}{a b:ByteArray}{now:Int}{K:Reg->List Slt->Int->Prop}(h1: ∀ks ls us,ks=r.2∨ks=r.2++[Lnk.mk a b now]->Sms ls r.3->K (Reg.mk now ks ls) us 0)(h2: ∀e,e≠0->K noRg [] e):B3 r a b now K:=by
 unfold B3 q35
 refine j1q (Cnd.mk (fun c=> ?_) fun c=>h2 _ c)
 have ok:=(q8l.1 c).ok
 have hln:=ok.ln
 have hsn:=ok.sn
 refine Jg (Cnd.mk (fun _=> ?_) fun _=>h2 _ (by decide))
 refine Jg (Cnd.mk (fun _=> ?_) fun _=>h2 _ (by decide))
 refine Cnd.mk (fun _=>h2 _ (by decide)) fun _=> ?_
 refine z7t (by omega) (z7u (by omega) (w2g (by omega) (Cnd.mk (fun _=>h1 _ _ _ (.inl rfl) (Sms.refl _)) fun _=>fun _=>Cnd.mk (fun _=>h2 _ (by decide)) fun _=>⟨by unfold Sml;simp;omega,q4h (by simp;omega) fun _=> ?_⟩)))
 refine LpH.ind (fun x=>(0:Int)<=x.2.1/\x.2.1<=(r.3.length:Int)/\(x.1.length:Int)<=x.2.1/\x.2.2.2.1=r.2++[Lnk.mk a b now]/\Sms x.2.2.2.2.2.1 r.3) (fun x=>((r.3.length:Int) - (x.2.1:Int)).toNat) ?_ ⟨by show (0:Int)<=0;decide,by show (0:Int)<=(r.3.length:Int);omega,by show (0:Int)<=0;decide,rfl,Sms.refl _⟩
 rintro⟨us,i,F,ks,k2,ls,u⟩ ⟨i0,i1,hu,hk,hs⟩
 dsimp only at i0 i1 hu hk hs⊢
 subst hk
 have hn:=hs.n
 have nx: ∀(us':List Slt) (ls':List Slt),i<r.3.length->(us'.length:Int)<=i+1->Sms ls' r.3->InI (i+1)/\(0<=i+1/\i+1<=r.3.length/\(us'.length:Int)<=i+1/\r.2++[Lnk.mk a b now]=r.2++[Lnk.mk a b now]/\Sms ls' r.3)/\((r.3.length:Int) - (i+1)).toNat<((r.3.length:Int) - i).toNat:=fun us' ls' hi hu' hs'=>⟨by unfold InI;omega,⟨by omega,by omega,hu',rfl,hs'⟩,by omega⟩
 refine Cnd.mk (fun hc=>⟨by omega,fun y _=>Cnd.mk (fun _=>fun y2 _=>q4h (by simp;omega) (Cnd.mk (fun _=> ?_) fun _=>nx us ls hc (by omega) hs)) fun _=>nx us ls hc (by omega) hs⟩) fun hc=>h1 _ _ _ (.inr rfl) hs
 refine Jn4.mk (fun us' ks' ls' k2'=>(us'.length:Int)<=i+1/\ks'=r.2++[Lnk.mk a b now]/\Sms ls' r.3) ?_ ?_
 ·intro y3 h3
  refine Cnd.mk (fun _=>fun y4 h4 y5 h5 y6 h6=>⟨by unfold Sml;simp;omega,by simp;omega,rfl,?_⟩) fun _=>⟨by omega,rfl,hs⟩
  exact hs.set2 h4 ⟨rfl,rfl,rfl,rfl⟩ h5 ⟨rfl,rfl,rfl,rfl⟩
 ·rintro us' ks' ls' k2' ⟨g1,rfl,g3⟩ y7 _
  exact nx us' ls' hc g1 g3
end Go.En
end
noncomputable section
set_option maxRecDepth 100000
namespace Go.En
open Go Go.Fl Go.Fl.Lk Go.Fx
theorem SmS.gd{sT:ByteArray}{ho c a b:Int}{s t:Slt}{k:Nat}(h:SmS s t)(g:GdS sT ho c a b t k):GdS sT ho c a b s k:=by
 obtain⟨e1,e2,e3,e4⟩:=h
 refine⟨g.kk,e2.trans g.l,?_,?_,?_⟩
 ·rw[e1,e2];exact g.q
 ·rw[e1,e2,e3];exact g.x
 ·rw[e1,e2,e4];exact g.m
structure PlB(sT:ByteArray)(ho c a b:Int)(n:Int)(r:Reg):Prop where
 t0:0<=r.1
 t1:r.1<=3*n
 ln:(r.2.length:Int)<=n
 sn:(r.3.length:Int)<=n
 sl: ∀s∈r.3,(∃k,GdS sT ho c a b s k)/\s.1∈idN
theorem PlB.up{sT:ByteArray}{ho c a b n:Int}{r:Reg}(h:PlB sT ho c a b n r):PlB sT ho c a b (n+1) r:=
 ⟨h.t0,by have:=h.t1;omega,by have:=h.ln;omega,by have:=h.sn;omega,h.sl⟩
theorem PlB.sms{sT:ByteArray}{ho c a b n now:Int}{r:Reg}{ks:List Lnk}{ls:List Slt}(h:PlB sT ho c a b n r)(h0:r.1<=now)(h1:now<=r.1+3)(hk:ks.length<=r.2.length+1)(hs:Sms ls r.3):PlB sT ho c a b (n+1) (Reg.mk now ks ls) where
 t0:=by have:=h.t0;show 0<=now;omega
 t1:=by have:=h.t1;show now<=_;omega
 ln:=by have:=h.ln;show (ks.length:Int)<=_;omega
 sn:=by have:=h.sn;have:=hs.n;show (ls.length:Int)<=_;omega
 sl s hm:=by
  obtain⟨t,ht,e⟩:=hs.s s hm
  obtain⟨⟨k,g⟩,hi⟩:=h.sl t ht
  exact⟨⟨k,e.gd g⟩,by rw[e.i];exact hi⟩
theorem PlB.new{sT:ByteArray}{ho c a b n now:Int}{r:Reg}{s:Slt}{k:Nat}(h:PlB sT ho c a b n r)(h0:r.1<=now)(h1:now<=r.1+3)(hg:GdS sT ho c a b s k)(hi:s.1∈idN):PlB sT ho c a b (n+1) (Reg.mk now r.2 (r.3++[s])) where
 t0:=by have:=h.t0;show 0<=now;omega
 t1:=by have:=h.t1;show now<=_;omega
 ln:=by have:=h.ln;show (r.2.length:Int)<=_;omega
 sn:=by have:=h.sn;show ((r.3++[s]).length:Int)<=_;simp;omega
 sl t ht:=by
  rcases List.mem_append.1 ht with ht|ht
  ·exact h.sl t ht
  ·rw[List.mem_singleton.1 ht];exact⟨⟨k,hg⟩,hi⟩
theorem w2x{r:Reg}{id:ByteArray}{a:Asg}{cool now:Int}(h:(asnV r id a cool now).2.2=0):(asnV r id a cool now).1=Reg.mk now r.2 r.3∨ ¬badA a/\(asnV r id a cool now).1=Reg.mk now r.2 (r.3++[j5v id a now]):=by
 unfold asnV at h⊢
 split at h
 ·rename_i c1
  rw[if_pos c1]
  split at h
  ·cases h
  ·rename_i c2
   rw[if_neg c2]
   split at h
   ·rename_i c3
    rw[if_pos c3]
    cases hc:curV r id a.1 with
    |some s=>rw[j36 hc];exact .inl rfl
    |none=>
     rw[z7w hc] at h⊢
     split at h
     ·cases h
     ·rename_i c4
      rw[if_neg c4]
      split at h
      ·cases h
      ·rename_i c5
       rw[if_neg c5]
       split at h
       ·cases h
       ·rename_i c6
        rw[if_neg c6];exact .inr ⟨c4,rfl⟩
   ·cases h
 ·rename_i c1
  exact absurd h c1
theorem v1f{sT:ByteArray}{ho c a b now:Int}{k:Nat}{id:ByteArray}(hk:k<2)(h: ¬badA (asgM sT ho c a b k id)):GdS sT ho c a b (j5v id (asgM sT ho c a b k id) now) k:=by
 by_cases hq:ofV (sT++lN.getD k noT) id<ho
 ·exact absurd (.inl (by unfold asgM;rw[if_pos hq])) h
 ·unfold asgM
  rw[if_neg hq]
  exact⟨hk,rfl,by show ho<=ofV (sT++lN.getD k noT) id;omega,rfl,rfl⟩
structure MvB(m:Mov):Prop where
 k:0<=m.1/\m.1<=1000
 i:0<=m.2/\m.2<=1000
 o:0<=m.3/\m.3<=1000
 l:0<=m.4/\m.4<=1000
 a:0<=m.5/\m.5<=1000
theorem w9j{sT:ByteArray}{ho c a b:Int}(hs:sT.size<=1000)(hm:MdB ho c a b){l:List Mov}(hl:l.length<=1000)(hb: ∀m∈l,MvB m){K:Reg->Prop}(h: ∀r,PlB sT ho c a b l.length r->K r):q3g (mkE sT ho c a b) l K:=by
 unfold q3g q68
 have hv:=j38 (ho:=ho) (c:=c) (a:=a) (b:=b) hs
 refine Lp4.ind (fun (i t:Int) ks ls=>0<=i/\i<=(l.length:Int)/\PlB sT ho c a b i (Reg.mk t ks ls)) (fun (i _:Int) _ _=>((l.length:Int) - i).toNat) ?_ ⟨by decide,by omega,⟨by show (0:Int)<=0;decide,by show (0:Int)<=0;decide,by show (0:Int)<=0;decide,by show (0:Int)<=0;decide,fun s hs=>by cases hs⟩⟩
 rintro i t ks ls ⟨i0,i1,hp⟩ _
 refine Cnd.mk (fun hc=>⟨by omega,fun y hy=> ?_⟩) fun hc=>h _ (by rw[show i=(l.length:Int) by omega] at hp;exact hp)
 have hy:=hb y (List.mem_of_getElem? hy)
 have t0:0<=t:=hp.t0
 have t1:t<=3*i:=hp.t1
 obtain⟨y50,y51⟩:=hy.a
 obtain⟨y30,y31⟩:=hy.o
 obtain⟨y40,y41⟩:=hy.l
 have d0:=Int.tmod_nonneg 4 y50
 have d1:=Int.tmod_lt_of_pos y.5 (b:=4) (by decide)
 refine⟨by unfold InI;omega,by decide,by unfold InI;omega,by have:=hy.i;unfold InI;omega,j8p hy.i.1 fun id hid=> ?_⟩
 refine Jn4.mk (fun e t' ks' ls'=>e=0->PlB sT ho c a b (i+1) (Reg.mk t' ks' ls')) ?_ ?_
 ·refine⟨by decide,?_⟩
  refine Jn1.mk (fun _=>True) ?_ fun o _=> ?_
  ·exact Cnd.mk (fun _=>trivial) fun _=>Cnd.mk (fun _=>trivial) fun _=>Cnd.mk (fun _=>trivial) fun _=>trivial
  refine Cnd.mk (fun _=>⟨by decide,?_⟩) fun _=>Cnd.mk (fun _=>⟨by decide,?_⟩) fun _=>⟨by unfold InI;omega,j8p y30 fun id2 _=> ?_⟩
  ·show q62 id _
   have l0:=Int.tmod_nonneg 2 y40
   have l1:=Int.tmod_lt_of_pos y.4 (b:=2) (by decide)
   refine⟨⟨l0,l1⟩,fun key hkey=> ?_⟩
   have hkey:=(z7x hkey).symm
   have hk2:(y.4.tmod 2).toNat<2:=by omega
   generalize (y.4.tmod 2).toNat=k at hkey hk2
   subst hkey
   refine q7s (v:=mkE sT ho c a b) (s:=usr id) (key:=lN.getD k noT) hv (j7g (Nat.le_trans (z7o (w6q hid)) (by decide))) (by decide) ?_
   rw[w6p hk2 hm]
   have o1:=Int.tmod_lt_of_pos y.3 (b:=3) (by decide)
   refine⟨by unfold InI;omega,by decide,j37 (r:=Reg.mk t ks ls) (by omega) fun he=> ?_⟩
   rcases w2x he with e|⟨e1,e⟩
   ·rw[e];exact hp.sms (now:=t+y.5.tmod 4) (ks:=ks) (ls:=ls) (by show t<=_;omega) (by show _<=t+3;omega) (by show ks.length<=ks.length+1;omega) (Sms.refl _)
   ·rw[e];exact hp.new (now:=t+y.5.tmod 4) (s:=j5v id (asgM sT ho c a b k id) (t+y.5.tmod 4)) (by show t<=_;omega) (by show _<=t+3;omega) (v1f hk2 e1) hid
  ·have o0:=Int.tmod_nonneg 4 y30
   have o1:=Int.tmod_lt_of_pos y.3 (b:=4) (by decide)
   refine⟨⟨o0,o1⟩,fun x _=>w9i (r:=Reg.mk t ks ls) (fun n ls' hs' _=> ?_) fun e he h0=>absurd h0 he⟩
   exact hp.sms (now:=t+y.5.tmod 4) (ks:=ks) (ls:=ls') (by show t<=_;omega) (by show _<=t+3;omega) (by show ks.length<=ks.length+1;omega) hs'
  ·refine w5o (r:=Reg.mk t ks ls) (fun ks' ls' us hk hs' _=> ?_) fun e he h0=>absurd h0 he
   refine hp.sms (now:=t+y.5.tmod 4) (ks:=ks') (ls:=ls') (by show t<=_;omega) (by show _<=t+3;omega) ?_ hs'
   rcases hk with rfl|rfl
   ·exact Nat.le_succ _
   ·show (ks++_).length<=_;simp
 ·intro e t' ks' ls' hq
  refine Cnd.mk (fun he=>⟨by unfold InI;omega,⟨by omega,by omega,hq he⟩,by omega⟩) fun _=>⟨by unfold InI;omega,⟨by omega,by omega,hp.up⟩,by omega⟩
end Go.En
end
noncomputable section
set_option maxRecDepth 100000
namespace Go.En
open Go Go.Fl Go.Fl.Lk Go.Fx
structure AtIs(r:Reg)(id layer:ByteArray)(t:Int)(s:Slt):Prop where
 m:s∈r.3
 l:s.2=layer
 f:s.5<=t
 e:s.7=0∨t<s.6
 c:Conn (tup (q26 r.2 t)) id s.1
theorem v1g{r:Reg}{id layer:ByteArray}{t:Int}{s:Slt}(h:atV r id layer t=some s):AtIs r id layer t s:=by
 have hp:=List.find?_some h
 unfold atP at hp
 simp only[Bool.and_eq_true,Bool.or_eq_true,decide_eq_true_eq] at hp
 exact⟨w2o h,hp.1,hp.2.1,hp.2.2.1,(q4u.1 hp.2.2.2).symm⟩
theorem v1h{sT:ByteArray}{ho c a b:Int}{key:ByteArray}{n:Nat}(h:lN[n]? =some key):lof (mkE sT ho c a b) key=some (lyM sT ho key):=by
 have hn:n<2:=by
  rcases Nat.lt_or_ge n 2 with h2|h2
  ·exact h2
  ·rw[List.getElem?_eq_none (by simpa using h2)] at h;cases h
 rw[←z7x h];exact j7h hn
end Go.En
end
noncomputable section
set_option maxRecDepth 100000
namespace Go.En
open Go Go.Fl Go.Fl.Lk Go.Fx
structure RecOf(sT:ByteArray)(r:Reg)(t:Int)(z:Rcd)(id layer:ByteArray)(s:Slt):Prop where
 i:id∈idN
 h:AtIs r id layer t s
 e:z=Rcd.mk id t s (ofV (sT++s.2) s.1) (z7q (q26 r.2 t) id s.1).1
theorem j8q{sT:ByteArray}{ho c a b t:Int}{r:Reg}(hs:sT.size<=1000){K:List Rcd->Prop}(h: ∀l,l.length<=12->(∀z∈l,∃id layer s,RecOf sT r t z id layer s)->K l):R1 r (mkE sT ho c a b) t K:=by
 unfold R1 q2s
 have hv:=j38 (ho:=ho) (c:=c) (a:=a) (b:=b) hs
 refine Lp2.ind (fun l (i:Int)=>0<=i/\i<=12/\(l.length:Int)<=i/\ ∀z∈l,∃id layer s,RecOf sT r t z id layer s) (fun _ (i:Int)=>(12 - i).toNat) ?_ ⟨by decide,by decide,by decide,fun z hz=>by cases hz⟩
 rintro l i ⟨i0,i1,hl,hq⟩
 refine Cnd.mk (fun hi=> ?_) fun hi=>h _ (by omega) hq
 have q0:=Int.tdiv_nonneg i0 (show (0:Int)<=2 by decide)
 have q1:i.tdiv 2<=i:=by rw[Int.tdiv_eq_ediv_of_nonneg i0];omega
 have m0:=Int.tmod_nonneg 2 i0
 have m1:=Int.tmod_lt_of_pos i (b:=2) (by decide)
 refine⟨by decide,by unfold InI;omega,by decide,j8p q0 fun id hid=>⟨⟨m0,m1⟩,fun key hkey=> ?_⟩⟩
 have nx:InI (i+1)/\(0<=i+1/\i+1<=12/\(l.length:Int)<=i+1/\ ∀z∈l,∃id layer s,RecOf sT r t z id layer s)/\(12 - (i+1)).toNat<(12 - i).toNat:=⟨by unfold InI;omega,⟨by omega,by omega,by omega,hq⟩,by omega⟩
 refine z9t (r:=r) (v:=mkE sT ho c a b) (id:=id) (key:=key) (t:=t) hv ?_
 by_cases hr:regV r=true
 ·have hlo:=v1h (sT:=sT) (ho:=ho) (c:=c) (a:=a) (b:=b) hkey
  cases ha:atV r id key t with
  |none=>rw[j5u hr (.inl ha)];exact Cnd.mk (fun e=>by cases e) fun _=>nx
  |some s=>
   rw[z7s hr ha hlo]
   have hat:=v1g ha
   refine Cnd.mk (fun _=>⟨by unfold Sml;simp;omega,by unfold InI;omega,⟨by omega,by omega,by simp;omega,fun z hz=> ?_⟩,by omega⟩) fun e=>absurd rfl e
   rcases List.mem_append.1 hz with hz|hz
   ·exact hq z hz
   ·rw[List.mem_singleton.1 hz]
    exact⟨id,key,s,hid,hat,by show Rcd.mk id t s (ofV (sT++key) s.1) _=_;rw[hat.l]⟩
 ·rw[j7f hr]
  exact Cnd.mk (fun e=>by cases e) fun _=>nx
end Go.En
end
noncomputable section
set_option maxRecDepth 100000
namespace Go.En
open Go Go.Fl Go.Fl.Lk Go.Fx
theorem w9k{K:List ByteArray->Prop}(h: ∀l:List ByteArray,l.length=4->K l):Hh K:=h _ rfl
theorem w2y{n:Int}(h:0<=n)(h2:n<=255):Go.IntKind.u8.wrap n=n:=by
 have:n=0∨0<n:=by omega
 unfold Go.IntKind.wrap
 simp[Go.IntKind.bits,Go.IntKind.signed]
 omega
theorem j7j{i:ByteArray}(h:i∈idN):i.size<=1000000:=Nat.le_trans (z7o (w6q h)) (by decide)
theorem z8o{x other:AEnv}{l:List Mov}{time which field n:Int}{s:ByteArray}(hx:AEB x)(ho':AEB other)(hb: ∀m∈l,MvB m)(h1:0<=time/\time<=255)(h2:0<=which/\which<=255){K:Bool->Prop}(h:K true):Zz x other l time which field n s K:=by
 unfold Zz Hx
 refine w5m (Cnd.mk (fun _=>fun _=>Cnd.mk (fun _=>h) fun hl=>Cnd.mk (fun _=>h) fun hsz=>w2w hx ?_) fun e=>absurd rfl e)
 have hs:(sTof x.1).size<=1000:=by rw[q7v];decide
 have hm:MdB (hoOf x.2) (cOf x.2 x.3) (aOf x.4) (bOf x.4 x.5):=w2p hx.h.1 hx.c.1 hx.a.1 hx.b.1
 unfold envX envV
 generalize sTof x.1=sT at hs⊢
 generalize hoOf x.2=ho at hm⊢
 generalize cOf x.2 x.3=c at hm⊢
 generalize aOf x.4=a at hm⊢
 generalize bOf x.4 x.5=b at hm⊢
 have hv:=j38 (ho:=ho) (c:=c) (a:=a) (b:=b) hs
 refine w9j (l:=l) hs hm (by omega) hb fun r hp=> ?_
 have t0:=hp.t0
 have t1:=hp.t1
 refine⟨by unfold InI;omega,by unfold InI;omega,by omega,j8q (t:=time.tmod (r.1+1)) hs fun all hal hall _=> ?_⟩
 refine Cnd.mk (fun _=>h) fun hne=>⟨by unfold InI;omega,fun _=>⟨hne,⟨Int.tmod_nonneg _ h2.1,Int.tmod_lt_of_pos _ (by omega)⟩,fun z hz=> ?_⟩⟩
 obtain⟨id,key,sl,hid,hat,rfl⟩:=hall z (List.mem_of_getElem? hz)
 have tm0:=Int.tmod_nonneg (r.1+1) h1.1
 have tm1:=Int.tmod_lt_of_pos time (b:=r.1+1) (by omega)
 generalize time.tmod (r.1+1)=t at hat tm0 tm1
 obtain⟨⟨k,g⟩,hi2⟩:=hp.sl sl hat.m
 obtain⟨r0,r1⟩:=z3a (sT++sl.2) sl.1
 have hpl:=j35 (l:=q26 r.2 t) (a:=id) (b:=sl.1)
 have hul:=z1w r.2 t
 have hln:=hp.ln
 dsimp only
 generalize (z7q (q26 r.2 t) id sl.1).1=p at hpl⊢
 generalize ofV (sT++sl.2) sl.1=q at r0 r1⊢
 have hpl:p.length<=900:=by omega
 have hp2:p.length<=1000:=by omega
 have li:=j7j hid
 have ls:=j7j hi2
 have lt:s.size<=1000000:=by omega
 have d16:which.tdiv 16<=255/\0<=which.tdiv 16:=by rw[Int.tdiv_eq_ediv_of_nonneg h2.1];omega
 have d128:which.tdiv 128<=1/\0<=which.tdiv 128:=by rw[Int.tdiv_eq_ediv_of_nonneg h2.1];omega
 have d64:which.tdiv 64<=3/\0<=which.tdiv 64:=by rw[Int.tdiv_eq_ediv_of_nonneg h2.1];omega
 have w2:=Int.tmod_nonneg 2 h2.1
 have w3:=Int.tmod_lt_of_pos which (b:=2) (by decide)
 have u16:=w8p (which.tdiv 16)
 have iu:InI (Go.IntKind.u8.wrap (which.tdiv 16)):=by unfold InI;omega
 refine⟨by unfold Sml;simp;omega,?_⟩
 refine Jn1.mk (fun y=>y.1.size<=1000000/\y.2.2.1.size<=1000000/\y.2.2.2.2.2.2.2.2.2.2.1.length<=1000/\AsB (Envt.mk (Sett.mk y.2.2.2.2.2.2.2.2.2.2.2.1 y.2.2.2.2.2.2.2.2.2.2.2.2.1 y.2.2.2.2.2.2.2.2.2.2.2.2.2.1) y.2.2.2.2.2.2.2.2.2.2.2.2.2.2.1 y.2.2.2.2.2.2.2.2.2.2.2.2.2.2.2.1 y.2.2.2.2.2.2.2.2.2.2.2.2.2.2.2.2.1 y.2.2.2.2.2.2.2.2.2.2.2.2.2.2.2.2.2.1 y.2.2.2.2.2.2.2.2.2.2.2.2.2.2.2.2.2.2.1)) ?_ ?_
 ·refine⟨by decide,?_⟩
  refine Cnd.mk (fun _=>⟨lt,ls,hp2,hv⟩) fun _=> ?_
  refine Cnd.mk (fun _=>⟨by decide,iu,j8p u16.1 fun i hi=>⟨j7j hi,ls,hp2,hv⟩⟩) fun _=> ?_
  refine Cnd.mk (fun _=>⟨li,ls,hp2,hv⟩) fun _=> ?_
  refine Cnd.mk (fun _=>⟨by decide,li,ls,hp2,hv⟩) fun _=> ?_
  refine Cnd.mk (fun _=>⟨by decide,li,ls,hp2,hv⟩) fun _=> ?_
  refine Cnd.mk (fun _=>⟨by unfold InI;omega,li,ls,hp2,hv⟩) fun _=> ?_
  refine Cnd.mk (fun _=>⟨by decide,iu,j8p u16.1 fun i hi=>⟨li,j7j hi,hp2,hv⟩⟩) fun _=> ?_
  refine Cnd.mk (fun _=>⟨by decide,li,ls,hp2,hv⟩) fun _=> ?_
  refine Cnd.mk (fun _=>z11 ⟨by decide,by rw[w2y d128.2 (by omega)];show _/\_<(2:Int);omega,fun y _=>⟨li,ls,hp2,hv⟩⟩) fun _=> ?_
  refine Cnd.mk (fun _=>w9k fun l4 h4=>⟨by decide,by rw[w2y d64.2 (by omega),h4];show _/\_<(4:Int);omega,fun y _=>⟨li,ls,hp2,hv⟩⟩) fun _=> ?_
  refine Cnd.mk (fun _=>⟨by decide,li,ls,hp2,hv⟩) fun _=> ?_
  refine Cnd.mk (fun _=>⟨by unfold InI;omega,by decide,by unfold InI;omega,by decide,li,ls,hp2,hv⟩) fun _=> ?_
  refine Cnd.mk (fun _=>⟨li,lt,hp2,hv⟩) fun _=> ?_
  refine Cnd.mk (fun _=>⟨by decide,iu,j8p u16.1 fun i hi=>⟨by unfold Sml;simp;omega,li,ls,by show (p++_:List Lnk).length<=_;simp;omega,hv⟩⟩) fun _=> ?_
  refine Cnd.mk (fun _=>fun _=>Cnd.mk (fun h0=> ?_) fun _=>⟨li,ls,hp2,hv⟩) fun _=> ?_
  ·have h0:(0:Int)<(p.length:Int):=h0
   refine⟨⟨by decide,by show (1:Int)<=(p.length:Int);omega,Int.le_refl _⟩,li,ls,?_,hv⟩
   show (List.drop 1 (List.take _ ([]++p))).length<=_
   simp;omega
  refine Cnd.mk (fun _=>fun _=>Cnd.mk (fun h0=>⟨by unfold InI;omega,⟨by decide,h0⟩,fun y _=>⟨li,ls,?_,hv⟩⟩) fun _=>⟨li,ls,hp2,hv⟩) fun _=> ?_
  ·show (List.set ([]++p) _ _).length<=_
   rw[List.length_set];exact hp2
  refine Cnd.mk (fun _=>fun _=>Cnd.mk (fun h0=> ?_) fun _=>⟨li,ls,hp2,hv⟩) fun _=> ?_
  ·have h0:(1:Int)<(p.length:Int):=h0
   have h00:(0:Int)<(p.length:Int):=by omega
   refine⟨⟨by decide,h0⟩,fun y _=>⟨⟨by decide,h00⟩,fun y2 _=>⟨⟨by decide,h00⟩,fun y3 _=>⟨⟨by decide,by rw[List.length_set];exact h0⟩,fun y4 _=>⟨li,ls,?_,hv⟩⟩⟩⟩⟩
   show (List.set (List.set ([]++p) _ _) _ _).length<=_
   rw[List.length_set,List.length_set];exact hp2
  exact w2w ho' ⟨li,ls,hp2,w5n other⟩
 ·rintro y ⟨y1,y2,y3,y4⟩
  refine j1p (x:=Rcd.mk y.1 y.2.1 (Slt.mk y.2.2.1 y.2.2.2.1 y.2.2.2.2.1 y.2.2.2.2.2.1 y.2.2.2.2.2.2.1 y.2.2.2.2.2.2.2.1 y.2.2.2.2.2.2.2.2.1) y.2.2.2.2.2.2.2.2.2.1 y.2.2.2.2.2.2.2.2.2.2.1) y4 (by show y.2.2.2.2.2.2.2.2.2.2.1.length<=_;omega) ?_
  refine j34 (x:=Rcd.mk y.1 y.2.1 (Slt.mk y.2.2.1 y.2.2.2.1 y.2.2.2.2.1 y.2.2.2.2.2.1 y.2.2.2.2.2.2.1 y.2.2.2.2.2.2.2.1 y.2.2.2.2.2.2.2.2.1) y.2.2.2.2.2.2.2.2.2.1 y.2.2.2.2.2.2.2.2.2.2.1) y4 (by show y.2.2.2.2.2.2.2.2.2.2.1.length<=_;omega) (by show y.1.size<=_;omega) (by show y.2.2.1.size<=_;omega) ?_
  rw[dt rfl];exact h
end Go.En
end
noncomputable section
set_option maxRecDepth 100000
namespace Go.En
open Go Go.RowKit Go.Fl Go.Fl.Lk Go.Fx
section
variable {H:Type}{enc:TypeId×Value->H}{W:World}{base:Nat}{spare:Nat->Bool}{held:Bool}
theorem q4i{n:Int}(h:(Lit.int .u8 n).wf=true):0<=n/\n<=255:=by
 simp only[Lit.wf,Bool.and_eq_true,decide_eq_true_eq] at h
 have a:=h.1
 have b:=h.2
 simp[IntKind.min] at a
 simp[IntKind.max] at b
 exact⟨a,b⟩
theorem j1u{n:Int}(h:(Lit.int .u16 n).wf=true):0<=n/\n<=65535:=by
 simp only[Lit.wf,Bool.and_eq_true,decide_eq_true_eq] at h
 have a:=h.1
 have b:=h.2
 simp[IntKind.min] at a
 simp[IntKind.max] at b
 exact⟨a,b⟩
theorem w5p{fuel:Nat}{cs:List Value}{x:DataW H×List MemPlace}(hl:cs.length=5)(h:DataW.trod enc Proofs.Tryz.prog W base spare held fuel 128 cs=some x): ∃y:Mov,RowF D (hv W) cs (D.shape .move y)/\MvB y:=by
 obtain⟨xs,m,hfu,rfl,_,hn,hf⟩:=DataW.trod_struct Proofs.Tryz.underlying128 h
 have c5:Proofs.Tryz.prog.cellsOf 5=1:=by kernel_rfl
 match xs,hn with
 |[z0,z1,z2,z3,z4],_=>
 have q0:=hf 0 _ rfl
 have q1:=hf 1 _ rfl
 have q2:=hf 2 _ rfl
 have q3:=hf 3 _ rfl
 have q4:=hf 4 _ rfl
 match cs,hl with
 |[u0,u1,u2,u3,u4],_=>
 change DataW.trod enc Proofs.Tryz.prog W base spare held m 5 (List.take (Proofs.Tryz.prog.cellsOf 5) [u0,u1,u2,u3,u4])=some z0 at q0
 rw[c5] at q0
 change DataW.trod enc Proofs.Tryz.prog W base spare held m 5 [u0]=some z0 at q0
 obtain⟨a0,e0,g0,w0⟩:=DataW.trod_int Proofs.Tryz.underlying5 q0
 have i0:=q4i w0
 change DataW.trod enc Proofs.Tryz.prog W base spare held m 5 (List.take (Proofs.Tryz.prog.cellsOf 5) [u1,u2,u3,u4])=some z1 at q1
 rw[c5] at q1
 change DataW.trod enc Proofs.Tryz.prog W base spare held m 5 [u1]=some z1 at q1
 obtain⟨a1,e1,g1,w1⟩:=DataW.trod_int Proofs.Tryz.underlying5 q1
 have i1:=q4i w1
 change DataW.trod enc Proofs.Tryz.prog W base spare held m 5 (List.take (Proofs.Tryz.prog.cellsOf 5) [u2,u3,u4])=some z2 at q2
 rw[c5] at q2
 change DataW.trod enc Proofs.Tryz.prog W base spare held m 5 [u2]=some z2 at q2
 obtain⟨a2,e2,g2,w2⟩:=DataW.trod_int Proofs.Tryz.underlying5 q2
 have i2:=q4i w2
 change DataW.trod enc Proofs.Tryz.prog W base spare held m 5 (List.take (Proofs.Tryz.prog.cellsOf 5) [u3,u4])=some z3 at q3
 rw[c5] at q3
 change DataW.trod enc Proofs.Tryz.prog W base spare held m 5 [u3]=some z3 at q3
 obtain⟨a3,e3,g3,w3⟩:=DataW.trod_int Proofs.Tryz.underlying5 q3
 have i3:=q4i w3
 change DataW.trod enc Proofs.Tryz.prog W base spare held m 5 (List.take (Proofs.Tryz.prog.cellsOf 5) [u4])=some z4 at q4
 rw[c5] at q4
 change DataW.trod enc Proofs.Tryz.prog W base spare held m 5 [u4]=some z4 at q4
 obtain⟨a4,e4,g4,w4⟩:=DataW.trod_int Proofs.Tryz.underlying5 q4
 have i4:=q4i w4
 simp only[List.cons.injEq,and_true] at e0
 subst e0
 subst g0
 simp only[List.cons.injEq,and_true] at e1
 subst e1
 subst g1
 simp only[List.cons.injEq,and_true] at e2
 subst e2
 subst g2
 simp only[List.cons.injEq,and_true] at e3
 subst e3
 subst g3
 simp only[List.cons.injEq,and_true] at e4
 subst e4
 subst g4
 refine⟨Mov.mk a0 a1 a2 a3 a4,(Z9 (.int _ _) (Z9 (.int _ _) (Z9 (.int _ _) (Z9 (.int _ _) (Z9 (.int _ _) z57))))),?_⟩
 exact⟨⟨i0.1,by have:=i0.2;simp only;omega⟩,⟨i1.1,by have:=i1.2;simp only;omega⟩,⟨i2.1,by have:=i2.2;simp only;omega⟩,⟨i3.1,by have:=i3.2;simp only;omega⟩,⟨i4.1,by have:=i4.2;simp only;omega⟩⟩
theorem j7k{fuel:Nat}{cs:List Value}{x:DataW H×List MemPlace}(hl:cs.length=5)(h:DataW.trod enc Proofs.Tryz.prog W base spare held fuel 24 cs=some x): ∃y:AEnv,RowF D (hv W) cs (D.shape .aenv y)/\AEB y:=by
 obtain⟨xs,m,hfu,rfl,_,hn,hf⟩:=DataW.trod_struct Proofs.Tryz.underlying24 h
 have c5:Proofs.Tryz.prog.cellsOf 5=1:=by kernel_rfl
 have c22:Proofs.Tryz.prog.cellsOf 22=1:=by kernel_rfl
 match xs,hn with
 |[z0,z1,z2,z3,z4],_=>
 have q0:=hf 0 _ rfl
 have q1:=hf 1 _ rfl
 have q2:=hf 2 _ rfl
 have q3:=hf 3 _ rfl
 have q4:=hf 4 _ rfl
 match cs,hl with
 |[u0,u1,u2,u3,u4],_=>
 change DataW.trod enc Proofs.Tryz.prog W base spare held m 5 (List.take (Proofs.Tryz.prog.cellsOf 5) [u0,u1,u2,u3,u4])=some z0 at q0
 rw[c5] at q0
 change DataW.trod enc Proofs.Tryz.prog W base spare held m 5 [u0]=some z0 at q0
 obtain⟨a0,e0,g0,w0⟩:=DataW.trod_int Proofs.Tryz.underlying5 q0
 have i0:=q4i w0
 change DataW.trod enc Proofs.Tryz.prog W base spare held m 5 (List.take (Proofs.Tryz.prog.cellsOf 5) [u1,u2,u3,u4])=some z1 at q1
 rw[c5] at q1
 change DataW.trod enc Proofs.Tryz.prog W base spare held m 5 [u1]=some z1 at q1
 obtain⟨a1,e1,g1,w1⟩:=DataW.trod_int Proofs.Tryz.underlying5 q1
 have i1:=q4i w1
 change DataW.trod enc Proofs.Tryz.prog W base spare held m 22 (List.take (Proofs.Tryz.prog.cellsOf 22) [u2,u3,u4])=some z2 at q2
 rw[c22] at q2
 change DataW.trod enc Proofs.Tryz.prog W base spare held m 22 [u2]=some z2 at q2
 obtain⟨a2,e2,g2,w2⟩:=DataW.trod_int Proofs.Tryz.underlying22 q2
 have i2:=j1u w2
 change DataW.trod enc Proofs.Tryz.prog W base spare held m 22 (List.take (Proofs.Tryz.prog.cellsOf 22) [u3,u4])=some z3 at q3
 rw[c22] at q3
 change DataW.trod enc Proofs.Tryz.prog W base spare held m 22 [u3]=some z3 at q3
 obtain⟨a3,e3,g3,w3⟩:=DataW.trod_int Proofs.Tryz.underlying22 q3
 have i3:=j1u w3
 change DataW.trod enc Proofs.Tryz.prog W base spare held m 22 (List.take (Proofs.Tryz.prog.cellsOf 22) [u4])=some z4 at q4
 rw[c22] at q4
 change DataW.trod enc Proofs.Tryz.prog W base spare held m 22 [u4]=some z4 at q4
 obtain⟨a4,e4,g4,w4⟩:=DataW.trod_int Proofs.Tryz.underlying22 q4
 have i4:=j1u w4
 simp only[List.cons.injEq,and_true] at e0
 subst e0
 subst g0
 simp only[List.cons.injEq,and_true] at e1
 subst e1
 subst g1
 simp only[List.cons.injEq,and_true] at e2
 subst e2
 subst g2
 simp only[List.cons.injEq,and_true] at e3
 subst e3
 subst g3
 simp only[List.cons.injEq,and_true] at e4
 subst e4
 subst g4
 refine⟨AEnv.mk a0 a1 a2 a3 a4,(Z9 (.int _ _) (Z9 (.int _ _) (Z9 (.int _ _) (Z9 (.int _ _) (Z9 (.int _ _) z57))))),?_⟩
 exact⟨⟨i1.1,by have:=i1.2;simp only;omega⟩,⟨i2.1,by have:=i2.2;simp only;omega⟩,⟨i3.1,by have:=i3.2;simp only;omega⟩,⟨i4.1,by have:=i4.2;simp only;omega⟩⟩
end
end Go.En
end
