/- TrafficMoves This is part 3 of 10. Conditions: those in the statements. -/
import Derived.Test.YtflilmgifibgoaaGreatDoorProg
import Derived.Test.YtflilmgifibgoaaGreatDoorRows
import Derived.Test.YtflilmgifibgoaaGreatDoorMov2
import Derived.KernelRfl
import Derived.Conc.MuLone
import Derived.ProofKit
import Derived.OpenShut
import Derived.ShutString
import Derived.ChangeOld
import Derived.Below
import Derived.SizedLaws
import Derived.Deep.Slices
import Derived.Lib.LaidU8
import Derived.Shelf.Vars
import Derived.MakeChecks
noncomputable section
set_option maxRecDepth 100000
namespace Go.Fx
open Go Go.RowKit Go.Fl Go.Fl.Lk
variable {S:Sig}{P:Program}{D:Shp S}{ν ν' ν0:Nm}{σ τ:Hv}{n:Nat}{f:Fr}
variable {w:World}{cx:Cx}{ro:Ro S}{st:AS S}{ms:List HObj}
theorem z4v: ∀{l l':List Nat} {j:Nat},hasN (l++l') j=(hasN l j||hasN l' j)
 |[],_,_=>rfl
 |a::l,l',j=>by
  simp only[List.cons_append,hasN]
  cases Nat.beq a j with
  |true=>rfl
  |false=>exact z4v
theorem v6b{l:List Nat}{o:Nat}(h:o∉l):hasN l o=false:=by
 induction l with
 |nil=>rfl
 |cons a l ih=>
  simp only[hasN]
  cases hb:Nat.beq a o with
  |true=>exact absurd (by rw[Nat.eq_of_beq_eq_true hb];simp) h
  |false=>exact ih fun hm=>h (by simp[hm])
theorem j0o: ∀{l:List Nat} {objs r:List (Nat×AO S)},j6n objs l=some r->r.map (·.1)=l/\ ∀q∈r,Zb objs q.1=some q.2
 |[],_,_,h=>by cases h;exact⟨rfl,by simp⟩
 |o::l,objs,r,h=>by
  simp only[j6n] at h
  split at h
  case h_2=>cases h
  rename_i a r' ha hr
  cases h
  obtain⟨h1,h2⟩:=j0o hr
  refine⟨by simp[h1],fun q hq=> ?_⟩
  rcases List.mem_cons.1 hq with rfl|hq
  ·exact ha
  ·exact h2 q hq
theorem z1j{α:Type}: ∀{os:List (Nat×α)} {o:Nat} {a:α},(os.map (·.1)).Nodup->(o,a)∈os->Zb os o=some a
 |q::os,o,a,hn,hm=>by
  obtain⟨o',a'⟩:=q
  rw[List.map_cons,List.nodup_cons] at hn
  simp only[Zb]
  rcases List.mem_cons.1 hm with he|hm
  ·cases he;simp
  ·have:Nat.beq o' o=false:=by
    cases hb:Nat.beq o' o with
    |false=>rfl
    |true=>
     have:=Nat.eq_of_beq_eq_true hb
     subst this
     exact absurd (List.mem_map.2 ⟨_,hm,rfl⟩) hn.1
   rw[this]
   exact z1j hn.2 hm
theorem w4h{α:Type}: ∀{os:List (Nat×α)} {o:Nat},(delN os o).Sublist os
 |[],_=>List.Sublist.refl _
 |(o',_)::_,o=>by
  simp only[delN]
  cases Nat.beq o' o with
  |true=>exact List.sublist_cons_self _ _
  |false=>exact w4h.cons_cons _
theorem j9f{α:Type}: ∀{tl:List Nat} {os:List (Nat×α)},(Bt os tl).Sublist os
 |[],_=>List.Sublist.refl _
 |_::tl,_=>(j9f (tl:=tl)).trans w4h
structure Chk(sp:Spec S)(ro:Ro S)(st:AS S):Prop where
 cobj: ∀q∈sp.cobj,∃l:List (SV S),Zb st.objs q.1=some (.cells q.2.1 l)/\l.length=q.2.2
 apart: ∀q∈sp.cobj,q.1∉sp.robj
 nodup:((st.objs++ro.objs).map (·.1)).Nodup
 rnodup:sp.robj.Nodup
 cnodup:q8o (sp.cobj.map (·.1))=true
 clt: ∀q∈sp.cobj,q.1<st.next
 lt:z35 st.next sp.items=true
theorem j6r{sp:Spec S}(h:v2g sp ro st=true):Chk sp ro st:=by
 obtain⟨h,h6⟩:=Qu h
 obtain⟨h,h5⟩:=Qu h
 obtain⟨h,h4⟩:=Qu h
 obtain⟨h,h3⟩:=Qu h
 obtain⟨h1,h2⟩:=Qu h
 have h1:=List.all_eq_true.1 h1
 refine⟨fun q hq=> ?_,fun q hq=> ?_,q5v h2,q5v h3,h4,fun q hq=> ?_,h6⟩
 ·obtain⟨ha,_⟩:=Qu (h1 q hq)
  split at ha
  case h_2=>cases ha
  rename_i ty l hf
  obtain⟨ha,hb⟩:=Qu ha
  exact⟨l,by rw[hf,Nat.eq_of_beq_eq_true ha],Nat.eq_of_beq_eq_true hb⟩
 ·obtain⟨_,hb⟩:=Qu (h1 q hq)
  exact q9h (by simpa using hb)
 ·have:=List.all_eq_true.1 h5 q hq
  rw[←Nat.blt_eq];exact this
theorem z25: ∀{l:List (Nat×TypeId×Nat)} {o:Nat},hasC l o=true↔ ∃q∈l,q.1=o
 |[],o=>by simp[hasC]
 |(o',ty,len)::l,o=>by
  simp only[hasC]
  cases hb:Nat.beq o' o with
  |true=>
   have:=Nat.eq_of_beq_eq_true hb
   subst this
   simp
  |false=>
   rw[cond_false,z25]
   constructor
   ·rintro⟨q,hq,rfl⟩;exact⟨q,by simp[hq],rfl⟩
   ·rintro⟨q,hq,rfl⟩
    rcases List.mem_cons.1 hq with rfl|hq
    ·simp at hb
    ·exact⟨q,hq,rfl⟩
def res1(x:SV S):SV S->SV S
 | .lk=>x
 |s=>s
theorem q0p{g:Nat->SV S}{k:Nat}{s:SV S}{l:List (SV S)}:resL g k (s::l)=res1 (g k) s::resL g (k+1) l:=by cases s<;>rfl
theorem j1u{g h:Nat->SV S}{p:Nat->Bool}: ∀{l:List (SV S)} {k:Nat},(∀i s,(resL h k l)[i]? =some s->g (k+i)=s)->resL g k (z9t l p k)=resL h k l
 |[],_,_=>rfl
 |s::l,k,hg=>by
  have h0:=hg 0 (res1 (h k) s) (by rw[q0p];rfl)
  rw[Nat.add_zero] at h0
  have ih:=j1u (g:=g) (h:=h) (p:=p) (l:=l) (k:=k+1) (fun i s' hi=>by
   have:=hg (i+1) s' (by rw[q0p];exact hi)
   rw[←this];congr 1;omega)
  simp only[z9t]
  rw[q0p,q0p,ih]
  congr 1
  cases p k with
  |true=>simp only[cond_true];cases s<;>first|rfl|exact h0
  |false=>exact h0
theorem G.enter{sp:Spec S}{robj:List (Nat×AO S)}(h:G D cx ν0 ro st f w ν σ ms)(hc:Chk sp ro st)(hr:j6n st.objs sp.robj=some robj):
  ∃ms',G D cx ν0 (roOf sp ro st robj) {slots:=st.slots,objs:=Rb sp (Bt st.objs sp.robj),next:=st.next} f w ν σ ms':=by
 obtain⟨hr1,hr2⟩:=j0o hr
 obtain⟨ins,r1,r2,hp,ho1,ho2,ho3⟩:=h.objs.takeR (tlo:=robj) (by rw[hr1];exact hc.rnodup) hr2
 rw[hr1] at ho2
 have hnd:(st.objs.map (·.1)).Nodup:=by
  have:=hc.nodup
  rw[List.map_append] at this
  exact (List.nodup_append.1 this).1
 have hdis: ∀o∈st.objs.map (·.1),∀o'∈ro.objs.map (·.1),o≠o':=by
  have:=hc.nodup
  rw[List.map_append] at this
  exact (List.nodup_append.1 this).2.2
 have hcell: ∀o,hasC sp.cobj o=false->(roOf sp ro st robj).cell o=ro.cell o:=by
  intro o ho
  funext i
  simp only[roOf,ho,cond_false]
 have hstay: ∀{os:List (Nat×AO S)} {ms:List HObj},(∀q∈os,hasC sp.cobj q.1=false)->Objs D ν σ ro.cell os ms->Objs D ν σ (roOf sp ro st robj).cell os ms:=by
  intro os
  induction os with
  |nil=>intro ms _ ho;cases ms with|nil=>trivial|cons=>exact ho.elim
  |cons q os ih=>
   intro ms hq ho
   cases ms with
   |nil=>exact ho.elim
   |cons m ms=>
    refine⟨?_,ih (fun q' hq'=>hq q' (by simp[hq'])) ho.2⟩
    obtain⟨o,a⟩:=q
    have hoa:=ho.1
    cases a with
    |cells ty l=>
     obtain⟨b,cs,e1,e2,e3⟩:=hoa
     refine⟨b,cs,e1,e2,?_⟩
     rw[hcell o (hq (o,.cells ty l) (by simp))]
     exact e3
    |vec e T l=>exact hoa
    |frz T l=>exact hoa
    |arr ty T N l=>exact hoa
    |map K V F=>exact hoa
    |iter K V F done cur=>exact hoa
    |siter s pos=>exact hoa
    |vech e T l k f q=>exact hoa
 refine⟨r1++(ins++r2),h.mem.perm (hp.trans (by
  rw[←List.append_assoc,←List.append_assoc]
  exact List.Perm.append_right r2 List.perm_append_comm)),?_,fun j=> ?_,h.fresh,h.ext,h.glob⟩
 ·refine Objs.append (os':=robj++ro.objs) ?_ (Objs.append (hstay (fun q hq=> ?_) ho1) (hstay (fun q hq=> ?_) ho3))
  ·
   have hsub: ∀q∈Bt st.objs sp.robj,Zb st.objs q.1=some q.2:=fun q hq=>z1j hnd (j9f.subset hq)
   clear hp
   generalize Bt st.objs sp.robj=os at ho2 hsub
   induction os generalizing r1 with
   |nil=>cases r1 with|nil=>trivial|cons=>exact ho2.elim
   |cons q os ih=>
    cases r1 with
    |nil=>exact ho2.elim
    |cons m r1=>
     obtain⟨o,a⟩:=q
     have hoa:=ho2.1
     have hfind:=hsub (o,a) (by simp)
     have hih:=ih r1 ho2.2 (fun q hq=>hsub q (by simp[hq]))
     cases a with
     |cells ty l=>
      simp only[Rb]
      refine⟨?_,hih⟩
      obtain⟨b,cs,e1,e2,e3⟩:=hoa
      cases hb:hasC sp.cobj o with
      |false=>
       refine⟨b,cs,e1,e2,?_⟩
       rw[hcell o hb];exact e3
      |true=>
       refine⟨b,cs,e1,e2,?_⟩
       have:resL ((roOf sp ro st robj).cell o) 0 (z9t l (z7w sp.items o) 0)=resL (ro.cell o) 0 l:=by
        refine j1u fun i s hi=> ?_
        simp only at hfind
        simp only[roOf,hb,cond_true,hfind,Nat.zero_add,List.getD_eq_getElem?_getD,hi,Option.getD_some]
       rw[this];exact e3
     |vec e T l=>exact⟨hoa,hih⟩
     |frz T l=>exact⟨hoa,hih⟩
     |arr ty T N l=>exact⟨hoa,hih⟩
     |map K V F=>exact⟨hoa,hih⟩
     |iter K V F done cur=>exact⟨hoa,hih⟩
     |siter s pos=>exact⟨hoa,hih⟩
     |vech e T l k f q=>exact⟨hoa,hih⟩
  ·cases hb:hasC sp.cobj q.1 with
   |false=>rfl
   |true=>
    obtain⟨q',hq',he⟩:=z25.1 hb
    exact absurd (by rw[he,←hr1];exact List.mem_map.2 ⟨q,hq,rfl⟩) (hc.apart q' hq')
  ·cases hb:hasC sp.cobj q.1 with
   |false=>rfl
   |true=>
    obtain⟨q',hq',he⟩:=z25.1 hb
    obtain⟨l,hl,_⟩:=hc.cobj q' hq'
    exact absurd he (hdis _ (List.mem_map.2 ⟨_,j1h hl,rfl⟩) _ (List.mem_map.2 ⟨q,hq,rfl⟩))
 ·have:q4t (roOf sp ro st robj) {slots:=st.slots,objs:=Rb sp (Bt st.objs sp.robj),next:=st.next} j=q4t ro st j:=by
   unfold q4t roOf
   simp only[z4v]
   cases h1:hasN ro.lock j<;>cases h2:hasN sp.lock j<;>simp[q4t,h1]
  rw[this];exact h.slots j
theorem z50{sp:Spec S}: ∀{os:List (Nat×AO S)} {o:Nat} {ty:TypeId} {l:List (SV S)},Zb os o=some (.cells ty l)->hasC sp.cobj o=true->Zb (Rb sp os) o=some (.cells ty (z9t l (z7w sp.items o) 0))
 |(o',a)::os,o,ty,l,h,hc=>by
  simp only[Zb] at h
  cases hb:Nat.beq o' o with
  |true=>
   rw[hb] at h;cases h
   have:=Nat.eq_of_beq_eq_true hb
   subst this
   simp[Rb,Zb,hc]
  |false=>
   rw[hb] at h
   have ih:=z50 (sp:=sp) (os:=os) h hc
   cases a<;>simp[Rb,Zb,hb,ih]
theorem j9g{p:Nat->Bool}: ∀{l:List (SV S)} {k i:Nat},i<l.length->p (k+i)=false->(z9t l p k)[i]? =some .lk
 |s::l,k,0,_,hp=>by rw[Nat.add_zero] at hp;simp[z9t,hp]
 |s::l,k,i+1,h,hp=>by
  simp only[z9t,List.getElem?_cons_succ]
  exact j9g (by simpa using h) (by rw[←hp];congr 1;omega)
theorem j9h{p:Nat->Bool}: ∀{l:List (SV S)} {k:Nat},(z9t l p k).length=l.length
 |[],_=>rfl
 |s::l,k=>by simp[z9t,j9h]
theorem G.roE{sp:Spec S}{robj:List (Nat×AO S)}(hc:Chk sp ro st)(h:G D cx ν0 (roOf sp ro st robj) {slots:=st.slots,objs:=Rb sp (Bt st.objs sp.robj),next:=st.next} f w ν σ ms):
  RoE D ν0 ν (roOf sp ro st robj) sp st.next:=by
 refine⟨fun o v hv=> ?_,h.ext,fun j hj=> ?_,fun q hq=> ?_,fun q hq i hi hit=> ?_,hc.cnodup,hc.lt,hc.clt⟩
 ·rcases Nat.lt_or_ge o st.next with hlt|hge
  ·exact hlt
  ·have:=h.fresh o hge
   rw[hv] at this;cases this
 ·have:=h.slots j
  unfold q4t at this
  rw[hj] at this
  exact⟨_,_,this⟩
 ·obtain⟨m1,m2,rfl,h1,h2⟩:=h.objs.split
  obtain⟨m,hm⟩:=h2.mem (o:=q.1) (a:=q.2) hq
  exact⟨σ,m,hm⟩
 ·obtain⟨l,hl,hlen⟩:=hc.cobj q hq
  have hf:Zb (Bt st.objs sp.robj) q.1=some (.cells q.2.1 l):=by rw[z23 (hc.apart q hq)];exact hl
  have hf2:=z50 (sp:=sp) hf (z25.2 ⟨q,hq,rfl⟩)
  obtain⟨m,hm,b,cs,_,_,hrow⟩:=h.objs.find (o:=q.1) (by rw[Vx,hf2])
  have hg:=j9g (p:=z7w sp.items q.1) (l:=l) (k:=0) (i:=i) (by omega) (by rw[Nat.zero_add];exact hit)
  have hres:=z70 (g:=(roOf sp ro st robj).cell q.1) (k:=0) hg
  rw[Nat.zero_add] at hres
  obtain⟨v,hv⟩:=getq (l:=cs) (k:=i) (by rw[hrow.1,j0n,j9h];omega)
  exact⟨v,σ,hrow.2.1 i v _ hv hres⟩
theorem j5m{g h:Nat->SV S}: ∀{l l0:List (SV S)} {k:Nat},(∀i,g (k+i)=(resL h k l0).getD i .dead)->resL h k (z7x l l0)=resL g k l
 |[],_,_,_=>rfl
 |s::l,l0,k,hg=>by
  have ht: ∀i,g (k+1+i)=(resL h (k+1) l0.tail).getD i .dead:=by
   intro i
   have:=hg (i+1)
   have e:k+(i+1)=k+1+i:=by omega
   rw[e] at this
   rw[this]
   cases l0 with
   |nil=>simp[resL]
   |cons x l0=>cases x<;>simp[resL]
  have ih:=j5m (l:=l) ht
  have h0:g k=res1 (h k) (l0.head?.getD .dead):=by
   have:=hg 0
   rw[Nat.add_zero] at this
   rw[this]
   cases l0 with
   |nil=>rfl
   |cons x l0=>rw[q0p];rfl
  cases s with
  |lk=>
   simp only[z7x]
   rw[q0p,ih,←h0];rfl
  |_=>simp only[z7x,resL];rw[ih]
theorem G.leave{sp:Spec S}{robj:List (Nat×AO S)}{a:AS S}(hc:Chk sp ro st)(hr:j6n st.objs sp.robj=some robj)(h:G D cx ν0 (roOf sp ro st robj) a f w ν σ ms):G D cx ν0 ro (j88 sp st robj a) f w ν σ ms:=by
 obtain⟨hr1,hr2⟩:=j0o hr
 have hcell: ∀o,hasC sp.cobj o=false->(roOf sp ro st robj).cell o=ro.cell o:=by
  intro o ho
  funext i
  simp only[roOf,ho,cond_false]
 have hstay: ∀{os:List (Nat×AO S)} {ms:List HObj},(∀q∈os,hasC sp.cobj q.1=false)->Objs D ν σ (roOf sp ro st robj).cell os ms->Objs D ν σ ro.cell os ms:=by
  intro os
  induction os with
  |nil=>intro ms _ ho;cases ms with|nil=>trivial|cons=>exact ho.elim
  |cons q os ih=>
   intro ms hq ho
   cases ms with
   |nil=>exact ho.elim
   |cons m ms=>
    refine⟨?_,ih (fun q' hq'=>hq q' (by simp[hq'])) ho.2⟩
    obtain⟨o,a⟩:=q
    have hoa:=ho.1
    cases a with
    |cells ty l=>
     obtain⟨b,cs,e1,e2,e3⟩:=hoa
     refine⟨b,cs,e1,e2,?_⟩
     rw[←hcell o (hq (o,.cells ty l) (by simp))]
     exact e3
    |vec e T l=>exact hoa
    |frz T l=>exact hoa
    |arr ty T N l=>exact hoa
    |map K V F=>exact hoa
    |iter K V F done cur=>exact hoa
    |siter s pos=>exact hoa
    |vech e T l k f q=>exact hoa
 have hdis: ∀o∈st.objs.map (·.1),∀o'∈ro.objs.map (·.1),o≠o':=by
  have:=hc.nodup
  rw[List.map_append] at this
  exact (List.nodup_append.1 this).2.2
 obtain⟨m1,m2,rfl,h1,h2⟩:=h.objs.split
 refine⟨h.mem,?_,fun j=> ?_,h.fresh,h.ext,h.glob⟩
 ·show Objs D ν σ ro.cell ((j87 sp st a.objs++robj)++ro.objs) (m1++m2)
  rw[List.append_assoc]
  refine Objs.append ?_ (hstay (fun q hq=> ?_) h2)
  ·have ha:=h1
   generalize a.objs=os at ha
   clear h h1 h2
   induction os generalizing m1 with
   |nil=>cases m1 with|nil=>trivial|cons=>exact ha.elim
   |cons q os ih=>
    cases m1 with
    |nil=>exact ha.elim
    |cons m m1=>
     obtain⟨o,ao⟩:=q
     have hih:=ih m1 ha.2
     have hoa:=ha.1
     cases ao with
     |cells ty l=>
      simp only[j87]
      refine⟨?_,hih⟩
      obtain⟨b,cs,e1,e2,e3⟩:=hoa
      cases hb:hasC sp.cobj o with
      |false=>
       refine⟨b,cs,e1,e2,?_⟩
       rw[←hcell o hb];exact e3
      |true=>
       refine⟨b,cs,e1,e2,?_⟩
       rw[j5m (g:=(roOf sp ro st robj).cell o)]
       ·exact e3
       ·intro i
        rw[Nat.zero_add]
        obtain⟨q',hq',rfl⟩:=z25.1 hb
        obtain⟨l',hl',_⟩:=hc.cobj q' hq'
        simp only[roOf,hb,cond_true,hl']
     |vec e T l=>exact⟨hoa,hih⟩
     |frz T l=>exact⟨hoa,hih⟩
     |arr ty T N l=>exact⟨hoa,hih⟩
     |map K V F=>exact⟨hoa,hih⟩
     |iter K V F done cur=>exact⟨hoa,hih⟩
     |siter s pos=>exact⟨hoa,hih⟩
     |vech e T l k f q=>exact⟨hoa,hih⟩
  ·cases hb:hasC sp.cobj q.1 with
   |false=>rfl
   |true=>
    obtain⟨q',hq',he⟩:=z25.1 hb
    rcases List.mem_append.1 hq with hq|hq
    ·exact absurd (by rw[he,←hr1];exact List.mem_map.2 ⟨q,hq,rfl⟩) (hc.apart q' hq')
    ·obtain⟨l,hl,_⟩:=hc.cobj q' hq'
     exact absurd he (hdis _ (List.mem_map.2 ⟨_,j1h hl,rfl⟩) _ (List.mem_map.2 ⟨q,hq,rfl⟩))
 ·have:q4t ro (j88 sp st robj a) j=q4t (roOf sp ro st robj) a j:=by
   unfold q4t j88 roOf
   simp only[z4v]
   cases h1:hasN ro.lock j<;>cases h2:hasN sp.lock j<;>simp[q4t,h1]
  rw[this];exact h.slots j
theorem G.drew(h:G D cx ν0 ro st f w ν σ ms):G D cx ν0 ro st f w.drew ν σ ms:=⟨h.mem.drew,h.objs,h.slots,h.fresh,h.ext,h.glob⟩
theorem y00: ∀{l:List (Item S)} {body:HL l->(HL l->Prop)->Prop} {t:HL l},LpG l body t->LpH body t
 |[],_,_,h=>h
 |[_],_,_,h=>fun X hX=>h (fun x=>X (x,())) fun x _ hY hb=>hX (x,()) _ (fun u hu=>hY u.1 hu) hb
 |[_,_],_,_,h=>fun X hX=>h (fun x y=>X (x,y,())) fun x y _ hY hb=>hX (x,y,()) _ (fun u hu=>hY u.1 u.2.1 hu) hb
 |[_,_,_],_,_,h=>fun X hX=>h (fun x y z=>X (x,y,z,())) fun x y z _ hY hb=>hX (x,y,z,()) _ (fun u hu=>hY u.1 u.2.1 u.2.2.1 hu) hb
 |[_,_,_,_],_,_,h=>fun X hX=>h (fun x y z v=>X (x,y,z,v,())) fun x y z v _ hY hb=>hX (x,y,z,v,()) _ (fun u hu=>hY u.1 u.2.1 u.2.2.1 u.2.2.2.1 hu) hb
 |[_,_,_,_,_],_,_,h=>fun X hX=>h (fun x y z v w=>X (x,y,z,v,w,())) fun x y z v w _ hY hb=>hX (x,y,z,v,w,()) _ (fun u hu=>hY u.1 u.2.1 u.2.2.1 u.2.2.2.1 u.2.2.2.2.1 hu) hb
 |_::_::_::_::_::_::_,_,_,h=>h
theorem y01: ∀{l:List (Item S)} {k:HL l->Prop} {A:(HL l->Prop)->Prop},JnG l k A-> ∃Y:HL l->Prop,(∀t,Y t->k t)/\A Y
 |[],_,_,h=>by obtain⟨Y,h1,h2⟩:=h;exact⟨_,fun _ hy=>h1 hy,h2⟩
 |[_],_,_,h=>by obtain⟨Y,h1,h2⟩:=h;exact⟨_,fun t hy=>h1 t.1 hy,h2⟩
 |[_,_],_,_,h=>by obtain⟨Y,h1,h2⟩:=h;exact⟨_,fun t hy=>h1 t.1 t.2.1 hy,h2⟩
 |[_,_,_],_,_,h=>by obtain⟨Y,h1,h2⟩:=h;exact⟨_,fun t hy=>h1 t.1 t.2.1 t.2.2.1 hy,h2⟩
 |[_,_,_,_],_,_,h=>by obtain⟨Y,h1,h2⟩:=h;exact⟨_,fun t hy=>h1 t.1 t.2.1 t.2.2.1 t.2.2.2.1 hy,h2⟩
 |_::_::_::_::_::_,_,_,h=>h
def w4i(P:Program)(c:Code)(Q:Exit->Act->World->Prop)(a:Act)(w:World):Prop:=
 ∀(b:Frame) (k:List Go.Item) (cs:List Frame),∃e a' w',Q e a' w'/\Arrives P (lone (b.at a (.code c:: .inLoop c::k)) cs w) b k cs e a' w'
theorem w1s{P:Program}{c:Code}{Q:Exit->Act->World->Prop}{a:Act}{w:World}(h:w4i P c Q a w):(Code.loop c).wp P Q a w:=by
 intro b k cs
 obtain⟨e,a₁,w₁,hq,harr⟩:=h b k cs
 exact⟨e,a₁,w₁,hq,.of_steps (.one step_loop) harr⟩
theorem w1t{P:Program}{c:Code}{Q:Exit->Act->World->Prop}{a:Act}{w:World}(h:c.wp P (Exit.then (w4i P c Q) Q) a w):w4i P c Q a w:=by
 intro b k cs
 obtain⟨e,a₁,w₁,hq,harr⟩:=h b (.inLoop c::k) cs
 cases e with
 |normal=>
  obtain⟨e₂,a₂,w₂,hq₂,harr₂⟩:=hq b k cs
  exact⟨e₂,a₂,w₂,hq₂,.of_steps (Steps.trans harr (.one step_inLoop)) harr₂⟩
 |exit id=>exact⟨_,a₁,w₁,hq,.pass (x:= .inLoop c) rfl (fun _ _=> .inl (by simp)) harr⟩
 |goto l=>exact⟨_,a₁,w₁,hq,.pass (x:= .inLoop c) rfl (fun _ _=> .inl (by simp)) harr⟩
 |ret=>exact⟨_,a₁,w₁,hq,.pass (x:= .inLoop c) rfl (fun _ _=> .inl (by simp)) harr⟩
 |panic ch=>exact⟨_,a₁,w₁,hq,.pass (x:= .inLoop c) rfl (fun _ _=> .inl (by simp)) harr⟩
 |outgrown=>exact⟨_,a₁,w₁,hq,.pass (x:= .inLoop c) rfl (fun _ _=> .inl (by simp)) harr⟩
theorem z72{key:Nat}{o:Option (List (Nat×AO S))}{k:List (Nat×AO S)->Prop}(h:v2h key ro st o k): ∃x,o=some x/\k x:=by
 cases o with
 |some x=>exact⟨x,rfl,h⟩
 |none=>exact h.elim
theorem v6c{E:Ev S}{inlh:InlH S}{C:Ro S->Prop}(hC: ∀sp ro st robj,C (roOf sp ro st robj))(hP:E.D.OkP E.P)(hmix:E.P.follows .mixedOrders=true)(hst:StH E inlh n C): ∀{c:Code} {ro:Ro S} {k:Kc S} {st:AS S} {f:Fr} {w:World} {ν:Nm} {σ:Hv} {ms:List HObj} {Q:Exit->Act->World->Prop},
  C ro->vcC E inlh n c ro k st->G E.D cx ν0 ro st f w ν σ ms->(∀c a w,¬Q (.panic c) a w)->(∀e st' f' w' ν' σ' ms',k e st'->G E.D cx ν0 ro st' f' w' ν' σ' ms'->Q e (mk n f') w')->c.wp E.P Q (mk n f) w:=by
 intro c
 induction c with
 |skip=>intro ro k st f w ν σ ms Q hro h hG _ hk;exact wp_skip (hk _ _ _ _ _ _ _ h hG)
 |region id ops draw=>
  intro ro k st f w ν σ ms Q hro h hG hQ hk
  simp only[vcC] at h
  cases draw with
  |false=>exact wp_region_list (v8n hst hro h hG fun st' f' w' ν' σ' ms' hk' hG'=>hk _ _ _ _ _ _ _ hk' hG')
  |true=>
   obtain⟨hsel,h⟩:=Jc h
   have:=v57 (Q:=Q) hP hst hro hsel hQ h hG.drew fun st' f' w' ν' σ' ms' hk' hG'=>hk _ _ _ _ _ _ _ hk' hG'
   rw[←w7r] at this
   exact wp_region_any hmix (w8r _ _ _ _ _ this)
 |seq x y ihx ihy=>
  intro ro k st f w ν σ ms Q hro h hG hQ hk
  simp only[vcC] at h
  refine wp_seq ?_
  split at h
  ·refine ihx hro h hG (fun c a w=>hQ c a w) fun e st' f' w' ν' σ' ms' hk' hG'=> ?_
   cases e with
   |normal=>exact ihy hro hk' hG' hQ hk
   |_=>exact hk _ _ _ _ _ _ _ hk' hG'
  ·rename_i sp _
   obtain⟨robj,hr,h⟩:=z72 h
   obtain⟨hc,h⟩:=Jc h
   have hc:=j6r hc
   obtain⟨Y,hY,hA⟩:=y01 h
   obtain⟨ms1,hG1⟩:=hG.enter hc hr
   have hE:=hG1.roE hc
   refine ihx (hC _ _ _ _) hA hG1 (fun c a w=>hQ c a w) fun e st' f' w' ν' σ' ms' hk' hG'=> ?_
   cases e with
   |normal=>
    obtain⟨t,ν2,σ2,ms2,ht,hG2⟩:=z71 hP.ok hE hG' hk'
    exact ihy hro (hY t ht) (hG2.leave hc hr) hQ hk
   |_=>exact hk _ _ _ _ _ _ _ hk' (hG'.leave hc hr)
 |cond c x y ihx ihy=>
  intro ro k st f w ν σ ms Q hro h hG hQ hk
  simp only[vcC] at h
  obtain⟨b,hb,h⟩:=v4e (w8n (n:=n) hG.slots hG.glob c) h
  rcases h with ⟨rfl,h⟩|⟨rfl,h⟩
  ·exact wp_cond_true (by rw[U6];exact hb) (ihx hro h hG hQ hk)
  ·exact wp_cond_false (by rw[U6];exact hb) (ihy hro h hG hQ hk)
 |block id b ih=>
  intro ro k st f w ν σ ms Q hro h hG hQ hk
  refine wp_block (ih hro h hG (fun c a w=>hQ c a w) fun e st' f' w' ν' σ' ms' hk' hG'=> ?_)
  cases e with
  |exit i=>
   simp only[v4k] at hk'
   simp only[Exit.inBlock]
   cases hb:Nat.beq i id with
   |true=>
    rw[hb] at hk'
    rw[if_pos (Nat.eq_of_beq_eq_true hb)]
    exact hk _ _ _ _ _ _ _ hk' hG'
   |false=>
    rw[hb] at hk'
    rw[if_neg (fun he=>by subst he;simp at hb)]
    exact hk _ _ _ _ _ _ _ hk' hG'
  |_=>exact hk _ _ _ _ _ _ _ hk' hG'
 |loop b ih=>
  intro ro k st f w ν σ ms Q hro h hG hQ hk
  simp only[vcC] at h
  split at h
  ·exact h.elim
  ·rename_i sp _
   obtain⟨robj,hr,h⟩:=z72 h
   obtain⟨hc,h⟩:=Jc h
   have hc:=j6r hc
   obtain⟨ms1,hG1⟩:=hG.enter hc hr
   have hE:=hG1.roE hc
   obtain⟨t0,ν2,σ2,ms2,hL,hG2⟩:=z71 hP.ok hE hG1 h
   have hL:=y00 hL
   refine w1s (hL (fun t=> ∀f w ν σ ms,G E.D cx ν0 (roOf sp ro st robj) (stOf E.D sp st.next t) f w ν σ ms->w4i E.P b Q (mk n f) w) (fun t Y hYX hb f w ν σ ms hG=> ?_) f w ν2 σ2 ms2 hG2)
   refine w1t (ih (hC _ _ _ _) hb hG (fun c a w=>hQ c a w) fun e st' f' w' ν' σ' ms' hk' hG'=> ?_)
   cases e with
   |normal=>
    obtain⟨t',ν3,σ3,ms3,ht,hG3⟩:=z71 hP.ok hE hG' hk'
    exact hYX t' ht f' w' ν3 σ3 ms3 hG3
   |_=>exact hk _ _ _ _ _ _ _ hk' (hG'.leave hc hr)
 |exit i=>intro ro k st f w ν σ ms Q hro h hG _ hk;exact wp_exit (hk _ _ _ _ _ _ _ h hG)
 |scope b ih=>
  intro ro k st f w ν σ ms Q hro h hG hQ hk
  refine wp_scope_straight (ih hro h hG (fun c a w=>hQ c a w) fun e st' f' w' ν' σ' ms' hk' hG'=> ?_)
  cases e with
  |goto l=>exact hk'.elim
  |_=>exact hk _ _ _ _ _ _ _ hk' hG'
 |ret=>intro ro k st f w ν σ ms Q hro h hG _ hk;exact wp_ret (hk _ _ _ _ _ _ _ h hG)
 |label l=>intro ro k st f w ν σ ms Q hro h hG _ hk;exact wp_label (hk _ _ _ _ _ _ _ h hG)
 |_=>intro ro k st f w ν σ ms Q hro h;exact h.elim
end Go.Fx
end
noncomputable section
set_option maxRecDepth 100000
namespace Go.Fx
open Go Go.RowKit Go.Fl Go.Fl.Lk
variable {S:Sig}{P:Program}{D:Shp S}{ν ν' ν0:Nm}{σ τ:Hv}{n:Nat}{f:Fr}
variable {w:World}{cx:Cx}{ro:Ro S}{st:AS S}{ms:List HObj}{ob:Nat->Option (AO S)}{lkc:Nat->Nat->SV S}{oh:Nat->HObj}
def ElsV(D:Shp S)(σ:Hv)(T:S.C)(xs:List Value)(l:List (S.car T))(k f:Nat)(u:Value):Prop:=
 xs.length=l.length*D.size T/\u.oneCell'=true/\ ∀(i:Nat) x,l[i]? =some x->(D.shape T x).length=D.size T/\ ∀(j:Nat) v s,((xs.drop (i*D.size T)).take (D.size T))[j]? =some v->(D.shape T x)[j]? =some s->(i=k/\j=f/\v=u)∨(¬(i=k/\j=f)/\RepF D σ v s)
theorem ElsV.toH{T:S.C}{xs:List Value}{l:List (S.car T)}{k f q:Nat}{u:Value}(h:ElsV D σ T xs l k f u)(hq:ν q=some u):ElsH D ν σ T xs l k f (.hnd q):=by
 refine⟨h.1,fun i x hx=> ?_⟩
 have hi:=Qa hx
 have hD:=(h.2.2 i x hx).1
 have hc0:=(h.2.2 i x hx).2
 have hb:(i+1)*D.size T<=l.length*D.size T:=Nat.mul_le_mul_right _ hi
 rw[Nat.add_mul,Nat.one_mul] at hb
 have hlen:((xs.drop (i*D.size T)).take (D.size T)).length=D.size T:=by rw[List.length_take,List.length_drop,h.1];omega
 have hsl:(z9q D T i k f (.hnd q) x).length=D.size T:=by unfold z9q;split<;>simp[hD]
 have all: ∀(j:Nat) v s,((xs.drop (i*D.size T)).take (D.size T))[j]? =some v->(z9q D T i k f (.hnd q) x)[j]? =some s->SRep D ν σ v s:=fun j v s hv hs=>by
  obtain⟨z,hz⟩:=getq (l:=D.shape T x) (k:=j) (by rw[hD,←hlen];exact Qa hv)
  have hc:=hc0 j v z hv hz
  unfold z9q at hs
  split at hs
  ·rename_i hik
   by_cases hj:f=j
   ·subst hj
    rw[List.getElem?_set_self (by simp[hD];rw[←hlen];exact Qa hv)] at hs
    cases hs
    rcases hc with ⟨_,_,rfl⟩|⟨no,_⟩
    ·exact .hnd q v hq h.2.1
    ·exact absurd ⟨hik,rfl⟩ no
   ·rw[List.getElem?_set_ne hj,List.getElem?_map,hz] at hs
    cases hs
    rcases hc with ⟨_,e,_⟩|⟨_,hr⟩
    ·exact absurd e.symm hj
    ·exact .f hr
  ·rename_i hik
   rw[List.getElem?_map,hz] at hs
   cases hs
   rcases hc with ⟨e,_⟩|⟨_,hr⟩
   ·exact absurd e hik
   ·exact .f hr
 refine⟨hlen.trans hsl.symm,all,fun v hv=> ?_⟩
 obtain⟨j,hj⟩:=List.mem_iff_getElem?.1 hv
 obtain⟨z,hz⟩:=getq (l:=D.shape T x) (k:=j) (by rw[hD,←hlen];exact Qa hj)
 rcases hc0 j v z hj hz with ⟨_,_,rfl⟩|⟨_,hr⟩
 ·exact h.2.1
 ·exact hr.one
mutual
inductive Lay(D:Shp S)(σ:Hv):Tr S->Value->List HObj->Prop
 |f {x:FV S} {v:Value} (h:RepF D σ v x):Lay D σ (.f x) v []
 |vec {e:TypeId} {T:S.C} {l:List (S.car T)} {v:Value} {xs:List Value} (h:Els D σ T xs l) (hl:l.length<=140737488355328) (h1:v.oneCell'=true):Lay D σ (.vec e T l) v [vec v e (D.size T) l.length xs]
 |arr {T:S.C} {N:Nat} {l:List (S.car T)} {cs:List Value} (hN:l.length=N) (h:Els D σ T cs l):Lay D σ (.arr T N l) (.agg cs.toArray) []
 |map {K V:S.C} {F:S.car K->Option (S.car V)} {b:Nat} {m:S.car K->Option Value} (h: ∀k,ORel (ElV D σ V) (m k) (F k)):Lay D σ (.map K V F) (.map (some b)) [j1b (kenc D K) b m]
 |ptr {ty:TypeId} {ts:List (Tr S)} {b:Nat} {cs:List Value} {ms:List HObj} (h:LayL D σ ts cs ms) (h1: ∀v∈cs,v.oneCell'=true):Lay D σ (.ptr ty ts) (.pointer (some ⟨b,0,none⟩)) (blk b ty cs::ms)
 |agg {ts:List (Tr S)} {cs:List Value} {ms:List HObj} (h:LayL D σ ts cs ms) (h1: ∀v∈cs,v.oneCell'=true):Lay D σ (.agg ts) (.agg cs.toArray) ms
 |el {T:S.C} {x:S.car T} {cs:List Value} (h:RowF D σ cs (D.shape T x)):Lay D σ (.el T x) (.agg cs.toArray) []
 |vech {e e2:TypeId} {T T2:S.C} {l:List (S.car T)} {l2:List (S.car T2)} {k f:Nat} {v u:Value} {xs ys:List Value} (h:ElsV D σ T xs l k f u) (hl:l.length<=140737488355328) (h1:v.oneCell'=true) (h2:Els D σ T2 ys l2) (hl2:l2.length<=140737488355328):
   Lay D σ (.vech e T l k f e2 T2 l2) v [vec v e (D.size T) l.length xs,vec u e2 (D.size T2) l2.length ys]
 |fnc {g:Nat}:Lay D σ (.fnc g) (.func (.func g) #[] #[]) []
inductive LayL(D:Shp S)(σ:Hv):List (Tr S)->List Value->List HObj->Prop
 |nil:LayL D σ [] [] []
 |cons {t:Tr S} {ts:List (Tr S)} {v:Value} {vs:List Value} {ms ms':List HObj} (h:Lay D σ t v ms) (h':LayL D σ ts vs ms'):LayL D σ (t::ts) (v::vs) (ms++ms')
end
mutual
inductive LayB(D:Shp S)(σ:Hv):Tr S->Tr S->Value->List HObj->Value->List HObj->Prop
 |same {t:Tr S} {v0 v1:Value} {m0:List HObj} (h:Lay D σ t v1 []):LayB D σ t .same v0 m0 v1 []
 |v {t t':Tr S} {v0 v1:Value} {m0:List HObj} (h:Lay D σ t' v1 []):LayB D σ t t' v0 m0 v1 []
 |vec {t:Tr S} {v0 v1:Value} {m0:List HObj} {e:TypeId} {T:S.C} {l:List (S.car T)} {xs:List Value} (h:Els D σ T xs l) (hl:l.length<=140737488355328) (h1:v1.oneCell'=true):LayB D σ t (.vec e T l) v0 m0 v1 [vec v1 e (D.size T) l.length xs]
 |kvec {t:Tr S} {v0:Value} {m0:List HObj} {e:TypeId} {T:S.C} {l:List (S.car T)} {xs:List Value} (h:Els D σ T xs l) (hl:l.length<=140737488355328) (h1:v0.oneCell'=true):LayB D σ t (.kvec e T l) v0 m0 v0 [vec v0 e (D.size T) l.length xs]
 |map {t:Tr S} {K V:S.C} {F:S.car K->Option (S.car V)} {b:Nat} {m:S.car K->Option Value} {m0:List HObj} (h: ∀k,ORel (ElV D σ V) (m k) (F k)):LayB D σ t (.map K V F) (.map (some b)) m0 (.map (some b)) [j1b (kenc D K) b m]
 |ptr {ty0 ty:TypeId} {ts0 ts:List (Tr S)} {b:Nat} {cs0 cs:List Value} {m0 ms:List HObj} (h:LayBL D σ ts0 ts cs0 m0 cs ms) (h1: ∀v∈cs,v.oneCell'=true):LayB D σ (.ptr ty0 ts0) (.ptr ty ts) (.pointer (some ⟨b,0,none⟩)) (blk b ty0 cs0::m0) (.pointer (some ⟨b,0,none⟩)) (blk b ty cs::ms)
inductive LayBL(D:Shp S)(σ:Hv):List (Tr S)->List (Tr S)->List Value->List HObj->List Value->List HObj->Prop
 |nil:LayBL D σ [] [] [] [] [] []
 |cons {t0 t:Tr S} {ts0 ts:List (Tr S)} {v0 v:Value} {vs0 vs:List Value} {a0 a m0 m:List HObj} (h:LayB D σ t0 t v0 a0 v a) (h':LayBL D σ ts0 ts vs0 m0 vs m):LayBL D σ (t0::ts0) (t::ts) (v0::vs0) (a0++m0) (v::vs) (a++m)
end
inductive LayT(D:Shp S)(σ:Hv):List (Tr S)->List (Tr S)->List Value->List HObj->List HObj->Prop
 |nil:LayT D σ [] [] [] [] []
 |skip {t0:Tr S} {ts0 ts:List (Tr S)} {v0:Value} {vs:List Value} {a0 m0 m:List HObj} (h':LayT D σ ts0 ts vs m0 m):LayT D σ (t0::ts0) (.same::ts) (v0::vs) (a0++m0) m
 |keep {t0 t:Tr S} {ts0 ts:List (Tr S)} {v0:Value} {vs:List Value} {a0 a m0 m:List HObj} (h:LayB D σ t0 t v0 a0 v0 a) (h':LayT D σ ts0 ts vs m0 m):LayT D σ (t0::ts0) (t::ts) (v0::vs) (a0++m0) (a++m)
theorem RepF.flat{x:FV S}{v:Value}(h:RepF D σ v x)(hf:v2c x=true):RepF D τ v x:=by
 cases h with
 |sl=>cases hf
 |bool b=>exact .bool b
 |int k n=>exact .int k n
 |str s=>exact .str s
 |nils=>exact .nils
 |nilp=>exact .nilp
 |nilm=>exact .nilm
 |nilf=>exact .nilf
 |ifcN=>exact .ifcN
 |ifcS t p=>exact .ifcS t p
 |any v h1 h2=>exact .any v h1 h2
theorem RowF.flat{cs:List Value}{ss:List (FV S)}(h:RowF D σ cs ss)(hf:ss.all v2c=true):RowF D τ cs ss:=⟨h.1,fun j v s hj hs=>(h.2 j v s hj hs).flat (List.all_eq_true.1 hf s (List.mem_of_getElem? hs))⟩
def j1v(D:Shp S):Prop:= ∀T,D.flat T=true-> ∀x,(D.shape T x).all v2c=true
theorem Els.flat(hF:j1v D){T:S.C}(hT:D.flat T=true){xs:List Value}{l:List (S.car T)}(h:Els D σ T xs l):Els D τ T xs l:=⟨h.1,fun i x hx=>(h.2 i x hx).flat (hF T hT x)⟩
mutual
theorem q4v(hF:j1v D): ∀{t:Tr S} {v:Value} {ms:List HObj},v2d D t=true->Lay D σ t v ms->Lay D τ t v ms
 | .f x,_,_,hf,h=>by cases h with|f h=>exact .f (h.flat hf)
 | .same,_,_,hf,_=>by cases hf
 | .vec e T l,_,_,hf,h=>by cases h with|vec h hl h1=>exact .vec (h.flat hF hf) hl h1
 | .kvec e T l,_,_,hf,h=>by cases h
 | .arr T N l,_,_,hf,h=>by cases h with|arr hN h=>exact .arr hN (h.flat hF hf)
 | .map K V F,_,_,hf,h=>by
  cases h with
  |map h=>
   obtain⟨_,hV⟩:=Qu hf
   refine .map fun k=> ?_
   have:=h k
   revert this
   generalize F k=y
   rename_i m _
   generalize m k=u
   intro this
   cases u<;>cases y<;>first|exact this|(obtain⟨cs,h1,h2⟩:=this;exact⟨cs,h1.flat (hF V hV _),h2⟩)
 | .ptr ty ts,_,_,hf,h=>by cases h with|ptr h h1=>exact .ptr (z51 hF hf h) h1
 | .agg ts,_,_,hf,h=>by cases h with|agg h h1=>exact .agg (z51 hF hf h) h1
 | .el T x,_,_,hf,h=>by cases h with|el h=>exact .el (h.flat (hF T hf x))
 | .vech ..,_,_,hf,_=>by cases hf
 | .fnc _,_,_,hf,_=>by cases hf
theorem z51(hF:j1v D): ∀{ts:List (Tr S)} {vs:List Value} {ms:List HObj},z9a D ts=true->LayL D σ ts vs ms->LayL D τ ts vs ms
 |[],_,_,_,h=>by cases h;exact .nil
 |t::ts,_,_,hf,h=>by
  obtain⟨h1,h2⟩:=Qu hf
  cases h with
  |cons h h'=>exact .cons (q4v hF h1 h) (z51 hF h2 h')
end
mutual
theorem j9i(hF:j1v D): ∀{t t0:Tr S} {v0 v:Value} {m0 ms:List HObj},v2d D t=true->LayB D σ t0 t v0 m0 v ms->LayB D τ t0 t v0 m0 v ms
 | .f x,_,_,_,_,_,hf,h=>by cases h with|v h=>exact .v (q4v hF hf h)
 | .same,_,_,_,_,_,hf,_=>by cases hf
 | .vec e T l,_,_,_,_,_,hf,h=>by
  cases h with
  |v h=>exact .v (q4v hF hf h)
  |vec h hl h1=>exact .vec (h.flat hF hf) hl h1
 | .kvec e T l,_,_,_,_,_,hf,h=>by
  cases h with
  |v h=>exact .v (q4v hF hf h)
  |kvec h hl h1=>exact .kvec (h.flat hF hf) hl h1
 | .arr T N l,_,_,_,_,_,hf,h=>by cases h with|v h=>exact .v (q4v hF hf h)
 | .map K V F,_,_,_,_,_,hf,h=>by
  cases h with
  |v h=>exact .v (q4v hF hf h)
  |map h=>
   obtain⟨_,hV⟩:=Qu hf
   refine .map fun k=> ?_
   have:=h k
   revert this
   generalize F k=y
   rename_i m _
   generalize m k=u
   intro this
   cases u<;>cases y<;>first|exact this|(obtain⟨cs,h1,h2⟩:=this;exact⟨cs,h1.flat (hF V hV _),h2⟩)
 | .ptr ty ts,_,_,_,_,_,hf,h=>by
  cases h with
  |v h=>exact .v (q4v hF hf h)
  |ptr h h1=>exact .ptr (j5n hF hf h) h1
 | .agg ts,_,_,_,_,_,hf,h=>by cases h with|v h=>exact .v (q4v hF hf h)
 | .el T x,_,_,_,_,_,hf,h=>by cases h with|v h=>exact .v (q4v hF hf h)
theorem j5n(hF:j1v D): ∀{ts ts0:List (Tr S)} {vs0 vs:List Value} {m0 ms:List HObj},z9a D ts=true->LayBL D σ ts0 ts vs0 m0 vs ms->LayBL D τ ts0 ts vs0 m0 vs ms
 |[],_,_,_,_,_,_,h=>by cases h;exact .nil
 |t::ts,_,_,_,_,_,hf,h=>by
  obtain⟨h1,h2⟩:=Qu hf
  cases h with
  |cons h h'=>exact .cons (j9i hF h1 h) (j5n hF h2 h')
end
theorem w85(hF:j1v D): ∀{ts0 ts:List (Tr S)} {vs:List Value} {m0 m:List HObj},j5k D ts=true->LayT D σ ts0 ts vs m0 m->LayT D τ ts0 ts vs m0 m:=by
 intro ts0 ts vs m0 m hf h
 induction h with
 |nil=>exact .nil
 |skip _ ih=>exact .skip (ih hf)
 | @keep t0 t ts0 ts v0 vs a0 a m0 m h _ ih=>
  cases t with
  |same=>
   cases h with
   |same _=>exact .skip (ih hf)
   |v h=>cases h
  |_=>obtain⟨h1,h2⟩:=Qu hf;exact .keep (j9i hF h1 h) (ih h2)
def Nilx(a b:List HObj):Prop:= ∀(c:Cx) (w:World) (σ:Hv) (rest:List HObj),St c w σ (a++rest)->St c w σ (b++rest)
theorem Nilx.refl(a:List HObj):Nilx a a:=fun _ _ _ _ h=>h
theorem Nilx.append{a b a' b':List HObj}(h:Nilx a b)(h':Nilx a' b'):Nilx (a++a') (b++b'):=by
 intro c w σ rest hS
 rw[List.append_assoc] at hS
 have h1:=h c w σ _ hS
 have h2:=h1.perm (ms':=a'++(b++rest)) (by rw[←List.append_assoc,←List.append_assoc];exact List.Perm.append_right rest List.perm_append_comm)
 have h3:=h' c w σ _ h2
 exact h3.perm (by rw[←List.append_assoc];exact List.Perm.append_right rest List.perm_append_comm)
theorem Nilx.nil(e:TypeId)(size:Nat):Nilx [] [vec (.slice none 0 0) e size 0 []]:=fun _ _ _ _ h=>h.addNil e size
theorem LayL.frozen: ∀{xs:List (FV S)} {cs:List Value},RowF D σ cs xs->LayL D σ (xs.map Tr.f) cs []
 |[],cs,h=>by
  have:cs=[]:=List.eq_nil_of_length_eq_zero h.1
  subst this;exact .nil
 |x::xs,cs,h=>by
  cases cs with
  |nil=>have:=h.1;cases this
  |cons c cs=>
   have h1:=h.2 0 c x rfl rfl
   exact LayL.cons (ms:=[]) (.f h1) (LayL.frozen ⟨by have:=h.1;simpa using this,fun j v s hj hk=>h.2 (j+1) v s (by simpa using hj) (by simpa using hk)⟩)
theorem v8q{s:SV S}{v:Value}{x:FV S}(hs:SRep D ν σ v s)(h:toC s=some x):RepF D σ v x:=by
 cases hs with
 |f hf=>cases h;exact hf
 |lit b=>cases h;exact .bool b
 |pb p d=>cases h;exact .bool _
 |pbn p d=>cases h;exact .bool _
 |_=>cases h
theorem v2m{s:SV S}{v:Value}{x:FV S}(h:toC s=some x)(hr:RepF D σ v x):SRep D ν σ v s:=by
 cases s with
 |f y=>cases h;exact .f hr
 |lit b=>cases h;cases hr;exact .lit b
 |pb p d neg=>
  cases neg with
  |false=>cases h;cases hr;exact .pb p d
  |true=>cases h;cases hr;exact .pbn p d
 |_=>cases h
theorem w4j{s:SV S}{v:Value}{t:Tr S}{tk fz:List Nat}(hD:D.Ok)(hor: ∀o a,ob o=some a->ORep D ν σ lkc o a (oh o))(hs:SRep D ν σ v s)(h:v2a ob s=some (t,tk,fz))
  (hf: ∀o e T l v,o∈fz->ob o=some (.vec e T l)->ν o=some v->RepF D σ v (.sl T l)):tk=[]/\Lay D σ t v []:=by
 have one: ∀{s:SV S},SRep D ν σ v s->(match toF ob s with|some (x,b)=>some (Tr.f x,([]:List Nat),b)|none=>none)=some (t,tk,fz)->tk=[]/\Lay D σ t v []:=by
  intro s hs h
  split at h
  ·rename_i x b hx
   cases h
   rcases w38 hD hor hs hx with ⟨_,h1⟩|⟨o,e,T,l,h0,rfl,hob,hν⟩
   ·exact⟨rfl,.f h1⟩
   ·subst h0
    exact⟨rfl,.f (hf o e T l v (by simp) hob hν)⟩
  ·cases h
 cases hs with
 |agg cs ss hl hr h1=>
  simp only[v2a] at h
  split at h
  case h_2=>cases h
  rename_i xs b hxs
  cases h
  have hrow:=z4s hD hor (Sub.refl σ) ⟨hl,hr,h1⟩ hxs hf
  exact⟨rfl,.agg (LayL.frozen hrow) h1⟩
 |arr cs T N l hN hl hr=>cases h;exact⟨rfl,.arr hN ⟨hl,hr⟩⟩
 |f hf'=>exact one (.f hf') h
 |lit b=>exact one (.lit b) h
 |pb p d=>exact one (.pb p d) h
 |pbn p d=>exact one (.pbn p d) h
 |tup cs ss hl hr=>exact one (.tup cs ss hl hr) h
 |ref o off b hν=>exact one (.ref o off b hν) h
 |eref T o i off b m cap hν hi=>exact one (.eref T o i off b m cap hν hi) h
 |aref T N o i off b hν hi=>exact one (.aref T N o i off b hν hi) h
 |fptr ad cs l off hr hR=>exact one (.fptr ad cs l off hr hR) h
 |fap ad cs T N l hN hr hl hR=>exact one (.fap ad cs T N l hN hr hl hR) h
 |hnd o v hν h1=>exact one (.hnd o v hν h1) h
 |cut o sz lo hi a len cap hν h0 hc=>exact one (.cut o sz lo hi a len cap hν h0 hc) h
 |fn g a b first cap h1 h2 h3 h4=>exact one (.fn g a b first cap h1 h2 h3 h4) h
 |und=>exact one .und h
 |dead=>exact one (.dead _) h
theorem v6d{T:S.C}{v:Value}(h:RepF D σ v .nils):RepF D σ v (.sl T []):=by
 cases h
 exact .sl T [] none 0 (fun _ _=>undef) (Nat.le_refl _) (by simp) (fun i x hx=>by simp at hx) (fun i x j s hx=>by simp at hx)
theorem w4k{s:SV S}{v:Value}{T:S.C}{t:Tr S}{tk fz:List Nat}(hD:D.Ok)(hor: ∀o a,ob o=some a->ORep D ν σ lkc o a (oh o))(hs:SRep D ν σ v s)(h:v2b ob T s=some (t,tk,fz))
  (hf: ∀o e T l v,o∈fz->ob o=some (.vec e T l)->ν o=some v->RepF D σ v (.sl T l)):tk=[]/\Lay D σ t v []:=by
 unfold v2b at h
 split at h
 ·cases h
  cases hs with
  |f hs=>exact⟨rfl,.f (v6d hs)⟩
 ·split at h
  case h_2=>cases h
  rename_i T' l b hx
  split at h
  case h_2=>cases h
  rename_i e _
  cases h
  subst e
  rcases w38 hD hor hs hx with ⟨_,h1⟩|⟨o,e,T,l,h0,h1,hob,hν⟩
  ·exact⟨rfl,.f h1⟩
  ·cases h1
   subst h0
   exact⟨rfl,.f (hf o e _ _ v (by simp) hob hν)⟩
theorem v2n{s:SV S}{v:Value}{T:S.C}{t:Tr S}{tk fz:List Nat}(hD:D.Ok)(hor: ∀o a,ob o=some a->ORep D ν σ lkc o a (oh o))(hs:SRep D ν σ v s)(h:v5v D ob T s=some (t,tk,fz))
  (hf: ∀o e T l v,o∈fz->ob o=some (.vec e T l)->ν o=some v->RepF D σ v (.sl T l)):tk=[]/\Lay D σ t v []:=by
 unfold v5v at h
 split at h
 case h_2=>cases h
 split at h
 case h_2=>cases h
 rename_i xs b hxs
 split at h
 case h_2=>cases h
 rename_i x hx
 cases h
 cases hs with
 |agg cs _ hl hr h1=>
  have hrow:=z4s hD hor (Sub.refl σ) ⟨hl,hr,h1⟩ hxs hf
  exact⟨rfl,.el (hD.bld T xs x σ cs hx hrow)⟩
theorem q2e{tko:List (Nat×AO S)}{ins:List HObj}(h:tko.map (·.1)=[])(ho:Objs D ν σ lkc tko ins):ins=[]:=by
 cases tko with
 |cons=>cases h
 |nil=>cases ins with
  |nil=>rfl
  |cons=>exact ho.elim
mutual
theorem v2o(hD:D.Ok)(hor: ∀o a,ob o=some a->ORep D ν σ lkc o a (oh o)): ∀{pk:PK S} {s:SV S} {v:Value} {t:Tr S} {tk fz:List Nat} {tko:List (Nat×AO S)} {ins:List HObj},SRep D ν σ v s->gath D ob lkc pk s=some (t,tk,fz)->
  tko.map (·.1)=tk->(∀q∈tko,ob q.1=some q.2)->Objs D ν σ lkc tko ins->(∀o e T l v,o∈fz->ob o=some (.vec e T l)->ν o=some v->RepF D σ v (.sl T l))-> ∃ins',Lay D σ t v ins'/\Nilx ins ins'
 | .v,s,v,t,tk,fz,tko,ins,hs,h,ht,_,ho,hf=>by
  simp only[gath] at h
  obtain⟨rfl,hl⟩:=w4j hD hor hs h hf
  have:=q2e ht ho
  subst this
  exact⟨[],hl,Nilx.refl _⟩
 | .sl T,s,v,t,tk,fz,tko,ins,hs,h,ht,_,ho,hf=>by
  simp only[gath] at h
  obtain⟨rfl,hl⟩:=w4k hD hor hs h hf
  have:=q2e ht ho
  subst this
  exact⟨[],hl,Nilx.refl _⟩
 | .el T,s,v,t,tk,fz,tko,ins,hs,h,ht,_,ho,hf=>by
  simp only[gath] at h
  obtain⟨rfl,hl⟩:=v2n hD hor hs h hf
  have:=q2e ht ho
  subst this
  exact⟨[],hl,Nilx.refl _⟩
 | .fnc g,s,v,t,tk,fz,tko,ins,hs,h,ht,_,ho,_=>by
  simp only[gath] at h
  split at h
  case h_2=>cases h
  rename_i g'
  have hg:Nat.beq g' g=true:=by
   cases hb:Nat.beq g' g with
   |true=>rfl
   |false=>rw[hb] at h;cases h
  rw[hg] at h;cases h
  have:=q2e ht ho
  subst this
  have hg:=Nat.eq_of_beq_eq_true hg
  subst hg
  cases hs with
  |fn _ a b _ _ hl _ hl' _=>
   have ea:=List.eq_nil_of_length_eq_zero (hl.trans rfl)
   have eb:=List.eq_nil_of_length_eq_zero (hl'.trans rfl)
   subst ea eb
   exact⟨[],.fnc,Nilx.refl _⟩
 | .c,s,v,t,tk,fz,tko,ins,hs,h,ht,_,ho,_=>by
  simp only[gath] at h
  cases hc:toC s with
  |none=>rw[hc] at h;cases h
  |some x=>
   rw[hc] at h;cases h
   have:=q2e ht ho
   subst this
   exact⟨[],.f (v8q hs hc),Nilx.refl _⟩
 | .own e T,s,v,t,tk,fz,tko,ins,hs,h,ht,hq,ho,_=>by
  simp only[gath] at h
  split at h
  case h_2=>cases h
  rename_i a l hown
  cases h
  rcases z7t hown with ⟨rfl,rfl,rfl⟩|⟨o,rfl,rfl,hob⟩
  ·have:=q2e ht ho
   subst this
   have hv:=q9f hs
   subst hv
   exact⟨_,.vec (xs:=[]) ⟨by simp,fun i x hx=>by simp at hx⟩ (by simp) rfl,Nilx.nil e (D.size T)⟩
  ·match tko,ht,hq,ho with
   |[q],ht,hq,ho=>
    match ins,ho with
    |[m],ho=>
     obtain⟨o',a⟩:=q
     simp at ht
     subst ht
     have ha:=hq (o',a) (by simp)
     simp only at ha
     rw[hob] at ha;cases ha
     obtain⟨u,xs,hν,hm,hE,hl⟩:=ho.1
     subst hm
     have hv:=Vq hs hν
     subst hv
     have h1:v.oneCell'=true:=by cases hs with|hnd _ _ _ h=>exact h
     exact⟨_,.vec hE hl h1,Nilx.refl _⟩
 | .kow e T,s,v,t,tk,fz,tko,ins,hs,h,ht,hq,ho,_=>by
  simp only[gath] at h
  split at h
  case h_2=>cases h
  rename_i o1 l hown
  cases h
  rcases z7t hown with ⟨rfl,h0,rfl⟩|⟨o,rfl,h0,hob⟩
  ·cases h0
  ·cases h0
   match tko,ht,hq,ho with
   |[q],ht,hq,ho=>
    match ins,ho with
    |[m],ho=>
     obtain⟨o',a⟩:=q
     simp at ht
     subst ht
     have ha:=hq (o',a) (by simp)
     simp only at ha
     rw[hob] at ha;cases ha
     obtain⟨u,xs,hν,hm,hE,hl⟩:=ho.1
     subst hm
     have hv:=Vq hs hν
     subst hv
     have h1:v.oneCell'=true:=by cases hs with|hnd _ _ _ h=>exact h
     exact⟨_,.vec hE hl h1,Nilx.refl _⟩
 | .map K V,s,v,t,tk,fz,tko,ins,hs,h,ht,hq,ho,_=>by
  simp only[gath] at h
  split at h
  case h_2=>cases h
  rename_i o
  split at h
  case h_2=>cases h
  rename_i K' V' F hob
  split at h
  case h_2=>cases h
  rename_i e1 e2 _ _
  cases h
  subst e1 e2
  match tko,ht,hq,ho with
  |[q],ht,hq,ho=>
   match ins,ho with
   |[m],ho=>
    obtain⟨o',a⟩:=q
    simp at ht
    subst ht
    have ha:=hq (o',a) (by simp)
    simp only at ha
    rw[hob] at ha;cases ha
    obtain⟨b,mm,hν,hm,hF⟩:=ho.1
    subst hm
    have hv:=Vq hs hν
    subst hv
    exact⟨_,.map hF,Nilx.refl _⟩
 | .ptr ty pk,s,v,t,tk,fz,tko,ins,hs,h,ht,hq,ho,hf=>by
  simp only[gath] at h
  split at h
  case h_2=>cases h
  rename_i o
  split at h
  case h_2=>cases h
  rename_i ty' l hob
  cases hb:Nat.beq ty ty' with
  |false=>rw[hb] at h;cases h
  |true=>
   rw[hb] at h
   have hb:=Nat.eq_of_beq_eq_true hb
   subst hb
   simp only[cond_true] at h
   split at h
   case h_2=>cases h
   rename_i ts a b hg
   cases h
   match tko,ht,hq,ho with
   |q::tko,ht,hq,ho=>
    match ins,ho with
    |m::ins,ho=>
     obtain⟨o',ao⟩:=q
     injection ht with h1 h2
     simp only at h1
     subst h1
     have ha:=hq (o',ao) (by simp)
     simp only at ha
     rw[hob] at ha;cases ha
     obtain⟨b',cs,hν,hm,hrow⟩:=ho.1
     subst hm
     cases hs with
     |ref _ _ b2 hν2=>
      rw[hν] at hν2;cases hν2
      obtain⟨ins',hl,hx⟩:=z1k hD hor (pk:=pk) hrow.1 hrow.2.1 hg h2 (fun q hq'=>hq q (by simp[hq'])) ho.2 hf
      exact⟨_,.ptr hl hrow.2.2,Nilx.append (Nilx.refl [_]) hx⟩
 | .agg pk,s,v,t,tk,fz,tko,ins,hs,h,ht,hq,ho,hf=>by
  simp only[gath] at h
  split at h
  case h_2=>cases h
  rename_i l
  split at h
  case h_2=>cases h
  rename_i ts a b hg
  cases h
  cases hs with
  |agg cs _ hl hr h1=>
   obtain⟨ins',hl,hx⟩:=z1k hD hor (pk:=pk) hl hr hg ht hq ho hf
   exact⟨_,.agg hl h1,hx⟩
theorem z1k(hD:D.Ok)(hor: ∀o a,ob o=some a->ORep D ν σ lkc o a (oh o)): ∀{pk:List (PK S)} {ss:List (SV S)} {vs:List Value} {ts:List (Tr S)} {tk fz:List Nat} {tko:List (Nat×AO S)} {ins:List HObj},vs.length=ss.length->
  (∀(j:Nat) v s,vs[j]? =some v->ss[j]? =some s->SRep D ν σ v s)->z5x D ob lkc pk ss=some (ts,tk,fz)->
  tko.map (·.1)=tk->(∀q∈tko,ob q.1=some q.2)->Objs D ν σ lkc tko ins->(∀o e T l v,o∈fz->ob o=some (.vec e T l)->ν o=some v->RepF D σ v (.sl T l))-> ∃ins',LayL D σ ts vs ins'/\Nilx ins ins'
 |[],ss,vs,ts,tk,fz,tko,ins,hl,_,h,ht,_,ho,_=>by
  cases ss with
  |cons=>cases h
  |nil=>
   cases h
   cases vs with
   |cons=>cases hl
   |nil=>
    have:=q2e ht ho
    subst this
    exact⟨[],.nil,Nilx.refl _⟩
 |p::pk,ss,vs,ts,tk,fz,tko,ins,hl,hr,h,ht,hq,ho,hf=>by
  cases ss with
  |nil=>cases h
  |cons s ss=>
   cases vs with
   |nil=>cases hl
   |cons v vs=>
    simp only[z5x] at h
    split at h
    case h_2=>cases h
    rename_i t a b ts' a' b' h1 h2
    cases h
    obtain⟨tko1,tko2,rfl,ht1,ht2⟩:=List.map_eq_append_iff.1 ht
    obtain⟨m1,m2,rfl,ho1,ho2⟩:=ho.split
    obtain⟨i1,hl1,hx1⟩:=v2o hD hor (pk:=p) (hr 0 v s rfl rfl) h1 ht1 (fun q hq'=>hq q (by simp[hq'])) ho1 (fun o e T l v hm=>hf o e T l v (by simp[hm]))
    obtain⟨i2,hl2,hx2⟩:=z1k hD hor (pk:=pk) (by simpa using hl) (fun j v s hj hk=>hr (j+1) v s (by simpa using hj) (by simpa using hk)) h2 ht2 (fun q hq'=>hq q (by simp[hq'])) ho2 (fun o e T l v hm=>hf o e T l v (by simp[hm]))
    exact⟨_,.cons hl1 hl2,Nilx.append hx1 hx2⟩
end
end Go.Fx
end
noncomputable section
set_option maxRecDepth 100000
namespace Go.Fx
open Go Go.RowKit Go.Fl Go.Fl.Lk
variable {S:Sig}{P:Program}{D:Shp S}{ν ν' ν0 ν1:Nm}{σ τ σ0 σ1:Hv}{n:Nat}{f:Fr}
variable {w w0:World}{cx:Cx}{ro:Ro S}{st:AS S}{ms:List HObj}{ob os:Nat->Option (AO S)}{lkc:Nat->Nat->SV S}{oh:Nat->HObj}
theorem w86{g:Nat->SV S}: ∀{l:List (SV S)} {k i:Nat},(resL g k l)[i]? =(l[i]?).map (res1 (g (k+i)))
 |[],_,_=>by simp[resL]
 |s::l,k,0=>by rw[q0p];simp
 |s::l,k,i+1=>by
  rw[q0p,List.getElem?_cons_succ,w86,List.getElem?_cons_succ]
  congr 3;omega
theorem v6e{x s:SV S}(h:s≠ .lk):res1 x s=s:=by cases s<;>first|rfl|exact absurd rfl h
theorem w87{b b' T T':Nat}{cs cs':List Value}(h:(blk b T cs).ok w)(h':(blk b' T' cs').ok w)(hb:b=b'):cs=cs':=by
 subst hb
 have h1:=j80 h
 rw[j80 h'] at h1
 injection h1 with h1
 injection h1 with h1
 exact (congrArg Array.toList h1).symm
theorem j6s{v:Value}{o:Nat}(h:SRep D ν σ v (.ref o 0)): ∃b,v= .pointer (some ⟨b,0,none⟩)/\ν o=some v:=by
 cases h with
 |ref _ _ b h=>exact⟨b,rfl,h⟩
mutual
theorem v6f: ∀{t:Tr S} {v:Value} {ms:List HObj} {nx nx':Nat} {s:SV S} {os:List (Nat×AO S)} {ν:Nm},Lay D σ t v ms->inst D t nx=some (s,os,nx')->(∀o,nx<=o->ν o=none)->
  ∃ν',Ext ν ν'/\(∀o,nx'<=o->ν' o=none)/\SRep D ν' σ v s/\Objs D ν' σ lkc os ms/\nx<=nx'/\(∀q∈os,nx<=q.1/\q.1<nx')/\(os.map (·.1)).Nodup
 | .f x,v,ms,nx,nx',s,os,ν,hl,hi,hf=>by
  cases hl with
  |f h=>cases hi;exact⟨ν,Ext.refl ν,hf,.f h,trivial,Nat.le_refl _,by simp,by simp⟩
 | .same,_,_,_,_,_,_,_,_,hi,_=>by cases hi
 | .vec e T l,v,ms,nx,nx',s,os,ν,hl,hi,hf=>by
  cases hl with
  |vec hE hlen h1=>
   cases hi
   refine⟨ν.add nx v,Nm.add_ext (hf nx (Nat.le_refl _)),fun o ho=> ?_,.hnd nx v Nm.add_self h1,⟨⟨v,_,Nm.add_self,rfl,hE,hlen⟩,trivial⟩,Nat.le_succ _,by simp,by simp⟩
   unfold Nm.add;rw[if_neg (by omega)];exact hf o (by omega)
 | .kvec _ _ _,_,_,_,_,_,_,_,_,hi,_=>by cases hi
 | .arr T N l,v,ms,nx,nx',s,os,ν,hl,hi,hf=>by
  cases hl with
  |arr hN hE=>cases hi;exact⟨ν,Ext.refl ν,hf,.arr _ T N l hN hE.1 hE.2,trivial,Nat.le_refl _,by simp,by simp⟩
 | .map K V F,v,ms,nx,nx',s,os,ν,hl,hi,hf=>by
  cases hl with
  |map hF=>
   cases hi
   refine⟨ν.add nx _,Nm.add_ext (hf nx (Nat.le_refl _)),fun o ho=> ?_,.hnd nx _ Nm.add_self rfl,⟨⟨_,_,Nm.add_self,rfl,hF⟩,trivial⟩,Nat.le_succ _,by simp,by simp⟩
   unfold Nm.add;rw[if_neg (by omega)];exact hf o (by omega)
 | .ptr ty ts,v,ms,nx,nx',s,os,ν,hl,hi,hf=>by
  cases hl with
  | @ptr _ _ b cs ms hl h1=>
   simp only[inst] at hi
   split at hi
   case h_2=>cases hi
   rename_i ss os' nx2 hi'
   cases hi
   obtain⟨ν',hx,hfr,hlen,hs,ho,hle,hnm,hnd⟩:=z26 (ν:=ν.add nx (.pointer (some ⟨b,0,none⟩))) hl hi' (fun o ho=>by unfold Nm.add;rw[if_neg (by omega)];exact hf o (by omega))
   have hself:=hx _ _ (Nm.add_self (ν:=ν) (o:=nx) (v:= .pointer (some ⟨b,0,none⟩)))
   have hrow:RowS D ν' σ cs ss:=⟨hlen,hs,h1⟩
   refine⟨ν',(Nm.add_ext (hf nx (Nat.le_refl _))).trans hx,hfr,.ref nx 0 b hself,⟨⟨b,cs,hself,rfl,by rw[j1i hrow];exact hrow⟩,ho⟩,by omega,fun q hq=> ?_,?_⟩
   ·rcases List.mem_cons.1 hq with rfl|hq
    ·exact⟨Nat.le_refl _,by simp only;omega⟩
    ·have:=hnm q hq;omega
   ·rw[List.map_cons,List.nodup_cons]
    refine⟨fun hm=> ?_,hnd⟩
    obtain⟨q,hq,he⟩:=List.mem_map.1 hm
    have:=hnm q hq
    simp only at he
    omega
 | .el T x,v,ms,nx,nx',s,os,ν,hl,hi,hf=>by
  cases hl with
  |el hr=>
   cases hi
   have hS:=hr.toS (ν:=ν)
   exact⟨ν,Ext.refl ν,hf,.agg _ _ hS.1 hS.2.1 hS.2.2,trivial,Nat.le_refl _,by simp,by simp⟩
 | .agg ts,v,ms,nx,nx',s,os,ν,hl,hi,hf=>by
  cases hl with
  |agg hl h1=>
   simp only[inst] at hi
   split at hi
   case h_2=>cases hi
   rename_i ss os' nx2 hi'
   cases hi
   obtain⟨ν',hx,hfr,hlen,hs,ho,hr⟩:=z26 hl hi' hf
   exact⟨ν',hx,hfr,.agg _ _ hlen hs h1,ho,hr⟩
 | .vech e T l k fh e2 T2 l2,v,ms,nx,nx',s,os,ν,hl,hi,hf=>by
  cases hl with
  | @vech _ _ _ _ _ _ _ _ _ u xs ys hE hlen h1 h2 hlen2=>
   cases hi
   have x1:Ext ν (ν.add nx v):=Nm.add_ext (hf nx (Nat.le_refl _))
   have f1:(ν.add nx v) (nx+1)=none:=by unfold Nm.add;rw[if_neg (by omega)];exact hf _ (by omega)
   have x2:Ext (ν.add nx v) ((ν.add nx v).add (nx+1) u):=Nm.add_ext f1
   have s1:((ν.add nx v).add (nx+1) u) nx=some v:=x2 _ _ Nm.add_self
   have s2:((ν.add nx v).add (nx+1) u) (nx+1)=some u:=Nm.add_self
   refine⟨(ν.add nx v).add (nx+1) u,x1.trans x2,fun o ho=> ?_,.hnd nx v s1 h1,⟨⟨v,_,s1,rfl,hE.toH s2,hlen⟩,⟨u,_,s2,rfl,h2,hlen2⟩,trivial⟩,by omega,by simp,by simp⟩
   unfold Nm.add;rw[if_neg (by omega),if_neg (by omega)];exact hf o (by omega)
 | .fnc g,v,ms,nx,nx',s,os,ν,hl,hi,hf=>by
  cases hl with
  |fnc=>cases hi;exact⟨ν,Ext.refl ν,hf,.fn g [] [] [] [] rfl (fun _ _ _ h=>by cases h) rfl (fun _ _ _ h=>by cases h),trivial,Nat.le_refl _,by simp,by simp⟩
theorem z26: ∀{ts:List (Tr S)} {vs:List Value} {ms:List HObj} {nx nx':Nat} {ss:List (SV S)} {os:List (Nat×AO S)} {ν:Nm},LayL D σ ts vs ms->z9s D ts nx=some (ss,os,nx')->(∀o,nx<=o->ν o=none)->
  ∃ν',Ext ν ν'/\(∀o,nx'<=o->ν' o=none)/\vs.length=ss.length/\(∀(j:Nat) v s,vs[j]? =some v->ss[j]? =some s->SRep D ν' σ v s)/\Objs D ν' σ lkc os ms/\nx<=nx'/\(∀q∈os,nx<=q.1/\q.1<nx')/\(os.map (·.1)).Nodup
 |[],vs,ms,nx,nx',ss,os,ν,hl,hi,hf=>by
  cases hl;cases hi
  exact⟨ν,Ext.refl ν,hf,rfl,fun j v s hj=>by simp at hj,trivial,Nat.le_refl _,by simp,by simp⟩
 |t::ts,vs,ms,nx,nx',ss,os,ν,hl,hi,hf=>by
  cases hl with
  |cons h h'=>
   simp only[z9s] at hi
   split at hi
   case h_2=>cases hi
   rename_i s a nx1 hi1
   split at hi
   case h_2=>cases hi
   rename_i r b nx2 hi2
   cases hi
   obtain⟨ν1,hx1,hf1,hs1,ho1,hle1,hnm1,hnd1⟩:=v6f h hi1 hf
   obtain⟨ν2,hx2,hf2,hlen,hs2,ho2,hle2,hnm2,hnd2⟩:=z26 h' hi2 hf1
   refine⟨ν2,hx1.trans hx2,hf2,by simp[hlen],fun j v s hj hk=> ?_,(ho1.mono hx2 (Sub.refl _)).append ho2,by omega,fun q hq=> ?_,?_⟩
   ·cases j with
    |zero=>simp at hj hk;subst hj hk;exact hs1.mono hx2 (Sub.refl _)
    |succ j=>exact hs2 j v s (by simpa using hj) (by simpa using hk)
   ·rcases List.mem_append.1 hq with hq|hq
    ·have:=hnm1 q hq;omega
    ·have:=hnm2 q hq;omega
   ·rw[List.map_append,List.nodup_append]
    refine⟨hnd1,hnd2,fun x hx y hy he=> ?_⟩
    obtain⟨q,hq,rfl⟩:=List.mem_map.1 hx
    obtain⟨q',hq',rfl⟩:=List.mem_map.1 hy
    have h1:=hnm1 q hq
    have h2:=hnm2 q' hq'
    omega
end
mutual
theorem w88(hor: ∀o a,ob o=some a->ORep D ν σ lkc o a (oh o)/\(oh o).ok w): ∀{pk:PK S} {o s:SV S} {t0 t:Tr S} {v0 v1:Value} {m0 m:List HObj} {tk fz:List Nat} {nx nx':Nat} {s':SV S} {os:List (Nat×AO S)} {ν1:Nm},
  SRep D ν σ v0 s->gath D ob lkc pk s=some (t0,tk,fz)->LayB D σ1 t0 t v0 m0 v1 m->(∀q∈m0,q.ok w)->upd1 ob lkc pk o s t nx=some (s',os,nx')->Ext ν ν1->(∀k,nx<=k->ν1 k=none)->
  ∃ν2,Ext ν1 ν2/\(∀k,nx'<=k->ν2 k=none)/\SRep D ν2 σ1 v1 (res1 s s')/\(s'= .lk->o= .lk)/\Objs D ν2 σ1 lkc os m
 | .c,o,s,t0,t,v0,v1,m0,m,tk,fz,nx,nx',s',os,ν1,hs,hg,hB,hok,hu,hx,hf=>by
  simp only[gath] at hg
  cases hc:toC s with
  |none=>rw[hc] at hg;cases hg
  |some x=>
   rw[hc] at hg;cases hg
   simp only[upd1] at hu
   split at hu
   case h_2=>cases hu
   cases hB with
   |v h=>cases h
   |same h=>
    cases h with
    |f h=>
     split at hu
     ·cases hu
      exact⟨ν1,Ext.refl _,hf,v2m hc h,fun _=>rfl,trivial⟩
     ·rw[hc] at hu;cases hu
      exact⟨ν1,Ext.refl _,hf,.f h,(fun h=>by cases h),trivial⟩
 | .v,o,s,t0,t,v0,v1,m0,m,tk,fz,nx,nx',s',os,ν1,hs,hg,hB,hok,hu,hx,hf=>by
  simp only[upd1] at hu
  split at hu
  ·cases hu
  ·cases hu
   cases hB with
   |v h=>cases h with|f h=>exact⟨ν1,Ext.refl _,hf,.f h,(fun h=>by cases h),trivial⟩
  ·cases hu
 | .sl T,o,s,t0,t,v0,v1,m0,m,tk,fz,nx,nx',s',os,ν1,hs,hg,hB,hok,hu,hx,hf=>by
  simp only[upd1] at hu
  split at hu
  ·cases hu
  ·cases hu
   cases hB with
   |v h=>cases h with|f h=>exact⟨ν1,Ext.refl _,hf,.f h,(fun h=>by cases h),trivial⟩
  ·cases hu
 | .el T,o,s,t0,t,v0,v1,m0,m,tk,fz,nx,nx',s',os,ν1,hs,hg,hB,hok,hu,hx,hf=>by
  simp only[upd1] at hu;cases hu
 | .own e T,o,s,t0,t,v0,v1,m0,m,tk,fz,nx,nx',s',os,ν1,hs,hg,hB,hok,hu,hx,hf=>by
  simp only[upd1] at hu
  split at hu
  ·cases hu
  ·cases hu
   cases hB with
   |v h=>cases h
   |vec hE hlen h1=>
    refine⟨ν1.add nx v1,Nm.add_ext (hf nx (Nat.le_refl _)),fun o ho=> ?_,.hnd nx v1 Nm.add_self h1,(fun h=>by cases h),⟨⟨v1,_,Nm.add_self,rfl,hE,hlen⟩,trivial⟩⟩
    unfold Nm.add;rw[if_neg (by omega)];exact hf o (by omega)
  ·cases hu
 | .kow e T,o,s,t0,t,v0,v1,m0,m,tk,fz,nx,nx',s',os,ν1,hs,hg,hB,hok,hu,hx,hf=>by
  simp only[upd1] at hu
  split at hu
  case h_2=>cases hu
  rename_i k e' T' l
  cases hB with
  |v h=>cases h
  |kvec hE hlen h0=>
   cases hs with
   |hnd _ _ hν h1=>
    have h2:SRep D ν1 σ1 _ (SV.hnd k):= .hnd k _ (hx _ _ hν) h1
    split at hu
    ·cases hu
     exact⟨ν1,Ext.refl _,hf,h2,fun _=>rfl,⟨⟨_,_,hx _ _ hν,rfl,hE,hlen⟩,trivial⟩⟩
    ·cases hu
     exact⟨ν1,Ext.refl _,hf,h2,(fun h=>by cases h),⟨⟨_,_,hx _ _ hν,rfl,hE,hlen⟩,trivial⟩⟩
 | .map K V,o,s,t0,t,v0,v1,m0,m,tk,fz,nx,nx',s',os,ν1,hs,hg,hB,hok,hu,hx,hf=>by
  simp only[upd1] at hu
  split at hu
  case h_2=>cases hu
  rename_i k K' V' F
  cases hB with
  |v h=>cases h
  |map hF=>
   cases hs with
   |hnd _ _ hν h1=>
    have h2:SRep D ν1 σ1 _ (SV.hnd k):= .hnd k _ (hx _ _ hν) h1
    split at hu
    ·cases hu
     exact⟨ν1,Ext.refl _,hf,h2,fun _=>rfl,⟨⟨_,_,hx _ _ hν,rfl,hF⟩,trivial⟩⟩
    ·cases hu
     exact⟨ν1,Ext.refl _,hf,h2,(fun h=>by cases h),⟨⟨_,_,hx _ _ hν,rfl,hF⟩,trivial⟩⟩
 | .ptr ty0 pk,o,s,t0,t,v0,v1,m0,m,tk,fz,nx,nx',s',os,ν1,hs,hg,hB,hok,hu,hx,hf=>by
  simp only[upd1] at hu
  split at hu
  case h_2=>cases hu
  rename_i k ty ts
  split at hu
  case h_2=>cases hu
  rename_i ty2 l hob
  split at hu
  case h_2=>cases hu
  rename_i cs os' nx2 hu'
  simp only[gath,hob] at hg
  obtain⟨_,hg⟩:Nat.beq ty0 ty2=true/\(match z5x D ob lkc pk (resL (lkc k) 0 l) with
    |some (ts,a,b)=>some (Tr.ptr ty0 ts,k::a,b)
    |none=>none)=some (t0,tk,fz):=by
   cases hb:Nat.beq ty0 ty2 with
   |true=>rw[hb] at hg;exact⟨rfl,hg⟩
   |false=>rw[hb] at hg;cases hg
  split at hg
  case h_2=>cases hg
  rename_i ts0 a b hg'
  cases hg
  cases hB with
  |v h=>cases h
  | @ptr _ _ _ _ b cs0 cs1 m0 ms hL h1=>
   obtain⟨_,hbe,hν⟩:=j6s hs
   ·cases hbe
    obtain⟨⟨b2,cs2,hν2,hoh,hrow⟩,hohok⟩:=hor k _ hob
    rw[hν] at hν2;cases hν2
    rw[hoh] at hohok
    have he:=w87 hohok (hok (blk b ty0 cs0) (by simp)) rfl
    subst he
    obtain⟨ν2,hx2,hf2,hl1,hl2,hs2,ho2⟩:=w89 hor (pk:=pk) hrow.1 hrow.2.1 hg' hL (fun q hq=>hok q (by simp[hq])) hu' hx hf
    have hk2:=hx2 _ _ (hx _ _ hν)
    have hrow2:RowS D ν2 σ1 cs1 (resL (lkc k) 0 cs):=by
     refine⟨by rw[j0n,hl2,hl1],fun j v s hj hk=> ?_,h1⟩
     rw[w86] at hk
     obtain⟨sj,hsj⟩:=getq (l:=cs) (k:=j) (by rw[hl1,←hl2];exact Qa hj)
     obtain⟨ssj,hssj⟩:=getq (l:=resL (lkc k) 0 l) (k:=j) (by rw[←hl2];exact Qa hj)
     rw[hsj] at hk;cases hk
     obtain⟨h3,h4⟩:=hs2 j v ssj sj hj hssj hsj
     by_cases hlk:sj= .lk
     ·have h5:=z70 (g:=lkc k) (k:=0) (h4 hlk)
      rw[hssj] at h5;cases h5
      exact h3
     ·rw[v6e hlk] at h3⊢;exact h3
    split at hu
    ·cases hu
     exact⟨ν2,hx2,hf2,.ref k 0 b hk2,fun _=>rfl,⟨⟨b,cs1,hk2,rfl,hrow2⟩,ho2⟩⟩
    ·cases hu
     exact⟨ν2,hx2,hf2,.ref k 0 b hk2,(fun h=>by cases h),⟨⟨b,cs1,hk2,rfl,hrow2⟩,ho2⟩⟩
 | .agg _,o,s,t0,t,v0,v1,m0,m,tk,fz,nx,nx',s',os,ν1,hs,hg,hB,hok,hu,hx,hf=>by
  simp only[upd1] at hu;cases hu
theorem w89(hor: ∀o a,ob o=some a->ORep D ν σ lkc o a (oh o)/\(oh o).ok w): ∀{pk:List (PK S)} {l ss:List (SV S)} {t0s ts:List (Tr S)} {vs0 vs1:List Value} {m0 m:List HObj} {tk fz:List Nat} {nx nx':Nat} {cs:List (SV S)} {os:List (Nat×AO S)} {ν1:Nm},
  vs0.length=ss.length->(∀(j:Nat) v s,vs0[j]? =some v->ss[j]? =some s->SRep D ν σ v s)->z5x D ob lkc pk ss=some (t0s,tk,fz)->LayBL D σ1 t0s ts vs0 m0 vs1 m->(∀q∈m0,q.ok w)->upds ob lkc pk l ss ts nx=some (cs,os,nx')->Ext ν ν1->(∀k,nx<=k->ν1 k=none)->
  ∃ν2,Ext ν1 ν2/\(∀k,nx'<=k->ν2 k=none)/\cs.length=ss.length/\vs1.length=ss.length/\(∀(j:Nat) v s s',vs1[j]? =some v->ss[j]? =some s->cs[j]? =some s'->SRep D ν2 σ1 v (res1 s s')/\(s'= .lk->l[j]? =some .lk))/\Objs D ν2 σ1 lkc os m
 |[],l,ss,t0s,ts,vs0,vs1,m0,m,tk,fz,nx,nx',cs,os,ν1,hl,hs,hg,hB,hok,hu,hx,hf=>by
  cases ss with
  |cons=>cases hg
  |nil=>
   cases hg
   cases hB
   cases l with
   |cons=>cases hu
   |nil=>
    cases hu
    exact⟨ν1,Ext.refl _,hf,rfl,rfl,fun j v s s' hj=>by simp at hj,trivial⟩
 |p::pk,l,ss,t0s,ts,vs0,vs1,m0,m,tk,fz,nx,nx',cs,os,ν1,hl,hs,hg,hB,hok,hu,hx,hf=>by
  cases ss with
  |nil=>cases hg
  |cons s ss=>
   cases l with
   |nil=>cases hu
   |cons o l=>
    simp only[z5x] at hg
    split at hg
    case h_2=>cases hg
    rename_i t0 a b ts0 a' b' hg1 hg2
    cases hg
    cases hB with
    | @cons _ t _ ts v0 v1 vs0 vs1 a0 am m0 m hB hBL=>
     simp only[upds] at hu
     split at hu
     case h_2=>cases hu
     rename_i s' x nx1 hu1
     split at hu
     case h_2=>cases hu
     rename_i r y nx2 hu2
     cases hu
     obtain⟨ν2,hx2,hf2,hr2,hlk2,ho2⟩:=w88 hor (pk:=p) (hs 0 v0 s rfl rfl) hg1 hB (fun q hq=>hok q (by simp[hq])) hu1 hx hf
     obtain⟨ν3,hx3,hf3,hl1,hl2,hr3,ho3⟩:=w89 hor (pk:=pk) (by simpa using hl) (fun j v s hj hk=>hs (j+1) v s (by simpa using hj) (by simpa using hk)) hg2 hBL (fun q hq=>hok q (by simp[hq])) hu2 (hx.trans hx2) hf2
     refine⟨ν3,hx2.trans hx3,hf3,by simp[hl1],by simp[hl2],fun j v s1 s2 hj hk hm=> ?_,(ho2.mono hx3 (Sub.refl _)).append ho3⟩
     cases j with
     |zero=>simp at hj hk hm;subst hj hk hm;exact⟨hr2.mono hx3 (Sub.refl _),fun h=>by rw[hlk2 h];rfl⟩
     |succ j=>
      obtain⟨h1,h2⟩:=hr3 j v s1 s2 (by simpa using hj) (by simpa using hk) (by simpa using hm)
      exact⟨h1,fun h=>by simpa using h2 h⟩
end
theorem w9a(hor: ∀o a,ob o=some a->ORep D ν σ lkc o a (oh o)/\(oh o).ok w): ∀{pk:List (PK S)} {ss:List (SV S)} {t0s ts:List (Tr S)} {vs:List Value} {m0 m:List HObj} {tk fz:List Nat} {nx nx':Nat} {os:List (Nat×AO S)} {ν1:Nm},
  vs.length=ss.length->(∀(j:Nat) v s,vs[j]? =some v->ss[j]? =some s->SRep D ν σ v s)->z5x D ob lkc pk ss=some (t0s,tk,fz)->LayT D σ1 t0s ts vs m0 m->(∀q∈m0,q.ok w)->updT ob lkc pk ss ts nx=some (os,nx')->Ext ν ν1->(∀k,nx<=k->ν1 k=none)->
  ∃ν2,Ext ν1 ν2/\(∀k,nx'<=k->ν2 k=none)/\Objs D ν2 σ1 lkc os m:=by
 intro pk
 induction pk with
 |nil=>
  intro ss t0s ts vs m0 m tk fz nx nx' os ν1 hl hs hg hT hok hu hx hf
  cases ss with
  |cons=>cases hg
  |nil=>
   cases hg
   cases hT
   cases hu
   exact⟨ν1,Ext.refl _,hf,trivial⟩
 |cons p pk ih=>
  intro ss t0s ts vs m0 m tk fz nx nx' os ν1 hl hs hg hT hok hu hx hf
  cases ss with
  |nil=>cases hg
  |cons s ss=>
   simp only[z5x] at hg
   split at hg
   case h_2=>cases hg
   rename_i t0 a b ts0 a' b' hg1 hg2
   cases hg
   have skip: ∀{v:Value} {vs:List Value} {ts:List (Tr S)} {m0' m:List HObj},vs.length=ss.length->(∀(j:Nat) v' s',(v::vs)[j]? =some v'->(s::ss)[j]? =some s'->SRep D ν σ v' s')->LayT D σ1 ts0 ts vs m0' m->(∀q∈m0',q.ok w)->updT ob lkc pk ss ts nx=some (os,nx')->
     ∃ν2,Ext ν1 ν2/\(∀k,nx'<=k->ν2 k=none)/\Objs D ν2 σ1 lkc os m:=
    fun hl hs hT hok hu=>ih hl (fun j v s hj hk=>hs (j+1) v s (by simpa using hj) (by simpa using hk)) hg2 hT hok hu hx hf
   have keep: ∀{t:Tr S} {ts:List (Tr S)} {v:Value} {vs:List Value} {a0 am m0 m:List HObj},vs.length=ss.length->(∀(j:Nat) v' s',(v::vs)[j]? =some v'->(s::ss)[j]? =some s'->SRep D ν σ v' s')->LayB D σ1 t0 t v a0 v am->LayT D σ1 ts0 ts vs m0 m->(∀q∈a0++m0,q.ok w)->
     (match upd1 ob lkc p s s t nx with
      |some (_,a,nx')=>match updT ob lkc pk ss ts nx' with
       |some (b,nx'')=>some (a++b,nx'')
       |none=>none
      |none=>none)=some (os,nx')-> ∃ν2,Ext ν1 ν2/\(∀k,nx'<=k->ν2 k=none)/\Objs D ν2 σ1 lkc os (am++m):=by
    intro t ts v vs a0 am m0 m hl hs hB hT hok hu
    split at hu
    case h_2=>cases hu
    rename_i s' x nx1 hu1
    split at hu
    case h_2=>cases hu
    rename_i y nx2 hu2
    cases hu
    obtain⟨ν2,hx2,hf2,_,_,ho2⟩:=w88 hor (pk:=p) (hs 0 v s rfl rfl) hg1 hB (fun q hq=>hok q (by simp[hq])) hu1 hx hf
    obtain⟨ν3,hx3,hf3,ho3⟩:=ih hl (fun j v s hj hk=>hs (j+1) v s (by simpa using hj) (by simpa using hk)) hg2 hT (fun q hq=>hok q (by simp[hq])) hu2 (hx.trans hx2) hf2
    exact⟨ν3,hx2.trans hx3,hf3,(ho2.mono hx3 (Sub.refl _)).append ho3⟩
   have plain:updT ob lkc (p::pk) (s::ss) ts nx=(match ts with| .same::ts=>updT ob lkc pk ss ts nx|_=>none)-> ∃ν2,Ext ν1 ν2/\(∀k,nx'<=k->ν2 k=none)/\Objs D ν2 σ1 lkc os m:=by
    intro he
    rw[he] at hu
    cases ts with
    |nil=>cases hu
    |cons t ts=>
     cases t with
     |same=>
      cases hT with
      |skip hT=>exact skip (by simpa using hl) hs hT (fun q hq=>hok q (by simp[hq])) hu
      |keep hB hT=>
       cases hB with
       |v h=>cases h
       |same h=>exact skip (by simpa using hl) hs hT (fun q hq=>hok q (by simp[hq])) hu
     |_=>cases hu
   cases p with
   |v=>exact plain (by cases ts with|nil=>rfl|cons t ts=>cases t<;>rfl)
   |c=>exact plain (by cases ts with|nil=>rfl|cons t ts=>cases t<;>rfl)
   |sl T=>exact plain (by cases ts with|nil=>rfl|cons t ts=>cases t<;>rfl)
   |el T=>exact plain (by cases ts with|nil=>rfl|cons t ts=>cases t<;>rfl)
   |fnc g=>exact plain (by cases ts with|nil=>rfl|cons t ts=>cases t<;>rfl)
   |own e T=>
    cases ts with
    |nil=>cases hu
    |cons t ts=>
     cases t with
     |same=>
      cases hT with
      |skip hT=>exact skip (by simpa using hl) hs hT (fun q hq=>hok q (by simp[hq])) hu
      |keep hB hT=>
       cases hB with
       |v h=>cases h
       |same h=>exact skip (by simpa using hl) hs hT (fun q hq=>hok q (by simp[hq])) hu
     |vec e' T' l'=>
      cases s with
      |hnd o=>
       simp only[updT] at hu
       split at hu
       case h_2=>cases hu
       rename_i y nx2 hu2
       cases hu
       cases hT with
       |keep hB hT=>
        obtain⟨ν3,hx3,hf3,ho3⟩:=ih (by simpa using hl) (fun j v s hj hk=>hs (j+1) v s (by simpa using hj) (by simpa using hk)) hg2 hT (fun q hq=>hok q (by simp[hq])) hu2 hx hf
        cases hB with
        |v h=>cases h
        |vec hE hlen h1=>
         cases hs 0 _ _ rfl rfl with
         |hnd _ _ hν _=>exact⟨ν3,hx3,hf3,⟨⟨_,_,hx3 _ _ (hx _ _ hν),rfl,hE,hlen⟩,ho3⟩⟩
      |_=>simp only[updT] at hu;cases hu
     |_=>cases hu
   |agg l=>exact plain (by cases ts with|nil=>rfl|cons t ts=>cases t<;>rfl)
   |kow e T=>exact plain (by cases ts with|nil=>rfl|cons t ts=>cases t<;>rfl)
   |map K V=>
    cases hT with
    |skip hT=>
     simp only[updT,upd1] at hu
     cases s<;>cases hu
    |keep hB hT=>exact keep (by simpa using hl) hs hB hT hok hu
   |ptr ty l=>
    cases hT with
    |skip hT=>
     have hu':upd1 ob lkc (.ptr ty l) s s .same nx=none:=by
      simp only[upd1]
     simp only[updT,hu'] at hu
     cases hu
    |keep hB hT=>exact keep (by simpa using hl) hs hB hT hok hu
end Go.Fx
end
noncomputable section
set_option maxRecDepth 100000
namespace Go.Fx
open Go Go.RowKit Go.Fl Go.Fl.Lk
variable {S:Sig}{P:Program}{D:Shp S}{ν ν' ν0 ν1:Nm}{σ τ σ0 σ1:Hv}{n:Nat}{f:Fr}
variable {w w0:World}{cx:Cx}{ro:Ro S}{st:AS S}{ms:List HObj}{ob os:Nat->Option (AO S)}{lkc:Nat->Nat->SV S}{oh:Nat->HObj}
theorem v8r{t:Tr S}{x:FV S}{nx nx':Nat}{a:List (Nat×AO S)}(h:inst D t nx=some (.f x,a,nx')):t= .f x:=by
 cases t with
 |f y=>cases h;rfl
 |same=>cases h
 |vec=>cases h
 |kvec=>cases h
 |arr=>cases h
 |map=>cases h
 |vech=>cases h
 |fnc=>cases h
 |ptr ty ts=>
  simp only[inst] at h
  split at h<;>cases h
 |el=>cases h
 |agg ts=>
  simp only[inst] at h
  split at h<;>cases h
theorem v2p{t:Tr S}{o nx nx':Nat}{a:List (Nat×AO S)}(h:inst D t nx=some (.ref o 0,a,nx')): ∃ty ts cs a',t= .ptr ty ts/\o=nx/\z9s D ts (nx+1)=some (cs,a',nx')/\a=(nx,.cells ty cs)::a':=by
 cases t with
 |f y=>cases h
 |same=>cases h
 |vec=>cases h
 |kvec=>cases h
 |arr=>cases h
 |map=>cases h
 |vech=>cases h
 |fnc=>cases h
 |ptr ty ts=>
  simp only[inst] at h
  split at h
  ·rename_i cs a' nx2 hi
   cases h
   exact⟨ty,ts,cs,a',rfl,rfl,hi,rfl⟩
  ·cases h
 |el=>cases h
 |agg ts=>
  simp only[inst] at h
  split at h<;>cases h
theorem j9j: ∀{pk:List (PK S)} {is l ss:List (SV S)} {r:List (Tr S)×List Nat×List Nat},w5h ob os lkc pk is l ss=some r->is.length=ss.length
 |[],[],[],[],_,_=>rfl
 |p::pk,i::is,o::l,s::ss,r,h=>by
  simp only[w5h] at h
  split at h
  case h_2=>cases h
  rename_i h2
  rw[List.length_cons,List.length_cons,j9j h2]
mutual
theorem w9b(hD:D.Ok)(hor: ∀o a,ob o=some a->ORep D ν σ lkc o a (oh o))(hor0: ∀o ty l,os o=some (.cells ty l)-> ∃b cs,ν0 o=some (.pointer (some ⟨b,0,none⟩))/\RowS D ν0 σ0 cs l/\(blk b ty cs).ok w0)
  (hlk: ∀o ty l,os o=some (.cells ty l)-> ∀j,lkc o j=l.getD j .dead)(hx:Ext ν0 ν): ∀{pk:PK S} {i o s:SV S} {t t0:Tr S} {tk fz:List Nat} {v0 v1:Value} {m0:List HObj} {nx nxi:Nat} {osi tko:List (Nat×AO S)} {msx:List HObj},
  Lay D σ0 t0 v0 m0->inst D t0 nx=some (i,osi,nxi)->(∀q∈osi,os q.1=some q.2)->(∀q∈m0,q.ok w0)->SRep D ν0 σ0 v0 i->SRep D ν σ v1 s->(o= .lk->s=i)->back ob os lkc pk i o s=some (t,tk,fz)->
  tko.map (·.1)=tk->(∀q∈tko,ob q.1=some q.2)->Objs D ν σ lkc tko msx->(∀o e T l v,o∈fz->ob o=some (.vec e T l)->ν o=some v->RepF D σ v (.sl T l))-> ∃m',LayB D σ t0 t v0 m0 v1 m'/\Nilx msx m'
 | .v,i,o,s,t,t0,tk,fz,v0,v1,m0,nx,nxi,osi,tko,msx,hL,hi,hosi,hok,h0,hs,hlo,hb,ht,hq,ho,hf=>by
  simp only[back] at hb
  obtain⟨rfl,hl⟩:=w4j hD hor hs hb hf
  have:=q2e ht ho
  subst this
  exact⟨[],.v hl,Nilx.refl _⟩
 | .c,i,o,s,t,t0,tk,fz,v0,v1,m0,nx,nxi,osi,tko,msx,hL,hi,hosi,hok,h0,hs,hlo,hb,ht,hq,ho,hf=>by
  simp only[back] at hb
  split at hb
  case h_2=>cases hb
  cases hb
  have h1:=hlo rfl
  subst h1
  have h2:=v8r hi
  subst h2
  have:=q2e ht ho
  subst this
  cases hs with
  |f h=>exact⟨[],.same (.f h),Nilx.refl _⟩
 | .sl T,i,o,s,t,t0,tk,fz,v0,v1,m0,nx,nxi,osi,tko,msx,hL,hi,hosi,hok,h0,hs,hlo,hb,ht,hq,ho,hf=>by
  simp only[back] at hb
  obtain⟨rfl,hl⟩:=w4k hD hor hs hb hf
  have:=q2e ht ho
  subst this
  exact⟨[],.v hl,Nilx.refl _⟩
 | .el T,i,o,s,t,t0,tk,fz,v0,v1,m0,nx,nxi,osi,tko,msx,hL,hi,hosi,hok,h0,hs,hlo,hb,ht,hq,ho,hf=>by
  simp only[back] at hb;cases hb
 | .own e T,i,o,s,t,t0,tk,fz,v0,v1,m0,nx,nxi,osi,tko,msx,hL,hi,hosi,hok,h0,hs,hlo,h,ht,hq,ho,hf=>by
  simp only[back] at h
  split at h
  case h_2=>cases h
  rename_i a l hown
  cases h
  rcases z7t hown with ⟨rfl,rfl,rfl⟩|⟨o,rfl,rfl,hob⟩
  ·have:=q2e ht ho
   subst this
   have hv:=q9f hs
   subst hv
   exact⟨_,.vec (xs:=[]) ⟨by simp,fun i x hx=>by simp at hx⟩ (by simp) rfl,Nilx.nil e (D.size T)⟩
  ·match tko,ht,hq,ho with
   |[q],ht,hq,ho=>
    match msx,ho with
    |[m],ho=>
     obtain⟨o',a⟩:=q
     simp at ht
     subst ht
     have ha:=hq (o',a) (by simp)
     simp only at ha
     rw[hob] at ha;cases ha
     obtain⟨u,xs,hν,hm,hE,hl⟩:=ho.1
     subst hm
     have hv:=Vq hs hν
     subst hv
     have h1:v1.oneCell'=true:=by cases hs with|hnd _ _ _ h=>exact h
     exact⟨_,.vec hE hl h1,Nilx.refl _⟩
 | .kow e T,i,o,s,t,t0,tk,fz,v0,v1,m0,nx,nxi,osi,tko,msx,hL,hi,hosi,hok,h0,hs,hlo,h,ht,hq,ho,hf=>by
  simp only[back] at h
  split at h
  case h_2=>cases h
  rename_i o1 o2
  cases hb:Nat.beq o1 o2 with
  |false=>rw[hb] at h;cases h
  |true=>
   rw[hb] at h
   have hb:=Nat.eq_of_beq_eq_true hb
   subst hb
   simp only[cond_true] at h
   split at h
   case h_2=>cases h
   rename_i o2 l hown
   cases h
   rcases z7t hown with ⟨h2,_,_⟩|⟨o,h2,h3,hob⟩
   ·cases h2
   cases h2
   cases h3
   match tko,ht,hq,ho with
   |[q],ht,hq,ho=>
    match msx,ho with
    |[m],ho=>
     obtain⟨o',a⟩:=q
     simp at ht
     subst ht
     have ha:=hq (o',a) (by simp)
     simp only at ha
     rw[hob] at ha;cases ha
     obtain⟨u,xs,hν,hm,hE,hl⟩:=ho.1
     subst hm
     have hv:=Vq hs hν
     subst hv
     have hv0:v0=v1:=by
      cases h0 with
      |hnd _ _ h0 _=>
       have:=hx _ _ h0
       rw[hν] at this;exact (Option.some.inj this).symm
     subst hv0
     have h1:v0.oneCell'=true:=by cases hs with|hnd _ _ _ h=>exact h
     exact⟨_,.kvec hE hl h1,Nilx.refl _⟩
 | .map K V,i,o,s,t,t0,tk,fz,v0,v1,m0,nx,nxi,osi,tko,msx,hL,hi,hosi,hok,h0,hs,hlo,h,ht,hq,ho,hf=>by
  simp only[back] at h
  split at h
  case h_2=>cases h
  rename_i o1 o2
  cases hb:Nat.beq o1 o2 with
  |false=>rw[hb] at h;cases h
  |true=>
   rw[hb] at h
   have hb:=Nat.eq_of_beq_eq_true hb
   subst hb
   simp only[cond_true] at h
   split at h
   case h_2=>cases h
   rename_i K' V' F hob
   split at h
   case h_2=>cases h
   rename_i e1 e2 _ _
   cases h
   subst e1 e2
   match tko,ht,hq,ho with
   |[q],ht,hq,ho=>
    match msx,ho with
    |[m],ho=>
     obtain⟨o',a⟩:=q
     simp at ht
     subst ht
     have ha:=hq (o',a) (by simp)
     simp only at ha
     rw[hob] at ha;cases ha
     obtain⟨b,mm,hν,hm,hF⟩:=ho.1
     subst hm
     have hv:=Vq hs hν
     subst hv
     have hv0:v0= .map (some b):=by
      cases h0 with
      |hnd _ _ h0 _=>
       have:=hx _ _ h0
       rw[hν] at this;exact (Option.some.inj this).symm
     subst hv0
     exact⟨_,.map hF,Nilx.refl _⟩
 | .ptr ty pk,i,o,s,t,t0,tk,fz,v0,v1,m0,nx,nxi,osi,tko,msx,hL,hi,hosi,hok,h0,hs,hlo,h,ht,hq,ho,hf=>by
  simp only[back] at h
  split at h
  case h_2=>cases h
  rename_i o1 o2
  cases hb:Nat.beq o1 o2 with
  |false=>rw[hb] at h;cases h
  |true=>
   rw[hb] at h
   have hb:=Nat.eq_of_beq_eq_true hb
   subst hb
   simp only[cond_true] at h
   split at h
   case h_2=>cases h
   rename_i ty0' l0 ty' l hos hob
   cases hb:Nat.beq ty ty' with
   |false=>rw[hb] at h;cases h
   |true=>
    rw[hb] at h
    have hb:=Nat.eq_of_beq_eq_true hb
    subst hb
    simp only[cond_true] at h
    split at h
    case h_2=>cases h
    rename_i ts a b hg
    cases h
    obtain⟨ty0,ts0,cs,a',rfl,rfl,hi',rfl⟩:=v2p hi
    have h1:=hosi _ (List.mem_cons_self ..)
    simp only at h1
    rw[hos] at h1;cases h1
    obtain⟨b0,cs',hν0,hrow0,hok0⟩:=hor0 _ _ _ hos
    cases hL with
    | @ptr _ _ b2 cs0 m0 hL h1=>
     obtain⟨b3,hb3,hν3⟩:=j6s h0
     cases hb3
     rw[hν0] at hν3;cases hν3
     have he:=w87 hok0 (hok _ (List.mem_cons_self ..)) rfl
     subst he
     obtain⟨b4,hb4,hν4⟩:=j6s hs
     subst hb4
     rw[hx _ _ hν0] at hν4;cases hν4
     match tko,ht,hq,ho with
     |q::tko,ht,hq,ho=>
      match msx,ho with
      |m::msx,ho=>
       obtain⟨o',ao⟩:=q
       injection ht with h1 h2
       simp only at h1
       subst h1
       have ha:=hq (o',ao) (by simp)
       simp only at ha
       rw[hob] at ha;cases ha
       obtain⟨b',cs2,hν,hm,hrow⟩:=ho.1
       subst hm
       rw[hx _ _ hν0] at hν;cases hν
       obtain⟨m',hl,hxx⟩:=w4l hD hor hor0 hlk hx (pk:=pk) hL hi' (fun q hq=>hosi q (by simp[hq])) (fun q hq=>hok q (by simp[hq])) hrow0.1 hrow0.2.1 hrow.1 hrow.2.1 (fun j hj=>by
        have h5:=z70 (g:=lkc o') (k:=0) hj
        rw[Nat.zero_add] at h5
        rw[h5,hlk _ _ _ hos j]
        have hjl:j<l0.length:=by
         rw[←hrow0.1]
         have:=j9j hg
         rw[←hrow0.1] at this
         rw[this];exact Qa h5
        rw[List.getD_eq_getElem?_getD,List.getElem?_eq_getElem hjl];rfl) hg h2 (fun q hq'=>hq q (by simp[hq'])) ho.2 hf
       exact⟨_,.ptr hl hrow.2.2,Nilx.append (Nilx.refl [_]) hxx⟩
 | .agg pk,i,o,s,t,t0,tk,fz,v0,v1,m0,nx,nxi,osi,tko,msx,hL,hi,hosi,hok,h0,hs,hlo,h,ht,hq,ho,hf=>by
  simp only[back] at h;cases h
theorem w4l(hD:D.Ok)(hor: ∀o a,ob o=some a->ORep D ν σ lkc o a (oh o))(hor0: ∀o ty l,os o=some (.cells ty l)-> ∃b cs,ν0 o=some (.pointer (some ⟨b,0,none⟩))/\RowS D ν0 σ0 cs l/\(blk b ty cs).ok w0)
  (hlk: ∀o ty l,os o=some (.cells ty l)-> ∀j,lkc o j=l.getD j .dead)(hx:Ext ν0 ν): ∀{pk:List (PK S)} {is l ss:List (SV S)} {ts t0s:List (Tr S)} {tk fz:List Nat} {vs0 vs1:List Value} {m0:List HObj} {nx nxi:Nat} {osi tko:List (Nat×AO S)} {msx:List HObj},
  LayL D σ0 t0s vs0 m0->z9s D t0s nx=some (is,osi,nxi)->(∀q∈osi,os q.1=some q.2)->(∀q∈m0,q.ok w0)->vs0.length=is.length->(∀(j:Nat) v s,vs0[j]? =some v->is[j]? =some s->SRep D ν0 σ0 v s)->
  vs1.length=ss.length->(∀(j:Nat) v s,vs1[j]? =some v->ss[j]? =some s->SRep D ν σ v s)->(∀(j:Nat),l[j]? =some .lk->ss[j]? =is[j]?)->w5h ob os lkc pk is l ss=some (ts,tk,fz)->
  tko.map (·.1)=tk->(∀q∈tko,ob q.1=some q.2)->Objs D ν σ lkc tko msx->(∀o e T l v,o∈fz->ob o=some (.vec e T l)->ν o=some v->RepF D σ v (.sl T l))-> ∃m',LayBL D σ t0s ts vs0 m0 vs1 m'/\Nilx msx m'
 |[],is,l,ss,ts,t0s,tk,fz,vs0,vs1,m0,nx,nxi,osi,tko,msx,hL,hi,hosi,hok,hl0,h0,hl1,hs,hlo,hb,ht,hq,ho,hf=>by
  cases is with
  |cons=>cases hb
  |nil=>
   cases l with
   |cons=>cases hb
   |nil=>
    cases ss with
    |cons=>cases hb
    |nil=>
     cases hb
     have:=q2e ht ho
     subst this
     have h2:=List.eq_nil_of_length_eq_zero hl0
     subst h2
     have h3:=List.eq_nil_of_length_eq_zero hl1
     subst h3
     cases hL
     exact⟨[],.nil,Nilx.refl _⟩
 |p::pk,is,l,ss,ts,t0s,tk,fz,vs0,vs1,m0,nx,nxi,osi,tko,msx,hL,hi,hosi,hok,hl0,h0,hl1,hs,hlo,hb,ht,hq,ho,hf=>by
  cases is with
  |nil=>cases hb
  |cons i is=>
   cases l with
   |nil=>cases hb
   |cons o l=>
    cases ss with
    |nil=>cases hb
    |cons s ss=>
     cases hL with
     |nil=>cases hl0
     | @cons t0 t0s v0 vs0 a0 m0 hL hLL=>
      cases vs1 with
      |nil=>cases hl1
      |cons v1 vs1=>
       simp only[w5h] at hb
       split at hb
       case h_2=>cases hb
       rename_i t a b ts' a' b' hb1 hb2
       cases hb
       simp only[z9s] at hi
       split at hi
       case h_2=>cases hi
       rename_i i' osa nx1 hi1
       split at hi
       case h_2=>cases hi
       rename_i is' osb nx2 hi2
       cases hi
       obtain⟨tko1,tko2,rfl,ht1,ht2⟩:=List.map_eq_append_iff.1 ht
       obtain⟨m1,m2,rfl,ho1,ho2⟩:=ho.split
       obtain⟨x1,hB1,hx1⟩:=w9b hD hor hor0 hlk hx (pk:=p) hL hi1 (fun q hq=>hosi q (by simp[hq])) (fun q hq=>hok q (by simp[hq])) (h0 0 v0 i rfl rfl) (hs 0 v1 s rfl rfl) (fun h=>by
        subst h
        have:=hlo 0 rfl
        simpa using this) hb1 ht1 (fun q hq'=>hq q (by simp[hq'])) ho1 (fun o e T l v hm=>hf o e T l v (by simp[hm]))
       obtain⟨x2,hB2,hx2⟩:=w4l hD hor hor0 hlk hx (pk:=pk) hLL hi2 (fun q hq=>hosi q (by simp[hq])) (fun q hq=>hok q (by simp[hq])) (by simpa using hl0) (fun j v s hj hk=>h0 (j+1) v s (by simpa using hj) (by simpa using hk))
        (by simpa using hl1) (fun j v s hj hk=>hs (j+1) v s (by simpa using hj) (by simpa using hk)) (fun j hj=>by simpa using hlo (j+1) (by simpa using hj)) hb2 ht2 (fun q hq'=>hq q (by simp[hq'])) ho2 (fun o e T l v hm=>hf o e T l v (by simp[hm]))
       exact⟨_,.cons hB1 hB2,Nilx.append hx1 hx2⟩
end
theorem v2q(hD:D.Ok)(hor: ∀o a,ob o=some a->ORep D ν σ lkc o a (oh o))(hor0: ∀o ty l,os o=some (.cells ty l)-> ∃b cs,ν0 o=some (.pointer (some ⟨b,0,none⟩))/\RowS D ν0 σ0 cs l/\(blk b ty cs).ok w0)
  (hlk: ∀o ty l,os o=some (.cells ty l)-> ∀j,lkc o j=l.getD j .dead)(hx:Ext ν0 ν)(hsub:Sub σ0 σ): ∀{pk:List (PK S)} {is:List (SV S)} {ts t0s:List (Tr S)} {tk fz:List Nat} {vs:List Value} {m0:List HObj} {nx nxi:Nat} {osi tko:List (Nat×AO S)} {msx:List HObj},
  LayL D σ0 t0s vs m0->z9s D t0s nx=some (is,osi,nxi)->(∀q∈osi,os q.1=some q.2)->(∀q∈m0,q.ok w0)->vs.length=is.length->(∀(j:Nat) v s,vs[j]? =some v->is[j]? =some s->SRep D ν0 σ0 v s)->z9r ob os lkc pk is=some (ts,tk,fz)->
  tko.map (·.1)=tk->(∀q∈tko,ob q.1=some q.2)->Objs D ν σ lkc tko msx->(∀o e T l v,o∈fz->ob o=some (.vec e T l)->ν o=some v->RepF D σ v (.sl T l))-> ∃m',LayT D σ t0s ts vs m0 m'/\Nilx msx m':=by
 intro pk
 induction pk with
 |nil=>
  intro is ts t0s tk fz vs m0 nx nxi osi tko msx hL hi hosi hok hl0 h0 hb ht hq ho hf
  cases is with
  |cons=>cases hb
  |nil=>
   cases hb
   have:=q2e ht ho
   subst this
   have h2:=List.eq_nil_of_length_eq_zero hl0
   subst h2
   cases hL
   exact⟨[],.nil,Nilx.refl _⟩
 |cons p pk ih=>
  intro is ts t0s tk fz vs m0 nx nxi osi tko msx hL hi hosi hok hl0 h0 hb ht hq ho hf
  cases is with
  |nil=>cases p<;>cases hb
  |cons i is=>
   cases hL with
   |nil=>cases hl0
   | @cons t0 t0s v0 vs0 a0 m0 hL hLL=>
    simp only[z9s] at hi
    split at hi
    case h_2=>cases hi
    rename_i i' osa nx1 hi1
    split at hi
    case h_2=>cases hi
    rename_i is' osb nx2 hi2
    cases hi
    have rest: ∀{ts:List (Tr S)} {tk fz:List Nat} {tko:List (Nat×AO S)} {msx:List HObj},z9r ob os lkc pk is=some (ts,tk,fz)->tko.map (·.1)=tk->(∀q∈tko,ob q.1=some q.2)->Objs D ν σ lkc tko msx->
      (∀o e T l v,o∈fz->ob o=some (.vec e T l)->ν o=some v->RepF D σ v (.sl T l))-> ∃m',LayT D σ t0s ts vs0 m0 m'/\Nilx msx m':=fun hb ht hq ho hf=>
     ih hLL hi2 (fun q hq=>hosi q (by simp[hq])) (fun q hq=>hok q (by simp[hq])) (by simpa using hl0) (fun j v s hj hk=>h0 (j+1) v s (by simpa using hj) (by simpa using hk)) hb ht hq ho hf
    have plain:z9r ob os lkc (p::pk) (i::is)=(match z9r ob os lkc pk is with
      |some (ts,a,b)=>some (.same::ts,a,b)
      |none=>none)-> ∃m',LayT D σ (t0::t0s) ts (v0::vs0) (a0++m0) m'/\Nilx msx m':=by
     intro he
     rw[he] at hb
     split at hb
     case h_2=>cases hb
     rename_i ts' a b hb'
     cases hb
     obtain⟨m',h1,h2⟩:=rest hb' ht hq ho hf
     exact⟨m',.skip h1,h2⟩
    have keep:z9r ob os lkc (p::pk) (i::is)=(match back ob os lkc p i .dead i,z9r ob os lkc pk is with
      |some (t,a,b),some (ts,a',b')=>some (t::ts,a++a',b++b')
      |_,_=>none)-> ∃m',LayT D σ (t0::t0s) ts (v0::vs0) (a0++m0) m'/\Nilx msx m':=by
     intro he
     rw[he] at hb
     split at hb
     case h_2=>cases hb
     rename_i t a b ts' a' b' hb1 hb2
     cases hb
     obtain⟨tko1,tko2,rfl,ht1,ht2⟩:=List.map_eq_append_iff.1 ht
     obtain⟨m1,m2,rfl,ho1,ho2⟩:=ho.split
     obtain⟨x1,hB1,hx1⟩:=w9b hD hor hor0 hlk hx (pk:=p) hL hi1 (fun q hq=>hosi q (by simp[hq])) (fun q hq=>hok q (by simp[hq])) (h0 0 v0 i rfl rfl) ((h0 0 v0 i rfl rfl).mono hx hsub) (fun h=>by cases h) hb1 ht1 (fun q hq'=>hq q (by simp[hq'])) ho1 (fun o e T l v hm=>hf o e T l v (by simp[hm]))
     obtain⟨x2,hB2,hx2⟩:=rest hb2 ht2 (fun q hq'=>hq q (by simp[hq'])) ho2 (fun o e T l v hm=>hf o e T l v (by simp[hm]))
     exact⟨_,.keep hB1 hB2,Nilx.append hx1 hx2⟩
    cases p with
    |v=>exact plain rfl
    |c=>exact plain rfl
    |sl T=>exact plain rfl
    |el T=>exact plain rfl
    |own e T=>exact plain rfl
    |kow e T=>exact plain rfl
    |agg l=>exact plain rfl
    |fnc g=>exact plain rfl
    |map K V=>exact keep rfl
    |ptr ty l=>exact keep rfl
end Go.Fx
end
noncomputable section
set_option maxRecDepth 100000
namespace Go.Fx
open Go Go.RowKit Go.Fl Go.Fl.Lk
variable {S:Sig}{P:Program}{D:Shp S}{ν ν' ν0 ν1:Nm}{σ τ σ0 σ1:Hv}{n:Nat}{f:Fr}
variable {w w0:World}{cx:Cx}{ro:Ro S}{st:AS S}{ms:List HObj}
def retV:List Value->Value
 |[v]=>v
 |l=> .tuple l.toArray
def Ent(P:Program)(g:Nat):Prop:= ∀args w,(callFunc g args).run P w= .ok (.enter g args) w
def Back(D:Shp S)(σ:Hv)(w:World)(args:List (Tr S))(vals:List Value)(ins:List HObj)(K:List (Tr S)->List (Tr S)->Prop)(e:Ending)(w1:World):Prop:=
 ∃rets outs rv σ1 msr mso,e= .returned (retV rv)/\K rets outs/\LayL D σ1 rets rv msr/\LayT D σ1 args outs vals ins mso/\St ⟨w,σ,feet ins⟩ w1 σ1 (msr++mso)
def q70(P:Program)(D:Shp S)(g:Nat)(c:Con S):Prop:=
 ∀args K,c.m args K-> ∀(w:World) (σ:Hv) (vals:List Value) (ins:List HObj),Glb D σ->LayL D σ args vals ins->St ⟨w,σ,feet ins⟩ w σ ins->Calls P g vals.toArray w (Back D σ w args vals ins K)
structure EvOk(E:Ev S):Prop where
 hP:E.D.OkP E.P
 mix:E.P.follows .mixedOrders=true
 con: ∀g c,E.con g=some c->Ent E.P g/\q70 E.P E.D g c
 inl: ∀g,E.inl g=true->Ent E.P g
 alt: ∀g c,E.alt g=some c->Ent E.P g/\q70 E.P E.D g c
theorem w1u{t:TypeId}{x:Operand}{r:Operand->Value}{v:Value}{oo:Oper}(hoo:oo.op= .load t x)(h:(execOp r oo).run P w= .ok (.value v) w)(a:Addr)(ha:r x= .pointer (some a)):(loadVar t a).run P w= .ok v w:=by
 simp only[execOp,hoo,ha,Instr.loadAt,Instr.sureAddr,Sem.run_bind,Sem.run_pure,Result.andThen_ok] at h
 cases hr:(loadVar t a).run P w with
 |ok u w'=>
  rw[hr] at h
  simp only[Result.andThen_ok,Result.ok.injEq,Next.value.injEq] at h
  rw[h.1,h.2]
 |halt s w'=>rw[hr] at h;cases h
theorem w4m{α:Type}{g:α->Sem Value}: ∀{l:List α} {vs:List Value},vs.length=l.length->(∀(i:Nat) a v,l[i]? =some a->vs[i]? =some v->(g a).run P w= .ok v w)->(l.mapM g).run P w= .ok vs w
 |[],vs,hl,_=>by
  have:=List.eq_nil_of_length_eq_zero hl
  subst this
  simp
 |a::l,vs,hl,h=>by
  cases vs with
  |nil=>cases hl
  |cons v vs=>
   have h1:=h 0 a v rfl rfl
   have h2:=w4m (g:=g) (l:=l) (vs:=vs) (by simpa using hl) (fun i a v hi hj=>h (i+1) a v (by simpa using hi) (by simpa using hj))
   simp[List.mapM_cons,h1,h2]
def rvS(tmps:Array Value):ResultVar->Sem Value
 | .tmp t=>pure (tmps.getD t undef)
 | .cell a t=>asAddr (tmps.getD a undef)>>=fun b=>loadVar t b
theorem w1v(fn:Func)(tmps:Array Value):results fn tmps=(fn.results.mapM (rvS tmps)>>=fun vs=>pure (if h:vs.size=1 then vs[0] else .tuple vs)):=by
 unfold results
 congr 1
theorem z4w{fn:Func}{tmps:Array Value}{vs:List Value}(hl:vs.length=fn.results.toList.length)(h: ∀(i:Nat) a v,fn.results.toList[i]? =some a->vs[i]? =some v->(rvS tmps a).run P w= .ok v w):(results fn tmps).run P w= .ok (retV vs) w:=by
 have h1:=w4m hl h
 have h2:(fn.results.mapM (rvS tmps)).run P w= .ok vs.toArray w:=by
  rw[Array.mapM_eq_mapM_toList,map_eq_pure_bind,Sem.run_bind,h1]
  rfl
 rw[w1v,Sem.run_bind,h2]
 simp only[Result.andThen_ok,Sem.run_pure]
 rcases vs with _|⟨v,_|⟨v',vs⟩⟩
 ·simp[retV]
 ·simp[retV]
 ·simp[retV]
theorem v4n{n:Nat}(hP:D.OkP P)(h:G D cx ν0 ro st f w ν σ ms): ∀{l:List ResultVar} {K:List (SV S)->Prop},resK P D n ro st l K-> ∃(ss:List (SV S)) (vs:List Value),K ss/\vs.length=ss.length/\vs.length=l.length/\(∀(j:Nat) v s,vs[j]? =some v->ss[j]? =some s->SRep D ν σ v s)/\
  ∀(i:Nat) a v,l[i]? =some a->vs[i]? =some v->(rvS (mk n f).tmps a).run P w= .ok v w:=by
 obtain⟨oh,kn,hms⟩:=h.kn (n:=n)
 have put: ∀{l:List ResultVar} {K:List (SV S)->Prop} {r:ResultVar} {s:SV S} {v:Value},SRep D ν σ v s->(rvS (mk n f).tmps r).run P w= .ok v w->
   (∃(ss:List (SV S)) (vs:List Value),K (s::ss)/\vs.length=ss.length/\vs.length=l.length/\(∀(j:Nat) v s,vs[j]? =some v->ss[j]? =some s->SRep D ν σ v s)/\ ∀(i:Nat) a v,l[i]? =some a->vs[i]? =some v->
    (rvS (mk n f).tmps a).run P w= .ok v w)->
   ∃(ss:List (SV S)) (vs:List Value),K ss/\vs.length=ss.length/\vs.length=(r::l).length/\(∀(j:Nat) v s,vs[j]? =some v->ss[j]? =some s->SRep D ν σ v s)/\ ∀(i:Nat) a v,(r::l)[i]? =some a->vs[i]? =some v->
    (rvS (mk n f).tmps a).run P w= .ok v w:=by
  intro l K r s v hs hr hx
  obtain⟨ss,vs,h1,h2,h3,h4,h5⟩:=hx
  refine⟨s::ss,v::vs,h1,by simp[h2],by simp[h3],fun j v' s' hj hk=> ?_,fun i a v' hi hj=> ?_⟩
  ·cases j with
   |zero=>simp at hj hk;subst hj hk;exact hs
   |succ j=>exact h4 j v' s' (by simpa using hj) (by simpa using hk)
  ·cases i with
   |zero=>simp at hi hj;subst hi hj;exact hr
   |succ i=>exact h5 i a v' (by simpa using hi) (by simpa using hj)
 intro l
 induction l with
 |nil=>intro K hk;exact⟨[],[],hk,rfl,rfl,fun j v s hj=>by simp at hj,fun i a v hi=>by simp at hi⟩
 |cons r l ih=>
  intro K hk
  cases r with
  |tmp t=>
   simp only[resK] at hk
   refine put (r:= .tmp t) (kn.e (.tmp t)) ?_ (ih hk)
   unfold rvS;rw[Sem.run_pure,z87 rfl]
  |cell t ty=>
   simp only[resK] at hk
   obtain⟨rd,s,v,hK,hs,hrun⟩:=w1l hP kn hk
   have hr:=hrun w ⟨none,.load ty (.tmp t),0,default,#[],none⟩ rfl h.mem.view (fun o _ a ha=>h.mem.own _ (hms o a ha))
   refine put (r:= .cell t ty) hs ?_ (ih hK)
   obtain⟨a,ha⟩: ∃a,ev n f (.tmp t)= .pointer (some a):=by
    have hsr:=kn.e (.tmp t)
    simp only[Jb] at hk
    generalize evS n ro st (.tmp t)=sv at hk hsr
    generalize ev n f (.tmp t)=u at hsr
    cases hsr with
    |ref o off b h=>exact⟨_,rfl⟩
    |eref T o i off b m cap h hi=>exact⟨_,rfl⟩
    |aref T N o i off b h hi=>exact⟨_,rfl⟩
    |fptr ad cs l off h hr=>exact⟨_,rfl⟩
    |fap ad cs T N l hN h hl hr=>exact⟨_,rfl⟩
    |_=>exact hk.elim
   have h2:=w1u rfl hr a ha
   have h3:=z87 (n:=n) (f:=f) ha
   simp only[rvS,h3,asAddr,Sem.run_bind,Sem.run_pure,Result.andThen_ok,h2]
theorem w9c{ss:List (SV S)}{vs:List Value}(hl:vs.length=ss.length)(h: ∀(j:Nat) v s,vs[j]? =some v->ss[j]? =some s->SRep D ν σ v s):SRep D ν σ (retV vs) (tupS ss):=by
 rcases ss with _|⟨s,_|⟨s',ss⟩⟩
 ·have:=List.eq_nil_of_length_eq_zero hl
  subst this
  exact .tup [] [] rfl h
 ·rcases vs with _|⟨v,_|⟨v',vs⟩⟩
  ·cases hl
  ·exact h 0 v s rfl rfl
  ·simp at hl
 ·rcases vs with _|⟨v,_|⟨v',vs⟩⟩
  ·cases hl
  ·simp at hl
  ·exact .tup _ _ hl h
theorem j9k{g:FuncId}{fo:Operand}{args:Array Operand}{ts:Array TypeId}{a b:List Value}{o:Oper}(ho:o.op= .call ⟨.value fo,args,ts⟩)(hf:ev n f fo= .func (.func g) a.toArray b.toArray)(hg:Ent P g):
  (execOp (ev n f) o).run P w= .ok (.enter g (a++args.toList.map (ev n f)++b).toArray) w:=by
 have hx:(a.toArray++args.map (ev n f)++b.toArray)=(a++args.toList.map (ev n f)++b).toArray:=by
  apply Array.ext'
  simp
 rw[←hx]
 simp[execOp,ho,resolve,hf,Deferred.ofValue,invoke]
 exact hg _ w
theorem z27: ∀{l:List Nat},inRw st l=true-> ∃tlo:List (Nat×AO S),tlo.map (·.1)=l/\ ∀q∈tlo,obS ro st q.1=some q.2
 |[],_=>⟨[],rfl,by simp⟩
 |o::l,h=>by
  obtain⟨h1,h2⟩:=Qu h
  obtain⟨a,ha⟩:=Option.isSome_iff_exists.1 h1
  obtain⟨tlo,h3,h4⟩:=z27 h2
  refine⟨(o,a)::tlo,by simp[h3],fun q hq=> ?_⟩
  rcases List.mem_cons.1 hq with rfl|hq
  ·unfold obS;rw[ha]
  ·exact h4 q hq
theorem q5w: ∀{l l':List Nat},inRw st (l++l')=(inRw st l && inRw st l')
 |[],_=>by simp[inRw]
 |o::l,l'=>by
  simp only[List.cons_append,inRw,q5w,Bool.and_assoc]
theorem w9d{vs a b:List Value}{first cap ss:List (SV S)}(hl:a.length=first.length)(h: ∀(j:Nat) v s,a[j]? =some v->first[j]? =some s->SRep D ν σ v s)(hl':b.length=cap.length)(h': ∀(j:Nat) v s,b[j]? =some v->cap[j]? =some s->SRep D ν σ v s)
  (hm:vs.length=ss.length)(hm': ∀(j:Nat) v s,vs[j]? =some v->ss[j]? =some s->SRep D ν σ v s):(a++vs++b).length=(first++ss++cap).length/\ ∀(j:Nat) v s,(a++vs++b)[j]? =some v->(first++ss++cap)[j]? =some s->SRep D ν σ v s:=by
 refine⟨by simp[hl,hl',hm],fun j v s hj hk=> ?_⟩
 have e:(a++vs).length=(first++ss).length:=by simp[hl,hm]
 rw[List.getElem?_append] at hj hk
 rw[e] at hj
 split at hj
 ·rename_i hlt
  rw[if_pos hlt] at hk
  rw[List.getElem?_append] at hj hk
  rw[hl] at hj
  split at hj
  ·rename_i hlt2
   rw[if_pos hlt2] at hk
   exact h j v s hj hk
  ·rename_i hge
   rw[if_neg hge] at hk
   exact hm' _ v s hj hk
 ·rename_i hge
  rw[if_neg hge] at hk
  exact h' _ v s hj hk
def j36(σ:Hv)(bs:List Nat):Hv:=fun b=>if b∈bs then none else σ b
theorem v6g{w1:World}{σ1 σ2:Hv}{i1 i1' i2 outs m1:List HObj}(h:St ⟨w,σ,feet (i1++i2)⟩ w σ (i1'++i2))(hc:St ⟨w,σ1,feet i1'⟩ w1 σ2 outs)(h4:St ⟨w,σ,feet (i1++i2)⟩ w1 σ2 (outs++m1)):
  St ⟨w,σ,feet (i1++i2)⟩ w1 (j36 σ2 (feet i2)) (outs++i2)/\Sub σ (j36 σ2 (feet i2)):=by
 have hsep:=List.pairwise_append.1 h.sep
 have hsub:Sub σ (j36 σ2 (feet i2)):=fun b o hb=>by
  unfold j36
  rw[if_neg fun hm=> ?_]
  ·exact h4.sub b o hb
  ·obtain⟨q,hq,hk⟩:=q0n.1 hm
   have:=h.off q (by simp[hq]) b hk
   rw[this] at hb;cases hb
 have hfar: ∀q∈i2,∀k,q.foot=some k->k∉feet i1':=fun q hq k hk hm=>by
  obtain⟨p,hp,hpk⟩:=q0n.1 hm
  exact hsep.2.2 p hp q hq k hpk hk
 have hsz: ∀q∈i2,∀k,q.foot=some k->k<w.heap.size:=fun q hq k hk=>q.lt w k (h.own q (by simp[hq])) hk
 have hsep4:=List.pairwise_append.1 h4.sep
 refine⟨⟨h4.keeps,fun b o hb=> ?_,hsub,fun b hb hm=> ?_,fun o ho=> ?_,List.pairwise_append.2 ⟨hsep4.1,hsep.2.1,fun a ha b hb k hk hk'=> ?_⟩,fun o ho k hk=> ?_,fun o ho k hk=> ?_⟩,hsub⟩
 ·unfold j36 at hb
  split at hb
  ·cases hb
  ·exact h4.view b o hb
 ·unfold j36
  rw[if_neg fun hx=> ?_]
  ·exact h4.fresh b hb hm
  ·obtain⟨q,hq,hk⟩:=q0n.1 hx
   exact hm (q0n.2 ⟨q,by simp[hq],hk⟩)
 ·rcases List.mem_append.1 ho with ho|ho
  ·exact h4.own o (by simp[ho])
  ·exact o.stay w w1 (fun k hk=>hc.keeps.block k (hsz o ho k hk) (hfar o ho k hk)) (h.own o (by simp[ho]))
 ·have hk1:k<w.heap.size:=hsz b hb k hk'
  rcases hc.new a ha k hk with h5|h5
  ·exact hfar b hb k hk' h5
  ·exact absurd hk1 (Nat.not_lt.2 h5)
 ·unfold j36
  rcases List.mem_append.1 ho with ho|ho
  ·split
   ·rfl
   ·exact h4.off o (by simp[ho]) k hk
  ·rw[if_pos (q0n.2 ⟨o,ho,hk⟩)]
 ·rcases List.mem_append.1 ho with ho|ho
  ·exact h4.new o (by simp[ho]) k hk
  ·exact .inl (q0n.2 ⟨o,by simp[ho],hk⟩)
theorem w4n{ob:Nat->Option (AO S)}: ∀{l:List Nat} {tlo:List (Nat×AO S)},tlo.map (·.1)=l->(∀q∈tlo,ob q.1=some q.2)->v2e ob l=some tlo
 |[],tlo,h,_=>by
  have:=List.map_eq_nil_iff.1 h
  subst this;rfl
 |o::l,[],h,_=>by cases h
 |o::l,q::tlo,h,hq=>by
  obtain⟨o',a⟩:=q
  simp only[List.map_cons,List.cons.injEq] at h
  obtain⟨rfl,h⟩:=h
  have h1:=hq (o',a) (by simp)
  simp only[v2e,w4n h fun q hq'=>hq q (by simp[hq'])]
  simp only at h1
  rw[h1]
theorem v2r{ob:Nat->Option (AO S)}{rets outs:List (Tr S)}{fz tlo:List (Nat×AO S)}{l:List Nat}(h:tlo.map (·.1)=l)(hq: ∀q∈tlo,ob q.1=some q.2):
  v2f D ob rets outs fz l=fz∨(v2f D ob rets outs fz l=tlo/\z9a D rets=true/\j5k D outs=true):=by
 unfold v2f
 split
 ·exact .inl rfl
 ·rename_i l' hl'
  cases hf:z9a D rets && j5k D outs with
  |false=>exact .inl rfl
  |true=>
   obtain⟨h1,h2⟩:=Qu hf
   refine .inr ⟨?_,h1,h2⟩
   rw[w4n h hq];rfl
theorem w9e{c:Con S}{g:Nat}{fo:Operand}{args:Array Operand}{ts:Array TypeId}{first cap:List (SV S)}{o:Oper}{ban:List Nat->Bool}{k:List Nat->AS S->Prop}(hF:j1v D)(hD:D.Ok)(hen:Ent P g)(hM:q70 P D g c)(h:G D cx ν0 ro st f w ν σ ms)
  (ho:o.op= .call ⟨.value fo,args,ts⟩)(hf:evS n ro st fo= .fn g first cap)(hk:v5w D c ro st (first++args.toList.map (evS n ro st)++cap) ban fun st s=>putS ro st o.dst s (k [])):j9b P D cx ν0 ro st n o f w ν σ ban k:=by
 intro KK Q hKK
 obtain⟨oh,kn,hms⟩:=h.kn (n:=n)
 have hfn:=kn.e fo
 rw[hf] at hfn
 generalize hfv:ev n f fo=fv at hfn
 cases hfn with
 |fn _ a b _ _ hl ha hl' hb=>
  obtain⟨hlen,hreps⟩:=w9d hl ha hl' hb (vs:=args.toList.map (ev n f)) (ss:=args.toList.map (evS n ro st)) (by simp) (fun j v s hj hk=>by
   rw[List.getElem?_map] at hj hk
   rcases hq:args.toList[j]? with _|x
   ·rw[hq] at hj;cases hj
   ·rw[hq] at hj hk;cases hj;cases hk;exact kn.e x)
  generalize first++args.toList.map (evS n ro st)++cap=full at hk hlen hreps
  unfold v5w at hk
  obtain⟨q,hq,hk⟩:=Qf hk
  obtain⟨fz,hfz,hk⟩:=Qf hk
  obtain⟨hc,hk⟩:=Jc hk
  obtain⟨hc,hban⟩:=Qu hc
  obtain⟨hnd,hrw⟩:=Qu hc
  obtain⟨t0s,tk,fzl⟩:=q
  simp only at hfz hnd hrw hban hk hq
  rw[q5w] at hrw
  obtain⟨hrw1,hrw2⟩:=Qu hrw
  obtain⟨tlo1,ht1,hob1⟩:=z27 (ro:=ro) hrw1
  obtain⟨tlo2,ht2,hob2⟩:=z27 (ro:=ro) hrw2
  have hrun:=j9k (w:=w) ho hfv hen
  generalize a++args.toList.map (ev n f)++b=vals at hlen hreps hrun
  have htl:(tlo1++tlo2).map (·.1)=tk++fzl:=by rw[List.map_append,ht1,ht2]
  obtain⟨ins,h1,h2,h3⟩:=h.turn htl (q5v hnd) (by rw[q5w,hrw1,hrw2];rfl) (fun q hq=>by
   rcases List.mem_append.1 hq with hq|hq
   ·exact hob1 q hq
   ·exact hob2 q hq)
  obtain⟨i1,i2,rfl,ho1,ho2⟩:=h1.split
  obtain⟨σ1,m1,hS1,hsub1,hofz⟩:=q2d hD hfz ht2 hob2 ho2 h2
  have hor: ∀o a,obS ro st o=some a->ORep D ν σ1 ro.cell o a (oh o)/\(oh o).ok w:=fun o a ho=>⟨(kn.o o a ho).1.mono (Ext.refl _) hsub1,(kn.o o a ho).2⟩
  have hreps1: ∀(j:Nat) v s,vals[j]? =some v->full[j]? =some s->SRep D ν σ1 v s:=fun j v s hj hk=>(hreps j v s hj hk).mono (Ext.refl _) hsub1
  obtain⟨i1',hLay,hNil⟩:=z1k hD (fun o a ho=>(hor o a ho).1) hlen hreps1 hq ht1 hob1 (ho1.mono (Ext.refl _) hsub1) (z4t hfz hofz)
  have hS2:=hNil _ _ _ _ hS1
  have hcall:=hM _ _ hk w σ1 vals i1' (h.glob.2.mono hsub1) hLay hS2.inner
  unfold Oper.wp
  rw[U6,hrun,Oper.upon_enter]
  refine hcall.mono ?_
  rintro e w1 ⟨rets,outs,rv,σ2,msr,mso,rfl,hk,hLr,hLt,hS3⟩
  show KK ((mk n f).put o.dst (retV rv)) w1
  rw[z1i]
  obtain⟨u,hu,hk⟩:=Qf hk
  obtain⟨r,hr,hk⟩:=Qf hk
  obtain⟨uo,un⟩:=u
  obtain⟨rs,ros,rn⟩:=r
  rw[z1h] at hk
  simp only at hr hk
  have hS4:=hS2.callM hS3 rfl
  have hsub2:=hS3.sub
  simp only at hsub2
  rcases v2r (D:=D) (rets:=rets) (outs:=outs) (fz:=fz) ht2 hob2 with he|⟨he,hflr,hflo⟩
  case inr=>
   rw[he] at hk
   obtain⟨hT,hsub3⟩:=v6g (hNil _ _ _ _ h2) hS3 hS4
   have hLr':=z51 (τ:=j36 σ2 (feet i2)) hF hflr hLr
   have hLt':=w85 (τ:=j36 σ2 (feet i2)) hF hflo hLt
   obtain⟨ν2,hx2,hf2,ho3⟩:=w9a (fun o a ho=>kn.o o a ho) hlen hreps hq hLt' (fun m hm=>(hNil _ _ _ _ h2).own m (by simp[hm])) hu (Ext.refl _) h.fresh
   obtain⟨ν3,hx3,hf3,hl3,hr3,ho4,_⟩:=z26 (lkc:=ro.cell) hLr' hr hf2
   obtain⟨hsub,⟨ms2,hG⟩,hleft⟩:=h3 (outs:=ros++(uo++tlo2)) (nx:=rn) (hx2.trans hx3) hf3 (by rw[List.append_assoc] at hT;exact hT) (ho4.append ((ho3.mono hx3 (Sub.refl _)).append (ho2.mono (hx2.trans hx3) hsub3)))
   have hG':G D cx ν0 ro {slots:=st.slots,objs:=ros++(uo++(tlo2++Bt st.objs (tk++fzl))),next:=rn} f w1 ν3 (j36 σ2 (feet i2)) ms2:=by
    rw[List.append_assoc,List.append_assoc] at hG
    exact hG
   obtain⟨st',hk',_,_,hG2⟩:=hG'.put (w9c hl3 hr3) hk
   exact hKK [] st' _ w1 ν3 _ ms2 hk' hG2 (hx2.trans hx3) hsub ⟨_,rfl⟩ (.inr ⟨_,hban,hleft⟩)
  rw[he] at hk
  obtain⟨ν2,hx2,hf2,ho3⟩:=w9a hor hlen hreps1 hq hLt (fun m hm=>hS2.own m (by simp[hm])) hu (Ext.refl _) h.fresh
  obtain⟨ν3,hx3,hf3,hl3,hr3,ho4,_⟩:=z26 (lkc:=ro.cell) hLr hr hf2
  obtain⟨hsub,⟨ms2,hG⟩,hleft⟩:=h3 (outs:=ros++(uo++fz)) (nx:=rn) (hx2.trans hx3) hf3 (by rw[List.append_assoc] at hS4;exact hS4) (ho4.append ((ho3.mono hx3 (Sub.refl _)).append (hofz.mono (hx2.trans hx3) hsub2)))
  have hG':G D cx ν0 ro {slots:=st.slots,objs:=ros++(uo++(fz++Bt st.objs (tk++fzl))),next:=rn} f w1 ν3 σ2 ms2:=by
   rw[List.append_assoc,List.append_assoc] at hG
   exact hG
  obtain⟨st',hk',_,_,hG2⟩:=hG'.put (w9c hl3 hr3) hk
  exact hKK [] st' _ w1 ν3 σ2 ms2 hk' hG2 (hx2.trans hx3) hsub ⟨_,rfl⟩ (.inr ⟨_,hban,hleft⟩)
end Go.Fx
end
noncomputable section
set_option maxRecDepth 100000
namespace Go.Fx
open Go Go.RowKit Go.Fl Go.Fl.Lk
variable {S:Sig}{P:Program}{D:Shp S}{ν ν' ν0 ν1:Nm}{σ τ σ0 σ1:Hv}{n:Nat}{f:Fr}
variable {w w0:World}{cx:Cx}{ro:Ro S}{st:AS S}{ms:List HObj}
theorem q8p:(mk n f).defers=[]:=by unfold mk;rfl
theorem w1w: ∀{vs:List Value} {ss:List (SV S)},vs.length=ss.length->(∀(j:Nat) v s,vs[j]? =some v->ss[j]? =some s->SRep D ν σ v s)-> ∀j,SRep D ν σ (frl vs j) (frlS ss j):=by
 intro vs ss hl h j
 rw[v38]
 unfold frlS
 rw[List.getD_eq_getElem?_getD,List.getD_eq_getElem?_getD]
 rcases Nat.lt_or_ge j ss.length with hlt|hge
 ·obtain⟨v,hv⟩:=getq (l:=vs) (k:=j) (by omega)
  obtain⟨s,hs⟩:=getq (l:=ss) (k:=j) hlt
  rw[hv,hs]
  exact h j v s hv hs
 ·rw[List.getElem?_eq_none hge,List.getElem?_eq_none (by omega)]
  exact .und
def v6h(E:Ev S)(inlh:InlH S)(C:Ro S->Prop):Prop:=
 ∀{g:Nat} {cx:Cx} {ν0:Nm} {ro:Ro S} {st:AS S} {f:Fr} {w:World} {ν:Nm} {σ:Hv} {ms:List HObj} {full:List (SV S)} {vals:List Value} {k:AS S->SV S->Prop} {R:Ending->World->Prop},C ro->
  inlh g full ro st k->G E.D cx ν0 ro st f w ν σ ms->vals.length=full.length->(∀(j:Nat) v s,vals[j]? =some v->full[j]? =some s->SRep E.D ν σ v s)->
  (∀st' s v w' ν' σ' ms',k st' s->st'.slots=st.slots->SRep E.D ν' σ' v s->G E.D cx ν0 ro st' f w' ν' σ' ms'->Ext ν ν'->Sub σ σ'->R (.returned v) w')->Calls E.P g vals.toArray w R
theorem w1x{E:Ev S}(hE:EvOk E){inlh:InlH S}{C:Ro S->Prop}(hin:v6h E inlh C)(n:Nat):StH E inlh n C:=by
 intro cx ν0 ro st f w ν σ ms o ban k hro hk h
 unfold w5j at hk
 split at hk
 ·rename_i fo args ts ho
  split at hk
  case h_2=>exact hk.elim
  rename_i g first cap hf
  split at hk
  ·rename_i c hc
   have hc:E.con g=some c∨E.alt g=some c:=by
    cases hb:v8l E o with
    |true=>rw[hb] at hc;cases hc
    |false=>
     rw[hb] at hc
     cases ha:altE E o with
     |true=>rw[ha] at hc;exact .inr hc
     |false=>rw[ha] at hc;exact .inl hc
   obtain⟨hen,hM⟩:=hc.elim (hE.con g c) (hE.alt g c)
   exact w9e hE.hP.flat hE.hP.ok hen hM h ho hf hk
  ·rw[j1o] at hk
   obtain⟨tko,hpk,hk⟩:=Qf hk
   obtain⟨hi,hk⟩:=Jc hk
   obtain⟨hi,hban⟩:=Qu hi
   obtain⟨hi,hnd⟩:=Qu hi
   obtain⟨htk,hfind⟩:=j0o hpk
   intro KK Q hKK
   have hfn:=w8n (n:=n) h.slots h.glob fo
   rw[hf] at hfn
   generalize hfv:ev n f fo=fv at hfn
   cases hfn with
   |fn _ a b _ _ hl ha hl' hb=>
    obtain⟨hlen,hreps⟩:=w9d hl ha hl' hb (vs:=args.toList.map (ev n f)) (ss:=args.toList.map (evS n ro st)) (by simp) (fun j v s hj hk=>by
     rw[List.getElem?_map] at hj hk
     rcases hq:args.toList[j]? with _|x
     ·rw[hq] at hj;cases hj
     ·rw[hq] at hj hk;cases hj;cases hk;exact w8n h.slots h.glob x)
    have hrun:=j9k (w:=w) ho hfv (hE.inl g hi)
    generalize v4i ro st (first++args.toList.map (evS n ro st)++cap)=tk at hk hnd hban htk
    obtain⟨ins,rest,hp,h1,h2⟩:=h.objs.takes (tlo:=tko) (by rw[htk];exact q5v hnd) hfind
    obtain⟨r1,r2,rfl,hr1,hr2⟩:=h2.split
    have hS:St cx w σ ((ins++r2)++r1):=h.mem.perm (hp.trans (by rw[List.append_assoc];exact List.perm_append_comm.append_left ins))
    have hG1:G E.D ⟨w,σ,feet (ins++r2)⟩ ν0 ro {slots:=st.slots,objs:=tko,next:=st.next} f w ν σ (ins++r2):=⟨hS.inner,h1.append hr2,h.slots,h.fresh,h.ext,h.glob⟩
    unfold Oper.wp
    rw[U6,hrun,Oper.upon_enter]
    refine hin hro hk hG1 hlen hreps fun st' s v w' ν' σ' ms' hk' hsl hs hG hx hsub=> ?_
    rw[z1h] at hk'
    show KK ((mk n f).put o.dst v) w'
    rw[z1i]
    obtain⟨ma,mb,rfl,hma,hmb⟩:=hG.objs.split
    have hG2:G E.D cx ν0 ro {slots:=st'.slots,objs:=st'.objs++Bt st.objs tk,next:=st'.next} f w' ν' σ' ((ma++r1)++mb):=
     ⟨(hS.callM hG.mem rfl).perm (by rw[List.append_assoc,List.append_assoc];exact List.perm_append_comm.append_left ma),(hma.append (by rw[←htk];exact hr1.mono hx hsub)).append hmb,hG.slots,hG.fresh,hG.ext,hG.glob⟩
    obtain⟨st2,hk2,_,_,hG3⟩:=hG2.put hs hk'
    refine hKK [] st2 _ w' ν' σ' _ hk2 hG3 hx hsub ⟨_,rfl⟩ (.inr ⟨_,hban,fun b o a v ho hf hfz hv hbk=> ?_⟩)
    rw[List.mem_append,not_or] at ho
    have hnr:Zb ro.objs o=none:=by
     cases hq:Zb ro.objs o with
     |none=>rfl
     |some c=>exact absurd (List.mem_map.2 ⟨_,j1h hq,rfl⟩) ho.2
    have hf1:Zb (Bt st.objs (tko.map (·.1))) o=some a:=by
     rw[htk,z23 ho.1]
     rw[Vx,hnr] at hf
     cases hq:Zb st.objs o with
     |none=>rw[hq] at hf;cases hf
     |some c=>rw[hq] at hf;exact hf
    obtain⟨m,hm,hr⟩:=hr1.find hf1
    have hmo:=hS.own m (by simp[hm])
    have hmb':=hr.foot' hmo hfz hv hbk
    refine hG.mem.keeps.block b (m.lt w b hmo hmb') fun hmem=> ?_
    obtain⟨m',hm',hmb2⟩:=q0n.1 hmem
    exact (List.pairwise_append.1 hS.sep).2.2 m' hm' m hm b hmb2 hmb'
 ·rename_i op hop
  cases hb:w5i (lzE E o) (obS ro st) (evS n ro st) o.op with
  |true=>rw[hb] at hk;simp only[z1h] at hk;exact v2k hE.hP h hk
  |false=>
   rw[hb] at hk
   cases hwr:wrpE E o with
   |true=>rw[hwr] at hk;exact v2l h hk
   |false=>rw[hwr] at hk;exact w8q hE.hP h hk
theorem v8s{E:Ev S}(hE:EvOk E)(b:Nat):EvOk (E.at b):=⟨hE.hP,hE.mix,hE.con,hE.inl,hE.alt⟩
theorem v6i{a b:SV S}(h:refQ a b=true):a=b:=by
 unfold refQ at h
 split at h
 ·obtain⟨h1,h2⟩:=Qu h
  rw[Nat.eq_of_beq_eq_true h1,Nat.eq_of_beq_eq_true h2]
 ·cases h
theorem q9k{nm:Nat}: ∀{l:List (Item S)},z35 nm l=true->z35 nm (z22 l)=true
 |[],_=>rfl
 |(.slot j,kd)::l,h=>q9k (l:=l) h
 |(.obj o,kd)::l,h=>by
  obtain⟨h1,h2⟩:=Qu h
  simp only[z22,z35,h1,q9k h2,Bool.and_self]
 |(.cell o i,kd)::l,h=>by
  obtain⟨h1,h2⟩:=Qu h
  simp only[z22,z35,h1,q9k h2,Bool.and_self]
theorem RoE.out{sp:Spec S}{νe:Nm}{ro:Ro S}{nm:Nat}(h:RoE D ν0 νe ro sp nm)(hc:sp.cobj=[]):RoE D ν0 νe ro (z5y sp) nm:=
 ⟨h.dom,h.ext,h.slots,h.objs,fun q hq=>(by rw[show (z5y sp).cobj=sp.cobj from rfl,hc] at hq;cases hq),h.cobj,q9k h.lt,h.clt⟩
theorem w9f{lkc:Nat->Nat->SV S}{nx o:Nat}{a:AO S}{m:HObj}(hf: ∀o,nx<=o->ν o=none)(h:ORep D ν σ lkc o a m):o<nx:=by
 have hn: ∃v,ν o=some v:=by
  cases a with
  |cells ty l=>obtain⟨b,cs,h1,_⟩:=h;exact⟨_,h1⟩
  |vec e T l=>obtain⟨v,xs,h1,_⟩:=h;exact⟨_,h1⟩
  |frz T l=>obtain⟨v,h1,_⟩:=h;exact⟨_,h1⟩
  |arr ty T N l=>obtain⟨b,cs,h1,_⟩:=h;exact⟨_,h1⟩
  |map K V F=>obtain⟨b,m,h1,_⟩:=h;exact⟨_,h1⟩
  |iter K V F done cur=>obtain⟨r,b,es,clock,cv,h1,_⟩:=h;exact⟨_,h1⟩
  |siter s pos=>obtain⟨r,h1,_⟩:=h;exact⟨_,h1⟩
  |vech e T l k f q=>obtain⟨v,xs,h1,_⟩:=h;exact⟨_,h1⟩
 obtain⟨v,hv⟩:=hn
 rcases Nat.lt_or_ge o nx with hlt|hge
 ·exact hlt
 ·rw[hf o hge] at hv;cases hv
theorem j0p{lkc:Nat->Nat->SV S}{nx:Nat}(hf: ∀o,nx<=o->ν o=none): ∀{l:List (Item S)} {os:List (Nat×AO S)},(∀o a,Zb os o=some a-> ∃m,ORep D ν σ lkc o a m)->w8m os l=true->z35 nx l=true
 |[],_,_,_=>rfl
 |(.slot j,kd)::l,os,hr,h=>j0p hf (l:=l) hr h
 |(.obj o,kd)::l,os,hr,h=>by
  obtain⟨h1,h2⟩:=Qu h
  obtain⟨a,ha⟩:=Option.isSome_iff_exists.1 h1
  obtain⟨m,hm⟩:=hr o a ha
  simp only[z35,j0p hf hr h2,Bool.and_true,Nat.blt_eq]
  exact w9f hf hm
 |(.cell o i,kd)::l,os,hr,h=>by
  obtain⟨h1,h2⟩:=Qu h
  obtain⟨a,ha⟩:=Option.isSome_iff_exists.1 h1
  obtain⟨m,hm⟩:=hr o a ha
  simp only[z35,j0p hf hr h2,Bool.and_true,Nat.blt_eq]
  exact w9f hf hm
theorem G.lockF{sp:Spec S}{ro1 ro':Ro S}{full full':List (SV S)}{vals:List Value}(h:G D cx ν0 ro' st f w ν σ ms)(ho:ro'.objs=ro1.objs)(hc:ro'.cell=ro1.cell)(hgl:ro1.glob=ro'.glob)(hl:ro1.lock=sp.lock)
  (hs: ∀j,hasN sp.lock j=true->ro1.slots j=frlS full j)(hsame:sp.lock.all (fun j=>refQ (frlS full' j) (frlS full j))=true)(hlen:vals.length=full'.length)(hr: ∀(j:Nat) v s,vals[j]? =some v->full'[j]? =some s->SRep D ν σ v s):
  G D ⟨w,σ,feet ms⟩ ν ro1 {slots:=frlS full',objs:=st.objs,next:=st.next} (frl vals) w ν σ ms:=by
 have hmem:St cx w σ (ms++[]):=by rw[List.append_nil];exact h.mem
 refine⟨hmem.inner,by have:=h.objs;rw[ho,hc] at this;exact this,fun j=> ?_,h.fresh,Ext.refl _,⟨hgl.trans h.glob.1,h.glob.2⟩⟩
 have hj:=w1w hlen hr j
 show SRep D ν σ _ (bif hasN ro1.lock j then ro1.slots j else frlS full' j)
 rw[hl]
 cases hb:hasN sp.lock j with
 |false=>exact hj
 |true=>
  rw[cond_true,hs j hb]
  have:j∈sp.lock:=by
   refine Classical.byContradiction fun hn=> ?_
   rw[v6b hn] at hb;cases hb
  rw[←v6i (List.all_eq_true.1 hsame j this)]
  exact hj
theorem v8t{E:Ev S}(hE:EvOk E): ∀fuel,v6h E (inlN E fuel) (fun _=>True):=by
 intro fuel
 induction fuel with
 |zero=>intro g cx ν0 ro st f w ν σ ms full vals k R _ hk;exact hk.elim
 |succ fuel ih=>
  intro g cx ν0 ro st f w ν σ ms full vals k R _ hk h hlen hreps hR
  simp only[inlN] at hk
  split at hk
  case h_2=>exact hk.elim
  rename_i fn hfn
  split at hk
  case h_2=>exact hk.elim
  rename_i c hc
  obtain⟨hs,hk⟩:=Jc hk
  have hmem:St cx w σ (ms++[]):=by rw[List.append_nil];exact h.mem
  have hG:G E.D ⟨w,σ,feet ms⟩ ν {slots:=fun _=> .dead,lock:=[],objs:=ro.objs,cell:=ro.cell,glob:=ro.glob} {slots:=frlS full,objs:=st.objs,next:=st.next} (frl vals) w ν σ ms:=
   ⟨hmem.inner,h.objs,w1w hlen hreps,h.fresh,Ext.refl _,h.glob⟩
  split at hk
  ·have hR2: ∀st' f' w' ν' σ' ms',G E.D ⟨w,σ,feet ms⟩ ν {slots:=fun _=> .dead,lock:=[],objs:=ro.objs,cell:=ro.cell,glob:=ro.glob} st' f' w' ν' σ' ms'->
     (resK E.P E.D fn.ntmps {slots:=fun _=> .dead,lock:=[],objs:=ro.objs,cell:=ro.cell,glob:=ro.glob} st' fn.results.toList fun r=>k {slots:=st.slots,objs:=st'.objs,next:=st'.next} (tupS r))->
     ∃v,(results fn (mk fn.ntmps f').tmps).run E.P w'= .ok v w'/\ ∃u,Ending.returned v= .returned u/\R (.returned u) w':=by
    intro st' f' w' ν' σ' ms' hG' hk'
    obtain⟨ss,vs,hk',hl1,hl2,hr1,hr2⟩:=v4n hE.hP hG' hk'
    refine⟨retV vs,z4w hl2 hr2,_,rfl,hR _ _ _ w' ν' σ' (ms'++[]) hk' rfl (w9c hl1 hr1) ⟨hmem.callM hG'.mem rfl,?_,fun j=>(h.slots j).mono hG'.ext hG'.mem.sub,hG'.fresh,h.ext.trans hG'.ext,z5z h.glob hG'.mem.sub⟩ hG'.ext hG'.mem.sub⟩
    rw[List.append_nil];exact hG'.objs
   refine Calls.mono (R:=fun e w=> ∃u,e= .returned u/\R (.returned u) w) ?_ ?_
   ·refine enter hfn hc rfl (by rw[List.size_toArray,hlen];exact hs) (v6c (E:=E.at (1000000*(g+1))) (C:=fun _=>True) (fun _ _ _ _=>trivial) (n:=fn.ntmps) hE.hP hE.mix (w1x (v8s hE (1000000*(g+1))) ih fn.ntmps) trivial hk hG (fun c a w=> ?_) ?_)
    ·rintro⟨_,u,hu,_⟩;cases hu
    ·intro e st' f' w' ν' σ' ms' hk' hG'
     cases e with
     |ret=>
      obtain⟨v,h1,h2⟩:=hR2 _ _ _ _ _ _ hG' hk'
      exact bodyPost_ret h1 q8p h2
     |normal=>
      obtain⟨v,h1,h2⟩:=hR2 _ _ _ _ _ _ hG' hk'
      exact bodyPost_end h1 q8p h2
     |_=>exact hk'.elim
   ·rintro e w' ⟨u,rfl,hu⟩
    exact hu
  ·
   rename_i sp _
   obtain⟨robj,hr,hk⟩:=z72 hk
   obtain⟨hcc,hk⟩:=Jc hk
   obtain⟨hcc,hres⟩:=Qu hcc
   obtain⟨hcc,hcob⟩:=Qu hcc
   have hcob:sp.cobj=[]:=by simpa using hcob
   have hres:fn.results.toList=[]:=by simpa using hres
   have hch:=j6r hcc
   obtain⟨ms1,hG1⟩:=hG.enter hch hr
   have hRE:=hG1.roE hch
   have hG1':G E.D ⟨w,σ,feet ms⟩ ν {roOf sp {slots:=fun _=> .dead,lock:=[],objs:=ro.objs,cell:=ro.cell,glob:=ro.glob} {slots:=frlS full,objs:=st.objs,next:=st.next} robj with stamp:=1} {slots:=frlS full,objs:=Rb sp (Bt st.objs sp.robj),next:=st.next} (frl vals) w ν σ ms1:=⟨hG1.mem,hG1.objs,hG1.slots,hG1.fresh,hG1.ext,hG1.glob⟩
   have hRE':RoE E.D ν ν {roOf sp {slots:=fun _=> .dead,lock:=[],objs:=ro.objs,cell:=ro.cell,glob:=ro.glob} {slots:=frlS full,objs:=st.objs,next:=st.next} robj with stamp:=1} sp st.next:=⟨hRE.dom,hRE.ext,hRE.slots,hRE.objs,hRE.cells,hRE.cobj,hRE.lt,hRE.clt⟩
   have hlk:({roOf sp {slots:=fun _=> .dead,lock:=[],objs:=ro.objs,cell:=ro.cell,glob:=ro.glob} {slots:=frlS full,objs:=st.objs,next:=st.next} robj with stamp:=1}:Ro S).lock=sp.lock:=rfl
   have hsl: ∀j,hasN sp.lock j=true->({roOf sp {slots:=fun _=> .dead,lock:=[],objs:=ro.objs,cell:=ro.cell,glob:=ro.glob} {slots:=frlS full,objs:=st.objs,next:=st.next} robj with stamp:=1}:Ro S).slots j=frlS full j:=fun j _=>rfl
   have hleave: ∀{cx':Cx} {a:AS S} {f':Fr} {w':World} {ν':Nm} {σ':Hv} {ms':List HObj},G E.D cx' ν {roOf sp {slots:=fun _=> .dead,lock:=[],objs:=ro.objs,cell:=ro.cell,glob:=ro.glob} {slots:=frlS full,objs:=st.objs,next:=st.next} robj with stamp:=1} a f' w' ν' σ' ms'->G E.D cx' ν {slots:=fun _=> .dead,lock:=[],objs:=ro.objs,cell:=ro.cell,glob:=ro.glob} (j88 sp {slots:=frlS full,objs:=st.objs,next:=st.next} robj a) f' w' ν' σ' ms':=by
    intro cx' a f' w' ν' σ' ms' hg
    exact G.leave hch hr ⟨hg.mem,hg.objs,hg.slots,hg.fresh,hg.ext,hg.glob⟩
   generalize hro1:({roOf sp {slots:=fun _=> .dead,lock:=[],objs:=ro.objs,cell:=ro.cell,glob:=ro.glob} {slots:=frlS full,objs:=st.objs,next:=st.next} robj with stamp:=1}:Ro S)=ro1 at hk hG1' hRE' hlk hsl hleave
   have hst1:ro1.stamp=1:=by rw[←hro1]
   obtain⟨t0,ν2,σ2,ms2,hL,hG2⟩:=z71 hE.hP.ok hRE' hG1' hk
   have main:=hL (fun nm t Y=> ∀(cx:Cx) (ν0 νe:Nm) (vals:List Value) (w:World) (ν:Nm) (σ:Hv) (ms:List HObj),Nat.ble vals.toArray.size fn.ntmps=true->RoE E.D ν0 νe ro1 sp nm->G E.D cx ν0 ro1 (stOf E.D sp nm t) (frl vals) w ν σ ms->
    Calls E.P g vals.toArray w fun e w'=> ∃u v f' ν' σ' ms',e= .returned v/\SRep E.D ν' σ' v (.tup [])/\Y u/\G E.D cx ν0 ro1 (stOf E.D (z5y sp) nm u) f' w' ν' σ' ms') (fun nm t Y hb cx ν0 νe vals w ν σ ms hsz hRE hG=> ?_)
   ·refine Calls.mono (main ⟨w,σ,feet ms⟩ ν ν vals w ν2 σ2 ms2 (by rw[List.size_toArray,hlen];exact hs) hRE' hG2) ?_
    rintro e w' ⟨u,v,f',ν',σ',ms',rfl,hv,hu,hGu⟩
    have hGl:=hleave hGu
    refine hR _ _ v w' ν' σ' (ms'++[]) hu rfl hv ⟨hmem.callM hGl.mem rfl,?_,fun j=>(h.slots j).mono hGl.ext hGl.mem.sub,hGl.fresh,h.ext.trans hGl.ext,z5z h.glob hGl.mem.sub⟩ hGl.ext hGl.mem.sub
    rw[List.append_nil]
    exact hGl.objs
   ·
    have hin:v6h E (hndl E.D g sp ro1 full fun nm t Y=> ∀(cx:Cx) (ν0 νe:Nm) (vals:List Value) (w:World) (ν:Nm) (σ:Hv) (ms:List HObj),Nat.ble vals.toArray.size fn.ntmps=true->RoE E.D ν0 νe ro1 sp nm->G E.D cx ν0 ro1 (stOf E.D sp nm t) (frl vals) w ν σ ms->
      Calls E.P g vals.toArray w fun e w'=> ∃u v f' ν' σ' ms',e= .returned v/\SRep E.D ν' σ' v (.tup [])/\Y u/\G E.D cx ν0 ro1 (stOf E.D (z5y sp) nm u) f' w' ν' σ' ms') (fun r=>r.stamp=1->r=ro1):=by
     intro g' cx ν0 ro' st' f w ν σ ms full' vals k' R hro' hk' h hlen' hreps' hR'
     unfold hndl at hk'
     obtain⟨hcc',hk'⟩:=Jc hk'
     obtain⟨hcc',hoi⟩:=Qu hcc'
     obtain⟨hcc',hsame⟩:=Qu hcc'
     obtain⟨hcc',hfl⟩:=Qu hcc'
     obtain⟨hg',hstm⟩:=Qu hcc'
     have hg':=Nat.eq_of_beq_eq_true hg'
     subst hg'
     have hro':=hro' (Nat.eq_of_beq_eq_true hstm)
     subst hro'
     have hG0:=h.lockF rfl rfl rfl hlk hsl hsame hlen' hreps'
     have hmem':St cx w σ (ms++[]):=by rw[List.append_nil];exact h.mem
     have hRE0:RoE E.D ν ν ro' sp st'.next:=by
      refine⟨fun o v hv=> ?_,Ext.refl ν,fun j hj=> ?_,fun q hq=> ?_,fun q hq=>(by rw[hcob] at hq;cases hq),hRE'.cobj,?_,fun q hq=>(by rw[hcob] at hq;cases hq)⟩
      ·rcases Nat.lt_or_ge o st'.next with hlt|hge
       ·exact hlt
       ·rw[h.fresh o hge] at hv;cases hv
      ·have:=hG0.slots j
       unfold q4t at this
       rw[hj] at this
       exact⟨_,_,this⟩
      ·obtain⟨m1,m2,rfl,h1,h2⟩:=h.objs.split
       obtain⟨m,hm⟩:=h2.mem (o:=q.1) (a:=q.2) hq
       exact⟨σ,m,hm⟩
      ·refine j0p (D:=E.D) (σ:=σ) (lkc:=ro'.cell) h.fresh (fun o a ha=> ?_) hoi
       obtain⟨m,_,hm⟩:=h.objs.find (o:=o) (a:=a) (by rw[Vx,ha])
       exact⟨m,hm⟩
     obtain⟨t,ν3,σ3,ms3,ht,hG3⟩:=z71 hE.hP.ok hRE0 hG0 hk'
     refine Calls.mono (ht _ ν ν vals w ν3 σ3 ms3 (by rw[List.size_toArray,hlen',Nat.eq_of_beq_eq_true hfl];exact hs) hRE0 hG3) ?_
     rintro e w' ⟨u,v,f',ν',σ',ms',rfl,hv,hu,hGu⟩
     refine hR' _ _ v w' ν' σ' (ms'++[]) hu rfl hv ⟨hmem'.callM hGu.mem rfl,?_,fun j=>(h.slots j).mono hGu.ext hGu.mem.sub,hGu.fresh,h.ext.trans hGu.ext,z5z h.glob hGu.mem.sub⟩ hGu.ext hGu.mem.sub
     rw[List.append_nil];exact hGu.objs
    have hout:=hRE.out hcob
    have hfin: ∀st' f' w' ν' σ' ms',G E.D cx ν0 ro1 st' f' w' ν' σ' ms'->endI E.D ro1 (z5y sp) st' Y->
      ∃v,(results fn (mk fn.ntmps f').tmps).run E.P w'= .ok v w'/\ ∃u v' f' ν' σ' ms',Ending.returned v= .returned v'/\SRep E.D ν' σ' v' (.tup [])/\Y u/\G E.D cx ν0 ro1 (stOf E.D (z5y sp) nm u) f' w' ν' σ' ms':=by
     intro st' f' w' ν' σ' ms' hG' hk'
     obtain⟨u,ν3,σ3,ms3,hu,hG3⟩:=z71 hE.hP.ok hout hG' hk'
     refine⟨retV [],z4w (by rw[hres];rfl) (fun i a v hi=>by rw[hres] at hi;cases hi),u,_,f',ν3,σ3,ms3,rfl,?_,hu,hG3⟩
     exact .tup [] [] rfl fun j v s hj=>by cases hj
    refine enter hfn hc rfl hsz (v6c (E:=E.at (1000000*(g+1))) (C:=fun r=>r.stamp=1->r=ro1) (fun _ _ _ _ hst=>by cases hst) (n:=fn.ntmps) hE.hP hE.mix (w1x (v8s hE (1000000*(g+1))) hin fn.ntmps) (fun _=>rfl) hb hG (fun c a w=> ?_) ?_)
    ·rintro⟨_,u,v,_,_,_,_,hu,_⟩;cases hu
    ·intro e st' f' w' ν' σ' ms' hk' hG'
     cases e with
     |ret=>
      obtain⟨v,h1,h2⟩:=hfin _ _ _ _ _ _ hG' hk'
      exact bodyPost_ret h1 q8p h2
     |normal=>
      obtain⟨v,h1,h2⟩:=hfin _ _ _ _ _ _ hG' hk'
      exact bodyPost_end h1 q8p h2
     |_=>exact hk'.elim
theorem v2s{E:Ev S}(hE:EvOk E)(fuel n:Nat):StH E (inlN E fuel) n (fun _=>True):=w1x hE (v8t hE fuel) n
theorem j6t: ∀{l:List (SV S)} {k:Nat},resL (fun _=>SV.lk) k l=l
 |[],_=>rfl
 |s::l,k=>by
  rw[q0p,j6t]
  cases s<;>rfl
def roI(D:Shp S)(os:List (Nat×AO S)):Ro S:={slots:=fun _=> .dead,lock:=[],objs:=[],cell:=fun o i=>match Zb os o with|some (.cells _ l)=>l.getD i .dead|_=> .dead,glob:=D.glob}
theorem j5o{cs:List (Nat×Nat)}{lkc:Nat->Nat->SV S}: ∀{os:List (Nat×AO S)} {ms:List HObj},(∀q∈os,∀ty l,q.2= .cells ty l-> ∀i s,l[i]? =some s->lkc q.1 i=s)->Objs D ν σ (fun _ _=> .lk) os ms->Objs D ν σ lkc (w1o cs os) ms
 |[],ms,_,h=>by cases ms with|nil=>trivial|cons=>exact h.elim
 |(o,a)::os,ms,hq,h=>by
  cases ms with
  |nil=>exact h.elim
  |cons m ms=>
   have ih:=j5o (cs:=cs) (fun q hq'=>hq q (by simp[hq'])) h.2
   have h1:=h.1
   cases a with
   |cells ty l=>
    simp only[w1o]
    refine⟨?_,ih⟩
    obtain⟨b,vs,e1,e2,e3⟩:=h1
    refine⟨b,vs,e1,e2,?_⟩
    rw[j1u (h:=fun _=> .lk) (fun i s hi=>by rw[j6t] at hi;rw[Nat.zero_add];exact hq (o,.cells ty l) (by simp) ty l rfl i s hi)]
    exact e3
   |vec e T l=>exact⟨h1,ih⟩
   |frz T l=>exact⟨h1,ih⟩
   |arr ty T N l=>exact⟨h1,ih⟩
   |map K V F=>exact⟨h1,ih⟩
   |iter K V F done cur=>exact⟨h1,ih⟩
   |siter s pos=>exact⟨h1,ih⟩
   |vech e T l k f q=>exact⟨h1,ih⟩
theorem y02{E:Ev S}(hE:EvOk E)(fuel g:Nat)(pk rk:List (PK S)):q70 E.P E.D g ⟨pk,fnVC E fuel g pk rk⟩:=by
 intro args K hm w σ vals ins hgl hL hS
 simp only[fnVC] at hm
 split at hm
 case h_2=>exact hm.elim
 rename_i fn hfn
 split at hm
 case h_2=>exact hm.elim
 rename_i c ss os nx hc hi
 obtain⟨hs,hm⟩:=Jc hm
 have hD:=hE.hP.ok
 obtain⟨νi,_,hfr,hlen,hreps,hraw,_,hnm,hnd⟩:=z26 (lkc:=fun _ _=> .lk) (ν:=fun _=>none) hL hi (fun _ _=>rfl)
 have hfind: ∀q∈os,Zb os q.1=some q.2:=fun q hq=>z1j hnd hq
 have hG:G E.D ⟨w,σ,feet ins⟩ νi (roI E.D os) {slots:=frlS ss,objs:=w1o (v2i pk ss (Zb os)) os,next:=nx} (frl vals) w νi σ ins:=by
  refine⟨hS,?_,w1w hlen hreps,hfr,Ext.refl _,⟨rfl,hgl⟩⟩
  show Objs E.D νi σ (roI E.D os).cell (w1o (v2i pk ss (Zb os)) os++[]) ins
  rw[List.append_nil]
  refine j5o (fun q hq ty l he i s hs=> ?_) hraw
  have:=hfind q hq
  simp only[roI,this,he,List.getD_eq_getElem?_getD,hs,Option.getD_some]
 have hR: ∀a f' w' ν' σ' ms',G E.D ⟨w,σ,feet ins⟩ νi (roI E.D os) a f' w' ν' σ' ms'->(resK E.P E.D fn.ntmps (roI E.D os) a fn.results.toList fun r=>optK (z5x E.D (obS (roI E.D os) a) (roI E.D os).cell rk r) fun q=>optK (z9r (obS (roI E.D os) a) (Zb os) (roI E.D os).cell pk ss) fun q'=>
   optK (frzs (obS (roI E.D os) a) (q.2.2++q'.2.2)) fun _=>bif q8o (q.2.1++q'.2.1++(q.2.2++q'.2.2)) && inRw a (q.2.1++q'.2.1++(q.2.2++q'.2.2)) then K q.1 q'.1 else False)->
   ∃v,(results fn (mk fn.ntmps f').tmps).run E.P w'= .ok v w'/\Back E.D σ w args vals ins K (.returned v) w':=by
  intro a f' w' ν' σ' ms' hG' hk
  obtain⟨rs,vs,hk,hl1,hl2,hr1,hr2⟩:=v4n hE.hP hG' hk
  refine⟨retV vs,z4w hl2 hr2,?_⟩
  obtain⟨q,hq,hk⟩:=Qf hk
  obtain⟨q',hq',hk⟩:=Qf hk
  obtain⟨fz,hfz,hk⟩:=Qf hk
  obtain⟨hc,hk⟩:=Jc hk
  obtain⟨hndq,hrw⟩:=Qu hc
  obtain⟨rets,tk1,fz1⟩:=q
  obtain⟨outs,tk2,fz2⟩:=q'
  simp only at hfz hndq hrw hk
  have hrw0:=hrw
  rw[q5w,q5w] at hrw0
  obtain⟨hrw1,hrw3⟩:=Qu hrw0
  obtain⟨hrw1,hrw2⟩:=Qu hrw1
  obtain⟨tlo1,ht1,hob1⟩:=z27 (ro:=roI E.D os) hrw1
  obtain⟨tlo2,ht2,hob2⟩:=z27 (ro:=roI E.D os) hrw2
  obtain⟨tlo3,ht3,hob3⟩:=z27 (ro:=roI E.D os) hrw3
  obtain⟨oh,kn,_⟩:=hG'.kn (n:=fn.ntmps)
  have htl:((tlo1++tlo2)++tlo3).map (·.1)=tk1++tk2++(fz1++fz2):=by rw[List.map_append,List.map_append,ht1,ht2,ht3]
  obtain⟨insA,rest,hp,ho,_⟩:=hG'.objs.takes (tlo:=(tlo1++tlo2)++tlo3) (by rw[htl];exact q5v hndq) (fun q hq=>by
   have hqm:q.1∈tk1++tk2++(fz1++fz2):=by rw[←htl];exact List.mem_map.2 ⟨q,hq,rfl⟩
   obtain⟨x,hx⟩:=j9a hrw q.1 hqm
   refine w8p (ro:=roI E.D os) hx ?_
   rcases List.mem_append.1 hq with hq|hq
   ·rcases List.mem_append.1 hq with hq|hq
    ·exact hob1 q hq
    ·exact hob2 q hq
   ·exact hob3 q hq)
  obtain⟨i12,i3,rfl,ho12,ho3⟩:=ho.split
  obtain⟨i1,i2,rfl,ho1,ho2⟩:=ho12.split
  have hS1:St ⟨w,σ,feet ins⟩ w' σ' ((i1++i2)++i3):=(hG'.mem.perm hp).sublist (List.sublist_append_left _ _)
  obtain⟨σ2,m3,hS2,hsub2,hofz⟩:=q2d hD hfz ht3 hob3 ho3 hS1
  have hrep:=z4t hfz hofz
  have hor: ∀o x,obS (roI E.D os) a o=some x->ORep E.D ν' σ2 (roI E.D os).cell o x (oh o):=fun o x ho=>(kn.o o x ho).1.mono (Ext.refl _) hsub2
  obtain⟨m1,hLr,hN1⟩:=z1k hD hor hl1 (fun j v s hj hk=>(hr1 j v s hj hk).mono (Ext.refl _) hsub2) hq ht1 hob1 (ho1.mono (Ext.refl _) hsub2) (fun o e T l v hm=>hrep o e T l v (by simp[hm]))
  obtain⟨m2,hLt,hN2⟩:=v2q (ν0:=νi) (σ0:=σ) (w0:=w) (os:=Zb os) hD hor (fun o ty l hf=>by
    obtain⟨m,hm,b,cs,e1,e2,e3⟩:=hraw.find hf
    rw[j6t] at e3
    exact⟨b,cs,e1,e3,by rw[←e2];exact hS.own m hm⟩) (fun o ty l hf j=>by simp only[roI,hf]) hG'.ext (hS2.sub) hL hi hfind (fun q hq=>hS.own q hq) hlen hreps hq' ht2 hob2 (ho2.mono (Ext.refl _) hsub2) (fun o e T l v hm=>hrep o e T l v (by simp[hm]))
  have hS3:St ⟨w,σ,feet ins⟩ w' σ2 ((i1++i2)++[]):=by rw[List.append_nil];exact hS2.sublist (List.sublist_append_left _ _)
  have hS4:=(hN1.append hN2) _ _ _ _ hS3
  rw[List.append_nil] at hS4
  exact⟨rets,outs,vs,σ2,m1,m2,rfl,hk,hLr,hLt,hS4⟩
 refine enter hfn hc rfl (by rw[List.size_toArray,hlen];exact hs) (v6c (C:=fun _=>True) (fun _ _ _ _=>trivial) (n:=fn.ntmps) hE.hP hE.mix (v2s hE fuel fn.ntmps) trivial hm hG (fun c a w=> ?_) ?_)
 ·rintro⟨_,_,_,_,_,_,_,hu,_⟩;cases hu
 ·intro e st' f' w' ν' σ' ms' hk' hG'
  cases e with
  |ret=>
   obtain⟨v,h1,h2⟩:=hR _ _ _ _ _ _ hG' hk'
   exact bodyPost_ret h1 q8p h2
  |normal=>
   obtain⟨v,h1,h2⟩:=hR _ _ _ _ _ _ hG' hk'
   exact bodyPost_end h1 q8p h2
  |_=>exact hk'.elim
end Go.Fx
end
noncomputable section
set_option maxRecDepth 100000
section
namespace Go.Fx
open Go Go.RowKit Go.Fl Go.Fl.Lk
variable {S:Sig}{A:Type}
def Ev.with(E:Ev S)(g:Nat)(c:Con S):Ev S:={E with con:=fun k=>bif Nat.beq k g then some c else E.con k}
theorem w9g{E:Ev S}(hE:EvOk E){g:Nat}{c:Con S}(hen:Ent E.P g)(hc:q70 E.P E.D g c):EvOk (E.with g c):=by
 refine⟨hE.hP,hE.mix,fun k c' hk=> ?_,hE.inl,hE.alt⟩
 simp only[Ev.with] at hk
 cases hb:Nat.beq k g with
 |true=>
  rw[hb] at hk
  cases hk
  rw[Nat.eq_of_beq_eq_true hb]
  exact⟨hen,hc⟩
 |false=>rw[hb] at hk;exact hE.con k c' hk
end Go.Fx
end
section
namespace Go.Fx
open Go Go.RowKit Go.Fl Go.Fl.Lk
variable {S:Sig}
inductive VT(S:Sig):Type where
 |int (k:IntKind)
 |bool
 |str
 |ifc
 |sl (T:S.C)
 |vec (e:TypeId) (T:S.C)
 |kvec (e:TypeId) (T:S.C)
 |el (T:S.C)
 |map (K V:S.C)
 |same
 |ptr (ty:TypeId) (l:List (VT S))
 |vech (e:TypeId) (T:S.C) (f:Nat) (e2:TypeId) (T2:S.C)
 |fnc (g:Nat)
mutual
def VT.ty:VT S->Type
 | .int _=>Int
 | .bool=>Bool
 | .str=>ByteArray
 | .ifc=>Bool
 | .sl T=>List (S.car T)
 | .vec _ T=>List (S.car T)
 | .kvec _ T=>List (S.car T)
 | .el T=>S.car T
 | .map K V=>S.car K->Option (S.car V)
 | .same=>Unit
 | .ptr _ l=>TL l
 | .vech _ T _ _ T2=>List (S.car T)×Nat×List (S.car T2)
 | .fnc _=>Unit
def TL:List (VT S)->Type
 |[]=>Unit
 |v::l=>v.ty×TL l
end
mutual
def VT.put:(v:VT S)->v.ty->Tr S
 | .int k,x=> .f (.int k x)
 | .bool,x=> .f (.bool x)
 | .str,x=> .f (.str x)
 | .ifc,x=> .f (.ifc x)
 | .sl T,x=> .f (.sl T x)
 | .vec e T,x=> .vec e T x
 | .kvec e T,x=> .kvec e T x
 | .el T,x=> .el T x
 | .map K V,x=> .map K V x
 | .same,_=> .same
 | .ptr ty l,x=> .ptr ty (putL l x)
 | .vech e T f e2 T2,x=> .vech e T x.1 x.2.1 f e2 T2 x.2.2
 | .fnc g,_=> .fnc g
def putL:(l:List (VT S))->TL l->List (Tr S)
 |[],_=>[]
 |v::l,x=>v.put x.1::putL l x.2
end
mutual
def VT.get:(v:VT S)->Tr S->Option v.ty
 | .int k,t=>match t with
  | .f (.int k' n)=>bif k'==k then some n else none
  |_=>none
 | .bool,t=>match t with
  | .f (.bool b)=>some b
  |_=>none
 | .str,t=>match t with
  | .f (.str b)=>some b
  |_=>none
 | .ifc,t=>match t with
  | .f (.ifc b)=>some b
  |_=>none
 | .sl T,t=>match t with
  | .f (.sl T' l)=>match S.dec T' T with
   |isTrue h=>some (h▸l)
   |isFalse _=>none
  |_=>none
 | .vec e T,t=>match t with
  | .vec e' T' l=>bif Nat.beq e' e then (match S.dec T' T with
   |isTrue h=>some (h▸l)
   |isFalse _=>none) else none
  |_=>none
 | .kvec e T,t=>match t with
  | .kvec e' T' l=>bif Nat.beq e' e then (match S.dec T' T with
   |isTrue h=>some (h▸l)
   |isFalse _=>none) else none
  |_=>none
 | .el T,t=>match t with
  | .el T' l=>match S.dec T' T with
   |isTrue h=>some (h▸l)
   |isFalse _=>none
  |_=>none
 | .map K V,t=>match t with
  | .map K' V' F=>match S.dec K' K,S.dec V' V with
   |isTrue h,isTrue h'=>some (h▸h'▸F)
   |_,_=>none
  |_=>none
 | .same,t=>match t with
  | .same=>some ()
  |_=>none
 | .ptr ty l,t=>match t with
  | .ptr ty' ts=>bif Nat.beq ty' ty then getL l ts else none
  |_=>none
 | .vech e T f e2 T2,t=>match t with
  | .vech e' T' l k f' e2' T2' l2=>bif Nat.beq e' e && Nat.beq f' f && Nat.beq e2' e2 then (match S.dec T' T,S.dec T2' T2 with
   |isTrue h,isTrue h'=>some (h▸l,k,h'▸l2)
   |_,_=>none) else none
  |_=>none
 | .fnc g,t=>match t with
  | .fnc g'=>bif Nat.beq g' g then some () else none
  |_=>none
def getL:(l:List (VT S))->List (Tr S)->Option (TL l)
 |[],[]=>some ()
 |v::l,t::ts=>match v.get t,getL l ts with
  |some x,some y=>some (x,y)
  |_,_=>none
 |_,_=>none
end
theorem z28{α:Type}{c:Bool}{x:Option α}{y:α}(h:(bif c then x else none)=some y):c=true/\x=some y:=by
 cases c with
 |true=>exact⟨rfl,h⟩
 |false=>cases h
theorem y03{a b:IntKind}(h:(a==b)=true):a=b:=by cases a<;>cases b<;>first|rfl|exact absurd h (by decide)
mutual
theorem VT.get_put: ∀{v:VT S} {t:Tr S} {x:v.ty},v.get t=some x->v.put x=t
 | .int k,t,x,h=>by
  unfold VT.get at h
  split at h
  case h_2=>cases h
  obtain⟨h1,h2⟩:=z28 h
  cases h2
  rw[y03 h1];rfl
 | .bool,t,x,h=>by
  unfold VT.get at h
  split at h
  case h_2=>cases h
  cases h;rfl
 | .str,t,x,h=>by
  unfold VT.get at h
  split at h
  case h_2=>cases h
  cases h;rfl
 | .ifc,t,x,h=>by
  unfold VT.get at h
  split at h
  case h_2=>cases h
  cases h;rfl
 | .sl T,t,x,h=>by
  unfold VT.get at h
  split at h
  case h_2=>cases h
  split at h
  case h_2=>cases h
  rename_i e _
  subst e
  cases h;rfl
 | .vec e T,t,x,h=>by
  unfold VT.get at h
  split at h
  case h_2=>cases h
  obtain⟨h1,h⟩:=z28 h
  split at h
  case h_2=>cases h
  rename_i e _
  subst e
  cases h
  rw[Nat.eq_of_beq_eq_true h1];rfl
 | .kvec e T,t,x,h=>by
  unfold VT.get at h
  split at h
  case h_2=>cases h
  obtain⟨h1,h⟩:=z28 h
  split at h
  case h_2=>cases h
  rename_i e _
  subst e
  cases h
  rw[Nat.eq_of_beq_eq_true h1];rfl
 | .el T,t,x,h=>by
  unfold VT.get at h
  split at h
  case h_2=>cases h
  split at h
  case h_2=>cases h
  rename_i e _
  subst e
  cases h;rfl
 | .map K V,t,x,h=>by
  unfold VT.get at h
  split at h
  case h_2=>cases h
  split at h
  case h_2=>cases h
  rename_i e1 e2 _ _
  subst e1 e2
  cases h;rfl
 | .same,t,x,h=>by
  unfold VT.get at h
  split at h
  case h_2=>cases h
  rfl
 | .ptr ty l,t,x,h=>by
  unfold VT.get at h
  split at h
  case h_2=>cases h
  obtain⟨h1,h⟩:=z28 h
  rw[←Vh h,Nat.eq_of_beq_eq_true h1];rfl
 | .vech e T f e2 T2,t,x,h=>by
  unfold VT.get at h
  split at h
  case h_2=>cases h
  obtain⟨h1,h⟩:=z28 h
  obtain⟨h1,h3⟩:=Qu h1
  obtain⟨h1,h2⟩:=Qu h1
  split at h
  case h_2=>cases h
  rename_i e1 e2 _ _
  subst e1 e2
  cases h
  rw[Nat.eq_of_beq_eq_true h1,Nat.eq_of_beq_eq_true h2,Nat.eq_of_beq_eq_true h3];rfl
 | .fnc g,t,x,h=>by
  unfold VT.get at h
  split at h
  case h_2=>cases h
  obtain⟨h1,_⟩:=z28 h
  rw[Nat.eq_of_beq_eq_true h1];rfl
theorem Vh: ∀{l:List (VT S)} {ts:List (Tr S)} {x:TL l},getL l ts=some x->putL l x=ts
 |[],ts,x,h=>by
  cases ts with
  |nil=>rfl
  |cons=>cases h
 |v::l,ts,x,h=>by
  cases ts with
  |nil=>cases h
  |cons t ts=>
   simp only[getL] at h
   split at h
   case h_2=>cases h
   rename_i a b h1 h2
   cases h
   show v.put a::putL l b=t::ts
   rw[VT.get_put h1,Vh h2]
end
def conV(pk:List (PK S))(av rv ov:List (VT S))(P:TL av->(TL rv->TL ov->Prop)->Prop):Con S:=
 ⟨pk,fun args K=>optK (getL av args) fun a=>P a fun r o=>K (putL rv r) (putL ov o)⟩
def fnV(E:Ev S)(fuel g:Nat)(pk rk:List (PK S))(av rv ov:List (VT S))(a:TL av)(K:TL rv->TL ov->Prop):Prop:=
 fnVC E fuel g pk rk (putL av a) fun rets outs=>optK (getL rv rets) fun r=>optK (getL ov outs) fun o=>K r o
theorem Back.mono{D:Shp S}{σ:Hv}{w:World}{args:List (Tr S)}{vals:List Value}{ins:List HObj}{K K':List (Tr S)->List (Tr S)->Prop}{e:Ending}{w1:World}(h: ∀r o,K r o->K' r o):Back D σ w args vals ins K e w1->Back D σ w args vals ins K' e w1:=by
 rintro⟨rets,outs,rv,σ1,msr,mso,h1,h2,h3⟩
 exact⟨rets,outs,rv,σ1,msr,mso,h1,h _ _ h2,h3⟩
theorem v6j{rv ov:List (VT S)}{K:List (Tr S)->List (Tr S)->Prop}{rets outs:List (Tr S)}(h:optK (getL rv rets) fun r=>optK (getL ov outs) fun o=>K (putL rv r) (putL ov o)):K rets outs:=by
 obtain⟨r,hr,h⟩:=Qf h
 obtain⟨o,ho,h⟩:=Qf h
 rw[Vh hr,Vh ho] at h
 exact h
theorem v4o{E:Ev S}(hE:EvOk E){fuel g:Nat}{pk rk:List (PK S)}{av rv ov:List (VT S)}{a:TL av}{K:TL rv->TL ov->Prop}(h:fnV E fuel g pk rk av rv ov a K){w:World}{σ:Hv}{vals:List Value}{ins:List HObj}
  (hgl:Glb E.D σ)(hL:LayL E.D σ (putL av a) vals ins)(hS:St ⟨w,σ,feet ins⟩ w σ ins):Calls E.P g vals.toArray w (Back E.D σ w (putL av a) vals ins fun rets outs=>optK (getL rv rets) fun r=>optK (getL ov outs) fun o=>K r o):=
 y02 hE fuel g pk rk (putL av a) (fun rets outs=>optK (getL rv rets) fun r=>optK (getL ov outs) fun o=>K r o) h w σ vals ins hgl hL hS
theorem v8u{E:Ev S}(hE:EvOk E)(fuel g:Nat)(pk rk:List (PK S))(av rv ov:List (VT S)):q70 E.P E.D g (conV pk av rv ov (fnV E fuel g pk rk av rv ov)):=by
 intro args K hm w σ vals ins hgl hL hS
 obtain⟨a,ha,hm2⟩:=Qf hm
 have hw:=Vh ha
 subst hw
 exact Calls.mono (v4o hE hm2 hgl hL hS) fun e w1 h=>h.mono fun r o h=>v6j h
def fixV(E:Ev S)(fuel g:Nat)(pk rk:List (PK S))(av rv ov:List (VT S))(a:TL av)(K:TL rv->TL ov->Prop):Prop:=
 ∀X:TL av->(TL rv->TL ov->Prop)->Prop,(∀a K,fnV (E.with g (conV pk av rv ov X)) fuel g pk rk av rv ov a K->X a K)->X a K
theorem v8v{E:Ev S}(hE:EvOk E){fuel g:Nat}{pk rk:List (PK S)}{av rv ov:List (VT S)}(hen:Ent E.P g):q70 E.P E.D g (conV pk av rv ov (fixV E fuel g pk rk av rv ov)):=by
 intro args K hm w σ vals ins hgl hL hS
 obtain⟨a,ha,hm2⟩:=Qf hm
 have hw:=Vh ha
 subst hw
 have key:=hm2 (fun a K=> ∀(w:World) (σ:Hv) (vals:List Value) (ins:List HObj),Glb E.D σ->LayL E.D σ (putL av a) vals ins->St ⟨w,σ,feet ins⟩ w σ ins->Calls E.P g vals.toArray w (Back E.D σ w (putL av a) vals ins fun rets outs=>optK (getL rv rets) fun r=>optK (getL ov outs) fun o=>K r o)) (fun a K hvc=>by
  intro w σ vals ins hgl hL hS
  refine v4o (w9g hE hen ?_) hvc hgl hL hS
  intro args K hm w σ vals ins hgl hL hS
  obtain⟨a,ha,hm2⟩:=Qf hm
  have hw:=Vh ha
  subst hw
  exact Calls.mono (hm2 w σ vals ins hgl hL hS) fun e w1 h=>h.mono fun r o h=>v6j h) w σ vals ins hgl hL hS
 exact Calls.mono key fun e w1 h=>h.mono fun r o h=>v6j h
theorem w5p{P:Program}{D:Shp S}{g:Nat}{pk:List (PK S)}{av rv ov:List (VT S)}{A B:TL av->(TL rv->TL ov->Prop)->Prop}(h: ∀a K,A a K->B a K)(hB:q70 P D g (conV pk av rv ov B)):q70 P D g (conV pk av rv ov A):=by
 intro args K hm
 obtain⟨a,ha,hm2⟩:=Qf hm
 refine hB args K ?_
 show optK (getL av args) _
 rw[ha]
 exact h a _ hm2
def Ev.pl(E:Ev S)(p:Nat->Option (Spec S)):Ev S:={E with plan:=p}
theorem v8w{E:Ev S}(hE:EvOk E)(p:Nat->Option (Spec S)):EvOk (E.pl p):=⟨hE.hP,hE.mix,hE.con,hE.inl,hE.alt⟩
theorem v8x {P:Program} {g:Nat} {fn:Func} {c:Code} (hf:P.funcs[g]? =some fn) (hn:(fn.name== "runtime.NumGoroutine")=false) (hb:fn.body=some c):Ent P g:=by
 intro args w
 have h1:fn.name≠ "runtime.NumGoroutine" :=by simpa using hn
 simp[callFunc,hf,h1,hb]
theorem LpH.ind{T:Type}{body:T->(T->Prop)->Prop}(I:T->Prop)(m:T->Nat)(h: ∀t,I t->body t (fun t'=>I t'/\m t'<m t)){t:T}(h0:I t):LpH body t:=by
 intro X hX
 have key: ∀(k:Nat) (t:T),m t<=k->I t->X t:=by
  intro k
  induction k with
  |zero=>exact fun t _ hi=>hX t _ (fun t' h=>absurd h.2 (by omega)) (h t hi)
  |succ k ih=>exact fun t hk hi=>hX t _ (fun t' h=>ih t' (by omega) h.1) (h t hi)
 exact key _ t (Nat.le_refl _) h0
end Go.Fx
end
section
namespace Go.Fx
open Go Go.RowKit Go.Fl Go.Fl.Lk
variable {S:Sig}
def Ev3(E:Ev S)(P:Program)(D:Shp S):Prop:=EvOk E/\E.P=P/\E.D=D
theorem y04{E:Ev S}{P:Program}{D:Shp S}{g:Nat}{c:Con S}(h:Ev3 E P D)(hen:Ent P g)(hc:q70 P D g c):Ev3 (E.with g c) P D:=by
 obtain⟨h,rfl,rfl⟩:=h
 exact⟨w9g h hen hc,rfl,rfl⟩
theorem v8y{E:Ev S}{P:Program}{D:Shp S}(h:Ev3 E P D){p:Nat->Option (Spec S)}{fuel g:Nat}{pk rk:List (PK S)}{av rv ov:List (VT S)}{F:TL av->(TL rv->TL ov->Prop)->Prop}
  (e: ∀a K,F a K=fnV (E.pl p) fuel g pk rk av rv ov a K):q70 P D g (conV pk av rv ov F):=by
 obtain⟨h,rfl,rfl⟩:=h
 have hF:F=fnV (E.pl p) fuel g pk rk av rv ov:=funext fun a=>funext fun K=>e a K
 rw[hF]
 exact v8u (v8w h p) fuel g pk rk av rv ov
theorem v8z{E:Ev S}{P:Program}{D:Shp S}(h:Ev3 E P D){p:Nat->Option (Spec S)}{fuel g:Nat}{pk rk:List (PK S)}{av rv ov:List (VT S)}{F:TL av->(TL rv->TL ov->Prop)->Prop}(hen:Ent P g)
  (e: ∀a K,F a K-> ∀X:TL av->(TL rv->TL ov->Prop)->Prop,(∀a K,fnV ((E.with g (conV pk av rv ov X)).pl p) fuel g pk rk av rv ov a K->X a K)->X a K):q70 P D g (conV pk av rv ov F):=by
 obtain⟨h,rfl,rfl⟩:=h
 exact w5p (fun a K hF=>e a K hF) (v8v (v8w h p) (fuel:=fuel) (rk:=rk) hen)
def entQ(P:Program)(g:Nat):Bool:=match P.funcs[g]? with
 |some fn=> !(fn.name== "runtime.NumGoroutine") && fn.body.isSome
 |none=>false
theorem entB{P:Program}{g:Nat}(h:entQ P g=true):Ent P g:=by
 unfold entQ at h
 split at h
 ·rename_i fn hf
  obtain⟨h1,h2⟩:=Qu h
  obtain⟨c,hc⟩:=Option.isSome_iff_exists.1 h2
  exact v8x hf (by simpa using h1) hc
 ·cases h
structure Mt(P:Program)(D:Shp S)(g:Nat)(c:Con S):Prop where
 e:Ent P g
 m:q70 P D g c
def wlE(E:Ev S):List (Nat×Con S)->Ev S
 |[]=>E
 |q::l=>(wlE E l).with q.1 q.2
abbrev AlE(P:Program)(D:Shp S):List (Nat×Con S)->Prop
 |[]=>True
 |q::l=>Mt P D q.1 q.2/\AlE P D l
theorem alE{E:Ev S}{P:Program}{D:Shp S}(h:Ev3 E P D): ∀{l:List (Nat×Con S)},AlE P D l->Ev3 (wlE E l) P D
 |[],_=>h
 |_::_,hl=>y04 (alE h hl.2) hl.1.e hl.1.m
def Ev.wa(E:Ev S)(l:List (Nat×Con S)):Ev S:={E with alt:=Zb l}
theorem w1y{P:Program}{D:Shp S}: ∀{l:List (Nat×Con S)},AlE P D l-> ∀g c,Zb l g=some c->Mt P D g c
 |(a,x)::l,h,g,c,hc=>by
  unfold Zb at hc
  cases hb:Nat.beq a g with
  |true=>rw[hb] at hc;cases hc;rw[←Nat.eq_of_beq_eq_true hb];exact h.1
  |false=>rw[hb] at hc;exact w1y h.2 g c hc
theorem wa3{E:Ev S}{P:Program}{D:Shp S}(h:Ev3 E P D){l:List (Nat×Con S)}(hl:AlE P D l):Ev3 (E.wa l) P D:=by
 obtain⟨h,rfl,rfl⟩:=h
 exact⟨⟨h.hP,h.mix,h.con,h.inl,fun g c hc=>⟨(w1y hl g c hc).e,(w1y hl g c hc).m⟩⟩,rfl,rfl⟩
def blF:Nat->Nat->Nat->List Nat
 |0,_,_=>[]
 |f+1,i,n=>bif Nat.beq n 0 then [] else bif Nat.beq (n % 2) 1 then i::blF f (i+1) (n / 2) else blF f (i+1) (n / 2)
def bl(n:Nat):List Nat:=blF 1000 0 n
mutual
def VT.pk:VT S->PK S
 | .sl T=> .sl T
 | .vec e T=> .own e T
 | .el T=> .el T
 | .map K V=> .map K V
 | .ptr ty l=> .ptr ty (pkL l)
 | .fnc g=> .fnc g
 |_=> .v
def pkL:List (VT S)->List (PK S)
 |[]=>[]
 |v::l=>v.pk::pkL l
end
def noO:(l:List (VT S))->TL (l.map fun _=>(.same:VT S))
 |[]=>()
 |_::l=>((),noO l)
theorem v4p: ∀{l:List (VT S)} (o:TL (l.map fun _=>(.same:VT S))),o=noO l
 |[],_=>rfl
 |_::l,(u,o)=>by rw[v4p o];show (u,noO l)=((),noO l);rfl
def conS(av rv:List (VT S))(F:TL av->(TL rv->Prop)->Prop):Con S:=conV (av.map VT.pk) av rv (av.map fun _=> .same) fun a K=>F a fun r=>K r (noO av)
theorem mtP{E:Ev S}{P:Program}{D:Shp S}(h0:Ev3 E P D){u:Nat}{l:List (Nat×Con S)}(h:AlE P D l){g:Nat}(he:entQ P g=true){p:Nat->Option (Spec S)}{pk rk:List (PK S)}{av rv ov:List (VT S)}{F:TL av->(TL rv->TL ov->Prop)->Prop}
  (e: ∀a K,F a K=fnV ((wlE E l).pl p) u g pk rk av rv ov a K):Mt P D g (conV pk av rv ov F):=⟨entB he,v8y (alE h0 h) e⟩
theorem mtS{E:Ev S}{P:Program}{D:Shp S}(h0:Ev3 E P D){u:Nat}{l:List (Nat×Con S)}(h:AlE P D l){g:Nat}(he:entQ P g=true){p:Nat->Option (Spec S)}{rk:List (PK S)}{av rv:List (VT S)}{F:TL av->(TL rv->Prop)->Prop}
  (e: ∀a K,F a K=fnV ((wlE E l).pl p) u g (av.map VT.pk) rk av rv (av.map fun _=> .same) a fun r _=>K r):Mt P D g (conS av rv F):=by
 refine mtP h0 h he (u:=u) (p:=p) (rk:=rk) fun a K=> ?_
 rw[e]
 have hk:(fun (r:TL rv) (_:TL (av.map fun _=>(.same:VT S)))=>K r (noO av))=K:=funext fun r=>funext fun o=>by rw[v4p o]
 rw[hk]
theorem mtR{E:Ev S}{P:Program}{D:Shp S}(h0:Ev3 E P D){u:Nat}{l:List (Nat×Con S)}(h:AlE P D l){g:Nat}(he:entQ P g=true){p:Nat->Option (Spec S)}{pk rk:List (PK S)}{av rv ov:List (VT S)}{F:TL av->(TL rv->TL ov->Prop)->Prop}
  (e: ∀a K,F a K-> ∀X:TL av->(TL rv->TL ov->Prop)->Prop,(∀a K,fnV (((wlE E l).with g (conV pk av rv ov X)).pl p) u g pk rk av rv ov a K->X a K)->X a K):Mt P D g (conV pk av rv ov F):=⟨entB he,v8z (alE h0 h) (entB he) e⟩
end Go.Fx
end
end
noncomputable section
set_option maxRecDepth 100000
open Go Go.RowKit Go.Fl Go.Fl.Lk Go.Fx
namespace Go.En
structure Val where
 kind:Int
 number:Int
 text:ByteArray
 list:List ByteArray
structure Ex where
 op:Int
 kind:ByteArray
 name:ByteArray
 values:List Val
 kids:List Ex
structure Rng where
 lo:Int
 hi:Int
 variation:Int
structure Srv where
 variation:Int
 kind:ByteArray
 by_:ByteArray
 salt:ByteArray
 split:List Rng
structure Tgt where
 kind:ByteArray
 variation:Int
 keys:List ByteArray
structure Prq where
 flag:ByteArray
 variation:Int
structure Rul where
 name:ByteArray
 cond:Ex
 serve:Srv
structure Flg where
 key:ByteArray
 kind:Int
 variations:List Val
 on:Bool
 off:Int
 needs:List Prq
 targets:List Tgt
 rules:List Rul
 dflt:Srv
structure Seg where
 key:ByteArray
 kind:ByteArray
 incl:List ByteArray
 excl:List ByteArray
 cond:Ex
structure Spn where
 lo:Int
 hi:Int
structure Col where
 lo:Int
 hi:Int
 until_:Int
structure Lay_ where
 key:ByteArray
 kind:ByteArray
 salt:ByteArray
 holdout:Int
 cool:Int
 cooling:List Col
structure Exper where
 key:ByteArray
 layer:ByteArray
 flag:ByteArray
 salt:ByteArray
 status:Int
 claims:List Spn
 arms:List Rng
 cond:Ex
structure Decl where
 kind:ByteArray
 name:ByteArray
 type:Int
structure Sett where
 salt:ByteArray
 holdoutKind:ByteArray
 holdout:Int
structure Envt where
 settings:Sett
 attributes:List Decl
 segments:List Seg
 flags:List Flg
 layers:List Lay_
 experiments:List Exper
structure Env2 where
 a:Envt
 b:Envt
structure Edg where
 src:ByteArray
 dst:ByteArray
abbrev Nd:=Int×Int×Int
abbrev A3:=Int×Int×Int
structure Acc where
 lo:Int
 hi:Int
inductive C where|i64|u8|bool|str|u64|strs|val|ex|range|serve|target|prereq|rule|flag|seg|span|cool|layer|exper|decl|settings|env|env2|edge|node|a3|acc deriving DecidableEq
abbrev car:C->Type
 | .i64=>Int
 | .u8=>Int
 | .bool=>Bool
 | .str=>ByteArray
 | .u64=>Int
 | .strs=>List ByteArray
 | .val=>Val
 | .ex=>Ex
 | .range=>Rng
 | .serve=>Srv
 | .target=>Tgt
 | .prereq=>Prq
 | .rule=>Rul
 | .flag=>Flg
 | .seg=>Seg
 | .span=>Spn
 | .cool=>Col
 | .layer=>Lay_
 | .exper=>Exper
 | .decl=>Decl
 | .settings=>Sett
 | .env=>Envt
 | .env2=>Env2
 | .edge=>Edg
 | .node=>Nd
 | .a3=>A3
 | .acc=>Acc
abbrev Sg:Sig:=⟨C,car,inferInstance⟩
inductive Kf where|i (k:IntKind)|b|s|l (T:C)
abbrev Kf.ty:Kf->Type
 | .i _=>Int
 | .b=>Bool
 | .s=>ByteArray
 | .l T=>List (car T)
abbrev HK:List Kf->Type
 |[]=>Unit
 |k::l=>k.ty×HK l
def kdC:C->List Kf
 | .i64=>[.i .i64]
 | .u8=>[.i .u8]
 | .bool=>[.b]
 | .str=>[.s]
 | .u64=>[.i .u64]
 | .strs=>[.l .str]
 | .val=>[.i .i64,.i .i64,.s,.l .str]
 | .ex=>[.i .i64,.s,.s,.l .val,.l .ex]
 | .range=>[.i .i64,.i .i64,.i .i64]
 | .serve=>[.i .i64,.s,.s,.s,.l .range]
 | .target=>[.s,.i .i64,.l .str]
 | .prereq=>[.s,.i .i64]
 | .rule=>[.s,.i .i64,.s,.s,.l .val,.l .ex,.i .i64,.s,.s,.s,.l .range]
 | .flag=>[.s,.i .i64,.l .val,.b,.i .i64,.l .prereq,.l .target,.l .rule,.i .i64,.s,.s,.s,.l .range]
 | .seg=>[.s,.s,.l .str,.l .str,.i .i64,.s,.s,.l .val,.l .ex]
 | .span=>[.i .i64,.i .i64]
 | .cool=>[.i .i64,.i .i64,.i .i64]
 | .layer=>[.s,.s,.s,.i .i64,.i .i64,.l .cool]
 | .exper=>[.s,.s,.s,.s,.i .i64,.l .span,.l .range,.i .i64,.s,.s,.l .val,.l .ex]
 | .decl=>[.s,.s,.i .i64]
 | .settings=>[.s,.s,.i .i64]
 | .env=>[.s,.s,.i .i64,.l .decl,.l .seg,.l .flag,.l .layer,.l .exper]
 | .env2=>[.s,.s,.i .i64,.l .decl,.l .seg,.l .flag,.l .layer,.l .exper,.s,.s,.i .i64,.l .decl,.l .seg,.l .flag,.l .layer,.l .exper]
 | .edge=>[.s,.s]
 | .node=>[.i .i64,.i .i64,.i .i64]
 | .a3=>[.i .i64,.i .i64,.i .i64]
 | .acc=>[.i .u8,.i .u8]
def flC:(T:C)->car T->HK (kdC T)
 | .i64,x=>(x,())
 | .u8,x=>(x,())
 | .bool,x=>(x,())
 | .str,x=>(x,())
 | .u64,x=>(x,())
 | .strs,x=>(x,())
 | .val,x=>(x.1,x.2,x.3,x.4,())
 | .ex,x=>(x.1,x.2,x.3,x.4,x.5,())
 | .range,x=>(x.1,x.2,x.3,())
 | .serve,x=>(x.1,x.2,x.3,x.4,x.5,())
 | .target,x=>(x.1,x.2,x.3,())
 | .prereq,x=>(x.1,x.2,())
 | .rule,x=>(x.1,x.2.1,x.2.2,x.2.3,x.2.4,x.2.5,x.3.1,x.3.2,x.3.3,x.3.4,x.3.5,())
 | .flag,x=>(x.1,x.2,x.3,x.4,x.5,x.6,x.7,x.8,x.9.1,x.9.2,x.9.3,x.9.4,x.9.5,())
 | .seg,x=>(x.1,x.2,x.3,x.4,x.5.1,x.5.2,x.5.3,x.5.4,x.5.5,())
 | .span,x=>(x.1,x.2,())
 | .cool,x=>(x.1,x.2,x.3,())
 | .layer,x=>(x.1,x.2,x.3,x.4,x.5,x.6,())
 | .exper,x=>(x.1,x.2,x.3,x.4,x.5,x.6,x.7,x.8.1,x.8.2,x.8.3,x.8.4,x.8.5,())
 | .decl,x=>(x.1,x.2,x.3,())
 | .settings,x=>(x.1,x.2,x.3,())
 | .env,x=>(x.1.1,x.1.2,x.1.3,x.2,x.3,x.4,x.5,x.6,())
 | .env2,x=>(x.1.1.1,x.1.1.2,x.1.1.3,x.1.2,x.1.3,x.1.4,x.1.5,x.1.6,x.2.1.1,x.2.1.2,x.2.1.3,x.2.2,x.2.3,x.2.4,x.2.5,x.2.6,())
 | .edge,x=>(x.1,x.2,())
 | .node,x=>(x.1,x.2.1,x.2.2,())
 | .a3,x=>(x.1,x.2.1,x.2.2,())
 | .acc,x=>(x.1,x.2,())
def mkC:(T:C)->HK (kdC T)->car T
 | .i64,x=>x.1
 | .u8,x=>x.1
 | .bool,x=>x.1
 | .str,x=>x.1
 | .u64,x=>x.1
 | .strs,x=>x.1
 | .val,x=>⟨x.1,x.2.1,x.2.2.1,x.2.2.2.1⟩
 | .ex,x=>⟨x.1,x.2.1,x.2.2.1,x.2.2.2.1,x.2.2.2.2.1⟩
 | .range,x=>⟨x.1,x.2.1,x.2.2.1⟩
 | .serve,x=>⟨x.1,x.2.1,x.2.2.1,x.2.2.2.1,x.2.2.2.2.1⟩
 | .target,x=>⟨x.1,x.2.1,x.2.2.1⟩
 | .prereq,x=>⟨x.1,x.2.1⟩
 | .rule,x=>⟨x.1,⟨x.2.1,x.2.2.1,x.2.2.2.1,x.2.2.2.2.1,x.2.2.2.2.2.1⟩,⟨x.2.2.2.2.2.2.1,x.2.2.2.2.2.2.2.1,x.2.2.2.2.2.2.2.2.1,x.2.2.2.2.2.2.2.2.2.1,x.2.2.2.2.2.2.2.2.2.2.1⟩⟩
 | .flag,x=>⟨x.1,x.2.1,x.2.2.1,x.2.2.2.1,x.2.2.2.2.1,x.2.2.2.2.2.1,x.2.2.2.2.2.2.1,x.2.2.2.2.2.2.2.1,⟨x.2.2.2.2.2.2.2.2.1,x.2.2.2.2.2.2.2.2.2.1,x.2.2.2.2.2.2.2.2.2.2.1,x.2.2.2.2.2.2.2.2.2.2.2.1,x.2.2.2.2.2.2.2.2.2.2.2.2.1⟩⟩
 | .seg,x=>⟨x.1,x.2.1,x.2.2.1,x.2.2.2.1,⟨x.2.2.2.2.1,x.2.2.2.2.2.1,x.2.2.2.2.2.2.1,x.2.2.2.2.2.2.2.1,x.2.2.2.2.2.2.2.2.1⟩⟩
 | .span,x=>⟨x.1,x.2.1⟩
 | .cool,x=>⟨x.1,x.2.1,x.2.2.1⟩
 | .layer,x=>⟨x.1,x.2.1,x.2.2.1,x.2.2.2.1,x.2.2.2.2.1,x.2.2.2.2.2.1⟩
 | .exper,x=>⟨x.1,x.2.1,x.2.2.1,x.2.2.2.1,x.2.2.2.2.1,x.2.2.2.2.2.1,x.2.2.2.2.2.2.1,⟨x.2.2.2.2.2.2.2.1,x.2.2.2.2.2.2.2.2.1,x.2.2.2.2.2.2.2.2.2.1,x.2.2.2.2.2.2.2.2.2.2.1,x.2.2.2.2.2.2.2.2.2.2.2.1⟩⟩
 | .decl,x=>⟨x.1,x.2.1,x.2.2.1⟩
 | .settings,x=>⟨x.1,x.2.1,x.2.2.1⟩
 | .env,x=>⟨⟨x.1,x.2.1,x.2.2.1⟩,x.2.2.2.1,x.2.2.2.2.1,x.2.2.2.2.2.1,x.2.2.2.2.2.2.1,x.2.2.2.2.2.2.2.1⟩
 | .env2,x=>⟨⟨⟨x.1,x.2.1,x.2.2.1⟩,x.2.2.2.1,x.2.2.2.2.1,x.2.2.2.2.2.1,x.2.2.2.2.2.2.1,x.2.2.2.2.2.2.2.1⟩,⟨⟨x.2.2.2.2.2.2.2.2.1,x.2.2.2.2.2.2.2.2.2.1,x.2.2.2.2.2.2.2.2.2.2.1⟩,x.2.2.2.2.2.2.2.2.2.2.2.1,x.2.2.2.2.2.2.2.2.2.2.2.2.1,x.2.2.2.2.2.2.2.2.2.2.2.2.2.1,x.2.2.2.2.2.2.2.2.2.2.2.2.2.2.1,x.2.2.2.2.2.2.2.2.2.2.2.2.2.2.2.1⟩⟩
 | .edge,x=>⟨x.1,x.2.1⟩
 | .node,x=>(x.1,x.2.1,x.2.2.1)
 | .a3,x=>(x.1,x.2.1,x.2.2.1)
 | .acc,x=>⟨x.1,x.2.1⟩
def shK:(l:List Kf)->HK l->List (FV Sg)
 |[],_=>[]
 | .i k::l,x=> .int k x.1::shK l x.2
 | .b::l,x=> .bool x.1::shK l x.2
 | .s::l,x=> .str x.1::shK l x.2
 | .l T::l,x=> .sl T x.1::shK l x.2
def prF:(k:Kf)->FV Sg->Option k.ty
 | .i k,.int k' n=>bif k'==k then some n else none
 | .b,.bool b=>some b
 | .s,.str a=>some a
 | .l _,.nils=>some []
 | .l T,.sl T' l=>match decEq T' T with
  |isTrue h=>some (h▸l)
  |isFalse _=>none
 |_,_=>none
def prK:(l:List Kf)->List (FV Sg)->Option (HK l)
 |[],[]=>some ()
 |k::l,s::ss=>match prF k s with
  |some x=>match prK l ss with
   |some y=>some (x,y)
   |none=>none
  |none=>none
 |_,_=>none
def zrF:(k:Kf)->k.ty
 | .i _=>(0:Int)
 | .b=>false
 | .s=>⟨#[]⟩
 | .l T=>([]:List (car T))
def zrK:(l:List Kf)->HK l
 |[]=>()
 |k::l=>(zrF k,zrK l)
def Kf.flat:Kf->Bool
 | .l _=>false
 |_=>true
def shape(T:C)(x:car T):List (FV Sg):=shK (kdC T) (flC T x)
def bld(T:C)(l:List (FV Sg)):Option (car T):=match prK (kdC T) l with
 |some y=>some (mkC T y)
 |none=>none
def z52:List ByteArray:=[⟨#[115,101]⟩,⟨#[100,101]⟩,⟨#[117,115]⟩,⟨#[112,114,111]⟩,⟨#[102,114,101,101]⟩,⟨#[]⟩,⟨#[97,34,98]⟩,⟨#[99,92]⟩,⟨#[195,169]⟩,⟨#[112,114,111,115,101]⟩,⟨#[120,32,121]⟩]
def z1l:List ByteArray:=[⟨#[49,46,48,46,48]⟩,⟨#[49,46,50,46,51]⟩,⟨#[49,46,49,48,46,48]⟩,⟨#[50,46,48,46,49]⟩,⟨#[48,46,48,46,48]⟩,⟨#[57,57,57,57,57,57,46,48,46,57,57,57,57,57,57]⟩]
def j1w:List (List ByteArray):=[[],[⟨#[112,114,111]⟩],[⟨#[100,101]⟩,⟨#[115,101]⟩],[⟨#[]⟩,⟨#[102,114,101,101]⟩,⟨#[117,115]⟩],[⟨#[120,32,121]⟩]]
def j1x:List Acc:=[⟨128,191⟩,⟨160,191⟩,⟨128,159⟩,⟨144,191⟩,⟨128,143⟩,⟨0,0⟩,⟨0,0⟩,⟨0,0⟩,⟨0,0⟩,⟨0,0⟩,⟨0,0⟩,⟨0,0⟩,⟨0,0⟩,⟨0,0⟩,⟨0,0⟩,⟨0,0⟩]
def w4o:List Int:=[240,240,240,240,240,240,240,240,240,240,240,240,240,240,240,240,240,240,240,240,240,240,240,240,240,240,240,240,240,240,240,240,240,240,240,240,240,240,240,240,240,240,240,240,240,240,240,240,240,240,240,240,240,240,240,240,240,240,240,240,240,240,240,240,240,240,240,240,240,240,240,240,240,240,240,240,240,240,240,240,240,240,240,240,240,240,240,240,240,240,240,240,240,240,240,240,240,240,240,240,240,240,240,240,240,240,240,240,240,240,240,240,240,240,240,240,240,240,240,240,240,240,240,240,240,240,240,240,241,241,241,241,241,241,241,241,241,241,241,241,241,241,241,241,241,241,241,241,241,241,241,241,241,241,241,241,241,241,241,241,241,241,241,241,241,241,241,241,241,241,241,241,241,241,241,241,241,241,241,241,241,241,241,241,241,241,241,241,241,241,241,241,241,241,2,2,2,2,2,2,2,2,2,2,2,2,2,2,2,2,2,2,2,2,2,2,2,2,2,2,2,2,2,2,19,3,3,3,3,3,3,3,3,3,3,3,3,35,3,3,52,4,4,4,68,241,241,241,241,241,241,241,241,241,241,241]
def y05:Nat->SV Sg:=fun g=>match g with|0=> .fap C.str 11 z52|1=> .fap C.str 6 z1l|2=> .fap C.strs 5 j1w|4=> .fap C.acc 16 j1x|3=> .fap C.u8 256 w4o|_=> .dead
def v80:Nat->Option IntKind:=fun _=>none
def y06:Nat->Option (Array Value):=fun _=>none
def D:Shp Sg where
 size:=fun| .i64=>1| .u8=>1| .bool=>1| .str=>1| .u64=>1| .strs=>1| .val=>4| .ex=>5| .range=>3| .serve=>5| .target=>3| .prereq=>2| .rule=>11| .flag=>13| .seg=>9| .span=>2| .cool=>3| .layer=>6| .exper=>12| .decl=>3| .settings=>3| .env=>8| .env2=>16| .edge=>2| .node=>3| .a3=>3| .acc=>2
 shape:=shape
 bld:=bld
 zero:=fun T=>mkC T (zrK (kdC T))
 code:=fun t=>match t with|2=>some .i64|3=>some .i64|4=>some .bool|5=>some .u8|9=>some .str|12=>some .u64|28=>some .settings|35=>some .env|38=>some .env2|41=>some .i64|56=>some .ex|58=>some .exper|61=>some .layer|75=>some .span|83=>some .strs|89=>some .serve|91=>some .flag|97=>some .seg|102=>some .decl|125=>some .cool|149=>some .val|152=>some .prereq|154=>some .target|157=>some .rule|173=>some .range|254=>some .edge|262=>some .acc|264=>some .u64|273=>some .node|278=>some .u64|280=>some .a3|_=>none
 acode:=fun t=>match t with|_=>none
 mcode:=fun t=>match t with|217=>some (.node,.i64)|277=>some (.a3,.i64)|283=>some (.i64,.bool)|_=>none
 kdec:=fun| .i64=>inferInstanceAs (DecidableEq Int)| .str=>inferInstanceAs (DecidableEq ByteArray)| .node=>inferInstanceAs (DecidableEq Nd)| .a3=>inferInstanceAs (DecidableEq A3)|_=>fun a b=>Classical.propDecidable (a=b)
 glob:=y05
 gopen:=v80
 gblk:=y06
 flat:=fun T=>(kdC T).all Kf.flat
theorem v4q(T:C){σ:Hv}:RepF D σ (.slice none 0 0) (.sl T []):=by
 have h:=RepF.sl (D:=D) (σ:=σ) T [] none 0 (fun _ _=>undef) (Nat.le_refl _) (by simp) (fun i x h=>by simp at h) (fun i x j s h=>by simp at h)
 exact h
theorem z4x{σ:Hv}:RowF D σ [] []:=⟨rfl,fun j v s hj=>by cases hj⟩
theorem Vy{σ:Hv}{v:Value}{s:FV Sg}{cs:List Value}{ss:List (FV Sg)}(h:RepF D σ v s)(hr:RowF D σ cs ss):RowF D σ (v::cs) (s::ss):=⟨by simp[hr.1],fun j u x hj hx=>by
 cases j with
 |zero=>simp at hj hx;subst hj hx;exact h
 |succ j=>exact hr.2 j u x (by simpa using hj) (by simpa using hx)⟩
theorem v4r{σ:Hv}{v:Value}{s:FV Sg}{cs:List Value}{ss:List (FV Sg)}(h:RowF D σ (v::cs) (s::ss)):RepF D σ v s/\RowF D σ cs ss:=
 ⟨h.2 0 v s rfl rfl,by have:=h.1;simpa using this,fun j u x hj hx=>h.2 (j+1) u x (by simpa using hj) (by simpa using hx)⟩
theorem v81{σ:Hv}{v:Value}{k:Kf}{s:FV Sg}{x:k.ty}(h:prF k s=some x)(hr:RepF D σ v s){l:List Kf}{y:HK l}{cs:List Value}(hc:RowF D σ cs (shK l y)):RowF D σ (v::cs) (shK (k::l) (x,y)):=by
 cases k with
 |i k=>
  cases s with
  |int k' n=>
   simp only[prF] at h
   cases hq:k'==k with
   |false=>rw[hq] at h;cases h
   |true=>
    have e:k'=k:=by revert hq;cases k'<;>cases k<;>decide
    subst e
    rw[hq] at h
    cases h
    exact Vy hr hc
  |_=>cases h
 |b=>cases s with
  |bool b=>cases h;exact Vy hr hc
  |_=>cases h
 |s=>cases s with
  |str b=>cases h;exact Vy hr hc
  |_=>cases h
 |l T=>cases s with
  |nils=>cases h;cases hr;exact Vy (v4q _) hc
  |sl T' l'=>
   simp only[prF] at h
   split at h
   ·rename_i e _;subst e;cases h;exact Vy hr hc
   ·cases h
  |_=>cases h
theorem v4s{σ:Hv}: ∀{l:List Kf} {ss:List (FV Sg)} {x:HK l},prK l ss=some x-> ∀{cs:List Value},RowF D σ cs ss->RowF D σ cs (shK l x)
 |[],[],_,_,_,hr=>hr
 |[],_::_,_,h,_,_=>by cases h
 |_::_,[],_,h,_,_=>by cases h
 |k::l,s::ss,x,h,cs,hr=>by
  unfold prK at h
  cases h1:prF k s with
  |none=>rw[h1] at h;cases h
  |some a=>
   rw[h1] at h
   cases h2:prK l ss with
   |none=>rw[h2] at h;cases h
   |some b=>
    rw[h2] at h;cases h
    cases cs with
    |nil=>have:=hr.1;cases this
    |cons c cs=>exact v81 h1 (v4r hr).1 (v4s h2 (v4r hr).2)
theorem flmk(T:C)(y:HK (kdC T)):flC T (mkC T y)=y:=by cases T<;>rfl
def zv:Kf->Value
 | .i k=> .int k 0
 | .b=> .bool false
 | .s=> .string ⟨#[]⟩
 | .l _=> .slice none 0 0
abbrev zc(T:C):List Value:=(kdC T).map zv
theorem j9l{σ:Hv}: ∀l:List Kf,RowF D σ (l.map zv) (shK l (zrK l))
 |[]=>z4x
 | .i _::l=>Vy (.int _ _) (j9l l)
 | .b::l=>Vy (.bool _) (j9l l)
 | .s::l=>Vy (.str _) (j9l l)
 | .l _::l=>Vy (v4q _) (j9l l)
theorem v2t(T:C)(σ:Hv):RowF D σ (zc T) (D.shape T (D.zero T)):=by
 show RowF D σ _ (shK _ (flC T (mkC T _)))
 rw[flmk];exact j9l _
theorem D_ok:D.Ok where
 len T x:=by cases T<;>rfl
 pos T:=by cases T<;>decide
 bld T ss x σ cs h hr:=by
  have h:bld T ss=some x:=h
  unfold bld at h
  cases hp:prK (kdC T) ss with
  |none=>rw[hp] at h;cases h
  |some y=>
   rw[hp] at h;cases h
   show RowF D σ _ (shK _ (flC T (mkC T _)))
   rw[flmk];exact v4s hp hr
theorem v6k{t:TypeId}{T:C}(h:((Go.Proofs.Tryz.prog.info? t).bind (·.zero)).map (fun z=>z.cells.toList)=some (zc T)){i:TypeInfo}{z:Value}(hi:Go.Proofs.Tryz.prog.info? t=some i)(hz:i.zero=some z)(σ:Hv):RowF D σ z.cells.toList (D.shape T (D.zero T)):=by
 rw[hi] at h
 simp only[Option.bind_some,hz,Option.map_some,Option.some.injEq] at h
 rw[h];exact v2t T σ
theorem w1z{et:TypeId}{z:Value}(e:(Go.Proofs.Tryz.prog.info? et).bind (·.zero)=some z)(w:World):(zeroValue et).run Go.Proofs.Tryz.prog w= .ok z w:=by
 obtain⟨i,hi,hz⟩:=Option.bind_eq_some_iff.1 e
 simp[zeroValue,typeInfo,hi,hz]
theorem okP:D.OkP Go.Proofs.Tryz.prog where
 ok:=D_ok
 zero t T i z ht hi hz σ:=by
  simp only[D] at ht
  split at ht<;>cases ht
  all_goals exact v6k (by kernel_rfl) hi hz σ
 arr t T N h:=by cases h
 flat T h x:=by cases T<;>first|rfl|cases h
 bts T g h:=by cases h
 unb T g h:=by cases h
 map t K V h:=by
  simp only[D] at h
  split at h<;>cases h
  ·exact⟨273,3,by kernel_rfl,j5d (ks:=[.int .i64,.int .i64,.int .i64]) (by kernel_rfl) (by decide) (fun x=>rfl) (fun a b h=>by
    obtain⟨a0,a1,a2⟩:=a;obtain⟨b0,b1,b2⟩:=b
    simp only[D,shape,kdC,flC,shK,List.cons.injEq,FV.int.injEq,true_and,and_true] at h
    simp[h]),fun x=>rfl,by kernel_rfl,by kernel_rfl,by kernel_rfl,asV (zc .i64),w1z (by kernel_rfl),fun σ=>⟨zc .i64,v2t .i64 σ,rfl⟩⟩
  ·exact⟨280,3,by kernel_rfl,j5d (ks:=[.int .i64,.int .i64,.int .i64]) (by kernel_rfl) (by decide) (fun x=>rfl) (fun a b h=>by
    obtain⟨a0,a1,a2⟩:=a;obtain⟨b0,b1,b2⟩:=b
    simp only[D,shape,kdC,flC,shK,List.cons.injEq,FV.int.injEq,true_and,and_true] at h
    simp[h]),fun x=>rfl,by kernel_rfl,by kernel_rfl,by kernel_rfl,asV (zc .i64),w1z (by kernel_rfl),fun σ=>⟨zc .i64,v2t .i64 σ,rfl⟩⟩
  ·exact⟨3,4,by kernel_rfl,w7u (q:= .i64) (by kernel_rfl),fun x=>rfl,by kernel_rfl,by kernel_rfl,by kernel_rfl,asV (zc .bool),w1z (by kernel_rfl),fun σ=>⟨zc .bool,v2t .bool σ,rfl⟩⟩
def inls:List Nat:=[42,44,45,72,117,120,123,130,131,132,133,135,137,139,142,143,177,178,179,181,183,185,187,188,190,194,195,220]
def E0:Ev Sg:=⟨Go.Proofs.Tryz.prog,D,fun _=>none,hasN inls,fun _=>none,0,fun _=>none⟩
theorem v6l:inls.all (entQ Go.Proofs.Tryz.prog)=true:=by kernel_rfl
theorem w9h: ∀{l:List Nat} {g:Nat},hasN l g=true->g∈l
 |a::l,g,h=>by
  unfold hasN at h
  cases hq:Nat.beq a g with
  |true=>rw[Nat.eq_of_beq_eq_true hq];exact List.mem_cons_self
  |false=>rw[hq] at h;exact List.mem_cons_of_mem _ (w9h h)
theorem y07:EvOk E0:=⟨okP,by kernel_rfl,fun g c h=>(by cases h),fun g h=>entB (List.all_eq_true.1 v6l g (w9h h)),fun g c h=>(by cases h)⟩
theorem h_E0:Ev3 E0 Go.Proofs.Tryz.prog D:=⟨y07,rfl,rfl⟩
abbrev At{α:Type}(l:List α)(i:Int)(k:α->Prop):Prop:=((0:Int)<=i/\i<(l.length:Int))/\ ∀y,l[i.toNat]? =some y->k y
abbrev Fits{α:Type}(l:List α):Prop:=l.length<=(9223372036854775807:Nat)
abbrev CAt{α:Type}(l:List α)(i:Int)(k:α->Prop)(B:Prop):Prop:=Cnd (i<(l.length:Int)) (At l i k) B
abbrev LS:=List (Nat×Fx.Spec Sg)
abbrev PT:=Nat->Option (Fx.Spec Sg)
abbrev sI(n:Nat):Fx.Item Sg:=(.slot n,.int .i64)
abbrev sB(n:Nat):Fx.Item Sg:=(.slot n,.bool)
abbrev MT(g:Nat)(c:Con Sg):Prop:=Mt Go.Proofs.Tryz.prog D g c
abbrev WL(l:List (Nat×Con Sg)):Ev Sg:=wlE E0 l
abbrev AL(l:List (Nat×Con Sg)):Prop:=AlE Go.Proofs.Tryz.prog D l
theorem mSg(u:Nat){l:List (Nat×Con Sg)}(h:AL l){g:Nat}(p:LS){av rv:List (VT Sg)}{F:TL av->(TL rv->Prop)->Prop}(he:entQ Go.Proofs.Tryz.prog g=true:=by kernel_rfl)
  (e: ∀a K,F a K=fnV ((WL l).pl (Zb p)) u g (av.map VT.pk) (rv.map VT.pk) av rv (av.map fun _=> .same) a (fun r _=>K r):=by intro _ _;kernel_rfl):MT g (conS av rv F):=mtS h_E0 h he e
theorem mPg(u:Nat){l:List (Nat×Con Sg)}(h:AL l){g:Nat}(p:LS){pk rk:List (PK Sg)}{av rv ov:List (VT Sg)}{F:TL av->(TL rv->TL ov->Prop)->Prop}(he:entQ Go.Proofs.Tryz.prog g=true:=by kernel_rfl)
  (e: ∀a K,F a K=fnV ((WL l).pl (Zb p)) u g pk rk av rv ov a K:=by intro _ _;kernel_rfl):MT g (conV pk av rv ov F):=mtP h_E0 h he e
theorem mS{l:List (Nat×Con Sg)}(h:AL l){g:Nat}(p:LS){av rv:List (VT Sg)}{F:TL av->(TL rv->Prop)->Prop}(he:entQ Go.Proofs.Tryz.prog g=true:=by kernel_rfl)
  (e: ∀a K,F a K=fnV ((WL l).pl (Zb p)) 4 g (av.map VT.pk) (rv.map VT.pk) av rv (av.map fun _=> .same) a (fun r _=>K r):=by intro _ _;kernel_rfl):MT g (conS av rv F):=mSg 4 h p he e
theorem mP{l:List (Nat×Con Sg)}(h:AL l){g:Nat}(p:LS){pk rk:List (PK Sg)}{av rv ov:List (VT Sg)}{F:TL av->(TL rv->TL ov->Prop)->Prop}(he:entQ Go.Proofs.Tryz.prog g=true:=by kernel_rfl)
  (e: ∀a K,F a K=fnV ((WL l).pl (Zb p)) 4 g pk rk av rv ov a K:=by intro _ _;kernel_rfl):MT g (conV pk av rv ov F):=mPg 4 h p he e
theorem mR{u:Nat}{l:List (Nat×Con Sg)}(h:AL l){g:Nat}(he:entQ Go.Proofs.Tryz.prog g=true){p:PT}{pk rk:List (PK Sg)}{av rv ov:List (VT Sg)}{F:TL av->(TL rv->TL ov->Prop)->Prop}
  (e: ∀a K,F a K-> ∀X:TL av->(TL rv->TL ov->Prop)->Prop,(∀a K,fnV (((WL l).with g (conV pk av rv ov X)).pl p) u g pk rk av rv ov a K->X a K)->X a K):MT g (conV pk av rv ov F):=mtR h_E0 h he e
theorem mQ{u:Nat}{l:List (Nat×Con Sg)}(h:AL l){g:Nat}(he:entQ Go.Proofs.Tryz.prog g=true)(p:LS){pk rk:List (PK Sg)}{av rv ov:List (VT Sg)}{F:TL av->(TL rv->TL ov->Prop)->Prop}(S:(TL av->(TL rv->TL ov->Prop)->Prop)->TL av->(TL rv->TL ov->Prop)->Prop)
  (q: ∀X a K,S X a K=fnV (((WL l).with g (conV pk av rv ov X)).pl (Zb p)) u g pk rk av rv ov a K)(e: ∀a K,F a K-> ∀X:TL av->(TL rv->TL ov->Prop)->Prop,(∀a K,S X a K->X a K)->X a K):MT g (conV pk av rv ov F):=
 mR h he fun a K f X hX=>e a K f X fun a K s=>hX a K (Eq.mp (q X a K) s)
end Go.En
namespace Go
abbrev B8(l:List UInt8):ByteArray:=ByteArray.mk (Array.mk l)
end Go
namespace Go.En
open Go.Fx
abbrev LP:=List (PK Sg)
abbrev LV:=List (VT Sg)
end Go.En
end
noncomputable section
set_option maxRecDepth 100000
namespace Go.Fl
open Go Go.RowKit Go.ChangeShapes Go.WideShapes
def hv(W:World):Hv:=fun b=>W.heap[b]?
theorem v6m(W:World):View (hv W) W:=fun _ _ h=>h
theorem v4t{W:World}{base n:Nat}{a:Addr}{cs:List Value}(h:W.cells? base a n=some cs):cs.length=n/\VRow (hv W) a cs:=by
 obtain⟨_,h1,h2⟩:=World.cells?_some h
 refine⟨h1,fun j v hj=> ?_⟩
 have hj':j<n:=by rw[←h1];exact (List.getElem?_eq_some_iff.1 hj).1
 exact (h2 j hj').trans hj
theorem v6n{α:Type}{Q:Nat->α->Prop}(n:Nat)(h: ∀i,i<n-> ∃x,Q i x): ∃l:List α,l.length=n/\ ∀i x,l[i]? =some x->Q i x:=by
 induction n with
 |zero=>exact⟨[],rfl,fun i x hx=>by simp at hx⟩
 |succ n ih=>
  obtain⟨l,hl,hq⟩:=ih fun i hi=>h i (by omega)
  obtain⟨x,hx⟩:=h n (by omega)
  refine⟨l++[x],by simp[hl],fun i y hy=> ?_⟩
  rcases Nat.lt_or_ge i l.length with hi|hi
  ·rw[List.getElem?_append_left hi] at hy;exact hq i y hy
  ·rw[List.getElem?_append_right hi] at hy
   have h0:i - l.length=0:=by
    rcases Nat.eq_zero_or_pos (i - l.length) with h0|h0
    ·exact h0
    ·obtain⟨m,hm⟩: ∃m,i - l.length=m+1:=⟨i - l.length - 1,by omega⟩
     rw[hm] at hy;simp at hy
   rw[h0] at hy
   simp at hy
   subst hy
   have:i=n:=by omega
   subst this;exact hx
theorem v2u{w w1:World}(h:Keeps [] w w1):Below w.heap.size w w1:=⟨h.os,h.tape,h.output,h.size,fun k hk=>h.block k hk (by simp)⟩
section
variable {H:Type}{enc:TypeId×Value->H}{P:Program}{W:World}
theorem w4p{ts:List TypeId}{ds:List (DataW H)}(h:(DataW.weightsEach P ts ds).all (· <=reachBytes)=true){j:Nat}{t:TypeId}{d:DataW H}(ht:ts[j]? =some t)(hd:ds[j]? =some d): ∀n∈d.weights P t,n<=reachBytes:=fun n hn=>by
 simpa using List.all_eq_true.1 h _ (DataW.weights_mem_each ht hd n hn)
theorem v2v{α:Type}{size:Nat}{R:Hv->List Value->α->Prop}{t e:TypeId}{base:Nat}{spare:Nat->Bool}{held:Bool}{v:Value}{d:DataW H}{ps:List MemPlace}(hu:P.underlying t=some (.slice e))(hc:P.cellsOf e=size)(hb:1<=P.bytesOf e)
  (hel: ∀(n:Nat) (cs:List Value) x,cs.length=size->DataW.trod enc P W base spare held n e cs=some x-> ∃y:α,R (hv W) cs y)
  {r:Reach}{bs:Nat}(hok:Value.okWide P W r bs t v)(h:DataW.Trod enc P W base spare held t v d ps)(hsz: ∀n∈d.weights P t,n<=reachBytes): ∃l:List α,RSl size R (hv W) v l:=by
 obtain⟨a0,len,cap,rfl⟩:=okWide_slice hu hok
 obtain⟨fuel,hf⟩:=h
 rcases DataW.trod_slice hu hf with ⟨h0,_⟩|⟨a,len',cap',w7s,rest,n,_,h0,hx,_,hl,hm,hlen,hE,_,_⟩
 ·simp[Value.cells] at h0
  obtain⟨rfl,rfl,rfl⟩:=h0
  exact⟨[],RSl.nil⟩
 ·simp[Value.cells] at h0
  obtain⟨rfl,rfl,rfl⟩:=h0
  simp only[Prod.mk.injEq] at hx
  obtain⟨rfl,_⟩:=hx
  have hlb:len<=reachBytes:=by
   have h1:=hsz ((w7s.map (·.1)).length*P.bytesOf e+(rest.map (·.1)).length*P.bytesOf e) (by simp[DataW.weights,hu,Nat.add_mul])
   rw[List.length_map,hlen] at h1
   have h2:len*1<=len*P.bytesOf e:=Nat.mul_le_mul_left _ hb
   omega
  obtain⟨l,hl1,hl2⟩:=v6n (α:=α) (Q:=fun i y=> ∃cs,cs.length=size/\VRow (hv W) (a.add (i*size)) cs/\R (hv W) cs y) len (fun i hi=>by
   have h1:=hE i hi
   rw[hc] at h1
   rw[List.getElem?_eq_getElem (by omega)] at h1
   obtain⟨cs,h3,h4⟩:=Option.bind_eq_some_iff.1 h1
   obtain⟨h5,h6⟩:=v4t h3
   obtain⟨y,hy⟩:=hel _ _ _ h5 h4
   exact⟨y,cs,h5,h6,hy⟩)
  refine⟨l,some a,cap,by rw[hl1],by omega,by unfold reachBytes at hlb;omega,fun i x hx=> ?_⟩
  obtain⟨cs,h1,h2,h3⟩:=hl2 i x hx
  exact⟨a,cs,rfl,h1,h2,h3⟩
theorem v82{t e:TypeId}{base:Nat}{spare:Nat->Bool}{held:Bool}{v:Value}{d:DataW H}{ps:List MemPlace}(hu:P.underlying t=some (.slice e))(he:P.underlying e=some (.int .u8))(hc:P.cellsOf e=1)(hb:1<=P.bytesOf e)
  {r:Reach}{bs:Nat}(hok:Value.okWide P W r bs t v)(h:DataW.Trod enc P W base spare held t v d ps)(hsz: ∀n∈d.weights P t,n<=reachBytes): ∃l:List UInt8,RSl 1 RU8 (hv W) v l:=
 v2v hu hc hb (fun n cs x _ hx=>by
  obtain⟨a,h1,h2,h3⟩:=DataW.trod_int he hx
  refine⟨UInt8.ofNat a.toNat,?_⟩
  subst h1
  have hw:=h3
  simp only[Lit.wf,Bool.and_eq_true,decide_eq_true_eq] at hw
  have hlo:(0:Int)<=a:=by have:=hw.1;simp[IntKind.min] at this;exact this
  have hhi:a<=255:=by have:=hw.2;simp[IntKind.max] at this;exact this
  show _=_
  have h9:a.toNat<256:=by omega
  simp[Nat.mod_eq_of_lt h9,Int.toNat_of_nonneg hlo]) hok h hsz
end
end Go.Fl
end
noncomputable section
set_option maxRecDepth 100000
namespace Go.En
open Go Go.RowKit Go.Fl Go.Fl.Lk Go.Fx
section
variable {W:World}
theorem y08{P:Program}{name:String}{g:Nat}{cs:Array Value}(hg:P.globalNamed name=some g)(h:W.var? P name=some cs):VRow (hv W) ⟨g,0,none⟩ cs.toList:=fun j v hj=>by
 have h1:=World.var?_cell hg h j
 rw[Jf]
 show W.cell? ⟨g,0+j,none⟩=some v
 rw[Nat.zero_add,h1];simpa using hj
theorem j9m{P:Program}{name:String}{g:Nat}{t e:TypeId}{N:Nat}(T:Sg.C)(l:List (Sg.car T))(dat:Sg.car T->DataW Unit)(hg:P.globalNamed name=some g)(hty:(P.globals[g]?).map (·.type)=some t)
  (hu:P.underlying t=some (.array N e))(hc:P.cellsOf e=D.size T)(hct:P.cellsOf t=l.length*D.size T)(hN:l.length=N)
  (hel: ∀x∈l,∀n cs p,DataW.trod (fun _=>()) P W 0 (fun _=>true) false n e cs=some (dat x,p)->RowF D (hv W) cs (D.shape T x))(h:Lib.VarReads P W name (.agg (l.map dat))):
  SRep D (fun _=>none) (hv W) (.pointer (some ⟨g,0,none⟩)) (.fap T N l):=by
 obtain⟨g',t',cs,fuel,p,hg',hty',hv',hd⟩:=h
 obtain rfl:=Option.some.inj (hg.symm.trans hg')
 obtain rfl:=Option.some.inj (hty.symm.trans hty')
 obtain⟨xs,m,_,hx,hl,hxl,hall⟩:=DataW.trod_array hu hd
 have hx1:xs.map (·.1)=l.map dat:=by
  have:=congrArg Prod.fst hx
  simpa using this.symm
 refine .fap ⟨g,0,none⟩ cs.toList T N l hN (y08 hg hv') (by rw[hl,hct]) fun i x hxi=> ?_
 have hi:i<N:=by rw[←hN];exact Qa hxi
 have h1:=hall i hi
 rw[hc] at h1
 have h2:(xs.map (·.1))[i]? =some (dat x):=by rw[hx1];simp[hxi]
 rw[List.getElem?_map] at h2
 obtain⟨y,hy,hy2⟩:=Option.map_eq_some_iff.1 h2
 rw[hy] at h1
 obtain⟨y1,y2⟩:=y
 have hy2:y1=dat x:=hy2
 subst hy2
 exact hel x (List.mem_of_getElem? hxi) _ _ _ h1
def dStr(s:ByteArray):DataW Unit:= .lit (.string s.data.toList)
theorem w9i{P:Program}{e:TypeId}(he:P.underlying e=some .string)(x:car .str)(n:Nat)(cs:List Value)(p)(h:DataW.trod (fun _=>()) P W 0 (fun _=>true) false n e cs=some (dStr x,p)):RowF D (hv W) cs (D.shape .str x):=by
 obtain⟨s,rfl,hx,_⟩:=DataW.trod_string he h
 have hx1:=congrArg Prod.fst hx
 simp only[dStr,DataW.lit.injEq,Lit.string.injEq] at hx1
 have hxs:x=s:=by
  have h2:x.data=s.data:=Array.toList_inj.1 hx1
  cases x;cases s;simpa using h2
 subst hxs
 exact Vy (.str _) z4x
def dInt(k:IntKind)(x:Int):DataW Unit:= .lit (.int k x)
theorem v83{P:Program}{e:TypeId}{k:IntKind}(he:P.underlying e=some (.int k))(x:Int)(n:Nat)(cs:List Value)(p)(h:DataW.trod (fun _=>()) P W 0 (fun _=>true) false n e cs=some (dInt k x,p)):RowF D (hv W) cs [.int k x]:=by
 obtain⟨s,rfl,hx,_⟩:=DataW.trod_int he h
 have hx1:=congrArg Prod.fst hx
 simp only[dInt,DataW.lit.injEq,Lit.int.injEq,true_and] at hx1
 subst hx1
 exact Vy (.int _ _) z4x
def dAcc(x:Acc):DataW Unit:= .agg ([x.lo,x.hi].map fun z=> .lit (.int .u8 z))
theorem v84{P:Program}{e:TypeId}{fs:Array Field}(he:P.underlying e=some (.struct fs))(hf: ∀(i:Nat) (f:Field),fs[i]? =some f->P.underlying f.type=some (.int .u8)/\f.offset=i/\P.cellsOf f.type=1)(hct:P.cellsOf e=fs.size)
  (x:car .acc)(n:Nat)(cs:List Value)(p)(h:DataW.trod (fun _=>()) P W 0 (fun _=>true) false n e cs=some (dAcc x,p)):RowF D (hv W) cs (D.shape .acc x):=by
 have h1:=Lib.ints_of_struct he hf hct h
 subst h1
 exact Vy (.int _ _) (Vy (.int _ _) z4x)
def v6o(l:List ByteArray):DataW Unit:= .slice (l.map dStr) []
theorem v6p{P:Program}{e t:TypeId}(he:P.underlying e=some .string)(ht:P.underlying t=some (.slice e))(hc:P.cellsOf e=1)(x:car .strs)(hlen:x.length<=140737488355328)(n:Nat)(cs:List Value)(p)
  (h:DataW.trod (fun _=>()) P W 0 (fun _=>true) false n t cs=some (v6o x,p)):RowF D (hv W) cs (D.shape .strs x):=by
 rcases DataW.trod_slice ht h with ⟨_,h0⟩|⟨a,len,cap,w7s,rest,m,_,h0,hx,_,hl,hm,hlen2,hE,_,_⟩
 ·have:=congrArg Prod.fst h0
  cases this
 ·subst h0
  have hx1:=congrArg Prod.fst hx
  simp only[v6o,DataW.slice.injEq] at hx1
  have he1:w7s.map (·.1)=x.map dStr:=hx1.1.symm
  have hxl:x.length=len:=by
   have:=congrArg List.length he1
   simp at this;omega
  subst hxl
  refine Vy (RepF.ofRSl okP.ok ⟨some a,cap,rfl,hl,hlen,fun i y hy=> ?_⟩) z4x
  have hy:x[i]? =some y:=hy
  have hi:=Qa hy
  have h1:=hE i hi
  have h2:(w7s.map (·.1))[i]? =some (dStr y):=by rw[he1];simp[hy]
  rw[List.getElem?_map] at h2
  obtain⟨z,hz,hz2⟩:=Option.map_eq_some_iff.1 h2
  rw[hz,hc] at h1
  obtain⟨c,h3,h4⟩:=Option.bind_eq_some_iff.1 h1
  obtain⟨h5,h6⟩:=v4t h3
  obtain⟨z1,z2⟩:=z
  have hz2:z1=dStr y:=hz2
  subst hz2
  exact⟨a,c,rfl,h5,h6,w9i he y _ _ _ h4⟩
end
abbrev w9j:List (String×DataW Unit):=Go.Proofs.YtflilmgifibgoaaGreatDoor.Rows.trafficCoolsRow.laid
theorem j1y(i:Nat){x:String×DataW Unit}(h:w9j[i]? =some x):x∈w9j:=List.mem_of_getElem? h
theorem w13: ∀x∈j1w,x.length<=140737488355328:=fun x hx=>by
 simp only[j1w,List.mem_cons,List.not_mem_nil,or_false] at hx
 rcases hx with rfl|rfl|rfl|rfl|rfl<;>decide
theorem y09{W:World}(hL:laidMet Proofs.Tryz.prog w9j W): ∀g,SRep D (fun _=>none) (hv W) (.pointer (some ⟨g,0,none⟩)) (D.glob g)
 |0=>j9m (P:=Proofs.Tryz.prog) (t:=146) (e:=9) C.str z52 dStr (by kernel_rfl) (by kernel_rfl) (by kernel_rfl) (by kernel_rfl) (by kernel_rfl) rfl (fun x _=>w9i Proofs.Tryz.underlying9 x) (Lib.laidMet.reads hL (n:= "flagstone/flagstonedraw.texts") (j1y 1 (by kernel_rfl)))
 |1=>j9m (P:=Proofs.Tryz.prog) (t:=210) (e:=9) C.str z1l dStr (by kernel_rfl) (by kernel_rfl) (by kernel_rfl) (by kernel_rfl) (by kernel_rfl) rfl (fun x _=>w9i Proofs.Tryz.underlying9 x) (Lib.laidMet.reads hL (n:= "flagstone/flagstonedraw.versions") (j1y 2 (by kernel_rfl)))
 |2=>j9m (P:=Proofs.Tryz.prog) (t:=211) (e:=83) C.strs j1w v6o (by kernel_rfl) (by kernel_rfl) (by kernel_rfl) (by kernel_rfl) (by kernel_rfl) rfl (fun x hx=>v6p Proofs.Tryz.underlying9 Proofs.Tryz.underlying83 (by kernel_rfl) x (w13 x hx)) (Lib.laidMet.reads hL (n:= "flagstone/flagstonedraw.lists") (j1y 3 (by kernel_rfl)))
 |3=>j9m (P:=Proofs.Tryz.prog) (t:=260) (e:=5) C.u8 w4o (dInt .u8) (by kernel_rfl) (by kernel_rfl) (by kernel_rfl) (by kernel_rfl) (by kernel_rfl) rfl (fun x _=>v83 Proofs.Tryz.underlying5 x) (Lib.laidMet.reads hL (n:= "unicode/utf8.first") (j1y 4 (by kernel_rfl)))
 |4=>j9m (P:=Proofs.Tryz.prog) (t:=263) (e:=262) C.acc j1x dAcc (by kernel_rfl) (by kernel_rfl) (by kernel_rfl) (by kernel_rfl) (by kernel_rfl) rfl (fun x _=>v84 Proofs.Tryz.underlying262 (fun i f hf=>by
   match i with
   |0=>cases hf;exact⟨by kernel_rfl,rfl,by kernel_rfl⟩
   |1=>cases hf;exact⟨by kernel_rfl,rfl,by kernel_rfl⟩
   |i+2=>cases hf) (by kernel_rfl) x) (Lib.laidMet.reads hL (n:= "unicode/utf8.acceptRanges") (j1y 0 (by kernel_rfl)))
 |_+5=> .dead _
theorem y1a{W:World}(_:laidMet Proofs.Tryz.prog w9j W): ∀g cs,D.gblk g=some cs-> ∃t q,hv W g=some (.cells cs t q):=fun g cs h=>by cases h
theorem w14{W:World}(hL:laidMetH Proofs.Tryz.prog w9j W)(_:W.ShapedOpen Proofs.Tryz.prog):Glb D (hv W):=by
 rw[MakeChecks.laidMetH_plain _ _ _ (by kernel_rfl)] at hL
 exact⟨y09 hL,fun g k hk=>(by cases hk),y1a hL⟩
end Go.En
end
noncomputable section
set_option maxRecDepth 100000
namespace Go.Fl.Sp
def cov(S:List (Int×Int))(i:Nat):Bool:=S.any fun s=>decide (s.1<=(i:Int)) && decide ((i:Int)<s.2)
def lo(s:Int×Int):Int:=max s.1 0
def hi(s:Int×Int):Int:=min s.2 10000
def d1(s:Int×Int)(i:Nat):Int:=if lo s<hi s then (if (i:Int)=lo s then 1 else 0) - (if (i:Int)=hi s then 1 else 0) else 0
def dep:List (Int×Int)->Nat->Int
 |[],_=>0
 |s::S,i=>dep S i+d1 s i
def psum(D:Nat->Int):Nat->Int
 |0=>0
 |b+1=>psum D b+D b
theorem w4q(S:List (Int×Int))(s:Int×Int)(i:Nat):dep (S++[s]) i=dep S i+d1 s i:=by
 induction S with
 |nil=>simp[dep]
 |cons a S ih=>simp only[List.cons_append,dep,ih];omega
theorem v2w(s:Int×Int)(i:Nat): -1<=d1 s i/\d1 s i<=1:=by
 unfold d1;split
 ·split<;>split<;>omega
 ·omega
theorem dep_bound(S:List (Int×Int))(i:Nat): -(S.length:Int)<=dep S i/\dep S i<=S.length:=by
 induction S with
 |nil=>simp[dep]
 |cons a S ih=>have:=v2w a i;simp only[dep,List.length_cons];omega
theorem v6q(s:Int×Int)(b:Nat)(hb:b<=10000):psum (d1 s) b=if lo s<hi s then (if lo s<(b:Int) then 1 else 0) - (if hi s<(b:Int) then 1 else 0) else 0:=by
 have h0:0<=lo s:=by unfold lo;omega
 induction b with
 |zero=>simp only[psum];split<;>(try split)<;>(try split)<;>omega
 |succ b ih=>
  rw[psum,ih (by omega),d1]
  by_cases h:lo s<hi s
  ·simp only[if_pos h]
   split<;>split<;>split<;>split<;>(try split)<;>(try split)<;>omega
  ·simp only[if_neg h];omega
theorem v2x(S:List (Int×Int))(b:Nat):psum (dep S) b=(S.map fun s=>psum (d1 s) b).sum:=by
 induction S with
 |nil=>induction b with
  |zero=>rfl
  |succ b ih=>rw[psum,ih];rfl
 |cons a S ih=>
  simp only[List.map_cons,List.sum_cons,←ih]
  clear ih
  induction b with
  |zero=>rfl
  |succ b ih=>rw[psum,psum,psum,ih];show _=psum (d1 a) b+d1 a b+(psum (dep S) b+dep S b);show _+(dep S b+d1 a b)=_;omega
theorem psum_nonneg(S:List (Int×Int))(b:Nat)(hb:b<10000):0<=psum (dep S) (b+1)/\psum (dep S) (b+1)<=S.length/\(0<psum (dep S) (b+1)↔cov S b=true):=by
 rw[v2x]
 induction S with
 |nil=>simp[cov]
 |cons a S ih=>
  have h1:=v6q a (b+1) (by omega)
  have hc:(cov (a::S) b=true)↔(a.1<=(b:Int)/\(b:Int)<a.2)∨cov S b=true:=by simp[cov]
  rw[List.map_cons,List.sum_cons,hc]
  have key:psum (d1 a) (b+1)=if a.1<=(b:Int)/\(b:Int)<a.2 then 1 else 0:=by
   rw[h1];unfold lo hi
   by_cases hh:a.1<=(b:Int)/\(b:Int)<a.2
   ·rw[if_pos hh,if_pos (by omega),if_pos (by omega),if_neg (by omega)];rfl
   ·rw[if_neg hh]
    split
    ·split<;>split<;>omega
    ·rfl
  rw[key]
  obtain⟨i1,i2,i3⟩:=ih
  simp only[List.length_cons]
  by_cases hh:a.1<=(b:Int)/\(b:Int)<a.2
  ·rw[if_pos hh]
   refine⟨by omega,by omega,fun _=> .inl hh,fun _=>by omega⟩
  ·rw[if_neg hh]
   refine⟨by omega,by omega,fun h=> .inr (i3.1 (by omega)),fun h=> ?_⟩
   have:=i3.2 (h.resolve_left hh);omega
theorem v2y(S:List (Int×Int))(b:Nat)(hb:b<10000):decide (0<psum (dep S) (b+1))=cov S b:=by
 have h:=(psum_nonneg S b hb).2.2
 cases hc:cov S b
 ·rw[decide_eq_false];intro h2;rw[h.1 h2] at hc;cases hc
 ·exact decide_eq_true (h.2 hc)
theorem dep_step(S:List (Int×Int))(s:Int×Int)(a b:Nat)(ha:(a:Int)=lo s)(hb:(b:Int)=hi s)(h:lo s<hi s):
  ∀i,(if i=b then (if b=a then dep S a+1 else dep S b) - 1 else if i=a then dep S a+1 else dep S i)=dep (S++[s]) i:=by
 intro i
 rw[w4q,d1,if_pos h]
 have hab:b≠a:=by omega
 rw[if_neg hab]
 by_cases h1:i=b
 ·subst h1;rw[if_pos rfl,if_neg (by omega),if_pos (by omega)];omega
 ·rw[if_neg h1]
  by_cases h2:i=a
  ·subst h2;rw[if_pos rfl,if_pos (by omega),if_neg (by omega)];omega
  ·rw[if_neg h2,if_neg (by omega),if_neg (by omega)];omega
theorem dep_skip(S:List (Int×Int))(s:Int×Int)(h: ¬lo s<hi s)(i:Nat):dep (S++[s]) i=dep S i:=by
 rw[w4q,d1,if_neg h];omega
def runs(p:Nat->Bool):Nat->List (Int×Int)
 |0=>[]
 |n+1=>if p n then (match (runs p n).getLast? with
   |some s=>if s.2=(n:Int) then (runs p n).dropLast++[(s.1,(n:Int)+1)] else runs p n++[((n:Int),(n:Int)+1)]
   |none=>runs p n++[((n:Int),(n:Int)+1)]) else runs p n
theorem runs_len(p:Nat->Bool)(n:Nat):(runs p n).length<=n:=by
 induction n with
 |zero=>simp[runs]
 |succ n ih=>
  rw[runs]
  split
  ·split
   ·split
    ·simp;omega
    ·simp;omega
   ·simp;omega
  ·omega
theorem runs_congr{p q:Nat->Bool}{n:Nat}(h: ∀i,i<n->p i=q i):runs p n=runs q n:=by
 induction n with
 |zero=>rfl
 |succ n ih=>rw[runs,runs,ih (fun i hi=>h i (by omega)),h n (by omega)]
theorem w9k(p:Nat->Bool)(n:Nat): ∀s,(runs p n).getLast? =some s->s.2<=(n:Int)/\0<=s.1/\s.1<s.2/\(s.2=(n:Int)↔0<n/\p (n - 1)=true):=by
 induction n with
 |zero=>intro s h;simp[runs] at h
 |succ n ih=>
  intro s h
  rw[runs] at h
  by_cases hp:p n=true
  ·rw[if_pos hp] at h
   cases hl:(runs p n).getLast? with
   |none=>
    rw[hl] at h;simp at h;subst h
    simp[hp];omega
   |some t=>
    rw[hl] at h
    have ht:=ih t hl
    by_cases ht2:t.2=(n:Int)
    ·simp only[if_pos ht2,List.getLast?_append,List.getLast?_singleton,Option.some_or,Option.some.injEq] at h
     subst h
     simp[hp];omega
    ·simp only[if_neg ht2,List.getLast?_append,List.getLast?_singleton,Option.some_or,Option.some.injEq] at h
     subst h
     simp[hp];omega
  ·rw[if_neg hp] at h
   have hs:=ih s h
   refine⟨by omega,hs.2.1,hs.2.2.1,⟨fun h2=>by omega,fun h2=> ?_⟩⟩
   simp at h2
   exact absurd h2 hp
theorem v2z(p:Nat->Bool)(n:Nat): ∀i,cov (runs p n) i=(decide (i<n) && p i):=by
 induction n with
 |zero=>intro i;simp[runs,cov]
 |succ n ih=>
  intro i
  rw[runs]
  have happ: ∀(A:List (Int×Int)) s,cov (A++[s]) i=(cov A i||(decide (s.1<=(i:Int)) && decide ((i:Int)<s.2))):=by intro A s;simp[cov]
  have step:(decide (i<n+1) && p i)=((decide (i<n) && p i)||(decide (i=n) && p i)):=by
   by_cases h1:i<n
   ·simp[h1,show i<n+1 by omega,show i≠n by omega]
   ·by_cases h2:i=n
    ·subst h2;simp
    ·simp[h1,h2,show ¬i<n+1 by omega]
  by_cases hp:p n=true
  ·rw[if_pos hp]
   have new:(decide ((n:Int)<=(i:Int)) && decide ((i:Int)<(n:Int)+1))=decide (i=n):=by
    by_cases h2:i=n
    ·subst h2;simp;omega
    ·rw[decide_eq_false h2]
     by_cases h3:n<=i
     ·rw[decide_eq_false (show ¬(i:Int)<(n:Int)+1 by omega)];simp
     ·rw[decide_eq_false (show ¬(n:Int)<=(i:Int) by omega)];simp
   have pin:(decide (i=n) && p i)=decide (i=n):=by
    by_cases h2:i=n
    ·subst h2;simp[hp]
    ·simp[h2]
   cases hl:(runs p n).getLast? with
   |none=>
    simp only
    rw[happ,ih i,step,pin]
    simp only[new]
   |some t=>
    have ht:=w9k p n t hl
    by_cases ht2:t.2=(n:Int)
    ·simp only[if_pos ht2]
     have hne:runs p n=(runs p n).dropLast++[t]:=by
      have hne0:runs p n≠[]:=by intro e;rw[e] at hl;cases hl
      rw[List.getLast?_eq_some_getLast hne0] at hl
      have:=List.dropLast_concat_getLast hne0
      rw[←this]
      congr 2
      simp[this]
      exact Option.some.inj hl
     have ihe:=ih i
     rw[hne,happ] at ihe
     rw[happ,step,pin,←ihe,Bool.or_assoc]
     congr 1
     by_cases h2:i=n
     ·subst h2
      rw[decide_eq_true (show t.1<=(i:Int) by omega),decide_eq_true (show (i:Int)<(i:Int)+1 by omega)];simp
     ·rw[decide_eq_false h2,Bool.or_false,ht2]
      congr 1
      rw[decide_eq_decide];omega
    ·simp only[if_neg ht2]
     rw[happ,ih i,step,pin]
     simp only[new]
  ·rw[if_neg hp,ih i,step]
   have:(decide (i=n) && p i)=false:=by
    by_cases h2:i=n
    ·subst h2;simpa using hp
    ·simp[h2]
   rw[this,Bool.or_false]
def cnt(p:Nat->Bool):Nat->Nat
 |0=>0
 |n+1=>cnt p n+if p n then 1 else 0
theorem cnt_le(p:Nat->Bool)(n:Nat):cnt p n<=n:=by
 induction n with
 |zero=>simp[cnt]
 |succ n ih=>rw[cnt];split<;>omega
theorem cnt_congr{p q:Nat->Bool}{n:Nat}(h: ∀i,i<n->p i=q i):cnt p n=cnt q n:=by
 induction n with
 |zero=>rfl
 |succ n ih=>rw[cnt,cnt,ih (fun i hi=>h i (by omega)),h n (by omega)]
theorem flat_take{ls:List (List (Int×Int))}{k:Nat}{x:List (Int×Int)}(h:ls[k]? =some x):(ls.take (k+1)).flatten=(ls.take k).flatten++x:=by
 rw[List.take_add_one,h];simp
theorem part_le{ls:List (List (Int×Int))}{k j:Nat}{x:List (Int×Int)}(h:ls[k]? =some x)(hj:j<=x.length):((ls.take k).flatten++x.take j).length<=ls.flatten.length:=by
 have h1:ls.flatten=(ls.take (k+1)).flatten++(ls.drop (k+1)).flatten:=by rw[←List.flatten_append,List.take_append_drop]
 rw[h1,flat_take h]
 simp only[List.length_append,List.length_take]
 omega
theorem set_step(S:List (Int×Int))(k:Nat)(h:k<10000)(i:Nat):(if i=k then decide (0<psum (dep S) k+dep S k) else (decide (i<k) && cov S i))=(decide (i<k+1) && cov S i):=by
 by_cases h1:i=k
 ·subst h1
  rw[if_pos rfl,decide_eq_true (show i<i+1 by omega),Bool.true_and]
  exact v2y S i h
 ·rw[if_neg h1];congr 1;rw[decide_eq_decide];omega
theorem all_step(S:List (Int×Int))(k i:Nat)(h:i<k):(decide (i<k) && cov S i)=cov S i:=by simp[h]
theorem runs_no{p:Nat->Bool}{k:Nat}(h:p k=false):runs p (k+1)=runs p k:=by rw[runs,h];rfl
theorem v6r{l:List (Int×Int)}{s:Int×Int}(h:l[l.length - 1]? =some s):l.getLast? =some s:=by rw[List.getLast?_eq_getElem?];exact h
theorem runs_ext{p:Nat->Bool}{k:Nat}{s:Int×Int}(h:p k=true)(hs:(runs p k)[(runs p k).length - 1]? =some s)(h2:s.2=(k:Int)):runs p (k+1)=(runs p k).set ((runs p k).length - 1) (s.1,(k:Int)+1):=by
 rw[runs,if_pos h,v6r hs]
 simp only[if_pos h2]
 have hne:runs p k≠[]:=by intro e;rw[e] at hs;simp at hs
 generalize runs p k=l at hne
 apply List.ext_getElem?
 intro i
 have hpos:0<l.length:=List.length_pos_iff.2 hne
 rw[List.getElem?_set]
 by_cases hi:l.length - 1=i
 ·subst hi
  rw[if_pos rfl,if_pos (by omega),List.getElem?_append_right (by simp)]
  simp
 ·rw[if_neg hi]
  by_cases hlt:i<l.length - 1
  ·rw[List.getElem?_append_left (by simpa using hlt),List.getElem?_dropLast,if_pos hlt]
  ·rw[List.getElem?_eq_none (by simp;omega),List.getElem?_eq_none (by omega)]
theorem runs_new{p:Nat->Bool}{k:Nat}(h:p k=true)(h2: ∀s,(runs p k)[(runs p k).length - 1]? =some s->s.2≠(k:Int)):runs p (k+1)=runs p k++[((k:Int),(k:Int)+1)]:=by
 rw[runs,if_pos h]
 cases hl:(runs p k).getLast? with
 |none=>rfl
 |some s=>
  rw[List.getLast?_eq_getElem?] at hl
  simp only[if_neg (h2 s hl)]
theorem cov_two(A B:List (Int×Int))(i:Nat):cov [A,B].flatten i=(cov A i||cov B i):=by simp[cov]
theorem cov_one(A:List (Int×Int))(i:Nat):cov [A].flatten i=cov A i:=by simp[cov]
theorem cov_nil(i:Nat):cov [] i=false:=rfl
def leftN(p:Nat->Bool)(n:Int):Nat->Int
 |0=>n
 |k+1=>if p k=true/\0<leftN p n k then leftN p n k - 1 else leftN p n k
def firstP(p:Nat->Bool)(n:Int)(k:Nat):Bool:=p k && decide (0<leftN p n k)
theorem leftN_le(p:Nat->Bool)(n:Int)(k:Nat):leftN p n k<=n/\(n<=0->leftN p n k=n)/\(0<=n->0<=leftN p n k):=by
 induction k with
 |zero=>simp[leftN]
 |succ k ih=>
  rw[leftN]
  split<;>omega
theorem w15{p q:Nat->Bool}{n:Int}{k:Nat}(h: ∀i,i<k->p i=q i):leftN p n k=leftN q n k:=by
 induction k with
 |zero=>rfl
 |succ k ih=>rw[leftN,leftN,ih (fun i hi=>h i (by omega)),h k (by omega)]
theorem firstP_congr{p q:Nat->Bool}{n:Int}{k:Nat}(h: ∀i,i<=k->p i=q i):firstP p n k=firstP q n k:=by
 rw[firstP,firstP,w15 (fun i hi=>h i (by omega)),h k (by omega)]
theorem w5q(k:Nat)(hk:0<k)(n:Nat):runs (fun i=>decide (i<k)) n=if n=0 then [] else [(0,((min n k:Nat):Int))]:=by
 induction n with
 |zero=>rfl
 |succ n ih=>
  rw[runs,ih]
  by_cases h0:n=0
  ·subst h0;simp[hk];omega
  ·by_cases h:n<k
   ·have h1:min n k=n:=by omega
    have h2:min (n+1) k=n+1:=by omega
    rw[h1,h2]
    simp[h0,h]
   ·have h1:min n k=k:=by omega
    have h2:min (n+1) k=k:=by omega
    rw[h1,h2]
    simp[h0,h]
theorem w9l(k n:Nat):cnt (fun i=>decide (i<k)) n=min n k:=by
 induction n with
 |zero=>simp[cnt]
 |succ n ih=>rw[cnt,ih];by_cases h:n<k<;>simp[h]<;>omega
theorem w9m(i:Nat):cov [(5,9),(0,5),(7,7)] i=decide (i<9):=by
 unfold cov
 rw[Bool.eq_iff_iff]
 simp
 omega
theorem awake_runs:runs (cov [(5,9),(0,5),(7,7)]) 10000=[(0,9)]:=by
 rw[runs_congr (fun i _=>w9m i),w5q 9 (by omega)];rfl
theorem awake_cnt:cnt (cov [(0,9)]) 10000=9:=by
 rw[cnt_congr (q:=fun i=>decide (i<9)) (fun i _=>by unfold cov;rw[Bool.eq_iff_iff];simp;omega),w9l];rfl
theorem runs_empty{p:Nat->Bool}{n:Nat}(h: ∀i,i<n->p i=false):runs p n=[]:=by
 induction n with
 |zero=>rfl
 |succ n ih=>rw[runs_no (h n (by omega)),ih (fun i hi=>h i (by omega))]
def mix(k:Nat)(p q:Nat->Bool)(i:Nat):Bool:=if i<k then q i else p i
theorem cov_norm{p:Nat->Bool}{i:Nat}(h:i<10000):cov (runs p 10000) i=p i:=by rw[v2z,decide_eq_true h,Bool.true_and]
end Go.Fl.Sp
end
