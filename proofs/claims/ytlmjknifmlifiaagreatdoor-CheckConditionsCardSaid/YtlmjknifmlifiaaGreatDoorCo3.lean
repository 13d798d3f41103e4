/- CheckConditions: the diagram of a condition stands for its truth by the atoms This is part 3 of 9. Conditions: those in the statements. -/
import Derived.Test.YtlmjknifmlifiaaGreatDoorProg
import Derived.Test.YtlmjknifmlifiaaGreatDoorRows
import Derived.Test.YtlmjknifmlifiaaGreatDoorCo2
import Derived.KernelRfl
import Derived.Conc.MuLone
import Derived.ProofKit
import Derived.OpenShut
import Derived.ShutString
import Derived.ChangeOld
import Derived.Below
import Derived.SizedLaws
import Derived.Deep.Slices
import Derived.Lib.LaidU8
import Derived.Shelf.Vars
import Derived.MakeChecks
import Derived.Lib.Split
import Derived.Lib.AtoiAll
import Derived.Lib.Fields
import Derived.Lib.ValidU
import Derived.Shelf.Small.Bits
import Derived.Shelf.Small.Strs
import Derived.Shelf.Utf8.RuneCount
import Derived.Shelf.Strconv.Atoi
import Derived.Shelf.Strconv.Itoa0
import Derived.Shelf.Strconv.Itoa1
import Derived.Shelf.LaysM
import Derived.Shelf.Strconv.Itoa2
import Derived.Shelf.Strconv.Itoa3
import Derived.Shelf.Strconv.AtoiErrFast
import Derived.Shelf.Strconv.ParseIntEmpty
import Derived.Shelf.Strconv.AtoiFail
import Derived.Shelf.Strconv.Clone
import Derived.Shelf.Strconv.SyntaxError
import Derived.Shelf.LaysC
import Derived.Shelf.Strconv.ToError
import Derived.Shelf.Strconv.Lower
import Derived.Shelf.Strconv.ParseUint10
import Derived.Shelf.Strconv.ParseUint10Empty
import Derived.Shelf.Strconv.ParseUint10Any
import Derived.Shelf.Strconv.ParseInt10
import Derived.Shelf.Strconv.AtoiLong
import Derived.Shelf.Strconv.AtoiInnerAll
import Derived.Shelf.Strconv.RangeError
import Derived.Shelf.Strconv.ToErrorRange
import Derived.Shelf.Strconv.AtoiAll
import Derived.Shelf.Strconv.ErrVarAll
import Derived.Shelf.Strings.Search1
import Derived.Shelf.Strings.Search2
import Derived.Shelf.Strings.Search3
import Derived.Shelf.Strings.Count
import Derived.Shelf.Strings.Shaped
import Derived.Shelf.Sort.Plain
import Derived.Shelf.Strings.Split
import Derived.Shelf.Strings.Fields
import Derived.Shelf.Strings.SplitShaped
import Derived.Shelf.Unicode.Latin
import Derived.Shelf.Unicode.Decode
import Derived.Shelf.Strings.RuneCount
import Derived.Shelf.Strings.Explode
import Derived.Shelf.Unicode.DecodeSlow
import Derived.Shelf.Unicode.DecodeAny
import Derived.Shelf.Unicode.Is16White
import Derived.Shelf.Unicode.IsSpaceAny
import Derived.Shelf.Unicode.Is16Any
import Derived.Shelf.Unicode.Is32Any
import Derived.Shelf.Unicode.ExclAny
import Derived.Ground.Names2Prog
import Derived.Shelf.Slices.Clone
import Derived.Shelf.Slices.CompactS
import Derived.Shelf.Slices.SearchI
import Derived.Shelf.Slices.Cells
import Derived.Shelf.Slices.In.SortNone
import Derived.Ground.SlgnProg
import Derived.Shelf.SlicesE.Clone
import Derived.Ground.NamesProg
import Derived.Shelf.Unicode.ValidAny
import Derived.Shelf.SlIter.Sorted
import Derived.Ground.GgzProg
import Derived.Shelf.SlIter.Collect
import Derived.WalkKit
import Derived.OwnWalkIn
import Derived.TacticsInMore
import Derived.LoopNIn
import Derived.LoopIn
import Derived.RangeFuncLeaves
noncomputable section
set_option maxRecDepth 100000
namespace Go.Fx
open Go Go.RowKit Go.Fl Go.Fl.Lk
variable {S:Sig}{P:Program}{D:Shp S}{ν ν' ν0:Nm}{σ τ:Hv}{n:Nat}{f:Fr}
variable {w:World}{cx:Cx}{ro:Ro S}{st:AS S}{ms:List HObj}
theorem q3w: ∀{l l':List Nat} {j:Nat},hasN (l++l') j=(hasN l j||hasN l' j)
 |[],_,_=>rfl
 |a::l,l',j=>by
  simp only[List.cons_append,hasN]
  cases Nat.beq a j with
  |true=>rfl
  |false=>exact q3w
theorem j6k{l:List Nat}{o:Nat}(h:o∉l):hasN l o=false:=by
 induction l with
 |nil=>rfl
 |cons a l ih=>
  simp only[hasN]
  cases hb:Nat.beq a o with
  |true=>exact absurd (by rw[Nat.eq_of_beq_eq_true hb];simp) h
  |false=>exact ih fun hm=>h (by simp[hm])
theorem q7l: ∀{l:List Nat} {objs r:List (Nat×AO S)},z00 objs l=some r->r.map (·.1)=l/\ ∀q∈r,Qr objs q.1=some q.2
 |[],_,_,h=>by cases h;exact⟨rfl,by simp⟩
 |o::l,objs,r,h=>by
  simp only[z00] at h
  split at h
  case h_2=>cases h
  rename_i a r' ha hr
  cases h
  obtain⟨h1,h2⟩:=q7l hr
  refine⟨by simp[h1],fun q hq=> ?_⟩
  rcases List.mem_cons.1 hq with rfl|hq
  ·exact ha
  ·exact h2 q hq
theorem q18{α:Type}: ∀{os:List (Nat×α)} {o:Nat} {a:α},(os.map (·.1)).Nodup->(o,a)∈os->Qr os o=some a
 |q::os,o,a,hn,hm=>by
  obtain⟨o',a'⟩:=q
  rw[List.map_cons,List.nodup_cons] at hn
  simp only[Qr]
  rcases List.mem_cons.1 hm with he|hm
  ·cases he;simp
  ·have:Nat.beq o' o=false:=by
    cases hb:Nat.beq o' o with
    |false=>rfl
    |true=>
     have:=Nat.eq_of_beq_eq_true hb
     subst this
     exact absurd (List.mem_map.2 ⟨_,hm,rfl⟩) hn.1
   rw[this]
   exact q18 hn.2 hm
theorem z6j{α:Type}: ∀{os:List (Nat×α)} {o:Nat},(delN os o).Sublist os
 |[],_=>List.Sublist.refl _
 |(o',_)::_,o=>by
  simp only[delN]
  cases Nat.beq o' o with
  |true=>exact List.sublist_cons_self _ _
  |false=>exact z6j.cons_cons _
theorem z3l{α:Type}: ∀{tl:List Nat} {os:List (Nat×α)},(Un os tl).Sublist os
 |[],_=>List.Sublist.refl _
 |_::tl,_=>(z3l (tl:=tl)).trans z6j
structure Chk(sp:Spec S)(ro:Ro S)(st:AS S):Prop where
 cobj: ∀q∈sp.cobj,∃l:List (SV S),Qr st.objs q.1=some (.cells q.2.1 l)/\l.length=q.2.2
 apart: ∀q∈sp.cobj,q.1∉sp.robj
 nodup:((st.objs++ro.objs).map (·.1)).Nodup
 rnodup:sp.robj.Nodup
 cnodup:q0f (sp.cobj.map (·.1))=true
 clt: ∀q∈sp.cobj,q.1<st.next
 lt:q3d st.next sp.items=true
theorem z04{sp:Spec S}(h:j2y sp ro st=true):Chk sp ro st:=by
 obtain⟨h,h6⟩:=Qk h
 obtain⟨h,h5⟩:=Qk h
 obtain⟨h,h4⟩:=Qk h
 obtain⟨h,h3⟩:=Qk h
 obtain⟨h1,h2⟩:=Qk h
 have h1:=List.all_eq_true.1 h1
 refine⟨fun q hq=> ?_,fun q hq=> ?_,Rt h2,Rt h3,h4,fun q hq=> ?_,h6⟩
 ·obtain⟨ha,_⟩:=Qk (h1 q hq)
  split at ha
  case h_2=>cases ha
  rename_i ty l hf
  obtain⟨ha,hb⟩:=Qk ha
  exact⟨l,by rw[hf,Nat.eq_of_beq_eq_true ha],Nat.eq_of_beq_eq_true hb⟩
 ·obtain⟨_,hb⟩:=Qk (h1 q hq)
  exact q21 (by simpa using hb)
 ·have:=List.all_eq_true.1 h5 q hq
  rw[←Nat.blt_eq];exact this
theorem q25: ∀{l:List (Nat×TypeId×Nat)} {o:Nat},hasC l o=true↔ ∃q∈l,q.1=o
 |[],o=>by simp[hasC]
 |(o',ty,len)::l,o=>by
  simp only[hasC]
  cases hb:Nat.beq o' o with
  |true=>
   have:=Nat.eq_of_beq_eq_true hb
   subst this
   simp
  |false=>
   rw[cond_false,q25]
   constructor
   ·rintro⟨q,hq,rfl⟩;exact⟨q,by simp[hq],rfl⟩
   ·rintro⟨q,hq,rfl⟩
    rcases List.mem_cons.1 hq with rfl|hq
    ·simp at hb
    ·exact⟨q,hq,rfl⟩
def res1(x:SV S):SV S->SV S
 | .lk=>x
 |s=>s
theorem U8{g:Nat->SV S}{k:Nat}{s:SV S}{l:List (SV S)}:resL g k (s::l)=res1 (g k) s::resL g (k+1) l:=by cases s<;>rfl
theorem q8j{g h:Nat->SV S}{p:Nat->Bool}: ∀{l:List (SV S)} {k:Nat},(∀i s,(resL h k l)[i]? =some s->g (k+i)=s)->resL g k (q64 l p k)=resL h k l
 |[],_,_=>rfl
 |s::l,k,hg=>by
  have h0:=hg 0 (res1 (h k) s) (by rw[U8];rfl)
  rw[Nat.add_zero] at h0
  have ih:=q8j (g:=g) (h:=h) (p:=p) (l:=l) (k:=k+1) (fun i s' hi=>by
   have:=hg (i+1) s' (by rw[U8];exact hi)
   rw[←this];congr 1;omega)
  simp only[q64]
  rw[U8,U8,ih]
  congr 1
  cases p k with
  |true=>simp only[cond_true];cases s<;>first|rfl|exact h0
  |false=>exact h0
theorem G.enter{sp:Spec S}{robj:List (Nat×AO S)}(h:G D cx ν0 ro st f w ν σ ms)(hc:Chk sp ro st)(hr:z00 st.objs sp.robj=some robj):
  ∃ms',G D cx ν0 (roOf sp ro st robj) {slots:=st.slots,objs:=Vv sp (Un st.objs sp.robj),next:=st.next} f w ν σ ms':=by
 obtain⟨hr1,hr2⟩:=q7l hr
 obtain⟨ins,r1,r2,hp,ho1,ho2,ho3⟩:=h.objs.takeR (tlo:=robj) (by rw[hr1];exact hc.rnodup) hr2
 rw[hr1] at ho2
 have hnd:(st.objs.map (·.1)).Nodup:=by
  have:=hc.nodup
  rw[List.map_append] at this
  exact (List.nodup_append.1 this).1
 have hdis: ∀o∈st.objs.map (·.1),∀o'∈ro.objs.map (·.1),o≠o':=by
  have:=hc.nodup
  rw[List.map_append] at this
  exact (List.nodup_append.1 this).2.2
 have hcell: ∀o,hasC sp.cobj o=false->(roOf sp ro st robj).cell o=ro.cell o:=by
  intro o ho
  funext i
  simp only[roOf,ho,cond_false]
 have hstay: ∀{os:List (Nat×AO S)} {ms:List HObj},(∀q∈os,hasC sp.cobj q.1=false)->Objs D ν σ ro.cell os ms->Objs D ν σ (roOf sp ro st robj).cell os ms:=by
  intro os
  induction os with
  |nil=>intro ms _ ho;cases ms with|nil=>trivial|cons=>exact ho.elim
  |cons q os ih=>
   intro ms hq ho
   cases ms with
   |nil=>exact ho.elim
   |cons m ms=>
    refine⟨?_,ih (fun q' hq'=>hq q' (by simp[hq'])) ho.2⟩
    obtain⟨o,a⟩:=q
    have hoa:=ho.1
    cases a with
    |cells ty l=>
     obtain⟨b,cs,e1,e2,e3⟩:=hoa
     refine⟨b,cs,e1,e2,?_⟩
     rw[hcell o (hq (o,.cells ty l) (by simp))]
     exact e3
    |vec e T l=>exact hoa
    |frz T l=>exact hoa
    |arr ty T N l=>exact hoa
    |map K V F=>exact hoa
    |iter K V F done cur=>exact hoa
    |siter s pos=>exact hoa
 refine⟨r1++(ins++r2),h.mem.perm (hp.trans (by
  rw[←List.append_assoc,←List.append_assoc]
  exact List.Perm.append_right r2 List.perm_append_comm)),?_,fun j=> ?_,h.fresh,h.ext,h.glob⟩
 ·refine Objs.append (os':=robj++ro.objs) ?_ (Objs.append (hstay (fun q hq=> ?_) ho1) (hstay (fun q hq=> ?_) ho3))
  ·
   have hsub: ∀q∈Un st.objs sp.robj,Qr st.objs q.1=some q.2:=fun q hq=>q18 hnd (z3l.subset hq)
   clear hp
   generalize Un st.objs sp.robj=os at ho2 hsub
   induction os generalizing r1 with
   |nil=>cases r1 with|nil=>trivial|cons=>exact ho2.elim
   |cons q os ih=>
    cases r1 with
    |nil=>exact ho2.elim
    |cons m r1=>
     obtain⟨o,a⟩:=q
     have hoa:=ho2.1
     have hfind:=hsub (o,a) (by simp)
     have hih:=ih r1 ho2.2 (fun q hq=>hsub q (by simp[hq]))
     cases a with
     |cells ty l=>
      simp only[Vv]
      refine⟨?_,hih⟩
      obtain⟨b,cs,e1,e2,e3⟩:=hoa
      cases hb:hasC sp.cobj o with
      |false=>
       refine⟨b,cs,e1,e2,?_⟩
       rw[hcell o hb];exact e3
      |true=>
       refine⟨b,cs,e1,e2,?_⟩
       have:resL ((roOf sp ro st robj).cell o) 0 (q64 l (q53 sp.items o) 0)=resL (ro.cell o) 0 l:=by
        refine q8j fun i s hi=> ?_
        simp only at hfind
        simp only[roOf,hb,cond_true,hfind,Nat.zero_add,List.getD_eq_getElem?_getD,hi,Option.getD_some]
       rw[this];exact e3
     |vec e T l=>exact⟨hoa,hih⟩
     |frz T l=>exact⟨hoa,hih⟩
     |arr ty T N l=>exact⟨hoa,hih⟩
     |map K V F=>exact⟨hoa,hih⟩
     |iter K V F done cur=>exact⟨hoa,hih⟩
     |siter s pos=>exact⟨hoa,hih⟩
  ·cases hb:hasC sp.cobj q.1 with
   |false=>rfl
   |true=>
    obtain⟨q',hq',he⟩:=q25.1 hb
    exact absurd (by rw[he,←hr1];exact List.mem_map.2 ⟨q,hq,rfl⟩) (hc.apart q' hq')
  ·cases hb:hasC sp.cobj q.1 with
   |false=>rfl
   |true=>
    obtain⟨q',hq',he⟩:=q25.1 hb
    obtain⟨l,hl,_⟩:=hc.cobj q' hq'
    exact absurd he (hdis _ (List.mem_map.2 ⟨_,q77 hl,rfl⟩) _ (List.mem_map.2 ⟨q,hq,rfl⟩))
 ·have:H6 (roOf sp ro st robj) {slots:=st.slots,objs:=Vv sp (Un st.objs sp.robj),next:=st.next} j=H6 ro st j:=by
   unfold H6 roOf
   simp only[q3w]
   cases h1:hasN ro.lock j<;>cases h2:hasN sp.lock j<;>simp[H6,h1]
  rw[this];exact h.slots j
theorem q4s{sp:Spec S}: ∀{os:List (Nat×AO S)} {o:Nat} {ty:TypeId} {l:List (SV S)},Qr os o=some (.cells ty l)->hasC sp.cobj o=true->Qr (Vv sp os) o=some (.cells ty (q64 l (q53 sp.items o) 0))
 |(o',a)::os,o,ty,l,h,hc=>by
  simp only[Qr] at h
  cases hb:Nat.beq o' o with
  |true=>
   rw[hb] at h;cases h
   have:=Nat.eq_of_beq_eq_true hb
   subst this
   simp[Vv,Qr,hc]
  |false=>
   rw[hb] at h
   have ih:=q4s (sp:=sp) (os:=os) h hc
   cases a<;>simp[Vv,Qr,hb,ih]
theorem z3m{p:Nat->Bool}: ∀{l:List (SV S)} {k i:Nat},i<l.length->p (k+i)=false->(q64 l p k)[i]? =some .lk
 |s::l,k,0,_,hp=>by rw[Nat.add_zero] at hp;simp[q64,hp]
 |s::l,k,i+1,h,hp=>by
  simp only[q64,List.getElem?_cons_succ]
  exact z3m (by simpa using h) (by rw[←hp];congr 1;omega)
theorem z3n{p:Nat->Bool}: ∀{l:List (SV S)} {k:Nat},(q64 l p k).length=l.length
 |[],_=>rfl
 |s::l,k=>by simp[q64,z3n]
theorem G.roE{sp:Spec S}{robj:List (Nat×AO S)}(hc:Chk sp ro st)(h:G D cx ν0 (roOf sp ro st robj) {slots:=st.slots,objs:=Vv sp (Un st.objs sp.robj),next:=st.next} f w ν σ ms):
  RoE D ν0 ν (roOf sp ro st robj) sp st.next:=by
 refine⟨fun o v hv=> ?_,h.ext,fun j hj=> ?_,fun q hq=> ?_,fun q hq i hi hit=> ?_,hc.cnodup,hc.lt,hc.clt⟩
 ·rcases Nat.lt_or_ge o st.next with hlt|hge
  ·exact hlt
  ·have:=h.fresh o hge
   rw[hv] at this;cases this
 ·have:=h.slots j
  unfold H6 at this
  rw[hj] at this
  exact⟨_,_,this⟩
 ·obtain⟨m1,m2,rfl,h1,h2⟩:=h.objs.split
  obtain⟨m,hm⟩:=h2.mem (o:=q.1) (a:=q.2) hq
  exact⟨σ,m,hm⟩
 ·obtain⟨l,hl,hlen⟩:=hc.cobj q hq
  have hf:Qr (Un st.objs sp.robj) q.1=some (.cells q.2.1 l):=by rw[q23 (hc.apart q hq)];exact hl
  have hf2:=q4s (sp:=sp) hf (q25.2 ⟨q,hq,rfl⟩)
  obtain⟨m,hm,b,cs,_,_,hrow⟩:=h.objs.find (o:=q.1) (by rw[Jv,hf2])
  have hg:=z3m (p:=q53 sp.items q.1) (l:=l) (k:=0) (i:=i) (by omega) (by rw[Nat.zero_add];exact hit)
  have hres:=q57 (g:=(roOf sp ro st robj).cell q.1) (k:=0) hg
  rw[Nat.zero_add] at hres
  obtain⟨v,hv⟩:=getq (l:=cs) (k:=i) (by rw[hrow.1,q7k,z3n];omega)
  exact⟨v,σ,hrow.2.1 i v _ hv hres⟩
theorem z0g{g h:Nat->SV S}: ∀{l l0:List (SV S)} {k:Nat},(∀i,g (k+i)=(resL h k l0).getD i .dead)->resL h k (q54 l l0)=resL g k l
 |[],_,_,_=>rfl
 |s::l,l0,k,hg=>by
  have ht: ∀i,g (k+1+i)=(resL h (k+1) l0.tail).getD i .dead:=by
   intro i
   have:=hg (i+1)
   have e:k+(i+1)=k+1+i:=by omega
   rw[e] at this
   rw[this]
   cases l0 with
   |nil=>simp[resL]
   |cons x l0=>cases x<;>simp[resL]
  have ih:=z0g (l:=l) ht
  have h0:g k=res1 (h k) (l0.head?.getD .dead):=by
   have:=hg 0
   rw[Nat.add_zero] at this
   rw[this]
   cases l0 with
   |nil=>rfl
   |cons x l0=>rw[U8];rfl
  cases s with
  |lk=>
   simp only[q54]
   rw[U8,ih,←h0];rfl
  |_=>simp only[q54,resL];rw[ih]
theorem G.leave{sp:Spec S}{robj:List (Nat×AO S)}{a:AS S}(hc:Chk sp ro st)(hr:z00 st.objs sp.robj=some robj)(h:G D cx ν0 (roOf sp ro st robj) a f w ν σ ms):G D cx ν0 ro (z3e sp st robj a) f w ν σ ms:=by
 obtain⟨hr1,hr2⟩:=q7l hr
 have hcell: ∀o,hasC sp.cobj o=false->(roOf sp ro st robj).cell o=ro.cell o:=by
  intro o ho
  funext i
  simp only[roOf,ho,cond_false]
 have hstay: ∀{os:List (Nat×AO S)} {ms:List HObj},(∀q∈os,hasC sp.cobj q.1=false)->Objs D ν σ (roOf sp ro st robj).cell os ms->Objs D ν σ ro.cell os ms:=by
  intro os
  induction os with
  |nil=>intro ms _ ho;cases ms with|nil=>trivial|cons=>exact ho.elim
  |cons q os ih=>
   intro ms hq ho
   cases ms with
   |nil=>exact ho.elim
   |cons m ms=>
    refine⟨?_,ih (fun q' hq'=>hq q' (by simp[hq'])) ho.2⟩
    obtain⟨o,a⟩:=q
    have hoa:=ho.1
    cases a with
    |cells ty l=>
     obtain⟨b,cs,e1,e2,e3⟩:=hoa
     refine⟨b,cs,e1,e2,?_⟩
     rw[←hcell o (hq (o,.cells ty l) (by simp))]
     exact e3
    |vec e T l=>exact hoa
    |frz T l=>exact hoa
    |arr ty T N l=>exact hoa
    |map K V F=>exact hoa
    |iter K V F done cur=>exact hoa
    |siter s pos=>exact hoa
 have hdis: ∀o∈st.objs.map (·.1),∀o'∈ro.objs.map (·.1),o≠o':=by
  have:=hc.nodup
  rw[List.map_append] at this
  exact (List.nodup_append.1 this).2.2
 obtain⟨m1,m2,rfl,h1,h2⟩:=h.objs.split
 refine⟨h.mem,?_,fun j=> ?_,h.fresh,h.ext,h.glob⟩
 ·show Objs D ν σ ro.cell ((z3d sp st a.objs++robj)++ro.objs) (m1++m2)
  rw[List.append_assoc]
  refine Objs.append ?_ (hstay (fun q hq=> ?_) h2)
  ·have ha:=h1
   generalize a.objs=os at ha
   clear h h1 h2
   induction os generalizing m1 with
   |nil=>cases m1 with|nil=>trivial|cons=>exact ha.elim
   |cons q os ih=>
    cases m1 with
    |nil=>exact ha.elim
    |cons m m1=>
     obtain⟨o,ao⟩:=q
     have hih:=ih m1 ha.2
     have hoa:=ha.1
     cases ao with
     |cells ty l=>
      simp only[z3d]
      refine⟨?_,hih⟩
      obtain⟨b,cs,e1,e2,e3⟩:=hoa
      cases hb:hasC sp.cobj o with
      |false=>
       refine⟨b,cs,e1,e2,?_⟩
       rw[←hcell o hb];exact e3
      |true=>
       refine⟨b,cs,e1,e2,?_⟩
       rw[z0g (g:=(roOf sp ro st robj).cell o)]
       ·exact e3
       ·intro i
        rw[Nat.zero_add]
        obtain⟨q',hq',rfl⟩:=q25.1 hb
        obtain⟨l',hl',_⟩:=hc.cobj q' hq'
        simp only[roOf,hb,cond_true,hl']
     |vec e T l=>exact⟨hoa,hih⟩
     |frz T l=>exact⟨hoa,hih⟩
     |arr ty T N l=>exact⟨hoa,hih⟩
     |map K V F=>exact⟨hoa,hih⟩
     |iter K V F done cur=>exact⟨hoa,hih⟩
     |siter s pos=>exact⟨hoa,hih⟩
  ·cases hb:hasC sp.cobj q.1 with
   |false=>rfl
   |true=>
    obtain⟨q',hq',he⟩:=q25.1 hb
    rcases List.mem_append.1 hq with hq|hq
    ·exact absurd (by rw[he,←hr1];exact List.mem_map.2 ⟨q,hq,rfl⟩) (hc.apart q' hq')
    ·obtain⟨l,hl,_⟩:=hc.cobj q' hq'
     exact absurd he (hdis _ (List.mem_map.2 ⟨_,q77 hl,rfl⟩) _ (List.mem_map.2 ⟨q,hq,rfl⟩))
 ·have:H6 ro (z3e sp st robj a) j=H6 (roOf sp ro st robj) a j:=by
   unfold H6 z3e roOf
   simp only[q3w]
   cases h1:hasN ro.lock j<;>cases h2:hasN sp.lock j<;>simp[H6,h1]
  rw[this];exact h.slots j
theorem G.drew(h:G D cx ν0 ro st f w ν σ ms):G D cx ν0 ro st f w.drew ν σ ms:=⟨h.mem.drew,h.objs,h.slots,h.fresh,h.ext,h.glob⟩
theorem w0m: ∀{l:List (Item S)} {body:HL l->(HL l->Prop)->Prop} {t:HL l},LpG l body t->LpH body t
 |[],_,_,h=>h
 |[_],_,_,h=>fun X hX=>h (fun x=>X (x,())) fun x _ hY hb=>hX (x,()) _ (fun u hu=>hY u.1 hu) hb
 |[_,_],_,_,h=>fun X hX=>h (fun x y=>X (x,y,())) fun x y _ hY hb=>hX (x,y,()) _ (fun u hu=>hY u.1 u.2.1 hu) hb
 |[_,_,_],_,_,h=>fun X hX=>h (fun x y z=>X (x,y,z,())) fun x y z _ hY hb=>hX (x,y,z,()) _ (fun u hu=>hY u.1 u.2.1 u.2.2.1 hu) hb
 |[_,_,_,_],_,_,h=>fun X hX=>h (fun x y z v=>X (x,y,z,v,())) fun x y z v _ hY hb=>hX (x,y,z,v,()) _ (fun u hu=>hY u.1 u.2.1 u.2.2.1 u.2.2.2.1 hu) hb
 |[_,_,_,_,_],_,_,h=>fun X hX=>h (fun x y z v w=>X (x,y,z,v,w,())) fun x y z v w _ hY hb=>hX (x,y,z,v,w,()) _ (fun u hu=>hY u.1 u.2.1 u.2.2.1 u.2.2.2.1 u.2.2.2.2.1 hu) hb
 |_::_::_::_::_::_::_,_,_,h=>h
theorem w0n: ∀{l:List (Item S)} {k:HL l->Prop} {A:(HL l->Prop)->Prop},JnG l k A-> ∃Y:HL l->Prop,(∀t,Y t->k t)/\A Y
 |[],_,_,h=>by obtain⟨Y,h1,h2⟩:=h;exact⟨_,fun _ hy=>h1 hy,h2⟩
 |[_],_,_,h=>by obtain⟨Y,h1,h2⟩:=h;exact⟨_,fun t hy=>h1 t.1 hy,h2⟩
 |[_,_],_,_,h=>by obtain⟨Y,h1,h2⟩:=h;exact⟨_,fun t hy=>h1 t.1 t.2.1 hy,h2⟩
 |[_,_,_],_,_,h=>by obtain⟨Y,h1,h2⟩:=h;exact⟨_,fun t hy=>h1 t.1 t.2.1 t.2.2.1 hy,h2⟩
 |[_,_,_,_],_,_,h=>by obtain⟨Y,h1,h2⟩:=h;exact⟨_,fun t hy=>h1 t.1 t.2.1 t.2.2.1 t.2.2.2.1 hy,h2⟩
 |_::_::_::_::_::_,_,_,h=>h
def z6k(P:Program)(c:Code)(Q:Exit->Act->World->Prop)(a:Act)(w:World):Prop:=
 ∀(b:Frame) (k:List Go.Item) (cs:List Frame),∃e a' w',Q e a' w'/\Arrives P (lone (b.at a (.code c:: .inLoop c::k)) cs w) b k cs e a' w'
theorem z45{P:Program}{c:Code}{Q:Exit->Act->World->Prop}{a:Act}{w:World}(h:z6k P c Q a w):(Code.loop c).wp P Q a w:=by
 intro b k cs
 obtain⟨e,a₁,w₁,hq,harr⟩:=h b k cs
 exact⟨e,a₁,w₁,hq,.of_steps (.one step_loop) harr⟩
theorem z47{P:Program}{c:Code}{Q:Exit->Act->World->Prop}{a:Act}{w:World}(h:c.wp P (Exit.then (z6k P c Q) Q) a w):z6k P c Q a w:=by
 intro b k cs
 obtain⟨e,a₁,w₁,hq,harr⟩:=h b (.inLoop c::k) cs
 cases e with
 |normal=>
  obtain⟨e₂,a₂,w₂,hq₂,harr₂⟩:=hq b k cs
  exact⟨e₂,a₂,w₂,hq₂,.of_steps (Steps.trans harr (.one step_inLoop)) harr₂⟩
 |exit id=>exact⟨_,a₁,w₁,hq,.pass (x:= .inLoop c) rfl (fun _ _=> .inl (by simp)) harr⟩
 |goto l=>exact⟨_,a₁,w₁,hq,.pass (x:= .inLoop c) rfl (fun _ _=> .inl (by simp)) harr⟩
 |ret=>exact⟨_,a₁,w₁,hq,.pass (x:= .inLoop c) rfl (fun _ _=> .inl (by simp)) harr⟩
 |panic ch=>exact⟨_,a₁,w₁,hq,.pass (x:= .inLoop c) rfl (fun _ _=> .inl (by simp)) harr⟩
 |outgrown=>exact⟨_,a₁,w₁,hq,.pass (x:= .inLoop c) rfl (fun _ _=> .inl (by simp)) harr⟩
theorem q59{key:Nat}{o:Option (List (Nat×AO S))}{k:List (Nat×AO S)->Prop}(h:j2z key ro st o k): ∃x,o=some x/\k x:=by
 cases o with
 |some x=>exact⟨x,rfl,h⟩
 |none=>exact h.elim
theorem j6l{E:Ev S}{inlh:InlH S}{C:Ro S->Prop}(hC: ∀sp ro st robj,C (roOf sp ro st robj))(hP:E.D.OkP E.P)(hmix:E.P.follows .mixedOrders=true)(hst:StH E inlh n C): ∀{c:Code} {ro:Ro S} {k:Kc S} {st:AS S} {f:Fr} {w:World} {ν:Nm} {σ:Hv} {ms:List HObj} {Q:Exit->Act->World->Prop},
  C ro->vcC E inlh n c ro k st->G E.D cx ν0 ro st f w ν σ ms->(∀c a w,¬Q (.panic c) a w)->(∀e st' f' w' ν' σ' ms',k e st'->G E.D cx ν0 ro st' f' w' ν' σ' ms'->Q e (mk n f') w')->c.wp E.P Q (mk n f) w:=by
 intro c
 induction c with
 |skip=>intro ro k st f w ν σ ms Q hro h hG _ hk;exact wp_skip (hk _ _ _ _ _ _ _ h hG)
 |region id ops draw=>
  intro ro k st f w ν σ ms Q hro h hG hQ hk
  simp only[vcC] at h
  cases draw with
  |false=>exact wp_region_list (j8j hst hro h hG fun st' f' w' ν' σ' ms' hk' hG'=>hk _ _ _ _ _ _ _ hk' hG')
  |true=>
   obtain⟨hsel,h⟩:=Zd h
   have:=j6g (Q:=Q) hP hst hro hsel hQ h hG.drew fun st' f' w' ν' σ' ms' hk' hG'=>hk _ _ _ _ _ _ _ hk' hG'
   rw[←z4p] at this
   exact wp_region_any hmix (z9q _ _ _ _ _ this)
 |seq x y ihx ihy=>
  intro ro k st f w ν σ ms Q hro h hG hQ hk
  simp only[vcC] at h
  refine wp_seq ?_
  split at h
  ·refine ihx hro h hG (fun c a w=>hQ c a w) fun e st' f' w' ν' σ' ms' hk' hG'=> ?_
   cases e with
   |normal=>exact ihy hro hk' hG' hQ hk
   |_=>exact hk _ _ _ _ _ _ _ hk' hG'
  ·rename_i sp _
   obtain⟨robj,hr,h⟩:=q59 h
   obtain⟨hc,h⟩:=Zd h
   have hc:=z04 hc
   obtain⟨Y,hY,hA⟩:=w0n h
   obtain⟨ms1,hG1⟩:=hG.enter hc hr
   have hE:=hG1.roE hc
   refine ihx (hC _ _ _ _) hA hG1 (fun c a w=>hQ c a w) fun e st' f' w' ν' σ' ms' hk' hG'=> ?_
   cases e with
   |normal=>
    obtain⟨t,ν2,σ2,ms2,ht,hG2⟩:=q58 hP.ok hE hG' hk'
    exact ihy hro (hY t ht) (hG2.leave hc hr) hQ hk
   |_=>exact hk _ _ _ _ _ _ _ hk' (hG'.leave hc hr)
 |cond c x y ihx ihy=>
  intro ro k st f w ν σ ms Q hro h hG hQ hk
  simp only[vcC] at h
  obtain⟨b,hb,h⟩:=j4b (z9m (n:=n) hG.slots hG.glob c) h
  rcases h with ⟨rfl,h⟩|⟨rfl,h⟩
  ·exact wp_cond_true (by rw[Wl];exact hb) (ihx hro h hG hQ hk)
  ·exact wp_cond_false (by rw[Wl];exact hb) (ihy hro h hG hQ hk)
 |block id b ih=>
  intro ro k st f w ν σ ms Q hro h hG hQ hk
  refine wp_block (ih hro h hG (fun c a w=>hQ c a w) fun e st' f' w' ν' σ' ms' hk' hG'=> ?_)
  cases e with
  |exit i=>
   simp only[j4g] at hk'
   simp only[Exit.inBlock]
   cases hb:Nat.beq i id with
   |true=>
    rw[hb] at hk'
    rw[if_pos (Nat.eq_of_beq_eq_true hb)]
    exact hk _ _ _ _ _ _ _ hk' hG'
   |false=>
    rw[hb] at hk'
    rw[if_neg (fun he=>by subst he;simp at hb)]
    exact hk _ _ _ _ _ _ _ hk' hG'
  |_=>exact hk _ _ _ _ _ _ _ hk' hG'
 |loop b ih=>
  intro ro k st f w ν σ ms Q hro h hG hQ hk
  simp only[vcC] at h
  split at h
  ·exact h.elim
  ·rename_i sp _
   obtain⟨robj,hr,h⟩:=q59 h
   obtain⟨hc,h⟩:=Zd h
   have hc:=z04 hc
   obtain⟨ms1,hG1⟩:=hG.enter hc hr
   have hE:=hG1.roE hc
   obtain⟨t0,ν2,σ2,ms2,hL,hG2⟩:=q58 hP.ok hE hG1 h
   have hL:=w0m hL
   refine z45 (hL (fun t=> ∀f w ν σ ms,G E.D cx ν0 (roOf sp ro st robj) (stOf E.D sp st.next t) f w ν σ ms->z6k E.P b Q (mk n f) w) (fun t Y hYX hb f w ν σ ms hG=> ?_) f w ν2 σ2 ms2 hG2)
   refine z47 (ih (hC _ _ _ _) hb hG (fun c a w=>hQ c a w) fun e st' f' w' ν' σ' ms' hk' hG'=> ?_)
   cases e with
   |normal=>
    obtain⟨t',ν3,σ3,ms3,ht,hG3⟩:=q58 hP.ok hE hG' hk'
    exact hYX t' ht f' w' ν3 σ3 ms3 hG3
   |_=>exact hk _ _ _ _ _ _ _ hk' (hG'.leave hc hr)
 |exit i=>intro ro k st f w ν σ ms Q hro h hG _ hk;exact wp_exit (hk _ _ _ _ _ _ _ h hG)
 |scope b ih=>
  intro ro k st f w ν σ ms Q hro h hG hQ hk
  refine wp_scope_straight (ih hro h hG (fun c a w=>hQ c a w) fun e st' f' w' ν' σ' ms' hk' hG'=> ?_)
  cases e with
  |goto l=>exact hk'.elim
  |_=>exact hk _ _ _ _ _ _ _ hk' hG'
 |ret=>intro ro k st f w ν σ ms Q hro h hG _ hk;exact wp_ret (hk _ _ _ _ _ _ _ h hG)
 |label l=>intro ro k st f w ν σ ms Q hro h hG _ hk;exact wp_label (hk _ _ _ _ _ _ _ h hG)
 |_=>intro ro k st f w ν σ ms Q hro h;exact h.elim
end Go.Fx
end
noncomputable section
set_option maxRecDepth 100000
namespace Go.Fx
open Go Go.RowKit Go.Fl Go.Fl.Lk
variable {S:Sig}{P:Program}{D:Shp S}{ν ν' ν0:Nm}{σ τ:Hv}{n:Nat}{f:Fr}
variable {w:World}{cx:Cx}{ro:Ro S}{st:AS S}{ms:List HObj}{ob:Nat->Option (AO S)}{lkc:Nat->Nat->SV S}{oh:Nat->HObj}
mutual
inductive Lay(D:Shp S)(σ:Hv):Tr S->Value->List HObj->Prop
 |f {x:FV S} {v:Value} (h:RepF D σ v x):Lay D σ (.f x) v []
 |vec {e:TypeId} {T:S.C} {l:List (S.car T)} {v:Value} {xs:List Value} (h:Els D σ T xs l) (hl:l.length<=140737488355328) (h1:v.oneCell'=true):Lay D σ (.vec e T l) v [vec v e (D.size T) l.length xs]
 |arr {T:S.C} {N:Nat} {l:List (S.car T)} {cs:List Value} (hN:l.length=N) (h:Els D σ T cs l):Lay D σ (.arr T N l) (.agg cs.toArray) []
 |map {K V:S.C} {F:S.car K->Option (S.car V)} {b:Nat} {m:S.car K->Option Value} (h: ∀k,ORel (ElV D σ V) (m k) (F k)):Lay D σ (.map K V F) (.map (some b)) [q3c (kenc D K) b m]
 |ptr {ty:TypeId} {ts:List (Tr S)} {b:Nat} {cs:List Value} {ms:List HObj} (h:LayL D σ ts cs ms) (h1: ∀v∈cs,v.oneCell'=true):Lay D σ (.ptr ty ts) (.pointer (some ⟨b,0,none⟩)) (blk b ty cs::ms)
 |agg {ts:List (Tr S)} {cs:List Value} {ms:List HObj} (h:LayL D σ ts cs ms) (h1: ∀v∈cs,v.oneCell'=true):Lay D σ (.agg ts) (.agg cs.toArray) ms
 |el {T:S.C} {x:S.car T} {cs:List Value} (h:RowF D σ cs (D.shape T x)):Lay D σ (.el T x) (.agg cs.toArray) []
inductive LayL(D:Shp S)(σ:Hv):List (Tr S)->List Value->List HObj->Prop
 |nil:LayL D σ [] [] []
 |cons {t:Tr S} {ts:List (Tr S)} {v:Value} {vs:List Value} {ms ms':List HObj} (h:Lay D σ t v ms) (h':LayL D σ ts vs ms'):LayL D σ (t::ts) (v::vs) (ms++ms')
end
mutual
inductive LayB(D:Shp S)(σ:Hv):Tr S->Tr S->Value->List HObj->Value->List HObj->Prop
 |same {t:Tr S} {v0 v1:Value} {m0:List HObj} (h:Lay D σ t v1 []):LayB D σ t .same v0 m0 v1 []
 |v {t t':Tr S} {v0 v1:Value} {m0:List HObj} (h:Lay D σ t' v1 []):LayB D σ t t' v0 m0 v1 []
 |vec {t:Tr S} {v0 v1:Value} {m0:List HObj} {e:TypeId} {T:S.C} {l:List (S.car T)} {xs:List Value} (h:Els D σ T xs l) (hl:l.length<=140737488355328) (h1:v1.oneCell'=true):LayB D σ t (.vec e T l) v0 m0 v1 [vec v1 e (D.size T) l.length xs]
 |kvec {t:Tr S} {v0:Value} {m0:List HObj} {e:TypeId} {T:S.C} {l:List (S.car T)} {xs:List Value} (h:Els D σ T xs l) (hl:l.length<=140737488355328) (h1:v0.oneCell'=true):LayB D σ t (.kvec e T l) v0 m0 v0 [vec v0 e (D.size T) l.length xs]
 |map {t:Tr S} {K V:S.C} {F:S.car K->Option (S.car V)} {b:Nat} {m:S.car K->Option Value} {m0:List HObj} (h: ∀k,ORel (ElV D σ V) (m k) (F k)):LayB D σ t (.map K V F) (.map (some b)) m0 (.map (some b)) [q3c (kenc D K) b m]
 |ptr {ty0 ty:TypeId} {ts0 ts:List (Tr S)} {b:Nat} {cs0 cs:List Value} {m0 ms:List HObj} (h:LayBL D σ ts0 ts cs0 m0 cs ms) (h1: ∀v∈cs,v.oneCell'=true):LayB D σ (.ptr ty0 ts0) (.ptr ty ts) (.pointer (some ⟨b,0,none⟩)) (blk b ty0 cs0::m0) (.pointer (some ⟨b,0,none⟩)) (blk b ty cs::ms)
inductive LayBL(D:Shp S)(σ:Hv):List (Tr S)->List (Tr S)->List Value->List HObj->List Value->List HObj->Prop
 |nil:LayBL D σ [] [] [] [] [] []
 |cons {t0 t:Tr S} {ts0 ts:List (Tr S)} {v0 v:Value} {vs0 vs:List Value} {a0 a m0 m:List HObj} (h:LayB D σ t0 t v0 a0 v a) (h':LayBL D σ ts0 ts vs0 m0 vs m):LayBL D σ (t0::ts0) (t::ts) (v0::vs0) (a0++m0) (v::vs) (a++m)
end
inductive LayT(D:Shp S)(σ:Hv):List (Tr S)->List (Tr S)->List Value->List HObj->List HObj->Prop
 |nil:LayT D σ [] [] [] [] []
 |skip {t0:Tr S} {ts0 ts:List (Tr S)} {v0:Value} {vs:List Value} {a0 m0 m:List HObj} (h':LayT D σ ts0 ts vs m0 m):LayT D σ (t0::ts0) (.same::ts) (v0::vs) (a0++m0) m
 |keep {t0 t:Tr S} {ts0 ts:List (Tr S)} {v0:Value} {vs:List Value} {a0 a m0 m:List HObj} (h:LayB D σ t0 t v0 a0 v0 a) (h':LayT D σ ts0 ts vs m0 m):LayT D σ (t0::ts0) (t::ts) (v0::vs) (a0++m0) (a++m)
theorem RepF.flat{x:FV S}{v:Value}(h:RepF D σ v x)(hf:j2u x=true):RepF D τ v x:=by
 cases h with
 |sl=>cases hf
 |bool b=>exact .bool b
 |int k n=>exact .int k n
 |str s=>exact .str s
 |nils=>exact .nils
 |nilp=>exact .nilp
 |nilm=>exact .nilm
 |nilf=>exact .nilf
 |ifcN=>exact .ifcN
 |ifcS t p=>exact .ifcS t p
theorem RowF.flat{cs:List Value}{ss:List (FV S)}(h:RowF D σ cs ss)(hf:ss.all j2u=true):RowF D τ cs ss:=⟨h.1,fun j v s hj hs=>(h.2 j v s hj hs).flat (List.all_eq_true.1 hf s (List.mem_of_getElem? hs))⟩
def q8k(D:Shp S):Prop:= ∀T,D.flat T=true-> ∀x,(D.shape T x).all j2u=true
theorem Els.flat(hF:q8k D){T:S.C}(hT:D.flat T=true){xs:List Value}{l:List (S.car T)}(h:Els D σ T xs l):Els D τ T xs l:=⟨h.1,fun i x hx=>(h.2 i x hx).flat (hF T hT x)⟩
mutual
theorem H8(hF:q8k D): ∀{t:Tr S} {v:Value} {ms:List HObj},j2v D t=true->Lay D σ t v ms->Lay D τ t v ms
 | .f x,_,_,hf,h=>by cases h with|f h=>exact .f (h.flat hf)
 | .same,_,_,hf,_=>by cases hf
 | .vec e T l,_,_,hf,h=>by cases h with|vec h hl h1=>exact .vec (h.flat hF hf) hl h1
 | .kvec e T l,_,_,hf,h=>by cases h
 | .arr T N l,_,_,hf,h=>by cases h with|arr hN h=>exact .arr hN (h.flat hF hf)
 | .map K V F,_,_,hf,h=>by
  cases h with
  |map h=>
   obtain⟨_,hV⟩:=Qk hf
   refine .map fun k=> ?_
   have:=h k
   revert this
   generalize F k=y
   rename_i m _
   generalize m k=u
   intro this
   cases u<;>cases y<;>first|exact this|(obtain⟨cs,h1,h2⟩:=this;exact⟨cs,h1.flat (hF V hV _),h2⟩)
 | .ptr ty ts,_,_,hf,h=>by cases h with|ptr h h1=>exact .ptr (q4t hF hf h) h1
 | .agg ts,_,_,hf,h=>by cases h with|agg h h1=>exact .agg (q4t hF hf h) h1
 | .el T x,_,_,hf,h=>by cases h with|el h=>exact .el (h.flat (hF T hf x))
theorem q4t(hF:q8k D): ∀{ts:List (Tr S)} {vs:List Value} {ms:List HObj},q6r D ts=true->LayL D σ ts vs ms->LayL D τ ts vs ms
 |[],_,_,_,h=>by cases h;exact .nil
 |t::ts,_,_,hf,h=>by
  obtain⟨h1,h2⟩:=Qk hf
  cases h with
  |cons h h'=>exact .cons (H8 hF h1 h) (q4t hF h2 h')
end
mutual
theorem z3o(hF:q8k D): ∀{t t0:Tr S} {v0 v:Value} {m0 ms:List HObj},j2v D t=true->LayB D σ t0 t v0 m0 v ms->LayB D τ t0 t v0 m0 v ms
 | .f x,_,_,_,_,_,hf,h=>by cases h with|v h=>exact .v (H8 hF hf h)
 | .same,_,_,_,_,_,hf,_=>by cases hf
 | .vec e T l,_,_,_,_,_,hf,h=>by
  cases h with
  |v h=>exact .v (H8 hF hf h)
  |vec h hl h1=>exact .vec (h.flat hF hf) hl h1
 | .kvec e T l,_,_,_,_,_,hf,h=>by
  cases h with
  |v h=>exact .v (H8 hF hf h)
  |kvec h hl h1=>exact .kvec (h.flat hF hf) hl h1
 | .arr T N l,_,_,_,_,_,hf,h=>by cases h with|v h=>exact .v (H8 hF hf h)
 | .map K V F,_,_,_,_,_,hf,h=>by
  cases h with
  |v h=>exact .v (H8 hF hf h)
  |map h=>
   obtain⟨_,hV⟩:=Qk hf
   refine .map fun k=> ?_
   have:=h k
   revert this
   generalize F k=y
   rename_i m _
   generalize m k=u
   intro this
   cases u<;>cases y<;>first|exact this|(obtain⟨cs,h1,h2⟩:=this;exact⟨cs,h1.flat (hF V hV _),h2⟩)
 | .ptr ty ts,_,_,_,_,_,hf,h=>by
  cases h with
  |v h=>exact .v (H8 hF hf h)
  |ptr h h1=>exact .ptr (z0h hF hf h) h1
 | .agg ts,_,_,_,_,_,hf,h=>by cases h with|v h=>exact .v (H8 hF hf h)
 | .el T x,_,_,_,_,_,hf,h=>by cases h with|v h=>exact .v (H8 hF hf h)
theorem z0h(hF:q8k D): ∀{ts ts0:List (Tr S)} {vs0 vs:List Value} {m0 ms:List HObj},q6r D ts=true->LayBL D σ ts0 ts vs0 m0 vs ms->LayBL D τ ts0 ts vs0 m0 vs ms
 |[],_,_,_,_,_,_,h=>by cases h;exact .nil
 |t::ts,_,_,_,_,_,hf,h=>by
  obtain⟨h1,h2⟩:=Qk hf
  cases h with
  |cons h h'=>exact .cons (z3o hF h1 h) (z0h hF h2 h')
end
theorem z94(hF:q8k D): ∀{ts0 ts:List (Tr S)} {vs:List Value} {m0 m:List HObj},z0e D ts=true->LayT D σ ts0 ts vs m0 m->LayT D τ ts0 ts vs m0 m:=by
 intro ts0 ts vs m0 m hf h
 induction h with
 |nil=>exact .nil
 |skip _ ih=>exact .skip (ih hf)
 | @keep t0 t ts0 ts v0 vs a0 a m0 m h _ ih=>
  cases t with
  |same=>
   cases h with
   |same _=>exact .skip (ih hf)
   |v h=>cases h
  |_=>obtain⟨h1,h2⟩:=Qk hf;exact .keep (z3o hF h1 h) (ih h2)
def Nilx(a b:List HObj):Prop:= ∀(c:Cx) (w:World) (σ:Hv) (rest:List HObj),St c w σ (a++rest)->St c w σ (b++rest)
theorem Nilx.refl(a:List HObj):Nilx a a:=fun _ _ _ _ h=>h
theorem Nilx.append{a b a' b':List HObj}(h:Nilx a b)(h':Nilx a' b'):Nilx (a++a') (b++b'):=by
 intro c w σ rest hS
 rw[List.append_assoc] at hS
 have h1:=h c w σ _ hS
 have h2:=h1.perm (ms':=a'++(b++rest)) (by rw[←List.append_assoc,←List.append_assoc];exact List.Perm.append_right rest List.perm_append_comm)
 have h3:=h' c w σ _ h2
 exact h3.perm (by rw[←List.append_assoc];exact List.Perm.append_right rest List.perm_append_comm)
theorem Nilx.nil(e:TypeId)(size:Nat):Nilx [] [vec (.slice none 0 0) e size 0 []]:=fun _ _ _ _ h=>h.addNil e size
theorem LayL.frozen: ∀{xs:List (FV S)} {cs:List Value},RowF D σ cs xs->LayL D σ (xs.map Tr.f) cs []
 |[],cs,h=>by
  have:cs=[]:=List.eq_nil_of_length_eq_zero h.1
  subst this;exact .nil
 |x::xs,cs,h=>by
  cases cs with
  |nil=>have:=h.1;cases this
  |cons c cs=>
   have h1:=h.2 0 c x rfl rfl
   exact LayL.cons (ms:=[]) (.f h1) (LayL.frozen ⟨by have:=h.1;simpa using this,fun j v s hj hk=>h.2 (j+1) v s (by simpa using hj) (by simpa using hk)⟩)
theorem j8m{s:SV S}{v:Value}{x:FV S}(hs:SRep D ν σ v s)(h:toC s=some x):RepF D σ v x:=by
 cases hs with
 |f hf=>cases h;exact hf
 |lit b=>cases h;exact .bool b
 |pb p d=>cases h;exact .bool _
 |pbn p d=>cases h;exact .bool _
 |_=>cases h
theorem j24{s:SV S}{v:Value}{x:FV S}(h:toC s=some x)(hr:RepF D σ v x):SRep D ν σ v s:=by
 cases s with
 |f y=>cases h;exact .f hr
 |lit b=>cases h;cases hr;exact .lit b
 |pb p d neg=>
  cases neg with
  |false=>cases h;cases hr;exact .pb p d
  |true=>cases h;cases hr;exact .pbn p d
 |_=>cases h
theorem z6l{s:SV S}{v:Value}{t:Tr S}{tk fz:List Nat}(hD:D.Ok)(hor: ∀o a,ob o=some a->ORep D ν σ lkc o a (oh o))(hs:SRep D ν σ v s)(h:j2s ob s=some (t,tk,fz))
  (hf: ∀o e T l v,o∈fz->ob o=some (.vec e T l)->ν o=some v->RepF D σ v (.sl T l)):tk=[]/\Lay D σ t v []:=by
 have one: ∀{s:SV S},SRep D ν σ v s->(match toF ob s with|some (x,b)=>some (Tr.f x,([]:List Nat),b)|none=>none)=some (t,tk,fz)->tk=[]/\Lay D σ t v []:=by
  intro s hs h
  split at h
  ·rename_i x b hx
   cases h
   rcases z59 hD hor hs hx with ⟨_,h1⟩|⟨o,e,T,l,h0,rfl,hob,hν⟩
   ·exact⟨rfl,.f h1⟩
   ·subst h0
    exact⟨rfl,.f (hf o e T l v (by simp) hob hν)⟩
  ·cases h
 cases hs with
 |agg cs ss hl hr h1=>
  simp only[j2s] at h
  split at h
  case h_2=>cases h
  rename_i xs b hxs
  cases h
  have hrow:=q5y hD hor (Sub.refl σ) ⟨hl,hr,h1⟩ hxs hf
  exact⟨rfl,.agg (LayL.frozen hrow) h1⟩
 |arr cs T N l hN hl hr=>cases h;exact⟨rfl,.arr hN ⟨hl,hr⟩⟩
 |f hf'=>exact one (.f hf') h
 |lit b=>exact one (.lit b) h
 |pb p d=>exact one (.pb p d) h
 |pbn p d=>exact one (.pbn p d) h
 |tup cs ss hl hr=>exact one (.tup cs ss hl hr) h
 |ref o off b hν=>exact one (.ref o off b hν) h
 |eref T o i off b m cap hν hi=>exact one (.eref T o i off b m cap hν hi) h
 |aref T N o i off b hν hi=>exact one (.aref T N o i off b hν hi) h
 |fptr ad cs l off hr hR=>exact one (.fptr ad cs l off hr hR) h
 |fap ad cs T N l hN hr hl hR=>exact one (.fap ad cs T N l hN hr hl hR) h
 |hnd o v hν h1=>exact one (.hnd o v hν h1) h
 |cut o sz lo hi a len cap hν h0 hc=>exact one (.cut o sz lo hi a len cap hν h0 hc) h
 |fn g a b first cap h1 h2 h3 h4=>exact one (.fn g a b first cap h1 h2 h3 h4) h
 |und=>exact one .und h
 |dead=>exact one (.dead _) h
theorem j6m{T:S.C}{v:Value}(h:RepF D σ v .nils):RepF D σ v (.sl T []):=by
 cases h
 exact .sl T [] none 0 (fun _ _=>undef) (Nat.le_refl _) (by simp) (fun i x hx=>by simp at hx) (fun i x j s hx=>by simp at hx)
theorem z6m{s:SV S}{v:Value}{T:S.C}{t:Tr S}{tk fz:List Nat}(hD:D.Ok)(hor: ∀o a,ob o=some a->ORep D ν σ lkc o a (oh o))(hs:SRep D ν σ v s)(h:j2t ob T s=some (t,tk,fz))
  (hf: ∀o e T l v,o∈fz->ob o=some (.vec e T l)->ν o=some v->RepF D σ v (.sl T l)):tk=[]/\Lay D σ t v []:=by
 unfold j2t at h
 split at h
 ·cases h
  cases hs with
  |f hs=>exact⟨rfl,.f (j6m hs)⟩
 ·split at h
  case h_2=>cases h
  rename_i T' l b hx
  split at h
  case h_2=>cases h
  rename_i e _
  cases h
  subst e
  rcases z59 hD hor hs hx with ⟨_,h1⟩|⟨o,e,T,l,h0,h1,hob,hν⟩
  ·exact⟨rfl,.f h1⟩
  ·cases h1
   subst h0
   exact⟨rfl,.f (hf o e _ _ v (by simp) hob hν)⟩
theorem j25{s:SV S}{v:Value}{T:S.C}{t:Tr S}{tk fz:List Nat}(hD:D.Ok)(hor: ∀o a,ob o=some a->ORep D ν σ lkc o a (oh o))(hs:SRep D ν σ v s)(h:j55 D ob T s=some (t,tk,fz))
  (hf: ∀o e T l v,o∈fz->ob o=some (.vec e T l)->ν o=some v->RepF D σ v (.sl T l)):tk=[]/\Lay D σ t v []:=by
 unfold j55 at h
 split at h
 case h_2=>cases h
 split at h
 case h_2=>cases h
 rename_i xs b hxs
 split at h
 case h_2=>cases h
 rename_i x hx
 cases h
 cases hs with
 |agg cs _ hl hr h1=>
  have hrow:=q5y hD hor (Sub.refl σ) ⟨hl,hr,h1⟩ hxs hf
  exact⟨rfl,.el (hD.bld T xs x σ cs hx hrow)⟩
theorem Hs{tko:List (Nat×AO S)}{ins:List HObj}(h:tko.map (·.1)=[])(ho:Objs D ν σ lkc tko ins):ins=[]:=by
 cases tko with
 |cons=>cases h
 |nil=>cases ins with
  |nil=>rfl
  |cons=>exact ho.elim
mutual
theorem j26(hD:D.Ok)(hor: ∀o a,ob o=some a->ORep D ν σ lkc o a (oh o)): ∀{pk:PK S} {s:SV S} {v:Value} {t:Tr S} {tk fz:List Nat} {tko:List (Nat×AO S)} {ins:List HObj},SRep D ν σ v s->gath D ob lkc pk s=some (t,tk,fz)->
  tko.map (·.1)=tk->(∀q∈tko,ob q.1=some q.2)->Objs D ν σ lkc tko ins->(∀o e T l v,o∈fz->ob o=some (.vec e T l)->ν o=some v->RepF D σ v (.sl T l))-> ∃ins',Lay D σ t v ins'/\Nilx ins ins'
 | .v,s,v,t,tk,fz,tko,ins,hs,h,ht,_,ho,hf=>by
  simp only[gath] at h
  obtain⟨rfl,hl⟩:=z6l hD hor hs h hf
  have:=Hs ht ho
  subst this
  exact⟨[],hl,Nilx.refl _⟩
 | .sl T,s,v,t,tk,fz,tko,ins,hs,h,ht,_,ho,hf=>by
  simp only[gath] at h
  obtain⟨rfl,hl⟩:=z6m hD hor hs h hf
  have:=Hs ht ho
  subst this
  exact⟨[],hl,Nilx.refl _⟩
 | .el T,s,v,t,tk,fz,tko,ins,hs,h,ht,_,ho,hf=>by
  simp only[gath] at h
  obtain⟨rfl,hl⟩:=j25 hD hor hs h hf
  have:=Hs ht ho
  subst this
  exact⟨[],hl,Nilx.refl _⟩
 | .c,s,v,t,tk,fz,tko,ins,hs,h,ht,_,ho,_=>by
  simp only[gath] at h
  cases hc:toC s with
  |none=>rw[hc] at h;cases h
  |some x=>
   rw[hc] at h;cases h
   have:=Hs ht ho
   subst this
   exact⟨[],.f (j8m hs hc),Nilx.refl _⟩
 | .own e T,s,v,t,tk,fz,tko,ins,hs,h,ht,hq,ho,_=>by
  simp only[gath] at h
  split at h
  case h_2=>cases h
  rename_i a l hown
  cases h
  rcases q50 hown with ⟨rfl,rfl,rfl⟩|⟨o,rfl,rfl,hob⟩
  ·have:=Hs ht ho
   subst this
   have hv:=q00 hs
   subst hv
   exact⟨_,.vec (xs:=[]) ⟨by simp,fun i x hx=>by simp at hx⟩ (by simp) rfl,Nilx.nil e (D.size T)⟩
  ·match tko,ht,hq,ho with
   |[q],ht,hq,ho=>
    match ins,ho with
    |[m],ho=>
     obtain⟨o',a⟩:=q
     simp at ht
     subst ht
     have ha:=hq (o',a) (by simp)
     simp only at ha
     rw[hob] at ha;cases ha
     obtain⟨u,xs,hν,hm,hE,hl⟩:=ho.1
     subst hm
     have hv:=Ju hs hν
     subst hv
     have h1:v.oneCell'=true:=by cases hs with|hnd _ _ _ h=>exact h
     exact⟨_,.vec hE hl h1,Nilx.refl _⟩
 | .kow e T,s,v,t,tk,fz,tko,ins,hs,h,ht,hq,ho,_=>by
  simp only[gath] at h
  split at h
  case h_2=>cases h
  rename_i o1 l hown
  cases h
  rcases q50 hown with ⟨rfl,h0,rfl⟩|⟨o,rfl,h0,hob⟩
  ·cases h0
  ·cases h0
   match tko,ht,hq,ho with
   |[q],ht,hq,ho=>
    match ins,ho with
    |[m],ho=>
     obtain⟨o',a⟩:=q
     simp at ht
     subst ht
     have ha:=hq (o',a) (by simp)
     simp only at ha
     rw[hob] at ha;cases ha
     obtain⟨u,xs,hν,hm,hE,hl⟩:=ho.1
     subst hm
     have hv:=Ju hs hν
     subst hv
     have h1:v.oneCell'=true:=by cases hs with|hnd _ _ _ h=>exact h
     exact⟨_,.vec hE hl h1,Nilx.refl _⟩
 | .map K V,s,v,t,tk,fz,tko,ins,hs,h,ht,hq,ho,_=>by
  simp only[gath] at h
  split at h
  case h_2=>cases h
  rename_i o
  split at h
  case h_2=>cases h
  rename_i K' V' F hob
  split at h
  case h_2=>cases h
  rename_i e1 e2 _ _
  cases h
  subst e1 e2
  match tko,ht,hq,ho with
  |[q],ht,hq,ho=>
   match ins,ho with
   |[m],ho=>
    obtain⟨o',a⟩:=q
    simp at ht
    subst ht
    have ha:=hq (o',a) (by simp)
    simp only at ha
    rw[hob] at ha;cases ha
    obtain⟨b,mm,hν,hm,hF⟩:=ho.1
    subst hm
    have hv:=Ju hs hν
    subst hv
    exact⟨_,.map hF,Nilx.refl _⟩
 | .ptr ty pk,s,v,t,tk,fz,tko,ins,hs,h,ht,hq,ho,hf=>by
  simp only[gath] at h
  split at h
  case h_2=>cases h
  rename_i o
  split at h
  case h_2=>cases h
  rename_i ty' l hob
  cases hb:Nat.beq ty ty' with
  |false=>rw[hb] at h;cases h
  |true=>
   rw[hb] at h
   have hb:=Nat.eq_of_beq_eq_true hb
   subst hb
   simp only[cond_true] at h
   split at h
   case h_2=>cases h
   rename_i ts a b hg
   cases h
   match tko,ht,hq,ho with
   |q::tko,ht,hq,ho=>
    match ins,ho with
    |m::ins,ho=>
     obtain⟨o',ao⟩:=q
     injection ht with h1 h2
     simp only at h1
     subst h1
     have ha:=hq (o',ao) (by simp)
     simp only at ha
     rw[hob] at ha;cases ha
     obtain⟨b',cs,hν,hm,hrow⟩:=ho.1
     subst hm
     cases hs with
     |ref _ _ b2 hν2=>
      rw[hν] at hν2;cases hν2
      obtain⟨ins',hl,hx⟩:=q19 hD hor (pk:=pk) hrow.1 hrow.2.1 hg h2 (fun q hq'=>hq q (by simp[hq'])) ho.2 hf
      exact⟨_,.ptr hl hrow.2.2,Nilx.append (Nilx.refl [_]) hx⟩
 | .agg pk,s,v,t,tk,fz,tko,ins,hs,h,ht,hq,ho,hf=>by
  simp only[gath] at h
  split at h
  case h_2=>cases h
  rename_i l
  split at h
  case h_2=>cases h
  rename_i ts a b hg
  cases h
  cases hs with
  |agg cs _ hl hr h1=>
   obtain⟨ins',hl,hx⟩:=q19 hD hor (pk:=pk) hl hr hg ht hq ho hf
   exact⟨_,.agg hl h1,hx⟩
theorem q19(hD:D.Ok)(hor: ∀o a,ob o=some a->ORep D ν σ lkc o a (oh o)): ∀{pk:List (PK S)} {ss:List (SV S)} {vs:List Value} {ts:List (Tr S)} {tk fz:List Nat} {tko:List (Nat×AO S)} {ins:List HObj},vs.length=ss.length->
  (∀(j:Nat) v s,vs[j]? =some v->ss[j]? =some s->SRep D ν σ v s)->q4p D ob lkc pk ss=some (ts,tk,fz)->
  tko.map (·.1)=tk->(∀q∈tko,ob q.1=some q.2)->Objs D ν σ lkc tko ins->(∀o e T l v,o∈fz->ob o=some (.vec e T l)->ν o=some v->RepF D σ v (.sl T l))-> ∃ins',LayL D σ ts vs ins'/\Nilx ins ins'
 |[],ss,vs,ts,tk,fz,tko,ins,hl,_,h,ht,_,ho,_=>by
  cases ss with
  |cons=>cases h
  |nil=>
   cases h
   cases vs with
   |cons=>cases hl
   |nil=>
    have:=Hs ht ho
    subst this
    exact⟨[],.nil,Nilx.refl _⟩
 |p::pk,ss,vs,ts,tk,fz,tko,ins,hl,hr,h,ht,hq,ho,hf=>by
  cases ss with
  |nil=>cases h
  |cons s ss=>
   cases vs with
   |nil=>cases hl
   |cons v vs=>
    simp only[q4p] at h
    split at h
    case h_2=>cases h
    rename_i t a b ts' a' b' h1 h2
    cases h
    obtain⟨tko1,tko2,rfl,ht1,ht2⟩:=List.map_eq_append_iff.1 ht
    obtain⟨m1,m2,rfl,ho1,ho2⟩:=ho.split
    obtain⟨i1,hl1,hx1⟩:=j26 hD hor (pk:=p) (hr 0 v s rfl rfl) h1 ht1 (fun q hq'=>hq q (by simp[hq'])) ho1 (fun o e T l v hm=>hf o e T l v (by simp[hm]))
    obtain⟨i2,hl2,hx2⟩:=q19 hD hor (pk:=pk) (by simpa using hl) (fun j v s hj hk=>hr (j+1) v s (by simpa using hj) (by simpa using hk)) h2 ht2 (fun q hq'=>hq q (by simp[hq'])) ho2 (fun o e T l v hm=>hf o e T l v (by simp[hm]))
    exact⟨_,.cons hl1 hl2,Nilx.append hx1 hx2⟩
end
end Go.Fx
end
noncomputable section
set_option maxRecDepth 100000
namespace Go.Fx
open Go Go.RowKit Go.Fl Go.Fl.Lk
variable {S:Sig}{P:Program}{D:Shp S}{ν ν' ν0 ν1:Nm}{σ τ σ0 σ1:Hv}{n:Nat}{f:Fr}
variable {w w0:World}{cx:Cx}{ro:Ro S}{st:AS S}{ms:List HObj}{ob os:Nat->Option (AO S)}{lkc:Nat->Nat->SV S}{oh:Nat->HObj}
theorem z95{g:Nat->SV S}: ∀{l:List (SV S)} {k i:Nat},(resL g k l)[i]? =(l[i]?).map (res1 (g (k+i)))
 |[],_,_=>by simp[resL]
 |s::l,k,0=>by rw[U8];simp
 |s::l,k,i+1=>by
  rw[U8,List.getElem?_cons_succ,z95,List.getElem?_cons_succ]
  congr 3;omega
theorem j6n{x s:SV S}(h:s≠ .lk):res1 x s=s:=by cases s<;>first|rfl|exact absurd rfl h
theorem z96{b b' T T':Nat}{cs cs':List Value}(h:(blk b T cs).ok w)(h':(blk b' T' cs').ok w)(hb:b=b'):cs=cs':=by
 subst hb
 have h1:=z22 h
 rw[z22 h'] at h1
 injection h1 with h1
 injection h1 with h1
 exact (congrArg Array.toList h1).symm
theorem z05{v:Value}{o:Nat}(h:SRep D ν σ v (.ref o 0)): ∃b,v= .pointer (some ⟨b,0,none⟩)/\ν o=some v:=by
 cases h with
 |ref _ _ b h=>exact⟨b,rfl,h⟩
mutual
theorem j6o: ∀{t:Tr S} {v:Value} {ms:List HObj} {nx nx':Nat} {s:SV S} {os:List (Nat×AO S)} {ν:Nm},Lay D σ t v ms->inst D t nx=some (s,os,nx')->(∀o,nx<=o->ν o=none)->
  ∃ν',Ext ν ν'/\(∀o,nx'<=o->ν' o=none)/\SRep D ν' σ v s/\Objs D ν' σ lkc os ms/\nx<=nx'/\(∀q∈os,nx<=q.1/\q.1<nx')/\(os.map (·.1)).Nodup
 | .f x,v,ms,nx,nx',s,os,ν,hl,hi,hf=>by
  cases hl with
  |f h=>cases hi;exact⟨ν,Ext.refl ν,hf,.f h,trivial,Nat.le_refl _,by simp,by simp⟩
 | .same,_,_,_,_,_,_,_,_,hi,_=>by cases hi
 | .vec e T l,v,ms,nx,nx',s,os,ν,hl,hi,hf=>by
  cases hl with
  |vec hE hlen h1=>
   cases hi
   refine⟨ν.add nx v,Nm.add_ext (hf nx (Nat.le_refl _)),fun o ho=> ?_,.hnd nx v Nm.add_self h1,⟨⟨v,_,Nm.add_self,rfl,hE,hlen⟩,trivial⟩,Nat.le_succ _,by simp,by simp⟩
   unfold Nm.add;rw[if_neg (by omega)];exact hf o (by omega)
 | .kvec _ _ _,_,_,_,_,_,_,_,_,hi,_=>by cases hi
 | .arr T N l,v,ms,nx,nx',s,os,ν,hl,hi,hf=>by
  cases hl with
  |arr hN hE=>cases hi;exact⟨ν,Ext.refl ν,hf,.arr _ T N l hN hE.1 hE.2,trivial,Nat.le_refl _,by simp,by simp⟩
 | .map K V F,v,ms,nx,nx',s,os,ν,hl,hi,hf=>by
  cases hl with
  |map hF=>
   cases hi
   refine⟨ν.add nx _,Nm.add_ext (hf nx (Nat.le_refl _)),fun o ho=> ?_,.hnd nx _ Nm.add_self rfl,⟨⟨_,_,Nm.add_self,rfl,hF⟩,trivial⟩,Nat.le_succ _,by simp,by simp⟩
   unfold Nm.add;rw[if_neg (by omega)];exact hf o (by omega)
 | .ptr ty ts,v,ms,nx,nx',s,os,ν,hl,hi,hf=>by
  cases hl with
  | @ptr _ _ b cs ms hl h1=>
   simp only[inst] at hi
   split at hi
   case h_2=>cases hi
   rename_i ss os' nx2 hi'
   cases hi
   obtain⟨ν',hx,hfr,hlen,hs,ho,hle,hnm,hnd⟩:=q26 (ν:=ν.add nx (.pointer (some ⟨b,0,none⟩))) hl hi' (fun o ho=>by unfold Nm.add;rw[if_neg (by omega)];exact hf o (by omega))
   have hself:=hx _ _ (Nm.add_self (ν:=ν) (o:=nx) (v:= .pointer (some ⟨b,0,none⟩)))
   have hrow:RowS D ν' σ cs ss:=⟨hlen,hs,h1⟩
   refine⟨ν',(Nm.add_ext (hf nx (Nat.le_refl _))).trans hx,hfr,.ref nx 0 b hself,⟨⟨b,cs,hself,rfl,by rw[q78 hrow];exact hrow⟩,ho⟩,by omega,fun q hq=> ?_,?_⟩
   ·rcases List.mem_cons.1 hq with rfl|hq
    ·exact⟨Nat.le_refl _,by simp only;omega⟩
    ·have:=hnm q hq;omega
   ·rw[List.map_cons,List.nodup_cons]
    refine⟨fun hm=> ?_,hnd⟩
    obtain⟨q,hq,he⟩:=List.mem_map.1 hm
    have:=hnm q hq
    simp only at he
    omega
 | .el T x,v,ms,nx,nx',s,os,ν,hl,hi,hf=>by
  cases hl with
  |el hr=>
   cases hi
   have hS:=hr.toS (ν:=ν)
   exact⟨ν,Ext.refl ν,hf,.agg _ _ hS.1 hS.2.1 hS.2.2,trivial,Nat.le_refl _,by simp,by simp⟩
 | .agg ts,v,ms,nx,nx',s,os,ν,hl,hi,hf=>by
  cases hl with
  |agg hl h1=>
   simp only[inst] at hi
   split at hi
   case h_2=>cases hi
   rename_i ss os' nx2 hi'
   cases hi
   obtain⟨ν',hx,hfr,hlen,hs,ho,hr⟩:=q26 hl hi' hf
   exact⟨ν',hx,hfr,.agg _ _ hlen hs h1,ho,hr⟩
theorem q26: ∀{ts:List (Tr S)} {vs:List Value} {ms:List HObj} {nx nx':Nat} {ss:List (SV S)} {os:List (Nat×AO S)} {ν:Nm},LayL D σ ts vs ms->q63 D ts nx=some (ss,os,nx')->(∀o,nx<=o->ν o=none)->
  ∃ν',Ext ν ν'/\(∀o,nx'<=o->ν' o=none)/\vs.length=ss.length/\(∀(j:Nat) v s,vs[j]? =some v->ss[j]? =some s->SRep D ν' σ v s)/\Objs D ν' σ lkc os ms/\nx<=nx'/\(∀q∈os,nx<=q.1/\q.1<nx')/\(os.map (·.1)).Nodup
 |[],vs,ms,nx,nx',ss,os,ν,hl,hi,hf=>by
  cases hl;cases hi
  exact⟨ν,Ext.refl ν,hf,rfl,fun j v s hj=>by simp at hj,trivial,Nat.le_refl _,by simp,by simp⟩
 |t::ts,vs,ms,nx,nx',ss,os,ν,hl,hi,hf=>by
  cases hl with
  |cons h h'=>
   simp only[q63] at hi
   split at hi
   case h_2=>cases hi
   rename_i s a nx1 hi1
   split at hi
   case h_2=>cases hi
   rename_i r b nx2 hi2
   cases hi
   obtain⟨ν1,hx1,hf1,hs1,ho1,hle1,hnm1,hnd1⟩:=j6o h hi1 hf
   obtain⟨ν2,hx2,hf2,hlen,hs2,ho2,hle2,hnm2,hnd2⟩:=q26 h' hi2 hf1
   refine⟨ν2,hx1.trans hx2,hf2,by simp[hlen],fun j v s hj hk=> ?_,(ho1.mono hx2 (Sub.refl _)).append ho2,by omega,fun q hq=> ?_,?_⟩
   ·cases j with
    |zero=>simp at hj hk;subst hj hk;exact hs1.mono hx2 (Sub.refl _)
    |succ j=>exact hs2 j v s (by simpa using hj) (by simpa using hk)
   ·rcases List.mem_append.1 hq with hq|hq
    ·have:=hnm1 q hq;omega
    ·have:=hnm2 q hq;omega
   ·rw[List.map_append,List.nodup_append]
    refine⟨hnd1,hnd2,fun x hx y hy he=> ?_⟩
    obtain⟨q,hq,rfl⟩:=List.mem_map.1 hx
    obtain⟨q',hq',rfl⟩:=List.mem_map.1 hy
    have h1:=hnm1 q hq
    have h2:=hnm2 q' hq'
    omega
end
mutual
theorem z97(hor: ∀o a,ob o=some a->ORep D ν σ lkc o a (oh o)/\(oh o).ok w): ∀{pk:PK S} {o s:SV S} {t0 t:Tr S} {v0 v1:Value} {m0 m:List HObj} {tk fz:List Nat} {nx nx':Nat} {s':SV S} {os:List (Nat×AO S)} {ν1:Nm},
  SRep D ν σ v0 s->gath D ob lkc pk s=some (t0,tk,fz)->LayB D σ1 t0 t v0 m0 v1 m->(∀q∈m0,q.ok w)->upd1 ob lkc pk o s t nx=some (s',os,nx')->Ext ν ν1->(∀k,nx<=k->ν1 k=none)->
  ∃ν2,Ext ν1 ν2/\(∀k,nx'<=k->ν2 k=none)/\SRep D ν2 σ1 v1 (res1 s s')/\(s'= .lk->o= .lk)/\Objs D ν2 σ1 lkc os m
 | .c,o,s,t0,t,v0,v1,m0,m,tk,fz,nx,nx',s',os,ν1,hs,hg,hB,hok,hu,hx,hf=>by
  simp only[gath] at hg
  cases hc:toC s with
  |none=>rw[hc] at hg;cases hg
  |some x=>
   rw[hc] at hg;cases hg
   simp only[upd1] at hu
   split at hu
   case h_2=>cases hu
   cases hB with
   |v h=>cases h
   |same h=>
    cases h with
    |f h=>
     split at hu
     ·cases hu
      exact⟨ν1,Ext.refl _,hf,j24 hc h,fun _=>rfl,trivial⟩
     ·rw[hc] at hu;cases hu
      exact⟨ν1,Ext.refl _,hf,.f h,(fun h=>by cases h),trivial⟩
 | .v,o,s,t0,t,v0,v1,m0,m,tk,fz,nx,nx',s',os,ν1,hs,hg,hB,hok,hu,hx,hf=>by
  simp only[upd1] at hu
  split at hu
  ·cases hu
  ·cases hu
   cases hB with
   |v h=>cases h with|f h=>exact⟨ν1,Ext.refl _,hf,.f h,(fun h=>by cases h),trivial⟩
  ·cases hu
 | .sl T,o,s,t0,t,v0,v1,m0,m,tk,fz,nx,nx',s',os,ν1,hs,hg,hB,hok,hu,hx,hf=>by
  simp only[upd1] at hu
  split at hu
  ·cases hu
  ·cases hu
   cases hB with
   |v h=>cases h with|f h=>exact⟨ν1,Ext.refl _,hf,.f h,(fun h=>by cases h),trivial⟩
  ·cases hu
 | .el T,o,s,t0,t,v0,v1,m0,m,tk,fz,nx,nx',s',os,ν1,hs,hg,hB,hok,hu,hx,hf=>by
  simp only[upd1] at hu;cases hu
 | .own e T,o,s,t0,t,v0,v1,m0,m,tk,fz,nx,nx',s',os,ν1,hs,hg,hB,hok,hu,hx,hf=>by
  simp only[upd1] at hu
  split at hu
  ·cases hu
  ·cases hu
   cases hB with
   |v h=>cases h
   |vec hE hlen h1=>
    refine⟨ν1.add nx v1,Nm.add_ext (hf nx (Nat.le_refl _)),fun o ho=> ?_,.hnd nx v1 Nm.add_self h1,(fun h=>by cases h),⟨⟨v1,_,Nm.add_self,rfl,hE,hlen⟩,trivial⟩⟩
    unfold Nm.add;rw[if_neg (by omega)];exact hf o (by omega)
  ·cases hu
 | .kow e T,o,s,t0,t,v0,v1,m0,m,tk,fz,nx,nx',s',os,ν1,hs,hg,hB,hok,hu,hx,hf=>by
  simp only[upd1] at hu
  split at hu
  case h_2=>cases hu
  rename_i k e' T' l
  cases hB with
  |v h=>cases h
  |kvec hE hlen h0=>
   cases hs with
   |hnd _ _ hν h1=>
    have h2:SRep D ν1 σ1 _ (SV.hnd k):= .hnd k _ (hx _ _ hν) h1
    split at hu
    ·cases hu
     exact⟨ν1,Ext.refl _,hf,h2,fun _=>rfl,⟨⟨_,_,hx _ _ hν,rfl,hE,hlen⟩,trivial⟩⟩
    ·cases hu
     exact⟨ν1,Ext.refl _,hf,h2,(fun h=>by cases h),⟨⟨_,_,hx _ _ hν,rfl,hE,hlen⟩,trivial⟩⟩
 | .map K V,o,s,t0,t,v0,v1,m0,m,tk,fz,nx,nx',s',os,ν1,hs,hg,hB,hok,hu,hx,hf=>by
  simp only[upd1] at hu
  split at hu
  case h_2=>cases hu
  rename_i k K' V' F
  cases hB with
  |v h=>cases h
  |map hF=>
   cases hs with
   |hnd _ _ hν h1=>
    have h2:SRep D ν1 σ1 _ (SV.hnd k):= .hnd k _ (hx _ _ hν) h1
    split at hu
    ·cases hu
     exact⟨ν1,Ext.refl _,hf,h2,fun _=>rfl,⟨⟨_,_,hx _ _ hν,rfl,hF⟩,trivial⟩⟩
    ·cases hu
     exact⟨ν1,Ext.refl _,hf,h2,(fun h=>by cases h),⟨⟨_,_,hx _ _ hν,rfl,hF⟩,trivial⟩⟩
 | .ptr ty0 pk,o,s,t0,t,v0,v1,m0,m,tk,fz,nx,nx',s',os,ν1,hs,hg,hB,hok,hu,hx,hf=>by
  simp only[upd1] at hu
  split at hu
  case h_2=>cases hu
  rename_i k ty ts
  split at hu
  case h_2=>cases hu
  rename_i ty2 l hob
  split at hu
  case h_2=>cases hu
  rename_i cs os' nx2 hu'
  simp only[gath,hob] at hg
  obtain⟨_,hg⟩:Nat.beq ty0 ty2=true/\(match q4p D ob lkc pk (resL (lkc k) 0 l) with
    |some (ts,a,b)=>some (Tr.ptr ty0 ts,k::a,b)
    |none=>none)=some (t0,tk,fz):=by
   cases hb:Nat.beq ty0 ty2 with
   |true=>rw[hb] at hg;exact⟨rfl,hg⟩
   |false=>rw[hb] at hg;cases hg
  split at hg
  case h_2=>cases hg
  rename_i ts0 a b hg'
  cases hg
  cases hB with
  |v h=>cases h
  | @ptr _ _ _ _ b cs0 cs1 m0 ms hL h1=>
   obtain⟨_,hbe,hν⟩:=z05 hs
   ·cases hbe
    obtain⟨⟨b2,cs2,hν2,hoh,hrow⟩,hohok⟩:=hor k _ hob
    rw[hν] at hν2;cases hν2
    rw[hoh] at hohok
    have he:=z96 hohok (hok (blk b ty0 cs0) (by simp)) rfl
    subst he
    obtain⟨ν2,hx2,hf2,hl1,hl2,hs2,ho2⟩:=z98 hor (pk:=pk) hrow.1 hrow.2.1 hg' hL (fun q hq=>hok q (by simp[hq])) hu' hx hf
    have hk2:=hx2 _ _ (hx _ _ hν)
    have hrow2:RowS D ν2 σ1 cs1 (resL (lkc k) 0 cs):=by
     refine⟨by rw[q7k,hl2,hl1],fun j v s hj hk=> ?_,h1⟩
     rw[z95] at hk
     obtain⟨sj,hsj⟩:=getq (l:=cs) (k:=j) (by rw[hl1,←hl2];exact Qe hj)
     obtain⟨ssj,hssj⟩:=getq (l:=resL (lkc k) 0 l) (k:=j) (by rw[←hl2];exact Qe hj)
     rw[hsj] at hk;cases hk
     obtain⟨h3,h4⟩:=hs2 j v ssj sj hj hssj hsj
     by_cases hlk:sj= .lk
     ·have h5:=q57 (g:=lkc k) (k:=0) (h4 hlk)
      rw[hssj] at h5;cases h5
      exact h3
     ·rw[j6n hlk] at h3⊢;exact h3
    split at hu
    ·cases hu
     exact⟨ν2,hx2,hf2,.ref k 0 b hk2,fun _=>rfl,⟨⟨b,cs1,hk2,rfl,hrow2⟩,ho2⟩⟩
    ·cases hu
     exact⟨ν2,hx2,hf2,.ref k 0 b hk2,(fun h=>by cases h),⟨⟨b,cs1,hk2,rfl,hrow2⟩,ho2⟩⟩
 | .agg _,o,s,t0,t,v0,v1,m0,m,tk,fz,nx,nx',s',os,ν1,hs,hg,hB,hok,hu,hx,hf=>by
  simp only[upd1] at hu;cases hu
theorem z98(hor: ∀o a,ob o=some a->ORep D ν σ lkc o a (oh o)/\(oh o).ok w): ∀{pk:List (PK S)} {l ss:List (SV S)} {t0s ts:List (Tr S)} {vs0 vs1:List Value} {m0 m:List HObj} {tk fz:List Nat} {nx nx':Nat} {cs:List (SV S)} {os:List (Nat×AO S)} {ν1:Nm},
  vs0.length=ss.length->(∀(j:Nat) v s,vs0[j]? =some v->ss[j]? =some s->SRep D ν σ v s)->q4p D ob lkc pk ss=some (t0s,tk,fz)->LayBL D σ1 t0s ts vs0 m0 vs1 m->(∀q∈m0,q.ok w)->upds ob lkc pk l ss ts nx=some (cs,os,nx')->Ext ν ν1->(∀k,nx<=k->ν1 k=none)->
  ∃ν2,Ext ν1 ν2/\(∀k,nx'<=k->ν2 k=none)/\cs.length=ss.length/\vs1.length=ss.length/\(∀(j:Nat) v s s',vs1[j]? =some v->ss[j]? =some s->cs[j]? =some s'->SRep D ν2 σ1 v (res1 s s')/\(s'= .lk->l[j]? =some .lk))/\Objs D ν2 σ1 lkc os m
 |[],l,ss,t0s,ts,vs0,vs1,m0,m,tk,fz,nx,nx',cs,os,ν1,hl,hs,hg,hB,hok,hu,hx,hf=>by
  cases ss with
  |cons=>cases hg
  |nil=>
   cases hg
   cases hB
   cases l with
   |cons=>cases hu
   |nil=>
    cases hu
    exact⟨ν1,Ext.refl _,hf,rfl,rfl,fun j v s s' hj=>by simp at hj,trivial⟩
 |p::pk,l,ss,t0s,ts,vs0,vs1,m0,m,tk,fz,nx,nx',cs,os,ν1,hl,hs,hg,hB,hok,hu,hx,hf=>by
  cases ss with
  |nil=>cases hg
  |cons s ss=>
   cases l with
   |nil=>cases hu
   |cons o l=>
    simp only[q4p] at hg
    split at hg
    case h_2=>cases hg
    rename_i t0 a b ts0 a' b' hg1 hg2
    cases hg
    cases hB with
    | @cons _ t _ ts v0 v1 vs0 vs1 a0 am m0 m hB hBL=>
     simp only[upds] at hu
     split at hu
     case h_2=>cases hu
     rename_i s' x nx1 hu1
     split at hu
     case h_2=>cases hu
     rename_i r y nx2 hu2
     cases hu
     obtain⟨ν2,hx2,hf2,hr2,hlk2,ho2⟩:=z97 hor (pk:=p) (hs 0 v0 s rfl rfl) hg1 hB (fun q hq=>hok q (by simp[hq])) hu1 hx hf
     obtain⟨ν3,hx3,hf3,hl1,hl2,hr3,ho3⟩:=z98 hor (pk:=pk) (by simpa using hl) (fun j v s hj hk=>hs (j+1) v s (by simpa using hj) (by simpa using hk)) hg2 hBL (fun q hq=>hok q (by simp[hq])) hu2 (hx.trans hx2) hf2
     refine⟨ν3,hx2.trans hx3,hf3,by simp[hl1],by simp[hl2],fun j v s1 s2 hj hk hm=> ?_,(ho2.mono hx3 (Sub.refl _)).append ho3⟩
     cases j with
     |zero=>simp at hj hk hm;subst hj hk hm;exact⟨hr2.mono hx3 (Sub.refl _),fun h=>by rw[hlk2 h];rfl⟩
     |succ j=>
      obtain⟨h1,h2⟩:=hr3 j v s1 s2 (by simpa using hj) (by simpa using hk) (by simpa using hm)
      exact⟨h1,fun h=>by simpa using h2 h⟩
end
theorem z99(hor: ∀o a,ob o=some a->ORep D ν σ lkc o a (oh o)/\(oh o).ok w): ∀{pk:List (PK S)} {ss:List (SV S)} {t0s ts:List (Tr S)} {vs:List Value} {m0 m:List HObj} {tk fz:List Nat} {nx nx':Nat} {os:List (Nat×AO S)} {ν1:Nm},
  vs.length=ss.length->(∀(j:Nat) v s,vs[j]? =some v->ss[j]? =some s->SRep D ν σ v s)->q4p D ob lkc pk ss=some (t0s,tk,fz)->LayT D σ1 t0s ts vs m0 m->(∀q∈m0,q.ok w)->updT ob lkc pk ss ts nx=some (os,nx')->Ext ν ν1->(∀k,nx<=k->ν1 k=none)->
  ∃ν2,Ext ν1 ν2/\(∀k,nx'<=k->ν2 k=none)/\Objs D ν2 σ1 lkc os m:=by
 intro pk
 induction pk with
 |nil=>
  intro ss t0s ts vs m0 m tk fz nx nx' os ν1 hl hs hg hT hok hu hx hf
  cases ss with
  |cons=>cases hg
  |nil=>
   cases hg
   cases hT
   cases hu
   exact⟨ν1,Ext.refl _,hf,trivial⟩
 |cons p pk ih=>
  intro ss t0s ts vs m0 m tk fz nx nx' os ν1 hl hs hg hT hok hu hx hf
  cases ss with
  |nil=>cases hg
  |cons s ss=>
   simp only[q4p] at hg
   split at hg
   case h_2=>cases hg
   rename_i t0 a b ts0 a' b' hg1 hg2
   cases hg
   have skip: ∀{v:Value} {vs:List Value} {ts:List (Tr S)} {m0' m:List HObj},vs.length=ss.length->(∀(j:Nat) v' s',(v::vs)[j]? =some v'->(s::ss)[j]? =some s'->SRep D ν σ v' s')->LayT D σ1 ts0 ts vs m0' m->(∀q∈m0',q.ok w)->updT ob lkc pk ss ts nx=some (os,nx')->
     ∃ν2,Ext ν1 ν2/\(∀k,nx'<=k->ν2 k=none)/\Objs D ν2 σ1 lkc os m:=
    fun hl hs hT hok hu=>ih hl (fun j v s hj hk=>hs (j+1) v s (by simpa using hj) (by simpa using hk)) hg2 hT hok hu hx hf
   have keep: ∀{t:Tr S} {ts:List (Tr S)} {v:Value} {vs:List Value} {a0 am m0 m:List HObj},vs.length=ss.length->(∀(j:Nat) v' s',(v::vs)[j]? =some v'->(s::ss)[j]? =some s'->SRep D ν σ v' s')->LayB D σ1 t0 t v a0 v am->LayT D σ1 ts0 ts vs m0 m->(∀q∈a0++m0,q.ok w)->
     (match upd1 ob lkc p s s t nx with
      |some (_,a,nx')=>match updT ob lkc pk ss ts nx' with
       |some (b,nx'')=>some (a++b,nx'')
       |none=>none
      |none=>none)=some (os,nx')-> ∃ν2,Ext ν1 ν2/\(∀k,nx'<=k->ν2 k=none)/\Objs D ν2 σ1 lkc os (am++m):=by
    intro t ts v vs a0 am m0 m hl hs hB hT hok hu
    split at hu
    case h_2=>cases hu
    rename_i s' x nx1 hu1
    split at hu
    case h_2=>cases hu
    rename_i y nx2 hu2
    cases hu
    obtain⟨ν2,hx2,hf2,_,_,ho2⟩:=z97 hor (pk:=p) (hs 0 v s rfl rfl) hg1 hB (fun q hq=>hok q (by simp[hq])) hu1 hx hf
    obtain⟨ν3,hx3,hf3,ho3⟩:=ih hl (fun j v s hj hk=>hs (j+1) v s (by simpa using hj) (by simpa using hk)) hg2 hT (fun q hq=>hok q (by simp[hq])) hu2 (hx.trans hx2) hf2
    exact⟨ν3,hx2.trans hx3,hf3,(ho2.mono hx3 (Sub.refl _)).append ho3⟩
   have plain:updT ob lkc (p::pk) (s::ss) ts nx=(match ts with| .same::ts=>updT ob lkc pk ss ts nx|_=>none)-> ∃ν2,Ext ν1 ν2/\(∀k,nx'<=k->ν2 k=none)/\Objs D ν2 σ1 lkc os m:=by
    intro he
    rw[he] at hu
    cases ts with
    |nil=>cases hu
    |cons t ts=>
     cases t with
     |same=>
      cases hT with
      |skip hT=>exact skip (by simpa using hl) hs hT (fun q hq=>hok q (by simp[hq])) hu
      |keep hB hT=>
       cases hB with
       |v h=>cases h
       |same h=>exact skip (by simpa using hl) hs hT (fun q hq=>hok q (by simp[hq])) hu
     |_=>cases hu
   cases p with
   |v=>exact plain (by cases ts with|nil=>rfl|cons t ts=>cases t<;>rfl)
   |c=>exact plain (by cases ts with|nil=>rfl|cons t ts=>cases t<;>rfl)
   |sl T=>exact plain (by cases ts with|nil=>rfl|cons t ts=>cases t<;>rfl)
   |el T=>exact plain (by cases ts with|nil=>rfl|cons t ts=>cases t<;>rfl)
   |own e T=>
    cases ts with
    |nil=>cases hu
    |cons t ts=>
     cases t with
     |same=>
      cases hT with
      |skip hT=>exact skip (by simpa using hl) hs hT (fun q hq=>hok q (by simp[hq])) hu
      |keep hB hT=>
       cases hB with
       |v h=>cases h
       |same h=>exact skip (by simpa using hl) hs hT (fun q hq=>hok q (by simp[hq])) hu
     |vec e' T' l'=>
      cases s with
      |hnd o=>
       simp only[updT] at hu
       split at hu
       case h_2=>cases hu
       rename_i y nx2 hu2
       cases hu
       cases hT with
       |keep hB hT=>
        obtain⟨ν3,hx3,hf3,ho3⟩:=ih (by simpa using hl) (fun j v s hj hk=>hs (j+1) v s (by simpa using hj) (by simpa using hk)) hg2 hT (fun q hq=>hok q (by simp[hq])) hu2 hx hf
        cases hB with
        |v h=>cases h
        |vec hE hlen h1=>
         cases hs 0 _ _ rfl rfl with
         |hnd _ _ hν _=>exact⟨ν3,hx3,hf3,⟨⟨_,_,hx3 _ _ (hx _ _ hν),rfl,hE,hlen⟩,ho3⟩⟩
      |_=>simp only[updT] at hu;cases hu
     |_=>cases hu
   |agg l=>exact plain (by cases ts with|nil=>rfl|cons t ts=>cases t<;>rfl)
   |kow e T=>exact plain (by cases ts with|nil=>rfl|cons t ts=>cases t<;>rfl)
   |map K V=>
    cases hT with
    |skip hT=>
     simp only[updT,upd1] at hu
     cases s<;>cases hu
    |keep hB hT=>exact keep (by simpa using hl) hs hB hT hok hu
   |ptr ty l=>
    cases hT with
    |skip hT=>
     have hu':upd1 ob lkc (.ptr ty l) s s .same nx=none:=by
      simp only[upd1]
     simp only[updT,hu'] at hu
     cases hu
    |keep hB hT=>exact keep (by simpa using hl) hs hB hT hok hu
end Go.Fx
end
noncomputable section
set_option maxRecDepth 100000
namespace Go.Fx
open Go Go.RowKit Go.Fl Go.Fl.Lk
variable {S:Sig}{P:Program}{D:Shp S}{ν ν' ν0 ν1:Nm}{σ τ σ0 σ1:Hv}{n:Nat}{f:Fr}
variable {w w0:World}{cx:Cx}{ro:Ro S}{st:AS S}{ms:List HObj}{ob os:Nat->Option (AO S)}{lkc:Nat->Nat->SV S}{oh:Nat->HObj}
theorem j8n{t:Tr S}{x:FV S}{nx nx':Nat}{a:List (Nat×AO S)}(h:inst D t nx=some (.f x,a,nx')):t= .f x:=by
 cases t with
 |f y=>cases h;rfl
 |same=>cases h
 |vec=>cases h
 |kvec=>cases h
 |arr=>cases h
 |map=>cases h
 |ptr ty ts=>
  simp only[inst] at h
  split at h<;>cases h
 |el=>cases h
 |agg ts=>
  simp only[inst] at h
  split at h<;>cases h
theorem j27{t:Tr S}{o nx nx':Nat}{a:List (Nat×AO S)}(h:inst D t nx=some (.ref o 0,a,nx')): ∃ty ts cs a',t= .ptr ty ts/\o=nx/\q63 D ts (nx+1)=some (cs,a',nx')/\a=(nx,.cells ty cs)::a':=by
 cases t with
 |f y=>cases h
 |same=>cases h
 |vec=>cases h
 |kvec=>cases h
 |arr=>cases h
 |map=>cases h
 |ptr ty ts=>
  simp only[inst] at h
  split at h
  ·rename_i cs a' nx2 hi
   cases h
   exact⟨ty,ts,cs,a',rfl,rfl,hi,rfl⟩
  ·cases h
 |el=>cases h
 |agg ts=>
  simp only[inst] at h
  split at h<;>cases h
theorem z3p: ∀{pk:List (PK S)} {is l ss:List (SV S)} {r:List (Tr S)×List Nat×List Nat},z7n ob os lkc pk is l ss=some r->is.length=ss.length
 |[],[],[],[],_,_=>rfl
 |p::pk,i::is,o::l,s::ss,r,h=>by
  simp only[z7n] at h
  split at h
  case h_2=>cases h
  rename_i h2
  rw[List.length_cons,List.length_cons,z3p h2]
mutual
theorem j0a(hD:D.Ok)(hor: ∀o a,ob o=some a->ORep D ν σ lkc o a (oh o))(hor0: ∀o ty l,os o=some (.cells ty l)-> ∃b cs,ν0 o=some (.pointer (some ⟨b,0,none⟩))/\RowS D ν0 σ0 cs l/\(blk b ty cs).ok w0)
  (hlk: ∀o ty l,os o=some (.cells ty l)-> ∀j,lkc o j=l.getD j .dead)(hx:Ext ν0 ν): ∀{pk:PK S} {i o s:SV S} {t t0:Tr S} {tk fz:List Nat} {v0 v1:Value} {m0:List HObj} {nx nxi:Nat} {osi tko:List (Nat×AO S)} {msx:List HObj},
  Lay D σ0 t0 v0 m0->inst D t0 nx=some (i,osi,nxi)->(∀q∈osi,os q.1=some q.2)->(∀q∈m0,q.ok w0)->SRep D ν0 σ0 v0 i->SRep D ν σ v1 s->(o= .lk->s=i)->back ob os lkc pk i o s=some (t,tk,fz)->
  tko.map (·.1)=tk->(∀q∈tko,ob q.1=some q.2)->Objs D ν σ lkc tko msx->(∀o e T l v,o∈fz->ob o=some (.vec e T l)->ν o=some v->RepF D σ v (.sl T l))-> ∃m',LayB D σ t0 t v0 m0 v1 m'/\Nilx msx m'
 | .v,i,o,s,t,t0,tk,fz,v0,v1,m0,nx,nxi,osi,tko,msx,hL,hi,hosi,hok,h0,hs,hlo,hb,ht,hq,ho,hf=>by
  simp only[back] at hb
  obtain⟨rfl,hl⟩:=z6l hD hor hs hb hf
  have:=Hs ht ho
  subst this
  exact⟨[],.v hl,Nilx.refl _⟩
 | .c,i,o,s,t,t0,tk,fz,v0,v1,m0,nx,nxi,osi,tko,msx,hL,hi,hosi,hok,h0,hs,hlo,hb,ht,hq,ho,hf=>by
  simp only[back] at hb
  split at hb
  case h_2=>cases hb
  cases hb
  have h1:=hlo rfl
  subst h1
  have h2:=j8n hi
  subst h2
  have:=Hs ht ho
  subst this
  cases hs with
  |f h=>exact⟨[],.same (.f h),Nilx.refl _⟩
 | .sl T,i,o,s,t,t0,tk,fz,v0,v1,m0,nx,nxi,osi,tko,msx,hL,hi,hosi,hok,h0,hs,hlo,hb,ht,hq,ho,hf=>by
  simp only[back] at hb
  obtain⟨rfl,hl⟩:=z6m hD hor hs hb hf
  have:=Hs ht ho
  subst this
  exact⟨[],.v hl,Nilx.refl _⟩
 | .el T,i,o,s,t,t0,tk,fz,v0,v1,m0,nx,nxi,osi,tko,msx,hL,hi,hosi,hok,h0,hs,hlo,hb,ht,hq,ho,hf=>by
  simp only[back] at hb;cases hb
 | .own e T,i,o,s,t,t0,tk,fz,v0,v1,m0,nx,nxi,osi,tko,msx,hL,hi,hosi,hok,h0,hs,hlo,h,ht,hq,ho,hf=>by
  simp only[back] at h
  split at h
  case h_2=>cases h
  rename_i a l hown
  cases h
  rcases q50 hown with ⟨rfl,rfl,rfl⟩|⟨o,rfl,rfl,hob⟩
  ·have:=Hs ht ho
   subst this
   have hv:=q00 hs
   subst hv
   exact⟨_,.vec (xs:=[]) ⟨by simp,fun i x hx=>by simp at hx⟩ (by simp) rfl,Nilx.nil e (D.size T)⟩
  ·match tko,ht,hq,ho with
   |[q],ht,hq,ho=>
    match msx,ho with
    |[m],ho=>
     obtain⟨o',a⟩:=q
     simp at ht
     subst ht
     have ha:=hq (o',a) (by simp)
     simp only at ha
     rw[hob] at ha;cases ha
     obtain⟨u,xs,hν,hm,hE,hl⟩:=ho.1
     subst hm
     have hv:=Ju hs hν
     subst hv
     have h1:v1.oneCell'=true:=by cases hs with|hnd _ _ _ h=>exact h
     exact⟨_,.vec hE hl h1,Nilx.refl _⟩
 | .kow e T,i,o,s,t,t0,tk,fz,v0,v1,m0,nx,nxi,osi,tko,msx,hL,hi,hosi,hok,h0,hs,hlo,h,ht,hq,ho,hf=>by
  simp only[back] at h
  split at h
  case h_2=>cases h
  rename_i o1 o2
  cases hb:Nat.beq o1 o2 with
  |false=>rw[hb] at h;cases h
  |true=>
   rw[hb] at h
   have hb:=Nat.eq_of_beq_eq_true hb
   subst hb
   simp only[cond_true] at h
   split at h
   case h_2=>cases h
   rename_i o2 l hown
   cases h
   rcases q50 hown with ⟨h2,_,_⟩|⟨o,h2,h3,hob⟩
   ·cases h2
   cases h2
   cases h3
   match tko,ht,hq,ho with
   |[q],ht,hq,ho=>
    match msx,ho with
    |[m],ho=>
     obtain⟨o',a⟩:=q
     simp at ht
     subst ht
     have ha:=hq (o',a) (by simp)
     simp only at ha
     rw[hob] at ha;cases ha
     obtain⟨u,xs,hν,hm,hE,hl⟩:=ho.1
     subst hm
     have hv:=Ju hs hν
     subst hv
     have hv0:v0=v1:=by
      cases h0 with
      |hnd _ _ h0 _=>
       have:=hx _ _ h0
       rw[hν] at this;exact (Option.some.inj this).symm
     subst hv0
     have h1:v0.oneCell'=true:=by cases hs with|hnd _ _ _ h=>exact h
     exact⟨_,.kvec hE hl h1,Nilx.refl _⟩
 | .map K V,i,o,s,t,t0,tk,fz,v0,v1,m0,nx,nxi,osi,tko,msx,hL,hi,hosi,hok,h0,hs,hlo,h,ht,hq,ho,hf=>by
  simp only[back] at h
  split at h
  case h_2=>cases h
  rename_i o1 o2
  cases hb:Nat.beq o1 o2 with
  |false=>rw[hb] at h;cases h
  |true=>
   rw[hb] at h
   have hb:=Nat.eq_of_beq_eq_true hb
   subst hb
   simp only[cond_true] at h
   split at h
   case h_2=>cases h
   rename_i K' V' F hob
   split at h
   case h_2=>cases h
   rename_i e1 e2 _ _
   cases h
   subst e1 e2
   match tko,ht,hq,ho with
   |[q],ht,hq,ho=>
    match msx,ho with
    |[m],ho=>
     obtain⟨o',a⟩:=q
     simp at ht
     subst ht
     have ha:=hq (o',a) (by simp)
     simp only at ha
     rw[hob] at ha;cases ha
     obtain⟨b,mm,hν,hm,hF⟩:=ho.1
     subst hm
     have hv:=Ju hs hν
     subst hv
     have hv0:v0= .map (some b):=by
      cases h0 with
      |hnd _ _ h0 _=>
       have:=hx _ _ h0
       rw[hν] at this;exact (Option.some.inj this).symm
     subst hv0
     exact⟨_,.map hF,Nilx.refl _⟩
 | .ptr ty pk,i,o,s,t,t0,tk,fz,v0,v1,m0,nx,nxi,osi,tko,msx,hL,hi,hosi,hok,h0,hs,hlo,h,ht,hq,ho,hf=>by
  simp only[back] at h
  split at h
  case h_2=>cases h
  rename_i o1 o2
  cases hb:Nat.beq o1 o2 with
  |false=>rw[hb] at h;cases h
  |true=>
   rw[hb] at h
   have hb:=Nat.eq_of_beq_eq_true hb
   subst hb
   simp only[cond_true] at h
   split at h
   case h_2=>cases h
   rename_i ty0' l0 ty' l hos hob
   cases hb:Nat.beq ty ty' with
   |false=>rw[hb] at h;cases h
   |true=>
    rw[hb] at h
    have hb:=Nat.eq_of_beq_eq_true hb
    subst hb
    simp only[cond_true] at h
    split at h
    case h_2=>cases h
    rename_i ts a b hg
    cases h
    obtain⟨ty0,ts0,cs,a',rfl,rfl,hi',rfl⟩:=j27 hi
    have h1:=hosi _ (List.mem_cons_self ..)
    simp only at h1
    rw[hos] at h1;cases h1
    obtain⟨b0,cs',hν0,hrow0,hok0⟩:=hor0 _ _ _ hos
    cases hL with
    | @ptr _ _ b2 cs0 m0 hL h1=>
     obtain⟨b3,hb3,hν3⟩:=z05 h0
     cases hb3
     rw[hν0] at hν3;cases hν3
     have he:=z96 hok0 (hok _ (List.mem_cons_self ..)) rfl
     subst he
     obtain⟨b4,hb4,hν4⟩:=z05 hs
     subst hb4
     rw[hx _ _ hν0] at hν4;cases hν4
     match tko,ht,hq,ho with
     |q::tko,ht,hq,ho=>
      match msx,ho with
      |m::msx,ho=>
       obtain⟨o',ao⟩:=q
       injection ht with h1 h2
       simp only at h1
       subst h1
       have ha:=hq (o',ao) (by simp)
       simp only at ha
       rw[hob] at ha;cases ha
       obtain⟨b',cs2,hν,hm,hrow⟩:=ho.1
       subst hm
       rw[hx _ _ hν0] at hν;cases hν
       obtain⟨m',hl,hxx⟩:=z6n hD hor hor0 hlk hx (pk:=pk) hL hi' (fun q hq=>hosi q (by simp[hq])) (fun q hq=>hok q (by simp[hq])) hrow0.1 hrow0.2.1 hrow.1 hrow.2.1 (fun j hj=>by
        have h5:=q57 (g:=lkc o') (k:=0) hj
        rw[Nat.zero_add] at h5
        rw[h5,hlk _ _ _ hos j]
        have hjl:j<l0.length:=by
         rw[←hrow0.1]
         have:=z3p hg
         rw[←hrow0.1] at this
         rw[this];exact Qe h5
        rw[List.getD_eq_getElem?_getD,List.getElem?_eq_getElem hjl];rfl) hg h2 (fun q hq'=>hq q (by simp[hq'])) ho.2 hf
       exact⟨_,.ptr hl hrow.2.2,Nilx.append (Nilx.refl [_]) hxx⟩
 | .agg pk,i,o,s,t,t0,tk,fz,v0,v1,m0,nx,nxi,osi,tko,msx,hL,hi,hosi,hok,h0,hs,hlo,h,ht,hq,ho,hf=>by
  simp only[back] at h;cases h
theorem z6n(hD:D.Ok)(hor: ∀o a,ob o=some a->ORep D ν σ lkc o a (oh o))(hor0: ∀o ty l,os o=some (.cells ty l)-> ∃b cs,ν0 o=some (.pointer (some ⟨b,0,none⟩))/\RowS D ν0 σ0 cs l/\(blk b ty cs).ok w0)
  (hlk: ∀o ty l,os o=some (.cells ty l)-> ∀j,lkc o j=l.getD j .dead)(hx:Ext ν0 ν): ∀{pk:List (PK S)} {is l ss:List (SV S)} {ts t0s:List (Tr S)} {tk fz:List Nat} {vs0 vs1:List Value} {m0:List HObj} {nx nxi:Nat} {osi tko:List (Nat×AO S)} {msx:List HObj},
  LayL D σ0 t0s vs0 m0->q63 D t0s nx=some (is,osi,nxi)->(∀q∈osi,os q.1=some q.2)->(∀q∈m0,q.ok w0)->vs0.length=is.length->(∀(j:Nat) v s,vs0[j]? =some v->is[j]? =some s->SRep D ν0 σ0 v s)->
  vs1.length=ss.length->(∀(j:Nat) v s,vs1[j]? =some v->ss[j]? =some s->SRep D ν σ v s)->(∀(j:Nat),l[j]? =some .lk->ss[j]? =is[j]?)->z7n ob os lkc pk is l ss=some (ts,tk,fz)->
  tko.map (·.1)=tk->(∀q∈tko,ob q.1=some q.2)->Objs D ν σ lkc tko msx->(∀o e T l v,o∈fz->ob o=some (.vec e T l)->ν o=some v->RepF D σ v (.sl T l))-> ∃m',LayBL D σ t0s ts vs0 m0 vs1 m'/\Nilx msx m'
 |[],is,l,ss,ts,t0s,tk,fz,vs0,vs1,m0,nx,nxi,osi,tko,msx,hL,hi,hosi,hok,hl0,h0,hl1,hs,hlo,hb,ht,hq,ho,hf=>by
  cases is with
  |cons=>cases hb
  |nil=>
   cases l with
   |cons=>cases hb
   |nil=>
    cases ss with
    |cons=>cases hb
    |nil=>
     cases hb
     have:=Hs ht ho
     subst this
     have h2:=List.eq_nil_of_length_eq_zero hl0
     subst h2
     have h3:=List.eq_nil_of_length_eq_zero hl1
     subst h3
     cases hL
     exact⟨[],.nil,Nilx.refl _⟩
 |p::pk,is,l,ss,ts,t0s,tk,fz,vs0,vs1,m0,nx,nxi,osi,tko,msx,hL,hi,hosi,hok,hl0,h0,hl1,hs,hlo,hb,ht,hq,ho,hf=>by
  cases is with
  |nil=>cases hb
  |cons i is=>
   cases l with
   |nil=>cases hb
   |cons o l=>
    cases ss with
    |nil=>cases hb
    |cons s ss=>
     cases hL with
     |nil=>cases hl0
     | @cons t0 t0s v0 vs0 a0 m0 hL hLL=>
      cases vs1 with
      |nil=>cases hl1
      |cons v1 vs1=>
       simp only[z7n] at hb
       split at hb
       case h_2=>cases hb
       rename_i t a b ts' a' b' hb1 hb2
       cases hb
       simp only[q63] at hi
       split at hi
       case h_2=>cases hi
       rename_i i' osa nx1 hi1
       split at hi
       case h_2=>cases hi
       rename_i is' osb nx2 hi2
       cases hi
       obtain⟨tko1,tko2,rfl,ht1,ht2⟩:=List.map_eq_append_iff.1 ht
       obtain⟨m1,m2,rfl,ho1,ho2⟩:=ho.split
       obtain⟨x1,hB1,hx1⟩:=j0a hD hor hor0 hlk hx (pk:=p) hL hi1 (fun q hq=>hosi q (by simp[hq])) (fun q hq=>hok q (by simp[hq])) (h0 0 v0 i rfl rfl) (hs 0 v1 s rfl rfl) (fun h=>by
        subst h
        have:=hlo 0 rfl
        simpa using this) hb1 ht1 (fun q hq'=>hq q (by simp[hq'])) ho1 (fun o e T l v hm=>hf o e T l v (by simp[hm]))
       obtain⟨x2,hB2,hx2⟩:=z6n hD hor hor0 hlk hx (pk:=pk) hLL hi2 (fun q hq=>hosi q (by simp[hq])) (fun q hq=>hok q (by simp[hq])) (by simpa using hl0) (fun j v s hj hk=>h0 (j+1) v s (by simpa using hj) (by simpa using hk))
        (by simpa using hl1) (fun j v s hj hk=>hs (j+1) v s (by simpa using hj) (by simpa using hk)) (fun j hj=>by simpa using hlo (j+1) (by simpa using hj)) hb2 ht2 (fun q hq'=>hq q (by simp[hq'])) ho2 (fun o e T l v hm=>hf o e T l v (by simp[hm]))
       exact⟨_,.cons hB1 hB2,Nilx.append hx1 hx2⟩
end
theorem j28(hD:D.Ok)(hor: ∀o a,ob o=some a->ORep D ν σ lkc o a (oh o))(hor0: ∀o ty l,os o=some (.cells ty l)-> ∃b cs,ν0 o=some (.pointer (some ⟨b,0,none⟩))/\RowS D ν0 σ0 cs l/\(blk b ty cs).ok w0)
  (hlk: ∀o ty l,os o=some (.cells ty l)-> ∀j,lkc o j=l.getD j .dead)(hx:Ext ν0 ν)(hsub:Sub σ0 σ): ∀{pk:List (PK S)} {is:List (SV S)} {ts t0s:List (Tr S)} {tk fz:List Nat} {vs:List Value} {m0:List HObj} {nx nxi:Nat} {osi tko:List (Nat×AO S)} {msx:List HObj},
  LayL D σ0 t0s vs m0->q63 D t0s nx=some (is,osi,nxi)->(∀q∈osi,os q.1=some q.2)->(∀q∈m0,q.ok w0)->vs.length=is.length->(∀(j:Nat) v s,vs[j]? =some v->is[j]? =some s->SRep D ν0 σ0 v s)->q62 ob os lkc pk is=some (ts,tk,fz)->
  tko.map (·.1)=tk->(∀q∈tko,ob q.1=some q.2)->Objs D ν σ lkc tko msx->(∀o e T l v,o∈fz->ob o=some (.vec e T l)->ν o=some v->RepF D σ v (.sl T l))-> ∃m',LayT D σ t0s ts vs m0 m'/\Nilx msx m':=by
 intro pk
 induction pk with
 |nil=>
  intro is ts t0s tk fz vs m0 nx nxi osi tko msx hL hi hosi hok hl0 h0 hb ht hq ho hf
  cases is with
  |cons=>cases hb
  |nil=>
   cases hb
   have:=Hs ht ho
   subst this
   have h2:=List.eq_nil_of_length_eq_zero hl0
   subst h2
   cases hL
   exact⟨[],.nil,Nilx.refl _⟩
 |cons p pk ih=>
  intro is ts t0s tk fz vs m0 nx nxi osi tko msx hL hi hosi hok hl0 h0 hb ht hq ho hf
  cases is with
  |nil=>cases p<;>cases hb
  |cons i is=>
   cases hL with
   |nil=>cases hl0
   | @cons t0 t0s v0 vs0 a0 m0 hL hLL=>
    simp only[q63] at hi
    split at hi
    case h_2=>cases hi
    rename_i i' osa nx1 hi1
    split at hi
    case h_2=>cases hi
    rename_i is' osb nx2 hi2
    cases hi
    have rest: ∀{ts:List (Tr S)} {tk fz:List Nat} {tko:List (Nat×AO S)} {msx:List HObj},q62 ob os lkc pk is=some (ts,tk,fz)->tko.map (·.1)=tk->(∀q∈tko,ob q.1=some q.2)->Objs D ν σ lkc tko msx->
      (∀o e T l v,o∈fz->ob o=some (.vec e T l)->ν o=some v->RepF D σ v (.sl T l))-> ∃m',LayT D σ t0s ts vs0 m0 m'/\Nilx msx m':=fun hb ht hq ho hf=>
     ih hLL hi2 (fun q hq=>hosi q (by simp[hq])) (fun q hq=>hok q (by simp[hq])) (by simpa using hl0) (fun j v s hj hk=>h0 (j+1) v s (by simpa using hj) (by simpa using hk)) hb ht hq ho hf
    have plain:q62 ob os lkc (p::pk) (i::is)=(match q62 ob os lkc pk is with
      |some (ts,a,b)=>some (.same::ts,a,b)
      |none=>none)-> ∃m',LayT D σ (t0::t0s) ts (v0::vs0) (a0++m0) m'/\Nilx msx m':=by
     intro he
     rw[he] at hb
     split at hb
     case h_2=>cases hb
     rename_i ts' a b hb'
     cases hb
     obtain⟨m',h1,h2⟩:=rest hb' ht hq ho hf
     exact⟨m',.skip h1,h2⟩
    have keep:q62 ob os lkc (p::pk) (i::is)=(match back ob os lkc p i .dead i,q62 ob os lkc pk is with
      |some (t,a,b),some (ts,a',b')=>some (t::ts,a++a',b++b')
      |_,_=>none)-> ∃m',LayT D σ (t0::t0s) ts (v0::vs0) (a0++m0) m'/\Nilx msx m':=by
     intro he
     rw[he] at hb
     split at hb
     case h_2=>cases hb
     rename_i t a b ts' a' b' hb1 hb2
     cases hb
     obtain⟨tko1,tko2,rfl,ht1,ht2⟩:=List.map_eq_append_iff.1 ht
     obtain⟨m1,m2,rfl,ho1,ho2⟩:=ho.split
     obtain⟨x1,hB1,hx1⟩:=j0a hD hor hor0 hlk hx (pk:=p) hL hi1 (fun q hq=>hosi q (by simp[hq])) (fun q hq=>hok q (by simp[hq])) (h0 0 v0 i rfl rfl) ((h0 0 v0 i rfl rfl).mono hx hsub) (fun h=>by cases h) hb1 ht1 (fun q hq'=>hq q (by simp[hq'])) ho1 (fun o e T l v hm=>hf o e T l v (by simp[hm]))
     obtain⟨x2,hB2,hx2⟩:=rest hb2 ht2 (fun q hq'=>hq q (by simp[hq'])) ho2 (fun o e T l v hm=>hf o e T l v (by simp[hm]))
     exact⟨_,.keep hB1 hB2,Nilx.append hx1 hx2⟩
    cases p with
    |v=>exact plain rfl
    |c=>exact plain rfl
    |sl T=>exact plain rfl
    |el T=>exact plain rfl
    |own e T=>exact plain rfl
    |kow e T=>exact plain rfl
    |agg l=>exact plain rfl
    |map K V=>exact keep rfl
    |ptr ty l=>exact keep rfl
end Go.Fx
end
noncomputable section
set_option maxRecDepth 100000
namespace Go.Fx
open Go Go.RowKit Go.Fl Go.Fl.Lk
variable {S:Sig}{P:Program}{D:Shp S}{ν ν' ν0 ν1:Nm}{σ τ σ0 σ1:Hv}{n:Nat}{f:Fr}
variable {w w0:World}{cx:Cx}{ro:Ro S}{st:AS S}{ms:List HObj}
def retV:List Value->Value
 |[v]=>v
 |l=> .tuple l.toArray
def Ent(P:Program)(g:Nat):Prop:= ∀args w,(callFunc g args).run P w= .ok (.enter g args) w
def Back(D:Shp S)(σ:Hv)(w:World)(args:List (Tr S))(vals:List Value)(ins:List HObj)(K:List (Tr S)->List (Tr S)->Prop)(e:Ending)(w1:World):Prop:=
 ∃rets outs rv σ1 msr mso,e= .returned (retV rv)/\K rets outs/\LayL D σ1 rets rv msr/\LayT D σ1 args outs vals ins mso/\St ⟨w,σ,feet ins⟩ w1 σ1 (msr++mso)
def Ru(P:Program)(D:Shp S)(g:Nat)(c:Con S):Prop:=
 ∀args K,c.m args K-> ∀(w:World) (σ:Hv) (vals:List Value) (ins:List HObj),Glb D σ->LayL D σ args vals ins->St ⟨w,σ,feet ins⟩ w σ ins->Calls P g vals.toArray w (Back D σ w args vals ins K)
structure EvOk(E:Ev S):Prop where
 hP:E.D.OkP E.P
 mix:E.P.follows .mixedOrders=true
 con: ∀g c,E.con g=some c->Ent E.P g/\Ru E.P E.D g c
 inl: ∀g,E.inl g=true->Ent E.P g
theorem z48{t:TypeId}{x:Operand}{r:Operand->Value}{v:Value}{oo:Oper}(hoo:oo.op= .load t x)(h:(execOp r oo).run P w= .ok (.value v) w)(a:Addr)(ha:r x= .pointer (some a)):(loadVar t a).run P w= .ok v w:=by
 simp only[execOp,hoo,ha,Instr.loadAt,Instr.sureAddr,Sem.run_bind,Sem.run_pure,Result.andThen_ok] at h
 cases hr:(loadVar t a).run P w with
 |ok u w'=>
  rw[hr] at h
  simp only[Result.andThen_ok,Result.ok.injEq,Next.value.injEq] at h
  rw[h.1,h.2]
 |halt s w'=>rw[hr] at h;cases h
theorem z6o{α:Type}{g:α->Sem Value}: ∀{l:List α} {vs:List Value},vs.length=l.length->(∀(i:Nat) a v,l[i]? =some a->vs[i]? =some v->(g a).run P w= .ok v w)->(l.mapM g).run P w= .ok vs w
 |[],vs,hl,_=>by
  have:=List.eq_nil_of_length_eq_zero hl
  subst this
  simp
 |a::l,vs,hl,h=>by
  cases vs with
  |nil=>cases hl
  |cons v vs=>
   have h1:=h 0 a v rfl rfl
   have h2:=z6o (g:=g) (l:=l) (vs:=vs) (by simpa using hl) (fun i a v hi hj=>h (i+1) a v (by simpa using hi) (by simpa using hj))
   simp[List.mapM_cons,h1,h2]
def rvS(tmps:Array Value):ResultVar->Sem Value
 | .tmp t=>pure (tmps.getD t undef)
 | .cell a t=>asAddr (tmps.getD a undef)>>=fun b=>loadVar t b
theorem z5a(fn:Func)(tmps:Array Value):results fn tmps=(fn.results.mapM (rvS tmps)>>=fun vs=>pure (if h:vs.size=1 then vs[0] else .tuple vs)):=by
 unfold results
 congr 1
theorem q3x{fn:Func}{tmps:Array Value}{vs:List Value}(hl:vs.length=fn.results.toList.length)(h: ∀(i:Nat) a v,fn.results.toList[i]? =some a->vs[i]? =some v->(rvS tmps a).run P w= .ok v w):(results fn tmps).run P w= .ok (retV vs) w:=by
 have h1:=z6o hl h
 have h2:(fn.results.mapM (rvS tmps)).run P w= .ok vs.toArray w:=by
  rw[Array.mapM_eq_mapM_toList,map_eq_pure_bind,Sem.run_bind,h1]
  rfl
 rw[z5a,Sem.run_bind,h2]
 simp only[Result.andThen_ok,Sem.run_pure]
 rcases vs with _|⟨v,_|⟨v',vs⟩⟩
 ·simp[retV]
 ·simp[retV]
 ·simp[retV]
theorem j4j{n:Nat}(hP:D.OkP P)(h:G D cx ν0 ro st f w ν σ ms): ∀{l:List ResultVar} {K:List (SV S)->Prop},resK P D n ro st l K-> ∃(ss:List (SV S)) (vs:List Value),K ss/\vs.length=ss.length/\vs.length=l.length/\(∀(j:Nat) v s,vs[j]? =some v->ss[j]? =some s->SRep D ν σ v s)/\
  ∀(i:Nat) a v,l[i]? =some a->vs[i]? =some v->(rvS (mk n f).tmps a).run P w= .ok v w:=by
 obtain⟨oh,kn,hms⟩:=h.kn (n:=n)
 have put: ∀{l:List ResultVar} {K:List (SV S)->Prop} {r:ResultVar} {s:SV S} {v:Value},SRep D ν σ v s->(rvS (mk n f).tmps r).run P w= .ok v w->
   (∃(ss:List (SV S)) (vs:List Value),K (s::ss)/\vs.length=ss.length/\vs.length=l.length/\(∀(j:Nat) v s,vs[j]? =some v->ss[j]? =some s->SRep D ν σ v s)/\ ∀(i:Nat) a v,l[i]? =some a->vs[i]? =some v->
    (rvS (mk n f).tmps a).run P w= .ok v w)->
   ∃(ss:List (SV S)) (vs:List Value),K ss/\vs.length=ss.length/\vs.length=(r::l).length/\(∀(j:Nat) v s,vs[j]? =some v->ss[j]? =some s->SRep D ν σ v s)/\ ∀(i:Nat) a v,(r::l)[i]? =some a->vs[i]? =some v->
    (rvS (mk n f).tmps a).run P w= .ok v w:=by
  intro l K r s v hs hr hx
  obtain⟨ss,vs,h1,h2,h3,h4,h5⟩:=hx
  refine⟨s::ss,v::vs,h1,by simp[h2],by simp[h3],fun j v' s' hj hk=> ?_,fun i a v' hi hj=> ?_⟩
  ·cases j with
   |zero=>simp at hj hk;subst hj hk;exact hs
   |succ j=>exact h4 j v' s' (by simpa using hj) (by simpa using hk)
  ·cases i with
   |zero=>simp at hi hj;subst hi hj;exact hr
   |succ i=>exact h5 i a v' (by simpa using hi) (by simpa using hj)
 intro l
 induction l with
 |nil=>intro K hk;exact⟨[],[],hk,rfl,rfl,fun j v s hj=>by simp at hj,fun i a v hi=>by simp at hi⟩
 |cons r l ih=>
  intro K hk
  cases r with
  |tmp t=>
   simp only[resK] at hk
   refine put (r:= .tmp t) (kn.e (.tmp t)) ?_ (ih hk)
   unfold rvS;rw[Sem.run_pure,z2l rfl]
  |cell t ty=>
   simp only[resK] at hk
   obtain⟨rd,s,v,hK,hs,hrun⟩:=z4x hP kn hk
   have hr:=hrun w ⟨none,.load ty (.tmp t),0,default,#[],none⟩ rfl h.mem.view (fun o _ a ha=>h.mem.own _ (hms o a ha))
   refine put (r:= .cell t ty) hs ?_ (ih hK)
   obtain⟨a,ha⟩: ∃a,ev n f (.tmp t)= .pointer (some a):=by
    have hsr:=kn.e (.tmp t)
    simp only[Zb] at hk
    generalize evS n ro st (.tmp t)=sv at hk hsr
    generalize ev n f (.tmp t)=u at hsr
    cases hsr with
    |ref o off b h=>exact⟨_,rfl⟩
    |eref T o i off b m cap h hi=>exact⟨_,rfl⟩
    |aref T N o i off b h hi=>exact⟨_,rfl⟩
    |fptr ad cs l off h hr=>exact⟨_,rfl⟩
    |fap ad cs T N l hN h hl hr=>exact⟨_,rfl⟩
    |_=>exact hk.elim
   have h2:=z48 rfl hr a ha
   have h3:=z2l (n:=n) (f:=f) ha
   simp only[rvS,h3,asAddr,Sem.run_bind,Sem.run_pure,Result.andThen_ok,h2]
theorem j0b{ss:List (SV S)}{vs:List Value}(hl:vs.length=ss.length)(h: ∀(j:Nat) v s,vs[j]? =some v->ss[j]? =some s->SRep D ν σ v s):SRep D ν σ (retV vs) (tupS ss):=by
 rcases ss with _|⟨s,_|⟨s',ss⟩⟩
 ·have:=List.eq_nil_of_length_eq_zero hl
  subst this
  exact .tup [] [] rfl h
 ·rcases vs with _|⟨v,_|⟨v',vs⟩⟩
  ·cases hl
  ·exact h 0 v s rfl rfl
  ·simp at hl
 ·rcases vs with _|⟨v,_|⟨v',vs⟩⟩
  ·cases hl
  ·simp at hl
  ·exact .tup _ _ hl h
theorem z3q{g:FuncId}{fo:Operand}{args:Array Operand}{ts:Array TypeId}{a b:List Value}{o:Oper}(ho:o.op= .call ⟨.value fo,args,ts⟩)(hf:ev n f fo= .func (.func g) a.toArray b.toArray)(hg:Ent P g):
  (execOp (ev n f) o).run P w= .ok (.enter g (a++args.toList.map (ev n f)++b).toArray) w:=by
 have hx:(a.toArray++args.map (ev n f)++b.toArray)=(a++args.toList.map (ev n f)++b).toArray:=by
  apply Array.ext'
  simp
 rw[←hx]
 simp[execOp,ho,resolve,hf,Deferred.ofValue,invoke]
 exact hg _ w
theorem q27: ∀{l:List Nat},inRw st l=true-> ∃tlo:List (Nat×AO S),tlo.map (·.1)=l/\ ∀q∈tlo,obS ro st q.1=some q.2
 |[],_=>⟨[],rfl,by simp⟩
 |o::l,h=>by
  obtain⟨h1,h2⟩:=Qk h
  obtain⟨a,ha⟩:=Option.isSome_iff_exists.1 h1
  obtain⟨tlo,h3,h4⟩:=q27 h2
  refine⟨(o,a)::tlo,by simp[h3],fun q hq=> ?_⟩
  rcases List.mem_cons.1 hq with rfl|hq
  ·unfold obS;rw[ha]
  ·exact h4 q hq
theorem Rv: ∀{l l':List Nat},inRw st (l++l')=(inRw st l && inRw st l')
 |[],_=>by simp[inRw]
 |o::l,l'=>by
  simp only[List.cons_append,inRw,Rv,Bool.and_assoc]
theorem j0c{vs a b:List Value}{first cap ss:List (SV S)}(hl:a.length=first.length)(h: ∀(j:Nat) v s,a[j]? =some v->first[j]? =some s->SRep D ν σ v s)(hl':b.length=cap.length)(h': ∀(j:Nat) v s,b[j]? =some v->cap[j]? =some s->SRep D ν σ v s)
  (hm:vs.length=ss.length)(hm': ∀(j:Nat) v s,vs[j]? =some v->ss[j]? =some s->SRep D ν σ v s):(a++vs++b).length=(first++ss++cap).length/\ ∀(j:Nat) v s,(a++vs++b)[j]? =some v->(first++ss++cap)[j]? =some s->SRep D ν σ v s:=by
 refine⟨by simp[hl,hl',hm],fun j v s hj hk=> ?_⟩
 have e:(a++vs).length=(first++ss).length:=by simp[hl,hm]
 rw[List.getElem?_append] at hj hk
 rw[e] at hj
 split at hj
 ·rename_i hlt
  rw[if_pos hlt] at hk
  rw[List.getElem?_append] at hj hk
  rw[hl] at hj
  split at hj
  ·rename_i hlt2
   rw[if_pos hlt2] at hk
   exact h j v s hj hk
  ·rename_i hge
   rw[if_neg hge] at hk
   exact hm' _ v s hj hk
 ·rename_i hge
  rw[if_neg hge] at hk
  exact h' _ v s hj hk
def q9g(σ:Hv)(bs:List Nat):Hv:=fun b=>if b∈bs then none else σ b
theorem j6p{w1:World}{σ1 σ2:Hv}{i1 i1' i2 outs m1:List HObj}(h:St ⟨w,σ,feet (i1++i2)⟩ w σ (i1'++i2))(hc:St ⟨w,σ1,feet i1'⟩ w1 σ2 outs)(h4:St ⟨w,σ,feet (i1++i2)⟩ w1 σ2 (outs++m1)):
  St ⟨w,σ,feet (i1++i2)⟩ w1 (q9g σ2 (feet i2)) (outs++i2)/\Sub σ (q9g σ2 (feet i2)):=by
 have hsep:=List.pairwise_append.1 h.sep
 have hsub:Sub σ (q9g σ2 (feet i2)):=fun b o hb=>by
  unfold q9g
  rw[if_neg fun hm=> ?_]
  ·exact h4.sub b o hb
  ·obtain⟨q,hq,hk⟩:=U2.1 hm
   have:=h.off q (by simp[hq]) b hk
   rw[this] at hb;cases hb
 have hfar: ∀q∈i2,∀k,q.foot=some k->k∉feet i1':=fun q hq k hk hm=>by
  obtain⟨p,hp,hpk⟩:=U2.1 hm
  exact hsep.2.2 p hp q hq k hpk hk
 have hsz: ∀q∈i2,∀k,q.foot=some k->k<w.heap.size:=fun q hq k hk=>q.lt w k (h.own q (by simp[hq])) hk
 have hsep4:=List.pairwise_append.1 h4.sep
 refine⟨⟨h4.keeps,fun b o hb=> ?_,hsub,fun b hb hm=> ?_,fun o ho=> ?_,List.pairwise_append.2 ⟨hsep4.1,hsep.2.1,fun a ha b hb k hk hk'=> ?_⟩,fun o ho k hk=> ?_,fun o ho k hk=> ?_⟩,hsub⟩
 ·unfold q9g at hb
  split at hb
  ·cases hb
  ·exact h4.view b o hb
 ·unfold q9g
  rw[if_neg fun hx=> ?_]
  ·exact h4.fresh b hb hm
  ·obtain⟨q,hq,hk⟩:=U2.1 hx
   exact hm (U2.2 ⟨q,by simp[hq],hk⟩)
 ·rcases List.mem_append.1 ho with ho|ho
  ·exact h4.own o (by simp[ho])
  ·exact o.stay w w1 (fun k hk=>hc.keeps.block k (hsz o ho k hk) (hfar o ho k hk)) (h.own o (by simp[ho]))
 ·have hk1:k<w.heap.size:=hsz b hb k hk'
  rcases hc.new a ha k hk with h5|h5
  ·exact hfar b hb k hk' h5
  ·exact absurd hk1 (Nat.not_lt.2 h5)
 ·unfold q9g
  rcases List.mem_append.1 ho with ho|ho
  ·split
   ·rfl
   ·exact h4.off o (by simp[ho]) k hk
  ·rw[if_pos (U2.2 ⟨o,ho,hk⟩)]
 ·rcases List.mem_append.1 ho with ho|ho
  ·exact h4.new o (by simp[ho]) k hk
  ·exact .inl (U2.2 ⟨o,by simp[ho],hk⟩)
theorem z6p{ob:Nat->Option (AO S)}: ∀{l:List Nat} {tlo:List (Nat×AO S)},tlo.map (·.1)=l->(∀q∈tlo,ob q.1=some q.2)->j2w ob l=some tlo
 |[],tlo,h,_=>by
  have:=List.map_eq_nil_iff.1 h
  subst this;rfl
 |o::l,[],h,_=>by cases h
 |o::l,q::tlo,h,hq=>by
  obtain⟨o',a⟩:=q
  simp only[List.map_cons,List.cons.injEq] at h
  obtain⟨rfl,h⟩:=h
  have h1:=hq (o',a) (by simp)
  simp only[j2w,z6p h fun q hq'=>hq q (by simp[hq'])]
  simp only at h1
  rw[h1]
theorem j29{ob:Nat->Option (AO S)}{rets outs:List (Tr S)}{fz tlo:List (Nat×AO S)}{l:List Nat}(h:tlo.map (·.1)=l)(hq: ∀q∈tlo,ob q.1=some q.2):
  j2x D ob rets outs fz l=fz∨(j2x D ob rets outs fz l=tlo/\q6r D rets=true/\z0e D outs=true):=by
 unfold j2x
 split
 ·exact .inl rfl
 ·rename_i l' hl'
  cases hf:q6r D rets && z0e D outs with
  |false=>exact .inl rfl
  |true=>
   obtain⟨h1,h2⟩:=Qk hf
   refine .inr ⟨?_,h1,h2⟩
   rw[z6p h hq];rfl
theorem j0d{c:Con S}{g:Nat}{fo:Operand}{args:Array Operand}{ts:Array TypeId}{first cap:List (SV S)}{o:Oper}{ban:List Nat->Bool}{k:List Nat->AS S->Prop}(hF:q8k D)(hD:D.Ok)(hen:Ent P g)(hM:Ru P D g c)(h:G D cx ν0 ro st f w ν σ ms)
  (ho:o.op= .call ⟨.value fo,args,ts⟩)(hf:evS n ro st fo= .fn g first cap)(hk:j56 D c ro st (first++args.toList.map (evS n ro st)++cap) ban fun st s=>putS ro st o.dst s (k [])):z3h P D cx ν0 ro st n o f w ν σ ban k:=by
 intro KK Q hKK
 obtain⟨oh,kn,hms⟩:=h.kn (n:=n)
 have hfn:=kn.e fo
 rw[hf] at hfn
 generalize hfv:ev n f fo=fv at hfn
 cases hfn with
 |fn _ a b _ _ hl ha hl' hb=>
  obtain⟨hlen,hreps⟩:=j0c hl ha hl' hb (vs:=args.toList.map (ev n f)) (ss:=args.toList.map (evS n ro st)) (by simp) (fun j v s hj hk=>by
   rw[List.getElem?_map] at hj hk
   rcases hq:args.toList[j]? with _|x
   ·rw[hq] at hj;cases hj
   ·rw[hq] at hj hk;cases hj;cases hk;exact kn.e x)
  generalize first++args.toList.map (evS n ro st)++cap=full at hk hlen hreps
  unfold j56 at hk
  obtain⟨q,hq,hk⟩:=Qc hk
  obtain⟨fz,hfz,hk⟩:=Qc hk
  obtain⟨hc,hk⟩:=Zd hk
  obtain⟨hc,hban⟩:=Qk hc
  obtain⟨hnd,hrw⟩:=Qk hc
  obtain⟨t0s,tk,fzl⟩:=q
  simp only at hfz hnd hrw hban hk hq
  rw[Rv] at hrw
  obtain⟨hrw1,hrw2⟩:=Qk hrw
  obtain⟨tlo1,ht1,hob1⟩:=q27 (ro:=ro) hrw1
  obtain⟨tlo2,ht2,hob2⟩:=q27 (ro:=ro) hrw2
  have hrun:=z3q (w:=w) ho hfv hen
  generalize a++args.toList.map (ev n f)++b=vals at hlen hreps hrun
  have htl:(tlo1++tlo2).map (·.1)=tk++fzl:=by rw[List.map_append,ht1,ht2]
  obtain⟨ins,h1,h2,h3⟩:=h.turn htl (Rt hnd) (by rw[Rv,hrw1,hrw2];rfl) (fun q hq=>by
   rcases List.mem_append.1 hq with hq|hq
   ·exact hob1 q hq
   ·exact hob2 q hq)
  obtain⟨i1,i2,rfl,ho1,ho2⟩:=h1.split
  obtain⟨σ1,m1,hS1,hsub1,hofz⟩:=Rp hD hfz ht2 hob2 ho2 h2
  have hor: ∀o a,obS ro st o=some a->ORep D ν σ1 ro.cell o a (oh o)/\(oh o).ok w:=fun o a ho=>⟨(kn.o o a ho).1.mono (Ext.refl _) hsub1,(kn.o o a ho).2⟩
  have hreps1: ∀(j:Nat) v s,vals[j]? =some v->full[j]? =some s->SRep D ν σ1 v s:=fun j v s hj hk=>(hreps j v s hj hk).mono (Ext.refl _) hsub1
  obtain⟨i1',hLay,hNil⟩:=q19 hD (fun o a ho=>(hor o a ho).1) hlen hreps1 hq ht1 hob1 (ho1.mono (Ext.refl _) hsub1) (q5z hfz hofz)
  have hS2:=hNil _ _ _ _ hS1
  have hcall:=hM _ _ hk w σ1 vals i1' (h.glob.2.mono hsub1) hLay hS2.inner
  unfold Oper.wp
  rw[Wl,hrun,Oper.upon_enter]
  refine hcall.mono ?_
  rintro e w1 ⟨rets,outs,rv,σ2,msr,mso,rfl,hk,hLr,hLt,hS3⟩
  show KK ((mk n f).put o.dst (retV rv)) w1
  rw[q17]
  obtain⟨u,hu,hk⟩:=Qc hk
  obtain⟨r,hr,hk⟩:=Qc hk
  obtain⟨uo,un⟩:=u
  obtain⟨rs,ros,rn⟩:=r
  rw[q16] at hk
  simp only at hr hk
  have hS4:=hS2.callM hS3 rfl
  have hsub2:=hS3.sub
  simp only at hsub2
  rcases j29 (D:=D) (rets:=rets) (outs:=outs) (fz:=fz) ht2 hob2 with he|⟨he,hflr,hflo⟩
  case inr=>
   rw[he] at hk
   obtain⟨hT,hsub3⟩:=j6p (hNil _ _ _ _ h2) hS3 hS4
   have hLr':=q4t (τ:=q9g σ2 (feet i2)) hF hflr hLr
   have hLt':=z94 (τ:=q9g σ2 (feet i2)) hF hflo hLt
   obtain⟨ν2,hx2,hf2,ho3⟩:=z99 (fun o a ho=>kn.o o a ho) hlen hreps hq hLt' (fun m hm=>(hNil _ _ _ _ h2).own m (by simp[hm])) hu (Ext.refl _) h.fresh
   obtain⟨ν3,hx3,hf3,hl3,hr3,ho4,_⟩:=q26 (lkc:=ro.cell) hLr' hr hf2
   obtain⟨hsub,⟨ms2,hG⟩,hleft⟩:=h3 (outs:=ros++(uo++tlo2)) (nx:=rn) (hx2.trans hx3) hf3 (by rw[List.append_assoc] at hT;exact hT) (ho4.append ((ho3.mono hx3 (Sub.refl _)).append (ho2.mono (hx2.trans hx3) hsub3)))
   have hG':G D cx ν0 ro {slots:=st.slots,objs:=ros++(uo++(tlo2++Un st.objs (tk++fzl))),next:=rn} f w1 ν3 (q9g σ2 (feet i2)) ms2:=by
    rw[List.append_assoc,List.append_assoc] at hG
    exact hG
   obtain⟨st',hk',_,_,hG2⟩:=hG'.put (j0b hl3 hr3) hk
   exact hKK [] st' _ w1 ν3 _ ms2 hk' hG2 (hx2.trans hx3) hsub ⟨_,rfl⟩ (.inr ⟨_,hban,hleft⟩)
  rw[he] at hk
  obtain⟨ν2,hx2,hf2,ho3⟩:=z99 hor hlen hreps1 hq hLt (fun m hm=>hS2.own m (by simp[hm])) hu (Ext.refl _) h.fresh
  obtain⟨ν3,hx3,hf3,hl3,hr3,ho4,_⟩:=q26 (lkc:=ro.cell) hLr hr hf2
  obtain⟨hsub,⟨ms2,hG⟩,hleft⟩:=h3 (outs:=ros++(uo++fz)) (nx:=rn) (hx2.trans hx3) hf3 (by rw[List.append_assoc] at hS4;exact hS4) (ho4.append ((ho3.mono hx3 (Sub.refl _)).append (hofz.mono (hx2.trans hx3) hsub2)))
  have hG':G D cx ν0 ro {slots:=st.slots,objs:=ros++(uo++(fz++Un st.objs (tk++fzl))),next:=rn} f w1 ν3 σ2 ms2:=by
   rw[List.append_assoc,List.append_assoc] at hG
   exact hG
  obtain⟨st',hk',_,_,hG2⟩:=hG'.put (j0b hl3 hr3) hk
  exact hKK [] st' _ w1 ν3 σ2 ms2 hk' hG2 (hx2.trans hx3) hsub ⟨_,rfl⟩ (.inr ⟨_,hban,hleft⟩)
end Go.Fx
end
noncomputable section
set_option maxRecDepth 100000
namespace Go.Fx
open Go Go.RowKit Go.Fl Go.Fl.Lk
variable {S:Sig}{P:Program}{D:Shp S}{ν ν' ν0 ν1:Nm}{σ τ σ0 σ1:Hv}{n:Nat}{f:Fr}
variable {w w0:World}{cx:Cx}{ro:Ro S}{st:AS S}{ms:List HObj}
theorem q0g:(mk n f).defers=[]:=by unfold mk;rfl
theorem z5b: ∀{vs:List Value} {ss:List (SV S)},vs.length=ss.length->(∀(j:Nat) v s,vs[j]? =some v->ss[j]? =some s->SRep D ν σ v s)-> ∀j,SRep D ν σ (frl vs j) (frlS ss j):=by
 intro vs ss hl h j
 rw[j37]
 unfold frlS
 rw[List.getD_eq_getElem?_getD,List.getD_eq_getElem?_getD]
 rcases Nat.lt_or_ge j ss.length with hlt|hge
 ·obtain⟨v,hv⟩:=getq (l:=vs) (k:=j) (by omega)
  obtain⟨s,hs⟩:=getq (l:=ss) (k:=j) hlt
  rw[hv,hs]
  exact h j v s hv hs
 ·rw[List.getElem?_eq_none hge,List.getElem?_eq_none (by omega)]
  exact .und
def j6q(E:Ev S)(inlh:InlH S)(C:Ro S->Prop):Prop:=
 ∀{g:Nat} {cx:Cx} {ν0:Nm} {ro:Ro S} {st:AS S} {f:Fr} {w:World} {ν:Nm} {σ:Hv} {ms:List HObj} {full:List (SV S)} {vals:List Value} {k:AS S->SV S->Prop} {R:Ending->World->Prop},C ro->
  inlh g full ro st k->G E.D cx ν0 ro st f w ν σ ms->vals.length=full.length->(∀(j:Nat) v s,vals[j]? =some v->full[j]? =some s->SRep E.D ν σ v s)->
  (∀st' s v w' ν' σ' ms',k st' s->st'.slots=st.slots->SRep E.D ν' σ' v s->G E.D cx ν0 ro st' f w' ν' σ' ms'->Ext ν ν'->Sub σ σ'->R (.returned v) w')->Calls E.P g vals.toArray w R
theorem z5c{E:Ev S}(hE:EvOk E){inlh:InlH S}{C:Ro S->Prop}(hin:j6q E inlh C)(n:Nat):StH E inlh n C:=by
 intro cx ν0 ro st f w ν σ ms o ban k hro hk h
 unfold z7p at hk
 split at hk
 ·rename_i fo args ts ho
  split at hk
  case h_2=>exact hk.elim
  rename_i g first cap hf
  split at hk
  ·rename_i c hc
   have hc:E.con g=some c:=by
    cases hb:j8h E o with
    |true=>rw[hb] at hc;cases hc
    |false=>rw[hb] at hc;exact hc
   obtain⟨hen,hM⟩:=hE.con g c hc
   exact j0d hE.hP.flat hE.hP.ok hen hM h ho hf hk
  ·rw[q8d] at hk
   obtain⟨tko,hpk,hk⟩:=Qc hk
   obtain⟨hi,hk⟩:=Zd hk
   obtain⟨hi,hban⟩:=Qk hi
   obtain⟨hi,hnd⟩:=Qk hi
   obtain⟨htk,hfind⟩:=q7l hpk
   intro KK Q hKK
   have hfn:=z9m (n:=n) h.slots h.glob fo
   rw[hf] at hfn
   generalize hfv:ev n f fo=fv at hfn
   cases hfn with
   |fn _ a b _ _ hl ha hl' hb=>
    obtain⟨hlen,hreps⟩:=j0c hl ha hl' hb (vs:=args.toList.map (ev n f)) (ss:=args.toList.map (evS n ro st)) (by simp) (fun j v s hj hk=>by
     rw[List.getElem?_map] at hj hk
     rcases hq:args.toList[j]? with _|x
     ·rw[hq] at hj;cases hj
     ·rw[hq] at hj hk;cases hj;cases hk;exact z9m h.slots h.glob x)
    have hrun:=z3q (w:=w) ho hfv (hE.inl g hi)
    generalize j4e ro st (first++args.toList.map (evS n ro st)++cap)=tk at hk hnd hban htk
    obtain⟨ins,rest,hp,h1,h2⟩:=h.objs.takes (tlo:=tko) (by rw[htk];exact Rt hnd) hfind
    obtain⟨r1,r2,rfl,hr1,hr2⟩:=h2.split
    have hS:St cx w σ ((ins++r2)++r1):=h.mem.perm (hp.trans (by rw[List.append_assoc];exact List.perm_append_comm.append_left ins))
    have hG1:G E.D ⟨w,σ,feet (ins++r2)⟩ ν0 ro {slots:=st.slots,objs:=tko,next:=st.next} f w ν σ (ins++r2):=⟨hS.inner,h1.append hr2,h.slots,h.fresh,h.ext,h.glob⟩
    unfold Oper.wp
    rw[Wl,hrun,Oper.upon_enter]
    refine hin hro hk hG1 hlen hreps fun st' s v w' ν' σ' ms' hk' hsl hs hG hx hsub=> ?_
    rw[q16] at hk'
    show KK ((mk n f).put o.dst v) w'
    rw[q17]
    obtain⟨ma,mb,rfl,hma,hmb⟩:=hG.objs.split
    have hG2:G E.D cx ν0 ro {slots:=st'.slots,objs:=st'.objs++Un st.objs tk,next:=st'.next} f w' ν' σ' ((ma++r1)++mb):=
     ⟨(hS.callM hG.mem rfl).perm (by rw[List.append_assoc,List.append_assoc];exact List.perm_append_comm.append_left ma),(hma.append (by rw[←htk];exact hr1.mono hx hsub)).append hmb,hG.slots,hG.fresh,hG.ext,hG.glob⟩
    obtain⟨st2,hk2,_,_,hG3⟩:=hG2.put hs hk'
    refine hKK [] st2 _ w' ν' σ' _ hk2 hG3 hx hsub ⟨_,rfl⟩ (.inr ⟨_,hban,fun b o a v ho hf hfz hv hbk=> ?_⟩)
    rw[List.mem_append,not_or] at ho
    have hnr:Qr ro.objs o=none:=by
     cases hq:Qr ro.objs o with
     |none=>rfl
     |some c=>exact absurd (List.mem_map.2 ⟨_,q77 hq,rfl⟩) ho.2
    have hf1:Qr (Un st.objs (tko.map (·.1))) o=some a:=by
     rw[htk,q23 ho.1]
     rw[Jv,hnr] at hf
     cases hq:Qr st.objs o with
     |none=>rw[hq] at hf;cases hf
     |some c=>rw[hq] at hf;exact hf
    obtain⟨m,hm,hr⟩:=hr1.find hf1
    have hmo:=hS.own m (by simp[hm])
    have hmb':=hr.foot' hmo hfz hv hbk
    refine hG.mem.keeps.block b (m.lt w b hmo hmb') fun hmem=> ?_
    obtain⟨m',hm',hmb2⟩:=U2.1 hmem
    exact (List.pairwise_append.1 hS.sep).2.2 m' hm' m hm b hmb2 hmb'
 ·rename_i op hop
  cases hb:z7o (lzE E o) (obS ro st) (evS n ro st) o.op with
  |true=>rw[hb] at hk;simp only[q16] at hk;exact j22 hE.hP h hk
  |false=>
   rw[hb] at hk
   cases hwr:wrpE E o with
   |true=>rw[hwr] at hk;exact j23 h hk
   |false=>rw[hwr] at hk;exact z9p hE.hP h hk
theorem j8o{E:Ev S}(hE:EvOk E)(b:Nat):EvOk (E.at b):=⟨hE.hP,hE.mix,hE.con,hE.inl⟩
theorem j6r{a b:SV S}(h:refQ a b=true):a=b:=by
 unfold refQ at h
 split at h
 ·obtain⟨h1,h2⟩:=Qk h
  rw[Nat.eq_of_beq_eq_true h1,Nat.eq_of_beq_eq_true h2]
 ·cases h
theorem q04{nm:Nat}: ∀{l:List (Item S)},q3d nm l=true->q3d nm (q22 l)=true
 |[],_=>rfl
 |(.slot j,kd)::l,h=>q04 (l:=l) h
 |(.obj o,kd)::l,h=>by
  obtain⟨h1,h2⟩:=Qk h
  simp only[q22,q3d,h1,q04 h2,Bool.and_self]
 |(.cell o i,kd)::l,h=>by
  obtain⟨h1,h2⟩:=Qk h
  simp only[q22,q3d,h1,q04 h2,Bool.and_self]
theorem RoE.out{sp:Spec S}{νe:Nm}{ro:Ro S}{nm:Nat}(h:RoE D ν0 νe ro sp nm)(hc:sp.cobj=[]):RoE D ν0 νe ro (q4q sp) nm:=
 ⟨h.dom,h.ext,h.slots,h.objs,fun q hq=>(by rw[show (q4q sp).cobj=sp.cobj from rfl,hc] at hq;cases hq),h.cobj,q04 h.lt,h.clt⟩
theorem j0e{lkc:Nat->Nat->SV S}{nx o:Nat}{a:AO S}{m:HObj}(hf: ∀o,nx<=o->ν o=none)(h:ORep D ν σ lkc o a m):o<nx:=by
 have hn: ∃v,ν o=some v:=by
  cases a with
  |cells ty l=>obtain⟨b,cs,h1,_⟩:=h;exact⟨_,h1⟩
  |vec e T l=>obtain⟨v,xs,h1,_⟩:=h;exact⟨_,h1⟩
  |frz T l=>obtain⟨v,h1,_⟩:=h;exact⟨_,h1⟩
  |arr ty T N l=>obtain⟨b,cs,h1,_⟩:=h;exact⟨_,h1⟩
  |map K V F=>obtain⟨b,m,h1,_⟩:=h;exact⟨_,h1⟩
  |iter K V F done cur=>obtain⟨r,b,es,clock,cv,h1,_⟩:=h;exact⟨_,h1⟩
  |siter s pos=>obtain⟨r,h1,_⟩:=h;exact⟨_,h1⟩
 obtain⟨v,hv⟩:=hn
 rcases Nat.lt_or_ge o nx with hlt|hge
 ·exact hlt
 ·rw[hf o hge] at hv;cases hv
theorem q7m{lkc:Nat->Nat->SV S}{nx:Nat}(hf: ∀o,nx<=o->ν o=none): ∀{l:List (Item S)} {os:List (Nat×AO S)},(∀o a,Qr os o=some a-> ∃m,ORep D ν σ lkc o a m)->z9l os l=true->q3d nx l=true
 |[],_,_,_=>rfl
 |(.slot j,kd)::l,os,hr,h=>q7m hf (l:=l) hr h
 |(.obj o,kd)::l,os,hr,h=>by
  obtain⟨h1,h2⟩:=Qk h
  obtain⟨a,ha⟩:=Option.isSome_iff_exists.1 h1
  obtain⟨m,hm⟩:=hr o a ha
  simp only[q3d,q7m hf hr h2,Bool.and_true,Nat.blt_eq]
  exact j0e hf hm
 |(.cell o i,kd)::l,os,hr,h=>by
  obtain⟨h1,h2⟩:=Qk h
  obtain⟨a,ha⟩:=Option.isSome_iff_exists.1 h1
  obtain⟨m,hm⟩:=hr o a ha
  simp only[q3d,q7m hf hr h2,Bool.and_true,Nat.blt_eq]
  exact j0e hf hm
theorem G.lockF{sp:Spec S}{ro1 ro':Ro S}{full full':List (SV S)}{vals:List Value}(h:G D cx ν0 ro' st f w ν σ ms)(ho:ro'.objs=ro1.objs)(hc:ro'.cell=ro1.cell)(hgl:ro1.glob=ro'.glob)(hl:ro1.lock=sp.lock)
  (hs: ∀j,hasN sp.lock j=true->ro1.slots j=frlS full j)(hsame:sp.lock.all (fun j=>refQ (frlS full' j) (frlS full j))=true)(hlen:vals.length=full'.length)(hr: ∀(j:Nat) v s,vals[j]? =some v->full'[j]? =some s->SRep D ν σ v s):
  G D ⟨w,σ,feet ms⟩ ν ro1 {slots:=frlS full',objs:=st.objs,next:=st.next} (frl vals) w ν σ ms:=by
 have hmem:St cx w σ (ms++[]):=by rw[List.append_nil];exact h.mem
 refine⟨hmem.inner,by have:=h.objs;rw[ho,hc] at this;exact this,fun j=> ?_,h.fresh,Ext.refl _,⟨hgl.trans h.glob.1,h.glob.2⟩⟩
 have hj:=z5b hlen hr j
 show SRep D ν σ _ (bif hasN ro1.lock j then ro1.slots j else frlS full' j)
 rw[hl]
 cases hb:hasN sp.lock j with
 |false=>exact hj
 |true=>
  rw[cond_true,hs j hb]
  have:j∈sp.lock:=by
   refine Classical.byContradiction fun hn=> ?_
   rw[j6k hn] at hb;cases hb
  rw[←j6r (List.all_eq_true.1 hsame j this)]
  exact hj
theorem j8p{E:Ev S}(hE:EvOk E): ∀fuel,j6q E (inlN E fuel) (fun _=>True):=by
 intro fuel
 induction fuel with
 |zero=>intro g cx ν0 ro st f w ν σ ms full vals k R _ hk;exact hk.elim
 |succ fuel ih=>
  intro g cx ν0 ro st f w ν σ ms full vals k R _ hk h hlen hreps hR
  simp only[inlN] at hk
  split at hk
  case h_2=>exact hk.elim
  rename_i fn hfn
  split at hk
  case h_2=>exact hk.elim
  rename_i c hc
  obtain⟨hs,hk⟩:=Zd hk
  have hmem:St cx w σ (ms++[]):=by rw[List.append_nil];exact h.mem
  have hG:G E.D ⟨w,σ,feet ms⟩ ν {slots:=fun _=> .dead,lock:=[],objs:=ro.objs,cell:=ro.cell,glob:=ro.glob} {slots:=frlS full,objs:=st.objs,next:=st.next} (frl vals) w ν σ ms:=
   ⟨hmem.inner,h.objs,z5b hlen hreps,h.fresh,Ext.refl _,h.glob⟩
  split at hk
  ·have hR2: ∀st' f' w' ν' σ' ms',G E.D ⟨w,σ,feet ms⟩ ν {slots:=fun _=> .dead,lock:=[],objs:=ro.objs,cell:=ro.cell,glob:=ro.glob} st' f' w' ν' σ' ms'->
     (resK E.P E.D fn.ntmps {slots:=fun _=> .dead,lock:=[],objs:=ro.objs,cell:=ro.cell,glob:=ro.glob} st' fn.results.toList fun r=>k {slots:=st.slots,objs:=st'.objs,next:=st'.next} (tupS r))->
     ∃v,(results fn (mk fn.ntmps f').tmps).run E.P w'= .ok v w'/\ ∃u,Ending.returned v= .returned u/\R (.returned u) w':=by
    intro st' f' w' ν' σ' ms' hG' hk'
    obtain⟨ss,vs,hk',hl1,hl2,hr1,hr2⟩:=j4j hE.hP hG' hk'
    refine⟨retV vs,q3x hl2 hr2,_,rfl,hR _ _ _ w' ν' σ' (ms'++[]) hk' rfl (j0b hl1 hr1) ⟨hmem.callM hG'.mem rfl,?_,fun j=>(h.slots j).mono hG'.ext hG'.mem.sub,hG'.fresh,h.ext.trans hG'.ext,q4r h.glob hG'.mem.sub⟩ hG'.ext hG'.mem.sub⟩
    rw[List.append_nil];exact hG'.objs
   refine Calls.mono (R:=fun e w=> ∃u,e= .returned u/\R (.returned u) w) ?_ ?_
   ·refine enter hfn hc rfl (by rw[List.size_toArray,hlen];exact hs) (j6l (E:=E.at (1000000*(g+1))) (C:=fun _=>True) (fun _ _ _ _=>trivial) (n:=fn.ntmps) hE.hP hE.mix (z5c (j8o hE (1000000*(g+1))) ih fn.ntmps) trivial hk hG (fun c a w=> ?_) ?_)
    ·rintro⟨_,u,hu,_⟩;cases hu
    ·intro e st' f' w' ν' σ' ms' hk' hG'
     cases e with
     |ret=>
      obtain⟨v,h1,h2⟩:=hR2 _ _ _ _ _ _ hG' hk'
      exact bodyPost_ret h1 q0g h2
     |normal=>
      obtain⟨v,h1,h2⟩:=hR2 _ _ _ _ _ _ hG' hk'
      exact bodyPost_end h1 q0g h2
     |_=>exact hk'.elim
   ·rintro e w' ⟨u,rfl,hu⟩
    exact hu
  ·
   rename_i sp _
   obtain⟨robj,hr,hk⟩:=q59 hk
   obtain⟨hcc,hk⟩:=Zd hk
   obtain⟨hcc,hres⟩:=Qk hcc
   obtain⟨hcc,hcob⟩:=Qk hcc
   have hcob:sp.cobj=[]:=by simpa using hcob
   have hres:fn.results.toList=[]:=by simpa using hres
   have hch:=z04 hcc
   obtain⟨ms1,hG1⟩:=hG.enter hch hr
   have hRE:=hG1.roE hch
   have hG1':G E.D ⟨w,σ,feet ms⟩ ν {roOf sp {slots:=fun _=> .dead,lock:=[],objs:=ro.objs,cell:=ro.cell,glob:=ro.glob} {slots:=frlS full,objs:=st.objs,next:=st.next} robj with stamp:=1} {slots:=frlS full,objs:=Vv sp (Un st.objs sp.robj),next:=st.next} (frl vals) w ν σ ms1:=⟨hG1.mem,hG1.objs,hG1.slots,hG1.fresh,hG1.ext,hG1.glob⟩
   have hRE':RoE E.D ν ν {roOf sp {slots:=fun _=> .dead,lock:=[],objs:=ro.objs,cell:=ro.cell,glob:=ro.glob} {slots:=frlS full,objs:=st.objs,next:=st.next} robj with stamp:=1} sp st.next:=⟨hRE.dom,hRE.ext,hRE.slots,hRE.objs,hRE.cells,hRE.cobj,hRE.lt,hRE.clt⟩
   have hlk:({roOf sp {slots:=fun _=> .dead,lock:=[],objs:=ro.objs,cell:=ro.cell,glob:=ro.glob} {slots:=frlS full,objs:=st.objs,next:=st.next} robj with stamp:=1}:Ro S).lock=sp.lock:=rfl
   have hsl: ∀j,hasN sp.lock j=true->({roOf sp {slots:=fun _=> .dead,lock:=[],objs:=ro.objs,cell:=ro.cell,glob:=ro.glob} {slots:=frlS full,objs:=st.objs,next:=st.next} robj with stamp:=1}:Ro S).slots j=frlS full j:=fun j _=>rfl
   have hleave: ∀{cx':Cx} {a:AS S} {f':Fr} {w':World} {ν':Nm} {σ':Hv} {ms':List HObj},G E.D cx' ν {roOf sp {slots:=fun _=> .dead,lock:=[],objs:=ro.objs,cell:=ro.cell,glob:=ro.glob} {slots:=frlS full,objs:=st.objs,next:=st.next} robj with stamp:=1} a f' w' ν' σ' ms'->G E.D cx' ν {slots:=fun _=> .dead,lock:=[],objs:=ro.objs,cell:=ro.cell,glob:=ro.glob} (z3e sp {slots:=frlS full,objs:=st.objs,next:=st.next} robj a) f' w' ν' σ' ms':=by
    intro cx' a f' w' ν' σ' ms' hg
    exact G.leave hch hr ⟨hg.mem,hg.objs,hg.slots,hg.fresh,hg.ext,hg.glob⟩
   generalize hro1:({roOf sp {slots:=fun _=> .dead,lock:=[],objs:=ro.objs,cell:=ro.cell,glob:=ro.glob} {slots:=frlS full,objs:=st.objs,next:=st.next} robj with stamp:=1}:Ro S)=ro1 at hk hG1' hRE' hlk hsl hleave
   have hst1:ro1.stamp=1:=by rw[←hro1]
   obtain⟨t0,ν2,σ2,ms2,hL,hG2⟩:=q58 hE.hP.ok hRE' hG1' hk
   have main:=hL (fun nm t Y=> ∀(cx:Cx) (ν0 νe:Nm) (vals:List Value) (w:World) (ν:Nm) (σ:Hv) (ms:List HObj),Nat.ble vals.toArray.size fn.ntmps=true->RoE E.D ν0 νe ro1 sp nm->G E.D cx ν0 ro1 (stOf E.D sp nm t) (frl vals) w ν σ ms->
    Calls E.P g vals.toArray w fun e w'=> ∃u v f' ν' σ' ms',e= .returned v/\SRep E.D ν' σ' v (.tup [])/\Y u/\G E.D cx ν0 ro1 (stOf E.D (q4q sp) nm u) f' w' ν' σ' ms') (fun nm t Y hb cx ν0 νe vals w ν σ ms hsz hRE hG=> ?_)
   ·refine Calls.mono (main ⟨w,σ,feet ms⟩ ν ν vals w ν2 σ2 ms2 (by rw[List.size_toArray,hlen];exact hs) hRE' hG2) ?_
    rintro e w' ⟨u,v,f',ν',σ',ms',rfl,hv,hu,hGu⟩
    have hGl:=hleave hGu
    refine hR _ _ v w' ν' σ' (ms'++[]) hu rfl hv ⟨hmem.callM hGl.mem rfl,?_,fun j=>(h.slots j).mono hGl.ext hGl.mem.sub,hGl.fresh,h.ext.trans hGl.ext,q4r h.glob hGl.mem.sub⟩ hGl.ext hGl.mem.sub
    rw[List.append_nil]
    exact hGl.objs
   ·
    have hin:j6q E (hndl E.D g sp ro1 full fun nm t Y=> ∀(cx:Cx) (ν0 νe:Nm) (vals:List Value) (w:World) (ν:Nm) (σ:Hv) (ms:List HObj),Nat.ble vals.toArray.size fn.ntmps=true->RoE E.D ν0 νe ro1 sp nm->G E.D cx ν0 ro1 (stOf E.D sp nm t) (frl vals) w ν σ ms->
      Calls E.P g vals.toArray w fun e w'=> ∃u v f' ν' σ' ms',e= .returned v/\SRep E.D ν' σ' v (.tup [])/\Y u/\G E.D cx ν0 ro1 (stOf E.D (q4q sp) nm u) f' w' ν' σ' ms') (fun r=>r.stamp=1->r=ro1):=by
     intro g' cx ν0 ro' st' f w ν σ ms full' vals k' R hro' hk' h hlen' hreps' hR'
     unfold hndl at hk'
     obtain⟨hcc',hk'⟩:=Zd hk'
     obtain⟨hcc',hoi⟩:=Qk hcc'
     obtain⟨hcc',hsame⟩:=Qk hcc'
     obtain⟨hcc',hfl⟩:=Qk hcc'
     obtain⟨hg',hstm⟩:=Qk hcc'
     have hg':=Nat.eq_of_beq_eq_true hg'
     subst hg'
     have hro':=hro' (Nat.eq_of_beq_eq_true hstm)
     subst hro'
     have hG0:=h.lockF rfl rfl rfl hlk hsl hsame hlen' hreps'
     have hmem':St cx w σ (ms++[]):=by rw[List.append_nil];exact h.mem
     have hRE0:RoE E.D ν ν ro' sp st'.next:=by
      refine⟨fun o v hv=> ?_,Ext.refl ν,fun j hj=> ?_,fun q hq=> ?_,fun q hq=>(by rw[hcob] at hq;cases hq),hRE'.cobj,?_,fun q hq=>(by rw[hcob] at hq;cases hq)⟩
      ·rcases Nat.lt_or_ge o st'.next with hlt|hge
       ·exact hlt
       ·rw[h.fresh o hge] at hv;cases hv
      ·have:=hG0.slots j
       unfold H6 at this
       rw[hj] at this
       exact⟨_,_,this⟩
      ·obtain⟨m1,m2,rfl,h1,h2⟩:=h.objs.split
       obtain⟨m,hm⟩:=h2.mem (o:=q.1) (a:=q.2) hq
       exact⟨σ,m,hm⟩
      ·refine q7m (D:=E.D) (σ:=σ) (lkc:=ro'.cell) h.fresh (fun o a ha=> ?_) hoi
       obtain⟨m,_,hm⟩:=h.objs.find (o:=o) (a:=a) (by rw[Jv,ha])
       exact⟨m,hm⟩
     obtain⟨t,ν3,σ3,ms3,ht,hG3⟩:=q58 hE.hP.ok hRE0 hG0 hk'
     refine Calls.mono (ht _ ν ν vals w ν3 σ3 ms3 (by rw[List.size_toArray,hlen',Nat.eq_of_beq_eq_true hfl];exact hs) hRE0 hG3) ?_
     rintro e w' ⟨u,v,f',ν',σ',ms',rfl,hv,hu,hGu⟩
     refine hR' _ _ v w' ν' σ' (ms'++[]) hu rfl hv ⟨hmem'.callM hGu.mem rfl,?_,fun j=>(h.slots j).mono hGu.ext hGu.mem.sub,hGu.fresh,h.ext.trans hGu.ext,q4r h.glob hGu.mem.sub⟩ hGu.ext hGu.mem.sub
     rw[List.append_nil];exact hGu.objs
    have hout:=hRE.out hcob
    have hfin: ∀st' f' w' ν' σ' ms',G E.D cx ν0 ro1 st' f' w' ν' σ' ms'->endI E.D ro1 (q4q sp) st' Y->
      ∃v,(results fn (mk fn.ntmps f').tmps).run E.P w'= .ok v w'/\ ∃u v' f' ν' σ' ms',Ending.returned v= .returned v'/\SRep E.D ν' σ' v' (.tup [])/\Y u/\G E.D cx ν0 ro1 (stOf E.D (q4q sp) nm u) f' w' ν' σ' ms':=by
     intro st' f' w' ν' σ' ms' hG' hk'
     obtain⟨u,ν3,σ3,ms3,hu,hG3⟩:=q58 hE.hP.ok hout hG' hk'
     refine⟨retV [],q3x (by rw[hres];rfl) (fun i a v hi=>by rw[hres] at hi;cases hi),u,_,f',ν3,σ3,ms3,rfl,?_,hu,hG3⟩
     exact .tup [] [] rfl fun j v s hj=>by cases hj
    refine enter hfn hc rfl hsz (j6l (E:=E.at (1000000*(g+1))) (C:=fun r=>r.stamp=1->r=ro1) (fun _ _ _ _ hst=>by cases hst) (n:=fn.ntmps) hE.hP hE.mix (z5c (j8o hE (1000000*(g+1))) hin fn.ntmps) (fun _=>rfl) hb hG (fun c a w=> ?_) ?_)
    ·rintro⟨_,u,v,_,_,_,_,hu,_⟩;cases hu
    ·intro e st' f' w' ν' σ' ms' hk' hG'
     cases e with
     |ret=>
      obtain⟨v,h1,h2⟩:=hfin _ _ _ _ _ _ hG' hk'
      exact bodyPost_ret h1 q0g h2
     |normal=>
      obtain⟨v,h1,h2⟩:=hfin _ _ _ _ _ _ hG' hk'
      exact bodyPost_end h1 q0g h2
     |_=>exact hk'.elim
theorem j3a{E:Ev S}(hE:EvOk E)(fuel n:Nat):StH E (inlN E fuel) n (fun _=>True):=z5c hE (j8p hE fuel) n
theorem z06: ∀{l:List (SV S)} {k:Nat},resL (fun _=>SV.lk) k l=l
 |[],_=>rfl
 |s::l,k=>by
  rw[U8,z06]
  cases s<;>rfl
def roI(D:Shp S)(os:List (Nat×AO S)):Ro S:={slots:=fun _=> .dead,lock:=[],objs:=[],cell:=fun o i=>match Qr os o with|some (.cells _ l)=>l.getD i .dead|_=> .dead,glob:=D.glob}
theorem z0i{cs:List (Nat×Nat)}{lkc:Nat->Nat->SV S}: ∀{os:List (Nat×AO S)} {ms:List HObj},(∀q∈os,∀ty l,q.2= .cells ty l-> ∀i s,l[i]? =some s->lkc q.1 i=s)->Objs D ν σ (fun _ _=> .lk) os ms->Objs D ν σ lkc (z41 cs os) ms
 |[],ms,_,h=>by cases ms with|nil=>trivial|cons=>exact h.elim
 |(o,a)::os,ms,hq,h=>by
  cases ms with
  |nil=>exact h.elim
  |cons m ms=>
   have ih:=z0i (cs:=cs) (fun q hq'=>hq q (by simp[hq'])) h.2
   have h1:=h.1
   cases a with
   |cells ty l=>
    simp only[z41]
    refine⟨?_,ih⟩
    obtain⟨b,vs,e1,e2,e3⟩:=h1
    refine⟨b,vs,e1,e2,?_⟩
    rw[q8j (h:=fun _=> .lk) (fun i s hi=>by rw[z06] at hi;rw[Nat.zero_add];exact hq (o,.cells ty l) (by simp) ty l rfl i s hi)]
    exact e3
   |vec e T l=>exact⟨h1,ih⟩
   |frz T l=>exact⟨h1,ih⟩
   |arr ty T N l=>exact⟨h1,ih⟩
   |map K V F=>exact⟨h1,ih⟩
   |iter K V F done cur=>exact⟨h1,ih⟩
   |siter s pos=>exact⟨h1,ih⟩
theorem w0o{E:Ev S}(hE:EvOk E)(fuel g:Nat)(pk rk:List (PK S)):Ru E.P E.D g ⟨pk,fnVC E fuel g pk rk⟩:=by
 intro args K hm w σ vals ins hgl hL hS
 simp only[fnVC] at hm
 split at hm
 case h_2=>exact hm.elim
 rename_i fn hfn
 split at hm
 case h_2=>exact hm.elim
 rename_i c ss os nx hc hi
 obtain⟨hs,hm⟩:=Zd hm
 have hD:=hE.hP.ok
 obtain⟨νi,_,hfr,hlen,hreps,hraw,_,hnm,hnd⟩:=q26 (lkc:=fun _ _=> .lk) (ν:=fun _=>none) hL hi (fun _ _=>rfl)
 have hfind: ∀q∈os,Qr os q.1=some q.2:=fun q hq=>q18 hnd hq
 have hG:G E.D ⟨w,σ,feet ins⟩ νi (roI E.D os) {slots:=frlS ss,objs:=z41 (j20 pk ss (Qr os)) os,next:=nx} (frl vals) w νi σ ins:=by
  refine⟨hS,?_,z5b hlen hreps,hfr,Ext.refl _,⟨rfl,hgl⟩⟩
  show Objs E.D νi σ (roI E.D os).cell (z41 (j20 pk ss (Qr os)) os++[]) ins
  rw[List.append_nil]
  refine z0i (fun q hq ty l he i s hs=> ?_) hraw
  have:=hfind q hq
  simp only[roI,this,he,List.getD_eq_getElem?_getD,hs,Option.getD_some]
 have hR: ∀a f' w' ν' σ' ms',G E.D ⟨w,σ,feet ins⟩ νi (roI E.D os) a f' w' ν' σ' ms'->(resK E.P E.D fn.ntmps (roI E.D os) a fn.results.toList fun r=>optK (q4p E.D (obS (roI E.D os) a) (roI E.D os).cell rk r) fun q=>optK (q62 (obS (roI E.D os) a) (Qr os) (roI E.D os).cell pk ss) fun q'=>
   optK (frzs (obS (roI E.D os) a) (q.2.2++q'.2.2)) fun _=>bif q0f (q.2.1++q'.2.1++(q.2.2++q'.2.2)) && inRw a (q.2.1++q'.2.1++(q.2.2++q'.2.2)) then K q.1 q'.1 else False)->
   ∃v,(results fn (mk fn.ntmps f').tmps).run E.P w'= .ok v w'/\Back E.D σ w args vals ins K (.returned v) w':=by
  intro a f' w' ν' σ' ms' hG' hk
  obtain⟨rs,vs,hk,hl1,hl2,hr1,hr2⟩:=j4j hE.hP hG' hk
  refine⟨retV vs,q3x hl2 hr2,?_⟩
  obtain⟨q,hq,hk⟩:=Qc hk
  obtain⟨q',hq',hk⟩:=Qc hk
  obtain⟨fz,hfz,hk⟩:=Qc hk
  obtain⟨hc,hk⟩:=Zd hk
  obtain⟨hndq,hrw⟩:=Qk hc
  obtain⟨rets,tk1,fz1⟩:=q
  obtain⟨outs,tk2,fz2⟩:=q'
  simp only at hfz hndq hrw hk
  have hrw0:=hrw
  rw[Rv,Rv] at hrw0
  obtain⟨hrw1,hrw3⟩:=Qk hrw0
  obtain⟨hrw1,hrw2⟩:=Qk hrw1
  obtain⟨tlo1,ht1,hob1⟩:=q27 (ro:=roI E.D os) hrw1
  obtain⟨tlo2,ht2,hob2⟩:=q27 (ro:=roI E.D os) hrw2
  obtain⟨tlo3,ht3,hob3⟩:=q27 (ro:=roI E.D os) hrw3
  obtain⟨oh,kn,_⟩:=hG'.kn (n:=fn.ntmps)
  have htl:((tlo1++tlo2)++tlo3).map (·.1)=tk1++tk2++(fz1++fz2):=by rw[List.map_append,List.map_append,ht1,ht2,ht3]
  obtain⟨insA,rest,hp,ho,_⟩:=hG'.objs.takes (tlo:=(tlo1++tlo2)++tlo3) (by rw[htl];exact Rt hndq) (fun q hq=>by
   have hqm:q.1∈tk1++tk2++(fz1++fz2):=by rw[←htl];exact List.mem_map.2 ⟨q,hq,rfl⟩
   obtain⟨x,hx⟩:=z3g hrw q.1 hqm
   refine z9o (ro:=roI E.D os) hx ?_
   rcases List.mem_append.1 hq with hq|hq
   ·rcases List.mem_append.1 hq with hq|hq
    ·exact hob1 q hq
    ·exact hob2 q hq
   ·exact hob3 q hq)
  obtain⟨i12,i3,rfl,ho12,ho3⟩:=ho.split
  obtain⟨i1,i2,rfl,ho1,ho2⟩:=ho12.split
  have hS1:St ⟨w,σ,feet ins⟩ w' σ' ((i1++i2)++i3):=(hG'.mem.perm hp).sublist (List.sublist_append_left _ _)
  obtain⟨σ2,m3,hS2,hsub2,hofz⟩:=Rp hD hfz ht3 hob3 ho3 hS1
  have hrep:=q5z hfz hofz
  have hor: ∀o x,obS (roI E.D os) a o=some x->ORep E.D ν' σ2 (roI E.D os).cell o x (oh o):=fun o x ho=>(kn.o o x ho).1.mono (Ext.refl _) hsub2
  obtain⟨m1,hLr,hN1⟩:=q19 hD hor hl1 (fun j v s hj hk=>(hr1 j v s hj hk).mono (Ext.refl _) hsub2) hq ht1 hob1 (ho1.mono (Ext.refl _) hsub2) (fun o e T l v hm=>hrep o e T l v (by simp[hm]))
  obtain⟨m2,hLt,hN2⟩:=j28 (ν0:=νi) (σ0:=σ) (w0:=w) (os:=Qr os) hD hor (fun o ty l hf=>by
    obtain⟨m,hm,b,cs,e1,e2,e3⟩:=hraw.find hf
    rw[z06] at e3
    exact⟨b,cs,e1,e3,by rw[←e2];exact hS.own m hm⟩) (fun o ty l hf j=>by simp only[roI,hf]) hG'.ext (hS2.sub) hL hi hfind (fun q hq=>hS.own q hq) hlen hreps hq' ht2 hob2 (ho2.mono (Ext.refl _) hsub2) (fun o e T l v hm=>hrep o e T l v (by simp[hm]))
  have hS3:St ⟨w,σ,feet ins⟩ w' σ2 ((i1++i2)++[]):=by rw[List.append_nil];exact hS2.sublist (List.sublist_append_left _ _)
  have hS4:=(hN1.append hN2) _ _ _ _ hS3
  rw[List.append_nil] at hS4
  exact⟨rets,outs,vs,σ2,m1,m2,rfl,hk,hLr,hLt,hS4⟩
 refine enter hfn hc rfl (by rw[List.size_toArray,hlen];exact hs) (j6l (C:=fun _=>True) (fun _ _ _ _=>trivial) (n:=fn.ntmps) hE.hP hE.mix (j3a hE fuel fn.ntmps) trivial hm hG (fun c a w=> ?_) ?_)
 ·rintro⟨_,_,_,_,_,_,_,hu,_⟩;cases hu
 ·intro e st' f' w' ν' σ' ms' hk' hG'
  cases e with
  |ret=>
   obtain⟨v,h1,h2⟩:=hR _ _ _ _ _ _ hG' hk'
   exact bodyPost_ret h1 q0g h2
  |normal=>
   obtain⟨v,h1,h2⟩:=hR _ _ _ _ _ _ hG' hk'
   exact bodyPost_end h1 q0g h2
  |_=>exact hk'.elim
end Go.Fx
end
noncomputable section
set_option maxRecDepth 100000
section
namespace Go.Fx
open Go Go.RowKit Go.Fl Go.Fl.Lk
variable {S:Sig}{A:Type}
def Ev.with(E:Ev S)(g:Nat)(c:Con S):Ev S:={E with con:=fun k=>bif Nat.beq k g then some c else E.con k}
theorem j0f{E:Ev S}(hE:EvOk E){g:Nat}{c:Con S}(hen:Ent E.P g)(hc:Ru E.P E.D g c):EvOk (E.with g c):=by
 refine⟨hE.hP,hE.mix,fun k c' hk=> ?_,hE.inl⟩
 simp only[Ev.with] at hk
 cases hb:Nat.beq k g with
 |true=>
  rw[hb] at hk
  cases hk
  rw[Nat.eq_of_beq_eq_true hb]
  exact⟨hen,hc⟩
 |false=>rw[hb] at hk;exact hE.con k c' hk
end Go.Fx
end
section
namespace Go.Fx
open Go Go.RowKit Go.Fl Go.Fl.Lk
variable {S:Sig}
inductive VT(S:Sig):Type where
 |int (k:IntKind)
 |bool
 |str
 |ifc
 |sl (T:S.C)
 |vec (e:TypeId) (T:S.C)
 |kvec (e:TypeId) (T:S.C)
 |el (T:S.C)
 |map (K V:S.C)
 |same
 |ptr (ty:TypeId) (l:List (VT S))
mutual
def VT.ty:VT S->Type
 | .int _=>Int
 | .bool=>Bool
 | .str=>ByteArray
 | .ifc=>Bool
 | .sl T=>List (S.car T)
 | .vec _ T=>List (S.car T)
 | .kvec _ T=>List (S.car T)
 | .el T=>S.car T
 | .map K V=>S.car K->Option (S.car V)
 | .same=>Unit
 | .ptr _ l=>TL l
def TL:List (VT S)->Type
 |[]=>Unit
 |v::l=>v.ty×TL l
end
mutual
def VT.put:(v:VT S)->v.ty->Tr S
 | .int k,x=> .f (.int k x)
 | .bool,x=> .f (.bool x)
 | .str,x=> .f (.str x)
 | .ifc,x=> .f (.ifc x)
 | .sl T,x=> .f (.sl T x)
 | .vec e T,x=> .vec e T x
 | .kvec e T,x=> .kvec e T x
 | .el T,x=> .el T x
 | .map K V,x=> .map K V x
 | .same,_=> .same
 | .ptr ty l,x=> .ptr ty (putL l x)
def putL:(l:List (VT S))->TL l->List (Tr S)
 |[],_=>[]
 |v::l,x=>v.put x.1::putL l x.2
end
mutual
def VT.get:(v:VT S)->Tr S->Option v.ty
 | .int k,t=>match t with
  | .f (.int k' n)=>bif k'==k then some n else none
  |_=>none
 | .bool,t=>match t with
  | .f (.bool b)=>some b
  |_=>none
 | .str,t=>match t with
  | .f (.str b)=>some b
  |_=>none
 | .ifc,t=>match t with
  | .f (.ifc b)=>some b
  |_=>none
 | .sl T,t=>match t with
  | .f (.sl T' l)=>match S.dec T' T with
   |isTrue h=>some (h▸l)
   |isFalse _=>none
  |_=>none
 | .vec e T,t=>match t with
  | .vec e' T' l=>bif Nat.beq e' e then (match S.dec T' T with
   |isTrue h=>some (h▸l)
   |isFalse _=>none) else none
  |_=>none
 | .kvec e T,t=>match t with
  | .kvec e' T' l=>bif Nat.beq e' e then (match S.dec T' T with
   |isTrue h=>some (h▸l)
   |isFalse _=>none) else none
  |_=>none
 | .el T,t=>match t with
  | .el T' l=>match S.dec T' T with
   |isTrue h=>some (h▸l)
   |isFalse _=>none
  |_=>none
 | .map K V,t=>match t with
  | .map K' V' F=>match S.dec K' K,S.dec V' V with
   |isTrue h,isTrue h'=>some (h▸h'▸F)
   |_,_=>none
  |_=>none
 | .same,t=>match t with
  | .same=>some ()
  |_=>none
 | .ptr ty l,t=>match t with
  | .ptr ty' ts=>bif Nat.beq ty' ty then getL l ts else none
  |_=>none
def getL:(l:List (VT S))->List (Tr S)->Option (TL l)
 |[],[]=>some ()
 |v::l,t::ts=>match v.get t,getL l ts with
  |some x,some y=>some (x,y)
  |_,_=>none
 |_,_=>none
end
theorem q7n{α:Type}{c:Bool}{x:Option α}{y:α}(h:(bif c then x else none)=some y):c=true/\x=some y:=by
 cases c with
 |true=>exact⟨rfl,h⟩
 |false=>cases h
theorem w0p{a b:IntKind}(h:(a==b)=true):a=b:=by cases a<;>cases b<;>first|rfl|exact absurd h (by decide)
mutual
theorem VT.get_put: ∀{v:VT S} {t:Tr S} {x:v.ty},v.get t=some x->v.put x=t
 | .int k,t,x,h=>by
  unfold VT.get at h
  split at h
  case h_2=>cases h
  obtain⟨h1,h2⟩:=q7n h
  cases h2
  rw[w0p h1];rfl
 | .bool,t,x,h=>by
  unfold VT.get at h
  split at h
  case h_2=>cases h
  cases h;rfl
 | .str,t,x,h=>by
  unfold VT.get at h
  split at h
  case h_2=>cases h
  cases h;rfl
 | .ifc,t,x,h=>by
  unfold VT.get at h
  split at h
  case h_2=>cases h
  cases h;rfl
 | .sl T,t,x,h=>by
  unfold VT.get at h
  split at h
  case h_2=>cases h
  split at h
  case h_2=>cases h
  rename_i e _
  subst e
  cases h;rfl
 | .vec e T,t,x,h=>by
  unfold VT.get at h
  split at h
  case h_2=>cases h
  obtain⟨h1,h⟩:=q7n h
  split at h
  case h_2=>cases h
  rename_i e _
  subst e
  cases h
  rw[Nat.eq_of_beq_eq_true h1];rfl
 | .kvec e T,t,x,h=>by
  unfold VT.get at h
  split at h
  case h_2=>cases h
  obtain⟨h1,h⟩:=q7n h
  split at h
  case h_2=>cases h
  rename_i e _
  subst e
  cases h
  rw[Nat.eq_of_beq_eq_true h1];rfl
 | .el T,t,x,h=>by
  unfold VT.get at h
  split at h
  case h_2=>cases h
  split at h
  case h_2=>cases h
  rename_i e _
  subst e
  cases h;rfl
 | .map K V,t,x,h=>by
  unfold VT.get at h
  split at h
  case h_2=>cases h
  split at h
  case h_2=>cases h
  rename_i e1 e2 _ _
  subst e1 e2
  cases h;rfl
 | .same,t,x,h=>by
  unfold VT.get at h
  split at h
  case h_2=>cases h
  rfl
 | .ptr ty l,t,x,h=>by
  unfold VT.get at h
  split at h
  case h_2=>cases h
  obtain⟨h1,h⟩:=q7n h
  rw[←Vd h,Nat.eq_of_beq_eq_true h1];rfl
theorem Vd: ∀{l:List (VT S)} {ts:List (Tr S)} {x:TL l},getL l ts=some x->putL l x=ts
 |[],ts,x,h=>by
  cases ts with
  |nil=>rfl
  |cons=>cases h
 |v::l,ts,x,h=>by
  cases ts with
  |nil=>cases h
  |cons t ts=>
   simp only[getL] at h
   split at h
   case h_2=>cases h
   rename_i a b h1 h2
   cases h
   show v.put a::putL l b=t::ts
   rw[VT.get_put h1,Vd h2]
end
def conV(pk:List (PK S))(av rv ov:List (VT S))(P:TL av->(TL rv->TL ov->Prop)->Prop):Con S:=
 ⟨pk,fun args K=>optK (getL av args) fun a=>P a fun r o=>K (putL rv r) (putL ov o)⟩
def fnV(E:Ev S)(fuel g:Nat)(pk rk:List (PK S))(av rv ov:List (VT S))(a:TL av)(K:TL rv->TL ov->Prop):Prop:=
 fnVC E fuel g pk rk (putL av a) fun rets outs=>optK (getL rv rets) fun r=>optK (getL ov outs) fun o=>K r o
theorem Back.mono{D:Shp S}{σ:Hv}{w:World}{args:List (Tr S)}{vals:List Value}{ins:List HObj}{K K':List (Tr S)->List (Tr S)->Prop}{e:Ending}{w1:World}(h: ∀r o,K r o->K' r o):Back D σ w args vals ins K e w1->Back D σ w args vals ins K' e w1:=by
 rintro⟨rets,outs,rv,σ1,msr,mso,h1,h2,h3⟩
 exact⟨rets,outs,rv,σ1,msr,mso,h1,h _ _ h2,h3⟩
theorem j6s{rv ov:List (VT S)}{K:List (Tr S)->List (Tr S)->Prop}{rets outs:List (Tr S)}(h:optK (getL rv rets) fun r=>optK (getL ov outs) fun o=>K (putL rv r) (putL ov o)):K rets outs:=by
 obtain⟨r,hr,h⟩:=Qc h
 obtain⟨o,ho,h⟩:=Qc h
 rw[Vd hr,Vd ho] at h
 exact h
theorem j4k{E:Ev S}(hE:EvOk E){fuel g:Nat}{pk rk:List (PK S)}{av rv ov:List (VT S)}{a:TL av}{K:TL rv->TL ov->Prop}(h:fnV E fuel g pk rk av rv ov a K){w:World}{σ:Hv}{vals:List Value}{ins:List HObj}
  (hgl:Glb E.D σ)(hL:LayL E.D σ (putL av a) vals ins)(hS:St ⟨w,σ,feet ins⟩ w σ ins):Calls E.P g vals.toArray w (Back E.D σ w (putL av a) vals ins fun rets outs=>optK (getL rv rets) fun r=>optK (getL ov outs) fun o=>K r o):=
 w0o hE fuel g pk rk (putL av a) (fun rets outs=>optK (getL rv rets) fun r=>optK (getL ov outs) fun o=>K r o) h w σ vals ins hgl hL hS
theorem j8q{E:Ev S}(hE:EvOk E)(fuel g:Nat)(pk rk:List (PK S))(av rv ov:List (VT S)):Ru E.P E.D g (conV pk av rv ov (fnV E fuel g pk rk av rv ov)):=by
 intro args K hm w σ vals ins hgl hL hS
 obtain⟨a,ha,hm2⟩:=Qc hm
 have hw:=Vd ha
 subst hw
 exact Calls.mono (j4k hE hm2 hgl hL hS) fun e w1 h=>h.mono fun r o h=>j6s h
def fixV(E:Ev S)(fuel g:Nat)(pk rk:List (PK S))(av rv ov:List (VT S))(a:TL av)(K:TL rv->TL ov->Prop):Prop:=
 ∀X:TL av->(TL rv->TL ov->Prop)->Prop,(∀a K,fnV (E.with g (conV pk av rv ov X)) fuel g pk rk av rv ov a K->X a K)->X a K
theorem j8r{E:Ev S}(hE:EvOk E){fuel g:Nat}{pk rk:List (PK S)}{av rv ov:List (VT S)}(hen:Ent E.P g):Ru E.P E.D g (conV pk av rv ov (fixV E fuel g pk rk av rv ov)):=by
 intro args K hm w σ vals ins hgl hL hS
 obtain⟨a,ha,hm2⟩:=Qc hm
 have hw:=Vd ha
 subst hw
 have key:=hm2 (fun a K=> ∀(w:World) (σ:Hv) (vals:List Value) (ins:List HObj),Glb E.D σ->LayL E.D σ (putL av a) vals ins->St ⟨w,σ,feet ins⟩ w σ ins->Calls E.P g vals.toArray w (Back E.D σ w (putL av a) vals ins fun rets outs=>optK (getL rv rets) fun r=>optK (getL ov outs) fun o=>K r o)) (fun a K hvc=>by
  intro w σ vals ins hgl hL hS
  refine j4k (j0f hE hen ?_) hvc hgl hL hS
  intro args K hm w σ vals ins hgl hL hS
  obtain⟨a,ha,hm2⟩:=Qc hm
  have hw:=Vd ha
  subst hw
  exact Calls.mono (hm2 w σ vals ins hgl hL hS) fun e w1 h=>h.mono fun r o h=>j6s h) w σ vals ins hgl hL hS
 exact Calls.mono key fun e w1 h=>h.mono fun r o h=>j6s h
theorem z7v{P:Program}{D:Shp S}{g:Nat}{pk:List (PK S)}{av rv ov:List (VT S)}{A B:TL av->(TL rv->TL ov->Prop)->Prop}(h: ∀a K,A a K->B a K)(hB:Ru P D g (conV pk av rv ov B)):Ru P D g (conV pk av rv ov A):=by
 intro args K hm
 obtain⟨a,ha,hm2⟩:=Qc hm
 refine hB args K ?_
 show optK (getL av args) _
 rw[ha]
 exact h a _ hm2
def Ev.pl(E:Ev S)(p:Nat->Option (Spec S)):Ev S:={E with plan:=p}
theorem j8s{E:Ev S}(hE:EvOk E)(p:Nat->Option (Spec S)):EvOk (E.pl p):=⟨hE.hP,hE.mix,hE.con,hE.inl⟩
theorem j8t {P:Program} {g:Nat} {fn:Func} {c:Code} (hf:P.funcs[g]? =some fn) (hn:(fn.name== "runtime.NumGoroutine")=false) (hb:fn.body=some c):Ent P g:=by
 intro args w
 have h1:fn.name≠ "runtime.NumGoroutine" :=by simpa using hn
 simp[callFunc,hf,h1,hb]
theorem LpH.ind{T:Type}{body:T->(T->Prop)->Prop}(I:T->Prop)(m:T->Nat)(h: ∀t,I t->body t (fun t'=>I t'/\m t'<m t)){t:T}(h0:I t):LpH body t:=by
 intro X hX
 have key: ∀(k:Nat) (t:T),m t<=k->I t->X t:=by
  intro k
  induction k with
  |zero=>exact fun t _ hi=>hX t _ (fun t' h=>absurd h.2 (by omega)) (h t hi)
  |succ k ih=>exact fun t hk hi=>hX t _ (fun t' h=>ih t' (by omega) h.1) (h t hi)
 exact key _ t (Nat.le_refl _) h0
end Go.Fx
end
section
namespace Go.Fx
open Go Go.RowKit Go.Fl Go.Fl.Lk
variable {S:Sig}
def Ev3(E:Ev S)(P:Program)(D:Shp S):Prop:=EvOk E/\E.P=P/\E.D=D
theorem w0q{E:Ev S}{P:Program}{D:Shp S}{g:Nat}{c:Con S}(h:Ev3 E P D)(hen:Ent P g)(hc:Ru P D g c):Ev3 (E.with g c) P D:=by
 obtain⟨h,rfl,rfl⟩:=h
 exact⟨j0f h hen hc,rfl,rfl⟩
theorem j8u{E:Ev S}{P:Program}{D:Shp S}(h:Ev3 E P D){p:Nat->Option (Spec S)}{fuel g:Nat}{pk rk:List (PK S)}{av rv ov:List (VT S)}{F:TL av->(TL rv->TL ov->Prop)->Prop}
  (e: ∀a K,F a K=fnV (E.pl p) fuel g pk rk av rv ov a K):Ru P D g (conV pk av rv ov F):=by
 obtain⟨h,rfl,rfl⟩:=h
 have hF:F=fnV (E.pl p) fuel g pk rk av rv ov:=funext fun a=>funext fun K=>e a K
 rw[hF]
 exact j8q (j8s h p) fuel g pk rk av rv ov
theorem j8v{E:Ev S}{P:Program}{D:Shp S}(h:Ev3 E P D){p:Nat->Option (Spec S)}{fuel g:Nat}{pk rk:List (PK S)}{av rv ov:List (VT S)}{F:TL av->(TL rv->TL ov->Prop)->Prop}(hen:Ent P g)
  (e: ∀a K,F a K-> ∀X:TL av->(TL rv->TL ov->Prop)->Prop,(∀a K,fnV ((E.with g (conV pk av rv ov X)).pl p) fuel g pk rk av rv ov a K->X a K)->X a K):Ru P D g (conV pk av rv ov F):=by
 obtain⟨h,rfl,rfl⟩:=h
 exact z7v (fun a K hF=>e a K hF) (j8r (j8s h p) (fuel:=fuel) (rk:=rk) hen)
def entQ(P:Program)(g:Nat):Bool:=match P.funcs[g]? with
 |some fn=> !(fn.name== "runtime.NumGoroutine") && fn.body.isSome
 |none=>false
theorem entB{P:Program}{g:Nat}(h:entQ P g=true):Ent P g:=by
 unfold entQ at h
 split at h
 ·rename_i fn hf
  obtain⟨h1,h2⟩:=Qk h
  obtain⟨c,hc⟩:=Option.isSome_iff_exists.1 h2
  exact j8t hf (by simpa using h1) hc
 ·cases h
structure Mt(P:Program)(D:Shp S)(g:Nat)(c:Con S):Prop where
 e:Ent P g
 m:Ru P D g c
def wlE(E:Ev S):List (Nat×Con S)->Ev S
 |[]=>E
 |q::l=>(wlE E l).with q.1 q.2
abbrev AlE(P:Program)(D:Shp S):List (Nat×Con S)->Prop
 |[]=>True
 |q::l=>Mt P D q.1 q.2/\AlE P D l
theorem alE{E:Ev S}{P:Program}{D:Shp S}(h:Ev3 E P D): ∀{l:List (Nat×Con S)},AlE P D l->Ev3 (wlE E l) P D
 |[],_=>h
 |_::_,hl=>w0q (alE h hl.2) hl.1.e hl.1.m
def blF:Nat->Nat->Nat->List Nat
 |0,_,_=>[]
 |f+1,i,n=>bif Nat.beq n 0 then [] else bif Nat.beq (n % 2) 1 then i::blF f (i+1) (n / 2) else blF f (i+1) (n / 2)
def bl(n:Nat):List Nat:=blF 1000 0 n
mutual
def VT.pk:VT S->PK S
 | .sl T=> .sl T
 | .vec e T=> .own e T
 | .el T=> .el T
 | .map K V=> .map K V
 | .ptr ty l=> .ptr ty (pkL l)
 |_=> .v
def pkL:List (VT S)->List (PK S)
 |[]=>[]
 |v::l=>v.pk::pkL l
end
def noO:(l:List (VT S))->TL (l.map fun _=>(.same:VT S))
 |[]=>()
 |_::l=>((),noO l)
theorem j4l: ∀{l:List (VT S)} (o:TL (l.map fun _=>(.same:VT S))),o=noO l
 |[],_=>rfl
 |_::l,(u,o)=>by rw[j4l o];show (u,noO l)=((),noO l);rfl
def conS(av rv:List (VT S))(F:TL av->(TL rv->Prop)->Prop):Con S:=conV (av.map VT.pk) av rv (av.map fun _=> .same) fun a K=>F a fun r=>K r (noO av)
theorem mtP{E:Ev S}{P:Program}{D:Shp S}(h0:Ev3 E P D){u:Nat}{l:List (Nat×Con S)}(h:AlE P D l){g:Nat}(he:entQ P g=true){p:Nat->Option (Spec S)}{pk rk:List (PK S)}{av rv ov:List (VT S)}{F:TL av->(TL rv->TL ov->Prop)->Prop}
  (e: ∀a K,F a K=fnV ((wlE E l).pl p) u g pk rk av rv ov a K):Mt P D g (conV pk av rv ov F):=⟨entB he,j8u (alE h0 h) e⟩
theorem mtS{E:Ev S}{P:Program}{D:Shp S}(h0:Ev3 E P D){u:Nat}{l:List (Nat×Con S)}(h:AlE P D l){g:Nat}(he:entQ P g=true){p:Nat->Option (Spec S)}{rk:List (PK S)}{av rv:List (VT S)}{F:TL av->(TL rv->Prop)->Prop}
  (e: ∀a K,F a K=fnV ((wlE E l).pl p) u g (av.map VT.pk) rk av rv (av.map fun _=> .same) a fun r _=>K r):Mt P D g (conS av rv F):=by
 refine mtP h0 h he (u:=u) (p:=p) (rk:=rk) fun a K=> ?_
 rw[e]
 have hk:(fun (r:TL rv) (_:TL (av.map fun _=>(.same:VT S)))=>K r (noO av))=K:=funext fun r=>funext fun o=>by rw[j4l o]
 rw[hk]
theorem mtR{E:Ev S}{P:Program}{D:Shp S}(h0:Ev3 E P D){u:Nat}{l:List (Nat×Con S)}(h:AlE P D l){g:Nat}(he:entQ P g=true){p:Nat->Option (Spec S)}{pk rk:List (PK S)}{av rv ov:List (VT S)}{F:TL av->(TL rv->TL ov->Prop)->Prop}
  (e: ∀a K,F a K-> ∀X:TL av->(TL rv->TL ov->Prop)->Prop,(∀a K,fnV (((wlE E l).with g (conV pk av rv ov X)).pl p) u g pk rk av rv ov a K->X a K)->X a K):Mt P D g (conV pk av rv ov F):=⟨entB he,j8v (alE h0 h) (entB he) e⟩
end Go.Fx
end
end
noncomputable section
set_option maxRecDepth 100000
open Go Go.RowKit Go.Fl Go.Fl.Lk Go.Fx
namespace Go.En
structure Val where
 kind:Int
 number:Int
 text:ByteArray
 list:List ByteArray
structure Ex where
 op:Int
 kind:ByteArray
 name:ByteArray
 values:List Val
 kids:List Ex
structure Rng where
 lo:Int
 hi:Int
 variation:Int
structure Srv where
 variation:Int
 kind:ByteArray
 by_:ByteArray
 salt:ByteArray
 split:List Rng
structure Tgt where
 kind:ByteArray
 variation:Int
 keys:List ByteArray
structure Prq where
 flag:ByteArray
 variation:Int
structure Rul where
 name:ByteArray
 cond:Ex
 serve:Srv
structure Flg where
 key:ByteArray
 kind:Int
 variations:List Val
 on:Bool
 off:Int
 needs:List Prq
 targets:List Tgt
 rules:List Rul
 dflt:Srv
structure Seg where
 key:ByteArray
 kind:ByteArray
 incl:List ByteArray
 excl:List ByteArray
 cond:Ex
structure Spn where
 lo:Int
 hi:Int
structure Col where
 lo:Int
 hi:Int
 until_:Int
structure Lay_ where
 key:ByteArray
 kind:ByteArray
 salt:ByteArray
 holdout:Int
 cool:Int
 cooling:List Col
structure Exper where
 key:ByteArray
 layer:ByteArray
 flag:ByteArray
 salt:ByteArray
 status:Int
 claims:List Spn
 arms:List Rng
 cond:Ex
structure Decl where
 kind:ByteArray
 name:ByteArray
 type:Int
structure Sett where
 salt:ByteArray
 holdoutKind:ByteArray
 holdout:Int
structure Envt where
 settings:Sett
 attributes:List Decl
 segments:List Seg
 flags:List Flg
 layers:List Lay_
 experiments:List Exper
structure Edg where
 src:ByteArray
 dst:ByteArray
abbrev Nd:=Int×Int×Int
abbrev A3:=Int×Int×Int
structure Acc where
 lo:Int
 hi:Int
inductive C where|i64|u8|bool|str|u64|strs|val|ex|range|serve|target|prereq|rule|flag|seg|span|cool|layer|exper|decl|settings|env|edge|node|a3|acc deriving DecidableEq
abbrev car:C->Type
 | .i64=>Int
 | .u8=>Int
 | .bool=>Bool
 | .str=>ByteArray
 | .u64=>Int
 | .strs=>List ByteArray
 | .val=>Val
 | .ex=>Ex
 | .range=>Rng
 | .serve=>Srv
 | .target=>Tgt
 | .prereq=>Prq
 | .rule=>Rul
 | .flag=>Flg
 | .seg=>Seg
 | .span=>Spn
 | .cool=>Col
 | .layer=>Lay_
 | .exper=>Exper
 | .decl=>Decl
 | .settings=>Sett
 | .env=>Envt
 | .edge=>Edg
 | .node=>Nd
 | .a3=>A3
 | .acc=>Acc
abbrev Sg:Sig:=⟨C,car,inferInstance⟩
inductive Kf where|i (k:IntKind)|b|s|l (T:C)
abbrev Kf.ty:Kf->Type
 | .i _=>Int
 | .b=>Bool
 | .s=>ByteArray
 | .l T=>List (car T)
abbrev HK:List Kf->Type
 |[]=>Unit
 |k::l=>k.ty×HK l
def kdC:C->List Kf
 | .i64=>[.i .i64]
 | .u8=>[.i .u8]
 | .bool=>[.b]
 | .str=>[.s]
 | .u64=>[.i .u64]
 | .strs=>[.l .str]
 | .val=>[.i .i64,.i .i64,.s,.l .str]
 | .ex=>[.i .i64,.s,.s,.l .val,.l .ex]
 | .range=>[.i .i64,.i .i64,.i .i64]
 | .serve=>[.i .i64,.s,.s,.s,.l .range]
 | .target=>[.s,.i .i64,.l .str]
 | .prereq=>[.s,.i .i64]
 | .rule=>[.s,.i .i64,.s,.s,.l .val,.l .ex,.i .i64,.s,.s,.s,.l .range]
 | .flag=>[.s,.i .i64,.l .val,.b,.i .i64,.l .prereq,.l .target,.l .rule,.i .i64,.s,.s,.s,.l .range]
 | .seg=>[.s,.s,.l .str,.l .str,.i .i64,.s,.s,.l .val,.l .ex]
 | .span=>[.i .i64,.i .i64]
 | .cool=>[.i .i64,.i .i64,.i .i64]
 | .layer=>[.s,.s,.s,.i .i64,.i .i64,.l .cool]
 | .exper=>[.s,.s,.s,.s,.i .i64,.l .span,.l .range,.i .i64,.s,.s,.l .val,.l .ex]
 | .decl=>[.s,.s,.i .i64]
 | .settings=>[.s,.s,.i .i64]
 | .env=>[.s,.s,.i .i64,.l .decl,.l .seg,.l .flag,.l .layer,.l .exper]
 | .edge=>[.s,.s]
 | .node=>[.i .i64,.i .i64,.i .i64]
 | .a3=>[.i .i64,.i .i64,.i .i64]
 | .acc=>[.i .u8,.i .u8]
def flC:(T:C)->car T->HK (kdC T)
 | .i64,x=>(x,())
 | .u8,x=>(x,())
 | .bool,x=>(x,())
 | .str,x=>(x,())
 | .u64,x=>(x,())
 | .strs,x=>(x,())
 | .val,x=>(x.1,x.2,x.3,x.4,())
 | .ex,x=>(x.1,x.2,x.3,x.4,x.5,())
 | .range,x=>(x.1,x.2,x.3,())
 | .serve,x=>(x.1,x.2,x.3,x.4,x.5,())
 | .target,x=>(x.1,x.2,x.3,())
 | .prereq,x=>(x.1,x.2,())
 | .rule,x=>(x.1,x.2.1,x.2.2,x.2.3,x.2.4,x.2.5,x.3.1,x.3.2,x.3.3,x.3.4,x.3.5,())
 | .flag,x=>(x.1,x.2,x.3,x.4,x.5,x.6,x.7,x.8,x.9.1,x.9.2,x.9.3,x.9.4,x.9.5,())
 | .seg,x=>(x.1,x.2,x.3,x.4,x.5.1,x.5.2,x.5.3,x.5.4,x.5.5,())
 | .span,x=>(x.1,x.2,())
 | .cool,x=>(x.1,x.2,x.3,())
 | .layer,x=>(x.1,x.2,x.3,x.4,x.5,x.6,())
 | .exper,x=>(x.1,x.2,x.3,x.4,x.5,x.6,x.7,x.8.1,x.8.2,x.8.3,x.8.4,x.8.5,())
 | .decl,x=>(x.1,x.2,x.3,())
 | .settings,x=>(x.1,x.2,x.3,())
 | .env,x=>(x.1.1,x.1.2,x.1.3,x.2,x.3,x.4,x.5,x.6,())
 | .edge,x=>(x.1,x.2,())
 | .node,x=>(x.1,x.2.1,x.2.2,())
 | .a3,x=>(x.1,x.2.1,x.2.2,())
 | .acc,x=>(x.1,x.2,())
def mkC:(T:C)->HK (kdC T)->car T
 | .i64,x=>x.1
 | .u8,x=>x.1
 | .bool,x=>x.1
 | .str,x=>x.1
 | .u64,x=>x.1
 | .strs,x=>x.1
 | .val,x=>⟨x.1,x.2.1,x.2.2.1,x.2.2.2.1⟩
 | .ex,x=>⟨x.1,x.2.1,x.2.2.1,x.2.2.2.1,x.2.2.2.2.1⟩
 | .range,x=>⟨x.1,x.2.1,x.2.2.1⟩
 | .serve,x=>⟨x.1,x.2.1,x.2.2.1,x.2.2.2.1,x.2.2.2.2.1⟩
 | .target,x=>⟨x.1,x.2.1,x.2.2.1⟩
 | .prereq,x=>⟨x.1,x.2.1⟩
 | .rule,x=>⟨x.1,⟨x.2.1,x.2.2.1,x.2.2.2.1,x.2.2.2.2.1,x.2.2.2.2.2.1⟩,⟨x.2.2.2.2.2.2.1,x.2.2.2.2.2.2.2.1,x.2.2.2.2.2.2.2.2.1,x.2.2.2.2.2.2.2.2.2.1,x.2.2.2.2.2.2.2.2.2.2.1⟩⟩
 | .flag,x=>⟨x.1,x.2.1,x.2.2.1,x.2.2.2.1,x.2.2.2.2.1,x.2.2.2.2.2.1,x.2.2.2.2.2.2.1,x.2.2.2.2.2.2.2.1,⟨x.2.2.2.2.2.2.2.2.1,x.2.2.2.2.2.2.2.2.2.1,x.2.2.2.2.2.2.2.2.2.2.1,x.2.2.2.2.2.2.2.2.2.2.2.1,x.2.2.2.2.2.2.2.2.2.2.2.2.1⟩⟩
 | .seg,x=>⟨x.1,x.2.1,x.2.2.1,x.2.2.2.1,⟨x.2.2.2.2.1,x.2.2.2.2.2.1,x.2.2.2.2.2.2.1,x.2.2.2.2.2.2.2.1,x.2.2.2.2.2.2.2.2.1⟩⟩
 | .span,x=>⟨x.1,x.2.1⟩
 | .cool,x=>⟨x.1,x.2.1,x.2.2.1⟩
 | .layer,x=>⟨x.1,x.2.1,x.2.2.1,x.2.2.2.1,x.2.2.2.2.1,x.2.2.2.2.2.1⟩
 | .exper,x=>⟨x.1,x.2.1,x.2.2.1,x.2.2.2.1,x.2.2.2.2.1,x.2.2.2.2.2.1,x.2.2.2.2.2.2.1,⟨x.2.2.2.2.2.2.2.1,x.2.2.2.2.2.2.2.2.1,x.2.2.2.2.2.2.2.2.2.1,x.2.2.2.2.2.2.2.2.2.2.1,x.2.2.2.2.2.2.2.2.2.2.2.1⟩⟩
 | .decl,x=>⟨x.1,x.2.1,x.2.2.1⟩
 | .settings,x=>⟨x.1,x.2.1,x.2.2.1⟩
 | .env,x=>⟨⟨x.1,x.2.1,x.2.2.1⟩,x.2.2.2.1,x.2.2.2.2.1,x.2.2.2.2.2.1,x.2.2.2.2.2.2.1,x.2.2.2.2.2.2.2.1⟩
 | .edge,x=>⟨x.1,x.2.1⟩
 | .node,x=>(x.1,x.2.1,x.2.2.1)
 | .a3,x=>(x.1,x.2.1,x.2.2.1)
 | .acc,x=>⟨x.1,x.2.1⟩
def shK:(l:List Kf)->HK l->List (FV Sg)
 |[],_=>[]
 | .i k::l,x=> .int k x.1::shK l x.2
 | .b::l,x=> .bool x.1::shK l x.2
 | .s::l,x=> .str x.1::shK l x.2
 | .l T::l,x=> .sl T x.1::shK l x.2
def prF:(k:Kf)->FV Sg->Option k.ty
 | .i k,.int k' n=>bif k'==k then some n else none
 | .b,.bool b=>some b
 | .s,.str a=>some a
 | .l _,.nils=>some []
 | .l T,.sl T' l=>match decEq T' T with
  |isTrue h=>some (h▸l)
  |isFalse _=>none
 |_,_=>none
def prK:(l:List Kf)->List (FV Sg)->Option (HK l)
 |[],[]=>some ()
 |k::l,s::ss=>match prF k s with
  |some x=>match prK l ss with
   |some y=>some (x,y)
   |none=>none
  |none=>none
 |_,_=>none
def zrF:(k:Kf)->k.ty
 | .i _=>(0:Int)
 | .b=>false
 | .s=>⟨#[]⟩
 | .l T=>([]:List (car T))
def zrK:(l:List Kf)->HK l
 |[]=>()
 |k::l=>(zrF k,zrK l)
def Kf.flat:Kf->Bool
 | .l _=>false
 |_=>true
def shape(T:C)(x:car T):List (FV Sg):=shK (kdC T) (flC T x)
def bld(T:C)(l:List (FV Sg)):Option (car T):=match prK (kdC T) l with
 |some y=>some (mkC T y)
 |none=>none
def z3r:List ByteArray:=[⟨#[115,101]⟩,⟨#[100,101]⟩,⟨#[117,115]⟩,⟨#[112,114,111]⟩,⟨#[102,114,101,101]⟩,⟨#[]⟩,⟨#[97,34,98]⟩,⟨#[99,92]⟩,⟨#[195,169]⟩,⟨#[112,114,111,115,101]⟩,⟨#[120,32,121]⟩]
def q4u:List ByteArray:=[⟨#[49,46,48,46,48]⟩,⟨#[49,46,50,46,51]⟩,⟨#[49,46,49,48,46,48]⟩,⟨#[50,46,48,46,49]⟩,⟨#[48,46,48,46,48]⟩,⟨#[57,57,57,57,57,57,46,48,46,57,57,57,57,57,57]⟩]
def z0j:List (List ByteArray):=[[],[⟨#[112,114,111]⟩],[⟨#[100,101]⟩,⟨#[115,101]⟩],[⟨#[]⟩,⟨#[102,114,101,101]⟩,⟨#[117,115]⟩],[⟨#[120,32,121]⟩]]
def q8l:List Acc:=[⟨128,191⟩,⟨160,191⟩,⟨128,159⟩,⟨144,191⟩,⟨128,143⟩,⟨0,0⟩,⟨0,0⟩,⟨0,0⟩,⟨0,0⟩,⟨0,0⟩,⟨0,0⟩,⟨0,0⟩,⟨0,0⟩,⟨0,0⟩,⟨0,0⟩,⟨0,0⟩]
def z6q:List Int:=[240,240,240,240,240,240,240,240,240,240,240,240,240,240,240,240,240,240,240,240,240,240,240,240,240,240,240,240,240,240,240,240,240,240,240,240,240,240,240,240,240,240,240,240,240,240,240,240,240,240,240,240,240,240,240,240,240,240,240,240,240,240,240,240,240,240,240,240,240,240,240,240,240,240,240,240,240,240,240,240,240,240,240,240,240,240,240,240,240,240,240,240,240,240,240,240,240,240,240,240,240,240,240,240,240,240,240,240,240,240,240,240,240,240,240,240,240,240,240,240,240,240,240,240,240,240,240,240,241,241,241,241,241,241,241,241,241,241,241,241,241,241,241,241,241,241,241,241,241,241,241,241,241,241,241,241,241,241,241,241,241,241,241,241,241,241,241,241,241,241,241,241,241,241,241,241,241,241,241,241,241,241,241,241,241,241,241,241,241,241,241,241,241,241,2,2,2,2,2,2,2,2,2,2,2,2,2,2,2,2,2,2,2,2,2,2,2,2,2,2,2,2,2,2,19,3,3,3,3,3,3,3,3,3,3,3,3,35,3,3,52,4,4,4,68,241,241,241,241,241,241,241,241,241,241,241]
def z6r:List Int:=[0,0,0,0,0,0,0,0,0,1,1,1,1,1,0,0,0,0,0,0,0,0,0,0,0,0,0,0,0,0,0,0,1,0,0,0,0,0,0,0,0,0,0,0,0,0,0,0,0,0,0,0,0,0,0,0,0,0,0,0,0,0,0,0,0,0,0,0,0,0,0,0,0,0,0,0,0,0,0,0,0,0,0,0,0,0,0,0,0,0,0,0,0,0,0,0,0,0,0,0,0,0,0,0,0,0,0,0,0,0,0,0,0,0,0,0,0,0,0,0,0,0,0,0,0,0,0,0,0,0,0,0,0,0,0,0,0,0,0,0,0,0,0,0,0,0,0,0,0,0,0,0,0,0,0,0,0,0,0,0,0,0,0,0,0,0,0,0,0,0,0,0,0,0,0,0,0,0,0,0,0,0,0,0,0,0,0,0,0,0,0,0,0,0,0,0,0,0,0,0,0,0,0,0,0,0,0,0,0,0,0,0,0,0,0,0,0,0,0,0,0,0,0,0,0,0,0,0,0,0,0,0,0,0,0,0,0,0,0,0,0,0,0,0,0,0,0,0,0,0,0,0,0,0,0,0]
def w0r:Nat->SV Sg:=fun g=>match g with|0=> .fap C.str 11 z3r|1=> .fap C.str 6 q4u|2=> .fap C.strs 5 z0j|4=> .fap C.acc 16 q8l|9=> .fptr [.ifc false] 0|8=> .fptr [.ifc false] 0|3=> .fap C.u8 256 z6q|5=> .fap C.u8 256 z6r|_=> .dead
def j8w:Nat->Option IntKind:=fun g=>if g=7 then some .i64 else none
def j6t:Nat->Option (Array Value):=fun g=>match g with|10=>some #[.int .u64 1,.int .u64 10,.int .u64 100,.int .u64 1000,.int .u64 10000,.int .u64 100000,.int .u64 1000000,.int .u64 10000000,.int .u64 100000000,.int .u64 1000000000,.int .u64 10000000000,.int .u64 100000000000,.int .u64 1000000000000,.int .u64 10000000000000,.int .u64 100000000000000,.int .u64 1000000000000000,.int .u64 10000000000000000,.int .u64 100000000000000000,.int .u64 1000000000000000000,.int .u64 10000000000000000000]|_=>none
def D:Shp Sg where
 size:=fun| .i64=>1| .u8=>1| .bool=>1| .str=>1| .u64=>1| .strs=>1| .val=>4| .ex=>5| .range=>3| .serve=>5| .target=>3| .prereq=>2| .rule=>11| .flag=>13| .seg=>9| .span=>2| .cool=>3| .layer=>6| .exper=>12| .decl=>3| .settings=>3| .env=>8| .edge=>2| .node=>3| .a3=>3| .acc=>2
 shape:=shape
 bld:=bld
 zero:=fun T=>mkC T (zrK (kdC T))
 code:=fun t=>match t with|2=>some .i64|3=>some .i64|4=>some .bool|5=>some .u8|9=>some .str|12=>some .u64|36=>some .u64|40=>some .ex|43=>some .serve|45=>some .rule|49=>some .settings|56=>some .env|59=>some .i64|65=>some .exper|68=>some .layer|72=>some .strs|95=>some .seg|99=>some .flag|118=>some .edge|126=>some .span|136=>some .node|142=>some .decl|144=>some .val|147=>some .prereq|149=>some .target|153=>some .cool|190=>some .range|248=>some .a3|262=>some .acc|282=>some .u64|_=>none
 acode:=fun t=>match t with|_=>none
 mcode:=fun t=>match t with|84=>some (.node,.i64)|176=>some (.str,.strs)|182=>some (.str,.bool)|201=>some (.a3,.i64)|244=>some (.i64,.bool)|_=>none
 kdec:=fun| .i64=>inferInstanceAs (DecidableEq Int)| .str=>inferInstanceAs (DecidableEq ByteArray)| .node=>inferInstanceAs (DecidableEq Nd)| .a3=>inferInstanceAs (DecidableEq A3)|_=>fun a b=>Classical.propDecidable (a=b)
 glob:=w0r
 gopen:=j8w
 gblk:=j6t
 flat:=fun T=>(kdC T).all Kf.flat
theorem j4m(T:C){σ:Hv}:RepF D σ (.slice none 0 0) (.sl T []):=by
 have h:=RepF.sl (D:=D) (σ:=σ) T [] none 0 (fun _ _=>undef) (Nat.le_refl _) (by simp) (fun i x h=>by simp at h) (fun i x j s h=>by simp at h)
 exact h
theorem q6a{σ:Hv}:RowF D σ [] []:=⟨rfl,fun j v s hj=>by cases hj⟩
theorem Wo{σ:Hv}{v:Value}{s:FV Sg}{cs:List Value}{ss:List (FV Sg)}(h:RepF D σ v s)(hr:RowF D σ cs ss):RowF D σ (v::cs) (s::ss):=⟨by simp[hr.1],fun j u x hj hx=>by
 cases j with
 |zero=>simp at hj hx;subst hj hx;exact h
 |succ j=>exact hr.2 j u x (by simpa using hj) (by simpa using hx)⟩
theorem j4n{σ:Hv}{v:Value}{s:FV Sg}{cs:List Value}{ss:List (FV Sg)}(h:RowF D σ (v::cs) (s::ss)):RepF D σ v s/\RowF D σ cs ss:=
 ⟨h.2 0 v s rfl rfl,by have:=h.1;simpa using this,fun j u x hj hx=>h.2 (j+1) u x (by simpa using hj) (by simpa using hx)⟩
theorem j8x{σ:Hv}{v:Value}{k:Kf}{s:FV Sg}{x:k.ty}(h:prF k s=some x)(hr:RepF D σ v s){l:List Kf}{y:HK l}{cs:List Value}(hc:RowF D σ cs (shK l y)):RowF D σ (v::cs) (shK (k::l) (x,y)):=by
 cases k with
 |i k=>
  cases s with
  |int k' n=>
   simp only[prF] at h
   cases hq:k'==k with
   |false=>rw[hq] at h;cases h
   |true=>
    have e:k'=k:=by revert hq;cases k'<;>cases k<;>decide
    subst e
    rw[hq] at h
    cases h
    exact Wo hr hc
  |_=>cases h
 |b=>cases s with
  |bool b=>cases h;exact Wo hr hc
  |_=>cases h
 |s=>cases s with
  |str b=>cases h;exact Wo hr hc
  |_=>cases h
 |l T=>cases s with
  |nils=>cases h;cases hr;exact Wo (j4m _) hc
  |sl T' l'=>
   simp only[prF] at h
   split at h
   ·rename_i e _;subst e;cases h;exact Wo hr hc
   ·cases h
  |_=>cases h
theorem j4o{σ:Hv}: ∀{l:List Kf} {ss:List (FV Sg)} {x:HK l},prK l ss=some x-> ∀{cs:List Value},RowF D σ cs ss->RowF D σ cs (shK l x)
 |[],[],_,_,_,hr=>hr
 |[],_::_,_,h,_,_=>by cases h
 |_::_,[],_,h,_,_=>by cases h
 |k::l,s::ss,x,h,cs,hr=>by
  unfold prK at h
  cases h1:prF k s with
  |none=>rw[h1] at h;cases h
  |some a=>
   rw[h1] at h
   cases h2:prK l ss with
   |none=>rw[h2] at h;cases h
   |some b=>
    rw[h2] at h;cases h
    cases cs with
    |nil=>have:=hr.1;cases this
    |cons c cs=>exact j8x h1 (j4n hr).1 (j4o h2 (j4n hr).2)
theorem flmk(T:C)(y:HK (kdC T)):flC T (mkC T y)=y:=by cases T<;>rfl
def zv:Kf->Value
 | .i k=> .int k 0
 | .b=> .bool false
 | .s=> .string ⟨#[]⟩
 | .l _=> .slice none 0 0
abbrev zc(T:C):List Value:=(kdC T).map zv
theorem z3s{σ:Hv}: ∀l:List Kf,RowF D σ (l.map zv) (shK l (zrK l))
 |[]=>q6a
 | .i _::l=>Wo (.int _ _) (z3s l)
 | .b::l=>Wo (.bool _) (z3s l)
 | .s::l=>Wo (.str _) (z3s l)
 | .l _::l=>Wo (j4m _) (z3s l)
theorem z7w(T:C)(σ:Hv):RowF D σ (zc T) (D.shape T (D.zero T)):=by
 show RowF D σ _ (shK _ (flC T (mkC T _)))
 rw[flmk];exact z3s _
theorem D_ok:D.Ok where
 len T x:=by cases T<;>rfl
 pos T:=by cases T<;>decide
 bld T ss x σ cs h hr:=by
  have h:bld T ss=some x:=h
  unfold bld at h
  cases hp:prK (kdC T) ss with
  |none=>rw[hp] at h;cases h
  |some y=>
   rw[hp] at h;cases h
   show RowF D σ _ (shK _ (flC T (mkC T _)))
   rw[flmk];exact j4o hp hr
theorem j6u{t:TypeId}{T:C}(h:((Go.Proofs.Tryz.prog.info? t).bind (·.zero)).map (fun z=>z.cells.toList)=some (zc T)){i:TypeInfo}{z:Value}(hi:Go.Proofs.Tryz.prog.info? t=some i)(hz:i.zero=some z)(σ:Hv):RowF D σ z.cells.toList (D.shape T (D.zero T)):=by
 rw[hi] at h
 simp only[Option.bind_some,hz,Option.map_some,Option.some.injEq] at h
 rw[h];exact z7w T σ
theorem q8m{et:TypeId}{z:Value}(e:(Go.Proofs.Tryz.prog.info? et).bind (·.zero)=some z)(w:World):(zeroValue et).run Go.Proofs.Tryz.prog w= .ok z w:=by
 obtain⟨i,hi,hz⟩:=Option.bind_eq_some_iff.1 e
 simp[zeroValue,typeInfo,hi,hz]
theorem okP:D.OkP Go.Proofs.Tryz.prog where
 ok:=D_ok
 zero t T i z ht hi hz σ:=by
  simp only[D] at ht
  split at ht<;>cases ht
  all_goals exact j6u (by kernel_rfl) hi hz σ
 arr t T N h:=by cases h
 flat T h x:=by cases T<;>first|rfl|cases h
 bts T g h:=by cases h
 unb T g h:=by cases h
 map t K V h:=by
  simp only[D] at h
  split at h<;>cases h
  ·exact⟨136,3,by kernel_rfl,q97 (ks:=[.int .i64,.int .i64,.int .i64]) (by kernel_rfl) (by decide) (fun x=>rfl) (fun a b h=>by
    obtain⟨a0,a1,a2⟩:=a;obtain⟨b0,b1,b2⟩:=b
    simp only[D,shape,kdC,flC,shK,List.cons.injEq,FV.int.injEq,true_and,and_true] at h
    simp[h]),fun x=>rfl,by kernel_rfl,by kernel_rfl,by kernel_rfl,asV (zc .i64),q8m (by kernel_rfl),fun σ=>⟨zc .i64,z7w .i64 σ,rfl⟩⟩
  ·exact⟨9,72,by kernel_rfl,z2w (by kernel_rfl),fun x=>rfl,by kernel_rfl,by kernel_rfl,by kernel_rfl,asV (zc .strs),q8m (by kernel_rfl),fun σ=>⟨zc .strs,z7w .strs σ,rfl⟩⟩
  ·exact⟨9,4,by kernel_rfl,z2w (by kernel_rfl),fun x=>rfl,by kernel_rfl,by kernel_rfl,by kernel_rfl,asV (zc .bool),q8m (by kernel_rfl),fun σ=>⟨zc .bool,z7w .bool σ,rfl⟩⟩
  ·exact⟨248,3,by kernel_rfl,q97 (ks:=[.int .i64,.int .i64,.int .i64]) (by kernel_rfl) (by decide) (fun x=>rfl) (fun a b h=>by
    obtain⟨a0,a1,a2⟩:=a;obtain⟨b0,b1,b2⟩:=b
    simp only[D,shape,kdC,flC,shK,List.cons.injEq,FV.int.injEq,true_and,and_true] at h
    simp[h]),fun x=>rfl,by kernel_rfl,by kernel_rfl,by kernel_rfl,asV (zc .i64),q8m (by kernel_rfl),fun σ=>⟨zc .i64,z7w .i64 σ,rfl⟩⟩
  ·exact⟨3,4,by kernel_rfl,z8u (q:= .i64) (by kernel_rfl),fun x=>rfl,by kernel_rfl,by kernel_rfl,by kernel_rfl,asV (zc .bool),q8m (by kernel_rfl),fun σ=>⟨zc .bool,z7w .bool σ,rfl⟩⟩
def inls:List Nat:=[50,51,57,58,62,65,66,75,96,98,99,101,102,104,105,107,123,125,129,130,131,133,135,140,153,156,181,182,229]
def E0:Ev Sg:=⟨Go.Proofs.Tryz.prog,D,fun _=>none,hasN inls,fun _=>none,0⟩
theorem j6v:inls.all (entQ Go.Proofs.Tryz.prog)=true:=by kernel_rfl
theorem j0g: ∀{l:List Nat} {g:Nat},hasN l g=true->g∈l
 |a::l,g,h=>by
  unfold hasN at h
  cases hq:Nat.beq a g with
  |true=>rw[Nat.eq_of_beq_eq_true hq];exact List.mem_cons_self
  |false=>rw[hq] at h;exact List.mem_cons_of_mem _ (j0g h)
theorem w0s:EvOk E0:=⟨okP,by kernel_rfl,fun g c h=>(by cases h),fun g h=>entB (List.all_eq_true.1 j6v g (j0g h))⟩
theorem h_E0:Ev3 E0 Go.Proofs.Tryz.prog D:=⟨w0s,rfl,rfl⟩
abbrev At{α:Type}(l:List α)(i:Int)(k:α->Prop):Prop:=((0:Int)<=i/\i<(l.length:Int))/\ ∀y,l[i.toNat]? =some y->k y
abbrev Fits{α:Type}(l:List α):Prop:=l.length<=(9223372036854775807:Nat)
abbrev CAt{α:Type}(l:List α)(i:Int)(k:α->Prop)(B:Prop):Prop:=Cnd (i<(l.length:Int)) (At l i k) B
abbrev LS:=List (Nat×Fx.Spec Sg)
abbrev PT:=Nat->Option (Fx.Spec Sg)
abbrev sI(n:Nat):Fx.Item Sg:=(.slot n,.int .i64)
abbrev sB(n:Nat):Fx.Item Sg:=(.slot n,.bool)
abbrev MT(g:Nat)(c:Con Sg):Prop:=Mt Go.Proofs.Tryz.prog D g c
abbrev WL(l:List (Nat×Con Sg)):Ev Sg:=wlE E0 l
abbrev AL(l:List (Nat×Con Sg)):Prop:=AlE Go.Proofs.Tryz.prog D l
theorem mSg(u:Nat){l:List (Nat×Con Sg)}(h:AL l){g:Nat}(p:LS){av rv:List (VT Sg)}{F:TL av->(TL rv->Prop)->Prop}(he:entQ Go.Proofs.Tryz.prog g=true:=by kernel_rfl)
  (e: ∀a K,F a K=fnV ((WL l).pl (Qr p)) u g (av.map VT.pk) (rv.map VT.pk) av rv (av.map fun _=> .same) a (fun r _=>K r):=by intro _ _;kernel_rfl):MT g (conS av rv F):=mtS h_E0 h he e
theorem mPg(u:Nat){l:List (Nat×Con Sg)}(h:AL l){g:Nat}(p:LS){pk rk:List (PK Sg)}{av rv ov:List (VT Sg)}{F:TL av->(TL rv->TL ov->Prop)->Prop}(he:entQ Go.Proofs.Tryz.prog g=true:=by kernel_rfl)
  (e: ∀a K,F a K=fnV ((WL l).pl (Qr p)) u g pk rk av rv ov a K:=by intro _ _;kernel_rfl):MT g (conV pk av rv ov F):=mtP h_E0 h he e
theorem mS{l:List (Nat×Con Sg)}(h:AL l){g:Nat}(p:LS){av rv:List (VT Sg)}{F:TL av->(TL rv->Prop)->Prop}(he:entQ Go.Proofs.Tryz.prog g=true:=by kernel_rfl)
  (e: ∀a K,F a K=fnV ((WL l).pl (Qr p)) 4 g (av.map VT.pk) (rv.map VT.pk) av rv (av.map fun _=> .same) a (fun r _=>K r):=by intro _ _;kernel_rfl):MT g (conS av rv F):=mSg 4 h p he e
theorem mP{l:List (Nat×Con Sg)}(h:AL l){g:Nat}(p:LS){pk rk:List (PK Sg)}{av rv ov:List (VT Sg)}{F:TL av->(TL rv->TL ov->Prop)->Prop}(he:entQ Go.Proofs.Tryz.prog g=true:=by kernel_rfl)
  (e: ∀a K,F a K=fnV ((WL l).pl (Qr p)) 4 g pk rk av rv ov a K:=by intro _ _;kernel_rfl):MT g (conV pk av rv ov F):=mPg 4 h p he e
theorem mR{u:Nat}{l:List (Nat×Con Sg)}(h:AL l){g:Nat}(he:entQ Go.Proofs.Tryz.prog g=true){p:PT}{pk rk:List (PK Sg)}{av rv ov:List (VT Sg)}{F:TL av->(TL rv->TL ov->Prop)->Prop}
  (e: ∀a K,F a K-> ∀X:TL av->(TL rv->TL ov->Prop)->Prop,(∀a K,fnV (((WL l).with g (conV pk av rv ov X)).pl p) u g pk rk av rv ov a K->X a K)->X a K):MT g (conV pk av rv ov F):=mtR h_E0 h he e
theorem mQ{u:Nat}{l:List (Nat×Con Sg)}(h:AL l){g:Nat}(he:entQ Go.Proofs.Tryz.prog g=true)(p:LS){pk rk:List (PK Sg)}{av rv ov:List (VT Sg)}{F:TL av->(TL rv->TL ov->Prop)->Prop}(S:(TL av->(TL rv->TL ov->Prop)->Prop)->TL av->(TL rv->TL ov->Prop)->Prop)
  (q: ∀X a K,S X a K=fnV (((WL l).with g (conV pk av rv ov X)).pl (Qr p)) u g pk rk av rv ov a K)(e: ∀a K,F a K-> ∀X:TL av->(TL rv->TL ov->Prop)->Prop,(∀a K,S X a K->X a K)->X a K):MT g (conV pk av rv ov F):=
 mR h he fun a K f X hX=>e a K f X fun a K s=>hX a K (Eq.mp (q X a K) s)
end Go.En
namespace Go
abbrev B8(l:List UInt8):ByteArray:=ByteArray.mk (Array.mk l)
end Go
namespace Go.En
open Go.Fx
abbrev LP:=List (PK Sg)
abbrev LV:=List (VT Sg)
end Go.En
end
noncomputable section
set_option maxRecDepth 100000
namespace Go.Fl
open Go Go.RowKit Go.ChangeShapes Go.WideShapes
def hv(W:World):Hv:=fun b=>W.heap[b]?
theorem j6w(W:World):View (hv W) W:=fun _ _ h=>h
theorem j4p{W:World}{base n:Nat}{a:Addr}{cs:List Value}(h:W.cells? base a n=some cs):cs.length=n/\VRow (hv W) a cs:=by
 obtain⟨_,h1,h2⟩:=World.cells?_some h
 refine⟨h1,fun j v hj=> ?_⟩
 have hj':j<n:=by rw[←h1];exact (List.getElem?_eq_some_iff.1 hj).1
 exact (h2 j hj').trans hj
theorem j6x{α:Type}{Q:Nat->α->Prop}(n:Nat)(h: ∀i,i<n-> ∃x,Q i x): ∃l:List α,l.length=n/\ ∀i x,l[i]? =some x->Q i x:=by
 induction n with
 |zero=>exact⟨[],rfl,fun i x hx=>by simp at hx⟩
 |succ n ih=>
  obtain⟨l,hl,hq⟩:=ih fun i hi=>h i (by omega)
  obtain⟨x,hx⟩:=h n (by omega)
  refine⟨l++[x],by simp[hl],fun i y hy=> ?_⟩
  rcases Nat.lt_or_ge i l.length with hi|hi
  ·rw[List.getElem?_append_left hi] at hy;exact hq i y hy
  ·rw[List.getElem?_append_right hi] at hy
   have h0:i - l.length=0:=by
    rcases Nat.eq_zero_or_pos (i - l.length) with h0|h0
    ·exact h0
    ·obtain⟨m,hm⟩: ∃m,i - l.length=m+1:=⟨i - l.length - 1,by omega⟩
     rw[hm] at hy;simp at hy
   rw[h0] at hy
   simp at hy
   subst hy
   have:i=n:=by omega
   subst this;exact hx
theorem j3b{w w1:World}(h:Keeps [] w w1):Below w.heap.size w w1:=⟨h.os,h.tape,h.output,h.size,fun k hk=>h.block k hk (by simp)⟩
section
variable {H:Type}{enc:TypeId×Value->H}{P:Program}{W:World}
theorem j3c{ts:List TypeId}{ds:List (DataW H)}(h:(DataW.weightsEach P ts ds).all (· <=reachBytes)=true){j:Nat}{t:TypeId}{d:DataW H}(ht:ts[j]? =some t)(hd:ds[j]? =some d): ∀n∈d.weights P t,n<=reachBytes:=fun n hn=>by
 simpa using List.all_eq_true.1 h _ (DataW.weights_mem_each ht hd n hn)
theorem j3d{α:Type}{size:Nat}{R:Hv->List Value->α->Prop}{t e:TypeId}{base:Nat}{spare:Nat->Bool}{held:Bool}{v:Value}{d:DataW H}{ps:List MemPlace}(hu:P.underlying t=some (.slice e))(hc:P.cellsOf e=size)(hb:1<=P.bytesOf e)
  (hel: ∀(n:Nat) (cs:List Value) x,cs.length=size->DataW.trod enc P W base spare held n e cs=some x-> ∃y:α,R (hv W) cs y)
  {r:Reach}{bs:Nat}(hok:Value.okWide P W r bs t v)(h:DataW.Trod enc P W base spare held t v d ps)(hsz: ∀n∈d.weights P t,n<=reachBytes): ∃l:List α,RSl size R (hv W) v l:=by
 obtain⟨a0,len,cap,rfl⟩:=okWide_slice hu hok
 obtain⟨fuel,hf⟩:=h
 rcases DataW.trod_slice hu hf with ⟨h0,_⟩|⟨a,len',cap',U5,rest,n,_,h0,hx,_,hl,hm,hlen,hE,_,_⟩
 ·simp[Value.cells] at h0
  obtain⟨rfl,rfl,rfl⟩:=h0
  exact⟨[],RSl.nil⟩
 ·simp[Value.cells] at h0
  obtain⟨rfl,rfl,rfl⟩:=h0
  simp only[Prod.mk.injEq] at hx
  obtain⟨rfl,_⟩:=hx
  have hlb:len<=reachBytes:=by
   have h1:=hsz ((U5.map (·.1)).length*P.bytesOf e+(rest.map (·.1)).length*P.bytesOf e) (by simp[DataW.weights,hu,Nat.add_mul])
   rw[List.length_map,hlen] at h1
   have h2:len*1<=len*P.bytesOf e:=Nat.mul_le_mul_left _ hb
   omega
  obtain⟨l,hl1,hl2⟩:=j6x (α:=α) (Q:=fun i y=> ∃cs,cs.length=size/\VRow (hv W) (a.add (i*size)) cs/\R (hv W) cs y) len (fun i hi=>by
   have h1:=hE i hi
   rw[hc] at h1
   rw[List.getElem?_eq_getElem (by omega)] at h1
   obtain⟨cs,h3,h4⟩:=Option.bind_eq_some_iff.1 h1
   obtain⟨h5,h6⟩:=j4p h3
   obtain⟨y,hy⟩:=hel _ _ _ h5 h4
   exact⟨y,cs,h5,h6,hy⟩)
  refine⟨l,some a,cap,by rw[hl1],by omega,by unfold reachBytes at hlb;omega,fun i x hx=> ?_⟩
  obtain⟨cs,h1,h2,h3⟩:=hl2 i x hx
  exact⟨a,cs,rfl,h1,h2,h3⟩
theorem w0t{t e:TypeId}{base:Nat}{spare:Nat->Bool}{held:Bool}{v:Value}{d:DataW H}{ps:List MemPlace}(hu:P.underlying t=some (.slice e))(he:P.underlying e=some (.int .u8))(hc:P.cellsOf e=1)(hb:1<=P.bytesOf e)
  {r:Reach}{bs:Nat}(hok:Value.okWide P W r bs t v)(h:DataW.Trod enc P W base spare held t v d ps)(hsz: ∀n∈d.weights P t,n<=reachBytes): ∃l:List UInt8,RSl 1 RU8 (hv W) v l:=
 j3d hu hc hb (fun n cs x _ hx=>by
  obtain⟨a,h1,h2,h3⟩:=DataW.trod_int he hx
  refine⟨UInt8.ofNat a.toNat,?_⟩
  subst h1
  have hw:=h3
  simp only[Lit.wf,Bool.and_eq_true,decide_eq_true_eq] at hw
  have hlo:(0:Int)<=a:=by have:=hw.1;simp[IntKind.min] at this;exact this
  have hhi:a<=255:=by have:=hw.2;simp[IntKind.max] at this;exact this
  show _=_
  have h9:a.toNat<256:=by omega
  simp[Nat.mod_eq_of_lt h9,Int.toNat_of_nonneg hlo]) hok h hsz
end
end Go.Fl
end
noncomputable section
set_option maxRecDepth 100000
namespace Go.En
open Go Go.RowKit Go.Fl Go.Fl.Lk Go.Fx
section
variable {W:World}
theorem j8y{P:Program}{name:String}{g:Nat}{cs:Array Value}(hg:P.globalNamed name=some g)(h:W.var? P name=some cs):VRow (hv W) ⟨g,0,none⟩ cs.toList:=fun j v hj=>by
 have h1:=World.var?_cell hg h j
 rw[Wm]
 show W.cell? ⟨g,0+j,none⟩=some v
 rw[Nat.zero_add,h1];simpa using hj
theorem z0k{P:Program}{name:String}{g:Nat}{t e:TypeId}{N:Nat}(T:Sg.C)(l:List (Sg.car T))(dat:Sg.car T->DataW Unit)(hg:P.globalNamed name=some g)(hty:(P.globals[g]?).map (·.type)=some t)
  (hu:P.underlying t=some (.array N e))(hc:P.cellsOf e=D.size T)(hct:P.cellsOf t=l.length*D.size T)(hN:l.length=N)
  (hel: ∀x∈l,∀n cs p,DataW.trod (fun _=>()) P W 0 (fun _=>true) false n e cs=some (dat x,p)->RowF D (hv W) cs (D.shape T x))(h:Lib.VarReads P W name (.agg (l.map dat))):
  SRep D (fun _=>none) (hv W) (.pointer (some ⟨g,0,none⟩)) (.fap T N l):=by
 obtain⟨g',t',cs,fuel,p,hg',hty',hv',hd⟩:=h
 obtain rfl:=Option.some.inj (hg.symm.trans hg')
 obtain rfl:=Option.some.inj (hty.symm.trans hty')
 obtain⟨xs,m,_,hx,hl,hxl,hall⟩:=DataW.trod_array hu hd
 have hx1:xs.map (·.1)=l.map dat:=by
  have:=congrArg Prod.fst hx
  simpa using this.symm
 refine .fap ⟨g,0,none⟩ cs.toList T N l hN (j8y hg hv') (by rw[hl,hct]) fun i x hxi=> ?_
 have hi:i<N:=by rw[←hN];exact Qe hxi
 have h1:=hall i hi
 rw[hc] at h1
 have h2:(xs.map (·.1))[i]? =some (dat x):=by rw[hx1];simp[hxi]
 rw[List.getElem?_map] at h2
 obtain⟨y,hy,hy2⟩:=Option.map_eq_some_iff.1 h2
 rw[hy] at h1
 obtain⟨y1,y2⟩:=y
 have hy2:y1=dat x:=hy2
 subst hy2
 exact hel x (List.mem_of_getElem? hxi) _ _ _ h1
theorem j8z{P:Program}{name:String}{g:Nat}{t e:TypeId}{n:Nat}{k:IntKind}{zs:List Int}(hg:P.globalNamed name=some g)(hty:(P.globals[g]?).map (·.type)=some t)
  (ht:P.underlying t=some (.array n e))(he:P.underlying e=some (.int k))(hce:P.cellsOf e=1)(hct:P.cellsOf t=n)(h:Lib.VarReads P W name (Lib.tabData k zs)): ∃t q,hv W g=some (.cells (zs.map fun z=>Value.int k z).toArray t q):=by
 obtain⟨g',t',cs,fuel,p,hg',hty',hv',hd⟩:=h
 obtain rfl:=Option.some.inj (hg.symm.trans hg')
 obtain rfl:=Option.some.inj (hty.symm.trans hty')
 have e:=Lib.cells_of_tab ht he hce hct hd
 unfold World.var? at hv'
 rw[hg,Option.bind_some] at hv'
 split at hv'
 ·rename_i cs' ty q hh
  cases hv'
  refine⟨ty,q,hh.trans ?_⟩
  rw[←e]
 ·cases hv'
theorem j4q{P:Program}{name:String}{g:Nat}{t:TypeId}{ms}{nm:String}{d:DataW Unit}(hg:P.globalNamed name=some g)(hty:(P.globals[g]?).map (·.type)=some t)
  (hu:P.underlying t=some (.interface ms))(h:Lib.VarReads P W name (.iface nm d)):SRep D (fun _=>none) (hv W) (.pointer (some ⟨g,0,none⟩)) (.fptr [.ifc false] 0):=by
 obtain⟨g',t',cs,fuel,p,hg',hty',hv',hd⟩:=h
 obtain rfl:=Option.some.inj (hg.symm.trans hg')
 obtain rfl:=Option.some.inj (hty.symm.trans hty')
 have hcs: ∃u v,cs.toList=[.iface u v]:=by
  cases fuel with
  |zero=>simp[DataW.trod] at hd
  |succ n=>
   unfold DataW.trod at hd
   rw[hu] at hd
   split at hd<;>simp_all
 obtain⟨u,v,hcs⟩:=hcs
 have hr:=j8y hg hv'
 rw[hcs] at hr
 exact .fptr ⟨g,0,none⟩ [.iface u v] [.ifc false] 0 hr ⟨rfl,fun j x s hj hs=>by
  match j with
  |0=>simp at hj hs;subst hj hs;exact .ifcS _ _
  |j+1=>simp at hj⟩
def dStr(s:ByteArray):DataW Unit:= .lit (.string s.data.toList)
theorem j0h{P:Program}{e:TypeId}(he:P.underlying e=some .string)(x:car .str)(n:Nat)(cs:List Value)(p)(h:DataW.trod (fun _=>()) P W 0 (fun _=>true) false n e cs=some (dStr x,p)):RowF D (hv W) cs (D.shape .str x):=by
 obtain⟨s,rfl,hx,_⟩:=DataW.trod_string he h
 have hx1:=congrArg Prod.fst hx
 simp only[dStr,DataW.lit.injEq,Lit.string.injEq] at hx1
 have hxs:x=s:=by
  have h2:x.data=s.data:=Array.toList_inj.1 hx1
  cases x;cases s;simpa using h2
 subst hxs
 exact Wo (.str _) q6a
def dInt(k:IntKind)(x:Int):DataW Unit:= .lit (.int k x)
theorem j4r{P:Program}{e:TypeId}{k:IntKind}(he:P.underlying e=some (.int k))(x:Int)(n:Nat)(cs:List Value)(p)(h:DataW.trod (fun _=>()) P W 0 (fun _=>true) false n e cs=some (dInt k x,p)):RowF D (hv W) cs [.int k x]:=by
 obtain⟨s,rfl,hx,_⟩:=DataW.trod_int he h
 have hx1:=congrArg Prod.fst hx
 simp only[dInt,DataW.lit.injEq,Lit.int.injEq,true_and] at hx1
 subst hx1
 exact Wo (.int _ _) q6a
def dAcc(x:Acc):DataW Unit:= .agg ([x.lo,x.hi].map fun z=> .lit (.int .u8 z))
theorem j80{P:Program}{e:TypeId}{fs:Array Field}(he:P.underlying e=some (.struct fs))(hf: ∀(i:Nat) (f:Field),fs[i]? =some f->P.underlying f.type=some (.int .u8)/\f.offset=i/\P.cellsOf f.type=1)(hct:P.cellsOf e=fs.size)
  (x:car .acc)(n:Nat)(cs:List Value)(p)(h:DataW.trod (fun _=>()) P W 0 (fun _=>true) false n e cs=some (dAcc x,p)):RowF D (hv W) cs (D.shape .acc x):=by
 have h1:=Lib.ints_of_struct he hf hct h
 subst h1
 exact Wo (.int _ _) (Wo (.int _ _) q6a)
def j6y(l:List ByteArray):DataW Unit:= .slice (l.map dStr) []
theorem j6z{P:Program}{e t:TypeId}(he:P.underlying e=some .string)(ht:P.underlying t=some (.slice e))(hc:P.cellsOf e=1)(x:car .strs)(hlen:x.length<=140737488355328)(n:Nat)(cs:List Value)(p)
  (h:DataW.trod (fun _=>()) P W 0 (fun _=>true) false n t cs=some (j6y x,p)):RowF D (hv W) cs (D.shape .strs x):=by
 rcases DataW.trod_slice ht h with ⟨_,h0⟩|⟨a,len,cap,U5,rest,m,_,h0,hx,_,hl,hm,hlen2,hE,_,_⟩
 ·have:=congrArg Prod.fst h0
  cases this
 ·subst h0
  have hx1:=congrArg Prod.fst hx
  simp only[j6y,DataW.slice.injEq] at hx1
  have he1:U5.map (·.1)=x.map dStr:=hx1.1.symm
  have hxl:x.length=len:=by
   have:=congrArg List.length he1
   simp at this;omega
  subst hxl
  refine Wo (RepF.ofRSl okP.ok ⟨some a,cap,rfl,hl,hlen,fun i y hy=> ?_⟩) q6a
  have hy:x[i]? =some y:=hy
  have hi:=Qe hy
  have h1:=hE i hi
  have h2:(U5.map (·.1))[i]? =some (dStr y):=by rw[he1];simp[hy]
  rw[List.getElem?_map] at h2
  obtain⟨z,hz,hz2⟩:=Option.map_eq_some_iff.1 h2
  rw[hz,hc] at h1
  obtain⟨c,h3,h4⟩:=Option.bind_eq_some_iff.1 h1
  obtain⟨h5,h6⟩:=j4p h3
  obtain⟨z1,z2⟩:=z
  have hz2:z1=dStr y:=hz2
  subst hz2
  exact⟨a,c,rfl,h5,h6,j0h he y _ _ _ h4⟩
end
abbrev j0i:List (String×DataW Unit):=Go.Proofs.YtlmjknifmlifiaaGreatDoor.Rows.checkUnreachableRow.laid
theorem q05(i:Nat){x:String×DataW Unit}(h:j0i[i]? =some x):x∈j0i:=List.mem_of_getElem? h
theorem z5d: ∀x∈z0j,x.length<=140737488355328:=fun x hx=>by
 simp only[z0j,List.mem_cons,List.not_mem_nil,or_false] at hx
 rcases hx with rfl|rfl|rfl|rfl|rfl<;>decide
theorem w0u{W:World}(hL:laidMet Proofs.Tryz.prog j0i W): ∀g,SRep D (fun _=>none) (hv W) (.pointer (some ⟨g,0,none⟩)) (D.glob g)
 |0=>z0k (P:=Proofs.Tryz.prog) (t:=139) (e:=9) C.str z3r dStr (by kernel_rfl) (by kernel_rfl) (by kernel_rfl) (by kernel_rfl) (by kernel_rfl) rfl (fun x _=>j0h Proofs.Tryz.underlying9 x) (Lib.laidMet.reads hL (n:= "flagstone/flagstonedraw.texts") (q05 4 (by kernel_rfl)))
 |1=>z0k (P:=Proofs.Tryz.prog) (t:=204) (e:=9) C.str q4u dStr (by kernel_rfl) (by kernel_rfl) (by kernel_rfl) (by kernel_rfl) (by kernel_rfl) rfl (fun x _=>j0h Proofs.Tryz.underlying9 x) (Lib.laidMet.reads hL (n:= "flagstone/flagstonedraw.versions") (q05 5 (by kernel_rfl)))
 |2=>z0k (P:=Proofs.Tryz.prog) (t:=205) (e:=72) C.strs z0j j6y (by kernel_rfl) (by kernel_rfl) (by kernel_rfl) (by kernel_rfl) (by kernel_rfl) rfl (fun x hx=>j6z Proofs.Tryz.underlying9 Proofs.Tryz.underlying72 (by kernel_rfl) x (z5d x hx)) (Lib.laidMet.reads hL (n:= "flagstone/flagstonedraw.lists") (q05 6 (by kernel_rfl)))
 |5=>z0k (P:=Proofs.Tryz.prog) (t:=260) (e:=5) C.u8 z6r (dInt .u8) (by kernel_rfl) (by kernel_rfl) (by kernel_rfl) (by kernel_rfl) (by kernel_rfl) rfl (fun x _=>j4r Proofs.Tryz.underlying5 x) (Lib.laidMet.reads hL (n:= "strings.asciiSpace") (q05 10 (by kernel_rfl)))
 |3=>z0k (P:=Proofs.Tryz.prog) (t:=260) (e:=5) C.u8 z6q (dInt .u8) (by kernel_rfl) (by kernel_rfl) (by kernel_rfl) (by kernel_rfl) (by kernel_rfl) rfl (fun x _=>j4r Proofs.Tryz.underlying5 x) (Lib.laidMet.reads hL (n:= "unicode/utf8.first") (q05 11 (by kernel_rfl)))
 |4=>z0k (P:=Proofs.Tryz.prog) (t:=263) (e:=262) C.acc q8l dAcc (by kernel_rfl) (by kernel_rfl) (by kernel_rfl) (by kernel_rfl) (by kernel_rfl) rfl (fun x _=>j80 Proofs.Tryz.underlying262 (fun i f hf=>by
   match i with
   |0=>cases hf;exact⟨by kernel_rfl,rfl,by kernel_rfl⟩
   |1=>cases hf;exact⟨by kernel_rfl,rfl,by kernel_rfl⟩
   |i+2=>cases hf) (by kernel_rfl) x) (Lib.laidMet.reads hL (n:= "unicode/utf8.acceptRanges") (q05 3 (by kernel_rfl)))
 |8=>j4q (P:=Proofs.Tryz.prog) (t:=324) (by kernel_rfl) (by kernel_rfl) Proofs.Tryz.underlying324 (Lib.laidMet.reads hL (n:= "strconv.ErrSyntax") (d:=Go.Proofs.YtlmjknifmlifiaaGreatDoor.Rows.laid_strconv_ErrSyntax) (q05 8 (by kernel_rfl)))
 |9=>j4q (P:=Proofs.Tryz.prog) (t:=324) (by kernel_rfl) (by kernel_rfl) Proofs.Tryz.underlying324 (Lib.laidMet.reads hL (n:= "strconv.ErrRange") (d:=Go.Proofs.YtlmjknifmlifiaaGreatDoor.Rows.laid_strconv_ErrRange) (q05 7 (by kernel_rfl)))
 |6=> .dead _
 |7=> .dead _
 |10=> .dead _
 |11=> .dead _
 |12=> .dead _
 |13=> .dead _
 |_+14=> .dead _
theorem w0v{W:World}(hL:laidMet Proofs.Tryz.prog j0i W): ∀g cs,D.gblk g=some cs-> ∃t q,hv W g=some (.cells cs t q):=fun g cs h=>by
 by_cases hg:(10:Nat)=g
 ·subst hg
  have e:D.gblk 10=some (([1,10,100,1000,10000,100000,1000000,10000000,100000000,1000000000,10000000000,100000000000,1000000000000,10000000000000,100000000000000,1000000000000000,10000000000000000,100000000000000000,1000000000000000000,10000000000000000000]:List Int).map fun z=>Value.int .u64 z).toArray:=by kernel_rfl
  obtain rfl:=Option.some.inj (e.symm.trans h)
  exact j8z (P:=Proofs.Tryz.prog) (t:=366) (e:=282) (n:=20) (by kernel_rfl) (by kernel_rfl) (by kernel_rfl) (by kernel_rfl) (by kernel_rfl) (by kernel_rfl) (Lib.laidMet.reads hL (n:= "internal/strconv.uint64pow10") (d:=Go.Proofs.YtlmjknifmlifiaaGreatDoor.Rows.laid_internal_strconv_uint64pow10) (q05 2 (by kernel_rfl)))
 ·have h:j6t g=some cs:=h
  unfold j6t at h
  split at h
  ·exact absurd rfl hg
  ·cases h
theorem z5e{W:World}(hL:laidMetH Proofs.Tryz.prog j0i W)(hsh:W.ShapedOpen Proofs.Tryz.prog):Glb D (hv W):=by
 rw[MakeChecks.laidMetH_plain _ _ _ (by kernel_rfl)] at hL
 refine⟨w0u hL,fun g k hk=> ?_,w0v hL⟩
 have h5:g=7/\k= .i64:=by
  by_cases h:g=7
  ·subst h;exact⟨rfl,(Option.some.inj hk).symm⟩
  ·have hk:(if g=7 then some IntKind.i64 else none)=some k:=hk
   rw[if_neg h] at hk;cases hk
 obtain⟨rfl,rfl⟩:=h5
 exact Go.Proofs.cell_of_shapedOpen_int (zero:= #[.int .i64 0]) (t:=3) hsh (of_decide_eq_true (by kernel_rfl)) (by kernel_rfl) rfl (by kernel_rfl) (by kernel_rfl) (by kernel_rfl)
end Go.En
end
noncomputable section
set_option maxRecDepth 100000
namespace Go.En
open Go
def j4s(s:ByteArray):Prop:= ∀(j:Nat) b,s.data.toList[j]? =some b->b.toNat<128
def Uo(s:ByteArray):List ByteArray:=(Go.Lib.fields s.data.toList).map fun l=>⟨l.toArray⟩
end Go.En
end
noncomputable section
set_option maxRecDepth 100000
namespace Go.Fl
def H9(edges_p:(List (ByteArray×ByteArray)))(K:(ByteArray->Option (List ByteArray))->Prop):Prop:=
 ∀(_:edges_p.length<=9223372036854775807),Lp2 (fun (k_3:Nat) (F_2:(ByteArray->Option (List ByteArray))) Y1=>Cnd (((k_3:Nat):Int)<((edges_p.length:Nat):Int)) (∀x1_,edges_p[k_3]? =some x1_->Sml (((F_2 x1_.1).getD [])++[x1_.2]).length/\Y1 (k_3+1) (put F_2 x1_.1 (((F_2 x1_.1).getD [])++[x1_.2]))) (K F_2)) 0 (fun _=>none)
def q06(needs_p:(ByteArray->Option (List ByteArray)))(node_p:ByteArray)(K:(ByteArray->Option Bool)->Prop):Prop:=
 Lp2 (fun (open_3:(List ByteArray)) (F_2:(ByteArray->Option Bool)) Y1=> ∀(_:open_3.length<=9223372036854775807),Cnd ((0:Int)<((open_3.length:Nat):Int)) (InI (((open_3.length:Nat):Int) - (1:Int))/\ ∃j1_:Nat,(((open_3.length:Nat):Int) - (1:Int))=((j1_:Nat):Int)/\ ∃x1_,open_3[j1_]? =some x1_/\InI (((open_3.length:Nat):Int) - (1:Int))/\ ∃j2_:Nat,(((open_3.length:Nat):Int) - (1:Int))=((j2_:Nat):Int)/\j2_<=open_3.length/\ ∀(_:((needs_p x1_).getD []).length<=9223372036854775807),Lp3 (fun (open_6:(List ByteArray)) (k_3:Nat) (F_4:(ByteArray->Option Bool)) Y2=>Cnd (((k_3:Nat):Int)<((((needs_p x1_).getD []).length:Nat):Int)) (∀x2_,((needs_p x1_).getD [])[k_3]? =some x2_->Cnd (((F_4 x2_).getD false)=true) (Y2 open_6 (k_3+1) F_4) (Sml (open_6++[x2_]).length/\Y2 (open_6++[x2_]) (k_3+1) (put F_4 x2_ true))) (Y1 open_6 F_4)) (open_3.take j2_) 0 F_2) (K F_2)) [node_p] (fun _=>none)
def P_graph_Cyclic(nodes_p:(List ByteArray))(edges_p:(List (ByteArray×ByteArray)))(K:(List ByteArray)->Prop):Prop:=
 Jn1 (fun (r1_:(ByteArray->Option (List ByteArray)))=>Sml nodes_p.length/\Sml (cpt (srt nodes_p)).length/\ ∀(_:(cpt (srt nodes_p)).length<=9223372036854775807),Lp2 (fun (out_2:(List ByteArray)) (k_2:Nat) Y2=>Cnd (((k_2:Nat):Int)<(((cpt (srt nodes_p)).length:Nat):Int)) (∀x1_,(cpt (srt nodes_p))[k_2]? =some x1_->Jn1 (fun (r2_:(ByteArray->Option Bool))=>Cnd (((r2_ x1_).getD false)=true) (Sml (out_2++[x1_]).length/\Y2 (out_2++[x1_]) (k_2+1)) (Y2 out_2 (k_2+1))) (q06 r1_ x1_)) (K out_2)) [] 0) (H9 edges_p)
end Go.Fl
end
noncomputable section
set_option maxRecDepth 100000
open Go Go.RowKit Go.Fl Go.Fl.Lk Go.Fx
namespace Go.En
abbrev q07:Type:=Int->(Bool->Prop)->Prop
def Vw:q07:=fun op K=>Cnd ((6:Int)<=op) (K (decide (op<=15))) (K false)
abbrev Ze:Type:=List (ByteArray)->List (ByteArray)->(Bool->Prop)->Prop
def Zf:Ze:=fun s1 s2 K=>Fits s1->Fits s2->Cnd ((↑s1.length:Int)=(↑s2.length:Int)) (Fits s1->Lp1 (fun Zo z2b=>CAt s1 Zo (fun y4=>At s2 Zo fun y6=>Cnd (y4=y6) (InI (Zo+1)/\z2b (Zo+1)) (K false)) (K true)) (0:Int)) (K false)
abbrev Bc:Type:=Val->Val->(Bool->Prop)->Prop
def q2a(Zh:Ze):Bc:=fun a b K=>Cnd (a.1=b.1) (Cnd (a.2=b.2) (Cnd (a.3=b.3) (Zh a.4 b.4 fun Qj=>K Qj) (K false)) (K false)) (K false)
def Uz:Bc:=q2a Zf
abbrev Up:Type:=Ex->Ex->(Bool->Prop)->Prop
def q3y(z4h:Bc)(X:Up):Up:=fun a b K=>Cnd (a.1=b.1) (Cnd (a.2=b.2) (Cnd (a.3=b.3) (Fits a.4->Fits b.4->Cnd ((↑a.4.length:Int)=(↑b.4.length:Int)) (Fits a.4->Lp1 (fun Zo z2b=>CAt a.4 Zo (fun y4=>At b.4 Zo fun y6=>z4h y4 y6 fun G4=>Cnd (G4=true) (InI (Zo+1)/\z2b (Zo+1)) (K false)) (Fits a.5->Fits b.5->Cnd ((↑a.5.length:Int)=(↑b.5.length:Int)) (Fits a.5->Lp1 (fun H4 w1j=>CAt a.5 H4 (fun y8=>At b.5 H4 fun y10=>X (Ex.mk y8.1 y8.2 y8.3 y8.4 y8.5) (Ex.mk y10.1 y10.2 y10.3 y10.4 y10.5) fun q4c=>Cnd (q4c=true) (InI (H4+1)/\w1j (H4+1)) (K false)) (K true)) (0:Int)) (K false))) (0:Int)) (K false)) (K false)) (K false)) (K false)
def Ja:Up:=fun a b K=> ∀X:Up,(∀a b K,q3y Uz X a b K->X a b K)->X a b K
abbrev J3:Type:=List (Ex)->Ex->(List (Ex)->Prop)->Prop
def Bx(z2c:q07)(q1o:Up)(X:J3):J3:=fun l e K=>Jn1 (fun Qj=>Fits e.5->Lp2 (fun Zc Vm q10=>CAt e.5 Vm (fun y3=>X Zc (Ex.mk y3.1 y3.2 y3.3 y3.4 y3.5) fun Vc=>InI (Vm+1)/\q10 Vc (Vm+1)) (K Zc)) Qj (0:Int)) fun q4e=>z2c e.1 fun Z2=>Cnd (Z2=true) (Fits l->Lp1 (fun Zo z2b=>CAt l Zo (fun y4=>q1o (Ex.mk y4.1 y4.2 y4.3 y4.4 y4.5) (Ex.mk e.1 e.2 e.3 e.4 e.5) fun Z7=>Cnd (Z7=true) (Cnd ((0:Int)<=Zo) (q4e l) (Sml (l++[Ex.mk e.1 e.2 e.3 e.4 e.5]).length/\q4e (l++[Ex.mk e.1 e.2 e.3 e.4 e.5]))) (InI (Zo+1)/\z2b (Zo+1))) (Cnd ((0:Int)<=(-1:Int)) (q4e l) (Sml (l++[Ex.mk e.1 e.2 e.3 e.4 e.5]).length/\q4e (l++[Ex.mk e.1 e.2 e.3 e.4 e.5])))) (0:Int)) (Cnd (e.1=5) (Fits l->Lp1 (fun Zo z2b=>CAt l Zo (fun y4=>q1o (Ex.mk y4.1 y4.2 y4.3 y4.4 y4.5) (Ex.mk e.1 e.2 e.3 e.4 e.5) fun Z7=>Cnd (Z7=true) (Cnd ((0:Int)<=Zo) (q4e l) (Sml (l++[Ex.mk e.1 e.2 e.3 e.4 e.5]).length/\q4e (l++[Ex.mk e.1 e.2 e.3 e.4 e.5]))) (InI (Zo+1)/\z2b (Zo+1))) (Cnd ((0:Int)<=(-1:Int)) (q4e l) (Sml (l++[Ex.mk e.1 e.2 e.3 e.4 e.5]).length/\q4e (l++[Ex.mk e.1 e.2 e.3 e.4 e.5])))) (0:Int)) (q4e l))
def G5:J3:=fun l e K=> ∀X:J3,(∀l e K,Bx Vw Ja X l e K->X l e K)->X l e K
abbrev q08:Type:=Val->(Val->Prop)->Prop
def Vx:q08:=fun v K=> ∀n0,(n0=true->v.4=[])->Cnd (n0=true) (K (Val.mk v.1 v.2 v.3 [])) (Sml ([]++v.4).length/\K (Val.mk v.1 v.2 v.3 ([]++v.4)))
abbrev Vq:Type:=Ex->(Ex->Prop)->Prop
def q2b(z2d:q08)(X:Vq):Vq:=fun e K=>Fits e.4->((0:Int)<=(0:Int)/\(0:Int)<=(↑e.4.length:Int)/\Sml (↑e.4.length:Int).toNat)/\(Fits e.4->Lp2 (fun Zc Vm q10=>CAt e.4 Vm (fun y3=>z2d y3 fun Vc=>Sml (Zc++[Vc]).length/\InI (Vm+1)/\q10 (Zc++[Vc]) (Vm+1)) (Fits e.5->((0:Int)<=(0:Int)/\(0:Int)<=(↑e.5.length:Int)/\Sml (↑e.5.length:Int).toNat)/\(Fits e.5->Lp2 (fun Vc q9b z5u=>CAt e.5 q9b (fun y6=>X (Ex.mk y6.1 y6.2 y6.3 y6.4 y6.5) fun G4=>Sml (Vc++[Ex.mk G4.1 G4.2 G4.3 G4.4 G4.5]).length/\InI (q9b+1)/\z5u (Vc++[Ex.mk G4.1 G4.2 G4.3 G4.4 G4.5]) (q9b+1)) (K (Ex.mk e.1 e.2 e.3 Zc Vc))) (List.replicate (Int.toNat (0:Int)) (Ex.mk (0:Int) (B8 []) (B8 []) [] [])) (0:Int)))) (List.replicate (Int.toNat (0:Int)) (Val.mk (0:Int) (0:Int) (B8 []) [])) (0:Int))
def Bd:Vq:=fun e K=> ∀X:Vq,(∀e K,q2b Vx X e K->X e K)->X e K
abbrev Uc:Type:=Ex->(List (Ex)->Prop)->Prop
def By(Hc:J3)(Bp:Vq):Uc:=fun e K=>Hc [] (Ex.mk e.1 e.2 e.3 e.4 e.5) fun Qj=>Fits Qj->((0:Int)<=(0:Int)/\(0:Int)<=(↑Qj.length:Int)/\Sml (↑Qj.length:Int).toNat)/\(Fits Qj->Lp2 (fun Zo Hd q4d=>CAt Qj Hd (fun y4=>Bp (Ex.mk y4.1 y4.2 y4.3 y4.4 y4.5) fun Z7=>Sml (Zo++[Ex.mk Z7.1 Z7.2 Z7.3 Z7.4 Z7.5]).length/\InI (Hd+1)/\q4d (Zo++[Ex.mk Z7.1 Z7.2 Z7.3 Z7.4 Z7.5]) (Hd+1)) (K Zo)) (List.replicate (Int.toNat (0:Int)) (Ex.mk (0:Int) (B8 []) (B8 []) [] [])) (0:Int))
def G6:Uc:=By G5 Bd
abbrev Vy:Type:=(List (Nd)->(Nd->Option (Int))->Bool->Prop)->Prop
def Wp:Vy:=fun K=>K [] (fun _=>none) false
abbrev Qo:Type:=List (Nd)->(Nd->Option (Int))->Bool->Int->(Int->List (Nd)->(Nd->Option (Int))->Bool->Prop)->Prop
def Qp:Qo:=fun ns ids full n K=>Cnd (n<0) (K (-1002:Int) ns ids full) (Cnd ((1000:Int)<n) (K (-1002:Int) ns ids full) (InI ((-1:Int) - n)/\K ((-1:Int) - n) ns ids full))
abbrev Ql:Type:=List (Nd)->(Nd->Option (Int))->Bool->Int->(Bool->List (Nd)->(Nd->Option (Int))->Bool->Prop)->Prop
def Q4:Ql:=fun ns ids full id K=>Cnd ((-1002:Int)<id) (Fits ns->K (decide (id<(↑ns.length:Int))) ns ids full) (K false ns ids full)
abbrev V7:Type:=List (Nd)->(Nd->Option (Int))->Bool->Int->((Int->Option (Bool))->List (Nd)->(Nd->Option (Int))->Bool->Prop)->Prop
def H1(Qb:Ql):V7:=fun ns ids full id K=>Qb ns ids full id fun Qj (Jh:List (Int×Int×Int)) Uy Gq=>Cnd (Qj=true) (RecH (fun z8e Gv j1y w02=>Cnd ((j1y.2.1 j1y.1).getD false=true) (w02 (j1y.2.1,())) (Cnd ((0:Int)<=j1y.1) (At Jh j1y.1 fun y2=>z8e (Gv+(2:Nat)+(1:Nat)) (y2.2.1,put j1y.2.1 j1y.1 true,()) fun R9=>At Jh j1y.1 fun y5=>z8e (Gv+(2:Nat)+(1:Nat)+(1:Nat)) (y5.2.2,R9.1,()) fun H4=>w02 (H4.1,())) (w02 (put j1y.2.1 j1y.1 true,())))) ((0:Nat)+(1:Nat)+(1:Nat)+(1:Nat)+(1:Nat)+(1:Nat)+(1:Nat)+(1:Nat)+(1:Nat)+(1:Nat)+(1:Nat)) (id,fun _=>none,()) fun Z2=>K Z2.1 Jh Uy Gq) (K (fun _=>none) Jh Uy Gq)
def Zv:V7:=H1 Q4
abbrev Vr:Type:=List (Nd)->(Nd->Option (Int))->Bool->Int->(List (Int)->List (Nd)->(Nd->Option (Int))->Bool->Prop)->Prop
def Z3(ns:List (Nd))(ids:(Nd->Option (Int)))(full:Bool)(id:Int)(K:List (Int)->List (Nd)->(Nd->Option (Int))->Bool->Prop):Prop:=Zv ns ids full id fun F ns1 ids1 full1=>(∀ks:List Int,Keys F ks->Sml ks.length)/\(∀x,(F x).isSome=true->InI x)/\ ∀l:List Int,l.Pairwise (· < ·)->(∀n,n∈l↔0<=n/\(F (-1 - n)).isSome=true)->K l ns1 ids1 full1
abbrev Qm:Type:=List (Nd)->(Nd->Option (Int))->Bool->Int->(Bool->List (Nd)->(Nd->Option (Int))->Bool->Prop)->Prop
def U0(Qb:Ql)(J0:Vr):Qm:=fun ns ids full id K=>Qb ns ids full id fun Qj (Jh:List (Int×Int×Int)) Uy Gq=>Cnd (Qj=true) (J0 Jh Uy Gq id fun Z2 (Gv:List (Int×Int×Int)) q0v q2x=>Fits Z2->Lp1 (fun Zo z2b=>CAt Z2 Zo (fun y4=>Cnd ((1:Int)<y4) (K (match decide ((0:Int)<=Zo) with|true=>false|false=>true) Gv q0v q2x) (InI (Zo+1)/\z2b (Zo+1))) (K true Gv q0v q2x)) (0:Int)) (K false Jh Uy Gq)
def Q6:Qm:=U0 Q4 Z3
abbrev Bz:Type:=Int->(Int->Bool->Prop)->Prop
def Ud:Bz:=fun id K=>InI ((-1:Int) - id)/\Cnd (id<0) (K ((-1:Int) - id) (decide ((-1002:Int)<id))) (K ((-1:Int) - id) false)
abbrev Zj:Type:=List (Nd)->(Nd->Option (Int))->Bool->Int->(Int->List (Nd)->(Nd->Option (Int))->Bool->Prop)->Prop
def Qz:Zj:=fun ns ids full id K=>Cnd (id<0) (K (1001:Int) ns ids full) (At ns id fun y0=>K y0.1 ns ids full)
abbrev Z8:Type:=List (Nd)->(Nd->Option (Int))->Bool->Int->Int->(Int->Int->List (Nd)->(Nd->Option (Int))->Bool->Prop)->Prop
def U1(Qi:Zj):Z8:=fun ns ids full id test K=>Qi ns ids full id fun Qj (Jh:List (Int×Int×Int)) Uy Gq=>Cnd (Qj=test) (At Jh id fun y1=>At Jh id fun y3=>K y1.2.1 y3.2.2 Jh Uy Gq) (K id id Jh Uy Gq)
def Qw:Z8:=U1 Qz
abbrev Jm:Type:=List (Nd)->(Nd->Option (Int))->Bool->Int->Int->Int->(Int->List (Nd)->(Nd->Option (Int))->Bool->Prop)->Prop
def Rw(Qb:Ql)(Qi:Zj):Jm:=fun ns ids full test yes no K=>Cnd (test<0) (K (-1002:Int) ns ids full) (Cnd ((1000:Int)<test) (K (-1002:Int) ns ids full) (Qb ns ids full yes fun Qj (Jh:List (Int×Int×Int)) Uy Gq=>Cnd (Qj=true) (Qb Jh Uy Gq no fun Z2 (Gv:List (Int×Int×Int)) q0v q2x=>Cnd (Z2=true) (Qi Gv q0v q2x yes fun Zc (Vm:List (Int×Int×Int)) q10 q1p=>Cnd (Zc<=test) (K (-1002:Int) Vm q10 q1p) (Qi Vm q10 q1p no fun Zo (Hd:List (Int×Int×Int)) q4d q9c=>Cnd (Zo<=test) (K (-1002:Int) Hd q4d q9c) (Cnd (yes=no) (K yes Hd q4d q9c) (Cnd ((q4d (test,yes,no)).isSome=true) (K ((q4d (test,yes,no)).getD (0:Int)) Hd q4d q9c) (Fits Hd->Cnd ((4000:Int)<=(↑Hd.length:Int)) (K (-1002:Int) Hd q4d true) (Sml (Hd++[(test,yes,no)]).length/\((Hd++[(test,yes,no)]).length<=(9223372036854775807:Nat)->InI ((↑(Hd++[(test,yes,no)]).length:Int) - 1)/\((Hd++[(test,yes,no)]).length<=(9223372036854775807:Nat)->InI ((↑(Hd++[(test,yes,no)]).length:Int) - 1)/\K ((↑(Hd++[(test,yes,no)]).length:Int) - 1) (Hd++[(test,yes,no)]) (put q4d (test,yes,no) ((↑(Hd++[(test,yes,no)]).length:Int) - 1)) q9c)))))))) (K (-1002:Int) Gv q0v q2x)) (K (-1002:Int) Jh Uy Gq)))
def Qq:Jm:=Rw Q4 Qz
abbrev Q7:Type:=List (Nd)->(Nd->Option (Int))->Bool->Int->Int->Int->(A3->Option (Int))->(Int->List (Nd)->(Nd->Option (Int))->Bool->(A3->Option (Int))->Prop)->Prop
def Z4(q9x:Bz)(Qi:Zj)(Wh:Z8)(W4:Jm)(X:Q7):Q7:=fun ns ids full f g h memory K=>q9x f fun Qj Jh=>Cnd (Jh=true) (Cnd (Qj=1) (K g ns ids full memory) (K h ns ids full memory)) (Cnd (g=h) (K g ns ids full memory) (Cnd ((memory (f,g,h)).isSome=true) (K ((memory (f,g,h)).getD (0:Int)) ns ids full memory) (Qi ns ids full f fun Z2 (Gv:List (Int×Int×Int)) q0v q2x=>Qi Gv q0v q2x g fun Zc (Vm:List (Int×Int×Int)) q10 q1p=>Qi Vm q10 q1p h fun Zo (Hd:List (Int×Int×Int)) q4d q9c=>Wh Hd q4d q9c f (Min.min (Min.min Z2 Zc) Zo) fun R9 q7e (j4z:List (Int×Int×Int)) w03 w04=>Wh j4z w03 w04 g (Min.min (Min.min Z2 Zc) Zo) fun Vc q9b (w05:List (Int×Int×Int)) w06 w07=>Wh w05 w06 w07 h (Min.min (Min.min Z2 Zc) Zo) fun Z7 z2e (j9t:List (Int×Int×Int)) w1k w1l=>X j9t w1k w1l R9 Vc Z7 memory fun H4 (q9y:List (Int×Int×Int)) j40 j41 j9u=>Cnd (H4=(-1002:Int)) (K (-1002:Int) q9y j40 j41 j9u) (X q9y j40 j41 q7e q9b z2e j9u fun G4 (j7w:List (Int×Int×Int)) j9q j9r w1f=>Cnd (G4=(-1002:Int)) (K (-1002:Int) j7w j9q j9r w1f) (W4 j7w j9q j9r (Min.min (Min.min Z2 Zc) Zo) H4 G4 fun Gu (q4f:List (Int×Int×Int)) j1r j32=>K Gu q4f j1r j32 (put w1f (f,g,h) Gu))))))
def Jw:Q7:=fun ns ids full f g h memory K=> ∀X:Q7,(∀ns ids full f g h memory K,Z4 Ud Qz Qw Qq X ns ids full f g h memory K->X ns ids full f g h memory K)->X ns ids full f g h memory K
abbrev Qs:Type:=List (Nd)->(Nd->Option (Int))->Bool->Int->Int->Int->(Int->List (Nd)->(Nd->Option (Int))->Bool->Prop)->Prop
def Hi(Qd:Qm)(Qb:Ql)(J1:Q7):Qs:=fun ns ids full f g h K=>Qd ns ids full f fun Qj (Jh:List (Int×Int×Int)) Uy Gq=>Cnd (Qj=true) (Qb Jh Uy Gq g fun Z2 (Gv:List (Int×Int×Int)) q0v q2x=>Cnd (Z2=true) (Qb Gv q0v q2x h fun Zc (Vm:List (Int×Int×Int)) q10 q1p=>Cnd (Zc=true) (J1 Vm q10 q1p f g h (fun _=>none) fun Zo (Hd:List (Int×Int×Int)) q4d q9c _=>K Zo Hd q4d q9c) (K (-1002:Int) Vm q10 q1p)) (K (-1002:Int) Gv q0v q2x)) (K (-1002:Int) Jh Uy Gq)
def Zl:Qs:=Hi Q6 Q4 Jw
abbrev Z9:Type:=List (Nd)->(Nd->Option (Int))->Bool->Int->Int->(Int->List (Nd)->(Nd->Option (Int))->Bool->Prop)->Prop
def Be(Qd:Qm)(Qa:Qo)(Qf:Qs):Z9:=fun ns ids full f g K=>Qd ns ids full g fun Qj (Jh:List (Int×Int×Int)) Uy Gq=>Cnd (Qj=true) (Qa Jh Uy Gq (0:Int) fun Z2 (Gv:List (Int×Int×Int)) q0v q2x=>Qf Gv q0v q2x f g Z2 fun Zc (Vm:List (Int×Int×Int)) q10 q1p=>K Zc Vm q10 q1p) (K (-1002:Int) Jh Uy Gq)
def Zt:Z9:=Be Q6 Qp Zl
abbrev Ji:Type:=List (Nd)->(Nd->Option (Int))->Bool->Int->Int->(Int->List (Nd)->(Nd->Option (Int))->Bool->Prop)->Prop
def q0h(Qd:Qm)(Qa:Qo)(Qf:Qs):Ji:=fun ns ids full f g K=>Qd ns ids full g fun Qj (Jh:List (Int×Int×Int)) Uy Gq=>Cnd (Qj=true) (Qa Jh Uy Gq (1:Int) fun Z2 (Gv:List (Int×Int×Int)) q0v q2x=>Qf Gv q0v q2x f Z2 g fun Zc (Vm:List (Int×Int×Int)) q10 q1p=>K Zc Vm q10 q1p) (K (-1002:Int) Jh Uy Gq)
def Zm:Ji:=q0h Q6 Qp Zl
abbrev Vi:Type:=List (Nd)->(Nd->Option (Int))->Bool->Int->(Int->List (Nd)->(Nd->Option (Int))->Bool->Prop)->Prop
def Bf(Qa:Qo)(Qf:Qs):Vi:=fun ns ids full f K=>Qa ns ids full (0:Int) fun Qj (Jh:List (Int×Int×Int)) Uy Gq=>Qa Jh Uy Gq (1:Int) fun Z2 (Gv:List (Int×Int×Int)) q0v q2x=>Qf Gv q0v q2x f Qj Z2 fun Zc (Vm:List (Int×Int×Int)) q10 q1p=>K Zc Vm q10 q1p
def Zu:Vi:=Bf Qp Zl
abbrev Q2:Type:=List (Nd)->(Nd->Option (Int))->Bool->List (Ex)->Ex->(Int->List (Nd)->(Nd->Option (Int))->Bool->Prop)->Prop
def Vz(Qa:Qo)(q5p:Z9)(Jl:Ji)(q5q:Vi)(q1o:Up)(W4:Jm)(X:Q2):Q2:=fun ns ids full atoms e K=>Cnd (e.1=1) (Qa ns ids full (1:Int) fun Qj (Jh:List (Int×Int×Int)) Uy Gq=>K Qj Jh Uy Gq) (Cnd (e.1=2) (Qa ns ids full (1:Int) fun Qj (Jh:List (Int×Int×Int)) Uy Gq=>Fits e.5->InI ((↑e.5.length:Int) - 1)/\Lp5 (fun Zc Vm (j1s:List (Int×Int×Int)) q1p j1t j7x=>Cnd ((0:Int)<=Vm) (At e.5 Vm fun y3=>X j1s j1t q1p atoms (Ex.mk y3.1 y3.2 y3.3 y3.4 y3.5) fun Vc (q9b:List (Int×Int×Int)) z5u j1u=>q5p q9b z5u j1u Vc Zc fun Z7 (z2e:List (Int×Int×Int)) j1v z7a=>InI (Vm - 1)/\j7x Z7 (Vm - 1) z2e z7a j1v) (K Zc j1s j1t q1p)) Qj ((↑e.5.length:Int) - 1) Jh Gq Uy) (Cnd (e.1=3) (Qa ns ids full (0:Int) fun Qj (Jh:List (Int×Int×Int)) Uy Gq=>Fits e.5->InI ((↑e.5.length:Int) - 1)/\Lp5 (fun Zc Vm (j1s:List (Int×Int×Int)) q1p j1t j7x=>Cnd ((0:Int)<=Vm) (At e.5 Vm fun y3=>X j1s j1t q1p atoms (Ex.mk y3.1 y3.2 y3.3 y3.4 y3.5) fun Vc (q9b:List (Int×Int×Int)) z5u j1u=>Jl q9b z5u j1u Vc Zc fun Z7 (z2e:List (Int×Int×Int)) j1v z7a=>InI (Vm - 1)/\j7x Z7 (Vm - 1) z2e z7a j1v) (K Zc j1s j1t q1p)) Qj ((↑e.5.length:Int) - 1) Jh Gq Uy) (Cnd (e.1=4) (Fits e.5->Cnd ((↑e.5.length:Int)=0) (Qa ns ids full (-1:Int) fun Z2 (Gv:List (Int×Int×Int)) q0v q2x=>K Z2 Gv q0v q2x) (((0:Int)<=(0:Int)/\(0:Int)<(↑e.5.length:Int))/\ ∀y1,e.5[Int.toNat (0:Int)]? =some y1->X ns ids full atoms (Ex.mk y1.1 y1.2 y1.3 y1.4 y1.5) fun Zo (Hd:List (Int×Int×Int)) q4d q9c=>q5q Hd q4d q9c Zo fun R9 (q7e:List (Int×Int×Int)) j7y j42=>K R9 q7e j7y j42)) (Fits atoms->Lp1 (fun Z2 z8f=>CAt atoms Z2 (fun y2=>q1o (Ex.mk y2.1 y2.2 y2.3 y2.4 y2.5) (Ex.mk e.1 e.2 e.3 e.4 e.5) fun R9=>Cnd (R9=true) (Qa ns ids full (1:Int) fun Vc (q9b:List (Int×Int×Int)) z5u j1u=>Qa q9b z5u j1u (0:Int) fun Z7 (z2e:List (Int×Int×Int)) j1v z7a=>W4 z2e j1v z7a Z2 Vc Z7 fun H4 (q9y:List (Int×Int×Int)) j40 j41=>K H4 q9y j40 j41) (InI (Z2+1)/\z8f (Z2+1))) (Qa ns ids full (1:Int) fun Zc (Vm:List (Int×Int×Int)) q10 q1p=>Qa Vm q10 q1p (0:Int) fun Zo (Hd:List (Int×Int×Int)) q4d q9c=>W4 Hd q4d q9c (-1:Int) Zc Zo fun R9 (q7e:List (Int×Int×Int)) j7y j42=>K R9 q7e j7y j42)) (0:Int)))))
def Jj:Q2:=fun ns ids full atoms e K=> ∀X:Q2,(∀ns ids full atoms e K,Vz Qp Zt Zm Zu Ja Qq X ns ids full atoms e K->X ns ids full atoms e K)->X ns ids full atoms e K
abbrev Wq:Type:=List (Nd)->(Nd->Option (Int))->Bool->(Bool->List (Nd)->(Nd->Option (Int))->Bool->Prop)->Prop
def Rx:Wq:=fun ns ids full K=>K full ns ids full
abbrev Jn:Type:=List (Rul)->(List (Int)->Bool->Prop)->Prop
def Uq(He:Uc)(Jf:Vy)(Qa:Qo)(Q3:Q2)(Jl:Ji)(W8:Wq):Jn:=fun l K=>Fits l->Lp2 (fun Z2 Gv q0v=>CAt l Z2 (fun y2=>Sml (Gv++[Ex.mk y2.2.1 y2.2.2 y2.2.3 y2.2.4 y2.2.5]).length/\InI (Z2+1)/\q0v (Z2+1) (Gv++[Ex.mk y2.2.1 y2.2.2 y2.2.3 y2.2.4 y2.2.5])) (He (Ex.mk (3:Int) (B8 []) (B8 []) [] Gv) fun Zc=>Jf fun (Zo:List (Int×Int×Int)) z2b j9s=>Qa Zo z2b j9s (0:Int) fun R9 (q7e:List (Int×Int×Int)) j7y j42=>Fits l->LpH (fun (Z7:Int×List Int×Int×List (Int×Int×Int)×Bool×(Int×Int×Int->Option Int)×Unit) (j43:Int×List Int×Int×List (Int×Int×Int)×Bool×(Int×Int×Int->Option Int)×Unit->Prop)=>CAt l Z7.2.2.1 (fun y7=>Q3 Z7.2.2.2.1 Z7.2.2.2.2.2.1 Z7.2.2.2.2.1 Zc (Ex.mk y7.2.1 y7.2.2 y7.2.3 y7.2.4 y7.2.5) fun Gu (q4f:List (Int×Int×Int)) j1r j32=>Jl q4f j1r j32 Gu Z7.1 fun Hn (q0w:List (Int×Int×Int)) j1w w08=>W8 q0w j1w w08 fun q6o (j1x:List (Int×Int×Int)) j7z j70=>Cnd (q6o=true) (K [] false) (Qa j1x j7z j70 (-1:Int) fun q4c (j33:List (Int×Int×Int)) j34 j35=>Cnd (Hn=q4c) (K [] false) (Cnd (Hn=Z7.1) (InI (Z7.2.2.1+1)/\Sml (Z7.2.1++[Z7.2.2.1+1]).length/\InI (Z7.2.2.1+1)/\j43 (Hn,Z7.2.1++[Z7.2.2.1+1],Z7.2.2.1+1,j33,j35,j34,())) (InI (Z7.2.2.1+1)/\j43 (Hn,Z7.2.1,Z7.2.2.1+1,j33,j35,j34,()))))) (K Z7.2.1 true)) (R9,[],(0:Int),q7e,j42,j7y,()))) (0:Int) []
def Wr:Jn:=Uq G6 Wp Qp Jj Zm Rx
abbrev U9:Type:=ByteArray->(Bool->Prop)->Prop
def Vj(s:ByteArray)(K:Bool->Prop):Prop:=s.size<=(9223372036854775807:Nat)/\K (Go.Lib.validD s.data.toList)
abbrev Hj:Type:=ByteArray->(Bool->Prop)->Prop
def q2c(Vn:U9):Hj:=fun s K=>Cnd ((200:Int)<(↑s.size:Int)) (K false) (Vn s fun Qj=>Cnd (Qj=true) (Lp1 (fun (Z2:ByteArray×Nat) z8f=>Cnd (Z2.2<Z2.1.size) (Cnd ((↑(Go.Utf8.decode Z2.1 Z2.2).1:Int)<(32:Int)) (K false) (Cnd ((↑(Go.Utf8.decode Z2.1 Z2.2).1:Int)=(127:Int)) (K false) (z8f (Z2.1,Z2.2+(Go.Utf8.decode Z2.1 Z2.2).2)))) (K true)) (s,(0:Nat))) (K false))
def Bg:Hj:=q2c Vj
abbrev Bh:Type:=Bool->Int->(Int->Prop)->Prop
def q2d:Bh:=fun wrong e K=>Cnd (wrong=true) (K e) (K (0:Int))
abbrev Ht:Type:=ByteArray->(List (ByteArray)->Prop)->Prop
def Hu(s:ByteArray)(K:List (ByteArray)->Prop):Prop:=s.size<4294967281/\j4s s/\K (Uo s)
abbrev Gw:Type:=ByteArray->(Bool->Prop)->Prop
def q6b(Uk:Ht):Gw:=fun s K=>Cnd ((↑s.size:Int)<1) (K false) (Cnd ((32:Int)<(↑s.size:Int)) (K false) (Lp1 (fun (Qj:ByteArray×Nat) z2f=>Cnd (Qj.2<Qj.1.size) (Cnd ((97:Int)<=(↑(Go.Utf8.decode Qj.1 Qj.2).1:Int)) (Cnd ((↑(Go.Utf8.decode Qj.1 Qj.2).1:Int)<=(122:Int)) (z2f (Qj.1,Qj.2+(Go.Utf8.decode Qj.1 Qj.2).2)) (Cnd ((↑Qj.2:Int)=(0:Int)) (K false) (Cnd ((↑(Go.Utf8.decode Qj.1 Qj.2).1:Int)<(48:Int)) (Cnd ((↑(Go.Utf8.decode Qj.1 Qj.2).1:Int)=(45:Int)) (z2f (Qj.1,Qj.2+(Go.Utf8.decode Qj.1 Qj.2).2)) (Cnd ((↑(Go.Utf8.decode Qj.1 Qj.2).1:Int)=(95:Int)) (z2f (Qj.1,Qj.2+(Go.Utf8.decode Qj.1 Qj.2).2)) (K false))) (Cnd ((57:Int)<(↑(Go.Utf8.decode Qj.1 Qj.2).1:Int)) (Cnd ((↑(Go.Utf8.decode Qj.1 Qj.2).1:Int)=(45:Int)) (z2f (Qj.1,Qj.2+(Go.Utf8.decode Qj.1 Qj.2).2)) (Cnd ((↑(Go.Utf8.decode Qj.1 Qj.2).1:Int)=(95:Int)) (z2f (Qj.1,Qj.2+(Go.Utf8.decode Qj.1 Qj.2).2)) (K false))) (z2f (Qj.1,Qj.2+(Go.Utf8.decode Qj.1 Qj.2).2)))))) (Cnd ((↑Qj.2:Int)=(0:Int)) (K false) (Cnd ((↑(Go.Utf8.decode Qj.1 Qj.2).1:Int)<(48:Int)) (Cnd ((↑(Go.Utf8.decode Qj.1 Qj.2).1:Int)=(45:Int)) (z2f (Qj.1,Qj.2+(Go.Utf8.decode Qj.1 Qj.2).2)) (Cnd ((↑(Go.Utf8.decode Qj.1 Qj.2).1:Int)=(95:Int)) (z2f (Qj.1,Qj.2+(Go.Utf8.decode Qj.1 Qj.2).2)) (K false))) (Cnd ((57:Int)<(↑(Go.Utf8.decode Qj.1 Qj.2).1:Int)) (Cnd ((↑(Go.Utf8.decode Qj.1 Qj.2).1:Int)=(45:Int)) (z2f (Qj.1,Qj.2+(Go.Utf8.decode Qj.1 Qj.2).2)) (Cnd ((↑(Go.Utf8.decode Qj.1 Qj.2).1:Int)=(95:Int)) (z2f (Qj.1,Qj.2+(Go.Utf8.decode Qj.1 Qj.2).2)) (K false))) (z2f (Qj.1,Qj.2+(Go.Utf8.decode Qj.1 Qj.2).2)))))) (Uk (B8 [97,110,100,32,97,114,109,115,32,97,116,116,114,105,98,117,116,101,32,98,111,111,108,32,99,108,97,105,109,115,32,99,111,110,116,97,105,110,115,32,99,111,111,108,32,99,111,111,108,105,110,103,32,100,101,102,97,117,108,116,32,100,114,97,102,116,32,101,110,100,115,32,101,120,99,108,117,100,101,32,101,120,105,115,116,115,32,101,120,112,101,114,105,109,101,110,116,32,102,97,108,115,101,32,102,108,97,103,32,104,111,108,100,111,117,116,32,105,110,32,105,110,99,108,117,100,101,32,105,115,32,108,97,121,101,114,32,108,105,115,116,32,109,101,109,98,101,114,32,110,101,101,100,115,32,110,111,116,32,110,117,109,98,101,114,32,111,102,102,32,111,110,32,111,114,32,114,117,108,101,32,114,117,110,110,105,110,103,32,115,97,108,116,32,115,101,103,109,101,110,116,32,115,101,114,118,101,32,115,101,116,116,105,110,103,115,32,115,112,108,105,116,32,115,116,97,114,116,115,32,115,116,111,112,112,101,100,32,116,97,114,103,101,116,32,116,101,120,116,32,116,111,32,116,114,117,101,32,117,110,116,105,108,32,118,97,114,105,97,116,105,111,110,115,32,118,101,114,115,105,111,110,32,119,104,101,110]) fun Z2=>Fits Z2->Lp1 (fun Zo z2b=>CAt Z2 Zo (fun y4=>Cnd (y4=s) (K false) (InI (Zo+1)/\z2b (Zo+1))) (K true)) (0:Int))) (s,(0:Nat))))
def q0i:Gw:=q6b Hu
abbrev Gy:Type:=ByteArray->ByteArray->(Int->Prop)->Prop
def Gz(_:ByteArray)(_:ByteArray)(_:Int->Prop):Prop:=False
abbrev Jx:Type:=List (Decl)->(Int->Prop)->Prop
def Ga(Wi:Gw)(Wj:Gy):Jx:=fun l K=>Fits l->Cnd ((30:Int)<(↑l.length:Int)) (K (5:Int)) (Fits l->Lp1 (fun Zc j36=>CAt l Zc (fun y3=>Wi y3.1 fun Vc=>Cnd (Vc=true) (Wi y3.2 fun Z7=>Cnd (Z7=true) (Cnd (y3.2=B8 [107,101,121]) (K (6:Int)) (Cnd (y3.3<1) (K (7:Int)) (Cnd ((5:Int)<y3.3) (K (7:Int)) (Cnd ((0:Int)<Zc) (InI (Zc - 1)/\((0:Int)<=Zc - 1/\Zc - 1<(↑l.length:Int))/\ ∀y7,l[(Zc - 1).toNat]? =some y7->InI (Zc - 1)/\((0:Int)<=Zc - 1/\Zc - 1<(↑l.length:Int))/\ ∀y9,l[(Zc - 1).toNat]? =some y9->Wj y7.1 y3.1 fun q6o=>Wj y9.2 y3.2 fun q4c=>[q6o,q4c].length<=(9223372036854775807:Nat)->Lp1 (fun z8g w09=>Cnd (z8g<(↑[q6o,q4c].length:Int)) (((0:Int)<=z8g/\z8g<(↑[q6o,q4c].length:Int))/\ ∀y15,[q6o,q4c][z8g.toNat]? =some y15->Cnd (y15=0) (InI (z8g+1)/\w09 (z8g+1)) (Cnd ((0:Int)<=y15) (K (9:Int)) (InI (Zc+1)/\j36 (Zc+1)))) (Cnd ((0:Int)<=(0:Int)) (K (9:Int)) (InI (Zc+1)/\j36 (Zc+1)))) (0:Int)) (InI (Zc+1)/\j36 (Zc+1)))))) (K (6:Int))) (K (6:Int))) (K (0:Int))) (0:Int))
def Vk:Jx:=Ga q0i Gz
abbrev Ra:Type:=List (Int)->(Int->Prop)->Prop
def Rb:Ra:=fun l K=>Fits l->Lp1 (fun Z2 z8f=>CAt l Z2 (fun y2=>Cnd (y2=0) (InI (Z2+1)/\z8f (Z2+1)) (K y2)) (K (0:Int))) (0:Int)
abbrev Ry:Type:=Seg->(Int->Prop)->Prop
def Rz(_:Seg)(_:Int->Prop):Prop:=False
abbrev q2e:Type:=Flg->(Int->Prop)->Prop
def q2f(_:Flg)(_:Int->Prop):Prop:=False
abbrev q09:Type:=Lay_->(Int->Prop)->Prop
def q1a(_:Lay_)(_:Int->Prop):Prop:=False
abbrev Gb:Type:=Exper->(Int->Prop)->Prop
def Gc(_:Exper)(_:Int->Prop):Prop:=False
abbrev Jo:Type:=Envt->(Int->Prop)->Prop
def Ur(Vo:Gb)(Ri:q09)(Bq:q2e)(Gs:Ry)(Br:Hj)(Zy:Bh)(Wi:Gw)(Q5:Jx)(Jg:Ra):Jo:=fun v K=>Jn1 (fun Qj=>Cnd (Qj=0) (Jn1 (fun Z2=>Cnd (Z2=0) (Jn1 (fun Zc=>Cnd (Zc=0) (Jn1 (fun Zo=>Cnd (Zo=0) (Fits v.6->Cnd ((16:Int)<(↑v.6.length:Int)) (K (5:Int)) (Fits v.6->Lp1 (fun Z7 j43=>CAt v.6 Z7 (fun y7=>Vo (Exper.mk y7.1 y7.2 y7.3 y7.4 y7.5 y7.6 y7.7 (Ex.mk y7.8.1 y7.8.2 y7.8.3 y7.8.4 y7.8.5)) fun Gu=>Cnd (Gu=0) (Cnd ((0:Int)<Z7) (InI (Z7 - 1)/\((0:Int)<=Z7 - 1/\Z7 - 1<(↑v.6.length:Int))/\ ∀y10,v.6[(Z7 - 1).toNat]? =some y10->Cnd (Lk.blt y10.1 y7.1) (InI (Z7+1)/\j43 (Z7+1)) (K (9:Int))) (InI (Z7+1)/\j43 (Z7+1))) (K Gu)) (K (0:Int))) (0:Int))) (K Zo)) fun j9v=>Fits v.5->Cnd ((6:Int)<(↑v.5.length:Int)) (j9v (5:Int)) (Fits v.5->Lp1 (fun Z7 j43=>CAt v.5 Z7 (fun y7=>Ri y7 fun Gu=>Cnd (Gu=0) (Cnd ((0:Int)<Z7) (InI (Z7 - 1)/\((0:Int)<=Z7 - 1/\Z7 - 1<(↑v.5.length:Int))/\ ∀y10,v.5[(Z7 - 1).toNat]? =some y10->Cnd (Lk.blt y10.1 y7.1) (InI (Z7+1)/\j43 (Z7+1)) (j9v (9:Int))) (InI (Z7+1)/\j43 (Z7+1))) (j9v Gu)) (j9v (0:Int))) (0:Int))) (K Zc)) fun j71=>Fits v.4->Cnd ((30:Int)<(↑v.4.length:Int)) (j71 (5:Int)) (Fits v.4->Lp1 (fun Vc j9w=>CAt v.4 Vc (fun y6=>Bq (Flg.mk y6.1 y6.2 y6.3 y6.4 y6.5 y6.6 y6.7 y6.8 (Srv.mk y6.9.1 y6.9.2 y6.9.3 y6.9.4 y6.9.5)) fun G4=>Cnd (G4=0) (Cnd ((0:Int)<Vc) (InI (Vc - 1)/\((0:Int)<=Vc - 1/\Vc - 1<(↑v.4.length:Int))/\ ∀y9,v.4[(Vc - 1).toNat]? =some y9->Cnd (Lk.blt y9.1 y6.1) (InI (Vc+1)/\j9w (Vc+1)) (j71 (9:Int))) (InI (Vc+1)/\j9w (Vc+1))) (j71 G4)) (j71 (0:Int))) (0:Int))) (K Z2)) fun z8e=>Fits v.3->Cnd ((20:Int)<(↑v.3.length:Int)) (z8e (5:Int)) (Fits v.3->Lp1 (fun R9 j9x=>CAt v.3 R9 (fun y5=>Gs (Seg.mk y5.1 y5.2 y5.3 y5.4 (Ex.mk y5.5.1 y5.5.2 y5.5.3 y5.5.4 y5.5.5)) fun H4=>Cnd (H4=0) (Cnd ((0:Int)<R9) (InI (R9 - 1)/\((0:Int)<=R9 - 1/\R9 - 1<(↑v.3.length:Int))/\ ∀y8,v.3[(R9 - 1).toNat]? =some y8->Cnd (Lk.blt y8.1 y5.1) (InI (R9+1)/\j9x (R9+1)) (z8e (9:Int))) (InI (R9+1)/\j9x (R9+1))) (z8e H4)) (z8e (0:Int))) (0:Int))) (K Qj)) fun q4e=>Br v.1.1 fun Z2=>Zy (match decide ((Z2,()).1=true) with|true=>false|false=>true) (2:Int) fun Zc=>Cnd (v.1.3<0) (Zy true (3:Int) fun Zo=>Wi v.1.2 fun R9=>Cnd (R9=true) (Zy false (6:Int) fun Vc=>Q5 v.2 fun Z7=>Jg [Zc,Zo,Vc,Z7] fun H4=>q4e H4) (Cnd (v.1.2=B8 []) (Zy (match decide ((flC C.env (v,()).1).2.2.1=0) with|true=>false|false=>true) (6:Int) fun Vc=>Q5 v.2 fun Z7=>Jg [Zc,Zo,Vc,Z7] fun H4=>q4e H4) (Zy true (6:Int) fun Vc=>Q5 v.2 fun Z7=>Jg [Zc,Zo,Vc,Z7] fun H4=>q4e H4))) (Zy (decide ((10000:Int)<v.1.3)) (3:Int) fun Zo=>Wi v.1.2 fun R9=>Cnd (R9=true) (Zy false (6:Int) fun Vc=>Q5 v.2 fun Z7=>Jg [Zc,Zo,Vc,Z7] fun H4=>q4e H4) (Cnd (v.1.2=B8 []) (Zy (match decide ((flC C.env (v,()).1).2.2.1=0) with|true=>false|false=>true) (6:Int) fun Vc=>Q5 v.2 fun Z7=>Jg [Zc,Zo,Vc,Z7] fun H4=>q4e H4) (Zy true (6:Int) fun Vc=>Q5 v.2 fun Z7=>Jg [Zc,Zo,Vc,Z7] fun H4=>q4e H4)))
def Ws:Jo:=Ur Gc q1a q2f Rz Bg q2d q0i Vk Rb
abbrev q2g:Type:=Ex->(Bool->Prop)->Prop
def q2h(_:Ex)(_:Bool->Prop):Prop:=False
abbrev Hw:Type:=Ex->(List (ByteArray)->Prop)->Prop
def Hx(_:Ex)(_:List (ByteArray)->Prop):Prop:=False
abbrev B0:Type:=List (ByteArray)->List (Edg)->(List (ByteArray)->Prop)->Prop
def P_graph_Cyclic(nodes:List (ByteArray))(edges:List (Edg))(K:List (ByteArray)->Prop):Prop:=Go.Fl.P_graph_Cyclic nodes (edges.map fun e=>(e.1,e.2)) K
abbrev Rd:Type:=Envt->(List (Edg)->Prop)->Prop
def Re:Rd:=fun v K=>Fits v.4->Lp2 (fun Z2 Gv q0v=>CAt v.4 Gv (fun y2=>Fits y2.6->Lp2 (fun Vc q9b z5u=>CAt y2.6 q9b (fun y6=>Sml (Vc++[Edg.mk y2.1 y6.1]).length/\InI (q9b+1)/\z5u (Vc++[Edg.mk y2.1 y6.1]) (q9b+1)) (InI (Gv+1)/\q0v Vc (Gv+1))) Z2 (0:Int)) (K Z2)) [] (0:Int)
abbrev Jp:Type:=Envt->(ByteArray->Int->Prop)->Prop
def Us(W9:Jo)(Bt:q2g)(Ul:Hw)(Uf:B0)(Rj:Rd):Jp:=fun v K=>W9 (Envt.mk (Sett.mk v.1.1 v.1.2 v.1.3) v.2 v.3 v.4 v.5 v.6) fun Qj=>Cnd (Qj=0) (Fits v.3->Lp2 (fun Zc Vm q10=>CAt v.3 Vm (fun y3=>Sml (Zc++[y3.1]).length/\InI (Vm+1)/\q10 (Zc++[y3.1]) (Vm+1)) (Fits v.3->Lp2 (fun R9 q7e j7y=>CAt v.3 q7e (fun y5=>Bt (Ex.mk y5.5.1 y5.5.2 y5.5.3 y5.5.4 y5.5.5) fun H4=>Cnd (H4=true) (Ul (Ex.mk y5.5.1 y5.5.2 y5.5.3 y5.5.4 y5.5.5) fun G4=>Fits G4->Lp2 (fun Hn q0w j1w=>CAt G4 q0w (fun y11=>Sml (Hn++[Edg.mk y5.1 y11]).length/\InI (q0w+1)/\j1w (Hn++[Edg.mk y5.1 y11]) (q0w+1)) (InI (q7e+1)/\j7y Hn (q7e+1))) R9 (0:Int)) False) (Uf Zc R9 fun Vc=>Fits Vc->Cnd ((0:Int)<(↑Vc.length:Int)) (((0:Int)<=(0:Int)/\(0:Int)<(↑Vc.length:Int))/\ ∀y7,Vc[Int.toNat (0:Int)]? =some y7->(↑((B8 [115,101,103,109,101,110,116,32]).size+y7.size):Int)<=(9223372036854775807:Int)/\K (B8 [115,101,103,109,101,110,116,32]++y7) (12:Int)) (Fits v.4->Lp1 (fun G4 _=>CAt v.4 G4 (fun _=>False) (Fits v.4->Lp2 (fun Hn q0w j1w=>CAt v.4 q0w (fun y11=>Sml (Hn++[y11.1]).length/\InI (q0w+1)/\j1w (Hn++[y11.1]) (q0w+1)) (Rj (Envt.mk (Sett.mk v.1.1 v.1.2 v.1.3) v.2 v.3 v.4 v.5 v.6) fun q6o=>Uf Hn q6o fun q4c=>Fits q4c->Cnd ((0:Int)<(↑q4c.length:Int)) (((0:Int)<=(0:Int)/\(0:Int)<(↑q4c.length:Int))/\ ∀y14,q4c[Int.toNat (0:Int)]? =some y14->(↑((B8 [102,108,97,103,32]).size+y14.size):Int)<=(9223372036854775807:Int)/\K (B8 [102,108,97,103,32]++y14) (12:Int)) (Fits v.6->Lp1 (fun w1a _=>CAt v.6 w1a (fun _=>False) (K (B8 []) (0:Int))) (0:Int)))) [] (0:Int))) (0:Int)))) [] (0:Int))) [] (0:Int)) (K (B8 []) Qj)
def Wt:Jp:=Us Ws q2h Hx P_graph_Cyclic Re
abbrev Gd:Type:=(Bool->Prop)->Prop
def q1b(Va:Jn)(Vb:Jp):Gd:=fun K=>Va [Rul.mk (B8 [97]) (Ex.mk (1:Int) (B8 []) (B8 []) [] []) (Srv.mk (0:Int) (B8 []) (B8 []) (B8 []) []),Rul.mk (B8 [97]) (Ex.mk (1:Int) (B8 []) (B8 []) [] []) (Srv.mk (0:Int) (B8 []) (B8 []) (B8 []) [])] fun Qj Jh=>Vb (Envt.mk (Sett.mk (B8 []) (B8 []) (0:Int)) [] [] [] [] []) fun Z2 Gv=>Cnd (Jh=true) (Fits Qj->Cnd ((↑Qj.length:Int)=1) (((0:Int)<=(0:Int)/\(0:Int)<(↑Qj.length:Int))/\ ∀y3,Qj[Int.toNat (0:Int)]? =some y3->Cnd (y3=2) (Cnd (Z2=B8 []) (K (decide (Gv=0))) (K false)) (K false)) (K false)) (K false)
def Rf:Gd:=q1b Wr Wt
abbrev z07:Type:=List (Int)->Int->(List (Int)->Int->Prop)->Prop
def z08:z07:=fun list_ most K=>Jn1 (fun Qj=>K Qj (0:Int)) fun q4e=>Fits list_->Cnd (most<(↑list_.length:Int)) (((0:Int)<=(0:Int)/\(0:Int)<=most/\most<=(↑list_.length:Int))/\q4e (List.drop (Int.toNat (0:Int)) (List.take most.toNat list_))) (q4e list_)
abbrev q7o:Type:=List (Int)->Int->(Bool->Int->Prop)->Prop
def z09:q7o:=fun list at_ K=>Fits list->K (decide (at_<(↑list.length:Int))) at_
abbrev Ug:Type:=List (Int)->Int->Int->(Int->Int->Prop)->Prop
def z1a(q7w:q7o):Ug:=fun list at_ n K=>q7w list at_ fun Qj Jh=>Cnd (Qj=true) (InI (Jh+1)/\InI (Jh+1 - (1:Int))/\((0:Int)<=Jh+1 - (1:Int)/\Jh+1 - (1:Int)<(↑list.length:Int))/\ ∀y1,list[(Jh+1 - (1:Int)).toNat]? =some y1->InI y1/\n≠(0:Int)/\K (y1.tmod n) (Jh+1)) (K (0:Int) Jh)
def Ge:Ug:=z1a z09
abbrev Bi:Type:=(List (Decl)->Prop)->Prop
def Bj:Bi:=fun K=>K [Decl.mk (B8 [100,101,118,105,99,101]) (B8 [99,111,114,101,115]) (2:Int),Decl.mk (B8 [100,101,118,105,99,101]) (B8 [111,115]) (3:Int),Decl.mk (B8 [117,115,101,114]) (B8 [97,103,101]) (2:Int),Decl.mk (B8 [117,115,101,114]) (B8 [97,112,112]) (4:Int),Decl.mk (B8 [117,115,101,114]) (B8 [98,101,116,97]) (1:Int),Decl.mk (B8 [117,115,101,114]) (B8 [99,111,117,110,116,114,121]) (3:Int),Decl.mk (B8 [117,115,101,114]) (B8 [112,108,97,110]) (3:Int),Decl.mk (B8 [117,115,101,114]) (B8 [116,97,103,115]) (5:Int)]
abbrev q8n:Type:=List (Int)->Int->(ByteArray->Int->Prop)->Prop
def z5f(Qv:Ug):q8n:=fun list at_ K=>Qv list at_ (10:Int) fun Qj Jh=>InI ((48:Int)+Qj)/\(↑((B8 [107]).size+(Go.Utf8.encode (Go.IntKind.i32.wrap ((48:Int)+Qj))).size):Int)<=(9223372036854775807:Int)/\K (B8 [107]++Go.Utf8.encode (Go.IntKind.i32.wrap ((48:Int)+Qj))) Jh
def z1b:q8n:=z5f Ge
abbrev q4v:Type:=List (Int)->Int->(ByteArray->Int->Prop)->Prop
def z1c(Qv:Ug):q4v:=fun list at_ K=>Qv list at_ (11:Int) fun Qj Jh=>((0:Int)<=Qj/\Qj<(↑(11:Nat):Int))/\ ∀y1,z3r[Qj.toNat]? =some y1->K y1 Jh
def q7p:q4v:=z1c Ge
abbrev q2i:Type:=List (Int)->Int->Int->(Val->Int->Prop)->Prop
def q8o(Qv:Ug)(q7x:q4v):q2i:=fun list at_ kind K=>Cnd (kind=1) (Qv list at_ (2:Int) fun Qj Jh=>K (Val.mk kind Qj (B8 []) []) Jh) (Cnd (kind=2) ([(0:Int),(1:Int),(17:Int),(18:Int),(19:Int),(-5:Int),(64:Int),(1099511627776:Int),(-1099511627776:Int)].length<=(9223372036854775807:Nat)->Qv list at_ (↑[(0:Int),(1:Int),(17:Int),(18:Int),(19:Int),(-5:Int),(64:Int),(1099511627776:Int),(-1099511627776:Int)].length:Int) fun Z2 Gv=>((0:Int)<=Z2/\Z2<(↑[(0:Int),(1:Int),(17:Int),(18:Int),(19:Int),(-5:Int),(64:Int),(1099511627776:Int),(-1099511627776:Int)].length:Int))/\ ∀y2,[(0:Int),(1:Int),(17:Int),(18:Int),(19:Int),(-5:Int),(64:Int),(1099511627776:Int),(-1099511627776:Int)][Z2.toNat]? =some y2->K (Val.mk kind y2 (B8 []) []) Gv) (Cnd (kind=3) (q7x list at_ fun Qj Jh=>K (Val.mk kind (0:Int) Qj []) Jh) (Cnd (kind=4) (Qv list at_ (6:Int) fun Qj Jh=>((0:Int)<=Qj/\Qj<(↑(6:Nat):Int))/\ ∀y1,q4u[Qj.toNat]? =some y1->K (Val.mk kind (0:Int) y1 []) Jh) (Qv list at_ (5:Int) fun Qj Jh=>((0:Int)<=Qj/\Qj<(↑(5:Nat):Int))/\ ∀y1,z0j[Qj.toNat]? =some y1->Sml ([]++y1).length/\K (Val.mk (5:Int) (0:Int) (B8 []) ([]++y1)) Jh))))
def q0j:q2i:=q8o Ge q7p
abbrev q7q:Type:=List (Int)->Int->(Ex->Int->Prop)->Prop
def z1d(Bu:Bi)(Qv:Ug)(z2g:q8n)(Vu:q2i):q7q:=fun list at_ K=>Bu fun Qj=>Fits Qj->InI ((↑Qj.length:Int)+1)/\Qv list at_ ((↑Qj.length:Int)+1) fun Zc Vm=>Fits Qj->Cnd (Zc=(↑Qj.length:Int)) (z2g list Vm fun R9 q7e=>K (Ex.mk (7:Int) (B8 [117,115,101,114]) (B8 [107,101,121]) [Val.mk (3:Int) (0:Int) R9 []] []) q7e) (At Qj Zc fun y4=>Jn1 (fun (Z7:Int×ByteArray×ByteArray×List Val×List Ex×Int×Int×ByteArray×ByteArray×List Val×List Ex×Unit)=>Vu list Z7.2.2.2.2.2.1 y4.3 fun H4 q9y=>K (Ex.mk (7:Int) Z7.2.1 Z7.2.2.1 [H4] Z7.2.2.2.2.1) q9y) fun (j9y:Int×ByteArray×ByteArray×List Val×List Ex×Int×Int×ByteArray×ByteArray×List Val×List Ex×Unit->Prop)=>Qv list Vm (5:Int) fun H4 q9y=>Jn1 (fun (G4:Int×Int×ByteArray×ByteArray×List Val×List Ex×Int×ByteArray×ByteArray×List Val×List Ex×Unit)=>Cnd (y4.3=2) (Qv list G4.1 (4:Int) fun Gu q4f=>InI ((12:Int)+Gu)/\Vu list q4f y4.3 fun Hn q0w=>K (Ex.mk ((12:Int)+Gu) G4.2.2.1 G4.2.2.2.1 [Hn] G4.2.2.2.2.2.1) q0w) (Cnd (y4.3=3) (Qv list G4.1 (4:Int) fun Gu q4f=>InI ((12:Int)+Gu)/\Vu list q4f y4.3 fun Hn q0w=>K (Ex.mk ((12:Int)+Gu) G4.2.2.1 G4.2.2.2.1 [Hn] G4.2.2.2.2.2.1) q0w) (Cnd (y4.3=4) (Qv list G4.1 (4:Int) fun Gu q4f=>InI ((12:Int)+Gu)/\Vu list q4f y4.3 fun Hn q0w=>K (Ex.mk ((12:Int)+Gu) G4.2.2.1 G4.2.2.2.1 [Hn] G4.2.2.2.2.2.1) q0w) (j9y (G4.2.1,G4.2.2.1,G4.2.2.2.1,G4.2.2.2.2.1,G4.2.2.2.2.2.1,G4.1,G4.2.2.2.2.2.2.1,G4.2.2.2.2.2.2.2.1,G4.2.2.2.2.2.2.2.2.1,G4.2.2.2.2.2.2.2.2.2.1,G4.2.2.2.2.2.2.2.2.2.2.1,()))))) fun (j72:Int×Int×ByteArray×ByteArray×List Val×List Ex×Int×ByteArray×ByteArray×List Val×List Ex×Unit->Prop)=>Cnd (H4=0) (K (Ex.mk (6:Int) y4.1 y4.2 [] []) q9y) (Cnd (H4=1) (Cnd (y4.3=5) (j9y ((0:Int),y4.1,y4.2,[],[],q9y,(0:Int),B8 [],B8 [],[],[],())) (Lp3 (fun Gu q4f w1m w1n=>Qv list w1m (3:Int) fun Hn q0w=>Cnd (Gu<=Hn) (Vu list q0w y4.3 fun q6o j1x=>Sml (q4f++[q6o]).length/\InI (Gu+1)/\w1n (Gu+1) (q4f++[q6o]) j1x) (K (Ex.mk (8:Int) y4.1 y4.2 q4f []) q0w)) (0:Int) [] q9y)) (Cnd (H4=2) (Cnd (y4.3=3) (Vu list q9y (3:Int) fun Gu q4f=>K (Ex.mk (11:Int) y4.1 y4.2 [Gu] []) q4f) (Cnd (y4.3=5) (Vu list q9y (3:Int) fun Gu q4f=>K (Ex.mk (11:Int) y4.1 y4.2 [Gu] []) q4f) (j9y ((0:Int),y4.1,y4.2,[],[],q9y,(0:Int),B8 [],B8 [],[],[],())))) (Cnd (H4=3) (Cnd (y4.3=3) (Qv list q9y (2:Int) fun Gu q4f=>InI ((9:Int)+Gu)/\Vu list q4f (3:Int) fun Hn q0w=>K (Ex.mk ((9:Int)+Gu) y4.1 y4.2 [Hn] []) q0w) (j72 (q9y,(0:Int),y4.1,y4.2,[],[],(0:Int),B8 [],B8 [],[],[],()))) (Cnd (H4=4) (j72 (q9y,(0:Int),y4.1,y4.2,[],[],(0:Int),B8 [],B8 [],[],[],())) (j9y ((0:Int),y4.1,y4.2,[],[],q9y,(0:Int),B8 [],B8 [],[],[],())))))))
def q28:q7q:=z1d Bj Ge z1b q0j
abbrev q1c:Type:=List (Int)->Int->List (ByteArray)->Int->(Ex->Int->Prop)->Prop
def q7r(Qv:Ug)(z7b:q7q)(X:q1c):q1c:=fun list at_ segments levels K=>Qv list at_ (8:Int) fun Qj Jh=>Jn1 (fun Z2=>Cnd (Z2=0) (K (Ex.mk (1:Int) (B8 []) (B8 []) [] []) Jh) (Cnd (Z2=3) (Fits segments->Cnd ((0:Int)<(↑segments.length:Int)) (Fits segments->Qv list Jh (↑segments.length:Int) fun R9 q7e=>At segments R9 fun y5=>K (Ex.mk (5:Int) (B8 []) y5 [] []) q7e) (z7b list Jh fun Zo Hd=>K (Ex.mk Zo.1 Zo.2 Zo.3 Zo.4 Zo.5) Hd)) (Cnd (Z2=4) (InI (levels - 1)/\X list Jh segments (levels - 1) fun Zc Vm=>K (Ex.mk (4:Int) (B8 []) (B8 []) [] [Ex.mk Zc.1 Zc.2 Zc.3 Zc.4 Zc.5]) Vm) (Jn1 (fun Zc=>Cnd (Zc=true) (Qv list Jh (2:Int) fun Zo Hd=>InI ((2:Int)+Zo)/\Qv list Hd (2:Int) fun R9 q7e=>InI ((2:Int)+R9)/\LpH (fun (Vc:Int×Int×Int×ByteArray×ByteArray×List Val×List Ex×Unit) (j9w:Int×Int×Int×ByteArray×ByteArray×List Val×List Ex×Unit->Prop)=>Cnd (Vc.1<2+R9) (InI (levels - 1)/\X list Vc.2.1 segments (levels - 1) fun Z7 z2e=>Jn1 (fun (H4:Int×ByteArray×ByteArray×List Val×List Ex×Unit)=>Sml (Vc.2.2.2.2.2.2.1++[Ex.mk H4.1 H4.2.1 H4.2.2.1 H4.2.2.2.1 H4.2.2.2.2.1]).length/\InI (Vc.1+1)/\j9w (Vc.1+1,z2e,Vc.2.2.1,Vc.2.2.2.1,Vc.2.2.2.2.1,Vc.2.2.2.2.2.1,Vc.2.2.2.2.2.2.1++[Ex.mk H4.1 H4.2.1 H4.2.2.1 H4.2.2.2.1 H4.2.2.2.2.1],())) fun (w1g:Int×ByteArray×ByteArray×List Val×List Ex×Unit->Prop)=>Cnd (Z7.1=2+Zo) (w1g ((4:Int),B8 [],B8 [],[],[Ex.mk Z7.1 Z7.2 Z7.3 Z7.4 Z7.5],())) (w1g (Z7.1,Z7.2,Z7.3,Z7.4,Z7.5,()))) (K (Ex.mk Vc.2.2.1 Vc.2.2.2.1 Vc.2.2.2.2.1 Vc.2.2.2.2.2.1 Vc.2.2.2.2.2.2.1) Vc.2.1)) ((0:Int),q7e,(2:Int)+Zo,B8 [],B8 [],[],[],())) (z7b list Jh fun Zo Hd=>K (Ex.mk Zo.1 Zo.2 Zo.3 Zo.4 Zo.5) Hd)) fun j71=>Cnd (Z2=5) (j71 (decide (Z2=5))) (j71 (decide (Z2=6))))))) fun z8e=>Cnd (levels<=1) (Cnd ((4:Int)<=Qj) (InI (Qj - 4)/\z8e (Qj - 4)) (z8e Qj)) (z8e Qj)
def q4w:q1c:=fun list at_ segments levels K=> ∀X:q1c,(∀list at_ segments levels K,q7r Ge q28 X list at_ segments levels K->X list at_ segments levels K)->X list at_ segments levels K
abbrev q4x:Type:=(List (Nd)->(Nd->Option (Int))->Bool->Prop)->Prop
def q8p:q4x:=fun K=>K [] (fun _=>none) false
abbrev q3z:Type:=Int->(Bool->Prop)->Prop
def G0:q3z:=fun op K=>Cnd ((6:Int)<=op) (K (decide (op<=15))) (K false)
abbrev q4y:Type:=List (ByteArray)->List (ByteArray)->(Bool->Prop)->Prop
def q4z:q4y:=fun a b K=>Fits a->Fits b->Cnd ((↑a.length:Int)=(↑b.length:Int)) (Lp1 (fun Zc j36=>Fits a->CAt a Zc (fun y4=>At b Zc fun y6=>Cnd (y4=y6) (InI (Zc+1)/\j36 (Zc+1)) (K false)) (K true)) (0:Int)) (K false)
abbrev q0k:Type:=Val->Val->(Bool->Prop)->Prop
def q6c(q5r:q4y):q0k:=fun a b K=>Cnd (a.1=b.1) (Cnd (a.2=b.2) (Cnd (a.3=b.3) (q5r a.4 b.4 fun Qj=>K Qj) (K false)) (K false)) (K false)
def q29:q0k:=q6c q4z
abbrev Gf:Type:=List (Val)->List (Val)->(Bool->Prop)->Prop
def R0(q3b:q0k):Gf:=fun a b K=>Fits a->Fits b->Cnd ((↑a.length:Int)=(↑b.length:Int)) (Lp1 (fun Zc j36=>Fits a->CAt a Zc (fun y4=>At b Zc fun y6=>q3b y4 y6 fun G4=>Cnd (G4=true) (InI (Zc+1)/\j36 (Zc+1)) (K false)) (K true)) (0:Int)) (K false)
def Wa:Gf:=R0 q29
abbrev Wu:Type:=Ex->Ex->(Bool->Prop)->Prop
def q1d(q9d:Gf)(X:Wu):Wu:=fun a b K=>Cnd (a.1=b.1) (Cnd (a.2=b.2) (Cnd (a.3=b.3) (q9d a.4 b.4 fun Qj=>Cnd (Qj=true) (Fits a.5->Fits b.5->Cnd ((↑a.5.length:Int)=(↑b.5.length:Int)) (Lp1 (fun Zo z2b=>Fits a.5->CAt a.5 Zo (fun y5=>At b.5 Zo fun y7=>X (Ex.mk y5.1 y5.2 y5.3 y5.4 y5.5) (Ex.mk y7.1 y7.2 y7.3 y7.4 y7.5) fun Gu=>Cnd (Gu=true) (InI (Zo+1)/\z2b (Zo+1)) (K false)) (K true)) (0:Int)) (K false)) (K false)) (K false)) (K false)) (K false)
def Gg:Wu:=fun a b K=> ∀X:Wu,(∀a b K,q1d Wa X a b K->X a b K)->X a b K
abbrev R1:Type:=List (Ex)->Ex->(Int->Prop)->Prop
def q30(Rk:Wu):R1:=fun l e K=>Lp1 (fun Qj z2f=>Fits l->CAt l Qj (fun y2=>Rk (Ex.mk y2.1 y2.2 y2.3 y2.4 y2.5) (Ex.mk e.1 e.2 e.3 e.4 e.5) fun R9=>Cnd (R9=true) (K Qj) (InI (Qj+1)/\z2f (Qj+1))) (K (-1:Int))) (0:Int)
def J4:R1:=q30 Gg
abbrev J5:Type:=List (Ex)->Ex->(List (Ex)->Prop)->Prop
def B1(q1q:R1)(z5v:q3z)(X:J5):J5:=fun l e K=>Jn1 (fun Qj=>Lp2 (fun Z2 Gv q0v=>Fits e.5->CAt e.5 Gv (fun y3=>X Z2 (Ex.mk y3.1 y3.2 y3.3 y3.4 y3.5) fun Vc=>InI (Gv+1)/\q0v Vc (Gv+1)) (K Z2)) Qj (0:Int)) fun q4e=>Cnd (e.1=5) (q1q l (Ex.mk e.1 e.2 e.3 e.4 e.5) fun Z2=>Cnd (Z2<0) ((Sml ([]++l).length/\Sml ([]++l++[Ex.mk e.1 e.2 e.3 e.4 e.5]).length/\q4e ([]++l++[Ex.mk e.1 e.2 e.3 e.4 e.5]))/\Sml ([]++l).length/\Sml ([]++l++[Ex.mk e.1 e.2 e.3 e.4 e.5]).length/\q4e ([]++l++[Ex.mk e.1 e.2 e.3 e.4 e.5])) (q4e l)) (z5v e.1 fun Z2=>Cnd (Z2=true) (q1q l (Ex.mk e.1 e.2 e.3 e.4 e.5) fun Zc=>Cnd (Zc<0) ((Sml ([]++l).length/\Sml ([]++l++[Ex.mk e.1 e.2 e.3 e.4 e.5]).length/\q4e ([]++l++[Ex.mk e.1 e.2 e.3 e.4 e.5]))/\Sml ([]++l).length/\Sml ([]++l++[Ex.mk e.1 e.2 e.3 e.4 e.5]).length/\q4e ([]++l++[Ex.mk e.1 e.2 e.3 e.4 e.5])) (q4e l)) (q4e l))
def G7:J5:=fun l e K=> ∀X:J5,(∀l e K,B1 J4 G0 X l e K->X l e K)->X l e K
abbrev Zg:Type:=List (Nd)->(Nd->Option (Int))->Bool->Int->(Bool->List (Nd)->(Nd->Option (Int))->Bool->Prop)->Prop
def Jy:Zg:=fun ns ids full id K=>Cnd ((-1002:Int)<id) (Fits ns->K (decide (id<(↑ns.length:Int))) ns ids full) (K false ns ids full)
abbrev Uh:Type:=List (Nd)->(Nd->Option (Int))->Bool->Int->((Int->Option (Bool))->List (Nd)->(Nd->Option (Int))->Bool->Prop)->Prop
def Ui:Uh:=fun ns ids full id K=>Lp2 (fun Qj z2f Uy=>Fits Qj->Cnd ((0:Int)<(↑Qj.length:Int)) (Fits Qj->InI ((↑Qj.length:Int) - 1)/\((0:Int)<=(↑Qj.length:Int) - 1/\(↑Qj.length:Int) - 1<(↑Qj.length:Int))/\ ∀y3,Qj[((↑Qj.length:Int) - 1).toNat]? =some y3->Fits Qj->InI ((↑Qj.length:Int) - 1)/\((0:Int)<=(↑Qj.length:Int) - 1/\(↑Qj.length:Int) - 1<=(↑Qj.length:Int))/\Cnd ((z2f y3).getD false=true) (Uy (List.take ((↑Qj.length:Int) - 1).toNat Qj) z2f) (Cnd ((0:Int)<=y3) (At ns y3 fun y6=>At ns y3 fun y8=>Sml (List.take ((↑Qj.length:Int) - 1).toNat Qj++[y6.2.1,y8.2.2]).length/\Uy (List.take ((↑Qj.length:Int) - 1).toNat Qj++[y6.2.1,y8.2.2]) (put z2f y3 true)) (Uy (List.take ((↑Qj.length:Int) - 1).toNat Qj) (put z2f y3 true)))) (K z2f ns ids full)) [id] fun _=>none
abbrev Wb:Type:=List (Nd)->(Nd->Option (Int))->Bool->Int->(List (Int)->List (Nd)->(Nd->Option (Int))->Bool->Prop)->Prop
def q0l(Qg:Zg)(Um:Uh):Wb:=fun ns ids full id K=>Qg ns ids full id fun Qj (Jh:List (Int×Int×Int)) Uy Gq=>Cnd (Qj=true) (Um Jh Uy Gq id fun z8e (Gv:List (Int×Int×Int)) q0v q2x=>Lp2 (fun Zc Vm q10=>Cnd (Vm<=1000) (InI ((-1:Int) - Vm)/\Cnd ((z8e ((-1:Int) - Vm)).getD false=true) (Sml (Zc++[Vm]).length/\InI (Vm+1)/\q10 (Zc++[Vm]) (Vm+1)) (InI (Vm+1)/\q10 Zc (Vm+1))) (K Zc Gv q0v q2x)) [] (0:Int)) (K [] Jh Uy Gq)
def V0:Wb:=q0l Jy Ui
abbrev Qu:Type:=List (Nd)->(Nd->Option (Int))->Bool->Int->(Bool->List (Nd)->(Nd->Option (Int))->Bool->Prop)->Prop
def H2(Qg:Zg)(V4:Wb):Qu:=fun ns ids full id K=>Qg ns ids full id fun Qj (Jh:List (Int×Int×Int)) Uy Gq=>Cnd (Qj=true) (V4 Jh Uy Gq id fun Z2 (Gv:List (Int×Int×Int)) q0v q2x=>Lp1 (fun Zc j36=>Fits Z2->CAt Z2 Zc (fun y4=>Cnd ((1:Int)<y4) (K false Gv q0v q2x) (InI (Zc+1)/\j36 (Zc+1))) (K true Gv q0v q2x)) (0:Int)) (K false Jh Uy Gq)
def Zw:Qu:=H2 Jy V0
abbrev J6:Type:=List (Nd)->(Nd->Option (Int))->Bool->Int->(Int->List (Nd)->(Nd->Option (Int))->Bool->Prop)->Prop
def Z1:J6:=fun ns ids full id K=>Cnd (id<0) (K (1001:Int) ns ids full) (At ns id fun y0=>K y0.1 ns ids full)
abbrev Uj:Type:=List (Nd)->(Nd->Option (Int))->Bool->Int->Int->(Int->Int->List (Nd)->(Nd->Option (Int))->Bool->Prop)->Prop
def q1t(Qy:J6):Uj:=fun ns ids full id test K=>Qy ns ids full id fun Qj (Jh:List (Int×Int×Int)) Uy Gq=>Cnd (Qj=test) (At Jh id fun y1=>At Jh id fun y3=>K y1.2.1 y3.2.2 Jh Uy Gq) (K id id Jh Uy Gq)
def Jb:Uj:=q1t Z1
abbrev Vs:Type:=List (Nd)->(Nd->Option (Int))->Bool->Int->Int->Int->(Int->List (Nd)->(Nd->Option (Int))->Bool->Prop)->Prop
def q2j(Qg:Zg)(Qy:J6):Vs:=fun ns ids full test yes no K=>Cnd (test<0) (K (-1002:Int) ns ids full) (Cnd ((1000:Int)<test) (K (-1002:Int) ns ids full) (Qg ns ids full yes fun Qj (Jh:List (Int×Int×Int)) Uy Gq=>Cnd (Qj=true) (Qg Jh Uy Gq no fun Z2 (Gv:List (Int×Int×Int)) q0v q2x=>Cnd (Z2=true) (Qy Gv q0v q2x yes fun Zc (Vm:List (Int×Int×Int)) q10 q1p=>Cnd (Zc<=test) (K (-1002:Int) Vm q10 q1p) (Qy Vm q10 q1p no fun Zo (Hd:List (Int×Int×Int)) q4d q9c=>Cnd (Zo<=test) (K (-1002:Int) Hd q4d q9c) (Cnd (yes=no) (K yes Hd q4d q9c) (Cnd ((q4d (test,yes,no)).isSome=true) (K ((q4d (test,yes,no)).getD (0:Int)) Hd q4d q9c) (Fits Hd->Cnd ((4000:Int)<=(↑Hd.length:Int)) (K (-1002:Int) Hd q4d true) (Fits Hd->Sml (Hd++[(test,yes,no)]).length/\((Hd++[(test,yes,no)]).length<=(9223372036854775807:Nat)->InI ((↑(Hd++[(test,yes,no)]).length:Int) - 1)/\K ((↑(Hd++[(test,yes,no)]).length:Int) - 1) (Hd++[(test,yes,no)]) (put q4d (test,yes,no) (↑Hd.length:Int)) q9c))))))) (K (-1002:Int) Gv q0v q2x)) (K (-1002:Int) Jh Uy Gq)))
def Q8:Vs:=q2j Jy Z1
abbrev Zz:Type:=List (Nd)->(Nd->Option (Int))->Bool->Int->Int->Int->(A3->Option (Int))->(Int->List (Nd)->(Nd->Option (Int))->Bool->(A3->Option (Int))->Prop)->Prop
def Wd(Qy:J6)(H0:Uj)(R8:Vs)(X:Zz):Zz:=fun ns ids full f g h known K=>Cnd (f=(-2:Int)) (K g ns ids full known) (Cnd (g=h) (K g ns ids full known) (Cnd (f=(-1:Int)) (K h ns ids full known) (Cnd ((known (f,g,h)).isSome=true) (K ((known (f,g,h)).getD (0:Int)) ns ids full known) (Qy ns ids full f fun Qj (Jh:List (Int×Int×Int)) Uy Gq=>Qy Jh Uy Gq g fun Z2 (Gv:List (Int×Int×Int)) q0v q2x=>Qy Gv q0v q2x h fun Zc (Vm:List (Int×Int×Int)) q10 q1p=>H0 Vm q10 q1p f (Min.min (Min.min Qj Z2) Zc) fun Zo Hd (j9s:List (Int×Int×Int)) w1o w1p=>H0 j9s w1o w1p g (Min.min (Min.min Qj Z2) Zc) fun R9 q7e (j4z:List (Int×Int×Int)) w03 w04=>H0 j4z w03 w04 h (Min.min (Min.min Qj Z2) Zc) fun Vc q9b (w05:List (Int×Int×Int)) w06 w07=>X w05 w06 w07 Zo R9 Vc known fun Z7 (z2e:List (Int×Int×Int)) j1v z7a j9z=>X z2e j1v z7a Hd q7e q9b j9z fun H4 (q9y:List (Int×Int×Int)) j40 j41 j9u=>Jn4 (fun G4 (j7w:List (Int×Int×Int)) w1q w1r=>K G4 j7w w1r w1q (put j9u (f,g,h) G4)) fun j72=>Cnd (Z7=(-1002:Int)) (j72 (-1002:Int) q9y j41 j40) (Cnd (H4=(-1002:Int)) (j72 (-1002:Int) q9y j41 j40) (R8 q9y j40 j41 (Min.min (Min.min Qj Z2) Zc) Z7 H4 fun Gu (q4f:List (Int×Int×Int)) j1r j32=>j72 Gu q4f j32 j1r))))))
def V1:Zz:=fun ns ids full f g h known K=> ∀X:Zz,(∀ns ids full f g h known K,Wd Z1 Jb Q8 X ns ids full f g h known K->X ns ids full f g h known K)->X ns ids full f g h known K
abbrev Za:Type:=List (Nd)->(Nd->Option (Int))->Bool->Int->Int->Int->(Int->List (Nd)->(Nd->Option (Int))->Bool->Prop)->Prop
def q0m(Qh:Qu)(Qg:Zg)(V5:Zz):Za:=fun ns ids full f g h K=>Qh ns ids full f fun Qj (Jh:List (Int×Int×Int)) Uy Gq=>Cnd (Qj=true) (Qg Jh Uy Gq g fun Z2 (Gv:List (Int×Int×Int)) q0v q2x=>Cnd (Z2=true) (Qg Gv q0v q2x h fun Zc (Vm:List (Int×Int×Int)) q10 q1p=>Cnd (Zc=true) (V5 Vm q10 q1p f g h (fun _=>none) fun Zo (Hd:List (Int×Int×Int)) q4d q9c _=>K Zo Hd q4d q9c) (K (-1002:Int) Vm q10 q1p)) (K (-1002:Int) Gv q0v q2x)) (K (-1002:Int) Jh Uy Gq)
def Jk:Za:=q0m Zw Jy V1
abbrev G8:Type:=List (Nd)->(Nd->Option (Int))->Bool->Int->(Int->List (Nd)->(Nd->Option (Int))->Bool->Prop)->Prop
def q3k(Qn:Za):G8:=fun ns ids full f K=>Qn ns ids full f (-1:Int) (-2:Int) fun Qj (Jh:List (Int×Int×Int)) Uy Gq=>K Qj Jh Uy Gq
def J7:G8:=q3k Jk
abbrev G9:Type:=List (Nd)->(Nd->Option (Int))->Bool->Int->Int->(Int->List (Nd)->(Nd->Option (Int))->Bool->Prop)->Prop
def q3l(Qh:Qu)(Qn:Za):G9:=fun ns ids full f g K=>Qh ns ids full g fun Qj (Jh:List (Int×Int×Int)) Uy Gq=>Cnd (Qj=true) (Qn Jh Uy Gq f g (-1:Int) fun Z2 (Gv:List (Int×Int×Int)) q0v q2x=>K Z2 Gv q0v q2x) (K (-1002:Int) Jh Uy Gq)
def J8:G9:=q3l Zw Jk
abbrev Rg:Type:=List (Nd)->(Nd->Option (Int))->Bool->Int->Int->(Int->List (Nd)->(Nd->Option (Int))->Bool->Prop)->Prop
def q40(Qh:Qu)(Qn:Za):Rg:=fun ns ids full f g K=>Qh ns ids full g fun Qj (Jh:List (Int×Int×Int)) Uy Gq=>Cnd (Qj=true) (Qn Jh Uy Gq f (-2:Int) g fun Z2 (Gv:List (Int×Int×Int)) q0v q2x=>K Z2 Gv q0v q2x) (K (-1002:Int) Jh Uy Gq)
def Wv:Rg:=q40 Zw Jk
abbrev Jq:Type:=List (Nd)->(Nd->Option (Int))->Bool->List (Ex)->Ex->(Int->List (Nd)->(Nd->Option (Int))->Bool->Prop)->Prop
def R2(q9z:G8)(q90:G9)(z2h:Rg)(q1q:R1)(R8:Vs)(X:Jq):Jq:=fun ns ids full atoms e K=>Cnd (e.1=1) (K (-2:Int) ns ids full) (Cnd (e.1=4) (((0:Int)<=(0:Int)/\(0:Int)<(↑e.5.length:Int))/\ ∀y0,e.5[Int.toNat (0:Int)]? =some y0->X ns ids full atoms (Ex.mk y0.1 y0.2 y0.3 y0.4 y0.5) fun Zc (Vm:List (Int×Int×Int)) q10 q1p=>q9z Vm q10 q1p Zc fun Zo (Hd:List (Int×Int×Int)) q4d q9c=>K Zo Hd q4d q9c) (Jn1 (fun Qj=>Cnd (Qj=true) (((0:Int)<=(0:Int)/\(0:Int)<(↑e.5.length:Int))/\ ∀y1,e.5[Int.toNat (0:Int)]? =some y1->X ns ids full atoms (Ex.mk y1.1 y1.2 y1.3 y1.4 y1.5) fun Zo (Hd:List (Int×Int×Int)) q4d q9c=>Lp5 (fun R9 q7e (j4z:List (Int×Int×Int)) j42 w1h w1i=>Fits e.5->CAt e.5 q7e (fun y6=>X j4z w1h j42 atoms (Ex.mk y6.1 y6.2 y6.3 y6.4 y6.5) fun G4 (j7w:List (Int×Int×Int)) j9q j9r=>Cnd (e.1=2) (q90 j7w j9q j9r R9 G4 fun Gu (q4f:List (Int×Int×Int)) j1r j32=>InI (q7e+1)/\w1i Gu (q7e+1) q4f j32 j1r) (z2h j7w j9q j9r R9 G4 fun Gu (q4f:List (Int×Int×Int)) j1r j32=>InI (q7e+1)/\w1i Gu (q7e+1) q4f j32 j1r)) (K R9 j4z w1h j42)) Zo (1:Int) Hd q9c q4d) (q1q atoms (Ex.mk e.1 e.2 e.3 e.4 e.5) fun Z2=>Cnd (Z2<0) (K (-1002:Int) ns ids full) (R8 ns ids full Z2 (-2:Int) (-1:Int) fun Zc (Vm:List (Int×Int×Int)) q10 q1p=>K Zc Vm q10 q1p))) fun q4e=>Cnd (e.1=2) (q4e (decide (e.1=2))) (q4e (decide (e.1=3)))))
def Gh:Jq:=fun ns ids full atoms e K=> ∀X:Jq,(∀ns ids full atoms e K,R2 J7 J8 Wv J4 Q8 X ns ids full atoms e K->X ns ids full atoms e K)->X ns ids full atoms e K
abbrev R3:Type:=Ex->(List (Ex)->Prop)->Prop
def q31(Hf:J5):R3:=fun e K=>Hf [] (Ex.mk e.1 e.2 e.3 e.4 e.5) fun Qj=>K Qj
def q1e:R3:=q31 G7
abbrev Jz:Type:=List (Nd)->(Nd->Option (Int))->Bool->Int->List (Bool)->(Int->List (Nd)->(Nd->Option (Int))->Bool->Prop)->Prop
def Bk(Qb:Ql):Jz:=fun ns ids full id holds K=>Qb ns ids full id fun Qj (Jh:List (Int×Int×Int)) Uy Gq=>Cnd (Qj=true) (Lp1 (fun Z2 z8f=>Cnd ((0:Int)<=Z2) (At Jh Z2 fun y2=>Fits holds->CAt holds y2.1 (fun y5=>Cnd (y5=true) (z8f y2.2.1) (z8f y2.2.2)) (z8f y2.2.2)) (InI ((-1:Int) - Z2)/\K ((-1:Int) - Z2) Jh Uy Gq)) id) (K (-1:Int) Jh Uy Gq)
def Vl:Jz:=Bk Q4
abbrev Ue:Type:=List (Nd)->(Nd->Option (Int))->Bool->Int->List (Bool)->(Int->List (Nd)->(Nd->Option (Int))->Bool->Prop)->Prop
def q3m(Qg:Zg):Ue:=fun ns ids full id holds K=>Qg ns ids full id fun Qj (Jh:List (Int×Int×Int)) Uy Gq=>Cnd (Qj=true) (Lp1 (fun Z2 z8f=>Cnd ((0:Int)<=Z2) (At Jh Z2 fun y2=>Fits holds->CAt holds y2.1 (fun y5=>Cnd (y5=true) (z8f y2.2.1) (z8f y2.2.2)) (z8f y2.2.2)) (InI ((-1:Int) - Z2)/\K ((-1:Int) - Z2) Jh Uy Gq)) id) (K (-1:Int) Jh Uy Gq)
def Ha:Ue:=q3m Jy
abbrev z1e:Type:=Int->Int->(Int->Prop)->Prop
def z1f:z1e:=fun x n K=>n≠(0:Int)/\Cnd (x.tmod n<0) (InI (x.tmod n+n)/\K (x.tmod n+n)) (K (x.tmod n))
abbrev Ww:Type:=List (Int)->Int->Int->(Bool->Prop)->Prop
def Wx(Rl:Gd)(z2i:z07)(q7y:q1c)(q1r:R3)(Jf:Vy)(Q3:Q2)(q5s:q4x)(Vp:Jz)(Gt:Jq)(Hg:Ue)(z2j:z1e):Ww:=fun codes drop n K=>Rl fun Qj=>Cnd (Qj=true) (z2i codes (120:Int) fun Z2 Gv=>q7y Z2 Gv [B8 [97,108,112,104,97],B8 [98,101,116,97]] (3:Int) fun Zc _=>q1r (Ex.mk Zc.1 Zc.2 Zc.3 Zc.4 Zc.5) fun Zo=>Jf fun (R9:List (Int×Int×Int)) j9x j4z=>Q3 R9 j9x j4z Zo (Ex.mk Zc.1 Zc.2 Zc.3 Zc.4 Zc.5) fun Vc (q9b:List (Int×Int×Int)) z5u j1u=>Cnd (Vc=(-1002:Int)) (K false) (Lp5 (fun Z7 z2e (j9t:List (Int×Int×Int)) z7a j9z w1s=>Cnd (z2e<40) (Fits Zo->((0:Int)<=(↑Zo.length:Int)/\(↑Zo.length:Int)<=(↑Zo.length:Int)/\Sml (↑Zo.length:Int).toNat)/\((List.replicate (↑Zo.length:Int).toNat false).length<=(9223372036854775807:Nat)->Lp2 (fun Gu q4f j1r=>Cnd (Gu<(↑(List.replicate (↑Zo.length:Int).toNat false).length:Int)) ((32:Int)≠(0:Int)/\(0:Int)<=Go.IntKind.u64.wrap (Gu.tmod (32:Int))/\At q4f Gu fun _=>InI (Gu+1)/\j1r (Gu+1) (q4f.set Gu.toNat (decide (Go.IntKind.i64.wrap (↑(BitVec.ofInt (64:Nat) ((Go.IntKind.i64.wrap (Go.IntKind.i64.wrap (Z7*5)+(3:Int))).fdiv ((2:Int) ^ Min.min (Go.IntKind.u64.wrap (Gu.tmod (32:Int))).toNat (64:Nat))) &&& BitVec.ofInt (64:Nat) (1:Int)).toNat:Int)=1)))) (q5s fun (Hn:List (Int×Int×Int)) w1b w1c=>Vp j9t j9z z7a Vc q4f fun q6o (j1x:List (Int×Int×Int)) j7z j70=>Gt Hn w1b w1c Zo (Ex.mk Zc.1 Zc.2 Zc.3 Zc.4 Zc.5) fun q4c (j33:List (Int×Int×Int)) j34 j35=>Hg j33 j34 j35 q4c q4f fun w1d (_:List (Int×Int×Int)) _ _=>Cnd (q6o=w1d) (InI (z2e+1)/\w1s (Go.IntKind.i64.wrap (Go.IntKind.i64.wrap (Z7*5)+(3:Int))) (z2e+1) j1x j70 j7z) (K false))) (0:Int) (List.replicate (↑Zo.length:Int).toNat false))) (Fits Zo->Cnd ((↑Zo.length:Int)=0) (K true) (Fits Zo->z2j drop (↑Zo.length:Int) fun Gu=>((0:Int)<=(0:Int)/\(0:Int)<=Gu/\Gu<=(↑Zo.length:Int))/\InI (Gu+1)/\((0:Int)<=Gu+1/\Gu+1<=(↑Zo.length:Int)/\(↑Zo.length:Int)<=(↑Zo.length:Int))/\Sml ([]++List.drop (Int.toNat (0:Int)) (List.take Gu.toNat Zo)).length/\Sml ([]++List.drop (Int.toNat (0:Int)) (List.take Gu.toNat Zo)++List.drop (Gu+1).toNat (List.take (↑Zo.length:Int).toNat Zo)).length/\Q3 j9t j9z z7a ([]++List.drop (Int.toNat (0:Int)) (List.take Gu.toNat Zo)++List.drop (Gu+1).toNat (List.take (↑Zo.length:Int).toNat Zo)) (Ex.mk Zc.1 Zc.2 Zc.3 Zc.4 Zc.5) fun Hn (_:List (Int×Int×Int)) _ _=>K (decide (Hn=(-1002:Int)))))) n (0:Int) q9b j1u z5u)) (K false)
def Q0:Ww:=Wx Rf z08 q4w q1e Wp Jj q8p Vl Gh Ha z1f
end Go.En
end
noncomputable section
set_option maxRecDepth 100000
namespace Go.Proofs
open Go.Shelf
def Tryz.lays189_ren:Go.Shelf.Ren:=⟨fun|189=>185|125=>172|257=>230|128=>225|129=>226|294=>252|295=>253|296=>254|297=>255|298=>256|299=>257|216=>258|300=>259|301=>260|328=>281|329=>247|330=>248|331=>282|332=>283|215=>284|343=>293|n=>n,fun|28=>26|3=>3|46=>36|0=>0|51=>280|53=>282|4=>4|183=>273|182=>272|131=>194|5=>5|9=>9|218=>300|222=>267|228=>327|229=>249|n=>n,fun|n=>n⟩
theorem Tryz.lays189:Go.Proofs.Lays.n189 Tryz.prog Tryz.lays189_ren:={
 mixed:=by kernel_rfl
 f125:=Tryz.func172.trans (congrArg some (by kernel_rfl))
 f128:=Tryz.func225.trans (congrArg some (by kernel_rfl))
 f129:=Tryz.func226.trans (congrArg some (by kernel_rfl))
 f189:=Tryz.func185.trans (congrArg some (by kernel_rfl))
 f215:=Tryz.func284.trans (congrArg some (by kernel_rfl))
 f216:=Tryz.func258.trans (congrArg some (by kernel_rfl))
 f257:=Tryz.func230.trans (congrArg some (by kernel_rfl))
 f294:=Tryz.func252.trans (congrArg some (by kernel_rfl))
 f295:=Tryz.func253.trans (congrArg some (by kernel_rfl))
 f296:=Tryz.func254.trans (congrArg some (by kernel_rfl))
 f297:=Tryz.func255.trans (congrArg some (by kernel_rfl))
 f298:=Tryz.func256.trans (congrArg some (by kernel_rfl))
 f299:=Tryz.func257.trans (congrArg some (by kernel_rfl))
 f300:=Tryz.func259.trans (congrArg some (by kernel_rfl))
 f301:=Tryz.func260.trans (congrArg some (by kernel_rfl))
 f328:=Tryz.func281.trans (congrArg some (by kernel_rfl))
 f329:=Tryz.func247.trans (congrArg some (by kernel_rfl))
 f330:=Tryz.func248.trans (congrArg some (by kernel_rfl))
 f331:=Tryz.func282.trans (congrArg some (by kernel_rfl))
 f332:=Tryz.func283.trans (congrArg some (by kernel_rfl))
 f343:=Tryz.func293.trans (congrArg some (by kernel_rfl))
 t0:=Tryz.underlying0
 a0:=Tryz.isAgg0
 z0:=Tryz.sizeOf0
 v0:=Tryz.zeroValue0
 t3:=Tryz.underlying3
 a3:=Tryz.isAgg3
 z3:=Tryz.sizeOf3
 v3:=Tryz.zeroValue3
 t4:=Tryz.underlying4
 a4:=Tryz.isAgg4
 z4:=Tryz.sizeOf4
 v4:=Tryz.zeroValue4
 t5:=Tryz.underlying5
 a5:=Tryz.isAgg5
 z5:=Tryz.sizeOf5
 v5:=Tryz.zeroValue5
 t9:=Tryz.underlying9
 a9:=Tryz.isAgg9
 z9:=Tryz.sizeOf9
 v9:=Tryz.zeroValue9
 t28:=Tryz.underlying26
 a28:=Tryz.isAgg26
 z28:=Tryz.sizeOf26
 v28:=Tryz.zeroValue26
 t46:=Tryz.underlying36
 a46:=Tryz.isAgg36
 z46:=Tryz.sizeOf36
 v46:=Tryz.zeroValue36
 t51:=Tryz.underlying280
 a51:=Tryz.isAgg280
 z51:=Tryz.sizeOf280
 v51:=Tryz.zeroValue280
 t53:=Tryz.underlying282
 a53:=Tryz.isAgg282
 z53:=Tryz.sizeOf282
 v53:=Tryz.zeroValue282
 t131:=Tryz.underlying194
 a131:=Tryz.isAgg194
 z131:=Tryz.sizeOf194
 v131:=Tryz.zeroValue194
 t182:=Tryz.underlying272
 a182:=Tryz.isAgg272
 z182:=Tryz.sizeOf272
 v182:=Tryz.zeroValue272
 t183:=Tryz.underlying273
 a183:=Tryz.isAgg273
 z183:=Tryz.sizeOf273
 v183:=Tryz.zeroValue273
 t218:=Tryz.underlying300
 a218:=Tryz.isAgg300
 z218:=Tryz.sizeOf300
 v218:=Tryz.zeroValue300
 t222:=Tryz.underlying267
 a222:=Tryz.isAgg267
 z222:=Tryz.sizeOf267
 v222:=Tryz.zeroValue267
 t228:=Tryz.underlying327
 a228:=Tryz.isAgg327
 z228:=Tryz.sizeOf327
 v228:=Tryz.zeroValue327
 t229:=Tryz.underlying249
 a229:=Tryz.isAgg249
 z229:=Tryz.sizeOf249
 v229:=Tryz.zeroValue249}
open Go.Sort Go.RowKit in
theorem Tryz.slices_Sort_int(blk off cap:Nat)(zs:List Int)(w:World)(hH:Holds (Value.int .i64) w blk off zs.toArray)(hblk:blk<w.heap.size)(hsz:zs.length<4611686018427387904):
  Calls Tryz.prog 185 #[.slice (some ⟨blk,off,none⟩) zs.length cap] w fun e w'=>
   e= .returned (.tuple #[])/\ ∃n os,w'=grow (putRow (Value.int .i64) (Sort.ahead w n) blk off (zs.mergeSort fun x y=>decide (x<=y)).toArray) os:=Any.slices_Sort_int Tryz.lays189 blk off cap zs w hH hblk hsz
def Tryz.lays190_ren:Go.Shelf.Ren:=⟨fun|190=>111|125=>172|258=>171|128=>225|129=>226|302=>216|303=>217|304=>218|305=>219|306=>220|307=>221|308=>222|309=>223|310=>224|333=>246|329=>247|330=>248|334=>249|335=>250|336=>251|344=>280|n=>n,fun|31=>72|9=>9|3=>3|46=>36|0=>0|51=>280|53=>282|4=>4|183=>273|182=>272|131=>194|5=>5|218=>300|222=>267|228=>327|229=>249|n=>n,fun|n=>n⟩
theorem Tryz.lays190:Go.Proofs.Lays.n190 Tryz.prog Tryz.lays190_ren:={
 mixed:=by kernel_rfl
 f125:=Tryz.func172.trans (congrArg some (by kernel_rfl))
 f128:=Tryz.func225.trans (congrArg some (by kernel_rfl))
 f129:=Tryz.func226.trans (congrArg some (by kernel_rfl))
 f190:=Tryz.func111.trans (congrArg some (by kernel_rfl))
 f258:=Tryz.func171.trans (congrArg some (by kernel_rfl))
 f302:=Tryz.func216.trans (congrArg some (by kernel_rfl))
 f303:=Tryz.func217.trans (congrArg some (by kernel_rfl))
 f304:=Tryz.func218.trans (congrArg some (by kernel_rfl))
 f305:=Tryz.func219.trans (congrArg some (by kernel_rfl))
 f306:=Tryz.func220.trans (congrArg some (by kernel_rfl))
 f307:=Tryz.func221.trans (congrArg some (by kernel_rfl))
 f308:=Tryz.func222.trans (congrArg some (by kernel_rfl))
 f309:=Tryz.func223.trans (congrArg some (by kernel_rfl))
 f310:=Tryz.func224.trans (congrArg some (by kernel_rfl))
 f329:=Tryz.func247.trans (congrArg some (by kernel_rfl))
 f330:=Tryz.func248.trans (congrArg some (by kernel_rfl))
 f333:=Tryz.func246.trans (congrArg some (by kernel_rfl))
 f334:=Tryz.func249.trans (congrArg some (by kernel_rfl))
 f335:=Tryz.func250.trans (congrArg some (by kernel_rfl))
 f336:=Tryz.func251.trans (congrArg some (by kernel_rfl))
 f344:=Tryz.func280.trans (congrArg some (by kernel_rfl))
 t0:=Tryz.underlying0
 a0:=Tryz.isAgg0
 z0:=Tryz.sizeOf0
 v0:=Tryz.zeroValue0
 t3:=Tryz.underlying3
 a3:=Tryz.isAgg3
 z3:=Tryz.sizeOf3
 v3:=Tryz.zeroValue3
 t4:=Tryz.underlying4
 a4:=Tryz.isAgg4
 z4:=Tryz.sizeOf4
 v4:=Tryz.zeroValue4
 t5:=Tryz.underlying5
 a5:=Tryz.isAgg5
 z5:=Tryz.sizeOf5
 v5:=Tryz.zeroValue5
 t9:=Tryz.underlying9
 a9:=Tryz.isAgg9
 z9:=Tryz.sizeOf9
 v9:=Tryz.zeroValue9
 t31:=Tryz.underlying72
 a31:=Tryz.isAgg72
 z31:=Tryz.sizeOf72
 v31:=Tryz.zeroValue72
 t46:=Tryz.underlying36
 a46:=Tryz.isAgg36
 z46:=Tryz.sizeOf36
 v46:=Tryz.zeroValue36
 t51:=Tryz.underlying280
 a51:=Tryz.isAgg280
 z51:=Tryz.sizeOf280
 v51:=Tryz.zeroValue280
 t53:=Tryz.underlying282
 a53:=Tryz.isAgg282
 z53:=Tryz.sizeOf282
 v53:=Tryz.zeroValue282
 t131:=Tryz.underlying194
 a131:=Tryz.isAgg194
 z131:=Tryz.sizeOf194
 v131:=Tryz.zeroValue194
 t182:=Tryz.underlying272
 a182:=Tryz.isAgg272
 z182:=Tryz.sizeOf272
 v182:=Tryz.zeroValue272
 t183:=Tryz.underlying273
 a183:=Tryz.isAgg273
 z183:=Tryz.sizeOf273
 v183:=Tryz.zeroValue273
 t218:=Tryz.underlying300
 a218:=Tryz.isAgg300
 z218:=Tryz.sizeOf300
 v218:=Tryz.zeroValue300
 t222:=Tryz.underlying267
 a222:=Tryz.isAgg267
 z222:=Tryz.sizeOf267
 v222:=Tryz.zeroValue267
 t228:=Tryz.underlying327
 a228:=Tryz.isAgg327
 z228:=Tryz.sizeOf327
 v228:=Tryz.zeroValue327
 t229:=Tryz.underlying249
 a229:=Tryz.isAgg249
 z229:=Tryz.sizeOf249
 v229:=Tryz.zeroValue249}
open Go.Sort Go.RowKit in
theorem Tryz.slices_Sort_string(blk off cap:Nat)(ss:List (List UInt8))(w:World)(hH:Holds encStr w blk off ss.toArray)(hblk:blk<w.heap.size)(hsz:ss.length<4611686018427387904):
  Calls Tryz.prog 111 #[.slice (some ⟨blk,off,none⟩) ss.length cap] w fun e w'=>
   e= .returned (.tuple #[])/\ ∃n os,w'=grow (putRow encStr (Sort.ahead w n) blk off (ss.mergeSort fun x y=>decide (x<=y)).toArray) os:=Any.slices_Sort_string Tryz.lays190 blk off cap ss w hH hblk hsz
def Tryz.lays157_ren:Go.Shelf.Ren:=⟨fun|157=>155|229=>209|199=>210|261=>241|311=>273|312=>274|n=>n,fun|9=>9|31=>72|3=>3|5=>5|4=>4|119=>260|0=>0|40=>265|152=>291|21=>21|154=>293|51=>280|141=>295|196=>313|193=>310|198=>316|49=>314|194=>311|201=>319|226=>331|46=>36|227=>332|n=>n,fun|0=>5|6=>6|n=>n⟩
theorem Tryz.lays157:Go.Proofs.Lays.n157 Tryz.prog Tryz.lays157_ren:={
 mixed:=by kernel_rfl
 f157:=Tryz.func155.trans (congrArg some (by kernel_rfl))
 f199:=Tryz.func210.trans (congrArg some (by kernel_rfl))
 f229:=Tryz.func209.trans (congrArg some (by kernel_rfl))
 f261:=Tryz.func241.trans (congrArg some (by kernel_rfl))
 f311:=Tryz.func273.trans (congrArg some (by kernel_rfl))
 f312:=Tryz.func274.trans (congrArg some (by kernel_rfl))
 t0:=Tryz.underlying0
 a0:=Tryz.isAgg0
 z0:=Tryz.sizeOf0
 v0:=Tryz.zeroValue0
 t3:=Tryz.underlying3
 a3:=Tryz.isAgg3
 z3:=Tryz.sizeOf3
 v3:=Tryz.zeroValue3
 t4:=Tryz.underlying4
 a4:=Tryz.isAgg4
 z4:=Tryz.sizeOf4
 v4:=Tryz.zeroValue4
 t5:=Tryz.underlying5
 a5:=Tryz.isAgg5
 z5:=Tryz.sizeOf5
 v5:=Tryz.zeroValue5
 t9:=Tryz.underlying9
 a9:=Tryz.isAgg9
 z9:=Tryz.sizeOf9
 v9:=Tryz.zeroValue9
 t21:=Tryz.underlying21
 a21:=Tryz.isAgg21
 z21:=Tryz.sizeOf21
 v21:=Tryz.zeroValue21
 t31:=Tryz.underlying72
 a31:=Tryz.isAgg72
 z31:=Tryz.sizeOf72
 v31:=Tryz.zeroValue72
 t40:=Tryz.underlying265
 a40:=Tryz.isAgg265
 z40:=Tryz.sizeOf265
 v40:=Tryz.zeroValue265
 t46:=Tryz.underlying36
 a46:=Tryz.isAgg36
 z46:=Tryz.sizeOf36
 v46:=Tryz.zeroValue36
 t49:=Tryz.underlying314
 a49:=Tryz.isAgg314
 z49:=Tryz.sizeOf314
 v49:=Tryz.zeroValue314
 t51:=Tryz.underlying280
 a51:=Tryz.isAgg280
 z51:=Tryz.sizeOf280
 v51:=Tryz.zeroValue280
 t119:=Tryz.underlying260
 a119:=Tryz.isAgg260
 z119:=Tryz.sizeOf260
 t141:=Tryz.underlying295
 a141:=Tryz.isAgg295
 z141:=Tryz.sizeOf295
 v141:=Tryz.zeroValue295
 t152:=Tryz.underlying291
 a152:=Tryz.isAgg291
 z152:=Tryz.sizeOf291
 v152:=Tryz.zeroValue291
 t154:=Tryz.underlying293
 a154:=Tryz.isAgg293
 z154:=Tryz.sizeOf293
 v154:=Tryz.zeroValue293
 t193:=Tryz.underlying310
 a193:=Tryz.isAgg310
 z193:=Tryz.sizeOf310
 v193:=Tryz.zeroValue310
 t194:=Tryz.underlying311
 a194:=Tryz.isAgg311
 z194:=Tryz.sizeOf311
 v194:=Tryz.zeroValue311
 t196:=Tryz.underlying313
 a196:=Tryz.isAgg313
 z196:=Tryz.sizeOf313
 v196:=Tryz.zeroValue313
 t198:=Tryz.underlying316
 a198:=Tryz.isAgg316
 z198:=Tryz.sizeOf316
 v198:=Tryz.zeroValue316
 t201:=Tryz.underlying319
 a201:=Tryz.isAgg319
 z201:=Tryz.sizeOf319
 v201:=Tryz.zeroValue319
 t226:=Tryz.underlying331
 a226:=Tryz.isAgg331
 z226:=Tryz.sizeOf331
 v226:=Tryz.zeroValue331
 t227:=Tryz.underlying332
 a227:=Tryz.isAgg332
 z227:=Tryz.sizeOf332
 v227:=Tryz.zeroValue332
 g0:=by kernel_rfl
 g6:=by kernel_rfl}
def Tryz.lays194_ren:Go.Shelf.Ren:=⟨fun|194=>112|n=>n,fun|31=>72|9=>9|3=>3|4=>4|0=>0|n=>n,fun|n=>n⟩
theorem Tryz.lays194:Go.Proofs.Lays.n194 Tryz.prog Tryz.lays194_ren:={
 mixed:=by kernel_rfl
 f194:=Tryz.func112.trans (congrArg some (by kernel_rfl))
 t0:=Tryz.underlying0
 a0:=Tryz.isAgg0
 z0:=Tryz.sizeOf0
 v0:=Tryz.zeroValue0
 t3:=Tryz.underlying3
 a3:=Tryz.isAgg3
 z3:=Tryz.sizeOf3
 v3:=Tryz.zeroValue3
 t4:=Tryz.underlying4
 a4:=Tryz.isAgg4
 z4:=Tryz.sizeOf4
 v4:=Tryz.zeroValue4
 t9:=Tryz.underlying9
 a9:=Tryz.isAgg9
 z9:=Tryz.sizeOf9
 v9:=Tryz.zeroValue9
 t31:=Tryz.underlying72
 a31:=Tryz.isAgg72
 z31:=Tryz.sizeOf72
 v31:=Tryz.zeroValue72}
open Go.RowKit Go.Lib Go.Sort in
theorem Tryz.slices_Compact_string(blk off cap:Nat)(zs:List (List UInt8))(w:World)(hH:Holds encStr w blk off zs.toArray)(hsz:zs.length<=9223372036854775807)(hcap:zs.length<=cap):
  Calls Tryz.prog 112 #[.slice (some ⟨blk,off,none⟩) zs.length cap] w fun e w'=>e= .returned (.slice (some ⟨blk,off,none⟩) (Lib.compact zs).length cap)/\ ∃q,w'=putRow encStr (Sort.ahead w q) blk off (Lib.compact zs++List.replicate (zs.length - (Lib.compact zs).length) []).toArray:=Any.slices_Compact_string Tryz.lays194 blk off cap zs w hH hsz hcap
open Go.RowKit Go.Lib Go.Sort in
theorem Tryz.slices_Compact_string_empty(a:Option Addr)(cap:Nat)(w:World):
  Calls Tryz.prog 112 #[.slice a 0 cap] w fun e w'=>e= .returned (.slice a 0 cap)/\w'=w:=Any.slices_Compact_string_empty Tryz.lays194 a cap w
open Go.RowKit Go.Sort in
theorem Tryz.slices_Sort_string_none(p:Option Addr)(cap:Nat)(w:World):
  Calls Tryz.prog 111 #[.slice p 0 cap] w fun e w'=>e= .returned (.tuple #[])/\w'=w:=Any.slices_Sort_string_none Tryz.lays190 p cap w
open Go.RowKit Go.Sort in
theorem Tryz.slices_Sort_int_none(p:Option Addr)(cap:Nat)(w:World):
  Calls Tryz.prog 185 #[.slice p 0 cap] w fun e w'=>e= .returned (.tuple #[])/\w'=w:=Any.slices_Sort_int_none Tryz.lays189 p cap w
def Tryz.lays196_ren:Go.Shelf.Ren:=⟨fun|196=>154|259=>208|n=>n,fun|9=>9|4=>4|3=>3|5=>5|12=>12|119=>260|0=>0|46=>36|139=>263|138=>262|53=>282|n=>n,fun|3=>3|4=>4|n=>n⟩
theorem Tryz.lays196:Go.Proofs.Lays.n196 Tryz.prog Tryz.lays196_ren:={
 mixed:=by kernel_rfl
 f196:=Tryz.func154.trans (congrArg some (by kernel_rfl))
 f259:=Tryz.func208.trans (congrArg some (by kernel_rfl))
 t0:=Tryz.underlying0
 a0:=Tryz.isAgg0
 z0:=Tryz.sizeOf0
 v0:=Tryz.zeroValue0
 t3:=Tryz.underlying3
 a3:=Tryz.isAgg3
 z3:=Tryz.sizeOf3
 v3:=Tryz.zeroValue3
 t4:=Tryz.underlying4
 a4:=Tryz.isAgg4
 z4:=Tryz.sizeOf4
 v4:=Tryz.zeroValue4
 t5:=Tryz.underlying5
 a5:=Tryz.isAgg5
 z5:=Tryz.sizeOf5
 v5:=Tryz.zeroValue5
 t9:=Tryz.underlying9
 a9:=Tryz.isAgg9
 z9:=Tryz.sizeOf9
 v9:=Tryz.zeroValue9
 t12:=Tryz.underlying12
 a12:=Tryz.isAgg12
 z12:=Tryz.sizeOf12
 v12:=Tryz.zeroValue12
 t46:=Tryz.underlying36
 a46:=Tryz.isAgg36
 z46:=Tryz.sizeOf36
 v46:=Tryz.zeroValue36
 t53:=Tryz.underlying282
 a53:=Tryz.isAgg282
 z53:=Tryz.sizeOf282
 v53:=Tryz.zeroValue282
 t119:=Tryz.underlying260
 a119:=Tryz.isAgg260
 z119:=Tryz.sizeOf260
 t138:=Tryz.underlying262
 a138:=Tryz.isAgg262
 z138:=Tryz.sizeOf262
 v138:=Tryz.zeroValue262
 t139:=Tryz.underlying263
 a139:=Tryz.isAgg263
 z139:=Tryz.sizeOf263
 v139:=Tryz.zeroValue263
 g3:=by kernel_rfl
 g4:=by kernel_rfl}
def Tryz.sorted114_ren:Go.Shelf.Ren:=⟨fun|6=>114|8=>173|9=>111|11=>227|13=>172|12=>171|23=>225|24=>226|14=>216|15=>217|16=>218|17=>219|18=>220|19=>221|20=>222|21=>223|22=>224|25=>246|26=>247|27=>248|28=>249|29=>250|30=>251|31=>280|n=>n,fun|26=>9|28=>180|24=>72|0=>0|3=>3|37=>36|48=>280|50=>282|4=>4|40=>273|39=>272|45=>194|5=>5|9=>9|51=>300|55=>267|57=>327|58=>249|33=>159|n=>n,fun|n=>n⟩
theorem Tryz.sorted114:Go.Proofs.SlLaysZ.n6 Tryz.prog Tryz.sorted114_ren:={
 mixed:=by kernel_rfl
 f6:=⟨Tryz.f114.name,by decide,Tryz.func114.trans (congrArg some (by kernel_rfl))⟩
 f8:=⟨Tryz.f173.name,by decide,Tryz.func173.trans (congrArg some (by kernel_rfl))⟩
 f11:=⟨Tryz.f227.name,by decide,Tryz.func227.trans (congrArg some (by kernel_rfl))⟩
 t0:=Tryz.underlying0
 a0:=Tryz.isAgg0
 z0:=Tryz.sizeOf0
 v0:=Tryz.zeroValue0
 t24:=Tryz.underlying72
 a24:=Tryz.isAgg72
 z24:=Tryz.sizeOf72
 v24:=Tryz.zeroValue72
 t26:=Tryz.underlying9
 a26:=Tryz.isAgg9
 z26:=Tryz.sizeOf9
 v26:=Tryz.zeroValue9
 t28:=Tryz.underlying180
 a28:=Tryz.isAgg180
 z28:=Tryz.sizeOf180
 v28:=Tryz.zeroValue180
 i26:=by kernel_rfl}
end Go.Proofs
end
noncomputable section
set_option maxRecDepth 100000
namespace Go.Fl
open Go Go.Proofs Go.RowKit Go.Maps Go.Sort Go.Shelf
variable {P:Program}{ρ:Ren}
def j0j(F:Fence)(n:Nat)(P:Program)(g:Nat)(lb:Array Value)(ss:List (List UInt8))(w:World):Prop:=
 ∀(l:Nat) (J:List (List UInt8)->World->Prop) (W:World),Below w.heap.size w W->AbidesFrom W.heap.size J->(∀pre W1,J pre W1->Below w.heap.size w W1)->
  (∀pre x W1,J pre W1->pre.length<ss.length->YieldAt F (n - 1) P l #[encStr x] W1 fun e W'=>e= .returned (.bool true)/\J (pre++[x]) W'/\KeepsWalks W1 W')->
  J [] W->CallsIn F n P g (#[.func (.yield l) #[] #[]]++lb) W fun e W'=>(∃v,e= .returned v)/\J ss W'
theorem z0l{W:World}{base j:Nat}{e:TypeId}{v:Value}{k:Nat}{xs:List Value}{o:Obj}(h:W.ownsRow base e 1 v k xs)(hj:W.heap[j]? =some o)(hno: ∀cur,o≠ .cells cur e (0,0))(o':Obj):(W.putObj j o').ownsRow base e 1 v k xs:=
 h.kept (grownBy_putObj_a W j o') (ownsRow_ne_a h hj hno)
set_option maxHeartbeats 2000000 in
theorem q8q(L:SlLaysZ.n11 P ρ)(F:Fence)(n:Nat)(hf:F.fn (ρ.f 11))(hro:F.round=none)(hn:2<=n)(g:Nat)(lb:Array Value)(hg:F.fn g)(eg: ∀args w,(callFunc g args).run P w= .ok (.enter g args) w)
  (ss:List (List UInt8))(hN:ss.length<=maxLen)(hNb:ss.length*16<=140737488355328)(w:World)(hseq:j0j F (n - 1) P g lb ss w):
  CallsIn F n P (ρ.f 11) #[.slice none 0 0,.func (.func g) #[] lb] w fun e w'=> ∃v,e= .returned v/\w'.ownsRow w.heap.size (ρ.t 26) 1 v ss.length (ss.map encStr)/\Below w.heap.size w w':=by
 have mixed:=L.mixed;have t0:=L.t0;have a0:=L.a0;have z0:=L.z0;have v0:=L.v0;have t24:=L.t24;have a24:=L.a24;have z24:=L.z24;have v24:=L.v24;have t26:=L.t26;have a26:=L.a26;have z26:=L.z26;have v26:=L.v26
 have u0:=run_underlying L.t0;have u24:=run_underlying L.t24;have u26:=run_underlying L.t26
 have apart:ρ.t 24≠ρ.t 26:=fun e=>by have h:=L.t24;rw[e,L.t26] at h;cases h
 obtain⟨_,_,body⟩:=L.f11
 refine callsIn_of_wp_marks body rfl hf ?_ hro
 simp only[SlBodyZ.n11_ntmps ρ,List.size_toArray,List.length_cons,List.length_nil,Nat.reduceAdd,Nat.reduceSub,Array.replicate_succ,Array.replicate_zero,List.push_toArray,List.append_toArray,List.nil_append,List.cons_append]
 gi_wp2
 refine wpIn_rangeFunc fun fn hfn=> ?_
 rw[hro]
 generalize hA:w.alloc (.cells #[.slice none 0 0] (ρ.t 24))=A
 have sA:A.heap.size=w.heap.size+1:=by rw[←hA];simp
 have bA:Below w.heap.size w A:=by rw[←hA];exact (Below.refl _ w).alloc (Nat.le_refl _) _
 have xA:A.heap[w.heap.size]? =some (.cells #[.slice none 0 0] (ρ.t 24) (0,0)):=by rw[←hA];exact World.alloc_heap_new w _
 generalize hrec:AnyZ.apRec ρ fn (.func (.func g) #[] lb) w.heap.size A.heap.size .ready none=rec
 generalize hB:(A.alloc (.deferred (some []))).alloc (.loop rec)=B
 have oldB: ∀k,k<A.heap.size->B.heap[k]? =A.heap[k]? :=fun k hk=>by rw[←hB];exact (Below.heap_alloc _ _ k (by simp;omega)).trans (Below.heap_alloc _ _ k hk)
 have bB:Below w.heap.size w B:=by rw[←hB];exact (bA.alloc bA.size _).alloc (by have:=bA.size;simp;omega) _
 have dB:B.heap[A.heap.size]? =some (.deferred (some [])):=by rw[←hB];exact (Below.heap_alloc _ _ _ (by simp)).trans (World.alloc_heap_new A _)
 have lB:B.heap[A.heap.size+1]? =some (.loop rec):=by rw[←hB];have:=World.alloc_heap_new (A.alloc (.deferred (some []))) (.loop rec);rwa [World.size_alloc] at this
 have start:AnyZ.ApAt ρ w fn (.func (.func g) #[] lb) w.heap.size (A.heap.size+1) A.heap.size [] B:=
  ⟨⟨_,(oldB _ (by omega)).trans xA,⟨rfl,.inl ⟨rfl,rfl⟩⟩,by simp⟩,by rw[hrec];exact lB,dB,bB⟩
 refine⟨A.heap.size+1,[{target:= .collected A.heap.size,args:= #[]}],B,{target:= .fn (.func g) lb,args:= #[.func (.yield (A.heap.size+1)) #[] #[]]},B,g,#[.func (.yield (A.heap.size+1)) #[] #[]]++lb,B,?_,?_,?_,?_,fun _=>(by omega),?_⟩
 ·rw[←hB,←hrec];exact run_enterLoop_outer _ _ _ _ _
 ·simp[resolve,go_sem]
 ·intro f' h';simp[Target.leads] at h';exact h'▸hg
 ·simp[invoke,go_sem,eg]
 refine (hseq _ (AnyZ.ApAt ρ w fn (.func (.func g) #[] lb) w.heap.size (A.heap.size+1) A.heap.size) B bB (AnyZ.ap_abides ρ _ _ _ _ _ _ _ bB.size) (fun _ _ h=>h.below)
  (fun pre x W h hl=>AnyZ.apYield {L with} F _ w fn hfn _ _ _ _ (by omega) (by omega) (by omega) (Nat.le_refl _) (by omega) ss.length hN hNb pre x W h hl) start).mono ?_
 rintro e C ⟨⟨_,rfl⟩,hC⟩
 obtain⟨v,hv,hrow,_⟩:=hC.box
 have hend:=run_endLoop (P:=P) hC.L (by simp[AnyZ.apRec])
 generalize hD:C.putObj (A.heap.size+1) (.loop {AnyZ.apRec ρ fn (.func (.func g) #[] lb) w.heap.size A.heap.size .ready none with state:= .exhausted})=D at hend
 have rowD:D.ownsRow w.heap.size (ρ.t 26) 1 v ss.length (ss.map encStr):=by rw[←hD];exact z0l hrow hC.L (fun _ h=>by cases h) _
 have boxD:D.heap[w.heap.size]? =some (.cells #[v] (ρ.t 24) (0,0)):=by rw[←hD];exact (World.putObj_heap_other (by omega)).trans hv
 have defD:D.heap[A.heap.size]? =some (.deferred (some [])):=by rw[←hD];exact (World.putObj_heap_other (by omega)).trans hC.K
 have belD:Below w.heap.size w D:=by rw[←hD];exact hC.below.grown (grownBy_putObj_a _ _ _) hC.below.size (fun k h=>by cases h;omega)
 obtain⟨cellD,markD⟩:=cell_of_box_a boxD
 clear hD
 refine⟨none,D,hend,?_⟩
 gi_wp2
 rw[←sA]
 refine⟨by simp,.inl ⟨_,_,rfl,run_takeDeferred defD,?_⟩⟩
 exact⟨_,results_tmp rfl _ _ _,v,rfl,z0l rowD defD (fun _ h=>by cases h) _,belD.grown (grownBy_putObj_a _ _ _) belD.size (fun k h=>by cases h;omega)⟩
end Go.Fl
end
noncomputable section
set_option maxRecDepth 100000
namespace Go.Proofs.YtlmjknifmlifiaaGreatDoor
open Go Go.Proofs Go.RowKit Go.Fl Go.Maps Go.Sort Go.Shelf
attribute [local go_sem] Oper.semAt_some
set_option maxHeartbeats 2000000 in
theorem z5g(n:Nat)(hn:1<=n)(w W:World)(l Bs b off cap:Nat)(zs:List (List UInt8))(hreach:zs.length<=140737488355328)(hBs:Bs<w.heap.size)(hb:b<w.heap.size)(J:List (List UInt8)->World->Prop)
  (hJ: ∀pre W1,J pre W1->Below w.heap.size w W1)(hc:w.cell? ⟨Bs,0,none⟩=some (.slice (some ⟨b,off,none⟩) zs.length cap))(hcs: ∀j,j<zs.length->w.cell? ⟨b,off+j,none⟩=some (encStr (zs[j]?.getD [])))
  (hY: ∀pre x W1,J pre W1->pre.length<zs.length->YieldAt Fence.wide (n - 1) Tryz.prog l #[encStr x] W1 fun e W'=>e= .returned (.bool true)/\J (pre++[x]) W'/\KeepsWalks W1 W')(h0:J [] W):
  CallsIn Fence.wide n Tryz.prog 174 #[.func (.yield l) #[] #[],.pointer (some ⟨Bs,0,none⟩)] W fun e W'=>(∃v,e= .returned v)/\J zs W':=by
 have hc0:=((hJ _ _ h0).cell (p:=⟨Bs,0,none⟩) hBs).trans hc
 refine callsIn_of_wp Tryz.func174 rfl trivial ?_ rfl
 simp only[Tryz.ntmps174,List.size_toArray,List.length_cons,List.length_nil,Nat.reduceAdd,Nat.reduceSub,Array.replicate_succ,Array.replicate_zero,List.push_toArray,List.append_toArray,List.nil_append,List.cons_append]
 gi_wp2
 gi_loopw [7] (fun i wr=> ∃k:Nat,k<=zs.length/\i= .int .i64 k/\J (zs.take k) wr) (fun i _=>zs.length - (intOf i).toNat)
 case atStart=>exact⟨0,Nat.zero_le _,rfl,h0⟩
 case round=>
  obtain⟨k,hk,rfl,hJk⟩:=hrel
  by_cases hlt:k<zs.length
  ·have hck:=((hJ _ _ hJk).cell (p:=⟨b,off+k,none⟩) hb).trans (hcs k hlt)
   obtain⟨fn,tmps,assign,body,hy,hR⟩:=hY _ zs[k] wr hJk (by rw[List.length_take];omega)
   gi_wp2
   refine hR.mono ?_
   rintro e W3 ⟨rfl,hJ3,_⟩
   gi_wp2
   go_roundw
   case rel=>exact⟨k+1,by omega,by simp,by rw[List.take_succ_eq_append_getElem hlt];exact hJ3⟩
   case measure=>simp[intOf];omega
  ·obtain rfl:k=zs.length:=by omega
   rw[List.take_length] at hJk
   gi_wp2
   go_end0
   exact⟨⟨_,rfl⟩,hJk⟩
set_option maxHeartbeats 2000000 in
theorem z5h(n:Nat)(w W:World)(l Bs cap:Nat)(a:Option Addr)(hBs:Bs<w.heap.size)(J:List (List UInt8)->World->Prop)(hJ: ∀pre W1,J pre W1->Below w.heap.size w W1)(hc:w.cell? ⟨Bs,0,none⟩=some (.slice a 0 cap))(h0:J [] W):
  CallsIn Fence.wide n Tryz.prog 174 #[.func (.yield l) #[] #[],.pointer (some ⟨Bs,0,none⟩)] W fun e W'=>(∃v,e= .returned v)/\J [] W':=by
 have hc0:=((hJ _ _ h0).cell (p:=⟨Bs,0,none⟩) hBs).trans hc
 refine callsIn_of_wp Tryz.func174 rfl trivial ?_ rfl
 simp only[Tryz.ntmps174,List.size_toArray,List.length_cons,List.length_nil,Nat.reduceAdd,Nat.reduceSub,Array.replicate_succ,Array.replicate_zero,List.push_toArray,List.append_toArray,List.nil_append,List.cons_append]
 gi_wp2
 gi_loopw [7] (fun i wr=>i= .int .i64 0/\J [] wr) (fun _ _=>0)
 case atStart=>exact⟨rfl,h0⟩
 case round=>
  obtain⟨rfl,hJs⟩:=hrel
  gi_wp2
  go_end0
  exact⟨⟨_,rfl⟩,hJs⟩
theorem w0w{σ:Hv}{w:World}(Bs:Nat)(v:Value)(l:List ByteArray)(hV:View σ w)(hB:σ Bs=some (.cells #[v] 72 (0,0)))(hr:RSl 1 (REnc Qt) σ v l)(hs:Sml l.length):
  Calls Tryz.prog 227 #[.slice none 0 0,.func (.func 174) #[] #[.pointer (some ⟨Bs,0,none⟩)]] w fun e w1=> ∃v1,e= .returned v1/\Grow [] σ w σ w1/\((vec v1 9 1 l.length (l.flatMap Qt)).ok w1/\ ∀k,(vec v1 9 1 l.length (l.flatMap Qt)).foot=some k->w.heap.size<=k/\σ k=none):=by
 have hBw:=hV _ _ hB
 have hBl:=lt_of_block hBw
 have hBc:w.cell? ⟨Bs,0,none⟩=some v:=by simp[World.cell?,hBw]
 have hlen:(l.map (·.data.toList)).length=l.length:=List.length_map _
 have hgive:j0j Fence.wide 2 Tryz.prog 174 #[.pointer (some ⟨Bs,0,none⟩)] (l.map (·.data.toList)) w:=by
  intro lp J W _ _ hJB hY h0
  obtain⟨a,cap,rfl,h1,h2,hel⟩:=hr
  cases hl0:l with
  |nil=>
   subst hl0
   exact z5h 2 w W lp Bs cap a hBl J hJB hBc h0
  |cons x l'=>
   obtain⟨ad,cs,rfl,_,hrow0,hcs0⟩:=hel 0 x (by rw[hl0];rfl)
   have cell0:=(hrow0.row hV) 0 _ (by rw[hcs0];rfl)
   obtain⟨ab,ao,asp⟩:=ad
   have hsp:asp=none:=by
    cases asp with
    |none=>rfl
    |some s=>
     have:=hrow0 0 (.string x) (by rw[hcs0];rfl)
     simp[Hv.cell,Addr.add] at this
     split at this<;>simp at this
   subst hsp
   have hbl:ab<w.heap.size:=by
    have:=hrow0 0 (.string x) (by rw[hcs0];rfl)
    simp only[Wm] at this
    unfold Hv.cell at this
    simp only at this
    cases hq:σ ab with
    |none=>rw[hq] at this;simp at this
    |some o=>exact lt_of_block (hV _ _ hq)
   rw[←hl0]
   have hcome:=z5g 2 (by omega) w W lp Bs ab ao cap (l.map (·.data.toList)) (by rw[hlen];exact h2) hBl hbl J hJB (by rw[hlen];exact hBc) (fun j hj=>by
    rw[hlen] at hj
    obtain⟨y,hy⟩:=getq hj
    obtain⟨ad',cs',had,_,hrow,hcs⟩:=hel j y hy
    cases had
    have hc:=(hrow.row hV) 0 (.string y) (by rw[hcs];rfl)
    rw[U3,Wm] at hc
    rw[List.getElem?_map,hy]
    simpa [encStr] using hc) hY h0
   exact hcome
 refine (callsIn_wide (n:=3)).1 ((q8q (ρ:=Tryz.sorted114_ren) {Tryz.sorted114 with} Fence.wide 3 trivial rfl (by omega) 174 _ trivial (enters_of Tryz.func174 (by kernel_rfl) rfl) (l.map (·.data.toList)) (by rw[hlen];exact (q0a hs (show 16<=32768 by omega)).2) (by rw[hlen];exact (q0a hs (by omega)).1) w hgive).mono ?_)
 rintro e w1 ⟨v1,rfl,hown,hbel⟩
 rw[hlen] at hown
 have hfl:(l.map (·.data.toList)).map encStr=l.flatMap Qt:=(Rm l).symm
 rw[hfl] at hown
 have hsame: ∀b,b<w.heap.size->w1.heap[b]? =w.heap[b]? :=fun b hb=>hbel.block b hb
 refine⟨v1,rfl,⟨⟨hbel.os,hbel.tape,hbel.output,hbel.size,fun k hk _=>hbel.block k hk⟩,fun b o hb=>(hbel.block b (lt_of_block (hV b o hb))).trans (hV b o hb),.refl _,fun _ _ _=>rfl⟩,?_,?_⟩
 ·exact⟨hown.1,hown.2.imp id fun ⟨g,cap,cur,e1,_,e3⟩=>⟨g,cap,cur,e1,Nat.zero_le _,e3⟩⟩
 ·intro k hk
  have hge:w.heap.size<=k:=(hown.lt k hk).1
  refine⟨hge,?_⟩
  cases hq:σ k with
  |none=>rfl
  |some o=>have:=lt_of_block (hV k o hq);omega
end Go.Proofs.YtlmjknifmlifiaaGreatDoor
end
