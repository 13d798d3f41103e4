/- TrafficMoves This is part 2 of 10. Conditions: those in the statements. -/
import Derived.Test.YtflilmgifibgoaaGreatDoorMov1
import Derived.Lib.ConvBytes
noncomputable section
set_option maxRecDepth 100000
namespace Go.Fx
open Go Go.RowKit Go.Fl Go.Fl.Lk
variable {S:Sig}{P:Program}{D:Shp S}{ν ν':Nm}{σ τ:Hv}{n:Nat}{f:Fr}
variable {w:World}{e:Operand->SV S}{ob:Nat->Option (AO S)}{lkc:Nat->Nat->SV S}{oh:Nat->HObj}{c:Cx}
def Objs(D:Shp S)(ν:Nm)(σ:Hv)(lkc:Nat->Nat->SV S):List (Nat×AO S)->List HObj->Prop
 |[],[]=>True
 |(o,a)::os,h::hs=>ORep D ν σ lkc o a h/\Objs D ν σ lkc os hs
 |_,_=>False
theorem ORep.mono{o:Nat}{a:AO S}{h:HObj}(hr:ORep D ν σ lkc o a h)(hn:Ext ν ν')(hs:Sub σ τ):ORep D ν' τ lkc o a h:=by
 cases a with
 |cells ty l=>obtain⟨b,cs,h1,h2,h3⟩:=hr;exact⟨b,cs,hn _ _ h1,h2,h3.mono hn hs⟩
 |vec ety T l=>obtain⟨v,xs,h1,h2,h3,h4⟩:=hr;exact⟨v,xs,hn _ _ h1,h2,h3.mono hs,h4⟩
 |frz T l=>obtain⟨v,h1,h2,h3⟩:=hr;exact⟨v,hn _ _ h1,h2,h3.mono hs⟩
 |arr ty T N l=>obtain⟨b,cs,h1,h2,h3,h4⟩:=hr;exact⟨b,cs,hn _ _ h1,h2,h3.mono hs,h4⟩
 |map K V F=>obtain⟨b,m,h1,h2,h3⟩:=hr;exact⟨b,m,hn _ _ h1,h2,fun k=>(h3 k).imp fun v y h=>h.mono hs⟩
 |iter K V F done cur=>
  obtain⟨r,b,es,clock,cv,h1,h2,h3,h4,h5,h6,h7,h8,h9⟩:=hr
  exact⟨r,b,es,clock,cv,hn _ _ h1,h2,hs _ _ h3,h4,h5,fun k=>(h6 k).imp fun v y h=>h.mono hs,h7,h8,fun k y hk=>(h9 k y hk).imp fun v h=>⟨h.1,h.2.mono hs⟩⟩
 |siter s pos=>obtain⟨r,h1,h2⟩:=hr;exact⟨r,hn _ _ h1,h2⟩
 |vech e T l k f q=>obtain⟨v,xs,h1,h2,h3,h4⟩:=hr;exact⟨v,xs,hn _ _ h1,h2,h3.mono hn hs,h4⟩
theorem Objs.mono: ∀{os:List (Nat×AO S)} {ms:List HObj},Objs D ν σ lkc os ms->Ext ν ν'->Sub σ τ->Objs D ν' τ lkc os ms
 |[],[],_,_,_=>trivial
 |(_,_)::_,_::_,h,hn,hs=>⟨h.1.mono hn hs,Objs.mono h.2 hn hs⟩
theorem Objs.append: ∀{os os':List (Nat×AO S)} {ms ms':List HObj},Objs D ν σ lkc os ms->Objs D ν σ lkc os' ms'->Objs D ν σ lkc (os++os') (ms++ms')
 |[],_,[],_,_,h=>h
 |(_,_)::_,_,_::_,_,h,h'=>⟨h.1,Objs.append h.2 h'⟩
theorem Objs.split: ∀{os os':List (Nat×AO S)} {ms:List HObj},Objs D ν σ lkc (os++os') ms-> ∃m1 m2,ms=m1++m2/\Objs D ν σ lkc os m1/\Objs D ν σ lkc os' m2
 |[],_,ms,h=>⟨[],ms,rfl,trivial,h⟩
 |(o,a)::os,os',m::ms,h=>by
  obtain⟨m1,m2,rfl,h1,h2⟩:=Objs.split (os:=os) h.2
  exact⟨m::m1,m2,rfl,⟨h.1,h1⟩,h2⟩
theorem j1h{α:Type}{os:List (Nat×α)}{o:Nat}{a:α}(h:Zb os o=some a):(o,a)∈os:=by
 induction os with
 |nil=>cases h
 |cons q os ih=>
  obtain⟨o',a'⟩:=q
  simp only[Zb] at h
  cases hb:Nat.beq o' o with
  |true=>rw[hb] at h;cases h;rw[Nat.eq_of_beq_eq_true hb];simp
  |false=>rw[hb] at h;exact List.mem_cons_of_mem _ (ih h)
theorem Objs.take{os:List (Nat×AO S)}{ms:List HObj}{o:Nat}{a:AO S}(h:Objs D ν σ lkc os ms)(hf:Zb os o=some a):
  ∃m ms',ms.Perm (m::ms')/\ORep D ν σ lkc o a m/\Objs D ν σ lkc (delN os o) ms':=by
 induction os generalizing ms with
 |nil=>cases hf
 |cons q os ih=>
  obtain⟨o',a'⟩:=q
  cases ms with
  |nil=>exact h.elim
  |cons m ms=>
   simp only[Zb] at hf
   simp only[delN]
   cases hb:Nat.beq o' o with
   |true=>
    rw[hb] at hf;cases hf
    have:=Nat.eq_of_beq_eq_true hb
    subst this
    exact⟨m,ms,.refl _,h.1,by simpa using h.2⟩
   |false=>
    rw[hb] at hf
    obtain⟨m',ms',hp,hr,ho⟩:=ih h.2 hf
    exact⟨m',m::ms',(hp.cons m).trans (.swap _ _ _),hr,⟨h.1,ho⟩⟩
theorem j1i{g:Nat->SV S}: ∀{l:List (SV S)} {i:Nat} {cs:List Value},RowS D ν σ cs l->resL g i l=l:=by
 intro l
 induction l with
 |nil=>intro i cs _;rfl
 |cons s l ih=>
  intro i cs h
  cases cs with
  |nil=>have:=h.1;cases this
  |cons c cs=>
   have h1:=h.2.1 0 c s rfl rfl
   have h2:RowS D ν σ cs l:=⟨by have:=h.1;simpa using this,fun j v s hj hk=>h.2.1 (j+1) v s (by simpa using hj) (by simpa using hk),fun v hv=>h.2.2 v (by simp[hv])⟩
   cases h1<;>simp only[resL]<;>rw[ih h2]
def RepR(D:Shp S)(ν:Nm)(σ:Hv)(r:Next):Option (SV S)->Prop
 |some s=> ∃v,r= .value v/\SRep D ν σ v s
 |none=>r= .skip
def q9g(P:Program)(D:Shp S)(ν:Nm)(σ:Hv)(w:World)(ob:Nat->Option (AO S))(lkc:Nat->Nat->SV S)(nx:Nat)(r:Operand->Value)(o:Op)(K:List Nat->List (Nat×AO S)->Option (SV S)->Prop):Prop:=
 ∃tl outs sv tlo,K tl outs sv/\tlo.map (·.1)=tl/\tl.Nodup/\(∀q∈tlo,ob q.1=some q.2)/\ ∀ins,Objs D ν σ lkc tlo ins->St ⟨w,σ,feet ins⟩ w σ ins-> ∀oo:Oper,oo.op=o->
  ∃w' σ' ν' ms' x,(execOp r oo).run P w= .ok x w'/\Ext ν ν'/\(∀m u,ν' m=some u->ν m=some u∨m=nx)/\St ⟨w,σ,feet ins⟩ w' σ' ms'/\Objs D ν' σ' lkc outs ms'/\RepR D ν' σ' x sv
variable {nx:Nat}{K:List Nat->List (Nat×AO S)->Option (SV S)->Prop}
def Nm.add(ν:Nm)(o:Nat)(v:Value):Nm:=fun m=>if m=o then some v else ν m
theorem Nm.add_ext{o:Nat}{v:Value}(h:ν o=none):Ext ν (ν.add o v):=by
 intro m u hu
 unfold Nm.add
 rw[if_neg]
 ·exact hu
 ·rintro rfl;rw[h] at hu;cases hu
theorem Nm.add_new{o:Nat}{v:Value}: ∀m u,ν.add o v m=some u->ν m=some u∨m=o:=by
 intro m u hu
 unfold Nm.add at hu
 split at hu
 ·rename_i h;exact .inr h
 ·exact .inl hu
theorem Nm.add_self{o:Nat}{v:Value}:ν.add o v o=some v:=by unfold Nm.add;rw[if_pos rfl]
theorem z1g{ins:List HObj}(hS:St c w σ ins)(t:TypeId)(cs:Array Value):St c (w.alloc (.cells cs t)) σ (blk w.heap.size t cs.toList::ins):=
 hS.add (U7 w _) (by show (w.alloc _).heap[w.heap.size]? =_;rw[heap_alloc_new,Array.toArray_toList]) (by rintro k ⟨⟩;exact Nat.le_refl _)
theorem v5l{t:TypeId}(hP:D.OkP P)(hnx:ν nx=none)(h:U1 P D e ob nx (.alloc t) K):q9g P D ν σ w ob lkc nx (ev n f) (.alloc t) K:=by
 simp only[U1] at h
 split at h
 ·rename_i T N ha
  obtain⟨cs,hz,hE⟩:=hP.arr _ _ _ ha
  refine⟨_,_,_,[],h,rfl,List.nodup_nil,by simp,fun ins ho hS oo hoo=> ?_⟩
  cases ins with
  |cons=>exact ho.elim
  |nil=>
   refine⟨_,σ,ν.add nx (.pointer (some ⟨w.heap.size,0,none⟩)),_,.value (.pointer (some ⟨w.heap.size,0,none⟩)),by simp[execOp,hoo,Instr.alloc,hz,newVar,newRow,newObj,Sem.run];rfl,Nm.add_ext hnx,Nm.add_new,
    z1g hS t _,⟨⟨_,_,Nm.add_self,rfl,hE σ,by simp⟩,trivial⟩,⟨_,rfl,.ref nx 0 _ Nm.add_self⟩⟩
 ·split at h
  case h_2=>exact h.elim
  rename_i z hz
  obtain⟨hz1,h⟩:=Jc h
  have hzr: ∀w,(zeroValue t).run P w= .ok z w:=by
   intro w
   obtain⟨i,hi,hz⟩:=Option.bind_eq_some_iff.1 hz
   simp[zeroValue,typeInfo,hi,hz]
  refine⟨_,_,_,[],h,rfl,List.nodup_nil,by simp,fun ins ho hS oo hoo=> ?_⟩
  cases ins with
  |cons=>exact ho.elim
  |nil=>
   have hr:=j0k (D:=D) (ν:=ν.add nx (.pointer (some ⟨w.heap.size,0,none⟩))) (σ:=σ) hz1
   refine⟨_,σ,ν.add nx (.pointer (some ⟨w.heap.size,0,none⟩)),_,.value (.pointer (some ⟨w.heap.size,0,none⟩)),by simp[execOp,hoo,Instr.alloc,hzr,newVar,newRow,newObj,Sem.run];rfl,Nm.add_ext hnx,Nm.add_new,
    z1g hS t _,⟨⟨_,_,Nm.add_self,rfl,?_⟩,trivial⟩,⟨_,rfl,.ref nx 0 _ Nm.add_self⟩⟩
   rw[j1i hr];exact hr
theorem y0v{t:TypeId}{x:Operand}(hnx:ν nx=none)(k:Kn D ν σ n f w e ob lkc oh)(h:U1 P D e ob nx (.box t x) K):q9g P D ν σ w ob lkc nx (ev n f) (.box t x) K:=by
 have hx:=k.e x
 have run: ∀oo:Oper,oo.op= .box t x->(execOp (ev n f) oo).run P w= .ok (.value (.pointer (some ⟨w.heap.size,0,none⟩))) (w.alloc (.cells (ev n f x).cells t)):=by
  intro oo hoo
  simp[execOp,hoo,Instr.box,newVar,newRow,newObj,Sem.run]
 simp only[U1] at h
 split at h
 ·rename_i T N l hxe
  refine⟨_,_,_,[],h,rfl,List.nodup_nil,by simp,fun ins ho hS oo hoo=> ?_⟩
  cases ins with
  |cons=>exact ho.elim
  |nil=>
   refine⟨_,σ,ν.add nx (.pointer (some ⟨w.heap.size,0,none⟩)),_,_,run oo hoo,Nm.add_ext hnx,Nm.add_new,z1g hS t _,⟨⟨_,_,Nm.add_self,rfl,?_⟩,trivial⟩,⟨_,rfl,.ref nx 0 _ Nm.add_self⟩⟩
   rw[hxe] at hx
   generalize ev n f x=v at hx
   cases hx with
   |arr cs _ _ _ hN hl hr=>exact⟨⟨hl,hr⟩,hN⟩
 ·obtain⟨l,hl,h⟩:=Qf h
  refine⟨_,_,_,[],h,rfl,List.nodup_nil,by simp,fun ins ho hS oo hoo=> ?_⟩
  cases ins with
  |cons=>exact ho.elim
  |nil=>
   refine⟨_,σ,ν.add nx (.pointer (some ⟨w.heap.size,0,none⟩)),_,_,run oo hoo,Nm.add_ext hnx,Nm.add_new,z1g hS t _,⟨⟨_,_,Nm.add_self,rfl,?_⟩,trivial⟩,⟨_,rfl,.ref nx 0 _ Nm.add_self⟩⟩
   have hr:=(Hi hx hl).mono (Nm.add_ext (v:= .pointer (some ⟨w.heap.size,0,none⟩)) hnx) (Sub.refl σ)
   rw[j1i hr];exact hr
theorem v5m{ms:List HObj}(h:St c w σ ms):St c w σ (triv::ms):=h.add (.refl _ _) trivial (by intro k hk;cases hk)
theorem z7s{ms:List HObj}{ety:TypeId}{T:S.C}{v:Value}{xs:List Value}{l:List (S.car T)}(hD:D.Ok)(h:St c w σ (vec v ety (D.size T) l.length xs::ms))(hE:Els D σ T xs l)(hl:l.length<=140737488355328):
  ∃σ1,St c w σ1 (triv::ms)/\Sub σ σ1/\RepF D σ1 v (.sl T l):=by
 obtain⟨σ1,h1,h2,h3⟩:=h.freeze' (i:=0) rfl rfl
 refine⟨σ1,v5m h1,h2,RepF.ofRSl hD (RSl.ofVec (h.get (i:=0) rfl) h3 rfl hl fun i x hx=>⟨?_,(hE.2 i x hx).mono h2⟩)⟩
 rw[(hE.2 i x hx).1,hD.len]
theorem q2d(hD:D.Ok): ∀{fz:List Nat} {outs tlo:List (Nat×AO S)} {ms ins:List HObj},frzs ob fz=some outs->tlo.map (·.1)=fz->(∀q∈tlo,ob q.1=some q.2)->Objs D ν σ lkc tlo ins->St c w σ (ms++ins)->
  ∃σ1 ms1,St c w σ1 (ms++ms1)/\Sub σ σ1/\Objs D ν σ1 lkc outs ms1:=by
 intro fz
 induction fz generalizing σ with
 |nil=>
  intro outs tlo ms ins hf ht _ ho hS
  cases hf
  cases tlo with
  |cons=>cases ht
  |nil=>
   cases ins with
   |cons=>exact ho.elim
   |nil=>exact⟨σ,[],hS,Sub.refl _,trivial⟩
 |cons o fz ih=>
  intro outs tlo ms ins hf ht hq ho hS
  cases tlo with
  |nil=>cases ht
  |cons q tlo=>
   obtain⟨o',a⟩:=q
   injection ht with h1 h2
   simp only at h1
   subst h1
   cases ins with
   |nil=>exact ho.elim
   |cons m ins=>
    simp only[frzs] at hf
    cases hb:hasN fz o' with
    |true=>rw[hb] at hf;cases hf
    |false=>
     rw[hb] at hf
     simp only[cond_false] at hf
     split at hf
     case h_2=>cases hf
     rename_i ety T l r hob hr
     cases hf
     have ha:=hq (o',a) (by simp)
     simp only at ha
     rw[hob] at ha;cases ha
     obtain⟨v,xs,hν,hm,hE,hl⟩:=ho.1
     subst hm
     have hS1:=hS.perm (ms':=vec v ety (D.size T) l.length xs::(ms++ins)) List.perm_middle
     obtain⟨σ1,hS2,hs1,hrep⟩:=z7s hD hS1 hE hl
     have hS3:=hS2.perm (ms':=(ms++[triv])++ins) (by simpa using (List.perm_middle (a:=triv) (l₁:=ms) (l₂:=ins)).symm)
     obtain⟨σ2,ms1,hS4,hs2,ho2⟩:=ih hr h2 (fun q hq'=>hq q (by simp[hq'])) (ho.2.mono (Ext.refl ν) hs1) hS3
     exact⟨σ2,triv::ms1,by simpa using hS4,hs1.trans hs2,⟨v,hν,rfl,hrep.mono hs2⟩,ho2⟩
theorem z5v{t:TypeId}{b o T k:Nat}{v:Value}{cs vs:List Value}{r:Operand->Value}{a x:Operand}{oo:Oper}(ho:oo.op= .store t a x)(ha:r a= .pointer (some ⟨b,o,none⟩))(hx:r x=v)(hvs:v.cells.toList=vs)
  (hs: ∀w,(sizeOf t).run P w= .ok k w)(hl:vs.length=k)(h1: ∀u∈vs,u.oneCell'=true)(hb:w.heap[b]? =some (.cells cs.toArray T (0,0)))(hle:o+k<=cs.length):
  (execOp r oo).run P w= .ok .skip (w.setRow b (W3 cs o vs).toArray):=by
 have hr:=run_storeCells_at P b o T vs 0 cs.toArray w hb (by simpa [hl] using hle) h1
 have hsz:v.cells.size=k:=by rw[←Array.length_toList,hvs,hl]
 simp only[Nat.add_zero] at hr
 have h2:(storeVar t ⟨b,o,none⟩ v).run P w= .ok () (w.setRow b (W3 cs o vs).toArray):=by
  simp only[storeVar,Sem.run_bind,hs,Result.andThen_ok,hsz,hvs]
  simpa [W3] using hr
 simp[execOp,ho,ha,hx,Instr.storeAt,Instr.sureAddr,h2]
theorem j5g{t:TypeId}{g cap T size k o j:Nat}{v:Value}{xs vs:List Value}{r:Operand->Value}{a x:Operand}{oo:Oper}(hoo:oo.op= .store t a x)(ha:r a= .pointer (some ⟨g,o,none⟩))(hx:r x=v)(hvs:v.cells.toList=vs)
  (hs: ∀w,(sizeOf t).run P w= .ok j w)(hl:vs.length=j)(h1: ∀u∈vs,u.oneCell'=true)(hv:(vec (.slice (some ⟨g,0,none⟩) k cap) T size k xs).ok w)(ho:o+j<=k*size):
  ∃w',(execOp r oo).run P w= .ok .skip w'/\Keeps [g] w w'/\(vec (.slice (some ⟨g,0,none⟩) k cap) T size k (W3 xs o vs)).ok w':=by
 obtain⟨hlen,hor⟩:=hv
 rcases hor with ⟨hbad,_⟩|⟨g',cap',cur,heq,_,hb,hk,hm,hcur,htake⟩
 ·cases hbad
 ·obtain⟨rfl,rfl⟩:g=g'/\cap=cap':=by simpa using heq
  have hle:k*size<=cap*size:=Nat.mul_le_mul_right _ hk
  have hb':w.heap[g]? =some (.cells cur.toList.toArray T (0,0)):=by rw[Array.toArray_toList];exact hb
  refine⟨_,z5v (P:=P) hoo ha hx hvs hs hl h1 hb' (by rw[Array.length_toList,hcur];omega),B6 hb _,?_,.inr ⟨g,cap,_,rfl,Nat.zero_le _,setRow_heap w g cur _ T _ hb,hk,hm,?_,?_⟩⟩
  ·unfold W3;simp only[List.length_append,List.length_take,List.length_drop];omega
  ·unfold W3;simp only[List.size_toArray,List.length_append,List.length_take,List.length_drop,Array.length_toList];omega
  ·exact j07 htake (by omega) (by simp;omega)
theorem j1j{cs vs:List Value}{l ss:List (FV S)}{off:Nat}(h:RowF D σ cs l)(k:RowF D σ vs ss)(hle:off+ss.length<=l.length):
  RowF D σ (cs.take off++vs++cs.drop (off+vs.length)) (l.take off++ss++l.drop (off+ss.length)):=by
 have e1:=h.1
 have e2:=k.1
 refine⟨by simp only[List.length_append,List.length_take,List.length_drop];omega,fun j v s hj hs=> ?_⟩
 have t1:(cs.take off).length=off:=by rw[List.length_take];omega
 have t2:(l.take off).length=off:=by rw[List.length_take];omega
 rw[List.append_assoc] at hj hs
 rcases Nat.lt_or_ge j off with hlt|hge
 ·rw[List.getElem?_append_left (by omega)] at hj hs
  rw[List.getElem?_take_of_lt hlt] at hj hs
  exact h.2 j v s hj hs
 ·rw[List.getElem?_append_right (by omega)] at hj hs
  rw[t1] at hj;rw[t2] at hs
  rcases Nat.lt_or_ge (j - off) ss.length with hlt|hge'
  ·rw[List.getElem?_append_left (by omega)] at hj hs
   exact k.2 _ v s hj hs
  ·rw[List.getElem?_append_right (by omega)] at hj hs
   rw[List.getElem?_drop] at hj hs
   have e3:off+vs.length+(j - off - vs.length)=off+ss.length+(j - off - ss.length):=by omega
   rw[e3] at hj
   exact h.2 _ v s hj hs
theorem j0l{g:Nat->SV S}: ∀{l:List (SV S)} {i:Nat},(resL g i l).length=l.length
 |[],_=>rfl
 |s::l,i=>by cases s<;>simp[resL,j0l]
theorem j8y{g:Nat->SV S}: ∀{l:List (SV S)} {i k:Nat},(resL g i l).drop k=resL g (i+k) (l.drop k)
 |[],_,_=>by simp[resL]
 |s::l,i,0=>by simp
 |s::l,i,k+1=>by
  have:(resL g i (s::l)).drop (k+1)=(resL g (i+1) l).drop k:=by cases s<;>simp[resL]
  rw[this,j8y,List.drop_succ_cons,Nat.add_assoc,Nat.add_comm 1 k]
theorem j8z{g:Nat->SV S}: ∀{l:List (SV S)} {i k:Nat},(resL g i l).take k=resL g i (l.take k)
 |[],_,_=>by simp[resL]
 |s::l,i,0=>by simp[resL]
 |s::l,i,k+1=>by cases s<;>simp[resL,j8z]
theorem z4r{g:Nat->SV S}: ∀{l l':List (SV S)} {i:Nat},resL g i (l++l')=resL g i l++resL g (i+l.length) l'
 |[],_,_=>by simp[resL]
 |s::l,l',i=>by
  have e1:i+(s::l).length=i+1+l.length:=by simp;omega
  rw[e1]
  cases s<;>simp[resL,z4r]
theorem v8h{cs:List Value}{l:List (FV S)}(h:RowS D ν σ cs (l.map SV.f)):RowF D σ cs l:=by
 refine⟨by have:=h.1;simpa using this,fun j v s hj hs=> ?_⟩
 have:=h.2.1 j v (.f s) hj (by rw[List.getElem?_map,hs];rfl)
 cases this with
 |f h=>exact h
theorem w79{cs vs:List Value}{l ss:List (FV S)}{off c:Nat}{q:SV S}(h:RowS D ν σ cs ((l.map SV.f).set off q))(k:RowF D σ vs ss)(hs1:ss.length=1)(hc:c=1)(hlt:off<l.length):
  RowF D σ (cs.take off++vs++cs.drop (off+c)) (l.take off++ss++l.drop (off+c)):=by
 subst hc
 have e1:cs.length=l.length:=by have:=h.1;simpa using this
 have e2:=k.1
 refine⟨by simp only[List.length_append,List.length_take,List.length_drop];omega,fun j v s hj hs=> ?_⟩
 have t1:(cs.take off).length=off:=by rw[List.length_take];omega
 have t2:(l.take off).length=off:=by rw[List.length_take];omega
 have old: ∀m,m≠off-> ∀v s,cs[m]? =some v->l[m]? =some s->RepF D σ v s:=fun m hm v s hv hs=>by
  have:=h.2.1 m v (.f s) hv (by rw[List.getElem?_set_ne (fun e=>hm e.symm),List.getElem?_map,hs];rfl)
  cases this with
  |f h=>exact h
 rw[List.append_assoc] at hj hs
 rcases Nat.lt_or_ge j off with h1|h1
 ·rw[List.getElem?_append_left (by omega)] at hj hs
  rw[List.getElem?_take_of_lt h1] at hj hs
  exact old j (by omega) v s hj hs
 ·rw[List.getElem?_append_right (by omega)] at hj hs
  rw[t1] at hj;rw[t2] at hs
  rcases Nat.lt_or_ge (j - off) ss.length with h2|h2
  ·rw[List.getElem?_append_left (by omega)] at hj hs
   exact k.2 _ v s hj hs
  ·rw[List.getElem?_append_right (by omega),List.getElem?_drop] at hj hs
   exact old _ (by omega) v s hj (by rw[show off+1+(j - off - vs.length)=off+1+(j - off - ss.length) by omega];exact hs)
theorem j1k{T:S.C}{xs vs:List Value}{l:List (S.car T)}{i off:Nat}{y y':S.car T}(hl:xs.length=l.length*D.size T)(hoth: ∀(j:Nat) x,j≠i->l[j]? =some x->RowF D σ ((xs.drop (j*D.size T)).take (D.size T)) (D.shape T x))(hy:l[i]? =some y)(hle:off+vs.length<=D.size T)
  (hr:RowF D σ (((xs.drop (i*D.size T)).take (D.size T)).take off++vs++((xs.drop (i*D.size T)).take (D.size T)).drop (off+vs.length)) (D.shape T y')):Els D σ T (W3 xs (i*D.size T+off) vs) (l.set i y'):=by
 have hi:=Qa hy
 have h1:(i+1)*D.size T<=l.length*D.size T:=Nat.mul_le_mul_right _ hi
 rw[Nat.add_mul,Nat.one_mul] at h1
 refine⟨by unfold W3;simp only[List.length_append,List.length_take,List.length_drop,List.length_set];omega,fun j x hx=> ?_⟩
 rw[List.getElem?_set] at hx
 have part: ∀m,(W3 xs (i*D.size T+off) vs)[m]? =if m<i*D.size T+off then xs[m]? else if m<i*D.size T+off+vs.length then vs[m - (i*D.size T+off)]? else xs[m]? :=by
  intro m
  unfold W3
  have t1:(xs.take (i*D.size T+off)).length=i*D.size T+off:=by rw[List.length_take];omega
  rw[List.append_assoc]
  split
  ·rename_i h
   rw[List.getElem?_append_left (by omega),List.getElem?_take_of_lt h]
  ·rename_i h
   rw[List.getElem?_append_right (by omega),t1]
   split
   ·rename_i h2
    rw[List.getElem?_append_left (by omega)]
   ·rename_i h2
    rw[List.getElem?_append_right (by omega),List.getElem?_drop]
    congr 1;omega
 by_cases hij:i=j
 ·subst hij
  rw[if_pos rfl,if_pos hi] at hx
  cases hx
  have:=hr
  have e:((W3 xs (i*D.size T+off) vs).drop (i*D.size T)).take (D.size T)=((xs.drop (i*D.size T)).take (D.size T)).take off++vs++((xs.drop (i*D.size T)).take (D.size T)).drop (off+vs.length):=by
   apply List.ext_getElem?
   intro m
   rw[List.getElem?_take]
   have c1:(((xs.drop (i*D.size T)).take (D.size T)).take off).length=off:=by simp only[List.length_take,List.length_drop];omega
   rw[List.append_assoc]
   by_cases hm:m<D.size T
   ·rw[if_pos hm,List.getElem?_drop,part]
    by_cases h2:m<off
    ·rw[if_pos (by omega),List.getElem?_append_left (by omega),List.getElem?_take_of_lt h2,List.getElem?_take_of_lt hm,List.getElem?_drop]
    ·rw[if_neg (by omega),List.getElem?_append_right (by omega),c1]
     by_cases h3:m<off+vs.length
     ·rw[if_pos (by omega),List.getElem?_append_left (by omega)]
      congr 1;omega
     ·rw[if_neg (by omega),List.getElem?_append_right (by omega),List.getElem?_drop,List.getElem?_take_of_lt (by omega),List.getElem?_drop]
      congr 1;omega
   ·rw[if_neg hm]
    symm
    apply List.getElem?_eq_none
    simp only[List.length_append,List.length_take,List.length_drop]
    omega
  rw[e];exact this
 ·rw[if_neg hij] at hx
  have hj:=Qa hx
  have e:((W3 xs (i*D.size T+off) vs).drop (j*D.size T)).take (D.size T)=(xs.drop (j*D.size T)).take (D.size T):=by
   apply List.ext_getElem?
   intro m
   rw[List.getElem?_take,List.getElem?_take]
   split
   ·rename_i hm
    rw[List.getElem?_drop,List.getElem?_drop,part]
    rcases Nat.lt_or_gt_of_ne hij with h|h
    ·have h3:(i+1)*D.size T<=j*D.size T:=Nat.mul_le_mul_right _ h
     rw[Nat.add_mul,Nat.one_mul] at h3
     rw[if_neg (by omega),if_neg (by omega)]
    ·have h3:(j+1)*D.size T<=i*D.size T:=Nat.mul_le_mul_right _ h
     rw[Nat.add_mul,Nat.one_mul] at h3
     rw[if_pos (by omega)]
   ·rfl
  rw[e];exact hoth j x (fun q=>hij q.symm) hx
theorem j5h{T:S.C}{xs vs:List Value}{l:List (S.car T)}{i off:Nat}{y y':S.car T}(hE:Els D σ T xs l)(hy:l[i]? =some y)(hle:off+vs.length<=D.size T)
  (hr: ∀cs,RowF D σ cs (D.shape T y)->RowF D σ (cs.take off++vs++cs.drop (off+vs.length)) (D.shape T y')):Els D σ T (W3 xs (i*D.size T+off) vs) (l.set i y'):=
 j1k hE.1 (fun j x _ hx=>hE.2 j x hx) hy hle (hr _ (hE.2 i y hy))
theorem j6k{ss:List (SV S)}{xs:List (FV S)}{fz:List Nat}(h:toFs ob ss=some (xs,fz)):xs.length=ss.length:=by
 induction ss generalizing xs fz with
 |nil=>cases h;rfl
 |cons s ss ih=>
  simp only[toFs] at h
  split at h
  case h_2=>cases h
  split at h
  case h_2=>cases h
  rename_i h2
  cases h
  simp[ih h2]
theorem z4s{ss:List (SV S)}{cs:List Value}{xs:List (FV S)}{fz:List Nat}(hD:D.Ok)(ho: ∀o a,ob o=some a->ORep D ν σ lkc o a (oh o))(hs':Sub σ τ)(hs:RowS D ν σ cs ss)(h:toFs ob ss=some (xs,fz))
  (hf: ∀o e T l v,o∈fz->ob o=some (.vec e T l)->ν o=some v->RepF D τ v (.sl T l)):RowF D τ cs xs:=by
 induction ss generalizing cs xs fz with
 |nil=>cases h;exact⟨hs.1,fun j v s hj hk=>by cases hk⟩
 |cons s ss ih=>
  cases cs with
  |nil=>have:=hs.1;cases this
  |cons c cs=>
   simp only[toFs] at h
   split at h
   case h_2=>cases h
   rename_i x a hx
   split at h
   case h_2=>cases h
   rename_i xs' b hxs
   cases h
   have h1:=w38 hD ho (hs.2.1 0 c s rfl rfl) hx
   have h2:=ih (cs:=cs) ⟨by have:=hs.1;simpa using this,fun j v s hj hk=>hs.2.1 (j+1) v s (by simpa using hj) (by simpa using hk),fun v hv=>hs.2.2 v (by simp[hv])⟩ hxs (fun o e T l v hm=>hf o e T l v (by simp[hm]))
   refine⟨by simp[h2.1],fun j v s hj hk=> ?_⟩
   cases j with
   |zero=>
    cases hj;cases hk
    rcases h1 with ⟨_,h1⟩|⟨o,e,T,l,h0,hx',hob,hν⟩
    ·exact h1.mono hs'
    ·subst h0 hx'
     exact hf o e T l _ (by simp) hob hν
   |succ j=>exact h2.2 j v s (by simpa using hj) (by simpa using hk)
theorem q9h{l:List Nat}{o:Nat}(h:hasN l o=false):o∉l:=by
 induction l with
 |nil=>simp
 |cons a l ih=>
  simp only[hasN] at h
  cases hb:Nat.beq a o with
  |true=>rw[hb] at h;cases h
  |false=>
   rw[hb] at h
   intro hm
   rcases List.mem_cons.1 hm with rfl|hm
   ·simp at hb
   ·exact ih h hm
theorem q5t: ∀{fz:List Nat} {outs:List (Nat×AO S)},frzs ob fz=some outs-> ∃tlo:List (Nat×AO S),tlo.map (·.1)=fz/\fz.Nodup/\(∀q∈tlo,ob q.1=some q.2)/\ ∀o e T l,o∈fz->ob o=some (.vec e T l)->(o,AO.frz T l)∈outs:=by
 intro fz
 induction fz with
 |nil=>intro outs h;cases h;exact⟨[],rfl,List.nodup_nil,by simp,by simp⟩
 |cons o fz ih=>
  intro outs h
  simp only[frzs] at h
  cases hb:hasN fz o with
  |true=>rw[hb] at h;cases h
  |false=>
   rw[hb] at h
   simp only[cond_false] at h
   split at h
   case h_2=>cases h
   rename_i e T l r hob hr
   cases h
   obtain⟨tlo,h1,h2,h3,h4⟩:=ih hr
   refine⟨(o,.vec e T l)::tlo,by simp[h1],List.nodup_cons.2 ⟨q9h hb,h2⟩,?_,?_⟩
   ·intro q hq
    rcases List.mem_cons.1 hq with rfl|hq
    ·exact hob
    ·exact h3 q hq
   ·intro o' e' T' l' hm hob'
    rcases List.mem_cons.1 hm with rfl|hm
    ·rw[hob] at hob';cases hob';simp
    ·exact List.mem_cons_of_mem _ (h4 o' e' T' l' hm hob')
theorem Objs.mem: ∀{os:List (Nat×AO S)} {ms:List HObj},Objs D ν σ lkc os ms-> ∀{o a},(o,a)∈os-> ∃m,ORep D ν σ lkc o a m
 |[],[],_,_,_,hm=>by cases hm
 |(o',a')::os,m::ms,h,o,a,hm=>by
  rcases List.mem_cons.1 hm with he|hm
  ·cases he;exact⟨m,h.1⟩
  ·exact Objs.mem h.2 hm
theorem z4t{fz:List Nat}{outs:List (Nat×AO S)}{ms:List HObj}(hf:frzs ob fz=some outs)(ho:Objs D ν σ lkc outs ms): ∀o e T l v,o∈fz->ob o=some (.vec e T l)->ν o=some v->RepF D σ v (.sl T l):=by
 intro o e T l v hm hob hν
 obtain⟨_,_,_,_,h4⟩:=q5t hf
 obtain⟨m,v',hν',_,hr⟩:=ho.mem (h4 o e T l hm hob)
 rw[hν] at hν';cases hν'
 exact hr
theorem j80{b T:Nat}{cs:List Value}{w:World}(h:(blk b T cs).ok w):w.heap[b]? =some (.cells cs.toArray T (0,0)):=h
theorem j34{w w':World}{h h':HObj}{ms:List HObj}(hS:St c w σ (h::ms))(hk:Keeps h.foot.toList w w')(ho:h'.ok w')(hf:h'.foot=h.foot):St c w' σ (h'::ms):=
 hS.step (i:=0) rfl hk ho (fun k hk=> .inl (by rw[←hf];exact hk)) rfl hS.view.none_of_ge
theorem j6l{t:TypeId}{a x:Operand}{o off b:Nat}{ty:TypeId}{l cs:List (SV S)}(k:Kn D ν σ n f w e ob lkc oh)(hν:ν o=some (.pointer (some ⟨b,0,none⟩)))(ha:ev n f a= .pointer (some ⟨b,off,none⟩))(hob:ob o=some (.cells ty l))
  (hcs:z1e (e x)=some cs)(hT:hasT P t=true)(hsz:szQ P t=cs.length)(hle:off+cs.length<=l.length)(hlk:noLk ((l.drop off).take cs.length)=true)
  (h:K [o] [(o,.cells ty (l.take off++cs++l.drop (off+cs.length)))] none):q9g P D ν σ w ob lkc nx (ev n f) (.store t a x) K:=by
 have _:=hlk
 refine⟨_,_,_,[(o,.cells ty l)],h,rfl,by simp,by simpa using hob,fun ins ho hS oo hoo=> ?_⟩
 match ins,ho with
 |[m],ho=>
  obtain⟨b',cs0,hν',hm,hrow⟩:=ho.1
  rw[hν] at hν';cases hν'
  subst hm
  have hlen:cs0.length=l.length:=by rw[hrow.1,j0l]
  have hr:=Hi (k.e x) hcs
  have hlv:(ev n f x).cells.toList.length=szQ P t:=by rw[hr.1,hsz]
  have hok:=j80 (hS.get (i:=0) rfl)
  refine⟨_,σ,ν,_,_,z5v (P:=P) hoo ha rfl rfl (fun w=>Vg hT w) hlv hr.2.2 hok (by omega),Ext.refl ν,fun m u hu=> .inl hu,
   j34 (h':=blk b ty _) hS (B6 hok _) (setRow_heap w b _ _ _ _ hok) rfl,⟨⟨b,_,hν,rfl,?_⟩,trivial⟩,rfl⟩
  have h2:=j1f hrow hr (by rw[j0l];exact hle)
  unfold W3
  rw[z4r,z4r,←j8z,j1i hr]
  have e1:(0:Nat)+(l.take off++cs).length=0+(off+cs.length):=by simp only[List.length_append,List.length_take];omega
  rw[e1,←j8y]
  exact h2
theorem v5n{t:TypeId}{a x:Operand}(hP:D.OkP P)(k:Kn D ν σ n f w e ob lkc oh)(h:U1 P D e ob nx (.store t a x) K):q9g P D ν σ w ob lkc nx (ev n f) (.store t a x) K:=by
 have hD:=hP.ok
 have hor: ∀o a,ob o=some a->ORep D ν σ lkc o a (oh o):=fun o a h=>(k.o o a h).1
 simp only[U1] at h
 have ka:=k.e a
 generalize hva:ev n f a=va at ka
 generalize e a=sa at h ka
 cases ka with
 |ref o off b hν=>
  simp only at h
  split at h
  ·rename_i ty l hob
   obtain⟨cs,hcs,h⟩:=Qf h
   obtain⟨hc,h⟩:=Jc h
   obtain⟨hc,h4⟩:=Qu hc
   obtain⟨hc,h3⟩:=Qu hc
   obtain⟨h1,h2⟩:=Qu hc
   exact j6l k hν hva hob hcs h1 (Nat.eq_of_beq_eq_true h2) (Nat.le_of_ble_eq_true h3) h4 h
  ·rename_i ty T N l0 hob
   split at h
   case h_2=>exact h.elim
   rename_i T' N' l' hxe
   obtain⟨hc,h⟩:=Jc h
   obtain⟨hc,h4⟩:=Qu hc
   obtain⟨hc,h3⟩:=Qu hc
   obtain⟨h1,h2⟩:=Qu hc
   have h1:=Nat.eq_of_beq_eq_true h1
   have h2:=Nat.eq_of_beq_eq_true h2
   have h4:=Nat.eq_of_beq_eq_true h4
   obtain⟨e1,h⟩:=Bu h
   subst e1
   refine⟨_,_,_,[(o,.arr ty T' N l0)],h,rfl,by simp,by simpa using hob,fun ins ho hS oo hoo=> ?_⟩
   match ins,ho with
   |[m],ho=>
    obtain⟨b',cs0,hν',hm,hE,hN⟩:=ho.1
    rw[hν] at hν';cases hν'
    subst hm
    have kx:=hxe▸k.e x
    have hok:=j80 (hS.get (i:=0) rfl)
    generalize hvx:ev n f x=vx at kx
    cases kx with
    |arr cs _ _ _ hN' hl hr=>
     have hlv:cs.length=szQ P t:=by rw[hl,hN',←h2,h4]
     have hl0:cs0.length=cs.length:=by rw[hE.1,hN,hl,hN',h2]
     have hones: ∀u∈cs,u.oneCell'=true:=by
      intro u hu
      obtain⟨j,hj⟩:=List.mem_iff_getElem?.1 hu
      have hjl:=Qa hj
      have hpos:=hD.pos T'
      have hdiv:j / D.size T'<l'.length:=by rw[Nat.div_lt_iff_lt_mul hpos];omega
      obtain⟨y,hy⟩:=getq hdiv
      have hrow:=hr _ y hy
      have hm:((cs.drop (j / D.size T'*D.size T')).take (D.size T'))[j % D.size T']? =some u:=by
       rw[List.getElem?_take_of_lt (Nat.mod_lt _ hpos),List.getElem?_drop]
       have:j / D.size T'*D.size T'+j % D.size T'=j:=by rw[Nat.mul_comm];exact Nat.div_add_mod j _
       rw[this];exact hj
      obtain⟨s,hs⟩:=getq (l:=D.shape T' y) (k:=j % D.size T') (by rw[←hrow.1];exact Qa hm)
      exact (hrow.2 _ u s hm hs).one
     subst h1
     refine⟨_,σ,ν,_,_,z5v (P:=P) (vs:=cs) hoo hva hvx rfl (fun w=>Vg h3 w) hlv hones hok (by omega),Ext.refl ν,fun m u hu=> .inl hu,
      j34 (h':=blk b ty _) hS (B6 hok _) (setRow_heap w b _ _ _ _ hok) rfl,⟨⟨b,_,hν,rfl,?_,hN'.trans h2.symm⟩,trivial⟩,rfl⟩
     rw[B7 hl0.symm]
     exact⟨hl,hr⟩
  ·exact h.elim
 |eref T o i off b m cap hν hi=>
  simp only at h
  split at h
  case h_3=>exact h.elim
  ·rename_i ety T' l hob
   obtain⟨e1,h⟩:=Bu h
   subst e1
   obtain⟨cs,hcs,h⟩:=Qf h
   obtain⟨q,hq,h⟩:=Qf h
   obtain⟨fz,hfz,h⟩:=Qf h
   obtain⟨hc,h⟩:=Jc h
   obtain⟨hc,h4⟩:=Qu hc
   obtain⟨hc,h3⟩:=Qu hc
   obtain⟨h1,h2⟩:=Qu hc
   have h2:=Nat.eq_of_beq_eq_true h2
   have h3:=Nat.le_of_ble_eq_true h3
   obtain⟨xs,fn⟩:=q
   simp only at hfz h h4
   obtain⟨hR,hok0⟩:=k.o o _ hob
   obtain⟨v0,xs0,hν0,hh0,hE0,_⟩:=hR
   rw[hν] at hν0;cases hν0
   rw[hh0] at hok0
   have hm:m=l.length:=by
    rcases (Hg hok0).2 with ⟨h1,_⟩|⟨g,cap',h1,_⟩
    ·cases h1
    ·cases h1;rfl
   subst hm
   obtain⟨y,hy⟩:=getq (l:=l) (k:=i) (by omega)
   obtain⟨y',hy',h⟩:=Qf (h y hy)
   obtain⟨tlo,ht1,ht2,ht3,_⟩:=q5t hfz
   have hno:o∉fn:=q9h (by simpa using h4)
   refine⟨_,_,_,(o,.vec ety T' l)::tlo,h,by simp[ht1],List.nodup_cons.2 ⟨hno,ht2⟩,?_,fun ins ho hS oo hoo=> ?_⟩
   ·intro q hq
    rcases List.mem_cons.1 hq with rfl|hq
    ·exact hob
    ·exact ht3 q hq
   match ins,ho with
   |mo::ins,ho=>
    obtain⟨v1,xs1,hν1,hm1,hE,hl47⟩:=ho.1
    rw[hν] at hν1;cases hν1
    subst hm1
    obtain⟨σ1,ms1,hS1,hs1,ho1⟩:=q2d (ms:=[vec (.slice (some ⟨b,0,none⟩) l.length cap) ety (D.size T') l.length xs1]) hD hfz ht1 ht3 ho.2 hS
    have hr:=Hi (k.e x) hcs
    have hrF:=z4s hD hor hs1 hr hq (z4t hfz ho1)
    have hlv:(ev n f x).cells.toList.length=szQ P t:=by rw[hr.1,h2]
    have hb1:(i+1)*D.size T'<=l.length*D.size T':=Nat.mul_le_mul_right _ (Qa hy)
    rw[Nat.add_mul,Nat.one_mul] at hb1
    obtain⟨w',hrun,hkeep,hok'⟩:=j5g (P:=P) hoo hva rfl rfl (fun w=>Vg h1 w) hlv hr.2.2 (hS1.get (i:=0) rfl) (by omega)
    have hE1:=hE.mono hs1
    refine⟨w',σ1,ν,_,_,hrun,Ext.refl ν,fun m u hu=> .inl hu,j34 (h':=vec (.slice (some ⟨b,0,none⟩) l.length cap) ety (D.size T') l.length _) hS1 hkeep hok' rfl,⟨⟨_,W3 xs1 (i*D.size T'+off) (ev n f x).cells.toList,hν,by simp,?_,by simpa using hl47⟩,ho1⟩,rfl⟩
    refine j5h hE1 hy (by rw[hr.1];exact h3) fun cs1 hcs1=> ?_
    have hx:=j6k hq
    refine hD.bld _ _ _ _ _ hy' ?_
    rw[hr.1,←hx]
    have hh:=j1j hcs1 hrF (off:=off) (by rw[hD.len,hx];exact h3)
    rw[hrF.1] at hh
    exact hh
  ·rename_i ety T' l kh fh qh hob
   obtain⟨e1,h⟩:=Bu h
   subst e1
   obtain⟨cs,hcs,h⟩:=Qf h
   obtain⟨q,hq,h⟩:=Qf h
   obtain⟨fz,hfz,h⟩:=Qf h
   obtain⟨hc,h⟩:=Jc h
   obtain⟨hc,h4⟩:=Qu hc
   obtain⟨hc,h3⟩:=Qu hc
   obtain⟨hc,h5⟩:=Qu hc
   obtain⟨hc,h6⟩:=Qu hc
   obtain⟨h1,h2⟩:=Qu hc
   have h2:=Nat.eq_of_beq_eq_true h2
   have h3:off<D.size T':=Nat.le_of_ble_eq_true h3
   have h5:=Nat.eq_of_beq_eq_true h5
   have h6:=Nat.eq_of_beq_eq_true h6
   obtain⟨hik,hy0⟩:=h
   subst hik h5
   obtain⟨xs,fn⟩:=q
   simp only at hfz h h4
   obtain⟨hR,hok0⟩:=k.o o _ hob
   obtain⟨v0,xs0,hν0,hh0,hE0,_⟩:=hR
   rw[hν] at hν0;cases hν0
   rw[hh0] at hok0
   have hm:m=l.length:=by
    rcases (Hg hok0).2 with ⟨h1,_⟩|⟨g,cap',h1,_⟩
    ·cases h1
    ·cases h1;rfl
   subst hm
   obtain⟨y,hy⟩:=getq (l:=l) (k:=i) (by omega)
   obtain⟨y',hy',h⟩:=Qf (hy0 y hy)
   obtain⟨tlo,ht1,ht2,ht3,_⟩:=q5t hfz
   have hno:o∉fn:=q9h (by simpa using h4)
   refine⟨_,_,_,(o,.vech ety T' l i off qh)::tlo,h,by simp[ht1],List.nodup_cons.2 ⟨hno,ht2⟩,?_,fun ins ho hS oo hoo=> ?_⟩
   ·intro q hq
    rcases List.mem_cons.1 hq with rfl|hq
    ·exact hob
    ·exact ht3 q hq
   match ins,ho with
   |mo::ins,ho=>
    obtain⟨v1,xs1,hν1,hm1,hE,hl47⟩:=ho.1
    rw[hν] at hν1;cases hν1
    subst hm1
    obtain⟨σ1,ms1,hS1,hs1,ho1⟩:=q2d (ms:=[vec (.slice (some ⟨b,0,none⟩) l.length cap) ety (D.size T') l.length xs1]) hD hfz ht1 ht3 ho.2 hS
    have hr:=Hi (k.e x) hcs
    have hrF:=z4s hD hor hs1 hr hq (z4t hfz ho1)
    have hlv:(ev n f x).cells.toList.length=szQ P t:=by rw[hr.1,h2]
    have hb1:(i+1)*D.size T'<=l.length*D.size T':=Nat.mul_le_mul_right _ (Qa hy)
    rw[Nat.add_mul,Nat.one_mul] at hb1
    obtain⟨w',hrun,hkeep,hok'⟩:=j5g (P:=P) hoo hva rfl rfl (fun w=>Vg h1 w) hlv hr.2.2 (hS1.get (i:=0) rfl) (by omega)
    have hE1:=hE.mono (Ext.refl ν) hs1
    refine⟨w',σ1,ν,_,_,hrun,Ext.refl ν,fun m u hu=> .inl hu,j34 (h':=vec (.slice (some ⟨b,0,none⟩) l.length cap) ety (D.size T') l.length _) hS1 hkeep hok' rfl,⟨⟨_,W3 xs1 (i*D.size T'+off) (ev n f x).cells.toList,hν,by simp,?_,by simpa using hl47⟩,ho1⟩,rfl⟩
    have hrow:=hE1.2 i y hy
    unfold z9q at hrow
    rw[if_pos rfl] at hrow
    refine j1k hE1.1 (fun j x hj hx=> ?_) hy (by rw[hr.1,h6];exact h3) ?_
    ·have hq:=hE1.2 j x hx
     unfold z9q at hq
     rw[if_neg hj] at hq
     exact v8h hq
    have hx:=j6k hq
    refine hD.bld _ _ _ _ _ hy' ?_
    rw[hr.1]
    exact w79 hrow hrF (hx.trans h6) h6 (by rw[hD.len];exact h3)
 |aref T N o i off b hν hi=>
  simp only at h
  split at h
  case h_2=>exact h.elim
  rename_i ty T' N' l hob
  obtain⟨hN,h⟩:=Jc h
  have hN:=Nat.eq_of_beq_eq_true hN
  obtain⟨e1,h⟩:=Bu h
  subst e1
  obtain⟨cs,hcs,h⟩:=Qf h
  obtain⟨q,hq,h⟩:=Qf h
  obtain⟨hc,h⟩:=Jc h
  obtain⟨hc,h3⟩:=Qu hc
  obtain⟨hc,h2⟩:=Qu hc
  obtain⟨h0,h1⟩:=Qu hc
  have h2:=Nat.eq_of_beq_eq_true h2
  have h3:=Nat.le_of_ble_eq_true h3
  obtain⟨xs,fz⟩:=q
  have hfz:fz=[]:=by simpa using h0
  subst hfz
  obtain⟨hR,_⟩:=k.o o _ hob
  obtain⟨_,_,_,_,_,hlN⟩:=hR
  obtain⟨y,hy⟩:=getq (l:=l) (k:=i) (by omega)
  obtain⟨y',hy',h⟩:=Qf (h y hy)
  refine⟨_,_,_,[(o,.arr ty T' N' l)],h,rfl,by simp,by simpa using hob,fun ins ho hS oo hoo=> ?_⟩
  match ins,ho with
  |[m],ho=>
   obtain⟨b',cs0,hν',hm,hE,hN'⟩:=ho.1
   rw[hν] at hν';cases hν'
   subst hm
   have hok:=j80 (hS.get (i:=0) rfl)
   have hr:=Hi (k.e x) hcs
   have hrF:=z5t hD hor hr hq
   have hlv:(ev n f x).cells.toList.length=szQ P t:=by rw[hr.1,h2]
   have hb1:(i+1)*D.size T'<=l.length*D.size T':=Nat.mul_le_mul_right _ (Qa hy)
   rw[Nat.add_mul,Nat.one_mul] at hb1
   have hl0:=hE.1
   refine⟨_,σ,ν,_,_,z5v (P:=P) hoo hva rfl rfl (fun w=>Vg h1 w) hlv hr.2.2 hok (by omega),Ext.refl ν,fun m u hu=> .inl hu,
    j34 (h':=blk b ty _) hS (B6 hok _) (setRow_heap w b _ _ _ _ hok) rfl,⟨⟨b,_,hν,rfl,?_,by simpa using hN'⟩,trivial⟩,rfl⟩
   refine j5h hE hy (by rw[hr.1];exact h3) fun cs1 hcs1=> ?_
   have hx:=j6k hq
   refine hD.bld _ _ _ _ _ hy' ?_
   rw[hr.1,←hx]
   have hh:=j1j hcs1 hrF (off:=off) (by rw[hD.len,hx];exact h3)
   rw[hrF.1] at hh
   exact hh
 |_=>exact h.elim
end Go.Fx
end
noncomputable section
set_option maxRecDepth 100000
namespace Go.Fx
open Go Go.RowKit Go.Fl Go.Fl.Lk
variable {S:Sig}{P:Program}{D:Shp S}{ν ν':Nm}{σ τ:Hv}{n:Nat}{f:Fr}
variable {w:World}{e:Operand->SV S}{ob:Nat->Option (AO S)}{lkc:Nat->Nat->SV S}{oh:Nat->HObj}{c:Cx}
variable {nx:Nat}{K:List Nat->List (Nat×AO S)->Option (SV S)->Prop}
theorem w8a{t:TypeId}(hnx:ν nx=none)(h:U1 P D e ob nx (.makeMap t none) K):q9g P D ν σ w ob lkc nx (ev n f) (.makeMap t none) K:=by
 simp only[U1] at h
 split at h
 case h_2=>exact h.elim
 rename_i Kc V hmc
 refine⟨_,_,_,[],h,rfl,List.nodup_nil,by simp,fun ins ho hS oo hoo=> ?_⟩
 cases ins with
 |cons=>exact ho.elim
 |nil=>
  refine⟨w.alloc (.map #[] 0),σ,ν.add nx (.map (some w.heap.size)),[j1b (kenc D Kc) w.heap.size fun _=>none],.value (.map (some w.heap.size)),by simp[execOp,hoo,Instr.makeMap],Nm.add_ext hnx,Nm.add_new,
   hS.add (U7 w _) ⟨#[],0,?_,by simp[z5r],fun k=>rfl,by simp[MBk]⟩ (by rintro k ⟨⟩;exact Nat.le_refl _),⟨⟨_,_,Nm.add_self,rfl,fun k=>trivial⟩,trivial⟩,⟨_,rfl,.hnd nx _ Nm.add_self rfl⟩⟩
  exact heap_alloc_new _ _
theorem j1l{t:TypeId}{m x v:Operand}(hP:D.OkP P)(k:Kn D ν σ n f w e ob lkc oh)(h:U1 P D e ob nx (.mapUpdate t m x v) K):q9g P D ν σ w ob lkc nx (ev n f) (.mapUpdate t m x v) K:=by
 have hD:=hP.ok
 have hor: ∀o a,ob o=some a->ORep D ν σ lkc o a (oh o):=fun o a h=>(k.o o a h).1
 simp only[U1] at h
 split at h
 case h_2=>exact h.elim
 rename_i Kc V o ks vs hmc hm hks hvs
 obtain⟨kt,et,hu,hK,hkey,hT,hA,hsz,z,hz,hzr⟩:=hP.map _ _ _ hmc
 split at h
 case h_2=>exact h.elim
 rename_i K' V' F hob
 obtain⟨q,hq,h⟩:=Qf h
 obtain⟨q',hq',h⟩:=Qf h
 obtain⟨fz,hfz,h⟩:=Qf h
 obtain⟨hc,h⟩:=Jc h
 obtain⟨h0,h1⟩:=Qu hc
 obtain⟨ky,hky,h⟩:=Qf h
 obtain⟨y,hy,h⟩:=Qf h
 obtain⟨e1,e2,hfin⟩:=q5i h
 clear h
 subst e1 e2
 obtain⟨xs,fx⟩:=q
 obtain⟨ys,fn⟩:=q'
 have hfx:fx=[]:=by simpa using h0
 subst hfx
 obtain⟨tlo,ht1,ht2,ht3,_⟩:=q5t hfz
 have hno:o∉fn:=q9h (by simpa using h1)
 refine⟨_,_,_,(o,.map K' V' F)::tlo,hfin,by simp[ht1],List.nodup_cons.2 ⟨hno,ht2⟩,?_,fun ins ho hS oo hoo=> ?_⟩
 ·intro q hq
  rcases List.mem_cons.1 hq with rfl|hq
  ·exact hob
  ·exact ht3 q hq
 match ins,ho with
 |mo::ins,ho=>
  obtain⟨b,mm,hν,hmo,hF⟩:=ho.1
  subst hmo
  obtain⟨σ1,ms1,hS1,hs1,ho1⟩:=q2d (ms:=[j1b (kenc D K') b mm]) hD hfz ht1 ht3 ho.2 hS
  have hrow:=z5t hD hor (Hi (k.e x) (z21 hks)) hq
  have hrow2:=hD.bld _ _ _ _ _ hky hrow
  have hxv:ev n f x=kenc D K' ky:=by
   unfold kenc
   rw[←w1k hrow2 (hkey ky)]
   exact z5u (k.e x) hks
  have hmv:ev n f m= .map (some b):=Vq (hm▸k.e m) hν
  have hvr:=z4s hD hor hs1 (Hi (k.e v) (z21 hvs)) hq' (z4t hfz ho1)
  have hvr2:=hD.bld _ _ _ _ _ hy hvr
  have hvv:=z5u (k.e v) hvs
  obtain⟨w',hrun,hkeep,hok⟩:=v1t (k:=ky) (v:=ev n f v) hK hu (hS1.get (i:=0) rfl)
  refine⟨w',σ1,ν,_,_,by simp only[execOp,hoo,hmv,hxv,Sem.run_bind,hrun,Result.andThen_ok];rfl,Ext.refl ν,fun m u hu=> .inl hu,j34 hS1 hkeep hok rfl,⟨⟨b,_,hν,rfl,fun k'=> ?_⟩,ho1⟩,rfl⟩
  unfold put
  by_cases hk:k'=ky
  ·rw[if_pos hk,if_pos hk]
   exact⟨_,hvr2,hvv⟩
  ·rw[if_neg hk,if_neg hk]
   exact (hF k').imp fun v y h=>h.mono hs1
theorem v11{t:TypeId}{m x v:Operand}(hP:D.OkP P)(k:Kn D ν σ n f w e ob lkc oh)(h:U1 P D e ob nx (.insert t m x v) K):q9g P D ν σ w ob lkc nx (ev n f) (.insert t m x v) K:=by
 have h:U1 P D e ob nx (.mapUpdate t m x v) K:=h
 obtain⟨tl,outs,sv,tlo,h1,h2,h3,h4,h5⟩:=j1l hP k h
 refine⟨tl,outs,sv,tlo,h1,h2,h3,h4,fun ins ho hS oo hoo=> ?_⟩
 obtain⟨w',σ',ν',ms',u,hr,hrest⟩:=h5 ins ho hS {oo with op:= .mapUpdate t m x v} rfl
 refine⟨w',σ',ν',ms',u,?_,hrest⟩
 rw[←hr]
 simp only[execOp,hoo]
theorem v13{args:Array Operand}{ts:Array TypeId}(hP:D.OkP P)(k:Kn D ν σ n f w e ob lkc oh)(h:U1 P D e ob nx (.call ⟨.builtin .delete,args,ts⟩) K):q9g P D ν σ w ob lkc nx (ev n f) (.call ⟨.builtin .delete,args,ts⟩) K:=by
 have hD:=hP.ok
 have hor: ∀o a,ob o=some a->ORep D ν σ lkc o a (oh o):=fun o a h=>(k.o o a h).1
 simp only[U1] at h
 split at h
 case h_2=>exact h.elim
 rename_i m x t t' ha ht
 have ha':args= #[m,x]:=by apply Array.ext';simpa using ha
 have ht':ts= #[t,t']:=by apply Array.ext';simpa using ht
 split at h
 case h_2=>exact h.elim
 rename_i Kc V o ks hmc hm hks
 obtain⟨kt,et,hu,hK,hkey,hT,hA,hsz,z,hz,hzr⟩:=hP.map _ _ _ hmc
 split at h
 case h_2=>exact h.elim
 rename_i K' V' F hob
 obtain⟨q,hq,h⟩:=Qf h
 obtain⟨hc,h⟩:=Jc h
 obtain⟨ky,hky,h⟩:=Qf h
 obtain⟨e1,e2,hfin⟩:=q5i h
 clear h
 subst e1 e2
 obtain⟨xs,fx⟩:=q
 have hfx:fx=[]:=by simpa using hc
 subst hfx
 subst ha'
 refine⟨_,_,_,[(o,.map K' V' F)],hfin,rfl,by simp,by simpa using hob,fun ins ho hS oo hoo=> ?_⟩
 match ins,ho with
 |[mo],ho=>
  obtain⟨b,mm,hν,hmo,hF⟩:=ho.1
  subst hmo
  have hrow:=z5t hD hor (Hi (k.e x) (z21 hks)) hq
  have hrow2:=hD.bld _ _ _ _ _ hky hrow
  have hxv:ev n f x=kenc D K' ky:=by
   unfold kenc
   rw[←w1k hrow2 (hkey ky)]
   exact z5u (k.e x) hks
  have hmv:ev n f m= .map (some b):=Vq (hm▸k.e m) hν
  obtain⟨w',hrun,hkeep,hok⟩:=v1u (k:=ky) (tt:=oo.type) (ts:=ts) hK hu (by rw[ht'];rfl) (hS.get (i:=0) rfl)
  refine⟨w',σ,ν,_,.value (.tuple #[]),by simp only[execOp,hoo,resolve,invoke,builtin,Sem.run_bind,Sem.run_pure,Result.andThen_ok,List.map_toArray,List.map_cons,List.map_nil,hmv,hxv,hrun],Ext.refl ν,fun m u hu=> .inl hu,j34 hS hkeep hok rfl,⟨⟨b,_,hν,rfl,fun k'=> ?_⟩,trivial⟩,⟨_,rfl,.tup [] [] rfl (by simp)⟩⟩
  unfold dlt
  by_cases hk:k'=ky
  ·rw[if_pos hk,if_pos hk];trivial
  ·rw[if_neg hk,if_neg hk];exact hF k'
theorem v8i{T:S.C}(hD:D.Ok)(hor: ∀o a,ob o=some a->ORep D ν σ lkc o a (oh o))(hs':Sub σ τ): ∀{vs:List Value} {ss:List (SV S)} {l:List (S.car T)} {fn:List Nat},vs.length=ss.length->
  (∀(j:Nat) v s,vs[j]? =some v->ss[j]? =some s->SRep D ν σ v s)->w33 D ob T ss=some (l,fn)->(∀o e T l v,o∈fn->ob o=some (.vec e T l)->ν o=some v->RepF D τ v (.sl T l))->
  Els D τ T (vs.flatMap fun v=>v.cells.toList) l/\l.length=vs.length/\ ∀v∈vs,v.cells.toList.length=D.size T/\ ∀u∈v.cells.toList,u.oneCell'=true:=by
 intro vs
 induction vs with
 |nil=>
  intro ss l fn hl _ h _
  cases ss with
  |cons=>cases hl
  |nil=>cases h;exact⟨⟨by simp,fun i x hx=>by simp at hx⟩,rfl,by simp⟩
 |cons v vs ih=>
  intro ss l fn hl hr h hf
  cases ss with
  |nil=>cases hl
  |cons s ss=>
   simp only[w33] at h
   split at h
   case h_2=>cases h
   rename_i cs hcs
   split at h
   case h_2=>cases h
   rename_i xs a hxs
   split at h
   case h_2=>cases h
   rename_i y ys b hy hys
   cases h
   have hc:=Hi (hr 0 v s rfl rfl) hcs
   have hrow:=z4s hD hor hs' hc hxs (fun o e T l v hm=>hf o e T l v (by simp[hm]))
   have hrow2:=hD.bld _ _ _ _ _ hy hrow
   have hlen:v.cells.toList.length=D.size T:=by rw[hrow2.1,hD.len]
   obtain⟨h1,h2,h3⟩:=ih (ss:=ss) (by simpa using hl) (fun j v s hj hk=>hr (j+1) v s (by simpa using hj) (by simpa using hk)) hys (fun o e T l v hm=>hf o e T l v (by simp[hm]))
   refine⟨⟨?_,fun i x hx=> ?_⟩,by simp[h2],?_⟩
   ·have:=h1.1
    rw[List.flatMap_cons,List.length_append,hlen,this,List.length_cons,Nat.add_mul,Nat.one_mul,Nat.add_comm]
   ·rw[List.flatMap_cons]
    cases i with
    |zero=>
     cases hx
     rw[Nat.zero_mul,List.drop_zero,List.take_append_of_le_length (by omega),List.take_of_length_le (by omega)]
     exact hrow2
    |succ i=>
     rw[Nat.add_mul,Nat.one_mul,Nat.add_comm,←List.drop_drop,List.drop_left' hlen]
     exact h1.2 i x (by simpa using hx)
   ·intro u hu
    rcases List.mem_cons.1 hu with rfl|hu
    ·exact⟨hlen,hc.2.2⟩
    ·exact h3 u hu
theorem v14{sz:Nat}{r:Operand->Value}: ∀(parts:List (Nat×Operand)) (i:Nat) (done rest:List Value),j6i i parts=true->done.length=i*sz->(∀q∈parts,(r q.2).cells.toList.length=sz)->rest.length=parts.length*sz->
  Instr.fill (fun i=>some (i*sz,sz)) (done++rest).toArray (parts.map fun q=>(q.1,r q.2))=some (done++(parts.flatMap fun q=>(r q.2).cells.toList)).toArray:=by
 intro parts
 induction parts with
 |nil=>
  intro i done rest _ _ _ hr
  have:rest=[]:=List.eq_nil_of_length_eq_zero (by simpa using hr)
  subst this
  rfl
 |cons q parts ih=>
  intro i done rest hi hd hs hr
  obtain⟨j,x⟩:=q
  simp only[j6i] at hi
  obtain⟨h1,h2⟩:=Qu hi
  have h1:=Nat.eq_of_beq_eq_true h1
  subst h1
  have hx:=hs (i,x) (by simp)
  simp only at hx
  rw[List.length_cons,Nat.add_mul,Nat.one_mul] at hr
  rw[List.map_cons,Instr.fill]
  simp only
  have hsz:(r x).cells.size=sz:=by rw[←Array.length_toList,hx]
  rw[if_neg (by simp only[hsz,ne_eq,not_true_eq_false,decide_false,Bool.false_or,decide_eq_true_eq,List.size_toArray,List.length_append];omega)]
  have h3:=j1g (r x).cells.toList (done++rest) (i*sz) (by rw[hx,List.length_append];omega)
  have e1:(done++rest).take (i*sz)=done:=by rw[←hd];simp
  have e2:(done++rest).drop (i*sz+(r x).cells.toList.length)=rest.drop sz:=by rw[←hd,hx,←List.drop_drop];simp
  rw[e1,e2] at h3
  have h4:(r x).cells.zipIdx.foldl (fun cs (q:Value×Nat)=>cs.setIfInBounds (i*sz+q.2) q.1) (done++rest).toArray=((done++(r x).cells.toList)++rest.drop sz).toArray:=by
   rw[←h3,←Array.foldl_toList,Array.toList_zipIdx]
  have h5:=ih (i+1) (done++(r x).cells.toList) (rest.drop sz) h2 (by rw[List.length_append,hd,hx,Nat.add_mul,Nat.one_mul]) (fun q hq=>hs q (by simp[hq])) (by rw[List.length_drop,hr];omega)
  rw[←h4] at h5
  rw[h5,List.flatMap_cons,List.append_assoc]
theorem j81{t:TypeId}{len:Nat}{parts:Array (Nat×Operand)}(hP:D.OkP P)(hnx:ν nx=none)(k:Kn D ν σ n f w e ob lkc oh)(h:U1 P D e ob nx (.buildSlice t len parts) K):q9g P D ν σ w ob lkc nx (ev n f) (.buildSlice t len parts) K:=by
 have hD:=hP.ok
 have hor: ∀o a,ob o=some a->ORep D ν σ lkc o a (oh o):=fun o a h=>(k.o o a h).1
 simp only[U1] at h
 split at h
 case h_2=>exact h.elim
 rename_i el hu
 split at h
 case h_2=>exact h.elim
 rename_i T hcode
 obtain⟨hc,h⟩:=Jc h
 obtain⟨hc,h6⟩:=Qu hc
 obtain⟨hc,h5⟩:=Qu hc
 obtain⟨hc,h4⟩:=Qu hc
 obtain⟨hc,h3⟩:=Qu hc
 obtain⟨h1,h2⟩:=Qu hc
 have h2:=Nat.eq_of_beq_eq_true h2
 have h4:=Nat.eq_of_beq_eq_true h4
 have h5:=Nat.le_of_ble_eq_true h5
 obtain⟨q,hq,h⟩:=Qf h
 obtain⟨fz,hfz,h⟩:=Qf h
 obtain⟨l,fn⟩:=q
 obtain⟨tlo,ht1,ht2,ht3,_⟩:=q5t hfz
 refine⟨_,_,_,tlo,h,ht1,ht2,ht3,fun ins ho hS oo hoo=> ?_⟩
 obtain⟨σ1,ms1,hS1,hs1,ho1⟩:=q2d (ms:=[]) hD hfz ht1 ht3 ho hS
 rw[List.nil_append] at hS1
 obtain⟨hE,hl,hcell⟩:=v8i (T:=T) (vs:=parts.toList.map fun q=>ev n f q.2) hD hor hs1 (by simp) (fun j v s hj hs=>by
  rw[List.getElem?_map] at hj hs
  rcases hp:parts.toList[j]? with _|x
  ·rw[hp] at hj;cases hj
  ·rw[hp] at hj hs;cases hj;cases hs;exact k.e _) hq (z4t hfz ho1)
 have hlen:l.length=len:=by rw[hl,←h4];simp
 obtain⟨z,hz⟩:=Option.isSome_iff_exists.1 h6
 obtain⟨i,hi,hz⟩:=Option.bind_eq_some_iff.1 hz
 have hrest:((Array.range (len*szQ P el)).map fun j=>(if len*szQ P el=0 then (#[]:Array Value) else z.cells)[j % (if len*szQ P el=0 then (#[]:Array Value) else z.cells).size]!).toList.length=parts.toList.length*szQ P el:=by simp[←h4]
 have hfill:=v14 (r:=ev n f) (sz:=szQ P el) parts.toList 0 [] _ h3 (by simp) (fun q hq=>by rw[h2];exact (hcell (ev n f q.2) (List.mem_map.2 ⟨q,hq,rfl⟩)).1) hrest
 have hpm:(parts.map fun (i,x)=>(i,ev n f x)).toList=parts.toList.map fun q=>(q.1,ev n f q.2):=by simp
 have hfm:(parts.toList.flatMap fun q=>(ev n f q.2).cells.toList)=(parts.toList.map fun q=>ev n f q.2).flatMap fun v=>v.cells.toList:=by rw[List.flatMap_map]
 rw[List.nil_append,Array.toArray_toList,List.nil_append,hfm] at hfill
 have hcl:((parts.toList.map fun q=>ev n f q.2).flatMap fun v=>v.cells.toList).length=len*D.size T:=by rw[hE.1,hlen]
 have hrun:(execOp (ev n f) oo).run P w= .ok (.value (.slice (some ⟨w.heap.size,0,none⟩) len len)) (w.alloc (.cells ((parts.toList.map fun q=>ev n f q.2).flatMap fun v=>v.cells.toList).toArray el)):=by
  have hzr: ∀w,(zeroValue el).run P w= .ok z w:=by intro w;simp[zeroValue,typeInfo,hi,hz]
  have hbig: ¬len*szQ P el>2 ^ 24:=by omega
  by_cases h0:len*szQ P el=0
  ·rw[if_pos h0] at hfill
   simp only[execOp,hoo,Instr.buildSlice,Sem.run_bind,run_underlying hu,Result.andThen_ok,Vg h1,if_neg hbig,if_pos h0,Sem.run_pure,hpm]
   rw[hfill]
   simp[newRow,newObj,Sem.run]
  ·rw[if_neg h0] at hfill
   simp only[execOp,hoo,Instr.buildSlice,Sem.run_bind,run_underlying hu,Result.andThen_ok,Vg h1,if_neg hbig,if_neg h0,Sem.run_pure,hzr,hpm]
   rw[hfill]
   simp[newRow,newObj,Sem.run]
 refine⟨_,σ1,ν.add nx (.slice (some ⟨w.heap.size,0,none⟩) len len),vec (.slice (some ⟨w.heap.size,0,none⟩) len len) el (D.size T) len ((parts.toList.map fun q=>ev n f q.2).flatMap fun v=>v.cells.toList)::ms1,_,hrun,Nm.add_ext hnx,Nm.add_new,?_,
  ⟨⟨_,_,Nm.add_self,by rw[hlen],hE,?_⟩,ho1.mono (Nm.add_ext hnx) (Sub.refl _)⟩,⟨_,rfl,.hnd nx _ Nm.add_self rfl⟩⟩
 ·refine hS1.add (U7 w _) ?_ (by rintro k ⟨⟩;exact Nat.le_refl _)
  refine⟨hcl,.inr ⟨_,len,_,rfl,Nat.zero_le _,heap_alloc_new _ _,Nat.le_refl _,?_,by simp[←hcl],?_⟩⟩
  ·have:len<=len*szQ P el:=Nat.le_mul_of_pos_right _ (by rw[h2];exact hD.pos T)
   simp only[maxLen];omega
  ·show List.take _ _=_
   exact List.take_of_length_le (by rw[Array.length_toList] at*;simpa using Nat.le_of_eq hcl)
 ·have:len<=len*szQ P el:=Nat.le_mul_of_pos_right _ (by rw[h2];exact hD.pos T)
  show l.length<=_
  omega
theorem v5o(hD:D.Ok){T:S.C}{z:S.car T}{cs:List Value}(hz:RowF D σ cs (D.shape T z))(k:Nat):Els D σ T ((List.replicate k cs).flatten) (List.replicate k z):=by
 have hl:cs.length=D.size T:=by rw[hz.1,hD.len]
 induction k with
 |zero=>exact⟨by simp,fun i x hx=>by simp at hx⟩
 |succ k ih=>
  refine⟨?_,fun i x hx=> ?_⟩
  ·have:=ih.1
   rw[List.replicate_succ,List.flatten_cons,List.length_append,this,hl,List.replicate_succ,List.length_cons,Nat.add_mul,Nat.one_mul,Nat.add_comm]
  ·rw[List.replicate_succ,List.flatten_cons]
   rw[List.replicate_succ] at hx
   cases i with
   |zero=>
    cases hx
    rw[Nat.zero_mul,List.drop_zero,List.take_append_of_le_length (by omega),List.take_of_length_le (by omega)]
    exact hz
   |succ i=>
    rw[Nat.add_mul,Nat.one_mul,Nat.add_comm,←List.drop_drop,List.drop_left' hl]
    exact ih.2 i x (by simpa using hx)
theorem w8b(cs:List Value)(k:Nat):(madeCells cs.toArray (k*cs.length)).toList=(List.replicate k cs).flatten:=by
 have hlen:(List.replicate k cs).flatten.length=k*cs.length:=by simp
 apply List.ext_getElem?
 intro m
 rcases Nat.lt_or_ge m (k*cs.length) with hm|hm
 ·have hpos:0<cs.length:=by
   rcases Nat.eq_zero_or_pos cs.length with h|h
   ·rw[h] at hm;omega
   ·exact h
  have hi:m / cs.length<k:=by rw[Nat.div_lt_iff_lt_mul hpos];exact hm
  have e1:(List.replicate k cs).flatten[m]? =cs[m % cs.length]? :=by
   have key: ∀(k m:Nat),m<k*cs.length->(List.replicate k cs).flatten[m]? =cs[m % cs.length]? :=by
    intro k
    induction k with
    |zero=>intro m hm;simp at hm
    |succ k ih=>
     intro m hm
     rw[List.replicate_succ,List.flatten_cons]
     rw[Nat.add_mul,Nat.one_mul] at hm
     rcases Nat.lt_or_ge m cs.length with h|h
     ·rw[List.getElem?_append_left h,Nat.mod_eq_of_lt h]
     ·rw[List.getElem?_append_right h,ih _ (by omega),Nat.mod_eq_sub_mod h]
   exact key k m hm
  rw[e1]
  have hlt:=Nat.mod_lt m hpos
  simp[madeCells,hm,hlt]
 ·rw[List.getElem?_eq_none (by simpa [madeCells] using hm),List.getElem?_eq_none (by rw[hlen];exact hm)]
theorem j1m{x:Operand}{i:Int}(k:Kn D ν σ n f w e ob lkc oh)(h:intQ (e x)=some i):ev n f x= .int .i64 i:=by
 have hx:=k.e x
 generalize e x=s at h hx
 unfold intQ at h
 split at h
 ·cases h;exact Uf hx
 ·cases h
theorem z89(w:World)(t e:TypeId)(i:TypeInfo)(z:Value)(size:Nat)(ht:P.underlying t=some (.slice e))(hi:P.info? e=some i)(hz:i.zero=some z)(hsize:i.size=size)(hzl:z.cells.toList.length=size)
  (n c:Nat)(hnc:n<=c)(hbytes:i.bytes*c<=281474976710656)(h63:c<=maxLen):
  ∃w',(Instr.makeSlice t (.int .i64 (n:Int)) (.int .i64 (c:Int))).run P w= .ok (.slice (some ⟨w.heap.size,0,none⟩) n c) w'/\
   w'.ownsRow 0 e size (.slice (some ⟨w.heap.size,0,none⟩) n c) n (List.replicate n z.cells.toList).flatten/\w.grownBy w' none:=by
 subst hsize
 have h63':(c:Int)<=9223372036854775807:=by
  have h:=h63
  simp[maxLen] at h
  omega
 have hb':(i.bytes:Int)*(c:Int)<=281474976710656:=by
  have h:((i.bytes*c:Nat):Int)<=281474976710656:=by omega
  rwa [Int.natCast_mul] at h
 have hr:=run_make (P:=P) w t e i z ht hi hz .i64 .i64 n c (by omega) (by omega) hb' h63'
 simp only[Int.toNat_natCast] at hr
 have hmade:(madeCells z.cells (c*i.size)).toList=(List.replicate c z.cells.toList).flatten:=by
  have:=w8b z.cells.toList c
  rw[hzl,Array.toArray_toList] at this
  exact this
 refine⟨_,hr,⟨by simp[hzl],.inr ⟨w.heap.size,c,madeCells z.cells (c*i.size),rfl,Nat.zero_le _,heap_alloc_new w _,hnc,h63,size_madeCells _ _,?_⟩⟩,World.grownBy_alloc w _ none⟩
 obtain⟨d,rfl⟩: ∃d,c=n+d:=⟨c - n,by omega⟩
 rw[hmade,←List.replicate_append_replicate,List.flatten_append,List.take_append_of_le_length (by simp[hzl]),List.take_of_length_le (by simp[hzl])]
theorem w1m{t:TypeId}{x y:Operand}(hP:D.OkP P)(hnx:ν nx=none)(k:Kn D ν σ n f w e ob lkc oh)(h:U1 P D e ob nx (.makeSlice t x y) K):q9g P D ν σ w ob lkc nx (ev n f) (.makeSlice t x y) K:=by
 have hD:=hP.ok
 simp only[U1] at h
 split at h
 case h_2=>exact h.elim
 rename_i el hu
 split at h
 case h_2=>exact h.elim
 rename_i T a b hcode ha hb
 split at h
 case h_2=>exact h.elim
 rename_i i hi
 obtain⟨hc,⟨h0,hab,hsm⟩,hfin⟩:=Jc h
 clear h
 obtain⟨hc,h4⟩:=Qu hc
 obtain⟨hc,h3⟩:=Qu hc
 obtain⟨h1,h2⟩:=Qu hc
 have h2:=Nat.eq_of_beq_eq_true h2
 have h4:=Nat.le_of_ble_eq_true h4
 obtain⟨z,hz⟩:=Option.isSome_iff_exists.1 h3
 have hzr:=hP.zero _ _ _ _ hcode hi hz
 refine⟨_,_,_,[],hfin,rfl,List.nodup_nil,by simp,fun ins ho hS oo hoo=> ?_⟩
 cases ins with
 |cons=>exact ho.elim
 |nil=>
  have hsm':=j8p hsm h4
  have hka:a=((a.toNat:Nat):Int):=by omega
  have hkb:b=((b.toNat:Nat):Int):=by omega
  have hzl:z.cells.toList.length=D.size T:=by rw[(hzr σ).1,hD.len]
  obtain⟨w',hr,hown,hg⟩:=z89 (P:=P) w t el i z (D.size T) hu hi hz h2 hzl a.toNat b.toNat (by omega) (by rw[Nat.mul_comm];omega) hsm'.2
  have hrun:(execOp (ev n f) oo).run P w= .ok (.value (.slice (some ⟨w.heap.size,0,none⟩) a.toNat b.toNat)) w':=by
   have hxa:=j1m k ha
   have hya:=j1m k hb
   rw[hka] at hxa
   rw[hkb] at hya
   simp only[execOp,hoo,hxa,hya,Sem.run_bind,hr,Result.andThen_ok]
   rfl
  refine⟨w',σ,ν.add nx (.slice (some ⟨w.heap.size,0,none⟩) a.toNat b.toNat),[vec (.slice (some ⟨w.heap.size,0,none⟩) a.toNat b.toNat) el (D.size T) a.toNat (List.replicate a.toNat z.cells.toList).flatten],_,hrun,Nm.add_ext hnx,Nm.add_new,?_,
   ⟨⟨_,(List.replicate a.toNat z.cells.toList).flatten,Nm.add_self,by rw[List.length_replicate],v5o hD (hzr σ) _,?_⟩,trivial⟩,⟨_,rfl,.hnd nx _ Nm.add_self rfl⟩⟩
  ·exact hS.add ⟨hg.os,hg.tape,hg.output,hg.size,fun k hk _=>hg.block k hk (by simp)⟩ hown (by rintro k ⟨⟩;exact Nat.le_refl _)
  ·have:=hsm
   unfold Sml at this
   simp;omega
theorem RSl.row{α:Type}{size:Nat}{R:Hv->List Value->α->Prop}{v:Value}{l:List α}(h:RSl size R σ v l): ∃a cap,v= .slice a l.length cap/\((a=none/\l=[])∨ ∃ad xs,a=some ad/\xs.length=l.length*size/\VRow σ ad xs/\
  ∀(i:Nat) x,l[i]? =some x->R σ ((xs.drop (i*size)).take size) x):=by
 obtain⟨a,cap,h1,h2,h3,h4⟩:=h
 refine⟨a,cap,h1,?_⟩
 cases a with
 |none=>
  left
  refine⟨rfl,?_⟩
  cases l with
  |nil=>rfl
  |cons x l=>obtain⟨_,_,h0,_⟩:=h4 0 x rfl;cases h0
 |some ad=>
  right
  refine⟨ad,(List.range (l.length*size)).map fun m=>(σ.cell (ad.add m)).getD undef,rfl,by simp,?_,?_⟩
  ·intro j u hj
   rw[List.getElem?_map] at hj
   rcases Nat.lt_or_ge j (l.length*size) with hlt|hge
   ·rw[List.getElem?_range hlt] at hj
    have hpos:0<size:=by
     rcases Nat.eq_zero_or_pos size with h|h
     ·rw[h] at hlt;omega
     ·exact h
    have hdiv:j / size<l.length:=by rw[Nat.div_lt_iff_lt_mul hpos];exact hlt
    obtain⟨x,hx⟩:=getq hdiv
    obtain⟨ad',cs,ha,hl,hr,_⟩:=h4 _ x hx
    cases ha
    obtain⟨u',hu'⟩:=getq (l:=cs) (k:=j % size) (by rw[hl];exact Nat.mod_lt _ hpos)
    have:=hr _ u' hu'
    rw[q24] at this
    have e:j / size*size+j % size=j:=by rw[Nat.mul_comm];exact Nat.div_add_mod j _
    rw[e] at this
    simp only[Option.map_some,this,Option.getD_some,Option.some.injEq] at hj
    rw[this,hj]
   ·rw[List.getElem?_eq_none (by simpa using hge)] at hj;cases hj
  ·intro i x hx
   obtain⟨ad',cs,ha,hl,hr,hR⟩:=h4 i x hx
   cases ha
   have hi:=Qa hx
   have hm:(i+1)*size<=l.length*size:=Nat.mul_le_mul_right _ hi
   rw[Nat.add_mul,Nat.one_mul] at hm
   have e:(((List.range (l.length*size)).map fun m=>(σ.cell (ad.add m)).getD undef).drop (i*size)).take size=cs:=by
    apply List.ext_getElem?
    intro j
    rw[List.getElem?_take]
    split
    ·rename_i hj
     rw[List.getElem?_drop,List.getElem?_map,List.getElem?_range (by omega)]
     obtain⟨u,hu⟩:=getq (l:=cs) (k:=j) (by omega)
     have:=hr j u hu
     rw[q24] at this
     rw[hu,Option.map_some,this];rfl
    ·rename_i hj
     rw[List.getElem?_eq_none (by omega)]
   rw[e];exact hR
theorem w5g{T:S.C}{xs ys:List Value}{l l':List (S.car T)}(h:Els D σ T xs l)(h':Els D σ T ys l'):Els D σ T (xs++ys) (l++l'):=by
 refine⟨by rw[List.length_append,h.1,h'.1,List.length_append,Nat.add_mul],fun i x hx=> ?_⟩
 rcases Nat.lt_or_ge i l.length with hlt|hge
 ·rw[List.getElem?_append_left hlt] at hx
  have hm:(i+1)*D.size T<=l.length*D.size T:=Nat.mul_le_mul_right _ hlt
  rw[Nat.add_mul,Nat.one_mul,←h.1] at hm
  have e:((xs++ys).drop (i*D.size T)).take (D.size T)=(xs.drop (i*D.size T)).take (D.size T):=by
   rw[List.drop_append_of_le_length (by omega),List.take_append_of_le_length (by rw[List.length_drop];omega)]
  rw[e];exact h.2 i x hx
 ·rw[List.getElem?_append_right hge] at hx
  have e:i*D.size T=xs.length+(i - l.length)*D.size T:=by rw[h.1,←Nat.add_mul];congr 1;omega
  rw[e,←List.drop_drop,List.drop_left' rfl]
  exact h'.2 _ x hx
theorem v15{T:S.C}{xs:List Value}{l:List (S.car T)}(hD:D.Ok)(h:Els D σ T xs l): ∀u∈xs,u.oneCell'=true:=by
 intro u hu
 obtain⟨j,hj⟩:=List.mem_iff_getElem?.1 hu
 have hjl:=Qa hj
 have hpos:=hD.pos T
 have hdiv:j / D.size T<l.length:=by rw[Nat.div_lt_iff_lt_mul hpos,←h.1];exact hjl
 obtain⟨y,hy⟩:=getq hdiv
 have hrow:=h.2 _ y hy
 have hm:((xs.drop (j / D.size T*D.size T)).take (D.size T))[j % D.size T]? =some u:=by
  rw[List.getElem?_take_of_lt (Nat.mod_lt _ hpos),List.getElem?_drop]
  have:j / D.size T*D.size T+j % D.size T=j:=by rw[Nat.mul_comm];exact Nat.div_add_mod j _
  rw[this];exact hj
 obtain⟨s,hs⟩:=getq (l:=D.shape T y) (k:=j % D.size T) (by rw[←hrow.1];exact Qa hm)
 exact (hrow.2 _ u s hm hs).one
def Src(D:Shp S)(σ:Hv)(w:World)(T:S.C)(v:Value)(l:List (S.car T)):Prop:=
 ∃a cap,v= .slice a l.length cap/\((a=none/\l=[])∨ ∃ad ys,a=some ad/\Row w ad ys/\Els D σ T ys l)
theorem z5w{t el:TypeId}{T:S.C}{i:TypeInfo}{z v yv:Value}{xs:List Value}{l l':List (S.car T)}(hD:D.Ok)(hu:P.underlying t=some (.slice el))(hi:P.info? el=some i)(hz:i.zero=some z)(hsz:i.size=D.size T)(hzl:z.cells.size=D.size T)
  (hb:i.bytes<=32768)(hE:Els D σ T xs l)(hok:(vec v el (D.size T) l.length xs).ok w)(hs:Src D σ w T yv l')(hsm:Sml (l++l').length){x y:Operand}{ts:Array TypeId}{r:Operand->Value}(hx:r x=v)(hy:r y=yv)(hts:ts= #[t,t]){oo:Oper}(hoo:oo.op= .call ⟨.builtin .append,#[x,y],ts⟩):
  ∃v' w' xs',(execOp r oo).run P w= .ok (.value v') w'/\Els D σ T xs' (l++l')/\(vec v' el (D.size T) (l++l').length xs').ok w'/\Keeps v.ownBlock.toList w w'/\(∀b,v'.ownBlock=some b->v.ownBlock=some b∨w.heap.size<=b):=by
 subst hts
 obtain⟨a,cap,rfl,hs⟩:=hs
 have run: ∀v' w',(Builtin.append_ #[t,t] oo.type #[v,.slice a l'.length cap]).run P w= .ok v' w'->(execOp r oo).run P w= .ok (.value v') w':=by
  intro v' w' h
  simp only[execOp,hoo,resolve,invoke,builtin,Sem.run_bind,Sem.run_pure,Result.andThen_ok,List.map_toArray,List.map_cons,List.map_nil,hx,hy,h]
 rcases hs with ⟨rfl,rfl⟩|⟨ad,ys,rfl,hrow,hE'⟩
 ·have hr:=z9p (P:=P) (w:=w) 0 t oo.type el i (D.size T) cap hu hi v l.length xs hok
  refine⟨v,w,xs,run _ _ hr,by simpa using hE,by simpa using hok,Keeps.refl _ _,fun b hb=> .inl hb⟩
 ·have hsm2:=j8p hsm hb
  rw[List.length_append] at hsm2
  obtain⟨v',w',hr,ho,hk,hf⟩:=w7j (P:=P) (ty':=oo.type) (cc:=cap) hu hi hz hsz rfl hzl (hD.pos T) hok hE'.1 hrow (v15 hD hE') hsm2.1 hsm2.2
  exact⟨v',w',xs++ys,run _ _ hr,w5g hE hE',by rw[List.length_append];exact ho,hk,hf⟩
theorem w8c{T:S.C}{v:Value}{el:TypeId}{ys:List Value}{l:List (S.car T)}(hok:(vec v el (D.size T) l.length ys).ok w)(hE:Els D σ T ys l):Src D σ w T v l:=by
 rcases (Hg hok).2 with ⟨rfl,h0⟩|⟨g,cap,rfl,_⟩
 ·have:l=[]:=List.eq_nil_of_length_eq_zero h0
  subst this
  exact⟨none,0,rfl,.inl ⟨rfl,rfl⟩⟩
 ·exact⟨_,cap,rfl,.inr ⟨_,ys,rfl,z4p hok,hE⟩⟩
theorem v4h{T:S.C}{v:Value}{l:List (S.car T)}(hD:D.Ok)(hV:View σ w)(h:RepF D σ v (.sl T l)):Src D σ w T v l:=by
 obtain⟨a,cap,hv,h⟩:=RSl.row (h.toRSl hD)
 rcases h with ⟨rfl,rfl⟩|⟨ad,xs,rfl,hl,hr,hR⟩
 ·exact⟨none,cap,hv,.inl ⟨rfl,rfl⟩⟩
 ·exact⟨some ad,cap,hv,.inr ⟨ad,xs,rfl,hr.row hV,hl,hR⟩⟩
theorem z7t{el:TypeId}{T:S.C}{s:SV S}{a:List Nat}{l:List (S.car T)}(h:ownQ el T ob s=some (a,l)):(s= .f .nils/\a=[]/\l=[])∨ ∃o,s= .hnd o/\a=[o]/\ob o=some (.vec el T l):=by
 cases s with
 |f x=>
  cases x with
  |nils=>cases h;exact .inl ⟨rfl,rfl,rfl⟩
  |_=>cases h
 |hnd o=>
  simp only[ownQ] at h
  split at h
  case h_2=>cases h
  rename_i e T' l0 hob
  cases hb:Nat.beq e el with
  |false=>rw[hb] at h;cases h
  |true=>
   rw[hb] at h
   have hb:=Nat.eq_of_beq_eq_true hb
   simp only[cond_true] at h
   split at h
   case h_2=>cases h
   rename_i he _
   cases h
   subst he hb
   exact .inr ⟨o,rfl,rfl,hob⟩
 |_=>cases h
theorem v5p{el:TypeId}{T:S.C}{s:SV S}{b:List Nat}{l:List (S.car T)}(h:srcQ el T ob s=some (b,l)):
  (s= .f .nils/\b=[]/\l=[])∨(s= .f (.sl T l)/\b=[])∨(∃o,s= .hnd o/\b=[o]/\ob o=some (.vec el T l))∨ ∃o,s= .hnd o/\b=[]/\ob o=some (.frz T l):=by
 cases s with
 |f x=>
  cases x with
  |nils=>cases h;exact .inl ⟨rfl,rfl,rfl⟩
  |sl T' l'=>
   simp only[srcQ] at h
   split at h
   case h_2=>cases h
   rename_i he _
   cases h
   subst he
   exact .inr (.inl ⟨rfl,rfl⟩)
  |_=>cases h
 |hnd o=>
  simp only[srcQ] at h
  split at h
  ·rename_i e T' l0 hob
   cases hb:Nat.beq e el with
   |false=>rw[hb] at h;cases h
   |true=>
    rw[hb] at h
    have hb:=Nat.eq_of_beq_eq_true hb
    simp only[cond_true] at h
    split at h
    case h_2=>cases h
    rename_i he _
    cases h
    subst he hb
    exact .inr (.inr (.inl ⟨o,rfl,rfl,hob⟩))
  ·rename_i T' l0 hob
   split at h
   case h_2=>cases h
   rename_i he _
   cases h
   subst he
   exact .inr (.inr (.inr ⟨o,rfl,rfl,hob⟩))
  ·cases h
 |_=>cases h
theorem w39{T:S.C}{xs:List Value}{l:List (S.car T)}(hE:Els D σ T xs l){m:Nat}(hk:m<=l.length):Els D σ T (xs.take (m*D.size T)) (l.take m):=by
 refine⟨?_,fun j x hx=> ?_⟩
 ·rw[List.length_take,hE.1,List.length_take]
  have:m*D.size T<=l.length*D.size T:=Nat.mul_le_mul_right _ hk
  rw[Nat.min_eq_left this,Nat.min_eq_left hk]
 ·rw[List.getElem?_take] at hx
  split at hx
  case isFalse=>cases hx
  rename_i hj
  have:=hE.2 j x hx
  have h3:(j+1)*D.size T<=m*D.size T:=Nat.mul_le_mul_right _ hj
  rw[Nat.add_mul,Nat.one_mul] at h3
  have e:((xs.take (m*D.size T)).drop (j*D.size T)).take (D.size T)=(xs.drop (j*D.size T)).take (D.size T):=by
   rw[List.drop_take,List.take_take,Nat.min_eq_left (by omega)]
  rw[e];exact this
theorem v16{T:S.C}{xs:List Value}{l:List (S.car T)}(hE:Els D σ T xs l)(m:Nat):Els D σ T (xs.drop (m*D.size T)) (l.drop m):=by
 refine⟨by rw[List.length_drop,hE.1,List.length_drop,Nat.sub_mul],fun j x hx=> ?_⟩
 rw[List.getElem?_drop] at hx
 have:=hE.2 (m+j) x hx
 rw[List.drop_drop,←Nat.add_mul];exact this
theorem v5q{T:S.C}{el:TypeId}{a:Option Addr}{cap c d:Nat}{xs:List Value}{l:List (S.car T)}(hok:(vec (.slice a l.length cap) el (D.size T) l.length xs).ok w)(hE:Els D σ T xs l)(hcd:c<=d)(hd:d<=l.length):
  Src D σ w T (.slice (if cap=c then a else a.map (·.add (c*D.size T))) (d - c) (cap - c)) ((l.take d).drop c):=by
 have hlen:((l.take d).drop c).length=d - c:=by rw[List.length_drop,List.length_take];omega
 rcases (Hg hok).2 with ⟨hv,h0⟩|⟨g,cap',hv,hc,_⟩
 ·obtain⟨rfl,_,rfl⟩:a=none/\l.length=0/\cap=0:=by simpa using hv
  have hl:l=[]:=List.eq_nil_of_length_eq_zero h0
  subst hl
  exact⟨none,0 - c,by rw[hlen];congr 1;split<;>rfl,.inl ⟨rfl,by simp⟩⟩
 ·obtain⟨rfl,rfl⟩:a=some ⟨g,0,none⟩/\cap=cap':=by simpa using hv
  have hrow:=z4p hok
  by_cases hcc:cap=c
  ·have:d=c:=by omega
   subst this
   rw[if_pos hcc]
   have hnil:(l.take d).drop d=[]:=List.eq_nil_of_length_eq_zero (by rw[hlen];omega)
   rw[hnil]
   exact⟨_,_,by rw[Nat.sub_self];rfl,.inr ⟨_,[],rfl,fun j u hj=>by simp at hj,by simp,fun i x hx=>by simp at hx⟩⟩
  ·rw[if_neg hcc]
   refine⟨some ((⟨g,0,none⟩:Addr).add (c*D.size T)),cap - c,by rw[hlen];rfl,.inr ⟨_,(xs.take (d*D.size T)).drop (c*D.size T),rfl,fun j u hj=> ?_,v16 (w39 hE hd) c⟩⟩
   rw[q24]
   rw[List.getElem?_drop,List.getElem?_take] at hj
   split at hj
   ·exact hrow _ u hj
   ·cases hj
theorem v5r{el:TypeId}{T:S.C}{s s':SV S}{o:Nat}{l:List (S.car T)}{a b c d:Int}(h:cutQ D el T ob s s'=some (o,l,a,b,c,d)):s= .cut o (D.size T) a b/\s'= .cut o (D.size T) c d/\ob o=some (.vec el T l):=by
 unfold cutQ at h
 split at h
 case h_2=>cases h
 rename_i o1 s1 a1 b1 o2 s2 c2 d2
 cases hq:Nat.beq o1 o2 && Nat.beq s1 (D.size T) && Nat.beq s2 (D.size T) with
 |false=>rw[hq] at h;cases h
 |true=>
  rw[hq] at h
  simp only[cond_true] at h
  obtain⟨hq,hq3⟩:=Qu hq
  obtain⟨hq1,hq2⟩:=Qu hq
  have e1:=Nat.eq_of_beq_eq_true hq1
  have e2:=Nat.eq_of_beq_eq_true hq2
  have e3:=Nat.eq_of_beq_eq_true hq3
  split at h
  case h_2=>cases h
  rename_i e T' l' hob
  cases hb:Nat.beq e el with
  |false=>rw[hb] at h;cases h
  |true=>
   rw[hb] at h
   simp only[cond_true] at h
   have e4:=Nat.eq_of_beq_eq_true hb
   split at h
   case h_2=>cases h
   rename_i hT _
   subst hT
   cases h
   exact⟨by rw[e2],by rw[←e1,e3],by rw[hob,e4]⟩
theorem v17{args:Array Operand}{ts:Array TypeId}(hP:D.OkP P)(hnx:ν nx=none)(k:Kn D ν σ n f w e ob lkc oh)(h:U1 P D e ob nx (.call ⟨.builtin .append,args,ts⟩) K):q9g P D ν σ w ob lkc nx (ev n f) (.call ⟨.builtin .append,args,ts⟩) K:=by
 have hD:=hP.ok
 simp only[U1] at h
 split at h
 case h_2=>exact h.elim
 rename_i x y t t' ha ht
 have ha':args= #[x,y]:=by apply Array.ext';simpa using ha
 have ht':ts= #[t,t']:=by apply Array.ext';simpa using ht
 obtain⟨htt,h0⟩:=Jc h
 clear h
 have htt:=Nat.eq_of_beq_eq_true htt
 subst htt
 have h:=h0
 clear h0
 split at h
 case h_2=>exact h.elim
 rename_i el hu
 split at h
 case h_2=>exact h.elim
 rename_i T i hcode hi
 obtain⟨hc,h⟩:=Jc h
 obtain⟨hc,hbytes⟩:=Qu hc
 obtain⟨hc,hz⟩:=Qu hc
 obtain⟨hT,hsz⟩:=Qu hc
 have hbytes:=Nat.le_of_ble_eq_true hbytes
 have hsz:=Nat.eq_of_beq_eq_true hsz
 obtain⟨z,hz⟩:=Option.isSome_iff_exists.1 hz
 have hzl:z.cells.size=D.size T:=by rw[←Array.length_toList,(hP.zero _ _ _ _ hcode hi hz σ).1,hD.len]
 split at h
 ·rename_i o l a b c d hcut
  obtain⟨⟨rfl,h0,h1,h2,h3⟩,hsm,hfin⟩:=h
  obtain⟨hxe,hye,hob⟩:=v5r hcut
  subst ha'
  refine⟨_,_,_,[(o,.vec el T l)],hfin,rfl,by simp,by simpa using hob,fun ins ho hS oo hoo=> ?_⟩
  match ins,ho with
  |[m],ho=>
   obtain⟨v,xs,hν,hm,hE,hl⟩:=ho.1
   subst hm
   have hok:=hS.get (i:=0) rfl
   obtain⟨ad,cap,hv,hcap⟩:=j6h hok
   subst hv
   have kx:=k.e x
   have ky:=k.e y
   rw[hxe] at kx
   rw[hye] at ky
   generalize hvx:ev n f x=vx at kx
   generalize hvy:ev n f y=vy at ky
   cases kx with
   |cut _ _ _ _ a1 len1 cap1 hν1 _ _=>
   cases ky with
   |cut _ _ _ _ a2 len2 cap2 hν2 _ _=>
   rw[hν] at hν1 hν2
   cases hν1;cases hν2
   have hkb:b.toNat<=l.length:=by omega
   have hxv:ev n f x= .slice ad b.toNat cap:=by
    rw[hvx]
    simp only[Int.toNat_zero,Nat.zero_mul,Nat.sub_zero]
    congr 1
    split
    ·rfl
    ·cases ad with
     |none=>rfl
     |some q=>simp[Addr.add]
   have htk:(vec (.slice ad b.toNat cap) el (D.size T) (l.take b.toNat).length (xs.take (b.toNat*D.size T))).ok w:=by
    rw[List.length_take,Nat.min_eq_left hkb];exact j8q hok hkb
   obtain⟨v',w',xs',hrun,hE',hok',hk,hf⟩:=z5w (P:=P) hD hu hi hz hsz hzl hbytes (w39 hE hkb) htk (v5q hok hE (show c.toNat<=d.toNat by omega) (by omega)) hsm hxv hvy ht' hoo
   have hown:(Value.slice ad b.toNat cap).ownBlock=(Value.slice ad l.length cap).ownBlock:=by cases ad<;>rfl
   rw[hown] at hk hf
   exact⟨w',σ,ν.add nx v',[vec v' el (D.size T) _ xs'],_,hrun,Nm.add_ext hnx,Nm.add_new,hS.step (i:=0) rfl hk hok' hf rfl hS.view.none_of_ge,⟨⟨v',xs',Nm.add_self,rfl,hE',by unfold Sml at hsm;omega⟩,trivial⟩,⟨v',rfl,.hnd nx v' Nm.add_self (q9d hok')⟩⟩
 split at h
 case h_2=>exact h.elim
 rename_i a l b l' hown hsrc
 obtain⟨hne,hsm,hfin⟩:=Jc h
 clear h
 subst ha'
 have kx:=k.e x
 have ky:=k.e y
 have h47:(l++l').length<=140737488355328:=by unfold Sml at hsm;omega
 have hcase:(b=[]/\(View σ w->Src D σ w T (ev n f y) l'))∨ ∃o',e y= .hnd o'/\b=[o']/\ob o'=some (.vec el T l'):=by
  rcases v5p hsrc with ⟨hye,rfl,rfl⟩|⟨hye,rfl⟩|⟨o',hye,rfl,hob'⟩|⟨o',hye,rfl,hob'⟩
  ·exact .inl ⟨rfl,fun _=>⟨none,0,q9f (hye▸ky),.inl ⟨rfl,rfl⟩⟩⟩
  ·exact .inl ⟨rfl,fun hV=>v4h hD hV (w72 (hye▸ky))⟩
  ·exact .inr ⟨o',hye,rfl,hob'⟩
  ·refine .inl ⟨rfl,fun hV=> ?_⟩
   obtain⟨hR,_⟩:=k.o _ _ hob'
   obtain⟨v',hν',_,hr⟩:=hR
   have hyv:ev n f y=v':=Vq (hye▸ky) hν'
   rw[hyv]
   exact v4h hD hV hr
 clear hsrc
 rcases z7t hown with ⟨hxe,rfl,rfl⟩|⟨o,hxe,rfl,hob⟩
 ·
  have hxv:ev n f x= .slice none 0 0:=q9f (hxe▸kx)
  have hnil: ∀w:World,(vec (.slice none 0 0) el (D.size T) ([]:List (S.car T)).length []).ok w:=fun w=>World.ownsRow_nil w 0 el (D.size T)
  have hE0:Els D σ T [] ([]:List (S.car T)):=⟨by simp,fun i x hx=>by simp at hx⟩
  rcases hcase with ⟨rfl,hs⟩|⟨o',hye,rfl,hob'⟩
  ·refine⟨_,_,_,[],hfin,rfl,List.nodup_nil,by simp,fun ins ho hS oo hoo=> ?_⟩
   cases ins with
   |cons=>exact ho.elim
   |nil=>
    obtain⟨v',w',xs',hrun,hE',hok',hk,hf⟩:=z5w (P:=P) hD hu hi hz hsz hzl hbytes hE0 (hnil w) (hs hS.view) hsm hxv rfl ht' hoo
    exact⟨w',σ,ν.add nx v',[vec v' el (D.size T) _ xs'],_,hrun,Nm.add_ext hnx,Nm.add_new,hS.add hk hok' (fun b hb=>(hf b hb).resolve_left (by intro h;cases h)),⟨⟨v',xs',Nm.add_self,rfl,hE',h47⟩,trivial⟩,⟨v',rfl,.hnd nx v' Nm.add_self (q9d hok')⟩⟩
  ·refine⟨_,_,_,[(o',.vec el T l')],hfin,rfl,by simp,by simpa using hob',fun ins ho hS oo hoo=> ?_⟩
   match ins,ho with
   |[m],ho=>
    obtain⟨vy,ys,hνy,hm,hEy,hly⟩:=ho.1
    subst hm
    have hs:Src D σ w T (ev n f y) l':=by
     have hyv:ev n f y=vy:=Vq (hye▸ky) hνy
     rw[hyv]
     exact w8c (hS.get (i:=0) rfl) hEy
    obtain⟨v',w',xs',hrun,hE',hok',hk,hf⟩:=z5w (P:=P) hD hu hi hz hsz hzl hbytes hE0 (hnil w) hs hsm hxv rfl ht' hoo
    exact⟨w',σ,ν.add nx v',[vec v' el (D.size T) _ xs',_],_,hrun,Nm.add_ext hnx,Nm.add_new,hS.add hk hok' (fun b hb=>(hf b hb).resolve_left (by intro h;cases h)),
     ⟨⟨v',xs',Nm.add_self,rfl,hE',h47⟩,⟨vy,ys,Nm.add_ext hnx _ _ hνy,rfl,hEy,hly⟩,trivial⟩,⟨v',rfl,.hnd nx v' Nm.add_self (q9d hok')⟩⟩
 ·
  rcases hcase with ⟨rfl,hs⟩|⟨o',hye,rfl,hob'⟩
  ·refine⟨_,_,_,[(o,.vec el T l)],hfin,rfl,by simp,by simpa using hob,fun ins ho hS oo hoo=> ?_⟩
   match ins,ho with
   |[m],ho=>
    obtain⟨vx,xs,hνx,hm,hEx,hlx⟩:=ho.1
    subst hm
    obtain⟨v',w',xs',hrun,hE',hok',hk,hf⟩:=z5w (P:=P) hD hu hi hz hsz hzl hbytes hEx (hS.get (i:=0) rfl) (hs hS.view) hsm (Vq (hxe▸kx) hνx) rfl ht' hoo
    exact⟨w',σ,ν.add nx v',[vec v' el (D.size T) _ xs'],_,hrun,Nm.add_ext hnx,Nm.add_new,hS.step (i:=0) rfl hk hok' hf rfl hS.view.none_of_ge,⟨⟨v',xs',Nm.add_self,rfl,hE',h47⟩,trivial⟩,⟨v',rfl,.hnd nx v' Nm.add_self (q9d hok')⟩⟩
  ·have hoo':o≠o':=by
    intro he
    subst he
    simp at hne
   refine⟨_,_,_,[(o,.vec el T l),(o',.vec el T l')],hfin,rfl,by simpa using hoo',by simpa using ⟨hob,hob'⟩,fun ins ho hS oo hoo=> ?_⟩
   match ins,ho with
   |[m,m'],ho=>
    obtain⟨vx,xs,hνx,hm,hEx,hlx⟩:=ho.1
    obtain⟨vy,ys,hνy,hm',hEy,hly⟩:=ho.2.1
    subst hm hm'
    have hs:Src D σ w T (ev n f y) l':=by
     have hyv:ev n f y=vy:=Vq (hye▸ky) hνy
     rw[hyv]
     exact w8c (hS.get (i:=1) rfl) hEy
    obtain⟨v',w',xs',hrun,hE',hok',hk,hf⟩:=z5w (P:=P) hD hu hi hz hsz hzl hbytes hEx (hS.get (i:=0) rfl) hs hsm (Vq (hxe▸kx) hνx) rfl ht' hoo
    exact⟨w',σ,ν.add nx v',[vec v' el (D.size T) _ xs',_],_,hrun,Nm.add_ext hnx,Nm.add_new,hS.step (i:=0) rfl hk hok' hf rfl hS.view.none_of_ge,
     ⟨⟨v',xs',Nm.add_self,rfl,hE',h47⟩,⟨vy,ys,Nm.add_ext hnx _ _ hνy,rfl,hEy,hly⟩,trivial⟩,⟨v',rfl,.hnd nx v' Nm.add_self (q9d hok')⟩⟩
theorem v18{t:TypeId}{x lo:Operand}{hi:Option Operand}(hP:D.OkP P)(k:Kn D ν σ n f w e ob lkc oh)(h:U1 P D e ob nx (.slice t x (some lo) hi none) K):q9g P D ν σ w ob lkc nx (ev n f) (.slice t x (some lo) hi none) K:=by
 have hD:=hP.ok
 simp only[U1] at h
 split at h
 case h_2=>exact h.elim
 rename_i el o hu hxe
 split at h
 case h_2=>exact h.elim
 rename_i ety T l hob
 obtain⟨hc,h⟩:=Jc h
 obtain⟨hT,hsz⟩:=Qu hc
 have hsz:=Nat.eq_of_beq_eq_true hsz
 split at h
 case h_2=>exact h.elim
 rename_i a b hlo hhi
 obtain⟨⟨h0,h1,h2⟩,h⟩:=h
 have hlv:=j1m k hlo
 have hhv:(hi=none/\b=((l.length:Nat):Int))∨ ∃r,hi=some r/\ev n f r= .int .i64 b:=by
  cases hi with
  |none=>exact .inl ⟨rfl,(Option.some.inj hhi).symm⟩
  |some r=>exact .inr ⟨r,rfl,j1m k hhi⟩
 refine⟨_,_,_,[(o,.vec ety T l)],h,rfl,by simp,by simpa using hob,fun ins ho hS oo hoo=> ?_⟩
 match ins,ho with
 |[m],ho=>
  obtain⟨v,xs,hν,hm,hE,hl⟩:=ho.1
  subst hm
  have hxv:=Vq (hxe▸k.e x) hν
  obtain⟨σ1,hS1,hs1,hrep⟩:=z7s (ms:=[]) hD hS hE hl
  have hR:=hrep.toRSl hD
  obtain⟨a',cap,hv,hcap,_⟩:=id hR
  rw[hv] at hR
  have hb:(Instr.sliceBounds true l.length cap (some (ev n f lo)) (hi.map (ev n f)) none).run P w= .ok (a.toNat,b.toNat,cap) w:=by
   have e1:b<=(cap:Int):=by omega
   have e2:0<=b:=by omega
   have e3:max b 0=b:=by omega
   clear hR hv hrep hS1
   rcases hhv with ⟨rfl,rfl⟩|⟨r,rfl,hr⟩<;>clear hhi hlo<;>simp_all [Instr.sliceBounds,Instr.sliceBound,asIntOf]
  have h3:=RSl.drop' (RSl.take hR b.toNat (by omega)) a.toNat (by simp only[List.length_take];omega)
  have hrun: ∃u,(execOp (ev n f) oo).run P w= .ok (.value u) w/\RSl (D.size T) (ElF D T) σ1 u ((l.take b.toNat).drop a.toNat):=
   ⟨_,by simp[execOp,hoo,hxv,hv,Instr.sliceAt,run_underlying hu,Instr.slice,hb,Vg hT,hsz],h3⟩
  obtain⟨u,hrun,h4⟩:=hrun
  exact⟨w,σ1,ν,[triv],.value u,hrun,Ext.refl _,fun m u h=> .inl h,hS1,⟨⟨v,hν,rfl,hrep⟩,trivial⟩,⟨u,rfl,.f (RepF.ofRSl hD h4)⟩⟩
theorem j5i{f:Nat->SV S}: ∀{l:List (SV S)} {i:Nat} {q:List (FV S)×List Nat},toFs (fun _=>none) l=some q->resL f i l=l
 |[],_,_,_=>rfl
 |s::l,i,q,h=>by
  simp only[toFs] at h
  cases h1:toF (fun _=>none) s with
  |none=>rw[h1] at h;cases h
  |some a=>
   cases h2:toFs (fun _=>none) l with
   |none=>rw[h1,h2] at h;cases h
   |some b=>
    have:=j5i (f:=f) (i:=i+1) h2
    cases s<;>first|(simp only[resL,this];done)|cases h1
theorem w4a(hD:D.Ok){T:S.C}(h1:D.size T=1): ∀{xs:List (FV S)} {cs:List Value} {ys:List (S.car T)},RowF D σ cs xs->bldL D T xs=some ys->Els D σ T cs ys
 |[],cs,ys,hr,hb=>by
  cases hb
  have:cs=[]:=List.eq_nil_of_length_eq_zero hr.1
  subst this
  exact⟨by simp,fun i x hx=>by cases hx⟩
 |x::xs,cs,ys,hr,hb=>by
  cases cs with
  |nil=>have:=hr.1;cases this
  |cons c cs=>
   simp only[bldL] at hb
   split at hb
   case h_2=>cases hb
   rename_i y ys' hy hys
   cases hb
   have ih:=w4a hD h1 (cs:=cs) (ys:=ys') ⟨by have:=hr.1;simpa using this,fun j v s hj hs=>hr.2 (j+1) v s (by simpa using hj) (by simpa using hs)⟩ hys
   refine⟨by have:=ih.1;rw[h1] at this⊢;simp only[List.length_cons];omega,fun i z hz=> ?_⟩
   cases i with
   |zero=>
    cases hz
    rw[h1]
    exact hD.bld T [x] y σ [c] hy ⟨rfl,fun j v s hj hs=>by
     cases j with
     |zero=>cases hj;cases hs;exact hr.2 0 _ _ rfl rfl
     |succ j=>cases hj⟩
   |succ i=>
    have:=ih.2 i z (by simpa using hz)
    rw[h1] at this⊢
    simpa using this
theorem v19{t:TypeId}{x:Operand}(hP:D.OkP P)(k:Kn D ν σ n f w e ob lkc oh)(h:U1 P D e ob nx (.slice t x none none none) K):q9g P D ν σ w ob lkc nx (ev n f) (.slice t x none none none) K:=by
 have hD:=hP.ok
 simp only[U1] at h
 split at h
 case h_2=>exact h.elim
 rename_i N el o hu hxe
 split at h
 case h_2=>exact h.elim
 rename_i ty l T hob hcode
 obtain⟨hc,h⟩:=Jc h
 obtain⟨hc,hN⟩:=Qu hc
 obtain⟨hc,hlN⟩:=Qu hc
 obtain⟨hc,hT⟩:=Qu hc
 obtain⟨hs1,hsz⟩:=Qu hc
 have hs1:=Nat.eq_of_beq_eq_true hs1
 have hsz:=Nat.eq_of_beq_eq_true hsz
 have hlN:=Nat.eq_of_beq_eq_true hlN
 have hN:=Nat.le_of_ble_eq_true hN
 obtain⟨xs,hxs,h⟩:=Qf h
 obtain⟨ys,hys,h⟩:=Qf h
 have hpl:toFs (fun _=>none) l=some (xs,[]):=by
  simp only[v4d] at hxs
  split at hxs
  ·rename_i hq;cases hxs;exact hq
  ·cases hxs
 refine⟨_,_,_,[(o,.cells ty l)],h,rfl,by simp,by simpa using hob,fun ins ho hS oo hoo=> ?_⟩
 match ins,ho with
 |[m],ho=>
  obtain⟨b,cs,hν,hm,hR⟩:=ho.1
  subst hm
  rw[j5i hpl] at hR
  have hxv:ev n f x= .pointer (some ⟨b,0,none⟩):=by
   have hx:=k.e x
   rw[hxe] at hx
   generalize ev n f x=vx at hx
   cases hx with
   |ref _ _ b' h'=>rw[hν] at h';cases h';rfl
  have hF:RowF D σ cs xs:=z5t (oh:=fun _=>triv) (lkc:=lkc) hD (fun o a h=>by cases h) hR hpl
  have hrow:=q2c (hS.get (i:=0) rfl)
  obtain⟨σ1,hS1,hs,hfz⟩:=hS.freeze' (i:=0) rfl rfl
  have hE:=(w4a hD hs1 hF hys).mono hs
  have hlen:ys.length=N:=by have:=hE.1;rw[hs1] at this;have:=hR.1;omega
  have hrep:RSl (D.size T) (ElF D T) σ1 (.slice (some ⟨b,0,none⟩) ys.length ys.length) ys:=by
   refine⟨some ⟨b,0,none⟩,ys.length,rfl,Nat.le_refl _,by omega,fun i y hy=>⟨⟨b,0,none⟩,(cs.drop (i*D.size T)).take (D.size T),rfl,?_,?_,hE.2 i y hy⟩⟩
   ·rw[(hE.2 i y hy).1,hD.len]
   ·refine VRow.part ?_ rfl
    intro j u hj
    have hc:=hrow j u hj
    rw[Jf] at hc⊢
    unfold Hv.cell
    rw[hfz b rfl]
    exact hc
  refine⟨w,σ1,ν,[],.value (.slice (some ⟨b,0,none⟩) N N),?_,Ext.refl _,fun m u h=> .inl h,hS1,trivial,⟨_,rfl,.f (RepF.ofRSl hD (hlen▸hrep))⟩⟩
  simp[execOp,hoo,hxv,Instr.sliceAt,run_underlying hu,Instr.sureAddr,Instr.sliceBounds,Vg hT,hsz]
  exact fun _=>by rw[Jf]
theorem v5s{t:TypeId}{x r:Operand}(hP:D.OkP P)(hnx:ν nx=none)(k:Kn D ν σ n f w e ob lkc oh)(h:U1 P D e ob nx (.slice t x none (some r) none) K):q9g P D ν σ w ob lkc nx (ev n f) (.slice t x none (some r) none) K:=by
 have hD:=hP.ok
 simp only[U1] at h
 split at h
 case h_2=>exact h.elim
 rename_i el o i hu hxe hri
 split at h
 case h_2=>exact h.elim
 rename_i ety T l hob
 obtain⟨hc,⟨h0,h1⟩,h⟩:=Jc h
 obtain⟨hc,_⟩:=Qu hc
 obtain⟨hT,hsz⟩:=Qu hc
 have hsz:=Nat.eq_of_beq_eq_true hsz
 have hrv:=j1m k hri
 refine⟨_,_,_,[(o,.vec ety T l)],h,rfl,by simp,by simpa using hob,fun ins ho hS oo hoo=> ?_⟩
 match ins,ho with
 |[m],ho=>
  obtain⟨v,xs,hν,hm,hE,hl⟩:=ho.1
  subst hm
  have hxv:=Vq (hxe▸k.e x) hν
  have hok:=hS.get (i:=0) rfl
  obtain⟨a,cap,hv,hcap⟩:=j6h hok
  subst hv
  have hk:i.toNat<=l.length:=by omega
  have hpos:=hD.pos T
  have hrun:(execOp (ev n f) oo).run P w= .ok (.value (.slice a i.toNat cap)) w:=by
   have e1:i=((i.toNat:Nat):Int):=by omega
   have hb:(Instr.sliceBounds true l.length cap none (some (ev n f r)) none).run P w= .ok (0,i.toNat,cap) w:=by
    have e2:i<=(cap:Int):=by omega
    have e3:max i 0=i:=by omega
    simp[Instr.sliceBounds,Instr.sliceBound,asIntOf,hrv,h0,e2]
   simp[execOp,hoo,hxv,Instr.sliceAt,run_underlying hu,Instr.slice,hb,Vg hT]
   cases a with
   |none=>simp
   |some ad=>simp[Addr.add]
  have htk:(vec (.slice a i.toNat cap) ety (D.size T) i.toNat (xs.take (i.toNat*D.size T))).ok w:=j8q hok hk
  refine⟨w,σ,ν.add nx (.slice a i.toNat cap),[vec (.slice a i.toNat cap) ety (D.size T) (l.take i.toNat).length (xs.take (i.toNat*D.size T))],_,hrun,Nm.add_ext hnx,Nm.add_new,?_,⟨⟨_,_,Nm.add_self,rfl,?_,?_⟩,trivial⟩,⟨_,rfl,.hnd nx _ Nm.add_self rfl⟩⟩
  ·have hlen:(l.take i.toNat).length=i.toNat:=by rw[List.length_take];omega
   rw[hlen]
   exact j34 hS (Keeps.refl _ _) htk (by cases a<;>rfl)
  ·refine⟨?_,fun j x hx=> ?_⟩
   ·rw[List.length_take,hE.1,List.length_take]
    have:i.toNat*D.size T<=l.length*D.size T:=Nat.mul_le_mul_right _ hk
    rw[Nat.min_eq_left this,Nat.min_eq_left hk]
   ·rw[List.getElem?_take] at hx
    split at hx
    case isFalse=>cases hx
    rename_i hj
    have:=hE.2 j x hx
    have h3:(j+1)*D.size T<=i.toNat*D.size T:=Nat.mul_le_mul_right _ hj
    rw[Nat.add_mul,Nat.one_mul] at h3
    have e:((xs.take (i.toNat*D.size T)).drop (j*D.size T)).take (D.size T)=(xs.drop (j*D.size T)).take (D.size T):=by
     rw[List.drop_take,List.take_take,Nat.min_eq_left (by omega)]
    rw[e];exact this
  ·rw[List.length_take];omega
theorem v5t{t:TypeId}{x:Operand}(hP:D.OkP P)(hnx:ν nx=none)(k:Kn D ν σ n f w e ob lkc oh)(h:U1 P D e ob nx (.range t x) K):q9g P D ν σ w ob lkc nx (ev n f) (.range t x) K:=by
 simp only[U1] at h
 split at h
 case h_3=>exact h.elim
 case h_2=>
  rename_i s hmc hx
  split at h
  case h_2=>exact h.elim
  rename_i hu
  have hxv:ev n f x= .string s:=by
   have hx':=k.e x
   rw[hx] at hx'
   generalize ev n f x=u at hx'
   cases hx' with
   |f h'=>cases h';rfl
  refine⟨_,_,_,[],h,rfl,List.nodup_nil,by simp,fun ins ho hS oo hoo=> ?_⟩
  cases ins with
  |cons=>exact ho.elim
  |nil=>
   exact⟨w.alloc (.stringIter s 0),σ,ν.add nx (.pointer (some ⟨w.heap.size,0,none⟩)),[sitr w.heap.size s 0],.value (.pointer (some ⟨w.heap.size,0,none⟩)),by simp[execOp,hoo,hxv,Instr.range,Sem.run_bind,run_underlying hu],Nm.add_ext hnx,Nm.add_new,
    hS.add (U7 w _) (heap_alloc_new _ _) (by rintro k ⟨⟩;exact Nat.le_refl _),⟨⟨_,Nm.add_self,rfl⟩,trivial⟩,⟨_,rfl,.ref nx 0 _ Nm.add_self⟩⟩
 rename_i Kc V o hmc hx
 obtain⟨kt,et,hu,hK,hkey,_⟩:=hP.map _ _ _ hmc
 split at h
 case h_2=>exact h.elim
 rename_i K' V' F hob
 obtain⟨e1,e2,h⟩:=q5i h
 subst e1 e2
 obtain⟨⟨b,mm,hν,hh,hF⟩,hok⟩:=k.o o _ hob
 rw[hh] at hok
 obtain⟨es,clock,k1,k2,k3,k4⟩:=hok
 obtain⟨ks,hn,hks⟩:=y0n k2 k4.1 hK.inj
 have hks':Keys F ks:=⟨hn,fun q=>by rw[hks q,k3 q,ORel.isSome (hF q)]⟩
 have hxv:ev n f x= .map (some b):=Vq (hx▸k.e x) hν
 refine⟨_,_,_,[(o,.map K' V' F)],h ks hks',rfl,by simp,by simpa using hob,fun ins ho hS oo hoo=> ?_⟩
 match ins,ho with
 |[mo],ho=>
  obtain⟨b',mm',hν',hmo,hF'⟩:=ho.1
  rw[hν] at hν'
  cases hν'
  subst hmo
  obtain⟨es',clock',j1,j2,j3,j4⟩:=hS.get (i:=0) rfl
  obtain⟨σ1,hS1,hs1,hb1⟩:=hS.freeze' (i:=0) rfl rfl
  have hb2:σ1 b=some (.map es' clock'):=(hb1 b rfl).trans j1
  refine⟨w.alloc (.mapIter (some b) clock' #[] clock'),σ1,ν.add nx (.pointer (some ⟨w.heap.size,0,none⟩)),_,.value (.pointer (some ⟨w.heap.size,0,none⟩)),?_,Nm.add_ext hnx,Nm.add_new,
   hS1.add (o:=itrK (kenc D K') w.heap.size b es' clock' [] none) (U7 w _) ⟨#[],heap_alloc_new _ _,by simp,by simp⟩ (by rintro k ⟨⟩;exact Nat.le_refl _),
   ⟨⟨w.heap.size,b,es',clock',none,Nm.add_self,rfl,hb2,j2,j4,fun q=> ?_,hkey,hK.inj,by simp⟩,trivial⟩,⟨_,rfl,.ref nx 0 _ Nm.add_self⟩⟩
  ·simp[execOp,hoo,hxv,Instr.range,Sem.run_bind,run_underlying hu,MapKept.run_getObj_map j1]
  ·rw[j3 q]
   exact (hF' q).imp fun v y h=>h.mono hs1
theorem v8j{x:Operand}(k:Kn D ν σ n f w e ob lkc oh)(h:U1 P D e ob nx (.next x false) K)(hV:View σ w):q9g P D ν σ w ob lkc nx (ev n f) (.next x false) K:=by
 simp only[U1] at h
 split at h
 case h_2=>exact h.elim
 rename_i o hx
 split at h
 case h_2=>exact h.elim
 rename_i Kc V F done cur hob
 obtain⟨⟨r,b,es,clock,cv,hν,hh,hb,hK,hM,hF,hkey,hinj,_⟩,hok⟩:=k.o o _ hob
 rw[hh] at hok
 have hxv:ev n f x= .pointer (some ⟨r,0,none⟩):=by
  have hx':=k.e x
  rw[hx] at hx'
  generalize ev n f x=u at hx'
  cases hx' with
  |ref _ _ b' h'=>rw[hν] at h';cases h';rfl
 have same: ∀m,ORep D ν σ lkc o (.iter Kc V F done cur) m->m.ok w-> ∃cv',m=itrK (kenc D Kc) r b es clock done cv':=by
  rintro m ⟨r',b',es',clock',cv',hν',hm,hb',_⟩ hmo
  rw[hν] at hν'
  cases hν'
  subst hm
  obtain⟨s1,a1,_⟩:=hok
  obtain⟨s2,a2,_⟩:=hmo
  rw[a1] at a2
  cases a2
  rw[hb] at hb'
  cases hb'
  exact⟨cv',rfl⟩
 rcases w7v (P:=P) (ty:=0) hok (hV _ _ hb) hK hM with ⟨h1,h2⟩|⟨ky,v,w1,h1,h2,h3,h4,h5⟩
 ·have hall:v8d F done:=fun q hq=>by
   rw[←ORel.isSome (hF q)] at hq
   obtain⟨v,hv⟩:=Option.isSome_iff_exists.1 hq
   obtain⟨k',hk',he⟩:=h1 q v hv
   rw[hinj _ _ he];exact hk'
  refine⟨_,_,_,[(o,.iter Kc V F done cur)],h.1 hall,rfl,by simp,by simpa using hob,fun ins ho hS oo hoo=> ?_⟩
  match ins,ho with
  |[mo],ho=>
   obtain⟨cv',rfl⟩:=same mo ho.1 (hS.get (i:=0) rfl)
   refine⟨w,σ,ν,_,.value (.tuple #[.bool false]),?_,Ext.refl ν,fun m u hu=> .inl hu,hS,⟨⟨r,b,es,clock,cv',hν,rfl,hb,hK,hM,hF,hkey,hinj,by simp⟩,trivial⟩,⟨_,rfl,.tup [.bool false] _ rfl fun j u s hj hs=> ?_⟩⟩
   ·have h2':(Instr.next (.pointer (some ⟨r,0,none⟩)) false oo.type).run P w= .ok (.tuple #[.bool false]) w:=h2
    simp only[execOp,hoo,hxv,Sem.run_bind,h2',Result.andThen_ok];rfl
   ·match j with
    |0=>cases hj;cases hs;exact .lit false
    |j+1=>cases hj
 ·have hFk:=hF ky
  rw[h1] at hFk
  cases hq:F ky with
  |none=>rw[hq] at hFk;exact hFk.elim
  |some y=>
   rw[hq] at hFk
   refine⟨_,_,_,[(o,.iter Kc V F done cur)],h.2 ky y hq h2,rfl,by simp,by simpa using hob,fun ins ho hS oo hoo=> ?_⟩
   match ins,ho with
   |[mo],ho=>
    obtain⟨cv',rfl⟩:=same mo ho.1 (hS.get (i:=0) rfl)
    refine⟨w1,σ,ν,_,.value (.tuple #[.bool true,kenc D Kc ky,v]),?_,Ext.refl ν,fun m u hu=> .inl hu,j34 hS h4 h5 rfl,⟨⟨r,b,es,clock,some (ky,v),hν,rfl,hb,hK,hM,hF,hkey,hinj,fun k' y' hk'=> ?_⟩,trivial⟩,⟨_,rfl,.tup [.bool true,kenc D Kc ky,v] _ rfl fun j u s hj hs=> ?_⟩⟩
    ·have h3':(Instr.next (.pointer (some ⟨r,0,none⟩)) false oo.type).run P w= .ok (.tuple #[.bool true,kenc D Kc ky,v]) w1:=h3
     simp only[execOp,hoo,hxv,Sem.run_bind,h3',Result.andThen_ok];rfl
    ·cases hk';exact⟨v,rfl,hFk⟩
    ·obtain⟨cs,hcs,hv⟩:=hFk
     match j with
     |0=>cases hj;cases hs;exact .lit true
     |1=>cases hj;cases hs;exact j6j (w78 (hkey ky))
     |2=>cases hj;cases hs;rw[hv];exact j6j hcs
     |j+3=>cases hj
theorem j82{w:World}{r:Nat}{s:ByteArray}{pos:Nat}:Keeps [r] w (w.iterAt r s pos):=
 ⟨rfl,rfl,rfl,by simp[World.iterAt],fun j hj hm=>by
  show (w.heap.setIfInBounds r _)[j]? =_
  rw[Array.getElem?_setIfInBounds,if_neg (by intro e;exact hm (by simp[e]))]⟩
theorem v5u{x:Operand}(k:Kn D ν σ n f w e ob lkc oh)(h:U1 P D e ob nx (.next x true) K):q9g P D ν σ w ob lkc nx (ev n f) (.next x true) K:=by
 simp only[U1] at h
 split at h
 case h_2=>exact h.elim
 rename_i o hx
 split at h
 case h_2=>exact h.elim
 rename_i s pos hob
 obtain⟨⟨r,hν,hh⟩,hok⟩:=k.o o _ hob
 rw[hh] at hok
 have hok:w.heap[r]? =some (.stringIter s pos):=hok
 have hxv:ev n f x= .pointer (some ⟨r,0,none⟩):=by
  have hx':=k.e x
  rw[hx] at hx'
  generalize ev n f x=u at hx'
  cases hx' with
  |ref _ _ b' h'=>rw[hν] at h';cases h';rfl
 have same: ∀m,ORep D ν σ lkc o (.siter s pos) m->m=sitr r s pos:=by
  rintro m ⟨r',hν',hm⟩
  rw[hν] at hν'
  cases hν'
  exact hm
 rcases Classical.em (pos<s.size) with hlt|hlt
 ·refine⟨_,_,_,[(o,.siter s pos)],h.1 hlt,rfl,by simp,by simpa using hob,fun ins ho hS oo hoo=> ?_⟩
  match ins,ho with
  |[mo],ho=>
   have:=same mo ho.1
   subst this
   have hlt':r<w.heap.size:=(Array.getElem?_eq_some_iff.1 hok).1
   refine⟨w.iterAt r s (pos+(Utf8.decode s pos).2),σ,ν,[sitr r s (pos+(Utf8.decode s pos).2)],.value (.tuple #[.bool true,.int .i64 pos,.int .i32 (Utf8.decode s pos).1]),?_,Ext.refl ν,fun m u hu=> .inl hu,
    j34 hS j82 ?_ rfl,⟨⟨r,hν,rfl⟩,trivial⟩,⟨_,rfl,.tup [.bool true,.int .i64 pos,.int .i32 (Utf8.decode s pos).1] _ rfl fun j u s hj hs=> ?_⟩⟩
   ·have h3':(Instr.next (.pointer (some ⟨r,0,none⟩)) true oo.type).run P w=_:=Go.Lib.run_next_any_at w r s pos oo.type hok hlt
    simp only[execOp,hoo,hxv,Sem.run_bind,h3',Result.andThen_ok];rfl
   ·show (w.heap.setIfInBounds r _)[r]? =_
    rw[Array.getElem?_setIfInBounds,if_pos rfl,if_pos hlt']
   ·match j with
    |0=>cases hj;cases hs;exact .lit true
    |1=>cases hj;cases hs;exact .f (.int _ _)
    |2=>cases hj;cases hs;exact .f (.int _ _)
    |j+3=>cases hj
 ·refine⟨_,_,_,[(o,.siter s pos)],h.2 hlt,rfl,by simp,by simpa using hob,fun ins ho hS oo hoo=> ?_⟩
  match ins,ho with
  |[mo],ho=>
   have:=same mo ho.1
   subst this
   refine⟨w,σ,ν,[sitr r s pos],.value (.tuple #[.bool false]),?_,Ext.refl ν,fun m u hu=> .inl hu,hS,⟨⟨r,hν,rfl⟩,trivial⟩,⟨_,rfl,.tup [.bool false] _ rfl fun j u s hj hs=> ?_⟩⟩
   ·have h3':(Instr.next (.pointer (some ⟨r,0,none⟩)) true oo.type).run P w=_:=Go.Lib.run_next_end_at w r s pos oo.type hok hlt
    simp only[execOp,hoo,hxv,Sem.run_bind,h3',Result.andThen_ok];rfl
   ·match j with
    |0=>cases hj;cases hs;exact .lit false
    |j+1=>cases hj
theorem w8d{s d:TypeId}{x:Operand}(hP:D.OkP P)(k:Kn D ν σ n f w e ob lkc oh)(hV:View σ w)(h:U1 P D e ob nx (.convert s d x) K):q9g P D ν σ w ob lkc nx (ev n f) (.convert s d x) K:=by
 have hD:=hP.ok
 simp only[U1] at h
 split at h
 ·rename_i a hx h1 h2
  refine⟨_,_,_,[],h,rfl,List.nodup_nil,by simp,fun ins ho hS oo hoo=> ?_⟩
  cases ins with
  |cons=>exact ho.elim
  |nil=>exact⟨w,σ,ν,[],_,by simp[execOp,hoo,U8 (hx▸k.e x),convert,run_underlying h1,run_underlying h2],Ext.refl _,fun m u h=> .inl h,hS,trivial,⟨_,rfl,.f (.str a)⟩⟩
 ·rename_i a el hx h1 h2
  split at h
  case h_2=>exact h.elim
  rename_i T g h3 hb
  obtain⟨hsm,h⟩:=h
  obtain⟨hs1,hg⟩:=hP.bts _ _ hb
  obtain⟨hgl,hgs⟩:=hg a
  refine⟨_,_,_,[],h,rfl,List.nodup_nil,by simp,fun ins ho hS oo hoo=> ?_⟩
  cases ins with
  |cons=>exact ho.elim
  |nil=>
   let w':=Go.Lib.bytesWorld w el a
   let σ':Hv:=fun b=>if b=w.heap.size then w'.heap[b]? else σ b
   have hold: ∀j,j<w.heap.size->w'.heap[j]? =w.heap[j]? :=fun j hj=>Go.Lib.bytesWorld_at_old w el a j hj
   have hsub:Sub σ σ':=fun b o hb=>by
    show (if b=w.heap.size then _ else _)=_
    rw[if_neg (fun he=>by rw[hV.none_of_ge b (by omega)] at hb;cases hb)]
    exact hb
   have hview:View σ' w':=fun b o hb=>by
    change (if b=w.heap.size then w'.heap[b]? else σ b)=some o at hb
    split at hb
    ·exact hb
    ·rw[hold b (lt_of_block (hV b o hb))];exact hV b o hb
   have hsz:w'.heap.size=w.heap.size+1:=Go.Lib.bytesWorld_size w el a
   have hgr:Grow [] σ w σ' w':=⟨⟨rfl,rfl,rfl,by omega,fun j hj _=>hold j hj⟩,hview,hsub,fun b hb _=>if_neg (by omega)⟩
   have hrep:RepF D σ' (.slice (some ⟨w.heap.size,0,none⟩) (g a).length (grownCap w a.size 0 el)) (.sl T (g a)):=by
    refine .sl T (g a) _ _ (fun i _=> .int .u8 (a.data.toList.getD i 0).toNat) (by rw[hgl];exact grownCap_ge _ _ _ _) (by unfold Sml at hsm;omega) (fun i x hx=>⟨_,rfl,fun j hj=> ?_⟩) (fun i x j s hx hj=> ?_)
    ·have hi:i<a.size:=by rw[←hgl];exact Qa hx
     rw[hs1] at hj⊢
     have hj0:j=0:=by omega
     subst hj0
     rw[Jf,Nat.mul_one,Nat.add_zero,Nat.zero_add]
     have hc:=Go.Lib.bytesWorld_cell w el a i hi
     have hb:σ' w.heap.size=w'.heap[w.heap.size]? :=if_pos rfl
     unfold Hv.cell
     simp only
     rw[hb]
     exact hc
    ·rw[hgs i x hx] at hj
     match j with
     |0=>cases hj;exact .int _ _
     |j+1=>cases hj
   refine⟨w',σ',ν,[],.value (.slice (some ⟨w.heap.size,0,none⟩) a.size (grownCap w a.size 0 el)),?_,Ext.refl _,fun m u h=> .inl h,hS.grow hgr,trivial,⟨_,rfl,.f (hgl▸hrep)⟩⟩
   have hr:=Go.Lib.run_convert_string_bytes (P:=P) w s d el a h1 h2 h3
   simp only[execOp,hoo,U8 (hx▸k.e x),Sem.run_bind,hr,Result.andThen_ok]
   rfl
 ·exact h.elim
theorem v8k{o:Op}(hP:D.OkP P)(hnx:ν nx=none)(hV:View σ w)(k:Kn D ν σ n f w e ob lkc oh)(h:U1 P D e ob nx o K):q9g P D ν σ w ob lkc nx (ev n f) o K:=by
 unfold U1 at h
 split at h
 ·exact v5l (e:=e) (f:=f) hP hnx h
 ·exact y0v hnx k h
 ·exact v5n hP k h
 ·exact w8a (e:=e) (f:=f) hnx h
 ·exact w8d hP k hV h
 ·exact j1l hP k h
 ·exact v11 hP k h
 ·exact v13 hP k h
 ·exact j81 hP hnx k h
 ·exact w1m hP hnx k h
 ·exact v17 hP hnx k h
 ·exact v5s hP hnx k h
 ·exact v19 hP k h
 ·exact v18 hP k h
 ·exact v5t hP hnx k h
 ·exact v8j k h hV
 ·exact v5u k h
 ·exact h.elim
end Go.Fx
end
noncomputable section
set_option maxRecDepth 100000
namespace Go.Fx
open Go Go.RowKit Go.Fl Go.Fl.Lk
variable {S:Sig}
inductive Tr(S:Sig):Type where
 |f (x:FV S)
 |same
 |vec (e:TypeId) (T:S.C) (l:List (S.car T))
 |kvec (e:TypeId) (T:S.C) (l:List (S.car T))
 |arr (T:S.C) (N:Nat) (l:List (S.car T))
 |map (K V:S.C) (F:S.car K->Option (S.car V))
 |ptr (ty:TypeId) (l:List (Tr S))
 |agg (l:List (Tr S))
 |el (T:S.C) (x:S.car T)
 |vech (e:TypeId) (T:S.C) (l:List (S.car T)) (k f:Nat) (e2:TypeId) (T2:S.C) (l2:List (S.car T2))
 |fnc (g:Nat)
inductive PK(S:Sig):Type where
 |v
 |c
 |sl (T:S.C)
 |el (T:S.C)
 |own (e:TypeId) (T:S.C)
 |kow (e:TypeId) (T:S.C)
 |map (K V:S.C)
 |ptr (ty:TypeId) (l:List (PK S))
 |agg (l:List (PK S))
 |fnc (g:Nat)
structure Con(S:Sig) where
 pk:List (PK S)
 m:List (Tr S)->(List (Tr S)->List (Tr S)->Prop)->Prop
inductive Kd(S:Sig):Type where
 |int (k:IntKind)
 |bool
 |str
 |sl (T:S.C)
 |own (e:TypeId) (T:S.C)
 |el (T:S.C)
 |map (K V:S.C)
 |arr (ty:TypeId) (T:S.C) (N:Nat)
 |iter (K V:S.C)
 |siter
 |vech (e:TypeId) (T:S.C) (f:Nat)
abbrev Kd.ty:Kd S->Type
 | .int _=>Int
 | .bool=>Bool
 | .str=>ByteArray
 | .sl T=>List (S.car T)
 | .own _ T=>List (S.car T)
 | .el T=>S.car T
 | .map K V=>S.car K->Option (S.car V)
 | .arr _ T _=>List (S.car T)
 | .iter K V=>(S.car K->Option (S.car V))×List (S.car K)
 | .siter=>ByteArray×Nat
 | .vech _ T _=>List (S.car T)×Nat
inductive Pl where
 |slot (j:Nat)
 |cell (o i:Nat)
 |obj (o:Nat)
abbrev Item(S:Sig):=Pl×Kd S
abbrev HL:List (Item S)->Type
 |[]=>Unit
 |i::l=>i.2.ty×HL l
structure Spec(S:Sig) where
 lock:List Nat
 robj:List Nat
 cobj:List (Nat×TypeId×Nat)
 items:List (Item S)
structure Ev(S:Sig) where
 P:Program
 D:Shp S
 con:Nat->Option (Con S)
 inl:Nat->Bool
 plan:Nat->Option (Spec S)
 base:Nat:=0
 alt:Nat->Option (Con S):=fun _=>none
def Ev.at(E:Ev S)(b:Nat):Ev S:={E with base:=b}
def q4t(ro:Ro S)(st:AS S)(t:Nat):SV S:=bif hasN ro.lock t then ro.slots t else st.slots t
def obS(ro:Ro S)(st:AS S)(o:Nat):Option (AO S):=
 match Zb st.objs o with
 |some a=>some a
 |none=>Zb ro.objs o
def evS(n:Nat)(ro:Ro S)(st:AS S):Operand->SV S
 | .tmp t=>bif Nat.blt t n then q4t ro st t else .und
 | .const v=>w1e v
 | .global g=>ro.glob g
 | .func k=> .fn k [] []
def w8e(s:SV S)(k:SV S->Prop):Prop:=
 match s with
 | .f x=>k (.f x)
 | .lit b=>k (.lit b)
 | .pb p d n=>k (.pb p d n)
 | .agg l=>k (.agg l)
 | .tup l=>k (.tup l)
 | .hnd o=>k (.hnd o)
 | .ref o i=>k (.ref o i)
 |s=>k s
theorem j83{s:SV S}{k:SV S->Prop}:w8e s k=k s:=by cases s<;>rfl
def j6m:List (SV S)->(List (SV S)->Prop)->Prop
 |[],k=>k []
 |s::l,k=>w8e s fun s=>j6m l fun l=>k (s::l)
theorem j5j: ∀{l:List (SV S)} {k:List (SV S)->Prop},j6m l k=k l
 |[],_=>rfl
 |s::l,k=>by unfold j6m;rw[j83,j5j]
def w8f(a:AO S)(k:AO S->Prop):Prop:=
 match a with
 | .cells ty l=>j6m l fun l=>k (.cells ty l)
 | .vec e T l=>k (.vec e T l)
 | .frz T l=>k (.frz T l)
 | .map K V F=>k (.map K V F)
 |a=>k a
theorem w8g{a:AO S}{k:AO S->Prop}:w8f a k=k a:=by
 cases a<;>simp only[w8f,j5j]
def j1n:List (Nat×AO S)->(List (Nat×AO S)->Prop)->Prop
 |[],k=>k []
 |(n,a)::l,k=>w8f a fun a=>j1n l fun l=>k ((n,a)::l)
theorem z1h: ∀{l:List (Nat×AO S)} {k:List (Nat×AO S)->Prop},j1n l k=k l
 |[],_=>rfl
 |(_,_)::l,_=>by unfold j1n;rw[w8g,z1h]
def putS(ro:Ro S)(st:AS S)(d:Option Nat)(s:SV S)(k:AS S->Prop):Prop:=
 match d with
 |some d=>bif hasN ro.lock d then False else w8e s fun s=>k {st with slots:=updS st.slots d s}
 |none=>k st
def inRw(st:AS S):List Nat->Bool
 |[]=>true
 |o::l=>(Zb st.objs o).isSome && inRw st l
def toC:SV S->Option (FV S)
 | .f x=>some x
 | .lit b=>some (.bool b)
 | .pb p d false=>some (.bool (@decide p d))
 | .pb p d true=>some (.bool (!@decide p d))
 |_=>none
def v2a(ob:Nat->Option (AO S)):SV S->Option (Tr S×List Nat×List Nat)
 | .agg l=>match toFs ob l with
  |some (xs,b)=>some (.agg (xs.map Tr.f),[],b)
  |none=>none
 | .arr T N l=>some (.arr T N l,[],[])
 |s=>match toF ob s with
  |some (x,b)=>some (.f x,[],b)
  |none=>none
def v2b(ob:Nat->Option (AO S))(T:S.C)(s:SV S):Option (Tr S×List Nat×List Nat):=
 match s with
 | .f .nils=>some (.f (.sl T []),[],[])
 |s=>match toF ob s with
  |some (.sl T' l,b)=>(match S.dec T' T with
   |isTrue h=>some (.f (.sl T (h▸l)),[],b)
   |isFalse _=>none)
  |_=>none
def v5v(D:Shp S)(ob:Nat->Option (AO S))(T:S.C)(s:SV S):Option (Tr S×List Nat×List Nat):=
 match s with
 | .agg l=>(match toFs ob l with
  |some (xs,b)=>(match D.bld T xs with
   |some x=>some (.el T x,[],b)
   |none=>none)
  |none=>none)
 |_=>none
mutual
def gath(D:Shp S)(ob:Nat->Option (AO S))(lkc:Nat->Nat->SV S):PK S->SV S->Option (Tr S×List Nat×List Nat)
 | .v,s=>v2a ob s
 | .sl T,s=>v2b ob T s
 | .el T,s=>v5v D ob T s
 | .c,s=>(toC s).map fun x=>(.f x,[],[])
 | .own e T,s=>match ownQ e T ob s with
  |some (a,l)=>some (.vec e T l,a,[])
  |none=>none
 | .kow e T,s=>match ownQ e T ob s with
  |some ([o],l)=>some (.vec e T l,[o],[])
  |_=>none
 | .map K V,s=>match s with
  | .hnd o=>match ob o with
   |some (.map K' V' F)=>match S.dec K' K,S.dec V' V with
    |isTrue h,isTrue h'=>some (.map K V (h▸h'▸F),[o],[])
    |_,_=>none
   |_=>none
  |_=>none
 | .ptr ty pk,s=>match s with
  | .ref o 0=>match ob o with
   |some (.cells ty' l)=>bif Nat.beq ty ty' then (match z5x D ob lkc pk (resL (lkc o) 0 l) with
    |some (ts,a,b)=>some (.ptr ty ts,o::a,b)
    |none=>none) else none
   |_=>none
  |_=>none
 | .agg pk,s=>match s with
  | .agg l=>match z5x D ob lkc pk l with
   |some (ts,a,b)=>some (.agg ts,a,b)
   |none=>none
  |_=>none
 | .fnc g,s=>match s with
  | .fn g' [] []=>bif Nat.beq g' g then some (.fnc g,[],[]) else none
  |_=>none
def z5x(D:Shp S)(ob:Nat->Option (AO S))(lkc:Nat->Nat->SV S):List (PK S)->List (SV S)->Option (List (Tr S)×List Nat×List Nat)
 |[],[]=>some ([],[],[])
 |p::pk,s::l=>match gath D ob lkc p s,z5x D ob lkc pk l with
  |some (t,a,b),some (ts,a',b')=>some (t::ts,a++a',b++b')
  |_,_=>none
 |_,_=>none
end
mutual
def back(ob os:Nat->Option (AO S))(lkc:Nat->Nat->SV S):PK S->SV S->SV S->SV S->Option (Tr S×List Nat×List Nat)
 | .v,_,_,s=>v2a ob s
 | .sl T,_,_,s=>v2b ob T s
 | .el _,_,_,_=>none
 | .c,i,o,_=>match i,o with
  | .f _,.lk=>some (.same,[],[])
  |_,_=>none
 | .own e T,_,_,s=>match ownQ e T ob s with
  |some (a,l)=>some (.vec e T l,a,[])
  |none=>none
 | .kow e T,i,_,s=>match i,s with
  | .hnd o',.hnd o=>bif Nat.beq o' o then (match ownQ e T ob (.hnd o) with
   |some ([o2],l)=>some (.kvec e T l,[o2],[])
   |_=>none) else none
  |_,_=>none
 | .map K V,i,_,s=>match i,s with
  | .hnd o',.hnd o=>bif Nat.beq o' o then (match ob o with
   |some (.map K' V' F)=>match S.dec K' K,S.dec V' V with
    |isTrue h,isTrue h'=>some (.map K V (h▸h'▸F),[o],[])
    |_,_=>none
   |_=>none) else none
  |_,_=>none
 | .ptr ty pk,i,_,s=>match i,s with
  | .ref o' 0,.ref o 0=>bif Nat.beq o' o then (match os o,ob o with
   |some (.cells _ l0),some (.cells ty' l)=>bif Nat.beq ty ty' then (match w5h ob os lkc pk l0 l (resL (lkc o) 0 l) with
    |some (ts,a,b)=>some (.ptr ty ts,o::a,b)
    |none=>none) else none
   |_,_=>none) else none
  |_,_=>none
 | .agg _,_,_,_=>none
 | .fnc _,_,_,_=>none
def w5h(ob os:Nat->Option (AO S))(lkc:Nat->Nat->SV S):List (PK S)->List (SV S)->List (SV S)->List (SV S)->Option (List (Tr S)×List Nat×List Nat)
 |[],[],[],[]=>some ([],[],[])
 |p::pk,i::is,o::l,s::l'=>match back ob os lkc p i o s,w5h ob os lkc pk is l l' with
  |some (t,a,b),some (ts,a',b')=>some (t::ts,a++a',b++b')
  |_,_=>none
 |_,_,_,_=>none
end
def z9r(ob os:Nat->Option (AO S))(lkc:Nat->Nat->SV S):List (PK S)->List (SV S)->Option (List (Tr S)×List Nat×List Nat)
 |[],[]=>some ([],[],[])
 | .map K V::pk,s::l=>match back ob os lkc (.map K V) s .dead s,z9r ob os lkc pk l with
  |some (t,a,b),some (ts,a',b')=>some (t::ts,a++a',b++b')
  |_,_=>none
 | .ptr ty k::pk,s::l=>match back ob os lkc (.ptr ty k) s .dead s,z9r ob os lkc pk l with
  |some (t,a,b),some (ts,a',b')=>some (t::ts,a++a',b++b')
  |_,_=>none
 |_::pk,_::l=>match z9r ob os lkc pk l with
  |some (ts,a,b)=>some (.same::ts,a,b)
  |none=>none
 |_,_=>none
mutual
def inst(D:Shp S):Tr S->Nat->Option (SV S×List (Nat×AO S)×Nat)
 | .f x,nx=>some (.f x,[],nx)
 | .same,_=>none
 | .vec e T l,nx=>some (.hnd nx,[(nx,.vec e T l)],nx+1)
 | .kvec _ _ _,_=>none
 | .arr T N l,nx=>some (.arr T N l,[],nx)
 | .map K V F,nx=>some (.hnd nx,[(nx,.map K V F)],nx+1)
 | .vech e T l k f e2 T2 l2,nx=>some (.hnd nx,[(nx,.vech e T l k f (.hnd (nx+1))),(nx+1,.vec e2 T2 l2)],nx+2)
 | .fnc g,nx=>some (.fn g [] [],[],nx)
 | .ptr ty ts,nx=>match z9s D ts (nx+1) with
  |some (cs,os,nx')=>some (.ref nx 0,(nx,.cells ty cs)::os,nx')
  |none=>none
 | .el T x,nx=>some (.agg ((D.shape T x).map SV.f),[],nx)
 | .agg ts,nx=>match z9s D ts nx with
  |some (cs,os,nx')=>some (.agg cs,os,nx')
  |none=>none
def z9s(D:Shp S):List (Tr S)->Nat->Option (List (SV S)×List (Nat×AO S)×Nat)
 |[],nx=>some ([],[],nx)
 |t::ts,nx=>match inst D t nx with
  |some (s,a,nx')=>match z9s D ts nx' with
   |some (r,b,nx'')=>some (s::r,a++b,nx'')
   |none=>none
  |none=>none
end
mutual
def upd1(ob:Nat->Option (AO S))(lkc:Nat->Nat->SV S):PK S->SV S->SV S->Tr S->Nat->Option (SV S×List (Nat×AO S)×Nat)
 | .c,o,s,t,nx=>match t with
  | .same=>match o with
   | .lk=>some (.lk,[],nx)
   |_=>(toC s).map fun x=>(.f x,[],nx)
  |_=>none
 | .v,o,_,t,nx=>match o,t with
  | .lk,_=>none
  |_,.f x=>some (.f x,[],nx)
  |_,_=>none
 | .sl _,o,_,t,nx=>match o,t with
  | .lk,_=>none
  |_,.f x=>some (.f x,[],nx)
  |_,_=>none
 | .el _,_,_,_,_=>none
 | .own _ _,o,_,t,nx=>match o,t with
  | .lk,_=>none
  |_,.vec e T l=>some (.hnd nx,[(nx,.vec e T l)],nx+1)
  |_,_=>none
 | .kow _ _,o,s,t,nx=>match s,t with
  | .hnd n,.kvec e T l=>some (match o with| .lk=> .lk|_=> .hnd n,[(n,.vec e T l)],nx)
  |_,_=>none
 | .map _ _,o,s,t,nx=>match s,t with
  | .hnd n,.map K V F=>some (match o with| .lk=> .lk|_=> .hnd n,[(n,.map K V F)],nx)
  |_,_=>none
 | .ptr _ pk,o,s,t,nx=>match s,t with
  | .ref n 0,.ptr ty ts=>match ob n with
   |some (.cells _ l)=>match upds ob lkc pk l (resL (lkc n) 0 l) ts nx with
    |some (cs,os,nx')=>some (match o with| .lk=> .lk|_=> .ref n 0,(n,.cells ty cs)::os,nx')
    |none=>none
   |_=>none
  |_,_=>none
 | .agg _,_,_,_,_=>none
 | .fnc _,_,_,_,_=>none
def upds(ob:Nat->Option (AO S))(lkc:Nat->Nat->SV S):List (PK S)->List (SV S)->List (SV S)->List (Tr S)->Nat->Option (List (SV S)×List (Nat×AO S)×Nat)
 |[],[],[],[],nx=>some ([],[],nx)
 |p::pk,o::l,s::l',t::ts,nx=>match upd1 ob lkc p o s t nx with
  |some (s,a,nx')=>match upds ob lkc pk l l' ts nx' with
   |some (r,b,nx'')=>some (s::r,a++b,nx'')
   |none=>none
  |none=>none
 |_,_,_,_,_=>none
end
def updT(ob:Nat->Option (AO S))(lkc:Nat->Nat->SV S):List (PK S)->List (SV S)->List (Tr S)->Nat->Option (List (Nat×AO S)×Nat)
 |[],[],[],nx=>some ([],nx)
 | .map K V::pk,s::l,t::ts,nx=>match upd1 ob lkc (.map K V) s s t nx with
  |some (_,a,nx')=>match updT ob lkc pk l ts nx' with
   |some (b,nx'')=>some (a++b,nx'')
   |none=>none
  |none=>none
 | .ptr ty k::pk,s::l,t::ts,nx=>match upd1 ob lkc (.ptr ty k) s s t nx with
  |some (_,a,nx')=>match updT ob lkc pk l ts nx' with
   |some (b,nx'')=>some (a++b,nx'')
   |none=>none
  |none=>none
 | .own _ _::pk,s::l,t::ts,nx=>match t with
  | .same=>updT ob lkc pk l ts nx
  | .vec e T l'=>(match s with
   | .hnd o=>(match updT ob lkc pk l ts nx with
    |some (b,nx'')=>some ((o,.vec e T l')::b,nx'')
    |none=>none)
   |_=>none)
  |_=>none
 |_::pk,_::l,t::ts,nx=>match t with
  | .same=>updT ob lkc pk l ts nx
  |_=>none
 |_,_,_,_=>none
def tupS:List (SV S)->SV S
 |[s]=>s
 |l=> .tup l
def v2c:FV S->Bool
 | .sl _ _=>false
 |_=>true
mutual
def v2d(D:Shp S):Tr S->Bool
 | .f x=>v2c x
 | .same=>false
 | .vec _ T _=>D.flat T
 | .kvec _ T _=>D.flat T
 | .arr T _ _=>D.flat T
 | .map K V _=>D.flat K && D.flat V
 | .ptr _ l=>z9a D l
 | .agg l=>z9a D l
 | .el T _=>D.flat T
 | .vech .. =>false
 | .fnc _=>false
def z9a(D:Shp S):List (Tr S)->Bool
 |[]=>true
 |t::l=>v2d D t && z9a D l
end
def j5k(D:Shp S):List (Tr S)->Bool
 |[]=>true
 | .same::l=>j5k D l
 |t::l=>v2d D t && j5k D l
def v2e(ob:Nat->Option (AO S)):List Nat->Option (List (Nat×AO S))
 |[]=>some []
 |o::l=>match ob o,v2e ob l with
  |some a,some r=>some ((o,a)::r)
  |_,_=>none
def v2f(D:Shp S)(ob:Nat->Option (AO S))(rets outs:List (Tr S))(fz:List (Nat×AO S))(fzl:List Nat):List (Nat×AO S):=
 match fzl with
 |[]=>fz
 |l=>bif z9a D rets && j5k D outs then (v2e ob l).getD fz else fz
def q8o:List Nat->Bool
 |[]=>true
 |a::l=> !hasN l a && q8o l
def v5w(D:Shp S)(c:Con S)(ro:Ro S)(st:AS S)(full:List (SV S))(ban:List Nat->Bool)(k:AS S->SV S->Prop):Prop:=
 optK (z5x D (obS ro st) ro.cell c.pk full) fun q=>optK (frzs (obS ro st) q.2.2) fun fz=>
  bif q8o (q.2.1++q.2.2) && inRw st (q.2.1++q.2.2) && ban (q.2.1++q.2.2) then
   c.m q.1 fun rets outs=>optK (updT (obS ro st) ro.cell c.pk full outs st.next) fun a=>optK (z9s D rets a.2) fun r=>
    j1n (r.2.1++(a.1++(v2f D (obS ro st) rets outs fz q.2.2++Bt st.objs (q.2.1++q.2.2)))) fun os=>k {slots:=st.slots,objs:=os,next:=r.2.2} (tupS r.1)
  else False
def j6n(objs:List (Nat×AO S)):List Nat->Option (List (Nat×AO S))
 |[]=>some []
 |o::l=>match Zb objs o,j6n objs l with
  |some a,some r=>some ((o,a)::r)
  |_,_=>none
def j84:List Nat->(List Nat->Prop)->Prop
 |[],k=>k []
 |i::l,k=>j84 l fun l=>k (i::l)
theorem j1o: ∀{l:List Nat} {k:List Nat->Prop},j84 l k=k l
 |[],_=>rfl
 |_::_,_=>by unfold j84;rw[j1o]
mutual
def y0w:SV S->List Nat
 | .ref o _=>[o]
 | .eref _ o _ _=>[o]
 | .aref _ _ o _ _=>[o]
 | .hnd o=>[o]
 | .cut o _ _ _=>[o]
 | .agg l=>w1n l
 | .tup l=>w1n l
 | .fn _ a b=>w1n a++w1n b
 |_=>[]
def w1n:List (SV S)->List Nat
 |[]=>[]
 |s::l=>y0w s++w1n l
end
def j85(ob:Nat->Option (AO S))(lkc:Nat->Nat->SV S):Nat->List Nat->List Nat->List Nat
 |0,_,seen=>seen
 |_+1,[],seen=>seen
 |n+1,o::todo,seen=>bif hasN seen o then j85 ob lkc n todo seen else match ob o with
  |some (.cells _ l)=>j85 ob lkc n (w1n (resL (lkc o) 0 l)++todo) (o::seen)
  |some _=>j85 ob lkc n todo (o::seen)
  |none=>j85 ob lkc n todo seen
def v4i(ro:Ro S)(st:AS S)(full:List (SV S)):List Nat:=(j85 (obS ro st) ro.cell 400 (w1n full) []).filter fun o=>(Zb st.objs o).isSome
def w5i(lz:Bool)(ob:Nat->Option (AO S))(e:Operand->SV S):Op->Bool
 | .alloc _=>true
 | .box _ _=>true
 | .store _ _ _=>true
 | .makeMap _ _=>true
 | .mapUpdate _ _ _ _=>true
 | .insert _ _ _ _=>true
 | .buildSlice _ _ _=>true
 | .makeSlice _ _ _=>true
 | .call ⟨.builtin .append,_,_⟩=>true
 | .call ⟨.builtin .delete,_,_⟩=>true
 | .range _ _=>true
 | .next _ _=>true
 | .slice _ x none (some _) none=>match e x with
  | .hnd o=>match ob o with
   |some (.vec _ _ _)=> !lz
   |_=>false
  |_=>false
 | .slice _ x none none none=>match e x with
  | .ref _ _=>true
  |_=>false
 | .convert _ _ x=>match e x with
  | .f (.str _)=>true
  |_=>false
 | .slice _ x (some _) _ none=>match e x with
  | .hnd o=>match ob o with
   |some (.vec _ _ _)=> !lz
   |_=>false
  |_=>false
 |_=>false
def w8h:Op->Bool
 | .call ⟨.value _,_,_⟩=>true
 |_=>false
def lzE(E:Ev S)(o:Oper):Bool:=match o.dst with
 |some d=>(E.plan (E.base+900000+d)).isSome
 |none=>false
def y0x(E:Ev S)(o:Oper):Bool:=match o.dst with
 |some d=>(E.plan (E.base+950000+d)).isSome
 |none=>false
def v8l(E:Ev S)(o:Oper):Bool:=match o.dst with
 |some d=>(E.plan (E.base+960000+d)).isSome
 |none=>false
def altE(E:Ev S)(o:Oper):Bool:=match o.dst with
 |some d=>(E.plan (E.base+990000+d)).isSome
 |none=>false
def wrpE(E:Ev S)(o:Oper):Bool:=match o.dst with
 |some d=>(E.plan (E.base+980000+d)).isSome
 |none=>false
abbrev InlH(S:Sig):=Nat->List (SV S)->Ro S->AS S->(AS S->SV S->Prop)->Prop
def w5j(E:Ev S)(inlh:InlH S)(n:Nat)(ro:Ro S)(st:AS S)(ban:List Nat->Bool)(o:Oper)(k:List Nat->AS S->Prop):Prop:=
 match o.op with
 | .call ⟨.value f,args,_⟩=>(match evS n ro st f with
  | .fn g first cap=>(match (bif v8l E o then none else bif altE E o then E.alt g else E.con g) with
   |some c=>v5w E.D c ro st (first++args.toList.map (evS n ro st)++cap) ban fun st s=>putS ro st o.dst s (k [])
   |none=>j84 (v4i ro st (first++args.toList.map (evS n ro st)++cap)) fun tk=>optK (j6n st.objs tk) fun tko=>
     bif E.inl g && q8o tk && ban (tk++ro.objs.map (·.1)) then
      inlh g (first++args.toList.map (evS n ro st)++cap) ro {slots:=st.slots,objs:=tko,next:=st.next} fun a s=>
       j1n (a.objs++Bt st.objs tk) fun os=>putS ro {slots:=a.slots,objs:=os,next:=a.next} o.dst s (k []) else False)
  |_=>False)
 |op=>bif w5i (lzE E o) (obS ro st) (evS n ro st) op then
   U1 E.P E.D (evS n ro st) (obS ro st) st.next op fun tl outs sv=>bif inRw st tl && ban tl then
    (match sv with
    |some s=>j1n (outs++Bt st.objs tl) fun os=>putS ro {slots:=st.slots,objs:=os,next:=st.next+1} o.dst s (k [])
    |none=>bif o.dst.isNone then j1n (outs++Bt st.objs tl) fun os=>k [] {slots:=st.slots,objs:=os,next:=st.next+1} else False) else False
  else bif wrpE E o then wrpS (evS n ro st) op fun s=>putS ro st o.dst s (k []) else Jb E.P E.D (evS n ro st) (obS ro st) ro.cell op fun rd s=>putS ro st o.dst s (k rd)
def j86(n:Nat)(ro:Ro S)(ops:Array Oper)(st:AS S)(o:Oper)(yes no:AS S->Prop):Prop:=
 match o.guard with
 |none=>yes st
 |some (j,want)=>match (ops[j]?).bind (·.dst) with
  |none=>False
  |some d=>match evS n ro st (.tmp d) with
   | .lit b=>bif b==want then yes st else no st
   | .und=>no st
   | .f (.bool b)=>Cnd (b=true) (bif want then yes {st with slots:=updS st.slots d (.lit true)} else no {st with slots:=updS st.slots d (.lit true)})
     (bif want then no {st with slots:=updS st.slots d (.lit false)} else yes {st with slots:=updS st.slots d (.lit false)})
   | .pb p _ false=>Cnd p (bif want then yes {st with slots:=updS st.slots d (.lit true)} else no {st with slots:=updS st.slots d (.lit true)})
     (bif want then no {st with slots:=updS st.slots d (.lit false)} else yes {st with slots:=updS st.slots d (.lit false)})
   | .pb p _ true=>Cnd p (bif want then no {st with slots:=updS st.slots d (.lit false)} else yes {st with slots:=updS st.slots d (.lit false)})
     (bif want then yes {st with slots:=updS st.slots d (.lit true)} else no {st with slots:=updS st.slots d (.lit true)})
   |_=>False
def v5x:List Nat->Bool:=fun _=>true
def opsS(E:Ev S)(inlh:InlH S)(n:Nat)(ro:Ro S)(ops:Array Oper):List Oper->AS S->(AS S->Prop)->Prop
 |[],st,k=>k st
 |o::l,st,k=>j86 n ro ops st o (fun st=>w5j E inlh n ro st v5x o fun _ st=>opsS E inlh n ro ops l st k)
   fun st=>putS ro st o.dst .und fun st=>opsS E inlh n ro ops l st k
def depQ(ops:Array Oper)(j i:Nat):Bool:=
 match ops[j]? with
 |some o=>o.after.any fun e=>Region.binds .any e && Nat.beq e.on i
 |none=>false
def v4j(ops:Array Oper)(j:Nat):List Nat:=
 match ops[j]? with
 |some o=>(o.after.toList.filter fun e=>match e.ground with| .data=>true|_=>false).map (·.on)
 |none=>[]
def anyN(f:Nat->Bool):List Nat->Bool
 |[]=>false
 |m::l=>bif f m then true else anyN f l
def depT(ops:Array Oper):Nat->Nat->Nat->Bool
 |0,j,i=>depQ ops j i
 |k+1,j,i=>bif depQ ops j i then true else anyN (fun m=>depT ops k m i) (v4j ops j)
def w8i(ops:Array Oper)(j:Nat):List Nat:=
 match ops[j]? with
 |some o=>(o.after.toList.filter fun e=>match e.ground with| .guard=>true|_=>false).map (·.on)
 |none=>[]
def depD(ops:Array Oper)(j i:Nat):Bool:=bif depT ops 12 j i then true else anyN (fun m=>depT ops 12 m i) (w8i ops j)
def w4b(ops:Array Oper)(m mask:Nat)(isP:Oper->Bool):List Nat->Option Nat
 |[]=>none
 |i::l=>match ops[i]? with
  |some o=>bif isP o && o.dst.isSome && Region.free .any ops (bt m mask) i then some i else w4b ops m mask isP l
  |none=>none
def v5y(ops:Array Oper)(j:Nat)(prot:List (Nat×List Nat)):List (Nat×List Nat):=prot.filter fun q=> !depD ops j q.1
def banQ(ro:Ro S)(st:AS S)(ops:Array Oper)(j:Nat)(prot:List (Nat×List Nat))(tl:List Nat):Bool:=
 prot.all fun q=>depD ops j q.1||q.2.all fun o=> !hasN tl o && (match obS ro st o with|some (.frz _ _)=>false|some _=>true|none=>false)
def allR(f:Nat->Prop):List Nat->Prop
 |[]=>True
 |[i]=>f i
 |i::l=>f i/\allR f l
def y0y(lz:Bool)(ro:Ro S)(n:Nat)(ops:Array Oper)(st:AS S)(o:Oper):Bool:=
 !w5i lz (obS ro st) (evS n ro st) o.op && !w8h o.op||(match o.guard with
  |some (j,want)=>match ((ops[j]?).bind (·.dst)).map (fun d=>evS n ro st (.tmp d)) with
   |some (.lit b)=> !(b==want)
   |some .und=>true
   |_=>false
  |none=>false)
def zAO(P:Program)(D:Shp S)(t:TypeId):Option (AO S):=
 match D.acode t with
 |some (T,N)=>some (.arr t T N (List.replicate N (D.zero T)))
 |none=>(match (P.info? t).bind (·.zero) with
  |some z=>bif z.cells.toList.all isZ then some (.cells t (z.cells.toList.map fun v=>SV.f (j5b v))) else none
  |none=>none)
def w8j(P:Program)(D:Shp S)(ro:Ro S)(ops:Array Oper)(i:Nat):Bool:=
 match ops[i]? with
 |some o=>(match o.op,o.dst with
  | .alloc t,some d=>(zAO P D t).isSome && !hasN ro.lock d && o.guard.isNone && o.after.toList.isEmpty && (List.range ops.size).all fun j=>Nat.beq j i||(match (ops[j]?).bind (·.dst) with|some d'=> !Nat.beq d' d|none=>true)
  |_,_=>false)
 |none=>false
def w8k(P:Program)(D:Shp S)(ro:Ro S)(ops:Array Oper):List Nat:=(List.range ops.size).filter (w8j P D ro ops)
def orL(mask:Nat):List Nat->Nat
 |[]=>mask
 |i::L=>orL (mask|||1<<<i) L
def z7u(ops:Array Oper):List Nat->AS S->AS S
 |[],st=>st
 |i::L,st=>z7u ops L (match (ops[i]?).bind (·.dst) with
  |some d=>(match st.slots d with
   | .dead=>st
   |_=>{st with slots:=updS st.slots d .dead})
  |none=>st)
def j1p(ops:Array Oper):List Nat->AS S->(AS S->Prop)->Prop
 |[],st,k=>k st
 |i::L,st,k=>match (ops[i]?).bind (·.dst) with
  |some d=>(match st.slots d with
   | .dead=>j1p ops L st k
   |_=>j1p ops L {st with slots:=updS st.slots d .dead} k)
  |none=>j1p ops L st k
theorem q4u{ops:Array Oper}: ∀{L:List Nat} {st:AS S} {k:AS S->Prop},j1p ops L st k=k (z7u ops L st)
 |[],_,_=>rfl
 |i::L,st,k=>by
  unfold j1p z7u
  split
  ·split
   ·rename_i h;rw[q4u]
   ·rename_i h;rw[q4u]
  ·rw[q4u]
def notL(L:List Nat)(l:List Nat):List Nat:=l.filter fun j=> !hasN L j
def j35(E:Ev S)(inlh:InlH S)(n:Nat)(ro:Ro S)(ops:Array Oper)(m:Nat)(k:AS S->Prop):Nat->List Nat->Nat->List (Nat×List Nat)->AS S->Prop
 |0,L,mask,_,st=>bif L.isEmpty && (Region.ready .any ops (bt m mask)).isEmpty then k st else False
 |fuel+1,L,mask,prot,st=>match notL L (Region.ready .any ops (bt m mask)) with
  |[]=>(match L with
   |[]=>k st
   |i::L'=>bif (Region.ready .any ops (bt m (orL mask L'))).all fun j=>Nat.beq j i then (match ops[i]? with
    |some o=>w5j E inlh n ro st v5x o fun _ st=>j1p ops L' st fun st=>j35 E inlh n ro ops m k fuel L' (mask|||1<<<i) prot st
    |none=>False) else False)
  |rs=>match w4b ops m mask (fun o=> !y0x E o && y0y (lzE E o) ro n ops st o) rs with
   |some i=>(match ops[i]? with
    |some o=>j86 n ro ops st o
      (fun st=>bif w5i (lzE E o) (obS ro st) (evS n ro st) o.op||w8h o.op then False else
       Jb E.P E.D (evS n ro st) (obS ro st) ro.cell o.op fun rd s=>putS ro st o.dst s fun st=>j1p ops L st fun st=>j35 E inlh n ro ops m k fuel L (mask|||1<<<i) ((i,rd)::prot) st)
      fun st=>putS ro st o.dst .und fun st=>j1p ops L st fun st=>j35 E inlh n ro ops m k fuel L (mask|||1<<<i) ((i,[])::prot) st
    |none=>False)
   |none=>bif L.isEmpty||(Region.ready .any ops (bt m (orL mask L))).all (hasN rs) then allR (fun i=>match ops[i]? with
    |some o=>j86 n ro ops st o
      (fun st=>w5j E inlh n ro st (banQ ro st ops i prot) o fun _ st=>j1p ops L st fun st=>j35 E inlh n ro ops m k fuel L (mask|||1<<<i) (v5y ops i prot) st)
      fun st=>putS ro st o.dst .und fun st=>j1p ops L st fun st=>j35 E inlh n ro ops m k fuel L (mask|||1<<<i) (v5y ops i prot) st
    |none=>False) rs else False
def v5z(E:Ev S)(inlh:InlH S)(n:Nat)(ro:Ro S)(ops:Array Oper)(k:AS S->Prop)(st:AS S):Prop:=
 j84 (w8k E.P E.D ro ops) fun L=>j1p ops L st fun st=>j35 E inlh n ro ops ops.size k ops.size L 0 [] st
def w5k(st:AS S)(fz:List Nat)(k:AS S->Prop):Prop:=
 optK (frzs (Zb st.objs) fz) fun l=>bif q8o fz then k {st with objs:=l++Bt st.objs fz} else False
def getK(D:Shp S)(ro:Ro S)(st:AS S)(s:SV S):(kd:Kd S)->(kd.ty->AS S->Prop)->Prop
 | .int kk,K=>(match s with
  | .f (.int k' a)=>bif kk==k' then K a st else False
  |_=>False)
 | .bool,K=>optK (w5c s) fun b=>K b st
 | .str,K=>(match s with
  | .f (.str a)=>K a st
  |_=>False)
 | .sl T,K=>(match s with
  | .f .nils=>K [] st
  | .f (.sl T' l)=>Vw T' T l fun l=>K l st
  | .hnd o=>(match obS ro st o with
   |some (.frz T' l)=>Vw T' T l fun l=>K l st
   |some (.vec _ T' l)=>Vw T' T l fun l=>w5k st [o] fun st=>K l st
   |_=>False)
  |_=>False)
 | .own e T,K=>(match ownQ e T (Zb st.objs) s with
  |some (a,l)=>K l {st with objs:=Bt st.objs a}
  |none=>False)
 | .el T,K=>(match s with
  | .agg cs=>optK (toFs (obS ro st) cs) fun q=>w5k st q.2 fun st=>optK (D.bld T q.1) fun x=>K x st
  |_=>False)
 | .map _ _,_=>False
 | .arr _ _ _,_=>False
 | .iter _ _,_=>False
 | .siter,_=>False
 | .vech _ _ _,_=>False
def getO(o:Nat)(st:AS S):(kd:Kd S)->(kd.ty->AS S->Prop)->Prop
 | .own e T,K=>(match Zb st.objs o with
  |some (.vec e' T' l)=>bif Nat.beq e e' then Vw T' T l fun l=>K l {st with objs:=delN st.objs o} else False
  |_=>False)
 | .map Kc V,K=>(match Zb st.objs o with
  |some (.map K' V' F)=>q9e K' V' F Kc V fun F=>K F {st with objs:=delN st.objs o}
  |_=>False)
 | .arr ty T N,K=>(match Zb st.objs o with
  |some (.arr ty' T' N' l)=>bif Nat.beq ty ty' && Nat.beq N N' then Vw T' T l fun l=>K l {st with objs:=delN st.objs o} else False
  |_=>False)
 | .iter Kc V,K=>(match Zb st.objs o with
  |some (.iter K' V' F done _)=>q9e K' V' F Kc V fun F=>Vw K' Kc done fun done=>K (F,done) {st with objs:=delN st.objs o}
  |_=>False)
 | .siter,K=>(match Zb st.objs o with
  |some (.siter s pos)=>K (s,pos) {st with objs:=delN st.objs o}
  |_=>False)
 | .vech e T f,K=>(match Zb st.objs o with
  |some (.vech e' T' l k f' _)=>bif Nat.beq e e' && Nat.beq f f' then Vw T' T l fun l=>K (l,k) {st with objs:=delN st.objs o} else False
  |_=>False)
 |_,_=>False
def getI(D:Shp S)(ro:Ro S)(st:AS S):(i:Item S)->(i.2.ty->AS S->Prop)->Prop
 |(.slot j,kd),K=>getK D ro st (q4t ro st j) kd K
 |(.cell o i,kd),K=>(match Zb st.objs o with
  |some (.cells _ l)=>(match l[i]? with
   |some s=>getK D ro st s kd K
   |none=>False)
  |_=>False)
 |(.obj o,kd),K=>getO o st kd K
def w4c(D:Shp S)(ro:Ro S):(l:List (Item S))->AS S->(HL l->AS S->Prop)->Prop
 |[],st,K=>K () st
 |i::l,st,K=>getI D ro st i fun x st=>w4c D ro l st fun xs st=>K (x,xs) st
def putK(D:Shp S)(nm:Nat):(kd:Kd S)->kd.ty->SV S×List (Nat×AO S)
 | .int k,a=>(.f (.int k a),[])
 | .bool,b=>(.f (.bool b),[])
 | .str,a=>(.f (.str a),[])
 | .sl T,l=>(.f (.sl T l),[])
 | .own e T,l=>(.hnd nm,[(nm,.vec e T l)])
 | .el T,x=>(.agg ((D.shape T x).map SV.f),[])
 | .map K V,F=>(.hnd nm,[(nm,.map K V F)])
 | .arr ty T N,l=>(.ref nm 0,[(nm,.arr ty T N l)])
 | .iter K V,x=>(.ref nm 0,[(nm,.iter K V x.1 x.2 none)])
 | .siter,x=>(.ref nm 0,[(nm,.siter x.1 x.2)])
 | .vech e T f,x=>(.hnd nm,[(nm,.vech e T x.1 x.2 f .dead)])
structure Acc(S:Sig) where
 slots:Nat->SV S
 cells:List ((Nat×Nat)×SV S)
 objs:List (Nat×AO S)
def q5u(D:Shp S):(l:List (Item S))->HL l->Nat->Acc S->Acc S
 |[],_,_,a=>a
 |(.slot j,kd)::l,(x,xs),nm,a=>q5u D l xs (nm+1) {a with slots:=updS a.slots j (putK D nm kd x).1,objs:=(putK D nm kd x).2++a.objs}
 |(.cell o i,kd)::l,(x,xs),nm,a=>q5u D l xs (nm+1) {a with cells:=((o,i),(putK D nm kd x).1)::a.cells,objs:=(putK D nm kd x).2++a.objs}
 |(.obj o,kd)::l,(x,xs),nm,a=>q5u D l xs (nm+1) {a with objs:=(putK D o kd x).2++a.objs}
def z7v:List ((Nat×Nat)×SV S)->Nat->Nat->Option (SV S)
 |[],_,_=>none
 |((o,i),s)::l,o',i'=>bif Nat.beq o o' && Nat.beq i i' then some s else z7v l o' i'
def z4u(g:Nat->Option (SV S)):Nat->Nat->List (SV S)
 |_,0=>[]
 |i,n+1=>(g i).getD .lk::z4u g (i+1) n
def w8l(cells:List ((Nat×Nat)×SV S)):List (Nat×TypeId×Nat)->List (Nat×AO S)
 |[]=>[]
 |(o,ty,len)::l=>(o,.cells ty (z4u (z7v cells o) 0 len))::w8l cells l
def stOf(D:Shp S)(sp:Spec S)(nm:Nat)(t:HL sp.items):AS S:=
 let a:=q5u D sp.items t nm ⟨fun _=> .dead,[],[]⟩
 {slots:=a.slots,objs:=a.objs++w8l a.cells sp.cobj,next:=nm+sp.items.length}
def hasC:List (Nat×TypeId×Nat)->Nat->Bool
 |[],_=>false
 |(o,_,_)::l,o'=>bif Nat.beq o o' then true else hasC l o'
def roOf(sp:Spec S)(ro:Ro S)(st:AS S)(robj:List (Nat×AO S)):Ro S where
 slots:=q4t ro st
 lock:=ro.lock++sp.lock
 objs:=robj++ro.objs
 cell:=fun o i=>bif hasC sp.cobj o then (match Zb st.objs o with
  |some (.cells _ l)=>(resL (ro.cell o) 0 l).getD i .dead
  |_=> .dead) else ro.cell o i
 glob:=ro.glob
def z35(nm:Nat):List (Item S)->Bool
 |[]=>true
 |(.obj o,_)::l=>Nat.blt o nm && z35 nm l
 |(.cell o _,_)::l=>Nat.blt o nm && z35 nm l
 |_::l=>z35 nm l
def v2g(sp:Spec S)(ro:Ro S)(st:AS S):Bool:=
 (sp.cobj.all fun q=>(match Zb st.objs q.1 with
  |some (.cells ty l)=>Nat.beq ty q.2.1 && Nat.beq l.length q.2.2
  |_=>false) && !hasN sp.robj q.1) && q8o ((st.objs++ro.objs).map (·.1)) && q8o sp.robj && q8o (sp.cobj.map (·.1)) && sp.cobj.all (fun q=>Nat.blt q.1 st.next) && z35 st.next sp.items
def z9t(l:List (SV S))(g:Nat->Bool):Nat->List (SV S):=fun i=>
 match l with
 |[]=>[]
 |s::l=>(bif g i then s else .lk)::z9t l g (i+1)
def z7w:List (Item S)->Nat->Nat->Bool
 |[],_,_=>false
 |(.cell o i,_)::l,o',i'=>bif Nat.beq o o' && Nat.beq i i' then true else z7w l o' i'
 |_::l,o',i'=>z7w l o' i'
def Rb(sp:Spec S):List (Nat×AO S)->List (Nat×AO S)
 |[]=>[]
 |(o,.cells ty l)::os=>(o,bif hasC sp.cobj o then .cells ty (z9t l (z7w sp.items o) 0) else .cells ty l)::Rb sp os
 |q::os=>q::Rb sp os
def j5l(g:Nat->Bool):Nat->List (SV S)->Bool
 |_,[]=>true
 |i,.lk::l=>j5l g (i+1) l
 |i,_::l=>g i && j5l g (i+1) l
def endQ(sp:Spec S)(st:AS S):Bool:=
 sp.cobj.all fun q=>match Zb st.objs q.1 with
  |some (.cells ty l)=>Nat.beq ty q.2.1 && Nat.beq l.length q.2.2 && j5l (z7w sp.items q.1) 0 l
  |_=>false
def endI(D:Shp S)(ro:Ro S)(sp:Spec S)(st:AS S)(Y:HL sp.items->Prop):Prop:=
 w4c D ro sp.items st fun t st=>bif endQ sp st then Y t else False
def z7x:List (SV S)->List (SV S)->List (SV S)
 |[],_=>[]
 | .lk::l,l0=>l0.head?.getD .dead::z7x l l0.tail
 |s::l,l0=>s::z7x l l0.tail
def j87(sp:Spec S)(st:AS S):List (Nat×AO S)->List (Nat×AO S)
 |[]=>[]
 |(o,.cells ty l)::os=>(o,bif hasC sp.cobj o then .cells ty (z7x l (match Zb st.objs o with|some (.cells _ l0)=>l0|_=>[])) else .cells ty l)::j87 sp st os
 |q::os=>q::j87 sp st os
def j88(sp:Spec S)(st:AS S)(robj:List (Nat×AO S))(a:AS S):AS S where
 slots:=fun j=>bif hasN sp.lock j then st.slots j else a.slots j
 objs:=j87 sp st a.objs++robj
 next:=a.next
def LpH{T:Type}(body:T->(T->Prop)->Prop)(t:T):Prop:= ∀X:T->Prop,(∀t' Y,(∀u,Y u->X u)->body t' Y->X t')->X t
def LpG:(l:List (Item S))->(HL l->(HL l->Prop)->Prop)->HL l->Prop
 |[_],body,t=>Lp1 (fun x Y=>body (x,()) fun u=>Y u.1) t.1
 |[_,_],body,t=>Lp2 (fun x y Y=>body (x,y,()) fun u=>Y u.1 u.2.1) t.1 t.2.1
 |[_,_,_],body,t=>Lp3 (fun x y z Y=>body (x,y,z,()) fun u=>Y u.1 u.2.1 u.2.2.1) t.1 t.2.1 t.2.2.1
 |[_,_,_,_],body,t=>Lp4 (fun x y z v Y=>body (x,y,z,v,()) fun u=>Y u.1 u.2.1 u.2.2.1 u.2.2.2.1) t.1 t.2.1 t.2.2.1 t.2.2.2.1
 |[_,_,_,_,_],body,t=>Lp5 (fun x y z v w Y=>body (x,y,z,v,w,()) fun u=>Y u.1 u.2.1 u.2.2.1 u.2.2.2.1 u.2.2.2.2.1) t.1 t.2.1 t.2.2.1 t.2.2.2.1 t.2.2.2.2.1
 |_,body,t=>LpH body t
def JnG:(l:List (Item S))->(HL l->Prop)->((HL l->Prop)->Prop)->Prop
 |[],k,A=>Jn0 (k ()) fun Y=>A fun _=>Y
 |[_],k,A=>Jn1 (fun x=>k (x,())) fun Y=>A fun u=>Y u.1
 |[_,_],k,A=>Jn2 (fun x y=>k (x,y,())) fun Y=>A fun u=>Y u.1 u.2.1
 |[_,_,_],k,A=>Jn3 (fun x y z=>k (x,y,z,())) fun Y=>A fun u=>Y u.1 u.2.1 u.2.2.1
 |[_,_,_,_],k,A=>Jn4 (fun x y z v=>k (x,y,z,v,())) fun Y=>A fun u=>Y u.1 u.2.1 u.2.2.1 u.2.2.2.1
 |_,k,A=>Jn1 k A
def keyC:Code->Nat
 | .region id _ _=>id
 | .seq a _=>keyC a
 | .cond _ a _=>keyC a
 | .block _ a=>keyC a
 | .loop a=>keyC a
 | .scope a=>keyC a
 |_=>0
abbrev Kc(S:Sig):=Exit->AS S->Prop
def v50(f:AS S->Prop)(k:Kc S):Kc S
 | .normal,st=>f st
 |e,st=>k e st
def v4k(id:Nat)(k:Kc S):Kc S
 | .exit i,st=>bif Nat.beq i id then k .normal st else k (.exit i) st
 |e,st=>k e st
def v8m(k:Kc S):Kc S
 | .goto _,_=>False
 |e,st=>k e st
def v4l(_:Nat)(_:Ro S)(_:AS S):Prop:=False
def v2h(key:Nat)(ro:Ro S)(st:AS S)(o:Option (List (Nat×AO S)))(k:List (Nat×AO S)->Prop):Prop:=
 match o with
 |some x=>k x
 |none=>v4l key ro st
def vcC(E:Ev S)(inlh:InlH S)(n:Nat):Code->Ro S->Kc S->AS S->Prop
 | .skip,_,k,st=>k .normal st
 | .region _ ops draw,ro,k,st=>bif draw then (bif Region.noSelect ops then v5z E inlh n ro ops (k .normal) st else False) else opsS E inlh n ro ops ops.toList st (k .normal)
 | .seq x y,ro,k,st=>match E.plan (E.base+2*keyC y) with
  |none=>vcC E inlh n x ro (v50 (vcC E inlh n y ro k) k) st
  |some sp=>v2h (E.base+2*keyC y) ro st (j6n st.objs sp.robj) fun robj=>bif v2g sp ro st then
    JnG sp.items (fun t=>vcC E inlh n y ro k (j88 sp st robj (stOf E.D sp st.next t)))
     fun Y=>vcC E inlh n x (roOf sp ro st robj) (v50 (fun a=>endI E.D (roOf sp ro st robj) sp a Y) fun e a=>k e (j88 sp st robj a))
      {slots:=st.slots,objs:=Rb sp (Bt st.objs sp.robj),next:=st.next}
   else False
 | .cond c x y,ro,k,st=>tst (evS n ro st c) (vcC E inlh n x ro k st) (vcC E inlh n y ro k st)
 | .block id b,ro,k,st=>vcC E inlh n b ro (v4k id k) st
 | .loop b,ro,k,st=>match E.plan (E.base+2*keyC b+1) with
  |none=>v4l (E.base+2*keyC b+1) ro st
  |some sp=>v2h (E.base+2*keyC b+1) ro st (j6n st.objs sp.robj) fun robj=>bif v2g sp ro st then
    endI E.D (roOf sp ro st robj) sp {slots:=st.slots,objs:=Rb sp (Bt st.objs sp.robj),next:=st.next} fun t0=>
     LpG sp.items (fun t Y=>vcC E inlh n b (roOf sp ro st robj) (v50 (fun a=>endI E.D (roOf sp ro st robj) sp a Y) fun e a=>k e (j88 sp st robj a)) (stOf E.D sp st.next t)) t0
   else False
 | .exit i,_,k,st=>k (.exit i) st
 | .scope b,ro,k,st=>vcC E inlh n b ro (v8m k) st
 | .ret,_,k,st=>k .ret st
 | .label _,_,k,st=>k .normal st
 |_,_,_,_=>False
def resK(P:Program)(D:Shp S)(n:Nat)(ro:Ro S)(st:AS S):List ResultVar->(List (SV S)->Prop)->Prop
 |[],K=>K []
 | .tmp t::l,K=>resK P D n ro st l fun r=>K (evS n ro st (.tmp t)::r)
 | .cell t ty::l,K=>Jb P D (evS n ro st) (obS ro st) ro.cell (.load ty (.tmp t)) fun _ s=>resK P D n ro st l fun r=>K (s::r)
def frlS(l:List (SV S)):Nat->SV S:=fun j=>l.getD j .und
def z22:List (Item S)->List (Item S)
 |[]=>[]
 |(.slot _,_)::l=>z22 l
 |i::l=>i::z22 l
def z5y(sp:Spec S):Spec S:={sp with items:=z22 sp.items}
def w8m(objs:List (Nat×AO S)):List (Item S)->Bool
 |[]=>true
 |(.obj o,_)::l=>(Zb objs o).isSome && w8m objs l
 |(.cell o _,_)::l=>(Zb objs o).isSome && w8m objs l
 |_::l=>w8m objs l
def refQ:SV S->SV S->Bool
 | .ref a b,.ref c d=>Nat.beq a c && Nat.beq b d
 |_,_=>false
def RecH{T U:Type}(body:(Nat->T->(U->Prop)->Prop)->Nat->T->(U->Prop)->Prop)(n:Nat)(t:T)(K:U->Prop):Prop:=
 ∀X:Nat->T->(U->Prop)->Prop,(∀n t K,body X n t K->X n t K)->X n t K
def hndl(D:Shp S)(g:Nat)(sp:Spec S)(ro1:Ro S)(full:List (SV S))(X:Nat->HL sp.items->(HL (z5y sp).items->Prop)->Prop):InlH S:=fun g' full' ro' st' k'=>
 bif Nat.beq g' g && Nat.beq ro'.stamp 1 && Nat.beq full'.length full.length && sp.lock.all (fun j=>refQ (frlS full' j) (frlS full j)) && w8m st'.objs sp.items then
  endI D ro1 sp {slots:=frlS full',objs:=st'.objs,next:=st'.next} fun t=>X st'.next t fun u=>
   k' {slots:=st'.slots,objs:=(stOf D (z5y sp) st'.next u).objs,next:=(stOf D (z5y sp) st'.next u).next} (.tup []) else False
def y0z(D:Shp S)(sp:Spec S)(ro1:Ro S)(Y:HL (z5y sp).items->Prop):Kc S:=fun e a=>
 match e with
 | .ret=>endI D ro1 (z5y sp) a Y
 | .normal=>endI D ro1 (z5y sp) a Y
 |_=>False
def inlN(E:Ev S):Nat->InlH S
 |0=>fun _ _ _ _ _=>False
 |fuel+1=>fun g full ro st k=>match E.P.funcs[g]? with
  |some fn=>(match fn.body with
   |some c=>bif Nat.ble full.length fn.ntmps then
     (match E.plan (1000000*(g+1)+999999) with
     |none=>vcC (E.at (1000000*(g+1))) (inlN E fuel) fn.ntmps c {slots:=fun _=> .dead,lock:=[],objs:=ro.objs,cell:=ro.cell,glob:=ro.glob}
      (fun e a=>match e with
       | .ret=>resK E.P E.D fn.ntmps {slots:=fun _=> .dead,lock:=[],objs:=ro.objs,cell:=ro.cell,glob:=ro.glob} a fn.results.toList fun r=>k {slots:=st.slots,objs:=a.objs,next:=a.next} (tupS r)
       | .normal=>resK E.P E.D fn.ntmps {slots:=fun _=> .dead,lock:=[],objs:=ro.objs,cell:=ro.cell,glob:=ro.glob} a fn.results.toList fun r=>k {slots:=st.slots,objs:=a.objs,next:=a.next} (tupS r)
       |_=>False)
      {slots:=frlS full,objs:=st.objs,next:=st.next}
     |some sp=>
      let ro0:Ro S:={slots:=fun _=> .dead,lock:=[],objs:=ro.objs,cell:=ro.cell,glob:=ro.glob}
      let st0:AS S:={slots:=frlS full,objs:=st.objs,next:=st.next}
      v2h (1000000*(g+1)+999999) ro0 st0 (j6n st0.objs sp.robj) fun robj=>bif v2g sp ro0 st0 && sp.cobj.isEmpty && fn.results.toList.isEmpty then
       endI E.D {roOf sp ro0 st0 robj with stamp:=1} sp {slots:=st0.slots,objs:=Rb sp (Bt st0.objs sp.robj),next:=st0.next} fun t0=>
        RecH (fun X nm t Y=>vcC (E.at (1000000*(g+1))) (hndl E.D g sp {roOf sp ro0 st0 robj with stamp:=1} full X) fn.ntmps c {roOf sp ro0 st0 robj with stamp:=1} (y0z E.D sp {roOf sp ro0 st0 robj with stamp:=1} Y) (stOf E.D sp nm t))
         st.next t0 fun u=>k {slots:=st.slots,objs:=(j88 sp st0 robj (stOf E.D (z5y sp) st.next u)).objs,next:=(stOf E.D (z5y sp) st.next u).next} (.tup [])
      else False) else False
   |none=>False)
  |none=>False
mutual
def cons:PK S->SV S->(Nat->Option (AO S))->List (Nat×Nat)
 | .ptr _ pk,.ref o 0,ob=>match ob o with
  |some (.cells _ l)=>v51 o 0 pk l ob
  |_=>[]
 |_,_,_=>[]
def v51(o i:Nat):List (PK S)->List (SV S)->(Nat->Option (AO S))->List (Nat×Nat)
 | .c::pk,_::l,ob=>(o,i)::v51 o (i+1) pk l ob
 |p::pk,s::l,ob=>cons p s ob++v51 o (i+1) pk l ob
 |_,_,_=>[]
end
def v2i:List (PK S)->List (SV S)->(Nat->Option (AO S))->List (Nat×Nat)
 |p::pk,s::l,ob=>cons p s ob++v2i pk l ob
 |_,_,_=>[]
def hasP:List (Nat×Nat)->Nat->Nat->Bool
 |[],_,_=>false
 |(a,b)::l,o,i=>bif Nat.beq a o && Nat.beq b i then true else hasP l o i
def w1o(cs:List (Nat×Nat)):List (Nat×AO S)->List (Nat×AO S)
 |[]=>[]
 |(o,.cells ty l)::os=>(o,.cells ty (z9t l (fun i=> !hasP cs o i) 0))::w1o cs os
 |q::os=>q::w1o cs os
def fnVC(E:Ev S)(fuel g:Nat)(pk rk:List (PK S))(args:List (Tr S))(K:List (Tr S)->List (Tr S)->Prop):Prop:=
 match E.P.funcs[g]? with
 |some fn=>(match fn.body,z9s E.D args 0 with
  |some c,some (ss,os,nx)=>bif Nat.ble ss.length fn.ntmps then
    let cs:=v2i pk ss (Zb os)
    let ro:Ro S:={slots:=fun _=> .dead,lock:=[],objs:=[],cell:=fun o i=>match Zb os o with|some (.cells _ l)=>l.getD i .dead|_=> .dead,glob:=E.D.glob}
    vcC E (inlN E fuel) fn.ntmps c ro
     (fun e a=>match e with
      | .ret=>resK E.P E.D fn.ntmps ro a fn.results.toList fun r=>optK (z5x E.D (obS ro a) ro.cell rk r) fun q=>optK (z9r (obS ro a) (Zb os) ro.cell pk ss) fun q'=>optK (frzs (obS ro a) (q.2.2++q'.2.2)) fun _=>
        bif q8o (q.2.1++q'.2.1++(q.2.2++q'.2.2)) && inRw a (q.2.1++q'.2.1++(q.2.2++q'.2.2)) then K q.1 q'.1 else False
      | .normal=>resK E.P E.D fn.ntmps ro a fn.results.toList fun r=>optK (z5x E.D (obS ro a) ro.cell rk r) fun q=>optK (z9r (obS ro a) (Zb os) ro.cell pk ss) fun q'=>optK (frzs (obS ro a) (q.2.2++q'.2.2)) fun _=>
        bif q8o (q.2.1++q'.2.1++(q.2.2++q'.2.2)) && inRw a (q.2.1++q'.2.1++(q.2.2++q'.2.2)) then K q.1 q'.1 else False
      |_=>False)
     {slots:=frlS ss,objs:=w1o cs os,next:=nx} else False
  |_,_=>False)
 |none=>False
end Go.Fx
end
noncomputable section
set_option maxRecDepth 100000
namespace Go.Fx
open Go Go.RowKit Go.Fl Go.Fl.Lk
variable {S:Sig}{P:Program}{D:Shp S}{ν ν' ν0:Nm}{σ τ:Hv}{n:Nat}{f:Fr}
variable {w:World}{cx:Cx}{ro:Ro S}{st:AS S}{ms:List HObj}
structure Glb(D:Shp S)(σ:Hv):Prop where
 known: ∀g,SRep D (fun _=>none) σ (.pointer (some ⟨g,0,none⟩)) (D.glob g)
 free: ∀g k,D.gopen g=some k-> ∃n:Int,σ.cell ⟨g,0,none⟩=some (.int k n)
 blk: ∀g cs,D.gblk g=some cs-> ∃t q,σ g=some (.cells cs t q)
theorem Glb.mono{D:Shp S}{σ τ:Hv}(h:Glb D σ)(hs:Sub σ τ):Glb D τ:=⟨fun g=>(h.known g).mono (Ext.refl _) hs,fun g k hk=>(h.free g k hk).imp fun _ h=>hs.cell h,fun g cs hk=>(h.blk g cs hk).imp fun _ h=>h.imp fun _ h=>hs _ _ h⟩
theorem z5z{a b:Nat->SV S}{D:Shp S}{σ τ:Hv}(h:a=b/\Glb D σ)(hs:Sub σ τ):a=b/\Glb D τ:=⟨h.1,h.2.mono hs⟩
structure G(D:Shp S)(cx:Cx)(ν0:Nm)(ro:Ro S)(st:AS S)(f:Fr)(w:World)(ν:Nm)(σ:Hv)(ms:List HObj):Prop where
 mem:St cx w σ ms
 objs:Objs D ν σ ro.cell (st.objs++ro.objs) ms
 slots: ∀j,SRep D ν σ (f j) (q4t ro st j)
 fresh: ∀o,st.next<=o->ν o=none
 ext:Ext ν0 ν
 glob:ro.glob=D.glob/\Glb D σ
theorem w5l(v:Value):SRep D ν σ v (w1e v):=by
 unfold w1e
 split
 ·exact .lit _
 ·exact .f (.int _ _)
 ·exact .f (.str _)
 ·exact .f .nilp
 ·exact .f .nils
 ·exact .f .nilm
 ·exact .f .nilf
 ·exact .dead _
theorem Vx{α:Type}{os os':List (Nat×α)}{o:Nat}:Zb (os++os') o=match Zb os o with|some a=>some a|none=>Zb os' o:=by
 induction os with
 |nil=>rfl
 |cons q os ih=>
  obtain⟨o',a⟩:=q
  simp only[List.cons_append,Zb]
  cases Nat.beq o' o with
  |true=>rfl
  |false=>exact ih
theorem j6o{o:Nat}:obS ro st o=Zb (st.objs++ro.objs) o:=by
 unfold obS
 rw[Vx]
 cases Zb st.objs o<;>rfl
theorem w8n(h: ∀j,SRep D ν σ (f j) (q4t ro st j))(hg:ro.glob=D.glob/\Glb D σ)(x:Operand):SRep D ν σ (ev n f x) (evS n ro st x):=by
 cases x with
 |tmp t=>
  simp only[ev,evS]
  cases Nat.blt t n with
  |true=>exact h t
  |false=>exact .und
 |const v=>exact w5l v
 |global g=>
  show SRep D ν σ _ (ro.glob g)
  rw[hg.1];exact (hg.2.known g).mono (fun o v h=>by cases h) (Sub.refl _)
 |func k=>exact .fn k [] [] [] [] rfl (fun j v s h=>by cases h) rfl (fun j v s h=>by cases h)
theorem Objs.find: ∀{os:List (Nat×AO S)} {ms:List HObj} {lkc:Nat->Nat->SV S},Objs D ν σ lkc os ms-> ∀{o a},Zb os o=some a-> ∃m∈ms,ORep D ν σ lkc o a m
 |[],[],_,_,_,_,h=>by cases h
 |(o',a')::os,m::ms,_,h,o,a,hf=>by
  simp only[Zb] at hf
  cases hb:Nat.beq o' o with
  |true=>
   rw[hb] at hf;cases hf
   rw[←Nat.eq_of_beq_eq_true hb]
   exact⟨m,by simp,h.1⟩
  |false=>
   rw[hb] at hf
   obtain⟨m',hm,hr⟩:=Objs.find h.2 hf
   exact⟨m',by simp[hm],hr⟩
theorem G.kn(h:G D cx ν0 ro st f w ν σ ms): ∃oh:Nat->HObj,Kn D ν σ n f w (evS n ro st) (obS ro st) ro.cell oh/\ ∀o a,obS ro st o=some a->oh o∈ms:=by
 have hc: ∀o,∃m:HObj,∀a,obS ro st o=some a->m∈ms/\ORep D ν σ ro.cell o a m:=by
  intro o
  cases ho:obS ro st o with
  |none=>exact⟨triv,fun a h=>by cases h⟩
  |some a=>
   obtain⟨m,hm,hr⟩:=h.objs.find (j6o▸ho)
   exact⟨m,fun a' h'=>by cases h';exact⟨hm,hr⟩⟩
 refine⟨fun o=>Classical.choose (hc o),⟨w8n h.slots h.glob,fun o a ho=> ?_⟩,fun o a ho=>(Classical.choose_spec (hc o) a ho).1⟩
 obtain⟨h1,h2⟩:=Classical.choose_spec (hc o) a ho
 exact⟨h2,h.mem.own _ h1⟩
def putF(f:Fr)(d:Option Nat)(v:Value):Fr:=match d with|some d=>upd f d v|none=>f
theorem z1i(d:Option Nat)(v:Value):(mk n f).put d v=mk n (putF f d v):=by
 cases d with
 |none=>exact w3y n f v
 |some d=>exact j44 n f d v
theorem v2j{d:Nat}{s:SV S}(hd:hasN ro.lock d=false)(j:Nat):q4t ro {st with slots:=updS st.slots d s} j=bif Nat.beq j d then s else q4t ro st j:=by
 unfold q4t updS
 cases hj:Nat.beq j d with
 |false=>simp only[hj,cond_false]
 |true=>
  have:=Nat.eq_of_beq_eq_true hj
  subst this
  rw[hd];simp
theorem G.put{d:Option Nat}{s:SV S}{v:Value}{k:AS S->Prop}(h:G D cx ν0 ro st f w ν σ ms)(hs:SRep D ν σ v s)(hk:putS ro st d s k): ∃st',k st'/\st'.objs=st.objs/\st'.next=st.next/\G D cx ν0 ro st' (putF f d v) w ν σ ms:=by
 cases d with
 |none=>exact⟨st,hk,rfl,rfl,h⟩
 |some d=>
  simp only[putS] at hk
  cases hd:hasN ro.lock d with
  |true=>rw[hd] at hk;exact hk.elim
  |false=>
   rw[hd,cond_false,j83] at hk
   refine⟨_,hk,rfl,rfl,h.mem,h.objs,fun j=> ?_,h.fresh,h.ext,h.glob⟩
   rw[v2j hd]
   show SRep D ν σ (bif Nat.beq j d then v else f j) _
   cases Nat.beq j d with
   |true=>exact hs
   |false=>exact h.slots j
def w8o:Value->Option Nat
 | .pointer (some a)=>some a.block
 | .map (some b)=>some b
 |v=>v.ownBlock
theorem ORep.foot{o:Nat}{a:AO S}{m:HObj}{lkc:Nat->Nat->SV S}{b:Nat}(h:ORep D ν σ lkc o a m)(hok:m.ok w)(hb:m.foot=some b): ∃v,ν o=some v/\w8o v=some b:=by
 cases a with
 |cells ty l=>obtain⟨b',cs,h1,rfl,_⟩:=h;cases hb;exact⟨_,h1,rfl⟩
 |vec e T l=>
  obtain⟨v,xs,h1,rfl,_⟩:=h
  refine⟨v,h1,?_⟩
  obtain⟨a,cap,rfl⟩:=z1c hok
  exact hb
 |frz T l=>obtain⟨v,h1,rfl,_⟩:=h;cases hb
 |arr ty T N l=>obtain⟨b',cs,h1,rfl,_⟩:=h;cases hb;exact⟨_,h1,rfl⟩
 |iter K V F done cur=>obtain⟨r,b',es,clock,cv,h1,rfl,_⟩:=h;cases hb;exact⟨_,h1,rfl⟩
 |siter s pos=>obtain⟨r,h1,rfl⟩:=h;cases hb;exact⟨_,h1,rfl⟩
 |map K V F=>obtain⟨b',m,h1,rfl,_⟩:=h;cases hb;exact⟨_,h1,rfl⟩
 |vech e T l k f q=>
  obtain⟨v,xs,h1,rfl,_⟩:=h
  refine⟨v,h1,?_⟩
  obtain⟨a,cap,rfl⟩:=z1c hok
  exact hb
def v52:AO S->Bool
 | .frz _ _=>true
 |_=>false
theorem ORep.foot'{o:Nat}{a:AO S}{m:HObj}{lkc:Nat->Nat->SV S}{b:Nat}{v:Value}(h:ORep D ν σ lkc o a m)(hok:m.ok w)(ha:v52 a=false)(hv:ν o=some v)(hb:w8o v=some b):m.foot=some b:=by
 cases a with
 |cells ty l=>obtain⟨b',cs,h1,rfl,_⟩:=h;rw[hv] at h1;cases h1;exact hb
 |vec e T l=>
  obtain⟨v',xs,h1,rfl,_⟩:=h
  rw[hv] at h1;cases h1
  obtain⟨a,cap,rfl⟩:=z1c hok
  exact hb
 |frz T l=>cases ha
 |arr ty T N l=>obtain⟨b',cs,h1,rfl,_⟩:=h;rw[hv] at h1;cases h1;exact hb
 |iter K V F done cur=>obtain⟨r,b',es,clock,cv,h1,rfl,_⟩:=h;rw[hv] at h1;cases h1;exact hb
 |siter s pos=>obtain⟨r,h1,rfl⟩:=h;rw[hv] at h1;cases h1;exact hb
 |map K V F=>obtain⟨b',m,h1,rfl,_⟩:=h;rw[hv] at h1;cases h1;exact hb
 |vech e T l k f q=>
  obtain⟨v',xs,h1,rfl,_⟩:=h
  rw[hv] at h1;cases h1
  obtain⟨a,cap,rfl⟩:=z1c hok
  exact hb
theorem j89{α:Type}{os:List (Nat×α)}{o o':Nat}(h:o≠o'):Zb (delN os o) o'=Zb os o':=by
 induction os with
 |nil=>rfl
 |cons q os ih=>
  obtain⟨x,a⟩:=q
  simp only[delN]
  cases hb:Nat.beq x o with
  |true=>
   have:=Nat.eq_of_beq_eq_true hb
   subst this
   simp only[cond_true,Zb]
   have:Nat.beq x o'=false:=by
    cases hq:Nat.beq x o' with
    |false=>rfl
    |true=>exact absurd (Nat.eq_of_beq_eq_true hq) h
   rw[this];rfl
  |false=>
   simp only[cond_false,Zb,ih]
theorem z23{α:Type}: ∀{tl:List Nat} {os:List (Nat×α)} {o:Nat},o∉tl->Zb (Bt os tl) o=Zb os o
 |[],_,_,_=>rfl
 |x::tl,os,o,h=>by
  rw[Bt,z23 (fun hm=>h (by simp[hm]))]
  exact j89 (fun he=>h (by simp[he]))
theorem j1q{α:Type}{os os':List (Nat×α)}{o:Nat}{a:α}(h:Zb os o=some a):delN (os++os') o=delN os o++os':=by
 induction os with
 |nil=>cases h
 |cons q os ih=>
  obtain⟨x,b⟩:=q
  simp only[Zb] at h
  simp only[List.cons_append,delN]
  cases hb:Nat.beq x o with
  |true=>rfl
  |false=>
   rw[hb] at h
   simp only[cond_false]
   rw[ih h];rfl
theorem Objs.takes{lkc:Nat->Nat->SV S}: ∀{tlo os os':List (Nat×AO S)} {ms:List HObj},Objs D ν σ lkc (os++os') ms->(tlo.map (·.1)).Nodup->(∀q∈tlo,Zb os q.1=some q.2)->
  ∃ins rest,ms.Perm (ins++rest)/\Objs D ν σ lkc tlo ins/\Objs D ν σ lkc (Bt os (tlo.map (·.1))++os') rest:=by
 intro tlo
 induction tlo with
 |nil=>intro os os' ms h _ _;exact⟨[],ms,.refl _,trivial,h⟩
 |cons q tlo ih=>
  intro os os' ms h hn hq
  obtain⟨o,a⟩:=q
  have hoa:=hq (o,a) (by simp)
  simp only at hoa
  have hf:Zb (os++os') o=some a:=by rw[Vx,hoa]
  obtain⟨m,ms',hp,hr,ho⟩:=h.take hf
  rw[j1q hoa] at ho
  rw[List.map_cons,List.nodup_cons] at hn
  obtain⟨ins,rest,hp2,h1,h2⟩:=ih ho hn.2 (fun q hq'=>by
   rw[j89 (fun he=>hn.1 (by rw[he];exact List.mem_map.2 ⟨q,hq',rfl⟩))]
   exact hq q (by simp[hq']))
  exact⟨m::ins,rest,hp.trans (hp2.cons m),⟨hr,h1⟩,h2⟩
theorem j9a{tl:List Nat}(h:inRw st tl=true): ∀o∈tl,∃a,Zb st.objs o=some a:=by
 induction tl with
 |nil=>simp
 |cons x tl ih=>
  obtain⟨h1,h2⟩:=Qu h
  intro o ho
  rcases List.mem_cons.1 ho with rfl|ho
  ·exact Option.isSome_iff_exists.1 h1
  ·exact ih h2 o ho
theorem w8p{o:Nat}{a b:AO S}(h:Zb st.objs o=some a)(h':obS ro st o=some b):Zb st.objs o=some b:=by
 unfold obS at h'
 rw[h] at h'
 rw[h];exact h'
def Left(ro:Ro S)(st:AS S)(ν:Nm)(w w':World)(ban:List Nat->Bool):Prop:=
 w'=w∨ ∃tl,ban tl=true/\ ∀b o a v,o∉tl->Zb (st.objs++ro.objs) o=some a->v52 a=false->ν o=some v->w8o v=some b->w'.heap[b]? =w.heap[b]?
def j9b(P:Program)(D:Shp S)(cx:Cx)(ν0:Nm)(ro:Ro S)(st:AS S)(n:Nat)(o:Oper)(f:Fr)(w:World)(ν:Nm)(σ:Hv)(ban:List Nat->Bool)(k:List Nat->AS S->Prop):Prop:=
 ∀(KK:Act->World->Prop) (Q:Exit->Act->World->Prop),(∀rd st' f' w' ν' σ' ms',k rd st'->G D cx ν0 ro st' f' w' ν' σ' ms'->Ext ν ν'->Sub σ σ'->(∃v,f'=putF f o.dst v)->Left ro st ν w w' ban->KK (mk n f') w')->o.wp P (mk n f) w KK Q
theorem G.turn{tl:List Nat}{tlo:List (Nat×AO S)}(h:G D cx ν0 ro st f w ν σ ms)(ht:tlo.map (·.1)=tl)(hn:tl.Nodup)(hrw:inRw st tl=true)(hob: ∀q∈tlo,obS ro st q.1=some q.2):
  ∃ins,Objs D ν σ ro.cell tlo ins/\St ⟨w,σ,feet ins⟩ w σ ins/\ ∀{outs:List (Nat×AO S)} {w':World} {σ':Hv} {ν':Nm} {ms':List HObj} {nx:Nat},Ext ν ν'->(∀o,nx<=o->ν' o=none)->St ⟨w,σ,feet ins⟩ w' σ' ms'->Objs D ν' σ' ro.cell outs ms'->
   Sub σ σ'/\(∃ms2,G D cx ν0 ro {slots:=st.slots,objs:=outs++Bt st.objs tl,next:=nx} f w' ν' σ' ms2)/\ ∀b o a v,o∉tl->Zb (st.objs++ro.objs) o=some a->v52 a=false->ν o=some v->w8o v=some b->w'.heap[b]? =w.heap[b]? :=by
 subst ht
 obtain⟨ins,rest,hp,h1,h2⟩:=h.objs.takes hn (fun q hq=>by
  obtain⟨a,ha⟩:=j9a hrw q.1 (List.mem_map.2 ⟨q,hq,rfl⟩)
  exact w8p ha (hob q hq))
 have hS:=h.mem.perm hp
 refine⟨ins,h1,hS.inner,fun {outs w' σ' ν' ms' nx} hext hfr hS' ho'=> ?_⟩
 have hsub:Sub σ σ':=hS'.sub
 refine⟨hsub,⟨ms'++rest,hS.callM hS' rfl,?_,fun j=>(h.slots j).mono hext hsub,hfr,h.ext.trans hext,z5z h.glob hsub⟩,fun b o a v ho hf ha hv hb=> ?_⟩
 ·rw[List.append_assoc]
  exact ho'.append (h2.mono hext hsub)
 ·have hf2:Zb (Bt st.objs (tlo.map (·.1))++ro.objs) o=some a:=by
   rw[Vx,z23 ho,←Vx];exact hf
  obtain⟨m,hm,hr⟩:=h2.find hf2
  have hmo:=hS.own m (by simp[hm])
  have hmb:=hr.foot' hmo ha hv hb
  refine hS'.keeps.block b (m.lt w b hmo hmb) fun hmem=> ?_
  obtain⟨m',hm',hmb'⟩:=q0n.1 hmem
  exact (List.pairwise_append.1 hS.sep).2.2 m' hm' m hm b hmb' hmb
theorem v2k{o:Oper}{ban:List Nat->Bool}{k:List Nat->AS S->Prop}(hP:D.OkP P)(h:G D cx ν0 ro st f w ν σ ms)
  (hk:U1 P D (evS n ro st) (obS ro st) st.next o.op fun tl outs sv=>bif inRw st tl && ban tl then
    (match sv with
    |some s=>putS ro {slots:=st.slots,objs:=outs++Bt st.objs tl,next:=st.next+1} o.dst s (k [])
    |none=>bif o.dst.isNone then k [] {slots:=st.slots,objs:=outs++Bt st.objs tl,next:=st.next+1} else False) else False):
  j9b P D cx ν0 ro st n o f w ν σ ban k:=by
 intro KK Q hKK
 obtain⟨oh,kn,_⟩:=h.kn (n:=n)
 obtain⟨tl,outs,sv,tlo,hK,ht,hn,hob,hrun⟩:=v8k (f:=f) hP (h.fresh _ (Nat.le_refl _)) h.mem.view kn hk
 obtain⟨hc,hK⟩:=Jc hK
 obtain⟨hrw,hban⟩:=Qu hc
 obtain⟨ins,h1,h2,h3⟩:=h.turn ht hn hrw hob
 obtain⟨w',σ',ν',ms',x,hr,hext,hnew,hS',ho',hx⟩:=hrun ins h1 h2 o rfl
 have hfr: ∀m,st.next+1<=m->ν' m=none:=by
  intro m hm
  rcases hq:ν' m with _|u
  ·rfl
  ·rcases hnew m u hq with h4|h4
   ·rw[h.fresh m (by omega)] at h4;cases h4
   ·omega
 obtain⟨hsub,⟨ms2,hG⟩,hleft⟩:=h3 hext hfr hS' ho'
 unfold Oper.wp
 rw[U6,hr]
 cases sv with
 |none=>
  obtain⟨hd,hK⟩:=Jc hK
  have hx':x= .skip:=hx
  subst hx'
  show KK ((mk n f).put o.dst undef) w'
  have hd':o.dst=none:=by simpa using hd
  rw[z1i]
  refine hKK [] _ _ w' ν' σ' ms2 hK ?_ hext hsub ⟨undef,rfl⟩ (.inr ⟨tl,hban,hleft⟩)
  rw[hd'];exact hG
 |some s=>
  obtain⟨v,rfl,hs⟩:=hx
  show KK ((mk n f).put o.dst v) w'
  rw[z1i]
  obtain⟨st',hk',_,_,hG'⟩:=hG.put hs hK
  exact hKK [] st' _ w' ν' σ' ms2 hk' hG' hext hsub ⟨v,rfl⟩ (.inr ⟨tl,hban,hleft⟩)
theorem w8q{o:Oper}{ban:List Nat->Bool}{k:List Nat->AS S->Prop}(hP:D.OkP P)(h:G D cx ν0 ro st f w ν σ ms)
  (hk:Jb P D (evS n ro st) (obS ro st) ro.cell o.op fun rd s=>putS ro st o.dst s (k rd)):j9b P D cx ν0 ro st n o f w ν σ ban k:=by
 intro KK Q hKK
 obtain⟨oh,kn,hms⟩:=h.kn (n:=n)
 obtain⟨rd,s,v,hK,hs,hrun⟩:=w1l hP kn hk
 obtain⟨st',hk',_,_,hG'⟩:=h.put hs hK
 have hr:=hrun w o rfl h.mem.view (fun o _ a ha=>h.mem.own _ (hms o a ha))
 unfold Oper.wp
 rw[U6,hr]
 show KK ((mk n f).put o.dst v) w
 rw[z1i]
 exact hKK rd st' _ w ν σ ms hk' hG' (Ext.refl _) (Sub.refl _) ⟨v,rfl⟩ (.inl rfl)
theorem v2l{o:Oper}{ban:List Nat->Bool}{k:List Nat->AS S->Prop}(h:G D cx ν0 ro st f w ν σ ms)
  (hk:wrpS (evS n ro st) o.op fun s=>putS ro st o.dst s (k [])):j9b P D cx ν0 ro st n o f w ν σ ban k:=by
 intro KK Q hKK
 obtain⟨oh,kn,hms⟩:=h.kn (n:=n)
 obtain⟨rd,s,v,hK,hs,hrun⟩:=v8g (P:=P) kn hk
 obtain⟨st',hk',_,_,hG'⟩:=h.put hs hK
 have hr:=hrun w o rfl h.mem.view (fun o _ a ha=>h.mem.own _ (hms o a ha))
 unfold Oper.wp
 rw[U6,hr]
 show KK ((mk n f).put o.dst v) w
 rw[z1i]
 exact hKK [] st' _ w ν σ ms hk' hG' (Ext.refl _) (Sub.refl _) ⟨v,rfl⟩ (.inl rfl)
theorem j1r{ops:Array Oper}{o:Oper}{j d:Nat}{want b:Bool}(hg:o.guard=some (j,want))(hj:(ops[j]?).bind (·.dst)=some d)(hv:ev n f (.tmp d)= .bool b):Region.wanted o (yielded ops (mk n f).tmps)=(b==want):=by
 have h2:(mk n f).tmps.getD d undef= .bool b:=z87 hv
 have h3:(mk n f).tmps[d]? =some (.bool b):=by
  rw[Array.getD_eq_getD_getElem?] at h2
  cases hx:(mk n f).tmps[d]? with
  |none=>rw[hx] at h2;cases h2
  |some x=>rw[hx] at h2;exact congrArg some h2
 simp[Region.wanted,hg,yielded,hj,h3]
theorem w5m{ops:Array Oper}{o:Oper}{j d:Nat}{want:Bool}(hg:o.guard=some (j,want))(hj:(ops[j]?).bind (·.dst)=some d)(hv:ev n f (.tmp d)=undef):Region.wanted o (yielded ops (mk n f).tmps)=false:=by
 have h2:(mk n f).tmps.getD d undef=undef:=z87 hv
 have h3:(mk n f).tmps[d]? =some undef∨(mk n f).tmps[d]? =none:=by
  rw[Array.getD_eq_getD_getElem?] at h2
  cases hx:(mk n f).tmps[d]? with
  |none=>right;rfl
  |some x=>rw[hx] at h2;left;exact congrArg some h2
 rcases h3 with h3|h3<;>simp[Region.wanted,hg,yielded,hj,h3,undef]
theorem G.lit{d:Nat}{b:Bool}(h:G D cx ν0 ro st f w ν σ ms)(hv:ev n f (.tmp d)= .bool b):G D cx ν0 ro {st with slots:=updS st.slots d (.lit b)} f w ν σ ms:=by
 refine⟨h.mem,h.objs,fun j=> ?_,h.fresh,h.ext,h.glob⟩
 unfold q4t updS
 have:=h.slots j
 unfold q4t at this
 cases hl:hasN ro.lock j with
 |true=>rw[hl] at this;exact this
 |false=>
  rw[hl] at this
  simp only[cond_false]
  cases hj:Nat.beq j d with
  |false=>exact this
  |true=>
   have:=Nat.eq_of_beq_eq_true hj
   subst this
   simp only[ev] at hv
   cases hb:Nat.blt j n with
   |true=>rw[hb] at hv;simp only[cond_true] at hv;rw[hv];exact .lit b
   |false=>rw[hb] at hv;cases hv
theorem j6p{ops:Array Oper}{o:Oper}{yes no:AS S->Prop}(h:G D cx ν0 ro st f w ν σ ms)(hg:j86 n ro ops st o yes no):
  (Region.wanted o (yielded ops (mk n f).tmps)=true/\ ∃st1,yes st1/\st1.objs=st.objs/\G D cx ν0 ro st1 f w ν σ ms)∨(Region.wanted o (yielded ops (mk n f).tmps)=false/\ ∃st1,no st1/\st1.objs=st.objs/\G D cx ν0 ro st1 f w ν σ ms):=by
 unfold j86 at hg
 split at hg
 ·rename_i hgd
  exact .inl ⟨by simp[Region.wanted,hgd],st,hg,rfl,h⟩
 ·rename_i j want hgd
  split at hg
  ·exact hg.elim
  ·rename_i d hj
   have hd:=w8n (n:=n) h.slots h.glob (.tmp d)
   have two: ∀(b:Bool),ev n f (.tmp d)= .bool b->(bif b==want then yes {st with slots:=updS st.slots d (.lit b)} else no {st with slots:=updS st.slots d (.lit b)})->
     (Region.wanted o (yielded ops (mk n f).tmps)=true/\ ∃st1,yes st1/\st1.objs=st.objs/\G D cx ν0 ro st1 f w ν σ ms)∨(Region.wanted o (yielded ops (mk n f).tmps)=false/\ ∃st1,no st1/\st1.objs=st.objs/\G D cx ν0 ro st1 f w ν σ ms):=by
    intro b hv hh
    rw[j1r hgd hj hv]
    cases hb:b==want with
    |true=>rw[hb] at hh;exact .inl ⟨rfl,_,hh,rfl,h.lit hv⟩
    |false=>rw[hb] at hh;exact .inr ⟨rfl,_,hh,rfl,h.lit hv⟩
   generalize hvd:ev n f (.tmp d)=v at hd two
   generalize hsd:evS n ro st (.tmp d)=s at hd hg
   cases hd with
   |lit b=>
    simp only at hg
    rw[j1r hgd hj hvd]
    cases hb:b==want with
    |true=>rw[hb] at hg;exact .inl ⟨rfl,st,hg,rfl,h⟩
    |false=>rw[hb] at hg;exact .inr ⟨rfl,st,hg,rfl,h⟩
   |und=>exact .inr ⟨w5m hgd hj hvd,st,hg,rfl,h⟩
   |f hf=>
    cases hf with
    |bool b=>
     refine two b rfl ?_
     cases b with
     |true=>
      have:=hg.1 rfl
      cases want<;>exact this
     |false=>
      have:=hg.2 (by simp)
      cases want<;>exact this
    |_=>exact hg.elim
   |pb p dp=>
    refine two _ rfl ?_
    by_cases hp:p
    ·have:=hg.1 hp
     simp only[hp,decide_true]
     cases want<;>exact this
    ·have:=hg.2 hp
     simp only[hp,decide_false]
     cases want<;>exact this
   |pbn p dp=>
    refine two _ rfl ?_
    by_cases hp:p
    ·have:=hg.1 hp
     simp only[hp,decide_true,Bool.not_true]
     cases want<;>exact this
    ·have:=hg.2 hp
     simp only[hp,decide_false,Bool.not_false]
     cases want<;>exact this
   |_=>exact hg.elim
def StH(E:Ev S)(inlh:InlH S)(n:Nat)(C:Ro S->Prop):Prop:=
 ∀{cx:Cx} {ν0:Nm} {ro:Ro S} {st:AS S} {f:Fr} {w:World} {ν:Nm} {σ:Hv} {ms:List HObj} {o:Oper} {ban:List Nat->Bool} {k:List Nat->AS S->Prop},C ro->
  w5j E inlh n ro st ban o k->G E.D cx ν0 ro st f w ν σ ms->j9b E.P E.D cx ν0 ro st n o f w ν σ ban k
theorem v8n{E:Ev S}{inlh:InlH S}{C:Ro S->Prop}(hst:StH E inlh n C)(hro:C ro){ops:Array Oper}{Q:Exit->Act->World->Prop}{k:AS S->Prop}: ∀{l:List Oper} {st:AS S} {f:Fr} {w:World} {ν:Nm} {σ:Hv} {ms:List HObj},opsS E inlh n ro ops l st k->G E.D cx ν0 ro st f w ν σ ms->
  (∀st' f' w' ν' σ' ms',k st'->G E.D cx ν0 ro st' f' w' ν' σ' ms'->Q .normal (mk n f') w')->wpList E.P ops Q l (mk n f) w:=by
 intro l
 induction l with
 |nil=>intro st f w ν σ ms h hG hQ;exact hQ _ _ _ _ _ _ h hG
 |cons o l ih=>
  intro st f w ν σ ms h hG hQ
  simp only[opsS] at h
  unfold wpList
  rcases j6p hG h with ⟨hw,st1,hy,_,hG1⟩|⟨hw,st1,hno,_,hG1⟩
  ·rw[if_pos hw]
   exact .inl (hst hro hy hG1 _ _ fun rd st' f' w' ν' σ' ms' hk hG' _ _ _ _=>ih hk hG' hQ)
  ·rw[if_neg (by rw[hw];simp),z1i]
   obtain⟨st2,hk,_,_,hG2⟩:=hG1.put (v:=undef) .und hno
   exact ih hk hG2 hQ
end Go.Fx
end
noncomputable section
set_option maxRecDepth 100000
namespace Go.Fx
open Go Go.RowKit Go.Fl Go.Fl.Lk
variable {S:Sig}{P:Program}{D:Shp S}{ν ν' ν0:Nm}{σ τ:Hv}{n:Nat}{f:Fr}
variable {w:World}{cx:Cx}{ro:Ro S}{st:AS S}{ms:List HObj}{ops:Array Oper}{Q:Exit->Act->World->Prop}
def Eqv(R:Nat->Prop)(w w':World):Prop:= ∀b,R b->w'.heap[b]? =w.heap[b]?
theorem Eqv.trans{R:Nat->Prop}{a b c:World}(h:Eqv R a b)(k:Eqv R b c):Eqv R a c:=fun x hx=>(k x hx).trans (h x hx)
abbrev Prot:=List (Nat×(Nat->Prop))
def wpK(P:Program)(ops:Array Oper)(Q:Exit->Act->World->Prop):Nat->Array Bool->Prot->Act->World->Prop
 |0,listed,_,a,w=>Region.ready .any ops listed=[]/\Q .normal a w
 |fuel+1,listed,prot,a,w=>(Region.ready .any ops listed=[]->Q .normal a w)/\
  ∀j∈Region.ready .any ops listed,wpOp P ops Q j (fun a' w'=>(∀q∈prot,depD ops j q.1=false->Eqv q.2 w w')/\wpK P ops Q fuel (listed.setIfInBounds j true) (prot.filter fun q=> !depD ops j q.1) a' w') a w
theorem w8r: ∀(fuel:Nat) (listed:Array Bool) (prot:Prot) (a:Act) (w:World),wpK P ops Q fuel listed prot a w->wpAny P .any ops Q fuel listed a w
 |0,_,_,_,_,h=>h
 |fuel+1,_,_,_,_,h=>⟨h.1,fun i hi=>wpOp_mono (fun a w hk=>w8r fuel _ _ a w hk.2) (h.2 i hi)⟩
theorem w4d: ∀(fuel:Nat) (listed:Array Bool) (prot prot':Prot) (a:Act) (w:World),(∀q∈prot,q∈prot')->wpK P ops Q fuel listed prot' a w->wpK P ops Q fuel listed prot a w
 |0,_,_,_,_,_,_,h=>h
 |fuel+1,_,prot,prot',_,_,hs,h=>⟨h.1,fun i hi=>wpOp_mono (fun a w hk=>⟨fun q hq=>hk.1 q (hs q hq),w4d fuel _ _ _ a w (fun q hq=>by
   simp only[List.mem_filter] at hq⊢
   exact⟨hs q hq.1,hq.2⟩) hk.2⟩) (h.2 i hi)⟩
theorem v54{j i:Nat}{oj:Oper}(hj:ops[j]? =some oj)(h: ∀e∈oj.after,Region.binds .any e=true->e.on≠i):depQ ops j i=false:=by
 unfold depQ
 rw[hj]
 simp only[Array.any_eq_false]
 intro k hk
 cases hb:Region.binds .any (oj.after[k]) with
 |false=>simp
 |true=>
  cases hq:Nat.beq (oj.after[k]).on i with
  |false=>simp
  |true=>exact absurd (Nat.eq_of_beq_eq_true hq) (h _ (by simp) hb)
def Closed(ops:Array Oper)(l:Array Bool):Prop:= ∀j oj,ops[j]? =some oj->l.getD j false=true-> ∀e∈oj.after,Region.binds .any e=true->l.getD e.on false=true
theorem Closed.set{l:Array Bool}{j:Nat}(hc:Closed ops l)(hr:j∈Region.ready .any ops l):Closed ops (l.setIfInBounds j true):=by
 obtain⟨_,oj,hoj,hall⟩:=mem_ready.1 hr
 intro k ok hk hl e he hb
 refine getD_set_true ?_
 by_cases hjk:j=k
 ·subst hjk
  rw[hoj] at hk;cases hk
  exact hall e he hb
 ·rw[getD_set_ne false hjk] at hl
  exact hc k ok hk hl e he hb
theorem w1p{m:Nat}:Closed ops (bt m 0):=by
 intro j oj _ hl
 rw[←w7r] at hl
 rcases Nat.lt_or_ge j m with h|h
 ·simp[h] at hl
 ·simp[Array.getElem?_eq_none (show (Array.replicate m false).size<=j by simpa using h)] at hl
theorem v8o{l:Array Bool}{i k:Nat}(hi:l.getD i true=false)(hk:l.getD k false=true):k≠i:=by
 rintro rfl
 rcases Nat.lt_or_ge k l.size with h'|h'
 ·simp[h'] at hi hk;rw[hi] at hk;cases hk
 ·simp[Array.getElem?_eq_none h'] at hk
theorem w1q{f:Nat->Bool}: ∀{l:List Nat},(∀m∈l,f m=false)->anyN f l=false
 |[],_=>rfl
 |m::l,h=>by
  unfold anyN
  rw[h m (by simp)]
  exact w1q fun m hm=>h m (by simp[hm])
theorem w8s{l:Array Bool}(hc:Closed ops l){i:Nat}(hi:l.getD i true=false): ∀(k j:Nat),(∀oj,ops[j]? =some oj-> ∀e∈oj.after,Region.binds .any e=true->l.getD e.on false=true)->depT ops k j i=false:=by
 intro k
 have base: ∀j,(∀oj,ops[j]? =some oj-> ∀e∈oj.after,Region.binds .any e=true->l.getD e.on false=true)->depQ ops j i=false:=by
  intro j hall
  cases ho:ops[j]? with
  |none=>simp[depQ,ho]
  |some oj=>exact v54 ho fun e he hb=>v8o hi (hall oj ho e he hb)
 induction k with
 |zero=>exact base
 |succ k ih=>
  intro j hall
  unfold depT
  rw[base j hall]
  refine w1q fun m hm=>ih m fun om hom e he hb=> ?_
  unfold v4j at hm
  cases ho:ops[j]? with
  |none=>rw[ho] at hm;cases hm
  |some oj=>
   rw[ho] at hm
   obtain⟨e',he',rfl⟩:=List.mem_map.1 hm
   obtain⟨he',hg⟩:=List.mem_filter.1 he'
   refine hc _ om hom (hall oj ho e' (Array.mem_toList_iff.1 he') ?_) e he hb
   unfold Region.binds
   split at hg
   ·rename_i hgd;rw[hgd]
   ·cases hg
theorem v55{l:Array Bool}(hc:Closed ops l){i:Nat}(hi:l.getD i true=false)(j:Nat)(hall: ∀oj,ops[j]? =some oj-> ∀e∈oj.after,Region.binds .any e=true->l.getD e.on false=true):depD ops j i=false:=by
 unfold depD
 rw[w8s hc hi _ j hall]
 refine w1q fun m hm=>w8s hc hi _ m fun om hom e he hb=> ?_
 unfold w8i at hm
 cases ho:ops[j]? with
 |none=>rw[ho] at hm;cases hm
 |some oj=>
  rw[ho] at hm
  obtain⟨e',he',rfl⟩:=List.mem_map.1 hm
  obtain⟨he',hg⟩:=List.mem_filter.1 he'
  refine hc _ om hom (hall oj ho e' (Array.mem_toList_iff.1 he') ?_) e he hb
  unfold Region.binds
  split at hg
  ·rename_i hgd;rw[hgd]
  ·cases hg
theorem j9c{R:Nat->Prop}{w0:World}{i:Nat}{oi:Oper}{v:Value}(hi:ops[i]? =some oi)(hsel: ∀(j:Nat) (o:Oper) cs b,ops[j]? =some o->o.op≠ .select cs b)(hQ: ∀c a w,¬Q (.panic c) a w):
  ∀(fuel:Nat) (listed:Array Bool) (prot:Prot) (a:Act) (w:World),Closed ops listed->Eqv R w0 w->
   (∀j oj,ops[j]? =some oj->j≠i->listed.getD j true=false->(∀e∈oj.after,Region.binds .any e=true->e.on≠i)->oi.apart ops oj=true)->
   i∈Region.ready .any ops listed->Still P ops (Eqv R w0) i oi v a->wpK P ops Q fuel (listed.setIfInBounds i true) ((i,R)::prot) (a.put oi.dst v) w->wpK P ops Q (fuel+1) listed prot a w:=by
 have same: ∀(fuel:Nat) (listed:Array Bool) (prot:Prot) (a:Act) (w:World),Eqv R w0 w->Still P ops (Eqv R w0) i oi v a->wpK P ops Q fuel (listed.setIfInBounds i true) ((i,R)::prot) (a.put oi.dst v) w->
   wpOp P ops Q i (fun a' w'=>(∀q∈prot,depD ops i q.1=false->Eqv q.2 w w')/\wpK P ops Q fuel (listed.setIfInBounds i true) (prot.filter fun q=> !depD ops i q.1) a' w') a w:=by
  intro fuel listed prot a w hJ hy H
  refine j49 (hy w hJ _ ⟨fun q _ _ b _=>rfl,w4d _ _ _ _ _ _ (fun q hq=> ?_) H⟩)
  exact List.mem_cons_of_mem _ (List.mem_filter.1 hq).1
 intro fuel
 induction fuel with
 |zero=>
  intro listed prot a w _ hJ _ hr hy H
  refine⟨fun h=>(by rw[h] at hr;cases hr),fun j hj=> ?_⟩
  by_cases hji:j=i
  ·subst hji;exact same 0 listed prot a w hJ hy H
  ·have:=ready_mono hj hji
   rw[H.1] at this
   cases this
 |succ fuel ih=>
  intro listed prot a w hcl hJ hfree hr hy H
  refine⟨fun h=>(by rw[h] at hr;cases hr),fun j hj=> ?_⟩
  by_cases hji:j=i
  ·subst hji;exact same (fuel+1) listed prot a w hJ hy H
  ·have h1:=H.2 j (ready_mono hj hji)
   obtain⟨hjun,oj,hoj,hall⟩:=mem_ready.1 hj
   have hnot: ∀e∈oj.after,Region.binds .any e=true->e.on≠i:=fun e he hb heq=>by
    have h1:=hall e he hb
    have h0:=(mem_ready.1 hr).1
    rw[heq] at h1
    rcases Nat.lt_or_ge i listed.size with h'|h'
    ·simp[h'] at h0 h1;rw[h0] at h1;cases h1
    ·simp[Array.getElem?_eq_none h'] at h1
   have hdep:depD ops j i=false:=v55 hcl (mem_ready.1 hr).1 j fun o ho=>by rw[hoj] at ho;cases ho;exact hall
   have h2:=w7o hi hoj (hfree j oj hoj hji hjun hnot) (fun cs b=>hsel i oi cs b hi) (fun cs b=>hsel j oj cs b hoj) (fun c a w h=>absurd h (hQ _ _ _)) hy h1
   have hfree': ∀k ok,ops[k]? =some ok->k≠i->(listed.setIfInBounds j true).getD k true=false->
     (∀e∈ok.after,Region.binds .any e=true->e.on≠i)->oi.apart ops ok=true:=fun k ok hk hki hun hno=>by
    refine hfree k ok hk hki ?_ hno
    by_cases hjk:j=k
    ·subst hjk;exact hjun
    ·rw[getD_set_ne true hjk] at hun;exact hun
   refine wpOp_mono (fun a' w' h3=> ?_) h2
   obtain⟨hst,hpr,hwp⟩:=h3
   refine⟨fun q hq hd=>hpr q (List.mem_cons_of_mem _ hq) hd,ih (listed.setIfInBounds j true) _ a' w' (hcl.set hj) (hJ.trans (hpr (i,R) (by simp) hdep)) hfree' (ready_mono hr (Ne.symm hji)) hst ?_⟩
   rw[Array.setIfInBounds_comm _ _ hji]
   rw[List.filter_cons_of_pos (by simp[hdep])] at hwp
   exact hwp
theorem j9d{m mask:Nat}{isP:Oper->Bool}: ∀{rs:List Nat} {i:Nat},w4b ops m mask isP rs=some i->i∈rs/\ ∃o,ops[i]? =some o/\isP o=true/\o.dst.isSome=true/\Region.free .any ops (bt m mask) i=true
 |[],_,h=>by cases h
 |x::rs,i,h=>by
  simp only[w4b] at h
  split at h
  case h_2=>cases h
  rename_i o ho
  cases hc:(isP o && o.dst.isSome && Region.free .any ops (bt m mask) x) with
  |true=>
   rw[hc] at h;cases h
   obtain⟨hc,h3⟩:=Qu hc
   obtain⟨h1,h2⟩:=Qu hc
   exact⟨by simp,o,ho,h1,h2,h3⟩
  |false=>
   rw[hc] at h
   obtain⟨h1,h2⟩:=j9d h
   exact⟨by simp[h1],h2⟩
theorem w4e{g:Nat->Prop}: ∀{l:List Nat},allR g l-> ∀i∈l,g i
 |[],_,i,hi=>by cases hi
 |[x],h,i,hi=>by simp at hi;subst hi;exact h
 |x::y::l,h,i,hi=>by
  rcases List.mem_cons.1 hi with rfl|hi
  ·exact h.1
  ·exact w4e (l:=y::l) h.2 i hi
def PR(ν:Nm)(σ:Hv)(w:World)(a:Nat×List Nat)(q:Nat×(Nat->Prop)):Prop:=
 q.1=a.1/\ ∀b,q.2 b->b<w.heap.size/\(σ b≠none∨ ∃o∈a.2,∃v,ν o=some v/\w8o v=some b)
def PRs(ν:Nm)(σ:Hv)(w:World)(l:List (Nat×List Nat))(l':Prot):Prop:= ∀q∈l',∃a∈l,PR ν σ w a q
theorem PRs.mono{l:List (Nat×List Nat)}{l':Prot}{w':World}(h:PRs ν σ w l l')(hn:Ext ν ν')(hs:Sub σ τ)(hw:w.heap.size<=w'.heap.size):PRs ν' τ w' l l':=fun q hq=>by
 obtain⟨a,ha,h1,h2⟩:=h q hq
 refine⟨a,ha,h1,fun b hb=>⟨Nat.lt_of_lt_of_le (h2 b hb).1 hw,(h2 b hb).2.imp (fun h1 h2=> ?_) fun ⟨o,ho,v,hv,hf⟩=>⟨o,ho,v,hn _ _ hv,hf⟩⟩⟩
 cases hq:σ b with
 |none=>exact h1 hq
 |some x=>rw[hs b x hq] at h2;cases h2
theorem PRs.filter{j:Nat}{l:List (Nat×List Nat)}{l':Prot}(h:PRs ν σ w l l'):PRs ν σ w (v5y ops j l) (l'.filter fun q=> !depD ops j q.1):=fun q hq=>by
 obtain⟨hq,hd⟩:=List.mem_filter.1 hq
 obtain⟨a,ha,hp⟩:=h q hq
 exact⟨a,List.mem_filter.2 ⟨ha,by rw[←hp.1];exact hd⟩,hp⟩
theorem PRs.sub{l:List (Nat×List Nat)}{l' l'':Prot}(h:PRs ν σ w l l')(hs: ∀q∈l'',q∈l'):PRs ν σ w l l'':=fun q hq=>h q (hs q hq)
theorem w8t{t:TypeId}{e:Operand->SV S}{ob:Nat->Option (AO S)}{nx:Nat}{K:List Nat->List (Nat×AO S)->Option (SV S)->Prop}(h:U1 P D e ob nx (.alloc t) K):
  ∃a,zAO P D t=some a/\K [] [(nx,a)] (some (.ref nx 0)):=by
 simp only[U1] at h
 unfold zAO
 split at h
 ·rename_i T N ha
  rw[ha]
  exact⟨_,rfl,h⟩
 ·rename_i ha
  rw[ha]
  split at h
  case h_2=>exact h.elim
  rename_i z hz
  rw[hz]
  obtain⟨hz1,h⟩:=Jc h
  exact⟨_,by simp only[hz1,cond_true],h⟩
theorem w8u{t:TypeId}{a:AO S}(hP:D.OkP P)(hz:zAO P D t=some a): ∃(cs:Array Value),(∀(r:Operand->Value) (oo:Oper) (w:World),oo.op= .alloc t->(execOp r oo).run P w= .ok (.value (.pointer (some ⟨w.heap.size,0,none⟩))) (w.alloc (.cells cs t)))/\
  ∀(ν:Nm) (σ:Hv) (nx b:Nat) (lkc:Nat->Nat->SV S),ν nx=some (.pointer (some ⟨b,0,none⟩))->ORep D ν σ lkc nx a (blk b t cs.toList):=by
 unfold zAO at hz
 split at hz
 ·rename_i T N ha
  cases hz
  obtain⟨cs,hz,hE⟩:=hP.arr _ _ _ ha
  exact⟨cs.toArray,fun r oo w hoo=>by simp[execOp,hoo,Instr.alloc,hz,newVar,newRow,newObj,Sem.run];try rfl,fun ν σ nx b lkc hn=>⟨_,_,hn,by simp,hE σ,by simp⟩⟩
 ·split at hz
  case h_2=>cases hz
  rename_i z hzi
  cases hz1:z.cells.toList.all isZ with
  |false=>rw[hz1] at hz;cases hz
  |true=>
   rw[hz1] at hz;cases hz
   have hzr: ∀w,(zeroValue t).run P w= .ok z w:=by
    intro w
    obtain⟨i,hi,hz⟩:=Option.bind_eq_some_iff.1 hzi
    simp[zeroValue,typeInfo,hi,hz]
   refine⟨z.cells,fun r oo w hoo=>by simp[execOp,hoo,Instr.alloc,hzr,newVar,newRow,newObj,Sem.run];try rfl,fun ν σ nx b lkc hn=>⟨_,_,hn,rfl,?_⟩⟩
   have hr:=j0k (D:=D) (ν:=ν) (σ:=σ) hz1
   rw[j1i hr];exact hr
structure LateOk(P:Program)(D:Shp S)(ro:Ro S)(ops:Array Oper)(i:Nat)(o:Oper)(t d:Nat):Prop where
 z: ∃a,zAO P D t=some a
 at_:ops[i]? =some o
 op:o.op= .alloc t
 dst:o.dst=some d
 lock:hasN ro.lock d=false
 guard:o.guard=none
 after:o.after.toList=[]
 only: ∀j oj,ops[j]? =some oj->oj.dst=some d->j=i
theorem w8v{i:Nat}(h:w8j P D ro ops i=true): ∃o t d,LateOk P D ro ops i o t d:=by
 unfold w8j at h
 split at h
 case h_2=>cases h
 rename_i o ho
 split at h
 case h_2=>cases h
 rename_i t d hop hd
 obtain⟨h,h4⟩:=Qu h
 obtain⟨h,h3⟩:=Qu h
 obtain⟨h,h2⟩:=Qu h
 obtain⟨h0,h1⟩:=Qu h
 refine⟨o,t,d,Option.isSome_iff_exists.1 h0,ho,hop,hd,by simpa using h1,by simpa using h2,List.isEmpty_iff.1 h3,fun j oj hj hdj=> ?_⟩
 have hlt:j<ops.size:=by
  rcases Nat.lt_or_ge j ops.size with h'|h'
  ·exact h'
  ·rw[Array.getElem?_eq_none h'] at hj;cases hj
 have:=List.all_eq_true.1 h4 j (List.mem_range.2 hlt)
 rw[hj] at this
 simp only[Option.bind_some,hdj] at this
 rcases Bool.or_eq_true_iff.1 this with e|e
 ·exact Nat.eq_of_beq_eq_true e
 ·simp at e
def Lts(P:Program)(D:Shp S)(ro:Ro S)(ops:Array Oper)(L:List Nat):Prop:= ∀i∈L,∃o t d,LateOk P D ro ops i o t d
theorem j0m{l:List Nat}{x:Nat}:hasN l x=true↔x∈l:=by
 induction l with
 |nil=>simp[hasN]
 |cons a l ih=>
  unfold hasN
  cases h:Nat.beq a x with
  |true=>simp[Nat.eq_of_beq_eq_true h]
  |false=>
   rw[cond_false,ih,List.mem_cons]
   refine⟨.inr,fun h'=>h'.resolve_left fun e=> ?_⟩
   subst e
   simp at h
theorem z7y{L:List Nat}: ∀{st:AS S},(z7u ops L st).objs=st.objs/\(z7u ops L st).next=st.next/\ ∀j,(z7u ops L st).slots j=st.slots j∨(z7u ops L st).slots j= .dead:=by
 induction L with
 |nil=>exact⟨rfl,rfl,fun _=> .inl rfl⟩
 |cons i L ih=>
  intro st
  unfold z7u
  split
  ·rename_i d _
   split
   ·exact ih
   ·obtain⟨h1,h2,h3⟩:=ih (st:={st with slots:=updS st.slots d .dead})
    refine⟨h1,h2,fun j=> ?_⟩
    rcases h3 j with e|e
    ·rw[e]
     show (bif Nat.beq j d then SV.dead else st.slots j)=st.slots j∨(bif Nat.beq j d then SV.dead else st.slots j)= .dead
     cases Nat.beq j d with
     |true=>exact .inr rfl
     |false=>exact .inl rfl
    ·exact .inr e
  ·exact ih
theorem z24{L:List Nat}: ∀{st:AS S} {i:Nat} {o:Oper} {d:Nat},i∈L->ops[i]? =some o->o.dst=some d->(z7u ops L st).slots d= .dead:=by
 induction L with
 |nil=>intro st i o d hi;cases hi
 |cons x L ih=>
  intro st i o d hi ho hd
  rcases List.mem_cons.1 hi with rfl|hi
  ·unfold z7u
   rw[ho]
   simp only[Option.bind_some,hd]
   split
   ·rename_i hdead
    rcases (z7y (ops:=ops) (L:=L) (st:=st)).2.2 d with e|e
    ·rw[e];exact hdead
    ·exact e
   ·rcases (z7y (ops:=ops) (L:=L) (st:={st with slots:=updS st.slots d .dead})).2.2 d with e|e
    ·rw[e];simp[updS]
    ·exact e
  ·unfold z7u
   split
   ·split
    ·exact ih hi ho hd
    ·exact ih hi ho hd
   ·exact ih hi ho hd
theorem G.dead{L:List Nat}(h:G D cx ν0 ro st f w ν σ ms):G D cx ν0 ro (z7u ops L st) f w ν σ ms:=by
 obtain⟨h1,h2,h3⟩:=z7y (ops:=ops) (L:=L) (st:=st)
 refine⟨h.mem,by rw[h1];exact h.objs,fun j=> ?_,by rw[h2];exact h.fresh,h.ext,h.glob⟩
 have:=h.slots j
 unfold q4t at this⊢
 cases hl:hasN ro.lock j with
 |true=>rw[hl] at this;exact this
 |false=>
  rw[hl] at this
  simp only[cond_false] at this⊢
  rcases h3 j with e|e
  ·rw[e];exact this
  ·rw[e];exact .dead _
theorem w8w{m k j:Nat}:(bt m k).getD j false=true↔j<m/\k.testBit j=true:=by
 rcases Nat.lt_or_ge j m with h|h
 ·simp[bt,h]
 ·simp[bt,show ¬j<m by omega]
theorem w8x{m mask i j:Nat}:(bt m (mask|||1<<<i)).getD j false=true↔(bt m mask).getD j false=true∨(j<m/\j=i):=by
 have hb:(1<<<i).testBit j=true↔i=j:=by rw[Nat.one_shiftLeft];simp[Nat.testBit_two_pow]
 rw[w8w,w8w,Nat.testBit_or,Bool.or_eq_true,hb]
 constructor
 ·rintro⟨h,e|e⟩
  ·exact .inl ⟨h,e⟩
  ·exact .inr ⟨h,e.symm⟩
 ·rintro (⟨h,e⟩|⟨h,e⟩)
  ·exact⟨h,.inl e⟩
  ·exact⟨h,.inr e.symm⟩
theorem w8y{m:Nat}{L:List Nat}: ∀{mask j:Nat},(bt m (orL mask L)).getD j false=true↔(bt m mask).getD j false=true∨(j<m/\j∈L):=by
 induction L with
 |nil=>intro mask j;simp[orL]
 |cons i L ih=>
  intro mask j
  rw[orL,ih,w8x,List.mem_cons]
  constructor
  ·rintro ((h|⟨h,e⟩)|⟨h,e⟩)
   ·exact .inl h
   ·exact .inr ⟨h,.inl e⟩
   ·exact .inr ⟨h,.inr e⟩
  ·rintro (h|⟨h,e|e⟩)
   ·exact .inl (.inl h)
   ·exact .inl (.inr ⟨h,e⟩)
   ·exact .inr ⟨h,e⟩
theorem z9b{l:Array Bool}{j:Nat}:l.getD j true=false↔j<l.size/\ ¬l.getD j false=true:=by
 rcases Nat.lt_or_ge j l.size with h|h
 ·simp[h]
 ·simp[Array.getElem?_eq_none h];omega
def unl(l:Array Bool):Nat:=(List.range l.size).countP fun j=> !l.getD j false
theorem w4f{p q:Nat->Bool}{j:Nat}: ∀{l:List Nat},(∀x,p x=true->q x=true)->j∈l->q j=true->p j=false->l.countP p<l.countP q
 |[],_,h,_,_=>by cases h
 |a::l,hpq,h,h1,h2=>by
  have hle:l.countP p<=l.countP q:=List.countP_mono_left fun x _ hx=>hpq x hx
  by_cases ha:a=j
  ·subst ha
   rw[List.countP_cons_of_neg (by simp[h2]),List.countP_cons_of_pos h1];omega
  ·have:=w4f (l:=l) hpq ((List.mem_cons.1 h).resolve_left fun e=>ha e.symm) h1 h2
   by_cases hp:p a=true
   ·rw[List.countP_cons_of_pos hp,List.countP_cons_of_pos (hpq a hp)];omega
   ·rw[List.countP_cons_of_neg hp]
    by_cases hq:q a=true
    ·rw[List.countP_cons_of_pos hq];omega
    ·rw[List.countP_cons_of_neg hq];exact this
theorem z7z{l:Array Bool}{j:Nat}(h:l.getD j true=false):unl (l.setIfInBounds j true)<unl l:=by
 obtain⟨h1,h2⟩:=z9b.1 h
 unfold unl
 rw[Array.size_setIfInBounds]
 refine w4f (j:=j) (fun x hx=> ?_) (List.mem_range.2 h1) (by simpa using h2) ?_
 ·cases hq:l.getD x false with
  |false=>rfl
  |true=>rw[getD_set_true hq] at hx;cases hx
 ·simp[h1]
structure Lst(m mask:Nat)(L:List Nat)(pend:List Nat)(lc:Array Bool):Prop where
 size:lc.size=m
 at_: ∀j,lc.getD j false=true↔(bt m mask).getD j false=true∨j∈pend
 sub: ∀i∈pend,i∈L
 not: ∀i∈L,i<m/\ ¬(bt m mask).getD i false=true
 one:L.Nodup
 pone:pend.Nodup
variable {m mask fuel:Nat}{L pend:List Nat}{lc:Array Bool}
theorem Lst.un(h:Lst m mask L pend lc){j:Nat}:lc.getD j true=false↔(bt m mask).getD j true=false/\j∉pend:=by
 rw[z9b,z9b,h.size,show (bt m mask).size=m by simp[bt],h.at_]
 constructor
 ·rintro⟨a,b⟩
  exact⟨⟨a,fun c=>b (.inl c)⟩,fun c=>b (.inr c)⟩
 ·rintro⟨⟨a,b⟩,c⟩
  exact⟨a,fun d=>d.elim b c⟩
theorem Lst.up(h:Lst m mask L pend lc){j:Nat}(hj:j∈Region.ready .any ops (bt m mask))(hn:j∉L):j∈Region.ready .any ops lc:=by
 obtain⟨h1,o,ho,hall⟩:=mem_ready.1 hj
 exact mem_ready.2 ⟨h.un.2 ⟨h1,fun hp=>hn (h.sub j hp)⟩,o,ho,fun e he hb=>(h.at_ _).2 (.inl (hall e he hb))⟩
theorem Lst.down(h:Lst m mask L pend lc){j:Nat}{L':List Nat}(hj:j∈Region.ready .any ops lc)(hn:j∉L')(hs: ∀i∈pend,i∈L'):j∈Region.ready .any ops (bt m (orL mask L')):=by
 obtain⟨h1,o,ho,hall⟩:=mem_ready.1 hj
 obtain⟨h2,h3⟩:=h.un.1 h1
 obtain⟨h4,h5⟩:=z9b.1 h2
 have h4:j<m:=by simpa [bt] using h4
 refine mem_ready.2 ⟨z9b.2 ⟨by simpa [bt] using h4,fun hx=> ?_⟩,o,ho,fun e he hb=>w8y.2 ?_⟩
 ·rcases w8y.1 hx with hx|hx
  ·exact h5 hx
  ·exact hn hx.2
 ·rcases (h.at_ _).1 (hall e he hb) with hx|hx
  ·exact .inl hx
  ·exact .inr ⟨(h.not _ (h.sub _ hx)).1,hs _ hx⟩
theorem Lst.same(h:Lst m mask L pend lc)(hp:pend=[]){j:Nat}(hj:j∈Region.ready .any ops lc):j∈Region.ready .any ops (bt m mask):=by
 have:=h.down (L':=[]) hj (by simp) (by simp[hp])
 exact this
theorem Lst.set(h:Lst m mask L pend lc){j:Nat}(hj:j<m)(hn:j∉L):Lst m (mask|||1<<<j) L pend (lc.setIfInBounds j true):=by
 refine⟨by simp[h.size],fun x=> ?_,h.sub,fun i hi=>⟨(h.not i hi).1,fun hx=> ?_⟩,h.one,h.pone⟩
 ·rw[w8x]
  by_cases hx:j=x
  ·subst hx
   simp[h.size,hj]
  ·rw[getD_set_ne false hx,h.at_]
   constructor
   ·rintro (a|a)
    ·exact .inl (.inl a)
    ·exact .inr a
   ·rintro ((a|⟨_,a⟩)|a)
    ·exact .inl a
    ·exact absurd a.symm hx
    ·exact .inr a
 ·rcases w8x.1 hx with a|⟨_,a⟩
  ·exact (h.not i hi).2 a
  ·exact hn (a▸hi)
theorem Lst.early(h:Lst m mask L pend lc){j:Nat}(hj:j∈L)(hn:j∉pend):Lst m mask L (j::pend) (lc.setIfInBounds j true):=by
 have hm:=(h.not j hj).1
 refine⟨by simp[h.size],fun x=> ?_,fun i hi=> ?_,h.not,h.one,List.nodup_cons.2 ⟨hn,h.pone⟩⟩
 ·by_cases hx:j=x
  ·subst hx
   simp[h.size,hm]
  ·rw[getD_set_ne false hx,h.at_,List.mem_cons]
   constructor
   ·rintro (a|a)
    ·exact .inl a
    ·exact .inr (.inr a)
   ·rintro (a|a|a)
    ·exact .inl a
    ·exact absurd a.symm hx
    ·exact .inr a
 ·rcases List.mem_cons.1 hi with rfl|hi
  ·exact hj
  ·exact h.sub i hi
theorem Lst.name{i:Nat}(h:Lst m mask (i::L) pend lc){pend':List Nat}(hp:pend.Perm (i::pend')):Lst m (mask|||1<<<i) L pend' lc:=by
 have hn:=List.nodup_cons.1 h.one
 have hpn:=List.nodup_cons.1 (hp.nodup_iff.1 h.pone)
 refine⟨h.size,fun x=> ?_,fun x hx=> ?_,fun x hx=>⟨(h.not x (by simp[hx])).1,fun hb=> ?_⟩,hn.2,hpn.2⟩
 ·rw[h.at_,w8x,hp.mem_iff,List.mem_cons]
  have hm:=(h.not i (by simp)).1
  constructor
  ·rintro (a|rfl|a)
   ·exact .inl (.inl a)
   ·exact .inl (.inr ⟨hm,rfl⟩)
   ·exact .inr a
  ·rintro ((a|⟨_,a⟩)|a)
   ·exact .inl a
   ·exact .inr (.inl a)
   ·exact .inr (.inr a)
 ·have:=h.sub x (hp.mem_iff.2 (by simp[hx]))
  exact (List.mem_cons.1 this).resolve_left fun e=>hpn.1 (e▸hx)
 ·rcases w8x.1 hb with a|⟨_,a⟩
  ·exact (h.not x (by simp[hx])).2 a
  ·exact hn.1 (a▸hx)
theorem v8p{a b:Nat}(h:a≠b):Nat.beq a b=false:=by
 cases hq:Nat.beq a b with
 |false=>rfl
 |true=>exact absurd (Nat.eq_of_beq_eq_true hq) h
def Pnd(P:Program)(D:Shp S)(ro:Ro S)(ops:Array Oper)(f:Fr)(q:Nat×HObj):Prop:=
 ∃o t d b a,LateOk P D ro ops q.1 o t d/\f d= .pointer (some ⟨b,0,none⟩)/\zAO P D t=some a/\
  ∀(ν:Nm) (σ:Hv) (nx:Nat) (lkc:Nat->Nat->SV S),ν nx=some (.pointer (some ⟨b,0,none⟩))->ORep D ν σ lkc nx a q.2
theorem Pnd.put{q:Nat×HObj}(h:Pnd P D ro ops f q){j:Nat}{o:Oper}{v:Value}(ho:ops[j]? =some o)(hj:j≠q.1):Pnd P D ro ops (putF f o.dst v) q:=by
 obtain⟨o',t,d,b,a,hl,hf,h⟩:=h
 refine⟨o',t,d,b,a,hl,?_,h⟩
 unfold putF
 cases hd:o.dst with
 |none=>exact hf
 |some d'=>
  have hne:d≠d':=fun e=>hj (hl.only j o ho (by rw[hd,e]))
  show (bif Nat.beq d d' then v else f d)=_
  rw[v8p hne]
  exact hf
structure Gp(P:Program)(D:Shp S)(cx:Cx)(ν0:Nm)(ro:Ro S)(ops:Array Oper)(st:AS S)(f:Fr)(w:World)(ν:Nm)(σ:Hv)(ms:List HObj)(pl:List (Nat×HObj)):Prop where
 g:G D ⟨w,σ,feet ms⟩ ν0 ro st f w ν σ ms
 mem:St cx w σ (ms++pl.map (·.2))
 pnd: ∀q∈pl,Pnd P D ro ops f q
theorem w1r{fuel:Nat}{a:Act}{prot:Prot}(h:Region.ready .any ops lc=[])(hq:Q .normal a w):wpK P ops Q fuel lc prot a w:=by
 cases fuel with
 |zero=>exact⟨h,hq⟩
 |succ n=>exact⟨fun _=>hq,fun j hj=>by rw[h] at hj;cases hj⟩
theorem w8z{o:Oper}{d:Nat}(hd:o.dst=some d):putF f o.dst (f d)=f:=by
 rw[hd]
 funext j
 show (bif Nat.beq j d then f d else f j)=f j
 cases h:Nat.beq j d with
 |true=>rw[Nat.eq_of_beq_eq_true h];rfl
 |false=>rfl
theorem v56{E:Ev S}{inlh:InlH S}{C:Ro S->Prop}(hP:E.D.OkP E.P)(hst:StH E inlh n C)(hro:C ro)(hsel:Region.noSelect ops=true)(hQ: ∀c a w,¬Q (.panic c) a w){m:Nat}{k:AS S->Prop}:
  ∀{N fuel fuelc mask:Nat} {L:List Nat} {pa:List (Nat×List Nat)} {prot:Prot} {st:AS S} {f:Fr} {w:World} {ν:Nm} {σ:Hv} {ms:List HObj} {pl:List (Nat×HObj)} {lc:Array Bool},fuel+fuelc<=N->unl lc<=fuelc->Closed ops lc->
  Lst m mask L (pl.map (·.1)) lc->Lts E.P E.D ro ops L->(∀i∈L,∀o d,ops[i]? =some o->o.dst=some d->st.slots d= .dead)->j35 E inlh n ro ops m k fuel L mask pa st->Gp E.P E.D cx ν0 ro ops st f w ν σ ms pl->PRs ν σ w pa prot->
  (∀st' f' w' ν' σ' ms',k st'->G E.D cx ν0 ro st' f' w' ν' σ' ms'->Q .normal (mk n f') w')->wpK E.P ops Q fuelc lc prot (mk n f) w:=by
 intro N
 induction N with
 |zero=>
  intro fuel fuelc mask L pa prot st f w ν σ ms pl lc hN hun hcl hls hL hdead h hG hpr hk
  have hz:fuel=0:=by omega
  subst hz
  simp only[j35] at h
  obtain⟨h1,h2⟩:=Jc h
  obtain⟨h1,h3⟩:=Qu h1
  have hLe:=List.isEmpty_iff.1 h1
  have hple:pl=[]:=by
   cases pl with
   |nil=>rfl
   |cons q pl=>have:=hls.sub q.1 (by simp);rw[hLe] at this;cases this
  subst hple
  refine w1r (List.eq_nil_iff_forall_not_mem.2 fun j hj=> ?_) (hk _ _ _ _ _ _ h2 ⟨by simpa using hG.mem,hG.g.objs,hG.g.slots,hG.g.fresh,hG.g.ext,hG.g.glob⟩)
  have:=hls.same rfl hj
  rw[List.isEmpty_iff.1 h3] at this
  cases this
 |succ N ih=>
  intro fuel fuelc mask L pa prot st f w ν σ ms pl lc hN hun hcl hls hL hdead h hG hpr hk
  have hGcx:pl=[]->G E.D cx ν0 ro st f w ν σ ms:=fun e=>by
   subst e
   exact⟨by simpa using hG.mem,hG.g.objs,hG.g.slots,hG.g.fresh,hG.g.ext,hG.g.glob⟩
  have hplL:L=[]->pl=[]:=fun e=>by
   cases pl with
   |nil=>rfl
   |cons q pl=>have:=hls.sub q.1 (by simp);rw[e] at this;cases this
  have early: ∀{c:Nat},fuelc=c+1-> ∀j∈Region.ready .any ops lc,j∈L->
    wpOp E.P ops Q j (fun a' w'=>(∀q∈prot,depD ops j q.1=false->Eqv q.2 w w')/\wpK E.P ops Q c (lc.setIfInBounds j true) (prot.filter fun q=> !depD ops j q.1) a' w') (mk n f) w:=by
   intro c hc j hj hjL
   obtain⟨hjun,_⟩:=mem_ready.1 hj
   have hjp:j∉pl.map (·.1):=(hls.un.1 hjun).2
   obtain⟨o,t,d,hlt⟩:=hL j hjL
   have hs:=hdead j hjL o d hlt.at_ hlt.dst
   obtain⟨a,hz⟩:=hlt.z
   obtain⟨cs,hrun,hrep⟩:=w8u hP hz
   unfold wpOp
   simp only[hlt.at_]
   have hw:Region.wanted o (yielded ops (mk n f).tmps)=true:=by simp[Region.wanted,hlt.guard]
   rw[if_pos hw]
   left
   unfold Oper.wp
   rw[U6,hrun _ o w hlt.op]
   have hput:(mk n f).put o.dst (.pointer (some ⟨w.heap.size,0,none⟩))=mk n (putF f o.dst (.pointer (some ⟨w.heap.size,0,none⟩))):=z1i _ _
   show (∀q∈prot,depD ops j q.1=false->Eqv q.2 w (w.alloc (.cells cs t)))/\wpK E.P ops Q c (lc.setIfInBounds j true) (prot.filter fun q=> !depD ops j q.1) ((mk n f).put o.dst _) (w.alloc (.cells cs t))
   have hkp:Keeps [] w (w.alloc (.cells cs t)):=U7 w _
   refine⟨fun q hq _ b hb=> ?_,?_⟩
   ·obtain⟨a',_,_,h2⟩:=hpr q hq
    exact hkp.block b (h2 b hb).1 (by simp)
   ·rw[hput]
    have hmem:St cx (w.alloc (.cells cs t)) σ (ms++((j,blk w.heap.size t cs.toList)::pl).map (·.2)):=
     (z1g hG.mem t cs).perm (by simpa using List.perm_middle.symm)
    refine ih (fuel:=fuel) (fuelc:=c) (by omega) (by have:=z7z hjun;omega) (hcl.set hj) (pl:=(j,blk w.heap.size t cs.toList)::pl) (hls.early hjL hjp) hL hdead h
     ⟨⟨hmem.inner,hG.g.objs,fun x=> ?_,hG.g.fresh,hG.g.ext,hG.g.glob⟩,hmem,fun q hq=> ?_⟩ ((hpr.mono (Ext.refl _) (Sub.refl _) hkp.size).sub fun q hq=>(List.mem_filter.1 hq).1) hk
    ·have hx:=hG.g.slots x
     rw[hlt.dst]
     show SRep E.D ν σ (bif Nat.beq x d then _ else f x) _
     cases hxd:Nat.beq x d with
     |true=>
      rw[Nat.eq_of_beq_eq_true hxd]
      unfold q4t
      rw[hlt.lock,cond_false,hs]
      exact .dead _
     |false=>exact hx
    ·rcases List.mem_cons.1 hq with rfl|hq
     ·refine⟨o,t,d,w.heap.size,a,hlt,?_,hz,fun ν σ nx lkc hn=>hrep ν σ nx _ lkc hn⟩
      rw[hlt.dst]
      show (bif Nat.beq d d then _ else f d)=_
      simp
     ·exact (hG.pnd q hq).put hlt.at_ fun e=>hjp (e▸List.mem_map.2 ⟨q,hq,rfl⟩)
  have stop:Region.ready .any ops lc=[]-> ∀i∈L,i∈pl.map (·.1):=fun hr i hi=>by
   refine Classical.byContradiction fun hn=> ?_
   obtain⟨o,t,d,hlt⟩:=hL i hi
   have:i∈Region.ready .any ops lc:=mem_ready.2 ⟨hls.un.2 ⟨z9b.2 ⟨by simpa [bt] using (hls.not i hi).1,(hls.not i hi).2⟩,hn⟩,o,hlt.at_,fun e he _=>by
    have:=Array.mem_toList_iff.2 he
    rw[hlt.after] at this;cases this⟩
   rw[hr] at this;cases this
  have pos: ∀j∈Region.ready .any ops lc,∃c,fuelc=c+1:=fun j hj=>by
   have:=z7z (mem_ready.1 hj).1
   exact⟨fuelc - 1,by omega⟩
  cases fuel with
  |zero=>
   simp only[j35] at h
   obtain⟨h1,h2⟩:=Jc h
   obtain⟨h1,h3⟩:=Qu h1
   have hple:=hplL (List.isEmpty_iff.1 h1)
   refine w1r (List.eq_nil_iff_forall_not_mem.2 fun j hj=> ?_) (hk _ _ _ _ _ _ h2 (hGcx hple))
   have:=hls.same (by rw[hple];rfl) hj
   rw[List.isEmpty_iff.1 h3] at this
   cases this
  |succ fuel=>
   simp only[j35] at h
   split at h
   ·rename_i hne
    have hnone: ∀j,j∈Region.ready .any ops (bt m mask)->j∈L:=fun j hj=>by
     refine Classical.byContradiction fun hn=> ?_
     have:j∈notL L (Region.ready .any ops (bt m mask)):=List.mem_filter.2 ⟨hj,by
      cases hh:hasN L j with
      |false=>rfl
      |true=>exact absurd (j0m.1 hh) hn⟩
     rw[hne] at this;cases this
    split at h
    ·
     have hple:=hplL rfl
     refine w1r (List.eq_nil_iff_forall_not_mem.2 fun j hj=> ?_) (hk _ _ _ _ _ _ h (hGcx hple))
     have:=hnone j (hls.same (by rw[hple];rfl) hj)
     cases this
    ·
     rename_i i L'
     obtain⟨hall,h⟩:=Jc h
     by_cases hi:i∈pl.map (·.1)
     ·obtain⟨q,hq,rfl⟩:=List.mem_map.1 hi
      obtain⟨pl1,pl2,rfl⟩:=List.append_of_mem hq
      obtain⟨o,t,d,b,a,hlt,hf,hz,hrep⟩:=hG.pnd q hq
      rw[hlt.at_] at h
      simp only at h
      unfold w5j at h
      rw[hlt.op] at h
      simp only[w5i,cond_true] at h
      obtain⟨a',hz',h⟩:=w8t h
      rw[hz] at hz';cases hz'
      simp only[inRw,v5x,Bool.and_self,cond_true,z1h,Bt] at h
      have hfr:=hG.g.fresh st.next (Nat.le_refl _)
      let ν2:=ν.add st.next (.pointer (some ⟨b,0,none⟩))
      have hx:Ext ν ν2:=Nm.add_ext hfr
      have hmem:St cx w σ ((q.2::ms)++(pl1++pl2).map (·.2)):=hG.mem.perm (by
       simp only[List.map_append,List.map_cons,List.cons_append]
       rw[←List.append_assoc]
       exact List.perm_middle.trans (by rw[List.append_assoc]))
      have hG2:G E.D ⟨w,σ,feet (q.2::ms)⟩ ν0 ro {slots:=st.slots,objs:=(st.next,a)::st.objs,next:=st.next+1} f w ν2 σ (q.2::ms):=
       ⟨hmem.inner,⟨hrep _ _ _ _ Nm.add_self,hG.g.objs.mono hx (Sub.refl _)⟩,fun j=>(hG.g.slots j).mono hx (Sub.refl _),fun x hx2=>by
        show Nm.add ν st.next _ x=none
        unfold Nm.add
        rw[if_neg (by intro e;simp only at hx2;omega)]
        exact hG.g.fresh x (by simp only at hx2;omega),hG.g.ext.trans hx,hG.g.glob⟩
      have hs:SRep E.D ν2 σ (f d) (.ref st.next 0):=by rw[hf];exact .ref _ _ _ Nm.add_self
      obtain⟨st',hk',ho',hn',hG'⟩:=hG2.put (d:=o.dst) hs h
      rw[w8z hlt.dst] at hG'
      rw[q4u] at hk'
      have hsub: ∀x∈L',x∈q.1::L':=fun x hx=>by simp[hx]
      refine ih (fuel:=fuel) (fuelc:=fuelc) (by omega) hun hcl (pl:=pl1++pl2) (hls.name (by simp only[List.map_append,List.map_cons];exact List.perm_middle)) (fun x hx=>hL x (hsub x hx)) (fun x hx o d ho hd=>z24 hx ho hd) hk'
       ⟨hG'.dead,hmem,fun p hp=>hG.pnd p (by rcases List.mem_append.1 hp with e|e<;>simp[e])⟩ (hpr.mono hx (Sub.refl _) (Nat.le_refl _)) hk
     ·
      have hir:i∈Region.ready .any ops lc:=Classical.byContradiction fun hn=>by
       obtain⟨o,t,d,hlt⟩:=hL i (by simp)
       exact hn (mem_ready.2 ⟨hls.un.2 ⟨z9b.2 ⟨by simpa [bt] using (hls.not i (by simp)).1,(hls.not i (by simp)).2⟩,hi⟩,o,hlt.at_,fun e he _=>by
        have:=Array.mem_toList_iff.2 he
        rw[hlt.after] at this;cases this⟩)
      obtain⟨c,hc⟩:=pos i hir
      subst hc
      refine⟨fun hr=>(by rw[hr] at hir;cases hir),fun j hj=>early rfl j hj ?_⟩
      refine Classical.byContradiction fun hn=>hn ?_
      have hd:=hls.down (L':=L') hj (fun hx=>hn (by simp[hx])) fun x hx=>(List.mem_cons.1 (hls.sub x hx)).resolve_left fun e=>hi (e▸hx)
      have:=Nat.eq_of_beq_eq_true (List.all_eq_true.1 hall j hd)
      simp[this]
   ·rename_i hne
    have hin: ∀j∈notL L (Region.ready .any ops (bt m mask)),j∈Region.ready .any ops (bt m mask)/\j∉L:=fun j hj=>by
     obtain⟨h1,h2⟩:=List.mem_filter.1 hj
     exact⟨h1,fun hx=>by rw[j0m.2 hx] at h2;cases h2⟩
    have hmlt: ∀j∈Region.ready .any ops lc,j<m:=fun j hj=>by
     have:=(z9b.1 (mem_ready.1 hj).1).1
     rwa [hls.size] at this
    have keepF: ∀{i:Nat} {o:Oper} {v:Value},ops[i]? =some o->i∉L-> ∀q∈pl,Pnd E.P E.D ro ops (putF f o.dst v) q:=fun ho hi q hq=>
     (hG.pnd q hq).put ho fun e=>hi (hls.sub _ (e▸List.mem_map.2 ⟨q,hq,rfl⟩))
    split at h
    ·
     rename_i i hfirst
     obtain⟨hi,o,ho,_,hdst,hfree⟩:=j9d hfirst
     obtain⟨hi,hiL⟩:=hin i hi
     have hir:=hls.up hi hiL
     obtain⟨c,hc⟩:=pos i hir
     subst hc
     have hfree': ∀j oj,ops[j]? =some oj->j≠i->lc.getD j true=false->(∀e∈oj.after,Region.binds .any e=true->e.on≠i)->o.apart ops oj=true:=
      fun j oj hj hne hu hno=>Region.free_spec ho hfree j oj hj hne (hls.un.1 hu).1 hno
     rw[ho] at h
     simp only at h
     rcases j6p hG.g h with ⟨hw,st1,hy,_,hG1⟩|⟨hw,st1,hno,_,hG1⟩
     ·
      cases hc:(w5i (lzE E o) (obS ro st1) (evS n ro st1) o.op||w8h o.op) with
      |true=>rw[hc] at hy;exact hy.elim
      |false=>
       rw[hc] at hy
       simp only[cond_false] at hy
       obtain⟨oh,kn,hms⟩:=hG1.kn (n:=n)
       obtain⟨rd,s,v,hK,hs,hrun⟩:=w1l hP kn hy
       obtain⟨st',hk',_,_,hG'⟩:=hG1.put hs hK
       rw[q4u] at hk'
       let R:Nat->Prop:=fun b=>σ b≠none∨ ∃o∈rd,∃a,obS ro st1 o=some a/\(oh o).foot=some b
       have hRlt: ∀b,R b->b<w.heap.size:=fun b hb=>by
        rcases hb with hb|⟨o',_,a,ha,hb⟩
        ·cases hq:σ b with
         |none=>exact absurd hq hb
         |some x=>exact lt_of_block (hG1.mem.view b x hq)
        ·exact (oh o').lt w b (hG1.mem.own _ (hms o' a ha)) hb
       refine j9c (R:=R) (w0:=w) ho (Region.noSelect_spec hsel) hQ c _ prot _ w hcl (fun b _=>rfl) hfree' hir (v:=v) ?_ ?_
       ·intro w' hE K' hK'
        unfold wpOp
        simp only[ho,if_pos hw]
        left
        have hV:View σ w':=fun b ob hb=>by
         rw[hE b (.inl (by rw[hb];simp))]
         exact hG1.mem.view b ob hb
        have hr:=hrun w' o rfl hV (fun o' ho' a ha=>(oh o').stay w w' (fun b hb=>hE b (.inr ⟨o',ho',a,ha,hb⟩)) (hG1.mem.own _ (hms o' a ha)))
        unfold Oper.wp
        rw[U6,hr]
        exact hK'
       ·rw[z1i]
        refine ih (fuel:=fuel) (fuelc:=c) (by omega) (by have:=z7z (mem_ready.1 hir).1;omega) (hcl.set hir) (hls.set (hmlt i hir) hiL) hL (fun x hx o d ho hd=>z24 hx ho hd) hk' ⟨hG'.dead,hG.mem,keepF ho hiL⟩ ?_ hk
        intro q hq
        rcases List.mem_cons.1 hq with rfl|hq
        ·refine⟨(i,rd),by simp,rfl,fun b hb=>⟨hRlt b hb,hb.imp id fun ⟨o',ho',a,ha,hf⟩=> ?_⟩⟩
         obtain⟨v',hv',hvf⟩:=(kn.o o' a ha).1.foot (kn.o o' a ha).2 hf
         exact⟨o',ho',v',hv',hvf⟩
        ·obtain⟨a,ha,hp⟩:=hpr q hq
         exact⟨a,by simp[ha],hp⟩
     ·
      obtain⟨st',hk',_,_,hG'⟩:=hG1.put (v:=undef) .und hno
      rw[q4u] at hk'
      refine j9c (R:=fun _=>False) (w0:=w) ho (Region.noSelect_spec hsel) hQ c _ prot _ w hcl (fun b _=>rfl) hfree' hir (v:=undef) ?_ ?_
      ·intro w' hE K' hK'
       unfold wpOp
       simp only[ho,hw,Bool.false_eq_true,if_false]
       exact hK'
      ·rw[z1i]
       refine ih (fuel:=fuel) (fuelc:=c) (by omega) (by have:=z7z (mem_ready.1 hir).1;omega) (hcl.set hir) (hls.set (hmlt i hir) hiL) hL (fun x hx o d ho hd=>z24 hx ho hd) hk' ⟨hG'.dead,hG.mem,keepF ho hiL⟩ ?_ hk
       intro q hq
       rcases List.mem_cons.1 hq with rfl|hq
       ·exact⟨(i,[]),by simp,rfl,fun b hb=>hb.elim⟩
       ·obtain⟨a,ha,hp⟩:=hpr q hq
        exact⟨a,by simp[ha],hp⟩
    ·
     obtain⟨hall,h⟩:=Jc h
     cases hrs:notL L (Region.ready .any ops (bt m mask)) with
     |nil=>exact absurd hrs hne
     |cons i0 rs0=>
      have hi0:=hin i0 (by rw[hrs];simp)
      obtain⟨c,hc⟩:=pos i0 (hls.up hi0.1 hi0.2)
      subst hc
      refine⟨fun hr=>(by have:=hls.up hi0.1 hi0.2;rw[hr] at this;cases this),fun j hj=> ?_⟩
      by_cases hjL:j∈L
      ·exact early rfl j hj hjL
      have hjr:j∈notL L (Region.ready .any ops (bt m mask)):=by
       rcases Bool.or_eq_true_iff.1 hall with e|e
       ·have hL0:=List.isEmpty_iff.1 e
        have:=hls.same (by rw[hplL hL0];rfl) hj
        exact List.mem_filter.2 ⟨this,by
         cases hh:hasN L j with
         |false=>rfl
         |true=>exact absurd (j0m.1 hh) hjL⟩
       ·exact j0m.1 (List.all_eq_true.1 e j (hls.down hj hjL hls.sub))
      have h1:=w4e h j hjr
      cases ho:ops[j]? with
      |none=>rw[ho] at h1;exact h1.elim
      |some o=>
       rw[ho] at h1
       simp only at h1
       unfold wpOp
       simp only[ho]
       rcases j6p hG.g h1 with ⟨hw,st1,hy,hobj,hG1⟩|⟨hw,st1,hno,_,hG1⟩
       ·rw[if_pos hw]
        left
        refine hst hro hy hG1 _ _ fun rd st' f' w' ν' σ' ms' hk' hG' hext hsub hf' hleft=>⟨fun q hq hd=> ?_,?_⟩
        ·obtain⟨a,ha,hpa⟩:=hpr q hq
         intro b hb
         rcases (hpa.2 b hb).2 with hσ|⟨o',ho',v,hv,hvf⟩
         ·cases hq:σ b with
          |none=>exact absurd hq hσ
          |some x=>rw[hG'.mem.view b x (hsub b x hq),hG.mem.view b x hq]
         ·rcases hleft with rfl|⟨tl,hban,hl⟩
          ·rfl
          ·have hba:=List.all_eq_true.1 hban a ha
           rw[←hpa.1,hd,Bool.false_or] at hba
           have hbo:=List.all_eq_true.1 hba o' ho'
           obtain⟨h5,h6⟩:=Qu hbo
           have hno:o'∉tl:=q9h (by simpa using h5)
           cases hob:obS ro st1 o' with
           |none=>rw[hob] at h6;cases h6
           |some ao=>
            rw[hob] at h6
            refine hl b o' ao v hno (j6o▸hob) ?_ hv hvf
            cases ao<;>first|rfl|cases h6
        ·obtain⟨v,rfl⟩:=hf'
         simp only[q4u] at hk'
         have hmem:=hG.mem.callM hG'.mem rfl
         refine ih (fuel:=fuel) (fuelc:=c) (by omega) (by have:=z7z (mem_ready.1 hj).1;omega) (hcl.set hj) (hls.set (hmlt j hj) hjL) hL (fun x hx o d ho hd=>z24 hx ho hd) hk'
          ⟨G.dead ⟨hmem.inner,hG'.objs,hG'.slots,hG'.fresh,hG'.ext,hG'.glob⟩,hmem,keepF ho hjL⟩ ((hpr.mono hext hsub hG'.mem.keeps.size).filter) hk
       ·simp only[hw,Bool.false_eq_true,if_false]
        rw[z1i]
        obtain⟨st',hk',_,_,hG'⟩:=hG1.put (v:=undef) .und hno
        rw[q4u] at hk'
        refine⟨fun q _ _ b _=>rfl,?_⟩
        exact ih (fuel:=fuel) (fuelc:=c) (by omega) (by have:=z7z (mem_ready.1 hj).1;omega) (hcl.set hj) (hls.set (hmlt j hj) hjL) hL (fun x hx o d ho hd=>z24 hx ho hd) hk' ⟨hG'.dead,hG.mem,keepF ho hjL⟩ hpr.filter hk
theorem v57{E:Ev S}{inlh:InlH S}{C:Ro S->Prop}(hP:E.D.OkP E.P)(hst:StH E inlh n C)(hro:C ro)(hsel:Region.noSelect ops=true)(hQ: ∀c a w,¬Q (.panic c) a w){k:AS S->Prop}
  (h:v5z E inlh n ro ops k st)(hG:G E.D cx ν0 ro st f w ν σ ms)(hk: ∀st' f' w' ν' σ' ms',k st'->G E.D cx ν0 ro st' f' w' ν' σ' ms'->Q .normal (mk n f') w'):wpK E.P ops Q ops.size (bt ops.size 0) [] (mk n f) w:=by
 unfold v5z at h
 rw[j1o,q4u] at h
 have hz: ∀j,¬(bt ops.size 0).getD j false=true:=fun j hj=>by
  have:=(w8w.1 hj).2
  simp at this
 have hL:Lts E.P E.D ro ops (w8k E.P E.D ro ops):=fun i hi=>w8v (List.mem_filter.1 hi).2
 have hun:unl (bt ops.size 0)<=ops.size:=by
  unfold unl
  refine Nat.le_trans (List.countP_le_length) ?_
  simp[bt]
 refine v56 hP hst hro hsel hQ (ν:=ν) (N:=ops.size+ops.size) (pl:=[]) (Nat.le_refl _) hun w1p ⟨by simp[bt],fun j=>by simp[hz j],by simp,fun i hi=>⟨List.mem_range.1 (List.mem_filter.1 hi).1,hz i⟩,List.nodup_range.sublist List.filter_sublist,by simp⟩ hL
  (fun i hi o d ho hd=>z24 hi ho hd) h ⟨?_,by simpa using hG.mem,by simp⟩ (fun q hq=>by cases hq) hk
 have hd:G E.D cx ν0 ro (z7u ops (w8k E.P E.D ro ops) st) f w ν σ ms:=hG.dead
 refine⟨?_,hd.objs,hd.slots,hd.fresh,hd.ext,hd.glob⟩
 have:St cx w σ (ms++[]):=by simpa using hG.mem
 exact this.inner
end Go.Fx
end
noncomputable section
set_option maxRecDepth 100000
namespace Go.Fx
open Go Go.RowKit Go.Fl Go.Fl.Lk
variable {S:Sig}{P:Program}{D:Shp S}{ν ν' ν0:Nm}{σ τ:Hv}{n:Nat}{f:Fr}
variable {w:World}{cx:Cx}{ro:Ro S}{st:AS S}{ms:List HObj}
def PartRep(D:Shp S)(σ:Hv):(kd:Kd S)->kd.ty->Value->List HObj->Prop
 | .int k,x,u,hs=>u= .int k x/\hs=[]
 | .bool,x,u,hs=>u= .bool x/\hs=[]
 | .str,x,u,hs=>u= .string x/\hs=[]
 | .sl T,x,u,hs=>RepF D σ u (.sl T x)/\hs=[]
 | .own e T,x,u,hs=> ∃xs,hs=[vec u e (D.size T) (List.length x) xs]/\Els D σ T xs x/\List.length x<=140737488355328/\u.oneCell'=true
 | .el T,x,u,hs=> ∃cs,u= .agg cs.toArray/\RowF D σ cs (D.shape T x)/\hs=[]
 | .map K V,F,u,hs=> ∃b m,u= .map (some b)/\hs=[j1b (kenc D K) b m]/\ ∀k,ORel (ElV D σ V) (m k) (F k)
 | .arr ty T N,x,u,hs=> ∃b cs,u= .pointer (some ⟨b,0,none⟩)/\hs=[blk b ty cs]/\Els D σ T cs x/\List.length x=N
 | .iter K V,x,u,hs=> ∃r b es clock cv,u= .pointer (some ⟨r,0,none⟩)/\hs=[itrK (kenc D K) r b es clock x.2 cv]/\σ b=some (.map es clock)/\z5r (kenc D K) es.toList/\MBk es.toList clock/\
   (∀k,ORel (ElV D σ V) (lkK (kenc D K) es.toList k) (x.1 k))/\(∀k,(D.shape K k).all keyF=true)/\ ∀a b,kenc D K a=kenc D K b->a=b
 | .siter,x,u,hs=> ∃r,u= .pointer (some ⟨r,0,none⟩)/\hs=[sitr r x.1 x.2]
 | .vech e T f,x,u,hs=> ∃xs,hs=[vec u e (D.size T) (List.length x.1) xs]/\(∀ν:Nm,ElsH D ν σ T xs x.1 x.2 f .dead)/\List.length x.1<=140737488355328/\u.oneCell'=true
theorem PartRep.mono{kd:Kd S}{x:kd.ty}{u:Value}{hs:List HObj}(h:PartRep D σ kd x u hs)(hsub:Sub σ τ):PartRep D τ kd x u hs:=by
 cases kd with
 |int k=>exact h
 |bool=>exact h
 |str=>exact h
 |sl T=>exact⟨h.1.mono hsub,h.2⟩
 |own e T=>obtain⟨xs,h1,h2,h3⟩:=h;exact⟨xs,h1,h2.mono hsub,h3⟩
 |el T=>obtain⟨cs,h1,h2,h3⟩:=h;exact⟨cs,h1,h2.mono hsub,h3⟩
 |map K V=>obtain⟨b,m,h1,h2,h3⟩:=h;exact⟨b,m,h1,h2,fun k=>(h3 k).imp fun v y h=>h.mono hsub⟩
 |arr ty T N=>obtain⟨b,cs,h1,h2,h3,h4⟩:=h;exact⟨b,cs,h1,h2,h3.mono hsub,h4⟩
 |iter K V=>obtain⟨r,b,es,clock,cv,h1,h2,h3,h4,h5,h6,h7⟩:=h;exact⟨r,b,es,clock,cv,h1,h2,hsub _ _ h3,h4,h5,fun k=>(h6 k).imp fun v y h=>h.mono hsub,h7⟩
 |siter=>exact h
 |vech e T f=>obtain⟨xs,h1,h2,h3⟩:=h;exact⟨xs,h1,fun ν=>(h2 ν).mono (Ext.refl ν) hsub,h3⟩
def w5n(ν:Nm)(w:World)(o i:Nat):Option Value:=
 match ν o with
 |some (.pointer (some a))=>w.cell? ⟨a.block,i,none⟩
 |_=>none
def w80(D:Shp S)(ν:Nm)(σ:Hv)(f:Fr)(w:World):(l:List (Item S))->HL l->List HObj->Prop
 |[],_,hs=>hs=[]
 |(.slot j,kd)::l,(x,xs),hs=> ∃h1 h2,hs=h1++h2/\PartRep D σ kd x (f j) h1/\w80 D ν σ f w l xs h2
 |(.cell o i,kd)::l,(x,xs),hs=> ∃h1 h2 u,hs=h1++h2/\w5n ν w o i=some u/\PartRep D σ kd x u h1/\w80 D ν σ f w l xs h2
 |(.obj o,kd)::l,(x,xs),hs=> ∃h1 h2 u,hs=h1++h2/\ν o=some u/\PartRep D σ kd x u h1/\w80 D ν σ f w l xs h2
structure GT(D:Shp S)(cx:Cx)(ro:Ro S)(st:AS S)(f:Fr)(w:World)(ν:Nm)(σ:Hv)(tk ms:List HObj):Prop where
 mem:St cx w σ (tk++ms)
 objs:Objs D ν σ ro.cell (st.objs++ro.objs) ms
 slots: ∀j,SRep D ν σ (f j) (q4t ro st j)
theorem GT.or{tk:List HObj}(h:GT D cx ro st f w ν σ tk ms): ∃oh:Nat->HObj,∀o a,obS ro st o=some a->ORep D ν σ ro.cell o a (oh o):=by
 have hc: ∀o,∃m:HObj,∀a,obS ro st o=some a->ORep D ν σ ro.cell o a m:=by
  intro o
  cases ho:obS ro st o with
  |none=>exact⟨triv,fun a h=>by cases h⟩
  |some a=>
   obtain⟨m,hm,hr⟩:=h.objs.find (j6o▸ho)
   exact⟨m,fun a' h'=>by cases h';exact hr⟩
 exact⟨fun o=>Classical.choose (hc o),fun o a ho=>Classical.choose_spec (hc o) a ho⟩
theorem GT.take{tk:List HObj}{o:Nat}{a:AO S}(h:GT D cx ro st f w ν σ tk ms)(hf:Zb st.objs o=some a):
  ∃m ms',ORep D ν σ ro.cell o a m/\m.ok w/\GT D cx ro {st with objs:=delN st.objs o} f w ν σ (tk++[m]) ms':=by
 obtain⟨m,ms',hp,hr,ho⟩:=h.objs.take (o:=o) (a:=a) (by rw[Vx,hf])
 rw[j1q hf] at ho
 have hS:=h.mem.perm (List.Perm.append_left tk hp)
 refine⟨m,ms',hr,hS.own m (by simp),⟨?_,ho,h.slots⟩⟩
 rw[List.append_assoc]
 exact hS
theorem GT.freeze{tk:List HObj}{fz:List Nat}{k:AS S->Prop}(hD:D.Ok)(h:GT D cx ro st f w ν σ tk ms)(hk:w5k st fz k):
  ∃st' σ' ms',k st'/\st'.slots=st.slots/\st'.next=st.next/\Sub σ σ'/\GT D cx ro st' f w ν σ' tk ms'/\ ∀o e T l v,o∈fz->Zb st.objs o=some (.vec e T l)->ν o=some v->RepF D σ' v (.sl T l):=by
 unfold w5k at hk
 obtain⟨l,hl,hk⟩:=Qf hk
 obtain⟨hn,hk⟩:=Jc hk
 obtain⟨tlo,h1,h2,h3,_⟩:=q5t hl
 subst h1
 obtain⟨ins,rest,hp,ho1,ho2⟩:=h.objs.takes h2 h3
 have hS:=h.mem.perm (ms':=(tk++rest)++ins) (by
  rw[List.append_assoc]
  exact List.Perm.append_left tk (hp.trans List.perm_append_comm))
 obtain⟨σ1,ms1,hS1,hs1,ho3⟩:=q2d hD hl rfl h3 ho1 hS
 refine⟨_,σ1,ms1++rest,hk,rfl,rfl,hs1,⟨hS1.perm (by rw[List.append_assoc];exact List.Perm.append_left tk List.perm_append_comm),?_,fun j=>(h.slots j).mono (Ext.refl ν) hs1⟩,z4t hl ho3⟩
 rw[List.append_assoc]
 exact ho3.append (ho2.mono (Ext.refl ν) hs1)
theorem v4m{fz:List Nat}{k:AS S->Prop}(hK:w5k st fz k): ∀{a:AO S} (o:Nat),o∈fz->obS ro st o=some a->Zb st.objs o=some a:=by
 intro a o ho hob
 unfold w5k at hK
 obtain⟨_,hl,_⟩:=Qf hK
 obtain⟨tlo,h1,_,h3,_⟩:=q5t hl
 subst h1
 obtain⟨q,hq,rfl⟩:=List.mem_map.1 ho
 exact w8p (h3 q hq) hob
theorem w81{tk:List HObj}{kd:Kd S}{s:SV S}{u:Value}{K:kd.ty->AS S->Prop}(hD:D.Ok)(h:GT D cx ro st f w ν σ tk ms)(hs:SRep D ν σ u s)(hK:getK D ro st s kd K):
  ∃x st' σ' hs ms',K x st'/\st'.slots=st.slots/\Sub σ σ'/\GT D cx ro st' f w ν σ' (tk++hs) ms'/\PartRep D σ' kd x u hs:=by
 have same: ∀{x:kd.ty},K x st->PartRep D σ kd x u []-> ∃x st' σ' hs ms',K x st'/\st'.slots=st.slots/\Sub σ σ'/\GT D cx ro st' f w ν σ' (tk++hs) ms'/\PartRep D σ' kd x u hs:=
  fun {x} hk hp=>⟨x,st,σ,[],ms,hk,rfl,Sub.refl _,by rw[List.append_nil];exact h,hp⟩
 cases kd with
 |int kk=>
  simp only[getK] at hK
  split at hK
  ·rename_i k' a
   obtain⟨hk,hK2⟩:=Jc hK
   clear hK
   have hk':kk=k':=by simpa using hk
   subst hk'
   exact same hK2 ⟨Uf hs,rfl⟩
  ·exact hK.elim
 |bool=>
  obtain⟨b,hb,hK⟩:=Qf hK
  exact same hK ⟨j1e hs hb,rfl⟩
 |str=>
  simp only[getK] at hK
  split at hK
  ·exact same hK ⟨U8 hs,rfl⟩
  ·exact hK.elim
 |sl T=>
  simp only[getK] at hK
  split at hK
  ·rw[q9f hs] at same⊢
   exact same hK ⟨RepF.ofRSl hD RSl.nil,rfl⟩
  ·obtain⟨e1,hK⟩:=Bu hK
   subst e1
   exact same hK ⟨w72 hs,rfl⟩
  ·rename_i o
   obtain⟨oh,hor⟩:=h.or
   split at hK
   ·rename_i T' l hob
    obtain⟨e1,hK⟩:=Bu hK
    subst e1
    obtain⟨v,hν,_,hr⟩:=hor _ _ hob
    rw[Vq hs hν] at same⊢
    exact same hK ⟨hr,rfl⟩
   ·rename_i e T' l hob
    obtain⟨e1,hK⟩:=Bu hK
    subst e1
    obtain⟨v,xs,hν,_⟩:=hor _ _ hob
    have hu:=Vq hs hν
    have hfo:Zb st.objs o=some (.vec e T' l):=v4m (ro:=ro) hK o (by simp) hob
    obtain⟨st',σ',ms',hK',hsl,_,hsub,hG,hrep⟩:=h.freeze hD hK
    exact⟨_,st',σ',[],ms',hK',hsl,hsub,by rw[List.append_nil];exact hG,⟨hrep o e T' l u (by simp) hfo (hu▸hν),rfl⟩⟩
   ·exact hK.elim
  ·exact hK.elim
 |own e T=>
  simp only[getK] at hK
  split at hK
  case h_2=>exact hK.elim
  rename_i a l hq
  rcases z7t hq with ⟨rfl,rfl,rfl⟩|⟨o,rfl,rfl,hob⟩
  ·have hu:=q9f hs
   refine⟨_,_,σ,[vec u e (D.size T) ([]:List (S.car T)).length []],ms,hK,rfl,Sub.refl _,⟨?_,h.objs,h.slots⟩,⟨[],rfl,⟨by simp,fun i x hx=>by simp at hx⟩,by simp,by rw[hu];rfl⟩⟩
   rw[hu]
   have:=(h.mem.addNil e (D.size T)).perm (ms':=(tk++[vec (.slice none 0 0) e (D.size T) ([]:List (S.car T)).length []])++ms) (by rw[List.append_assoc];exact List.perm_middle.symm)
   exact this
  ·obtain⟨m,ms',hr,hok,hG⟩:=h.take hob
   obtain⟨v,xs,hν,hm,hE,hl⟩:=hr
   have hu:=Vq hs hν
   subst hm hu
   exact⟨_,_,σ,_,ms',hK,rfl,Sub.refl _,hG,⟨xs,rfl,hE,hl,q9d hok⟩⟩
 |el T=>
  simp only[getK] at hK
  split at hK
  case h_2=>exact hK.elim
  rename_i cs
  obtain⟨q,hq,hK⟩:=Qf hK
  obtain⟨xs,fz⟩:=q
  obtain⟨oh,hor⟩:=h.or
  cases hs with
  |agg vs _ hl hr h1=>
   obtain⟨st',σ',ms',hK',hsl,_,hsub,hG,hrep⟩:=h.freeze hD hK
   obtain⟨x,hx,hK'⟩:=Qf hK'
   have hrow:=z4s hD hor hsub ⟨hl,hr,h1⟩ hq (fun o e T l v ho hob hν=>hrep o e T l v ho (v4m (ro:=ro) hK o ho hob) hν)
   exact⟨x,st',σ',[],ms',hK',hsl,hsub,by rw[List.append_nil];exact hG,⟨vs,rfl,hD.bld _ _ _ _ _ hx hrow,rfl⟩⟩
 |map K V=>exact hK.elim
 |arr ty T N=>exact hK.elim
 |iter K V=>exact hK.elim
 |siter=>exact hK.elim
 |vech e T f=>exact hK.elim
theorem v58{tk:List HObj}{kd:Kd S}{o:Nat}{K:kd.ty->AS S->Prop}(h:GT D cx ro st f w ν σ tk ms)(hK:getO o st kd K):
  ∃x st' hs ms' u,K x st'/\st'.slots=st.slots/\GT D cx ro st' f w ν σ (tk++hs) ms'/\ν o=some u/\PartRep D σ kd x u hs:=by
 cases kd with
 |own e T=>
  simp only[getO] at hK
  split at hK
  case h_2=>exact hK.elim
  rename_i e' T' l hob
  obtain⟨he,hK⟩:=Jc hK
  have he:=Nat.eq_of_beq_eq_true he
  obtain⟨e1,hK⟩:=Bu hK
  subst e1
  obtain⟨m,ms',hr,hok,hG⟩:=h.take hob
  obtain⟨v,xs,hν,hm,hE,hl⟩:=hr
  subst hm
  rw[←he] at hG hok
  exact⟨_,_,_,ms',v,hK,rfl,hG,hν,⟨xs,rfl,hE,hl,q9d hok⟩⟩
 |map Kc V=>
  simp only[getO] at hK
  split at hK
  case h_2=>exact hK.elim
  rename_i K' V' F hob
  obtain⟨e1,e2,hK⟩:=q5i hK
  subst e1 e2
  obtain⟨m,ms',hr,hok,hG⟩:=h.take hob
  obtain⟨b,mm,hν,hm,hF⟩:=hr
  subst hm
  exact⟨_,_,_,ms',_,hK,rfl,hG,hν,⟨b,mm,rfl,rfl,hF⟩⟩
 |arr ty T N=>
  simp only[getO] at hK
  split at hK
  case h_2=>exact hK.elim
  rename_i ty' T' N' l hob
  obtain⟨hc,hK⟩:=Jc hK
  obtain⟨h1,h2⟩:=Qu hc
  have h1:=Nat.eq_of_beq_eq_true h1
  have h2:=Nat.eq_of_beq_eq_true h2
  obtain⟨e1,hK⟩:=Bu hK
  subst e1
  obtain⟨m,ms',hr,hok,hG⟩:=h.take hob
  obtain⟨b,cs,hν,hm,hE,hN⟩:=hr
  subst hm
  rw[←h1] at hG
  exact⟨_,_,_,ms',_,hK,rfl,hG,hν,⟨b,cs,rfl,rfl,hE,hN.trans h2.symm⟩⟩
 |iter Kc V=>
  simp only[getO] at hK
  split at hK
  case h_2=>exact hK.elim
  rename_i K' V' F done cur hob
  obtain⟨e1,e2,hK⟩:=q5i hK
  subst e1 e2
  obtain⟨e1,hK⟩:=Bu hK
  obtain⟨m,ms',hr,hok,hG⟩:=h.take hob
  obtain⟨r,b,es,clock,cv,hν,hm,h1,h2,h3,h4,h5,h6,_⟩:=hr
  subst hm
  exact⟨_,_,_,ms',_,hK,rfl,hG,hν,⟨r,b,es,clock,cv,rfl,rfl,h1,h2,h3,h4,h5,h6⟩⟩
 |siter=>
  simp only[getO] at hK
  split at hK
  case h_2=>exact hK.elim
  rename_i s pos hob
  obtain⟨m,ms',hr,hok,hG⟩:=h.take hob
  obtain⟨r,hν,hm⟩:=hr
  subst hm
  exact⟨_,_,_,ms',_,hK,rfl,hG,hν,⟨r,rfl,rfl⟩⟩
 |vech e T f=>
  simp only[getO] at hK
  split at hK
  case h_2=>exact hK.elim
  rename_i e' T' l k f' q hob
  obtain⟨hb,hK2⟩:=Jc hK
  clear hK
  obtain⟨hb1,hb2⟩:=Qu hb
  have q1:e=e':=Nat.eq_of_beq_eq_true hb1
  have q2:=Nat.eq_of_beq_eq_true hb2
  obtain⟨e1,hK3⟩:=Bu hK2
  clear hK2
  subst e1
  obtain⟨m,ms',hr,hok,hG⟩:=h.take hob
  obtain⟨v,xs,hν,hm,hE,hl⟩:=hr
  subst hm q2
  rw[←q1] at hG hok
  exact⟨_,_,_,ms',v,hK3,rfl,hG,hν,⟨xs,rfl,fun ν'=>hE.dead ν',hl,q9d hok⟩⟩
 |_=>exact hK.elim
theorem GT.cell{tk:List HObj}{o i:Nat}{ty:TypeId}{l:List (SV S)}{s:SV S}(h:GT D cx ro st f w ν σ tk ms)(ho:Zb st.objs o=some (.cells ty l))(hi:(resL (ro.cell o) 0 l)[i]? =some s):
  ∃u,w5n ν w o i=some u/\SRep D ν σ u s:=by
 obtain⟨m,hm,hr⟩:=h.objs.find (o:=o) (by rw[Vx,ho])
 obtain⟨b,cs,hν,hmm,hrow⟩:=hr
 subst hmm
 have hok:=h.mem.own _ (show blk b ty cs∈tk++ms by simp[hm])
 obtain⟨u,hu⟩:=getq (l:=cs) (k:=i) (by rw[hrow.1];exact Qa hi)
 refine⟨u,?_,hrow.2.1 i u s hu hi⟩
 unfold w5n
 rw[hν]
 have:=q2c hok i u hu
 rw[Hh,Nat.zero_add] at this
 exact this
theorem j6q{g:Nat->SV S}: ∀{l:List (SV S)} {k i:Nat} {s:SV S},l[i]? =some s->s≠ .lk->(resL g k l)[i]? =some s
 |x::l,k,0,s,h,hn=>by
  simp at h
  subst h
  cases x<;>first|rfl|exact absurd rfl hn
 |x::l,k,i+1,s,h,hn=>by
  have:=j6q (g:=g) (l:=l) (k:=k+1) (i:=i) (by simpa using h) hn
  cases x<;>simpa [resL] using this
theorem v59{kd:Kd S}{K:kd.ty->AS S->Prop}(h:getK D ro st .lk kd K):False:=by
 cases kd with
 |bool=>
  simp only[getK] at h
  obtain⟨b,hb,_⟩:=Qf h
  cases hb
 |own e T=>
  simp only[getK] at h
  split at h
  ·rename_i hq;cases hq
  ·exact h
 |_=>exact h.elim
theorem w82(hD:D.Ok): ∀{l:List (Item S)} {st:AS S} {σ:Hv} {tk ms:List HObj} {K:HL l->AS S->Prop},GT D cx ro st f w ν σ tk ms->w4c D ro l st K->
  ∃xs st' σ' hs ms',K xs st'/\st'.slots=st.slots/\Sub σ σ'/\GT D cx ro st' f w ν σ' (tk++hs) ms'/\w80 D ν σ' f w l xs hs:=by
 intro l
 induction l with
 |nil=>intro st σ tk ms K h hK;exact⟨(),st,σ,[],ms,hK,rfl,Sub.refl _,by rw[List.append_nil];exact h,rfl⟩
 |cons it l ih=>
  intro st σ tk ms K h hK
  obtain⟨pl,kd⟩:=it
  simp only[w4c] at hK
  cases pl with
  |slot j=>
   simp only[getI] at hK
   obtain⟨x,st1,σ1,h1,ms1,hK1,hsl1,hsub1,hG1,hp1⟩:=w81 hD h (h.slots j) hK
   obtain⟨xs,st2,σ2,h2,ms2,hK2,hsl2,hsub2,hG2,hp2⟩:=ih hG1 hK1
   exact⟨(x,xs),st2,σ2,h1++h2,ms2,hK2,hsl2.trans hsl1,hsub1.trans hsub2,by rw[←List.append_assoc];exact hG2,⟨h1,h2,rfl,hp1.mono hsub2,hp2⟩⟩
  |cell o i=>
   simp only[getI] at hK
   split at hK
   case h_2=>exact hK.elim
   rename_i ty lc hob
   split at hK
   case h_2=>exact hK.elim
   rename_i s hs
   have hne:s≠ .lk:=fun he=>by subst he;exact v59 hK
   obtain⟨u,hu,hsr⟩:=h.cell hob (j6q hs hne)
   obtain⟨x,st1,σ1,h1,ms1,hK1,hsl1,hsub1,hG1,hp1⟩:=w81 hD h hsr hK
   obtain⟨xs,st2,σ2,h2,ms2,hK2,hsl2,hsub2,hG2,hp2⟩:=ih hG1 hK1
   exact⟨(x,xs),st2,σ2,h1++h2,ms2,hK2,hsl2.trans hsl1,hsub1.trans hsub2,by rw[←List.append_assoc];exact hG2,⟨h1,h2,u,rfl,hu,hp1.mono hsub2,hp2⟩⟩
  |obj o=>
   simp only[getI] at hK
   obtain⟨x,st1,h1,ms1,u,hK1,hsl1,hG1,hu,hp1⟩:=v58 h hK
   obtain⟨xs,st2,σ2,h2,ms2,hK2,hsl2,hsub2,hG2,hp2⟩:=ih hG1 hK1
   exact⟨(x,xs),st2,σ2,h1++h2,ms2,hK2,hsl2.trans hsl1,hsub2,by rw[←List.append_assoc];exact hG2,⟨h1,h2,u,rfl,hu,hp1.mono hsub2,hp2⟩⟩
end Go.Fx
end
noncomputable section
set_option maxRecDepth 100000
namespace Go.Fx
open Go Go.RowKit Go.Fl Go.Fl.Lk
variable {S:Sig}{P:Program}{D:Shp S}{ν ν' ν0:Nm}{σ τ:Hv}{n:Nat}{f:Fr}
variable {w:World}{cx:Cx}{ro:Ro S}{st:AS S}{ms:List HObj}
theorem ORep.transfer{ν₁ ν₂ ν':Nm}{σ₁ σ:Hv}{lkc:Nat->Nat->SV S}{o:Nat}{a:AO S}{m₁ m₂:HObj}(h1:ORep D ν₁ σ₁ lkc o a m₁)(h2:ORep D ν₂ σ lkc o a m₂)(hn: ∀o v,ν₁ o=some v->ν' o=ν₂ o):ORep D ν' σ lkc o a m₂:=by
 cases a with
 |cells ty l=>
  obtain⟨b1,cs1,e1,_,hr1⟩:=h1
  obtain⟨b2,cs2,e2,hm,hr2⟩:=h2
  refine⟨b2,cs2,by rw[hn _ _ e1];exact e2,hm,hr2.1,fun j v s hj hs=> ?_,hr2.2.2⟩
  obtain⟨u,hu⟩:=getq (l:=cs1) (k:=j) (by rw[hr1.1];exact Qa hs)
  exact (hr1.2.1 j u s hu hs).transfer (hr2.2.1 j v s hj hs) hn
 |vec e T l=>
  obtain⟨v1,xs1,e1,_⟩:=h1
  obtain⟨v2,xs2,e2,h⟩:=h2
  exact⟨v2,xs2,by rw[hn _ _ e1];exact e2,h⟩
 |frz T l=>
  obtain⟨v1,e1,_⟩:=h1
  obtain⟨v2,e2,h⟩:=h2
  exact⟨v2,by rw[hn _ _ e1];exact e2,h⟩
 |arr ty T N l=>
  obtain⟨b1,cs1,e1,_⟩:=h1
  obtain⟨b2,cs2,e2,h⟩:=h2
  exact⟨b2,cs2,by rw[hn _ _ e1];exact e2,h⟩
 |map K V F=>
  obtain⟨b1,m1,e1,_⟩:=h1
  obtain⟨b2,m2,e2,h⟩:=h2
  exact⟨b2,m2,by rw[hn _ _ e1];exact e2,h⟩
 |iter K V F done cur=>
  obtain⟨r1,b1,es1,c1,cv1,e1,_⟩:=h1
  obtain⟨r2,b2,es2,c2,cv2,e2,h⟩:=h2
  exact⟨r2,b2,es2,c2,cv2,by rw[hn _ _ e1];exact e2,h⟩
 |siter s pos=>
  obtain⟨r1,e1,_⟩:=h1
  obtain⟨r2,e2,h⟩:=h2
  exact⟨r2,by rw[hn _ _ e1];exact e2,h⟩
 |vech e T l k f q=>
  obtain⟨v1,xs1,e1,_,hE1,_⟩:=h1
  obtain⟨v2,xs2,e2,hm,hE2,hl⟩:=h2
  refine⟨v2,xs2,by rw[hn _ _ e1];exact e2,hm,⟨hE2.1,fun i x hx=>⟨(hE2.2 i x hx).1,fun j v s hj hs=> ?_,(hE2.2 i x hx).2.2⟩⟩,hl⟩
  obtain⟨u,hu⟩:=getq (l:=((xs1.drop (i*D.size T)).take (D.size T))) (k:=j) (by rw[(hE1.2 i x hx).1];exact Qa hs)
  exact ((hE1.2 i x hx).2.1 j u s hu hs).transfer ((hE2.2 i x hx).2.1 j v s hj hs) hn
theorem Objs.transfer{ν₂ ν' νe:Nm}{lkc:Nat->Nat->SV S}: ∀{os:List (Nat×AO S)} {ms:List HObj},(∀q∈os,∃σ m,ORep D νe σ lkc q.1 q.2 m)->Objs D ν₂ σ lkc os ms->(∀o v,νe o=some v->ν' o=ν₂ o)->Objs D ν' σ lkc os ms
 |[],[],_,_,_=>trivial
 |q::os,m::ms,h1,h2,hn=>by
  obtain⟨σ1,m1,h⟩:=h1 q (by simp)
  exact⟨h.transfer h2.1 hn,Objs.transfer (fun q hq=>h1 q (by simp[hq])) h2.2 hn⟩
theorem w83{kd:Kd S}{x:kd.ty}{u:Value}{hs:List HObj}{nm:Nat}{lkc:Nat->Nat->SV S}(h:PartRep D σ kd x u hs)(hn:ν nm=some u):SRep D ν σ u (putK D nm kd x).1/\Objs D ν σ lkc (putK D nm kd x).2 hs:=by
 cases kd with
 |int k=>obtain⟨rfl,rfl⟩:=h;exact⟨.f (.int _ _),trivial⟩
 |bool=>obtain⟨rfl,rfl⟩:=h;exact⟨.f (.bool _),trivial⟩
 |str=>obtain⟨rfl,rfl⟩:=h;exact⟨.f (.str _),trivial⟩
 |sl T=>obtain⟨h,rfl⟩:=h;exact⟨.f h,trivial⟩
 |own e T=>
  obtain⟨xs,rfl,h1,h2,h3⟩:=h
  exact⟨.hnd nm u hn h3,⟨u,xs,hn,rfl,h1,h2⟩,trivial⟩
 |el T=>
  obtain⟨cs,rfl,h1,rfl⟩:=h
  have:=h1.toS (ν:=ν)
  exact⟨.agg cs _ this.1 this.2.1 this.2.2,trivial⟩
 |map K V=>
  obtain⟨b,m,rfl,rfl,h1⟩:=h
  exact⟨.hnd nm _ hn rfl,⟨b,m,hn,rfl,h1⟩,trivial⟩
 |arr ty T N=>
  obtain⟨b,cs,rfl,rfl,h1,h2⟩:=h
  exact⟨.ref nm 0 b hn,⟨b,cs,hn,rfl,h1,h2⟩,trivial⟩
 |iter K V=>
  obtain⟨r,b,es,clock,cv,rfl,rfl,h1,h2,h3,h4,h5,h6⟩:=h
  exact⟨.ref nm 0 r hn,⟨r,b,es,clock,cv,hn,rfl,h1,h2,h3,h4,h5,h6,by simp⟩,trivial⟩
 |siter=>
  obtain⟨r,rfl,rfl⟩:=h
  exact⟨.ref nm 0 r hn,⟨r,hn,rfl⟩,trivial⟩
 |vech e T f=>
  obtain⟨xs,rfl,h1,h2,h3⟩:=h
  exact⟨.hnd nm u hn h3,⟨u,xs,hn,rfl,h1 ν,h2⟩,trivial⟩
theorem v6a{kd:Kd S}{x:kd.ty}{nm:Nat}:(putK D nm kd x).1≠ .lk:=by cases kd<;>simp[putK]
theorem w84{nm0:Nat}{lkc:Nat->Nat->SV S}: ∀{l:List (Item S)} {xs:HL l} {hs ams:List HObj} {nm:Nat} {νk:Nm} {a:Acc S},w80 D ν σ f w l xs hs->nm0<=nm->z35 nm0 l=true->(∀o,nm<=o->νk o=none)->(∀o,o<nm0->νk o=ν o)->
  (∀j,SRep D νk σ (f j) (a.slots j))->Objs D νk σ lkc a.objs ams->(∀q∈a.cells,q.2≠ .lk/\ ∃u,w5n ν w q.1.1 q.1.2=some u/\SRep D νk σ u q.2)->
  ∃νf ams',Ext νk νf/\(∀o,nm+l.length<=o->νf o=none)/\(∀o,o<nm0->νf o=ν o)/\(hs++ams).Perm ams'/\(∀j,SRep D νf σ (f j) ((q5u D l xs nm a).slots j))/\Objs D νf σ lkc (q5u D l xs nm a).objs ams'/\
   ∀q∈(q5u D l xs nm a).cells,q.2≠ .lk/\ ∃u,w5n ν w q.1.1 q.1.2=some u/\SRep D νf σ u q.2:=by
 intro l
 induction l with
 |nil=>
  intro xs hs ams nm νk a hp _ _ hfr hag h1 h2 h3
  have hp':hs=[]:=hp
  subst hp'
  exact⟨νk,ams,Ext.refl _,by simpa using hfr,hag,.refl _,h1,h2,h3⟩
 |cons it l ih=>
  intro xs hs ams nm νk a hp hle hlt hfr hag h1 h2 h3
  obtain⟨pl,kd⟩:=it
  obtain⟨x,xs⟩:=xs
  have hnk:νk nm=none:=hfr nm (Nat.le_refl _)
  have hfr': ∀u:Value,∀o,nm+1<=o->(νk.add nm u) o=none:=by
   intro u o ho
   rcases hq:(νk.add nm u) o with _|v
   ·rfl
   ·rcases Nm.add_new o v hq with h4|h4
    ·rw[hfr o (by omega)] at h4;cases h4
    ·omega
  have hag': ∀u:Value,∀o,o<nm0->(νk.add nm u) o=ν o:=by
   intro u o ho
   rw[←hag o ho]
   unfold Nm.add
   rw[if_neg (by omega)]
  have elen:nm+1+l.length=nm+(l.length+1):=by omega
  cases pl with
  |slot j=>
   obtain⟨hs1,hs2,rfl,hp1,hp2⟩:=hp
   have hadd:=Nm.add_ext (v:=f j) hnk
   have hput:=w83 (lkc:=lkc) hp1 (Nm.add_self (ν:=νk) (o:=nm) (v:=f j))
   obtain⟨νf,ams',e1,e2,e3,e4,e5,e6,e7⟩:=ih (ams:=hs1++ams) (nm:=nm+1) (νk:=νk.add nm (f j)) (a:={a with slots:=updS a.slots j (putK D nm kd x).1,objs:=(putK D nm kd x).2++a.objs}) hp2 (by omega) hlt (hfr' _) (hag' _)
    (fun j'=>by
     show SRep D _ σ (f j') (updS a.slots j (putK D nm kd x).1 j')
     unfold updS
     cases hb:Nat.beq j' j with
     |true=>
      have:=Nat.eq_of_beq_eq_true hb
      subst this
      exact hput.1
     |false=>exact (h1 j').mono hadd (Sub.refl _))
    (hput.2.append (h2.mono hadd (Sub.refl _))) (fun q hq=>⟨(h3 q hq).1,by obtain⟨u,hu,hr⟩:=(h3 q hq).2;exact⟨u,hu,hr.mono hadd (Sub.refl _)⟩⟩)
   refine⟨νf,ams',hadd.trans e1,by rw[List.length_cons,←elen];exact e2,e3,?_,e5,e6,e7⟩
   refine List.Perm.trans ?_ e4
   rw[List.append_assoc]
   rw[←List.append_assoc,←List.append_assoc]
   exact List.Perm.append_right ams List.perm_append_comm
  |cell o i=>
   obtain⟨hs1,hs2,u,rfl,hu,hp1,hp2⟩:=hp
   simp only[z35] at hlt
   obtain⟨_,hlt⟩:=Qu hlt
   have hadd:=Nm.add_ext (v:=u) hnk
   have hput:=w83 (lkc:=lkc) hp1 (Nm.add_self (ν:=νk) (o:=nm) (v:=u))
   obtain⟨νf,ams',e1,e2,e3,e4,e5,e6,e7⟩:=ih (ams:=hs1++ams) (nm:=nm+1) (νk:=νk.add nm u) (a:={a with cells:=((o,i),(putK D nm kd x).1)::a.cells,objs:=(putK D nm kd x).2++a.objs}) hp2 (by omega) hlt (hfr' _) (hag' _)
    (fun j'=>(h1 j').mono hadd (Sub.refl _))
    (hput.2.append (h2.mono hadd (Sub.refl _))) (fun q hq=>by
     rcases List.mem_cons.1 hq with rfl|hq
     ·exact⟨v6a,u,hu,hput.1⟩
     ·exact⟨(h3 q hq).1,by obtain⟨u,hu,hr⟩:=(h3 q hq).2;exact⟨u,hu,hr.mono hadd (Sub.refl _)⟩⟩)
   refine⟨νf,ams',hadd.trans e1,by rw[List.length_cons,←elen];exact e2,e3,?_,e5,e6,e7⟩
   refine List.Perm.trans ?_ e4
   rw[←List.append_assoc]
   exact List.Perm.append_right ams List.perm_append_comm
  |obj o=>
   obtain⟨hs1,hs2,u,rfl,hu,hp1,hp2⟩:=hp
   simp only[z35] at hlt
   obtain⟨ho,hlt⟩:=Qu hlt
   have ho:o<nm0:=by rw[←Nat.blt_eq];exact ho
   have hput:=w83 (lkc:=lkc) hp1 (ν:=νk) (nm:=o) (by rw[hag o ho];exact hu)
   obtain⟨νf,ams',e1,e2,e3,e4,e5,e6,e7⟩:=ih (ams:=hs1++ams) (nm:=nm+1) (νk:=νk) (a:={a with objs:=(putK D o kd x).2++a.objs}) hp2 (by omega) hlt (fun o ho=>hfr o (by omega)) hag h1 (hput.2.append h2) h3
   refine⟨νf,ams',e1,by rw[List.length_cons,←elen];exact e2,e3,?_,e5,e6,e7⟩
   refine List.Perm.trans ?_ e4
   rw[←List.append_assoc]
   exact List.Perm.append_right ams List.perm_append_comm
structure RoE(D:Shp S)(ν0 νe:Nm)(ro:Ro S)(sp:Spec S)(nm:Nat):Prop where
 dom: ∀o v,νe o=some v->o<nm
 ext:Ext ν0 νe
 slots: ∀j,hasN ro.lock j=true-> ∃v σ,SRep D νe σ v (ro.slots j)
 objs: ∀q∈ro.objs,∃σ m,ORep D νe σ ro.cell q.1 q.2 m
 cells: ∀q∈sp.cobj,∀i,i<q.2.2->z7w sp.items q.1 i=false-> ∃v σ,SRep D νe σ v (ro.cell q.1 i)
 cobj:q8o (sp.cobj.map (·.1))=true
 lt:z35 nm sp.items=true
 clt: ∀q∈sp.cobj,q.1<nm
theorem q5v: ∀{l:List Nat},q8o l=true->l.Nodup
 |[],_=>List.nodup_nil
 |a::l,h=>by
  obtain⟨h1,h2⟩:=Qu h
  exact List.nodup_cons.2 ⟨q9h (by simpa using h1),q5v h2⟩
theorem j9e{g:Nat->Bool}: ∀{l:List (SV S)} {k i:Nat},j5l g k l=true->i<l.length->g (k+i)=false->l[i]? =some .lk
 |s::l,k,i,h,hi,hg=>by
  have hl:j5l g (k+1) l=true/\(s= .lk∨g k=true):=by
   cases s<;>first|exact⟨h,.inl rfl⟩|exact⟨(Qu h).2,.inr (Qu h).1⟩
  cases i with
  |zero=>
   rcases hl.2 with rfl|hk
   ·rfl
   ·rw[Nat.add_zero] at hg;rw[hg] at hk;cases hk
  |succ i=>
   rw[List.getElem?_cons_succ]
   exact j9e hl.1 (by simpa using hi) (by rw[←hg];congr 1;omega)
theorem j1s{g:Nat->Option (SV S)}: ∀{n k i:Nat},i<n->(z4u g k n)[i]? =some ((g (k+i)).getD .lk)
 |n+1,k,0,_=>by simp[z4u]
 |n+1,k,i+1,h=>by
  simp only[z4u,List.getElem?_cons_succ]
  rw[j1s (by omega)]
  congr 3;omega
theorem j1t{g:Nat->Option (SV S)}: ∀{n k:Nat},(z4u g k n).length=n
 |0,_=>rfl
 |n+1,k=>by simp[z4u,j1t]
theorem j0n{g:Nat->SV S}{l:List (SV S)}{i:Nat}:(resL g i l).length=l.length:=j0l
theorem z70{g:Nat->SV S}: ∀{l:List (SV S)} {k i:Nat},l[i]? =some .lk->(resL g k l)[i]? =some (g (k+i))
 |s::l,k,0,h=>by simp at h;subst h;simp[resL]
 |s::l,k,i+1,h=>by
  have:=z70 (g:=g) (l:=l) (k:=k+1) (i:=i) (by simpa using h)
  have e:k+1+i=k+(i+1):=by omega
  rw[e] at this
  cases s<;>simpa [resL] using this
theorem w4g{o i:Nat}{s:SV S}: ∀{l:List ((Nat×Nat)×SV S)},z7v l o i=some s->((o,i),s)∈l
 |[],h=>by cases h
 |((o',i'),s')::l,h=>by
  simp only[z7v] at h
  cases hb:(Nat.beq o' o && Nat.beq i' i) with
  |true=>
   rw[hb] at h;cases h
   obtain⟨h1,h2⟩:=Qu hb
   rw[Nat.eq_of_beq_eq_true h1,Nat.eq_of_beq_eq_true h2];simp
  |false=>
   rw[hb] at h
   exact List.mem_cons_of_mem _ (w4g h)
theorem w5o{o i:Nat}{q:(Nat×Nat)×SV S}{l:List ((Nat×Nat)×SV S)}(h:z7v l o i≠none):z7v (q::l) o i≠none:=by
 obtain⟨⟨o',i'⟩,s⟩:=q
 simp only[z7v]
 cases (Nat.beq o' o && Nat.beq i' i) with
 |true=>simp
 |false=>exact h
theorem q9i{o i:Nat}: ∀{l:List (Item S)} {xs:HL l} {nm:Nat} {a:Acc S},z7v a.cells o i≠none->z7v (q5u D l xs nm a).cells o i≠none
 |[],_,_,_,h=>h
 |(.slot j,kd)::l,(x,_),nm,a,h=>q9i (l:=l) (a:={a with slots:=updS a.slots j (putK D nm kd x).1,objs:=(putK D nm kd x).2++a.objs}) h
 |(.cell o' i',kd)::l,(x,_),nm,a,h=>q9i (l:=l) (a:={a with cells:=((o',i'),(putK D nm kd x).1)::a.cells,objs:=(putK D nm kd x).2++a.objs}) (w5o h)
 |(.obj o',kd)::l,(x,_),_,a,h=>q9i (l:=l) (a:={a with objs:=(putK D o' kd x).2++a.objs}) h
theorem q9j{o i:Nat}: ∀{l:List (Item S)} {xs:HL l} {nm:Nat} {a:Acc S},z7w l o i=true->z7v (q5u D l xs nm a).cells o i≠none
 |[],_,_,_,h=>by cases h
 |(.slot j,kd)::l,(x,xs),nm,a,h=>q9j (l:=l) (xs:=xs) (nm:=nm+1) (a:={a with slots:=updS a.slots j (putK D nm kd x).1,objs:=(putK D nm kd x).2++a.objs}) h
 |(.cell o' i',kd)::l,(x,xs),nm,a,h=>by
  simp only[z7w] at h
  simp only[q5u]
  cases hb:(Nat.beq o' o && Nat.beq i' i) with
  |true=>exact q9i (l:=l) (by simp[z7v,hb])
  |false=>rw[hb] at h;exact q9j (l:=l) h
 |(.obj o',kd)::l,(x,xs),nm,a,h=>q9j (l:=l) (xs:=xs) (nm:=nm+1) (a:={a with objs:=(putK D o' kd x).2++a.objs}) h
theorem Objs.takeR{lkc:Nat->Nat->SV S}{tlo os os':List (Nat×AO S)}{ms:List HObj}(h:Objs D ν σ lkc (os++os') ms)(hn:(tlo.map (·.1)).Nodup)(hq: ∀q∈tlo,Zb os q.1=some q.2):
  ∃ins r1 r2,ms.Perm (ins++(r1++r2))/\Objs D ν σ lkc tlo ins/\Objs D ν σ lkc (Bt os (tlo.map (·.1))) r1/\Objs D ν σ lkc os' r2:=by
 obtain⟨ins,rest,hp,h1,h2⟩:=h.takes hn hq
 obtain⟨r1,r2,rfl,h3,h4⟩:=h2.split
 exact⟨ins,r1,r2,hp,h1,h3,h4⟩
theorem z71{νe:Nm}{sp:Spec S}{nm:Nat}{Y:HL sp.items->Prop}(hD:D.Ok)(hE:RoE D ν0 νe ro sp nm)(h:G D cx ν0 ro st f w ν σ ms)(hY:endI D ro sp st Y):
  ∃t ν' σ' ms',Y t/\G D cx ν0 ro (stOf D sp nm t) f w ν' σ' ms':=by
 obtain⟨xs,st',σ',hs,ms',hK,hsl,hsub,hG,hp⟩:=w82 hD (tk:=[]) ⟨by simpa using h.mem,h.objs,h.slots⟩ hY
 obtain⟨hend,hK⟩:=Jc hK
 refine⟨xs,?_⟩
 have hfind: ∀q∈sp.cobj,∃l:List (SV S),Zb st'.objs q.1=some (.cells q.2.1 l)/\l.length=q.2.2/\j5l (z7w sp.items q.1) 0 l=true:=by
  intro q hq
  have:=List.all_eq_true.1 hend q hq
  split at this
  case h_2=>cases this
  rename_i ty l hf
  obtain⟨h1,h3⟩:=Qu this
  obtain⟨h1,h2⟩:=Qu h1
  rw[Nat.eq_of_beq_eq_true h1] at hf
  exact⟨l,hf,Nat.eq_of_beq_eq_true h2,h3⟩
 have hlist: ∃tlo:List (Nat×AO S),tlo.map (·.1)=sp.cobj.map (·.1)/\ ∀q∈tlo,Zb st'.objs q.1=some q.2:=by
  have key: ∀(l:List (Nat×TypeId×Nat)),(∀q∈l,∃a,Zb st'.objs q.1=some a)-> ∃tlo:List (Nat×AO S),tlo.map (·.1)=l.map (·.1)/\ ∀q∈tlo,Zb st'.objs q.1=some q.2:=by
   intro l
   induction l with
   |nil=>intro _;exact⟨[],rfl,by simp⟩
   |cons q l ih=>
    intro hq
    obtain⟨a,ha⟩:=hq q (by simp)
    obtain⟨tlo,h1,h2⟩:=ih (fun q hq'=>hq q (by simp[hq']))
    refine⟨(q.1,a)::tlo,by simp[h1],fun q' hq'=> ?_⟩
    rcases List.mem_cons.1 hq' with rfl|hq'
    ·exact ha
    ·exact h2 q' hq'
  exact key sp.cobj fun q hq=>by obtain⟨l,hl,_⟩:=hfind q hq;exact⟨_,hl⟩
 obtain⟨tlo,ht1,ht2⟩:=hlist
 obtain⟨ins,r1,r2,hperm,ho1,ho0,ho2⟩:=hG.objs.takeR (tlo:=tlo) (by rw[ht1];exact q5v hE.cobj) ht2
 let νb:Nm:=fun o=>if o<nm then ν o else none
 obtain⟨νf,ams',e1,e2,e3,e4,e5,e6,e7⟩:=w84 (D:=D) (ν:=ν) (σ:=σ') (f:=f) (w:=w) (nm0:=nm) (lkc:=ro.cell) (l:=sp.items) (xs:=xs) (hs:=hs) (ams:=[]) (nm:=nm) (νk:=νb) (a:=⟨fun _=> .dead,[],[]⟩) hp (Nat.le_refl _) hE.lt
  (fun o ho=>if_neg (by omega)) (fun o ho=>if_pos ho) (fun j=> .dead _) trivial (by simp)
 rw[List.append_nil] at e4
 have hag: ∀o v,νe o=some v->νf o=ν o:=fun o v ho=>e3 o (hE.dom o v ho)
 have hmem:St cx w σ' (ams'++(ins++r2)):=by
  have h1:=hG.mem
  rw[List.nil_append] at h1
  have h2:=h1.perm (ms':=(ams'++(ins++r2))++r1) (by
   refine (List.Perm.append e4 hperm).trans ?_
   rw[List.append_assoc,List.append_assoc]
   exact List.Perm.append_left ams' (List.Perm.append_left ins List.perm_append_comm))
  exact h2.sublist (List.sublist_append_left _ _)
 refine⟨νf,σ',ams'++(ins++r2),hK,hmem,?_,?_,?_,?_,z5z h.glob hsub⟩
 ·
  show Objs D νf σ' ro.cell (((q5u D sp.items xs nm ⟨fun _=> .dead,[],[]⟩).objs++w8l (q5u D sp.items xs nm ⟨fun _=> .dead,[],[]⟩).cells sp.cobj)++ro.objs) _
  rw[List.append_assoc]
  refine e6.append (Objs.append ?_ (Objs.transfer hE.objs ho2 hag))
  have hmemi: ∀m∈ins,m.ok w:=fun m hm=>hmem.own m (by simp[hm])
  have hcl:=hE.cells
  have hclt:=hE.clt
  clear hE hend hperm hmem ho0
  generalize sp.cobj=cl at hfind ht1 hcl hclt
  induction cl generalizing tlo ins with
  |nil=>
   cases tlo with
   |cons=>cases ht1
   |nil=>
    cases ins with
    |nil=>trivial
    |cons=>exact ho1.elim
  |cons q cl ih=>
   cases tlo with
   |nil=>cases ht1
   |cons q' tlo=>
    cases ins with
    |nil=>exact ho1.elim
    |cons m ins=>
     injection ht1 with ht0 ht1
     obtain⟨o,a⟩:=q'
     obtain⟨o',ty,len⟩:=q
     simp only at ht0
     subst ht0
     refine⟨?_,ih (ins:=ins) (tlo:=tlo) (ht1:=ht1) (ht2:=fun q hq=>ht2 q (by simp[hq])) (ho1:=ho1.2) (hfind:=fun q hq=>hfind q (by simp[hq])) (hcl:=fun q hq=>hcl q (by simp[hq])) (hclt:=fun q hq=>hclt q (by simp[hq])) (hmemi:=fun m hm=>hmemi m (by simp[hm]))⟩
     obtain⟨l,hl,hlen,hstill⟩:=hfind (o,ty,len) (by simp)
     have ha:=ht2 (o,a) (by simp)
     simp only at ha hl hlen hstill
     rw[hl] at ha;cases ha
     obtain⟨b,cs,hν,hm,hrow⟩:=ho1.1
     subst hm
     have hon:o<nm:=hclt (o,ty,len) (by simp)
     have hcsl:cs.length=len:=by rw[hrow.1,j0n,hlen]
     have hblk:=hmemi (blk b ty cs) (by simp)
     refine⟨b,cs,by rw[e3 o hon];exact hν,rfl,by rw[j0n,j1t,hcsl],fun j v s hj hs=> ?_,hrow.2.2⟩
     have hjl:j<len:=by rw[←hcsl];exact Qa hj
     have hget:=j1s (g:=z7v (q5u D sp.items xs nm ⟨fun _=> .dead,[],[]⟩).cells o) (k:=0) hjl
     rw[Nat.zero_add] at hget
     cases hc:z7v (q5u D sp.items xs nm ⟨fun _=> .dead,[],[]⟩).cells o j with
     |some s'=>
      rw[hc,Option.getD_some] at hget
      obtain⟨hne,u,hu,hr⟩:=e7 _ (w4g hc)
      rw[j6q hget hne] at hs
      cases hs
      have hcell:=q2c hblk j v hj
      rw[Hh,Nat.zero_add] at hcell
      unfold w5n at hu
      simp only[hν] at hu
      rw[hcell] at hu;cases hu
      exact hr
     |none=>
      rw[hc,Option.getD_none] at hget
      have hitem:z7w sp.items o j=false:=by
       cases hb:z7w sp.items o j with
       |false=>rfl
       |true=>exact absurd hc (q9j hb)
      have hs':=z70 (g:=ro.cell o) (k:=0) hget
      rw[hs'] at hs;cases hs
      rw[Nat.zero_add]
      have hlk:=j9e hstill (i:=j) (by omega) (by rw[Nat.zero_add];exact hitem)
      have hres:=z70 (g:=ro.cell o) (k:=0) hlk
      rw[Nat.zero_add] at hres
      obtain⟨v1,σ1,hv1⟩:=hcl (o,ty,len) (by simp) j hjl hitem
      exact hv1.transfer (hrow.2.1 j v _ hj hres) hag
 ·
  intro j
  show SRep D νf σ' (f j) (bif hasN ro.lock j then ro.slots j else (q5u D sp.items xs nm ⟨fun _=> .dead,[],[]⟩).slots j)
  cases hl:hasN ro.lock j with
  |false=>exact e5 j
  |true=>
   obtain⟨v1,σ1,hv1⟩:=hE.slots j hl
   have:=h.slots j
   unfold q4t at this
   rw[hl] at this
   exact hv1.transfer (this.mono (Ext.refl ν) hsub) hag
 ·exact e2
 ·intro o v ho
  rw[hag o v (hE.ext o v ho)]
  exact h.ext o v ho
end Go.Fx
end
