/- TrafficCools This is part 5 of 10. Conditions: those in the statements. -/
import Derived.Test.YtflilmgifibgoaaGreatDoorCoo4
import Derived.KernelRfl
import Derived.Conc.MuLone
import GoSem.Core.Utf8
import Derived.Lib.ValidU
noncomputable section
set_option maxRecDepth 100000
open Go Go.RowKit Go.Fl Go.Fl.Lk Go.Fx Go.Proofs
namespace Go.En
def w31:Prop:= ∀(σ:Hv) (w:World) (v:Value) (l:List Col),View σ w->Glb D σ->RepF D σ v (.sl C.cool l)->Sml l.length->Calls Tryz.prog 193 #[v] w fun e w1=> ∃(u:Value) (σ1:Hv) (ys:List Value),e= .returned u/\St ⟨w,σ,[]⟩ w1 σ1 [vec u 125 3 l.length ys]/\Els D σ1 C.cool ys l
theorem j45(hC:w31){σ:Hv}{w:World}{cs:List Value}{x:Lay_}(hV:View σ w)(hG:Glb D σ)(hr:RowF D σ cs (D.shape C.layer x))(hs:Sml x.6.length):
  Calls Tryz.prog 138 #[.agg cs.toArray] w fun e w1=> ∃(u:Value) (σ1:Hv) (ys:List Value),e= .returned (.agg (cs.set 5 u).toArray)/\u.oneCell'=true/\St ⟨w,σ,[]⟩ w1 σ1 [vec u 125 3 x.6.length ys]/\Els D σ1 C.cool ys x.6:=by
 refine enter Tryz.func138 rfl rfl rfl ?_
 have hS:=St.start hV
 obtain⟨c0,c1,c2,c3,c4,c5,rfl⟩: ∃c0 c1 c2 c3 c4 c5,cs=[c0,c1,c2,c3,c4,c5]:=by
  match cs,hr.1 with
  |[c0,c1,c2,c3,c4,c5],_=>exact⟨c0,c1,c2,c3,c4,c5,rfl⟩
 have h5:RepF D σ c5 (.sl C.cool x.6):=hr.2 5 c5 _ rfl rfl
 have ones: ∀u∈[c0,c1,c2,c3,c4,c5],u.oneCell'=true:=fun u hu=>by
  obtain⟨j,hj⟩:=List.mem_iff_getElem?.1 hu
  obtain⟨s,hs⟩:=getq (l:=D.shape C.layer x) (k:=j) (by rw[←hr.1];exact Qb hj)
  exact (hr.2 j u s hj hs).one
 refine Ql ?_
 refine v1c (cs:=[c0,c1,c2,c3,c4,c5]) hS rfl rfl ?_
 intro b1 w1 hS1
 refine q09 hS1 Tryz.zeroValue61 rfl ?_
 intro b2 w2 hS2
 refine wpList_nil ?_
 refine Qg ?_
 refine Ql ?_
 refine z3r (a':=⟨b1,5,none⟩) rfl Tryz.underlying61 rfl Tryz.sizeOf59 rfl ?_
 refine q1m (v:=c5) rfl Tryz.isAgg59 (hS2.cell (i:=1) rfl rfl) ?_
 refine q45 (args:=[c5]) rfl (fun _ _=>rfl) (Calls.mono (hC σ w2 c5 x.6 hS2.view hG h5 hs) ?_)
 rintro e w3 ⟨u,σ3,ys,rfl,hS3,hE⟩
 obtain⟨a,cap,rfl⟩:=q7s (hS3.get (i:=0) rfl)
 have hS4:=St.callM (ins:=[]) hS2 hS3 rfl
 refine⟨_,rfl,?_⟩
 refine z3r (a':=⟨b1,5,none⟩) rfl Tryz.underlying61 rfl Tryz.sizeOf59 rfl ?_
 refine Hl (vs:=[.slice a x.6.length cap]) hS4 rfl rfl rfl Tryz.sizeOf59 rfl (by simp[Value.oneCell']) (i:=2) rfl (by simp) rfl rfl ?_
 intro w4 hS5
 refine wpList_nil ?_
 refine Qg ?_
 refine Ql ?_
 refine z64 (cs:=[c0,c1,c2,c3,c4,.slice a x.6.length cap]) rfl Tryz.isAgg61 Tryz.sizeOf61 rfl (Br (hS5.get (i:=2) rfl)) ?_
 refine Hl (vs:=[c0,c1,c2,c3,c4,.slice a x.6.length cap]) hS5 rfl rfl rfl Tryz.sizeOf61 rfl (fun u hu=> ?_) (i:=1) rfl (by decide) rfl rfl ?_
 ·simp only[List.mem_cons,List.not_mem_nil,or_false] at hu
  rcases hu with rfl|rfl|rfl|rfl|rfl|rfl
  all_goals first|rfl|exact ones _ (by simp)
 intro w5 hS6
 refine wpList_nil ?_
 refine Qg ?_
 refine wp_ret ?_
 refine w7t rfl rfl (hS6.get (i:=1) rfl) Tryz.underlying61 rfl rfl ?_
 exact⟨.slice a x.6.length cap,σ3,ys,rfl,rfl,(hS6.drop 2 rfl).drop 1 rfl,hE⟩
section
variable {P:Program}{ops:Array Oper}{Q:Exit->Act->World->Prop}{rest:List Oper}{n:Nat}{f:Fr}{w:World}{d:Nat}{t:TypeId}{p:String}{af:Array Edge}{c:Cx}{σ:Hv}{ms:List HObj}
theorem w32{ty e:TypeId}{l cc:Operand}{k size:Nat}{i:TypeInfo}{z:Value}(hS:St c w σ ms)(hl:ev n f l= .int .i64 (0:Int))(hc:ev n f cc= .int .i64 ((k:Nat):Int))
  (hu:P.underlying ty=some (.slice e))(hi:P.info? e=some i)(hz:i.zero=some z)(hsz:i.size=size)(hzl:z.cells.toList.length=size)(hb:i.bytes*k<=281474976710656)(hm:k<=maxLen)
  (h: ∀b w',St c w' σ (vec (.slice (some ⟨b,0,none⟩) 0 k) e size 0 []::ms)->wpList P ops Q rest (mk n (upd f d (.slice (some ⟨b,0,none⟩) 0 k))) w'):
  wpList P ops Q (⟨some d,.makeSlice ty l cc,t,p,af,none⟩::rest) (mk n f) w:=by
 obtain⟨w',hr,ho,hg⟩:=z5g (P:=P) w ty e i z size hu hi hz hsz hzl 0 k (Nat.zero_le _) hb hm
 refine q1o rfl rfl (by simp only[execOp,hl,hc,Sem.run_bind];rw[show ((0:Int))=((0:Nat):Int) from rfl,hr];simp only[Result.andThen_ok];rfl) (h _ _ (hS.add ⟨hg.os,hg.tape,hg.output,hg.size,fun k hk _=>hg.block k hk (by simp)⟩ ?_ (by rintro k ⟨⟩;exact Nat.le_refl _)))
 have ho:(vec (.slice (some ⟨w.heap.size,0,none⟩) 0 k) e size 0 (List.replicate 0 z.cells.toList).flatten).ok w':=ho
 exact ho
end
def CopS(σ:Hv)(xs:List Value)(l:List Lay_)(j k:Nat)(u:Value):Prop:=
 xs.length=j*6/\ ∀(i:Nat) y,i<j->l[i]? =some y-> ∀(q:Nat) v s,((xs.drop (i*6)).take 6)[q]? =some v->(D.shape C.layer y)[q]? =some s->(i=k/\q=5/\v=u)∨(¬(i=k/\q=5)/\RepF D σ v s)
theorem CopS.snoc{σ τ:Hv}{xs cs:List Value}{l:List Lay_}{j k:Nat}{u u':Value}{y:Lay_}(h:CopS σ xs l j k u)(hs:Sub σ τ)(hy:l[j]? =some y)(hcl:cs.length=6)(hu:k<j->u'=u)
  (hr: ∀(q:Nat) v s,cs[q]? =some v->(D.shape C.layer y)[q]? =some s->(j=k/\q=5/\v=u')∨(¬(j=k/\q=5)/\RepF D τ v s)):CopS τ (xs++cs) l (j+1) k u':=by
 have h1:=h.1
 refine⟨by rw[List.length_append];omega,fun i z hi hz q v s hv hs'=> ?_⟩
 by_cases e:i=j
 ·subst e
  rw[hy] at hz;cases hz
  refine hr q v s ?_ hs'
  rw[List.drop_append_of_le_length (by omega),List.drop_eq_nil_of_le (by omega),List.nil_append,List.take_of_length_le (by omega)] at hv
  exact hv
 ·have hi':i<j:=by omega
  have hb:(i+1)*6<=j*6:=Nat.mul_le_mul_right _ hi'
  rw[List.drop_append_of_le_length (by omega),List.take_append_of_le_length (by rw[List.length_drop];omega)] at hv
  rcases h.2 i z hi' hz q v s hv hs' with ⟨e1,e2,e3⟩|⟨no,hr'⟩
  ·exact .inl ⟨e1,e2,e3.trans (hu (by omega)).symm⟩
  ·exact .inr ⟨no,hr'.mono hs⟩
theorem j7c(hC:w31){σ:Hv}{w:World}{v:Value}{l:List Lay_}{k:Nat}{x:Lay_}(hV:View σ w)(hG:Glb D σ)(hf:RepF D σ v (.sl C.layer l))(hsm:Sml l.length)(hcs: ∀x∈l,Sml x.6.length)(hk:l[k]? =some x):
  Calls Tryz.prog 137 #[v,.func (.func 138) #[] #[]] w fun e w1=> ∃(r u:Value) (σ1:Hv) (xs ys:List Value),e= .returned r/\r.oneCell'=true/\u.oneCell'=true/\St ⟨w,σ,[]⟩ w1 σ1 [vec r 61 6 l.length xs,vec u 125 3 x.6.length ys]/\CopS σ1 xs l l.length k u/\Els D σ1 C.cool ys x.6:=by
 refine enter Tryz.func137 rfl rfl rfl ?_
 have hS:=St.start hV
 obtain⟨ad,cap,rfl,_,h47,hrow⟩:=hf.toRSl okP.ok
 have hsm':l.length<=4294967296:=hsm
 have hkl:=Qb hk
 refine Ql ?_
 refine Qq (v:= .slice none 0 0) rfl ?_
 refine wpList_nil ?_
 refine Qg ?_
 refine Ql ?_
 refine Qp (v:= .slice ad l.length cap) rfl ?_
 refine q2g rfl Tryz.underlying32 ?_
 refine w32 (k:=l.length) (size:=6) hS rfl rfl Tryz.underlying32 rfl rfl rfl rfl (by show 88*l.length<=_;omega) (by unfold maxLen;omega) ?_
 intro b0 w1 hS1
 refine Qq (v:= .slice (some ⟨b0,0,none⟩) 0 l.length) rfl ?_
 refine wpList_nil ?_
 refine Qg ?_
 refine wp_seq ?_
 refine Ql ?_
 refine Qp (v:= .slice ad l.length cap) rfl ?_
 refine q2g rfl Tryz.underlying32 ?_
 refine Qp (v:= .int .i64 ((0:Nat):Int)) rfl ?_
 refine wpList_nil ?_
 refine Qg ?_
 refine wp_block ?_
 refine loop (fun m f z=> ∃(j:Nat) (r u:Value) (σj:Hv) (xs ys:List Value),m=l.length - j/\j<=l.length/\f 1= .func (.func 138) #[] #[]/\f 5=r/\f 11= .slice ad l.length cap/\f 12= .int .i64 ((l.length:Nat):Int)/\f 13= .int .i64 ((j:Nat):Int)/\r.oneCell'=true/\Sub σ σj/\
  St ⟨w,σ,[]⟩ z σj (vec r 61 6 j xs::(if k<j then [vec u 125 3 x.6.length ys] else []))/\CopS σj xs l j k u/\(k<j->u.oneCell'=true/\Els D σj C.cool ys x.6)) (m0:=l.length)
  ⟨0,.slice (some ⟨b0,0,none⟩) 0 l.length,.slice none 0 0,σ,[],[],rfl,Nat.zero_le _,rfl,rfl,rfl,rfl,rfl,rfl,Sub.refl _,by rw[if_neg (by omega)];exact hS1,⟨rfl,fun i y hi=>by omega⟩,fun h=>by omega⟩ ?_
 rintro _ f z ⟨j,r,u,σj,xs,ys,rfl,hj,f1,f5,f11,f12,f13,hr1,hsub,hSj,hcop,hku⟩
 refine Ql ?_
 refine j5o (r:=decide (((j:Nat):Int)<((l.length:Nat):Int))) f13 f12 rfl ?_
 refine wpList_nil ?_
 refine Qg ?_
 refine wp_seq ?_
 refine if_d (((j:Nat):Int)<((l.length:Nat):Int)) rfl (fun ht=> ?_) (fun ht=> ?_)
 ·refine wp_skip ?_
  refine Qg ?_
  refine wp_seq ?_
  refine wp_block ?_
  have hjl:j<l.length:=by omega
  obtain⟨y,hy⟩:=getq (l:=l) (k:=j) hjl
  obtain⟨ad1,cs,had,hcl,hvr,hrF⟩:=hrow j y hy
  obtain⟨c0,c1,c2,c3,c4,c5,rfl⟩: ∃c0 c1 c2 c3 c4 c5,cs=[c0,c1,c2,c3,c4,c5]:=by
   match cs,hcl with
   |[c0,c1,c2,c3,c4,c5],_=>exact⟨c0,c1,c2,c3,c4,c5,rfl⟩
  have ones: ∀u∈[c0,c1,c2,c3,c4,c5],u.oneCell'=true:=fun u hu=>by
   obtain⟨q,hq⟩:=List.mem_iff_getElem?.1 hu
   obtain⟨s,hs⟩:=getq (l:=D.shape C.layer y) (k:=q) (by rw[←hrF.1];exact Qb hq)
   exact (hrF.2 q u s hq hs).one
  refine Ql ?_
  refine H2 (k:=j) (a':=ad1.add (j*6)) (f11.trans (by rw[had])) f13 rfl hjl Tryz.underlying32 Tryz.sizeOf61 rfl ?_
  refine z64 (cs:=[c0,c1,c2,c3,c4,c5]) rfl Tryz.isAgg61 Tryz.sizeOf61 rfl (hvr.row (View.of hsub hSj.view)) ?_
  refine q09 hSj Tryz.zeroValue61 rfl ?_
  intro b7 w2 hS2
  refine Hl (vs:=[c0,c1,c2,c3,c4,c5]) hS2 rfl rfl rfl Tryz.sizeOf61 rfl ones (i:=0) rfl (by decide) rfl rfl ?_
  intro w3 hS3
  refine wpList_nil ?_
  refine Qg ?_
  refine Vy ?_
  refine Qp (v:=r) f5 ?_
  refine Qp (v:= .func (.func 138) #[] #[]) f1 ?_
  refine z64 (cs:=[c0,c1,c2,c3,c4,c5]) rfl Tryz.isAgg61 Tryz.sizeOf61 rfl (Br (hS3.get (i:=0) rfl)) ?_
  refine w07 (first:=[]) (captured:=[]) (args:=[.agg #[c0,c1,c2,c3,c4,c5]]) rfl rfl (fun _ _=>rfl) (Calls.mono (j45 hC hS3.view (hG.mono hsub) (hrF.mono hsub) (hcs y (List.mem_of_getElem? hy))) ?_)
  rintro _ w4 ⟨u',σ4,ys',rfl,hu1,hS4,hE4⟩
  refine⟨_,rfl,?_⟩
  have hS5:=St.callM (ins:=[]) hS3 hS4 rfl
  refine q0f (cs:=[c0,c1,c2,c3,c4,u']) (e:=61) hS5 (fun _=>by kernel_rfl) ?_
  intro b8 w5 hS6
  refine j1j (Ms:=fun v2=>blk b8 61 [c0,c1,c2,c3,c4,u']::vec u' 125 3 y.6.length ys'::blk b7 61 [c0,c1,c2,c3,c4,c5]::vec v2 61 6 (j+1) (xs++[c0,c1,c2,c3,c4,u'])::(if k<j then [vec u 125 3 x.6.length ys] else [])) (xs':=xs++[c0,c1,c2,c3,c4,u']) Tryz.underlying32 Tryz.type61 rfl rfl (bytes:=88) rfl rfl (Nat.succ_pos _) hS6 (v:=r) rfl (q:=3) rfl rfl rfl (Br (hS6.get (i:=0) rfl)) (fun z hz=> ?_) (by omega) (by unfold maxLen;omega) rfl (fun _=>rfl) ?_
  ·simp only[List.mem_cons,List.not_mem_nil,or_false] at hz
   rcases hz with rfl|rfl|rfl|rfl|rfl|rfl
   all_goals first|exact hu1|exact ones _ (by simp)
  intro v2 w6 hv2 hS7
  refine Qq (v:=v2) rfl ?_
  refine wpList_nil ?_
  refine z9t ?_
  refine Qg ?_
  refine Vy ?_
  refine q7q (r:=((j+1:Nat):Int)) f13 rfl (nw (by omega) (by omega) (by omega)) ?_
  refine Qp (v:= .int .i64 ((j+1:Nat):Int)) rfl ?_
  refine wpList_nil ?_
  refine Qg ?_
  have hS8:=(hS7.drop 2 rfl).drop 0 rfl
  have cells: ∀(q:Nat) v s,[c0,c1,c2,c3,c4,u'][q]? =some v->(D.shape C.layer y)[q]? =some s->(q=5/\v=u')∨(q≠5/\RepF D σ v s):=fun q v s hv hs=>by
   match q,hv with
   |0,hv=>exact .inr ⟨by decide,hrF.2 0 v s hv hs⟩
   |1,hv=>exact .inr ⟨by decide,hrF.2 1 v s hv hs⟩
   |2,hv=>exact .inr ⟨by decide,hrF.2 2 v s hv hs⟩
   |3,hv=>exact .inr ⟨by decide,hrF.2 3 v s hv hs⟩
   |4,hv=>exact .inr ⟨by decide,hrF.2 4 v s hv hs⟩
   |5,hv=>cases hv;exact .inl ⟨rfl,rfl⟩
  have hs4:=hS4.sub
  by_cases hjk:j=k
  ·subst hjk
   rw[hk] at hy;cases hy
   rw[if_neg (by omega)] at hS8
   refine⟨_,_,rfl,⟨j+1,v2,u',σ4,xs++[c0,c1,c2,c3,c4,u'],ys',rfl,by omega,f1,rfl,f11,f12,rfl,hv2,hsub.trans hs4,?_,hcop.snoc hs4 hk rfl (fun h=>by omega) (fun q v s hv hs=> ?_),fun _=>⟨hu1,hE4⟩⟩,by omega⟩
   ·rw[if_pos (by omega)]
    exact hS8.perm (List.Perm.swap _ _ _)
   ·rcases cells q v s hv hs with ⟨e1,e2⟩|⟨e1,e2⟩
    ·exact .inl ⟨rfl,e1,e2⟩
    ·exact .inr ⟨fun e=>e1 e.2,e2.mono (hsub.trans hs4)⟩
  ·obtain⟨σ5,hS9,hs5,hrep⟩:=z3w (T:=C.cool) okP.ok hS8 hE4 (by have h1:y.6.length<=4294967296:=hcs y (List.mem_of_getElem? hy);omega)
   have hS10:=hS9.drop 0 rfl
   have hs:=hs4.trans hs5
   refine⟨_,_,rfl,⟨j+1,v2,u,σ5,xs++[c0,c1,c2,c3,c4,u'],ys,rfl,by omega,f1,rfl,f11,f12,rfl,hv2,hsub.trans hs,?_,hcop.snoc hs hy rfl (fun _=>rfl) (fun q v s hv hs'=> ?_),fun h=>⟨(hku (by omega)).1,(hku (by omega)).2.mono hs⟩⟩,by omega⟩
   ·rw[show (if k<j+1 then [vec u 125 3 x.6.length ys] else [])=(if k<j then [vec u 125 3 x.6.length ys] else []) from by
     by_cases h:k<j
     ·rw[if_pos h,if_pos (by omega)]
     ·rw[if_neg h,if_neg (by omega)]]
    exact hS10
   ·rcases cells q v s hv hs' with ⟨e1,e2⟩|⟨e1,e2⟩
    ·subst e1 e2
     cases hs'
     exact .inr ⟨fun e=>hjk e.1,hrep⟩
    ·exact .inr ⟨fun e=>e1 e.2,e2.mono (hsub.trans hs)⟩
 ·refine wp_exit ?_
  refine q46 ?_
  refine q46 ?_
  refine z0z ?_
  refine Qg ?_
  refine Ql ?_
  refine Qp (v:=r) f5 ?_
  refine Qq (v:=r) rfl ?_
  refine wpList_nil ?_
  refine Qg ?_
  refine wp_ret ?_
  refine ret1 rfl (show ev _ _ _=r from rfl) ?_
  obtain rfl:j=l.length:=by omega
  rw[if_pos hkl] at hSj
  exact⟨r,u,σj,xs,ys,rfl,hr1,(hku hkl).1,hSj,hcop,(hku hkl).2⟩
theorem w33{σ:Hv}{t0:Tr Sg}{v0:Value}{ms m:List HObj}(h:LayT D σ [t0] [.same] [v0] ms m):m=[]:=by
 cases h with
 |skip h=>cases h;rfl
 |keep h h'=>
  cases h'
  cases h with
  |same=>rfl
  |v=>rfl
theorem v19:w31:=by
 intro σ w v l hV hG hf hs
 have h:=Z3.m (putL ([.sl C.cool]:LV) (l,())) (fun rets outs=>rets=[.vec 125 C.cool l]/\outs=[.same]) (by
  show Qu l fun (q:List Col)=>([Tr.vec (S:=Sg) 125 C.cool q]:List (Tr Sg))=[Tr.vec (S:=Sg) 125 C.cool l]/\([.same]:List (Tr Sg))=[.same]
  unfold Qu
  intro n0 hn
  exact⟨fun h=>by rw[hn h];exact⟨rfl,rfl⟩,fun _=>⟨by simpa using hs,rfl,rfl⟩⟩) w σ [v] [] hG (.cons (ms:=[]) (.f hf) .nil) (St.start hV)
 refine Calls.mono h ?_
 rintro e w1 ⟨rets,outs,rv,σ1,msr,mso,rfl,hq,hLr,hLT,hS⟩
 obtain⟨hq1,hq2⟩:=hq
 subst hq1 hq2
 cases hLr with
 | @cons _ _ u _ m1 _ h1 hn=>
 cases hn
 cases h1 with
 | @vec _ _ _ _ ys hE hl h1=>
 have hmo:mso=[]:=w33 hLT
 subst hmo
 exact⟨_,σ1,ys,rfl,hS,hE⟩
theorem z42:q4r Proofs.Tryz.prog D 137 (conV ([.sl C.layer,.fnc 138]:LP) ([.sl C.layer,.fnc 138]:LV) ([.vech 61 C.layer 5 125 C.cool]:LV) ([.same,.same]:LV) (fun a K=>B1 a.1 (fun q0=>K (q0,()) ((),(),())))):=by
 intro args K hm w σ vals ins hG hL hS
 obtain⟨a,ha,hm⟩:=Qd hm
 have hargs:=J3 ha
 subst hargs
 obtain⟨l,_,_⟩:=a
 cases hL with
 | @cons _ _ v1 _ _ _ hp hr=>
 cases hr with
 | @cons _ _ v2 _ _ _ hq hr=>
 cases hr
 cases hp with
 |f hf1=>
 cases hq
 obtain⟨hsm,hcs,k,x,hk,hK⟩:=hm
 refine Calls.mono (j7c v19 hS.view hG hf1 hsm hcs hk) ?_
 rintro e w1 ⟨r,u,σ1,xs,ys,rfl,hr1,hu1,hS1,hcop,hE⟩
 have b1:l.length<=4294967296:=hsm
 have b2:x.6.length<=4294967296:=hcs x (List.mem_of_getElem? hk)
 exact⟨_,[.same,.same],[r],σ1,_,[],rfl,hK,.cons (.vech ⟨hcop.1,hu1,fun i y hy=>⟨rfl,fun q v s hv hs=>hcop.2 i y (Qb hy) hy q v s hv hs⟩⟩ (Nat.le_trans b1 (by decide)) hr1 hE (Nat.le_trans b2 (by decide))) .nil,.skip (a0:=[]) (.skip (a0:=[]) .nil),hS1⟩
end Go.En
end
noncomputable section
set_option maxRecDepth 100000
open Go Go.RowKit Go.Fl Go.Fl.Lk Go.Fx
namespace Go.En
def B7(X:B0):Con Sg:=conV [.sl C.layer,.fnc 138] [.sl C.layer,.fnc 138] [.vech 61 C.layer 5 125 C.cool] [.same,.same] fun a K=>X a.1 (fun q0=>K (q0,()) ((),(),()))
theorem z43:MT 137 (B7 B1):=⟨entB (by kernel_rfl),z42⟩
def q41(X:G3):Con Sg:=conS [.el C.env,.str,.int .i64] [.el C.env,.int .i64] fun a K=>X a.1 a.2.1 a.2.2.1 (fun q0 q1=>K (q0,q1,()))
theorem z96{Zz:Wu}{Zg:J5}{Ji:Ut}{W6:B0}{Q6:Z0}{W7:W4}{U3:Rx}(h:AL [(71,G5 Zz),(134,Uz Zg),(136,q03 Ji),(140,Wk Q6),(74,Gh W7),(73,q3p U3)])(ha:AL [(137,B7 W6)]):MT 18 (q41 (q4v Zz Zg Ji W6 Q6 W7 U3)):=mtS (E:=E0.wa [(137,B7 W6)]) (l:=[(71,G5 Zz),(134,Uz Zg),(136,q03 Ji),(140,Wk Q6),(74,Gh W7),(73,q3p U3)]) (u:=4) (p:=Q2 [(73990017,⟨[],[],[],[]⟩),(73000004,⟨[0,1,2],[3],[(2,(35,8))],[(.cell 2 3,.sl C.decl)]⟩),(134000007,⟨bl 7955,[],[],[(.slot 5,.own 97 C.seg),sI 13]⟩),(136000007,⟨bl 7955,[],[],[(.slot 5,.own 91 C.flag),sI 13]⟩),(140000007,⟨bl 7955,[],[],[(.slot 5,.own 58 C.exper),sI 13]⟩),(32,⟨bl 2251765252562895,[17,21,3,2,10,6,1,0],[],[(.slot 13,.own 125 C.cool),(.obj 13,.vech 61 C.layer 5)]⟩),(25,⟨bl 9223371452537839567,[],[],[(.slot 13,.own 125 C.cool),sI 63,(.obj 13,.vech 61 C.layer 5)]⟩)]) (rk:=List.map VT.pk ([.el C.env,.int .i64]:LV)) (wa3 h_E0 ha) h (by kernel_rfl) (fun _ _=>by kernel_rfl)
theorem z97:MT 18 (q41 q0m):=z96 ⟨z0t,q8z,z5n,q4f,z41,z83,trivial⟩ ⟨z43,trivial⟩
def q4g(X:V1):Con Sg:=conS [.el C.env,.str] [.int .i64] fun a K=>X a.1 a.2.1 (fun q0=>K (q0,()))
theorem z3b:MT 19 (q4g V2):=mS (l:=[]) trivial [(5,⟨[0,1,2],[0],[],[sI 5]⟩)]
def q3q(X:Vl):Con Sg:=conS [.el C.layer,.int .i64] [.vec 75 C.span] fun a K=>X a.1 a.2.1 (fun q0=>K (q0,()))
theorem z1v:MT 122 (q3q J8):=mS (l:=[]) trivial [(7,⟨bl 1815,[0],[],[(.slot 5,.own 75 C.span),sI 11]⟩)]
def q3r(X:Uv):Con Sg:=conS [.el C.env,.str,.str,.int .i64] [.sl C.span] fun a K=>X a.1 a.2.1 a.2.2.1 a.2.2.2.1 (fun q0=>K (q0,()))
theorem z84{Q1:Jg}{Zs:Vn}{J9:Vl}(h:AL [(75,R9 Q1),(36,q1f Zs),(122,q3q J9)]):MT 77 (q3r (q3a Q1 Zs J9)):=mS h [(10,⟨bl 254751,[0],[],[(.slot 10,.own 75 C.span)]⟩),(13,⟨bl 120259339039,[0],[],[(.slot 10,.own 75 C.span),sI 37]⟩)]
theorem z85:MT 77 (q3r Rz):=z84 ⟨q3o,q7g,z1v,trivial⟩
def q81(X:q3b):Con Sg:=conV [.sl C.span,.sl C.span] [.sl C.span,.sl C.span] [.sl C.span] [.same,.same] fun a K=>X a.1 a.2.1 (fun q0=>K (q0,()) ((),(),()))
theorem z86:MT 76 (q81 R0):=⟨entB (by kernel_rfl),z8a⟩
def q0o(X:Wv):Con Sg:=conS [.el C.env,.str,.int .i64] [.sl C.span,.int .i64] fun a K=>X a.1 a.2.1 a.2.2.1 (fun q0 q1=>K (q0,q1,()))
theorem z98{Zt:Wc}{Q1:Jg}{Bl:Uv}{Bm:q3b}(h:AL [(61,q1j Zt),(75,R9 Q1),(77,q3r Bl),(76,q81 Bm)]):MT 21 (q0o (q4w Zt Q1 Bl Bm)):=mS h []
theorem z0v:MT 21 (q0o G4):=z98 ⟨q7j,q3o,z85,z86,trivial⟩
def q7k(X:q1e):Con Sg:=conV [.sl C.span,.sl C.span] [.sl C.span,.sl C.span] [.sl C.span] [.same,.same] fun a K=>X a.1 a.2.1 (fun q0=>K (q0,()) ((),(),()))
theorem z6c:MT 22 (q7k He):=⟨entB (by kernel_rfl),z51⟩
def q82(X:q3c):Con Sg:=conV [.sl C.span,.v] [.sl C.span,.int .i64] [.sl C.span] [.same,.same] fun a K=>X a.1 a.2.1 (fun q0=>K (q0,()) ((),(),()))
theorem z87:MT 82 (q82 R1):=⟨entB (by kernel_rfl),z8b⟩
def q83(X:q3d):Con Sg:=conV [.sl C.span,.sl C.span] [.sl C.span,.sl C.span] [.sl C.span] [.same,.same] fun a K=>X a.1 a.2.1 (fun q0=>K (q0,()) ((),(),()))
theorem z88:MT 81 (q83 R2):=⟨entB (by kernel_rfl),z79⟩
def q3s(X:Uw):Con Sg:=conS [.el C.env,.str,.int .i64,.int .i64] [.el C.env,.int .i64] fun a K=>X a.1 a.2.1 a.2.2.1 a.2.2.2.1 (fun q0 q1=>K (q0,q1,()))
theorem z89{Zz:Wu}{Jd:Wv}{Jb:Gz}{Bn:q3c}{Bo:q3d}{Zg:J5}{Ji:Ut}{Bp:Rv}{Q6:Z0}(h:AL [(71,G5 Zz),(21,q0o Jd),(37,q4x Jb),(82,q82 Bn),(81,q83 Bo),(134,Uz Zg),(136,q03 Ji),(138,q6y Bp),(140,Wk Q6)]):MT 23 (q3s (q3e Zz Jd Jb Bn Bo Zg Ji Bp Q6)):=mS h [(134000007,⟨bl 7955,[],[],[(.slot 5,.own 97 C.seg),sI 13]⟩),(136000007,⟨bl 7955,[],[],[(.slot 5,.own 91 C.flag),sI 13]⟩),(138000007,⟨bl 7955,[],[],[(.slot 5,.own 61 C.layer),sI 13]⟩),(140000007,⟨bl 7955,[],[],[(.slot 5,.own 58 C.exper),sI 13]⟩)]
theorem z9a:MT 23 (q3s R3):=z89 ⟨z0t,z0v,z0q,z87,z88,q8z,z5n,j2s,q4f,trivial⟩
def Wx(X:Gv):Con Sg:=conS [.sl C.u8,.int .i64,.int .i64,.int .i64,.int .i64,.int .i64] [.bool] fun a K=>X a.1 a.2.1 a.2.2.1 a.2.2.2.1 a.2.2.2.2.1 a.2.2.2.2.2.1 (fun q0=>K (q0,()))
theorem z0j{q2d:H4}{q1l:z37}{j3d:j1y}{Bq:Uq}{Zx:Jf}{q0u:G3}{Jn:V1}{Qz:Ja}{Jd:Wv}{Hk:q1e}{U4:Uw}{Zu:Vi}{Jz:Un}(h:AL [(7,q6q q2d),(9,j6o q1l),(8,w3h j3d),(10,q3n Bq),(17,Uy Zx),(18,q41 q0u),(19,q4g Jn),(20,R6 Qz),(21,q0o Jd),(22,q7k Hk),(23,q3s U4),(24,q3j Zu),(25,q4d Jz)]):MT 4 (Wx (Gw q2d q1l j3d Bq Zx q0u Jn Qz Jd Hk U4 Zu Jz)):=mS h []
theorem z0k:MT 4 (Wx Zm):=z0j ⟨j2b,w3g,w99,z81,q8x,z97,z3b,q15,z0v,z6c,z9a,z1l,z5m,trivial⟩
end Go.En
end
noncomputable section
set_option maxRecDepth 100000
namespace Go.En
open Go Go.Fl Go.Fl.Lk Go.Fx
theorem Cnd.mk{c A B:Prop}(h:c->A)(k: ¬c->B):Cnd c A B:=⟨h,k⟩
structure DS(list:List Int)(at_:Int):Prop where
 len:list.length<=1000
 lo:0<=at_
 hi:at_<=list.length
 byte: ∀x∈list,0<=x/\x<256
theorem getm{α:Type}{l:List α}{k:Nat}{x:α}(h:l[k]? =some x):x∈l:=List.mem_of_getElem? h
theorem z1w(n:Int):(Go.Utf8.encode n).size<=4:=by
 unfold Go.Utf8.encode
 generalize (if Go.Utf8.valid n then n.toNat else Go.Utf8.runeError)=c
 show (if c<0x80 then _ else if c<0x800 then _ else if c<0x10000 then _ else _:ByteArray).size<=4
 have h1: ∀a:UInt8,(ByteArray.mk #[a]).size<=4:=fun _=>(by decide:1<=4)
 have h2: ∀a b:UInt8,(ByteArray.mk #[a,b]).size<=4:=fun _ _=>(by decide:2<=4)
 have h3: ∀a b c:UInt8,(ByteArray.mk #[a,b,c]).size<=4:=fun _ _ _=>(by decide:3<=4)
 have h4: ∀a b c d:UInt8,(ByteArray.mk #[a,b,c,d]).size<=4:=fun _ _ _ _=>(by decide:4<=4)
 split
 ·exact h1 _
 ·split
  ·exact h2 _ _
  ·split
   ·exact h3 _ _ _
   ·exact h4 _ _ _ _
theorem Qf{list:List Int}{at_ n:Int}{K:Int->Int->Prop}(hD:DS list at_)(hn:1<=n)(h: ∀r a,0<=r->r<n->DS list a->K r a):Wa list at_ n K:=by
 obtain⟨h1,h2,h3,h4⟩:=hD
 unfold Wa j11 j10
 refine fun _=>Cnd.mk (fun hl=> ?_) (fun _=>h _ _ (by omega) (by omega) ⟨h1,h2,h3,h4⟩)
 have hl:=of_decide_eq_true hl
 refine⟨by unfold InI;omega,by unfold InI;omega,by omega,fun y hy=>⟨by unfold InI;have:=h4 _ (getm hy);omega,by omega,?_⟩⟩
 obtain⟨a,b⟩:=h4 _ (getm hy)
 exact h _ _ (Int.tmod_nonneg _ a) (by have:=Int.tmod_lt_of_pos y (b:=n) (by omega);omega) ⟨h1,by omega,by omega,h4⟩
theorem q04{list:List Int}{at_ n:Int}{K:Int->Int->Prop}(hD:DS list at_)(hn:1<=n)(h: ∀r a,0<=r->r<n->DS list a->K r a):q9l list at_ n K:=by
 unfold q9l j13
 refine Qf hD (by decide) fun r a r0 r1 hD=>⟨by unfold InI;omega,Qf hD (by decide) fun s b s0 s1 hD=>⟨by unfold InI;omega,by omega,?_⟩⟩
 exact h _ _ (Int.tmod_nonneg _ (by omega)) (by have:=Int.tmod_lt_of_pos (256*r+s) (b:=n) (by omega);omega) hD
theorem z3c{n:Int}{l:List ByteArray}{K:List ByteArray->Prop}(h0:0<=n)(h1:n<=l.length)(h:K (l.take n.toNat)):z6u n l K:=⟨⟨h0,h1⟩,h⟩
theorem q5u{list:List Int}{at_:Int}{K:ByteArray->Int->Prop}(hD:DS list at_)(h: ∀r a,r∈z2e->DS list a->K r a):q57 list at_ K:=by
 unfold q57 j12
 exact Qf hD (by decide) fun r a r0 r1 hD=>⟨⟨r0,r1⟩,fun y hy=>h _ _ (getm hy) hD⟩
theorem sz_k(n:Int):(B8 [107]++Go.Utf8.encode n).size<=5:=by
 rw[ByteArray.size_append];have:=z1w n;show 1+_<=5;omega
theorem w6z{list:List Int}{at_:Int}{K:ByteArray->Int->Prop}(hD:DS list at_)(h: ∀r a,r.size<=5->DS list a->K r a):j15 list at_ K:=by
 unfold j15 j6m
 refine Qf hD (by decide) fun r a r0 r1 hD=>⟨by unfold InI;omega,?_,h _ _ (sz_k _) hD⟩
 have:=z1w (Go.IntKind.i32.wrap (48+r));have e:(B8 [107]).size=1:=rfl;omega
theorem z9b{list:List Int}{at_:Int}{K:List ByteArray->Int->Prop}(hD:DS list at_)(h: ∀r a,r.length<=3->(∀s∈r,s.size<=5)->DS list a->K r a):z2f list at_ K:=by
 unfold z2f j14
 refine Qf hD (by decide) fun n a n0 n1 hD=> ?_
 refine Lp3.ind (fun l i a=>DS list a/\0<=i/\i<=3/\(l.length:Int)=i/\ ∀s∈l,s.size<=5) (fun _ i _=>(3 - i).toNat) ?_ ⟨hD,by decide,by decide,rfl,by simp⟩
 rintro l i a ⟨hD,i0,i3,hl,hs⟩
 refine Qf hD (by decide) fun r a r0 r1 hD=>Cnd.mk (fun hc=> ?_) (fun hc=> ?_)
 ·have:=z1w (Go.IntKind.i32.wrap ((48:Int)+(n+i).tmod 10));have e:(B8 [107]).size=1:=rfl
  have m0:=Int.tmod_nonneg 10 (show 0<=n+i by omega);have m1:=Int.tmod_lt_of_pos (n+i) (b:=10) (by decide)
  refine⟨by unfold InI;omega,by decide,by unfold InI;omega,by omega,by unfold Sml;simp;omega,by unfold InI;omega,⟨hD,by omega,by omega,by simp;omega,fun s hm=> ?_⟩,by omega⟩
  rcases List.mem_append.1 hm with hm|hm
  ·exact hs s hm
  ·rw[List.mem_singleton.1 hm];exact sz_k _
 ·refine Lp2.ind (fun (i:Int) (m:List ByteArray)=>m=l/\1<=i/\i<=1+l.length) (fun (i:Int) _=>(1+l.length - i).toNat) ?_ ⟨rfl,by decide,by omega⟩
  rintro i m ⟨rfl,i0,i1⟩ _
  refine Cnd.mk (fun hc=>⟨by omega,fun y hy=>⟨by unfold InI;omega,by omega,fun z hz=>Cnd.mk (fun _=>⟨by unfold InI;omega,⟨rfl,by omega,by omega⟩,by omega⟩) (fun _=>⟨by omega,h _ _ (by simp;omega) (fun s hm=>hs s (List.mem_of_mem_take hm)) hD⟩)⟩⟩) (fun _=>h _ _ (by omega) hs hD)
theorem sz0:(ByteArray.mk (Array.mk ([]:List UInt8))).size<=100:=by decide
structure ValS(v:Val):Prop where
 num:InI v.number
 txt:v.text.size<=100
 len:v.list.length<=10
 txs: ∀s∈v.list,s.size<=100
theorem q5v{list:List Int}{at_ kind:Int}{K:Val->Int->Prop}(hD:DS list at_)(h: ∀r a,ValS r->DS list a->K r a):H6 list at_ kind K:=by
 unfold H6 z2g
 have tt: ∀s∈z2e,s.size<=100:=by decide
 have tv: ∀s∈q71,s.size<=100:=by decide
 have tl: ∀l∈z7t,l.length<=10/\ ∀s∈l,s.size<=100:=by decide
 refine Cnd.mk (fun _=> ?_) fun _=>Cnd.mk (fun _=>fun _=> ?_) fun _=>Cnd.mk (fun _=> ?_) fun _=>Cnd.mk (fun _=> ?_) fun _=> ?_
 ·exact Qf hD (by decide) fun r a r0 r1 hD=>h _ _ ⟨by unfold InI;simp only;omega,sz0,by simp,by simp⟩ hD
 ·refine Qf hD (by decide) fun r a r0 r1 hD=>⟨⟨r0,r1⟩,fun y hy=>h _ _ ⟨?_,sz0,by simp,by simp⟩ hD⟩
  have:=getm hy
  have k: ∀y∈[(0:Int),(1:Int),(17:Int),(18:Int),(19:Int),(-5:Int),(64:Int),(1099511627776:Int),(-1099511627776:Int)], -9223372036854775808<=y/\y<=9223372036854775807:=by decide
  exact k y this
 ·exact q5u hD fun r a hr hD=>h _ _ ⟨by unfold InI;simp,tt _ hr,by simp,by simp⟩ hD
 ·exact Qf hD (by decide) fun r a r0 r1 hD=>⟨⟨r0,r1⟩,fun y hy=>h _ _ ⟨by unfold InI;simp,tv _ (getm hy),by simp,by simp⟩ hD⟩
 ·refine Qf hD (by decide) fun r a r0 r1 hD=>⟨⟨r0,r1⟩,fun y hy=> ?_⟩
  obtain⟨a1,a2⟩:=tl _ (getm hy)
  exact⟨by unfold Sml;simp;omega,h _ _ ⟨by unfold InI;simp,sz0,by simpa using a1,by simpa using a2⟩ hD⟩
structure VsS(l:List Val):Prop where
 len:l.length<=4
 all: ∀v∈l,ValS v
theorem VsS.nil:VsS []:=⟨by simp,by simp⟩
theorem VsS.one{v:Val}(h:ValS v):VsS [v]:=⟨by simp,by simpa using h⟩
def ExS:Nat->Ex->Prop
 |0,e=>VsS e.values/\(e.name.size<=100/\e.kind.size<=100)/\(InI e.op/\(2<=e.op->e.op<=4->e.kids≠[]))/\e.kids=[]
 |n+1,e=>VsS e.values/\(e.name.size<=100/\e.kind.size<=100)/\(InI e.op/\(2<=e.op->e.op<=4->e.kids≠[]))/\e.kids.length<=3/\ ∀k∈e.kids,ExS n k
theorem ExS.up: ∀{n:Nat} {e:Ex},ExS n e->ExS (n+1) e
 |0,e,h=>⟨h.1,h.2.1,h.2.2.1,by rw[h.2.2.2];simp,by rw[h.2.2.2];simp⟩
 |n+1,e,h=>⟨h.1,h.2.1,h.2.2.1,h.2.2.2.1,fun k hk=>(h.2.2.2.2 k hk).up⟩
theorem ExS.le{n m:Nat}{e:Ex}(h:ExS n e)(hm:n<=m):ExS m e:=by
 induction hm with
 |refl=>exact h
 |step _ ih=>exact ih.up
theorem ExS.kids{n:Nat}{e:Ex}(h:ExS n e):e.kids.length<=3:=by
 cases n with
 |zero=>rw[h.2.2.2];simp
 |succ n=>exact h.2.2.2.1
theorem ExS.kid{n:Nat}{e k:Ex}(h:ExS n e)(hk:k∈e.kids): ∃m,m+1=n/\ExS m k:=by
 cases n with
 |zero=>rw[h.2.2.2] at hk;simp at hk
 |succ n=>exact⟨n,rfl,h.2.2.2.2 k hk⟩
theorem ExS.vals{n:Nat}{e:Ex}(h:ExS n e):VsS e.values:=by cases n<;>exact h.1
theorem ExS.nm{n:Nat}{e:Ex}(h:ExS n e):e.name.size<=100:=by cases n<;>exact h.2.1.1
theorem ExS.kd{n:Nat}{e:Ex}(h:ExS n e):e.kind.size<=100:=by cases n<;>exact h.2.1.2
theorem ExS.opK{n:Nat}{e:Ex}(h:ExS n e):2<=e.op->e.op<=4->e.kids≠[]:=by cases n<;>exact h.2.2.1.2
def OpL(op:Int):Prop:=InI op/\ ¬(2<=op/\op<=4)
theorem OpL.ok{op:Int}(h:OpL op){l:List Ex}:InI op/\(2<=op->op<=4->l≠[]):=⟨h.1,fun a b=>absurd ⟨a,b⟩ h.2⟩
theorem opl{op:Int}(h:(6<=op/\op<=100)∨op=0∨op=1∨op=5){l:List Ex}:InI op/\(2<=op->op<=4->l≠[]):=⟨by unfold InI;omega,fun a b=>by omega⟩
theorem q16{K:List Decl->Prop}(h: ∀l,l.length=8->(∀d∈l,d.kind.size<=100/\d.name.size<=100/\1<=d.type/\d.type<=5)->K l):Uc K:=by
 unfold Uc
 exact h _ rfl (by decide)
theorem j46{list:List Int}{at_:Int}{K:Ex->Int->Prop}(hD:DS list at_)(h: ∀r a,ExS 0 r->6<=r.op/\r.op<=15->DS list a->K r a):q9n list at_ K:=by
 unfold q9n j16
 refine q16 fun l hl hd _=>⟨by unfold InI;omega,Qf hD (by omega) fun r a r0 r1 hD _=>Cnd.mk (fun _=> ?_) fun hc=>⟨by omega,fun y hy=> ?_⟩⟩
 ·exact w6z hD fun s a hs hD=>h _ _ ⟨.one ⟨by unfold InI;simp,by show s.size<=100;omega,by simp,by simp⟩,⟨(by decide:(ByteArray.mk (Array.mk [107,101,121])).size<=100),(by decide:(ByteArray.mk (Array.mk [117,115,101,114])).size<=100)⟩,opl (by simp),rfl⟩ (by simp) hD
 obtain⟨hy0,hy1,hy2,hy3⟩:=hd y (getm hy)
 have one: ∀{op:Int} {v:Val},OpL op->ValS v->ExS 0 (Ex.mk op y.kind y.name [v] []):=fun ho hv=>⟨.one hv,⟨hy1,hy0⟩,ho.ok,rfl⟩
 refine Jn1.mk (fun x=>(∃b,x=(b,y.kind,y.name,([]:List Val),([]:List Ex),x.2.2.2.2.2.1,0,ByteArray.mk (Array.mk []),ByteArray.mk (Array.mk []),[],[],()))/\DS list x.2.2.2.2.2.1) ?_ ?_
 case refine_2=>
  rintro x ⟨⟨b,hx⟩,hD⟩
  refine q5v hD fun v a hv hD=>h _ _ ?_ (by simp) hD
  rw[hx]
  exact one ⟨by unfold InI;simp,by decide⟩ hv
 refine Qf hD (by decide) fun q a q0 q1 hD=> ?_
 refine Jn1.mk (fun x=>(∃b,x=(x.1,b,y.kind,y.name,([]:List Val),([]:List Ex),0,ByteArray.mk (Array.mk []),ByteArray.mk (Array.mk []),[],[],()))/\DS list x.1) ?_ ?_
 case refine_2=>
  rintro x ⟨⟨b,hx⟩,hD⟩
  have cmp:Wa list x.1 4 fun r a=>InI (12+r)/\H6 list a y.3 fun v a=>K (Ex.mk (12+r) x.2.2.1 x.2.2.2.1 [v] x.2.2.2.2.2.1) a:=by
   refine Qf hD (by decide) fun r a r0 r1 hD=>⟨by unfold InI;omega,q5v hD fun v a hv hD=>h _ _ ?_ (by simp only;omega) hD⟩
   rw[hx]
   exact one ⟨by unfold InI;omega,by omega⟩ hv
  refine Cnd.mk (fun _=>cmp) fun _=>Cnd.mk (fun _=>cmp) fun _=>Cnd.mk (fun _=>cmp) fun _=> ?_
  refine⟨⟨b,?_⟩,hD⟩
  rw[hx]
 have nx: ∀{a:Int},DS list a->(fun x:Int×ByteArray×ByteArray×List Val×List Ex×Int×Int×ByteArray×ByteArray×List Val×List Ex×Unit=>(∃b,x=(b,y.kind,y.name,([]:List Val),([]:List Ex),x.2.2.2.2.2.1,0,ByteArray.mk (Array.mk []),ByteArray.mk (Array.mk []),[],[],()))/\DS list x.2.2.2.2.2.1) ((0:Int),y.1,y.2,[],[],a,(0:Int),ByteArray.mk (Array.mk []),ByteArray.mk (Array.mk []),[],[],()):=fun hD=>⟨⟨0,rfl⟩,hD⟩
 refine Cnd.mk (fun _=>h _ _ ⟨.nil,⟨hy1,hy0⟩,opl (by simp),rfl⟩ (by simp) hD) fun _=>Cnd.mk (fun _=> ?_) fun _=>Cnd.mk (fun _=> ?_) fun _=>Cnd.mk (fun _=> ?_) fun _=>Cnd.mk (fun _=> ?_) fun _=>nx hD
 ·refine Cnd.mk (fun _=>nx hD) fun _=> ?_
  refine Lp3.ind (fun i l a=>DS list a/\0<=i/\i<=3/\(l.length:Int)=i/\ ∀v∈l,ValS v) (fun i _ _=>(3 - i).toNat) ?_ ⟨hD,by decide,by decide,rfl,by simp⟩
  rintro i l a ⟨hD,i0,i3,hl,hv⟩
  refine Qf hD (by decide) fun r a r0 r1 hD=>Cnd.mk (fun hc=>q5v hD fun v a hv' hD=>⟨by unfold Sml;simp;omega,by unfold InI;omega,⟨hD,by omega,by omega,by simp;omega,fun u hu=> ?_⟩,by omega⟩) (fun hc=>h _ _ ⟨⟨by simp only;omega,hv⟩,⟨hy1,hy0⟩,opl (by simp),rfl⟩ (by simp) hD)
  rcases List.mem_append.1 hu with hu|hu
  ·exact hv u hu
  ·rw[List.mem_singleton.1 hu];exact hv'
 ·have c:H6 list a 3 fun v a=>K (Ex.mk 11 y.1 y.2 [v] []) a:=q5v hD fun v a hv hD=>h _ _ (one ⟨by unfold InI;simp,by decide⟩ hv) (by simp) hD
  exact Cnd.mk (fun _=>c) fun _=>Cnd.mk (fun _=>c) fun _=>nx hD
 ·exact Cnd.mk (fun _=>Qf hD (by decide) fun r a r0 r1 hD=>⟨by unfold InI;omega,q5v hD fun v a hv hD=>h _ _ (one ⟨by unfold InI;omega,by omega⟩ hv) (by simp only;omega) hD⟩) fun _=>⟨⟨0,rfl⟩,hD⟩
 ·exact⟨⟨0,rfl⟩,hD⟩
theorem ExS.eta{n:Nat}{e:Ex}(h:ExS n e):ExS n (Ex.mk e.op e.kind e.name e.values e.kids):=by cases e;exact h
theorem v2a{n:Nat}{e:Ex}(h:ExS n e){k m:ByteArray}(hm:m.size<=100)(hk:k.size<=100):ExS (n+1) (Ex.mk 4 k m [] [e]):=⟨.nil,⟨hm,hk⟩,⟨InI.mk (by simp) (by simp),fun _ _=>by simp⟩,by simp,by simpa using h⟩
structure SegS(g:Seg):Prop where
 key:g.key.size<=100
 kind:g.kind.size<=100
 incl:g.incl.length<=3
 excl:g.excl.length<=3
 cond:ExS 4 g.cond
theorem Jw{α:Type}{P:α->Prop}{l:List α}{x:α}(h: ∀y∈l,P y)(hx:P x): ∀y∈l++[x],P y:=fun y hy=>by
 rcases List.mem_append.1 hy with hy|hy
 ·exact h y hy
 ·rw[List.mem_singleton.1 hy];exact hx
theorem q7l{v:Envt}{K:List ByteArray->Prop}(hl:v.segments.length<=1000)(h:K (v.segments.map Seg.key)):H8 v K:=by
 unfold H8
 refine Lp2.ind (fun (l:List ByteArray) (i:Int)=>0<=i/\i<=v.segments.length/\l=(v.segments.take i.toNat).map Seg.key) (fun _ (i:Int)=>(v.segments.length - i).toNat) ?_ ⟨Int.le_refl 0,by omega,by simp⟩
 rintro l i ⟨i0,i1,rfl⟩ _
 refine Cnd.mk (fun hc=>⟨by omega,fun y hy=>⟨by unfold Sml;simp;omega,by unfold InI;omega,⟨by omega,by omega,?_⟩,by omega⟩⟩) fun hc=> ?_
 ·rw[show (i+1).toNat=i.toNat+1 by omega,List.take_add_one,hy];simp
 ·rw[List.take_of_length_le (by omega)];exact h
def SplS(n:Int)(l:List Rng):Prop:=l.length<=4/\ ∀r∈l,0<=r.lo/\r.hi<=10000/\1<=r.variation/\r.variation<=n
structure SrvS(n:Int)(s:Srv):Prop where
 kind:s.kind.size<=100
 var:0<=s.variation/\s.variation<=n
 split:SplS n s.split
 by_:s.by_.size<=100
 salt:s.salt.size<=100
structure LayS(l:Lay_):Prop where
 key:l.key.size<=100
 kind:l.kind.size<=100
 salt:l.salt.size<=100
 hold:0<=l.holdout/\l.holdout<=10000
 cool:0<=l.cool/\l.cool<=100
 cl:l.cooling.length<=1000
theorem w0c{list:List Int}{at_:Int}{key:ByteArray}{K:Lay_->Int->Prop}(hD:DS list at_)(hk:key.size<=100)(h: ∀l a,LayS l->l.key=key->DS list a->K l a):z2n list at_ key K:=by
 unfold z2n z70
 have tt: ∀s∈z2e,s.size<=100:=by decide
 refine q5u hD fun t a ht hD=>Qf hD (by decide) fun c a c0 c1 hD=>⟨by unfold InI;omega,?_⟩
 refine Jn2.mk (fun k a=>k.size<=100/\DS list a) (Qf hD (by decide) fun r a r0 r1 hD=>Cnd.mk (fun _=>⟨by decide,hD⟩) fun _=>⟨by decide,hD⟩) fun kind a hx=> ?_
 obtain⟨hkd,hD⟩:=hx
 refine Jn2.mk (fun x a=>DS list a/\0<=x/\x<=10000) (Qf hD (by decide) fun r a r0 r1 hD=>Cnd.mk (fun _=>q04 hD (by decide) fun w a w0 w1 hD=>⟨hD,by omega,by omega⟩) fun _=>⟨hD,by omega,by omega⟩) fun hold a hx=> ?_
 obtain⟨hD,x0,x1⟩:=hx
 have ok: ∀{cs:List Col},cs.length<=1000->LayS (Lay_.mk key kind t hold (c*50) cs):=fun hcs=>⟨hk,hkd,tt _ ht,⟨x0,x1⟩,⟨by simp only;omega,by simp only;omega⟩,hcs⟩
 refine Lp4.ind (fun at_ i cs a=>DS list a/\0<=i/\i<=2/\(cs.length:Int)=i/\0<=at_/\at_<=10000/\ ∀c∈cs,0<=c.lo/\c.hi<=10000/\0<=c.until_/\c.until_<=200) (fun _ i _ _=>(2 - i).toNat) ?_ ⟨hD,by omega,by omega,rfl,by omega,by omega,by simp⟩
 rintro at_ i cs a ⟨hD,i0,i1,hl,a0,a1,hc⟩
 refine Qf hD (by decide) fun q a q0 q1 hD=>Cnd.mk (fun _=>q04 hD (by decide) fun w a w0 w1 hD=>⟨by unfold InI;omega,by unfold InI;omega,q04 hD (by decide) fun w' a w0' w1' hD=>⟨by unfold InI;omega,Cnd.mk (fun _=>h _ _ (ok (by omega)) rfl hD) fun _=> ?_⟩⟩) fun _=>h _ _ (ok (by omega)) rfl hD
 refine Qf hD (by decide) fun u a u0 u1 hD=>⟨by unfold Sml;simp;omega,by unfold InI;omega,⟨hD,by omega,by omega,by simp;omega,by omega,by omega,Jw hc ⟨by simp only;omega,by simp only;omega,by simp only;omega,by simp only;omega⟩⟩,by omega⟩
structure SpsS(l:List Spn):Prop where
 len:l.length<=10000
 all: ∀s∈l,0<=s.lo/\s.lo<s.hi/\s.hi<=10000
structure RulS(n:Int)(r:Rul):Prop where
 name:r.name.size<=100
 cond:ExS 4 r.cond
 serve:SrvS n r.serve
structure FlgS(f:Flg):Prop where
 key:f.key.size<=100
 vlen:1<=f.variations.length/\f.variations.length<=4
 vals: ∀v∈f.variations,ValS v
 nlen:f.needs.length<=4
 needs: ∀q∈f.needs,q.flag.size<=100
 tlen:f.targets.length<=3
 tgts: ∀t∈f.targets,t.kind.size<=100
 rlen:f.rules.length<=4
 rules: ∀r∈f.rules,RulS f.variations.length r
 dflt:SrvS f.variations.length f.dflt
structure ExpS(x:Exper):Prop where
 key:x.key.size<=100
 layer:x.layer.size<=100
 flag:x.flag.size<=100
 claims:SpsS x.claims
 arms:SplS 4 x.arms
 cond:ExS 4 x.cond
structure EnvS(v:Envt):Prop where
 hkind:v.settings.holdoutKind.size<=100
 attrs: ∀d∈v.attributes,d.kind.size<=100/\d.name.size<=100
 slen:v.segments.length<=3
 segs: ∀g∈v.segments,SegS g
 flen:v.flags.length<=4
 flags: ∀f∈v.flags,FlgS f
 llen:v.layers.length<=2
 layers: ∀l∈v.layers,LayS l
 xlen:v.experiments.length<=3
 exps: ∀x∈v.experiments,ExpS x
end Go.En
end
noncomputable section
set_option maxRecDepth 100000
namespace Go.En
open Go Go.Fl Go.Fl.Lk Go.Fx
theorem j1b{α:Type}{a b:List α}(hl:a.length=b.length){F:α->α->(Bool->Prop)->Prop}{K:Bool->Prop}(hF: ∀x∈a,∀y∈b,∀K:Bool->Prop,(∀r,(r=true↔x=y)->K r)->F x y K)(h: ∀r,(r=true↔a=b)->K r):
  Lp1 (fun i Y=>a.length<=9223372036854775807->Cnd (i<(a.length:Int)) ((0<=i/\i<(a.length:Int))/\ ∀x,a[i.toNat]? =some x->(0<=i/\i<(b.length:Int))/\ ∀y,b[i.toNat]? =some y->F x y fun r=>Cnd (r=true) (InI (i+1)/\Y (i+1)) (K false)) (K true)) 0:=by
 refine Lp1.ind (fun (i:Int)=>0<=i/\i<=a.length/\a.take i.toNat=b.take i.toNat) (fun (i:Int)=>(a.length - i).toNat) ?_ ⟨by omega,by omega,by simp⟩
 rintro i ⟨i0,i1,he⟩ _
 refine Cnd.mk (fun hc=>⟨by omega,fun x hx=>⟨by omega,fun y hy=>hF x (getm hx) y (getm hy) _ fun r hr=>Cnd.mk (fun hc=>⟨by unfold InI;omega,⟨by omega,by omega,?_⟩,by omega⟩) fun hc=>h _ ⟨fun h=>(by cases h),fun h=> ?_⟩⟩⟩) fun hc=>h _ ⟨fun _=> ?_,fun _=>rfl⟩
 ·rw[show (i+1).toNat=i.toNat+1 by omega,List.take_add_one,List.take_add_one,he,hx,hy,hr.1 hc]
 ·subst h;rw[hx] at hy;exact absurd (hr.2 (by cases hy;rfl)) hc
 ·rwa [List.take_of_length_le (by omega),List.take_of_length_le (by omega)] at he
theorem w0d{a b:List ByteArray}{K:Bool->Prop}(h: ∀r,(r=true↔a=b)->K r):z2l a b K:=by
 unfold z2l
 intro ha hb
 refine Cnd.mk (fun hl=> ?_) fun hl=>h _ ⟨fun h=>(by cases h),fun e=>by rw[e] at hl;exact absurd rfl hl⟩
 refine Lp1.ind (fun (i:Int)=>0<=i/\i<=a.length/\a.take i.toNat=b.take i.toNat) (fun (i:Int)=>(a.length - i).toNat) ?_ ⟨by omega,by omega,by simp⟩
 rintro i ⟨i0,i1,he⟩ _
 refine Cnd.mk (fun hc=>⟨by omega,fun x hx=>⟨by omega,fun y hy=>Cnd.mk (fun hc=>⟨by unfold InI;omega,⟨by omega,by omega,?_⟩,by omega⟩) fun hc=>h _ ⟨fun h=>(by cases h),fun h=> ?_⟩⟩⟩) fun hc=>h _ ⟨fun _=> ?_,fun _=>rfl⟩
 ·rw[show (i+1).toNat=i.toNat+1 by omega,List.take_add_one,List.take_add_one,he,hx,hy,hc]
 ·subst h;rw[hx] at hy;cases hy;exact absurd rfl hc
 ·rwa [List.take_of_length_le (by omega),List.take_of_length_le (by omega)] at he
theorem z9c{l:List ByteArray}{s:ByteArray}{K:Bool->Prop}(h: ∀r,(r=true↔s∈l)->K r):q33 l s K:=by
 unfold q33
 refine Lp1.ind (fun (i:Int)=>0<=i/\i<=l.length/\s∉l.take i.toNat) (fun (i:Int)=>(l.length - i).toNat) ?_ ⟨by omega,by omega,by simp⟩
 rintro i ⟨i0,i1,he⟩ _
 refine Cnd.mk (fun hc=>⟨by omega,fun x hx=>Cnd.mk (fun e=>h _ ⟨fun _=>e▸getm hx,fun _=>rfl⟩) fun e=>⟨by unfold InI;omega,⟨by omega,by omega,?_⟩,by omega⟩⟩) fun hc=>h _ ⟨fun h=>(by cases h),fun hm=> ?_⟩
 ·rw[show (i+1).toNat=i.toNat+1 by omega,List.take_add_one,hx];simp[he,Ne.symm e]
 ·rw[List.take_of_length_le (by omega)] at he;exact absurd hm he
theorem j7d{a b:Val}{K:Bool->Prop}(h: ∀r,(r=true↔a=b)->K r):q9o a b K:=by
 unfold q9o z38
 have no:(a≠b)->K false:=fun hn=>h _ ⟨fun h=>(by cases h),fun e=>absurd e hn⟩
 refine Cnd.mk (fun h1=>Cnd.mk (fun h2=>Cnd.mk (fun h3=>w0d fun r hr=>h r (hr.trans ⟨fun h4=> ?_,fun e=>by rw[e]⟩)) fun h=>no fun e=>h (by rw[e])) fun h=>no fun e=>h (by rw[e])) fun h=>no fun e=>h (by rw[e])
 cases a;cases b;simp_all
theorem z6d{a b:List Val}{K:Bool->Prop}(h: ∀r,(r=true↔a=b)->K r):Wy a b K:=by
 unfold Wy q2p
 intro ha hb
 exact Cnd.mk (fun hl=>j1b (by omega) (fun x _ y _ K hK=>j7d hK) h) fun hl=>h _ ⟨fun h=>(by cases h),fun e=>by rw[e] at hl;exact absurd rfl hl⟩
theorem Ww{e:Ex}:Ex.mk e.op e.kind e.name e.values e.kids=e:=by cases e;rfl
theorem z99: ∀(n:Nat) {a b:Ex} {K:Bool->Prop},ExS n a->(∀r,(r=true↔a=b)->K r)->Ra a b K:=by
 intro n a b K ha h X hX
 induction n using Nat.strongRecOn generalizing a b K with
 |_ n ih=>
 refine hX _ _ _ ?_
 unfold q59
 have no:(a≠b)->K false:=fun hn=>h _ ⟨fun h=>(by cases h),fun e=>absurd e hn⟩
 refine Cnd.mk (fun h1=>Cnd.mk (fun h2=>Cnd.mk (fun h3=>z6d fun r hr=>Cnd.mk (fun hc _ _=>Cnd.mk (fun hl=> ?_) fun h=>no fun e=>h (by rw[e])) fun hc=>no fun e=>hc (hr.2 (by rw[e]))) fun h=>no fun e=>h (by rw[e])) fun h=>no fun e=>h (by rw[e])) fun h=>no fun e=>h (by rw[e])
 have h4:=hr.1 hc
 refine j1b (by omega) (fun x hx y _ K hK=> ?_) fun r hr=>h r (hr.trans ⟨fun h5=> ?_,fun e=>by rw[e]⟩)
 ·obtain⟨m,hm,hk⟩:=ha.kid hx
  rw[Ww,Ww]
  exact ih m (by omega) hk hK
 ·cases a;cases b;simp_all
theorem z9d(n:Nat){a b:Ex}{K:Bool->Prop}(ha:ExS n a)(h: ∀r,(r=true↔a=b)->K r):Ra (Ex.mk a.1 a.2 a.3 a.4 a.5) (Ex.mk b.1 b.2 b.3 b.4 b.5) K:=by
 rw[Ww,Ww];exact z99 n ha h
theorem z5o{n:Nat}{l:List Ex}{e:Ex}{K:Int->Prop}(hl: ∀x∈l,ExS n x)(h: ∀r:Int,(r= -1/\e∉l)∨(0<=r/\l[r.toNat]? =some e/\e∉l.take r.toNat)->K r):Wq l e K:=by
 unfold Wq z07
 refine Lp1.ind (fun (i:Int)=>0<=i/\i<=l.length/\e∉l.take i.toNat) (fun (i:Int)=>(l.length - i).toNat) ?_ ⟨by omega,by omega,by simp⟩
 rintro i ⟨i0,i1,he⟩ _
 refine Cnd.mk (fun hc=>⟨by omega,fun x hx=>z9d n (hl x (getm hx)) fun r hr=>Cnd.mk (fun hc=>h _ (.inr ⟨i0,by rw[hx,hr.1 hc],he⟩)) fun hc=>⟨by unfold InI;omega,⟨by omega,by omega,?_⟩,by omega⟩⟩) fun hc=>h _ (.inl ⟨rfl,?_⟩)
 ·rw[show (i+1).toNat=i.toNat+1 by omega,List.take_add_one,hx]
  have:e≠x:=fun e=>hc (hr.2 e.symm)
  simp[he,this]
 ·rwa [List.take_of_length_le (by omega)] at he
theorem q05{op:Int}{K:Bool->Prop}(h: ∀r,(r=true↔6<=op/\op<=15)->K r):Jp op K:=by
 unfold Jp
 exact Cnd.mk (fun h6=>h _ ⟨fun a=>⟨h6,of_decide_eq_true a⟩,fun a=>decide_eq_true a.2⟩) fun h6=>h _ ⟨fun a=>(by cases a),fun a=>absurd a.1 h6⟩
theorem j7e{now:Int}{K:Bool->Prop}(h: ∀r,(r=true↔0<=now/\now<=1099511627776)->K r):q9q now K:=by
 unfold q9q
 exact Cnd.mk (fun h6=>h _ ⟨fun a=>⟨h6,of_decide_eq_true a⟩,fun a=>decide_eq_true a.2⟩) fun h6=>h _ ⟨fun a=>(by cases a),fun a=>absurd a.1 h6⟩
theorem j47{α:Type}{l:List α}{f:α->ByteArray}{key:ByteArray}{K:Int->Prop}(h: ∀r:Int,(r= -1/\ ∀x∈l,f x≠key)∨(0<=r/\r<l.length/\(∃x,l[r.toNat]? =some x/\f x=key)/\ ∀x∈l.take r.toNat,f x≠key)->K r):
  Lp1 (fun i Y=>l.length<=9223372036854775807->Cnd (i<(l.length:Int)) ((0<=i/\i<(l.length:Int))/\ ∀y,l[i.toNat]? =some y->Cnd (f y=key) (K i) (InI (i+1)/\Y (i+1))) (K (-1))) 0:=by
 refine Lp1.ind (fun (i:Int)=>0<=i/\i<=l.length/\ ∀x∈l.take i.toNat,f x≠key) (fun (i:Int)=>(l.length - i).toNat) ?_ ⟨by omega,by omega,by simp⟩
 rintro i ⟨i0,i1,he⟩ _
 refine Cnd.mk (fun hc=>⟨by omega,fun x hx=>Cnd.mk (fun e=>h _ (.inr ⟨i0,hc,⟨x,hx,e⟩,he⟩)) fun e=>⟨by unfold InI;omega,⟨by omega,by omega,?_⟩,by omega⟩⟩) fun hc=>h _ (.inl ⟨rfl,?_⟩)
 ·rw[show (i+1).toNat=i.toNat+1 by omega,List.take_add_one,hx]
  exact Jw he e
 ·rwa [List.take_of_length_le (by omega)] at he
def PlcS{α:Type}(l:List α)(f:α->ByteArray)(key:ByteArray)(r:Int):Prop:=(r= -1/\ ∀x∈l,f x≠key)∨(0<=r/\r<l.length/\(∃x,l[r.toNat]? =some x/\f x=key)/\ ∀x∈l.take r.toNat,f x≠key)
theorem q42{v:Envt}{key:ByteArray}{K:Int->Prop}(h: ∀r,PlcS v.layers Lay_.key key r->K r):Wg v key K:=j47 h
theorem z3d{v:Envt}{key:ByteArray}{K:Int->Prop}(h: ∀r,PlcS v.flags Flg.key key r->K r):q37 v key K:=j47 h
theorem B9{l:List Spn}{K:List Bool->Prop}(h: ∀b:List Bool,b.length=10000->K b):Rg l K:=by
 unfold Rg
 refine⟨⟨by decide,Int.le_refl _,by unfold Sml;decide⟩,Lp2.ind (fun (i:Int) (b:List Bool)=>0<=i/\i<=l.length/\b.length=10000) (fun (i:Int) _=>(l.length - i).toNat) ?_ ⟨by omega,by omega,by rw[List.length_replicate];decide⟩⟩
 rintro i b ⟨i0,i1,hb⟩ _
 refine Cnd.mk (fun hc=>⟨by omega,fun y hy=> ?_⟩) fun _=>h b hb
 refine Lp2.ind (fun (j:Int) (b:List Bool)=>0<=j/\b.length=10000) (fun (j:Int) _=>(10000 - j).toNat) ?_ ⟨by omega,hb⟩
 rintro j b ⟨j0,hb⟩
 refine⟨by omega,fun z hz=>Cnd.mk (fun hc=>⟨by omega,fun u hu=>⟨by unfold InI;omega,⟨by omega,by simpa using hb⟩,by omega⟩⟩) fun _=>⟨by unfold InI;omega,⟨by omega,by omega,hb⟩,by omega⟩⟩
theorem q06{b:List Bool}{K:List Spn->Prop}(hb:b.length<=10000)(h: ∀l,SpsS l->K l):Wt b K:=by
 unfold Wt
 refine Lp2.ind (fun (l:List Spn) (i:Int)=>0<=i/\i<=b.length/\l.length<=i/\(∀s∈l,0<=s.lo/\s.lo<s.hi/\s.hi<=i)/\(0<i->b[(i - 1).toNat]? =some true->l≠[])) (fun _ (i:Int)=>(b.length - i).toNat) ?_ ⟨by omega,by omega,by simp,by simp,by omega⟩
 rintro l i ⟨i0,i1,hl,hs,hn⟩ _
 refine Cnd.mk (fun hc=>⟨by omega,fun y hy=>Cnd.mk (fun ht=> ?_) fun hf=> ?_⟩) fun _=>h l ⟨by omega,fun s hm=>by have:=hs s hm;omega⟩
 ·have snoc:InI (i+1)/\Sml (l++[Spn.mk i (i+1)]).length/\InI (i+1)/\((0<=i+1/\i+1<=b.length/\((l++[Spn.mk i (i+1)]).length:Int)<=i+1/\(∀s∈l++[Spn.mk i (i+1)],0<=s.lo/\s.lo<s.hi/\s.hi<=i+1)/\(0<i+1->b[(i+1 - 1).toNat]? =some true->l++[Spn.mk i (i+1)]≠[]))/\(b.length - (i+1)).toNat<(b.length - i).toNat):=
   ⟨by unfold InI;omega,by unfold Sml;simp;omega,by unfold InI;omega,⟨by omega,by omega,by simp;omega,Jw (fun s hm=>by have:=hs s hm;omega) ⟨i0,by simp only;omega,by simp⟩,fun _ _=>by simp⟩,by omega⟩
  refine Cnd.mk (fun hp=>⟨by unfold InI;omega,by omega,fun z hz=>Cnd.mk (fun hz1=> ?_) fun _=>snoc⟩) fun _=>snoc
  have hne:=hn hp (by rw[hz,hz1])
  have hpos:0<l.length:=List.length_pos_iff.2 hne
  refine fun _=>⟨by unfold InI;omega,by unfold InI;omega,by omega,fun u hu=>⟨by unfold InI;omega,⟨by omega,by omega,by simp;omega,fun s hm=> ?_,fun _ _ hx=> ?_⟩,by omega⟩⟩
  ·have:=hs u (getm hu)
   rcases List.mem_or_eq_of_mem_set hm with hm|rfl
   ·have:=hs s hm;omega
   ·exact⟨this.1,by simp only;omega,by simp⟩
  ·exact hne (by rw[←List.length_eq_zero_iff] at hx⊢;simpa using hx)
 ·refine⟨by unfold InI;omega,⟨by omega,by omega,by omega,fun s hm=>by have:=hs s hm;omega,fun _ hx=> ?_⟩,by omega⟩
  rw[show (i+1 - 1).toNat=i.toNat by omega,hy] at hx
  cases hx;exact absurd rfl hf
theorem q7m{l:List Col}{now:Int}{K:List Int->Prop}(h: ∀b:List Int,b.length=10000->K b):Rf l now K:=by
 unfold Rf
 refine⟨⟨by decide,Int.le_refl _,by unfold Sml;decide⟩,Lp2.ind (fun (i:Int) (b:List Int)=>0<=i/\i<=10000/\b.length=10000) (fun (i:Int) _=>(10000 - i).toNat) ?_ ⟨by omega,by omega,by rw[List.length_replicate];decide⟩⟩
 rintro i b ⟨i0,i1,hb⟩ _
 refine Cnd.mk (fun hc=>⟨by omega,fun y hy=>⟨by unfold InI;omega,⟨by omega,by omega,by simpa using hb⟩,by omega⟩⟩) fun _=> ?_
 refine Lp2.ind (fun (i:Int) (b:List Int)=>0<=i/\i<=l.length/\b.length=10000) (fun (i:Int) _=>(l.length - i).toNat) ?_ ⟨by omega,by omega,hb⟩
 rintro i b ⟨i0,i1,hb⟩ _
 refine Cnd.mk (fun hc=>⟨by omega,fun y hy=> ?_⟩) fun _=>h b hb
 refine Lp2.ind (fun (j:Int) (b:List Int)=>0<=j/\b.length=10000) (fun (j:Int) _=>(10000 - j).toNat) ?_ ⟨by omega,hb⟩
 rintro j b ⟨j0,hb⟩
 refine⟨by omega,fun z hz=>Cnd.mk (fun hc=>⟨by omega,fun u hu=>⟨by omega,fun w hw=>⟨by omega,fun x hx=>⟨by unfold InI;omega,⟨by omega,by simpa using hb⟩,by omega⟩⟩⟩⟩) fun _=>⟨by unfold InI;omega,⟨by omega,by omega,hb⟩,by omega⟩⟩
theorem q84{u:List Int}{now:Int}{K:List Spn->Prop}(hu:u.length<=10000)(h: ∀l,SpsS l->K l):q6a u now K:=by
 unfold q6a z08
 refine fun _=>⟨⟨by omega,Int.le_refl _,by unfold Sml;omega⟩,Lp2.ind (fun (i:Int) (b:List Bool)=>0<=i/\i<=u.length/\b.length=u.length) (fun (i:Int) _=>(u.length - i).toNat) ?_ ⟨by omega,by omega,by simp⟩⟩
 rintro i b ⟨i0,i1,hb⟩ _
 exact Cnd.mk (fun hc=>⟨by omega,fun y hy=>⟨by omega,fun z hz=>⟨by unfold InI;omega,⟨by omega,by omega,by simpa using hb⟩,by omega⟩⟩⟩) fun _=>q06 (by omega) h
theorem q4h{a b:List Spn}{K:List Spn->Prop}(h: ∀l,SpsS l->K l):q6b a b K:=by
 unfold q6b z09
 refine B9 fun x hx=>B9 fun y hy=>Lp2.ind (fun (i:Int) (b:List Bool)=>0<=i/\i<=10000/\b.length=10000) (fun (i:Int) _=>(10000 - i).toNat) ?_ ⟨by omega,by omega,hx⟩
 rintro i b ⟨i0,i1,hb⟩ _
 exact Cnd.mk (fun hc=>⟨by omega,fun y hy=>Cnd.mk (fun _=>⟨by omega,fun _ _=>⟨by unfold InI;omega,⟨by omega,by omega,by simpa using hb⟩,by omega⟩⟩) fun _=>⟨by omega,fun _ _=>⟨by omega,fun _ _=>⟨by unfold InI;omega,⟨by omega,by omega,by simpa using hb⟩,by omega⟩⟩⟩⟩) fun _=>q06 (by omega) h
theorem z5p{a b:List Spn}{K:List Spn->Prop}(h: ∀l,SpsS l->K l):Ug a b K:=by
 unfold Ug q6d
 refine B9 fun x hx=>B9 fun y hy=>Lp2.ind (fun (i:Int) (b:List Bool)=>0<=i/\i<=10000/\b.length=10000) (fun (i:Int) _=>(10000 - i).toNat) ?_ ⟨by omega,by omega,hx⟩
 rintro i b ⟨i0,i1,hb⟩ _
 exact Cnd.mk (fun hc=>⟨by omega,fun y hy=>Cnd.mk (fun _=>⟨by omega,fun _ _=>⟨by omega,fun _ _=>⟨by unfold InI;omega,⟨by omega,by omega,by simpa using hb⟩,by omega⟩⟩⟩) fun _=>⟨by omega,fun _ _=>⟨by unfold InI;omega,⟨by omega,by omega,by simpa using hb⟩,by omega⟩⟩⟩) fun _=>q06 (by omega) h
theorem j2t{a b:List Spn}{K:List Spn->Prop}(h: ∀l,SpsS l->K l):Uo a b K:=by
 unfold Uo q38
 refine B9 fun x hx=>B9 fun y hy=>Lp2.ind (fun (i:Int) (b:List Bool)=>0<=i/\i<=10000/\b.length=10000) (fun (i:Int) _=>(10000 - i).toNat) ?_ ⟨by omega,by omega,hx⟩
 rintro i b ⟨i0,i1,hb⟩ _
 exact Cnd.mk (fun hc=>⟨by omega,fun y hy=>Cnd.mk (fun _=>⟨by omega,fun _ _=>⟨by omega,fun _ _=>⟨by unfold InI;omega,⟨by omega,by omega,by simpa using hb⟩,by omega⟩⟩⟩) fun _=>⟨by omega,fun _ _=>⟨by unfold InI;omega,⟨by omega,by omega,by simpa using hb⟩,by omega⟩⟩⟩) fun _=>q06 (by omega) h
theorem j48{a:List Spn}{n:Int}{K:List Spn->Prop}(hn: -1000000<=n/\n<=1000000)(h: ∀l,SpsS l->K l):q6e a n K:=by
 unfold q6e z1b
 refine B9 fun x hx=>Lp3.ind (fun (m i:Int) (b:List Bool)=>0<=i/\i<=10000/\b.length=10000/\ -1000000 - i<=m/\m<=1000000) (fun _ (i:Int) _=>(10000 - i).toNat) ?_ ⟨by omega,by omega,hx,by omega,by omega⟩
 rintro m i b ⟨i0,i1,hb,m0,m1⟩ _
 refine Cnd.mk (fun hc=>⟨by omega,fun y hy=> ?_⟩) fun _=>q06 (by omega) h
 have step:(0<=i/\i<(b.length:Int))/\ ∀y5,b[i.toNat]? =some y5->Cnd (y5=true) (InI (m - 1)/\InI (i+1)/\((0<=i+1/\i+1<=10000/\b.length=10000/\ -1000000 - (i+1)<=m - 1/\m - 1<=1000000)/\(10000 - (i+1)).toNat<(10000 - i).toNat)) (InI (i+1)/\((0<=i+1/\i+1<=10000/\b.length=10000/\ -1000000 - (i+1)<=m/\m<=1000000)/\(10000 - (i+1)).toNat<(10000 - i).toNat)):=
  ⟨by omega,fun _ _=>Cnd.mk (fun _=>⟨by unfold InI;omega,by unfold InI;omega,by omega,by omega⟩) fun _=>⟨by unfold InI;omega,by omega,by omega⟩⟩
 exact Cnd.mk (fun _=>Cnd.mk (fun _=>⟨by omega,fun _ _=>⟨by unfold InI;omega,⟨by omega,by omega,by simpa using hb,by omega,by omega⟩,by omega⟩⟩) fun _=>step) fun _=>step
theorem v0c(n:Int):0<=Go.IntKind.u8.wrap n/\Go.IntKind.u8.wrap n<=255:=by
 have e:Go.IntKind.u8.wrap n=n % 256:=rfl
 rw[e];omega
theorem w0e{s:ByteArray}{K:Bool->Prop}(hs:s.size<=1000)(h: ∀r,K r):z2p s K:=by
 unfold z2p
 refine Lp1.ind (fun (i:Int)=>0<=i/\i<=s.size) (fun (i:Int)=>(s.size - i).toNat) ?_ ⟨by omega,by omega⟩
 rintro i ⟨i0,i1⟩
 (repeat' (first|exact h _|assumption|(unfold InI;omega)|omega|refine Cnd.mk (fun _=> ?_) fun _=> ?_|refine⟨?_,?_⟩|intro _))
theorem w0f{e:Ex}{K:Bool->Prop}(h: ∀r,K r):z2r e K:=by
 unfold z2r
 (repeat' (first|exact h _|assumption|(unfold InI;omega)|omega|refine Cnd.mk (fun _=> ?_) fun _=> ?_|refine⟨?_,?_⟩|intro _))
theorem j49{e:Ex}{K:Bool->Prop}(h: ∀r:Bool,(r=true->9<=e.op->e.op<=11->e.values≠[])->K r):q6h e K:=by
 unfold q6h z1c
 intro _ _
 refine Jn2.mk (fun _ v=>v=true->9<=e.op->e.op<=11->e.values.length=1) ?_ fun k v hv=> ?_
 ·refine Cnd.mk (fun _ _ _ _ _=>by omega) fun _=>Cnd.mk (fun _ _ _ _ _=>by omega) fun _=>Cnd.mk (fun _ _ _ _ _=>by omega) fun _=>Cnd.mk (fun _ _ _ _ _=>by omega) fun _=>q05 fun r hr=>Cnd.mk (fun _=>Cnd.mk (fun _ _ _ _=>by omega) fun _ _ hd _ _=>by have:=of_decide_eq_true hd;omega) fun hc _ h1 h2=>absurd (hr.2 ⟨by omega,by omega⟩) hc
 ·have no:K false:=h _ fun h=>by cases h
  refine q05 fun r _=>Cnd.mk (fun _=>Cnd.mk (fun hv'=> ?_) fun _=>no) fun _=>no
  have yes: ∀r,K r:=fun r=>h r fun _ h1 h2 hn=>by have:=hv hv' h1 h2;rw[hn] at this;cases this
  (repeat' (first|exact yes _|exact no|assumption|(unfold InI;omega)|omega|refine Cnd.mk (fun _=> ?_) fun _=> ?_|refine⟨?_,?_⟩|intro _))
theorem j7f{v:Val}{K:Bool->Prop}(h: ∀r,K r):q9t v K:=by
 unfold q9t
 (repeat' (first|exact h _|assumption|(unfold InI;omega)|omega|refine Cnd.mk (fun _=> ?_) fun _=> ?_|refine⟨?_,?_⟩|intro _))
theorem z9e{l:List Rng}{n:Int}{K:Int->Prop}(h: ∀r,0<=r->r<=100->K r):q5j l n K:=by
 unfold q5j
 intro _
 refine Cnd.mk (fun _=>h _ (by omega) (by omega)) fun _=> ?_
 refine Lp2.ind (fun _ (i:Int)=>0<=i/\i<=l.length) (fun _ (i:Int)=>(l.length - i).toNat) ?_ ⟨by omega,by omega⟩
 rintro a i ⟨i0,i1⟩
 (repeat' (first|exact h _ (by omega) (by omega)|assumption|(unfold InI;omega)|omega|refine Cnd.mk (fun _=> ?_) fun _=> ?_|refine⟨?_,?_⟩|intro _))
theorem j7g{l:List Spn}{K:Int->Prop}(h: ∀r,0<=r->r<=100->K r):q9z l K:=by
 unfold q9z
 intro _
 refine Cnd.mk (fun _=>h _ (by omega) (by omega)) fun _=> ?_
 refine Lp1.ind (fun (i:Int)=>0<=i/\i<=l.length) (fun (i:Int)=>(l.length - i).toNat) ?_ ⟨by omega,by omega⟩
 rintro i ⟨i0,i1⟩
 (repeat' (first|exact h _ (by omega) (by omega)|assumption|(unfold InI;omega)|omega|refine Cnd.mk (fun _=> ?_) fun _=> ?_|refine⟨?_,?_⟩|intro _))
theorem j5a{α:Type}{l:List α}{f:α->ByteArray}{K:List ByteArray->Prop}(hl:l.length<=1000000)(h:K (l.map f)):
  Lp2 (fun (r:List ByteArray) (i:Int) Y=>l.length<=9223372036854775807->Cnd (i<(l.length:Int)) ((0<=i/\i<(l.length:Int))/\ ∀y,l[i.toNat]? =some y->Sml (r++[f y]).length/\InI (i+1)/\Y (r++[f y]) (i+1)) (K r)) [] 0:=by
 refine Lp2.ind (fun (r:List ByteArray) (i:Int)=>0<=i/\i<=l.length/\r=(l.take i.toNat).map f) (fun _ (i:Int)=>(l.length - i).toNat) ?_ ⟨Int.le_refl 0,by omega,by simp⟩
 rintro r i ⟨i0,i1,rfl⟩ _
 refine Cnd.mk (fun hc=>⟨by omega,fun y hy=>⟨by unfold Sml;simp;omega,by unfold InI;omega,⟨by omega,by omega,?_⟩,by omega⟩⟩) fun hc=> ?_
 ·rw[show (i+1).toNat=i.toNat+1 by omega,List.take_add_one,hy];simp
 ·rw[List.take_of_length_le (by omega)];exact h
theorem z1x{l:List Seg}{K:List ByteArray->Prop}(hl:l.length<=1000000)(h:K (l.map Seg.key)):q5o l K:=j5a hl h
theorem w60{i:Nat}:(29:Int)*10 ^ (i+1)=10*(29*10 ^ i):=by rw[Int.pow_succ];omega
theorem z44{s:ByteArray}{K:Int->Int->Prop}(hs:s.size<=1000)(h: ∀n e,InI n->0<=e->e<=100->K n e):Hb s K:=by
 unfold Hb
 refine Jn1.mk (fun d=>d.size<=1000) ?_ fun d hd=> ?_
 ·(repeat' (first|(show (s.extract _ _).size<=1000;rw[ByteArray.size_extract];omega)|assumption|(unfold InI;omega)|omega|refine Cnd.mk (fun _=> ?_) fun _=> ?_|refine⟨?_,?_⟩|intro _))
 refine Lp1.ind (fun (i:Int)=>0<=i/\i<=d.size) (fun (i:Int)=>(d.size - i).toNat) ?_ ⟨by omega,by omega⟩
 rintro i ⟨i0,i1⟩
 have fin:d.size<=13->Lp2 (fun (Qx V8:Int) v0u=>Cnd (V8<(↑d.size:Int)) (InI ((10:Int)*Qx)/\((0:Int)<=V8/\V8<(↑d.size:Int))/\ ∀b5,d[V8.toNat]? =some b5->InI (Go.IntKind.u8.wrap ((↑b5.toNat:Int) - (48:Int)))/\InI ((10:Int)*Qx+Go.IntKind.u8.wrap ((↑b5.toNat:Int) - (48:Int)))/\InI (V8+(1:Int))/\v0u ((10:Int)*Qx+Go.IntKind.u8.wrap ((↑b5.toNat:Int) - (48:Int))) (V8+(1:Int))) (Cnd ((1099511627776:Int)<Qx) (K (0:Int) (3:Int)) (Cnd ((↑d.size:Int)<(↑s.size:Int)) (InI ((0:Int) - Qx)/\K ((0:Int) - Qx) (0:Int)) (K Qx (0:Int))))) (0:Int) (0:Int):=fun h13=>by
  refine Lp2.ind (fun (n j:Int)=>0<=j/\j<=d.size/\0<=n/\n+29<=29*10 ^ j.toNat) (fun _ (j:Int)=>(d.size - j).toNat) ?_ ⟨by omega,by omega,by omega,by simp⟩
  rintro n j ⟨j0,j1,n0,n1⟩
  have hp:(10:Int) ^ j.toNat<=10 ^ 13:=by
   have:=Nat.pow_le_pow_right (n:=10) (by decide) (show j.toNat<=13 by omega)
   exact_mod_cast this
  refine Cnd.mk (fun hc=>⟨by unfold InI;omega,by omega,fun b _=> ?_⟩) fun hc=> ?_
  ·obtain⟨w0,w1⟩:=v0c ((b.toNat:Int) - 48)
   refine⟨by unfold InI;omega,by unfold InI;omega,by unfold InI;omega,⟨by omega,by omega,by omega,?_⟩,by omega⟩
   rw[show (j+1).toNat=j.toNat+1 by omega,w60];omega
  ·exact Cnd.mk (fun _=>h _ _ (by unfold InI;omega) (by omega) (by omega)) fun _=>Cnd.mk (fun _=>⟨by unfold InI;omega,h _ _ (by unfold InI;omega) (by omega) (by omega)⟩) fun _=>h _ _ (by unfold InI;omega) (by omega) (by omega)
 have k1:=h 0 1 (by unfold InI;omega) (by omega) (by omega)
 have k3:=h 0 3 (by unfold InI;omega) (by omega) (by omega)
 refine Cnd.mk (fun hc=>⟨by omega,fun b hb=>Cnd.mk (fun _=>k1) fun _=>⟨by omega,fun b' hb'=>Cnd.mk (fun _=>k1) fun _=>⟨by unfold InI;omega,by omega,by omega⟩⟩⟩) fun _=> ?_
 refine Cnd.mk (fun _=>k1) fun he=>⟨⟨by omega,?_⟩,fun b hb=>Cnd.mk (fun _=>Cnd.mk (fun _=>Cnd.mk (fun _=>k3) fun _=>fin (by omega)) fun _=>k1) fun _=>Cnd.mk (fun _=>k3) fun _=>fin (by omega)⟩
 refine Int.not_le.1 fun hn=>he ?_
 have:d.size=0:=by omega
 exact ByteArray.ext (Array.eq_empty_of_size_eq_zero this)
theorem w0g{t:Int}{e:Ex}{K:Bool->Prop}(h: ∀r,K r):q22 t e K:=by
 unfold q22
 refine Cnd.mk (fun _=>h _) fun _=>Cnd.mk (fun _=> ?_) fun _ _=>Cnd.mk (fun _=>h _) fun _=>⟨by omega,fun y hy=>Cnd.mk (fun _=>h _) fun _=>Jn1.mk (fun _=>True) ?_ fun x _=> ?_⟩
 ·refine Lp1.ind (fun (i:Int)=>0<=i/\i<=e.values.length) (fun (i:Int)=>(e.values.length - i).toNat) ?_ ⟨by omega,by omega⟩
  rintro i ⟨i0,i1⟩
  (repeat' (first|exact h _|assumption|(unfold InI;omega)|omega|refine Cnd.mk (fun _=> ?_) fun _=> ?_|refine⟨?_,?_⟩|intro _))
 ·(repeat' (first|exact trivial|assumption|(unfold InI;omega)|omega|refine Cnd.mk (fun _=> ?_) fun _=> ?_|refine⟨?_,?_⟩|intro _))
 ·(repeat' (first|exact h _|assumption|(unfold InI;omega)|omega|refine Cnd.mk (fun _=> ?_) fun _=> ?_|refine⟨?_,?_⟩|intro _))
theorem z9f{v:Envt}{K:List ByteArray->Prop}(hl:v.flags.length<=1000000)(h:K (v.flags.map Flg.key)):q4t v K:=j5a hl h
def q6z(f:Flg):List Edg:=f.needs.map fun q=>Edg.mk f.key q.flag
theorem z6e{v:Envt}{K:List Edg->Prop}(hl:v.flags.length<=1000)(hn: ∀f∈v.flags,f.needs.length<=1000)(h:K (v.flags.flatMap q6z)):Rt v K:=by
 unfold Rt
 have hb: ∀l:List Flg,(∀f∈l,f.needs.length<=1000)->(l.flatMap q6z).length<=1000*l.length:=by
  intro l
  induction l with
  |nil=>simp
  |cons f l ih=>intro hf;have h1:=hf f (by simp);have h2:=ih fun g hg=>hf g (by simp[hg]);simp only[List.flatMap_cons,List.length_append,q6z,List.length_map,List.length_cons] at*;omega
 refine Lp2.ind (fun (r:List Edg) (i:Int)=>0<=i/\i<=v.flags.length/\r=(v.flags.take i.toNat).flatMap q6z) (fun _ (i:Int)=>(v.flags.length - i).toNat) ?_ ⟨Int.le_refl 0,by omega,by simp⟩
 rintro r i ⟨i0,i1,rfl⟩ _
 refine Cnd.mk (fun hc=> ?_) fun hc=> ?_
 ·obtain⟨f,hf⟩: ∃f,v.flags[i.toNat]? =some f:=⟨_,List.getElem?_eq_getElem (by omega)⟩
  have hfn:=hn f (getm hf)
  have hbt:=hb (v.flags.take i.toNat) fun g hg=>hn g (List.mem_of_mem_take hg)
  rw[List.length_take] at hbt
  refine Lp2.ind (fun (r:List Edg) (j:Int)=>0<=j/\j<=f.needs.length/\r=(v.flags.take i.toNat).flatMap q6z++(f.needs.take j.toNat).map fun q=>Edg.mk f.key q.flag) (fun _ (j:Int)=>(f.needs.length - j).toNat) ?_ ⟨by omega,by omega,by simp⟩
  rintro r j ⟨j0,j1,rfl⟩
  refine⟨by omega,fun g hg=> ?_⟩
  rw[hf] at hg;cases hg
  refine fun _=>Cnd.mk (fun hc=>⟨by omega,fun g hg=> ?_⟩) fun hc=>⟨by unfold InI;omega,⟨by omega,by omega,?_⟩,by omega⟩
  ·rw[hf] at hg;cases hg
   refine⟨by omega,fun g hg=> ?_⟩
   rw[hf] at hg;cases hg
   refine⟨by omega,fun q hq=>⟨?_,by unfold InI;omega,⟨by omega,by omega,?_⟩,by omega⟩⟩
   ·unfold Sml;simp only[List.length_append,List.length_map,List.length_take,List.length_cons,List.length_nil];omega
   ·rw[show (j+1).toNat=j.toNat+1 by omega,List.take_add_one,hq];simp
  ·rw[List.take_of_length_le (show f.needs.length<=j.toNat by omega),show (i+1).toNat=i.toNat+1 by omega,List.take_add_one,hf];simp[q6z]
 ·rw[List.take_of_length_le (by omega)];exact h
end Go.En
end
noncomputable section
set_option maxRecDepth 100000
namespace Go.Sg
open Go
abbrev bts(s:ByteArray):List UInt8:=s.data.toList
def isD(c:UInt8):Bool:=decide (48<=c.toNat) && decide (c.toNat<=57)
def v4a(n:Nat)(c:UInt8):Nat:=10*n+(c.toNat - 48)
def valD(n:Nat)(l:List UInt8):Nat:=l.foldl v4a n
def digs(s:ByteArray):ByteArray:=if s[0]? =some 45 then s.extract 1 s.size else s
def pnum(s:ByteArray):Int×Int:=
 if (bts (digs s)).all isD=false then (0,1)
 else if (digs s).size=0∨((digs s)[0]? =some 48/\s≠ByteArray.mk (Array.mk [48])) then (0,1)
 else if 1099511627776<valD 0 (bts (digs s)) then (0,3)
 else (if (digs s).size<s.size then -(valD 0 (bts (digs s)):Int) else valD 0 (bts (digs s)),0)
def dot(s:ByteArray)(k:Nat):Nat:=k+((bts s).drop k).idxOf 46
def okp(p:Int×Int):Bool:=decide (p.2=0) && decide (0<=p.1) && decide (p.1<=999999)
def v0d(s:ByteArray)(k:Nat):Int×Int:=pnum (s.extract k (dot s k))
def v2b(s:ByteArray):Prop:=(dot s 0<s.size/\okp (v0d s 0)=true)/\(dot s (dot s 0+1)<s.size/\okp (v0d s (dot s 0+1))=true)/\ ¬dot s (dot s (dot s 0+1)+1)<s.size/\okp (v0d s (dot s (dot s 0+1)+1))=true
instance (s:ByteArray):Decidable (v2b s):=by unfold v2b;infer_instance
end Go.Sg
end
noncomputable section
set_option maxRecDepth 100000
namespace Go.En
open Go Go.Fl Go.Fl.Lk Go.Fx Go.Sg
theorem take_snoc{l:List UInt8}{i:Nat}{b:UInt8}(h:l[i]? =some b):l.take (i+1)=l.take i++[b]:=by rw[List.take_add_one,h];rfl
end Go.En
end
noncomputable section
set_option maxRecDepth 100000
namespace Go.En
open Go Go.Fl Go.Fl.Lk Go.Fx Go.Sg
def sg(l g:Prop)[Decidable l][Decidable g]:Int:=if l then -1 else if g then 1 else 0
end Go.En
end
noncomputable section
set_option maxRecDepth 100000
namespace Go.En
open Go Go.Fl Go.Fl.Lk Go.Fx Go.Sg
open Classical in
def dec(p:Prop):Bool:=decide p
theorem j2u{p:Prop}:dec p=true↔p:=by unfold dec;exact @decide_eq_true_iff p (Classical.propDecidable p)
theorem v2c{p:Prop}{r:Bool}(h:r=true↔p):r=dec p:=by rw[Bool.eq_iff_iff,h,j2u]
theorem w61{p:Prop}(h:p):dec p=true:=j2u.2 h
theorem w34{p:Prop}(h: ¬p):dec p=false:=by rw[Bool.eq_false_iff];exact fun e=>h (j2u.1 e)
def ValB(w:Val):Prop:=w.3.size<=2000000/\w.4.length<=2000000
end Go.En
end
noncomputable section
set_option maxRecDepth 100000
namespace Go.Gr
open Go.Fl Go.Fl.Lk
abbrev E2:=ByteArray×ByteArray
variable {ns ms:List ByteArray}{E D:List E2}{o o':List ByteArray}{x y:ByteArray}
def Rch(E:List E2)(x y:ByteArray):Prop:= ∀p:ByteArray->Prop,(∀e∈E,e.1=x∨p e.1->p e.2)->p y
theorem Rch.step{e:E2}(h:Rch E x e.1)(he:e∈E):Rch E x e.2:=fun p hp=>hp e he (.inr (h p hp))
def nd(E:List E2)(x:ByteArray):List ByteArray:=(E.filter fun e=>decide (e.1=x)).map (·.2)
end Go.Gr
end
noncomputable section
set_option maxRecDepth 100000
namespace Go.En
open Go Go.Fl Go.Fl.Lk Go.Fx Go.Sg
mutual
def evl(T:Ex->Bool)(I:ByteArray->Bool):Ex->Bool
 |⟨op,kind,name,values,kids⟩=>if op=1 then true else if op=2 then evlA T I kids else if op=3 then evlO T I kids else if op=4 then evlN T I kids else if op=5 then I name else T ⟨op,kind,name,values,kids⟩
def evlA(T:Ex->Bool)(I:ByteArray->Bool):List Ex->Bool
 |[]=>true
 |k::l=>if evl T I k=true then evlA T I l else false
def evlO(T:Ex->Bool)(I:ByteArray->Bool):List Ex->Bool
 |[]=>false
 |k::l=>if evl T I k=true then true else evlO T I l
def evlN(T:Ex->Bool)(I:ByteArray->Bool):List Ex->Bool
 |[]=>false
 |k::_=> !(evl T I k)
end
mutual
def subs:Ex->List Ex
 |⟨op,kind,name,values,kids⟩=>⟨op,kind,name,values,kids⟩::w0h kids
def w0h:List Ex->List Ex
 |[]=>[]
 |k::l=>subs k++w0h l
end
theorem w35(e:Ex):subs e=e::w0h e.5:=by cases e;rfl
theorem z9g{a:Ex}{l:List Ex}:a∈w0h l↔ ∃k∈l,a∈subs k:=by
 induction l with
 |nil=>simp[w0h]
 |cons k l ih=>simp[w0h,ih]
mutual
def wt:Ex->Nat
 |⟨_,_,_,values,kids⟩=>1+wtV values+wtL kids
def wtL:List Ex->Nat
 |[]=>0
 |k::l=>wt k+wtL l
def wtV:List Val->Nat
 |[]=>0
 |v::l=>1+v.4.length+wtV l
end
theorem v2d(e:Ex):wt e=1+wtV e.4+wtL e.5:=by cases e;rfl
def EvB(e:Ex):Prop:= ∀a∈subs e,∀w∈a.4,ValB w
end Go.En
end
noncomputable section
set_option maxRecDepth 100000
namespace Go.En
open Go Go.Fl Go.Fl.Lk Go.Fx
theorem v0e{l:List ByteArray}(ha:Asc l){i:Nat}{s:ByteArray}(h1: ∀y∈l.take i,blt y s)(h2: ∀y∈l.drop i,blt s y):Asc (l.take i++[s]++l.drop i):=by
 unfold Asc at*
 rw[←List.take_append_drop i l,List.pairwise_append] at ha
 obtain⟨a1,a2,a3⟩:=ha
 rw[List.append_assoc,List.pairwise_append,List.singleton_append,List.pairwise_cons]
 refine⟨a1,⟨h2,a2⟩,fun a ha b hb=> ?_⟩
 rcases List.mem_cons.1 hb with rfl|hb
 ·exact h1 a ha
 ·exact a3 a ha b hb
theorem z9h{l:List ByteArray}{s:ByteArray}{K:List ByteArray->Prop}(ha:Asc l)(hl:l.length<=1100000)(h: ∀r,Asc r->(∀y,y∈r↔y∈l∨y=s)->K r):q34 l s K:=by
 unfold q34
 refine Lp1.ind (fun (i:Int)=>0<=i/\i<=l.length/\ ∀y∈l.take i.toNat,blt y s) (fun (i:Int)=>(l.length - i).toNat) ?_ ⟨by omega,by omega,by simp⟩
 rintro i ⟨i0,i1,hb⟩ _
 have ins:(∀y∈l.drop i.toNat,blt s y)->((0:Int)<=0/\0<=i/\i<=(l.length:Int))/\Sml ([]++List.drop (Int.toNat 0) (List.take i.toNat l)).length/\(0<=i/\i<=(l.length:Int)/\(l.length:Int)<=(l.length:Int))/\Sml ([]++List.drop (Int.toNat 0) (List.take i.toNat l)++[s]).length/\
   Sml ([]++List.drop (Int.toNat 0) (List.take i.toNat l)++[s]++List.drop i.toNat (List.take (l.length:Int).toNat l)).length/\K ([]++List.drop (Int.toNat 0) (List.take i.toNat l)++[s]++List.drop i.toNat (List.take (l.length:Int).toNat l)):=fun hd=>by
  have e:[]++List.drop (Int.toNat 0) (List.take i.toNat l)++[s]++List.drop i.toNat (List.take (l.length:Int).toNat l)=l.take i.toNat++[s]++l.drop i.toNat:=by simp
  refine⟨by omega,by unfold Sml;simp;omega,by omega,by unfold Sml;simp;omega,by unfold Sml;simp;omega,?_⟩
  rw[e]
  refine h _ (v0e ha hb hd) fun y=> ?_
  rw[List.mem_append,List.mem_append,List.mem_singleton]
  conv=>rhs;rw[←List.take_append_drop i.toNat l,List.mem_append]
  constructor
  ·rintro ((a|a)|a)
   ·exact .inl (.inl a)
   ·exact .inr a
   ·exact .inl (.inr a)
  ·rintro ((a|a)|a)
   ·exact .inl (.inl a)
   ·exact .inr a
   ·exact .inl (.inr a)
 have dropc: ∀{y:ByteArray},l[i.toNat]? =some y-> ∀z∈l.drop i.toNat,z=y∨blt y z:=fun {y} hy z hz=>by
  have hlt:=(List.getElem?_eq_some_iff.1 hy).1
  rw[List.drop_eq_getElem_cons hlt] at hz
  have e:l[i.toNat]=y:=(List.getElem?_eq_some_iff.1 hy).2
  rcases List.mem_cons.1 hz with hz|hz
  ·exact .inl (hz.trans e)
  ·unfold Asc at ha
   rw[←List.take_append_drop i.toNat l,List.pairwise_append,List.drop_eq_getElem_cons hlt,List.pairwise_cons,e] at ha
   exact .inr (ha.2.1.1 z hz)
 refine Cnd.mk (fun hc=>⟨by omega,fun y hy=>Cnd.mk (fun hlt=>⟨by unfold InI;omega,⟨by omega,by omega,?_⟩,by omega⟩) fun hn _=>Cnd.mk (fun _=>⟨by omega,fun z hz=>Cnd.mk (fun e=> ?_) fun e=>ins fun z' hz'=> ?_⟩) fun hx=>absurd hc hx⟩) fun hc _=>Cnd.mk (fun hx=>absurd hx hc) fun _=>ins ?_
 ·rw[show (i+1).toNat=i.toNat+1 by omega,List.take_add_one,hy]
  exact Jw hb hlt
 ·exact h _ ha fun y=>⟨.inl,fun hy=>hy.elim id fun q=>by rw[q,←e];exact getm hz⟩
 ·rw[hy] at hz;cases hz
  rcases dropc hy z' hz' with rfl|hlt
  ·exact Classical.byContradiction fun hb=>e (j5v hn hb)
  ·exact Classical.byContradiction fun hb=>by
    have h1:=j5v hn (fun k=>hb (j3g k hlt))
    exact e h1
 ·intro z hz
  rw[List.drop_of_length_le (by omega)] at hz;simp at hz
theorem j7h:Asc []:=List.Pairwise.nil
end Go.En
end
noncomputable section
set_option maxRecDepth 100000
namespace Go.En
open Go Go.Fl Go.Fl.Lk Go.Fx Go.Sg
def nms(e:Ex):List ByteArray:=((subs e).filter fun a=>decide (a.1=5)).map Ex.name
theorem j7i{e:Ex}{x:ByteArray}:x∈nms e↔ ∃a∈subs e,a.1=5/\a.3=x:=by
 unfold nms
 simp only[List.mem_map,List.mem_filter,decide_eq_true_eq]
 exact⟨fun ⟨a,⟨h1,h2⟩,h3⟩=>⟨a,h1,h2,h3⟩,fun ⟨a,h1,h2,h3⟩=>⟨a,⟨h1,h2⟩,h3⟩⟩
theorem j1c(e:Ex)(x:ByteArray):x∈nms e↔(e.1=5/\e.3=x)∨ ∃k∈e.5,x∈nms k:=by
 rw[j7i,w35]
 constructor
 ·rintro⟨a,ha,h⟩
  rcases List.mem_cons.1 ha with rfl|ha
  ·exact .inl h
  ·obtain⟨k,hk,ha⟩:=z9g.1 ha
   exact .inr ⟨k,hk,j7i.2 ⟨a,ha,h⟩⟩
 ·rintro (h|⟨k,hk,h⟩)
  ·exact⟨e,List.mem_cons_self,h⟩
  ·obtain⟨a,ha,h⟩:=j7i.1 h
   exact⟨a,List.mem_cons_of_mem _ (z9g.2 ⟨k,hk,ha⟩),h⟩
end Go.En
end
noncomputable section
set_option maxRecDepth 100000
namespace Go.En
open Go Go.Fl Go.Fl.Lk Go.Fx Go.Sg
structure ClE(segs:List ByteArray)(Q:Nat->Ex->Prop):Prop where
 hT: ∀k,Q k (Ex.mk 1 (ByteArray.mk (Array.mk [])) (ByteArray.mk (Array.mk [])) [] [])
 hS: ∀k b,b∈segs->Q k (Ex.mk 5 (ByteArray.mk (Array.mk [])) b [] [])
 ht: ∀k e,ExS 0 e->6<=e.1/\e.1<=15->Q k e
 hN: ∀k e,Q k e->Q (k+1) (Ex.mk 4 (ByteArray.mk (Array.mk [])) (ByteArray.mk (Array.mk [])) [] [e])
 hA: ∀k op l,op=2∨op=3->l.length<=3->l≠[]->(∀e∈l,Q k e∨ ∃e',Q k e'/\e=Ex.mk 4 (ByteArray.mk (Array.mk [])) (ByteArray.mk (Array.mk [])) [] [e'])->Q (k+1) (Ex.mk op (ByteArray.mk (Array.mk [])) (ByteArray.mk (Array.mk [])) [] l)
theorem ClE.and{segs:List ByteArray}{Q R:Nat->Ex->Prop}(a:ClE segs Q)(b:ClE segs R):ClE segs fun k e=>Q k e/\R k e:=
 ⟨fun k=>⟨a.hT k,b.hT k⟩,fun k x hx=>⟨a.hS k x hx,b.hS k x hx⟩,fun k e h1 h2=>⟨a.ht k e h1 h2,b.ht k e h1 h2⟩,fun k e h=>⟨a.hN k e h.1,b.hN k e h.2⟩,
  fun k op l h1 h2 h3 h=>⟨a.hA k op l h1 h2 h3 fun e he=>(h e he).imp (·.1) fun ⟨e',h,h'⟩=>⟨e',h.1,h'⟩,b.hA k op l h1 h2 h3 fun e he=>(h e he).imp (·.2) fun ⟨e',h,h'⟩=>⟨e',h.2,h'⟩⟩⟩
theorem z45{list:List Int}{segs:List ByteArray}{Q:Nat->Ex->Prop}(c:ClE segs Q):
  ∀(k:Nat) {at_ levels:Int} {K:Ex->Int->Prop},k<=100->levels<=k+1->1<=levels->DS list at_->(∀r a,Q k r->DS list a->K r a)->z2h list at_ segs levels K:=by
 obtain⟨hT,hS,ht,hN,hA⟩:=c
 intro k at_ levels K hk0 hk hl hD h X hX
 induction k generalizing at_ levels K with
 |zero=>
  refine hX _ _ _ _ _ ?_
  unfold z6w
  refine Qf hD (by decide) fun r a r0 r1 hD=>Jn1.mk (fun x=>0<=x/\x<=3) (Cnd.mk (fun _=>Cnd.mk (fun _=>⟨by unfold InI;omega,by omega,by omega⟩) fun _=>⟨by omega,by omega⟩) fun _=>by omega) fun x hx=> ?_
  have t:=j46 (K:=fun r a=>K (Ex.mk r.1 r.2 r.3 r.4 r.5) a) hD fun r a hr h6 hD=>h _ a (by rw[Ww];exact ht 0 r hr h6) hD
  refine Cnd.mk (fun _=>h _ _ (hT 0) hD) fun _=>Cnd.mk (fun _ _=>Cnd.mk (fun hc _=> ?_) fun _=>t) fun _=>Cnd.mk (fun hc=>by omega) fun _=> ?_
  ·exact Qf hD (by omega) fun r a r0 r1 hD=>⟨⟨r0,r1⟩,fun y hy=>h _ _ (hS 0 y (getm hy)) hD⟩
  ·exact Jn1.mk (fun x=>x=false) (Cnd.mk (fun hc=>by omega) fun _=>decide_eq_false (by omega)) fun x hx=>Cnd.mk (fun hc=>by rw[hx] at hc;cases hc) fun _=>t
 |succ k ih=>
  refine hX _ _ _ _ _ ?_
  unfold z6w
  have go: ∀{at_:Int} {K:Ex->Int->Prop},1<=levels - 1->DS list at_->(∀r a,Q k r->DS list a->K r a)->X list at_ segs (levels - 1) K:=fun h1 hD hK=>ih (by omega) (by omega) h1 hD hK
  refine Qf hD (by decide) fun r a r0 r1 hD=>Jn1.mk (fun x=>0<=x/\x<=7/\(levels<=1->x<=3)) (Cnd.mk (fun _=>Cnd.mk (fun _=>⟨by unfold InI;omega,by omega,by omega,by omega⟩) fun _=>⟨by omega,by omega,by omega⟩) fun _=>by omega) fun x hx=> ?_
  have t:=j46 (K:=fun r a=>K (Ex.mk r.1 r.2 r.3 r.4 r.5) a) hD fun r a hr h6 hD=>h _ a (by rw[Ww];exact ht _ r hr h6) hD
  refine Cnd.mk (fun _=>h _ _ (hT _) hD) fun _=>Cnd.mk (fun _ _=>Cnd.mk (fun hc _=> ?_) fun _=>t) fun _=>Cnd.mk (fun hc=> ?_) fun _=> ?_
  ·exact Qf hD (by omega) fun r a r0 r1 hD=>⟨⟨r0,r1⟩,fun y hy=>h _ _ (hS _ y (getm hy)) hD⟩
  ·refine⟨by unfold InI;omega,go (by omega) hD fun e a he hD=>h _ _ ?_ hD⟩
   rw[Ww];exact hN k e he
  refine Jn1.mk (fun y=>y=true->2<=levels) (Cnd.mk (fun hc _=>by omega) fun _ hc=>by have:=of_decide_eq_true hc;omega) fun y hy=>Cnd.mk (fun hc=> ?_) fun _=>t
  have hy:=hy hc
  refine Qf hD (by decide) fun r a r0 r1 hD=>⟨by unfold InI;omega,Qf hD (by decide) fun q a q0 q1 hD=>⟨by unfold InI;omega,?_⟩⟩
  refine LpH.ind (fun x=>0<=x.1/\x.1<=2+q/\DS list x.2.1/\x.2.2=(2+r,ByteArray.mk (Array.mk []),ByteArray.mk (Array.mk []),[],x.2.2.2.2.2.2.1,())/\(x.2.2.2.2.2.2.1.length:Int)=x.1/\ ∀e∈x.2.2.2.2.2.2.1,Q k e∨ ∃e',Q k e'/\e=Ex.mk 4 (ByteArray.mk (Array.mk [])) (ByteArray.mk (Array.mk [])) [] [e']) (fun x=>(3 - x.1).toNat) ?_ ⟨Int.le_refl 0,by simp only;omega,hD,rfl,rfl,by simp⟩
  rintro⟨i,a,x⟩ ⟨i0,i1,hD,hx,hl,he⟩
  simp only at i0 i1 hD hx hl he
  generalize x.2.2.2.2.1=l at*
  subst hx
  simp only at hl he⊢
  refine Cnd.mk (fun hc=>⟨by unfold InI;omega,go (by omega) hD fun e a hk hD=> ?_⟩) fun hc=>h _ _ (hA k (2+r) l (by omega) (by omega) (fun e=>by rw[e] at hl;simp at hl;omega) he) hD
  refine Jn1.mk (fun z=>(fun e=>Q k e∨ ∃e',Q k e'/\e=Ex.mk 4 (ByteArray.mk (Array.mk [])) (ByteArray.mk (Array.mk [])) [] [e']) (Ex.mk z.1 z.2.1 z.2.2.1 z.2.2.2.1 z.2.2.2.2.1)) (Cnd.mk (fun _=> .inr ⟨e,hk,by simp only;rw[Ww]⟩) fun _=> .inl (by simp only;rw[Ww];exact hk)) fun z hz=> ?_
  exact⟨by unfold Sml;simp;omega,by unfold InI;omega,⟨by omega,by omega,hD,trivial,by simp;omega,Jw he hz⟩,by omega⟩
structure DrE(segs:List ByteArray)(w:Nat)(e:Ex):Prop where
 wt:wt e<=w
 nms: ∀x∈nms e,x∈segs
 ev:EvB e
theorem EvB.mk'{e:Ex}(h: ∀w∈e.4,ValB w)(hk: ∀k∈e.5,EvB k):EvB e:=fun a ha=>by
 rw[w35] at ha
 rcases List.mem_cons.1 ha with rfl|ha
 ·exact h
 ·obtain⟨k,hk',ha⟩:=z9g.1 ha
  exact hk k hk' a ha
theorem v2e{l:List Val}{b:Nat}(h: ∀v∈l,v.4.length<=b):wtV l<=l.length*(1+b):=by
 induction l with
 |nil=>simp[wtV]
 |cons v l ih=>
  have h1:=h v List.mem_cons_self
  have h2:=ih fun v hv=>h v (List.mem_cons_of_mem _ hv)
  simp only[wtV,List.length_cons,Nat.add_mul,Nat.one_mul] at*
  omega
theorem v2f{l:List Ex}{b:Nat}(h: ∀e∈l,wt e<=b):wtL l<=l.length*b:=by
 induction l with
 |nil=>simp[wtL]
 |cons v l ih=>
  have h1:=h v List.mem_cons_self
  have h2:=ih fun v hv=>h v (List.mem_cons_of_mem _ hv)
  simp only[wtL,List.length_cons,Nat.add_mul,Nat.one_mul] at*
  omega
def lvl:Nat->Nat
 |0=>45
 |k+1=>4+3*lvl k
theorem w36(k:Nat):45<=lvl k:=by
 induction k with
 |zero=>exact Nat.le_refl _
 |succ k ih=>simp only[lvl];omega
theorem w37{segs:List ByteArray}:ClE segs fun k e=>DrE segs (lvl k) e:=by
 have leaf: ∀{e:Ex} {x:ByteArray},e.5=[]->x∈nms e->e.1=5/\e.3=x:=fun {e x} h5 hx=>by
  rw[j1c,h5] at hx
  exact hx.elim id fun ⟨k,hk,_⟩=>by simp at hk
 refine⟨fun k=>⟨?_,fun x hx=> ?_,EvB.mk' (by simp) (by simp)⟩,fun k b hb=>⟨?_,fun x hx=> ?_,EvB.mk' (by simp) (by simp)⟩,fun k e he h6=>⟨?_,fun x hx=> ?_,EvB.mk' (fun w hw=> ?_) (by rw[he.2.2.2];simp)⟩,fun k e he=>⟨?_,fun x hx=> ?_,EvB.mk' (by simp) (by simpa using he.ev)⟩,fun k op l hop h3 hne he=>⟨?_,fun x hx=> ?_,EvB.mk' (by simp) fun e hm=> ?_⟩⟩
 ·have:=w36 k;simp only[wt,wtV,wtL];omega
 ·have:=(leaf rfl hx).1;simp at this
 ·have:=w36 k;simp only[wt,wtV,wtL];omega
 ·rw[←(leaf rfl hx).2];exact hb
 ·have h1:=w36 k
  have h2:=v2e (l:=e.4) (b:=10) fun v hv=>(he.vals.all v hv).len
  have h3:=he.vals.len
  rw[v2d,he.2.2.2]
  simp only[wtL];omega
 ·have:=(leaf he.2.2.2 hx).1;omega
 ·exact⟨Nat.le_trans (he.vals.all w hw).txt (by decide),Nat.le_trans (he.vals.all w hw).len (by decide)⟩
 ·have:=he.wt;simp only[wt,wtV,wtL,lvl];omega
 ·rw[j1c] at hx
  rcases hx with hx|⟨k,hk,hx⟩
  ·simp at hx
  ·have:k=e:=by simpa using hk
   rw[this] at hx;exact he.nms x hx
 ·rw[v2d]
  have:wtL l<=l.length*(1+lvl k):=v2f fun e hm=>by
   rcases he e hm with h|⟨e',h,rfl⟩
   ·have:=h.wt;omega
   ·have:=h.wt;simp only[wt,wtV,wtL];omega
  have h4:l.length*(1+lvl k)<=3*(1+lvl k):=Nat.mul_le_mul_right _ h3
  simp only[wtV,lvl];omega
 ·rw[j1c] at hx
  rcases hx with hx|⟨q,hq,hx⟩
  ·simp only at hx;omega
  ·rcases he q hq with h|⟨e',h,rfl⟩
   ·exact h.nms x hx
   ·rw[j1c] at hx
    rcases hx with hx|⟨k,hk,hx⟩
    ·simp at hx
    ·have:k=e':=by simpa using hk
     rw[this] at hx;exact h.nms x hx
 ·rcases he e hm with h|⟨e',h,rfl⟩
  ·exact h.ev
  ·exact EvB.mk' (by simp) (by simpa using h.ev)
theorem j7j{segs:List ByteArray}(hs: ∀s∈segs,s.size<=100):ClE segs fun k e=>ExS (2*k) e:=
 ⟨fun k=>ExS.le (n:=0) ⟨.nil,⟨sz0,sz0⟩,opl (by simp),rfl⟩ (by omega),fun k b hb=>ExS.le (n:=0) ⟨.nil,⟨hs _ hb,sz0⟩,opl (by simp),rfl⟩ (by omega),fun k e he _=>he.le (by omega),fun k e he=>(v2a he sz0 sz0).le (by omega),
  fun k op l hop h3 hne he=>⟨.nil,⟨sz0,sz0⟩,⟨InI.mk (by simp only;omega) (by simp only;omega),fun _ _=>hne⟩,h3,fun e hm=>by
   rcases he e hm with h|⟨e',h,rfl⟩
   ·exact h.up
   ·exact v2a h sz0 sz0⟩⟩
def Byts(l:List Int):Prop:= ∀x∈l,0<=x/\x<256
theorem w62{l:List Int}{most:Int}{K:List Int->Int->Prop}(hb:Byts l)(h0:0<=most)(h1:most<=1000)(h: ∀r,DS r 0->K r 0):j1z l most K:=by
 unfold j1z
 refine Jn1.mk (fun r=>DS r 0) ?_ h
 refine fun _=>Cnd.mk (fun hc=>⟨by omega,?_⟩) fun hc=>⟨by omega,by omega,by omega,hb⟩
 rw[show List.drop (Int.toNat 0) (List.take most.toNat l)=l.take most.toNat from rfl]
 exact⟨by rw[List.length_take];omega,by omega,by omega,fun x hx=>hb x (List.mem_of_mem_take hx)⟩
end Go.En
end
noncomputable section
set_option maxRecDepth 100000
namespace Go.En
open Go Go.Fl Go.Fl.Lk Go.Fx
theorem w63{α:Type}{l:List α}{p:α->Bool}{i:Nat}{y:α}(hy:l[i]? =some y)(hp:p y=true):(l.drop i).find? p=some y:=by
 have hlt:=Qb hy
 rw[List.drop_eq_getElem_cons hlt,List.find?_cons]
 have e:l[i]=y:=by rw[List.getElem?_eq_getElem hlt] at hy;exact Option.some.inj hy
 rw[e,hp]
theorem w38{α:Type}{l:List α}{p:α->Bool}{i:Nat}{y:α}(hy:l[i]? =some y)(hp:p y=false):(l.drop i).find? p=(l.drop (i+1)).find? p:=by
 have hlt:=Qb hy
 rw[List.drop_eq_getElem_cons hlt,List.find?_cons]
 have e:l[i]=y:=by rw[List.getElem?_eq_getElem hlt] at hy;exact Option.some.inj hy
 rw[e,hp]
theorem v4b{α:Type}{l:List α}(p:α->Bool){G:Int->α->(Int->Prop)->Prop}{B:Prop}(hl:l.length<=1000000000)(hB:l.find? p=none->B)
  (hG: ∀(i:Nat) y Y,l[i]? =some y->i<l.length->(p y=true->l.find? p=some y)->(p y=false->InI ((i:Int)+1)/\Y ((i:Int)+1))->G (i:Int) y Y):
  Lp1 (fun x Y=>l.length<=(9223372036854775807:Nat)->Cnd (x<(l.length:Int)) ((0<=x/\x<(l.length:Int))/\ ∀y,l[x.toNat]? =some y->G x y Y) B) 0:=by
 refine Lp1.ind (fun i=> ∃j:Nat,i=(j:Int)/\j<=l.length/\l.find? p=(l.drop j).find? p) (fun i=>(l.length - i).toNat) ?_ ⟨0,rfl,by omega,rfl⟩
 rintro i ⟨j,rfl,hj,hf⟩ _
 refine Cnd.mk (fun hc=>⟨by omega,fun y hy=> ?_⟩) fun hc=> ?_
 ·have hy:l[j]? =some y:=hy
  refine hG j y _ hy (by omega) (fun hp=>by rw[hf,w63 hy hp]) fun hp=>⟨by unfold InI;omega,⟨j+1,by omega,by omega,by rw[hf,w38 hy hp]⟩,by omega⟩
 ·refine hB ?_
  rw[hf,List.drop_eq_nil_of_le (by omega)];rfl
def xof(v:Envt)(key:ByteArray):Option Exper:=v.6.find? fun x=>decide (x.1=key)
def insV(l:List Spn)(b:Int):Bool:=(l.find? fun r=>decide (r.1<=b) && decide (b<r.2)).isSome
def lof(v:Envt)(key:ByteArray):Option Lay_:=v.5.find? fun l=>decide (l.1=key)
theorem dt{p:Prop}[Decidable p](h:p):decide p=true:=decide_eq_true h
theorem df{p:Prop}[Decidable p](h: ¬p):decide p=false:=decide_eq_false h
end Go.En
end
noncomputable section
set_option maxRecDepth 100000
namespace Go.En
open Go Go.Fl Go.Fl.Lk Go.Fx
theorem Hq{s:ByteArray}{K:Bool->Prop}(h: ∀r,K r):Vx s K:=by
 unfold Vx z4a
 refine Cnd.mk (fun _=>h _) fun hs=>⟨by omega,Cnd.mk (fun _=> ?_) fun _=>h _⟩
 refine Lp1.ind (fun (i:Int)=>0<=i/\i<=s.size) (fun (i:Int)=>(s.size - i).toNat) ?_ ⟨by omega,by omega⟩
 rintro i ⟨i0,i1⟩
 (repeat' (first|exact h _|assumption|(unfold InI;omega)|omega|refine Cnd.mk (fun _=> ?_) fun _=> ?_|refine⟨?_,?_⟩|intro _))
theorem j0a{K:List ByteArray->Prop}(h: ∀l:List ByteArray,l.length<=100->K l):q1x K:=by
 unfold q1x
 exact h _ (by decide)
theorem Vs{s:ByteArray}{K:Bool->Prop}(hs:s.size<=1000)(h: ∀r,K r):Vz s K:=by
 unfold Vz j17
 refine w0e hs fun r=>Cnd.mk (fun _=>Cnd.mk (fun _=>h _) fun _=>j0a fun l hl=> ?_) fun _=>h _
 refine Lp1.ind (fun (i:Int)=>0<=i/\i<=l.length) (fun (i:Int)=>(l.length - i).toNat) ?_ ⟨by omega,by omega⟩
 rintro i ⟨i0,i1⟩
 (repeat' (first|exact h _|assumption|(unfold InI;omega)|omega|refine Cnd.mk (fun _=> ?_) fun _=> ?_|refine⟨?_,?_⟩|intro _))
theorem j0b{s:Sett}{K:Int->Prop}(hs:s.holdoutKind.size<=1000)(h: ∀r,K r):q1y s K:=by
 unfold q1y q6f
 (repeat' (first|exact h _|refine Hq fun _=> ?_|refine Vs hs fun _=> ?_|assumption|(unfold InI;omega)|omega|refine Cnd.mk (fun _=> ?_) fun _=> ?_|refine⟨?_,?_⟩|intro _))
theorem j0c{l:List Decl}{K:Int->Prop}(hl: ∀d∈l,d.kind.size<=1000/\d.name.size<=1000)(h: ∀r,K r):q1z l K:=by
 unfold q1z q6g
 refine fun _=>Cnd.mk (fun _=>h _) fun _=> ?_
 refine Lp1.ind (fun (i:Int)=>0<=i/\i<=l.length) (fun (i:Int)=>(l.length - i).toNat) ?_ ⟨by omega,by omega⟩
 rintro i ⟨i0,i1⟩ _
 refine Cnd.mk (fun hc=>⟨by omega,fun y hy=>Vs (hl y (getm hy)).1 fun _=>Cnd.mk (fun _=>⟨by omega,fun y hy=>Vs (hl y (getm hy)).2 fun _=> ?_⟩) fun _=>h _⟩) fun _=>h _
 (repeat' (first|exact h _|assumption|(unfold InI;omega)|omega|refine Cnd.mk (fun _=> ?_) fun _=> ?_|refine⟨?_,?_⟩|intro _))
theorem z3e{l:List ByteArray}{K:Int->Prop}(h: ∀r,K r):q0x l K:=by
 unfold q0x q77
 refine fun _=>Cnd.mk (fun _=>h _) fun _=> ?_
 refine Lp1.ind (fun (i:Int)=>0<=i/\i<=l.length) (fun (i:Int)=>(l.length - i).toNat) ?_ ⟨by omega,by omega⟩
 rintro i ⟨i0,i1⟩
 (repeat' (first|exact h _|refine Hq fun _=> ?_|assumption|(unfold InI;omega)|omega|refine Cnd.mk (fun _=> ?_) fun _=> ?_|refine⟨?_,?_⟩|intro _))
theorem w0i{l:List ByteArray}{K:Int->Prop}(h: ∀r,K r):z2s l K:=by
 unfold z2s z71
 refine fun _=>Cnd.mk (fun _=>h _) fun _=> ?_
 refine Lp1.ind (fun (i:Int)=>0<=i/\i<=l.length) (fun (i:Int)=>(l.length - i).toNat) ?_ ⟨by omega,by omega⟩
 rintro i ⟨i0,i1⟩ _
 refine Cnd.mk (fun hc=>⟨by omega,fun y hy=>Hq fun _=>Cnd.mk (fun _=>⟨by unfold InI;omega,⟨by omega,by omega⟩,by omega⟩) fun _=>h _⟩) fun _=> ?_
 refine Lp1.ind (fun (i:Int)=>1<=i/\i<=l.length+1) (fun (i:Int)=>(l.length+1 - i).toNat) ?_ ⟨by omega,by omega⟩
 rintro i ⟨i0,i1⟩
 (repeat' (first|exact h _|assumption|(unfold InI;omega)|omega|refine Cnd.mk (fun _=> ?_) fun _=> ?_|refine⟨?_,?_⟩|intro _))
theorem j7k{s:ByteArray}{K:A3->Bool->Prop}(hs:s.size<=1000)(h: ∀a r,K a r):q9u s K:=by
 unfold q9u z4b
 refine LpH.ind (fun x=>0<=x.1/\0<=x.2.1/\x.2.1<=3/\(x.2.1<3->x.1<=(s.size:Int))) (fun x=>(3 - x.2.1).toNat) ?_ ⟨by simp,by simp,by simp,by simp⟩
 rintro⟨a,i,x⟩ ⟨a0,i0,i1,a1⟩
 simp only at a0 a1 i0 i1⊢
 refine Cnd.mk (fun hc=> ?_) fun _=>h _ _
 have a1:=a1 hc
 have sz: ∀j:Int,(s.extract a.toNat j.toNat).size<=1000:=fun j=>by rw[ByteArray.size_extract];omega
 refine Lp1.ind (fun (j:Int)=>a<=j/\j<=s.size) (fun (j:Int)=>(s.size - j).toNat) ?_ ⟨by omega,by omega⟩
 rintro j ⟨j0,j1⟩
 (repeat' (first|exact h _ _|exact trivial|refine z44 (sz _) fun _ _ _ _ _=> ?_|(intro _;simp only[decide_eq_decide] at*;omega)|assumption|(unfold InI;omega)|omega|refine Cnd.mk (fun _=> ?_) fun _=> ?_|refine⟨?_,?_⟩|intro _))
theorem z9i{v:Val}{K:Int->Prop}(hv:v.text.size<=1000)(h: ∀r,K r):q5g v K:=by
 unfold q5g z4c
 (repeat' (first|exact h _|refine j7f fun _=> ?_|refine Hq fun _=> ?_|refine j7k hv fun _ _=> ?_|refine w0i fun _=> ?_|assumption|(unfold InI;omega)|omega|refine Cnd.mk (fun _=> ?_) fun _=> ?_|refine⟨?_,?_⟩|intro _))
theorem w0j{n:Nat}{e:Ex}{K:Int->Prop}(he:ExS n e)(h: ∀r,K r):q5h e K:=by
 unfold q5h z72
 have hv: ∀v∈e.values,v.text.size<=1000:=fun v hv=>by have:=(he.vals.all v hv).txt;omega
 have hn:=he.nm
 have hk:=he.kd
 rw[Ww]
 refine Cnd.mk (fun _=>h _) fun _=>Cnd.mk (fun _=>h _) fun _=>j49 fun r hr=>Cnd.mk (fun hc=> ?_) fun _=>h _
 have hne:=hr hc
 have z:e.op=9∨e.op=10∨e.op=11->(0:Int)<(e.values.length:Int):=fun ho=>by
  have:=List.length_pos_iff.2 (hne (by omega) (by omega));omega
 (repeat' (first|exact h _|refine q05 fun _ _=> ?_|refine Vs (by omega) fun _=> ?_|(refine z9i (hv _ (getm (by assumption))) fun _=> ?_)|(refine Lp1.ind (fun (i:Int)=>0<=i/\i<=e.kids.length+e.values.length) (fun (i:Int)=>(e.kids.length+e.values.length - i).toNat) (fun i hi=> ?_) ⟨by omega,by omega⟩)|assumption|(unfold InI;omega)|omega|refine Cnd.mk (fun _=> ?_) fun _=> ?_|refine⟨?_,?_⟩|intro _))
theorem w0k: ∀(n:Nat) {e:Ex} {d m:Int} {K:Int->Int->Prop},ExS n e->0<=d->d<=11->0<=m->(∀r m,0<=m->K r m)->z2u e d m K:=by
 intro n e d m K he d0 d1 m0 h X hX
 induction n using Nat.strongRecOn generalizing e d m K with
 |_ n ih=>
 refine hX _ _ _ _ ?_
 unfold z73
 rw[Ww]
 refine Cnd.mk (fun _=>h _ _ m0) fun _=>⟨by unfold InI;omega,Cnd.mk (fun _=>h _ _ (by omega)) fun _=>w0j he fun _=>Cnd.mk (fun _=> ?_) fun _=>h _ _ (by omega)⟩
 refine Lp2.ind (fun (i m:Int)=>0<=i/\i<=e.kids.length/\0<=m) (fun (i _:Int)=>(e.kids.length - i).toNat) ?_ ⟨by omega,by omega,by omega⟩
 rintro i m ⟨i0,i1,m0⟩ _
 refine Cnd.mk (fun hc=>⟨by omega,fun y hy=>⟨by unfold InI;omega,?_⟩⟩) fun _=>h _ _ m0
 obtain⟨q,hq,hk⟩:=he.kid (getm hy)
 rw[Ww]
 exact ih q (by omega) hk (by omega) (by omega) m0 fun r m m0=>Cnd.mk (fun _=>⟨by unfold InI;omega,⟨by omega,by omega,m0⟩,by omega⟩) fun _=>h _ _ m0
theorem z47{n:Nat}{e:Ex}{K:Int->Prop}(he:ExS n e)(h: ∀r,K r):q5i e K:=by
 unfold q5i z74
 rw[Ww]
 exact w0k n he (by decide) (by decide) (by decide) fun r _ _=>h r
theorem j2v{g:Seg}{K:Int->Prop}(hg:SegS g)(h: ∀r,K r):q31 g K:=by
 unfold q31 q79
 have h1:=hg.key
 have h2:=hg.kind
 rw[Ww]
 (repeat' (first|exact h _|refine Vs (by omega) fun _=> ?_|refine z3e fun _=> ?_|refine w0f fun _=> ?_|refine z47 hg.cond fun _=> ?_|assumption|(unfold InI;omega)|omega|refine Cnd.mk (fun _=> ?_) fun _=> ?_|refine⟨?_,?_⟩|intro _))
theorem j0d{l:List Seg}{K:Int->Prop}(hl: ∀g∈l,SegS g)(h: ∀r,K r):q10 l K:=by
 unfold q10 q6i
 refine fun _=>Cnd.mk (fun _=>h _) fun _=> ?_
 refine Lp1.ind (fun (i:Int)=>0<=i/\i<=l.length) (fun (i:Int)=>(l.length - i).toNat) ?_ ⟨by omega,by omega⟩
 rintro i ⟨i0,i1⟩ _
 refine Cnd.mk (fun hc=>⟨by omega,fun y hy=> ?_⟩) fun _=>h _
 dsimp only;rw[Ww]
 refine j2v (hl y (getm hy)) fun _=> ?_
 (repeat' (first|exact h _|assumption|(unfold InI;omega)|omega|refine Cnd.mk (fun _=> ?_) fun _=> ?_|refine⟨?_,?_⟩|intro _))
theorem z6f{f:Flg}{K:Int->Prop}(hf: ∀v∈f.variations,ValS v)(h: ∀r,K r):Rn f K:=by
 unfold Rn q2z
 have hv: ∀v∈f.variations,v.text.size<=1000:=fun v hv=>by have:=(hf v hv).txt;omega
 (repeat' (first|exact h _|(refine z9i (hv _ (getm (by assumption))) fun _=> ?_)|(refine Lp1.ind (fun (i:Int)=>0<=i/\i<=f.variations.length) (fun (i:Int)=>(f.variations.length - i).toNat) (fun i hi=> ?_) ⟨by omega,by omega⟩)|assumption|(unfold InI;omega)|omega|refine Cnd.mk (fun _=> ?_) fun _=> ?_|refine⟨?_,?_⟩|intro _))
theorem z1y{l:List Prq}{K:Int->Prop}(hl: ∀q∈l,q.flag.size<=100)(h: ∀r,K r):V0 l K:=by
 unfold V0 Rp
 refine fun _=>Cnd.mk (fun _=>h _) fun _=> ?_
 refine Lp1.ind (fun (i:Int)=>0<=i/\i<=l.length) (fun (i:Int)=>(l.length - i).toNat) ?_ ⟨by omega,by omega⟩
 rintro i ⟨i0,i1⟩ _
 refine Cnd.mk (fun hc=>⟨by omega,fun y hy=>Vs (by have:=hl y (getm hy);omega) fun _=> ?_⟩) fun _=>h _
 (repeat' (first|exact h _|assumption|(unfold InI;omega)|omega|refine Cnd.mk (fun _=> ?_) fun _=> ?_|refine⟨?_,?_⟩|intro _))
theorem j2w{l:List Tgt}{n:Int}{K:Int->Prop}(hl: ∀t∈l,t.kind.size<=100)(h: ∀r,K r):q32 l n K:=by
 unfold q32 q8a
 refine fun _=>Cnd.mk (fun _=>h _) fun _=> ?_
 refine Lp1.ind (fun (i:Int)=>0<=i/\i<=l.length) (fun (i:Int)=>(l.length - i).toNat) ?_ ⟨by omega,by omega⟩
 rintro i ⟨i0,i1⟩ _
 refine Cnd.mk (fun hc=>⟨by omega,fun y hy=>Vs (by have:=hl y (getm hy);omega) fun _=> ?_⟩) fun _=>h _
 (repeat' (first|exact h _|refine z3e fun _=> ?_|assumption|(unfold InI;omega)|omega|refine Cnd.mk (fun _=> ?_) fun _=> ?_|refine⟨?_,?_⟩|intro _))
theorem z9j{m n:Int}{s:Srv}{K:Int->Prop}(hs:SrvS m s)(h: ∀r,K r):q5k s n K:=by
 unfold q5k z4d
 have h1:=hs.kind
 have h2:=hs.by_
 (repeat' (first|exact h _|refine Vs (by omega) fun _=> ?_|refine Hq fun _=> ?_|refine z9e fun _ _ _=> ?_|assumption|(unfold InI;omega)|omega|refine Cnd.mk (fun _=> ?_) fun _=> ?_|refine⟨?_,?_⟩|intro _))
theorem j7l{m n:Int}{l:List Rul}{K:Int->Prop}(hl: ∀r∈l,RulS m r)(h: ∀r,K r):q9v l n K:=by
 unfold q9v z4e
 refine fun _=>Cnd.mk (fun _=>h _) fun _=> ?_
 refine Lp1.ind (fun (i:Int)=>0<=i/\i<=l.length) (fun (i:Int)=>(l.length - i).toNat) ?_ ⟨by omega,by omega⟩
 rintro i ⟨i0,i1⟩ _
 refine Cnd.mk (fun hc=>⟨by omega,fun y hy=>Vs (by have:=(hl y (getm hy)).name;omega) fun _=>Cnd.mk (fun _=> ?_) fun _=>h _⟩) fun _=>h _
 refine Lp1.ind (fun (j:Int)=>0<=j/\j<=i) (fun (j:Int)=>(i - j).toNat) ?_ ⟨by omega,by omega⟩
 rintro j ⟨j0,j1⟩
 refine Cnd.mk (fun hc=>⟨by omega,fun y hy=>⟨by omega,fun z hz=>Cnd.mk (fun _=>h _) fun _=>⟨by unfold InI;omega,⟨by omega,by omega⟩,by omega⟩⟩⟩) fun _=>⟨by omega,fun y hy=> ?_⟩
 dsimp only;rw[Ww]
 refine z47 (hl y (getm hy)).cond fun _=>Cnd.mk (fun _=>⟨by omega,fun z hz=>z9j (hl z (getm hz)).serve fun _=> ?_⟩) fun _=>h _
 (repeat' (first|exact h _|assumption|(unfold InI;omega)|omega|refine Cnd.mk (fun _=> ?_) fun _=> ?_|refine⟨?_,?_⟩|intro _))
theorem w0l{f:Flg}{K:Int->Prop}(hf:FlgS f)(h: ∀r,K r):z2v f K:=by
 unfold z2v z75
 have h1:=hf.key
 (repeat' (first|exact h _|refine Vs (by omega) fun _=> ?_|refine z6f hf.vals fun _=> ?_|refine z1y hf.needs fun _=> ?_|refine j2w hf.tgts fun _=> ?_|refine j7l hf.rules fun _=> ?_|refine z9j hf.dflt fun _=> ?_|assumption|(unfold InI;omega)|omega|refine Cnd.mk (fun _=> ?_) fun _=> ?_|refine⟨?_,?_⟩|intro _))
theorem j7m{l:List Flg}{K:Int->Prop}(hl: ∀f∈l,FlgS f)(h: ∀r,K r):q9w l K:=by
 unfold q9w z4f
 refine fun _=>Cnd.mk (fun _=>h _) fun _=> ?_
 refine Lp1.ind (fun (i:Int)=>0<=i/\i<=l.length) (fun (i:Int)=>(l.length - i).toNat) ?_ ⟨by omega,by omega⟩
 rintro i ⟨i0,i1⟩ _
 refine Cnd.mk (fun hc=>⟨by omega,fun y hy=>w0l (hl y (getm hy)) fun _=> ?_⟩) fun _=>h _
 (repeat' (first|exact h _|assumption|(unfold InI;omega)|omega|refine Cnd.mk (fun _=> ?_) fun _=> ?_|refine⟨?_,?_⟩|intro _))
theorem j7n{l:Lay_}{K:Int->Prop}(hl:LayS l)(h: ∀r,K r):q9x l K:=by
 unfold q9x z4g
 have h1:=hl.key
 have h2:=hl.kind
 (repeat' (first|exact h _|refine Vs (by omega) fun _=> ?_|refine Hq fun _=> ?_|(refine Lp1.ind (fun (i:Int)=>0<=i/\i<=l.cooling.length) (fun (i:Int)=>(l.cooling.length - i).toNat) (fun i hi=> ?_) ⟨by omega,by omega⟩)|assumption|(unfold InI;omega)|omega|refine Cnd.mk (fun _=> ?_) fun _=> ?_|refine⟨?_,?_⟩|intro _))
theorem j5b{l:List Lay_}{K:Int->Prop}(hl: ∀f∈l,LayS f)(h: ∀r,K r):q6j l K:=by
 unfold q6j z1d
 refine fun _=>Cnd.mk (fun _=>h _) fun _=> ?_
 refine Lp1.ind (fun (i:Int)=>0<=i/\i<=l.length) (fun (i:Int)=>(l.length - i).toNat) ?_ ⟨by omega,by omega⟩
 rintro i ⟨i0,i1⟩ _
 refine Cnd.mk (fun hc=>⟨by omega,fun y hy=>j7n (hl y (getm hy)) fun _=> ?_⟩) fun _=>h _
 (repeat' (first|exact h _|assumption|(unfold InI;omega)|omega|refine Cnd.mk (fun _=> ?_) fun _=> ?_|refine⟨?_,?_⟩|intro _))
theorem z6g{x:Exper}{K:Int->Prop}(hx:ExpS x)(h: ∀r,K r):Rq x K:=by
 unfold Rq q21
 have h1:=hx.key
 have h2:=hx.layer
 have h3:=hx.flag
 rw[Ww]
 (repeat' (first|exact h _|refine Vs (by omega) fun _=> ?_|refine Hq fun _=> ?_|refine j7g fun _ _ _=> ?_|refine z9e fun _ _ _=> ?_|refine z47 hx.cond fun _=> ?_|assumption|(unfold InI;omega)|omega|refine Cnd.mk (fun _=> ?_) fun _=> ?_|refine⟨?_,?_⟩|intro _))
theorem z48{l:List Exper}{K:Int->Prop}(hl: ∀f∈l,ExpS f)(h: ∀r,K r):Hc l K:=by
 unfold Hc q1c
 refine fun _=>Cnd.mk (fun _=>h _) fun _=> ?_
 refine Lp1.ind (fun (i:Int)=>0<=i/\i<=l.length) (fun (i:Int)=>(l.length - i).toNat) ?_ ⟨by omega,by omega⟩
 rintro i ⟨i0,i1⟩ _
 refine Cnd.mk (fun hc=>⟨by omega,fun y hy=> ?_⟩) fun _=>h _
 dsimp only;rw[Ww]
 refine z6g (hl y (getm hy)) fun _=> ?_
 (repeat' (first|exact h _|assumption|(unfold InI;omega)|omega|refine Cnd.mk (fun _=> ?_) fun _=> ?_|refine⟨?_,?_⟩|intro _))
theorem z49{v:Envt}{K:Int->Prop}(hv:EnvS v)(h: ∀r,K r):Hd v K:=by
 unfold Hd q1d
 refine j0b (show v.settings.holdoutKind.size<=1000 by have:=hv.hkind;omega) fun _=>Cnd.mk (fun _=>j0c (fun d hd=>by have:=hv.attrs d hd;omega) fun _=> ?_) fun _=>h _
 (repeat' (first|exact h _|refine j0d hv.segs fun _=> ?_|refine j7m hv.flags fun _=> ?_|refine j5b hv.layers fun _=> ?_|refine z48 hv.exps fun _=> ?_|assumption|(unfold InI;omega)|omega|refine Cnd.mk (fun _=> ?_) fun _=> ?_|refine⟨?_,?_⟩|intro _))
end Go.En
end
noncomputable section
set_option maxRecDepth 100000
namespace Go.Dg
open Go.Fl
abbrev Nd:=Int×Int×Int
def nd(ns:List Nd)(id:Int):Nd:=ns.getD id.toNat (0,0,0)
def top(ns:List Nd)(id:Int):Int:=if id<0 then 1001 else (nd ns id).1
def Ok(ns:List Nd)(id:Int):Prop:= -1002<id/\id<ns.length
def evF(ns:List Nd)(h:Int->Bool):Nat->Int->Int
 |0,id=> -1 - id
 |n+1,id=>if id<0 then -1 - id else evF ns h n (if h (nd ns id).1=true then (nd ns id).2.1 else (nd ns id).2.2)
def ev(ns:List Nd)(h:Int->Bool)(id:Int):Int:=evF ns h (id.toNat+1) id
structure Nod(ns:List Nd):Prop where
 nod: ∀i:Int,0<=i->i<ns.length->0<=(nd ns i).1/\(nd ns i).1<=1000/\ -1002<(nd ns i).2.1/\(nd ns i).2.1<i/\ -1002<(nd ns i).2.2/\(nd ns i).2.2<i/\
  (nd ns i).2.1≠(nd ns i).2.2/\(nd ns i).1<top ns (nd ns i).2.1/\(nd ns i).1<top ns (nd ns i).2.2
 one: ∀i j:Int,0<=i->i<ns.length->0<=j->j<ns.length->nd ns i=nd ns j->i=j
structure Inv(ns:List Nd)(ids:Nd->Option Int):Prop where
 nod:Nod ns
 ids: ∀n (id:Int),ids n=some id↔0<=id/\id<ns.length/\nd ns id=n
theorem Ba{ns:List Nd}{h:Int->Bool}{id:Int}(hi:id<0):ev ns h id= -1 - id:=by
 simp[ev,evF,hi]
theorem j8w{ns:List Nd}(hN:Nod ns){h:Int->Bool}: ∀(n m:Nat) (id:Int),id<ns.length->id<n->id<m->evF ns h n id=evF ns h m id:=by
 intro n
 induction n with
 |zero=>
  intro m id _ h1 _
  have:id<0:=by omega
  cases m with
  |zero=>rfl
  |succ m=>simp[evF,this]
 |succ n ih=>
  intro m id hl h1 h2
  cases m with
  |zero=>
   have:id<0:=by omega
   simp[evF,this]
  |succ m=>
   simp only[evF]
   by_cases hi:id<0
   ·simp[hi]
   ·simp only[hi,if_false]
    obtain⟨_,_,_,a,_,b,_⟩:=hN.nod id (by omega) hl
    cases ht:h (nd ns id).1 with
    |true=>simp only[if_true];exact ih m _ (by omega) (by omega) (by omega)
    |false=>simp only[Bool.false_eq_true,if_false];exact ih m _ (by omega) (by omega) (by omega)
theorem q3t{ns:List Nd}(hN:Nod ns){h:Int->Bool}{id:Int}(hi:0<=id)(hl:id<ns.length):
  ev ns h id=if h (nd ns id).1=true then ev ns h (nd ns id).2.1 else ev ns h (nd ns id).2.2:=by
 obtain⟨_,_,_,a,_,b,_⟩:=hN.nod id hi hl
 have hn: ¬id<0:=by omega
 show evF ns h (id.toNat+1) id=_
 simp only[evF,hn,if_false]
 cases ht:h (nd ns id).1 with
 |true=>simp only[if_true];exact j8w hN _ _ _ (by omega) (by omega) (by omega)
 |false=>simp only[Bool.false_eq_true,if_false];exact j8w hN _ _ _ (by omega) (by omega) (by omega)
theorem j1d{ns:List Nd}(hN:Nod ns){id:Int}(hl:id<ns.length):0<=top ns id/\top ns id<=1001/\(0<=id->top ns id<=1000):=by
 by_cases hi:id<0
 ·simp only[top,hi,if_true];omega
 ·obtain⟨a,b,_⟩:=hN.nod id (by omega) hl
  simp only[top,hi,if_false];omega
theorem ind{ns:List Nd}(hN:Nod ns){p:Int->Prop}(h0: ∀id:Int, -1002<id->id<0->p id)
  (h1: ∀id:Int,0<=id->id<ns.length->p (nd ns id).2.1->p (nd ns id).2.2->p id){id:Int}(hi:Ok ns id):p id:=by
 have key: ∀(k:Nat) (id:Int),id<k->Ok ns id->p id:=by
  intro k
  induction k with
  |zero=>exact fun id hk hi=>h0 id hi.1 hk
  |succ k ih=>
   intro id hk hi
   by_cases hn:id<0
   ·exact h0 id hi.1 hn
   ·obtain⟨_,_,a,b,c,d,_⟩:=hN.nod id (by omega) hi.2
    have:=hi.2
    exact h1 id (by omega) hi.2 (ih _ (by omega) ⟨a,by omega⟩) (ih _ (by omega) ⟨c,by omega⟩)
 exact key (id.toNat+1) id (by omega) hi
theorem v2g{ns:List Nd}(hN:Nod ns){h h':Int->Bool}{id:Int}(hi:Ok ns id):(∀t,top ns id<=t->h t=h' t)->ev ns h id=ev ns h' id:=by
 refine ind hN (p:=fun id=>(∀t,top ns id<=t->h t=h' t)->ev ns h id=ev ns h' id) ?_ ?_ hi
 ·intro id _ hn _
  rw[Ba hn,Ba hn]
 ·intro id hp hl ih1 ih2 he
  obtain⟨_,_,_,_,_,_,_,a,b⟩:=hN.nod id hp hl
  have ht:top ns id=(nd ns id).1:=by simp only[top,if_neg (show ¬id<0 by omega)]
  rw[q3t hN hp hl,q3t hN hp hl,←he _ (by omega),ih1 fun t h=>he t (by omega),ih2 fun t h=>he t (by omega)]
def setB(h:Int->Bool)(t:Int)(b:Bool):Int->Bool:=fun x=>if x=t then b else h x
theorem j1e{ns:List Nd}(hN:Nod ns){h:Int->Bool}{t:Int}{b:Bool}{id:Int}(hi:Ok ns id)(ht:t<top ns id):ev ns (setB h t b) id=ev ns h id:=
 v2g hN hi fun x hx=>by simp only[setB,if_neg (show ¬x=t by omega)]
theorem j8x{ns:List Nd}(hN:Nod ns){h:Int->Bool}{id:Int}(hi:0<=id)(hl:id<ns.length):ev ns (setB h (nd ns id).1 true) id=ev ns h (nd ns id).2.1:=by
 obtain⟨_,_,c,d,_,_,_,a,b⟩:=hN.nod id hi hl
 rw[q3t hN hi hl]
 simp only[setB,if_true]
 exact j1e hN ⟨c,by omega⟩ a
theorem w64{ns:List Nd}(hN:Nod ns){h:Int->Bool}{id:Int}(hi:0<=id)(hl:id<ns.length):ev ns (setB h (nd ns id).1 false) id=ev ns h (nd ns id).2.2:=by
 obtain⟨_,_,_,_,c,d,_,a,b⟩:=hN.nod id hi hl
 rw[q3t hN hi hl]
 simp only[setB,if_true]
 exact j1e hN ⟨c,by omega⟩ b
theorem canon{ns:List Nd}(hN:Nod ns): ∀{a b:Int},Ok ns a->Ok ns b->(∀h,ev ns h a=ev ns h b)->a=b:=by
 have key: ∀(k:Nat) (a b:Int),a<k->b<k->Ok ns a->Ok ns b->(∀h,ev ns h a=ev ns h b)->a=b:=by
  intro k
  induction k with
  |zero=>
   intro a b hk hk' _ _ he
   have:=he fun _=>true
   rw[Ba (by omega),Ba (by omega)] at this
   omega
  |succ k ih=>
   intro a b hk hk' ha hb he
   have up: ∀a b:Int,a<((k+1:Nat):Int)->b<((k+1:Nat):Int)->Ok ns a->Ok ns b->(∀h,ev ns h a=ev ns h b)->0<=a->top ns a<top ns b->False:=by
    intro a b hk hk' ha hb he hp ht
    obtain⟨_,_,c1,c2,c3,c4,ne,a1,a2⟩:=hN.nod a hp ha.2
    have h1:=ha.2
    have e:top ns a=(nd ns a).1:=by simp only[top,if_neg (show ¬a<0 by omega)]
    refine ne (ih _ _ (by omega) (by omega) ⟨c1,by omega⟩ ⟨c3,by omega⟩ fun h=> ?_)
    rw[←j8x hN hp ha.2,←w64 hN hp ha.2,he,he,j1e hN hb (by omega),j1e hN hb (by omega)]
   by_cases ha0:a<0
   ·by_cases hb0:b<0
    ·have:=he fun _=>true
     rw[Ba ha0,Ba hb0] at this
     omega
    ·exact absurd (by
      have:=(j1d hN hb.2).2.2 (by omega)
      have h2:top ns a=1001:=by simp only[top,if_pos ha0]
      omega) (fun h=>up b a hk' hk hb ha (fun h=>(he h).symm) (by omega) h)
   ·by_cases hb0:b<0
    ·exact absurd (by
      have:=(j1d hN ha.2).2.2 (by omega)
      have h2:top ns b=1001:=by simp only[top,if_pos hb0]
      omega) (fun h=>up a b hk hk' ha hb he (by omega) h)
    ·have h1:=ha.2
     have h2:=hb.2
     rcases Int.lt_trichotomy (top ns a) (top ns b) with h|h|h
     ·exact (up a b hk hk' ha hb he (by omega) h).elim
     ·have ea:top ns a=(nd ns a).1:=by simp only[top,if_neg ha0]
      have eb:top ns b=(nd ns b).1:=by simp only[top,if_neg hb0]
      have et:(nd ns a).1=(nd ns b).1:=by omega
      obtain⟨_,_,c1,c2,c3,c4,_⟩:=hN.nod a (by omega) ha.2
      obtain⟨_,_,d1,d2,d3,d4,_⟩:=hN.nod b (by omega) hb.2
      have ey:(nd ns a).2.1=(nd ns b).2.1:=ih _ _ (by omega) (by omega) ⟨c1,by omega⟩ ⟨d1,by omega⟩ fun h=>by
       rw[←j8x hN (by omega) ha.2,←j8x hN (by omega) hb.2,←et,he]
      have en:(nd ns a).2.2=(nd ns b).2.2:=ih _ _ (by omega) (by omega) ⟨c3,by omega⟩ ⟨d3,by omega⟩ fun h=>by
       rw[←w64 hN (by omega) ha.2,←w64 hN (by omega) hb.2,←et,he]
      exact hN.one a b (by omega) ha.2 (by omega) hb.2 (Prod.ext et (Prod.ext ey en))
     ·exact (up b a hk' hk hb ha (fun h=>(he h).symm) (by omega) h).elim
 exact fun {a b} ha hb he=>key (ns.length+1) a b (by have:=ha.2;omega) (by have:=hb.2;omega) ha hb he
theorem v2h{ns ms:List Nd}{id:Int}(h1:id<ns.length)(h0:0<=id):nd (ns++ms) id=nd ns id:=by
 simp only[nd,List.getD_eq_getElem?_getD]
 rw[List.getElem?_append_left (by omega)]
theorem q85{ns ns':List Nd}(hp:ns<+:ns'){id:Int}(h1:id<ns.length)(h0:0<=id):nd ns' id=nd ns id:=by
 obtain⟨ms,rfl⟩:=hp
 exact v2h h1 h0
theorem q60{ns ns':List Nd}(hp:ns<+:ns'){id:Int}(h1:id<ns.length):top ns' id=top ns id:=by
 by_cases h:id<0
 ·simp only[top,if_pos h]
 ·simp only[top,if_neg h,q85 hp h1 (by omega)]
theorem Ok.pre{ns ns':List Nd}(hp:ns<+:ns'){id:Int}(h:Ok ns id):Ok ns' id:=by
 have:=hp.length_le
 exact⟨h.1,by have:=h.2;omega⟩
theorem q07{ns ns':List Nd}(hN:Nod ns)(hN':Nod ns')(hp:ns<+:ns'){h:Int->Bool}{id:Int}(hi:Ok ns id):ev ns' h id=ev ns h id:=by
 refine ind hN (p:=fun id=>ev ns' h id=ev ns h id) ?_ ?_ hi
 ·intro id _ hn
  rw[Ba hn,Ba hn]
 ·intro id h0 hl i1 i2
  have hl':=hp.length_le
  rw[q3t hN h0 hl,q3t hN' h0 (by omega),q85 hp hl h0,i1,i2]
def Tb(ns:List Nd)(b:Int):Prop:= ∀i:Int,0<=i->i<ns.length->(nd ns i).1<b
theorem q86{ns:List Nd}{n:Nd}:nd (ns++[n]) ns.length=n:=by
 simp[nd,List.getD_eq_getElem?_getD]
theorem Nod.add{ns:List Nd}(hN:Nod ns){t y n:Int}(ht:0<=t)(ht':t<=1000)(hy:Ok ns y)(hn:Ok ns n)(hne:y≠n)(h1:t<top ns y)(h2:t<top ns n)
  (hnew: ∀i:Int,0<=i->i<ns.length->nd ns i≠(t,y,n)):Nod (ns++[(t,y,n)]):=by
 have hp:ns<+:ns++[(t,y,n)]:=List.prefix_append _ _
 have hlen:((ns++[(t,y,n)]).length:Int)=ns.length+1:=by simp
 refine⟨fun i h0 hl=> ?_,fun i j h0 hl k0 kl he=> ?_⟩
 ·by_cases hi:i<ns.length
  ·rw[q85 hp hi h0]
   obtain⟨a1,a2,a3,a4,a5,a6,a7,a8,a9⟩:=hN.nod i h0 hi
   rw[q60 hp (by omega),q60 hp (by omega)]
   exact⟨a1,a2,a3,a4,a5,a6,a7,a8,a9⟩
  ·have:i=ns.length:=by omega
   subst this
   rw[q86]
   have hy2:=hy.2
   have hn2:=hn.2
   rw[q60 hp hy2,q60 hp hn2]
   exact⟨ht,ht',hy.1,hy2,hn.1,hn2,hne,h1,h2⟩
 ·by_cases hi:i<ns.length
  ·by_cases hj:j<ns.length
   ·rw[q85 hp hi h0,q85 hp hj k0] at he
    exact hN.one i j h0 hi k0 hj he
   ·have:j=ns.length:=by omega
    subst this
    rw[q86,q85 hp hi h0] at he
    exact absurd he (hnew i h0 hi)
  ·have:i=ns.length:=by omega
   subst this
   by_cases hj:j<ns.length
   ·rw[q86,q85 hp hj k0] at he
    exact absurd he.symm (hnew j k0 hj)
   ·omega
theorem Inv.add{ns:List Nd}{ids:Nd->Option Int}(hI:Inv ns ids){t y n:Int}(ht:0<=t)(ht':t<=1000)(hy:Ok ns y)(hn:Ok ns n)(hne:y≠n)(h1:t<top ns y)(h2:t<top ns n)
  (hnew:ids (t,y,n)=none):Inv (ns++[(t,y,n)]) (put ids (t,y,n) ns.length):=by
 have hnew': ∀i:Int,0<=i->i<ns.length->nd ns i≠(t,y,n):=fun i h0 hl he=>by
  rw[(hI.ids _ i).2 ⟨h0,hl,he⟩] at hnew
  cases hnew
 have hp:ns<+:ns++[(t,y,n)]:=List.prefix_append _ _
 have hlen:((ns++[(t,y,n)]).length:Int)=ns.length+1:=by simp
 refine⟨hI.nod.add ht ht' hy hn hne h1 h2 hnew',fun m id=> ?_⟩
 simp only[put]
 by_cases hm:m=(t,y,n)
 ·subst hm
  simp only[if_true,Option.some.injEq]
  constructor
  ·intro h
   subst h
   exact⟨by omega,by omega,q86⟩
  ·rintro⟨a,b,c⟩
   by_cases hid:id<ns.length
   ·rw[q85 hp hid a] at c
    exact absurd c (hnew' id a hid)
   ·omega
 ·simp only[if_neg hm]
  rw[hI.ids]
  constructor
  ·rintro⟨a,b,c⟩
   exact⟨a,by omega,by rw[q85 hp b a];exact c⟩
  ·rintro⟨a,b,c⟩
   by_cases hid:id<ns.length
   ·exact⟨a,hid,by rw[q85 hp hid a] at c;exact c⟩
   ·have:id=ns.length:=by omega
    subst this
    rw[q86] at c
    exact absurd c.symm hm
def z5q(ns:List Nd)(t y n:Int):Prop:=0<=t/\t<=1000/\Ok ns y/\Ok ns n/\t<top ns y/\t<top ns n
instance (ns:List Nd)(id:Int):Decidable (Ok ns id):=by unfold Ok;infer_instance
instance (ns:List Nd)(t y n:Int):Decidable (z5q ns t y n):=by unfold z5q;infer_instance
def node(ns:List Nd)(ids:Nd->Option Int)(full:Bool)(t y n:Int):Int×List Nd×(Nd->Option Int)×Bool:=
 if z5q ns t y n then
  if y=n then (y,ns,ids,full)
  else match ids (t,y,n) with
   |some id=>(id,ns,ids,full)
   |none=>if 4000<=ns.length then (-1002,ns,ids,true) else (ns.length,ns++[(t,y,n)],put ids (t,y,n) ns.length,full)
 else (-1002,ns,ids,full)
structure Grew(ns:List Nd)(ids:Nd->Option Int)(full:Bool)(k:Nat)(ns':List Nd)(ids':Nd->Option Int)(full':Bool):Prop where
 inv:Inv ns' ids'
 pre:ns<+:ns'
 len:ns'.length<=4000
 room:full'=full∨ns'.length=4000
 most:ns'.length<=ns.length+k
theorem Grew.refl{ns:List Nd}{ids:Nd->Option Int}{full:Bool}(hI:Inv ns ids)(hl:ns.length<=4000)(k:Nat):Grew ns ids full k ns ids full:=
 ⟨hI,List.prefix_refl _,hl,.inl rfl,by omega⟩
theorem Grew.trans{ns ns' ns'':List Nd}{ids ids' ids'':Nd->Option Int}{f f' f'':Bool}{k k' m:Nat}(h:Grew ns ids f k ns' ids' f')(h':Grew ns' ids' f' k' ns'' ids'' f'')(hm:k+k'<=m):
  Grew ns ids f m ns'' ids'' f'':=by
 refine⟨h'.inv,h.pre.trans h'.pre,h'.len,?_,?_⟩
 ·rcases h'.room with e|e
  ·rcases h.room with e'|e'
   ·exact .inl (e.trans e')
   ·have:=h'.pre.length_le
    have:=h'.len
    exact .inr (by omega)
  ·exact .inr e
 ·have:=h.most
  have:=h'.most
  omega
theorem w39{ns:List Nd}{ids:Nd->Option Int}{full:Bool}(hI:Inv ns ids)(hl:ns.length<=4000){t y n:Int}(hO:z5q ns t y n){r:Int}{ns':List Nd}{ids':Nd->Option Int}{full':Bool}
  (he:node ns ids full t y n=(r,ns',ids',full')):Grew ns ids full 1 ns' ids' full'/\(∀b,Tb ns b->t<b->Tb ns' b)/\
   ((r= -1002/\ns'.length=4000/\full'=true)∨(full'=full/\Ok ns' r/\t<=top ns' r/\ ∀h,ev ns' h r=if h t=true then ev ns h y else ev ns h n)):=by
 obtain⟨h1,h2,hy,hn,h3,h4⟩:=hO
 rw[node,if_pos ⟨h1,h2,hy,hn,h3,h4⟩] at he
 by_cases hyn:y=n
 ·rw[if_pos hyn] at he
  cases he
  subst hyn
  exact⟨.refl hI hl 1,fun b h _=>h,.inr ⟨rfl,hy,by omega,fun h=>by simp⟩⟩
 ·rw[if_neg hyn] at he
  cases hid:ids (t,y,n) with
  |some id=>
   rw[hid] at he
   cases he
   obtain⟨a,b,c⟩:=(hI.ids _ _).1 hid
   refine⟨.refl hI hl 1,fun b h _=>h,.inr ⟨rfl,⟨by omega,b⟩,?_,fun h=> ?_⟩⟩
   ·simp only[top,if_neg (show ¬r<0 by omega),c];omega
   ·rw[q3t hI.nod a b,c]
  |none=>
   rw[hid] at he
   simp only at he
   by_cases hf:4000<=ns.length
   ·rw[if_pos hf] at he
    cases he
    exact⟨⟨hI,List.prefix_refl _,hl,.inr (by omega),by omega⟩,fun b h _=>h,.inl ⟨rfl,by omega,rfl⟩⟩
   ·rw[if_neg hf] at he
    cases he
    have hp:ns<+:ns++[(t,y,n)]:=List.prefix_append _ _
    have hI':=hI.add h1 h2 hy hn hyn h3 h4 hid
    have hlen:((ns++[(t,y,n)]).length:Int)=ns.length+1:=by simp
    refine⟨⟨hI',hp,by simp;omega,.inl rfl,by simp⟩,fun b hb ht i h0 hl=> ?_,.inr ⟨rfl,⟨by omega,by omega⟩,?_,fun h=> ?_⟩⟩
    ·by_cases hi:i<ns.length
     ·rw[q85 hp hi h0];exact hb i h0 hi
     ·have:i=ns.length:=by omega
      subst this
      rw[q86];exact ht
    ·simp only[top,if_neg (show ¬(ns.length:Int)<0 by omega),q86];omega
    ·rw[q3t hI'.nod (by omega) (by omega),q86]
     simp only
     rw[q07 hI.nod hI'.nod hp hy,q07 hI.nod hI'.nod hp hn]
theorem j8y{ns:List Nd}{ids:Nd->Option Int}{full:Bool}{t y n:Int}(hO: ¬z5q ns t y n):node ns ids full t y n=(-1002,ns,ids,full):=by
 rw[node,if_neg hO]
def mtop(ns:List Nd)(f g h:Int):Int:=min (min (top ns f) (top ns g)) (top ns h)
def Cse(ns:List Nd)(f g h r:Int):Prop:= ∀v,ev ns v r=if ev ns v f=1 then ev ns v g else ev ns v h
def Cond(ns:List Nd)(f:Int):Prop:= ∀v,ev ns v f=0∨ev ns v f=1
def sd(ns:List Nd)(x t:Int):Int×Int:=if top ns x=t then ((nd ns x).2.1,(nd ns x).2.2) else (x,x)
theorem v0f{ns:List Nd}(hN:Nod ns){x t:Int}(hx:Ok ns x)(ht:t<=1000)(hl:t<=top ns x):
  Ok ns (sd ns x t).1/\Ok ns (sd ns x t).2/\t<top ns (sd ns x t).1/\t<top ns (sd ns x t).2/\ ∀v,ev ns v x=if v t=true then ev ns v (sd ns x t).1 else ev ns v (sd ns x t).2:=by
 unfold sd
 by_cases he:top ns x=t
 ·rw[if_pos he]
  have h0: ¬x<0:=fun hn=>by simp only[top,if_pos hn] at he;omega
  have hx2:=hx.2
  obtain⟨_,_,a,b,c,d,_,e,g⟩:=hN.nod x (by omega) hx.2
  have ht':(nd ns x).1=t:=by simp only[top,if_neg h0] at he;exact he
  refine⟨⟨a,by omega⟩,⟨c,by omega⟩,by rw[←ht'];exact e,by rw[←ht'];exact g,fun v=> ?_⟩
  rw[q3t hN (by omega) hx.2,ht']
 ·rw[if_neg he]
  refine⟨hx,hx,by show t<top ns x;omega,by show t<top ns x;omega,fun v=>by simp⟩
def Kn(ns:List Nd)(m:Nd->Option Int):Prop:= ∀f g h id,m (f,g,h)=some id->(id= -1002/\ns.length=4000)∨(Ok ns f/\Ok ns g/\Ok ns h/\Ok ns id/\Cse ns f g h id/\mtop ns f g h<=top ns id)
theorem Kn.nil(ns:List Nd):Kn ns fun _=>none:=fun _ _ _ _ h=>by cases h
theorem w4a{ns ns':List Nd}(hp:ns<+:ns'){f g h:Int}(hf:Ok ns f)(hg:Ok ns g)(hh:Ok ns h):mtop ns' f g h=mtop ns f g h:=by
 unfold mtop;rw[q60 hp hf.2,q60 hp hg.2,q60 hp hh.2]
theorem Cse.pre{ns ns':List Nd}(hN:Nod ns)(hN':Nod ns')(hp:ns<+:ns'){f g h r:Int}(hf:Ok ns f)(hg:Ok ns g)(hh:Ok ns h)(hr:Ok ns r)(hs:Cse ns f g h r):Cse ns' f g h r:=fun v=>by
 rw[q07 hN hN' hp hf,q07 hN hN' hp hg,q07 hN hN' hp hh,q07 hN hN' hp hr];exact hs v
theorem Kn.pre{ns ns':List Nd}(hN:Nod ns)(hN':Nod ns')(hp:ns<+:ns')(hl:ns'.length<=4000){m:Nd->Option Int}(hK:Kn ns m):Kn ns' m:=fun f g h id hm=>by
 rcases hK f g h id hm with ⟨h1,h2⟩|⟨h1,h2,h3,h4,h5,h6⟩
 ·have:=hp.length_le
  exact .inl ⟨h1,by omega⟩
 ·exact .inr ⟨h1.pre hp,h2.pre hp,h3.pre hp,h4.pre hp,h5.pre hN hN' hp h1 h2 h3 h4,by rw[w4a hp h1 h2 h3,q60 hp h4.2];exact h6⟩
theorem Kn.put{ns:List Nd}{m:Nd->Option Int}(hK:Kn ns m){f g h r:Int}(hr:(r= -1002/\ns.length=4000)∨(Ok ns f/\Ok ns g/\Ok ns h/\Ok ns r/\Cse ns f g h r/\mtop ns f g h<=top ns r)):Kn ns (put m (f,g,h) r):=fun f' g' h' id hm=>by
 unfold Fl.put at hm
 split at hm
 ·rename_i he
  cases hm
  simp only[Prod.mk.injEq] at he
  obtain⟨rfl,rfl,rfl⟩:=he
  exact hr
 ·exact hK f' g' h' id hm
structure Cho(ns:List Nd)(ids:Nd->Option Int)(full:Bool)(f g h:Int)(r:Int)(ns':List Nd)(ids':Nd->Option Int)(full':Bool):Prop where
 grew:Grew ns ids full 4000 ns' ids' full'
 few: ∀b,Tb ns b->Tb ns' b/\ns'.length+1<=ns.length+2 ^ (b - mtop ns f g h).toNat
 res:(r= -1002/\ns'.length=4000)∨(Ok ns' r/\Cse ns' f g h r/\mtop ns f g h<=top ns' r)
end Go.Dg
end
noncomputable section
set_option maxRecDepth 100000
namespace Go.En
open Go Go.Fl Go.Fx Go.Dg
theorem w4b{ns:List Nd}{id:Int}{y:Nd}(h:ns[id.toNat]? =some y):nd ns id=y:=by
 simp[nd,List.getD_eq_getElem?_getD,h]
theorem z0w{ns:List Nd}{ids:Nd->Option Int}{full:Bool}{id:Int}{K:Bool->List Nd->(Nd->Option Int)->Bool->Prop}(h:K (decide (Ok ns id)) ns ids full):Vg ns ids full id K:=by
 unfold Vg
 refine⟨fun h1 _=> ?_,fun h1=> ?_⟩
 ·have:decide (id<(ns.length:Int))=decide (Ok ns id):=decide_eq_decide.2 ⟨fun a=>⟨h1,a⟩,fun a=>a.2⟩
  rw[this];exact h
 ·have:decide (Ok ns id)=false:=decide_eq_false fun a=>h1 a.1
  rw[this] at h;exact h
theorem q87{ns:List Nd}{ids:Nd->Option Int}{full:Bool}{id:Int}{K:Int->List Nd->(Nd->Option Int)->Bool->Prop}(hi:Ok ns id)(h:K (top ns id) ns ids full):Z9 ns ids full id K:=by
 unfold Z9
 refine⟨fun hn=> ?_,fun hn=>⟨⟨by omega,hi.2⟩,fun y hy=> ?_⟩⟩
 ·simp only[top,if_pos hn] at h;exact h
 ·simp only[top,if_neg hn,w4b hy] at h;exact h
theorem z9k{ns:List Nd}{ids:Nd->Option Int}{full:Bool}{id t:Int}{K:Int->Int->List Nd->(Nd->Option Int)->Bool->Prop}(hi:Ok ns id)(ht:t<=1000)(h:K (sd ns id t).1 (sd ns id t).2 ns ids full):Jq ns ids full id t K:=by
 unfold Jq
 refine q87 hi ⟨fun he=> ?_,fun he=> ?_⟩
 ·have h0: ¬id<0:=fun hn=>by simp only[top,if_pos hn] at he;omega
  refine⟨⟨by omega,hi.2⟩,fun y hy=>⟨⟨by omega,hi.2⟩,fun z hz=> ?_⟩⟩
  rw[hy] at hz
  cases hz
  simp only[sd,if_pos he,w4b hy] at h
  exact h
 ·simp only[sd,if_neg he] at h;exact h
theorem j8z{ns:List Nd}{ids:Nd->Option Int}{full:Bool}{t y n:Int}{K:Int->List Nd->(Nd->Option Int)->Bool->Prop}(hl:ns.length<=4000)
  (h:K (node ns ids full t y n).1 (node ns ids full t y n).2.1 (node ns ids full t y n).2.2.1 (node ns ids full t y n).2.2.2):Zq ns ids full t y n K:=by
 unfold Zq
 by_cases hO:z5q ns t y n
 ·obtain⟨h1,h2,h3,h4,h5,h6⟩:=hO
  refine Cnd.no (by omega) (Cnd.no (by omega) (z0w (Cnd.yes (decide_eq_true h3) (z0w (Cnd.yes (decide_eq_true h4) (q87 h3 (Cnd.no (by omega) (q87 h4 (Cnd.no (by omega) ?_)))))))))
  rw[node,if_pos ⟨h1,h2,h3,h4,h5,h6⟩] at h
  refine⟨fun he=> ?_,fun he=> ?_⟩
  ·rw[if_pos he] at h;exact h
  rw[if_neg he] at h
  cases hid:ids (t,y,n) with
  |some id=>rw[hid] at h;exact Cnd.yes rfl h
  |none=>
   rw[hid] at h
   refine Cnd.no (by simp) fun _=>⟨fun hf=> ?_,fun hf=> ?_⟩
   ·rw[if_pos (by omega)] at h;exact h
   rw[if_neg (by omega)] at h
   have hlen:((ns++[(t,y,n)]).length:Int)=ns.length+1:=by simp
   have e1:((ns++[(t,y,n)]).length:Int) - 1=ns.length:=by omega
   have hs:Sml (ns++[(t,y,n)]).length:=by unfold Sml;simp;omega
   have hi:InI (((ns++[(t,y,n)]).length:Int) - 1):=by constructor<;>omega
   exact fun _=>⟨hs,fun _=>⟨hi,by rw[e1];exact h⟩⟩
 ·rw[j8y hO] at h
  refine⟨fun _=>h,fun h1=>⟨fun _=>h,fun h2=>z0w ⟨fun h3=>z0w ⟨fun h4=>q87 (of_decide_eq_true h3) ⟨fun _=>h,fun h5=>q87 (of_decide_eq_true h4) ⟨fun _=>h,fun h6=> ?_⟩⟩,fun _=>h⟩,fun _=>h⟩⟩⟩
  exact absurd ⟨by omega,by omega,of_decide_eq_true h3,of_decide_eq_true h4,by omega,by omega⟩ hO
theorem j5c{X:List Nd->(Nd->Option Int)->Bool->Int->Int->Int->(Nd->Option Int)->(Int->List Nd->(Nd->Option Int)->Bool->(Nd->Option Int)->Prop)->Prop}{ns:List Nd}{ids:Nd->Option Int}{full:Bool}{f g h:Int}{m:Nd->Option Int}{K:Int->List Nd->(Nd->Option Int)->Bool->(Nd->Option Int)->Prop}(hI:Inv ns ids)(hl:ns.length<=4000)(_:Ok ns f)(hg:Ok ns g)(hh:Ok ns h)(hc:Cond ns f)(hm:Kn ns m)(hn:f<0)
  (hK: ∀r ns' ids' full' m',Cho ns ids full f g h r ns' ids' full'->Kn ns' m'->K r ns' ids' full' m'):W0 Z9 Jq Zq X ns ids full f g h m K:=by
 have hc0:=hc fun _=>true
 rw[Ba hn] at hc0
 have mk: ∀r,((f= -2/\r=g)∨(f= -1/\r=h))->Cho ns ids full f g h r ns ids full:=by
  rintro r hr
  refine⟨.refl hI hl _,fun b hb=>⟨hb,by have:=Nat.two_pow_pos ((b - mtop ns f g h).toNat);omega⟩,.inr ?_⟩
  rcases hr with ⟨h1,rfl⟩|⟨h1,rfl⟩
  ·exact⟨hg,fun v=>by rw[Ba (id:=f) hn,if_pos (by omega)],by unfold mtop;omega⟩
  ·exact⟨hh,fun v=>by rw[Ba (id:=f) hn,if_neg (by omega)],by unfold mtop;omega⟩
 unfold W0
 refine⟨fun he=>hK _ _ _ _ _ (mk g (.inl ⟨he,rfl⟩)) hm,fun he=>⟨fun hgh=> ?_,fun hgh=>⟨fun he'=>hK _ _ _ _ _ (mk h (.inr ⟨he',rfl⟩)) hm,fun he'=>absurd hc0 (by omega)⟩⟩⟩
 exact hK _ _ _ _ _ (mk g (.inr ⟨by omega,hgh⟩)) hm
theorem w0m: ∀(ns:List Nd) (ids:Nd->Option Int) (full:Bool) (f g h:Int) (m:Nd->Option Int) (K:Int->List Nd->(Nd->Option Int)->Bool->(Nd->Option Int)->Prop),Inv ns ids->ns.length<=4000->Ok ns f->Ok ns g->Ok ns h->Cond ns f->Kn ns m->
  (∀r ns' ids' full' m',Cho ns ids full f g h r ns' ids' full'->Kn ns' m'->K r ns' ids' full' m')->U8 ns ids full f g h m K:=by
 intro ns ids full f g h m K hI hl hf hg hh hc hm hK X hX
 have key: ∀(k:Nat) (ns:List Nd) (ids:Nd->Option Int) (full:Bool) (f g h:Int) (m:Nd->Option Int) (K:Int->List Nd->(Nd->Option Int)->Bool->(Nd->Option Int)->Prop),(1001 - mtop ns f g h).toNat<=k->Inv ns ids->ns.length<=4000->Ok ns f->Ok ns g->Ok ns h->Cond ns f->Kn ns m->
   (∀r ns' ids' full' m',Cho ns ids full f g h r ns' ids' full'->Kn ns' m'->K r ns' ids' full' m')->X ns ids full f g h m K:=by
  intro k
  induction k with
  |zero=>
   intro ns ids full f g h m K hk hI hl hf hg hh hc hm hK
   refine hX _ _ _ _ _ _ _ _ ?_
   have ht:=(j1d hI.nod hf.2)
   have hn:f<0:=by
    refine Int.not_le.1 fun h0=> ?_
    have:=ht.2.2 h0
    unfold mtop at hk;omega
   exact j5c hI hl hf hg hh hc hm hn hK
  |succ k ih=>
   intro ns ids full f g h m K hk hI hl hf hg hh hc hm hK
   refine hX _ _ _ _ _ _ _ _ ?_
   by_cases hn:f<0
   ·exact j5c hI hl hf hg hh hc hm hn hK
   have same: ∀r,(g=h/\r=g)->Cho ns ids full f g h r ns ids full:=by
    rintro r ⟨rfl,rfl⟩
    exact⟨.refl hI hl _,fun b hb=>⟨hb,by have:=Nat.two_pow_pos ((b - mtop ns f r r).toNat);omega⟩,.inr ⟨hg,fun v=>by simp,by unfold mtop;omega⟩⟩
   unfold W0
   refine Cnd.no (by omega) ⟨fun hgh=>hK _ _ _ _ _ (same g ⟨hgh,rfl⟩) hm,fun hgh=>Cnd.no (by omega) ⟨fun hs=> ?_,fun _=> ?_⟩⟩
   ·obtain⟨id,hid⟩:=Option.isSome_iff_exists.1 hs
    rw[hid]
    refine hK _ _ _ _ _ ⟨.refl hI hl _,fun b hb=>⟨hb,by have:=Nat.two_pow_pos ((b - mtop ns f g h).toNat);omega⟩,?_⟩ hm
    rcases hm f g h id hid with h1|⟨_,_,_,h4,h5,h6⟩
    ·exact .inl h1
    ·exact .inr ⟨h4,h5,h6⟩
   have t0:=j1d hI.nod hf.2
   have t1:=j1d hI.nod hg.2
   have t2:=j1d hI.nod hh.2
   have hft:=t0.2.2 (by omega)
   have ht:mtop ns f g h<=1000:=by unfold mtop;omega
   have ht0:0<=mtop ns f g h:=by unfold mtop;omega
   refine q87 hf (q87 hg (q87 hh ?_))
   rw[show min (min (top ns f) (top ns g)) (top ns h)=mtop ns f g h from rfl]
   refine z9k hf ht (z9k hg ht (z9k hh ht ?_))
   obtain⟨fa,fb,fc,fd,fe⟩:=v0f hI.nod hf ht (by unfold mtop;omega)
   obtain⟨ga,gb,gc,gd,ge⟩:=v0f hI.nod hg ht (by unfold mtop;omega)
   obtain⟨ha,hb,hc',hd,he⟩:=v0f hI.nod hh ht (by unfold mtop;omega)
   have cy:Cond ns (sd ns f (mtop ns f g h)).1:=fun v=>by
    have:=hc (setB v (mtop ns f g h) true)
    rw[fe] at this
    simp only[setB,if_true] at this
    rw[j1e hI.nod fa fc] at this
    exact this
   have cn:Cond ns (sd ns f (mtop ns f g h)).2:=fun v=>by
    have:=hc (setB v (mtop ns f g h) false)
    rw[fe] at this
    simp only[setB,if_true,Bool.false_eq_true,if_false] at this
    rw[j1e hI.nod fb fd] at this
    exact this
   have hty:mtop ns f g h<mtop ns (sd ns f (mtop ns f g h)).1 (sd ns g (mtop ns f g h)).1 (sd ns h (mtop ns f g h)).1:=by
    show _<min (min _ _) _;omega
   have htn:mtop ns f g h<mtop ns (sd ns f (mtop ns f g h)).2 (sd ns g (mtop ns f g h)).2 (sd ns h (mtop ns f g h)).2:=by
    show _<min (min _ _) _;omega
   refine ih _ _ _ _ _ _ _ _ (by omega) hI hl fa ga ha cy hm fun r1 ns1 ids1 full1 m1 C1 hm1=> ?_
   have hp1:=C1.grew.pre
   have hN1:=C1.grew.inv.nod
   have htn1:mtop ns1 (sd ns f (mtop ns f g h)).2 (sd ns g (mtop ns f g h)).2 (sd ns h (mtop ns f g h)).2=mtop ns (sd ns f (mtop ns f g h)).2 (sd ns g (mtop ns f g h)).2 (sd ns h (mtop ns f g h)).2:=w4a hp1 fb gb hb
   refine ih _ _ _ _ _ _ _ _ (by rw[htn1];omega) C1.grew.inv C1.grew.len (fb.pre hp1) (gb.pre hp1) (hb.pre hp1) (fun v=>by rw[q07 hI.nod hN1 hp1 fb];exact cn v) hm1 fun r2 ns2 ids2 full2 m2 C2 hm2=> ?_
   have hp2:=C2.grew.pre
   have hN2:=C2.grew.inv.nod
   have hp:=hp1.trans hp2
   have few2: ∀b,Tb ns b->Tb ns2 b/\ns2.length+2<=ns.length+2 ^ (b - mtop ns f g h).toNat:=fun b hb0=>by
    obtain⟨a1,a2⟩:=C1.few b hb0
    obtain⟨a3,a4⟩:=C2.few b a1
    rw[htn1] at a4
    have hlt:mtop ns f g h<b:=by
     have hq:=hb0 f (by omega) hf.2
     have:top ns f=(nd ns f).1:=by simp only[top,if_neg hn]
     unfold mtop;omega
    refine⟨a3,?_⟩
    have e:2 ^ (b - mtop ns f g h).toNat=2*2 ^ (b - mtop ns f g h - 1).toNat:=by
     rw[show (b - mtop ns f g h).toNat=(b - mtop ns f g h - 1).toNat+1 by omega,Nat.pow_succ];omega
    have p1:=Nat.pow_le_pow_right (show 0<2 by omega) (show (b - mtop ns (sd ns f (mtop ns f g h)).1 (sd ns g (mtop ns f g h)).1 (sd ns h (mtop ns f g h)).1).toNat<=(b - mtop ns f g h - 1).toNat by omega)
    have p2:=Nat.pow_le_pow_right (show 0<2 by omega) (show (b - mtop ns (sd ns f (mtop ns f g h)).2 (sd ns g (mtop ns f g h)).2 (sd ns h (mtop ns f g h)).2).toNat<=(b - mtop ns f g h - 1).toNat by omega)
    omega
   have gr2:Grew ns ids full 4000 ns2 ids2 full2:=by
    have:=C1.grew.trans C2.grew (Nat.le_refl _)
    exact⟨this.inv,this.pre,this.len,this.room,by have:=this.len;omega⟩
   have bad:ns2.length=4000->Cho ns ids full f g h (-1002) ns2 ids2 full2:=fun hb0=>⟨gr2,fun b hb1=>⟨(few2 b hb1).1,by have:=(few2 b hb1).2;omega⟩,.inl ⟨rfl,hb0⟩⟩
   have full1:r1= -1002->ns2.length=4000:=fun e=>by
    rcases C1.res with h1|h1
    ·have:=hp2.length_le
     have:=C2.grew.len
     omega
    ·have:=h1.1.1;omega
   have full2':r2= -1002->ns2.length=4000:=fun e=>by
    rcases C2.res with h1|h1
    ·exact h1.2
    ·have:=h1.1.1;omega
   have hbad:ns2.length=4000->Kn ns2 (Fl.put m2 (f,g,h) (-1002)):=fun hb0=>hm2.put (.inl ⟨rfl,hb0⟩)
   refine Jn4.mk (fun a b c d=>K a b d c (put m2 (f,g,h) a)) ?_ fun _ _ _ _ h=>h
   refine⟨fun e1=>hK _ _ _ _ _ (bad (full1 e1)) (hbad (full1 e1)),fun e1=>⟨fun e2=>hK _ _ _ _ _ (bad (full2' e2)) (hbad (full2' e2)),fun e2=> ?_⟩⟩
   have o1:Ok ns1 r1/\Cse ns1 (sd ns f (mtop ns f g h)).1 (sd ns g (mtop ns f g h)).1 (sd ns h (mtop ns f g h)).1 r1/\mtop ns (sd ns f (mtop ns f g h)).1 (sd ns g (mtop ns f g h)).1 (sd ns h (mtop ns f g h)).1<=top ns1 r1:=by
    rcases C1.res with h1|h1
    ·exact absurd h1.1 e1
    ·exact h1
   have o2:Ok ns2 r2/\Cse ns2 (sd ns f (mtop ns f g h)).2 (sd ns g (mtop ns f g h)).2 (sd ns h (mtop ns f g h)).2 r2/\mtop ns1 (sd ns f (mtop ns f g h)).2 (sd ns g (mtop ns f g h)).2 (sd ns h (mtop ns f g h)).2<=top ns2 r2:=by
    rcases C2.res with h1|h1
    ·exact absurd h1.1 e2
    ·exact h1
   have o1t:top ns2 r1=top ns1 r1:=q60 hp2 o1.1.2
   have hO:z5q ns2 (mtop ns f g h) r1 r2:=⟨ht0,ht,o1.1.pre hp2,o2.1,by rw[o1t];have:=o1.2.2;omega,by have:=o2.2.2;rw[htn1] at this;omega⟩
   refine j8z C2.grew.len ?_
   obtain⟨hg3,htb,hres⟩:=w39 C2.grew.inv C2.grew.len hO (r:=(node ns2 ids2 full2 (mtop ns f g h) r1 r2).1) (ns':=(node ns2 ids2 full2 (mtop ns f g h) r1 r2).2.1) (ids':=(node ns2 ids2 full2 (mtop ns f g h) r1 r2).2.2.1) (full':=(node ns2 ids2 full2 (mtop ns f g h) r1 r2).2.2.2) rfl
   generalize (node ns2 ids2 full2 (mtop ns f g h) r1 r2).1=r3 at hg3 htb hres
   generalize (node ns2 ids2 full2 (mtop ns f g h) r1 r2).2.1=ns3 at hg3 htb hres
   generalize (node ns2 ids2 full2 (mtop ns f g h) r1 r2).2.2.1=ids3 at hg3 htb hres
   generalize (node ns2 ids2 full2 (mtop ns f g h) r1 r2).2.2.2=full3 at hg3 htb hres
   have hp3:=hp.trans hg3.pre
   have hN3:=hg3.inv.nod
   have hr3:(r3= -1002/\ns3.length=4000)∨(Ok ns3 r3/\Cse ns3 f g h r3/\mtop ns f g h<=top ns3 r3):=by
    rcases hres with h1|⟨_,h1,h2,h3⟩
    ·exact .inl ⟨h1.1,h1.2.1⟩
    ·refine .inr ⟨h1,fun v=> ?_,h2⟩
     rw[h3,q07 hI.nod hN3 hp3 hf,q07 hI.nod hN3 hp3 hg,q07 hI.nod hN3 hp3 hh,fe,ge,he]
     cases v (mtop ns f g h) with
     |true=>
      simp only[if_true]
      rw[q07 hN1 hN2 hp2 o1.1,o1.2.1,q07 hI.nod hN1 hp1 fa,q07 hI.nod hN1 hp1 ga,q07 hI.nod hN1 hp1 ha]
     |false=>
      simp only[Bool.false_eq_true,if_false]
      rw[o2.2.1,q07 hI.nod hN2 hp fb,q07 hI.nod hN2 hp gb,q07 hI.nod hN2 hp hb]
   have hcho:Cho ns ids full f g h r3 ns3 ids3 full3:=by
    refine⟨?_,fun b hb0=>⟨?_,?_⟩,hr3⟩
    ·have:=gr2.trans hg3 (Nat.le_refl _)
     exact⟨this.inv,this.pre,this.len,this.room,by have:=this.len;omega⟩
    ·have hlt:mtop ns f g h<b:=by
      have hq:=hb0 f (by omega) hf.2
      have:top ns f=(nd ns f).1:=by simp only[top,if_neg hn]
      unfold mtop;omega
     exact htb b (few2 b hb0).1 hlt
    ·have:=(few2 b hb0).2
     have:=hg3.most
     omega
   refine hK _ _ _ _ _ hcho (Kn.put (hm2.pre hN2 hN3 hg3.pre hg3.len) ?_)
   rcases hr3 with h1|⟨h1,h2,h3⟩
   ·exact .inl h1
   ·exact .inr ⟨hf.pre hp3,hg.pre hp3,hh.pre hp3,h1,h2,by rw[w4a hp3 hf hg hh];exact h3⟩
 exact key _ ns ids full f g h m K (Nat.le_refl _) hI hl hf hg hh hc hm hK
inductive Rch(ns:List Nd):Int->Int->Prop
 |self (a:Int):Rch ns a a
 |yes {a x:Int}:0<=a->Rch ns (nd ns a).2.1 x->Rch ns a x
 |no {a x:Int}:0<=a->Rch ns (nd ns a).2.2 x->Rch ns a x
theorem Rch.step{ns:List Nd}{a b c:Int}(h:Rch ns a b)(k:Rch ns b c):Rch ns a c:=by
 induction h with
 |self=>exact k
 |yes h0 _ ih=>exact .yes h0 (ih k)
 |no h0 _ ih=>exact .no h0 (ih k)
theorem kids{ns:List Nd}(hN:Nod ns){a:Int}(h:Ok ns a)(h0:0<=a):Ok ns (nd ns a).2.1/\Ok ns (nd ns a).2.2/\(nd ns a).2.1<a/\(nd ns a).2.2<a:=by
 have h2:=h.2
 obtain⟨_,_,a1,a2,a3,a4,_⟩:=hN.nod a h0 h.2
 exact⟨⟨a1,by omega⟩,⟨a3,by omega⟩,a2,a4⟩
theorem Rch.ok{ns:List Nd}(hN:Nod ns){a x:Int}(h:Rch ns a x):Ok ns a->Ok ns x:=by
 induction h with
 |self=>exact id
 |yes h0 _ ih=>exact fun h=>ih (kids hN h h0).1
 |no h0 _ ih=>exact fun h=>ih (kids hN h h0).2.1
def Tr(F:Int->Option Bool):Prop:= ∀x,F x=none∨F x=some true
theorem Tr.get{F:Int->Option Bool}(h:Tr F){x:Int}:(F x).getD false=true↔(F x).isSome=true:=by
 rcases h x with e|e<;>simp[e]
theorem Tr.nil:Tr fun _=>none:=fun _=> .inl rfl
theorem Tr.put{F:Int->Option Bool}(h:Tr F)(x:Int):Tr (put F x true):=fun y=>by
 unfold Fl.put
 split
 ·exact .inr rfl
 ·exact h y
theorem Hg{F:Int->Option Bool}{x y:Int}:(put F x true y).isSome=true↔y=x∨(F y).isSome=true:=by
 unfold Fl.put
 split
 ·rename_i h;simp[h]
 ·rename_i h;simp[h]
theorem Rch.sub{ns:List Nd}{F:Int->Option Bool}{id x:Int}(h:Rch ns id x)(i:(F id).isSome=true)(c: ∀x,(F x).isSome=true->0<=x->(F (nd ns x).2.1).isSome=true/\(F (nd ns x).2.2).isSome=true):(F x).isSome=true:=by
 induction h with
 |self=>exact i
 |yes h0 _ ih=>exact ih (c _ i h0).1
 |no h0 _ ih=>exact ih (c _ i h0).2
def Rc(ns:List Nd)(id:Int)(F:Int->Option Bool):Prop:=Tr F/\ ∀x,(F x).isSome=true↔Rch ns id x
def univ(ns:List Nd):List Int:=(List.range (ns.length+1001)).map fun (i:Nat)=>(i:Int) - 1001
def left(ns:List Nd)(F:Int->Option Bool):Nat:=(univ ns).countP fun x=>(F x).isNone
theorem w65{ns:List Nd}{x:Int}(h:Ok ns x):x∈univ ns:=by
 obtain⟨h1,h2⟩:=h
 exact List.mem_map.2 ⟨(x+1001).toNat,List.mem_range.2 (by omega),by omega⟩
theorem w4c{l:List Int}{F:Int->Option Bool}{x:Int}(hx:x∈l)(hn:F x=none):(l.countP fun y=>(put F x true y).isNone)<l.countP fun y=>(F y).isNone:=by
 induction l with
 |nil=>cases hx
 |cons a l ih=>
  have le:(l.countP fun y=>(put F x true y).isNone)<=l.countP fun y=>(F y).isNone:=by
   refine List.countP_mono_left fun y _ h=> ?_
   unfold Fl.put at h
   split at h
   ·cases h
   ·exact h
  rw[List.countP_cons,List.countP_cons]
  by_cases ha:a=x
  ·subst ha
   simp only[Fl.put,if_true,Option.isNone_some,Bool.false_eq_true,if_false,hn,Option.isNone_none]
   simp only[Fl.put] at le
   omega
  ·have:=ih ((List.mem_cons.1 hx).resolve_left fun e=>ha e.symm)
   have e:put F x true a=F a:=by simp[Fl.put,ha]
   rw[e]
   omega
theorem w66{ns:List Nd}{F:Int->Option Bool}{x:Int}(h:Ok ns x)(hn:F x=none):left ns (put F x true)<left ns F:=w4c (w65 h) hn
theorem v0g{ns:List Nd}{F:Int->Option Bool}:left ns F<=ns.length+1001:=by
 have:=List.countP_le_length (p:=fun x=>(F x).isNone) (l:=univ ns)
 simpa [left,univ] using this
theorem w4d{ns:List Nd}{ids:Nd->Option Int}{full:Bool}{id:Int}{K:(Int->Option Bool)->List Nd->(Nd->Option Int)->Bool->Prop}(hN:Nod ns)(hl:ns.length<=4000)(hid:Ok ns id)(h: ∀F,Rc ns id F->K F ns ids full):
  G8 ns ids full id K:=by
 unfold G8
 refine Lp2.ind (fun todo F=>Tr F/\(∀x∈todo,Ok ns x/\Rch ns id x)/\(∀x,(F x).isSome=true->Ok ns x/\Rch ns id x)/\((F id).isSome=true∨id∈todo)/\
  (∀x,(F x).isSome=true->0<=x->((F (nd ns x).2.1).isSome=true∨(nd ns x).2.1∈todo)/\((F (nd ns x).2.2).isSome=true∨(nd ns x).2.2∈todo))/\todo.length+3*left ns F<=15004)
  (fun todo F=>todo.length+3*left ns F) (fun todo F hI _=> ?_) ⟨Tr.nil,by simpa using ⟨hid,.self _⟩,by simp,.inr (by simp),by simp,by have:=v0g (ns:=ns) (F:=fun _=>none);simp;omega⟩
 obtain⟨i1,i2,i3,i4,i5,i6⟩:=hI
 refine⟨fun hpos=>fun _=>⟨⟨by omega,by omega⟩,⟨by omega,by omega⟩,fun y hy _=>⟨⟨by omega,by omega⟩,⟨by omega,by omega⟩,?_⟩⟩,fun hpos=> ?_⟩
 ·have ht:((todo.length:Int) - 1).toNat=todo.length - 1:=by omega
  rw[ht] at hy⊢
  have hne:todo≠[]:=fun e=>by subst e;simp at hpos
  have hsp:todo=todo.take (todo.length - 1)++[y]:=by
   have h1:todo.getLast hne=y:=by
    rw[List.getLast_eq_getElem]
    rw[List.getElem?_eq_getElem (by omega)] at hy
    exact Option.some.inj hy
   rw[←h1,←List.dropLast_eq_take,List.dropLast_concat_getLast]
  generalize hA:todo.take (todo.length - 1)=A at hsp⊢
  have hlen:todo.length=A.length+1:=by rw[hsp];simp
  obtain⟨hy1,hy2⟩:=i2 y (by rw[hsp];simp)
  have sub: ∀x,x∈todo->x∈A∨x=y:=fun x hx=>by rw[hsp] at hx;simpa using hx
  refine⟨fun hs=>⟨⟨i1,fun x hx=>i2 x (by rw[hsp];simp[hx]),i3,?_,fun x hx h0=> ?_,by omega⟩,by omega⟩,fun hs=> ?_⟩
  ·have hs:=(i1.get).1 hs
   rcases i4 with h|h
   ·exact .inl h
   ·rcases sub _ h with h|rfl
    ·exact .inr h
    ·exact .inl hs
  ·have hs:=(i1.get).1 hs
   obtain⟨a,b⟩:=i5 x hx h0
   refine⟨a.elim .inl fun h=> ?_,b.elim .inl fun h=> ?_⟩
   ·rcases sub _ h with h|h
    ·exact .inr h
    ·exact .inl (by rw[h];exact hs)
   ·rcases sub _ h with h|h
    ·exact .inr h
    ·exact .inl (by rw[h];exact hs)
  ·have hn:F y=none:=by
    rcases i1 y with e|e
    ·exact e
    ·rw[e] at hs;simp at hs
   have hlt:=w66 hy1 hn
   refine⟨fun h0=>⟨⟨h0,hy1.2⟩,fun z hz=>⟨⟨h0,hy1.2⟩,fun z' hz'=> ?_⟩⟩,fun h0=>⟨⟨i1.put y,fun x hx=>i2 x (by rw[hsp];simp[hx]),fun x hx=> ?_,?_,fun x hx hx0=> ?_,by omega⟩,by omega⟩⟩
   ·rw[hz] at hz'
    cases hz'
    have ez:=w4b hz
    obtain⟨k1,k2,_⟩:=kids hN hy1 h0
    rw[ez] at k1 k2
    refine⟨by unfold Sml;simp;omega,⟨i1.put y,fun x hx=> ?_,fun x hx=> ?_,?_,fun x hx hx0=> ?_,by simp;omega⟩,by simp;omega⟩
    ·simp only[List.mem_append,List.mem_cons,List.not_mem_nil,or_false] at hx
     rcases hx with hx|rfl|rfl
     ·exact i2 x (by rw[hsp];simp[hx])
     ·exact⟨k1,hy2.step (.yes h0 (by rw[ez];exact .self _))⟩
     ·exact⟨k2,hy2.step (.no h0 (by rw[ez];exact .self _))⟩
    ·rcases Hg.1 hx with rfl|hx
     ·exact⟨hy1,hy2⟩
     ·exact i3 x hx
    ·rcases i4 with h|h
     ·exact .inl (Hg.2 (.inr h))
     ·rcases sub _ h with h|rfl
      ·exact .inr (by simp[h])
      ·exact .inl (Hg.2 (.inl rfl))
    ·have mv: ∀q,(F q).isSome=true∨q∈todo->(put F y true q).isSome=true∨q∈A++[z.2.1,z.2.2]:=fun q hq=>by
      rcases hq with h|h
      ·exact .inl (Hg.2 (.inr h))
      ·rcases sub _ h with h|rfl
       ·exact .inr (by simp[h])
       ·exact .inl (Hg.2 (.inl rfl))
     rcases Hg.1 hx with rfl|hx
     ·rw[ez];exact⟨.inr (by simp),.inr (by simp)⟩
     ·obtain⟨a,b⟩:=i5 x hx hx0
      exact⟨mv _ a,mv _ b⟩
   ·rcases Hg.1 hx with rfl|hx
    ·exact⟨hy1,hy2⟩
    ·exact i3 x hx
   ·rcases i4 with h|h
    ·exact .inl (Hg.2 (.inr h))
    ·rcases sub _ h with h|rfl
     ·exact .inr h
     ·exact .inl (Hg.2 (.inl rfl))
   ·have mv: ∀q,(F q).isSome=true∨q∈todo->(put F y true q).isSome=true∨q∈A:=fun q hq=>by
     rcases hq with h|h
     ·exact .inl (Hg.2 (.inr h))
     ·rcases sub _ h with h|rfl
      ·exact .inr h
      ·exact .inl (Hg.2 (.inl rfl))
    rcases Hg.1 hx with rfl|hx
    ·exact absurd hx0 h0
    ·obtain⟨a,b⟩:=i5 x hx hx0
     exact⟨mv _ a,mv _ b⟩
 ·have hnil:todo=[]:=List.eq_nil_of_length_eq_zero (by omega)
  subst hnil
  refine h F ⟨i1,fun x=>⟨fun hx=>(i3 x hx).2,fun hx=> ?_⟩⟩
  have i4:(F id).isSome=true:=i4.resolve_right (by simp)
  exact hx.sub i4 fun x hx h0=>⟨(i5 x hx h0).1.resolve_right (by simp),(i5 x hx h0).2.resolve_right (by simp)⟩
theorem j80{α:Type}[DecidableEq α]{l l':List α}(h:l.Nodup)(hs: ∀x∈l,x∈l'):l.length<=l'.length:=by
 induction l generalizing l' with
 |nil=>simp
 |cons a l ih=>
  rw[List.nodup_cons] at h
  have:=ih (l':=l'.erase a) h.2 fun x hx=>by
   have hne:x≠a:=fun e=>h.1 (e▸hx)
   exact (List.mem_erase_of_ne hne).2 (hs x (by simp[hx]))
  rw[List.length_erase_of_mem (hs a (by simp))] at this
  have hp:=List.length_pos_of_mem (hs a (by simp))
  simp only[List.length_cons]
  omega
def Lvs(ns:List Nd)(id:Int)(l:List Int):Prop:=l.Pairwise (· < ·)/\ ∀n,n∈l↔Ok ns id/\0<=n/\Rch ns id (-1 - n)
theorem w0n{ns:List Nd}{ids:Nd->Option Int}{full:Bool}{id:Int}{K:List Int->List Nd->(Nd->Option Int)->Bool->Prop}(hN:Nod ns)(hl:ns.length<=4000)(h: ∀l,Lvs ns id l->K l ns ids full):U7 ns ids full id K:=by
 unfold U7
 by_cases hid:Ok ns id
 ·refine z0w (Cnd.yes (decide_eq_true hid) (w4d hN hl hid fun F hF=> ?_))
  refine Lp2.ind (fun l n=>0<=n/\n<=1001/\l.length<=n/\l.Pairwise (· < ·)/\ ∀x,x∈l↔0<=x/\x<n/\Rch ns id (-1 - x)) (fun _ n=>(1001 - n).toNat) (fun l n hI=> ?_) ⟨by omega,by omega,by simp,by simp,fun x=>by simp;omega⟩
  obtain⟨h0,h1,h2,h3,h4⟩:=hI
  refine⟨fun hn=>⟨⟨by omega,by omega⟩,fun hs=> ?_,fun hs=> ?_⟩,fun hn=> ?_⟩
  ·have hs:=(hF.2 _).1 ((hF.1.get).1 hs)
   refine⟨by unfold Sml;simp;omega,⟨by omega,by omega⟩,⟨by omega,by omega,by simp;omega,?_,fun x=> ?_⟩,by omega⟩
   ·rw[List.pairwise_append]
    exact⟨h3,by simp,fun a ha b hb=>by simp at hb;subst hb;exact ((h4 a).1 ha).2.1⟩
   ·simp only[List.mem_append,List.mem_singleton,h4]
    constructor
    ·rintro (⟨a,b,c⟩|rfl)
     ·exact⟨a,by omega,c⟩
     ·exact⟨h0,by omega,hs⟩
    ·rintro⟨a,b,c⟩
     by_cases hx:x=n
     ·exact .inr hx
     ·exact .inl ⟨a,by omega,c⟩
  ·have hs: ¬Rch ns id (-1 - n):=fun hr=>hs ((hF.1.get).2 ((hF.2 _).2 hr))
   refine⟨⟨by omega,by omega⟩,⟨by omega,by omega,by omega,h3,fun x=> ?_⟩,by omega⟩
   rw[h4]
   constructor
   ·rintro⟨a,b,c⟩;exact⟨a,by omega,c⟩
   ·rintro⟨a,b,c⟩
    refine⟨a,?_,c⟩
    by_cases hx:x=n
    ·subst hx;exact absurd c hs
    ·omega
  ·refine h l ⟨h3,fun x=> ?_⟩
   rw[h4]
   constructor
   ·rintro⟨a,_,c⟩;exact⟨hid,a,c⟩
   ·rintro⟨_,a,c⟩
    have:=(c.ok hN hid).1
    exact⟨a,by omega,c⟩
 ·exact z0w (Cnd.no (by simpa using hid) (h [] ⟨by simp,fun n=>by simp[hid]⟩))
theorem j81{ns:List Nd}(hN:Nod ns){id:Int}(hid:Ok ns id)(n:Int)(hn:0<=n):Rch ns id (-1 - n)↔ ∃v,ev ns v id=n:=by
 constructor
 ·intro h
  generalize hx: -1 - n=x at h
  induction h with
  |self a=>exact⟨fun _=>true,by rw[Ba (by omega)];omega⟩
  | @yes a x h0 _ ih=>
   obtain⟨v,hv⟩:=ih (kids hN hid h0).1 hx
   exact⟨setB v (nd ns a).1 true,by rw[j8x hN h0 hid.2];exact hv⟩
  | @no a x h0 _ ih=>
   obtain⟨v,hv⟩:=ih (kids hN hid h0).2.1 hx
   exact⟨setB v (nd ns a).1 false,by rw[w64 hN h0 hid.2];exact hv⟩
 ·rintro⟨v,hv⟩
  revert hv
  refine ind hN (p:=fun id=>ev ns v id=n->Rch ns id (-1 - n)) (fun id h1 h2 he=> ?_) (fun id h1 h2 i1 i2 he=> ?_) hid
  ·rw[Ba h2] at he
   rw[show -1 - n=id by omega];exact .self _
  ·rw[q3t hN h1 h2] at he
   split at he
   ·exact .yes h1 (i1 he)
   ·exact .no h1 (i2 he)
theorem w4e{ns:List Nd}(hN:Nod ns){id:Int}(hid:Ok ns id)(v:Int->Bool):0<=ev ns v id:=by
 refine ind hN (p:=fun id=>0<=ev ns v id) (fun id h1 h2=> ?_) (fun id h1 h2 i1 i2=> ?_) hid
 ·rw[Ba h2];omega
 ·rw[q3t hN h1 h2];split<;>assumption
theorem w67{ns:List Nd}(hN:Nod ns){id:Int}(hid:Ok ns id){l:List Int}(hl:Lvs ns id l):Cond ns id↔ ∀n∈l,n<=1:=by
 constructor
 ·intro h n hn
  obtain⟨_,h0,hr⟩:=(hl.2 n).1 hn
  obtain⟨v,hv⟩:=(j81 hN hid n h0).1 hr
  have:=h v
  omega
 ·intro h v
  have h0:=w4e hN hid v
  have:=h (ev ns v id) ((hl.2 _).2 ⟨hid,h0,(j81 hN hid _ h0).2 ⟨v,rfl⟩⟩)
  omega
def OpR(p:Prop)(ns:List Nd)(ids:Nd->Option Int)(full:Bool)(f g h r:Int)(ns':List Nd)(ids':Nd->Option Int)(full':Bool):Prop:=
 (p/\Cho ns ids full f g h r ns' ids' full')∨(¬p/\r= -1002/\ns'=ns/\ids'=ids/\full'=full)
def ChR(ns:List Nd)(ids:Nd->Option Int)(full:Bool)(f g h r:Int)(ns':List Nd)(ids':Nd->Option Int)(full':Bool):Prop:=
 (Ok ns f/\Cond ns f/\Ok ns g/\Ok ns h/\Cho ns ids full f g h r ns' ids' full')∨(¬(Ok ns f/\Cond ns f/\Ok ns g/\Ok ns h)/\r= -1002/\ns'=ns/\ids'=ids/\full'=full)
theorem j2x{ns:List Nd}{ids:Nd->Option Int}{full:Bool}{id:Int}{K:Bool->List Nd->(Nd->Option Int)->Bool->Prop}(hN:Nod ns)(hl:ns.length<=4000)(h: ∀b,(b=true↔Ok ns id/\Cond ns id)->K b ns ids full):Z4 ns ids full id K:=by
 unfold Z4
 by_cases hid:Ok ns id
 ·refine z0w (Cnd.yes (decide_eq_true hid) (w0n hN hl fun l hL=> ?_))
  have hc:=w67 hN hid hL
  refine Lp1.ind (fun i:Int=>0<=i/\i<=l.length/\ ∀j:Nat,j<i.toNat-> ∀n,l[j]? =some n->n<=1) (fun i:Int=>l.length - i.toNat) (fun i hi hlen=> ?_) ⟨by omega,by omega,fun j hj=>by omega⟩
  obtain⟨h0,h1,h2⟩:=hi
  refine⟨fun hlt=>⟨⟨h0,hlt⟩,fun y hy=>⟨fun h3=>h false ⟨fun e=>(by cases e),fun a=> ?_⟩,fun h3=>⟨⟨by omega,by omega⟩,⟨by omega,by omega,fun j hj n hn=> ?_⟩,by omega⟩⟩⟩,fun hlt=>h true ⟨fun _=>⟨hid,hc.2 fun n hn=> ?_⟩,fun _=>rfl⟩⟩
  ·have:=hc.1 a.2 y (List.mem_of_getElem? hy);omega
  ·by_cases hji:j=i.toNat
   ·subst hji;rw[hy] at hn;cases hn;omega
   ·exact h2 j (by omega) n hn
  ·obtain⟨j,hj⟩:=List.mem_iff_getElem?.1 hn
   exact h2 j (by have:=(List.getElem?_eq_some_iff.1 hj).1;omega) n hj
 ·exact z0w (Cnd.no (by simpa using hid) (h false ⟨fun e=>(by cases e),fun a=>absurd a.1 hid⟩))
theorem z5a{ns:List Nd}{ids:Nd->Option Int}{full:Bool}{f g h:Int}{K:Int->List Nd->(Nd->Option Int)->Bool->Prop}(hI:Inv ns ids)(hl:ns.length<=4000)
  (hK: ∀r ns' ids' full',ChR ns ids full f g h r ns' ids' full'->K r ns' ids' full'):J0 ns ids full f g h K:=by
 unfold J0
 refine j2x hI.nod hl fun b hb=>⟨fun hbt=> ?_,fun hbt=> ?_⟩
 ·obtain⟨hf,hc⟩:=hb.1 hbt
  refine z0w ⟨fun hg=>z0w ⟨fun hh=> ?_,fun hh=> ?_⟩,fun hg=> ?_⟩
  ·exact w0m _ _ _ _ _ _ _ _ hI hl hf (of_decide_eq_true hg) (of_decide_eq_true hh) hc (Kn.nil ns) fun r ns' ids' full' m' C _=>hK _ _ _ _ (.inl ⟨hf,hc,of_decide_eq_true hg,of_decide_eq_true hh,C⟩)
  ·exact hK _ _ _ _ (.inr ⟨fun a=>hh (decide_eq_true a.2.2.2),rfl,rfl,rfl,rfl⟩)
  ·exact hK _ _ _ _ (.inr ⟨fun a=>hg (decide_eq_true a.2.2.1),rfl,rfl,rfl,rfl⟩)
 ·exact hK _ _ _ _ (.inr ⟨fun a=>hbt (hb.2 ⟨a.1,a.2.1⟩),rfl,rfl,rfl,rfl⟩)
theorem v0h{ns:List Nd}{ids:Nd->Option Int}{full:Bool}{f g:Int}{K:Int->List Nd->(Nd->Option Int)->Bool->Prop}(hI:Inv ns ids)(hl:ns.length<=4000)
  (hK: ∀r ns' ids' full',OpR (Ok ns f/\Cond ns f/\Ok ns g/\Cond ns g) ns ids full f g (-1) r ns' ids' full'->K r ns' ids' full'):Vw ns ids full f g K:=by
 unfold Vw
 refine j2x hI.nod hl fun b hb=>⟨fun hbt=> ?_,fun hbt=> ?_⟩
 ·refine z5a hI hl fun r ns' ids' full' C=>hK _ _ _ _ ?_
  rcases C with ⟨a1,a2,a3,a4,a5⟩|⟨a1,a2⟩
  ·exact .inl ⟨⟨a1,a2,hb.1 hbt⟩,a5⟩
  ·exact .inr ⟨fun a=>a1 ⟨a.1,a.2.1,a.2.2.1,⟨by omega,by omega⟩⟩,a2⟩
 ·exact hK _ _ _ _ (.inr ⟨fun a=>hbt (hb.2 a.2.2),rfl,rfl,rfl,rfl⟩)
theorem w8e{ns:List Nd}{ids:Nd->Option Int}{full:Bool}{f g:Int}{K:Int->List Nd->(Nd->Option Int)->Bool->Prop}(hI:Inv ns ids)(hl:ns.length<=4000)
  (hK: ∀r ns' ids' full',OpR (Ok ns f/\Cond ns f/\Ok ns g/\Cond ns g) ns ids full f (-2) g r ns' ids' full'->K r ns' ids' full'):Vh ns ids full f g K:=by
 unfold Vh
 refine j2x hI.nod hl fun b hb=>⟨fun hbt=> ?_,fun hbt=> ?_⟩
 ·refine z5a hI hl fun r ns' ids' full' C=>hK _ _ _ _ ?_
  rcases C with ⟨a1,a2,a3,a4,a5⟩|⟨a1,a2⟩
  ·exact .inl ⟨⟨a1,a2,hb.1 hbt⟩,a5⟩
  ·exact .inr ⟨fun a=>a1 ⟨a.1,a.2.1,⟨by omega,by omega⟩,a.2.2.1⟩,a2⟩
 ·exact hK _ _ _ _ (.inr ⟨fun a=>hbt (hb.2 a.2.2),rfl,rfl,rfl,rfl⟩)
theorem v0i{ns:List Nd}{ids:Nd->Option Int}{full:Bool}{f:Int}{K:Int->List Nd->(Nd->Option Int)->Bool->Prop}(hI:Inv ns ids)(hl:ns.length<=4000)
  (hK: ∀r ns' ids' full',OpR (Ok ns f/\Cond ns f) ns ids full f (-1) (-2) r ns' ids' full'->K r ns' ids' full'):Vv ns ids full f K:=by
 unfold Vv
 refine z5a hI hl fun r ns' ids' full' C=>hK _ _ _ _ ?_
 rcases C with ⟨a1,a2,a3,a4,a5⟩|⟨a1,a2⟩
 ·exact .inl ⟨⟨a1,a2⟩,a5⟩
 ·exact .inr ⟨fun a=>a1 ⟨a.1,a.2,⟨by omega,by omega⟩,⟨by omega,by omega⟩⟩,a2⟩
end Go.En
end
noncomputable section
set_option maxRecDepth 100000
namespace Go.En
open Go Go.Fl Go.Fl.Lk Go.Fx Go.Dg
theorem j5d{v:Envt}{layer but:ByteArray}{now:Int}{K:List Spn->Prop}(h: ∀l,l.length<=10000->K l):q6c v layer but now K:=by
 unfold q6c z1a
 refine q42 fun r hr=>Cnd.mk (fun _=>h _ (by simp)) fun hn=> ?_
 refine Jn1.mk (fun l=>SpsS l) ?_ fun l hl=> ?_
 ·rcases hr with ⟨e,_⟩|⟨a,b,_⟩
  ·omega
  refine⟨⟨a,b⟩,fun y hy=>⟨⟨a,b⟩,fun z hz=> ?_⟩⟩
  refine⟨q7m fun u hu=>q84 (by omega) fun l _=>q4h fun l hl=>hl,q7m fun u hu=>⟨q84 (by omega) fun l _=>q4h fun l hl=>hl,q84 (by omega) fun l _=>q4h fun l hl=>hl⟩⟩
 ·refine Lp2.ind (fun (l:List Spn) (i:Int)=>0<=i/\i<=v.experiments.length/\SpsS l) (fun _ (i:Int)=>(v.experiments.length - i).toNat) ?_ ⟨by omega,by omega,hl⟩
  rintro l i ⟨i0,i1,hl⟩
  have hlen:=hl.len
  (repeat' (first|exact h _ (by omega)|refine q4h fun l hl=> ?_|assumption|(unfold InI;omega)|omega|refine Cnd.mk (fun _=> ?_) fun _=> ?_|refine⟨?_,?_⟩|intro _))
theorem j7o{v:Envt}{layer:ByteArray}{now:Int}{K:List Spn->Int->Prop}(h: ∀l e,SpsS l->K l e):q9r v layer now K:=by
 unfold q9r z39
 have nil:SpsS []:=⟨by simp,by simp⟩
 exact j7e fun _ _=>Cnd.mk (fun _=>q42 fun _ _=>Cnd.mk (fun _=>h _ _ nil) fun _=>j5d fun _ _=>z5p fun l hl=>h _ _ hl) fun _=>h _ _ nil
def lim:Nat->Nat
 |0=>1
 |n+1=>1+3*lim n
theorem z9l: ∀(n:Nat) {l:List Ex} {e:Ex} {K:List Ex->Prop},n<=5->ExS n e->(∀x∈l,ExS 5 x)->l.length+lim n<=1000000->(∀r,(∀x∈r,ExS 5 x)->r.length<=l.length+lim n->K r)->q0h l e K:=by
 intro n l e K hn he hl hB h X hX
 induction n using Nat.strongRecOn generalizing l e K with
 |_ n ih=>
 refine hX _ _ _ ?_
 unfold q4s
 rw[Ww]
 have lp:1<=lim n:=by cases n<;>simp[lim]
 refine Jn1.mk (fun r=>(∀x∈r,ExS 5 x)/\r.length<=l.length+1) ?_ fun r hr=> ?_
 ·have same:(∀x∈l,ExS 5 x)/\l.length<=l.length+1:=⟨hl,by omega⟩
  have more:Sml ([]++l).length/\Sml ([]++l++[e]).length/\((∀x∈[]++l++[e],ExS 5 x)/\([]++l++[e]).length<=l.length+1):=by
   refine⟨by unfold Sml;simp;omega,by unfold Sml;simp;omega,?_,by simp⟩
   rw[List.nil_append]
   exact Jw hl (he.le hn)
  have ix:Wq l e fun x=>Cnd (x<0) ((Sml ([]++l).length/\Sml ([]++l++[e]).length/\((∀x∈[]++l++[e],ExS 5 x)/\([]++l++[e]).length<=l.length+1))/\Sml ([]++l).length/\Sml ([]++l++[e]).length/\((∀x∈[]++l++[e],ExS 5 x)/\([]++l++[e]).length<=l.length+1)) ((∀x∈l,ExS 5 x)/\l.length<=l.length+1):=
   z5o hl fun r _=>Cnd.mk (fun _=>⟨more,more⟩) fun _=>same
  exact Cnd.mk (fun _=>ix) fun _=>q05 fun r _=>Cnd.mk (fun _=>ix) fun _=>same
 ·obtain⟨hr,hlen⟩:=hr
  have hk:=he.kids
  cases n with
  |zero=>
   have hk0:e.kids=[]:=he.2.2.2
   refine Lp2.ind (fun (q:List Ex) (i:Int)=>q=r/\0<=i) (fun _ _=>0) ?_ ⟨rfl,by omega⟩
   rintro q i ⟨rfl,i0⟩ _
   refine Cnd.mk (fun hc=> ?_) fun _=>h _ hr (by simp[lim];omega)
   rw[hk0]
   exact⟨by rw[hk0] at hc;simp at hc;omega,fun y hy=>by simp at hy⟩
  |succ n=>
  refine Lp2.ind (fun (q:List Ex) (i:Int)=>0<=i/\i<=e.kids.length/\(∀x∈q,ExS 5 x)/\q.length<=r.length+i.toNat*lim n) (fun _ (i:Int)=>(e.kids.length - i).toNat) ?_ ⟨by omega,by omega,hr,by simp⟩
  rintro q i ⟨i0,i1,hq,hql⟩ _
  have hle:i.toNat*lim n<=3*lim n:=Nat.mul_le_mul_right _ (by omega)
  have hB:l.length+(1+3*lim n)<=1000000:=hB
  refine Cnd.mk (fun hc=>⟨by omega,fun y hy=> ?_⟩) fun _=>h _ hq (by show q.length<=l.length+(1+3*lim n);omega)
  obtain⟨m,hm,hk⟩:=he.kid (getm hy)
  obtain rfl:m=n:=by omega
  rw[Ww]
  have hle2:i.toNat*lim m<=2*lim m:=Nat.mul_le_mul_right _ (by omega)
  refine ih m (by omega) (by omega) hk hq (by omega) fun s hs hsl=>⟨by unfold InI;omega,⟨by omega,by omega,hs,?_⟩,by omega⟩
  ·rw[show (i+1).toNat=i.toNat+1 by omega,Nat.add_mul,Nat.one_mul];omega
theorem lim4:lim 4=121:=rfl
theorem z6h{l:List Rul}{K:List Ex->Prop}(hl:l.length<=100)(hr: ∀r∈l,ExS 4 r.cond)(h: ∀r,(∀x∈r,ExS 5 x)->r.length<=100000->K r):Rb l K:=by
 unfold Rb q2r
 refine Lp2.ind (fun (q:List Ex) (i:Int)=>0<=i/\i<=l.length/\(∀x∈q,ExS 5 x)/\q.length<=i.toNat*121) (fun _ (i:Int)=>(l.length - i).toNat) ?_ ⟨by omega,by omega,by simp,by simp⟩
 rintro q i ⟨i0,i1,hq,hql⟩ _
 refine Cnd.mk (fun hc=>⟨by omega,fun y hy=> ?_⟩) fun _=>h _ hq (by omega)
 dsimp only;rw[Ww]
 refine z9l 4 (by omega) (hr y (getm hy)) hq (by rw[lim4];omega) fun s hs hsl=>⟨by unfold InI;omega,⟨by omega,by omega,hs,?_⟩,by omega⟩
 rw[lim4] at hsl;omega
def StS(ns:List Nd)(ids:Nd->Option Int):Prop:=Inv ns ids/\ns.length<=4000
theorem OpR.st{p:Prop}{ns:List Nd}{ids:Nd->Option Int}{full:Bool}{f g h r:Int}{ns':List Nd}{ids':Nd->Option Int}{full':Bool}(h:OpR p ns ids full f g h r ns' ids' full')(hS:StS ns ids):StS ns' ids':=by
 rcases h with ⟨_,C⟩|⟨_,_,e1,e2,_⟩
 ·exact⟨C.grew.inv,C.grew.len⟩
 ·rw[e1,e2];exact hS
theorem v0j{ns:List Nd}{ids:Nd->Option Int}{full:Bool}{t y n:Int}(hS:StS ns ids):StS (node ns ids full t y n).2.1 (node ns ids full t y n).2.2.1:=by
 by_cases hO:z5q ns t y n
 ·obtain⟨h1,_⟩:=w39 (full:=full) hS.1 hS.2 hO (he:=rfl)
  exact⟨h1.inv,h1.len⟩
 ·rw[j8y hO];exact hS
theorem v0k:Inv [] fun _=>none:=⟨⟨fun i h0 hl=>by simp at hl;omega,fun i j h0 hl=>by simp at hl;omega⟩,fun n id=>by simp;omega⟩
theorem z6i: ∀(n:Nat) {ns:List Nd} {ids:Nd->Option Int} {full:Bool} {atoms:List Ex} {e:Ex} {K:Int->List Nd->(Nd->Option Int)->Bool->Prop},ExS n e->(∀x∈atoms,ExS 5 x)->StS ns ids->(∀r ns ids full,StS ns ids->K r ns ids full)->Rd ns ids full atoms e K:=by
 intro n ns ids full atoms e K he ha hS h X hX
 induction n using Nat.strongRecOn generalizing ns ids full e K with
 |_ n ih=>
 refine hX _ _ _ _ _ _ ?_
 unfold q2s
 rw[Ww]
 have hop:=he.opK
 have zero:2<=e.op->e.op<=4->(0:Int)<(e.kids.length:Int):=fun a b=>by have:=List.length_pos_iff.2 (hop a b);omega
 have kid: ∀{y:Ex} {ns ids full} {K:Int->List Nd->(Nd->Option Int)->Bool->Prop},y∈e.kids->StS ns ids->(∀r ns ids full,StS ns ids->K r ns ids full)->X ns ids full atoms (Ex.mk y.1 y.2 y.3 y.4 y.5) K:=fun hy hS hK=>by
  obtain⟨m,hm,hk⟩:=he.kid hy
  rw[Ww]
  exact ih m (by omega) hk hS hK
 refine Cnd.mk (fun _=>h _ _ _ _ hS) fun _=>Cnd.mk (fun h4=>⟨⟨by omega,zero (by omega) (by omega)⟩,fun y hy=>kid (getm hy) hS fun r ns ids full hS=>v0i hS.1 hS.2 fun r ns ids full C=>h _ _ _ _ (C.st hS)⟩) fun _=> ?_
 refine Jn1.mk (fun b=>b=true->2<=e.op/\e.op<=4) (Cnd.mk (fun hc _=>by omega) fun _ hd=>by have:=of_decide_eq_true hd;omega) fun b hb=>Cnd.mk (fun hc=>⟨⟨by omega,zero (hb hc).1 (hb hc).2⟩,fun y hy=>kid (getm hy) hS fun r ns ids full hS=> ?_⟩) fun _=> ?_
 ·refine Lp5.ind (fun (_ i:Int) ns _ ids=>1<=i/\i<=e.kids.length+1/\StS ns ids) (fun _ (i:Int) _ _ _=>(e.kids.length+1 - i).toNat) ?_ ⟨by omega,by omega,hS⟩
  rintro f i ns full ids ⟨i0,i1,hS⟩ _
  refine Cnd.mk (fun hc=>⟨by omega,fun y hy=>kid (getm hy) hS fun r ns ids full hS=> ?_⟩) fun _=>h _ _ _ _ hS
  exact Cnd.mk (fun _=>v0h hS.1 hS.2 fun r ns ids full C=>⟨by unfold InI;omega,⟨by omega,by omega,C.st hS⟩,by omega⟩) fun _=>w8e hS.1 hS.2 fun r ns ids full C=>⟨by unfold InI;omega,⟨by omega,by omega,C.st hS⟩,by omega⟩
 ·exact z5o ha fun r hr=>Cnd.mk (fun _=>h _ _ _ _ hS) fun _=>j8z hS.2 (h _ _ _ _ (v0j hS))
theorem q4i{l:List Rul}{K:List Int->Int->Bool->Prop}(hl:l.length<=100)(hr: ∀r∈l,ExS 4 r.cond)(h: ∀o n b,o.length<=100->K o n b):W1 l K:=by
 unfold W1 Bu
 refine z6h hl hr fun atoms ha _=> ?_
 refine LpH.ind (fun (x:Int×List Int×Int×List Nd×Bool×(Nd->Option Int)×Unit)=>0<=x.2.2.1/\x.2.2.1<=(l.length:Int)/\(x.2.1.length:Int)<=x.2.2.1/\StS x.2.2.2.1 x.2.2.2.2.2.1) (fun x=>((l.length:Int) - x.2.2.1).toNat) ?_ ⟨by simp,by simp,by simp,v0k,by simp⟩
 rintro⟨some_,out,i,ns,full,ids,u⟩ ⟨i0,i1,ho,hS⟩
 simp only at i0 i1 ho hS⊢
 refine fun _=>Cnd.mk (fun hc=>⟨by omega,fun y hy=> ?_⟩) fun _ _=>h _ _ _ (by omega)
 dsimp only;rw[Ww]
 refine z6i 4 (hr y (getm hy)) ha hS fun r ns ids full hS=>w8e hS.1 hS.2 fun r ns ids full C=>Cnd.mk (fun _ _=>h _ _ _ (by simp)) fun _=>Cnd.mk (fun _=> ?_) fun _=> ?_
 ·exact⟨by unfold InI;omega,by unfold Sml;simp;omega,by unfold InI;omega,⟨by omega,by omega,by simp;omega,C.st hS⟩,by omega⟩
 ·exact⟨by unfold InI;omega,⟨by omega,by omega,by omega,C.st hS⟩,by omega⟩
theorem j7p{l m:List ByteArray}(hl:Asc l)(hs: ∀x∈l,x∈m):l.length<=m.length:=j80 (j3h hl) hs
theorem j7q{edges:List Edg}{node:ByteArray}{K:List ByteArray->Prop}(hE:edges.length<=100000)(h: ∀r,Asc r->(∀x∈r,x∈edges.map Edg.dst)->K r):q90 edges node K:=by
 unfold q90 z4h
 have len: ∀{o:List ByteArray},Asc o->(∀x∈o,x∈edges.map Edg.dst)->o.length<=edges.length:=fun a b=>by have:=j7p a b;simpa using this
 refine Lp2.ind (fun (o t:List ByteArray)=>Asc o/\(∀x∈o,x∈edges.map Edg.dst)/\t.length<=o.length+1) (fun o t=>2*(edges.length - o.length)+t.length) ?_ ⟨j7h,by simp,by simp⟩
 rintro o t ⟨ho,hs,ht⟩ _
 refine Cnd.mk (fun hc=>⟨by omega,fun n hn=>⟨by omega,?_⟩⟩) fun _=>h o ho hs
 have hlo:=len ho hs
 refine Lp3.ind (fun (o' t':List ByteArray) (i:Int)=>0<=i/\i<=edges.length/\Asc o'/\(∀x∈o',x∈edges.map Edg.dst)/\t'.length<=o'.length/\2*(edges.length - o'.length)+t'.length<2*(edges.length - o.length)+t.length) (fun _ _ (i:Int)=>(edges.length - i).toNat) ?_ ⟨by omega,by omega,ho,hs,by simp;omega,by simp;omega⟩
 rintro o' t' i ⟨i0,i1,ho',hs',ht',hm⟩ _
 have hlo':=len ho' hs'
 refine Cnd.mk (fun hc=>⟨by omega,fun e he=>Cnd.mk (fun _=>⟨by omega,fun e he=>z9c fun r hr=>Cnd.mk (fun _=>⟨by unfold InI;omega,⟨by omega,by omega,ho',hs',ht',hm⟩,by omega⟩) fun hn=>⟨by omega,fun e2 he2=> ?_⟩⟩) fun _=>⟨by unfold InI;omega,⟨by omega,by omega,ho',hs',ht',hm⟩,by omega⟩⟩) fun _=>⟨⟨ho',hs',by omega⟩,hm⟩
 rw[he] at he2;cases he2
 refine z9h ho' (by omega) fun q hq hmem=>⟨by omega,fun e3 he3=> ?_⟩
 rw[he] at he3;cases he3
 have hin:e.dst∈edges.map Edg.dst:=List.mem_map.2 ⟨e,getm he,rfl⟩
 have hq2: ∀x∈q,x∈edges.map Edg.dst:=fun x hx=>by
  rcases (hmem x).1 hx with hx|rfl
  ·exact hs' x hx
  ·exact hin
 have hlq:=len hq hq2
 have hne:e.dst∉o':=fun hx=>hn (hr.2 hx)
 have hlen:o'.length+1<=q.length:=by
  have h1:(e.dst::o').Nodup:=List.nodup_cons.2 ⟨hne,j3h ho'⟩
  exact j80 h1 fun x hx=>(hmem x).2 (by rcases List.mem_cons.1 hx with rfl|hx<;>simp[*])
 have goal:Sml ([]++t').length/\Sml ([]++t'++[e.dst]).length/\InI (i+1)/\((0<=i+1/\i+1<=edges.length/\Asc q/\(∀x∈q,x∈edges.map Edg.dst)/\([]++t'++[e.dst]).length<=q.length/\2*(edges.length - q.length)+([]++t'++[e.dst]).length<2*(edges.length - o.length)+t.length)/\(edges.length - (i+1)).toNat<(edges.length - i).toNat):=
  ⟨by unfold Sml;simp;omega,by unfold Sml;simp;omega,by unfold InI;omega,⟨by omega,by omega,hq,hq2,by simp;omega,by simp;omega⟩,by omega⟩
 exact⟨goal,goal⟩
end Go.En
end
noncomputable section
set_option maxRecDepth 100000
namespace Go.En
open Go Go.Fl Go.Fl.Lk Go.Fx Go.Dg
theorem j5e{nodes:List ByteArray}{edges:List Edg}{K:List ByteArray->Prop}(hN:nodes.length<=100000)(hE:edges.length<=100000)(h: ∀r,Asc r->(∀x∈r,x∈nodes)->K r):q6n nodes edges K:=by
 unfold q6n z1f
 refine Lp2.ind (fun (o:List ByteArray) (i:Int)=>0<=i/\i<=nodes.length/\Asc o/\ ∀x∈o,x∈nodes) (fun _ (i:Int)=>(nodes.length - i).toNat) ?_ ⟨by omega,by omega,j7h,by simp⟩
 rintro o i ⟨i0,i1,ho,hs⟩ _
 have hlo:=j7p ho hs
 refine Cnd.mk (fun hc=>⟨by omega,fun n hn=>⟨by omega,fun m hm=>j7q hE fun q _ _=>z9c fun r _=>Cnd.mk (fun _=>⟨by omega,fun p hp=>z9h ho (by omega) fun o' ho' hmem=>⟨by unfold InI;omega,⟨by omega,by omega,ho',fun x hx=> ?_⟩,by omega⟩⟩) fun _=>⟨by unfold InI;omega,⟨by omega,by omega,ho,hs⟩,by omega⟩⟩⟩) fun _=>h o ho hs
 rcases (hmem x).1 hx with hx|rfl
 ·exact hs x hx
 ·exact getm hp
theorem z5r{nodes:List ByteArray}{edges:List Edg}{K:ByteArray->Bool->Prop}(hN:nodes.length<=100000)(hE:edges.length<=100000)(hs: ∀x∈nodes,x.size<=100)(h: ∀s b,s.size<=100->K s b):q6o nodes edges K:=by
 unfold q6o z1g
 exact j5e hN hE fun r _ hr _=>Cnd.mk (fun _=>h _ _ sz0) fun hc=>⟨by omega,fun y hy=>h _ _ (hs y (hr y (getm hy)))⟩
theorem j2y: ∀(n:Nat) {l:List ByteArray} {e:Ex} {K:List ByteArray->Prop},ExS n e->Asc l->l.length+lim n<=1000000->(∀r,Asc r->r.length<=l.length+lim n->K r)->q35 l e K:=by
 intro n l e K he hl hB h X hX
 induction n using Nat.strongRecOn generalizing l e K with
 |_ n ih=>
 refine hX _ _ _ ?_
 unfold q8d
 have lp:1<=lim n:=by cases n<;>simp[lim]
 refine Jn1.mk (fun r=>Asc r/\r.length<=l.length+1) (Cnd.mk (fun _=>z9h hl (by omega) fun r hr hmem=>⟨hr,?_⟩) fun _=>⟨hl,by omega⟩) fun r hr=> ?_
 ·have:=j7p hr (m:=e.3::l) fun x hx=>by rcases (hmem x).1 hx with hx|rfl<;>simp[*]
  simpa using this
 ·obtain⟨hr,hlen⟩:=hr
  have hk:=he.kids
  cases n with
  |zero=>
   have hk0:e.kids=[]:=he.2.2.2
   refine Lp2.ind (fun (q:List ByteArray) (i:Int)=>q=r/\0<=i) (fun _ _=>0) ?_ ⟨rfl,by omega⟩
   rintro q i ⟨rfl,i0⟩ _
   refine Cnd.mk (fun hc=> ?_) fun _=>h _ hr (by simp[lim];omega)
   rw[hk0]
   exact⟨by rw[hk0] at hc;simp at hc;omega,fun y hy=>by simp at hy⟩
  |succ n=>
  refine Lp2.ind (fun (q:List ByteArray) (i:Int)=>0<=i/\i<=e.kids.length/\Asc q/\q.length<=r.length+i.toNat*lim n) (fun _ (i:Int)=>(e.kids.length - i).toNat) ?_ ⟨by omega,by omega,hr,by simp⟩
  rintro q i ⟨i0,i1,hq,hql⟩ _
  have hle:i.toNat*lim n<=3*lim n:=Nat.mul_le_mul_right _ (by omega)
  have hB:l.length+(1+3*lim n)<=1000000:=hB
  refine Cnd.mk (fun hc=>⟨by omega,fun y hy=> ?_⟩) fun _=>h _ hq (by show q.length<=l.length+(1+3*lim n);omega)
  obtain⟨m,hm,hk⟩:=he.kid (getm hy)
  obtain rfl:m=n:=by omega
  rw[Ww]
  have hle2:i.toNat*lim m<=2*lim m:=Nat.mul_le_mul_right _ (by omega)
  refine ih m (by omega) hk hq (by omega) fun s hs hsl=>⟨by unfold InI;omega,⟨by omega,by omega,hs,?_⟩,by omega⟩
  rw[show (i+1).toNat=i.toNat+1 by omega,Nat.add_mul,Nat.one_mul];omega
theorem j2z{e:Ex}{K:List ByteArray->Prop}(he:ExS 4 e)(h: ∀r,Asc r->r.length<=121->K r):q36 e K:=by
 unfold q36 q8e
 rw[Ww]
 exact j2y 4 he j7h (by decide) fun r hr hl=>h r hr (by rw[lim4] at hl;simpa using hl)
theorem j5f{l:List Seg}{K:List Edg->Prop}(hl:l.length<=100)(hs: ∀g∈l,SegS g)(h: ∀r,r.length<=100000->K r):q6m l K:=by
 unfold q6m z1e
 refine Lp2.ind (fun (r:List Edg) (i:Int)=>0<=i/\i<=l.length/\r.length<=i.toNat*121) (fun _ (i:Int)=>(l.length - i).toNat) ?_ ⟨by omega,by omega,by simp⟩
 rintro r i ⟨i0,i1,hr⟩ _
 refine Cnd.mk (fun hc=>⟨by omega,fun g hg=> ?_⟩) fun _=>h _ (by omega)
 dsimp only;rw[Ww]
 refine j2z (hs g (getm hg)).cond fun q _ hq=> ?_
 refine Lp2.ind (fun (p:List Edg) (j:Int)=>0<=j/\j<=q.length/\p.length<=r.length+j.toNat) (fun _ (j:Int)=>(q.length - j).toNat) ?_ ⟨by omega,by omega,by simp⟩
 rintro p j ⟨j0,j1,hp⟩ _
 exact Cnd.mk (fun hc=>⟨by omega,fun _ _=>⟨by omega,fun _ _=>⟨by unfold Sml;simp;omega,by unfold InI;omega,⟨by omega,by omega,by simp;omega⟩,by omega⟩⟩⟩) fun _=>⟨by unfold InI;omega,⟨by omega,by omega,by omega⟩,by omega⟩
theorem j1f{l:List Decl}{kind name:ByteArray}{K:Int->Prop}(h: ∀r,K r):q00 l kind name K:=by
 unfold q00
 refine Lp1.ind (fun (i:Int)=>0<=i/\i<=l.length) (fun (i:Int)=>(l.length - i).toNat) ?_ ⟨by omega,by omega⟩
 rintro i ⟨i0,i1⟩
 (repeat' (first|exact h _|assumption|(unfold InI;omega)|omega|refine Cnd.mk (fun _=> ?_) fun _=> ?_|refine⟨?_,?_⟩|intro _))
theorem z5b: ∀(n:Nat) {l:List Decl} {segs:List ByteArray} {e:Ex} {K:Int->Prop},ExS n e->(∀r,K r)->q5p l segs e K:=by
 intro n l segs e K he h X hX
 induction n using Nat.strongRecOn generalizing e K with
 |_ n ih=>
 refine hX _ _ _ _ ?_
 unfold z77
 have lp:Lp1 (fun (Qc:Int) q18=>e.5.length<=(9223372036854775807:Nat)->Cnd (Qc<(↑e.5.length:Int)) (((0:Int)<=Qc/\Qc<(↑e.5.length:Int))/\ ∀y2,e.5[Qc.toNat]? =some y2->X l segs (Ex.mk y2.1 y2.2 y2.3 y2.4 y2.5) fun Qx=>Cnd (Qx=(0:Int)) (InI (Qc+(1:Int))/\q18 (Qc+(1:Int))) (K Qx)) (K (0:Int))) (0:Int):=by
  refine Lp1.ind (fun (i:Int)=>0<=i/\i<=e.kids.length) (fun (i:Int)=>(e.kids.length - i).toNat) ?_ ⟨by omega,by omega⟩
  rintro i ⟨i0,i1⟩ _
  refine Cnd.mk (fun hc=>⟨by omega,fun y hy=> ?_⟩) fun _=>h _
  obtain⟨m,hm,hk⟩:=he.kid (getm hy)
  rw[Ww]
  exact ih m (by omega) hk fun r=>Cnd.mk (fun _=>⟨by unfold InI;omega,⟨by omega,by omega⟩,by omega⟩) fun _=>h _
 have jn:Jn0 (Lp1 (fun (Qc:Int) q18=>e.5.length<=(9223372036854775807:Nat)->Cnd (Qc<(↑e.5.length:Int)) (((0:Int)<=Qc/\Qc<(↑e.5.length:Int))/\ ∀y2,e.5[Qc.toNat]? =some y2->X l segs (Ex.mk y2.1 y2.2 y2.3 y2.4 y2.5) fun Qx=>Cnd (Qx=(0:Int)) (InI (Qc+(1:Int))/\q18 (Qc+(1:Int))) (K Qx)) (K (0:Int))) (0:Int)) fun Qc=>Jp e.1 fun Qe=>Cnd (Qe=true) (q00 l e.2 e.3 fun Qr=>Cnd (Qr=(0:Int)) (K (11:Int)) (q22 Qr (Ex.mk e.1 e.2 e.3 e.4 e.5) fun Q7=>Cnd (Q7=true) Qc (K (8:Int)))) Qc:=
  ⟨True,fun _=>lp,q05 fun _ _=>Cnd.mk (fun _=>j1f fun _=>Cnd.mk (fun _=>h _) fun _=>w0g fun _=>Cnd.mk (fun _=>trivial) fun _=>h _) fun _=>trivial⟩
 exact Cnd.mk (fun _=>z9c fun _ _=>Cnd.mk (fun _=>jn) fun _=>h _) fun _=>jn
theorem z9m{l:List Decl}{s:Srv}{K:Int->Prop}(h: ∀r,K r):q91 l s K:=by
 unfold q91 z4i
 (repeat' (first|exact h _|refine j1f fun _=> ?_|assumption|(unfold InI;omega)|omega|refine Cnd.mk (fun _=> ?_) fun _=> ?_|refine⟨?_,?_⟩|intro _))
theorem z6j{v:Envt}{f:Flg}{K:Int->Prop}(hv:EnvS v)(hf:FlgS f)(h: ∀r,K r):Rr v f K:=by
 unfold Rr q26
 have ev:Envt.mk (Sett.mk v.1.1 v.1.2 v.1.3) v.2 v.3 v.4 v.5 v.6=v:=rfl
 rw[ev]
 have hsl:=hv.slen
 have hrl:=hf.rlen
 refine z1x (by omega) ?_
 refine Lp2.ind (fun (i:Int) (_:List ByteArray)=>0<=i/\i<=f.needs.length) (fun (i:Int) _=>(f.needs.length - i).toNat) ?_ ⟨by omega,by omega⟩
 rintro i ks ⟨i0,i1⟩ _
 refine Cnd.mk (fun hc=>⟨by omega,fun q hq=>z3d fun r hr=>Cnd.mk (fun _=>h _) fun hn=>⟨by omega,fun q hq=>⟨?_,fun g hg _=>Cnd.mk (fun _=>h _) fun _=>⟨by unfold InI;omega,⟨by omega,by omega⟩,by omega⟩⟩⟩⟩) fun _=> ?_
 ·rcases hr with ⟨a,_⟩|⟨a,b,_⟩<;>omega
 refine Lp2.ind (fun (i:Int) (_:List ByteArray)=>0<=i/\i<=f.rules.length) (fun (i:Int) _=>(f.rules.length - i).toNat) ?_ ⟨by omega,by omega⟩
 rintro i ks ⟨i0,i1⟩ _
 refine Cnd.mk (fun hc=>⟨by omega,fun r hr=> ?_⟩) fun _=> ?_
 ·dsimp only;rw[Ww]
  exact z5b 4 (hf.rules r (getm hr)).cond fun _=>Cnd.mk (fun _=>⟨by omega,fun r hr=>z9m fun _=>Cnd.mk (fun _=>⟨by unfold InI;omega,⟨by omega,by omega⟩,by omega⟩) fun _=>h _⟩) fun _=>h _
 ·exact z9m fun _=>Cnd.mk (fun _=>q4i (by omega) (fun r hr=>(hf.rules r hr).cond) fun o n b ho=>Cnd.mk (fun _ _=>Cnd.mk (fun _=>h _) fun _=>h _) fun _=>h _) fun _=>h _
theorem q7n{v:Envt}{i:Int}{K:Int->Prop}(hv:EnvS v)(i0:0<=i)(i1:i<v.experiments.length)(h: ∀r,K r):Wi v i K:=by
 unfold Wi Up
 have ev:Envt.mk (Sett.mk v.1.1 v.1.2 v.1.3) v.2 v.3 v.4 v.5 v.6=v:=rfl
 rw[ev]
 have hsl:=hv.slen
 have hxl:=hv.xlen
 refine⟨⟨i0,i1⟩,fun x hx=>q42 fun k hk=>z3d fun g hg=>Cnd.mk (fun _=>h _) fun hk0=>Cnd.mk (fun _=>h _) fun hg0=> ?_⟩
 have hX:=hv.exps x (getm hx)
 have kb:0<=k/\k<(v.layers.length:Int):=by rcases hk with ⟨a,_⟩|⟨a,b,_⟩<;>omega
 have gb:0<=g/\g<(v.flags.length:Int):=by rcases hg with ⟨a,_⟩|⟨a,b,_⟩<;>omega
 refine Lp1.ind (fun (j:Int)=>0<=j/\j<=x.arms.length) (fun (j:Int)=>(x.arms.length - j).toNat) ?_ ⟨by omega,by omega⟩
 rintro j ⟨j0,j1⟩ _
 refine Cnd.mk (fun hc=>⟨by omega,fun _ _=>⟨gb,fun _ _ _=>Cnd.mk (fun _=>h _) fun _=>⟨by unfold InI;omega,⟨by omega,by omega⟩,by omega⟩⟩⟩) fun _=> ?_
 refine z1x (by omega) ?_
 rw[Ww]
 refine z5b 4 hX.cond fun _=>Cnd.mk (fun _=>Cnd.mk (fun _=>h _) fun _=>⟨kb,fun l hl=> ?_⟩) fun _=>h _
 refine Lp3.ind (fun (t:List Spn) (j:Int) (_:List ByteArray)=>0<=j/\j<=v.experiments.length/\(t.length:Int)<=1+j*10000) (fun _ (j:Int) _=>(v.experiments.length - j).toNat) ?_ ⟨by omega,by omega,by simp⟩
 rintro t j ks ⟨j0,j1,ht⟩
 refine Cnd.mk (fun hc=>⟨by omega,fun y hy=> ?_⟩) fun _=>j2t fun c _ _=>Cnd.mk (fun _=>h _) fun _=> ?_
 ·have hcl:=(hv.exps y (getm hy)).claims.len
  exact Cnd.mk (fun _=>Cnd.mk (fun _=>⟨by unfold InI;omega,⟨by omega,by omega,by omega⟩,by omega⟩) fun _=>⟨by unfold Sml;simp;omega,by unfold InI;omega,⟨by omega,by omega,by simp;omega⟩,by omega⟩) fun _=>⟨by unfold InI;omega,⟨by omega,by omega,by omega⟩,by omega⟩
 ·refine Lp4.ind (fun (j:Int) (_ _:List Spn) (_:List ByteArray)=>0<=j/\j<=v.experiments.length) (fun (j:Int) _ _ _=>(v.experiments.length - j).toNat) ?_ ⟨by omega,by omega⟩
  rintro j a b c ⟨j0,j1⟩
  (repeat' (first|exact h _|assumption|(unfold InI;omega)|omega|refine Cnd.mk (fun _=> ?_) fun _=> ?_|refine⟨?_,?_⟩|intro _))
theorem z3f{v:Envt}{K:ByteArray->Int->Prop}(hv:EnvS v)(h: ∀s r,K s r):Ga v K:=by
 unfold Ga Bx
 have hsl:=hv.slen
 have hfl:=hv.flen
 have hxl:=hv.xlen
 have ev:Envt.mk (Sett.mk v.1.1 v.1.2 v.1.3) v.2 v.3 v.4 v.5 v.6=v:=rfl
 rw[ev]
 have s8:(ByteArray.mk (Array.mk [115,101,103,109,101,110,116,32])).size=8:=rfl
 have s5:(ByteArray.mk (Array.mk [102,108,97,103,32])).size=5:=rfl
 have s11:(ByteArray.mk (Array.mk [101,120,112,101,114,105,109,101,110,116,32])).size=11:=rfl
 have sk: ∀x∈v.segments.map Seg.key,x.size<=100:=fun x hx=>by obtain⟨g,hg,rfl⟩:=List.mem_map.1 hx;exact (hv.segs g hg).key
 have fk: ∀x∈v.flags.map Flg.key,x.size<=100:=fun x hx=>by obtain⟨g,hg,rfl⟩:=List.mem_map.1 hx;exact (hv.flags g hg).key
 have nlen:(v.flags.flatMap q6z).length<=4*v.flags.length:=by
  have: ∀l:List Flg,(∀f∈l,FlgS f)->(l.flatMap q6z).length<=4*l.length:=by
   intro l
   induction l with
   |nil=>simp
   |cons f l ih=>intro hf;have h1:=(hf f (by simp)).nlen;have h2:=ih fun g hg=>hf g (by simp[hg]);simp only[List.flatMap_cons,List.length_append,q6z,List.length_map,List.length_cons] at*;omega
  exact this _ hv.flags
 refine z49 hv fun _=>Cnd.mk (fun _=>z1x (by omega) ?_) fun _=>h _ _
 refine Lp2.ind (fun (i:Int) (ks:List ByteArray)=>0<=i/\i<=v.segments.length/\ks=v.segments.map Seg.key) (fun (i:Int) _=>(v.segments.length - i).toNat) ?_ ⟨by omega,by omega,rfl⟩
 rintro i ks ⟨i0,i1,rfl⟩ _
 refine Cnd.mk (fun hc=>⟨by omega,fun g hg=>Cnd.mk (fun _=>⟨by unfold InI;omega,⟨by omega,by omega,rfl⟩,by omega⟩) fun _=>⟨by omega,fun g hg=> ?_⟩⟩) fun _=> ?_
 ·dsimp only;rw[Ww]
  refine z5b 4 (hv.segs g (getm hg)).cond fun _=>Cnd.mk (fun _=>⟨by unfold InI;omega,⟨by omega,by omega,rfl⟩,by omega⟩) fun _=>⟨by omega,fun g hg=>⟨?_,h _ _⟩⟩
  have:=(hv.segs g (getm hg)).key
  rw[s8];omega
 refine j5f (by omega) hv.segs fun es hes=>z5r (by simp;omega) hes sk fun s b hs=>Cnd.mk (fun _=>⟨by rw[s8];omega,h _ _⟩) fun _=> ?_
 refine Lp3.ind (fun (i:Int) (_:List ByteArray) (_:List Edg)=>0<=i/\i<=v.flags.length) (fun (i:Int) _ _=>(v.flags.length - i).toNat) ?_ ⟨by omega,by omega⟩
 rintro i ks es ⟨i0,i1⟩ _
 refine Cnd.mk (fun hc=>⟨by omega,fun f hf=>z6j hv (hv.flags f (getm hf)) fun _=>Cnd.mk (fun _=>⟨by unfold InI;omega,⟨by omega,by omega⟩,by omega⟩) fun _=>⟨by omega,fun g hg=>⟨?_,h _ _⟩⟩⟩) fun _=> ?_
 ·have:=(hv.flags g (getm hg)).key
  rw[s5];omega
 refine z9f (by omega) (z6e (by omega) (fun f hf=>by have:=(hv.flags f hf).nlen;omega) (z5r (by simp;omega) (by omega) fk fun s b hs=>Cnd.mk (fun _=>⟨by rw[s5];omega,h _ _⟩) fun _=> ?_))
 refine Lp5.ind (fun (i:Int) (_:List ByteArray) (_ _:List Edg) (_:List ByteArray)=>0<=i/\i<=v.experiments.length) (fun (i:Int) _ _ _ _=>(v.experiments.length - i).toNat) ?_ ⟨by omega,by omega⟩
 rintro i a b c d ⟨i0,i1⟩ _
 refine Cnd.mk (fun hc=>q7n hv i0 hc fun _=>Cnd.mk (fun _=>⟨by unfold InI;omega,⟨by omega,by omega⟩,by omega⟩) fun _=>⟨by omega,fun x hx=>⟨?_,h _ _⟩⟩) fun _=>h _ _
 have:=(hv.exps x (getm hx)).key
 rw[s11];omega
theorem z5s{v:Envt}{K:Bool->Prop}(hv:EnvS v)(h: ∀r,K r):By v K:=by
 unfold By z1h
 exact z3f hv fun _ _=>h _
end Go.En
end
noncomputable section
set_option maxRecDepth 100000
namespace Go.En
open Go Go.Fl Go.Fl.Lk Go.Fx Go.Sg
def sgK:List ByteArray:=[ByteArray.mk (Array.mk [97,108,112,104,97]),ByteArray.mk (Array.mk [98,101,116,97]),ByteArray.mk (Array.mk [103,97,109,109,97])]
structure GS(l:List Seg):Prop where
 keys:l.map Seg.key=sgK.take l.length
 cond: ∀(i:Nat) g,l[i]? =some g->DrE (sgK.take i) 20000 g.5
theorem DrE.le{segs:List ByteArray}{a b:Nat}{e:Ex}(h:DrE segs a e)(hab:a<=b):DrE segs b e:=⟨Nat.le_trans h.wt hab,h.nms,h.ev⟩
theorem DrE.eta{segs:List ByteArray}{w:Nat}{e:Ex}(h:DrE segs w e):DrE segs w (Ex.mk e.1 e.2 e.3 e.4 e.5):=by rw[Ww];exact h
theorem w8f:GS []:=⟨rfl,by simp⟩
theorem w68{segs:List ByteArray}:DrE segs 20000 (Ex.mk 0 (ByteArray.mk (Array.mk [])) (ByteArray.mk (Array.mk [])) [] []):=
 ⟨by simp[wt,wtV,wtL],fun x hx=>by rw[j1c] at hx;rcases hx with ⟨h,_⟩|⟨k,hk,_⟩<;>simp at*,EvB.mk' (by simp) (by simp)⟩
theorem j20{list:List Int}{at_ hold:Int}{salt hkind:ByteArray}{attrs:List Decl}{flags:List Flg}{layers:List Lay_}{expers:List Exper}
  {K:Int->ByteArray->ByteArray->Int->List Decl->List Seg->List Flg->List Lay_->List Exper->Prop}(hD:DS list at_)
  (h: ∀a segs,DS list a->segs.length<=3->(∀g∈segs,SegS g)->GS segs->K a salt hkind hold attrs segs flags layers expers):q30 list at_ salt hkind hold attrs [] flags layers expers K:=by
 unfold q30 q72
 refine Qf hD (by decide) fun n a n0 n1 hD=>z3c n0 (by simp only[List.length_cons,List.length_nil];omega) ?_
 rw[show ([ByteArray.mk (Array.mk [97,108,112,104,97]),ByteArray.mk (Array.mk [98,101,116,97]),ByteArray.mk (Array.mk [103,97,109,109,97])]:List ByteArray)=sgK from rfl]
 have nms: ∀s∈List.take n.toNat sgK,s.size<=100:=fun s hs=>by
  have:=List.mem_of_mem_take hs
  have k: ∀s∈sgK,s.size<=100:=by decide
  exact k s this
 have hlen:(List.take n.toNat sgK).length<=3:=by
  rw[List.length_take];have:sgK.length=3:=rfl;omega
 have hfst: ∀i,i<=(List.take n.toNat sgK).length->(List.take n.toNat sgK).take i=sgK.take i:=fun i hi=>by
  rw[List.take_take,Nat.min_eq_left]
  rw[List.length_take] at hi;omega
 generalize List.take n.toNat _=l at nms hlen hfst
 refine Lp3.ind (fun (i a:Int) (gs:List Seg)=>DS list a/\0<=i/\i<=l.length/\(gs.length:Int)=i/\(∀g∈gs,SegS g)/\GS gs) (fun (i:Int) _ _=>(3 - i).toNat) ?_ ⟨hD,Int.le_refl 0,by omega,rfl,by simp,w8f⟩
 rintro i a gs ⟨hD,i0,i1,hl,hg,hgs⟩ _
 refine Cnd.mk (fun hc=>⟨by omega,fun y hy=>z9b hD fun inc a hi1 _ hD=>z9b hD fun exc a he1 _ hD=> ?_⟩) fun _=>h _ _ hD (by omega) hg hgs
 refine Jn2.mk (fun k a=>k.size<=100/\DS list a) (Qf hD (by decide) fun r a r0 r1 hD=>Cnd.mk (fun _=>⟨by decide,hD⟩) fun _=>⟨by decide,hD⟩) fun kind a hx=> ?_
 obtain⟨hkd,hD⟩:=hx
 refine Jn1.mk (fun x=>(ExS 4 (Ex.mk x.1 x.2.1 x.2.2.1 x.2.2.2.1 x.2.2.2.2.1)/\DrE (l.take i.toNat) 20000 (Ex.mk x.1 x.2.1 x.2.2.1 x.2.2.2.1 x.2.2.2.2.1))/\DS list x.2.2.2.2.2.1) (Qf hD (by decide) fun r a r0 r1 hD=>Cnd.mk (fun _=>⟨by omega,?_⟩) fun _=>⟨⟨ExS.le (n:=0) ⟨.nil,⟨sz0,sz0⟩,opl (by simp),rfl⟩ (by omega),w68⟩,hD⟩) fun x hx=> ?_
 ·exact z45 ((j7j fun s hs=>nms s (List.mem_of_mem_take (List.mem_of_mem_drop hs))).and w37) 2 (by omega) (by decide) (by decide) hD fun e a he hD=>⟨⟨he.1.eta,(he.2.le (by decide)).eta⟩,hD⟩
 ·have hk:l[i.toNat]? =some y:=hy
  refine⟨by unfold Sml;simp;omega,by unfold InI;omega,⟨hx.2,by omega,by omega,by simp;omega,Jw hg ⟨nms _ (getm hy),hkd,hi1,he1,hx.1.1⟩,?_,fun j g hj=> ?_⟩,by omega⟩
  ·rw[List.map_append,hgs.keys,List.length_append,List.length_singleton,←hfst _ (by omega),←hfst _ (by omega),List.take_add_one,show l[gs.length]? =some y by rw[←hk];congr 1;omega]
   rfl
  ·rcases Nat.lt_or_ge j gs.length with hlt|hge
   ·rw[List.getElem?_append_left hlt] at hj;exact hgs.cond j g hj
   ·rw[List.getElem?_append_right hge] at hj
    have hj0:j=gs.length:=by
     rcases Nat.eq_zero_or_pos (j - gs.length) with h0|h0
     ·omega
     ·rw[List.getElem?_eq_none (by simp;omega)] at hj;cases hj
    subst hj0
    simp only[Nat.sub_self,List.getElem?_cons_zero,Option.some.injEq] at hj
    subst hj
    rw[←hfst _ (by omega),show gs.length=i.toNat by omega]
    exact hx.1.2
end Go.En
end
noncomputable section
set_option maxRecDepth 100000
namespace Go.En
open Go Go.Fl Go.Fl.Lk Go.Fx Go.Dg
theorem j21{l:List ByteArray}{n:Nat}{p:ByteArray->Prop}(h: ∀x∈l,p x): ∀x∈l.take n,p x:=fun x hx=>h x (List.mem_of_mem_take hx)
theorem w0o{ds:List Decl}(hd: ∀d∈ds,d.kind.size<=100/\d.name.size<=100):EnvS (Envt.mk (Sett.mk (ByteArray.mk (Array.mk [])) (ByteArray.mk (Array.mk [])) 0) ds [] [] [] []):=
 ⟨sz0,hd,by simp,by simp,by simp,by simp,by simp,by simp,by simp,by simp⟩
theorem v4c:ExS 4 (Ex.mk 1 (ByteArray.mk (Array.mk [])) (ByteArray.mk (Array.mk [])) [] []):=ExS.le (n:=0) ⟨VsS.nil,⟨sz0,sz0⟩,opl (by simp),rfl⟩ (by decide)
end Go.En
end
noncomputable section
set_option maxRecDepth 100000
namespace Go.En
open Go Go.Fl Go.Fl.Lk Go.Fx Go.Dg
def Cov(l:List Rng):Prop:= ∀b:Int,0<=b->b<10000-> ∃r∈l,r.1<=b/\b<r.2
theorem z5t{list:List Int}{at_ n:Int}{K:List Rng->Int->Prop}(hD:DS list at_)(hn:1<=n)(hn':n<=100)(h: ∀l a,SplS n l->Cov l->DS list a->K l a):q73 list at_ n K:=by
 unfold q73 z7y
 have cv1: ∀{l:List Rng} {x y z:Int},(∀b:Int,0<=b->b<x-> ∃r∈l,r.1<=b/\b<r.2)-> ∀b:Int,0<=b->b<y-> ∃r∈l++[Rng.mk x y z],r.1<=b/\b<r.2:=fun {l x y z} hc b h0 h1=>by
  by_cases hb:b<x
  ·obtain⟨r,hr,hh⟩:=hc b h0 hb
   exact⟨r,List.mem_append_left _ hr,hh⟩
  ·exact⟨_,List.mem_append_right _ List.mem_cons_self,by simp only;omega,h1⟩
 refine Jn4.mk (fun l at_ last a=>DS list a/\l.length<=3/\0<=at_/\(∀b:Int,0<=b->b<at_-> ∃r∈l,r.1<=b/\b<r.2)/\ ∀r∈l,0<=r.lo/\r.hi<=10000/\1<=r.variation/\r.variation<=n) ?_ ?_
 ·refine Lp5.ind (fun l at_ last i a=>DS list a/\0<=i/\i<=3/\(l.length:Int)=i/\0<=at_/\at_<=10000/\0<=last/\last<=n/\(∀b:Int,0<=b->b<at_-> ∃r∈l,r.1<=b/\b<r.2)/\ ∀r∈l,0<=r.lo/\r.hi<=10000/\1<=r.variation/\r.variation<=n) (fun _ _ _ i _=>(3 - i).toNat) ?_ ⟨hD,by omega,by omega,rfl,by omega,by omega,by omega,by omega,fun b h0 h1=>by omega,by simp⟩
  rintro l at_ last i a ⟨hD,i0,i1,hl,a0,a1,l0,l1,hcv,hr⟩
  refine Qf hD (by decide) fun q a q0 q1 hD=>Cnd.mk (fun _=>Cnd.mk (fun _=>⟨by unfold InI;omega,q04 hD (by decide) fun w a w0 w1 hD=>⟨by unfold InI;omega,Qf hD hn fun v a v0 v1 hD=>⟨by unfold InI;omega,?_⟩⟩⟩) fun _=> ?_) fun _=> ?_
  ·have m0:=Int.tmod_nonneg n (show 0<=1+v by omega);have m1:=Int.tmod_lt_of_pos (1+v) (b:=n) (by omega)
   refine Jn1.mk (fun v=>1<=v/\v<=n) (Cnd.mk (fun _=>⟨by omega,by unfold InI;omega,by omega,by omega⟩) fun _=>⟨by omega,by omega⟩) fun v hv=>Cnd.mk (fun _=>⟨hD,by omega,a0,hcv,hr⟩) fun _=> ?_
   exact⟨by unfold Sml;simp;omega,by unfold InI;omega,⟨hD,by omega,by omega,by simp;omega,by omega,by omega,by omega,by omega,cv1 hcv,Jw hr ⟨by simp only;omega,by simp only;omega,by simp only;omega,by simp only;omega⟩⟩,by omega⟩
  ·exact⟨hD,by omega,a0,hcv,hr⟩
  ·exact⟨hD,by omega,a0,hcv,hr⟩
 ·rintro l at_ last a ⟨hD,hl,a0,hcv,hr⟩
  refine Qf hD hn fun v a v0 v1 hD=>⟨by unfold InI;omega,?_⟩
  have m0:=Int.tmod_nonneg n (show 0<=1+v by omega);have m1:=Int.tmod_lt_of_pos (1+v) (b:=n) (by omega)
  refine Jn1.mk (fun v=>1<=v/\v<=n) (Cnd.mk (fun _=>⟨by omega,by unfold InI;omega,by omega,by omega⟩) fun _=>⟨by omega,by omega⟩) fun v hv=> ?_
  exact⟨by unfold Sml;simp;omega,h _ _ ⟨by simp;omega,Jw hr ⟨a0,by simp,hv.1,hv.2⟩⟩ (cv1 hcv) hD⟩
structure SrvD(n:Int)(s:Srv):Prop where
 ok:SrvS n s
 cov:s.variation=0->Cov s.split
theorem z5u{list:List Int}{at_ n:Int}{K:Srv->Int->Prop}(hD:DS list at_)(hn:1<=n)(hn':n<=100)(h: ∀s a,SrvD n s->DS list a->K s a):z2i list at_ n K:=by
 unfold z2i z7z
 have tt: ∀s∈z2e,s.size<=100:=by decide
 have key:(ByteArray.mk (Array.mk [107,101,121])).size<=100:=by decide
 refine Qf hD (by decide) fun r a r0 r1 hD=>Cnd.mk (fun _=>Qf hD hn fun v a v0 v1 hD=>⟨by unfold InI;omega,h _ _ ⟨⟨sz0,⟨by simp only;omega,by simp only;omega⟩,⟨by simp,by simp⟩,sz0,sz0⟩,fun h0=>by simp only at h0;omega⟩ hD⟩) fun _=> ?_
 refine q5u hD fun t a ht hD=>z5t hD hn hn' fun l a hl hcv hD=>q16 fun ds _ hds=>Qf hD (by decide) fun q a q0 q1 hD _=> ?_
 have usr:(ByteArray.mk (Array.mk [117,115,101,114])).size<=100:=by decide
 have ok: ∀{k b:ByteArray},k.size<=100->b.size<=100->SrvD n (Srv.mk 0 k b t l):=fun hk hb=>⟨⟨hk,⟨by simp,by simp only;omega⟩,hl,hb,tt _ ht⟩,fun _=>hcv⟩
 refine Cnd.mk (fun _=>⟨by omega,fun y hy=>Cnd.mk (fun _=>h _ _ (ok usr key) hD) fun _=>⟨by omega,fun z hz=>⟨by omega,fun u hu=>h _ _ (ok (hds z (getm hz)).1 (hds u (getm hu)).2.1) hD⟩⟩⟩) fun _=>h _ _ (ok usr key) hD
theorem j5g{list:List Int}{at_ kind:Int}{K:Val->Int->Prop}(hk0:1<=kind)(hk1:kind<=5)(hD:DS list at_)(h: ∀r a,ValS r->r.kind=kind->DS list a->K r a):H6 list at_ kind K:=by
 unfold H6 z2g
 have tt: ∀s∈z2e,s.size<=100:=by decide
 have tv: ∀s∈q71,s.size<=100:=by decide
 have tl: ∀l∈z7t,l.length<=10/\ ∀s∈l,s.size<=100:=by decide
 refine Cnd.mk (fun _=> ?_) fun _=>Cnd.mk (fun _=>fun _=> ?_) fun _=>Cnd.mk (fun _=> ?_) fun _=>Cnd.mk (fun _=> ?_) fun _=> ?_
 ·exact Qf hD (by decide) fun r a r0 r1 hD=>h _ _ ⟨by unfold InI;simp only;omega,sz0,by simp,by simp⟩ rfl hD
 ·refine Qf hD (by decide) fun r a r0 r1 hD=>⟨⟨r0,r1⟩,fun y hy=>h _ _ ⟨?_,sz0,by simp,by simp⟩ rfl hD⟩
  have:=getm hy
  have k: ∀y∈[(0:Int),(1:Int),(17:Int),(18:Int),(19:Int),(-5:Int),(64:Int),(1099511627776:Int),(-1099511627776:Int)], -9223372036854775808<=y/\y<=9223372036854775807:=by decide
  exact k y this
 ·exact q5u hD fun r a hr hD=>h _ _ ⟨by unfold InI;simp,tt _ hr,by simp,by simp⟩ rfl hD
 ·exact Qf hD (by decide) fun r a r0 r1 hD=>⟨⟨r0,r1⟩,fun y hy=>h _ _ ⟨by unfold InI;simp,tv _ (getm hy),by simp,by simp⟩ rfl hD⟩
 ·refine Qf hD (by decide) fun r a r0 r1 hD=>⟨⟨r0,r1⟩,fun y hy=> ?_⟩
  obtain⟨a1,a2⟩:=tl _ (getm hy)
  exact⟨by unfold Sml;simp;omega,h _ _ ⟨by unfold InI;simp,sz0,by simpa using a1,by simpa using a2⟩ (by simp only;omega) hD⟩
def flK:List ByteArray:=[ByteArray.mk (Array.mk [102,97]),ByteArray.mk (Array.mk [102,98]),ByteArray.mk (Array.mk [102,99]),ByteArray.mk (Array.mk [102,100])]
def lyK:List ByteArray:=[ByteArray.mk (Array.mk [108,97]),ByteArray.mk (Array.mk [108,98])]
def exK:List ByteArray:=[ByteArray.mk (Array.mk [120,97]),ByteArray.mk (Array.mk [120,98]),ByteArray.mk (Array.mk [120,99])]
structure RulD(n:Int)(r:Rul):Prop where
 cond:DrE sgK 20000 r.cond
 serve:SrvD n r.serve
structure FlgD(prev:List Flg)(f:Flg):Prop where
 kind:1<=f.kind/\f.kind<=5
 kinds: ∀v∈f.variations,v.kind=f.kind
 off:1<=f.off/\f.off<=f.variations.length
 needs: ∀q∈f.needs,∃g∈prev,q.flag=g.key/\1<=q.variation/\q.variation<=g.variations.length
 nsub:(f.needs.map Prq.flag).Sublist (prev.map Flg.key)
 tgts: ∀t∈f.targets,(1<=t.variation/\t.variation<=f.variations.length)/\t.keys.length<=3
 rules: ∀r∈f.rules,RulD f.variations.length r
 dflt:SrvD f.variations.length f.dflt
theorem w69{l a:List ByteArray}{j:Nat}{k:ByteArray}(h:a.Sublist (l.take j))(hk:l[j]? =some k):(a++[k]).Sublist (l.take (j+1)):=by
 rw[List.take_add_one,hk];exact h.append (List.Sublist.refl _)
theorem w7a{l a:List ByteArray}{j:Nat}(h:a.Sublist (l.take j)):a.Sublist (l.take (j+1)):=by
 rw[List.take_add_one];exact h.trans (List.sublist_append_left _ _)
structure FlgsD(l:List Flg):Prop where
 keys:l.map Flg.key=flK.take l.length
 all: ∀(i:Nat) f,l[i]? =some f->FlgD (l.take i) f
structure ExpD(layers:List Lay_)(flags:List Flg)(x:Exper):Prop where
 cov:Cov x.arms
 cond:DrE sgK 20000 x.cond
 layer: ∃l∈layers,x.layer=l.key
 flag: ∃f∈flags,x.flag=f.key/\ ∀r∈x.arms,1<=r.variation/\r.variation<=f.variations.length
 salt:x.salt.size<=100
structure EnvD(v:Envt):Prop where
 salt:v.settings.salt.size<=100
 gs:GS v.segments
 flags:FlgsD v.flags
 layers:v.layers.map Lay_.key=lyK.take v.layers.length
 exps:(v.experiments.map Exper.key).Sublist exK
 exp: ∀x∈v.experiments,ExpD v.layers v.flags x
 al:v.attributes.length<=100
theorem j5h:FlgsD []:=⟨rfl,by simp⟩
theorem w0p{l:List Flg}{f:Flg}(h:FlgsD l)(hk:flK[l.length]? =some f.key)(hf:FlgD l f):FlgsD (l++[f]):=by
 refine⟨?_,fun i g hi=> ?_⟩
 ·rw[List.map_append,h.keys,List.length_append,List.length_singleton,List.take_add_one,hk];rfl
 ·rcases Nat.lt_or_ge i l.length with hlt|hge
  ·rw[List.getElem?_append_left hlt] at hi
   rw[List.take_append_of_le_length (by omega)]
   exact h.all i g hi
  ·have:=Qb hi
   rw[List.length_append,List.length_singleton] at this
   have e:i=l.length:=by omega
   subst e
   rw[List.getElem?_append_right (Nat.le_refl _),Nat.sub_self] at hi
   cases hi
   rw[List.take_left' rfl];exact hf
theorem w4f{a b:List ByteArray}{w:Nat}{e:Ex}(h:DrE a w e)(hs: ∀x∈a,x∈b):DrE b w e:=⟨h.wt,fun x hx=>hs x (h.nms x hx),h.ev⟩
theorem w0q{ds:List Decl}(hl:ds.length<=100):EnvD (Envt.mk (Sett.mk (ByteArray.mk (Array.mk [])) (ByteArray.mk (Array.mk [])) 0) ds [] [] [] []):=
 ⟨sz0,w8f,j5h,rfl,by simp,by simp,hl⟩
theorem w4g{l:List Seg}(h:GS l): ∀s∈l.map Seg.key,s∈sgK:=fun s hs=>by rw[h.keys] at hs;exact List.mem_of_mem_take hs
theorem v0l:DrE sgK 20000 (Ex.mk 1 (ByteArray.mk (Array.mk [])) (ByteArray.mk (Array.mk [])) [] []):=
 ⟨by simp[wt,wtV,wtL],fun x hx=>by rw[j1c] at hx;rcases hx with ⟨h,_⟩|⟨k,hk,_⟩<;>simp at*,EvB.mk' (by simp) (by simp)⟩
theorem w8g{l:List ByteArray}{n i:Nat}{y:ByteArray}(h:(l.take n)[i]? =some y):l[i]? =some y:=by
 rw[List.getElem?_take] at h
 split at h
 ·exact h
 ·cases h
theorem z5c{V:Envt->Prop}(hV: ∀(v:Envt) (K:Bool->Prop),EnvS v->(∀b,(b=true->V v)->K b)->By v K)(hV0: ∀ds,V (Envt.mk (Sett.mk (ByteArray.mk (Array.mk [])) (ByteArray.mk (Array.mk [])) 0) ds [] [] [] []))
  {list:List Int}{at_ now:Int}{K:Envt->Int->Prop}(hD:DS list at_)(h: ∀v a,EnvS v->EnvD v->V v->DS list a->K v a):Ur list at_ now K:=by
 unfold Ur q28
 have tt: ∀s∈z2e,s.size<=100:=by decide
 refine q16 fun attrs hal had=> ?_
 have hat: ∀d∈attrs,d.kind.size<=100/\d.name.size<=100:=fun d hd=>⟨(had d hd).1,(had d hd).2.1⟩
 refine Jn1.mk (fun x=>(x.1.size<=100/\x.2.1.size<=100)/\DS list x.2.2.2.1/\x.2.2.2.2.1=attrs) (Qf hD (by decide) fun r a _ _ hD=>Cnd.mk (fun _=>q5u hD fun t a ht hD=>q04 hD (by decide) fun w a _ _ hD=>⟨⟨tt _ ht,(by decide:(ByteArray.mk (Array.mk [117,115,101,114])).size<=100)⟩,hD,rfl⟩) fun _=>⟨⟨sz0,sz0⟩,hD,rfl⟩) ?_
 rintro⟨salt,hkind,hold,a,ds,u⟩ ⟨⟨hslt,hhk⟩,hD,hds⟩
 simp only at hslt hhk hD hds⊢
 subst hds
 refine j20 hD fun a segs hD hsl hsegs hgs=>Qf hD (by decide) fun n a n0 n1 hD=>z3c n0 (by simp only[List.length_cons,List.length_nil];omega) ?_
 have fin: ∀{flags:List Flg} {layers:List Lay_} {exps:List Exper} {a:Int},DS list a->flags.length<=4->(∀f∈flags,FlgS f)->layers.length<=2->(∀l∈layers,LayS l)->exps.length<=3->(∀x∈exps,ExpS x)->FlgsD flags->layers.map Lay_.key=lyK.take layers.length->(exps.map Exper.key).Sublist exK->(∀x∈exps,ExpD layers flags x)->
   By (Envt.mk (Sett.mk salt hkind hold) ds segs flags layers exps) fun b=>Cnd (b=true) (K (Envt.mk (Sett.mk salt hkind hold) ds segs flags layers exps) a) (Uc fun ds=>K (Envt.mk (Sett.mk (ByteArray.mk (Array.mk [])) (ByteArray.mk (Array.mk [])) 0) ds [] [] [] []) a):=fun hD h1 h2 h3 h4 h5 h6 e1 e2 e3 e4=>by
  have hv:EnvS (Envt.mk (Sett.mk salt hkind hold) ds segs _ _ _):=⟨hhk,hat,hsl,hsegs,h1,h2,h3,h4,h5,h6⟩
  exact hV _ _ hv fun b hb=>Cnd.mk (fun ht=>h _ _ hv ⟨hslt,hgs,e1,e2,e3,e4,by show ds.length<=100;omega⟩ (hb ht) hD) fun _=>q16 fun ds hal2 had=>h _ _ (w0o fun d hd=>⟨(had d hd).1,(had d hd).2.1⟩) (w0q (by omega)) (hV0 ds) hD
 have nms: ∀s∈List.take n.toNat [ByteArray.mk (Array.mk [102,97]),ByteArray.mk (Array.mk [102,98]),ByteArray.mk (Array.mk [102,99]),ByteArray.mk (Array.mk [102,100])],s.size<=100:=j21 (by decide)
 have hlen:(List.take n.toNat [ByteArray.mk (Array.mk [102,97]),ByteArray.mk (Array.mk [102,98]),ByteArray.mk (Array.mk [102,99]),ByteArray.mk (Array.mk [102,100])]).length<=4:=by
  rw[List.length_take];simp only[List.length_cons,List.length_nil];omega
 have hget: ∀(i:Nat) y,(List.take n.toNat [ByteArray.mk (Array.mk [102,97]),ByteArray.mk (Array.mk [102,98]),ByteArray.mk (Array.mk [102,99]),ByteArray.mk (Array.mk [102,100])])[i]? =some y->flK[i]? =some y:=fun i y hy=>w8g hy
 generalize List.take n.toNat _=l at nms hlen hget
 refine LpH.ind (fun (x:Int×Int×List Flg×List Seg×List Lay_×List Exper×Unit)=>0<=x.1/\x.1<=(l.length:Int)/\DS list x.2.1/\(x.2.2.1.length:Int)=x.1/\(∀f∈x.2.2.1,FlgS f)/\FlgsD x.2.2.1/\x.2.2.2=(segs,[],[],())) (fun x=>((l.length:Int) - x.1).toNat) ?_ ⟨Int.le_refl 0,by simp,hD,rfl,by simp,j5h,rfl⟩
 rintro⟨i,a,flags,rest⟩ ⟨i0,i1,hD,hfl,hfs,hfd,hr⟩
 simp only at i0 i1 hD hfl hfs hfd hr⊢
 subst hr
 simp only
 intro _
 refine Cnd.mk (fun hc=>⟨by omega,fun key hkey=> ?_⟩) fun _=> ?_
 ·
  refine Qf hD (by decide) fun kind a k0 k1 hD=>⟨by unfold InI;omega,Qf hD (by decide) fun on a _ _ hD=>Qf hD (by decide) fun m a m0 m1 hD=>⟨by unfold InI;omega,?_⟩⟩
  refine LpH.ind (fun (x:Int×Int×List Val×List Exper×List Lay_×List Flg×List Seg×Unit)=>0<=x.1/\x.1<=1+m/\DS list x.2.1/\(x.2.2.1.length:Int)=x.1/\(∀v∈x.2.2.1,ValS v/\v.kind=1+kind)/\x.2.2.2=([],[],flags,segs,())) (fun x=>(1+m - x.1).toNat) ?_ ⟨Int.le_refl 0,by simp only;omega,hD,rfl,by simp,rfl⟩
  rintro⟨j,a,vals,rest⟩ ⟨j0,j1,hD,hvl,hvs,hr⟩
  simp only at j0 j1 hD hvl hvs hr⊢
  subst hr
  simp only
  refine Cnd.mk (fun hc=>j5g (by omega) (by omega) hD fun v a hv hvk hD=>⟨by unfold Sml;simp;omega,by unfold InI;omega,⟨by omega,by omega,hD,by simp;omega,Jw hvs ⟨hv,hvk⟩,trivial⟩,by omega⟩) fun hc=> ?_
  refine Qf hD (by omega) fun off a o0 o1 hD=>⟨by unfold InI;omega,?_⟩
  have hlv:vals.length=(1+m).toNat:=by omega
  refine LpH.ind (fun (x:Int×List Prq×Int×List Seg×List Flg×List Lay_×List Exper×List Val×Unit)=>0<=x.1/\x.1<=(flags.length:Int)/\((x.2.1.length:Int)<=x.1/\(x.2.1.map Prq.flag).Sublist ((flags.map Flg.key).take x.1.toNat))/\(∀q∈x.2.1,q.flag.size<=100/\ ∃g∈flags,q.flag=g.key/\1<=q.variation/\q.variation<=g.variations.length)/\DS list x.2.2.1/\x.2.2.2=(segs,flags,[],[],vals,())) (fun x=>((flags.length:Int) - x.1).toNat) ?_ ⟨Int.le_refl 0,by simp,⟨by simp,List.nil_sublist _⟩,by simp,hD,rfl⟩
  rintro⟨j,needs,a,rest⟩ ⟨j0,j1,⟨hnl,hsb⟩,hns,hD,hr⟩
  simp only at j0 j1 hnl hsb hns hD hr⊢
  have hj1:(j+1).toNat=j.toNat+1:=by omega
  subst hr
  simp only
  intro _
  refine Cnd.mk (fun hc=>Qf hD (by decide) fun q a _ _ hD=>Cnd.mk (fun _=>⟨by omega,fun y hy=>⟨by omega,fun z hz _=>Qf hD (by have:=(hfs z (getm hz)).vlen;omega) fun w a w0 w1 hD=> ?_⟩⟩) fun _=>⟨by unfold InI;omega,⟨by omega,by omega,⟨by omega,by rw[hj1];exact w7a hsb⟩,hns,hD,trivial⟩,by omega⟩) fun _=> ?_
  ·have:=(hfs z (getm hz)).vlen
   exact⟨by unfold InI;omega,by unfold Sml;simp;omega,by unfold InI;omega,⟨by omega,by omega,⟨by simp;omega,by rw[hj1,List.map_append];exact w69 hsb (by rw[List.getElem?_map,hy];rfl)⟩,Jw hns ⟨(hfs y (getm hy)).key,z,getm hz,by rw[hy] at hz;rw[Option.some.inj hz],by simp only;omega,by simp only;omega⟩,hD,trivial⟩,by omega⟩
  have hnl4:needs.length<=4:=by omega
  have hsb:=hsb.trans (List.take_sublist _ _)
  refine LpH.ind (fun (x:Int×List Tgt×Int×List Val×List Exper×List Lay_×List Flg×List Seg×List Prq×Unit)=>0<=x.1/\x.1<=3/\(x.2.1.length:Int)<=x.1/\(∀t∈x.2.1,t.kind.size<=100/\(1<=t.variation/\t.variation<=1+m)/\t.keys.length<=3)/\DS list x.2.2.1/\x.2.2.2=(vals,[],[],flags,segs,needs,())) (fun x=>(3 - x.1).toNat) ?_ ⟨Int.le_refl 0,by simp,by simp,by simp,hD,rfl⟩
  rintro⟨j,tgts,a,rest⟩ ⟨j0,j1,htl,hts,hD,hr⟩
  simp only at j0 j1 htl hts hD hr⊢
  subst hr
  simp only
  refine Qf hD (by decide) fun q a q0 q1 hD=>Cnd.mk (fun hc=>Qf hD (by omega) fun w a w0 w1 hD=>⟨by unfold InI;omega,z9b hD fun ks a hks _ hD=> ?_⟩) fun _=> ?_
  ·refine Jn1.mk (fun x=>x.1.size<=100/\DS list x.2.1/\x.2.2=(ks,needs,segs,flags,[],[],vals,tgts,())) (Qf hD (by decide) fun r a _ _ hD=>Cnd.mk (fun _=>⟨(by decide:(ByteArray.mk (Array.mk [100,101,118,105,99,101])).size<=100),hD,rfl⟩) fun _=>⟨(by decide:(ByteArray.mk (Array.mk [117,115,101,114])).size<=100),hD,rfl⟩) ?_
   rintro⟨kd,a,rest⟩ ⟨hkd,hD,hr⟩
   simp only at hkd hD hr⊢
   subst hr
   simp only
   exact fun _=>Cnd.mk (fun _=>⟨by unfold Sml;simp;omega,by unfold InI;omega,⟨by omega,by omega,by simp;omega,Jw hts ⟨hkd,⟨by simp only;omega,by simp only;omega⟩,hks⟩,hD,trivial⟩,by omega⟩) fun _=>⟨by unfold InI;omega,⟨by omega,by omega,by omega,hts,hD,trivial⟩,by omega⟩
  refine Jn1.mk (fun (x:Int×List Rul×List ByteArray×List Prq×List Seg×List Flg×List Lay_×List Exper×List Val×List Tgt×Unit)=>DS list x.1/\x.2.1.length<=4/\(∀r∈x.2.1,RulS (1+m) r/\RulD (1+m) r)/\x.2.2.2=(needs,segs,flags,[],[],vals,tgts,())) ?_ ?_
  case refine_2=>
   rintro⟨a,rules,names,rest⟩ ⟨hD,hrl,hrs,hr⟩
   simp only at hD hrl hrs hr⊢
   subst hr
   simp only
   refine z5u hD (by omega) (by omega) fun s a hs hD=>⟨by unfold Sml;simp;omega,by unfold InI;omega,⟨by omega,by omega,hD,by simp;omega,Jw hfs ?_,w0p hfd ?_ ?_,trivial⟩,by omega⟩
   all_goals have hvm:(vals.length:Int)=1+m:=by omega
   ·exact⟨nms key (getm hkey),⟨by simp only;omega,by simp only;omega⟩,fun v hv=>(hvs v hv).1,hnl4,fun q hq=>(hns q hq).1,by simp only;omega,fun t ht=>(hts t ht).1,hrl,by rw[hvm];exact fun r hr=>(hrs r hr).1,by rw[hvm];exact hs.ok⟩
   ·rw[←hget _ _ hkey];congr 1;omega
   ·exact⟨⟨by simp only;omega,by simp only;omega⟩,fun v hv=>(hvs v hv).2,⟨by simp only;omega,by simp only;omega⟩,fun q hq=>(hns q hq).2,hsb,fun t ht=>by simp only;rw[hvm];exact (hts t ht).2,fun r hr=>by simp only;rw[hvm];exact (hrs r hr).2,by simp only;rw[hvm];exact hs⟩
  have nm4: ∀s∈([ByteArray.mk (Array.mk [102,105,114,115,116]),ByteArray.mk (Array.mk [115,101,99,111,110,100]),ByteArray.mk (Array.mk [116,104,105,114,100]),ByteArray.mk (Array.mk [102,111,117,114,116,104])]:List ByteArray),s.size<=100:=by decide
  have nl4:([ByteArray.mk (Array.mk [102,105,114,115,116]),ByteArray.mk (Array.mk [115,101,99,111,110,100]),ByteArray.mk (Array.mk [116,104,105,114,100]),ByteArray.mk (Array.mk [102,111,117,114,116,104])]:List ByteArray).length=4:=rfl
  generalize ([ByteArray.mk (Array.mk [102,105,114,115,116]),ByteArray.mk (Array.mk [115,101,99,111,110,100]),ByteArray.mk (Array.mk [116,104,105,114,100]),ByteArray.mk (Array.mk [102,111,117,114,116,104])]:List ByteArray)=ns4 at nm4 nl4⊢
  refine LpH.ind (fun (x:Int×Int×List Rul×List ByteArray×List Prq×List Seg×List Flg×List Lay_×List Exper×List Val×List Tgt×Unit)=>0<=x.1/\x.1<=4/\DS list x.2.1/\(x.2.2.1.length:Int)=x.1/\(∀r∈x.2.2.1,RulS (1+m) r/\RulD (1+m) r)/\x.2.2.2=(ns4,needs,segs,flags,[],[],vals,tgts,())) (fun x=>(4 - x.1).toNat) ?_ ⟨Int.le_refl 0,by simp,hD,rfl,by simp,rfl⟩
  rintro⟨j,a,rules,rest⟩ ⟨j0,j1,hD,hrl,hrs,hr⟩
  simp only at j0 j1 hD hrl hrs hr⊢
  subst hr
  simp only
  refine Qf hD (by decide) fun q a q0 q1 hD=>Cnd.mk (fun hc=>⟨by rw[nl4];omega,fun y hy=> ?_⟩) fun _=>⟨hD,by omega,hrs,trivial⟩
  refine q7l (by simp only;omega) (z45 ((j7j fun s hs=> ?_).and w37) 2 (by omega) (by decide) (by decide) hD fun e a he hD=>z5u hD (by omega) (by omega) fun s a hs hD=>⟨by unfold Sml;simp;omega,?_⟩)
  ·obtain⟨g,hg,rfl⟩:=List.mem_map.1 hs;exact (hsegs g hg).key
  have hrs':=Jw hrs (x:=Rul.mk y (Ex.mk e.1 e.2 e.3 e.4 e.5) s) ⟨⟨nm4 y (getm hy),he.1.eta,hs.ok⟩,w4f (he.2.le (by decide)).eta (w4g hgs),hs⟩
  have hl':(rules++[Rul.mk y (Ex.mk e.1 e.2 e.3 e.4 e.5) s]).length=rules.length+1:=by simp
  have cut: ∀r∈List.take (((rules++[Rul.mk y (Ex.mk e.1 e.2 e.3 e.4 e.5) s]).length:Int) - 1).toNat (rules++[Rul.mk y (Ex.mk e.1 e.2 e.3 e.4 e.5) s]),RulS (1+m) r/\RulD (1+m) r:=fun r hr=>hrs' r (List.mem_of_mem_take hr)
  generalize rules++[Rul.mk y (Ex.mk e.1 e.2 e.3 e.4 e.5) s]=rs at hrs' hl' cut⊢
  refine q4i (by omega) (fun r hr=>(hrs' r hr).1.cond) fun o n b ho=>Cnd.mk (fun _ _=>Cnd.mk (fun _ _=>⟨by unfold InI;omega,by omega,hD,by simp only[List.length_take];omega,cut,trivial⟩) fun _=>⟨by unfold InI;omega,⟨by omega,by omega,hD,by omega,hrs',trivial⟩,by omega⟩) fun _ _=>⟨by unfold InI;omega,by omega,hD,by simp only[List.length_take];omega,cut,trivial⟩
 ·
  refine Qf hD (by decide) fun n a n0 n1 hD=>z3c n0 (by simp only[List.length_cons,List.length_nil];omega) ?_
  have nms: ∀s∈List.take n.toNat [ByteArray.mk (Array.mk [108,97]),ByteArray.mk (Array.mk [108,98])],s.size<=100:=j21 (by decide)
  have hlen:(List.take n.toNat [ByteArray.mk (Array.mk [108,97]),ByteArray.mk (Array.mk [108,98])]).length<=2:=by
   rw[List.length_take];simp only[List.length_cons,List.length_nil];omega
  have hgetl: ∀(i:Nat) y,(List.take n.toNat [ByteArray.mk (Array.mk [108,97]),ByteArray.mk (Array.mk [108,98])])[i]? =some y->lyK[i]? =some y:=fun i y hy=>w8g hy
  generalize List.take n.toNat _=ls at nms hlen hgetl
  have hf4:flags.length<=4:=by omega
  refine LpH.ind (fun (x:Int×Int×List Lay_×List Exper×List Seg×List Flg×Unit)=>0<=x.1/\x.1<=(ls.length:Int)/\DS list x.2.1/\(x.2.2.1.length:Int)=x.1/\(∀f∈x.2.2.1,LayS f)/\x.2.2.1.map Lay_.key=lyK.take x.2.2.1.length/\x.2.2.2=([],segs,flags,())) (fun x=>((ls.length:Int) - x.1).toNat) ?_ ⟨Int.le_refl 0,by simp,hD,rfl,by simp,rfl,rfl⟩
  rintro⟨j,a,layers,rest⟩ ⟨j0,j1,hD,hll,hls,hlk,hr⟩
  simp only at j0 j1 hD hll hls hlk hr⊢
  subst hr
  simp only
  intro _
  refine Cnd.mk (fun hc=>⟨by omega,fun y hy=>w0c hD (nms y (getm hy)) fun l a hl hky hD=>⟨by unfold Sml;simp;omega,by unfold InI;omega,⟨by omega,by omega,hD,by simp;omega,Jw hls hl,by rw[List.map_append,hlk,List.length_append,List.length_singleton,List.take_add_one,←show j.toNat=layers.length by omega,hgetl _ _ hy,←hky];rfl,trivial⟩,by omega⟩⟩) fun _=> ?_
  refine Qf hD (by decide) fun n a n0 n1 hD=>z3c n0 (by simp only[List.length_cons,List.length_nil];omega) ?_
  have nmx: ∀s∈List.take n.toNat [ByteArray.mk (Array.mk [120,97]),ByteArray.mk (Array.mk [120,98]),ByteArray.mk (Array.mk [120,99])],s.size<=100:=j21 (by decide)
  have hxen:(List.take n.toNat [ByteArray.mk (Array.mk [120,97]),ByteArray.mk (Array.mk [120,98]),ByteArray.mk (Array.mk [120,99])]).length<=3:=by
   rw[List.length_take];simp only[List.length_cons,List.length_nil];omega
  have hgetx:List.take n.toNat [ByteArray.mk (Array.mk [120,97]),ByteArray.mk (Array.mk [120,98]),ByteArray.mk (Array.mk [120,99])]|>.Sublist exK:=List.take_sublist _ _
  generalize List.take n.toNat _=xs at nmx hxen hgetx
  have hl2:layers.length<=2:=by omega
  refine LpH.ind (fun (x:Int×Int×List Exper×List Flg×List Seg×List Lay_×Unit)=>0<=x.1/\x.1<=(xs.length:Int)/\DS list x.2.1/\(x.2.2.1.length:Int)<=x.1/\(∀f∈x.2.2.1,ExpS f)/\(x.2.2.1.map Exper.key).Sublist (xs.take x.1.toNat)/\(∀f∈x.2.2.1,ExpD layers flags f)/\x.2.2.2=(flags,segs,layers,())) (fun x=>((xs.length:Int) - x.1).toNat) ?_ ⟨Int.le_refl 0,by simp,hD,by simp,by simp,by simp,by simp,rfl⟩
  rintro⟨k,a,exps,rest⟩ ⟨k0,k1,hD,hxl,hxs,hxk,hxd,hr⟩
  simp only at k0 k1 hD hxl hxs hxk hxd hr⊢
  subst hr
  simp only
  intro _
  have hfin:=fun {a:Int} (hD:DS list a)=>fin (flags:=flags) (layers:=layers) (exps:=exps) hD hf4 hfs hl2 hls (by omega) hxs hfd hlk ((hxk.trans (List.take_sublist _ _)).trans hgetx) hxd
  refine Cnd.mk (fun hc _=>Cnd.mk (fun hfl0 _=>Cnd.mk (fun hll0=>⟨by omega,fun y hy _=> ?_⟩) fun _=>hfin hD) fun _=>hfin hD) fun _=>hfin hD
  refine Qf hD (by omega) fun q a q0 q1 hD=>⟨by omega,fun f hf _ hfv=>Qf hD (by omega) fun q' a q0' q1' hD=>⟨by omega,fun l hl=>q5u hD fun t a ht hD=>Qf hD (by decide) fun u a u0 u1 hD=>⟨by unfold InI;omega,?_⟩⟩⟩
  have hF:=hfs f (getm hf)
  have hL:=hls l (getm hl)
  have hv1:=hF.vlen
  refine z5t hD (by omega) (by omega) fun arms a harms hcov hD=> ?_
  refine Jn1.mk (fun (x:Int×Int×List Rng×List Exper×List Lay_×List Flg×List Seg×Unit)=>DS list x.2.1/\x.2.2=(arms,exps,layers,flags,segs,())) (Cnd.mk (fun _=>Qf hD (by decide) fun r a _ _ hD=>Cnd.mk (fun _=>⟨hD,rfl⟩) fun _=>⟨hD,rfl⟩) fun _=>⟨hD,rfl⟩) ?_
  rintro⟨state,a,rest⟩ ⟨hD,hr⟩
  simp only at hD hr⊢
  subst hr
  simp only
  refine Jn1.mk (fun (x:Int×ByteArray×ByteArray×List Val×List Ex×Int×List Seg×List Flg×List Lay_×List Exper×List Rng×Unit)=>(ExS 4 (Ex.mk x.1 x.2.1 x.2.2.1 x.2.2.2.1 x.2.2.2.2.1)/\DrE sgK 20000 (Ex.mk x.1 x.2.1 x.2.2.1 x.2.2.2.1 x.2.2.2.2.1))/\DS list x.2.2.2.2.2.1/\x.2.2.2.2.2.2=(segs,flags,layers,exps,arms,())) (Qf hD (by decide) fun r a _ _ hD=>Cnd.mk (fun _=>q7l (by simp only;omega) (z45 ((j7j fun s hs=> ?_).and w37) 2 (by omega) (by decide) (by decide) hD fun e a he hD=>⟨⟨he.1.eta,w4f (he.2.le (by decide)).eta (w4g hgs)⟩,hD,rfl⟩)) fun _=>⟨⟨v4c,v0l⟩,hD,rfl⟩) ?_
  ·obtain⟨g,hg,rfl⟩:=List.mem_map.1 hs;exact (hsegs g hg).key
  rintro⟨e1,e2,e3,e4,e5,a,rest⟩ ⟨he,hD,hr⟩
  simp only at he hD hr⊢
  subst hr
  simp only
  refine j7o fun sp _ _=>q04 hD (by decide) fun w a _ _ hD=>q04 hD (by decide) fun w' a _ _ hD=>z5p fun sq _=>q04 hD (by decide) fun w2 a w20 w21 hD=>j48 (by omega) fun cl hcl=> ?_
  have hxs':=Jw hxs (x:=Exper.mk y l.1 f.1 t state cl arms (Ex.mk e1 e2 e3 e4 e5)) ⟨nmx y (getm hy),hL.key,hF.key,hcl,⟨harms.1,fun r hr=>by obtain⟨p,q,s,t⟩:=harms.2 r hr;exact⟨p,q,s,by omega⟩⟩,he.1⟩
  have hxd':=Jw hxd (x:=Exper.mk y l.1 f.1 t state cl arms (Ex.mk e1 e2 e3 e4 e5)) ⟨hcov,he.2,⟨l,getm hl,rfl⟩,⟨f,getm hf,rfl,fun r hr=>by obtain⟨_,_,s,t⟩:=harms.2 r hr;exact⟨s,t⟩⟩,tt _ ht⟩
  have hyk:xs[k.toNat]? =some y:=hy
  have hxk':((exps++[Exper.mk y l.1 f.1 t state cl arms (Ex.mk e1 e2 e3 e4 e5)]).map Exper.key).Sublist (xs.take (k+1).toNat):=by
   rw[List.map_append,show (k+1).toNat=k.toNat+1 by omega,List.take_add_one,hyk]
   exact hxk.append (List.Sublist.refl _)
  have hl':(exps++[Exper.mk y l.1 f.1 t state cl arms (Ex.mk e1 e2 e3 e4 e5)]).length=exps.length+1:=by simp
  have cut: ∀r∈List.take (((exps++[Exper.mk y l.1 f.1 t state cl arms (Ex.mk e1 e2 e3 e4 e5)]).length:Int) - 1).toNat (exps++[Exper.mk y l.1 f.1 t state cl arms (Ex.mk e1 e2 e3 e4 e5)]),ExpS r:=fun r hr=>hxs' r (List.mem_of_mem_take hr)
  have cutd: ∀r∈List.take (((exps++[Exper.mk y l.1 f.1 t state cl arms (Ex.mk e1 e2 e3 e4 e5)]).length:Int) - 1).toNat (exps++[Exper.mk y l.1 f.1 t state cl arms (Ex.mk e1 e2 e3 e4 e5)]),ExpD layers flags r:=fun r hr=>hxd' r (List.mem_of_mem_take hr)
  have cutk:((List.take (((exps++[Exper.mk y l.1 f.1 t state cl arms (Ex.mk e1 e2 e3 e4 e5)]).length:Int) - 1).toNat (exps++[Exper.mk y l.1 f.1 t state cl arms (Ex.mk e1 e2 e3 e4 e5)])).map Exper.key).Sublist (xs.take (k+1).toNat):=((List.take_sublist _ _).map _).trans hxk'
  generalize exps++[Exper.mk y l.1 f.1 t state cl arms (Ex.mk e1 e2 e3 e4 e5)]=xs' at hxs' hl' cut hxd' hxk' cutd cutk⊢
  have hv:EnvS (Envt.mk (Sett.mk salt hkind hold) ds segs flags layers xs'):=⟨hhk,hat,hsl,hsegs,hf4,hfs,hl2,hls,by simp only;omega,hxs'⟩
  refine⟨by unfold Sml;omega,z5s hv fun b=>Cnd.mk (fun _=>⟨by unfold InI;omega,⟨by omega,by omega,hD,by omega,hxs',hxk',hxd',trivial⟩,by omega⟩) fun _ _=>⟨by unfold InI;omega,by omega,by unfold InI;omega,⟨by omega,by omega,hD,by simp only[List.length_take];omega,cut,cutk,cutd,trivial⟩,by omega⟩⟩
theorem z3g{list:List Int}{at_ now:Int}{K:Envt->Int->Prop}(hD:DS list at_)(h: ∀v a,EnvS v->EnvD v->DS list a->K v a):Ur list at_ now K:=
 z5c (V:=fun _=>True) (fun _ _ hv h=>z5s hv fun b=>h b fun _=>trivial) (fun _=>trivial) hD fun v a h1 h2 _ h3=>h v a h1 h2 h3
end Go.En
end
noncomputable section
set_option maxRecDepth 100000
namespace Go.En
open Go Go.Fl Go.Fl.Lk Go.Fx
theorem q3u(a b:List Spn)(q:Int):insV (a++b) q=(insV a q||insV b q):=by
 unfold insV
 rw[List.find?_append]
 cases List.find? (fun r:Spn=>decide (r.1<=q) && decide (q<r.2)) a<;>simp
theorem j22(y:Spn)(q:Int):insV [y] q=(decide (y.1<=q) && decide (q<y.2)):=by
 unfold insV
 rw[List.find?_cons]
 cases decide (y.1<=q) && decide (q<y.2)<;>simp
theorem q61{l:List Spn}{q:Int}:insV l q=true↔ ∃r∈l,r.1<=q/\q<r.2:=by
 unfold insV
 rw[List.find?_isSome]
 simp only[Bool.and_eq_true,decide_eq_true_eq]
structure BAt(o:List Bool)(f:Nat->Bool):Prop where
 len:o.length=10000
 at_: ∀q,q<10000->o[q]? =some (f q)
theorem BAt.set{o:List Bool}{f g:Nat->Bool}{k:Nat}{v:Bool}(h:BAt o f)(hv:g k=v)(hg: ∀q,q<10000->q≠k->g q=f q):BAt (o.set k v) g:=by
 refine⟨by rw[List.length_set];exact h.len,fun q hq=> ?_⟩
 have hl:=h.len
 rw[List.getElem?_set]
 split
 ·rename_i he
  subst he
  rw[if_pos (by omega),hv]
 ·rename_i hne
  rw[h.at_ q hq,hg q hq (fun e=>hne e.symm)]
theorem BAt.of{o:List Bool}{f g:Nat->Bool}(h:BAt o f)(hg: ∀q,q<10000->g q=f q):BAt o g:=⟨h.len,fun q hq=>by rw[h.at_ q hq,hg q hq]⟩
theorem BAt.get{o:List Bool}{f:Nat->Bool}(h:BAt o f){k:Nat}{y:Bool}(hy:o[k]? =some y):y=f k:=by
 have hl:=Qb hy
 have:=h.at_ k (by have:=h.len;omega)
 rw[hy] at this;exact Option.some.inj this
theorem q4j{l:List Spn}{K:List Bool->Prop}(hl:l.length<=1000000)(h: ∀b,BAt b (fun q=>insV l (q:Int))->K b):Rg l K:=by
 unfold Rg
 refine⟨⟨by decide,by decide,by unfold Sml;decide⟩,Lp2.ind (fun i o=> ∃j:Nat,i=(j:Int)/\j<=l.length/\BAt o (fun q=>insV (l.take j) (q:Int))) (fun i _=>(l.length - i).toNat) ?_ ⟨0,rfl,by omega,⟨List.length_replicate,fun q hq=>by rw[List.getElem?_replicate,if_pos (show q<Int.toNat 10000 from hq)];rfl⟩⟩⟩
 rintro i o ⟨j,rfl,hj,hb⟩ _
 refine Cnd.mk (fun hc=>⟨by omega,fun y hy=> ?_⟩) fun hc=>h o (hb.of fun q hq=>by rw[List.take_of_length_le (by omega)])
 have hy:l[j]? =some y:=hy
 have hlt:=Qb hy
 refine Lp2.ind (fun (b:Int) o=>max y.1 0<=b/\b<=max (max y.1 0) (min y.2 10000)/\BAt o (fun q=>insV (l.take j) (q:Int)||(decide (y.1<=(q:Int)) && decide ((q:Int)<b)))) (fun b _=>(10000 - b).toNat) ?_ ⟨Int.le_refl _,by omega,hb.of fun q hq=> ?_⟩
 ·rintro b o ⟨b0,b1,hb⟩
  refine⟨by omega,fun z hz=> ?_⟩
  have hz:l[j]? =some z:=hz
  rw[hy] at hz;cases hz
  refine Cnd.mk (fun hlt2=>⟨by have:=hb.len;omega,fun w hw=>⟨by unfold InI;omega,⟨by omega,by omega,hb.set (k:=b.toNat) ?_ fun q hq hne=> ?_⟩,by omega⟩⟩) fun hge=>⟨by unfold InI;omega,⟨j+1,by omega,by omega,hb.of fun q hq=> ?_⟩,by omega⟩
  ·rw[dt (show y.1<=(b.toNat:Int) by omega),dt (show (b.toNat:Int)<b+1 by omega)];simp
  ·congr 2
   by_cases hqb:(q:Int)<b
   ·rw[dt hqb,dt (show (q:Int)<b+1 by omega)]
   ·rw[df hqb,df (show ¬(q:Int)<b+1 by omega)]
  ·rw[List.take_add_one,hy,q3u]
   show (_||insV [y] (q:Int))=_
   rw[j22]
   congr 1
   by_cases h1:y.1<=(q:Int)
   ·rw[dt h1,Bool.true_and,Bool.true_and]
    by_cases h2:(q:Int)<y.2
    ·rw[dt h2,dt (show (q:Int)<b by omega)]
    ·rw[df h2,df (show ¬(q:Int)<b by omega)]
   ·rw[df h1];simp
 ·have:(decide (y.1<=(q:Int)) && decide ((q:Int)<max y.1 0))=false:=by
   by_cases h1:y.1<=(q:Int)
   ·rw[df (show ¬(q:Int)<max y.1 0 by omega)];simp
   ·rw[df h1];simp
  rw[this,Bool.or_false]
def IsS(l:List Spn)(p:Int->Prop):Prop:=SpsS l/\ ∀q,insV l q=true↔(0<=q/\q<10000)/\p q
theorem IsS.nonempty{l:List Spn}{p:Int->Prop}(h:IsS l p):0<l.length↔ ∃q,0<=q/\q<10000/\p q:=by
 constructor
 ·intro hp
  obtain⟨h1,h2,h3⟩:=h.1.all l[0] (List.getElem_mem hp)
  have:=(h.2 l[0].lo).1 (q61.2 ⟨l[0],List.getElem_mem hp,Int.le_refl _,h2⟩)
  exact⟨_,this.1.1,this.1.2,this.2⟩
 ·rintro⟨q,q0,q1,hq⟩
  obtain⟨r,hr,_⟩:=q61.1 ((h.2 q).2 ⟨⟨q0,q1⟩,hq⟩)
  exact List.length_pos_of_mem hr
theorem z0x{b:List Bool}{f:Nat->Bool}{K:List Spn->Prop}(hb:BAt b f)(h: ∀l,IsS l (fun q=>f q.toNat=true)->K l):Wt b K:=by
 unfold Wt
 have hlen:=hb.len
 refine Lp2.ind (fun (o:List Spn) (i:Int)=> ∃j:Nat,i=(j:Int)/\j<=10000/\o.length<=j/\(∀s∈o,0<=s.lo/\s.lo<s.hi/\s.hi<=(j:Int))/\(∀q:Int,insV o q=true↔(0<=q/\q<(j:Int))/\f q.toNat=true)/\(0<j->f (j - 1)=true-> ∃a s,o=a++[s]/\s.hi=(j:Int))) (fun _ i=>(10000 - i).toNat) ?_ ⟨0,rfl,by omega,by simp,by simp,fun q=>⟨fun h=>(by cases h),fun h=>by omega⟩,fun h=>by omega⟩
 rintro o i ⟨j,rfl,hj,hol,hos,hin,hlast⟩ _
 refine Cnd.mk (fun hc=>⟨by omega,fun y hy=> ?_⟩) fun hc=>h o ⟨⟨by omega,fun s hs=>by have:=hos s hs;omega⟩,fun q=>(hin q).trans ⟨fun k=>⟨⟨k.1.1,by have:=k.1.2;omega⟩,k.2⟩,fun k=>⟨⟨k.1.1,by have:=k.1.2;omega⟩,k.2⟩⟩⟩
 have hy:b[j]? =some y:=hy
 have hyf:=hb.get hy
 have fresh:f j=true->Sml (o++[Spn.mk (j:Int) ((j:Int)+1)]).length/\InI ((j:Int)+1)/\(∃j':Nat,(j:Int)+1=(j':Int)/\j'<=10000/\(o++[Spn.mk (j:Int) ((j:Int)+1)]).length<=j'/\(∀s∈o++[Spn.mk (j:Int) ((j:Int)+1)],0<=s.lo/\s.lo<s.hi/\s.hi<=(j':Int))/\(∀q:Int,insV (o++[Spn.mk (j:Int) ((j:Int)+1)]) q=true↔(0<=q/\q<(j':Int))/\f q.toNat=true)/\(0<j'->f (j' - 1)=true-> ∃a s,o++[Spn.mk (j:Int) ((j:Int)+1)]=a++[s]/\s.hi=(j':Int)))/\(10000 - ((j:Int)+1)).toNat<(10000 - (j:Int)).toNat:=fun hf=>by
  refine⟨by unfold Sml;simp;omega,by unfold InI;omega,⟨j+1,by omega,by omega,by simp;omega,Jw (fun s hs=>by have:=hos s hs;omega) ⟨by simp only;omega,by simp only;omega,by simp only;omega⟩,fun q=> ?_,fun _ _=>⟨o,_,rfl,by simp only;omega⟩⟩,by omega⟩
  rw[q3u,j22,Bool.or_eq_true,hin q,Bool.and_eq_true,decide_eq_true_eq,decide_eq_true_eq]
  simp only
  constructor
  ·rintro (⟨⟨a,b⟩,c⟩|⟨a,b⟩)
   ·exact⟨⟨a,by omega⟩,c⟩
   ·have:q=(j:Int):=by omega
    subst this
    exact⟨⟨by omega,by omega⟩,hf⟩
  ·rintro⟨⟨a,b⟩,c⟩
   by_cases hq:q<(j:Int)
   ·exact .inl ⟨⟨a,hq⟩,c⟩
   ·exact .inr ⟨by omega,by omega⟩
 refine Cnd.mk (fun ht=> ?_) fun hf=> ?_
 ·have hfj:f j=true:=by rw[←hyf,ht]
  refine Cnd.mk (fun hpos=>⟨by unfold InI;omega,by omega,fun z hz=> ?_⟩) fun _=>⟨by unfold InI;omega,fresh hfj⟩
  have hz:b[j - 1]? =some z:=by rw[show ((j:Int) - 1).toNat=j - 1 by omega] at hz;exact hz
  have hzf:=hb.get hz
  refine Cnd.mk (fun ht2 _=> ?_) fun _=>⟨by unfold InI;omega,fresh hfj⟩
  obtain⟨a,s,rfl,hs⟩:=hlast (by omega) (by rw[←hzf,ht2])
  have hal:(a++[s]).length=a.length+1:=by simp
  rw[hal] at hol
  refine⟨by unfold InI;omega,by unfold InI;omega,by omega,fun w hw=> ?_⟩
  rw[show (((a++[s]).length:Int) - 1).toNat=a.length by omega] at hw⊢
  have hw':w=s:=by simpa using hw.symm
  subst hw'
  have hset:(a++[w]).set a.length (Spn.mk w.1 ((j:Int)+1))=a++[Spn.mk w.1 ((j:Int)+1)]:=by simp
  rw[hset]
  obtain⟨w1,w2,w3⟩:=hos w (by simp)
  refine⟨by unfold InI;omega,⟨j+1,by omega,by omega,by simp;omega,Jw (fun s hs=>by have:=hos s (by simp[hs]);omega) ⟨by simp only;omega,by simp only;omega,by simp only;omega⟩,fun q=> ?_,fun _ _=>⟨a,_,rfl,by simp only;omega⟩⟩,by omega⟩
  have ho:=hin q
  rw[q3u,j22,Bool.or_eq_true,Bool.and_eq_true,decide_eq_true_eq,decide_eq_true_eq] at ho⊢
  simp only
  rw[hs] at ho
  constructor
  ·rintro (k|⟨k1,k2⟩)
   ·have:=ho.1 (.inl k);exact⟨⟨this.1.1,by omega⟩,this.2⟩
   ·by_cases hq:q<(j:Int)
    ·have:=ho.1 (.inr ⟨k1,hq⟩);exact⟨⟨this.1.1,by omega⟩,this.2⟩
    ·have:q=(j:Int):=by omega
     subst this
     exact⟨⟨by omega,by omega⟩,hfj⟩
  ·rintro⟨⟨k1,k2⟩,k3⟩
   by_cases hq:q<(j:Int)
   ·rcases ho.2 ⟨⟨k1,hq⟩,k3⟩ with k|⟨k4,_⟩
    ·exact .inl k
    ·exact .inr ⟨k4,by omega⟩
   ·exact .inr ⟨by omega,by omega⟩
 ·have hfj:f j=false:=by rw[←hyf];simpa using hf
  refine⟨by unfold InI;omega,⟨j+1,by omega,by omega,by omega,fun s hs=>by have:=hos s hs;omega,fun q=> ?_,fun _ hh=> ?_⟩,by omega⟩
  ·rw[hin q]
   constructor
   ·rintro⟨⟨a,b⟩,c⟩;exact⟨⟨a,by omega⟩,c⟩
   ·rintro⟨⟨a,b⟩,c⟩
    refine⟨⟨a,?_⟩,c⟩
    by_cases hq:q<(j:Int)
    ·exact hq
    ·have:q=(j:Int):=by omega
     subst this
     rw[Int.toNat_natCast,hfj] at c;cases c
  ·rw[Nat.add_sub_cancel,hfj] at hh;cases hh
theorem z9n{a b:List Spn}{K:List Spn->Prop}(ha:a.length<=1000000)(hb:b.length<=1000000)(h: ∀l,IsS l (fun q=>insV a q=true/\insV b q=true)->K l):Uo a b K:=by
 unfold Uo q38
 refine q4j ha fun x hx=>q4j hb fun y hy=>Lp2.ind (fun (i:Int) (o:List Bool)=> ∃j:Nat,i=(j:Int)/\j<=10000/\BAt o (fun q=>if q<j then insV a (q:Int) && insV b (q:Int) else insV a (q:Int))) (fun i _=>(10000 - i).toNat) ?_ ⟨0,rfl,by omega,hx.of fun q hq=>by simp⟩
 rintro i o ⟨j,rfl,hj,ho⟩ _
 have hlen:=ho.len
 have hyl:=hy.len
 refine Cnd.mk (fun hc=>⟨by omega,fun z hz=> ?_⟩) fun hc=>z0x (ho.of (g:=fun q=>insV a (q:Int) && insV b (q:Int)) fun q hq=>by rw[if_pos (by omega)]) fun l hl=>h l ⟨hl.1,fun q=>by
  rw[hl.2 q]
  constructor
  ·rintro⟨h1,h2⟩;rw[Int.toNat_of_nonneg h1.1,Bool.and_eq_true] at h2;exact⟨h1,h2⟩
  ·rintro⟨h1,h2⟩;refine⟨h1,?_⟩;simp only;rw[Int.toNat_of_nonneg h1.1,Bool.and_eq_true];exact h2⟩
 have hz:o[j]? =some z:=hz
 have hzf:=ho.get hz
 simp only[Nat.lt_irrefl,if_false] at hzf
 have step: ∀{v:Bool},v=(insV a (j:Int) && insV b (j:Int))->InI ((j:Int)+1)/\(∃j':Nat,(j:Int)+1=(j':Int)/\j'<=10000/\BAt (o.set j v) (fun q=>if q<j' then insV a (q:Int) && insV b (q:Int) else insV a (q:Int)))/\(10000 - ((j:Int)+1)).toNat<(10000 - (j:Int)).toNat:=fun {v} hv=>⟨by unfold InI;omega,⟨j+1,by omega,by omega,ho.set (by rw[if_pos (by omega),hv]) fun q hq hne=>by
  by_cases hqj:q<j
  ·rw[if_pos hqj,if_pos (by omega)]
  ·rw[if_neg hqj,if_neg (by omega)]⟩,by omega⟩
 refine Cnd.mk (fun ht=>⟨by omega,fun w hw=>⟨by omega,fun u hu=>step ?_⟩⟩) fun hf=>⟨by omega,fun w hw=>step (by rw[←hzf,Bool.eq_false_iff.2 hf];rfl)⟩
 have hw:y[j]? =some w:=hw
 rw[hy.get hw,←hzf,ht];rfl
end Go.En
end
noncomputable section
set_option maxRecDepth 100000
namespace Go.En
open Go Go.Fl Go.Fl.Lk Go.Fx
def PR{α:Type}(R:α->α->Prop)(l m:List α):Prop:=m.length=l.length/\ ∀(i:Nat) x y,l[i]? =some x->m[i]? =some y->R x y
theorem w4h{α:Type}{P:α->Prop}{l:List α}{i:Nat}{b:α}(h: ∀x∈l,P x)(hb:P b): ∀x∈l.set i b,P x:=fun x hx=>(List.mem_or_eq_of_mem_set hx).elim (h x) fun e=>by rw[e];exact hb
end Go.En
end
noncomputable section
set_option maxRecDepth 100000
namespace Go.En
open Go Go.Fl Go.Fl.Lk Go.Fx
theorem q62(l:List Spn)(i:Nat):Go.Fl.Sp.cov (l.map fun s=>(s.lo,s.hi)) i=insV l (i:Int):=by
 rw[Bool.eq_iff_iff,q61]
 unfold Go.Fl.Sp.cov
 simp only[List.any_map,List.any_eq_true,Function.comp,Bool.and_eq_true,decide_eq_true_eq]
theorem j82(l:List (Int×Int)):(l.map fun s=>Spn.mk s.1 s.2).map (fun s=>(s.lo,s.hi))=l:=by
 rw[List.map_map]
 exact List.map_id l
def IsP(l:List Spn)(p:Int->Prop):Prop:=(∀q,0<=q->q<10000->(insV l q=true↔p q))/\(0<l.length↔ ∃q,0<=q/\q<10000/\p q)
theorem j23(f:Nat->Bool):IsP ((Go.Fl.Sp.runs f 10000).map fun s=>Spn.mk s.1 s.2) fun q=>f q.toNat=true:=by
 have at_: ∀i:Nat,i<10000->insV ((Go.Fl.Sp.runs f 10000).map fun s=>Spn.mk s.1 s.2) (i:Int)=f i:=fun i hi=>by
  rw[←q62,j82,Go.Fl.Sp.cov_norm hi]
 refine⟨fun q q0 q1=> ?_,?_⟩
 ·have:=at_ q.toNat (by omega)
  rw[Int.toNat_of_nonneg q0] at this
  rw[this]
 ·constructor
  ·intro hl
   refine Classical.byContradiction fun hno=> ?_
   have:Go.Fl.Sp.runs f 10000=[]:=Go.Fl.Sp.runs_empty fun i hi=>by
    cases hf:f i with
    |false=>rfl
    |true=>exact absurd ⟨(i:Int),by omega,by omega,hf⟩ hno
   rw[this] at hl;simp at hl
  ·rintro⟨q,q0,q1,hq⟩
   have:=at_ q.toNat (by omega)
   rw[hq,Int.toNat_of_nonneg q0,q61] at this
   obtain⟨r,hr,_⟩:=this
   exact List.length_pos_of_mem hr
theorem IsP.congr{l:List Spn}{p p':Int->Prop}(h:IsP l p)(e: ∀q,0<=q->q<10000->(p q↔p' q)):IsP l p':=
 ⟨fun q a b=>(h.1 q a b).trans (e q a b),h.2.trans ⟨fun ⟨q,a,b,c⟩=>⟨q,a,b,(e q a b).1 c⟩,fun ⟨q,a,b,c⟩=>⟨q,a,b,(e q a b).2 c⟩⟩⟩
theorem v2i{a b:List Spn}{K:List Spn->Prop}(h: ∀l,IsP l (fun q=>insV a q=true/\insV b q≠true)->K l):R0 a b K:=
 h _ ((j23 _).congr fun q q0 q1=>by
  show (Go.Fl.Sp.cov _ _ && !Go.Fl.Sp.cov _ _)=true↔_
  rw[q62,q62,Int.toNat_of_nonneg q0]
  cases insV a q<;>cases insV b q<;>simp)
theorem v0m{a b:List Spn}{K:List Spn->Prop}(h: ∀l,IsP l (fun q=>insV a q=true/\insV b q=true)->K l):He a b K:=
 h _ ((j23 _).congr fun q q0 q1=>by
  show (Go.Fl.Sp.cov _ _ && Go.Fl.Sp.cov _ _)=true↔_
  rw[q62,q62,Int.toNat_of_nonneg q0]
  cases insV a q<;>cases insV b q<;>simp)
theorem j0e{a b:List Spn}{K:List Spn->Prop}(ha:a.length<=1000000)(hb:b.length<=1000000)(h: ∀l,IsS l (fun q=>insV a q=true/\insV b q≠true)->K l):Ug a b K:=by
 unfold Ug q6d
 refine q4j ha fun x hx=>q4j hb fun y hy=>Lp2.ind (fun (i:Int) (o:List Bool)=> ∃j:Nat,i=(j:Int)/\j<=10000/\BAt o (fun q=>if q<j then insV a (q:Int) && !insV b (q:Int) else insV a (q:Int))) (fun i _=>(10000 - i).toNat) ?_ ⟨0,rfl,by omega,hx.of fun q hq=>by simp⟩
 rintro i o ⟨j,rfl,hj,ho⟩ _
 have hlen:=ho.len
 have hyl:=hy.len
 refine Cnd.mk (fun hc=>⟨by omega,fun z hz=> ?_⟩) fun hc=>z0x (ho.of (g:=fun q=>insV a (q:Int) && !insV b (q:Int)) fun q hq=>by rw[if_pos (by omega)]) fun l hl=>h l ⟨hl.1,fun q=>by
  rw[hl.2 q]
  constructor
  ·rintro⟨h1,h2⟩
   have h2:(insV a ((q.toNat:Nat):Int) && !insV b ((q.toNat:Nat):Int))=true:=h2
   rw[Int.toNat_of_nonneg h1.1,Bool.and_eq_true,Bool.not_eq_true'] at h2
   exact⟨h1,h2.1,by rw[h2.2];decide⟩
  ·rintro⟨h1,h2,h3⟩
   refine⟨h1,?_⟩
   show (insV a ((q.toNat:Nat):Int) && !insV b ((q.toNat:Nat):Int))=true
   rw[Int.toNat_of_nonneg h1.1,h2,Bool.eq_false_iff.2 h3];rfl⟩
 have hz:o[j]? =some z:=hz
 have hzf:=ho.get hz
 simp only[Nat.lt_irrefl,if_false] at hzf
 have step: ∀{v:Bool},v=(insV a (j:Int) && !insV b (j:Int))->InI ((j:Int)+1)/\(∃j':Nat,(j:Int)+1=(j':Int)/\j'<=10000/\BAt (o.set j v) (fun q=>if q<j' then insV a (q:Int) && !insV b (q:Int) else insV a (q:Int)))/\(10000 - ((j:Int)+1)).toNat<(10000 - (j:Int)).toNat:=fun {v} hv=>⟨by unfold InI;omega,⟨j+1,by omega,by omega,ho.set (by rw[if_pos (by omega),hv]) fun q hq hne=>by
  by_cases hqj:q<j
  ·rw[if_pos hqj,if_pos (by omega)]
  ·rw[if_neg hqj,if_neg (by omega)]⟩,by omega⟩
 refine Cnd.mk (fun ht=>⟨by omega,fun w hw=>⟨by omega,fun u hu=>step ?_⟩⟩) fun hf=>⟨by omega,fun w hw=>step (by rw[←hzf,Bool.eq_false_iff.2 hf];rfl)⟩
 have hw:y[j]? =some w:=hw
 have hwf:=hy.get hw
 rw[←hwf,←hzf,ht]
 cases w<;>rfl
def Cvr(c:Col)(q:Int):Prop:=c.1<=q/\q<c.2
theorem j83(s:List Spn)(a b q:Int):insV (s++[Spn.mk a b]) q=true↔insV s q=true∨(a<=q/\q<b):=by
 rw[q3u,Bool.or_eq_true,q61 (l:=[Spn.mk a b])]
 exact or_congr Iff.rfl ⟨fun ⟨r,hr,k⟩=>by rw[List.mem_singleton.1 hr] at k;exact k,fun k=>⟨_,List.mem_singleton.2 rfl,k⟩⟩
theorem w4i{l:List Col}{t:Col->Prop}[DecidablePred t]{K:List Spn->Prop}(hl:l.length<=1000000)(h: ∀s,s.length<=l.length->(∀q,insV s q=true↔ ∃c∈l,Cvr c q/\t c)->K s):
  Lp2 (fun (Qe:List Spn) (Zd:Int) q88=>CAt l Zd (fun y2=>Cnd (t y2) (Sml (Qe++[Spn.mk y2.1 y2.2]).length/\InI (Zd+1)/\q88 (Qe++[Spn.mk y2.1 y2.2]) (Zd+1)) (InI (Zd+1)/\q88 Qe (Zd+1))) (K Qe)) [] (0:Int):=by
 refine Lp2.ind (fun (s:List Spn) (i:Int)=> ∃j:Nat,i=(j:Int)/\j<=l.length/\s.length<=j/\ ∀q,insV s q=true↔ ∃c∈l.take j,Cvr c q/\t c) (fun _ (i:Int)=>(l.length - i).toNat) ?_ ⟨0,rfl,by omega,by simp,fun q=>by simp[insV]⟩
 rintro s i ⟨j,rfl,hj,hs,hq⟩
 refine Cnd.mk (fun hc=>⟨by omega,fun c hcj=> ?_⟩) fun hc=>h s (by omega) fun q=>by rw[hq q,List.take_of_length_le (by omega)]
 have hcj:l[j]? =some c:=hcj
 have tk:l.take (j+1)=l.take j++[c]:=by rw[List.take_add_one,hcj];rfl
 refine Cnd.mk (fun ht=>⟨by unfold Sml;simp;omega,by unfold InI;omega,⟨j+1,by omega,by omega,by simp;omega,fun q=> ?_⟩,by omega⟩) fun ht=>⟨by unfold InI;omega,⟨j+1,by omega,by omega,by omega,fun q=> ?_⟩,by omega⟩
 ·rw[j83,hq q,tk]
  constructor
  ·rintro (⟨d,hd,z⟩|z)
   ·exact⟨d,List.mem_append_left _ hd,z⟩
   ·exact⟨c,List.mem_append_right _ (List.mem_singleton.2 rfl),z,ht⟩
  ·rintro⟨d,hd,z⟩
   rcases List.mem_append.1 hd with hd|hd
   ·exact .inl ⟨d,hd,z⟩
   ·rw[List.mem_singleton.1 hd] at z;exact .inr z.1
 ·rw[hq q,tk]
  constructor
  ·rintro⟨d,hd,z⟩;exact⟨d,List.mem_append_left _ hd,z⟩
  ·rintro⟨d,hd,z⟩
   rcases List.mem_append.1 hd with hd|hd
   ·exact⟨d,hd,z⟩
   ·rw[List.mem_singleton.1 hd] at z;exact absurd z.2 ht
theorem w0r{l:Lay_}{now:Int}{K:List Spn->Prop}(hl:l.6.length<=1000000)(h: ∀s,s.length<=1000000->(∀q,insV s q=true↔ ∃c∈l.6,Cvr c q/\now<c.3)->K s):J8 l now K:=by
 unfold J8
 exact fun _=>w4i (t:=fun c=>now<c.3) hl fun s hs hq=>h s (by omega) hq
end Go.En
end
noncomputable section
set_option maxRecDepth 100000
namespace Go.En
open Go Go.Fl Go.Fl.Lk Go.Fx
structure EnvL(v:Envt):Prop where
 f:v.4.length<=1000
 l:v.5.length<=1000
 x:v.6.length<=1000
 cl: ∀x∈v.6,x.6.length<=1000000/\x.7.length<=1000000
 co: ∀l∈v.5,l.6.length<=1000000
 va: ∀f∈v.4,f.3.length<=1000000
end Go.En
end
noncomputable section
set_option maxRecDepth 100000
namespace Go.En
open Go Go.Fl Go.Fl.Lk Go.Fx
theorem allR{α:Type}{l:List α}(p:α->Prop){G:Int->α->(Int->Prop)->Prop}{B:Prop}(hl:l.length<=1000000000)(hB:(∀y∈l,p y)->B)
  (hG: ∀(i:Nat) y Y,l[i]? =some y->(p y->InI ((i:Int)+1)/\Y ((i:Int)+1))->G (i:Int) y Y):
  Lp1 (fun x Y=>l.length<=(9223372036854775807:Nat)->Cnd (x<(l.length:Int)) ((0<=x/\x<(l.length:Int))/\ ∀y,l[x.toNat]? =some y->G x y Y) B) 0:=
 v4b (fun y=>dec (¬p y)) hl (fun h=>hB fun y hy=>Classical.byContradiction fun hn=>List.find?_eq_none.1 h y hy (w61 hn)) fun i y Y hy _ _ hq=>hG i y Y hy fun hp=>hq (w34 fun hn=>hn hp)
theorem atq{α:Type}{l:List α}{i:Nat}{x:α}{p:α->Prop}(h:l[i]? =some x)(hp:p x):At l (i:Int) p:=by
 have:=Qb h
 exact⟨by omega,fun y hy=>by
  have hy:l[i]? =some y:=hy
  rw[h] at hy;cases hy;exact hp⟩
theorem v0n{s:Spn}{q:Int}:insV [s] q=true↔s.1<=q/\q<s.2:=by
 rw[q61]
 exact⟨fun ⟨r,hr,k⟩=>by rw[List.mem_singleton.1 hr] at k;exact k,fun k=>⟨s,List.mem_singleton.2 rfl,k⟩⟩
def endV(n c:Int):Int:=if 1099511627776 - n<c then 1099511627776 else n+c
theorem w7b{n c:Int}{K:Int->Prop}(hn:0<=n/\n<=1099511627776)(hc:0<=c)(h:K (endV n c)):Ry n c K:=by
 unfold Ry
 unfold endV at h
 refine⟨by unfold InI;omega,Cnd.mk (fun k=>by rw[if_pos k] at h;exact h) fun k=> ?_⟩
 rw[if_neg k] at h
 exact⟨by unfold InI;omega,h⟩
theorem j84{α:Type}{l:List α}{i:Nat}{p:α->Prop}(hi:i<l.length)(h: ∀x,l[i]? =some x->p x):At l (i:Int) p:=⟨by omega,fun y hy=>h y hy⟩
end Go.En
end
noncomputable section
set_option maxRecDepth 100000
namespace Go.En
open Go Go.Fl Go.Fl.Lk Go.Fx
def ixF{α:Type}(p:α->Bool):List α->Nat->Option (Nat×α)
 |[],_=>none
 |a::l,i=>if p a=true then some (i,a) else ixF p l (i+1)
theorem w8h{α:Type}{l:List α}{p:α->Bool}{i:Nat}{y:α}(hy:l[i]? =some y)(hp:p y=true):ixF p (l.drop i) i=some (i,y):=by
 have hlt:=Qb hy
 rw[List.drop_eq_getElem_cons hlt]
 have e:l[i]=y:=by rw[List.getElem?_eq_getElem hlt] at hy;exact Option.some.inj hy
 rw[e,ixF,if_pos hp]
theorem w4j{α:Type}{l:List α}{p:α->Bool}{i:Nat}{y:α}(hy:l[i]? =some y)(hp:p y=false):ixF p (l.drop i) i=ixF p (l.drop (i+1)) (i+1):=by
 have hlt:=Qb hy
 rw[List.drop_eq_getElem_cons hlt]
 have e:l[i]=y:=by rw[List.getElem?_eq_getElem hlt] at hy;exact Option.some.inj hy
 rw[e,ixF,if_neg (by rw[hp];simp)]
theorem j24{α:Type}{p:α->Bool}: ∀{l:List α} {n i:Nat} {y:α},ixF p l n=some (i,y)->n<=i/\l[i - n]? =some y/\p y=true/\l.find? p=some y
 |[],_,_,_,h=>by cases h
 |a::l,n,i,y,h=>by
  rw[ixF] at h
  split at h
  ·rename_i hp
   cases h;exact⟨Nat.le_refl _,by simp,hp,by rw[List.find?_cons,hp]⟩
  ·rename_i hp
   obtain⟨h1,h2,h3,h4⟩:=j24 h
   refine⟨by omega,?_,h3,by rw[List.find?_cons,Bool.eq_false_iff.2 hp];exact h4⟩
   rw[show i - n=(i - (n+1))+1 by omega];exact h2
theorem w4k{α:Type}{p:α->Bool}{y':α}(hp':p y'=true): ∀{l:List α} {n i:Nat} {y:α},ixF p l n=some (i,y)->ixF p (l.set (i - n) y') n=some (i,y')
 |[],_,_,_,h=>by cases h
 |a::l,n,i,y,h=>by
  rw[ixF] at h
  split at h
  ·cases h
   rw[Nat.sub_self]
   show ixF p (y'::l) n=_
   rw[ixF,if_pos hp']
  ·rename_i hp
   have h1:=(j24 h).1
   have ih:=w4k hp' h
   rw[show i - n=(i - (n+1))+1 by omega]
   show ixF p (a::l.set (i - (n+1)) y') n=_
   rw[ixF,if_neg hp];exact ih
theorem v2j{α:Type}{l:List α}(p:α->Bool){G:Int->α->(Int->Prop)->Prop}{B:Prop}(hl:l.length<=1000000000)(hB:ixF p l 0=none->B)
  (hG: ∀(i:Nat) y Y,l[i]? =some y->i<l.length->(p y=true->ixF p l 0=some (i,y))->(p y=false->InI ((i:Int)+1)/\Y ((i:Int)+1))->G (i:Int) y Y):
  Lp1 (fun x Y=>Cnd (x<(l.length:Int)) ((0<=x/\x<(l.length:Int))/\ ∀y,l[x.toNat]? =some y->G x y Y) B) 0:=by
 refine Lp1.ind (fun i=> ∃j:Nat,i=(j:Int)/\j<=l.length/\ixF p l 0=ixF p (l.drop j) j) (fun i=>(l.length - i).toNat) ?_ ⟨0,rfl,by omega,rfl⟩
 rintro i ⟨j,rfl,hj,hf⟩
 refine Cnd.mk (fun hc=>⟨by omega,fun y hy=> ?_⟩) fun hc=> ?_
 ·have hy:l[j]? =some y:=hy
  refine hG j y _ hy (by omega) (fun hp=>by rw[hf,w8h hy hp]) fun hp=>⟨by unfold InI;omega,⟨j+1,by omega,by omega,by rw[hf,w4j hy hp]⟩,by omega⟩
 ·refine hB ?_
  rw[hf,List.drop_eq_nil_of_le (by omega)];rfl
theorem w8i{α:Type}{l:List α}(p:α->Bool){G:Int->α->(Int->Prop)->Prop}{B:Prop}(hl:l.length<=1000000000)(hB:ixF p l 0=none->B)
  (hG: ∀(i:Nat) y Y,l[i]? =some y->i<l.length->(p y=true->ixF p l 0=some (i,y))->(p y=false->InI ((i:Int)+1)/\Y ((i:Int)+1))->G (i:Int) y Y):
  Lp1 (fun x Y=>l.length<=(9223372036854775807:Nat)->Cnd (x<(l.length:Int)) ((0<=x/\x<(l.length:Int))/\ ∀y,l[x.toNat]? =some y->G x y Y) B) 0:=by
 refine Lp1.ind (fun i=> ∃j:Nat,i=(j:Int)/\j<=l.length/\ixF p l 0=ixF p (l.drop j) j) (fun i=>(l.length - i).toNat) ?_ ⟨0,rfl,by omega,rfl⟩
 rintro i ⟨j,rfl,hj,hf⟩ _
 refine Cnd.mk (fun hc=>⟨by omega,fun y hy=> ?_⟩) fun hc=> ?_
 ·have hy:l[j]? =some y:=hy
  refine hG j y _ hy (by omega) (fun hp=>by rw[hf,w8h hy hp]) fun hp=>⟨by unfold InI;omega,⟨j+1,by omega,by omega,by rw[hf,w4j hy hp]⟩,by omega⟩
 ·refine hB ?_
  rw[hf,List.drop_eq_nil_of_le (by omega)];rfl
def xix(v:Envt)(key:ByteArray):Option (Nat×Exper):=ixF (fun x=>decide (x.1=key)) v.6 0
def lix(v:Envt)(key:ByteArray):Option (Nat×Lay_):=ixF (fun l=>decide (l.1=key)) v.5 0
theorem q96{v:Envt}{key:ByteArray}{j:Nat}{x:Exper}(h:xix v key=some (j,x)):v.6[j]? =some x/\x.1=key/\xof v key=some x:=by
 obtain⟨_,h2,h3,h4⟩:=j24 h
 exact⟨h2,of_decide_eq_true h3,h4⟩
theorem q63{v:Envt}{key:ByteArray}{j:Nat}{l:Lay_}(h:lix v key=some (j,l)):v.5[j]? =some l/\l.1=key/\lof v key=some l:=by
 obtain⟨_,h2,h3,h4⟩:=j24 h
 exact⟨h2,of_decide_eq_true h3,h4⟩
theorem j7r{v:Envt}{key:ByteArray}{K:Int->Prop}(hn:v.5.length<=1000)(h0:lix v key=none->K (-1))(h1: ∀(j:Nat) l,lix v key=some (j,l)->K (j:Int)):W3 v key K:=by
 unfold W3
 exact fun _=>v2j (fun l:Lay_=>decide (l.1=key)) (by omega) h0 fun i y Y _ _ hp hq=>Cnd.mk (fun he=>h1 i y (hp (dt he))) fun he=>hq (df he)
theorem v0o{v:Envt}{key:ByteArray}{K:Int->Prop}(hn:v.5.length<=1000)(h0:lix v key=none->K (-1))(h1: ∀(j:Nat) l,lix v key=some (j,l)->K (j:Int)):Wg v key K:=by
 unfold Wg
 exact w8i (fun l:Lay_=>decide (l.1=key)) (by omega) h0 fun i y Y _ _ hp hq=>Cnd.mk (fun he=>h1 i y (hp (dt he))) fun he=>hq (df he)
theorem w4l{v:Envt}{key:ByteArray}{K:Int->Prop}(hn:v.6.length<=1000)(h0:xix v key=none->K (-1))(h1: ∀(j:Nat) l,xix v key=some (j,l)->K (j:Int)):V2 v key K:=by
 unfold V2
 exact w8i (fun l:Exper=>decide (l.1=key)) (by omega) h0 fun i y Y _ _ hp hq=>Cnd.mk (fun he=>h1 i y (hp (dt he))) fun he=>hq (df he)
def fndV(v:Envt)(key:ByteArray)(now:Int):Except Int (Nat×Exper×Nat×Lay_):=
 if 0<=now/\now<=1099511627776 then match xix v key with
  |none=> .error 11
  |some (j,x)=>match lix v x.2 with
   |none=> .error 11
   |some (k,l)=> .ok (j,x,k,l)
 else .error 3
structure Fnd(v:Envt)(key:ByteArray)(now:Int)(j:Nat)(x:Exper)(k:Nat)(l:Lay_):Prop where
 n0:0<=now
 n1:now<=1099511627776
 hx:xix v key=some (j,x)
 hl:lix v x.2=some (k,l)
theorem j85{v:Envt}{key:ByteArray}{now:Int}{j k:Nat}{x:Exper}{l:Lay_}(h:fndV v key now= .ok (j,x,k,l)):Fnd v key now j x k l:=by
 unfold fndV at h
 split at h
 ·rename_i hn
  split at h
  ·cases h
  ·rename_i hx
   split at h
   ·cases h
   ·rename_i hl
    cases h
    exact⟨hn.1,hn.2,hx,hl⟩
 ·cases h
theorem Fnd.v{v:Envt}{key:ByteArray}{now:Int}{j k:Nat}{x:Exper}{l:Lay_}(h:Fnd v key now j x k l):fndV v key now= .ok (j,x,k,l):=by
 unfold fndV
 rw[if_pos ⟨h.n0,h.n1⟩,h.hx]
 simp only[h.hl]
theorem j86{v:Envt}{key:ByteArray}{now e:Int}(h:fndV v key now= .error e):e≠0:=by
 unfold fndV at h
 split at h
 ·split at h
  ·cases h;decide
  ·split at h
   ·cases h;decide
   ·cases h
 ·cases h;decide
theorem j5i{now:Int}{K:Bool->Prop}(h: ∀r,(r=true↔0<=now/\now<=1099511627776)->K r):Vr now K:=by
 unfold Vr
 exact Cnd.mk (fun h6=>h _ ⟨fun a=>⟨h6,of_decide_eq_true a⟩,fun a=>decide_eq_true a.2⟩) fun h6=>h _ ⟨fun a=>(by cases a),fun a=>absurd a.1 h6⟩
theorem v2k{v:Envt}{key:ByteArray}{now:Int}{K:Int->Int->Int->Prop}(hx:v.6.length<=1000)(hl:v.5.length<=1000)(h0: ∀e,fndV v key now= .error e->K 0 0 e)(h1: ∀(j k:Nat) x l,fndV v key now= .ok (j,x,k,l)->K (j:Int) (k:Int) 0):G1 v key now K:=by
 unfold G1 q4u
 refine j5i fun r hr=>Cnd.mk (fun hr1 _=> ?_) fun hr1=>h0 3 (by unfold fndV;rw[if_neg fun k=>hr1 (hr.2 k)])
 have hm:=hr.1 hr1
 refine v2j (fun x:Exper=>decide (x.1=key)) (by omega) (fun hn=>Cnd.yes (by decide) (h0 11 ?_)) fun i y Y hy hi hp hq=>Cnd.mk (fun he=>Cnd.no (by omega) (atq hy ?_)) fun he=>hq (df he)
 ·have hn:xix v key=none:=hn
  unfold fndV
  rw[if_pos hm,hn]
 ·have hxx:xix v key=some (i,y):=hp (dt he)
  refine j7r (v:=v) hl (fun hno=>Cnd.yes (by decide) (h0 11 ?_)) fun k l hkl=>Cnd.no (by omega) (h1 i k y l (Fnd.v ⟨hm.1,hm.2,hxx,hkl⟩))
  unfold fndV
  rw[if_pos hm,hxx]
  simp only[hno]
theorem q0a{α:Type}{l acc:List α}{G:α->(α->Prop)->Prop}{R:List α->Prop}(ha:acc=[])(hl:l.length<=1000000)(hG: ∀y∈l,∀K:α->Prop,K y->G y K)(h:R l):
  Lp2 (fun acc i Y=>Cnd (i<(l.length:Int)) ((0<=i/\i<(l.length:Int))/\ ∀y,l[i.toNat]? =some y->G y fun x=>Sml (acc++[x]).length/\InI (i+1)/\Y (acc++[x]) (i+1)) (R acc)) acc (0:Int):=by
 subst ha
 refine Lp2.ind (fun (acc:List α) (i:Int)=> ∃j:Nat,i=(j:Int)/\j<=l.length/\acc=l.take j) (fun _ (i:Int)=>(l.length - i).toNat) ?_ ⟨0,rfl,by omega,rfl⟩
 rintro acc i ⟨j,rfl,hj,rfl⟩
 refine Cnd.mk (fun hc=>⟨by omega,fun y hy=> ?_⟩) fun hc=>by rw[List.take_of_length_le (by omega)];exact h
 have hy:l[j]? =some y:=hy
 refine hG y (getm hy) _ ⟨by unfold Sml;simp;omega,by unfold InI;omega,⟨j+1,by omega,by omega,?_⟩,by omega⟩
 rw[List.take_add_one,hy];rfl
theorem smlA{α:Type}{l:List α}(h:l.length<=1000000):Sml ([]++l).length:=by rw[List.nil_append];unfold Sml;omega
theorem sml0{α:Type}{l:List α}(h:l.length<=1000000):(0:Int)<=(0:Int)/\(0:Int)<=((l.length:Nat):Int)/\Sml ((l.length:Nat):Int).toNat:=⟨by omega,by omega,by unfold Sml;omega⟩
theorem j25{v:Val}{K:Val->Prop}(hv:v.4.length<=1000000)(h:K v):Vj v K:=by
 obtain⟨a,b,c,d⟩:=v
 intro n0 hn
 exact Cnd.mk (fun hc=>by obtain rfl:=hn hc;exact h) fun _=>⟨smlA hv,h⟩
theorem j26{v:Srv}{K:Srv->Prop}(hv:v.5.length<=1000000)(h:K v):q11 v K:=by
 obtain⟨a,b,c,d,e⟩:=v
 intro n0 hn
 exact Cnd.mk (fun hc=>by obtain rfl:=hn hc;exact h) fun _=>⟨smlA hv,h⟩
theorem j5j{v:Tgt}{K:Tgt->Prop}(hv:v.3.length<=1000000)(h:K v):G2 v K:=by
 obtain⟨a,b,c⟩:=v
 intro n0 hn
 exact Cnd.mk (fun hc=>by obtain rfl:=hn hc;exact h) fun _=>⟨smlA hv,h⟩
theorem w4m{l:List Col}{K:List Col->Prop}(hv:l.length<=1000000)(h:K l):Qu l K:=by
 intro n0 hn
 exact Cnd.mk (fun hc=>by obtain rfl:=hn hc;exact h) fun _=>⟨smlA hv,h⟩
theorem w7c{l:Lay_}{K:Lay_->Prop}(hv:l.6.length<=1000000)(h:K l):Gc l K:=by
 unfold Gc q6p
 exact w4m hv h
theorem ExS.val{n:Nat}{e:Ex}(h:ExS n e):VsS e.4:=by
 cases n with
 |zero=>exact h.1
 |succ n=>exact h.1
theorem q64: ∀(n:Nat) {e:Ex} {K:Ex->Prop},ExS n e->K e->Hy e K:=by
 intro n
 induction n with
 |zero=>
  intro e K he h X hX
  have hz:e.5=[]:=he.2.2.2
  refine hX e K ?_
  unfold q39
  have hv:=he.val
  have hvl:=hv.len
  simp only[Ww]
  refine fun _=>⟨sml0 (by omega),fun _=>q0a rfl (by omega) (fun y hy K hK=>j25 (by have:=(hv.all y hy).len;omega) hK) fun _=>⟨sml0 (by rw[hz];simp),fun _=> ?_⟩⟩
  refine q0a (G:=fun y K=>X y K) rfl (by rw[hz];simp) (fun y hy=>by rw[hz] at hy;cases hy) ?_
  show K (Ex.mk e.1 e.2 e.3 e.4 e.5)
  rw[Ww];exact h
 |succ n ih=>
  intro e K he h X hX
  have hk:=he.kids
  refine hX e K ?_
  unfold q39
  have hv:=he.val
  have hvl:=hv.len
  simp only[Ww]
  refine fun _=>⟨sml0 (by omega),fun _=>q0a rfl (by omega) (fun y hy K hK=>j25 (by have:=(hv.all y hy).len;omega) hK) fun _=>⟨sml0 (by omega),fun _=> ?_⟩⟩
  refine q0a (G:=fun y K=>X y K) rfl (by omega) (fun y hy K hK=>ih (he.2.2.2.2 y hy) hK X hX) ?_
  show K (Ex.mk e.1 e.2 e.3 e.4 e.5)
  rw[Ww];exact h
theorem w0s{g:Seg}{K:Seg->Prop}(hg:SegS g)(h:K g):J6 g K:=by
 have h1:=hg.incl
 have h2:=hg.excl
 have h3:=hg.cond
 obtain⟨a,b,c,d,e⟩:=g
 unfold J6 q29
 simp only[Ww] at h1 h2 h3⊢
 intro n0 hn
 refine Cnd.mk (fun hc=> ?_) fun _=>⟨smlA (by omega),?_⟩
 ·obtain rfl:=hn hc
  intro n2 hn2
  exact Cnd.mk (fun hc=>by obtain rfl:=hn2 hc;exact q64 4 h3 h) fun _=>⟨smlA (by omega),q64 4 h3 h⟩
 ·intro n2 hn2
  exact Cnd.mk (fun hc=>by obtain rfl:=hn2 hc;exact q64 4 h3 h) fun _=>⟨smlA (by omega),q64 4 h3 h⟩
theorem j27{x:Exper}{K:Exper->Prop}(hx:ExpS x)(h:K x):Z1 x K:=by
 have h1:=hx.claims.len
 have h2:=hx.arms.1
 have h3:=hx.cond
 obtain⟨a,b,c,d,e,f,g,i⟩:=x
 unfold Z1 Rw
 simp only[Ww] at h1 h2 h3⊢
 intro n0 hn
 refine Cnd.mk (fun hc=> ?_) fun _=>⟨smlA (by omega),?_⟩
 ·obtain rfl:=hn hc
  intro n2 hn2
  exact Cnd.mk (fun hc=>by obtain rfl:=hn2 hc;exact q64 4 h3 h) fun _=>⟨smlA (by omega),q64 4 h3 h⟩
 ·intro n2 hn2
  exact Cnd.mk (fun hc=>by obtain rfl:=hn2 hc;exact q64 4 h3 h) fun _=>⟨smlA (by omega),q64 4 h3 h⟩
theorem w4n{n:Int}{r:Rul}{K:Rul->Prop}(hr:RulS n r)(h:K r):Hz r K:=by
 have h1:=hr.cond
 have h2:=hr.serve.split.1
 unfold Hz q8f
 simp only[Ww]
 exact q64 4 h1 (j26 (v:=r.3) (by omega) h)
theorem v0p{f:Flg}{K:Flg->Prop}(hf:FlgS f)(ht: ∀t∈f.7,t.3.length<=1000000)(h:K f):Uu f K:=by
 have h1:=hf.vlen
 have h2:=hf.vals
 have h3:=hf.nlen
 have h4:=hf.tlen
 have h5:=hf.rlen
 have h6:=hf.rules
 have h7:=hf.dflt.split.1
 obtain⟨a,b,c,d,e,f,g,i,j⟩:=f
 unfold Uu q8g
 simp only[Ww] at h1 h2 h3 h4 h5 h6 h7 ht⊢
 refine fun _=>⟨sml0 (by omega),fun _=>q0a (G:=fun y K=>Vj y K) rfl (by omega) (fun y hy K hK=>j25 (by have:=(h2 y hy).len;omega) hK) ?_⟩
 intro n0 hn
 refine Cnd.mk (fun hc=> ?_) fun _=>⟨smlA (by omega),?_⟩
 ·obtain rfl:=hn hc
  refine fun _=>⟨sml0 (by omega),fun _=>q0a (G:=fun y K=>G2 y K) rfl (by omega) (fun y hy K hK=>j5j (ht y hy) hK) fun _=>⟨sml0 (by omega),fun _=> ?_⟩⟩
  exact q0a (G:=fun y K=>Hz y K) rfl (by omega) (fun y hy K hK=>w4n (h6 y hy) hK) (j26 (v:=j) (by omega) h)
 ·refine fun _=>⟨sml0 (by omega),fun _=>q0a (G:=fun y K=>G2 y K) rfl (by omega) (fun y hy K hK=>j5j (ht y hy) hK) fun _=>⟨sml0 (by omega),fun _=> ?_⟩⟩
  exact q0a (G:=fun y K=>Hz y K) rfl (by omega) (fun y hy K hK=>w4n (h6 y hy) hK) (j26 (v:=j) (by omega) h)
structure EnvK(v:Envt):Prop where
 al:v.2.length<=1000000
 sn:v.3.length<=1000
 sg: ∀g∈v.3,SegS g
 fn:v.4.length<=1000
 fl: ∀f∈v.4,FlgS f/\ ∀t∈f.7,t.3.length<=1000000
 ln:v.5.length<=1000
 ly: ∀l∈v.5,LayS l
 xn:v.6.length<=1000
 ex: ∀x∈v.6,ExpS x
theorem EnvK.l{v:Envt}(h:EnvK v):EnvL v:=⟨h.fn,h.ln,h.xn,fun x hx=>⟨by have:=(h.ex x hx).claims.len;omega,by have:=(h.ex x hx).arms.1;omega⟩,fun l hl=>by have:=(h.ly l hl).cl;omega,fun f hf=>by have:=(h.fl f hf).1.vlen;omega⟩
end Go.En
end
