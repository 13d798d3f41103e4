/- CheckWitness: a rule is unreachable exactly if there are no truth values for which it is the first that holds This is part 5 of 9. Conditions: those in the statements. -/
import Derived.Test.YtlmjknifmlifiaaGreatDoorWi4
noncomputable section
set_option maxRecDepth 100000
namespace Go.En
open Go Go.Fl Go.Fl.Lk Go.Fx Go.Dg
theorem HolS.kid{ats:List Ex}{ms:List Nd}{e k:Ex}(h:HolS ats ms e)(hk:k∈e.5):HolS ats ms k:=fun a ha=>h a (by rw[Rk];exact List.mem_cons_of_mem _ (U0.2 ⟨k,hk,ha⟩))
theorem HolS.self{ats:List Ex}{ms:List Nd}{e:Ex}(h:HolS ats ms e):Hol ms (semI ats e):=h e (by rw[Rk];exact List.mem_cons_self)
structure CnX(ats:List Ex)(ns:List Nd)(full:Bool)(e:Ex)(ns':List Nd)(ids':Nd->Option Int)(full':Bool):Prop where
 gx:Gx ns full ns' ids' full'
 few:ns'.length<=ns.length+cst e
 old: ∀ms k,Nod ms->HolS ats ms e->Few ns ms k->Few ns' ms (k+xc e)
theorem z8u{α:Type}{l:List α}{j:Nat}{z:α}(h:l[j]? =some z):l.drop j=z::l.drop (j+1):=by
 have hl:=Qe h
 rw[List.drop_eq_getElem_cons hl]
 rw[List.getElem?_eq_getElem hl] at h
 rw[Option.some.inj h]
def lvsL(ats:List Ex)(l:List Ex):List Int:=(lvEL l).map fun x=>(ixL ats x:Int)
theorem j1v{ats:List Ex}{e:Ex}{X:Zc}{op:Jb}{H:Bool->Bool->Bool}{FF:List Ex->(Int->Bool)->Bool}{ns:List Nd}{ids:Nd->Option Int}{full:Bool}{start:Int}{K:Int->List Nd->(Nd->Option Int)->Bool->Prop}
  (kid: ∀{y:Ex} {ns:List Nd} {ids:Nd->Option Int} {full:Bool} {K:Int->List Nd->(Nd->Option Int)->Bool->Prop},y∈e.5->Inv ns ids->ns.length<=4000->(∀r ns' ids' full',CnX ats ns full y ns' ids' full'->Mx ns' (sem ats y) (lvs ats y) r->K r ns' ids' full')->X ns ids full ats (Ex.mk y.1 y.2 y.3 y.4 y.5) K)
  (hop: ∀{ns:List Nd} {ids:Nd->Option Int} {full:Bool} {f g:Int} {F G:(Int->Bool)->Bool} {S:List Int} {K:Int->List Nd->(Nd->Option Int)->Bool->Prop},Inv ns ids->ns.length<=4000->Mx ns F S f->Mx ns G S g->(∀r ns' ids' full',Chx ns full (2 ^ S.length) (fun v=>H (F v) (G v)) ns' ids' full'->Mx ns' (fun v=>H (F v) (G v)) S r->K r ns' ids' full')->op ns ids full f g K)
  (hF: ∀k l v,FF (k::l) v=H (sem ats k v) (FF l v))(h0:Dgm ns (FF []) [] start)(hlen:e.5.length<=1000)(hse: ∀v,sem ats e v=FF e.5 v)
  (hc:cst e=cstL e.5+e.5.length*2 ^ (lvEL e.5).length)(hx:xc e=xcL e.5+sufs e.5.tail)(hl:lvE e=lvEL e.5)(hI:Inv ns ids)(hln:ns.length<=4000)(hne:e.5≠[])
  (h: ∀r ns' ids' full',CnX ats ns full e ns' ids' full'->Mx ns' (sem ats e) (lvs ats e) r->K r ns' ids' full'):
  Lp5 (fun Zq Gu (j1w:List (Int×Int×Int)) q5g j1x j6k=>Cnd ((0:Int)<=Gu) (At e.5 Gu fun y3=>X j1w j1x q5g ats (Ex.mk y3.1 y3.2 y3.3 y3.4 y3.5) fun Jt (q76:List (Int×Int×Int)) z4j j4o=>op q76 z4j j4o Jt Zq fun Zx (z8z:List (Int×Int×Int)) j4p j4q=>InI (Gu - 1)/\j6k Zx (Gu - 1) z8z j4q j4p) (K Zq j1w j1x q5g)) start ((↑e.5.length:Int) - 1) ns full ids:=by
 have hpos:=List.length_pos_iff.2 hne
 let T:Nat->Nat:=fun j=>if j=0 then sufs (e.5.drop 1) else sufs (e.5.drop j)
 have lv0:lvs ats e=lvsL ats e.5:=by unfold lvs lvsL;rw[hl]
 refine Lp5.ind (fun (f i:Int) ns2 full2 ids2=> ∃j:Nat,i=(j:Int) - 1/\j<=e.5.length/\Mx ns2 (FF (e.5.drop j)) (lvsL ats (e.5.drop j)) f/\Gx ns full ns2 ids2 full2/\ns2.length<=ns.length+cstL (e.5.drop j)+(e.5.length - j)*2 ^ (lvEL e.5).length/\ ∀ms k,Nod ms->HolS ats ms e->Few ns ms k->Few ns2 ms (k+xcL (e.5.drop j)+T j)) (fun _ (i:Int) _ _ _=>(i+1).toNat) ?_ ⟨e.5.length,rfl,Nat.le_refl _,?_,Gx.refl hI hln,by omega,fun ms k _ _ hf=>hf.le (by omega)⟩
 rotate_left
 ·rw[List.drop_length];exact .inr h0
 rintro f i ns2 full2 ids2 ⟨j,rfl,hj,d2,g2,c2,o2⟩
 refine Cnd.mk (fun hc2=>⟨by omega,fun z hz=> ?_⟩) fun hc2=> ?_
 ·obtain⟨i,rfl⟩: ∃i,j=i+1:=⟨j - 1,by omega⟩
  rw[show (((i+1:Nat):Int) - 1).toNat=i by omega] at hz
  have hd:=z8u hz
  refine kid (getm hz) g2.inv g2.len fun r3 ns3 ids3 full3 g3 m3=> ?_
  have w1: ∀x∈lvs ats z,x∈lvsL ats (e.5.drop i):=fun x hx=>by
   unfold lvsL;rw[hd];show x∈(lvE z++lvEL (e.5.drop (i+1))).map _
   rw[List.map_append];exact List.mem_append_left _ hx
  have w2: ∀x∈lvsL ats (e.5.drop (i+1)),x∈lvsL ats (e.5.drop i):=fun x hx=>by
   unfold lvsL;rw[hd];show x∈(lvE z++lvEL (e.5.drop (i+1))).map _
   rw[List.map_append];exact List.mem_append_right _ hx
  have ll:(lvsL ats (e.5.drop i)).length=(lvEL (e.5.drop i)).length:=by unfold lvsL;rw[List.length_map]
  have lle:(lvEL (e.5.drop i)).length<=(lvEL e.5).length:=by
   have:lvEL e.5=lvEL (e.5.take i)++lvEL (e.5.drop i):=by rw[←q9k,List.take_append_drop]
   rw[this,List.length_append];omega
  refine hop (S:=lvsL ats (e.5.drop i)) g3.gx.inv g3.gx.len (m3.wide w1) ((d2.pre g2.inv.nod g3.gx.inv.nod g3.gx.pre g3.gx.len).wide w2) fun r4 ns4 ids4 full4 g4 m4=>⟨by unfold InI;omega,⟨i,by omega,by omega,m4.eq fun v=>by rw[hd,hF],(g2.trans g3.gx).trans g4.gx,?_,fun ms k hM hS hf=> ?_⟩,by omega⟩
  ·have c3:=g3.few
   have c4:=g4.few
   rw[ll] at c4
   have p:=q3c lle
   have e1:cstL (e.5.drop i)=cst z+cstL (e.5.drop (i+1)):=by rw[hd];rfl
   have e2:(e.5.length - i)*2 ^ (lvEL e.5).length=(e.5.length - (i+1))*2 ^ (lvEL e.5).length+2 ^ (lvEL e.5).length:=by
    rw[show e.5.length - i=(e.5.length - (i+1))+1 by omega,Nat.add_mul,Nat.one_mul]
   omega
  ·have f2:=o2 ms k hM hS hf
   have f3:=g3.old ms _ hM (hS.kid (getm hz)) f2
   have e1:xcL (e.5.drop i)=xc z+xcL (e.5.drop (i+1)):=by rw[hd];rfl
   have t1:T (i+1)=sufs (e.5.drop (i+1)):=if_neg (by omega)
   by_cases hi:i=0
   ·subst hi
    have t0:T 0=sufs (e.5.drop 1):=if_pos rfl
    have hH:Hol ms (i01 fun v=>H (sem ats z v) (FF (e.5.drop (0+1)) v)):=by
     have:(i01 fun v=>H (sem ats z v) (FF (e.5.drop (0+1)) v))=semI ats e:=funext fun v=>by
      show (if H (sem ats z v) (FF (e.5.drop (0+1)) v)=true then _ else _)=if sem ats e v=true then _ else _
      rw[hse,←hF,←hd,List.drop_zero]
     rw[this];exact hS.self
    refine (g4.old ms _ hM f3 hH).le ?_
    have t3:sufs (List.drop (0+1) e.5)=sufs (List.drop 1 e.5):=rfl
    rw[t0,e1,t1];omega
   ·have t2:T i=2 ^ (lvEL (e.5.drop i)).length+sufs (e.5.drop (i+1)):=by
     show (if i=0 then _ else sufs (e.5.drop i))=_
     rw[if_neg hi,hd];rfl
    refine (g4.new g3.gx.inv f3).le ?_
    rw[t2,e1,t1,ll];omega
 ·obtain rfl:j=0:=by omega
  rw[List.drop_zero] at d2 c2
  refine h _ _ _ _ ⟨g2,by rw[hc];simp only[Nat.sub_zero] at c2;omega,fun ms k hM hS hf=>(o2 ms k hM hS hf).le ?_⟩ (by rw[lv0];exact d2.eq hse)
  rw[hx,List.drop_zero]
  show k+xcL e.5+(if (0:Nat)=0 then sufs (e.5.drop 1) else _)<=_
  rw[if_pos rfl,List.drop_one];omega
theorem j4h{ats:List Ex}(ha:ats.length<=1000): ∀(n:Nat) {ns:List Nd} {ids:Nd->Option Int} {full:Bool} {e:Ex} {K:Int->List Nd->(Nd->Option Int)->Bool->Prop},ExS n e->WfN e->(∀x∈lvE e,x∈ats)->Inv ns ids->ns.length<=4000->
  (∀r ns' ids' full',CnX ats ns full e ns' ids' full'->Mx ns' (sem ats e) (lvs ats e) r->K r ns' ids' full')->Wu ns ids full ats e K:=by
 intro n ns ids full e K he hwn hin hI hl h X hX
 induction n using Nat.strongRecOn generalizing ns ids full e K with
 |_ n ih=>
 refine hX _ _ _ _ _ _ ?_
 unfold Uj
 have hop:=he.opK
 have kid0: ∀{y:Ex} {ns:List Nd} {ids:Nd->Option Int} {full:Bool} {K:Int->List Nd->(Nd->Option Int)->Bool->Prop},y∈e.5->(∀x∈lvE y,x∈ats)->Inv ns ids->ns.length<=4000->(∀r ns' ids' full',CnX ats ns full y ns' ids' full'->Mx ns' (sem ats y) (lvs ats y) r->K r ns' ids' full')->X ns ids full ats (Ex.mk y.1 y.2 y.3 y.4 y.5) K:=fun hy hi hI hr hK=>by
  obtain⟨m,hm,hk⟩:=he.kid hy
  rw[Vs]
  exact ih m (by omega) hk (hwn.kid hy) hi hI hr hK
 have hse: ∀v,sem ats e v=if e.1=1 then true else if e.1=2 then bevA (fun x=>v (ixL ats x)) e.5 else if e.1=3 then bevO (fun x=>v (ixL ats x)) e.5 else if e.1=4 then bevN (fun x=>v (ixL ats x)) e.5 else v (ixL ats e):=fun v=>z1h _ e
 have hle:=Hp e
 have hce:=q73 e
 have hxe:=z8s e
 have hk3:e.5.length<=3:=he.kids
 have hls:lvs ats e=(lvE e).map fun x=>(ixL ats x:Int):=rfl
 have nd:2<=e.1->e.1<=4->lvE e=lvEL e.5/\cst e=cstL e.5+e.5.length*2 ^ (lvEL e.5).length/\xc e=xcL e.5+sufs e.5.tail/\(∀y∈e.5,∀x∈lvE y,x∈ats)/\e.5≠[]:=fun a b=>by
  have n1: ¬e.1=1:=by omega
  have n2:e.1=2∨e.1=3∨e.1=4:=by omega
  rw[if_neg n1,if_pos n2] at hle hce
  rw[if_pos n2] at hxe
  exact⟨hle,hce,hxe,fun y hy x hx=>hin x (by rw[hle];exact q3d.2 ⟨y,hy,hx⟩),hop a b⟩
 refine Cnd.mk (fun h1=> ?_) fun h1=>Cnd.mk (fun h2=> ?_) fun h2=>Cnd.mk (fun h3=> ?_) fun h3=>Cnd.mk (fun h4 _=> ?_) fun h4 _=> ?_
 ·rw[if_pos h1] at hce hle
  rw[if_neg (by omega)] at hxe
  refine Ug (h _ _ _ _ ⟨Gx.refl hI hl,by omega,fun ms k _ _ hf=>hf.le (by omega)⟩ (.inr ⟨⟨by decide,by show (-1:Int) - 1<_;omega⟩,fun v=> ?_,fun v v' _=>by rw[hse,hse,if_pos h1,if_pos h1]⟩))
  rw[hse,if_pos h1,if_pos ⟨by decide,by decide⟩,Z5 (by omega)];rfl
 ·obtain⟨a,b,c,d,f⟩:=nd (by omega) (by omega)
  refine Ug fun _=>⟨by unfold InI;omega,?_⟩
  rw[if_pos ⟨by decide,by decide⟩]
  exact j1v (H:=fun a b=>a && b) (FF:=fun l v=>bevA (fun x=>v (ixL ats x)) l) (fun hy=>kid0 hy (d _ hy)) j59 (fun _ _ _=>rfl) (Dgm.tru (S:=[])) (by omega) (fun v=>by rw[hse,if_neg h1,if_pos h2]) b c a hI hl f h
 ·obtain⟨a,b,c,d,f⟩:=nd (by omega) (by omega)
  refine Ug fun _=>⟨by unfold InI;omega,?_⟩
  rw[if_pos ⟨by decide,by decide⟩]
  exact j1v (H:=fun a b=>a||b) (FF:=fun l v=>bevO (fun x=>v (ixL ats x)) l) (fun hy=>kid0 hy (d _ hy)) j6a (fun _ _ _=>rfl) (Dgm.fls (S:=[])) (by omega) (fun v=>by rw[hse,if_neg h1,if_neg h2,if_pos h3]) b c a hI hl f h
 ·obtain⟨a,b,c,d,f⟩:=nd (by omega) (by omega)
  have hpos:=List.length_pos_iff.2 f
  refine Cnd.no (by omega) ⟨⟨by omega,by omega⟩,fun y hy=> ?_⟩
  have hy:e.5[0]? =some y:=hy
  have hl1:e.5=[y]:=by
   have hn:=hwn.self h4
   revert hy hn
   rcases e.5 with _|⟨z,_|⟨w,l⟩⟩
   ·intro q;cases q
   ·intro q _;rw[Option.some.inj q]
   ·intro _ q;simp at q
  have hy':y∈e.5:=getm hy
  have ev1:lvEL e.5=lvE y:=by rw[hl1];simp[lvEL]
  have ls1:lvs ats e=lvs ats y:=by rw[hls,a,ev1];rfl
  have hs1: ∀v,sem ats e v= !(sem ats y v):=fun v=>by rw[hse,if_neg h1,if_neg h2,if_neg h3,if_pos h4,hl1];rfl
  refine kid0 hy' (d y hy') hI hl fun r3 ns3 ids3 full3 g3 m3=> ?_
  refine j6b g3.gx.inv g3.gx.len m3 fun r4 ns4 ids4 full4 g4 m4=>h _ _ _ _ ⟨g3.gx.trans g4.gx,?_,fun ms k hM hS hf=> ?_⟩ (by rw[ls1];exact m4.eq hs1)
  ·have c3:=g3.few
   have c4:=g4.few
   rw[b,hl1]
   show _<=ns.length+(cst y+0+1*2 ^ (lvE y++[]).length)
   rw[List.append_nil,Nat.one_mul]
   rw[show (lvs ats y).length=(lvE y).length by unfold lvs;rw[List.length_map]] at c4
   omega
  ·have hH:Hol ms (i01 fun v=> !(sem ats y v)):=by
    have:(i01 fun v=> !(sem ats y v))=semI ats e:=funext fun v=>by
     show (if (!(sem ats y v))=true then _ else _)=if sem ats e v=true then _ else _
     rw[hs1]
    rw[this];exact hS.self
   refine (g4.old ms _ hM (g3.old ms _ hM (hS.kid hy') hf) hH).le ?_
   rw[c,hl1]
   show k+xc y<=k+(xc y+0+0)
   omega
 ·have nn: ¬(e.1=2∨e.1=3∨e.1=4):=by omega
  rw[if_neg h1,if_neg nn] at hle hce
  rw[if_neg nn] at hxe
  have hmem:e∈ats:=hin e (by rw[hle];exact List.mem_singleton.2 rfl)
  refine Lp1.ind (fun (i:Int)=>0<=i/\i<=ats.length/\e∉ats.take i.toNat) (fun (i:Int)=>(ats.length - i).toNat) ?_ ⟨by omega,by omega,by simp⟩
  rintro i ⟨i0,i1,hno⟩
  refine Cnd.mk (fun hc=>⟨⟨i0,hc⟩,fun y hy=> ?_⟩) fun hc=> ?_
  ·show Zz (Ex.mk y.1 y.2 y.3 y.4 y.5) _ _
   rw[Vs,Vs]
   refine q4o _ (Nat.le_refl _) fun r hr=>Cnd.mk (fun hb=> ?_) fun hb=>⟨by unfold InI;omega,⟨by omega,by omega,?_⟩,by omega⟩
   ·have hye:=hr.1 hb
    subst hye
    have hix:=z8f hy hno
    have hr2:((ixL ats y:Nat):Int)=i:=by rw[hix];omega
    have es: ∀v,sem ats y v=v i:=fun v=>by rw[hse,if_neg h1,if_neg h2,if_neg h3,if_neg h4,hr2]
    refine Ug (Ug ?_)
    refine j4f hI hl i0 (by omega) fun r4 ns4 ids4 full4 g4 m4=>h _ _ _ _ ⟨g4.gx,by rw[hce];exact g4.few,fun ms k hM hS hf=> ?_⟩ ?_
    ·have hH:Hol ms (i01 fun v=>v i):=by
      have:(i01 fun v=>v i)=semI ats y:=funext fun v=>by
       show (if v i=true then _ else _)=if sem ats y v=true then _ else _
       rw[es]
      rw[this];exact hS.self
     exact (g4.old ms _ hM hf hH).le (by omega)
    ·rw[hls,hle]
     show Mx ns4 _ [((ixL ats y:Nat):Int)] r4
     rw[hr2]
     exact m4.eq es
   ·rw[show (i+1).toNat=i.toNat+1 by omega,List.take_add_one,hy]
    have:e≠y:=fun k=>hb (hr.2 k.symm)
    simp[hno,this]
  ·exact absurd (by rw[List.take_of_length_le (by omega)];exact hmem) hno
end Go.En
end
noncomputable section
set_option maxRecDepth 100000
namespace Go.En
open Go Go.Fl Go.Fl.Lk Go.Fx Go.Dg
theorem j6d: ∀(n:Nat) {e x:Ex},wt e<=n->x∈lvE e->wt x<=wt e
 |0,e,x,h,_=>by have:=q6q e;omega
 |n+1,e,x,h,hx=>by
  rw[Hp] at hx
  split at hx
  ·cases hx
  ·split at hx
   ·obtain⟨k,hk,hx⟩:=q3d.1 hx
    have h1:=z1i hk
    have h2:=j6d n (show wt k<=n by omega) hx
    omega
   ·rw[List.mem_singleton.1 hx];exact Nat.le_refl _
theorem z5l{l a:List Ex}(h:l.Nodup):(addL l a).Nodup:=by
 induction a generalizing l with
 |nil=>exact h
 |cons x a ih=>
  unfold addL
  refine ih ?_
  split
  ·exact h
  ·rename_i hx
   refine List.nodup_append.2 ⟨h,by simp,fun a ha b hb e2=> ?_⟩
   rw[List.mem_singleton.1 hb] at e2
   exact hx (by rw[←e2];exact ha)
def atsR(l:List Rul):List Ex:=addL [] (lvEL (l.map Rul.cond))
theorem q3f{l:List Rul}{x:Ex}:x∈atsR l↔ ∃r∈l,x∈lvE r.2:=by
 unfold atsR
 rw[z4e,q3d]
 constructor
 ·rintro (h|⟨k,hk,hx⟩)
  ·cases h
  ·obtain⟨r,hr,rfl⟩:=List.mem_map.1 hk
   exact⟨r,hr,hx⟩
 ·rintro⟨r,hr,hx⟩
  exact .inr ⟨r.2,List.mem_map.2 ⟨r,hr,rfl⟩,hx⟩
theorem q9n{l:List Rul}:(atsR l).length<=(lvEL (l.map Rul.cond)).length:=by
 have:=Bw [] (lvEL (l.map Rul.cond))
 simpa [atsR] using this
theorem j6e{l:List Rul}{K:List Ex->Prop}(hl:l.length<=8)(hr: ∀r∈l,ExS 4 r.2/\WfX r.2)(hB:(lvEL (l.map Rul.cond)).length<=1000)(h: ∀ats,AtsOk ats l->ats=atsR l->K ats):Wo l K:=
 q4z hl hr hB fun h5=>h _ ⟨h5,z5l List.nodup_nil,fun _=>q3f,Nat.le_trans q9n hB⟩ rfl
theorem z8v: ∀{l:List Ex} {e:Ex},e∈l->ixL l e<l.length
 |a::l,e,h=>by
  unfold ixL
  rw[List.length_cons]
  split
  ·omega
  ·rename_i ne
   have:=z8v ((List.mem_cons.1 h).resolve_left fun q=>ne q.symm)
   omega
def plc(n:Nat):List Int:=(List.range n).map fun i:Nat=>(i:Int)
theorem j4i(n:Nat):(plc n).length=n:=by unfold plc;rw[List.length_map,List.length_range]
theorem j4j{ats:List Ex}{e:Ex}(h: ∀x∈lvE e,x∈ats): ∀i∈lvs ats e,i∈plc ats.length:=fun i hi=>by
 obtain⟨x,hx,rfl⟩:=List.mem_map.1 hi
 exact List.mem_map.2 ⟨ixL ats x,List.mem_range.2 (z8v (h x hx)),rfl⟩
theorem z8w(l m:List Ex):xcL (l++m)=xcL l+xcL m:=by
 induction l with
 |nil=>simp[xcL]
 |cons k l ih=>simp only[List.cons_append,xcL,ih];omega
theorem j4k{m:Nat}{l:List Ex}(h: ∀e∈l,wt e<=m):wtL l<=l.length*(1+m):=by
 induction l with
 |nil=>simp[wtL]
 |cons a l ih=>
  have h1:=h a List.mem_cons_self
  have h2:=ih fun e he=>h e (List.mem_cons_of_mem _ he)
  simp only[wtL,List.length_cons,Nat.add_mul,Nat.one_mul] at*;omega
theorem q75{l:List Rul}{K:List Int->Bool->Prop}(hl:l.length<=8)(hr: ∀r∈l,ExS 4 r.2/\WfX r.2/\WfN r.2/\wt r.2<=100000)(hB:(lvEL (l.map Rul.cond)).length<=1000)
  (h0: ∀ns,Nod ns->ns.length=4000->ns.length<=cstL (l.map Rul.cond)+l.length*2 ^ (atsR l).length->(∀ms,Nod ms->(∀j,j<=l.length->Hol ms (anyI (atsR l) (l.take j)))->(∀r∈l,HolS (atsR l) ms r.2)->Few ns ms (xcL (l.map Rul.cond)))->K [] false)
  (h1:K (unr (atsR l) l l.length) true):Z1 l K:=by
 unfold Z1 Vm
 intro _
 refine Lp2.ind (fun (i:Int) (q:List Ex)=> ∃j:Nat,i=(j:Int)/\j<=l.length/\q=(l.map Rul.cond).take j) (fun (i:Int) _=>(l.length - i).toNat) ?_ ⟨0,rfl,by omega,rfl⟩
 rintro i q ⟨j,rfl,hj,rfl⟩
 refine Cnd.mk (fun hc=>⟨by omega,fun y hy=> ?_⟩) fun hc=> ?_
 ·have hy:l[j]? =some y:=hy
  dsimp only;rw[Vs]
  refine⟨by unfold Sml;simp;omega,by unfold InI;omega,⟨j+1,by omega,by omega,?_⟩,by omega⟩
  rw[List.take_add_one,List.getElem?_map,hy];rfl
 have hjl:j=l.length:=by omega
 subst hjl
 rw[List.take_of_length_le (by rw[List.length_map];exact Nat.le_refl _)]
 have hml:(l.map Rul.cond).length=l.length:=List.length_map ..
 have hwl:=j4k (m:=100000) (l:=l.map Rul.cond) fun e he=>by
  obtain⟨r,hr',rfl⟩:=List.mem_map.1 he
  exact (hr r hr').2.2.2
 rw[hml] at hwl
 have m8:l.length*(1+100000)<=8*(1+100000):=Nat.mul_le_mul_right _ hl
 have wt0:wt (Ex.mk 3 (ByteArray.mk (Array.mk [])) (ByteArray.mk (Array.mk [])) [] (l.map Rul.cond))<=1000000:=by
  rw[q9g]
  show 1+wtV []+wtL (l.map Rul.cond)<=_
  simp only[wtV];omega
 have lv0:lvE (Ex.mk 3 (ByteArray.mk (Array.mk [])) (ByteArray.mk (Array.mk [])) [] (l.map Rul.cond))=lvEL (l.map Rul.cond):=by rw[Hp];simp
 refine q6u wt0 (WfX.mk' ⟨by show (1:Int)<=3;decide,by show (3:Int)<=15;decide,fun o=>o.elim (fun e=>absurd e (by show ¬(3:Int)=1;decide)) fun e=>absurd e (by show ¬(5:Int)<=3;decide)⟩ fun x hx=> ?_) (fun x hx=> ?_) (fun _=> ?_) (by rw[lv0];omega)
 ·obtain⟨r,hr',rfl⟩:=List.mem_map.1 (show x∈l.map Rul.cond from hx)
  exact (hr r hr').2.1
 ·rcases z4e.1 hx with hx|hx
  ·cases hx
  ·exact Nat.le_trans (Nat.le_trans (j6d _ (Nat.le_refl _) hx) wt0) (by decide)
 rw[lv0]
 show V4 _
 have hal:(atsR l).length<=1000:=Nat.le_trans q9n hB
 have hmem: ∀{y:Rul},y∈l-> ∀x∈lvE y.2,x∈atsR l:=fun hy x hx=>q3f.2 ⟨_,hy,hx⟩
 change V4 fun Zu q9o j7y=>Ql Zu q9o j7y 0 _
 unfold V4
 refine Ug fun _=> ?_
 rw[if_pos ⟨by decide,by decide⟩]
 let cs:List Ex:=l.map Rul.cond
 have csl:cs.length=l.length:=hml
 have tk: ∀{k:Nat} {y:Rul},l[k]? =some y->cs.take (k+1)=cs.take k++[y.2]:=fun {k y} hy=>by
  rw[List.take_add_one,show cs[k]? =some y.2 by show (l.map Rul.cond)[k]? =_;rw[List.getElem?_map,hy];rfl];rfl
 have mono1: ∀k,cstL (cs.take k)<=cstL cs:=fun k=>by
  have:cstL cs=cstL (cs.take k)+cstL (cs.drop k):=by rw[←z37,List.take_append_drop]
  omega
 have mono2: ∀k,xcL (cs.take k)<=xcL cs:=fun k=>by
  have:xcL cs=xcL (cs.take k)+xcL (cs.drop k):=by rw[←z8w,List.take_append_drop]
  omega
 have nil0:Dgm [] (anyv (atsR l) (l.take 0)) (plc (atsR l).length) (-1):=⟨⟨by omega,by omega⟩,fun v=>by rw[Z5 (by omega)];rfl,fun _ _ _=>rfl⟩
 refine LpH.ind (fun (x:Int×List Int×Int×List Nd×Bool×(Nd->Option Int)×Unit)=> ∃k:Nat,x.2.2.1=(k:Int)/\k<=l.length/\x.2.1=unr (atsR l) l k/\Gx [] false x.2.2.2.1 x.2.2.2.2.2.1 x.2.2.2.2.1/\Dgm x.2.2.2.1 (anyv (atsR l) (l.take k)) (plc (atsR l).length) x.1/\x.2.2.2.1.length<=cstL (cs.take k)+k*2 ^ (atsR l).length/\ ∀ms,Nod ms->(∀j,j<=l.length->Hol ms (anyI (atsR l) (l.take j)))->(∀r∈l,HolS (atsR l) ms r.2)->Few x.2.2.2.1 ms (xcL (cs.take k))) (fun x=>((l.length:Int) - x.2.2.1).toNat) ?_ ⟨0,rfl,by omega,(q9l _ l).symm,Gx.refl j31 (by simp),nil0,by simp,fun ms _ _ _=>(Few.nil ms).le (by omega)⟩
 rintro⟨before,out,i,ns,full,ids,u⟩ ⟨k,hi,hk,ho,g,hd,hc1,hf1⟩
 dsimp only at hi ho g hd hc1 hf1⊢
 subst hi ho
 have hul:=z8p (atsR l) l k
 refine Cnd.mk (fun hc=>⟨by omega,fun y hy=> ?_⟩) fun hc=> ?_
 rotate_left
 ·have hkl:k=l.length:=by omega
  subst hkl
  exact h1
 have hy:l[k]? =some y:=hy
 obtain⟨y1,y2,y3,y4⟩:=hr y (getm hy)
 have hkl:=Qe hy
 have tkl:l.take (k+1)=l.take k++[y]:=by rw[List.take_add_one,hy];rfl
 dsimp only;rw[Vs]
 refine j4h hal 4 y1 y3 (hmem (getm hy)) g.inv g.len fun r2 ns2 ids2 full2 c2 m2=> ?_
 refine j6a (S:=plc (atsR l).length) c2.gx.inv c2.gx.len (m2.wide (j4j (hmem (getm hy)))) (.inr (hd.pre g.inv.nod c2.gx.inv.nod c2.gx.pre)) fun r3 ns3 ids3 full3 c3 m3=> ?_
 have g3:=(g.trans c2.gx).trans c3.gx
 have an: ∀v,anyv (atsR l) (l.take (k+1)) v=(sem (atsR l) y.2 v||anyv (atsR l) (l.take k) v):=fun v=>by rw[tkl,z1j,Bool.or_comm]
 have len3:ns3.length<=cstL (cs.take (k+1))+(k+1)*2 ^ (atsR l).length:=by
  have a:=c2.few
  have b:=c3.few
  rw[j4i] at b
  rw[tk hy,z37,Nat.add_mul,Nat.one_mul]
  simp only[cstL];omega
 have few3: ∀ms,Nod ms->(∀j,j<=l.length->Hol ms (anyI (atsR l) (l.take j)))->(∀r∈l,HolS (atsR l) ms r.2)->Few ns3 ms (xcL (cs.take (k+1))):=fun ms hM hA hS=>by
  have f1:=hf1 ms hM hA hS
  have f2:=c2.old ms _ hM (hS y (getm hy)) f1
  have hH:Hol ms (i01 fun v=>sem (atsR l) y.2 v||anyv (atsR l) (l.take k) v):=by
   have:(i01 fun v=>sem (atsR l) y.2 v||anyv (atsR l) (l.take k) v)=anyI (atsR l) (l.take (k+1)):=funext fun v=>by
    show (if (sem (atsR l) y.2 v||anyv (atsR l) (l.take k) v)=true then _ else _)=if anyv (atsR l) (l.take (k+1)) v=true then _ else _
    rw[an]
   rw[this];exact hA _ hkl
  refine (c3.old ms _ hM f2 hH).le ?_
  rw[tk hy,z8w]
  simp only[xcL];omega
 have bad:ns3.length=4000->K [] false:=fun e=>by
  refine h0 ns3 g3.inv.nod e ?_ fun ms hM hA hS=>(few3 ms hM hA hS).le (mono2 _)
  have:=mono1 (k+1)
  have m:(k+1)*2 ^ (atsR l).length<=l.length*2 ^ (atsR l).length:=Nat.mul_le_mul_right _ hkl
  have e2:cstL (l.map Rul.cond)=cstL cs:=rfl
  omega
 show Cnd (full3=true) _ _
 refine Cnd.mk (fun hfl=>bad (g3.room.resolve_left fun e=>by rw[hfl] at e;cases e)) fun hfl=>Ug ?_
 rw[if_neg (by omega)]
 refine Cnd.mk (fun he=>bad (m3.elim (fun q=>q.2) fun d=>absurd (he▸d.ok) q74)) fun hne=> ?_
 have d3:=m3.resolve_left fun q=>hne q.1
 have hd3:=(hd.pre g.inv.nod c2.gx.inv.nod c2.gx.pre).pre c2.gx.inv.nod c3.gx.inv.nod c3.gx.pre
 have dn:Dgm ns3 (anyv (atsR l) (l.take (k+1))) (plc (atsR l).length) r3:=⟨d3.ok,fun v=>by rw[an];exact d3.ev v,fun v v' ee=>by rw[an,an];exact d3.dep v v' ee⟩
 have d3':Dgm ns3 (fun v=>anyv (atsR l) (l.take k) v||sem (atsR l) y.2 v) (plc (atsR l).length) r3:=⟨d3.ok,fun v=>by rw[Bool.or_comm];exact d3.ev v,fun v v' ee=>by have:=d3.dep v v' ee;rw[Bool.or_comm] at this;show (_||_)=(_||_);rw[this,Bool.or_comm]⟩
 have hiff:=j4b hy g3.inv.nod hd3 d3'
 refine Cnd.mk (fun he=>⟨by unfold InI;omega,by unfold Sml;simp;omega,by unfold InI;omega,⟨k+1,by simp,hkl,(z2y (hiff.1 he)).symm,g3,dn,len3,few3⟩,by omega⟩) fun hne2=>⟨by unfold InI;omega,⟨k+1,by simp,hkl,(z8o fun hu=>hne2 (hiff.2 hu)).symm,g3,dn,len3,few3⟩,by omega⟩
end Go.En
end
noncomputable section
set_option maxRecDepth 100000
namespace Go.En
open Go Go.Fl Go.Fl.Lk Go.Fx Go.Dg
def bitv(n i:Int):Bool:=decide (Go.IntKind.i64.wrap (↑(BitVec.ofInt (64:Nat) (n.fdiv ((2:Int) ^ Min.min (Go.IntKind.u64.wrap i).toNat (64:Nat))) &&& BitVec.ofInt (64:Nat) (1:Int)).toNat:Int)=1)
theorem u64w(x:Int):Go.IntKind.u64.wrap x=x % 18446744073709551616:=rfl
theorem u64n{n:Nat}(h:n<1000):Go.IntKind.u64.wrap (n:Int)=n:=by rw[u64w];omega
theorem j01{k j:Nat}(hk:k<1000)(hj:j<64):bitv k j=k.testBit j:=by
 unfold bitv
 rw[u64n (by omega),Int.toNat_natCast,Nat.min_eq_left (by omega)]
 have e1:((2:Int) ^ j)=((2 ^ j:Nat):Int):=by rw[Int.natCast_pow];rfl
 rw[e1,←Int.ofNat_fdiv,BitVec.ofInt_natCast,Nat.testBit_eq_decide_div_mod_eq]
 have hq:k / 2 ^ j<1000:=Nat.lt_of_le_of_lt (Nat.div_le_self _ _) hk
 generalize k / 2 ^ j=q at hq
 have e2:(BitVec.ofNat 64 q &&& BitVec.ofInt 64 1).toNat=q % 2:=by
  rw[BitVec.toNat_and,BitVec.toNat_ofNat,show (BitVec.ofInt 64 1).toNat=1 by decide,Nat.and_one_is_mod];omega
 rw[e2]
 rcases Nat.mod_two_eq_zero_or_one q with h|h<;>rw[h]<;>decide
theorem z4g(v:Nat->Bool): ∀m:Nat,∃n,n<2 ^ m/\ ∀j,j<m->n.testBit j=v j
 |0=>⟨0,by simp,fun j hj=>by omega⟩
 |m+1=>by
  obtain⟨n,h1,h2⟩:=z4g v m
  have p:2 ^ (m+1)=2 ^ m+2 ^ m:=by rw[Nat.pow_succ];omega
  cases hv:v m with
  |false=>
   refine⟨n,by omega,fun j hj=> ?_⟩
   by_cases e:j=m
   ·subst e;rw[hv];exact Nat.testBit_lt_two_pow h1
   ·exact h2 j (by omega)
  |true=>
   refine⟨2 ^ m+n,by omega,fun j hj=> ?_⟩
   by_cases e:j=m
   ·subst e;rw[hv,Nat.testBit_two_pow_add_eq,Nat.testBit_lt_two_pow h1];rfl
   ·rw[Nat.testBit_two_pow_add_gt (by omega)];exact h2 j (by omega)
theorem z4h(L:Ex->Bool)(l:List Ex):bevA L l=l.all (bev L):=by
 induction l with
 |nil=>rfl
 |cons k l ih=>simp only[bevA,List.all_cons,ih]
theorem z4i(L:Ex->Bool)(l:List Ex):bevO L l=l.any (bev L):=by
 induction l with
 |nil=>rfl
 |cons k l ih=>simp only[bevO,List.any_cons,ih]
theorem z5m{L L':Ex->Bool}{l:List Ex}(h: ∀k∈l,bev L k=bev L' k):bevA L l=bevA L' l:=by
 induction l with
 |nil=>rfl
 |cons k l ih=>simp only[bevA];rw[h k List.mem_cons_self,ih fun x hx=>h x (List.mem_cons_of_mem _ hx)]
theorem z5n{L L':Ex->Bool}{l:List Ex}(h: ∀k∈l,bev L k=bev L' k):bevO L l=bevO L' l:=by
 induction l with
 |nil=>rfl
 |cons k l ih=>simp only[bevO];rw[h k List.mem_cons_self,ih fun x hx=>h x (List.mem_cons_of_mem _ hx)]
theorem z1l{L L':Ex->Bool}: ∀(n:Nat) {e:Ex},wt e<=n->(∀x∈lvE e,L x=L' x)->bev L e=bev L' e
 |0,e,h,_=>by have:=q6q e;omega
 |n+1,e,h,hx=>by
  rw[Hp] at hx
  have kid:e.1≠1->(e.1=2∨e.1=3∨e.1=4)-> ∀k∈e.5,bev L k=bev L' k:=fun n1 n2 k hk=>by
   rw[if_neg n1,if_pos n2] at hx
   exact z1l n (by have:=z1i hk;omega) fun x hm=>hx x (q3d.2 ⟨k,hk,hm⟩)
  rw[z1h,z1h]
  by_cases h1:e.1=1
  ·rw[if_pos h1,if_pos h1]
  rw[if_neg h1,if_neg h1]
  by_cases h2:e.1=2
  ·rw[if_pos h2,if_pos h2];exact z5m (kid h1 (.inl h2))
  rw[if_neg h2,if_neg h2]
  by_cases h3:e.1=3
  ·rw[if_pos h3,if_pos h3];exact z5n (kid h1 (.inr (.inl h3)))
  rw[if_neg h3,if_neg h3]
  by_cases h4:e.1=4
  ·rw[if_pos h4,if_pos h4]
   have:=kid h1 (.inr (.inr h4))
   revert this
   cases e.5 with
   |nil=>intro _;rfl
   |cons k l=>intro q;simp only[bevN];rw[q k List.mem_cons_self]
  ·rw[if_neg h4,if_neg h4]
   rw[if_neg h1,if_neg (by omega)] at hx
   exact hx e (List.mem_singleton.2 rfl)
theorem z1m{ats:List Ex}{e:Ex}{v v':Int->Bool}(hin: ∀x∈lvE e,x∈ats)(h: ∀j:Nat,j<ats.length->v j=v' j):sem ats e v=sem ats e v':=
 z1l _ (Nat.le_refl _) fun x hx=>h _ (z8v (hin x hx))
theorem j02{ats:List Ex}(ha: ∀x∈ats,ExS 5 x)(_:ats.length<=999){n:Int}: ∀(m:Nat) {e:Ex} {K:Bool->Prop},ExS m e->(∀x∈lvE e,x∈ats)->K (sem ats e (bitv n))->Gs e ats n K:=by
 intro m e K he hin h X hX
 induction m using Nat.strongRecOn generalizing e K with
 |_ m ih=>
 refine hX _ _ _ _ ?_
 unfold Bq
 have hop:=he.opK
 have hle:=Hp e
 have hk3:e.5.length<=3:=he.kids
 have kid:e.1≠1->(e.1=2∨e.1=3∨e.1=4)-> ∀{y:Ex} {K:Bool->Prop},y∈e.5->K (sem ats y (bitv n))->X (Ex.mk y.1 y.2 y.3 y.4 y.5) ats n K:=fun n1 n2 y K hy hK=>by
  obtain⟨j,hj,hk⟩:=he.kid hy
  rw[Vs]
  rw[if_neg n1,if_pos n2] at hle
  exact ih j (by omega) hk (fun x hx=>hin x (by rw[hle];exact q3d.2 ⟨y,hy,hx⟩)) hK
 have hse:sem ats e (bitv n)=if e.1=1 then true else if e.1=2 then bevA (fun x=>bitv n (ixL ats x)) e.5 else if e.1=3 then bevO (fun x=>bitv n (ixL ats x)) e.5 else if e.1=4 then bevN (fun x=>bitv n (ixL ats x)) e.5 else bitv n (ixL ats e):=z1h _ e
 refine Cnd.mk (fun h1=> ?_) fun h1=>Cnd.mk (fun h4=> ?_) fun h4=> ?_
 ·rw[hse,if_pos h1] at h;exact h
 ·have hpos:0<e.5.length:=List.length_pos_iff.2 (hop (by show 2<=e.1;omega) (by show e.1<=4;omega))
  refine⟨⟨by omega,by omega⟩,fun y hy=> ?_⟩
  have hy:e.5[0]? =some y:=hy
  refine kid h1 (.inr (.inr h4)) (getm hy) ?_
  rw[hse,if_neg h1,if_neg (by omega),if_neg (by omega),if_pos h4] at h
  have hl: ∃l,e.5=y::l:=by
   revert hy
   cases e.5 with
   |nil=>intro q;cases q
   |cons a l=>intro q;exact⟨l,by rw[Option.some.inj q]⟩
  obtain⟨l,hl⟩:=hl
  rw[hl] at h
  have h:K (!(sem ats y (bitv n))):=h
  revert h
  cases sem ats y (bitv n)<;>intro h<;>exact h
 refine Jn1.mk (fun b=>(b=true↔e.1=2∨e.1=3)) (Cnd.mk (fun h2=>⟨fun _=> .inl h2,fun _=>decide_eq_true h2⟩) fun h2=>⟨fun h3=> .inr (of_decide_eq_true h3),fun o=>decide_eq_true (o.resolve_left h2)⟩) fun b hb=>Cnd.mk (fun hbt=> ?_) fun hbf=> ?_
 ·have h23:=hb.1 hbt
  have hk:=fun {y K}=> @kid h1 (h23.elim .inl fun q=> .inr (.inl q)) y K
  refine Lp1.ind (fun (i:Int)=>0<=i/\i<=e.5.length/\ ∀k∈e.5.take i.toNat,sem ats k (bitv n)= !(decide (e.1=3))) (fun (i:Int)=>(e.5.length - i).toNat) ?_ ⟨by omega,by omega,by simp⟩
  rintro i ⟨i0,i1,hi⟩ _
  refine Cnd.mk (fun hc=>⟨⟨i0,hc⟩,fun y hy=> ?_⟩) fun hc=> ?_
  ·refine hk (getm hy) (Cnd.mk (fun hs=> ?_) fun hs=>⟨by unfold InI;omega,⟨by omega,by omega,fun k hkm=> ?_⟩,by omega⟩)
   ·rw[hse,if_neg h1] at h
    by_cases h3:e.1=3
    ·rw[decide_eq_true h3] at hs⊢
     rw[if_neg (by omega),if_pos h3,z4i] at h
     have:e.5.any (bev fun x=>bitv n (ixL ats x))=true:=List.any_eq_true.2 ⟨y,getm hy,hs⟩
     rw[this] at h;exact h
    ·have h2:e.1=2:=h23.resolve_right h3
     rw[decide_eq_false h3] at hs⊢
     rw[if_pos h2,z4h] at h
     have:e.5.all (bev fun x=>bitv n (ixL ats x))=false:=List.all_eq_false.2 ⟨y,getm hy,by rw[show bev _ y=false from hs];decide⟩
     rw[this] at h;exact h
   ·rw[show (i+1).toNat=i.toNat+1 by omega,List.take_add_one,hy] at hkm
    rcases List.mem_append.1 hkm with hkm|hkm
    ·exact hi k hkm
    ·have:k=y:=by simpa using hkm
     rw[this]
     revert hs
     cases sem ats y (bitv n)<;>cases decide (e.1=3)<;>intro hs<;>first|rfl|exact absurd rfl hs
  ·rw[List.take_of_length_le (by omega)] at hi
   rw[hse,if_neg h1] at h
   by_cases h3:e.1=3
   ·have h2: ¬e.1=2:=by omega
    rw[decide_eq_true h3] at hi
    rw[if_neg h2,if_pos h3,z4i] at h
    have:e.5.any (bev fun x=>bitv n (ixL ats x))=false:=List.any_eq_false.2 fun k hk=>by rw[show bev _ k=false from hi k hk];decide
    rw[this] at h;rw[decide_eq_false h2];exact h
   ·have h2:e.1=2:=h23.resolve_right h3
    rw[decide_eq_false h3] at hi
    rw[if_pos h2,z4h] at h
    have:e.5.all (bev fun x=>bitv n (ixL ats x))=true:=List.all_eq_true.2 fun k hk=>hi k hk
    rw[this] at h;rw[decide_eq_true h2];exact h
 ·have n23: ¬(e.1=2∨e.1=3):=fun o=>hbf (hb.2 o)
  rw[if_neg h1,if_neg (by omega)] at hle
  rw[Vs]
  refine q4n ha fun r hr=> ?_
  rcases hr with ⟨rfl,hne⟩|⟨r0,hr,hnt⟩
  ·exact absurd (hin e (by rw[hle];exact List.mem_singleton.2 rfl)) hne
  have hix:=z8f hr hnt
  have hrl:=Qe hr
  have hr2:((ixL ats e:Nat):Int)=r:=by rw[hix];omega
  rw[hse,if_neg h1,if_neg (by omega),if_neg (by omega),if_neg h4,hr2] at h
  exact⟨by rw[u64w];omega,h⟩
end Go.En
end
noncomputable section
set_option maxRecDepth 100000
namespace Go.En
open Go Go.Fl Go.Fl.Lk Go.Fx Go.Dg
structure RlD(k:Nat)(r:Rul):Prop where
 ex:ExS (2*k) r.2
 c:DrC k r.2
 n:WfN r.2
 x:DrX k r.2
 w:wt r.2<=lvl k
theorem j03: ∀s∈[ByteArray.mk (Array.mk [97,108,112,104,97]),ByteArray.mk (Array.mk [98,101,116,97])],s.size<=100:=fun s hs=>by
 rcases List.mem_cons.1 hs with rfl|hs
 ·decide
 ·rw[List.mem_singleton.1 hs];decide
theorem j6f{list:List Int}(k:Nat){at_ levels:Int}{K:Ex->Int->Prop}(hk0:k<=100)(hk:levels<=k+1)(hl:1<=levels)(hD:DS list at_)(h: ∀e a,ExS (2*k) e->DrC k e->WfN e->DrX k e->wt e<=lvl k->DS list a->K e a):q2q list at_ [ByteArray.mk (Array.mk [97,108,112,104,97]),ByteArray.mk (Array.mk [98,101,116,97])] levels K:=
 z5h ((z8l j03).and (j56.and (j57.and (j6c.and j54)))) k hk0 hk hl hD fun e a q hD=>h e a q.1 q.2.1 q.2.2.1 q.2.2.2.1 q.2.2.2.2.wt hD
theorem j04(k:Nat){codes:List Int}{levels:Int}{K:List Rul->Prop}(hk0:k<=100)(hk:levels<=k+1)(hl:1<=levels)(hb:Byts codes)(h: ∀l,l.length<=5->(∀r∈l,RlD k r)->K l):Gq codes levels K:=by
 unfold Gq Bo
 refine j00 hb (by decide) (by decide) fun r hD=> ?_
 refine Lp3.ind (fun (l:List Rul) (i a:Int)=>i=(l.length:Int)/\l.length<=5/\(∀r∈l,RlD k r)/\DS r a) (fun _ (i:Int) _=>(5 - i).toNat) ?_ ⟨rfl,by simp,by simp,hD⟩
 rintro l i a ⟨rfl,hll,hr,hD⟩
 refine Zl hD (by decide) fun x a x0 x1 hD=>⟨by unfold InI;omega,Cnd.mk (fun hc=> ?_) fun hc=>h l hll hr⟩
 refine j6f k hk0 hk hl hD fun e a h1 h2 h3 h4 h5 hD=> ?_
 rw[Vs]
 refine⟨by unfold Sml;simp;omega,by unfold InI;omega,⟨by simp,by simp;omega,fun r hr'=> ?_,hD⟩,by omega⟩
 rcases List.mem_append.1 hr' with q|q
 ·exact hr r q
 ·rw[List.mem_singleton.1 q]
  exact⟨h1,h2,h3,h4,h5⟩
theorem z8x{a:List Int}{K:Bool->Prop}(h:K true):q07 a a K:=by
 unfold q07
 intro _ _
 refine Cnd.yes rfl (Lp1.ind (fun (i:Int)=>0<=i/\i<=a.length) (fun (i:Int)=>(a.length - i).toNat) ?_ ⟨by omega,by omega⟩)
 rintro i ⟨i0,i1⟩ _
 refine Cnd.mk (fun hc=>⟨⟨i0,hc⟩,fun y hy=>⟨⟨i0,hc⟩,fun z hz=>Cnd.yes (by rw[hy] at hz;exact Option.some.inj hz) ⟨by unfold InI;omega,⟨by omega,by omega⟩,by omega⟩⟩⟩) fun _=>h
theorem z1n{k:Nat}{l:List Rul}(hl:l.length<=5)(h: ∀r∈l,RlD k r):(lvEL (l.map Rul.cond)).length<=5*3 ^ k/\cstL (l.map Rul.cond)<=5*CC k/\xcL (l.map Rul.cond)<=5*XX k:=by
 have hml:(l.map Rul.cond).length=l.length:=List.length_map ..
 have mem: ∀e∈l.map Rul.cond,∃r∈l,r.2=e:=fun e he=>by
  obtain⟨r,hr,q⟩:=List.mem_map.1 he
  exact⟨r,hr,q⟩
 have a:=q9j (m:=3 ^ k) (l:=l.map Rul.cond) fun e he=>by obtain⟨r,hr,rfl⟩:=mem e he;exact (h r hr).c.n
 have b:=z8m (m:=CC k) (l:=l.map Rul.cond) fun e he=>by obtain⟨r,hr,rfl⟩:=mem e he;exact (h r hr).c.c
 have c:=j1u (m:=XX k) (l:=l.map Rul.cond) fun e he=>by obtain⟨r,hr,rfl⟩:=mem e he;exact (h r hr).x.x
 rw[hml] at a b c
 exact⟨Nat.le_trans a (Nat.mul_le_mul_right _ hl),Nat.le_trans b (Nat.mul_le_mul_right _ hl),Nat.le_trans c (Nat.mul_le_mul_right _ hl)⟩
theorem RlD.all{k:Nat}(hk:k<=2){r:Rul}(h:RlD k r):ExS 4 r.2/\WfX r.2/\WfN r.2/\wt r.2<=100000:=by
 refine⟨h.ex.le (by omega),h.c.w,h.n,Nat.le_trans h.w ?_⟩
 match k,hk with
 |0,_=>decide
 |1,_=>decide
 |2,_=>decide
theorem j4l{l:List Rul}{i:Nat}{y:Rul}(hy:l[i]? =some y)(hm:(atsR l).length<=8):Unr (atsR l) l i↔ ¬ ∃n:Nat,n<2 ^ (atsR l).length/\sem (atsR l) y.2 (bitv n)=true/\anyv (atsR l) (l.take i) (bitv n)=false:=by
 constructor
 ·rintro hu ⟨n,_,h1,h2⟩
  rw[hu y hy _ h1] at h2
  cases h2
 ·intro hno r hr v hv
  rw[hy] at hr;cases hr
  cases hb:anyv (atsR l) (l.take i) v with
  |true=>rfl
  |false=>
   exfalso
   obtain⟨n,n1,n2⟩:=z4g (fun j=>v (j:Int)) (atsR l).length
   have p8:2 ^ (atsR l).length<=2 ^ 8:=q3c hm
   have hag: ∀j:Nat,j<(atsR l).length->bitv n j=v j:=fun j hj=>by
    rw[j01 (by omega) (by omega),n2 j hj]
   refine hno ⟨n,n1,?_,?_⟩
   ·rw[z1m (fun x hx=>q3f.2 ⟨y,getm hy,hx⟩) hag];exact hv
   ·unfold anyv at hb⊢
    rw[List.any_eq_false] at hb⊢
    intro r hr
    rw[z1m (fun x hx=>q3f.2 ⟨r,List.mem_of_mem_take hr,hx⟩) hag]
    exact hb r hr
end Go.En
end
noncomputable section
set_option maxRecDepth 100000
namespace Go.En
open Go Go.Fl Go.Fl.Lk Go.Fx Go.Dg
abbrev e0:ByteArray:=ByteArray.mk (Array.mk [])
theorem cyc0{K:List ByteArray->Prop}(h:K []):P_graph_Cyclic [] [] K:=by
 show Go.Fl.P_graph_Cyclic [] [] K
 unfold Go.Fl.P_graph_Cyclic
 refine Jn1.mk (fun _=>True) ?_ fun t _=> ?_
 ·unfold Go.Fl.Gh
  intro _
  refine Lp2.ind (fun (k:Nat) _=>k=0) (fun _ _=>0) ?_ rfl
  rintro k F rfl
  exact Cnd.no (by simp) trivial
 ·have e:srt []=[]:=List.eq_nil_of_length_eq_zero (q3m [])
  have e2:cpt (srt [])=[]:=by rw[e];rfl
  rw[e2]
  refine⟨by unfold Sml;simp,by unfold Sml;simp,fun _=> ?_⟩
  refine Lp2.ind (fun (o:List ByteArray) (k:Nat)=>o=[]/\k=0) (fun _ _=>0) ?_ ⟨rfl,rfl⟩
  rintro o k ⟨rfl,rfl⟩
  exact Cnd.no (by simp) h
theorem j4m{e:Int}{K:Int->Prop}(h:K 0):q0f false e K:=Cnd.no (by decide) h
theorem j6g{K:Int->Prop}(h:K 0):Jz (Envt.mk (Sett.mk e0 e0 0) [] [] [] [] []) K:=by
 unfold Jz Vn
 have loop: ∀{α:Type} {f:Int->(Int->Prop)->α->Prop} {A:Prop},A->Lp1 (fun (i:Int) Y=>CAt ([]:List α) i (f i Y) A) 0:=fun hA=>by
  refine Lp1.ind (fun (i:Int)=>i=0) (fun _=>0) ?_ rfl
  rintro i rfl
  exact Cnd.no (by simp) hA
 refine Jn1.mk (fun r=>r=0) ?_ fun r hr=> ?_
 ·have key: ∀{K:Bool->Prop},K false->Ru e0 K:=fun h=>by
   unfold Ru q32
   exact Cnd.yes (by decide) h
  have at0: ∀{K:Int->Prop},K 0->Wh [] K:=fun h=>by
   unfold Wh V6
   intro _
   refine Cnd.no (by simp) fun _=> ?_
   exact loop h
  have fst0: ∀{K:Int->Prop},K 0->Gk [0,0,0,0] K:=fun h=>by
   unfold Gk
   intro _
   refine Lp1.ind (fun (i:Int)=>0<=i/\i<=4) (fun i=>(4 - i).toNat) ?_ ⟨by omega,by omega⟩
   rintro i ⟨i0,i1⟩
   refine Cnd.mk (fun hc=>⟨⟨i0,hc⟩,fun y hy=> ?_⟩) fun _=>h
   have hc:i<4:=hc
   have:y=0:=by
    have hm:=getm hy
    simpa using hm
   exact Cnd.yes this ⟨by unfold InI;omega,⟨by omega,by omega⟩,by omega⟩
  refine q9f ?_
  rw[show Go.Sg.vld e0=true by decide]
  refine j4m (Cnd.no (by decide) (j4m (key (Cnd.no (by decide) (Cnd.yes rfl ?_)))))
  refine j4m (at0 (fst0 ?_))
  rfl
 subst hr
 refine Cnd.yes rfl (Jn1.mk (fun r=>r=0) ?_ fun r hr=> ?_)
 ·intro _
  refine Cnd.no (by simp) fun _=> ?_
  exact loop rfl
 subst hr
 refine Cnd.yes rfl (Jn1.mk (fun r=>r=0) ?_ fun r hr=> ?_)
 ·intro _
  refine Cnd.no (by simp) fun _=> ?_
  exact loop rfl
 subst hr
 refine Cnd.yes rfl (Jn1.mk (fun r=>r=0) ?_ fun r hr=> ?_)
 ·intro _
  refine Cnd.no (by simp) fun _=> ?_
  exact loop rfl
 subst hr
 refine Cnd.yes rfl fun _=>Cnd.no (by simp) fun _=> ?_
 exact loop h
theorem env0{K:ByteArray->Int->Prop}(h:K e0 0):J0 (Envt.mk (Sett.mk e0 e0 0) [] [] [] [] []) K:=by
 unfold J0 Vo
 refine j6g (Cnd.yes rfl fun _=> ?_)
 refine Lp2.ind (fun (o:List ByteArray) (i:Int)=>o=[]/\i=0) (fun _ _=>0) ?_ ⟨rfl,rfl⟩
 rintro o i ⟨rfl,rfl⟩
 refine Cnd.no (by simp) fun _=> ?_
 refine Lp2.ind (fun (o:List Edg) (i:Int)=>o=[]/\i=0) (fun _ _=>0) ?_ ⟨rfl,rfl⟩
 rintro o i ⟨rfl,rfl⟩
 refine Cnd.no (by simp) (cyc0 fun _=>Cnd.no (by simp) fun _=> ?_)
 refine Lp1.ind (fun (i:Int)=>i=0) (fun _=>0) ?_ rfl
 rintro i rfl
 refine Cnd.no (by simp) fun _=> ?_
 refine Lp2.ind (fun (o:List ByteArray) (i:Int)=>o=[]/\i=0) (fun _ _=>0) ?_ ⟨rfl,rfl⟩
 rintro o i ⟨rfl,rfl⟩
 refine Cnd.no (by simp) ?_
 have nd0: ∀{K:List Edg->Prop},K []->Gm (Envt.mk (Sett.mk e0 e0 0) [] [] [] [] []) K:=fun h=>by
  unfold Gm
  intro _
  refine Lp2.ind (fun (o:List Edg) (i:Int)=>o=[]/\i=0) (fun _ _=>0) ?_ ⟨rfl,rfl⟩
  rintro o i ⟨rfl,rfl⟩
  exact Cnd.no (by simp) h
 refine nd0 (cyc0 fun _=>Cnd.no (by simp) fun _=> ?_)
 refine Lp1.ind (fun (i:Int)=>i=0) (fun _=>0) ?_ rfl
 rintro i rfl
 exact Cnd.no (by simp) h
theorem z5o{K:Bool->Prop}(h:K true):Gn K:=by
 unfold Gn Bl
 let t:Rul:=Rul.mk (ByteArray.mk (Array.mk [97])) (Ex.mk 1 e0 e0 [] []) (Srv.mk 0 e0 e0 e0 [])
 have ht:RlD 0 t:=⟨(z8l (segs:=[]) fun s hs=>by cases hs).hT 0,(j56 (segs:=[])).hT 0,(j57 (segs:=[])).hT 0,(j6c (segs:=[])).hT 0,by show wt (Ex.mk 1 e0 e0 [] [])<=45;simp[wt,wtV,wtL]⟩
 have hlv:lvEL ([t,t].map Rul.cond)=[]:=by
  have:lvE t.2=[]:=by rw[Hp];exact if_pos rfl
  show lvE t.2++(lvE t.2++[])=[]
  rw[this];rfl
 have hcs:cstL ([t,t].map Rul.cond)=0:=by
  have:cst t.2=0:=by rw[q73];exact if_pos rfl
  show cst t.2+(cst t.2+0)=0
  rw[this]
 have hst: ∀v,sem (atsR [t,t]) t.2 v=true:=fun v=>by unfold sem;rw[z1h];exact if_pos rfl
 have hal:(atsR [t,t]).length=0:=by
  have:=q9n (l:=[t,t])
  rw[hlv] at this
  simpa using this
 have hun:unr (atsR [t,t]) [t,t] [t,t].length=[2]:=by
  have h0: ¬Unr (atsR [t,t]) [t,t] 0:=fun q=>by
   have:=q t rfl (fun _=>true) (hst _)
   cases this
  have h1:Unr (atsR [t,t]) [t,t] 1:=fun r hr v _=>by
   show ([t].any fun r=>sem (atsR [t,t]) r.2 v)=true
   simp[hst]
  show unr (atsR [t,t]) [t,t] (1+1)=_
  rw[z2y h1,z8o h0,q9l];rfl
 refine q75 (l:=[t,t]) (by simp) (fun r hr=> ?_) (by rw[hlv];simp) (fun ns _ hn hle _=> ?_) ?_
 ·have:r=t:=by simpa using hr
  rw[this];exact ht.all (by omega)
 ·rw[hcs,hal] at hle
  simp at hle;omega
 rw[hun]
 refine env0 (Cnd.yes rfl fun _=>Cnd.yes rfl ⟨⟨by decide,by decide⟩,fun y hy=> ?_⟩)
 have:y=2:=(Option.some.inj hy).symm
 exact Cnd.yes this (Cnd.yes rfl (by rw[decide_eq_true rfl];exact h))
end Go.En
end
noncomputable section
set_option maxRecDepth 100000
namespace Go.En
open Go Go.Fl Go.Fl.Lk Go.Fx Go.Dg
def Fst(ats:List Ex)(l:List Rul)(i n:Nat):Prop:= ∃y,l[i]? =some y/\sem ats y.2 (bitv n)=true/\anyv ats (l.take i) (bitv n)=false
theorem z20{ats:List Ex}{l:List Rul}{i j:Nat}{y:Rul}{v:Int->Bool}(hy:l[i]? =some y)(hij:i<j)(ht:sem ats y.2 v=true):anyv ats (l.take j) v=true:=
 List.any_eq_true.2 ⟨y,List.mem_iff_getElem?.2 ⟨i,by rw[List.getElem?_take,if_pos hij];exact hy⟩,ht⟩
theorem Fst.uniq{ats:List Ex}{l:List Rul}{i j n:Nat}(a:Fst ats l i n)(b:Fst ats l j n):i=j:=by
 obtain⟨y,a1,a2,a3⟩:=a
 obtain⟨z,b1,b2,b3⟩:=b
 rcases Nat.lt_trichotomy i j with q|q|q
 ·rw[z20 a1 q a2] at b3;cases b3
 ·exact q
 ·rw[z20 b1 q b2] at a3;cases a3
theorem q6v{codes:List Int}{K:Bool->Prop}(hb:Byts codes)(h:K true):Q3 codes K:=by
 unfold Q3 W8
 refine z5o (Cnd.yes rfl (j04 1 (by decide) (by decide) (by decide) hb fun l hl hr=> ?_))
 obtain⟨c1,c2,_⟩:=z1n hl hr
 have c1:(lvEL (l.map Rul.cond)).length<=15:=c1
 rw[show CC 1=33 by decide] at c2
 have ra:=fun r hr'=>(hr r hr').all (by omega)
 refine j6e (by omega) (fun r hr'=>⟨(ra r hr').1,(ra r hr').2.1⟩) (by omega) fun ats ha e=> ?_
 subst e
 refine fun _=>Cnd.mk (fun _=>h) fun h8 _=>⟨⟨by omega,by omega,by unfold Sml;omega⟩,?_⟩
 have h8:(atsR l).length<=8:=by omega
 have p8:2 ^ (atsR l).length<=2 ^ 8:=q3c h8
 have hwr:Go.IntKind.i64.wrap ((1:Int)*(2:Int) ^ Min.min (Go.IntKind.u64.wrap ((atsR l).length:Int)).toNat (64:Nat))=((2 ^ (atsR l).length:Nat):Int):=by
  revert h8
  generalize (atsR l).length=m
  intro h8
  have:m=0∨m=1∨m=2∨m=3∨m=4∨m=5∨m=6∨m=7∨m=8:=by omega
  rcases this with rfl|rfl|rfl|rfl|rfl|rfl|rfl|rfl|rfl<;>decide
 have hin: ∀{y:Rul},y∈l-> ∀x∈lvE y.2,x∈atsR l:=fun hy x hx=>q3f.2 ⟨_,hy,hx⟩
 refine Lp2.ind (fun (n:Int) (f:List Bool)=> ∃k:Nat,n=(k:Int)/\k<=2 ^ (atsR l).length/\f.length=l.length/\ ∀i,i<l.length->(f[i]? =some true↔ ∃n,n<k/\Fst (atsR l) l i n)) (fun (n:Int) _=>(((2 ^ (atsR l).length:Nat):Int) - n).toNat) ?_ ⟨0,rfl,Nat.zero_le _,by simp,fun i hi=>⟨fun q=> ?_,fun ⟨n,hn,_⟩=>by omega⟩⟩
 rotate_left
 ·rw[List.getElem?_replicate] at q
  split at q<;>cases q
 rintro n f ⟨k,rfl,hk,hf,hfi⟩ _
 refine⟨by rw[u64w];omega,?_⟩
 rw[hwr]
 refine Cnd.mk (fun hc _=> ?_) fun hc _=> ?_
 ·refine Lp2.ind (fun (i:Int) (g:List Bool)=> ∃j:Nat,i=(j:Int)/\j<=l.length/\g=f/\anyv (atsR l) (l.take j) (bitv k)=false) (fun (i:Int) _=>(l.length - i).toNat) ?_ ⟨0,rfl,by omega,rfl,rfl⟩
  rintro i g ⟨j,rfl,hj,rfl,hno⟩
  refine Cnd.mk (fun hc2=>⟨by omega,fun y hy=> ?_⟩) fun hc2=>⟨by unfold InI;omega,⟨k+1,by omega,by omega,hf,fun i hi=> ?_⟩,by omega⟩
  ·have hy:l[j]? =some y:=hy
   have hjl:=Qe hy
   dsimp only;rw[Vs]
   refine j02 ha.ex (by omega) 4 (ra y (getm hy)).1 (hin (getm hy)) (Cnd.mk (fun ht=>⟨⟨by omega,by omega⟩,fun z _=>⟨by unfold InI;omega,⟨k+1,by omega,by omega,by rw[List.length_set];exact hf,fun i hi=> ?_⟩,by omega⟩⟩) fun ht=>⟨by unfold InI;omega,⟨j+1,by omega,hjl,rfl,?_⟩,by omega⟩)
   ·have me:Fst (atsR l) l j k:=⟨y,hy,ht,hno⟩
    show (g.set j true)[i]? =some true↔_
    by_cases hij:j=i
    ·subst hij
     rw[List.getElem?_set_self (by omega)]
     exact⟨fun _=>⟨k,by omega,me⟩,fun _=>rfl⟩
    ·rw[List.getElem?_set_ne hij,hfi i hi]
     refine⟨fun ⟨n,hn,q⟩=>⟨n,by omega,q⟩,fun ⟨n,hn,q⟩=>⟨n,?_,q⟩⟩
     rcases Nat.lt_or_ge n k with a|a
     ·exact a
     ·have:n=k:=by omega
      subst this
      exact absurd (me.uniq q) hij
   ·rw[List.take_add_one,hy]
    show anyv (atsR l) (l.take j++[y]) (bitv k)=false
    rw[z1j,hno]
    simpa using ht
  ·have hj:j=l.length:=by omega
   subst hj
   rw[List.take_of_length_le (Nat.le_refl _)] at hno
   rw[hfi i hi]
   refine⟨fun ⟨n,hn,q⟩=>⟨n,by omega,q⟩,fun ⟨n,hn,q⟩=>⟨n,?_,q⟩⟩
   rcases Nat.lt_or_ge n k with a|a
   ·exact a
   ·have:n=k:=by omega
    subst this
    obtain⟨z,q1,q2,_⟩:=q
    have:=z20 (v:=bitv n) q1 (Qe q1) q2
    rw[List.take_of_length_le (Nat.le_refl _),hno] at this
    cases this
 ·have hk2:k=2 ^ (atsR l).length:=by omega
  subst hk2
  refine Lp2.ind (fun (o:List Int) (i:Int)=> ∃j:Nat,i=(j:Int)/\j<=l.length/\o=unr (atsR l) l j) (fun _ (i:Int)=>(l.length - i).toNat) ?_ ⟨0,rfl,by omega,(q9l _ l).symm⟩
  rintro o i ⟨j,rfl,hj,rfl⟩
  have hul:=z8p (atsR l) l j
  refine Cnd.mk (fun hc2=>⟨⟨by omega,by omega⟩,fun z hz=> ?_⟩) fun hc2=> ?_
  ·have hz:f[j]? =some z:=hz
   have hjl:j<l.length:=by omega
   obtain⟨y,hy⟩: ∃y,l[j]? =some y:=⟨l[j],List.getElem?_eq_getElem hjl⟩
   have hi:=hfi j hjl
   have hw:=j4l hy h8
   have hex:z=true↔ ¬Unr (atsR l) l j:=by
    rw[hz] at hi
    rw[hw,Classical.not_not]
    constructor
    ·rintro rfl
     obtain⟨n,hn,y',a,b,c⟩:=hi.1 rfl
     rw[hy] at a;cases a
     exact⟨n,hn,b,c⟩
    ·rintro⟨n,hn,b,c⟩
     exact Option.some.inj (hi.2 ⟨n,hn,y,hy,b,c⟩)
   refine Cnd.mk (fun ht=>⟨by unfold InI;omega,⟨j+1,by omega,hjl,(z8o (hex.1 ht)).symm⟩,by omega⟩) fun ht=>⟨by unfold InI;omega,by unfold Sml;simp;omega,by unfold InI;omega,⟨j+1,by omega,hjl,?_⟩,by omega⟩
   rw[z2y (Classical.not_not.1 fun q=>ht (hex.2 q))]
  ·have hj:j=l.length:=by omega
   subst hj
   refine q75 (by omega) ra (by omega) (fun ns _ hn hle _=> ?_) (Cnd.yes rfl (z8x h))
   have:l.length*2 ^ (atsR l).length<=5*2 ^ 8:=Nat.mul_le_mul hl p8
   omega
end Go.En
end
