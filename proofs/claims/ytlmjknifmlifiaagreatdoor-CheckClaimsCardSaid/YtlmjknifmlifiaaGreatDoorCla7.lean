/- CheckClaims This is part 7 of 11. Conditions: those in the statements. -/
import Derived.Test.YtlmjknifmlifiaaGreatDoorCla6
set_option maxRecDepth 100000
noncomputable section
namespace Go.En
open Go Go.Fl Go.Fl.Lk Go.Fx
open Classical in
def addL:List Ex->List Ex->List Ex
 |l,[]=>l
 |l,x::xs=>addL (if x∈l then l else l++[x]) xs
theorem v2g(l a b:List Ex):addL l (a++b)=addL (addL l a) b:=by
 induction a generalizing l with
 |nil=>rfl
 |cons x a ih=>simp only[List.cons_append,addL];exact ih _
theorem y6p{l:List Ex}{e:Ex}(h:e∈l):addL l [e]=l:=by unfold addL;rw[if_pos h];rfl
theorem y2e{l:List Ex}{e:Ex}(h:e∉l):addL l [e]=l++[e]:=by unfold addL;rw[if_neg h];rfl
theorem v2h{l a:List Ex}{x:Ex}:x∈addL l a↔x∈l\/x∈a:=by
 induction a generalizing l with
 |nil=>simp[addL]
 |cons y a ih=>
  unfold addL;rw[ih,List.mem_cons];by_cases h:y∈l
  .rw[if_pos h];exact⟨fun o=>o.imp id .inr,fun o=>o.elim .inl fun o=>o.elim (fun e=> .inl (e▸h)) .inr⟩
  .rw[if_neg h,List.mem_append,List.mem_singleton,or_assoc]
theorem j60(l a:List Ex):(addL l a).length<=l.length+a.length:=by
 induction a generalizing l with
 |nil=>exact Nat.le_refl _
 |cons x a ih=>
  unfold addL;rw[List.length_cons];split
  .have:=ih l;omega
  .have:=ih (l++[x]);simp only[List.length_append,List.length_cons,List.length_nil] at this;omega
theorem y82{e:Ex}(h:WfX e):lvE e=(if 5<=e.1 then [e] else [])++lvEL e.5:=by
 obtain⟨w1,w2,w3⟩:=h.self;rw[z18];by_cases h1:e.1=1
 .rw[if_pos h1,if_neg (by omega),w3 (.inl h1)];rfl
 .rw[if_neg h1];by_cases h5:5<=e.1
  .rw[if_neg (by omega),if_pos h5,w3 (.inr h5)];rfl
  .rw[if_pos (by omega),if_neg h5,List.nil_append]
theorem v8w{l:List Ex}{j:Nat}{y:Ex}(hy:l[j]? =some y):lvEL (l.take (j+1))=lvEL (l.take j)++lvE y/\(lvEL (l.take j)).length+(lvE y).length<=(lvEL l).length:=by
 have e1:lvEL (l.take (j+1))=lvEL (l.take j)++lvE y:=by rw[List.take_add_one,hy,w4t];simp[lvEL]
 refine⟨e1,?_⟩;have e2:lvEL l=lvEL (l.take (j+1))++lvEL (l.drop (j+1)):=by rw[<-w4t,List.take_append_drop]
 rw[e2,e1,List.length_append,List.length_append];omega
theorem j9u: ∀(n:Nat) {l:List Ex} {e:Ex} {K:List Ex->Prop},wt e<=n->wt e<=4000000->WfX e->l.length+(lvE e).length<=4000000->K (addL l (lvE e))->q00 l e K:=by
 intro n l e K hn hwt hw hB h X hX
 induction n generalizing l e K with
 |zero=>have:=z17 e;omega
 |succ n ih=>
 refine hX _ _ _ ?_;unfold q45;have hpos:=z17 e;have h5:=w93 (e:=e);obtain⟨w1,w2,w3⟩:=hw.self;have hwf:=y82 hw;have hwl:(if 5<=e.1 then [e] else []).length+(lvEL e.5).length=(lvE e).length:=by rw[hwf,List.length_append]
 have hone:(if 5<=e.1 then [e] else []).length<=1:=by split<;>simp
 refine Jn1.mk (fun q=>q=addL l (if 5<=e.1 then [e] else [])) ?_ fun q hq=> ?_
 .have look:5<=e.1-> ∀hl:l.length<=9223372036854775807,Lp1 (fun Qo z2a=>Cnd (Qo<(l.length:Int)) ((0<=Qo/\Qo<(l.length:Int))/\∀y4,l[Qo.toNat]? =some y4->Wx (Ex.mk y4.1 y4.2 y4.3 y4.4 y4.5) (Ex.mk e.1 e.2 e.3 e.4 e.5) fun Q1=>Cnd (Q1=true) (Cnd ((0:Int)<=Qo) (l=addL l (if 5<=e.1 then [e] else [])) (Sml (l++[Ex.mk e.1 e.2 e.3 e.4 e.5]).length/\(l++[Ex.mk e.1 e.2 e.3 e.4 e.5]=addL l (if 5<=e.1 then [e] else [])))) (InI (Qo+1)/\z2a (Qo+1))) (Cnd ((0:Int)<= -1) (l=addL l (if 5<=e.1 then [e] else [])) (Sml (l++[Ex.mk e.1 e.2 e.3 e.4 e.5]).length/\(l++[Ex.mk e.1 e.2 e.3 e.4 e.5]=addL l (if 5<=e.1 then [e] else []))))) (0:Int):=fun h5 hl=>by
   rw[Jh,if_pos h5];refine Lp1.ind (fun (i:Int)=>0<=i/\i<=l.length/\e∉l.take i.toNat) (fun (i:Int)=>(l.length - i).toNat) ?_ ⟨by omega,by omega,by simp⟩;rintro i ⟨i0,i1,hno⟩;refine Cnd.mk (fun hc=>⟨by omega,fun y hy=> ?_⟩) fun hc=>Cnd.no (by decide) ⟨?_,?_⟩
   .rw[Jh];refine z0d _ (Nat.le_refl _) fun r hr=>Cnd.mk (fun hb=>Cnd.yes i0 (y6p (by rw[<-hr.1 hb];exact getm hy)).symm) fun hb=>⟨by unfold InI;omega,⟨by omega,by omega,?_⟩,by omega⟩
    rw[show (i+1).toNat=i.toNat+1 by omega,List.take_add_one,hy];have:e≠y:=fun k=>hb (hr.2 k.symm)
    simp[hno,this]
   .unfold Sml;simp;omega
   .rw[t99 (by omega)] at hno;exact (y2e hno).symm
  refine z8x fun r hr=>Cnd.mk (fun hb hl=>look (by have:=hr.1 hb;omega) hl) fun hb=>Cnd.mk (fun h5 hl=>look (by omega) hl) fun h5=> ?_
  rw[if_neg fun h6=>hb (hr.2 ⟨by omega,w2⟩)];rfl
 .subst hq;intro _;have hrl:=j60 l (if 5<=e.1 then [e] else []);have hwe:=j0b e;refine Lp2.ind (fun (q:List Ex) (i:Int)=> ∃j:Nat,i=(j:Int)/\j<=e.5.length/\q=addL (addL l (if 5<=e.1 then [e] else [])) (lvEL (e.5.take j))) (fun _ (i:Int)=>(e.5.length - i).toNat) ?_ ⟨0,rfl,by omega,rfl⟩;rintro q i ⟨j,rfl,j1,hqe⟩;have hql:=j60 (addL l (if 5<=e.1 then [e] else [])) (lvEL (e.5.take j));rw[<-hqe] at hql;refine Cnd.mk (fun hc=>⟨by omega,fun y hy=> ?_⟩) fun hc=> ?_
  .have hy:e.5[j]? =some y:=hy;have hkid:=j5c (getm hy);obtain⟨t1,t2⟩:=v8w hy;dsimp only;rw[Jh];exact ih (by omega) (by omega) (hw.kid (getm hy)) (by omega) ⟨by unfold InI;omega,⟨j+1,by omega,by omega,by rw[t1,v2g,<-hqe]⟩,by omega⟩
  .rw[t99 (by omega),<-v2g] at hqe;have e3:q=addL l (lvE e):=hqe.trans (by rw[hwf]);rw[e3];exact h
theorem j9v{e:Ex}{K:List Ex->Prop}(hwt:wt e<=1000000)(hw:WfX e)(hs: ∀x∈addL [] (lvE e),wt x<=2000000)(h:(lvE e).length<=1000000->K (addL [] (lvE e)))(hB:(lvE e).length<=1000000):V7 e K:=by
 unfold V7 q01;rw[Jh];have hql:=j60 [] (lvE e);simp only[List.length_nil,Nat.zero_add] at hql;refine j9u _ (Nat.le_refl _) (by omega) hw (by simp;omega) fun _=>⟨⟨by omega,by omega,by unfold Sml;omega⟩,fun _=> ?_⟩
 generalize addL [] (lvE e)=q at hs h hql⊢;refine Lp2.ind (fun (r:List Ex) (i:Int)=>0<=i/\i<=q.length/\r=q.take i.toNat) (fun _ (i:Int)=>(q.length - i).toNat) ?_ ⟨by omega,by omega,rfl⟩;rintro r i ⟨i0,i1,rfl⟩;refine Cnd.mk (fun hc=>⟨by omega,fun y hy=> ?_⟩) fun hc=> ?_
 .dsimp only;rw[Jh];refine z38 _ (Nat.le_refl _) (hs y (getm hy)) ?_;rw[Jh];refine⟨?_,by unfold InI;omega,⟨by omega,by omega,?_⟩,by omega⟩
  .unfold Sml;simp only[List.length_append,List.length_take,List.length_cons,List.length_nil];omega
  .rw[show (i+1).toNat=i.toNat+1 by omega,List.take_add_one,hy];rfl
 rw[t99 (by omega)];exact h hB
end Go.En
end
noncomputable section
namespace Go.En
open Go Go.Fl Go.Fl.Lk Go.Fx Go.Dg
def sufs:List Ex->Nat
 |[]=>0
 |k::l=>2 ^ (lvEL (k::l)).length+sufs l
mutual
def xc:Ex->Nat
 |⟨op,_,_,_,kids⟩=>if op=2\/op=3\/op=4 then xcL kids+sufs kids.tail else 0
def xcL:List Ex->Nat
 |[]=>0
 |k::l=>xc k+xcL l
end
theorem v8x(e:Ex):xc e=if e.1=2\/e.1=3\/e.1=4 then xcL e.5+sufs e.5.tail else 0:=by cases e;rfl
theorem y83{m:Nat}{l:List Ex}(h: ∀e∈l,xc e<=m):xcL l<=l.length*m:=by
 induction l with
 |nil=>simp[xcL]
 |cons a l ih=>
  have h1:=h a List.mem_cons_self;have h2:=ih fun e he=>h e (List.mem_cons_of_mem _ he)
  simp only[xcL,List.length_cons,Nat.add_mul,Nat.one_mul];omega
def XX:Nat->Nat
 |0=>0
 |k+1=>3*XX k+2 ^ (2*3 ^ k)+2 ^ (3 ^ k)
structure DrX(k:Nat)(e:Ex):Prop where
 n:(lvE e).length<=3 ^ k
 x:xc e<=XX k
theorem v2i{k:Nat}{e:Ex}(_:e.5=[])(h1:5<=e.1):DrX k e where
 n:=by rw[z18,if_neg (by omega),if_neg (by omega)];exact Nat.one_le_pow _ _ (by decide)
 x:=by rw[v8x,if_neg (by omega)];exact Nat.zero_le _
theorem v8y{k:Nat}{e:Ex}(h:DrX k e):(lvE (Ex.mk 4 (ByteArray.mk (Array.mk [])) (ByteArray.mk (Array.mk [])) [] [e])).length<=3 ^ k/\xc (Ex.mk 4 (ByteArray.mk (Array.mk [])) (ByteArray.mk (Array.mk [])) [] [e])<=XX k:=by
 have e1:lvE (Ex.mk 4 (ByteArray.mk (Array.mk [])) (ByteArray.mk (Array.mk [])) [] [e])=lvE e:=by rw[z18];simp[lvEL]
 have e2:xc (Ex.mk 4 (ByteArray.mk (Array.mk [])) (ByteArray.mk (Array.mk [])) [] [e])=xc e:=by rw[v8x];simp[xcL,sufs]
 rw[e1,e2];exact⟨h.n,h.x⟩
theorem y6q{m:Nat}{l:List Ex}(hl:l.length<=2)(h: ∀e∈l,(lvE e).length<=m):sufs l<=2 ^ (2*m)+2 ^ m:=by
 match l,hl with
 |[],_=>exact Nat.zero_le _
 |[a],_=>
  have h1:=j9t (h a List.mem_cons_self);have e:sufs [a]=2 ^ (lvE a).length:=by simp[sufs,lvEL]
  rw[e];exact Nat.le_trans h1 (Nat.le_add_left _ _)
 |[a,b],_=>
  have h1:=h a List.mem_cons_self;have h2:=h b (List.mem_cons_of_mem _ List.mem_cons_self);have h3:=j9t (show (lvE a++lvE b).length<=2*m by rw[List.length_append];omega);have h4:=j9t h2;have e:sufs [a,b]=2 ^ (lvE a++lvE b).length+2 ^ (lvE b).length:=by simp[sufs,lvEL]
  rw[e];exact Nat.add_le_add h3 h4
theorem u0z{segs:List BA}:ClE segs DrX where
 hT k:=⟨by rw[z18,if_pos rfl];exact Nat.zero_le _,by rw[v8x,if_neg (by show ¬((1:Int)=2\/(1:Int)=3\/(1:Int)=4);decide)];exact Nat.zero_le _⟩
 hS k b _:=v2i rfl (by show (5:Int)<=5;decide)
 ht k e h h6:=v2i h.2.2.2 (by omega)
 hN k e h:=by obtain⟨b,c⟩:=v8y h;have h3:3 ^ k<=3 ^ (k+1):=Nat.pow_le_pow_right (by decide) (by omega);exact⟨Nat.le_trans b h3,Nat.le_trans c (by show _<=3*XX k+2 ^ (2*3 ^ k)+2 ^ (3 ^ k);generalize 2 ^ (2*3 ^ k)=A;generalize 2 ^ (3 ^ k)=B;omega)⟩
 hA k op l ho hl hne h:=by
  have hh: ∀e∈l,(lvE e).length<=3 ^ k/\xc e<=XX k:=fun e he=>by
   rcases h e he with h|⟨e',h,rfl⟩
   .exact⟨h.n,h.x⟩
   .exact v8y h
  have n1:=v2e fun e he=>(hh e he).1
  have c1:=y83 fun e he=>(hh e he).2
  have m1:l.length*3 ^ k<=3*3 ^ k:=Nat.mul_le_mul_right _ hl;have m2:l.length*XX k<=3*XX k:=Nat.mul_le_mul_right _ hl;have p1:3 ^ (k+1)=3*3 ^ k:=by rw[Nat.pow_succ,Nat.mul_comm]
  have s1:=y6q (l:=l.tail) (by rw[List.length_tail];omega) fun e he=>(hh e (List.mem_of_mem_tail he)).1
  have o1: ¬op=1:=by omega
  have o2:op=2\/op=3\/op=4:=by omega
  refine⟨?_,?_⟩
  .rw[z18,if_neg o1,if_pos o2];show (lvEL l).length<=_;omega
  .rw[v8x,if_pos o2];show xcL l+sufs l.tail<=3*XX k+2 ^ (2*3 ^ k)+2 ^ (3 ^ k);generalize 2 ^ (2*3 ^ k)=A at s1⊢;generalize 2 ^ (3 ^ k)=B at s1⊢;omega
end Go.En
end
noncomputable section
namespace Go.En
open Go Go.Fl Go.Fl.Lk Go.Fx Go.Dg
theorem HolS.kid{ats:List Ex}{ms:List Nd}{e k:Ex}(h:HolS ats ms e)(hk:k∈e.5):HolS ats ms k:=fun a ha=>h a (by rw[q33];exact List.mem_cons_of_mem _ (Bz.2 ⟨k,hk,ha⟩))
theorem HolS.self{ats:List Ex}{ms:List Nd}{e:Ex}(h:HolS ats ms e):Hol ms (semI ats e):=h e (by rw[q33];exact List.mem_cons_self)
structure CnX(ats:List Ex)(ns:List Nd)(full:Bool)(e:Ex)(ns':List Nd)(ids':Nd->Option Int)(full':Bool):Prop where
 gx:Gx ns full ns' ids' full'
 few:ns'.length<=ns.length+cst e
 old: ∀ms k,Nod ms->HolS ats ms e->Few ns ms k->Few ns' ms (k+xc e)
theorem v8z{α:Type}{l:List α}{j:Nat}{z:α}(h:l[j]? =some z):l.drop j=z::l.drop (j+1):=by have hl:=Qj h;rw[List.drop_eq_getElem_cons hl];rw[List.getElem?_eq_getElem hl] at h;rw[Option.some.inj h]
def lvsL(ats:List Ex)(l:List Ex):List Int:=(lvEL l).map fun x=>(ixL ats x:Int)
theorem y3m{ats:List Ex}{e:Ex}{X:Wk}{op:Vo}{H:Bool->Bool->Bool}{FF:List Ex->(Int->Bool)->Bool}{ns:List Nd}{ids:Nd->Option Int}{full:Bool}{start:Int}{K:Int->List Nd->(Nd->Option Int)->Bool->Prop}
  (kid: ∀{y:Ex} {ns:List Nd} {ids:Nd->Option Int} {full:Bool} {K:Int->List Nd->(Nd->Option Int)->Bool->Prop},y∈e.5->Inv ns ids->ns.length<=4000->(∀r ns' ids' full',CnX ats ns full y ns' ids' full'->Mx ns' (sem ats y) (lvs ats y) r->K r ns' ids' full')->X ns ids full ats (Ex.mk y.1 y.2 y.3 y.4 y.5) K)
  (hop: ∀{ns:List Nd} {ids:Nd->Option Int} {full:Bool} {f g:Int} {F G:(Int->Bool)->Bool} {S:List Int} {K:Int->List Nd->(Nd->Option Int)->Bool->Prop},Inv ns ids->ns.length<=4000->Mx ns F S f->Mx ns G S g->(∀r ns' ids' full',Chx ns full (2 ^ S.length) (fun v=>H (F v) (G v)) ns' ids' full'->Mx ns' (fun v=>H (F v) (G v)) S r->K r ns' ids' full')->op ns ids full f g K)
  (hF: ∀k l v,FF (k::l) v=H (sem ats k v) (FF l v))(h0:Dgm ns (FF []) [] start)(hlen:e.5.length<=1000)(hse: ∀v,sem ats e v=FF e.5 v)
  (hc:cst e=cstL e.5+e.5.length*2 ^ (lvEL e.5).length)(hx:xc e=xcL e.5+sufs e.5.tail)(hl:lvE e=lvEL e.5)(hI:Inv ns ids)(hln:ns.length<=4000)(hne:e.5≠[])
  (h: ∀r ns' ids' full',CnX ats ns full e ns' ids' full'->Mx ns' (sem ats e) (lvs ats e) r->K r ns' ids' full'):
  Lp5 (fun Qk Zq (j2o:List (Int×Int×Int)) q55 v4r y62=>Cnd ((0:Int)<=Zq) (At e.5 Zq fun y3=>X j2o v4r q55 ats (Ex.mk y3.1 y3.2 y3.3 y3.4 y3.5) fun Qx (q41:List (Int×Int×Int)) v0n y2i=>op q41 v0n y2i Qx Qk fun Q1 (z60:List (Int×Int×Int)) v0p v4s=>InI (Zq - 1)/\y62 Q1 (Zq - 1) z60 v4s v0p) (K Qk j2o v4r q55)) start ((↑e.5.length:Int) - 1) ns full ids:=by
 have hpos:=List.length_pos_iff.2 hne;let T:Nat->Nat:=fun j=>if j=0 then sufs (e.5.drop 1) else sufs (e.5.drop j)
 have lv0:lvs ats e=lvsL ats e.5:=by unfold lvs lvsL;rw[hl]
 refine Lp5.ind (fun (f i:Int) ns2 full2 ids2=> ∃j:Nat,i=(j:Int) - 1/\j<=e.5.length/\Mx ns2 (FF (e.5.drop j)) (lvsL ats (e.5.drop j)) f/\Gx ns full ns2 ids2 full2/\ns2.length<=ns.length+cstL (e.5.drop j)+(e.5.length - j)*2 ^ (lvEL e.5).length/\∀ms k,Nod ms->HolS ats ms e->Few ns ms k->Few ns2 ms (k+xcL (e.5.drop j)+T j)) (fun _ (i:Int) _ _ _=>(i+1).toNat) ?_ ⟨e.5.length,rfl,Nat.le_refl _,?_,Gx.refl hI hln,by omega,fun ms k _ _ hf=>hf.le (by omega)⟩
 rotate_left
 .rw[List.drop_length];exact .inr h0
 rintro f i ns2 full2 ids2 ⟨j,rfl,hj,d2,g2,c2,o2⟩;refine Cnd.mk (fun hc2=>⟨by omega,fun z hz=> ?_⟩) fun hc2=> ?_
 .obtain⟨i,rfl⟩: ∃i,j=i+1:=⟨j - 1,by omega⟩;rw[show (((i+1:Nat):Int) - 1).toNat=i by omega] at hz;have hd:=v8z hz;refine kid (getm hz) g2.inv g2.len fun r3 ns3 ids3 full3 g3 m3=> ?_
  have w1: ∀x∈lvs ats z,x∈lvsL ats (e.5.drop i):=fun x hx=>by unfold lvsL;rw[hd];show x∈(lvE z++lvEL (e.5.drop (i+1))).map _;rw[List.map_append];exact List.mem_append_left _ hx
  have w2: ∀x∈lvsL ats (e.5.drop (i+1)),x∈lvsL ats (e.5.drop i):=fun x hx=>by unfold lvsL;rw[hd];show x∈(lvE z++lvEL (e.5.drop (i+1))).map _;rw[List.map_append];exact List.mem_append_right _ hx
  have ll:(lvsL ats (e.5.drop i)).length=(lvEL (e.5.drop i)).length:=by unfold lvsL;rw[List.length_map]
  have lle:(lvEL (e.5.drop i)).length<=(lvEL e.5).length:=by
   have:lvEL e.5=lvEL (e.5.take i)++lvEL (e.5.drop i):=by rw[<-w4t,List.take_append_drop]
   rw[this,List.length_append];omega
  refine hop (S:=lvsL ats (e.5.drop i)) g3.gx.inv g3.gx.len (m3.wide w1) ((d2.pre g2.inv.nod g3.gx.inv.nod g3.gx.pre g3.gx.len).wide w2) fun r4 ns4 ids4 full4 g4 m4=>⟨by unfold InI;omega,⟨i,by omega,by omega,m4.eq fun v=>by rw[hd,hF],(g2.trans g3.gx).trans g4.gx,?_,fun ms k hM hS hf=> ?_⟩,by omega⟩
  .have c3:=g3.few;have c4:=g4.few;rw[ll] at c4;have p:=j9t lle;have e1:cstL (e.5.drop i)=cst z+cstL (e.5.drop (i+1)):=by rw[hd];rfl
   have e2:(e.5.length - i)*2 ^ (lvEL e.5).length=(e.5.length - (i+1))*2 ^ (lvEL e.5).length+2 ^ (lvEL e.5).length:=by rw[show e.5.length - i=(e.5.length - (i+1))+1 by omega,Nat.add_mul,Nat.one_mul]
   omega
  .have f2:=o2 ms k hM hS hf;have f3:=g3.old ms _ hM (hS.kid (getm hz)) f2;have e1:xcL (e.5.drop i)=xc z+xcL (e.5.drop (i+1)):=by rw[hd];rfl
   have t1:T (i+1)=sufs (e.5.drop (i+1)):=if_neg (by omega);by_cases hi:i=0
   .subst hi;have t0:T 0=sufs (e.5.drop 1):=if_pos rfl;have hH:Hol ms (i01 fun v=>H (sem ats z v) (FF (e.5.drop (0+1)) v)):=by
     have:(i01 fun v=>H (sem ats z v) (FF (e.5.drop (0+1)) v))=semI ats e:=funext fun v=>by
      show (if H (sem ats z v) (FF (e.5.drop (0+1)) v)=true then _ else _)=if sem ats e v=true then _ else _
      rw[hse,<-hF,<-hd,List.drop_zero]
     rw[this];exact hS.self
    refine (g4.old ms _ hM f3 hH).le ?_;have t3:sufs (List.drop (0+1) e.5)=sufs (List.drop 1 e.5):=rfl;rw[t0,e1,t1];omega
   .have t2:T i=2 ^ (lvEL (e.5.drop i)).length+sufs (e.5.drop (i+1)):=by show (if i=0 then _ else sufs (e.5.drop i))=_;rw[if_neg hi,hd];rfl
    refine (g4.new g3.gx.inv f3).le ?_;rw[t2,e1,t1,ll];omega
 .obtain rfl:j=0:=by omega
  rw[List.drop_zero] at d2 c2;refine h _ _ _ _ ⟨g2,by rw[hc];simp only[Nat.sub_zero] at c2;omega,fun ms k hM hS hf=>(o2 ms k hM hS hf).le ?_⟩ (by rw[lv0];exact d2.eq hse);rw[hx,List.drop_zero];show k+xcL e.5+(if (0:Nat)=0 then sufs (e.5.drop 1) else _)<=_;rw[if_pos rfl,List.drop_one];omega
theorem y6r{ats:List Ex}(ha:ats.length<=1000): ∀(n:Nat) {ns:List Nd} {ids:Nd->Option Int} {full:Bool} {e:Ex} {K:Int->List Nd->(Nd->Option Int)->Bool->Prop},ExS n e->WfN e->(∀x∈lvE e,x∈ats)->Inv ns ids->ns.length<=4000->
  (∀r ns' ids' full',CnX ats ns full e ns' ids' full'->Mx ns' (sem ats e) (lvs ats e) r->K r ns' ids' full')->Gt ns ids full ats e K:=by
 intro n ns ids full e K he hwn hin hI hl h X hX
 induction n using Nat.strongRecOn generalizing ns ids full e K with
 |_ n ih=>
 refine hX _ _ _ _ _ _ ?_;unfold B6;have hop:=he.opK;have kid0: ∀{y:Ex} {ns:List Nd} {ids:Nd->Option Int} {full:Bool} {K:Int->List Nd->(Nd->Option Int)->Bool->Prop},y∈e.5->(∀x∈lvE y,x∈ats)->Inv ns ids->ns.length<=4000->(∀r ns' ids' full',CnX ats ns full y ns' ids' full'->Mx ns' (sem ats y) (lvs ats y) r->K r ns' ids' full')->X ns ids full ats (Ex.mk y.1 y.2 y.3 y.4 y.5) K:=fun hy hi hI hr hK=>by obtain⟨m,hm,hk⟩:=he.kid hy;rw[Jh];exact ih m (by omega) hk (hwn.kid hy) hi hI hr hK
 have hse: ∀v,sem ats e v=if e.1=1 then true else if e.1=2 then bevA (fun x=>v (ixL ats x)) e.5 else if e.1=3 then bevO (fun x=>v (ixL ats x)) e.5 else if e.1=4 then bevN (fun x=>v (ixL ats x)) e.5 else v (ixL ats e):=fun v=>y3j _ e
 have hle:=z18 e;have hce:=w18 e;have hxe:=v8x e;have hk3:e.5.length<=3:=he.kids;have hls:lvs ats e=(lvE e).map fun x=>(ixL ats x:Int):=rfl
 have nd:2<=e.1->e.1<=4->lvE e=lvEL e.5/\cst e=cstL e.5+e.5.length*2 ^ (lvEL e.5).length/\xc e=xcL e.5+sufs e.5.tail/\(∀y∈e.5,∀x∈lvE y,x∈ats)/\e.5≠[]:=fun a b=>by
  have n1: ¬e.1=1:=by omega
  have n2:e.1=2\/e.1=3\/e.1=4:=by omega
  rw[if_neg n1,if_pos n2] at hle hce;rw[if_pos n2] at hxe;exact⟨hle,hce,hxe,fun y hy x hx=>hin x (by rw[hle];exact w4s.2 ⟨y,hy,hx⟩),hop a b⟩
 refine Cnd.mk (fun h1=> ?_) fun h1=>Cnd.mk (fun h2=> ?_) fun h2=>Cnd.mk (fun h3=> ?_) fun h3=>Cnd.mk (fun h4 _=> ?_) fun h4 _=> ?_
 .rw[if_pos h1] at hce hle;rw[if_neg (by omega)] at hxe;refine Ve (h _ _ _ _ ⟨Gx.refl hI hl,by omega,fun ms k _ _ hf=>hf.le (by omega)⟩ (.inr ⟨⟨by decide,by show (-1:Int) - 1<_;omega⟩,fun v=> ?_,fun v v' _=>by rw[hse,hse,if_pos h1,if_pos h1]⟩));rw[hse,if_pos h1,if_pos ⟨by decide,by decide⟩,Vm (by omega)];rfl
 .obtain⟨a,b,c,d,f⟩:=nd (by omega) (by omega);refine Ve fun _=>⟨by unfold InI;omega,?_⟩
  rw[if_pos ⟨by decide,by decide⟩];exact y3m (H:=fun a b=>a && b) (FF:=fun l v=>bevA (fun x=>v (ixL ats x)) l) (fun hy=>kid0 hy (d _ hy)) y8z (fun _ _ _=>rfl) (Dgm.tru (S:=[])) (by omega) (fun v=>by rw[hse,if_neg h1,if_pos h2]) b c a hI hl f h
 .obtain⟨a,b,c,d,f⟩:=nd (by omega) (by omega);refine Ve fun _=>⟨by unfold InI;omega,?_⟩
  rw[if_pos ⟨by decide,by decide⟩];exact y3m (H:=fun a b=>a||b) (FF:=fun l v=>bevO (fun x=>v (ixL ats x)) l) (fun hy=>kid0 hy (d _ hy)) y80 (fun _ _ _=>rfl) (Dgm.fls (S:=[])) (by omega) (fun v=>by rw[hse,if_neg h1,if_neg h2,if_pos h3]) b c a hI hl f h
 .obtain⟨a,b,c,d,f⟩:=nd (by omega) (by omega);have hpos:=List.length_pos_iff.2 f;refine Cnd.no (by omega) ⟨⟨by omega,by omega⟩,fun y hy=> ?_⟩;have hy:e.5[0]? =some y:=hy;have hl1:e.5=[y]:=by
   have hn:=hwn.self h4;revert hy hn;rcases e.5 with _|⟨z,_|⟨w,l⟩⟩
   .intro q;cases q
   .intro q _;rw[Option.some.inj q]
   .intro _ q;simp at q
  have hy':y∈e.5:=getm hy;have ev1:lvEL e.5=lvE y:=by rw[hl1];simp[lvEL]
  have ls1:lvs ats e=lvs ats y:=by rw[hls,a,ev1];rfl
  have hs1: ∀v,sem ats e v= !(sem ats y v):=fun v=>by rw[hse,if_neg h1,if_neg h2,if_neg h3,if_pos h4,hl1];rfl
  refine kid0 hy' (d y hy') hI hl fun r3 ns3 ids3 full3 g3 m3=> ?_
  refine y81 g3.gx.inv g3.gx.len m3 fun r4 ns4 ids4 full4 g4 m4=>h _ _ _ _ ⟨g3.gx.trans g4.gx,?_,fun ms k hM hS hf=> ?_⟩ (by rw[ls1];exact m4.eq hs1)
  .have c3:=g3.few;have c4:=g4.few;rw[b,hl1];show _<=ns.length+(cst y+0+1*2 ^ (lvE y++[]).length);rw[List.append_nil,Nat.one_mul];rw[show (lvs ats y).length=(lvE y).length by unfold lvs;rw[List.length_map]] at c4;omega
  .have hH:Hol ms (i01 fun v=> !(sem ats y v)):=by
    have:(i01 fun v=> !(sem ats y v))=semI ats e:=funext fun v=>by
     show (if (!(sem ats y v))=true then _ else _)=if sem ats e v=true then _ else _
     rw[hs1]
    rw[this];exact hS.self
   refine (g4.old ms _ hM (g3.old ms _ hM (hS.kid hy') hf) hH).le ?_;rw[c,hl1];show k+xc y<=k+(xc y+0+0);omega
 .have nn: ¬(e.1=2\/e.1=3\/e.1=4):=by omega
  rw[if_neg h1,if_neg nn] at hle hce;rw[if_neg nn] at hxe;have hmem:e∈ats:=hin e (by rw[hle];exact List.mem_singleton.2 rfl);refine Lp1.ind (fun (i:Int)=>0<=i/\i<=ats.length/\e∉ats.take i.toNat) (fun (i:Int)=>(ats.length - i).toNat) ?_ ⟨by omega,by omega,by simp⟩;rintro i ⟨i0,i1,hno⟩;refine Cnd.mk (fun hc=>⟨⟨i0,hc⟩,fun y hy=> ?_⟩) fun hc=> ?_
  .show Wx (Ex.mk y.1 y.2 y.3 y.4 y.5) _ _;rw[Jh,Jh];refine z0d _ (Nat.le_refl _) fun r hr=>Cnd.mk (fun hb=> ?_) fun hb=>⟨by unfold InI;omega,⟨by omega,by omega,?_⟩,by omega⟩
   .have hye:=hr.1 hb;subst hye;have hix:=y3k hy hno;have hr2:((ixL ats y:Nat):Int)=i:=by rw[hix];omega
    have es: ∀v,sem ats y v=v i:=fun v=>by rw[hse,if_neg h1,if_neg h2,if_neg h3,if_neg h4,hr2]
    refine Ve (Ve ?_);refine y6o hI hl i0 (by omega) fun r4 ns4 ids4 full4 g4 m4=>h _ _ _ _ ⟨g4.gx,by rw[hce];exact g4.few,fun ms k hM hS hf=> ?_⟩ ?_
    .have hH:Hol ms (i01 fun v=>v i):=by
      have:(i01 fun v=>v i)=semI ats y:=funext fun v=>by
       show (if v i=true then _ else _)=if sem ats y v=true then _ else _
       rw[es]
      rw[this];exact hS.self
     exact (g4.old ms _ hM hf hH).le (by omega)
    .rw[hls,hle];show Mx ns4 _ [((ixL ats y:Nat):Int)] r4;rw[hr2];exact m4.eq es
   .rw[show (i+1).toNat=i.toNat+1 by omega,List.take_add_one,hy];have:e≠y:=fun k=>hb (hr.2 k.symm)
    simp[hno,this]
  .exact absurd (by rw[t99 (by omega)];exact hmem) hno
end Go.En
end
noncomputable section
namespace Go.En
open Go Go.Fl Go.Fl.Lk Go.Fx Go.Dg
theorem w2a{l:List Decl}{k n:BA}{K:Int->Prop}(h: ∀r,K r):Hs l k n K:=by
 unfold Hs
 (repeat' (first|exact h _|(refine Lp1.ind (fun (i:Int)=>0<=i/\i<=l.length) (fun (i:Int)=>(l.length - i).toNat) (fun i hi=> ?_) ⟨by omega,by omega⟩)|assumption|(unfold InI;omega)|omega|refine Cnd.mk (fun _=> ?_) fun _=> ?_|refine⟨?_,?_⟩|intro _))
theorem v4n{e:Ex}{t:Int}{K:Bool->Prop}(h: ∀r,K r):q0a e t K:=by
 unfold q0a
 (repeat' (first|exact h _|exact trivial|(refine Jn1.mk (fun _=>True) ?_ fun _ _=> ?_)|(refine Lp1.ind (fun (i:Int)=>0<=i/\i<=e.4.length) (fun (i:Int)=>(e.4.length - i).toNat) (fun i hi=> ?_) ⟨by omega,by omega⟩)|assumption|(unfold InI;omega)|omega|refine Cnd.mk (fun _=> ?_) fun _=> ?_|refine⟨?_,?_⟩|intro _))
theorem j4t: ∀(n:Nat) {l:List Decl} {s:List BA} {e:Ex} {K:Int->Prop},wt e<=n->(∀r,K r)->q0b l s e K:=by
 intro n l s e K hn h X hX
 induction n generalizing e K with
 |zero=>have:=z17 e;omega
 |succ n ih=>
 refine hX _ _ _ _ ?_;unfold z2y;refine⟨True,fun _ _=> ?_,?_⟩
 .refine Lp1.ind (fun (i:Int)=>0<=i/\i<=e.5.length) (fun (i:Int)=>(e.5.length - i).toNat) ?_ ⟨by omega,by omega⟩;rintro i ⟨i0,i1⟩;refine Cnd.mk (fun hc=>⟨by omega,fun y hy=> ?_⟩) fun _=>h _
  dsimp only;rw[Jh];exact ih (by have:=j5c (getm hy);omega) fun r=>Cnd.mk (fun _=>⟨by unfold InI;omega,⟨by omega,by omega⟩,by omega⟩) fun _=>h _
 ·(repeat' (first|exact h _|exact trivial|refine w2a fun _=> ?_|refine v4n fun _=> ?_|(refine Lp1.ind (fun (i:Int)=>0<=i/\i<=s.length) (fun (i:Int)=>(s.length - i).toNat) (fun i hi=> ?_) ⟨by omega,by omega⟩)|assumption|(unfold InI;omega)|omega|refine Cnd.mk (fun _=> ?_) fun _=> ?_|refine⟨?_,?_⟩|intro _))
theorem v0l{l:List Decl}{s:Srv}{K:Int->Prop}(h: ∀r,K r):q47 l s K:=by
 unfold q47 z0u
 (repeat' (first|exact h _|refine w2a fun _=> ?_|assumption|(unfold InI;omega)|omega|refine Cnd.mk (fun _=> ?_) fun _=> ?_|refine⟨?_,?_⟩|intro _))
theorem w2b{v:Envt}{k:BA}{K:Flg->Bool->Prop}(h: ∀f b,K f b):q5p v k K:=by
 unfold q5p
 (repeat' (first|exact h _ _|(refine Lp1.ind (fun (i:Int)=>0<=i/\i<=v.4.length) (fun (i:Int)=>(v.4.length - i).toNat) (fun i hi=> ?_) ⟨by omega,by omega⟩)|assumption|(unfold InI;omega)|omega|refine Cnd.mk (fun _=> ?_) fun _=> ?_|refine⟨?_,?_⟩|intro _))
theorem w0t{e:Ex}{K:List Ex->Prop}(hw:wt e<=2000000)(h: ∀q,K q):V7 e K:=by
 unfold V7 q01;rw[Jh];refine z6v _ (Nat.le_refl _) (by simp;omega) fun q hq hql _=>⟨⟨by omega,by omega,by unfold Sml;simp at hql;omega⟩,fun _=> ?_⟩
 have hq: ∀a,a∈q↔(a∈subs e/\atm a):=fun a=>(hq a).trans (by simp)
 have hql:q.length<=wt e:=by simpa using hql
 refine Lp2.ind (fun (r:List Ex) (i:Int)=>0<=i/\i<=q.length/\(r.length:Int)=i) (fun _ (i:Int)=>(q.length - i).toNat) ?_ ⟨by omega,by omega,rfl⟩;rintro r i ⟨i0,i1,hr⟩;refine Cnd.mk (fun hc=>⟨by omega,fun y hy=> ?_⟩) fun _=>h _
 have hy2:=v8g _ (Nat.le_refl _) ((hq y).1 (getm hy)).1;dsimp only;rw[Jh];refine z38 _ (Nat.le_refl _) (by omega) ?_;exact⟨by unfold Sml;simp only[List.length_append,List.length_cons,List.length_nil];omega,by unfold InI;omega,⟨by omega,by omega,by simp only[List.length_append,List.length_cons,List.length_nil];omega⟩,by omega⟩
abbrev AnyN(K:Int->List Nd->(Nd->Option Int)->Bool->Prop):Prop:= ∀r ns' ids' full',Inv ns' ids'->ns'.length<=4000->K r ns' ids' full'
theorem y84{ns:List Nd}{ids:Nd->Option Int}{full:Bool}{f g:Int}{K:Int->List Nd->(Nd->Option Int)->Bool->Prop}(hI:Inv ns ids)(hl:ns.length<=4000)(h:AnyN K):Jy ns ids full f g K:=
 v8u hI hl fun r ns' ids' full' C=>by
  rcases C with ⟨_,C⟩|⟨_,_,rfl,rfl,rfl⟩
  .exact h _ _ _ _ C.grew.inv C.grew.len
  .exact h _ _ _ _ hI hl
theorem y85{ns:List Nd}{ids:Nd->Option Int}{full:Bool}{f g:Int}{K:Int->List Nd->(Nd->Option Int)->Bool->Prop}(hI:Inv ns ids)(hl:ns.length<=4000)(h:AnyN K):Jr ns ids full f g K:=
 y3l hI hl fun r ns' ids' full' C=>by
  rcases C with ⟨_,C⟩|⟨_,_,rfl,rfl,rfl⟩
  .exact h _ _ _ _ C.grew.inv C.grew.len
  .exact h _ _ _ _ hI hl
theorem y86{ns:List Nd}{ids:Nd->Option Int}{full:Bool}{f:Int}{K:Int->List Nd->(Nd->Option Int)->Bool->Prop}(hI:Inv ns ids)(hl:ns.length<=4000)(h:AnyN K):Jz ns ids full f K:=
 v8v hI hl fun r ns' ids' full' C=>by
  rcases C with ⟨_,C⟩|⟨_,_,rfl,rfl,rfl⟩
  .exact h _ _ _ _ C.grew.inv C.grew.len
  .exact h _ _ _ _ hI hl
theorem v81{ns:List Nd}{ids:Nd->Option Int}{full:Bool}{t y n:Int}{K:Int->List Nd->(Nd->Option Int)->Bool->Prop}(hI:Inv ns ids)(hl:ns.length<=4000)(h:AnyN K):Zc ns ids full t y n K:=by
 refine w4u hl ?_;by_cases hO:z4p ns t y n
 .obtain⟨g,_,_⟩:=j9n (r:=(node ns ids full t y n).1) (ns':=(node ns ids full t y n).2.1) (ids':=(node ns ids full t y n).2.2.1) (full':=(node ns ids full t y n).2.2.2) hI hl hO rfl;exact h _ _ _ _ g.inv g.len
 .rw[j6x hO];exact h _ _ _ _ hI hl
theorem y6s{ats:List Ex}: ∀(n:Nat) {ns:List Nd} {ids:Nd->Option Int} {full:Bool} {e:Ex} {K:Int->List Nd->(Nd->Option Int)->Bool->Prop},wt e<=n->Inv ns ids->ns.length<=4000->AnyN K->Gt ns ids full ats e K:=by
 intro n ns ids full e K he hI hl h X hX
 induction n generalizing ns ids full e K with
 |zero=>have:=z17 e;omega
 |succ n ih=>
 refine hX _ _ _ _ _ _ ?_;unfold B6;have kid0: ∀{y:Ex} {ns:List Nd} {ids:Nd->Option Int} {full:Bool} {K:Int->List Nd->(Nd->Option Int)->Bool->Prop},y∈e.5->Inv ns ids->ns.length<=4000->AnyN K->X ns ids full ats (Ex.mk y.1 y.2 y.3 y.4 y.5) K:=fun hy hI hr hK=>by rw[Jh];exact ih (by have:=j5c hy;omega) hI hr hK
 have fold: ∀{op:Vo} {ns:List Nd} {ids:Nd->Option Int} {full:Bool} {start:Int},(e.5.length:Int)<=9223372036854775807->(∀{ns:List Nd} {ids:Nd->Option Int} {full:Bool} {f g:Int} {K:Int->List Nd->(Nd->Option Int)->Bool->Prop},Inv ns ids->ns.length<=4000->AnyN K->op ns ids full f g K)->Inv ns ids->ns.length<=4000->
   Lp5 (fun Qk Zq (j2o:List (Int×Int×Int)) q55 v4r y62=>Cnd ((0:Int)<=Zq) (At e.5 Zq fun y3=>X j2o v4r q55 ats (Ex.mk y3.1 y3.2 y3.3 y3.4 y3.5) fun Qx (q41:List (Int×Int×Int)) v0n y2i=>op q41 v0n y2i Qx Qk fun Q1 (z60:List (Int×Int×Int)) v0p v4s=>InI (Zq - 1)/\y62 Q1 (Zq - 1) z60 v4s v0p) (K Qk j2o v4r q55)) start ((↑e.5.length:Int) - 1) ns full ids:=fun hn op1 hI hl=>by
  refine Lp5.ind (fun (f i:Int) ns2 _ ids2=> -1<=i/\i<e.5.length/\Inv ns2 ids2/\ns2.length<=4000) (fun _ (i:Int) _ _ _=>(i+1).toNat) ?_ ⟨by omega,by omega,hI,hl⟩;rintro f i ns2 full2 ids2 ⟨i0,i1,hI2,hl2⟩;exact Cnd.mk (fun hc2=>⟨by omega,fun z hz=>kid0 (getm hz) hI2 hl2 fun r3 ns3 ids3 full3 hI3 hl3=>op1 hI3 hl3 fun r4 ns4 ids4 full4 hI4 hl4=>⟨by unfold InI;omega,⟨by omega,by omega,hI4,hl4⟩,by omega⟩⟩) fun _=>h _ _ _ _ hI2 hl2
 refine Cnd.mk (fun h1=>Ve (h _ _ _ _ hI hl)) fun h1=>Cnd.mk (fun h2=> ?_) fun h2=>Cnd.mk (fun h3=> ?_) fun h3=>Cnd.mk (fun h4 hf=> ?_) fun h4 _=> ?_
 .exact Ve fun hf=>⟨by unfold InI;omega,fold (by omega) (fun hI hl hK=>y84 hI hl hK) hI hl⟩
 .exact Ve fun hf=>⟨by unfold InI;omega,fold (by omega) (fun hI hl hK=>y85 hI hl hK) hI hl⟩
 .exact Cnd.mk (fun _=>Ve (h _ _ _ _ hI hl)) fun hz=>⟨⟨by omega,by omega⟩,fun y hy=>kid0 (getm hy) hI hl fun r3 ns3 ids3 full3 hI3 hl3=>y86 hI3 hl3 h⟩
 .refine Lp1.ind (fun (i:Int)=>0<=i/\i<=ats.length) (fun (i:Int)=>(ats.length - i).toNat) ?_ ⟨by omega,by omega⟩;rintro i ⟨i0,i1⟩;refine Cnd.mk (fun hc=>⟨⟨i0,hc⟩,fun y hy=> ?_⟩) fun hc=>Ve (Ve (v81 hI hl h))
  show Wx (Ex.mk y.1 y.2 y.3 y.4 y.5) _ _;rw[Jh,Jh];exact z0d _ (Nat.le_refl _) fun r hr=>Cnd.mk (fun hb=>Ve (Ve (v81 hI hl h))) fun hb=>⟨by unfold InI;omega,⟨by omega,by omega⟩,by omega⟩
theorem j4u{l:List Rul}{K:List Int->Bool->Prop}(hl:l.length<=100)(hw: ∀r∈l,wt r.2<=10000)(h: ∀o b,K o b):Wf l K:=by
 unfold Wf Hj;intro _;refine Lp2.ind (fun (i:Int) (q:List Ex)=> ∃j:Nat,i=(j:Int)/\j<=l.length/\q.length=j/\∀x∈q,wt x<=10000) (fun (i:Int) _=>(l.length - i).toNat) ?_ ⟨0,rfl,by omega,rfl,by simp⟩;rintro i q ⟨j,rfl,hj,hq,hqw⟩;refine Cnd.mk (fun hc=>⟨by omega,fun y hy=> ?_⟩) fun hc=> ?_
 .have hy:l[j]? =some y:=hy;dsimp only;rw[Jh];exact⟨by unfold Sml;simp;omega,by unfold InI;omega,⟨j+1,by omega,by omega,by simp;omega,Jj hqw (hw y (getm hy))⟩,by omega⟩
 have hwl:=v8h (b:=10000) (l:=q) hqw;have m8:q.length*10000<=100*10000:=Nat.mul_le_mul_right _ (by omega);refine w0t (by rw[j0b];show 1+wtV []+wtL q<=_;simp only[wtV];omega) fun ats=> ?_
 show Hh _;unfold Hh;refine Ve fun _=> ?_
 refine LpH.ind (fun (x:Int×List Int×Int×List Nd×Bool×(Nd->Option Int)×Unit)=>0<=x.2.2.1/\x.2.2.1<=l.length/\(x.2.1.length:Int)<=x.2.2.1/\Inv x.2.2.2.1 x.2.2.2.2.2.1/\x.2.2.2.1.length<=4000) (fun x=>((l.length:Int) - x.2.2.1).toNat) ?_ ⟨Int.le_refl 0,by simp,by simp,v0a,by simp⟩;rintro⟨before,out,i,ns,full,ids,u⟩ ⟨i0,i1,ho,hI,hn⟩;dsimp only at i0 i1 ho hI hn⊢;refine Cnd.mk (fun hc=>⟨by omega,fun y hy=> ?_⟩) fun _=>h _ _
 dsimp only;rw[Jh];refine y6s _ (Nat.le_refl _) hI hn fun r2 ns2 ids2 full2 hI2 hn2=> ?_
 refine y85 hI2 hn2 fun r3 ns3 ids3 full3 hI3 hn3=> ?_
 show Cnd (full3=true) _ _;refine Cnd.mk (fun _=>h _ _) fun _=>Ve ?_
 exact Cnd.mk (fun _=>h _ _) fun _=>Cnd.mk (fun _=>⟨by unfold InI;omega,by unfold Sml;simp;omega,by unfold InI;omega,⟨by omega,by omega,by simp;omega,hI3,hn3⟩,by omega⟩) fun _=>⟨by unfold InI;omega,⟨by omega,by omega,by omega,hI3,hn3⟩,by omega⟩
theorem v4o{v:Envt}{s:List BA}{f:Flg}{K:Int->Prop}(hl:f.8.length<=100)(hw: ∀r∈f.8,wt r.2<=10000)(h: ∀r,K r):q9w v s f K:=by
 unfold q9w z5h
 (repeat' (first|exact h _|refine w2b fun _ _=> ?_|refine j4t _ (Nat.le_refl _) fun _=> ?_|refine v0l fun _=> ?_|refine j4u hl hw fun _ _=> ?_|(refine Lp1.ind (fun (i:Int)=>0<=i/\i<=f.6.length+f.8.length) (fun (i:Int)=>(f.6.length+f.8.length - i).toNat) (fun i hi=> ?_) ⟨by omega,by omega⟩)|assumption|(unfold InI;omega)|omega|refine Cnd.mk (fun _=> ?_) fun _=> ?_|refine⟨?_,?_⟩|intro _))
end Go.En
end
noncomputable section
namespace Go.En
open Go Go.Fl Go.Fl.Lk Go.Fx Go.Gr
def uc(E:List E2)(p:BA->Bool):Nat:=((E.map (·.2)).filter fun y=> !p y).length
theorem u00{E:List E2}{p q:BA->Bool}(h: ∀y,p y=true->q y=true){m:BA}(hm: ∃e∈E,e.2=m)(hp:p m=false)(hq:q m=true):uc E q<uc E p:=by
 unfold uc
 exact Lk.w47 (E.map (·.2)) (fun y=> !q y) (fun y=> !p y) (fun y hy=>by
  rcases hpy:p y with _|_
  .rfl
  .rw[h y hpy] at hy;cases hy) (List.mem_map.2 hm) (by simp[hp]) (by simp[hq])
theorem u01(E:List E2)(p:BA->Bool):uc E p<=E.length:=by unfold uc;refine Nat.le_trans (List.length_filter_le _ _) ?_;simp
theorem tkc{α:Type}{l:List α}{n:Nat}{e:α}(h:l[n]? =some e):l.take (n+1)=l.take n++[e]:=by rw[List.take_add_one,h];rfl
theorem y6t(E:List E2)(hE:E.length<=1000000):B3 E (fun F=>Tab E F):=by
 unfold B3;intro _;refine Lp2.ind (fun k F=>k<=E.length/\Tab (E.take k) F) (fun k _=>E.length - k) (fun k F hk=> ?_) ⟨Nat.zero_le _,Tab.nil⟩;obtain⟨hk,ht⟩:=hk;refine Cnd.mk (fun h e he=> ?_) (fun h=> ?_)
 .have:=Qj he;have h3:=y8p (E.take k) e.1;have h4:(E.take k).length<=E.length:=List.length_take_le' _ _;refine⟨by unfold Sml;rw[ht e.1];simp;omega,⟨by omega,by rw[tkc he];exact ht.snoc e⟩,by omega⟩
 .have h2:k=E.length:=by omega
  subst h2;rw[List.take_length] at ht;exact ht
theorem y6u(E:List E2)(F:BA->Option (List BA))(x:BA)(hE:E.length<=1000000)(ht:Tab E F):q2q F x (fun _=>True):=by
 unfold q2q
 refine Lp2.ind (fun op G=>(∀y b,G y=some b->b=true)/\op.length+uc E (fun y=>(G y).isSome)<=1+E.length)
  (fun op G=>2*uc E (fun y=>(G y).isSome)+op.length) (fun op G hi=> ?_) ⟨by simp,by have:=u01 E (fun _=>false);simp;omega⟩
 obtain⟨ia,ie⟩:=hi;intro _;refine Cnd.mk (fun h=> ?_) (fun h=>trivial);obtain⟨j,hj⟩: ∃j,op.length=j+1:=⟨op.length - 1,by omega⟩;obtain⟨x1,hx1⟩: ∃x1,op[j]? =some x1:=⟨_,List.getElem?_eq_getElem (by omega)⟩;have hlt:(op.take j).length=j:=by rw[List.length_take];omega
 have hnd:=ht x1;refine⟨InI.mk (by omega) (by omega),j,by omega,x1,hx1,InI.mk (by omega) (by omega),j,by omega,by omega,?_⟩;intro _;rw[hnd]
 refine Lp3.ind (fun op2 k G2=>k<=(nd E x1).length/\(∀y b,G2 y=some b->b=true)/\op2.length+uc E (fun y=>(G2 y).isSome)<=E.length/\2*uc E (fun y=>(G2 y).isSome)+op2.length<=2*uc E (fun y=>(G y).isSome)+j)
  (fun _ k _=>(nd E x1).length - k) (fun op2 k G2 hi=> ?_) ⟨Nat.zero_le _,ia,by omega,by omega⟩
 obtain⟨jk,ja,je,jg⟩:=hi;refine Cnd.mk (fun h m hm=> ?_) (fun h=>⟨⟨ja,by omega⟩,by omega⟩);have:=Qj hm;obtain⟨e0,he0,e1,e2⟩:=y8o.1 (List.mem_of_getElem? hm);refine Cnd.mk (fun hs=>⟨⟨by omega,ja,je,jg⟩,by omega⟩) (fun hs=> ?_);have hnone:(G2 m).isSome=false:=by
  rcases hq:G2 m with _|b
  .rfl
  .rw[hq,ja m b hq] at hs;exact absurd rfl hs
 have hu:=u00 (E:=E) (p:=fun y=>(G2 y).isSome) (q:=fun y=>(put G2 m true y).isSome) (fun y hy=>by unfold put;split<;>simp[hy]) ⟨e0,he0,e2⟩ hnone (by simp[put]);refine⟨by unfold Sml;simp;omega,⟨by omega,fun y b hb=> ?_,by simp;omega,by simp;omega⟩,by omega⟩;unfold put at hb;split at hb
 .cases hb;rfl
 .exact ja y b hb
theorem y3n{ns:List BA}{E:List Edg}{K:List BA->Prop}(hn:ns.length<=1000000)(hE:E.length<=1000000)(h: ∀l,(∀x∈l,x∈ns)->K l):P_graph_Cyclic ns E K:=by
 show Go.Fl.P_graph_Cyclic ns (E.map fun e=>(e.1,e.2)) K;unfold Go.Fl.P_graph_Cyclic;have hE2:(E.map fun e=>(e.1,e.2)).length<=1000000:=by rw[List.length_map];exact hE
 refine Jn1.mk _ (y6t _ hE2) (fun F hF=> ?_);obtain⟨_,c2,_,c4⟩:=j20 ns;generalize cpt (srt ns)=L at c2 c4;refine⟨by unfold Sml;omega,by unfold Sml;omega,?_⟩;intro _;refine Lp2.ind (fun (out:List BA) (k:Nat)=>k<=L.length/\out.length<=k/\∀x∈out,x∈ns) (fun _ k=>L.length - k) (fun out k hi=> ?_) ⟨Nat.zero_le _,by simp,by simp⟩;obtain⟨hk,ho,hm⟩:=hi;refine Cnd.mk (fun hc x hx=> ?_) (fun _=>h out hm);have:=Qj hx;refine Jn1.mk _ (y6u _ F x hE2 hF) (fun G _=> ?_);exact Cnd.mk (fun h1=>⟨by unfold Sml;simp;omega,⟨by omega,by simp;omega,Jj hm ((c2 x).1 (List.mem_of_getElem? hx))⟩,by omega⟩) (fun h1=>⟨⟨by omega,by omega,hm⟩,by omega⟩)
end Go.En
end
noncomputable section
namespace Go.En
open Go Go.Fl Go.Fl.Lk Go.Fx
theorem y87{l:List Val}(h: ∀v∈l,v.4.length<=10):wtV l<=l.length*11:=by
 induction l with
 |nil=>simp[wtV]
 |cons v l ih=>
  have h1:=h v List.mem_cons_self;have h2:=ih fun e he=>h e (List.mem_cons_of_mem _ he)
  simp only[wtV,List.length_cons,Nat.add_mul];omega
def WW:Nat->Nat
 |0=>45
 |n+1=>45+3*WW n
theorem y3o: ∀{n:Nat} {e:Ex},ExS n e->wt e<=WW n:=by
 intro n
 induction n with
 |zero=>
  intro e h;have h1:=y87 fun v hv=>(h.vals.all v hv).len
  have h2:=h.vals.len;have h3:e.5=[]:=h.2.2.2;rw[j0b,h3];have h1:wtV e.4<=e.4.length*11:=h1;have h2:e.4.length<=4:=h2;simp only[wtL,WW];omega
 |succ n ih=>
  intro e h;have h1:wtV e.4<=e.4.length*11:=y87 fun v hv=>(h.vals.all v hv).len
  have h2:e.4.length<=4:=h.vals.len;have h3:=v8h (b:=WW n) (l:=e.5) fun k hk=>by
   obtain⟨m,hm,hx⟩:=h.kid hk;obtain rfl:m=n:=by omega
   exact ih hx
  have h4:e.5.length<=3:=h.kids;have h5:e.5.length*WW n<=3*WW n:=Nat.mul_le_mul_right _ h4;rw[j0b];simp only[WW];omega
structure EnvC(v:Envt):Prop where
 w:EnvW v
 sn:v.3.length<=100
 sg: ∀g∈v.3,wt g.5<=10000
 fn: ∀f∈v.4,f.6.length<=100/\f.8.length<=100/\∀r∈f.8,wt r.2<=10000
def XpAt(v:Envt)(i:Nat):Prop:= ∀x,v.6[i]? =some x->x.5≠3-> ∃l∈v.5,l.1=x.2/\∀q:Int,0<=q->q<10000->insV x.6 q=true-> ¬q<l.4/\∀(j:Nat) y,j<i->v.6[j]? =some y->y.2=x.2->y.5≠3->insV y.6 q≠true
theorem w4w(a b:List Spn)(q:Int):insV (a++b) q=(insV a q||insV b q):=by simp[insV]
theorem j6b{v:Envt}{s:List BA}{i:Nat}{K:Int->Prop}(hv:EnvW v)(hi:i<v.6.length)(h: ∀r,(r=0->XpAt v i)->K r):Rx v s (i:Int) K:=by
 unfold Rx q23;have no: ∀{r:Int},r≠0->K r:=fun hr=>h _ fun k=>absurd k hr
 have hxn:=hv.xn;refine⟨by omega,fun x hx=> ?_⟩;have hx:v.6[i]? =some x:=hx;refine Jn1.mk (fun q=>q= -1\/(0<=q/\∃l,v.5[q.toNat]? =some l/\l.1=x.2)) (fun _=> ?_) fun q hq=> ?_
 .refine Lp1.ind (fun (j:Int)=>0<=j/\j<=v.5.length) (fun (j:Int)=>(v.5.length - j).toNat) ?_ ⟨by omega,by omega⟩;rintro j ⟨j0,j1⟩;exact Cnd.mk (fun hc=>⟨by omega,fun l hl=>Cnd.mk (fun he=> .inr ⟨j0,l,hl,he⟩) fun _=>⟨by unfold InI;omega,⟨by omega,by omega⟩,by omega⟩⟩) fun _=> .inl rfl
 refine w2b fun f b=>Cnd.mk (fun _=>no (by decide)) fun hq0=>Cnd.mk (fun _ _=> ?_) fun _=>no (by decide)
 obtain⟨q0,l,hl,hlk⟩:=hq.resolve_left (by omega);refine Lp1.ind (fun (j:Int)=>0<=j/\j<=x.7.length) (fun (j:Int)=>(x.7.length - j).toNat) ?_ ⟨by omega,by omega⟩;rintro j ⟨j0,j1⟩;refine Cnd.mk (fun hc=>⟨by omega,fun y hy _=>Cnd.mk (fun _=>no (by decide)) fun _=>⟨by unfold InI;omega,⟨by omega,by omega⟩,by omega⟩⟩) fun _=> ?_
 rw[Jh];refine j4t _ (Nat.le_refl _) fun r=>Cnd.mk (fun hr=>Cnd.mk (fun h3=>h _ fun _ x2 hx2 hn=> ?_) fun h3=> ?_) fun hr=>no hr
 .rw[hx] at hx2;cases hx2;exact absurd h3 hn
 refine⟨⟨q0,by have:=Qj hl;omega⟩,fun z hz=>⟨by omega,fun hm=> ?_⟩⟩;rw[hl] at hz;cases hz;generalize hme:List.drop (Int.toNat (0:Int)) (List.take (i:Int).toNat v.6)=m at hm⊢;have hme:m=v.6.take i:=hme.symm;have hml:m.length<=i:=by rw[hme,List.length_take];omega
 have hcl: ∀y∈m,y.6.length<=1000000:=fun y hy=>(hv.exps y (List.mem_of_mem_take (hme▸hy))).cl
 refine Lp3.ind (fun (t:List Spn) (_:Bool) (p:Int)=> ∃k:Nat,p=(k:Int)/\k<=m.length/\t.length<=1+1000000*k/\(∀q:Int,0<=q->q<l.4->insV t q=true)/\∀(j:Nat) y,j<k->m[j]? =some y->y.2=x.2->y.5≠3-> ∀q:Int,insV y.6 q=true->insV t q=true) (fun _ _ (p:Int)=>(m.length - p).toNat) ?_ ⟨0,rfl,by omega,by simp,fun q a b=>by simp[insV,a,b],fun j y hj=>by omega⟩;rintro t ap p ⟨k,rfl,hk,htl,ht,hte⟩;refine Cnd.mk (fun hc=>⟨⟨by omega,hc⟩,fun y hy=> ?_⟩) fun hc=> ?_
 .have hy:m[k]? =some y:=hy;have hyl:=hcl y (getm hy);refine Jn1.mk (fun (t2:List Spn)=>t2=t++y.6\/(t2=t/\ ¬(y.2=x.2/\y.5≠3))) ?_ fun t2 ht2=> ?_
  .refine Jn1.mk (fun (b:Bool)=>b=true\/(b=false/\ ¬(y.2=x.2/\y.5≠3))) ?_ fun b hb=> ?_
   .refine Cnd.mk (fun he=> ?_) fun he=> .inr ⟨rfl,fun o=>he o.1⟩
    show (match decide (y.5=3) with|true=>false|false=>true)=true\/(match decide (y.5=3) with|true=>false|false=>true)=false/\_;by_cases h5:y.5=3
    .rw[decide_eq_true h5];exact .inr ⟨rfl,fun o=>o.2 h5⟩
    .rw[decide_eq_false h5];exact .inl rfl
   .exact Cnd.mk (fun _=>⟨by unfold Sml;simp;omega,.inl rfl⟩) fun hb2=> .inr ⟨rfl,(hb.resolve_left hb2).2⟩
  .have nx:InI ((k:Int)+1)/\(∃k2:Nat,(k:Int)+1=(k2:Int)/\k2<=m.length/\t2.length<=1+1000000*k2/\(∀q:Int,0<=q->q<l.4->insV t2 q=true)/\∀(j:Nat) y,j<k2->m[j]? =some y->y.2=x.2->y.5≠3-> ∀q:Int,insV y.6 q=true->insV t2 q=true)/\((m.length:Int) - ((k:Int)+1)).toNat<((m.length:Int) - (k:Int)).toNat:=by
    refine⟨by unfold InI;omega,⟨k+1,by omega,by omega,?_,fun q a b=> ?_,fun j z hj hz hz2 hz5 q hq=> ?_⟩,by omega⟩
    .rcases ht2 with rfl|⟨rfl,_⟩
     .rw[List.length_append];omega
     .omega
    .rcases ht2 with rfl|⟨rfl,_⟩
     .rw[w4w,ht q a b];rfl
     .exact ht q a b
    .by_cases hjk:j=k
     .subst hjk;rw[hy] at hz;cases hz;rcases ht2 with rfl|⟨_,no⟩
      .rw[w4w,hq,Bool.or_true]
      .exact absurd ⟨hz2,hz5⟩ no
     .have:=hte j z (by omega) hz hz2 hz5 q hq;rcases ht2 with rfl|⟨rfl,_⟩
      .rw[w4w,this];rfl
      .exact this
   exact Cnd.mk (fun _=>nx) fun _=>Cnd.mk (fun _=>Cnd.mk (fun _=>Cnd.mk (fun _=>nx) fun _=>nx) fun _=>nx) fun _=>nx
 have hkm:k=m.length:=by omega
 refine y6j fun c hcP _=>Cnd.mk (fun _=>no (by decide)) fun hc0=>Cnd.mk (fun _=>no (by decide)) fun _=>h _ fun _ x2 hx2 hn=> ?_
 rw[hx] at hx2;cases hx2;have none: ∀q:Int,0<=q->q<10000->insV x.6 q=true->insV t q≠true:=fun q a b hq ht=>by have:=hcP.2.2 ⟨q,a,b,hq,ht⟩;omega
 refine⟨l,List.mem_of_getElem? hl,hlk,fun q a b hq=>⟨fun hlt=>none q a b hq (ht q a hlt),fun j y hj hy hy2 hy5 hyq=>none q a b hq (hte j y ?_ ?_ hy2 hy5 q hyq)⟩⟩
 .rw[hkm,hme,List.length_take];omega
 .rw[hme,List.getElem?_take_of_lt hj];exact hy
theorem v0m{v:Envt}{K:List Edg->Prop}(hn:v.4.length<=1000)(hf: ∀f∈v.4,f.6.length<=100)(h: ∀d,d.length<=1000000->K d):q0c v K:=by
 unfold q0c;intro _;refine Lp2.ind (fun (d:List Edg) (i:Int)=>0<=i/\i<=v.4.length/\(d.length:Int)<=100*i) (fun _ (i:Int)=>(v.4.length - i).toNat) ?_ ⟨by omega,by omega,by simp⟩;rintro d i ⟨i0,i1,hd⟩;refine Cnd.mk (fun hc=>⟨by omega,fun f hfy _=> ?_⟩) fun _=>h _ (by omega)
 have hfl:=hf f (getm hfy);refine Lp2.ind (fun (q:List Edg) (j:Int)=>0<=j/\j<=f.6.length/\(q.length:Int)<=d.length+j) (fun _ (j:Int)=>(f.6.length - j).toNat) ?_ ⟨by omega,by omega,by simp⟩;rintro q j ⟨j0,j1,hq⟩;exact Cnd.mk (fun hc=>⟨by omega,fun y hy=>⟨by unfold Sml;simp;omega,by unfold InI;omega,⟨by omega,by omega,by simp;omega⟩,by omega⟩⟩) fun _=>⟨by unfold InI;omega,⟨by omega,by omega,by omega⟩,by omega⟩
theorem j4v{v:Envt}{K:BA->Int->Prop}(hv:EnvC v)(h: ∀s e,(e=0->(v.5.map Lay_.key).Nodup/\∀i,i<v.6.length->XpAt v i)->K s e):Wh v K:=by
 unfold Wh Ht;have no: ∀{s:BA} {r:Int},r≠0->K s r:=fun hr=>h _ _ fun k=>absurd k hr
 have hw:=hv.w;have hsn:=hv.sn;have hfn:=hw.fn;have hxn:=hw.xn;refine j4r (v:=v) hw (by omega) fun r hr=>Cnd.mk (fun hr0 _=> ?_) no
 refine Lp2.ind (fun (o:List BA) (i:Int)=>0<=i/\i<=v.3.length/\(o.length:Int)=i/\∀x∈o,x.size<=1000) (fun _ (i:Int)=>(v.3.length - i).toNat) ?_ ⟨by omega,by omega,by simp,by simp⟩;rintro o i ⟨i0,i1,ho,hos⟩;refine Cnd.mk (fun hc=>⟨by omega,fun y hy=>⟨by unfold Sml;simp;omega,by unfold InI;omega,⟨by omega,by omega,by simp;omega,Jj hos (hw.segs y (getm hy)).key⟩,by omega⟩⟩) fun _ _=> ?_
 refine Lp3.ind (fun (d:List Edg) (i:Int) (s:List BA)=>s=o/\0<=i/\i<=v.3.length/\(d.length:Int)<=10000*i) (fun _ (i:Int) _=>(v.3.length - i).toNat) ?_ ⟨rfl,by omega,by omega,by simp⟩;rintro d i s ⟨rfl,i0,i1,hd⟩;refine Cnd.mk (fun hc=>⟨by omega,fun g hg=> ?_⟩) fun _=> ?_
 .have hgk:=(hw.segs g (getm hg)).key;have hgw:=hv.sg g (getm hg);refine Jn2.mk (fun a b=>a=s/\b=d) ?_ fun a b hab=> ?_
  .dsimp only;rw[Jh];refine w16 fun _=>Cnd.mk (fun _=>⟨rfl,rfl⟩) fun _=>j4t _ (Nat.le_refl _) fun r=>Cnd.mk (fun _=>⟨rfl,rfl⟩) fun hr=>⟨?_,no hr⟩
   have hgk:g.1.size<=1000:=hgk;show ((8+g.1.size:Nat):Int)<=_;omega
  .obtain⟨rfl,rfl⟩:=hab;dsimp only;rw[Jh];refine j4h (by omega) fun _=> ?_
   have hrl:=y6c g.5;refine Lp3.ind (fun (q:List Edg) (j:Int) (s2:List BA)=>s2=a/\0<=j/\j<=(rfs g.5).length/\(q.length:Int)<=b.length+j) (fun _ (j:Int) _=>((rfs g.5).length - j).toNat) ?_ ⟨rfl,by omega,by omega,by simp⟩;rintro q j s2 ⟨rfl,j0,j1,hq⟩;exact Cnd.mk (fun hc=>⟨by omega,fun y hy=>⟨by unfold Sml;simp;omega,by unfold InI;omega,⟨rfl,by omega,by omega,by simp;omega⟩,by omega⟩⟩) fun _=>⟨by unfold InI;omega,⟨rfl,by omega,by omega,by omega⟩,by omega⟩
 refine y3n (by omega) (by omega) fun l hl _=>Cnd.mk (fun hp=>⟨by omega,fun y hy=>⟨?_,no (by decide)⟩⟩) fun _ _=> ?_
 .have:=hos y (hl y (getm hy));show ((8+y.size:Nat):Int)<=_;omega
 refine Lp4.ind (fun (i:Int) (_ _:List BA) (_:List Edg)=>0<=i/\i<=v.4.length) (fun (i:Int) _ _ _=>(v.4.length - i).toNat) ?_ ⟨by omega,by omega⟩;rintro i a b d ⟨i0,i1⟩;refine Cnd.mk (fun hc=>⟨by omega,fun f hf=> ?_⟩) fun _ _=> ?_
 .obtain⟨_,f8,f9⟩:=hv.fn f (getm hf);have hfk:f.1.size<=1000:=(hw.flags f (getm hf)).key;refine v4o (f:=f) f8 f9 fun r=>Cnd.mk (fun _=>⟨by unfold InI;omega,⟨by omega,by omega⟩,by omega⟩) fun hr=>⟨?_,no hr⟩
  show ((5+f.1.size:Nat):Int)<=_;omega
 refine Lp2.ind (fun (o:List BA) (i:Int)=>0<=i/\i<=v.4.length/\(o.length:Int)=i/\∀x∈o,x.size<=1000) (fun _ (i:Int)=>(v.4.length - i).toNat) ?_ ⟨by omega,by omega,by simp,by simp⟩;rintro o i ⟨i0,i1,ho,hos⟩;refine Cnd.mk (fun hc=>⟨by omega,fun y hy=>⟨by unfold Sml;simp;omega,by unfold InI;omega,⟨by omega,by omega,by simp;omega,Jj hos (hw.flags y (getm hy)).key⟩,by omega⟩⟩) fun _=> ?_
 refine v0m (v:=v) hfn (fun f hf=>(hv.fn f hf).1) fun e he=> ?_
 refine y3n (by omega) he fun l hl _=>Cnd.mk (fun hp=>⟨by omega,fun y hy=>⟨?_,no (by decide)⟩⟩) fun _ _=> ?_
 .have:=hos y (hl y (getm hy));show ((5+y.size:Nat):Int)<=_;omega
 refine LpH.ind (fun (x:Int×List BA×List BA×List Edg×List Edg×List BA×List BA×Unit)=> ∃k:Nat,x.1=(k:Int)/\k<=v.6.length/\∀i,i<k->XpAt v i) (fun x=>((v.6.length:Int) - x.1).toNat) ?_ ⟨0,rfl,by omega,fun i hi=>by omega⟩;rintro⟨i,rest⟩ ⟨k,hi,hk,hx⟩;dsimp only at hi⊢;subst hi;refine Cnd.mk (fun hc=>⟨by omega,fun y hy=> ?_⟩) fun hc=>h _ _ fun _=>⟨hr hr0,fun i hi=>hx i (by omega)⟩
 have hyk:y.1.size<=1000:=(hw.exps y (getm hy)).key;refine j6b (v:=v) hw (by omega) fun r hr=>Cnd.mk (fun hr0=>⟨by unfold InI;omega,⟨k+1,by omega,by omega,fun i hi=> ?_⟩,by omega⟩) fun hr=>⟨?_,no hr⟩
 .by_cases hik:i=k
  .rw[hik];exact hr hr0
  .exact hx i (by omega)
 show ((11+y.1.size:Nat):Int)<=_;omega
end Go.En
end
noncomputable section
namespace Go.En
open Go Go.Fl Go.Fl.Lk Go.Fx
theorem y88{list:List Int}{a:Int}{segs:List Seg}{Kc:Flg->Int->List Seg->Prop}(hD:DS list a)(hsl:segs.length<=3)(hsegs: ∀g∈segs,SegS g)(h: ∀f a,FlgS f->DS list a->Kc f a segs):Jb list a (5:Int) fun Qy Vz=>InI ((1:Int)+Qy)/\Jb list Vz (6:Int) fun Qx q41=>Jb list q41 (4:Int) fun Q1 z60=>InI ((1:Int)+Q1)/\Lp4 (fun Z2 q9n y7d w73 y3r=>Cnd (Z2<1+Q1) (Bf list q9n ((1:Int)+Qy) fun Zu z4s=>Sml (y7d++[Zu]).length/\InI (Z2+1)/\y3r (Z2+1) z4s (y7d++[Zu]) w73) (Jb list q9n ((1:Int)+Q1) fun Zu z4s=>InI ((1:Int)+Zu)/\Lp4 (fun Zg z4q y65 v0o u1p=>Cnd (Zg<0) (Jb list z4q (4:Int) fun Qu Vy=>Cnd (Qu=1) False (InI (Zg+1)/\u1p (Zg+1) Vy y65 v0o)) (Lp5 (fun Qu Vy q0o j6c v0t v9h=>Jb list Vy (3:Int) fun Zl z04=>Cnd (Qu<Zl) (Jb list z04 ((1:Int)+Q1) fun Q3 w40=>InI ((1:Int)+Q3)/\z23 list w40 fun Qg z05=>Jn1 (fun (Zt:BA×Int×List BA×List Seg×List Val×List Tgt×Unit)=>Fits Zt.2.2.1->Cnd ((0:Int)<(↑Zt.2.2.1.length:Int)) (Sml (Zt.2.2.2.2.2.1++[Tgt.mk Zt.1 ((1:Int)+Q3) Zt.2.2.1]).length/\InI (Qu+1)/\v9h (Qu+1) Zt.2.1 (Zt.2.2.2.2.2.1++[Tgt.mk Zt.1 ((1:Int)+Q3) Zt.2.2.1]) Zt.2.2.2.2.1 Zt.2.2.2.1) (InI (Qu+1)/\v9h (Qu+1) Zt.2.1 Zt.2.2.2.2.2.1 Zt.2.2.2.2.1 Zt.2.2.2.1)) fun (w75:BA×Int×List BA×List Seg×List Val×List Tgt×Unit->Prop)=>Jb list z05 (4:Int) fun q0y v0u=>Cnd (q0y=1) (w75 (ByteArray.mk (Array.mk [100,101,118,105,99,101]),v0u,Qg,v0t,j6c,q0o,())) (w75 (ByteArray.mk (Array.mk [117,115,101,114]),v0u,Qg,v0t,j6c,q0o,()))) (Jn1 (fun (Q3:Int×List Rul×List BA×List Seg×List Val×List Tgt×Unit)=>q28 list Q3.1 ((1:Int)+Q1) fun Qg z05=>Kc (Flg.mk (ByteArray.mk (Array.mk [102,122])) ((1:Int)+Qy) Q3.2.2.2.2.1 (decide (Qx<5)) ((1:Int)+Zu) [] Q3.2.2.2.2.2.1 Q3.2.1 Qg) z05 Q3.2.2.2.1) fun (v0v:Int×List Rul×List BA×List Seg×List Val×List Tgt×Unit->Prop)=>LpH (fun (Qg:Int×Int×List Rul×List BA×List Seg×List Val×List Tgt×Unit) (v4x:Int×Int×List Rul×List BA×List Seg×List Val×List Tgt×Unit->Prop)=>Jb list Qg.2.1 (5:Int) fun Zt w78=>Cnd (Qg.1<Zt) (At Qg.2.2.2.1 Qg.1 fun y15=>Gv (Envt.mk (Sett.mk (ByteArray.mk (Array.mk [])) (ByteArray.mk (Array.mk [])) (0:Int)) [] Qg.2.2.2.2.1 [] [] []) fun q44=>q9y list w78 q44 (3:Int) fun Qm w77=>q28 list w77 ((1:Int)+Q1) fun Ze j91=>Sml (Qg.2.2.1++[Rul.mk y15 (Ex.mk Qm.1 Qm.2 Qm.3 Qm.4 Qm.5) Ze]).length/\W9 (Qg.2.2.1++[Rul.mk y15 (Ex.mk Qm.1 Qm.2 Qm.3 Qm.4 Qm.5) Ze]) fun B1 _ y7e=>Cnd (y7e=true) (Fits B1->Cnd ((0:Int)<(↑B1.length:Int)) ((Qg.2.2.1++[Rul.mk y15 (Ex.mk Qm.1 Qm.2 Qm.3 Qm.4 Qm.5) Ze]).length<=(9223372036854775807:Nat)->InI ((↑(Qg.2.2.1++[Rul.mk y15 (Ex.mk Qm.1 Qm.2 Qm.3 Qm.4 Qm.5) Ze]).length:Int) - 1)/\((0:Int)<=(↑(Qg.2.2.1++[Rul.mk y15 (Ex.mk Qm.1 Qm.2 Qm.3 Qm.4 Qm.5) Ze]).length:Int) - 1/\(↑(Qg.2.2.1++[Rul.mk y15 (Ex.mk Qm.1 Qm.2 Qm.3 Qm.4 Qm.5) Ze]).length:Int) - 1<=(↑(Qg.2.2.1++[Rul.mk y15 (Ex.mk Qm.1 Qm.2 Qm.3 Qm.4 Qm.5) Ze]).length:Int))/\v0v (j91,List.take ((↑(Qg.2.2.1++[Rul.mk y15 (Ex.mk Qm.1 Qm.2 Qm.3 Qm.4 Qm.5) Ze]).length:Int) - 1).toNat (Qg.2.2.1++[Rul.mk y15 (Ex.mk Qm.1 Qm.2 Qm.3 Qm.4 Qm.5) Ze]),Qg.2.2.2.1,Qg.2.2.2.2.1,Qg.2.2.2.2.2.1,Qg.2.2.2.2.2.2.1,())) (InI (Qg.1+1)/\v4x (Qg.1+1,j91,Qg.2.2.1++[Rul.mk y15 (Ex.mk Qm.1 Qm.2 Qm.3 Qm.4 Qm.5) Ze],Qg.2.2.2.1,Qg.2.2.2.2.1,Qg.2.2.2.2.2.1,Qg.2.2.2.2.2.2.1,()))) ((Qg.2.2.1++[Rul.mk y15 (Ex.mk Qm.1 Qm.2 Qm.3 Qm.4 Qm.5) Ze]).length<=(9223372036854775807:Nat)->InI ((↑(Qg.2.2.1++[Rul.mk y15 (Ex.mk Qm.1 Qm.2 Qm.3 Qm.4 Qm.5) Ze]).length:Int) - 1)/\((0:Int)<=(↑(Qg.2.2.1++[Rul.mk y15 (Ex.mk Qm.1 Qm.2 Qm.3 Qm.4 Qm.5) Ze]).length:Int) - 1/\(↑(Qg.2.2.1++[Rul.mk y15 (Ex.mk Qm.1 Qm.2 Qm.3 Qm.4 Qm.5) Ze]).length:Int) - 1<=(↑(Qg.2.2.1++[Rul.mk y15 (Ex.mk Qm.1 Qm.2 Qm.3 Qm.4 Qm.5) Ze]).length:Int))/\v0v (j91,List.take ((↑(Qg.2.2.1++[Rul.mk y15 (Ex.mk Qm.1 Qm.2 Qm.3 Qm.4 Qm.5) Ze]).length:Int) - 1).toNat (Qg.2.2.1++[Rul.mk y15 (Ex.mk Qm.1 Qm.2 Qm.3 Qm.4 Qm.5) Ze]),Qg.2.2.2.1,Qg.2.2.2.2.1,Qg.2.2.2.2.2.1,Qg.2.2.2.2.2.2.1,()))) (v0v (w78,Qg.2.2.1,Qg.2.2.2.1,Qg.2.2.2.2.1,Qg.2.2.2.2.2.1,Qg.2.2.2.2.2.2.1,()))) ((0:Int),z04,[],[ByteArray.mk (Array.mk [102,105,114,115,116]),ByteArray.mk (Array.mk [115,101,99,111,110,100]),ByteArray.mk (Array.mk [116,104,105,114,100]),ByteArray.mk (Array.mk [102,111,117,114,116,104])],v0t,j6c,q0o,()))) (0:Int) z4q [] v0o y65)) (0:Int) z4s w73 y7d)) (0:Int) z60 [] segs:=by
 refine Qe hD (by decide) fun kind a k0 k1 hD=>⟨by unfold InI;omega,Qe hD (by decide) fun on a _ _ hD=>Qe hD (by decide) fun m a m0 m1 hD=>⟨by unfold InI;omega,?_⟩⟩
 refine Lp4.ind (fun (j:Int) (a:Int) (vals:List Val) (sg:List Seg)=>0<=j/\j<=1+m/\DS list a/\(vals.length:Int)=j/\(∀v∈vals,ValS v)/\sg=segs) (fun j _ _ _=>(1+m - j).toNat) ?_ ⟨Int.le_refl 0,by omega,hD,rfl,by simp,rfl⟩;rintro j a vals sg ⟨j0,j1,hD,hvl,hvs,hsg⟩;cases hsg;refine Cnd.mk (fun hc=>q72 hD fun v a hv hD=>⟨by unfold Sml;simp;omega,by unfold InI;omega,⟨by omega,by omega,hD,by simp;omega,Jj hvs hv,rfl⟩,by omega⟩) fun hc=> ?_
 refine Qe hD (by omega) fun off a o0 o1 hD=>⟨by unfold InI;omega,?_⟩
 have hvm:(vals.length:Int)=1+m:=by omega
 refine Lp4.ind (fun (j:Int) (a:Int) (sg:List Seg) (vs:List Val)=>j=0/\DS list a/\sg=segs/\vs=vals) (fun _ _ _ _=>0) ?_ ⟨rfl,hD,rfl,rfl⟩;rintro j a sg vs ⟨hj,hD,hsg,hvs2⟩;cases hj;cases hsg;cases hvs2;refine Cnd.no (by decide) ?_;refine Lp5.ind (fun (j:Int) (a:Int) (tgts:List Tgt) (vs:List Val) (sg:List Seg)=>0<=j/\j<=3/\(tgts.length:Int)<=j/\(∀t∈tgts,t.kind.size<=100)/\DS list a/\vs=vals/\sg=segs) (fun j _ _ _ _=>(3 - j).toNat) ?_ ⟨Int.le_refl 0,by omega,by simp,by simp,hD,rfl,rfl⟩;rintro j a tgts vs sg ⟨j0,j1,htl,hts,hD,hvs2,hsg⟩;cases hsg;cases hvs2;refine Qe hD (by decide) fun q a q0 q1 hD=>Cnd.mk (fun hc=>Qe hD (by omega) fun w a w0 w1 hD=>⟨by unfold InI;omega,z6s hD fun ks a hks _ hD=> ?_⟩) fun _=> ?_
 .refine Jn1.mk (fun x=>x.1.size<=100/\DS list x.2.1/\x.2.2=(ks,segs,vals,tgts,())) (Qe hD (by decide) fun r a _ _ hD=>Cnd.mk (fun _=>⟨(by decide:(ByteArray.mk (Array.mk [100,101,118,105,99,101])).size<=100),hD,rfl⟩) fun _=>⟨(by decide:(ByteArray.mk (Array.mk [117,115,101,114])).size<=100),hD,rfl⟩) ?_;rintro⟨kd,a,rest⟩ ⟨hkd,hD,hr⟩;simp only at hkd hD hr⊢;subst hr;simp only;exact fun _=>Cnd.mk (fun _=>⟨by unfold Sml;simp;omega,by unfold InI;omega,⟨by omega,by omega,by simp;omega,Jj hts hkd,hD,trivial,trivial⟩,by omega⟩) fun _=>⟨by unfold InI;omega,⟨by omega,by omega,by omega,hts,hD,trivial,trivial⟩,by omega⟩
 refine Jn1.mk (fun (x:Int×List Rul×List BA×List Seg×List Val×List Tgt×Unit)=>DS list x.1/\x.2.1.length<=4/\(∀r∈x.2.1,RulS (1+m) r)/\x.2.2.2=(segs,vals,tgts,())) ?_ ?_
 case refine_2=>
  rintro⟨a,rules,names,rest⟩ ⟨hD,hrl,hrs,hr⟩;simp only at hD hrl hrs hr⊢;subst hr;simp only;refine j4d hD (by omega) (by omega) fun s a hs hD=>h _ _ ⟨(by decide:(ByteArray.mk (Array.mk [102,122])).size<=100),⟨by simp only;omega,by simp only;omega⟩,hvs,by simp,by simp,by simp only;omega,hts,hrl,by rw[hvm];exact hrs,by rw[hvm];exact hs⟩ hD
 have nm4: ∀s∈([ByteArray.mk (Array.mk [102,105,114,115,116]),ByteArray.mk (Array.mk [115,101,99,111,110,100]),ByteArray.mk (Array.mk [116,104,105,114,100]),ByteArray.mk (Array.mk [102,111,117,114,116,104])]:List BA),s.size<=100:=by decide
 have nl4:([ByteArray.mk (Array.mk [102,105,114,115,116]),ByteArray.mk (Array.mk [115,101,99,111,110,100]),ByteArray.mk (Array.mk [116,104,105,114,100]),ByteArray.mk (Array.mk [102,111,117,114,116,104])]:List BA).length=4:=rfl;generalize ([ByteArray.mk (Array.mk [102,105,114,115,116]),ByteArray.mk (Array.mk [115,101,99,111,110,100]),ByteArray.mk (Array.mk [116,104,105,114,100]),ByteArray.mk (Array.mk [102,111,117,114,116,104])]:List BA)=ns4 at nm4 nl4⊢;refine LpH.ind (fun (x:Int×Int×List Rul×List BA×List Seg×List Val×List Tgt×Unit)=>0<=x.1/\x.1<=4/\DS list x.2.1/\(x.2.2.1.length:Int)=x.1/\(∀r∈x.2.2.1,RulS (1+m) r)/\x.2.2.2=(ns4,segs,vals,tgts,())) (fun x=>(4 - x.1).toNat) ?_ ⟨Int.le_refl 0,by simp,hD,rfl,by simp,rfl⟩;rintro⟨j,a,rules,rest⟩ ⟨j0,j1,hD,hrl,hrs,hr⟩;simp only at j0 j1 hD hrl hrs hr⊢;subst hr;simp only;refine Qe hD (by decide) fun q a q0 q1 hD=>Cnd.mk (fun hc=>⟨by rw[nl4];omega,fun y hy=> ?_⟩) fun _=>⟨hD,by omega,hrs,trivial⟩
 refine q6l (by simp only;omega) (v74 (fun s hs=> ?_) 2 (by omega) (by decide) (by decide) hD fun e a he hD=>j4d hD (by omega) (by omega) fun s a hs hD=>⟨by unfold Sml;simp;omega,?_⟩)
 .obtain⟨g,hg,rfl⟩:=List.mem_map.1 hs;exact (hsegs g hg).key
 have hrs':=Jj hrs (x:=Rul.mk y (Ex.mk e.1 e.2 e.3 e.4 e.5) s) ⟨nm4 y (getm hy),he.eta,hs⟩;have hl':(rules++[Rul.mk y (Ex.mk e.1 e.2 e.3 e.4 e.5) s]).length=rules.length+1:=by simp
 have cut: ∀r∈List.take (((rules++[Rul.mk y (Ex.mk e.1 e.2 e.3 e.4 e.5) s]).length:Int) - 1).toNat (rules++[Rul.mk y (Ex.mk e.1 e.2 e.3 e.4 e.5) s]),RulS (1+m) r:=fun r hr=>hrs' r (List.mem_of_mem_take hr)
 generalize rules++[Rul.mk y (Ex.mk e.1 e.2 e.3 e.4 e.5) s]=rs at hrs' hl' cut⊢;refine q34 (by omega) (fun r hr=>(hrs' r hr).cond) fun o n b ho=>Cnd.mk (fun _ _=>Cnd.mk (fun _ _=>⟨by unfold InI;omega,by omega,hD,by simp only[List.length_take];omega,cut,trivial⟩) fun _=>⟨by unfold InI;omega,⟨by omega,by omega,hD,by omega,hrs',trivial⟩,by omega⟩) fun _ _=>⟨by unfold InI;omega,by omega,hD,by simp only[List.length_take];omega,cut,trivial⟩
structure ChI(hkind:BA)(attrs:List Decl)(segs:List Seg)(flags:List Flg)(layers:List Lay_)(exps:List Exper)(i:Int):Prop where
 hk:hkind.size<=100
 at_: ∀d∈attrs,d.kind.size<=100/\d.name.size<=100
 sl:segs.length<=3
 sg: ∀g∈segs,SegS g
 fn:(flags.length:Int)<=4+i
 fl: ∀f∈flags,FlgS f
 ln:layers.length<=2
 ly: ∀l∈layers,LayS l
 xn:exps.length<=3
 ex: ∀x∈exps,ExpS x
theorem v82{α:Type}{P:α->Prop}{l:List α}{a b c:Nat}(h: ∀x∈l,P x): ∀x∈List.take a l++List.drop b (List.take c l),P x:=fun x hx=>(List.mem_append.1 hx).elim (fun k=>h x (List.mem_of_mem_take k)) fun k=>h x (List.mem_of_mem_take (List.mem_of_mem_drop k))
theorem w4x{α:Type}{l:List α}{x:Int}(h0:0<=x)(h1:x<l.length):(List.take x.toNat l++List.drop (x+1).toNat (List.take (l.length:Int).toNat l)).length<=l.length:=by rw[List.length_append,List.length_take,List.length_drop,List.length_take];omega
theorem w71{list:List Int}{at_ now:Int}{v:Envt}{K:Envt->Int->Prop}(hD:DS list at_)(hv:EnvS v)(hal:v.2.length<=100)(h: ∀w a i,i<=3->ChI w.1.2 w.2 w.3 w.4 w.5 w.6 i->DS list a->K w a):z7w list at_ v now K:=by
 unfold z7w j3q;have h1:=hv.slen;have h2:=hv.flen;have h3:=hv.llen;have h4:=hv.xlen;have tt: ∀s∈z45,s.size<=100:=by decide
 have usr:(ByteArray.mk (Array.mk [117,115,101,114])).size<=100:=by decide
 simp only[List.nil_append];refine⟨by unfold Sml;omega,by unfold Sml;omega,by unfold Sml;omega,by unfold Sml;omega,by unfold Sml;omega,?_⟩;refine LpH.ind (fun (x:Int×BA×BA×Int×List Decl×List Flg×List Exper×Int×List Lay_×List Seg×Unit)=>0<=x.1/\x.1<=3/\DS list x.2.2.2.2.2.2.2.1/\ChI x.2.2.1 x.2.2.2.2.1 x.2.2.2.2.2.2.2.2.2.1 x.2.2.2.2.2.1 x.2.2.2.2.2.2.2.2.1 x.2.2.2.2.2.2.1 x.1) (fun x=>(3 - x.1).toNat) ?_ ⟨Int.le_refl 0,by simp,hD,⟨hv.hkind,hv.attrs,h1,hv.segs,by simp only;omega,hv.flags,h3,hv.layers,h4,hv.exps⟩⟩;rintro⟨i,salt,hkind,hold,attrs,flags,exps,a,layers,segs,u⟩ ⟨i0,i1,hD,hI⟩;simp only at i0 i1 hD hI⊢;have c1:=hI.sl;have c2:=hI.fn;have c3:=hI.ln;have c4:=hI.xn;refine Qe hD (by decide) fun r a r0 r1 hD=>Cnd.mk (fun hir=> ?_) fun _=>h _ _ i (by omega) hI hD
 have nx: ∀{hkind:BA} {attrs:List Decl} {flags:List Flg} {exps:List Exper} {a:Int} {layers:List Lay_} {segs:List Seg},DS list a->ChI hkind attrs segs flags layers exps (i+1)->InI (i+1)/\(0<=i+1/\i+1<=3/\DS list a/\ChI hkind attrs segs flags layers exps (i+1))/\(3 - (i+1)).toNat<(3 - i).toNat:=fun hD hJ=>⟨by unfold InI;omega,⟨by omega,by omega,hD,hJ⟩,by omega⟩
 have hJ:ChI hkind attrs segs flags layers exps (i+1):=⟨hI.hk,hI.at_,hI.sl,hI.sg,by omega,hI.fl,hI.ln,hI.ly,hI.xn,hI.ex⟩;have fzd: ∀{f:Flg},FlgS f->ChI hkind attrs segs (flags++[f]) layers exps (i+1):=fun hf=>⟨hI.hk,hI.at_,hI.sl,hI.sg,by simp;omega,Jj hI.fl hf,hI.ln,hI.ly,hI.xn,hI.ex⟩
 have cutX: ∀{x:Int},0<=x->x<exps.length->ChI hkind attrs segs flags layers (List.take x.toNat exps++List.drop (x+1).toNat (List.take (exps.length:Int).toNat exps)) (i+1):=fun x0 x1=>⟨hI.hk,hI.at_,hI.sl,hI.sg,by omega,hI.fl,hI.ln,hI.ly,by have:=w4x x0 x1;omega,v82 hI.ex⟩
 refine Qe hD (by decide) fun z a z0 z1 hD=> ?_
 refine Cnd.mk (fun _=>q51 hD fun t a ht hD=>By hD (by decide) fun w a _ _ hD=>nx hD {hJ with hk:=usr}) fun _=> ?_
 refine Cnd.mk (fun _=>Qe hD (by decide) fun k a k0 k1 hD _=>Cnd.mk (fun hk=>z6s hD fun ks a hks _ hD=>⟨by omega,fun y hy=>nx hD {hJ with sl:=by rw[List.length_set];omega,sg:=j4p hI.sg ?_}⟩) fun _=>nx hD hJ) fun _=> ?_
 .have:=hI.sg y (getm hy);exact⟨this.key,this.kind,hks,this.excl,this.cond.eta⟩
 refine Cnd.mk (fun _=>Qe hD (by decide) fun k a k0 k1 hD _=>Cnd.mk (fun hk=>⟨by omega,fun y hy=>⟨by omega,fun y2 hy2=>nx hD {hJ with fn:=by rw[List.length_set];omega,fl:=j4p hI.fl ?_}⟩⟩) fun _=>nx hD hJ) fun _=> ?_
 .have:=hI.fl y2 (getm hy2);exact⟨this.key,this.vlen,this.vals,this.nlen,this.needs,this.tlen,this.tgts,this.rlen,this.rules,this.dflt⟩
 refine Cnd.mk (fun _=>Qe hD (by decide) fun k a k0 k1 hD _=>Cnd.mk (fun hk=>⟨by omega,fun y hy _=>j4d hD (by have:=(hI.fl y (getm hy)).vlen;omega) (by have:=(hI.fl y (getm hy)).vlen;omega) fun s a hs hD=>⟨by omega,fun y2 hy2=>nx hD {hJ with fn:=by rw[List.length_set];omega,fl:=j4p hI.fl ?_}⟩⟩) fun _=>nx hD hJ) fun _=> ?_
 .have:=hI.fl y2 (getm hy2);rw[hy] at hy2;cases hy2;exact⟨this.key,this.vlen,this.vals,this.nlen,this.needs,this.tlen,this.tgts,this.rlen,this.rules,hs⟩
 refine Cnd.mk (fun _=>Qe hD (by decide) fun k a k0 k1 hD _=>Cnd.mk (fun hk=>⟨by omega,by unfold InI;omega,by omega,⟨trivial,by omega⟩,by have:=w4x k0 hk;unfold Sml;omega,nx hD {hJ with fn:=by have:=w4x k0 hk;omega,fl:=v82 hI.fl}⟩) fun _=>nx hD hJ) fun _=> ?_
 have fzk: ∀{a:Int},DS list a-> ∀f a,FlgS f->DS list a->Sml (flags++[f]).length/\InI (i+1)/\(0<=i+1/\i+1<=3/\DS list a/\ChI hkind attrs segs (flags++[f]) layers exps (i+1))/\(3 - (i+1)).toNat<(3 - i).toNat:=fun _ f a hf hD=>⟨by unfold Sml;simp;omega,nx hD (fzd hf)⟩
 refine Cnd.mk (fun _ _=>Cnd.mk (fun _=>y88 hD hI.sl hI.sg (Kc:=fun f a sg=>Sml (flags++[f]).length/\InI (i+1)/\(0<=i+1/\i+1<=3/\DS list a/\ChI hkind attrs sg (flags++[f]) layers exps (i+1))/\(3 - (i+1)).toNat<(3 - i).toNat) (fzk hD)) fun hne _=>⟨by unfold InI;omega,by omega,fun y hy=>Cnd.mk (fun _=>y88 hD hI.sl hI.sg (Kc:=fun f a sg=>Sml (flags++[f]).length/\InI (i+1)/\(0<=i+1/\i+1<=3/\DS list a/\ChI hkind attrs sg (flags++[f]) layers exps (i+1))/\(3 - (i+1)).toNat<(3 - i).toNat) (fzk hD)) fun _=>nx hD hJ⟩) fun _=> ?_
 refine Cnd.mk (fun _=>Qe hD (by decide) fun k a k0 k1 hD _=>Cnd.mk (fun hk=>⟨by omega,fun y hy=>nx hD {hJ with ln:=by rw[List.length_set];omega,ly:=j4p hI.ly ?_}⟩) fun _=>nx hD hJ) fun _=> ?_
 .have:=hI.ly y (getm hy);exact⟨this.key,this.kind,this.salt,this.hold,this.cool,by simp⟩
 refine Cnd.mk (fun _=>Qe hD (by decide) fun k a k0 k1 hD _=>Cnd.mk (fun hk=>Qe hD (by decide) fun q a q0 q1 hD=>⟨by unfold InI;omega,by omega,fun y hy=>nx hD {hJ with xn:=by rw[List.length_set];omega,ex:=j4p hI.ex ?_}⟩) fun _=>nx hD hJ) fun _=> ?_
 .have:=hI.ex y (getm hy);exact⟨this.key,this.layer,this.flag,this.claims,this.arms,this.cond.eta⟩
 refine Cnd.mk (fun _=>Qe hD (by decide) fun k a k0 k1 hD _=>Cnd.mk (fun hk=>⟨by omega,fun y hy=>By hD (by decide) fun w a w0 w1 hD=>j5a ⟨by omega,by omega⟩ fun c hc=>⟨by omega,fun y2 hy2=>nx hD {hJ with xn:=by rw[List.length_set];omega,ex:=j4p hI.ex ?_}⟩⟩) fun _=>nx hD hJ) fun _=> ?_
 .have:=hI.ex y2 (getm hy2);exact⟨this.key,this.layer,this.flag,hc,this.arms,this.cond.eta⟩
 have del: ∀{a:Int},DS list a->Jb list a (4:Int) fun Qx q41=>Fits exps->Cnd (Qx<(↑exps.length:Int)) (((0:Int)<=(0:Int)/\(0:Int)<=Qx/\Qx<=(↑exps.length:Int))/\InI (Qx+1)/\((0:Int)<=Qx+1/\Qx+1<=(↑exps.length:Int)/\(↑exps.length:Int)<=(↑exps.length:Int))/\(True/\(0:Int)<=Qx/\Qx<=Qx+1/\Qx+1<=(↑exps.length:Int)/\(↑exps.length:Int)<=(↑exps.length:Int))/\Sml (List.take Qx.toNat exps++List.drop (Qx+1).toNat (List.take (↑exps.length:Int).toNat exps)).length/\InI (i+1)/\(0<=i+1/\i+1<=3/\DS list q41/\ChI hkind attrs segs flags layers (List.take Qx.toNat exps++List.drop (Qx+1).toNat (List.take (↑exps.length:Int).toNat exps)) (i+1))/\(3 - (i+1)).toNat<(3 - i).toNat) (InI (i+1)/\(0<=i+1/\i+1<=3/\DS list q41/\ChI hkind attrs segs flags layers exps (i+1))/\(3 - (i+1)).toNat<(3 - i).toNat):=fun hD=>Qe hD (by decide) fun k a k0 k1 hD _=>Cnd.mk (fun hk=>⟨by omega,by unfold InI;omega,by omega,⟨trivial,by omega⟩,by have:=w4x k0 hk;unfold Sml;omega,nx hD (cutX k0 hk)⟩) fun _=>nx hD hJ
 refine Cnd.mk (fun _ _=>Cnd.mk (fun hpos=>Qe hD (by decide) fun q a q0 q1 hD=>Cnd.mk (fun _ _=>⟨by unfold InI;omega,by omega,nx hD {hJ with at_:=fun d hd=>hI.at_ d (List.mem_of_mem_take hd)}⟩) fun _=>del hD) fun _=>del hD) fun _=>nx hD hJ
theorem ChI.w{w:Envt}{i:Int}(hi:i<=3)(hI:ChI w.1.2 w.2 w.3 w.4 w.5 w.6 i):EnvW w:=by have c2:=hI.fn;have c3:=hI.ln;have c4:=hI.xn;exact⟨by have:=hI.hk;omega,fun d hd=>by have:=hI.at_ d hd;omega,fun g hg=>(hI.sg g hg).w,fun f hf=>(hI.fl f hf).w,fun l hl=>(hI.ly l hl).w,fun x hx=>(hI.ex x hx).w,by omega,by omega,by omega⟩
end Go.En
end
noncomputable section
namespace Go.En
open Go Go.Fl Go.Fl.Lk Go.Fx Go.Dg
def anyv(ats:List Ex)(l:List Rul)(v:Int->Bool):Bool:=l.any fun r=>sem ats r.2 v
def anyI(ats:List Ex)(l:List Rul)(v:Int->Bool):Int:=if anyv ats l v=true then 1 else 0
theorem v83(ats:List Ex)(l:List Rul)(r:Rul)(v:Int->Bool):anyv ats (l++[r]) v=(anyv ats l v||sem ats r.2 v):=by unfold anyv;rw[List.any_append];simp
def Unr(ats:List Ex)(l:List Rul)(i:Nat):Prop:= ∀r,l[i]? =some r-> ∀v,sem ats r.2 v=true->anyv ats (l.take i) v=true
open Classical in
def unr(ats:List Ex)(l:List Rul)(k:Nat):List Int:=((List.range k).filter fun i=>decide (Unr ats l i)).map fun i:Nat=>((i:Nat):Int)+1
theorem v84{ats:List Ex}{l:List Rul}{k:Nat}(h:Unr ats l k):unr ats l (k+1)=unr ats l k++[(k:Int)+1]:=by
 classical
 unfold unr;rw[List.range_succ,List.filter_append,List.map_append,List.filter_cons_of_pos (by simpa using h)];rfl
theorem y3p{ats:List Ex}{l:List Rul}{k:Nat}(h: ¬Unr ats l k):unr ats l (k+1)=unr ats l k:=by
 classical
 unfold unr;rw[List.range_succ,List.filter_append,List.map_append,List.filter_cons_of_neg (by simpa using h)];simp
theorem v2j(ats:List Ex)(l:List Rul):unr ats l 0=[]:=by unfold unr;rfl
theorem y6v(ats:List Ex)(l:List Rul)(k:Nat):(unr ats l k).length<=k:=by
 classical
 unfold unr;rw[List.length_map];exact Nat.le_trans (List.length_filter_le _ _) (by rw[List.length_range];exact Nat.le_refl _)
theorem y6w{ats:List Ex}{l:List Rul}{k:Nat}{y:Rul}(hy:l[k]? =some y){ns:List Nd}(hN:Nod ns){S:List Int}{a b:Int}(da:Dgm ns (anyv ats (l.take k)) S a)(db:Dgm ns (fun v=>anyv ats (l.take k) v||sem ats y.2 v) S b):b=a↔Unr ats l k:=by
 constructor
 .rintro rfl r hr v hv;rw[hy] at hr;cases hr;have h1:=da.ev v;rw[db.ev v] at h1;rw[hv,Bool.or_true,if_pos rfl] at h1;by_cases h2:anyv ats (l.take k) v=true
  .exact h2
  .rw[if_neg h2] at h1;cases h1
 .intro hu;refine y8t hN db.ok da.ok fun v=> ?_
  rw[da.ev,db.ev];have e:(anyv ats (l.take k) v||sem ats y.2 v)=anyv ats (l.take k) v:=by
   cases h1:sem ats y.2 v with
   |false=>rw[Bool.or_false]
   |true=>rw[hu y hy v h1];rfl
  rw[e]
end Go.En
end
noncomputable section
namespace Go.En
open Go Go.Fl Go.Fl.Lk Go.Fx Go.Dg
theorem y89: ∀(n:Nat) {e x:Ex},wt e<=n->x∈lvE e->wt x<=wt e
 |0,e,x,h,_=>by have:=z17 e;omega
 |n+1,e,x,h,hx=>by
  rw[z18] at hx;split at hx
  .cases hx
  .split at hx
   .obtain⟨k,hk,hx⟩:=w4s.1 hx;have h1:=j5c hk;have h2:=y89 n (show wt k<=n by omega) hx;omega
   .rw[List.mem_singleton.1 hx];exact Nat.le_refl _
def atsR(l:List Rul):List Ex:=addL [] (lvEL (l.map Rul.cond))
theorem y2f{l:List Rul}{x:Ex}:x∈atsR l↔ ∃r∈l,x∈lvE r.2:=by
 unfold atsR;rw[v2h,w4s];constructor
 .rintro (h|⟨k,hk,hx⟩)
  .cases h
  .obtain⟨r,hr,rfl⟩:=List.mem_map.1 hk;exact⟨r,hr,hx⟩
 .rintro⟨r,hr,hx⟩;exact .inr ⟨r.2,List.mem_map.2 ⟨r,hr,rfl⟩,hx⟩
theorem v2k{l:List Rul}:(atsR l).length<=(lvEL (l.map Rul.cond)).length:=by have:=j60 [] (lvEL (l.map Rul.cond));simpa [atsR] using this
theorem y3q: ∀{l:List Ex} {e:Ex},e∈l->ixL l e<l.length
 |a::l,e,h=>by
  unfold ixL;rw[List.length_cons];split
  .omega
  .rename_i ne;have:=y3q ((List.mem_cons.1 h).resolve_left fun q=>ne q.symm);omega
def plc(n:Nat):List Int:=(List.range n).map fun i:Nat=>(i:Int)
theorem y6x(n:Nat):(plc n).length=n:=by unfold plc;rw[List.length_map,List.length_range]
theorem y6y{ats:List Ex}{e:Ex}(h: ∀x∈lvE e,x∈ats): ∀i∈lvs ats e,i∈plc ats.length:=fun i hi=>by obtain⟨x,hx,rfl⟩:=List.mem_map.1 hi;exact List.mem_map.2 ⟨ixL ats x,List.mem_range.2 (y3q (h x hx)),rfl⟩
theorem v86(l m:List Ex):xcL (l++m)=xcL l+xcL m:=by
 induction l with
 |nil=>simp[xcL]
 |cons k l ih=>simp only[List.cons_append,xcL,ih];omega
theorem y6z{m:Nat}{l:List Ex}(h: ∀e∈l,wt e<=m):wtL l<=l.length*(1+m):=by
 induction l with
 |nil=>simp[wtL]
 |cons a l ih=>
  have h1:=h a List.mem_cons_self;have h2:=ih fun e he=>h e (List.mem_cons_of_mem _ he)
  simp only[wtL,List.length_cons,Nat.add_mul,Nat.one_mul] at*;omega
theorem v4p{l:List Rul}{K:List Int->Bool->Prop}(hl:l.length<=8)(hr: ∀r∈l,ExS 4 r.2/\WfX r.2/\WfN r.2/\wt r.2<=100000)(hB:(lvEL (l.map Rul.cond)).length<=1000)
  (h0: ∀ns,Nod ns->ns.length=4000->ns.length<=cstL (l.map Rul.cond)+l.length*2 ^ (atsR l).length->(∀ms,Nod ms->(∀j,j<=l.length->Hol ms (anyI (atsR l) (l.take j)))->(∀r∈l,HolS (atsR l) ms r.2)->Few ns ms (xcL (l.map Rul.cond)))->K [] false)
  (h1:K (unr (atsR l) l l.length) true):Wf l K:=by
 unfold Wf Hj;intro _;refine Lp2.ind (fun (i:Int) (q:List Ex)=> ∃j:Nat,i=(j:Int)/\j<=l.length/\q=(l.map Rul.cond).take j) (fun (i:Int) _=>(l.length - i).toNat) ?_ ⟨0,rfl,by omega,rfl⟩;rintro i q ⟨j,rfl,hj,rfl⟩;refine Cnd.mk (fun hc=>⟨by omega,fun y hy=> ?_⟩) fun hc=> ?_
 .have hy:l[j]? =some y:=hy;dsimp only;rw[Jh];refine⟨by unfold Sml;simp;omega,by unfold InI;omega,⟨j+1,by omega,by omega,?_⟩,by omega⟩;rw[List.take_add_one,List.getElem?_map,hy];rfl
 have hjl:j=l.length:=by omega
 subst hjl;rw[t99 (by rw[List.length_map];exact Nat.le_refl _)];have hml:(l.map Rul.cond).length=l.length:=List.length_map ..;have hwl:=y6z (m:=100000) (l:=l.map Rul.cond) fun e he=>by obtain⟨r,hr',rfl⟩:=List.mem_map.1 he;exact (hr r hr').2.2.2
 rw[hml] at hwl;have m8:l.length*(1+100000)<=8*(1+100000):=Nat.mul_le_mul_right _ hl;have wt0:wt (Ex.mk 3 (ByteArray.mk (Array.mk [])) (ByteArray.mk (Array.mk [])) [] (l.map Rul.cond))<=1000000:=by rw[j0b];show 1+wtV []+wtL (l.map Rul.cond)<=_;simp only[wtV];omega
 have lv0:lvE (Ex.mk 3 (ByteArray.mk (Array.mk [])) (ByteArray.mk (Array.mk [])) [] (l.map Rul.cond))=lvEL (l.map Rul.cond):=by rw[z18];simp
 refine j9v wt0 (WfX.mk' ⟨by show (1:Int)<=3;decide,by show (3:Int)<=15;decide,fun o=>o.elim (fun e=>absurd e (by show ¬(3:Int)=1;decide)) fun e=>absurd e (by show ¬(5:Int)<=3;decide)⟩ fun x hx=> ?_) (fun x hx=> ?_) (fun _=> ?_) (by rw[lv0];omega)
 .obtain⟨r,hr',rfl⟩:=List.mem_map.1 (show x∈l.map Rul.cond from hx);exact (hr r hr').2.1
 .rcases v2h.1 hx with hx|hx
  .cases hx
  .exact Nat.le_trans (Nat.le_trans (y89 _ (Nat.le_refl _) hx) wt0) (by decide)
 rw[lv0];show Hh _;have hal:(atsR l).length<=1000:=Nat.le_trans v2k hB;have hmem: ∀{y:Rul},y∈l-> ∀x∈lvE y.2,x∈atsR l:=fun hy x hx=>y2f.2 ⟨_,hy,hx⟩
 change Hh fun Qo z2a y9e=>Zj Qo z2a y9e 0 _
 unfold Hh;refine Ve fun _=> ?_
 rw[if_pos ⟨by decide,by decide⟩];let cs:List Ex:=l.map Rul.cond;have csl:cs.length=l.length:=hml;have tk: ∀{k:Nat} {y:Rul},l[k]? =some y->cs.take (k+1)=cs.take k++[y.2]:=fun {k y} hy=>by rw[List.take_add_one,show cs[k]? =some y.2 by show (l.map Rul.cond)[k]? =_;rw[List.getElem?_map,hy];rfl];rfl
 have mono1: ∀k,cstL (cs.take k)<=cstL cs:=fun k=>by
  have:cstL cs=cstL (cs.take k)+cstL (cs.drop k):=by rw[<-v2d,List.take_append_drop]
  omega
 have mono2: ∀k,xcL (cs.take k)<=xcL cs:=fun k=>by
  have:xcL cs=xcL (cs.take k)+xcL (cs.drop k):=by rw[<-v86,List.take_append_drop]
  omega
 have nil0:Dgm [] (anyv (atsR l) (l.take 0)) (plc (atsR l).length) (-1):=⟨⟨by omega,by omega⟩,fun v=>by rw[Vm (by omega)];rfl,fun _ _ _=>rfl⟩;refine LpH.ind (fun (x:Int×List Int×Int×List Nd×Bool×(Nd->Option Int)×Unit)=> ∃k:Nat,x.2.2.1=(k:Int)/\k<=l.length/\x.2.1=unr (atsR l) l k/\Gx [] false x.2.2.2.1 x.2.2.2.2.2.1 x.2.2.2.2.1/\Dgm x.2.2.2.1 (anyv (atsR l) (l.take k)) (plc (atsR l).length) x.1/\x.2.2.2.1.length<=cstL (cs.take k)+k*2 ^ (atsR l).length/\∀ms,Nod ms->(∀j,j<=l.length->Hol ms (anyI (atsR l) (l.take j)))->(∀r∈l,HolS (atsR l) ms r.2)->Few x.2.2.2.1 ms (xcL (cs.take k))) (fun x=>((l.length:Int) - x.2.2.1).toNat) ?_ ⟨0,rfl,by omega,(v2j _ l).symm,Gx.refl v0a (by simp),nil0,by simp,fun ms _ _ _=>(Few.nil ms).le (by omega)⟩;rintro⟨before,out,i,ns,full,ids,u⟩ ⟨k,hi,hk,ho,g,hd,hc1,hf1⟩;dsimp only at hi ho g hd hc1 hf1⊢;subst hi ho;have hul:=y6v (atsR l) l k;refine Cnd.mk (fun hc=>⟨by omega,fun y hy=> ?_⟩) fun hc=> ?_
 rotate_left
 .have hkl:k=l.length:=by omega
  subst hkl;exact h1
 have hy:l[k]? =some y:=hy;obtain⟨y1,y2,y3,y4⟩:=hr y (getm hy);have hkl:=Qj hy;have tkl:l.take (k+1)=l.take k++[y]:=by rw[List.take_add_one,hy];rfl
 dsimp only;rw[Jh];refine y6r hal 4 y1 y3 (hmem (getm hy)) g.inv g.len fun r2 ns2 ids2 full2 c2 m2=> ?_
 refine y80 (S:=plc (atsR l).length) c2.gx.inv c2.gx.len (m2.wide (y6y (hmem (getm hy)))) (.inr (hd.pre g.inv.nod c2.gx.inv.nod c2.gx.pre)) fun r3 ns3 ids3 full3 c3 m3=> ?_
 have g3:=(g.trans c2.gx).trans c3.gx;have an: ∀v,anyv (atsR l) (l.take (k+1)) v=(sem (atsR l) y.2 v||anyv (atsR l) (l.take k) v):=fun v=>by rw[tkl,v83,Bool.or_comm]
 have len3:ns3.length<=cstL (cs.take (k+1))+(k+1)*2 ^ (atsR l).length:=by have a:=c2.few;have b:=c3.few;rw[y6x] at b;rw[tk hy,v2d,Nat.add_mul,Nat.one_mul];simp only[cstL];omega
 have few3: ∀ms,Nod ms->(∀j,j<=l.length->Hol ms (anyI (atsR l) (l.take j)))->(∀r∈l,HolS (atsR l) ms r.2)->Few ns3 ms (xcL (cs.take (k+1))):=fun ms hM hA hS=>by
  have f1:=hf1 ms hM hA hS;have f2:=c2.old ms _ hM (hS y (getm hy)) f1;have hH:Hol ms (i01 fun v=>sem (atsR l) y.2 v||anyv (atsR l) (l.take k) v):=by
   have:(i01 fun v=>sem (atsR l) y.2 v||anyv (atsR l) (l.take k) v)=anyI (atsR l) (l.take (k+1)):=funext fun v=>by
    show (if (sem (atsR l) y.2 v||anyv (atsR l) (l.take k) v)=true then _ else _)=if anyv (atsR l) (l.take (k+1)) v=true then _ else _
    rw[an]
   rw[this];exact hA _ hkl
  refine (c3.old ms _ hM f2 hH).le ?_;rw[tk hy,v86];simp only[xcL];omega
 have bad:ns3.length=4000->K [] false:=fun e=>by
  refine h0 ns3 g3.inv.nod e ?_ fun ms hM hA hS=>(few3 ms hM hA hS).le (mono2 _)
  have:=mono1 (k+1);have m:(k+1)*2 ^ (atsR l).length<=l.length*2 ^ (atsR l).length:=Nat.mul_le_mul_right _ hkl;have e2:cstL (l.map Rul.cond)=cstL cs:=rfl;omega
 show Cnd (full3=true) _ _;refine Cnd.mk (fun hfl=>bad (g3.room.resolve_left fun e=>by rw[hfl] at e;cases e)) fun hfl=>Ve ?_
 rw[if_neg (by omega)];refine Cnd.mk (fun he=>bad (m3.elim (fun q=>q.2) fun d=>absurd (he▸d.ok) w19)) fun hne=> ?_
 have d3:=m3.resolve_left fun q=>hne q.1
 have hd3:=(hd.pre g.inv.nod c2.gx.inv.nod c2.gx.pre).pre c2.gx.inv.nod c3.gx.inv.nod c3.gx.pre;have dn:Dgm ns3 (anyv (atsR l) (l.take (k+1))) (plc (atsR l).length) r3:=⟨d3.ok,fun v=>by rw[an];exact d3.ev v,fun v v' ee=>by rw[an,an];exact d3.dep v v' ee⟩;have d3':Dgm ns3 (fun v=>anyv (atsR l) (l.take k) v||sem (atsR l) y.2 v) (plc (atsR l).length) r3:=⟨d3.ok,fun v=>by rw[Bool.or_comm];exact d3.ev v,fun v v' ee=>by have:=d3.dep v v' ee;rw[Bool.or_comm] at this;show (_||_)=(_||_);rw[this,Bool.or_comm]⟩;have hiff:=y6w hy g3.inv.nod hd3 d3';refine Cnd.mk (fun he=>⟨by unfold InI;omega,by unfold Sml;simp;omega,by unfold InI;omega,⟨k+1,by simp,hkl,(v84 (hiff.1 he)).symm,g3,dn,len3,few3⟩,by omega⟩) fun hne2=>⟨by unfold InI;omega,⟨k+1,by simp,hkl,(y3p fun hu=>hne2 (hiff.2 hu)).symm,g3,dn,len3,few3⟩,by omega⟩
end Go.En
end
noncomputable section
namespace Go.En
open Go Go.Fl Go.Fl.Lk Go.Fx Go.Dg
structure RlD(k:Nat)(r:Rul):Prop where
 ex:ExS (2*k) r.2
 c:DrC k r.2
 n:WfN r.2
 x:DrX k r.2
 w:wt r.2<=lvl k
theorem RlD.all{k:Nat}(hk:k<=2){r:Rul}(h:RlD k r):ExS 4 r.2/\WfX r.2/\WfN r.2/\wt r.2<=100000:=by
 refine⟨h.ex.le (by omega),h.c.w,h.n,Nat.le_trans h.w ?_⟩
 match k,hk with
 |0,_=>decide
 |1,_=>decide
 |2,_=>decide
end Go.En
end
noncomputable section
namespace Go.En
open Go Go.Fl Go.Fl.Lk Go.Fx Go.Dg
abbrev e0:BA:=ByteArray.mk (Array.mk [])
theorem cyc0{K:List BA->Prop}(h:K []):P_graph_Cyclic [] [] K:=by
 show Go.Fl.P_graph_Cyclic [] [] K;unfold Go.Fl.P_graph_Cyclic;refine Jn1.mk (fun _=>True) ?_ fun t _=> ?_
 .unfold Go.Fl.B3;intro _;refine Lp2.ind (fun (k:Nat) _=>k=0) (fun _ _=>0) ?_ rfl;rintro k F rfl;exact Cnd.no (by simp) trivial
 .have e:srt []=[]:=List.eq_nil_of_length_eq_zero (q4k []);have e2:cpt (srt [])=[]:=by rw[e];rfl
  rw[e2];refine⟨by unfold Sml;simp,by unfold Sml;simp,fun _=> ?_⟩;refine Lp2.ind (fun (o:List BA) (k:Nat)=>o=[]/\k=0) (fun _ _=>0) ?_ ⟨rfl,rfl⟩;rintro o k ⟨rfl,rfl⟩;exact Cnd.no (by simp) h
theorem y60{e:Int}{K:Int->Prop}(h:K 0):Wl false e K:=Cnd.no (by decide) h
theorem y9a{K:Int->Prop}(h:K 0):Wy (Envt.mk (Sett.mk e0 e0 0) [] [] [] [] []) K:=by
 unfold Wy Hr;have loop: ∀{α:Type} {f:Int->(Int->Prop)->α->Prop} {A:Prop},A->Lp1 (fun (i:Int) Y=>CAt ([]:List α) i (f i Y) A) 0:=fun hA=>by refine Lp1.ind (fun (i:Int)=>i=0) (fun _=>0) ?_ rfl;rintro i rfl;exact Cnd.no (by simp) hA
 refine Jn1.mk (fun r=>r=0) ?_ fun r hr=> ?_
 .have key: ∀{K:Bool->Prop},K false->Wm e0 K:=fun h=>by unfold Wm z7e;exact Cnd.yes (by decide) h
  have at0: ∀{K:Int->Prop},K 0->Vp [] K:=fun h=>by
   unfold Vp Rv;intro _;refine Cnd.no (by simp) fun _=> ?_
   exact loop h
  have fst0: ∀{K:Int->Prop},K 0->Ja [0,0,0,0] K:=fun h=>by
   unfold Ja;intro _;refine Lp1.ind (fun (i:Int)=>0<=i/\i<=4) (fun i=>(4 - i).toNat) ?_ ⟨by omega,by omega⟩;rintro i ⟨i0,i1⟩;refine Cnd.mk (fun hc=>⟨⟨i0,hc⟩,fun y hy=> ?_⟩) fun _=>h
   have hc:i<4:=hc;have:y=0:=by have hm:=getm hy;simpa using hm
   exact Cnd.yes this ⟨by unfold InI;omega,⟨by omega,by omega⟩,by omega⟩
  refine q7l ?_;rw[show Go.Sg.vld e0=true by decide];refine y60 (Cnd.no (by decide) (y60 (key (Cnd.no (by decide) (Cnd.yes rfl ?_)))));refine y60 (at0 (fst0 ?_));rfl
 subst hr;refine Cnd.yes rfl (Jn1.mk (fun r=>r=0) ?_ fun r hr=> ?_)
 .intro _;refine Cnd.no (by simp) fun _=> ?_
  exact loop rfl
 subst hr;refine Cnd.yes rfl (Jn1.mk (fun r=>r=0) ?_ fun r hr=> ?_)
 .intro _;refine Cnd.no (by simp) fun _=> ?_
  exact loop rfl
 subst hr;refine Cnd.yes rfl (Jn1.mk (fun r=>r=0) ?_ fun r hr=> ?_)
 .intro _;refine Cnd.no (by simp) fun _=> ?_
  exact loop rfl
 subst hr;refine Cnd.yes rfl fun _=>Cnd.no (by simp) fun _=> ?_
 exact loop h
theorem env0{K:BA->Int->Prop}(h:K e0 0):Wh (Envt.mk (Sett.mk e0 e0 0) [] [] [] [] []) K:=by
 unfold Wh Ht;refine y9a (Cnd.yes rfl fun _=> ?_);refine Lp2.ind (fun (o:List BA) (i:Int)=>o=[]/\i=0) (fun _ _=>0) ?_ ⟨rfl,rfl⟩;rintro o i ⟨rfl,rfl⟩;refine Cnd.no (by simp) fun _=> ?_
 refine Lp3.ind (fun (o:List Edg) (i:Int) (s:List BA)=>o=[]/\i=0/\s=[]) (fun _ _ _=>0) ?_ ⟨rfl,rfl,rfl⟩;rintro o i s ⟨rfl,rfl,rfl⟩;refine Cnd.no (by simp) (cyc0 fun _=>Cnd.no (by simp) fun _=> ?_);refine Lp4.ind (fun (i:Int) (_ _:List BA) (_:List Edg)=>i=0) (fun _ _ _ _=>0) ?_ rfl;rintro i a b c rfl;refine Cnd.no (by simp) fun _=> ?_
 refine Lp2.ind (fun (o:List BA) (i:Int)=>o=[]/\i=0) (fun _ _=>0) ?_ ⟨rfl,rfl⟩;rintro o i ⟨rfl,rfl⟩;refine Cnd.no (by simp) ?_;have nd0: ∀{K:List Edg->Prop},K []->q0c (Envt.mk (Sett.mk e0 e0 0) [] [] [] [] []) K:=fun h=>by unfold q0c;intro _;refine Lp2.ind (fun (o:List Edg) (i:Int)=>o=[]/\i=0) (fun _ _=>0) ?_ ⟨rfl,rfl⟩;rintro o i ⟨rfl,rfl⟩;exact Cnd.no (by simp) h
 refine nd0 (cyc0 fun _=>Cnd.no (by simp) fun _=> ?_);refine LpH.ind (fun (x:Int×List BA×List BA×List Edg×List Edg×List BA×List BA×Unit)=>x.1=0) (fun _=>0) ?_ rfl;rintro⟨i,rest⟩ hi;dsimp only at hi⊢;subst hi;exact Cnd.no (by simp) h
theorem v4q{K:Bool->Prop}(h:K true):q63 K:=by
 unfold q63 z2z;let t:Rul:=Rul.mk (ByteArray.mk (Array.mk [97])) (Ex.mk 1 e0 e0 [] []) (Srv.mk 0 e0 e0 e0 []);have ht:RlD 0 t:=⟨(w4h (segs:=[]) fun s hs=>by cases hs).hT 0,(u0x (segs:=[])).hT 0,(u0y (segs:=[])).hT 0,(u0z (segs:=[])).hT 0,by show wt (Ex.mk 1 e0 e0 [] [])<=45;simp[wt,wtV,wtL]⟩;have hlv:lvEL ([t,t].map Rul.cond)=[]:=by
  have:lvE t.2=[]:=by rw[z18];exact if_pos rfl
  show lvE t.2++(lvE t.2++[])=[];rw[this];rfl
 have hcs:cstL ([t,t].map Rul.cond)=0:=by
  have:cst t.2=0:=by rw[w18];exact if_pos rfl
  show cst t.2+(cst t.2+0)=0;rw[this]
 have hst: ∀v,sem (atsR [t,t]) t.2 v=true:=fun v=>by unfold sem;rw[y3j];exact if_pos rfl
 have hal:(atsR [t,t]).length=0:=by have:=v2k (l:=[t,t]);rw[hlv] at this;simpa using this
 have hun:unr (atsR [t,t]) [t,t] [t,t].length=[2]:=by
  have h0: ¬Unr (atsR [t,t]) [t,t] 0:=fun q=>by have:=q t rfl (fun _=>true) (hst _);cases this
  have h1:Unr (atsR [t,t]) [t,t] 1:=fun r hr v _=>by show ([t].any fun r=>sem (atsR [t,t]) r.2 v)=true;simp[hst]
  show unr (atsR [t,t]) [t,t] (1+1)=_;rw[v84 h1,y3p h0,v2j];rfl
 refine v4p (l:=[t,t]) (by simp) (fun r hr=> ?_) (by rw[hlv];simp) (fun ns _ hn hle _=> ?_) ?_
 .have:r=t:=by simpa using hr
  rw[this];exact ht.all (by omega)
 .rw[hcs,hal] at hle;simp at hle;omega
 rw[hun];refine env0 (Cnd.yes rfl fun _=>Cnd.yes rfl ⟨⟨by decide,by decide⟩,fun y hy=> ?_⟩);have:y=2:=(Option.some.inj hy).symm;exact Cnd.yes this (Cnd.yes rfl (by rw[decide_eq_true rfl];exact h))
theorem ChI.c{w:Envt}{i:Int}(hi:i<=3)(hI:ChI w.1.2 w.2 w.3 w.4 w.5 w.6 i):EnvC w:=by
 have w4:WW 4=5445:=by decide
 have h3:=hI.sl
 exact⟨hI.w hi,by omega,fun g hg=>by have:=y3o (hI.sg g hg).cond;rw[w4] at this;exact Nat.le_trans this (by decide),fun f hf=>by
  have hF:=hI.fl f hf;have h1:f.6.length<=4:=hF.nlen;have h2:f.8.length<=4:=hF.rlen
  exact⟨by omega,by omega,fun r hr=>by have:=y3o (hF.rules r hr).cond;rw[w4] at this;exact Nat.le_trans this (by decide)⟩⟩
theorem v87{l:List Lay_}(h:(l.map Lay_.key).Nodup){a b:Lay_}(ha:a∈l)(hb:b∈l)(e:a.1=b.1):a=b:=by
 induction l with
 |nil=>cases ha
 |cons x l ih=>
  rw[List.map_cons,List.nodup_cons] at h;have out: ∀{y:Lay_},y∈l->y.1≠x.1:=fun hy q=>h.1 (List.mem_map.2 ⟨_,hy,q⟩)
  rcases List.mem_cons.1 ha with ea|ha2<;>rcases List.mem_cons.1 hb with eb|hb2
  .rw[ea,eb]
  .exact absurd (e.symm.trans (by rw[ea])) (out hb2)
  .exact absurd (e.trans (by rw[eb])) (out ha2)
  .exact ih h.2 ha2 hb2
theorem y61{x n:Int}{K:Int->Prop}(hn:0<n)(hi:n<=1000000)(h: ∀r,0<=r->r<n->K r):w26 x n K:=by unfold w26;have h1:=Int.lt_tmod_of_pos x hn;have h2:=Int.tmod_lt_of_pos x hn;exact⟨by omega,Cnd.mk (fun hc=>⟨by unfold InI;omega,h _ (by omega) (by omega)⟩) fun hc=>h _ (by omega) h2⟩
theorem w0u{codes:List Int}{bucket:Int}{K:Bool->Prop}(hc:Byts codes)(h:K true):Wi codes bucket K:=by
 unfold Wi q1v;refine v4q (Cnd.yes rfl (y1s hc (by decide) (by decide) fun l hD=> ?_));refine j2k hD fun v a hE hd hD=> ?_
 refine w71 (v:=v) hD hE hd.al fun w a i hi hI _=> ?_
 have hC:=hI.c hi;have hln:=hC.w.ln;have hxn:=hC.w.xn;refine j4v (v:=w) hC fun s e he=>Cnd.mk (fun he0=> ?_) fun _=>h
 obtain⟨hnd,hx⟩:=he he0;refine y61 (by decide) (by decide) fun b b0 b1=> ?_
 refine Lp1.ind (fun (i:Int)=>0<=i/\i<=w.5.length) (fun (i:Int)=>(w.5.length - i).toNat) ?_ ⟨by omega,by omega⟩;rintro i ⟨i0,i1⟩ _;refine Cnd.mk (fun hc=> ?_) fun _=>h
 obtain⟨l,hl⟩:=getq (l:=w.5) (k:=i.toNat) (by omega);have nx:InI (i+1)/\(0<=i+1/\i+1<=w.5.length)/\((w.5.length:Int) - (i+1)).toNat<((w.5.length:Int) - i).toNat:=⟨by unfold InI;omega,⟨by omega,by omega⟩,by omega⟩;refine Lp2.ind (fun (n k:Int)=> ∃j:Nat,k=(j:Int)/\j<=w.6.length/\(n=0\/(n=1/\∃(q:Nat) (x:Exper),q<j/\w.6[q]? =some x/\x.2=l.1/\x.5≠3/\insV x.6 b=true))) (fun (_ k:Int)=>(w.6.length - k).toNat) ?_ ⟨0,rfl,by omega,.inl rfl⟩;rintro n k ⟨j,rfl,hj,hn⟩ _;refine Cnd.mk (fun hc2=>⟨by omega,fun x hxj=>⟨by omega,fun z hz=> ?_⟩⟩) fun hc2=> ?_
 .rw[hl] at hz;cases hz;have hxj:w.6[j]? =some x:=hxj;have up:n=0\/(n=1/\∃(q:Nat) (x:Exper),q<j+1/\w.6[q]? =some x/\x.2=l.1/\x.5≠3/\insV x.6 b=true):=hn.imp id fun ⟨e,q,y,hq,hy⟩=>⟨e,q,y,by omega,hy⟩
  have nk:InI ((j:Int)+1)/\(∃j2:Nat,(j:Int)+1=(j2:Int)/\j2<=w.6.length/\(n=0\/(n=1/\∃(q:Nat) (x:Exper),q<j2/\w.6[q]? =some x/\x.2=l.1/\x.5≠3/\insV x.6 b=true)))/\((w.6.length:Int) - ((j:Int)+1)).toNat<((w.6.length:Int) - (j:Int)).toNat:=⟨by unfold InI;omega,⟨j+1,by omega,by omega,up⟩,by omega⟩;refine Cnd.mk (fun hk=>Cnd.mk (fun _=>nk) fun h3=>w7x (hC.w.exps x (getm hxj)).cl fun u hu=> ?_) fun _=>nk
  refine⟨⟨b0,by rw[hu.len];omega⟩,fun y hy=>Cnd.mk (fun hyt=> ?_) fun _=>nk⟩;have hb:insV x.6 b=true:=by have:=hu.at_ b.toNat (by omega);rw[hy] at this;rw[show ((b.toNat:Nat):Int)=b by omega] at this;rw[<-Option.some.inj this];exact hyt
  have n0:n=0:=hn.resolve_right fun ⟨_,q,y2,hq,hy2,hk2,h32,hb2⟩=>by obtain⟨_,_,_,hp⟩:=hx j (by omega) x hxj h3;exact (hp b b0 (by omega) hb).2 q y2 hq hy2 (hk2.trans hk.symm) h32 hb2
  subst n0;exact⟨by unfold InI;omega,by unfold InI;omega,⟨j+1,by omega,by omega,.inr ⟨by omega,j,x,by omega,hxj,hk,h3,hb⟩⟩,by omega⟩
 .refine Cnd.mk (fun h1=>by rcases hn with e|⟨e,_⟩<;>omega) fun _=>Cnd.mk (fun hp=>⟨by omega,fun z hz=>Cnd.mk (fun hlt=> ?_) fun _=>nx⟩) fun _=>nx
  rw[hl] at hz;cases hz;obtain⟨_,q,x,hq,hxq,hk,h3,hb⟩:=hn.resolve_left (by omega);obtain⟨l2,hl2,hlk,hp⟩:=hx q (by omega) x hxq h3;obtain rfl:=v87 hnd hl2 (getm hl) (hlk.trans hk);exact absurd hlt (hp b b0 (by omega) hb).1
end Go.En
end
