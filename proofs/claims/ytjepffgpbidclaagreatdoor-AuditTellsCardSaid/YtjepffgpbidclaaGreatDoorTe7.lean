/- For every input AuditTells returns true and leaves its arguments as they were. This is part 7 of 11. Conditions: those in the statements. -/
import Derived.Test.YtjepffgpbidclaaGreatDoorTe6
import Derived.Lib.ItoaNum
import Derived.KernelRfl
noncomputable section
set_option maxRecDepth 100000
namespace Go.En
open Go Go.Fl Go.Fl.Lk Go.Fx
def lysV(r:Reg):List ByteArray:=cpt (srt (r.3.map fun s=>s.2))
def w3p(r:Reg)(id:ByteArray)(t:Int)(y:ByteArray):Option Frc:=(atV r id y t).map fun s=>Frc.mk y s.3 s.4
def forV(r:Reg)(id:ByteArray)(t:Int):List Frc:=if regV r=true then (lysV r).filterMap (w3p r id t) else []
theorem w3q(r:Reg):(lysV r).length<=r.3.length:=by
 have:=(q21 (r.3.map fun s=>s.2)).2.2.2
 rwa [List.length_map] at this
theorem v03(r:Reg)(id:ByteArray)(t:Int):(forV r id t).length<=r.3.length:=by
 unfold forV
 split
 ·exact Nat.le_trans (List.length_filterMap_le _ _) (w3q r)
 ·exact Nat.zero_le _
theorem v7s{α β:Type}{l:List α}{f:α->Option β}{j:Nat}{y:α}(h:l[j]? =some y):(l.take (j+1)).filterMap f=(l.take j).filterMap f++(match f y with|some z=>[z]|none=>[]):=by
 rw[tk1 h,List.filterMap_append]
 cases hf:f y<;>simp[hf]
theorem v7t{r:Reg}{id:ByteArray}{t:Int}{K:List Frc->Prop}(h:K (forV r id t)):q13 r id t K:=by
 unfold q13 q7u
 unfold forV at h
 refine j5k (Cnd.mk (fun hc=>fun _=> ?_) fun hc=>by rw[if_neg hc] at h;exact h)
 rw[if_pos hc] at h
 have ok:=q6g.1 hc
 have hsn:=ok.sn
 refine Lp2.ind (fun l (i:Int)=> ∃j:Nat,i=(j:Int)/\j<=r.3.length/\l=(r.3.take j).map fun s=>s.2) (fun _ (i:Int)=>((r.3.length:Int) - i).toNat) ?_ ⟨0,rfl,by omega,rfl⟩
 rintro l i ⟨j,rfl,hj,rfl⟩
 refine Cnd.mk (fun hi=>⟨by omega,fun y hy=>⟨by unfold Sml;simp;omega,by unfold InI;omega,⟨j+1,by omega,by omega,?_⟩,by omega⟩⟩) fun hi=> ?_
 ·have hy:r.3[j]? =some y:=hy
  rw[tk1 hy,List.map_append];rfl
 ·rw[List.take_of_length_le (by omega)]
  unfold Zh Zo
  intro _
  have hll:=w3q r
  refine Lp2.ind (fun fs (i:Int)=> ∃j:Nat,i=(j:Int)/\j<=(lysV r).length/\fs=((lysV r).take j).filterMap (w3p r id t)) (fun _ (i:Int)=>(((lysV r).length:Int) - i).toNat) ?_ ⟨0,rfl,by omega,rfl⟩
  rintro fs i ⟨k,rfl,hk,rfl⟩
  have hfl:(((lysV r).take k).filterMap (w3p r id t)).length<=k:=Nat.le_trans (List.length_filterMap_le _ _) (by rw[List.length_take];omega)
  refine Cnd.mk (fun hi=>⟨⟨by omega,hi⟩,fun y hy=> ?_⟩) fun hi=> ?_
  ·have hy:(lysV r)[k]? =some y:=hy
   have hi:(k:Int)<((lysV r).length:Int):=hi
   have hs:=v7s (f:=w3p r id t) hy
   refine y6v ok.ln hsn ?_
   unfold w3p at hs hfl⊢
   cases ha:atV r id y t with
   |none=>
    rw[ha] at hs
    refine Cnd.mk (fun e=>by cases e) fun _=>⟨by unfold InI;omega,⟨k+1,by omega,by omega,?_⟩,by show (((lysV r).length:Int) - ((k:Int)+1)).toNat<_;omega⟩
    rw[hs];simp
   |some s=>
    rw[ha] at hs
    refine Cnd.mk (fun _=>⟨by unfold Sml;rw[List.length_append];simp;omega,by unfold InI;omega,⟨k+1,by omega,by omega,?_⟩,by show (((lysV r).length:Int) - ((k:Int)+1)).toNat<_;omega⟩) fun e=>absurd rfl e
    rw[hs];rfl
  ·have hi: ¬(k:Int)<((lysV r).length:Int):=hi
   rw[List.take_of_length_le (by omega)];exact h
theorem w3r{r:Reg}{id:ByteArray}{t:Int}{K:List Frc->Prop}(hB:RegB r)(hsn:r.3.length<=100000)(h:K (forV r id t)):q80 r id t K:=by
 unfold q80 z4r
 refine Lp2.ind (fun l (i:Int)=> ∃j:Nat,i=(j:Int)/\j<=r.3.length/\l=cpt (srt ((r.3.take j).map fun s=>s.2))) (fun _ (i:Int)=>((r.3.length:Int) - i).toNat) ?_ ⟨0,rfl,by omega,(by rw[List.take_zero,List.map_nil,v64];rfl)⟩
 rintro l i ⟨j,rfl,hj,hl⟩ _
 have ha:=(q21 ((r.3.take j).map fun s=>s.2)).1
 have hm:=(q21 ((r.3.take j).map fun s=>s.2)).2.1
 have hn:=(q21 ((r.3.take j).map fun s=>s.2)).2.2.2
 rw[←hl] at ha hm hn
 rw[List.length_map,List.length_take] at hn
 refine Cnd.mk (fun hi=>⟨by omega,fun y hy=>j74 ha (by omega) fun o ho hq=>⟨by unfold InI;omega,⟨j+1,by omega,by omega,?_⟩,by omega⟩⟩) fun hi=> ?_
 ·have hy:r.3[j]? =some y:=hy
  refine z5u ho (q21 _).1 fun z=> ?_
  rw[hq,hm,(q21 _).2.1,tk1 hy,List.map_append,List.mem_append]
  simp
 ·rw[List.take_of_length_le (by omega)] at hl
  have hl:l=lysV r:=hl
  subst hl
  have hll:=w3q r
  unfold forV at h
  by_cases hc:regV r=true
  ·rw[if_pos hc] at h
   refine Lp2.ind (fun fs (i:Int)=> ∃j:Nat,i=(j:Int)/\j<=(lysV r).length/\fs=((lysV r).take j).filterMap (w3p r id t)) (fun _ (i:Int)=>(((lysV r).length:Int) - i).toNat) ?_ ⟨0,rfl,by omega,rfl⟩
   rintro fs i ⟨k,rfl,hk,rfl⟩ _
   have hfl:(((lysV r).take k).filterMap (w3p r id t)).length<=k:=Nat.le_trans (List.length_filterMap_le _ _) (by rw[List.length_take];omega)
   refine Cnd.mk (fun hi=>⟨⟨by omega,hi⟩,fun y hy=> ?_⟩) fun hi=> ?_
   ·have hy:(lysV r)[k]? =some y:=hy
    have hs:=v7s (f:=w3p r id t) hy
    refine j8a hB (fun _=> ?_) fun e=>by rw[hc] at e;cases e
    unfold w3p at hs hfl⊢
    cases ha:atV r id y t with
    |none=>
     rw[ha] at hs
     refine Cnd.mk (fun e=>by cases e) fun _=>⟨by unfold InI;omega,⟨k+1,by omega,by omega,?_⟩,by omega⟩
     rw[hs];simp
    |some s=>
     rw[ha] at hs
     have hsl:=(y63 ha).l
     refine Cnd.mk (fun _=>⟨by unfold Sml;rw[List.length_append];simp;omega,by unfold InI;omega,⟨k+1,by omega,by omega,?_⟩,by omega⟩) fun e=>absurd rfl e
     rw[hs]
     show _++[Frc.mk s.2 s.3 s.4]=_++[Frc.mk y s.3 s.4]
     rw[hsl]
   ·rw[List.take_of_length_le (by omega)];exact h
  ·rw[if_neg hc] at h
   have hc:regV r=false:=by simpa using hc
   refine Lp2.ind (fun fs (i:Int)=>0<=i/\i<=(lysV r).length/\fs=[]) (fun _ (i:Int)=>(((lysV r).length:Int) - i).toNat) ?_ ⟨by decide,by omega,rfl⟩
   rintro fs i ⟨i0,i1,rfl⟩ _
   refine Cnd.mk (fun hi=>⟨⟨i0,hi⟩,fun y hy=> ?_⟩) fun hi=>h
   refine j8a hB (fun e=>by rw[hc] at e;cases e) fun _=> ?_
   exact Cnd.mk (fun e=>by cases e) fun _=>⟨by unfold InI;omega,⟨by omega,by omega,rfl⟩,by omega⟩
end Go.En
end
noncomputable section
set_option maxRecDepth 100000
namespace Go.Dg
open Go.Fl
abbrev Nd:=Int×Int×Int
def nd(ns:List Nd)(id:Int):Nd:=ns.getD id.toNat (0,0,0)
def top(ns:List Nd)(id:Int):Int:=if id<0 then 1001 else (nd ns id).1
def Ok(ns:List Nd)(id:Int):Prop:= -1002<id/\id<ns.length
def evF(ns:List Nd)(h:Int->Bool):Nat->Int->Int
 |0,id=> -1 - id
 |n+1,id=>if id<0 then -1 - id else evF ns h n (if h (nd ns id).1=true then (nd ns id).2.1 else (nd ns id).2.2)
def ev(ns:List Nd)(h:Int->Bool)(id:Int):Int:=evF ns h (id.toNat+1) id
structure Nod(ns:List Nd):Prop where
 nod: ∀i:Int,0<=i->i<ns.length->0<=(nd ns i).1/\(nd ns i).1<=1000/\ -1002<(nd ns i).2.1/\(nd ns i).2.1<i/\ -1002<(nd ns i).2.2/\(nd ns i).2.2<i/\
  (nd ns i).2.1≠(nd ns i).2.2/\(nd ns i).1<top ns (nd ns i).2.1/\(nd ns i).1<top ns (nd ns i).2.2
 one: ∀i j:Int,0<=i->i<ns.length->0<=j->j<ns.length->nd ns i=nd ns j->i=j
theorem ind{ns:List Nd}(hN:Nod ns){p:Int->Prop}(h0: ∀id:Int, -1002<id->id<0->p id)
  (h1: ∀id:Int,0<=id->id<ns.length->p (nd ns id).2.1->p (nd ns id).2.2->p id){id:Int}(hi:Ok ns id):p id:=by
 have key: ∀(k:Nat) (id:Int),id<k->Ok ns id->p id:=by
  intro k
  induction k with
  |zero=>exact fun id hk hi=>h0 id hi.1 hk
  |succ k ih=>
   intro id hk hi
   by_cases hn:id<0
   ·exact h0 id hi.1 hn
   ·obtain⟨_,_,a,b,c,d,_⟩:=hN.nod id (by omega) hi.2
    have:=hi.2
    exact h1 id (by omega) hi.2 (ih _ (by omega) ⟨a,by omega⟩) (ih _ (by omega) ⟨c,by omega⟩)
 exact key (id.toNat+1) id (by omega) hi
def v7u(ns:List Nd)(t y n:Int):Prop:=0<=t/\t<=1000/\Ok ns y/\Ok ns n/\t<top ns y/\t<top ns n
instance (ns:List Nd)(id:Int):Decidable (Ok ns id):=by unfold Ok;infer_instance
instance (ns:List Nd)(t y n:Int):Decidable (v7u ns t y n):=by unfold v7u;infer_instance
def node(ns:List Nd)(ids:Nd->Option Int)(full:Bool)(t y n:Int):Int×List Nd×(Nd->Option Int)×Bool:=
 if v7u ns t y n then
  if y=n then (y,ns,ids,full)
  else match ids (t,y,n) with
   |some id=>(id,ns,ids,full)
   |none=>if 4000<=ns.length then (-1002,ns,ids,true) else (ns.length,ns++[(t,y,n)],put ids (t,y,n) ns.length,full)
 else (-1002,ns,ids,full)
def mtop(ns:List Nd)(f g h:Int):Int:=min (min (top ns f) (top ns g)) (top ns h)
def Cse(ns:List Nd)(f g h r:Int):Prop:= ∀v,ev ns v r=if ev ns v f=1 then ev ns v g else ev ns v h
def Kn(ns:List Nd)(m:Nd->Option Int):Prop:= ∀f g h id,m (f,g,h)=some id->(id= -1002/\ns.length=4000)∨(Ok ns f/\Ok ns g/\Ok ns h/\Ok ns id/\Cse ns f g h id/\mtop ns f g h<=top ns id)
end Go.Dg
end
noncomputable section
set_option maxRecDepth 100000
namespace Go.En
open Go Go.Fl Go.Fx Go.Dg
theorem kids{ns:List Nd}(hN:Nod ns){a:Int}(h:Ok ns a)(h0:0<=a):Ok ns (nd ns a).2.1/\Ok ns (nd ns a).2.2/\(nd ns a).2.1<a/\(nd ns a).2.2<a:=by
 have h2:=h.2
 obtain⟨_,_,a1,a2,a3,a4,_⟩:=hN.nod a h0 h.2
 exact⟨⟨a1,by omega⟩,⟨a3,by omega⟩,a2,a4⟩
def Tr(F:Int->Option Bool):Prop:= ∀x,F x=none∨F x=some true
def univ(ns:List Nd):List Int:=(List.range (ns.length+1001)).map fun (i:Nat)=>(i:Int) - 1001
def left(ns:List Nd)(F:Int->Option Bool):Nat:=(univ ns).countP fun x=>(F x).isNone
end Go.En
end
noncomputable section
set_option maxRecDepth 100000
namespace Go.En
open Go Go.Fl Go.Fl.Lk Go.Fx
def ixF{α:Type}(p:α->Bool):List α->Nat->Option (Nat×α)
 |[],_=>none
 |a::l,i=>if p a=true then some (i,a) else ixF p l (i+1)
theorem v04{α:Type}{l:List α}{p:α->Bool}{i:Nat}{y:α}(hy:l[i]? =some y)(hp:p y=true):ixF p (l.drop i) i=some (i,y):=by
 have hlt:=Qc hy
 rw[List.drop_eq_getElem_cons hlt]
 have e:l[i]=y:=by rw[List.getElem?_eq_getElem hlt] at hy;exact Option.some.inj hy
 rw[e,ixF,if_pos hp]
theorem w3s{α:Type}{l:List α}{p:α->Bool}{i:Nat}{y:α}(hy:l[i]? =some y)(hp:p y=false):ixF p (l.drop i) i=ixF p (l.drop (i+1)) (i+1):=by
 have hlt:=Qc hy
 rw[List.drop_eq_getElem_cons hlt]
 have e:l[i]=y:=by rw[List.getElem?_eq_getElem hlt] at hy;exact Option.some.inj hy
 rw[e,ixF,if_neg (by rw[hp];simp)]
theorem w89{α:Type}{p:α->Bool}: ∀{l:List α} {n i:Nat} {y:α},ixF p l n=some (i,y)->n<=i/\l[i - n]? =some y/\p y=true
 |[],_,_,_,h=>by cases h
 |a::l,n,i,y,h=>by
  rw[ixF] at h
  split at h
  ·cases h;exact⟨Nat.le_refl _,by simp,by assumption⟩
  ·obtain⟨h1,h2,h3⟩:=w89 h
   refine⟨by omega,?_,h3⟩
   rw[show i - n=(i - (n+1))+1 by omega];exact h2
theorem y8l{α:Type}{l:List α}(p:α->Bool){G:Int->α->(Int->Prop)->Prop}{B:Prop}(hl:l.length<=1000000000)(hB:ixF p l 0=none->B)
  (hG: ∀(i:Nat) y Y,l[i]? =some y->i<l.length->(p y=true->ixF p l 0=some (i,y))->(p y=false->InI ((i:Int)+1)/\Y ((i:Int)+1))->G (i:Int) y Y):
  Lp1 (fun x Y=>Cnd (x<(l.length:Int)) ((0<=x/\x<(l.length:Int))/\ ∀y,l[x.toNat]? =some y->G x y Y) B) 0:=by
 refine Lp1.ind (fun i=> ∃j:Nat,i=(j:Int)/\j<=l.length/\ixF p l 0=ixF p (l.drop j) j) (fun i=>(l.length - i).toNat) ?_ ⟨0,rfl,by omega,rfl⟩
 rintro i ⟨j,rfl,hj,hf⟩
 refine Cnd.mk (fun hc=>⟨by omega,fun y hy=> ?_⟩) fun hc=> ?_
 ·have hy:l[j]? =some y:=hy
  refine hG j y _ hy (by omega) (fun hp=>by rw[hf,v04 hy hp]) fun hp=>⟨by unfold InI;omega,⟨j+1,by omega,by omega,by rw[hf,w3s hy hp]⟩,by omega⟩
 ·refine hB ?_
  rw[hf,List.drop_eq_nil_of_le (by omega)];rfl
abbrev numB(n:Int):ByteArray:=⟨(Go.Lib.itoa n).toArray⟩
def hkV(v:Val):Option ByteArray:=
 if v.1=3∨v.1=4 then some v.3 else if v.1=2 then some (numB v.2) else if v.1=1 then some (if v.2=1 then ByteArray.mk (Array.mk [116,114,117,101]) else ByteArray.mk (Array.mk [102,97,108,115,101])) else none
def bksV(s:Subj)(k b salt:ByteArray):Option Int:=(lkp s k b).bind fun v=>(hkV v).map fun t=>ofV salt t
def srvV(s:Subj)(v:Srv):Int×Int×Bool:=
 if v.1≠0 then (v.1, -1,true) else match bksV s v.2 v.3 v.4 with
 |some b=>(q8o v.5 b,b,true)
 |none=>(0, -1,false)
def tgP(s:Subj)(t:Tgt):Bool:=match fnd s t.1 with
 |some c=>dec (c.2∈t.3)
 |none=>false
def fof(v:Envt)(key:ByteArray):Option Flg:=v.4.find? fun f=>decide (f.1=key)
def metV(v:Envt)(dv:Flg->Int)(p:Prq):Bool:=match fof v p.1 with
 |some g=>g.4 && decide (dv g=p.2)
 |none=>false
def inXV(v:Envt)(s:Subj)(fs:List Frc)(key:ByteArray)(x:Exper):Bool:=decide (x.3=key) && (decide (x.5=2) && decide ((asgV v s fs x.2).1.2=x.1))
def abV(v:Envt)(s:Subj)(x:Exper):Int:=match lof v x.2 with
 |some l=>(match fnd s l.2 with
  |some c=>ofV x.4 c.2
  |none=> -1)
 |none=> -1
def svd(s:Subj)(off:Int)(sv:Srv)(k i:Int)(n:ByteArray):Int×Rsn:=
 if (srvV s sv).2.2=true then ((srvV s sv).1,Rsn.mk k i n (srvV s sv).2.1) else (off,Rsn.mk 7 i noT (-1))
def rlsV(v:Envt)(s:Subj)(f:Flg):Int×Rsn:=match ixF (fun r=>cndV v s r.2) f.8 0 with
 |some q=>svd s f.5 q.2.3 5 ((q.1:Int)+1) q.2.1
 |none=>svd s f.5 f.9 6 0 noT
def chsV(v:Envt)(s:Subj)(fs:List Frc)(dv:Flg->Int)(f:Flg):Int×Rsn:=
 if f.4=false then (f.5,Rsn.mk 1 0 noT (-1)) else
 match f.6.find? (fun p=> !metV v dv p) with
 |some p=>(f.5,Rsn.mk 2 0 p.1 (-1))
 |none=>match ixF (tgP s) f.7 0 with
  |some q=>(q.2.2,Rsn.mk 3 ((q.1:Int)+1) noT (-1))
  |none=>match v.6.find? (inXV v s fs f.1) with
   |some x=>((asgV v s fs x.2).1.4,Rsn.mk 4 0 x.1 (abV v s x))
   |none=>rlsV v s f
def dvN(v:Envt)(s:Subj)(fs:List Frc):Nat->Flg->Int
 |0,f=>(chsV v s fs (fun _=>0) f).1
 |n+1,f=>(chsV v s fs (dvN v s fs n) f).1
def dcV(v:Envt)(s:Subj)(fs:List Frc)(f:Flg):Int×Rsn:=chsV v s fs (dvN v s fs v.4.length) f
def valV(l:List Val)(k:Int):Val:=if 1<=k/\k<=(l.length:Int) then (l[(k - 1).toNat]?).getD noV else noV
def dcsV(v:Envt)(s:Subj)(fs:List Frc)(f:Flg):Dcs:=Dcs.mk f.1 (dcV v s fs f).1 (valV f.3 (dcV v s fs f).1) (dcV v s fs f).2 0
structure FlB(l:List Flg):Prop where
 nd:(l.map Flg.key).Nodup
 ord: ∀(i:Nat) f,l[i]? =some f-> ∀p∈f.6,∀(j:Nat) g,l[j]? =some g->p.1=g.1->j<i
theorem w6u{v:Envt}{key:ByteArray}{g:Flg}(h:fof v key=some g): ∃j:Nat,v.4[j]? =some g/\key=g.1:=by
 unfold fof at h
 obtain⟨j,hj⟩:=List.getElem?_of_mem (List.mem_of_find?_eq_some h)
 have:=List.find?_some h
 simp only[decide_eq_true_eq] at this
 exact⟨j,hj,this.symm⟩
theorem v05{v:Envt}(hB:FlB v.4){i:Nat}{g:Flg}(h:v.4[i]? =some g):fof v g.1=some g:=by
 have hnd:=hB.nd
 have hg:=getm h
 unfold fof
 generalize v.4=L at hnd hg
 clear h
 induction L with
 |nil=>cases hg
 |cons a L ih=>
  rw[List.find?_cons]
  rw[List.map_cons,List.nodup_cons] at hnd
  rcases List.mem_cons.1 hg with rfl|hg
  ·simp
  ·rw[decide_eq_false (fun e=>hnd.1 (by rw[e];exact List.mem_map_of_mem hg))]
   exact ih hnd.2 hg
theorem v29{v:Envt}{d d':Flg->Int}{p:Prq}(h: ∀g,fof v p.1=some g->d g=d' g):metV v d p=metV v d' p:=by
 unfold metV
 cases hf:fof v p.1 with
 |none=>rfl
 |some g=>simp only;rw[h g hf]
theorem w0m{α:Type}{p q:α->Bool}: ∀{l:List α},(∀x∈l,p x=q x)->l.find? p=l.find? q
 |[],_=>rfl
 |a::l,h=>by rw[List.find?_cons,List.find?_cons,h a List.mem_cons_self,w0m fun x hx=>h x (List.mem_cons_of_mem _ hx)]
theorem w0n{v:Envt}{s:Subj}{fs:List Frc}{d d':Flg->Int}{f:Flg}(h: ∀p∈f.6,∀g,fof v p.1=some g->d g=d' g):chsV v s fs d f=chsV v s fs d' f:=by
 unfold chsV
 rw[w0m (q:=fun p=> !metV v d' p) fun p hp=>by rw[v29 (h p hp)]]
theorem v3a{v:Envt}{s:Subj}{fs:List Frc}(hB:FlB v.4): ∀(i n m:Nat) (f:Flg),v.4[i]? =some f->i<=n->i<=m->dvN v s fs n f=dvN v s fs m f:=by
 intro i
 induction i using Nat.strongRecOn with
 |ind i ih=>
  intro n m f hf hn hm
  have key: ∀d d':Flg->Int,(∀(j:Nat) g,j<i->v.4[j]? =some g->d g=d' g)->chsV v s fs d f=chsV v s fs d' f:=fun d d' h=>w0n fun p hp g hg=>by
   obtain⟨j,hj,hk⟩:=w6u hg
   exact h j g (hB.ord i f hf p hp j g hj hk) hj
  cases n with
  |zero=>
   cases m with
   |zero=>rfl
   |succ m=>unfold dvN;rw[key _ (dvN v s fs m) fun j g hj=>by omega]
  |succ n=>
   cases m with
   |zero=>unfold dvN;rw[key _ (fun _=>0) fun j g hj=>by omega]
   |succ m=>unfold dvN;rw[key _ (dvN v s fs m) fun j g hj hg=>ih j hj n m g hg (by omega) (by omega)]
theorem y1t{v:Envt}{s:Subj}{fs:List Frc}(hB:FlB v.4){i:Nat}{f:Flg}(hf:v.4[i]? =some f):dcV v s fs f=chsV v s fs (fun g=>(dcV v s fs g).1) f:=by
 have hi:=Qc hf
 unfold dcV
 refine w0n fun p hp g hg=> ?_
 obtain⟨j,hj,hk⟩:=w6u hg
 have hji:=hB.ord i f hf p hp j g hj hk
 obtain⟨n,hn⟩: ∃n,v.4.length=n+1:=⟨v.4.length - 1,by omega⟩
 have h2:(chsV v s fs (dvN v s fs v.4.length) g).1=dvN v s fs (v.4.length+1) g:=rfl
 rw[h2]
 exact v3a hB j _ _ g hj (by omega) (by omega)
end Go.En
end
noncomputable section
set_option maxRecDepth 100000
namespace Go.En
open Go Go.Fl Go.Fl.Lk Go.Fx
def rstD(n:Int):List UInt8:=if n=0 then [] else Go.Lib.decDigits n.natAbs
theorem v7v{n:Int}(h:n≠0):rstD n=rstD (n.tdiv 10)++[UInt8.ofNat (48+(n.tmod 10).natAbs)]:=by
 have e1:(n.tdiv 10).natAbs=n.natAbs / 10:=Int.natAbs_tdiv n 10
 have e2:(n.tmod 10).natAbs=n.natAbs % 10:=by rw[Int.natAbs_tmod];rfl
 have hn:n.natAbs≠0:=by omega
 unfold rstD
 rw[if_neg h,e2]
 by_cases hs:n.natAbs<10
 ·have:n.tdiv 10=0:=by omega
  rw[if_pos this,Go.Lib.decDigits,dif_pos hs,Nat.mod_eq_of_lt hs];rfl
 ·have:n.tdiv 10≠0:=by omega
  rw[if_neg this,e1,Go.Lib.decDigits,dif_neg hs]
theorem v7w{d:Nat}(h:d<10):Utf8.encode ((48:Int)+(d:Int))=⟨#[UInt8.ofNat (48+d)]⟩:=by
 rcases (show d=0∨d=1∨d=2∨d=3∨d=4∨d=5∨d=6∨d=7∨d=8∨d=9 by omega) with rfl|rfl|rfl|rfl|rfl|rfl|rfl|rfl|rfl|rfl<;>rfl
theorem w3t{n:Int}(h:n≠0):Go.Lib.itoa n=(if n<0 then [45] else [])++rstD n:=by
 unfold Go.Lib.itoa rstD
 rw[if_neg h]
 split
 ·rfl
 ·rw[show n.toNat=n.natAbs by omega];rfl
theorem w6v:Go.Lib.itoa 0=[48]:=by unfold Go.Lib.itoa;rw[if_neg (by decide),Go.Lib.decDigits];rfl
end Go.En
end
noncomputable section
set_option maxRecDepth 100000
namespace Go.En
open Go Go.Fl Go.Fl.Lk Go.Fx
def NumB(s:Subj):Prop:= ∀c∈s.ctxs,∀a∈c.attrs,InI a.value.number
theorem v7x: ∀(k n:Nat),n<10 ^ k->1<=k->(Go.Lib.decDigits n).length<=k
 |0,_,_,h=>by omega
 |k+1,n,h,_=>by
  rw[Go.Lib.decDigits]
  split
  ·simp
  ·rename_i hs
   have hk:1<=k:=by
    refine Nat.one_le_iff_ne_zero.2 fun e=> ?_
    subst e;simp at h;omega
   have:=v7x k (n / 10) (by rw[Nat.pow_succ] at h;omega) hk
   simp;omega
theorem v7y{n:Int}(h:InI n):(rstD n).length<=19:=by
 unfold rstD
 split
 ·simp
 ·refine v7x 19 _ ?_ (by decide)
  have:(10:Nat) ^ 19=10000000000000000000:=by decide
  unfold InI at h
  omega
theorem j8h{a b:ByteArray}(h:a.data.toList=b.data.toList):a=b:=by
 cases a;cases b;congr 1;exact Array.ext' h
theorem j8i(n:Int):(numB n).data.toList=Go.Lib.itoa n:=rfl
theorem y0g{n:Int}(h:InI n):(numB n).size<=100:=by
 show (Go.Lib.itoa n).toArray.size<=100
 rw[List.size_toArray]
 by_cases h0:n=0
 ·subst h0;rw[w6v];decide
 ·rw[w3t h0]
  have:=v7y h
  split<;>simp<;>omega
theorem j9o{n:Int}{K:ByteArray->Prop}(hn:InI n)(h:K (numB n)):q54 n K:=by
 unfold q54
 exact⟨hn,h⟩
theorem v3b{d:Int}(h0:0<=d)(h1:d<10):Go.Utf8.encode (Go.IntKind.i32.wrap (48+d))=⟨#[UInt8.ofNat (48+d.natAbs)]⟩:=by
 obtain⟨k,rfl⟩: ∃k:Nat,d=k:=⟨d.toNat,by omega⟩
 have e:Go.IntKind.i32.wrap (48+(k:Int))=48+(k:Int):=by
  rcases (show k=0∨k=1∨k=2∨k=3∨k=4∨k=5∨k=6∨k=7∨k=8∨k=9 by omega) with rfl|rfl|rfl|rfl|rfl|rfl|rfl|rfl|rfl|rfl<;>decide
 rw[e,v7w (by omega)]
 rfl
theorem w6w{n:Int}{K:ByteArray->Prop}(hn:InI n)(h:K (numB n)):z2l n K:=by
 unfold z2l
 refine Cnd.mk (fun h0=> ?_) fun h0=> ?_
 ·subst h0
  have e:numB 0=ByteArray.mk (Array.mk [48]):=j8h (by rw[j8i,w6v])
  rw[e] at h;exact h
 have hr:=v7y hn
 refine Lp2.ind (fun x s=>InI x/\rstD n=rstD x++s.data.toList) (fun x _=>x.natAbs) ?_ ⟨hn,by simp⟩
 rintro x s ⟨hx,hs⟩
 have hsz:s.size<=19:=by
  have:=congrArg List.length hs
  rw[List.length_append] at this
  have e:s.size=s.data.toList.length:=by rw[Array.length_toList];rfl
  omega
 refine Cnd.mk (fun hz=> ?_) fun hz=>⟨by decide,?_⟩
 ·subst hz
  have hs:rstD n=s.data.toList:=hs
  refine Cnd.mk (fun hneg=>⟨?_,?_⟩) fun hneg=> ?_
  ·have:(ByteArray.mk (Array.mk [45])).size=1:=rfl
   rw[this];omega
  ·have e:numB n=ByteArray.mk (Array.mk [45])++s:=j8h (by rw[j8i,w3t h0,if_pos hneg,hs];simp)
   rw[e] at h;exact h
  ·have e:numB n=s:=j8h (by rw[j8i,w3t h0,if_neg hneg,hs];simp)
   rw[e] at h;exact h
 ·have step: ∀d:Int,d=((x.tmod 10).natAbs:Int)->InI (48+d)/\((((Go.Utf8.encode (Go.IntKind.i32.wrap (48+d))).size+s.size:Nat):Int)<=(9223372036854775807:Int))/\(10:Int)≠0/\InI (x.tdiv 10)/\(InI (x.tdiv 10)/\rstD n=rstD (x.tdiv 10)++(Go.Utf8.encode (Go.IntKind.i32.wrap (48+d))++s).data.toList)/\(x.tdiv 10).natAbs<x.natAbs:=fun d hd=>by
   have h1:(x.tmod 10).natAbs<10:=by rw[Int.natAbs_tmod];exact Nat.mod_lt _ (by decide)
   have hi:InI (x.tdiv 10):=by
    have:(x.tdiv 10).natAbs=x.natAbs / 10:=Int.natAbs_tdiv x 10
    unfold InI at hx⊢;omega
   have ha:(x.tdiv 10).natAbs<x.natAbs:=by
    have:(x.tdiv 10).natAbs=x.natAbs / 10:=Int.natAbs_tdiv x 10
    omega
   rw[v3b (by omega) (by omega)]
   refine⟨by unfold InI;omega,?_,by decide,hi,⟨hi,?_⟩,ha⟩
   ·have:(ByteArray.mk (Array.mk [UInt8.ofNat (48+d.natAbs)])).size=1:=rfl
    rw[this];omega
   ·rw[hs,v7v hz,show d.natAbs=(x.tmod 10).natAbs by omega]
    simp
  refine Jn1.mk (fun d=>d=((x.tmod 10).natAbs:Int)) (Cnd.mk (fun hm=>⟨?_,by omega⟩) fun hm=>by omega) fun d hd=> ?_
  ·have h1:(x.tmod 10).natAbs<10:=by rw[Int.natAbs_tmod];exact Nat.mod_lt _ (by decide)
   unfold InI;omega
  exact step d hd
theorem w3u{v:Val}{K:ByteArray->Bool->Prop}(hn:InI v.2)(h:K ((hkV v).getD noT) (hkV v).isSome):q8y v K:=by
 unfold q8y z4q
 refine Jn1.mk (fun b=>b=true↔v.1=3∨v.1=4) (Cnd.mk (fun e=>by simp[e]) fun e=>by simp[e]) ?_
 intro b hb
 unfold hkV at h
 refine Cnd.mk (fun ht=> ?_) fun ht=> ?_
 ·rw[if_pos (hb.1 ht)] at h;exact h
 rw[if_neg (fun e=>ht (hb.2 e))] at h
 refine Cnd.mk (fun e=> ?_) fun e=> ?_
 ·rw[if_pos e] at h;exact j9o hn h
 rw[if_neg e] at h
 refine Cnd.mk (fun e1=> ?_) fun e1=> ?_
 ·rw[if_pos e1] at h
  refine Cnd.mk (fun e2=> ?_) fun e2=> ?_
  ·rw[if_pos e2] at h;exact h
  ·rw[if_neg e2] at h;exact h
 ·rw[if_neg e1] at h;exact h
theorem v3c{v:Val}{K:ByteArray->Bool->Prop}(hn:InI v.2)(h:K ((hkV v).getD noT) (hkV v).isSome):z93 v K:=by
 unfold z93 j6k
 unfold hkV at h
 refine Cnd.mk (fun e1=> ?_) fun e1=> ?_
 ·rw[if_neg (by omega),if_neg (by omega),if_pos e1] at h
  refine Cnd.mk (fun e2=> ?_) fun e2=> ?_
  ·rw[if_pos e2] at h;exact h
  ·rw[if_neg e2] at h;exact h
 refine Cnd.mk (fun e=> ?_) fun e=> ?_
 ·rw[if_neg (by omega),if_pos e] at h;exact w6w hn h
 refine Jn1.mk (fun b=>b=true↔v.1=3∨v.1=4) (Cnd.mk (fun e=>by simp[e]) fun e=>by simp[e]) ?_
 intro b hb
 refine Cnd.mk (fun ht=> ?_) fun ht=> ?_
 ·rw[if_pos (hb.1 ht)] at h;exact h
 ·rw[if_neg (fun e=>ht (hb.2 e)),if_neg e,if_neg e1] at h;exact h
theorem y0h{s:Subj}{kind name:ByteArray}{v:Val}(hN:NumB s)(h:lkp s kind name=some v):InI v.2:=by
 unfold lkp at h
 cases hf:fnd s kind with
 |none=>rw[hf] at h;cases h
 |some c=>
  rw[hf] at h
  simp only[Option.bind_some] at h
  by_cases hk:name=keyB
  ·rw[if_pos hk] at h;cases h
   show InI 0
   unfold InI;omega
  ·rw[if_neg hk] at h
   obtain⟨a,ha,rfl⟩:=Option.map_eq_some_iff.1 h
   exact hN c (j27 hf) a (List.mem_of_find?_eq_some ha)
theorem y1u{v:Val}{t:ByteArray}(hn:InI v.2)(hv:v.3.size<=2000000)(h:hkV v=some t):t.size<=10000000:=by
 unfold hkV at h
 split at h
 ·cases h;omega
 ·split at h
  ·cases h;have:=y0g hn;omega
  ·split at h
   ·cases h
    split<;>decide
   ·cases h
theorem j3c{s:Subj}{k b salt:ByteArray}{K:Int->Bool->Prop}(hs:SubB s)(hN:NumB s)(hz:salt.size<=10000000)(h:K ((bksV s k b salt).getD 0) (bksV s k b salt).isSome):By s k b salt K:=by
 unfold By q43
 refine z1b hs ?_
 unfold bksV at h
 cases hl:lkp s k b with
 |none=>rw[hl] at h;exact Cnd.no (by simp) h
 |some v=>
  rw[hl] at h
  simp only[Option.bind_some] at h
  refine Cnd.yes rfl (w3u (y0h hN hl) ?_)
  simp only[Option.getD_some]
  cases hk:hkV v with
  |none=>rw[hk] at h;exact Cnd.no (by simp) h
  |some t=>
   rw[hk] at h
   exact Cnd.yes rfl (Us hz (y1u (y0h hN hl) (v93 hs hl).2 hk) h)
theorem j9p{s:Subj}{k b salt:ByteArray}{K:Int->Bool->Prop}(hs:SubB s)(hN:NumB s)(hz:salt.size<=10000000)(h:K ((bksV s k b salt).getD 0) (bksV s k b salt).isSome):q55 s k b salt K:=by
 unfold q55 z2m
 refine j3x hs ?_
 unfold bksV at h
 cases hl:lkp s k b with
 |none=>rw[hl] at h;exact Cnd.no (by simp) h
 |some v=>
  rw[hl] at h
  simp only[Option.bind_some] at h
  refine Cnd.yes rfl (v3c (y0h hN hl) ?_)
  simp only[Option.getD_some]
  cases hk:hkV v with
  |none=>rw[hk] at h;exact Cnd.no (by simp) h
  |some t=>
   rw[hk] at h
   exact Cnd.yes rfl (q4l hz (y1u (y0h hN hl) (v93 hs hl).2 hk) h)
theorem j3d{s:Subj}{v:Srv}{K:Int->Int->Bool->Prop}(hs:SubB s)(hN:NumB s)(hz:v.4.size<=10000000)(hl:v.5.length<=1000000)(h:K (srvV s v).1 (srvV s v).2.1 (srvV s v).2.2):Bz s v K:=by
 unfold Bz q44
 unfold srvV at h
 refine Cnd.mk (fun e=> ?_) fun e=>by rw[if_pos e] at h;exact h
 rw[if_neg (by omega)] at h
 refine j3c hs hN hz ?_
 cases hb:bksV s v.2 v.3 v.4 with
 |none=>rw[hb] at h;exact Cnd.no (by simp) h
 |some b=>rw[hb] at h;exact Cnd.yes rfl (z0m hl h)
theorem w6x{s:Subj}{v:Srv}{K:Int->Int->Bool->Prop}(hs:SubB s)(hN:NumB s)(hz:v.4.size<=10000000)(hl:v.5.length<=1000000)(h:K (srvV s v).1 (srvV s v).2.1 (srvV s v).2.2):z2n s v K:=by
 unfold z2n z8h
 unfold srvV at h
 refine Cnd.mk (fun e=> ?_) fun e=>by rw[if_pos e] at h;exact h
 rw[if_neg (by omega)] at h
 refine j9p hs hN hz ?_
 cases hb:bksV s v.2 v.3 v.4 with
 |none=>rw[hb] at h;exact Cnd.no (by simp) h
 |some b=>rw[hb] at h;exact Cnd.yes rfl (z9b hl h)
def tgtV(s:Subj)(f:Flg):Int:=match ixF (tgP s) f.7 0 with
 |some q=>(q.1:Int)+1
 |none=>0
theorem y64{α:Type}{l:List α}(p:α->Bool){G:Int->α->(Int->Prop)->Prop}{B:Prop}(hl:l.length<=1000000000)(hB:ixF p l 0=none->B)
  (hG: ∀(i:Nat) y Y,l[i]? =some y->i<l.length->(p y=true->ixF p l 0=some (i,y))->(p y=false->InI ((i:Int)+1)/\Y ((i:Int)+1))->G (i:Int) y Y):
  Lp1 (fun x Y=>l.length<=(9223372036854775807:Nat)->Cnd (x<(l.length:Int)) ((0<=x/\x<(l.length:Int))/\ ∀y,l[x.toNat]? =some y->G x y Y) B) 0:=by
 refine Lp1.ind (fun i=> ∃j:Nat,i=(j:Int)/\j<=l.length/\ixF p l 0=ixF p (l.drop j) j) (fun i=>(l.length - i).toNat) ?_ ⟨0,rfl,by omega,rfl⟩
 rintro i ⟨j,rfl,hj,hf⟩ _
 refine Cnd.mk (fun hc=>⟨by omega,fun y hy=> ?_⟩) fun hc=> ?_
 ·have hy:l[j]? =some y:=hy
  refine hG j y _ hy (by omega) (fun hp=>by rw[hf,v04 hy hp]) fun hp=>⟨by unfold InI;omega,⟨j+1,by omega,by omega,by rw[hf,w3s hy hp]⟩,by omega⟩
 ·refine hB ?_
  rw[hf,List.drop_eq_nil_of_le (by omega)];rfl
theorem j09{f:Flg}{s:Subj}{K:Int->Prop}(hs:SubB s)(ht:f.7.length<=1000000)(hk: ∀t∈f.7,t.3.length<=1048576)(h:K (tgtV s f)):W6 f s K:=by
 unfold W6 q3a
 unfold tgtV at h
 refine fun _=>y8l (tgP s) (by omega) (fun hn=>by rw[hn] at h;exact h) fun i y Y hy hi hp hq=>Rc hs ?_
 have miss:tgP s y=false->InI ((i:Int)+1)/\Y ((i:Int)+1):=hq
 cases hf:fnd s y.1 with
 |none=>exact Cnd.no (by simp) (miss (by unfold tgP;rw[hf]))
 |some c=>
  refine Cnd.yes rfl fun _=>srch (fun k=>decide (k=c.2)) (by have:=hk y (getm hy);omega) (fun hn=>Cnd.no (by omega) (miss ?_)) fun j k Z hkk hj hp2 hq2=>Cnd.mk (fun e=>Cnd.yes (by omega) ⟨by unfold InI;omega,?_⟩) fun e=>hq2 (df fun e2=>e e2.symm)
  ·unfold tgP;rw[hf]
   refine z1c fun hm=> ?_
   rw[List.find?_eq_none] at hn
   exact hn _ hm (dt rfl)
  ·have hc:c.2=k:=e
   have ht:tgP s y=true:=by unfold tgP;rw[hf];exact z6u (hc▸getm hkk)
   rw[hp ht] at h;exact h
theorem w3v{f:Flg}{s:Subj}{K:Int->Prop}(hs:SubB s)(ht:f.7.length<=1000000)(h:K (tgtV s f)):q0y f s K:=by
 unfold q0y z4x
 unfold tgtV at h
 refine y64 (tgP s) (by omega) (fun hn=>by rw[hn] at h;exact h) fun i y Y hy hi hp hq=>q65 hs ?_
 cases hf:fnd s y.1 with
 |none=>exact Cnd.no (by simp) (hq (by unfold tgP;rw[hf]))
 |some c=>
  refine Cnd.yes rfl ⟨by omega,fun z hz=> ?_⟩
  have hz:f.7[i]? =some z:=hz
  rw[hy] at hz;cases hz
  refine J2 fun r hr=>Cnd.mk (fun e=>⟨by unfold InI;omega,?_⟩) fun e=>hq ?_
  ·have ht:tgP s y=true:=by unfold tgP;rw[hf];exact z6u (hr.1 e)
   rw[hp ht] at h;exact h
  ·unfold tgP;rw[hf]
   exact z1c fun hm=>e (hr.2 hm)
end Go.En
end
noncomputable section
set_option maxRecDepth 100000
namespace Go.En
open Go Go.Fl Go.Fl.Lk Go.Fx
def SrvB(v:Srv):Prop:=v.4.size<=10000000/\v.5.length<=1000000
structure FlX(v:Envt):Prop where
 b:FlB v.4
 n:v.4.length<=1000
 vs: ∀f∈v.4,f.3.length<=1000000/\ ∀x∈f.3,x.4.length<=2000000
 p: ∀f∈v.4,f.6.length<=1000000
 t: ∀f∈v.4,f.7.length<=1000000/\ ∀t∈f.7,t.3.length<=1048576
 r: ∀f∈v.4,f.8.length<=1000000/\ ∀r∈f.8,wt r.2<=2000000/\EvB r.2/\SrvB r.3
 d: ∀f∈v.4,SrvB f.9
 x: ∀x∈v.6,x.1≠noT
abbrev noF:Flg:=Flg.mk noT 0 [] false 0 [] [] [] (Srv.mk 0 noT noT noT [])
abbrev noD:Dcs:=Dcs.mk noT 0 noV (Rsn.mk 0 0 noT 0) 0
theorem j3e{v:Envt}{s:Subj}{fs:List Frc}{K:ByteArray->ByteArray->Int->List Decl->List Seg->List Flg->List Lay_->List Exper->List Ctxt->List Frc->List ByteArray->(ByteArray->Option Dcs)->(ByteArray->Option Bool)->Prop}(hv:AsB v)(hs:SubB s)
  (h:K v.1.1 v.1.2 v.1.3 v.2 v.3 v.4 v.5 v.6 s.1 fs (mem v.3 s) (fun _=>none) (fun _=>none)):Bx v s fs K:=by
 unfold Bx q42
 have one: ∀{K':List ByteArray->Prop},K' (mem v.3 s)->W5 v.3 (Subj.mk s.1) K':=fun h=>q9g hv.sg hs fun m hm=>by rw[v0v hm];exact h
 exact⟨one ⟨h,h⟩,⟨one h,one h⟩,one h,one h⟩
section
variable {v:Envt}{s:Subj}{fs:List Frc}{inn:List ByteArray}{done:ByteArray->Option Dcs}{opn:ByteArray->Option Bool}
theorem j8j{key:ByteArray}{K:Flg->Bool->(ByteArray->Option Dcs)->(ByteArray->Option Bool)->Prop}(hn:v.4.length<=1000)(h:K ((fof v key).getD noF) (fof v key).isSome done opn):
  Jr v.1.1 v.1.2 v.1.3 v.2 v.3 v.4 v.5 v.6 s.1 fs inn done opn key K:=by
 unfold Jr
 unfold fof at h
 refine fun _=>srch (fun f=>decide (f.1=key)) (by omega) (fun hf=> ?_) fun i y Y hy hi hp hq=>Cnd.mk (fun e=>Cnd.no (by omega) ⟨by omega,fun z hz=> ?_⟩) fun e=>hq (df e)
 ·rw[hf] at h;exact Cnd.yes (by omega) h
 ·have hz:v.4[i]? =some z:=hz
  rw[hy] at hz;cases hz
  rw[hp (dt e)] at h;exact h
theorem w3w{x:Exper}{K:Int->(ByteArray->Option Dcs)->(ByteArray->Option Bool)->Prop}(hv:AsB v)(hs:SubB s)(hx:x.4.size<=10000000)(h:K (abV v s x) done opn):
  Jy v.1.1 v.1.2 v.1.3 v.2 v.3 v.4 v.5 v.6 s.1 fs inn done opn x K:=by
 unfold Jy R3
 unfold abV lof at h
 have hln:=hv.ln
 refine fun _=>srch (fun l=>decide (l.1=x.2)) (by omega) (fun hf=>by rw[hf] at h;exact h) fun i y Y hy hi hp hq=>Cnd.mk (fun e=>Rc (s:=s) hs ?_) fun e=>hq (df e)
 rw[hp (dt e)] at h
 simp only at h
 cases hf:fnd s y.2 with
 |none=>rw[hf] at h;exact Cnd.no (by simp) h
 |some c=>rw[hf] at h;exact Cnd.yes rfl (Us hx (z5r hs hf) h)
theorem j31{f:Flg}{sv:Srv}{r:Rsn}{K:Int->Rsn->(ByteArray->Option Dcs)->(ByteArray->Option Bool)->Prop}(hs:SubB s)(hN:NumB s)(hb:SrvB sv)(h:K (svd s f.5 sv r.1 r.2 r.3).1 (svd s f.5 sv r.1 r.2 r.3).2 done opn):
  J6 v.1.1 v.1.2 v.1.3 v.2 v.3 v.4 v.5 v.6 s.1 fs inn done opn f sv r K:=by
 unfold J6 q0k
 unfold svd at h
 refine j3d (s:=s) hs hN hb.1 hb.2 (Cnd.mk (fun e=> ?_) fun e=> ?_)
 ·rw[if_pos e] at h;exact h
 ·rw[if_neg e] at h;exact h
end
end Go.En
end
noncomputable section
set_option maxRecDepth 100000
namespace Go.En
open Go Go.Fl Go.Fl.Lk Go.Fx
theorem q9i{l:List Val}{n:Int}{Z:Int->Int->ByteArray->List ByteArray->Prop}(hl:l.length<=1000000)(h:Z (valV l n).1 (valV l n).2 (valV l n).3 (valV l n).4):
  Jn4 Z fun Y=>Cnd (1<=n) (Fits l->Cnd (n<=(l.length:Int)) (InI (n - 1)/\At l (n - 1) fun y=>Y y.1 y.2 y.3 y.4) (Y 0 0 noT [])) (Y 0 0 noT []):=by
 refine Jn4.mk (fun a b c d=>a=(valV l n).1/\b=(valV l n).2/\c=(valV l n).3/\d=(valV l n).4) (Cnd.mk (fun h1 _=>Cnd.mk (fun h2=>⟨by unfold InI;omega,by omega,fun y hy=> ?_⟩) fun h2=> ?_) fun h1=> ?_) fun a b c d ⟨e1,e2,e3,e4⟩=>by rw[e1,e2,e3,e4];exact h
 ·unfold valV;rw[if_pos ⟨h1,h2⟩,hy];exact⟨rfl,rfl,rfl,rfl⟩
 ·unfold valV;rw[if_neg (fun k=>h2 k.2)];exact⟨rfl,rfl,rfl,rfl⟩
 ·unfold valV;rw[if_neg (fun k=>h1 k.1)];exact⟨rfl,rfl,rfl,rfl⟩
theorem y0i{l:List Val}{n:Int}(h: ∀x∈l,x.4.length<=2000000):(valV l n).4.length<=2000000:=by
 unfold valV
 split
 ·cases hq:l[(n - 1).toNat]? with
  |none=>simp
  |some x=>exact h x (getm hq)
 ·simp
def DnI(v:Envt)(s:Subj)(fs:List Frc)(done:ByteArray->Option Dcs):Prop:= ∀k d,done k=some d-> ∃f∈v.4,k=f.1/\d=dcsV v s fs f
theorem DnI.nil{v:Envt}{s:Subj}{fs:List Frc}:DnI v s fs fun _=>none:=fun _ _ h=>by cases h
theorem DnI.put{v:Envt}{s:Subj}{fs:List Frc}{done:ByteArray->Option Dcs}(h:DnI v s fs done){f:Flg}(hf:f∈v.4):DnI v s fs (put done f.1 (dcsV v s fs f)):=fun k d hk=>by
 unfold Fl.put at hk
 split at hk
 ·rename_i e;cases hk;exact⟨f,hf,e,rfl⟩
 ·exact h k d hk
theorem y4z{o:ByteArray->Option Bool}{k:ByteArray}{b:Bool}(h:o k=none):dlt (put o k b) k=o:=by
 funext q
 unfold dlt Fl.put
 by_cases e:q=k
 ·rw[if_pos e,e,h]
 ·rw[if_neg e,if_neg e]
theorem y42{v:Envt}{s:Subj}{fs:List Frc}{key:ByteArray}(h:(asgV v s fs key).2≠0):(asgV v s fs key).1.2=noT:=by
 unfold asgV at h⊢
 split
 ·rename_i l hl;rw[hl] at h;exact absurd rfl h
 ·rfl
theorem nodup_at{v:Envt}(hB:FlB v.4){i j:Nat}{f g:Flg}(hf:v.4[i]? =some f)(hg:v.4[j]? =some g)(h:i≠j):f.1≠g.1:=fun e=>by
 have h1:=v05 hB hf
 have h2:=v05 hB hg
 rw[e,h2] at h1
 have e2:g=f:=Option.some.inj h1
 subst e2
 have hnd:=hB.nd
 have a:=Qc hf
 have b:=Qc hg
 refine h ((List.getElem_inj (h₀:=by rw[List.length_map];exact a) (h₁:=by rw[List.length_map];exact b) hnd).1 ?_)
 rw[List.getElem_map,List.getElem_map]
 rw[List.getElem?_eq_getElem a] at hf
 rw[List.getElem?_eq_getElem b] at hg
 rw[Option.some.inj hf,Option.some.inj hg]
theorem v7z{v:Envt}{s:Subj}{fs:List Frc}(hv:AsB v)(hF:FlX v)(hs:SubB s)(hN:NumB s)(hfs:fs.length<=1000000000){i:Nat}{f:Flg}(hf:v.4[i]? =some f){done:ByteArray->Option Dcs}{opn:ByteArray->Option Bool}
  {K:Dcs->(ByteArray->Option Dcs)->(ByteArray->Option Bool)->Prop}(hd:DnI v s fs done)(ho: ∀(j:Nat) g,j<=i->v.4[j]? =some g->opn g.1=none)(hK: ∀done',DnI v s fs done'->K (dcsV v s fs f) done' opn):
  Uc v.1.1 v.1.2 v.1.3 v.2 v.3 v.4 v.5 v.6 s.1 fs (mem v.3 s) done opn f K:=by
 intro X hX
 induction i using Nat.strongRecOn generalizing f done opn K with
 |ind i ih=>
  refine hX _ _ _ _ _ _ _ _ _ _ _ _ _ _ _ ?_
  clear hX
  have hm:=getm hf
  have hvs:=hF.vs f hm
  unfold R4
  refine Jn1.mk (fun t=> ∃done',DnI v s fs done'/\t=(f.1,(dcsV v s fs f).2,(dcsV v s fs f).3.1,(dcsV v s fs f).3.2,(dcsV v s fs f).3.3,(dcsV v s fs f).3.4,(dcsV v s fs f).4.1,(dcsV v s fs f).4.2,(dcsV v s fs f).4.3,(dcsV v s fs f).4.4,(dcsV v s fs f).5,done',opn,())) ?_ ?_
  case refine_2=>
   rintro _ ⟨done',hd',rfl⟩
   exact q3x (y0i hvs.2) (hK done' hd')
  have fin: ∀{n:Int} {r:Rsn} {done1:ByteArray->Option Dcs} {opn1:ByteArray->Option Bool},DnI v s fs done1->opn1=put opn f.1 true->dcV v s fs f=(n,r)-> ∃done',DnI v s fs done'/\(f.1,n,(valV f.3 n).1,(valV f.3 n).2,(valV f.3 n).3,(valV f.3 n).4,r.1,r.2,r.3,r.4,(0:Int),put done1 f.1 (Dcs.mk f.1 n (valV f.3 n) r 0),dlt opn1 f.1,())=(f.1,(dcsV v s fs f).2,(dcsV v s fs f).3.1,(dcsV v s fs f).3.2,(dcsV v s fs f).3.3,(dcsV v s fs f).3.4,(dcsV v s fs f).4.1,(dcsV v s fs f).4.2,(dcsV v s fs f).4.3,(dcsV v s fs f).4.4,(dcsV v s fs f).5,done',opn,()):=by
   intro n r done1 opn1 h1 h2 h3
   have e:dcsV v s fs f=Dcs.mk f.1 n (valV f.3 n) r 0:=by unfold dcsV;rw[h3]
   refine⟨_,h1.put hm,?_⟩
   rw[e,h2,y4z (ho i f (Nat.le_refl _) hf)]
  refine Cnd.mk (fun hm1=> ?_) fun hm1=> ?_
  ·obtain⟨d,hdd⟩:=Option.isSome_iff_exists.1 hm1
   rw[hdd]
   obtain⟨g,hg,hk,rfl⟩:=hd _ _ hdd
   obtain⟨j,hj⟩:=List.getElem?_of_mem hg
   have e:g=f:=by
    have a1:=v05 hF.b hj
    rw[←hk,v05 hF.b hf] at a1
    exact (Option.some.inj a1).symm
   subst e
   exact⟨done,hd,rfl⟩
  have hdc:=y1t (s:=s) (fs:=fs) hF.b hf
  unfold chsV at hdc
  refine Cnd.mk (fun hon=>fun _=> ?_) fun hon=> ?_
  case refine_2=>
   rw[if_pos (by simpa using hon)] at hdc
   exact q9i hvs.1 (fin hd rfl hdc)
  rw[if_neg (by rw[hon];simp)] at hdc
  have hol: ∀(j:Nat) g,j<i->v.4[j]? =some g->put opn f.1 true g.1=none:=fun j g hj hg=>by
   unfold Fl.put
   rw[if_neg (nodup_at hF.b hg hf (by omega))]
   exact ho j g (by omega) hg
  have hpl:=hF.p f hm
  refine LpH.ind (fun t=> ∃(j:Nat) (a b:Int) (c:ByteArray) (e:Int) (done1:ByteArray->Option Dcs),t=((j:Int),a,b,c,e,put opn f.1 true,done1,())/\j<=f.6.length/\DnI v s fs done1/\(f.6.find? fun p=> !metV v (fun g=>(dcV v s fs g).1) p)=(f.6.drop j).find? fun p=> !metV v (fun g=>(dcV v s fs g).1) p) (fun t=>(f.6.length - t.1).toNat) ?_ ⟨0,_,_,_,_,done,rfl,by omega,hd,rfl⟩
  rintro _ ⟨j,a,b,c,e,done1,rfl,hj,hd1,hfd⟩
  dsimp only
  refine Cnd.mk (fun hlt=>⟨by omega,fun p hp=> ?_⟩) fun hlt=> ?_
  ·have hp:f.6[j]? =some p:=hp
   have miss:metV v (fun g=>(dcV v s fs g).1) p=false->dcV v s fs f=(f.5,Rsn.mk 2 0 p.1 (-1)):=fun hmf=>by
    rw[hfd,B4 hp (by rw[hmf];rfl)] at hdc;exact hdc
   refine j8j (v:=v) (s:=s) hF.n ?_
   cases hfo:fof v p.1 with
   |none=>exact Cnd.no (by simp) (q9i hvs.1 (fin hd1 rfl (miss (by unfold metV;rw[hfo]))))
   |some g=>
    obtain⟨q,hq,hpk⟩:=w6u hfo
    have hqi:=hF.b.ord i f hf p (getm hp) q g hq hpk
    refine Cnd.yes rfl (Cnd.mk (fun hgo=>Cnd.no ?_ ?_) fun hgo=> ?_)
    ·show ¬(put opn f.1 true g.1).getD false=true
     rw[hol q g hqi hq];simp
    ·refine ih q hqi hq hd1 (fun j' g' hj' hg'=>hol j' g' (by omega) hg') fun done2 hd2=> ?_
     refine Cnd.mk (fun he=>⟨by unfold InI;omega,⟨j+1,a,b,c,e,done2,rfl,by omega,hd2,?_⟩,by show ((f.6.length:Int) - ((j:Int)+1)).toNat<((f.6.length:Int) - (j:Int)).toNat;omega⟩) fun he=>q9i hvs.1 (fin hd2 rfl (miss ?_))
     ·have he:(dcV v s fs g).1=p.2:=he
      rw[hfd,Wf hp]
      unfold metV;rw[hfo];simp only
      have hgo:g.4=true:=hgo
      rw[hgo,dt he];rfl
     ·have he: ¬(dcV v s fs g).1=p.2:=he
      unfold metV;rw[hfo];simp only
      rw[df he];simp
    ·have hgo: ¬g.4=true:=hgo
     refine q9i hvs.1 (fin hd1 rfl (miss ?_))
     unfold metV;rw[hfo];simp only
     rw[Bool.eq_false_iff.2 hgo];rfl
  ·rw[hfd,List.drop_eq_nil_of_le (by omega),List.find?_nil] at hdc
   clear hfd hlt
   refine j09 (f:=f) (s:=s) hs (hF.t f hm).1 (hF.t f hm).2 ?_
   unfold tgtV
   cases hix:ixF (tgP s) f.7 0 with
   |some q=>
    rw[hix] at hdc
    have hsp:=w89 hix
    refine Cnd.yes (by simp only;omega) ⟨by have:=Qc hsp.2.1;have:=(hF.t f hm).1;unfold InI;simp only;omega,by have:=Qc hsp.2.1;simp only;omega,fun y hy=> ?_⟩
    simp only at hy
    have hq2:=hsp.2.1
    rw[show ((q.1:Int)+1 - 1).toNat=q.1 - 0 by omega,hq2] at hy
    cases hy
    exact q9i hvs.1 (fin (r:=Rsn.mk 3 ((q.1:Int)+1) noT (-1)) hd1 rfl hdc)
   |none=>
    rw[hix] at hdc
    simp only at hdc
    refine Cnd.no (by simp) fun _=> ?_
    have hxl:=hv.xn
    refine LpH.ind (fun t=> ∃(j:Nat) (a b:Int) (c:ByteArray) (e:Int) (done1:ByteArray->Option Dcs),t=((j:Int),a,b,c,e,done1,put opn f.1 true,())/\j<=v.6.length/\DnI v s fs done1/\v.6.find? (inXV v s fs f.1)=(v.6.drop j).find? (inXV v s fs f.1)) (fun t=>(v.6.length - t.1).toNat) ?_ ⟨0,_,_,_,_,done1,rfl,by omega,hd1,rfl⟩
    clear hd1
    rintro _ ⟨j,a,b,c,e,done1,rfl,hj,hd1,hfd⟩
    dsimp only
    refine Cnd.mk (fun hlt=>⟨by omega,fun x hx=> ?_⟩) fun hlt=> ?_
    ·have hx:v.6[j]? =some x:=hx
     have next:inXV v s fs f.1 x=false->InI ((j:Int)+1)/\(∃(j':Nat) (a' b':Int) (c':ByteArray) (e':Int) (done2:ByteArray->Option Dcs),((j:Int)+1,a,b,c,e,done1,put opn f.1 true,())=((j':Int),a',b',c',e',done2,put opn f.1 true,())/\j'<=v.6.length/\DnI v s fs done2/\v.6.find? (inXV v s fs f.1)=(v.6.drop j').find? (inXV v s fs f.1))/\((v.6.length:Int) - ((j:Int)+1)).toNat<((v.6.length:Int) - (j:Int)).toNat:=fun hn=>
      ⟨by unfold InI;omega,⟨j+1,a,b,c,e,done1,rfl,by omega,hd1,by rw[hfd,Wf hx hn]⟩,by omega⟩
     refine Cnd.mk (fun h3=>Cnd.mk (fun h5=> ?_) fun h5=>next ?_) fun h3=>next ?_
     ·refine q8h (v:=v) (s:=s) hv hs hfs (Cnd.mk (fun he=>Cnd.mk (fun hxk=> ?_) fun hxk=>next ?_) fun he=>next ?_)
      ·have hin:inXV v s fs f.1 x=true:=z9a (dt h3) (z9a (dt h5) (dt hxk))
       rw[hfd,B4 hx hin] at hdc
       exact w3w (v:=v) (s:=s) hv hs (hv.xs x (getm hx)) (q9i hvs.1 (fin (r:=Rsn.mk 4 0 x.1 (abV v s x)) hd1 rfl hdc))
      ·exact Rt (.inr (Rt (.inr (df hxk))))
      ·refine Rt (.inr (Rt (.inr (df ?_))))
       rw[y42 he]
       exact fun e=>hF.x x (getm hx) e.symm
     ·exact Rt (.inr (Rt (.inl (df h5))))
     ·exact Rt (.inl (df h3))
    ·rw[hfd,List.drop_eq_nil_of_le (by omega),List.find?_nil] at hdc
     simp only at hdc
     clear hfd hlt
     unfold rlsV at hdc
     have hr:=hF.r f hm
     refine fun _=>LpH.ind (fun t=> ∃(j:Nat) (a b:Int) (c:ByteArray) (e:Int) (done1:ByteArray->Option Dcs),t=((j:Int),a,b,c,e,put opn f.1 true,done1,())/\j<=f.8.length/\DnI v s fs done1/\ixF (fun r=>cndV v s r.2) f.8 0=ixF (fun r=>cndV v s r.2) (f.8.drop j) j) (fun t=>(f.8.length - t.1).toNat) ?_ ⟨0,_,_,_,_,done1,rfl,by omega,hd1,rfl⟩
     clear hd1
     rintro _ ⟨j,a,b,c,e,done1,rfl,hj,hd1,hfd⟩
     dsimp only
     refine Cnd.mk (fun hlt=>⟨by omega,fun r hr0=> ?_⟩) fun hlt=> ?_
     ·have hr0:f.8[j]? =some r:=hr0
      have hrm:=hr.2 r (getm hr0)
      refine z0l (s:=s) hs _ (Nat.le_refl _) (by rw[V9];exact hrm.1) (by rw[V9];exact hrm.2.1) ?_
      rw[V9]
      refine Cnd.mk (fun hc=>⟨by unfold InI;omega,?_⟩) fun hc=> ?_
      ·rw[hfd,v04 hr0 hc] at hdc
       exact j31 (v:=v) (s:=s) (r:=Rsn.mk 5 ((j:Int)+1) r.1 0) hs hN hrm.2.2 (q9i hvs.1 (fin hd1 rfl hdc))
      ·refine⟨by unfold InI;omega,⟨j+1,a,b,c,e,done1,rfl,by omega,hd1,?_⟩,by show ((f.8.length:Int) - ((j:Int)+1)).toNat<((f.8.length:Int) - (j:Int)).toNat;omega⟩
       rw[hfd,w3s hr0 (Bool.eq_false_iff.2 hc)]
     ·rw[hfd,List.drop_eq_nil_of_le (by omega)] at hdc
      exact j31 (v:=v) (s:=s) (r:=Rsn.mk 6 0 noT 0) hs hN (hF.d f hm) (q9i hvs.1 (fin hd1 rfl hdc))
end Go.En
end
noncomputable section
set_option maxRecDepth 100000
namespace Go.En
open Go Go.Fl Go.Fl.Lk Go.Fx
def flgV(v:Envt)(s:Subj)(fs:List Frc)(key:ByteArray):Dcs×Int:=match fof v key with
 |some f=>(dcsV v s fs f,0)
 |none=>(noD,11)
theorem j4x{v:Envt}{s:Subj}{fs:List Frc}{key:ByteArray}{K:Dcs->Int->Prop}(hv:AsB v)(hF:FlX v)(hs:SubB s)(hN:NumB s)(hfs:fs.length<=1000000000)(h:K (flgV v s fs key).1 (flgV v s fs key).2):q15 v s fs key K:=by
 unfold q15 q7v
 unfold flgV at h
 refine j3e (v:=v) (s:=s) hv hs (j8j (v:=v) (s:=s) hF.n ?_)
 cases hf:fof v key with
 |none=>rw[hf] at h;exact Cnd.no (by simp) h
 |some f=>
  rw[hf] at h
  obtain⟨i,hi,_⟩:=w6u hf
  exact Cnd.yes rfl (v7z hv hF hs hN hfs hi DnI.nil (fun _ _ _ _=>rfl) fun _ _=>h)
end Go.En
end
noncomputable section
set_option maxRecDepth 100000
namespace Go.En
open Go Go.Fl Go.Fl.Lk Go.Fx
theorem z9d{f:Flg}{n:Int}{r:Rsn}{K:Dcs->Prop}(hl:f.3.length<=1000000)(h:K (Dcs.mk f.1 n (valV f.3 n) r 0)):q0x f n r K:=by
 unfold q0x
 unfold valV at h
 refine Cnd.mk (fun h1 _=>Cnd.mk (fun h2=>⟨by unfold InI;omega,by omega,fun y hy=> ?_⟩) fun h2=> ?_) fun h1=> ?_
 ·rw[if_pos ⟨h1,h2⟩,hy] at h;exact h
 ·rw[if_neg (fun k=>h2 k.2)] at h;exact h
 ·rw[if_neg (fun k=>h1 k.1)] at h;exact h
theorem j1a{v:Envt}{key:ByteArray}{K:Int->Prop}(hn:v.4.length<=1000)(h0:fof v key=none->K (-1))(h1: ∀(j:Nat) g,v.4[j]? =some g->fof v key=some g->K (j:Int)):H6 v key K:=by
 unfold H6
 exact w84 (fun g:Flg=>decide (g.1=key)) (by omega) h0 fun i y Y hy _ hp hq=>Cnd.mk (fun he=>h1 i y hy (hp (dt he))) fun he=>hq (df he)
theorem j4y{v:Envt}{s:Subj}{x:Exper}{K:Int->Prop}(hv:AsB v)(hs:SubB s)(hx:x.4.size<=10000000)(h:K (abV v s x)):Ul v s x K:=by
 unfold Ul q71
 unfold abV at h
 refine z7w (v:=v) hv.ln (fun hn=>by rw[hn] at h;exact Cnd.yes (by omega) h) fun j l hl hlo=>Cnd.no (by omega) ⟨by have:=Qc hl;omega,fun y hy=> ?_⟩
 have hy:v.5[j]? =some y:=hy
 rw[hl] at hy;cases hy
 rw[hlo] at h
 simp only at h
 refine q65 (s:=s) hs ?_
 cases hf:fnd s l.2 with
 |none=>rw[hf] at h;exact Cnd.no (by simp) h
 |some c=>rw[hf] at h;exact Cnd.yes rfl (q4l hx (z5r hs hf) h)
theorem w6y{v:Envt}{s:Subj}{fs:List Frc}{K:ByteArray->ByteArray->Int->List Decl->List Seg->List Flg->List Lay_->List Exper->List Ctxt->List Frc->List ByteArray->List Bool->List Dcs->Prop}(hv:AsB v)(hs:SubB s)(hn:v.4.length<=1000)
  (h:K v.1.1 v.1.2 v.1.3 v.2 v.3 v.4 v.5 v.6 s.1 fs (mem v.3 s) (List.replicate v.4.length false) (List.replicate v.4.length noD)):z2h v s fs K:=by
 unfold z2h z8e
 have one: ∀{K':List ByteArray->Prop},K' (mem v.3 s)->Rq v.3 (Subj.mk s.1) K':=fun h=>z7v hv.sg hs fun m hm=>by rw[v0v hm];exact h
 have sz:0<=(v.4.length:Int)/\(v.4.length:Int)<=(v.4.length:Int)/\Sml ((v.4.length:Int)).toNat:=⟨by omega,by omega,by unfold Sml;omega⟩
 refine fun _ _=> ?_
 rw[show ((v.4.length:Int)).toNat=v.4.length from rfl] at sz⊢
 exact⟨one ⟨⟨sz,sz,h⟩,sz,sz,h⟩,⟨sz,one ⟨sz,h⟩,sz,one h⟩,sz,one ⟨sz,h⟩,sz,one h⟩
section
variable {v:Envt}{s:Subj}{fs:List Frc}{inn:List ByteArray}{done:List Bool}{known:List Dcs}
theorem w6z{f:Flg}{sv:Srv}{r:Rsn}{K:Dcs->List Bool->List Dcs->Prop}(hs:SubB s)(hN:NumB s)(hb:SrvB sv)(hl:f.3.length<=1000000)(h:K (Dcs.mk f.1 (svd s f.5 sv r.1 r.2 r.3).1 (valV f.3 (svd s f.5 sv r.1 r.2 r.3).1) (svd s f.5 sv r.1 r.2 r.3).2 0) done known):
  Z8 v.1.1 v.1.2 v.1.3 v.2 v.3 v.4 v.5 v.6 s.1 fs inn done known f sv r K:=by
 unfold Z8 R5
 unfold svd at h
 refine w6x (s:=s) hs hN hb.1 hb.2 (Cnd.mk (fun e=> ?_) fun e=> ?_)
 ·rw[if_pos e] at h;exact z9d hl h
 ·rw[if_neg e] at h;exact z9d hl h
end
end Go.En
end
noncomputable section
set_option maxRecDepth 100000
namespace Go.En
open Go Go.Fl Go.Fl.Lk Go.Fx
def DnL(v:Envt)(s:Subj)(fs:List Frc)(n:Nat)(done:List Bool)(known:List Dcs):Prop:=
 done.length=v.4.length/\known.length=v.4.length/\ ∀(q:Nat) g,q<n->v.4[q]? =some g->done[q]? =some true->known[q]? =some (dcsV v s fs g)
theorem DnL.all{v:Envt}{s:Subj}{fs:List Frc}{n m:Nat}{done:List Bool}{known:List Dcs}(h:DnL v s fs n done known)(hm:m<=n∨v.4.length<=n):DnL v s fs m done known:=
 ⟨h.1,h.2.1,fun q g hq hg hd=>h.2.2 q g (by have:=Qc hg;omega) hg hd⟩
theorem DnL.nil{v:Envt}{s:Subj}{fs:List Frc}{n:Nat}:DnL v s fs n (List.replicate v.4.length false) (List.replicate v.4.length noD):=
 ⟨by simp,by simp,fun q g _ _ hd=>by
  rw[List.getElem?_replicate] at hd
  split at hd<;>simp at hd⟩
def Abv(i:Nat)(done:List Bool)(known:List Dcs)(done':List Bool)(known':List Dcs):Prop:= ∀j,i<j->done'[j]? =done[j]? /\known'[j]? =known[j]?
theorem y43{v:Envt}{s:Subj}{fs:List Frc}(hv:AsB v)(hF:FlX v)(hs:SubB s)(hN:NumB s)(hfs:fs.length<=1000000000){i:Nat}{f:Flg}(hf:v.4[i]? =some f){done:List Bool}{known:List Dcs}
  {K:Dcs->List Bool->List Dcs->Prop}(hd:DnL v s fs (i+1) done known)(hK: ∀done' known',DnL v s fs (i+1) done' known'->Abv i done known done' known'->K (dcsV v s fs f) done' known'):
  Gc v.1.1 v.1.2 v.1.3 v.2 v.3 v.4 v.5 v.6 s.1 fs (mem v.3 s) done known (i:Int) K:=by
 intro X hX
 induction i using Nat.strongRecOn generalizing f done known K with
 |ind i ih=>
  refine hX _ _ _ _ _ _ _ _ _ _ _ _ _ _ _ ?_
  clear hX
  have hm:=getm hf
  have hlt:=Qc hf
  have hvs:=hF.vs f hm
  have hnn:=hF.n
  have it:((i:Nat):Int).toNat=i:=rfl
  unfold q0m
  rw[it]
  refine Jn2.mk (fun a b=>DnL v s fs (i+1) a b/\Abv i done known a b/\b[i]? =some (dcsV v s fs f)) ?_ ?_
  case refine_2=>
   rintro a b ⟨h1,h2,h3⟩
   refine⟨by have:=Qc h3;omega,fun y hy=> ?_⟩
   have hy:b[i]? =some y:=hy
   rw[h3] at hy;cases hy
   exact hK a b h1 h2
  have h1:=hd.1
  refine⟨by omega,fun b hb=>Cnd.mk (fun ht=> ?_) fun _=>⟨by omega,fun _ _=>⟨by omega,fun y hy=> ?_⟩⟩⟩
  ·have hb:done[i]? =some b:=hb
   subst ht
   exact⟨hd,fun _ _=>⟨rfl,rfl⟩,hd.2.2 i f (by omega) hf hb⟩
  have hy:v.4[i]? =some y:=hy
  rw[hf] at hy;cases hy
  have ini:DnL v s fs i (done.set i true) known/\Abv i done known (done.set i true) known:=
   ⟨⟨by rw[List.length_set];exact hd.1,hd.2.1,fun q g hq hg hdn=>hd.2.2 q g (by omega) hg (by rw[List.getElem?_set_ne (by omega)] at hdn;exact hdn)⟩,fun j hj=>⟨by rw[List.getElem?_set_ne (by omega)],rfl⟩⟩
  generalize done.set i true=d0 at ini⊢
  have fin0: ∀{n:Int} {r:Rsn} {d:List Bool} {k:List Dcs},DnL v s fs i d k/\Abv i done known d k->dcV v s fs f=(n,r)->
    At k (i:Int) fun _=>DnL v s fs (i+1) d (k.set i (Dcs.mk f.1 n (valV f.3 n) r 0))/\Abv i done known d (k.set i (Dcs.mk f.1 n (valV f.3 n) r 0))/\(k.set i (Dcs.mk f.1 n (valV f.3 n) r 0))[i]? =some (dcsV v s fs f):=by
   intro n r d k ⟨hdk,hab⟩ he
   have e:dcsV v s fs f=Dcs.mk f.1 n (valV f.3 n) r 0:=by unfold dcsV;rw[he]
   have hkl:=hdk.2.1
   rw[←e]
   refine⟨by omega,fun _ _=>⟨⟨hdk.1,by rw[List.length_set];exact hdk.2.1,fun q g hq hg hdn=> ?_⟩,fun j hj=>⟨(hab j hj).1,by rw[List.getElem?_set_ne (by omega)];exact (hab j hj).2⟩,by rw[List.getElem?_set_self (by omega)]⟩⟩
   by_cases hqi:q=i
   ·subst hqi
    rw[hf] at hg;cases hg
    rw[List.getElem?_set_self (by omega)]
   ·rw[List.getElem?_set_ne (by omega)];exact hdk.2.2 q g (by omega) hg hdn
  have fin: ∀{n:Int} {r:Rsn} {d:List Bool} {k:List Dcs},DnL v s fs i d k/\Abv i done known d k->dcV v s fs f=(n,r)->
    q0x f n r fun x=>At k (i:Int) fun _=>DnL v s fs (i+1) d (k.set i x)/\Abv i done known d (k.set i x)/\(k.set i x)[i]? =some (dcsV v s fs f):=
   fun hi he=>z9d hvs.1 (fin0 hi he)
  have hdc:=y1t (s:=s) (fs:=fs) hF.b hf
  unfold chsV at hdc
  refine (fun h=>⟨h,h⟩: ∀{A:Prop},A->A/\A) (Cnd.mk (fun hon=> ?_) fun hon=> ?_)
  case refine_2=>
   rw[if_pos (by simpa using hon)] at hdc
   exact fin ini hdc
  rw[if_neg (by rw[hon];simp)] at hdc
  have hpl:=hF.p f hm
  refine LpH.ind (fun t=> ∃(j:Nat) (d:List Bool) (k:List Dcs),t=((j:Int),noT,(0:Int),(0:Int),(0:Int),noT,[],(0:Int),(0:Int),noT,(0:Int),(0:Int),k,d,())/\j<=f.6.length/\(DnL v s fs i d k/\Abv i done known d k)/\(f.6.find? fun p=> !metV v (fun g=>(dcV v s fs g).1) p)=(f.6.drop j).find? fun p=> !metV v (fun g=>(dcV v s fs g).1) p) (fun t=>(f.6.length - t.1).toNat) ?_ ⟨0,d0,known,rfl,by omega,ini,rfl⟩
  clear ini
  rintro _ ⟨j,d,k,rfl,hj,hi,hfd⟩
  dsimp only
  refine fun _=>Cnd.mk (fun hlt=>⟨by omega,fun p hp=> ?_⟩) fun hlt=> ?_
  ·have hp:f.6[j]? =some p:=hp
   have at_: ∀{y:Prq},f.6[((j:Nat):Int).toNat]? =some y->y=p:=fun {y} hy=>by
    have hy:f.6[j]? =some y:=hy
    rw[hp] at hy;exact (Option.some.inj hy).symm
   have miss:metV v (fun g=>(dcV v s fs g).1) p=false->dcV v s fs f=(f.5,Rsn.mk 2 0 p.1 (-1)):=fun hmf=>by
    rw[hfd,B4 hp (by rw[hmf];rfl)] at hdc;exact hdc
   refine j1a (v:=v) hnn (fun hno=> ?_) fun q g hq hfo=> ?_
   ·refine Cnd.no (by omega) ⟨by omega,fun y hy=> ?_⟩
    rw[at_ hy]
    exact fin hi (miss (by unfold metV;rw[hno]))
   ·have hql:=Qc hq
    refine Cnd.yes (by omega) ⟨by omega,fun y hy=> ?_⟩
    have hy:v.4[q]? =some y:=hy
    rw[hq] at hy;cases hy
    obtain⟨q0,hq0,hpk⟩:=w6u hfo
    have hqi:=hF.b.ord i f hf p (getm hp) q g hq hpk
    refine Cnd.mk (fun hgo=> ?_) fun hgo=> ?_
    ·refine ih q hqi hq (hi.1.all (.inl (by omega))) fun d2 k2 h2 h2a=> ?_
     have hi2:DnL v s fs i d2 k2/\Abv i done known d2 k2:=⟨⟨h2.1,h2.2.1,fun q' g' hq' hg' hdn=>by
       by_cases hle:q'<=q
       ·exact h2.2.2 q' g' (by omega) hg' hdn
       ·have hh:=h2a q' (by omega)
        rw[hh.2];rw[hh.1] at hdn
        exact hi.1.2.2 q' g' hq' hg' hdn⟩,fun j' hj'=>by
       have hh:=h2a j' (by omega)
       have h3:=hi.2 j' hj'
       rw[hh.1,hh.2];exact h3⟩
     refine Cnd.mk (fun he=>⟨by unfold InI;omega,⟨j+1,d2,k2,rfl,by omega,hi2,?_⟩,by show ((f.6.length:Int) - ((j:Int)+1)).toNat<((f.6.length:Int) - (j:Int)).toNat;omega⟩) fun he=>⟨by omega,fun y2 hy2=> ?_⟩
     ·have he:(dcV v s fs g).1=p.2:=he
      rw[hfd,Wf hp]
      unfold metV;rw[hfo];simp only
      have hgo:g.4=true:=hgo
      rw[hgo,dt he];rfl
     ·rw[at_ hy2]
      refine fin hi2 (miss ?_)
      have he: ¬(dcV v s fs g).1=p.2:=he
      unfold metV;rw[hfo];simp only
      rw[df he];simp
    ·have hgo: ¬g.4=true:=hgo
     refine⟨by omega,fun y2 hy2=> ?_⟩
     rw[at_ hy2]
     refine fin hi (miss ?_)
     unfold metV;rw[hfo];simp only
     rw[Bool.eq_false_iff.2 hgo];rfl
  ·rw[hfd,List.drop_eq_nil_of_le (by omega),List.find?_nil] at hdc
   clear hfd hlt
   have hft:=hF.t f hm
   refine w3v (f:=f) (s:=s) hs hft.1 ?_
   unfold tgtV
   cases hix:ixF (tgP s) f.7 0 with
   |some q=>
    rw[hix] at hdc
    have hsp:=w89 hix
    have hq2:=hsp.2.1
    have hql:=Qc hq2
    refine Cnd.yes (by simp only;omega) ⟨by unfold InI;simp only;omega,by simp only;omega,fun y hy=> ?_⟩
    simp only at hy
    rw[show ((q.1:Int)+1 - 1).toNat=q.1 - 0 by omega,hq2] at hy
    cases hy
    exact fin (r:=Rsn.mk 3 ((q.1:Int)+1) noT (-1)) hi hdc
   |none=>
    rw[hix] at hdc
    simp only at hdc
    refine Cnd.no (by simp) ?_
    have hxl:=hv.xn
    refine LpH.ind (fun t=> ∃(j:Nat),t=((j:Int),noT,(0:Int),(0:Int),(0:Int),noT,[],(0:Int),(0:Int),noT,(0:Int),(0:Int),())/\j<=v.6.length/\v.6.find? (inXV v s fs f.1)=(v.6.drop j).find? (inXV v s fs f.1)) (fun t=>(v.6.length - t.1).toNat) ?_ ⟨0,rfl,by omega,rfl⟩
    rintro _ ⟨j,rfl,hj,hfd⟩
    dsimp only
    refine fun _=>Cnd.mk (fun hlt=>⟨by omega,fun x hx=> ?_⟩) fun hlt=> ?_
    ·have hx:v.6[j]? =some x:=hx
     have next:inXV v s fs f.1 x=false->InI ((j:Int)+1)/\(∃(j':Nat),((j:Int)+1,noT,(0:Int),(0:Int),(0:Int),noT,([]:List ByteArray),(0:Int),(0:Int),noT,(0:Int),(0:Int),())=((j':Int),noT,(0:Int),(0:Int),(0:Int),noT,[],(0:Int),(0:Int),noT,(0:Int),(0:Int),())/\j'<=v.6.length/\v.6.find? (inXV v s fs f.1)=(v.6.drop j').find? (inXV v s fs f.1))/\((v.6.length:Int) - ((j:Int)+1)).toNat<((v.6.length:Int) - (j:Int)).toNat:=fun hn=>
      ⟨by unfold InI;omega,⟨j+1,rfl,by omega,by rw[hfd,Wf hx hn]⟩,by omega⟩
     refine Cnd.mk (fun h3=>Cnd.mk (fun h5=> ?_) fun h5=>next ?_) fun h3=>next ?_
     ·refine w6g (v:=v) (s:=s) hv hs hfs (Cnd.mk (fun hxk=> ?_) fun hxk=>next ?_)
      ·have hin:inXV v s fs f.1 x=true:=z9a (dt h3) (z9a (dt h5) (dt hxk))
       rw[hfd,B4 hx hin] at hdc
       rw[V9]
       refine j4y (v:=v) (s:=s) (x:=x) hv hs (hv.xs x (getm hx)) ?_
       exact fin (r:=Rsn.mk 4 0 x.1 (abV v s x)) hi hdc
      ·exact Rt (.inr (Rt (.inr (df hxk))))
     ·exact Rt (.inr (Rt (.inl (df h5))))
     ·exact Rt (.inl (df h3))
    ·rw[hfd,List.drop_eq_nil_of_le (by omega),List.find?_nil] at hdc
     simp only at hdc
     clear hfd hlt
     unfold rlsV at hdc
     have hr:=hF.r f hm
     refine LpH.ind (fun t=> ∃(j:Nat),t=((j:Int),noT,(0:Int),(0:Int),(0:Int),noT,[],(0:Int),(0:Int),noT,(0:Int),(0:Int),d,k,())/\j<=f.8.length/\ixF (fun r=>cndV v s r.2) f.8 0=ixF (fun r=>cndV v s r.2) (f.8.drop j) j) (fun t=>(f.8.length - t.1).toNat) ?_ ⟨0,rfl,by omega,rfl⟩
     rintro _ ⟨j,rfl,hj,hfd⟩
     dsimp only
     have sv: ∀{sv:Srv} {r:Rsn},SrvB sv->dcV v s fs f=svd s f.5 sv r.1 r.2 r.3->Z8 v.1.1 v.1.2 v.1.3 v.2 v.3 v.4 v.5 v.6 s.1 fs (mem v.3 s) d k f sv r fun x d' k'=>At k' (i:Int) fun _=>DnL v s fs (i+1) d' (k'.set i x)/\Abv i done known d' (k'.set i x)/\(k'.set i x)[i]? =some (dcsV v s fs f):=fun hb he=>
      w6z (v:=v) (s:=s) hs hN hb hvs.1 (fin0 hi he)
     refine fun _=>Cnd.mk (fun hlt=>⟨by omega,fun r hr0=> ?_⟩) fun hlt=> ?_
     ·have hr0:f.8[j]? =some r:=hr0
      have at_: ∀{y:Rul},f.8[((j:Nat):Int).toNat]? =some y->y=r:=fun {y} hy=>by
       have hy:f.8[j]? =some y:=hy
       rw[hr0] at hy;exact (Option.some.inj hy).symm
      have hrm:=hr.2 r (getm hr0)
      refine z87 (s:=s) hs _ (Nat.le_refl _) (by rw[V9];exact hrm.1) (by rw[V9];exact hrm.2.1) ?_
      rw[V9]
      refine Cnd.mk (fun hc=>⟨by omega,fun y hy=>⟨by unfold InI;omega,by omega,fun y2 hy2=> ?_⟩⟩) fun hc=>⟨by unfold InI;omega,⟨j+1,rfl,by omega,?_⟩,by show ((f.8.length:Int) - ((j:Int)+1)).toNat<((f.8.length:Int) - (j:Int)).toNat;omega⟩
      ·rw[at_ hy,at_ hy2]
       rw[hfd,v04 hr0 hc] at hdc
       exact sv (sv:=r.3) (r:=Rsn.mk 5 ((j:Int)+1) r.1 0) hrm.2.2 hdc
      ·rw[hfd,w3s hr0 (Bool.eq_false_iff.2 hc)]
     ·rw[hfd,List.drop_eq_nil_of_le (by omega)] at hdc
      exact sv (sv:=f.9) (r:=Rsn.mk 6 0 noT 0) (hF.d f hm) hdc
theorem w9a{v:Envt}{s:Subj}{fs:List Frc}{key:ByteArray}{K:Dcs->Int->Prop}(hv:AsB v)(hF:FlX v)(hs:SubB s)(hN:NumB s)(hfs:fs.length<=1000000000)(h:K (flgV v s fs key).1 (flgV v s fs key).2):z6l v s fs key K:=by
 unfold z6l j2h
 unfold flgV at h
 refine j1a (v:=v) hF.n (fun hno=> ?_) fun q g hq hfo=> ?_
 ·rw[hno] at h;exact Cnd.yes (by omega) h
 ·rw[hfo] at h
  exact Cnd.no (by omega) (w6y (v:=v) (s:=s) hv hs hF.n (y43 hv hF hs hN hfs hq DnL.nil fun _ _ _ _=>h))
end Go.En
end
noncomputable section
set_option maxRecDepth 100000
namespace Go.En
open Go Go.Fl Go.Fl.Lk Go.Fx
theorem j3f{sT:ByteArray}{ho c a b:Int}{f:Flg}(h:f∈(mkE sT ho c a b).4): ∃k,f=flM k:=by
 obtain⟨k,_,rfl⟩:=List.mem_map.1 h
 exact⟨k,rfl⟩
theorem y65{sT:ByteArray}{ho c a b:Int}:FlX (mkE sT ho c a b) where
 b:=⟨by
  show ((fN.map flM).map Flg.key).Nodup
  rw[List.map_map]
  show (fN.map fun k=>k).Nodup
  decide,fun i f hf p hp=>by
   obtain⟨k,rfl⟩:=j3f (List.mem_of_getElem? hf)
   cases hp⟩
 n:=by show (fN.map flM).length<=1000;rw[List.length_map];decide
 vs f hf:=by
  obtain⟨k,rfl⟩:=j3f hf
  refine⟨by show (3:Nat)<=1000000;decide,fun x hx=> ?_⟩
  have hx:x∈[vlM 0,vlM 1,vlM 2]:=hx
  rcases List.mem_cons.1 hx with rfl|hx
  ·exact Nat.zero_le _
  rcases List.mem_cons.1 hx with rfl|hx
  ·exact Nat.zero_le _
  rw[List.mem_singleton.1 hx];exact Nat.zero_le _
 p f hf:=by obtain⟨k,rfl⟩:=j3f hf;exact Nat.zero_le _
 t f hf:=by obtain⟨k,rfl⟩:=j3f hf;exact⟨Nat.zero_le _,fun t ht=>by cases ht⟩
 r f hf:=by obtain⟨k,rfl⟩:=j3f hf;exact⟨Nat.zero_le _,fun t ht=>by cases ht⟩
 d f hf:=by obtain⟨k,rfl⟩:=j3f hf;exact⟨Nat.zero_le _,Nat.zero_le _⟩
 x x hx:=by
  obtain⟨i,hi,rfl⟩:=w3m hx
  have: ∀i,i<4->xN.getD i noT≠noT:=by decide
  exact this i hi
theorem v06(id:ByteArray):NumB (usr id):=fun c hc a ha=>by rw[List.mem_singleton.1 hc] at ha;cases ha
theorem v70{id:ByteArray}{K:Subj->Prop}(h:K (usr id)):q7d id K:=h
theorem v71{r:Reg}{v:Envt}{s:Subj}{id key:ByteArray}{t:Int}{K:Dcs->Int->Prop}(hv:AsB v)(hF:FlX v)(hs:SubB s)(hN:NumB s)(hsn:r.3.length<=100000)(h:K (flgV v s (forV r id t) key).1 (flgV v s (forV r id t) key).2):q3s r v s id key t K:=by
 unfold q3s q99
 have hl:=v03 r id t
 exact v7t (j4x (v:=v) (s:=s) (fs:=forV r id t) hv hF hs hN (by omega) h)
theorem y44{r:Reg}{v:Envt}{id key:ByteArray}{t:Int}(hi:id.size<=1000000000)(hr: ∀s∈r.3,s.1.size<=1000000000):(expV r v id key t).1.1.size<=1000000000/\(expV r v id key t).1.3.1.size<=1000000000:=by
 by_cases hc:regV r=true
 ·cases ha:atV r id key t with
  |none=>rw[j3b hc (.inl ha)];exact⟨Nat.zero_le _,Nat.zero_le _⟩
  |some s=>
   cases hl:lof v key with
   |none=>rw[j3b hc (.inr hl)];exact⟨Nat.zero_le _,Nat.zero_le _⟩
   |some y=>rw[j05 hc ha hl];exact⟨hi,hr s (w3g ha)⟩
 ·rw[w3h hc];exact⟨Nat.zero_le _,Nat.zero_le _⟩
theorem w3x{x:AEnv}{l:List Mov}{id layer flag:Int}(hx:AEB x)(hb: ∀m∈l,MvB m)(h1:0<=id/\id<=255)(h2:0<=layer/\layer<=255)(h3:0<=flag/\flag<=255){K:Bool->Prop}(h:K true):Js x l id layer flag K:=by
 unfold Js q2b
 refine y0d (Cnd.mk (fun _=>fun _=>Cnd.mk (fun _=>h) fun hl=>y4v hx ?_) fun e=>absurd rfl e)
 have hs:(sTof x.1).size<=1000:=by rw[j08];decide
 have hm:MdB (hoOf x.2) (cOf x.2 x.3) (aOf x.4) (bOf x.4 x.5):=v7j hx.h.1 hx.c.1 hx.a.1 hx.b.1
 unfold envX envV
 generalize sTof x.1=sT at hs⊢
 generalize hoOf x.2=ho at hm⊢
 generalize cOf x.2 x.3=c at hm⊢
 generalize aOf x.4=a at hm⊢
 generalize bOf x.4 x.5=b at hm⊢
 have hv:=v7m (ho:=ho) (c:=c) (a:=a) (b:=b) hs
 have hF:=y65 (sT:=sT) (ho:=ho) (c:=c) (a:=a) (b:=b)
 have h4:(mkE sT ho c a b).4.length=4:=by show (fN.map flM).length=4;rw[List.length_map];rfl
 refine y4y (l:=l) hs hm (by omega) hb fun r hp=> ?_
 have t0:=hp.t0
 have t1:=hp.t1
 have hsn:=hp.sn
 have hB:=hp.reg
 have l0:=Int.tmod_nonneg 3 h2.1
 have l1:=Int.tmod_lt_of_pos layer (b:=3) (by decide)
 refine Jn2.mk (fun i _=>i∈idN) ?_ fun i key hid=> ?_
 ·have one: ∀i:ByteArray,i∈idN-> ∀y:ByteArray,(lN++[(ByteArray.mk (Array.mk [110,111,110,101]))])[(layer.tmod 3).toNat]? =some y->i∈idN:=fun i hi _ _=>hi
  have lay: ∀i:ByteArray,i∈idN->q22 fun x6=>Sml (x6++[(ByteArray.mk (Array.mk [110,111,110,101]))]).length/\(0<=layer.tmod 3/\layer.tmod 3<(↑(x6++[(ByteArray.mk (Array.mk [110,111,110,101]))]).length:Int))/\ ∀y7,(x6++[(ByteArray.mk (Array.mk [110,111,110,101]))])[(layer.tmod 3).toNat]? =some y7->i∈idN:=fun i hi=>j07 ⟨by show Sml 3;unfold Sml;omega,⟨l0,l1⟩,fun _ _=>hi⟩
  exact⟨by unfold InI;omega,by decide,y0e h1.1 fun i hi=>⟨lay i hi,lay i hi⟩,y0e h1.1 fun i hi=>lay i hi⟩
 refine Lp1.ind (fun (t:Int)=> -1<=t/\t<=r.1+2) (fun (t:Int)=>(r.1+2 - t).toNat) ?_ ⟨by decide,by omega⟩
 rintro t ⟨t2,t3⟩
 refine⟨by unfold InI;omega,Cnd.mk (fun hc=> ?_) fun _=>h⟩
 refine w0k (r:=r) (v:=mkE sT ho c a b) (id:=i) (key:=key) (t:=t) hv (j9n (r:=r) (v:=mkE sT ho c a b) (id:=i) (key:=key) (t:=t) hv hB (Cnd.mk (fun _=> ?_) fun e=>absurd rfl e))
 have hel:=y0b (r:=r) (v:=mkE sT ho c a b) (id:=i) (key:=key) (t:=t)
 obtain⟨z1,z2⟩:=y44 (r:=r) (v:=mkE sT ho c a b) (id:=i) (key:=key) (t:=t) (Nat.le_trans (q5d (w0l hid)) (by decide)) fun s hs=>(hB.sl s hs).1
 refine y4m (a:=(expV r (mkE sT ho c a b) i key t).1) (by omega) (Cnd.mk (fun _=> ?_) fun e=>absurd rfl e)
 refine w3f (x:=(expV r (mkE sT ho c a b) i key t).1) (v:=mkE sT ho c a b) hv (by omega) (w6q (x:=(expV r (mkE sT ho c a b) i key t).1) (v:=mkE sT ho c a b) hv (by omega) z1 z2 (Cnd.mk (fun _=> ?_) fun e=>absurd rfl e))
 have f0:=Int.tmod_nonneg 4 h3.1
 have f1:=Int.tmod_lt_of_pos flag (b:=4) (by decide)
 have hsu:=w3n (id:=i) (Nat.le_trans (q5d (w0l hid)) (by decide))
 refine⟨by decide,⟨f0,by rw[h4];exact f1⟩,fun y hy=>v70 (v71 (r:=r) (v:=mkE sT ho c a b) (s:=usr i) hv hF hsu (v06 i) (by omega) ?_)⟩
 refine⟨by decide,⟨f0,by rw[h4];exact f1⟩,fun y2 hy2=>v70 (w3r hB (by omega) ?_)⟩
 have e:y=y2:=Option.some.inj (hy.symm.trans hy2)
 subst e
 have hfl:=v03 r i t
 refine w9a (v:=mkE sT ho c a b) (s:=usr i) (fs:=forV r i t) hv hF hsu (v06 i) (by omega) ?_
 have nx:InI (t+1)/\(-1<=t+1/\t+1<=r.1+2)/\(r.1+2 - (t+1)).toNat<(r.1+2 - t).toNat:=⟨by unfold InI;omega,⟨by omega,by omega⟩,by omega⟩
 exact Cnd.mk (fun _=>Cnd.mk (fun _=>Cnd.mk (fun _=>Cnd.mk (fun _=>Cnd.mk (fun _=>Cnd.mk (fun _=>nx) fun e=>absurd rfl e) fun e=>absurd rfl e) fun e=>absurd ⟨rfl,rfl,rfl,rfl⟩ e) fun e=>absurd rfl e) fun e=>absurd rfl e) fun e=>absurd rfl e
end Go.En
end
noncomputable section
set_option maxRecDepth 100000
namespace Go.En
open Go Go.RowKit Go.Fl Go.Fl.Lk Go.Fx
section
variable {H:Type}{enc:TypeId×Value->H}{W:World}{base:Nat}{spare:Nat->Bool}{held:Bool}
theorem z0o{n:Int}(h:(Lit.int .u8 n).wf=true):0<=n/\n<=255:=by
 simp only[Lit.wf,Bool.and_eq_true,decide_eq_true_eq] at h
 have a:=h.1
 have b:=h.2
 simp[IntKind.min] at a
 simp[IntKind.max] at b
 exact⟨a,b⟩
theorem w3y{n:Int}(h:(Lit.int .u16 n).wf=true):0<=n/\n<=65535:=by
 simp only[Lit.wf,Bool.and_eq_true,decide_eq_true_eq] at h
 have a:=h.1
 have b:=h.2
 simp[IntKind.min] at a
 simp[IntKind.max] at b
 exact⟨a,b⟩
theorem y0j{fuel:Nat}{cs:List Value}{x:DataW H×List MemPlace}(hl:cs.length=5)(h:DataW.trod enc Proofs.Tryz.prog W base spare held fuel 128 cs=some x): ∃y:Mov,RowF D (hv W) cs (D.shape .move y)/\MvB y:=by
 obtain⟨xs,m,hfu,rfl,_,hn,hf⟩:=DataW.trod_struct Proofs.Tryz.underlying128 h
 have c5:Proofs.Tryz.prog.cellsOf 5=1:=by kernel_rfl
 match xs,hn with
 |[z0,z1,z2,z3,z4],_=>
 have q0:=hf 0 _ rfl
 have q1:=hf 1 _ rfl
 have q2:=hf 2 _ rfl
 have q3:=hf 3 _ rfl
 have q4:=hf 4 _ rfl
 match cs,hl with
 |[u0,u1,u2,u3,u4],_=>
 change DataW.trod enc Proofs.Tryz.prog W base spare held m 5 (List.take (Proofs.Tryz.prog.cellsOf 5) [u0,u1,u2,u3,u4])=some z0 at q0
 rw[c5] at q0
 change DataW.trod enc Proofs.Tryz.prog W base spare held m 5 [u0]=some z0 at q0
 obtain⟨a0,e0,g0,w0⟩:=DataW.trod_int Proofs.Tryz.underlying5 q0
 have i0:=z0o w0
 change DataW.trod enc Proofs.Tryz.prog W base spare held m 5 (List.take (Proofs.Tryz.prog.cellsOf 5) [u1,u2,u3,u4])=some z1 at q1
 rw[c5] at q1
 change DataW.trod enc Proofs.Tryz.prog W base spare held m 5 [u1]=some z1 at q1
 obtain⟨a1,e1,g1,w1⟩:=DataW.trod_int Proofs.Tryz.underlying5 q1
 have i1:=z0o w1
 change DataW.trod enc Proofs.Tryz.prog W base spare held m 5 (List.take (Proofs.Tryz.prog.cellsOf 5) [u2,u3,u4])=some z2 at q2
 rw[c5] at q2
 change DataW.trod enc Proofs.Tryz.prog W base spare held m 5 [u2]=some z2 at q2
 obtain⟨a2,e2,g2,w2⟩:=DataW.trod_int Proofs.Tryz.underlying5 q2
 have i2:=z0o w2
 change DataW.trod enc Proofs.Tryz.prog W base spare held m 5 (List.take (Proofs.Tryz.prog.cellsOf 5) [u3,u4])=some z3 at q3
 rw[c5] at q3
 change DataW.trod enc Proofs.Tryz.prog W base spare held m 5 [u3]=some z3 at q3
 obtain⟨a3,e3,g3,w3⟩:=DataW.trod_int Proofs.Tryz.underlying5 q3
 have i3:=z0o w3
 change DataW.trod enc Proofs.Tryz.prog W base spare held m 5 (List.take (Proofs.Tryz.prog.cellsOf 5) [u4])=some z4 at q4
 rw[c5] at q4
 change DataW.trod enc Proofs.Tryz.prog W base spare held m 5 [u4]=some z4 at q4
 obtain⟨a4,e4,g4,w4⟩:=DataW.trod_int Proofs.Tryz.underlying5 q4
 have i4:=z0o w4
 simp only[List.cons.injEq,and_true] at e0
 subst e0
 subst g0
 simp only[List.cons.injEq,and_true] at e1
 subst e1
 subst g1
 simp only[List.cons.injEq,and_true] at e2
 subst e2
 subst g2
 simp only[List.cons.injEq,and_true] at e3
 subst e3
 subst g3
 simp only[List.cons.injEq,and_true] at e4
 subst e4
 subst g4
 refine⟨Mov.mk a0 a1 a2 a3 a4,(J0 (.int _ _) (J0 (.int _ _) (J0 (.int _ _) (J0 (.int _ _) (J0 (.int _ _) j6g))))),?_⟩
 exact⟨⟨i0.1,by have:=i0.2;simp only;omega⟩,⟨i1.1,by have:=i1.2;simp only;omega⟩,⟨i2.1,by have:=i2.2;simp only;omega⟩,⟨i3.1,by have:=i3.2;simp only;omega⟩,⟨i4.1,by have:=i4.2;simp only;omega⟩⟩
theorem y0k{fuel:Nat}{cs:List Value}{x:DataW H×List MemPlace}(hl:cs.length=5)(h:DataW.trod enc Proofs.Tryz.prog W base spare held fuel 24 cs=some x): ∃y:AEnv,RowF D (hv W) cs (D.shape .aenv y)/\AEB y:=by
 obtain⟨xs,m,hfu,rfl,_,hn,hf⟩:=DataW.trod_struct Proofs.Tryz.underlying24 h
 have c5:Proofs.Tryz.prog.cellsOf 5=1:=by kernel_rfl
 have c22:Proofs.Tryz.prog.cellsOf 22=1:=by kernel_rfl
 match xs,hn with
 |[z0,z1,z2,z3,z4],_=>
 have q0:=hf 0 _ rfl
 have q1:=hf 1 _ rfl
 have q2:=hf 2 _ rfl
 have q3:=hf 3 _ rfl
 have q4:=hf 4 _ rfl
 match cs,hl with
 |[u0,u1,u2,u3,u4],_=>
 change DataW.trod enc Proofs.Tryz.prog W base spare held m 5 (List.take (Proofs.Tryz.prog.cellsOf 5) [u0,u1,u2,u3,u4])=some z0 at q0
 rw[c5] at q0
 change DataW.trod enc Proofs.Tryz.prog W base spare held m 5 [u0]=some z0 at q0
 obtain⟨a0,e0,g0,w0⟩:=DataW.trod_int Proofs.Tryz.underlying5 q0
 have i0:=z0o w0
 change DataW.trod enc Proofs.Tryz.prog W base spare held m 5 (List.take (Proofs.Tryz.prog.cellsOf 5) [u1,u2,u3,u4])=some z1 at q1
 rw[c5] at q1
 change DataW.trod enc Proofs.Tryz.prog W base spare held m 5 [u1]=some z1 at q1
 obtain⟨a1,e1,g1,w1⟩:=DataW.trod_int Proofs.Tryz.underlying5 q1
 have i1:=z0o w1
 change DataW.trod enc Proofs.Tryz.prog W base spare held m 22 (List.take (Proofs.Tryz.prog.cellsOf 22) [u2,u3,u4])=some z2 at q2
 rw[c22] at q2
 change DataW.trod enc Proofs.Tryz.prog W base spare held m 22 [u2]=some z2 at q2
 obtain⟨a2,e2,g2,w2⟩:=DataW.trod_int Proofs.Tryz.underlying22 q2
 have i2:=w3y w2
 change DataW.trod enc Proofs.Tryz.prog W base spare held m 22 (List.take (Proofs.Tryz.prog.cellsOf 22) [u3,u4])=some z3 at q3
 rw[c22] at q3
 change DataW.trod enc Proofs.Tryz.prog W base spare held m 22 [u3]=some z3 at q3
 obtain⟨a3,e3,g3,w3⟩:=DataW.trod_int Proofs.Tryz.underlying22 q3
 have i3:=w3y w3
 change DataW.trod enc Proofs.Tryz.prog W base spare held m 22 (List.take (Proofs.Tryz.prog.cellsOf 22) [u4])=some z4 at q4
 rw[c22] at q4
 change DataW.trod enc Proofs.Tryz.prog W base spare held m 22 [u4]=some z4 at q4
 obtain⟨a4,e4,g4,w4⟩:=DataW.trod_int Proofs.Tryz.underlying22 q4
 have i4:=w3y w4
 simp only[List.cons.injEq,and_true] at e0
 subst e0
 subst g0
 simp only[List.cons.injEq,and_true] at e1
 subst e1
 subst g1
 simp only[List.cons.injEq,and_true] at e2
 subst e2
 subst g2
 simp only[List.cons.injEq,and_true] at e3
 subst e3
 subst g3
 simp only[List.cons.injEq,and_true] at e4
 subst e4
 subst g4
 refine⟨AEnv.mk a0 a1 a2 a3 a4,(J0 (.int _ _) (J0 (.int _ _) (J0 (.int _ _) (J0 (.int _ _) (J0 (.int _ _) j6g))))),?_⟩
 exact⟨⟨i1.1,by have:=i1.2;simp only;omega⟩,⟨i2.1,by have:=i2.2;simp only;omega⟩,⟨i3.1,by have:=i3.2;simp only;omega⟩,⟨i4.1,by have:=i4.2;simp only;omega⟩⟩
end
end Go.En
end
