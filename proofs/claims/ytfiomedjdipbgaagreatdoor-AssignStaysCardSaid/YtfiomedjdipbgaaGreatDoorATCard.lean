/- A forced assignment outlasts every change. This is part 7 of 7. Conditions: those in the statements. -/
import Derived.Test.YtfiomedjdipbgaaGreatDoorRows
import Derived.Test.YtfiomedjdipbgaaGreatDoorCards
import Derived.Test.YtfiomedjdipbgaaGreatDoorTie
import Derived.Test.YtfiomedjdipbgaaGreatDoorAT6
import Derived.KernelRfl
import Derived.WalkKit
import Derived.ProofKit
import Derived.OpenShut
import Derived.Deep.DeepHandedRow
import Derived.Deep.DeepWitnessRowRef
import Derived.Lay
import Derived.SevenTiedAt
noncomputable section
set_option maxRecDepth 100000
namespace Go.En
open Go Go.Fl Go.Fl.Lk Go.Fx Go.Dg
def Cov(l:List Rng):Prop:= ∀b:Int,0<=b->b<10000-> ∃r∈l,r.1<=b/\b<r.2
theorem j4i{list:List Int}{at_ n:Int}{K:List Rng->Int->Prop}(hD:DS list at_)(hn:1<=n)(hn':n<=100)(h: ∀l a,SplS n l->Cov l->DS list a->K l a):q64 list at_ n K:=by
 unfold q64 j62
 have cv1: ∀{l:List Rng} {x y z:Int},(∀b:Int,0<=b->b<x-> ∃r∈l,r.1<=b/\b<r.2)-> ∀b:Int,0<=b->b<y-> ∃r∈l++[Rng.mk x y z],r.1<=b/\b<r.2:=fun {l x y z} hc b h0 h1=>by
  by_cases hb:b<x
  ·obtain⟨r,hr,hh⟩:=hc b h0 hb
   exact⟨r,List.mem_append_left _ hr,hh⟩
  ·exact⟨_,List.mem_append_right _ List.mem_cons_self,by simp only;omega,h1⟩
 refine Jn4.mk (fun l at_ last a=>DS list a/\l.length<=3/\0<=at_/\(∀b:Int,0<=b->b<at_-> ∃r∈l,r.1<=b/\b<r.2)/\ ∀r∈l,0<=r.lo/\r.hi<=10000/\1<=r.variation/\r.variation<=n) ?_ ?_
 ·refine Lp5.ind (fun l at_ last i a=>DS list a/\0<=i/\i<=3/\(l.length:Int)=i/\0<=at_/\at_<=10000/\0<=last/\last<=n/\(∀b:Int,0<=b->b<at_-> ∃r∈l,r.1<=b/\b<r.2)/\ ∀r∈l,0<=r.lo/\r.hi<=10000/\1<=r.variation/\r.variation<=n) (fun _ _ _ i _=>(3 - i).toNat) ?_ ⟨hD,by omega,by omega,rfl,by omega,by omega,by omega,by omega,fun b h0 h1=>by omega,by simp⟩
  rintro l at_ last i a ⟨hD,i0,i1,hl,a0,a1,l0,l1,hcv,hr⟩
  refine Qh hD (by decide) fun q a q0 q1 hD=>Cnd.mk (fun _=>Cnd.mk (fun _=>⟨by unfold InI;omega,q5a hD (by decide) fun w a w0 w1 hD=>⟨by unfold InI;omega,Qh hD hn fun v a v0 v1 hD=>⟨by unfold InI;omega,?_⟩⟩⟩) fun _=> ?_) fun _=> ?_
  ·have m0:=Int.tmod_nonneg n (show 0<=1+v by omega);have m1:=Int.tmod_lt_of_pos (1+v) (b:=n) (by omega)
   refine Jn1.mk (fun v=>1<=v/\v<=n) (Cnd.mk (fun _=>⟨by omega,by unfold InI;omega,by omega,by omega⟩) fun _=>⟨by omega,by omega⟩) fun v hv=>Cnd.mk (fun _=>⟨hD,by omega,a0,hcv,hr⟩) fun _=> ?_
   exact⟨by unfold Sml;simp;omega,by unfold InI;omega,⟨hD,by omega,by omega,by simp;omega,by omega,by omega,by omega,by omega,cv1 hcv,Zq hr ⟨by simp only;omega,by simp only;omega,by simp only;omega,by simp only;omega⟩⟩,by omega⟩
  ·exact⟨hD,by omega,a0,hcv,hr⟩
  ·exact⟨hD,by omega,a0,hcv,hr⟩
 ·rintro l at_ last a ⟨hD,hl,a0,hcv,hr⟩
  refine Qh hD hn fun v a v0 v1 hD=>⟨by unfold InI;omega,?_⟩
  have m0:=Int.tmod_nonneg n (show 0<=1+v by omega);have m1:=Int.tmod_lt_of_pos (1+v) (b:=n) (by omega)
  refine Jn1.mk (fun v=>1<=v/\v<=n) (Cnd.mk (fun _=>⟨by omega,by unfold InI;omega,by omega,by omega⟩) fun _=>⟨by omega,by omega⟩) fun v hv=> ?_
  exact⟨by unfold Sml;simp;omega,h _ _ ⟨by simp;omega,Zq hr ⟨a0,by simp,hv.1,hv.2⟩⟩ (cv1 hcv) hD⟩
structure SrvD(n:Int)(s:Srv):Prop where
 ok:SrvS n s
 cov:s.variation=0->Cov s.split
theorem j4j{list:List Int}{at_ n:Int}{K:Srv->Int->Prop}(hD:DS list at_)(hn:1<=n)(hn':n<=100)(h: ∀s a,SrvD n s->DS list a->K s a):z3h list at_ n K:=by
 unfold z3h j63
 have tt: ∀s∈z9p,s.size<=100:=by decide
 have key:(ByteArray.mk (Array.mk [107,101,121])).size<=100:=by decide
 refine Qh hD (by decide) fun r a r0 r1 hD=>Cnd.mk (fun _=>Qh hD hn fun v a v0 v1 hD=>⟨by unfold InI;omega,h _ _ ⟨⟨sz0,⟨by simp only;omega,by simp only;omega⟩,⟨by simp,by simp⟩,sz0,sz0⟩,fun h0=>by simp only at h0;omega⟩ hD⟩) fun _=> ?_
 refine z0s hD fun t a ht hD=>j4i hD hn hn' fun l a hl hcv hD=>q2u fun ds _ hds=>Qh hD (by decide) fun q a q0 q1 hD _=> ?_
 have usr:(ByteArray.mk (Array.mk [117,115,101,114])).size<=100:=by decide
 have ok: ∀{k b:ByteArray},k.size<=100->b.size<=100->SrvD n (Srv.mk 0 k b t l):=fun hk hb=>⟨⟨hk,⟨by simp,by simp only;omega⟩,hl,hb,tt _ ht⟩,fun _=>hcv⟩
 refine Cnd.mk (fun _=>⟨by omega,fun y hy=>Cnd.mk (fun _=>h _ _ (ok usr key) hD) fun _=>⟨by omega,fun z hz=>⟨by omega,fun u hu=>h _ _ (ok (hds z (getm hz)).1 (hds u (getm hu)).2.1) hD⟩⟩⟩) fun _=>h _ _ (ok usr key) hD
theorem w7o{list:List Int}{at_ kind:Int}{K:Val->Int->Prop}(hk0:1<=kind)(hk1:kind<=5)(hD:DS list at_)(h: ∀r a,ValS r->r.kind=kind->DS list a->K r a):Ui list at_ kind K:=by
 unfold Ui z9q
 have tt: ∀s∈z9p,s.size<=100:=by decide
 have tv: ∀s∈z3e,s.size<=100:=by decide
 have tl: ∀l∈j60,l.length<=10/\ ∀s∈l,s.size<=100:=by decide
 refine Cnd.mk (fun _=> ?_) fun _=>Cnd.mk (fun _=>fun _=> ?_) fun _=>Cnd.mk (fun _=> ?_) fun _=>Cnd.mk (fun _=> ?_) fun _=> ?_
 ·exact Qh hD (by decide) fun r a r0 r1 hD=>h _ _ ⟨by unfold InI;simp only;omega,sz0,by simp,by simp⟩ rfl hD
 ·refine Qh hD (by decide) fun r a r0 r1 hD=>⟨⟨r0,r1⟩,fun y hy=>h _ _ ⟨?_,sz0,by simp,by simp⟩ rfl hD⟩
  have:=getm hy
  have k: ∀y∈[(0:Int),(1:Int),(17:Int),(18:Int),(19:Int),(-5:Int),(64:Int),(1099511627776:Int),(-1099511627776:Int)], -9223372036854775808<=y/\y<=9223372036854775807:=by decide
  exact k y this
 ·exact z0s hD fun r a hr hD=>h _ _ ⟨by unfold InI;simp,tt _ hr,by simp,by simp⟩ rfl hD
 ·exact Qh hD (by decide) fun r a r0 r1 hD=>⟨⟨r0,r1⟩,fun y hy=>h _ _ ⟨by unfold InI;simp,tv _ (getm hy),by simp,by simp⟩ rfl hD⟩
 ·refine Qh hD (by decide) fun r a r0 r1 hD=>⟨⟨r0,r1⟩,fun y hy=> ?_⟩
  obtain⟨a1,a2⟩:=tl _ (getm hy)
  exact⟨by unfold Sml;simp;omega,h _ _ ⟨by unfold InI;simp,sz0,by simpa using a1,by simpa using a2⟩ (by simp only;omega) hD⟩
def flK:List ByteArray:=[ByteArray.mk (Array.mk [102,97]),ByteArray.mk (Array.mk [102,98]),ByteArray.mk (Array.mk [102,99]),ByteArray.mk (Array.mk [102,100])]
def lyK:List ByteArray:=[ByteArray.mk (Array.mk [108,97]),ByteArray.mk (Array.mk [108,98])]
def exK:List ByteArray:=[ByteArray.mk (Array.mk [120,97]),ByteArray.mk (Array.mk [120,98]),ByteArray.mk (Array.mk [120,99])]
structure RulD(n:Int)(r:Rul):Prop where
 cond:DrE sgK 20000 r.cond
 serve:SrvD n r.serve
structure FlgD(prev:List Flg)(f:Flg):Prop where
 kind:1<=f.kind/\f.kind<=5
 kinds: ∀v∈f.variations,v.kind=f.kind
 off:1<=f.off/\f.off<=f.variations.length
 needs: ∀q∈f.needs,∃g∈prev,q.flag=g.key/\1<=q.variation/\q.variation<=g.variations.length
 tgts: ∀t∈f.targets,(1<=t.variation/\t.variation<=f.variations.length)/\t.keys.length<=3
 rules: ∀r∈f.rules,RulD f.variations.length r
 dflt:SrvD f.variations.length f.dflt
structure FlgsD(l:List Flg):Prop where
 keys:l.map Flg.key=flK.take l.length
 all: ∀(i:Nat) f,l[i]? =some f->FlgD (l.take i) f
structure ExpD(layers:List Lay_)(flags:List Flg)(x:Exper):Prop where
 cov:Cov x.arms
 cond:DrE sgK 20000 x.cond
 layer: ∃l∈layers,x.layer=l.key
 flag: ∃f∈flags,x.flag=f.key/\ ∀r∈x.arms,1<=r.variation/\r.variation<=f.variations.length
 salt:x.salt.size<=100
structure EnvD(v:Envt):Prop where
 salt:v.settings.salt.size<=100
 gs:GS v.segments
 flags:FlgsD v.flags
 layers:v.layers.map Lay_.key=lyK.take v.layers.length
 exps:(v.experiments.map Exper.key).Sublist exK
 exp: ∀x∈v.experiments,ExpD v.layers v.flags x
theorem w7p:FlgsD []:=⟨rfl,by simp⟩
theorem v38{l:List Flg}{f:Flg}(h:FlgsD l)(hk:flK[l.length]? =some f.key)(hf:FlgD l f):FlgsD (l++[f]):=by
 refine⟨?_,fun i g hi=> ?_⟩
 ·rw[List.map_append,h.keys,List.length_append,List.length_singleton,List.take_add_one,hk];rfl
 ·rcases Nat.lt_or_ge i l.length with hlt|hge
  ·rw[List.getElem?_append_left hlt] at hi
   rw[List.take_append_of_le_length (by omega)]
   exact h.all i g hi
  ·have:=Ql hi
   rw[List.length_append,List.length_singleton] at this
   have e:i=l.length:=by omega
   subst e
   rw[List.getElem?_append_right (Nat.le_refl _),Nat.sub_self] at hi
   cases hi
   rw[List.take_left' rfl];exact hf
theorem v8j{a b:List ByteArray}{w:Nat}{e:Ex}(h:DrE a w e)(hs: ∀x∈a,x∈b):DrE b w e:=⟨h.wt,fun x hx=>hs x (h.nms x hx),h.ev⟩
theorem v39{ds:List Decl}:EnvD (Envt.mk (Sett.mk (ByteArray.mk (Array.mk [])) (ByteArray.mk (Array.mk [])) 0) ds [] [] [] []):=
 ⟨sz0,y2n,w7p,rfl,by simp,by simp⟩
theorem v8k{l:List Seg}(h:GS l): ∀s∈l.map Seg.key,s∈sgK:=fun s hs=>by rw[h.keys] at hs;exact List.mem_of_mem_take hs
theorem v8l:DrE sgK 20000 (Ex.mk 1 (ByteArray.mk (Array.mk [])) (ByteArray.mk (Array.mk [])) [] []):=
 ⟨by simp[wt,wtV,wtL],fun x hx=>by rw[j89] at hx;rcases hx with ⟨h,_⟩|⟨k,hk,_⟩<;>simp at*,EvB.mk' (by simp) (by simp)⟩
theorem y2o{l:List ByteArray}{n i:Nat}{y:ByteArray}(h:(l.take n)[i]? =some y):l[i]? =some y:=by
 rw[List.getElem?_take] at h
 split at h
 ·exact h
 ·cases h
theorem j3y{V:Envt->Prop}(hV: ∀(v:Envt) (K:Bool->Prop),EnvS v->(∀b,(b=true->V v)->K b)->V8 v K)(hV0: ∀ds,V (Envt.mk (Sett.mk (ByteArray.mk (Array.mk [])) (ByteArray.mk (Array.mk [])) 0) ds [] [] [] []))
  {list:List Int}{at_ now:Int}{K:Envt->Int->Prop}(hD:DS list at_)(h: ∀v a,EnvS v->EnvD v->V v->DS list a->K v a):Rb list at_ now K:=by
 unfold Rb q7t
 have tt: ∀s∈z9p,s.size<=100:=by decide
 refine q2u fun attrs _ had=> ?_
 have hat: ∀d∈attrs,d.kind.size<=100/\d.name.size<=100:=fun d hd=>⟨(had d hd).1,(had d hd).2.1⟩
 refine Jn1.mk (fun x=>(x.1.size<=100/\x.2.1.size<=100)/\DS list x.2.2.2.1/\x.2.2.2.2.1=attrs) (Qh hD (by decide) fun r a _ _ hD=>Cnd.mk (fun _=>z0s hD fun t a ht hD=>q5a hD (by decide) fun w a _ _ hD=>⟨⟨tt _ ht,(by decide:(ByteArray.mk (Array.mk [117,115,101,114])).size<=100)⟩,hD,rfl⟩) fun _=>⟨⟨sz0,sz0⟩,hD,rfl⟩) ?_
 rintro⟨salt,hkind,hold,a,ds,u⟩ ⟨⟨hslt,hhk⟩,hD,hds⟩
 simp only at hslt hhk hD hds⊢
 subst hds
 refine w4t hD fun a segs hD hsl hsegs hgs=>Qh hD (by decide) fun n a n0 n1 hD=>j0w n0 (by simp only[List.length_cons,List.length_nil];omega) ?_
 have fin: ∀{flags:List Flg} {layers:List Lay_} {exps:List Exper} {a:Int},DS list a->flags.length<=4->(∀f∈flags,FlgS f)->layers.length<=2->(∀l∈layers,LayS l)->exps.length<=3->(∀x∈exps,ExpS x)->FlgsD flags->layers.map Lay_.key=lyK.take layers.length->(exps.map Exper.key).Sublist exK->(∀x∈exps,ExpD layers flags x)->
   V8 (Envt.mk (Sett.mk salt hkind hold) ds segs flags layers exps) fun b=>Cnd (b=true) (K (Envt.mk (Sett.mk salt hkind hold) ds segs flags layers exps) a) (Ju fun ds=>K (Envt.mk (Sett.mk (ByteArray.mk (Array.mk [])) (ByteArray.mk (Array.mk [])) 0) ds [] [] [] []) a):=fun hD h1 h2 h3 h4 h5 h6 e1 e2 e3 e4=>by
  have hv:EnvS (Envt.mk (Sett.mk salt hkind hold) ds segs _ _ _):=⟨hhk,hat,hsl,hsegs,h1,h2,h3,h4,h5,h6⟩
  exact hV _ _ hv fun b hb=>Cnd.mk (fun ht=>h _ _ hv ⟨hslt,hgs,e1,e2,e3,e4⟩ (hb ht) hD) fun _=>q2u fun ds _ had=>h _ _ (v36 fun d hd=>⟨(had d hd).1,(had d hd).2.1⟩) v39 (hV0 ds) hD
 have nms: ∀s∈List.take n.toNat [ByteArray.mk (Array.mk [102,97]),ByteArray.mk (Array.mk [102,98]),ByteArray.mk (Array.mk [102,99]),ByteArray.mk (Array.mk [102,100])],s.size<=100:=w4u (by decide)
 have hlen:(List.take n.toNat [ByteArray.mk (Array.mk [102,97]),ByteArray.mk (Array.mk [102,98]),ByteArray.mk (Array.mk [102,99]),ByteArray.mk (Array.mk [102,100])]).length<=4:=by
  rw[List.length_take];simp only[List.length_cons,List.length_nil];omega
 have hget: ∀(i:Nat) y,(List.take n.toNat [ByteArray.mk (Array.mk [102,97]),ByteArray.mk (Array.mk [102,98]),ByteArray.mk (Array.mk [102,99]),ByteArray.mk (Array.mk [102,100])])[i]? =some y->flK[i]? =some y:=fun i y hy=>y2o hy
 generalize List.take n.toNat _=l at nms hlen hget
 refine LpH.ind (fun (x:Int×Int×List Flg×List Seg×List Lay_×List Exper×Unit)=>0<=x.1/\x.1<=(l.length:Int)/\DS list x.2.1/\(x.2.2.1.length:Int)=x.1/\(∀f∈x.2.2.1,FlgS f)/\FlgsD x.2.2.1/\x.2.2.2=(segs,[],[],())) (fun x=>((l.length:Int) - x.1).toNat) ?_ ⟨Int.le_refl 0,by simp,hD,rfl,by simp,w7p,rfl⟩
 rintro⟨i,a,flags,rest⟩ ⟨i0,i1,hD,hfl,hfs,hfd,hr⟩
 simp only at i0 i1 hD hfl hfs hfd hr⊢
 subst hr
 simp only
 intro _
 refine Cnd.mk (fun hc=>⟨by omega,fun key hkey=> ?_⟩) fun _=> ?_
 ·
  refine Qh hD (by decide) fun kind a k0 k1 hD=>⟨by unfold InI;omega,Qh hD (by decide) fun on a _ _ hD=>Qh hD (by decide) fun m a m0 m1 hD=>⟨by unfold InI;omega,?_⟩⟩
  refine LpH.ind (fun (x:Int×Int×List Val×List Exper×List Lay_×List Flg×List Seg×Unit)=>0<=x.1/\x.1<=1+m/\DS list x.2.1/\(x.2.2.1.length:Int)=x.1/\(∀v∈x.2.2.1,ValS v/\v.kind=1+kind)/\x.2.2.2=([],[],flags,segs,())) (fun x=>(1+m - x.1).toNat) ?_ ⟨Int.le_refl 0,by simp only;omega,hD,rfl,by simp,rfl⟩
  rintro⟨j,a,vals,rest⟩ ⟨j0,j1,hD,hvl,hvs,hr⟩
  simp only at j0 j1 hD hvl hvs hr⊢
  subst hr
  simp only
  refine Cnd.mk (fun hc=>w7o (by omega) (by omega) hD fun v a hv hvk hD=>⟨by unfold Sml;simp;omega,by unfold InI;omega,⟨by omega,by omega,hD,by simp;omega,Zq hvs ⟨hv,hvk⟩,trivial⟩,by omega⟩) fun hc=> ?_
  refine Qh hD (by omega) fun off a o0 o1 hD=>⟨by unfold InI;omega,?_⟩
  have hlv:vals.length=(1+m).toNat:=by omega
  refine LpH.ind (fun (x:Int×List Prq×Int×List Seg×List Flg×List Lay_×List Exper×List Val×Unit)=>0<=x.1/\x.1<=(flags.length:Int)/\(x.2.1.length:Int)<=x.1/\(∀q∈x.2.1,q.flag.size<=100/\ ∃g∈flags,q.flag=g.key/\1<=q.variation/\q.variation<=g.variations.length)/\DS list x.2.2.1/\x.2.2.2=(segs,flags,[],[],vals,())) (fun x=>((flags.length:Int) - x.1).toNat) ?_ ⟨Int.le_refl 0,by simp,by simp,by simp,hD,rfl⟩
  rintro⟨j,needs,a,rest⟩ ⟨j0,j1,hnl,hns,hD,hr⟩
  simp only at j0 j1 hnl hns hD hr⊢
  subst hr
  simp only
  intro _
  refine Cnd.mk (fun hc=>Qh hD (by decide) fun q a _ _ hD=>Cnd.mk (fun _=>⟨by omega,fun y hy=>⟨by omega,fun z hz _=>Qh hD (by have:=(hfs z (getm hz)).vlen;omega) fun w a w0 w1 hD=> ?_⟩⟩) fun _=>⟨by unfold InI;omega,⟨by omega,by omega,by omega,hns,hD,trivial⟩,by omega⟩) fun _=> ?_
  ·have:=(hfs z (getm hz)).vlen
   exact⟨by unfold InI;omega,by unfold Sml;simp;omega,by unfold InI;omega,⟨by omega,by omega,by simp;omega,Zq hns ⟨(hfs y (getm hy)).key,z,getm hz,by rw[hy] at hz;rw[Option.some.inj hz],by simp only;omega,by simp only;omega⟩,hD,trivial⟩,by omega⟩
  have hnl4:needs.length<=4:=by omega
  refine LpH.ind (fun (x:Int×List Tgt×Int×List Val×List Exper×List Lay_×List Flg×List Seg×List Prq×Unit)=>0<=x.1/\x.1<=3/\(x.2.1.length:Int)<=x.1/\(∀t∈x.2.1,t.kind.size<=100/\(1<=t.variation/\t.variation<=1+m)/\t.keys.length<=3)/\DS list x.2.2.1/\x.2.2.2=(vals,[],[],flags,segs,needs,())) (fun x=>(3 - x.1).toNat) ?_ ⟨Int.le_refl 0,by simp,by simp,by simp,hD,rfl⟩
  rintro⟨j,tgts,a,rest⟩ ⟨j0,j1,htl,hts,hD,hr⟩
  simp only at j0 j1 htl hts hD hr⊢
  subst hr
  simp only
  refine Qh hD (by decide) fun q a q0 q1 hD=>Cnd.mk (fun hc=>Qh hD (by omega) fun w a w0 w1 hD=>⟨by unfold InI;omega,j8n hD fun ks a hks _ hD=> ?_⟩) fun _=> ?_
  ·refine Jn1.mk (fun x=>x.1.size<=100/\DS list x.2.1/\x.2.2=(ks,needs,segs,flags,[],[],vals,tgts,())) (Qh hD (by decide) fun r a _ _ hD=>Cnd.mk (fun _=>⟨(by decide:(ByteArray.mk (Array.mk [100,101,118,105,99,101])).size<=100),hD,rfl⟩) fun _=>⟨(by decide:(ByteArray.mk (Array.mk [117,115,101,114])).size<=100),hD,rfl⟩) ?_
   rintro⟨kd,a,rest⟩ ⟨hkd,hD,hr⟩
   simp only at hkd hD hr⊢
   subst hr
   simp only
   exact fun _=>Cnd.mk (fun _=>⟨by unfold Sml;simp;omega,by unfold InI;omega,⟨by omega,by omega,by simp;omega,Zq hts ⟨hkd,⟨by simp only;omega,by simp only;omega⟩,hks⟩,hD,trivial⟩,by omega⟩) fun _=>⟨by unfold InI;omega,⟨by omega,by omega,by omega,hts,hD,trivial⟩,by omega⟩
  refine Jn1.mk (fun (x:Int×List Rul×List ByteArray×List Prq×List Seg×List Flg×List Lay_×List Exper×List Val×List Tgt×Unit)=>DS list x.1/\x.2.1.length<=4/\(∀r∈x.2.1,RulS (1+m) r/\RulD (1+m) r)/\x.2.2.2=(needs,segs,flags,[],[],vals,tgts,())) ?_ ?_
  case refine_2=>
   rintro⟨a,rules,names,rest⟩ ⟨hD,hrl,hrs,hr⟩
   simp only at hD hrl hrs hr⊢
   subst hr
   simp only
   refine j4j hD (by omega) (by omega) fun s a hs hD=>⟨by unfold Sml;simp;omega,by unfold InI;omega,⟨by omega,by omega,hD,by simp;omega,Zq hfs ?_,v38 hfd ?_ ?_,trivial⟩,by omega⟩
   all_goals have hvm:(vals.length:Int)=1+m:=by omega
   ·exact⟨nms key (getm hkey),⟨by simp only;omega,by simp only;omega⟩,fun v hv=>(hvs v hv).1,hnl4,fun q hq=>(hns q hq).1,by simp only;omega,fun t ht=>(hts t ht).1,hrl,by rw[hvm];exact fun r hr=>(hrs r hr).1,by rw[hvm];exact hs.ok⟩
   ·rw[←hget _ _ hkey];congr 1;omega
   ·exact⟨⟨by simp only;omega,by simp only;omega⟩,fun v hv=>(hvs v hv).2,⟨by simp only;omega,by simp only;omega⟩,fun q hq=>(hns q hq).2,fun t ht=>by simp only;rw[hvm];exact (hts t ht).2,fun r hr=>by simp only;rw[hvm];exact (hrs r hr).2,by simp only;rw[hvm];exact hs⟩
  have nm4: ∀s∈([ByteArray.mk (Array.mk [102,105,114,115,116]),ByteArray.mk (Array.mk [115,101,99,111,110,100]),ByteArray.mk (Array.mk [116,104,105,114,100]),ByteArray.mk (Array.mk [102,111,117,114,116,104])]:List ByteArray),s.size<=100:=by decide
  have nl4:([ByteArray.mk (Array.mk [102,105,114,115,116]),ByteArray.mk (Array.mk [115,101,99,111,110,100]),ByteArray.mk (Array.mk [116,104,105,114,100]),ByteArray.mk (Array.mk [102,111,117,114,116,104])]:List ByteArray).length=4:=rfl
  generalize ([ByteArray.mk (Array.mk [102,105,114,115,116]),ByteArray.mk (Array.mk [115,101,99,111,110,100]),ByteArray.mk (Array.mk [116,104,105,114,100]),ByteArray.mk (Array.mk [102,111,117,114,116,104])]:List ByteArray)=ns4 at nm4 nl4⊢
  refine LpH.ind (fun (x:Int×Int×List Rul×List ByteArray×List Prq×List Seg×List Flg×List Lay_×List Exper×List Val×List Tgt×Unit)=>0<=x.1/\x.1<=4/\DS list x.2.1/\(x.2.2.1.length:Int)=x.1/\(∀r∈x.2.2.1,RulS (1+m) r/\RulD (1+m) r)/\x.2.2.2=(ns4,needs,segs,flags,[],[],vals,tgts,())) (fun x=>(4 - x.1).toNat) ?_ ⟨Int.le_refl 0,by simp,hD,rfl,by simp,rfl⟩
  rintro⟨j,a,rules,rest⟩ ⟨j0,j1,hD,hrl,hrs,hr⟩
  simp only at j0 j1 hD hrl hrs hr⊢
  subst hr
  simp only
  refine Qh hD (by decide) fun q a q0 q1 hD=>Cnd.mk (fun hc=>⟨by rw[nl4];omega,fun y hy=> ?_⟩) fun _=>⟨hD,by omega,hrs,trivial⟩
  refine z2t (by simp only;omega) (j3r ((w90 fun s hs=> ?_).and v8a) 2 (by omega) (by decide) (by decide) hD fun e a he hD=>j4j hD (by omega) (by omega) fun s a hs hD=>⟨by unfold Sml;simp;omega,?_⟩)
  ·obtain⟨g,hg,rfl⟩:=List.mem_map.1 hs;exact (hsegs g hg).key
  have hrs':=Zq hrs (x:=Rul.mk y (Ex.mk e.1 e.2 e.3 e.4 e.5) s) ⟨⟨nm4 y (getm hy),he.1.eta,hs.ok⟩,v8j (he.2.le (by decide)).eta (v8k hgs),hs⟩
  have hl':(rules++[Rul.mk y (Ex.mk e.1 e.2 e.3 e.4 e.5) s]).length=rules.length+1:=by simp
  have cut: ∀r∈List.take (((rules++[Rul.mk y (Ex.mk e.1 e.2 e.3 e.4 e.5) s]).length:Int) - 1).toNat (rules++[Rul.mk y (Ex.mk e.1 e.2 e.3 e.4 e.5) s]),RulS (1+m) r/\RulD (1+m) r:=fun r hr=>hrs' r (List.mem_of_mem_take hr)
  generalize rules++[Rul.mk y (Ex.mk e.1 e.2 e.3 e.4 e.5) s]=rs at hrs' hl' cut⊢
  refine q81 (by omega) (fun r hr=>(hrs' r hr).1.cond) fun o n b ho=>Cnd.mk (fun _ _=>Cnd.mk (fun _ _=>⟨by unfold InI;omega,by omega,hD,by simp only[List.length_take];omega,cut,trivial⟩) fun _=>⟨by unfold InI;omega,⟨by omega,by omega,hD,by omega,hrs',trivial⟩,by omega⟩) fun _ _=>⟨by unfold InI;omega,by omega,hD,by simp only[List.length_take];omega,cut,trivial⟩
 ·
  refine Qh hD (by decide) fun n a n0 n1 hD=>j0w n0 (by simp only[List.length_cons,List.length_nil];omega) ?_
  have nms: ∀s∈List.take n.toNat [ByteArray.mk (Array.mk [108,97]),ByteArray.mk (Array.mk [108,98])],s.size<=100:=w4u (by decide)
  have hlen:(List.take n.toNat [ByteArray.mk (Array.mk [108,97]),ByteArray.mk (Array.mk [108,98])]).length<=2:=by
   rw[List.length_take];simp only[List.length_cons,List.length_nil];omega
  have hgetl: ∀(i:Nat) y,(List.take n.toNat [ByteArray.mk (Array.mk [108,97]),ByteArray.mk (Array.mk [108,98])])[i]? =some y->lyK[i]? =some y:=fun i y hy=>y2o hy
  generalize List.take n.toNat _=ls at nms hlen hgetl
  have hf4:flags.length<=4:=by omega
  refine LpH.ind (fun (x:Int×Int×List Lay_×List Exper×List Seg×List Flg×Unit)=>0<=x.1/\x.1<=(ls.length:Int)/\DS list x.2.1/\(x.2.2.1.length:Int)=x.1/\(∀f∈x.2.2.1,LayS f)/\x.2.2.1.map Lay_.key=lyK.take x.2.2.1.length/\x.2.2.2=([],segs,flags,())) (fun x=>((ls.length:Int) - x.1).toNat) ?_ ⟨Int.le_refl 0,by simp,hD,rfl,by simp,rfl,rfl⟩
  rintro⟨j,a,layers,rest⟩ ⟨j0,j1,hD,hll,hls,hlk,hr⟩
  simp only at j0 j1 hD hll hls hlk hr⊢
  subst hr
  simp only
  intro _
  refine Cnd.mk (fun hc=>⟨by omega,fun y hy=>v3n hD (nms y (getm hy)) fun l a hl hky hD=>⟨by unfold Sml;simp;omega,by unfold InI;omega,⟨by omega,by omega,hD,by simp;omega,Zq hls hl,by rw[List.map_append,hlk,List.length_append,List.length_singleton,List.take_add_one,←show j.toNat=layers.length by omega,hgetl _ _ hy,←hky];rfl,trivial⟩,by omega⟩⟩) fun _=> ?_
  refine Qh hD (by decide) fun n a n0 n1 hD=>j0w n0 (by simp only[List.length_cons,List.length_nil];omega) ?_
  have nmx: ∀s∈List.take n.toNat [ByteArray.mk (Array.mk [120,97]),ByteArray.mk (Array.mk [120,98]),ByteArray.mk (Array.mk [120,99])],s.size<=100:=w4u (by decide)
  have hxen:(List.take n.toNat [ByteArray.mk (Array.mk [120,97]),ByteArray.mk (Array.mk [120,98]),ByteArray.mk (Array.mk [120,99])]).length<=3:=by
   rw[List.length_take];simp only[List.length_cons,List.length_nil];omega
  have hgetx:List.take n.toNat [ByteArray.mk (Array.mk [120,97]),ByteArray.mk (Array.mk [120,98]),ByteArray.mk (Array.mk [120,99])]|>.Sublist exK:=List.take_sublist _ _
  generalize List.take n.toNat _=xs at nmx hxen hgetx
  have hl2:layers.length<=2:=by omega
  refine LpH.ind (fun (x:Int×Int×List Exper×List Flg×List Seg×List Lay_×Unit)=>0<=x.1/\x.1<=(xs.length:Int)/\DS list x.2.1/\(x.2.2.1.length:Int)<=x.1/\(∀f∈x.2.2.1,ExpS f)/\(x.2.2.1.map Exper.key).Sublist (xs.take x.1.toNat)/\(∀f∈x.2.2.1,ExpD layers flags f)/\x.2.2.2=(flags,segs,layers,())) (fun x=>((xs.length:Int) - x.1).toNat) ?_ ⟨Int.le_refl 0,by simp,hD,by simp,by simp,by simp,by simp,rfl⟩
  rintro⟨k,a,exps,rest⟩ ⟨k0,k1,hD,hxl,hxs,hxk,hxd,hr⟩
  simp only at k0 k1 hD hxl hxs hxk hxd hr⊢
  subst hr
  simp only
  intro _
  have hfin:=fun {a:Int} (hD:DS list a)=>fin (flags:=flags) (layers:=layers) (exps:=exps) hD hf4 hfs hl2 hls (by omega) hxs hfd hlk ((hxk.trans (List.take_sublist _ _)).trans hgetx) hxd
  refine Cnd.mk (fun hc _=>Cnd.mk (fun hfl0 _=>Cnd.mk (fun hll0=>⟨by omega,fun y hy _=> ?_⟩) fun _=>hfin hD) fun _=>hfin hD) fun _=>hfin hD
  refine Qh hD (by omega) fun q a q0 q1 hD=>⟨by omega,fun f hf _ hfv=>Qh hD (by omega) fun q' a q0' q1' hD=>⟨by omega,fun l hl=>z0s hD fun t a ht hD=>Qh hD (by decide) fun u a u0 u1 hD=>⟨by unfold InI;omega,?_⟩⟩⟩
  have hF:=hfs f (getm hf)
  have hL:=hls l (getm hl)
  have hv1:=hF.vlen
  refine j4i hD (by omega) (by omega) fun arms a harms hcov hD=> ?_
  refine Jn1.mk (fun (x:Int×Int×List Rng×List Exper×List Lay_×List Flg×List Seg×Unit)=>DS list x.2.1/\x.2.2=(arms,exps,layers,flags,segs,())) (Cnd.mk (fun _=>Qh hD (by decide) fun r a _ _ hD=>Cnd.mk (fun _=>⟨hD,rfl⟩) fun _=>⟨hD,rfl⟩) fun _=>⟨hD,rfl⟩) ?_
  rintro⟨state,a,rest⟩ ⟨hD,hr⟩
  simp only at hD hr⊢
  subst hr
  simp only
  refine Jn1.mk (fun (x:Int×ByteArray×ByteArray×List Val×List Ex×Int×List Seg×List Flg×List Lay_×List Exper×List Rng×Unit)=>(ExS 4 (Ex.mk x.1 x.2.1 x.2.2.1 x.2.2.2.1 x.2.2.2.2.1)/\DrE sgK 20000 (Ex.mk x.1 x.2.1 x.2.2.1 x.2.2.2.1 x.2.2.2.2.1))/\DS list x.2.2.2.2.2.1/\x.2.2.2.2.2.2=(segs,flags,layers,exps,arms,())) (Qh hD (by decide) fun r a _ _ hD=>Cnd.mk (fun _=>z2t (by simp only;omega) (j3r ((w90 fun s hs=> ?_).and v8a) 2 (by omega) (by decide) (by decide) hD fun e a he hD=>⟨⟨he.1.eta,v8j (he.2.le (by decide)).eta (v8k hgs)⟩,hD,rfl⟩)) fun _=>⟨⟨y88,v8l⟩,hD,rfl⟩) ?_
  ·obtain⟨g,hg,rfl⟩:=List.mem_map.1 hs;exact (hsegs g hg).key
  rintro⟨e1,e2,e3,e4,e5,a,rest⟩ ⟨he,hD,hr⟩
  simp only at he hD hr⊢
  subst hr
  simp only
  refine w97 fun sp _ _=>q5a hD (by decide) fun w a _ _ hD=>q5a hD (by decide) fun w' a _ _ hD=>j4a fun sq _=>q5a hD (by decide) fun w2 a w20 w21 hD=>w6y (by omega) fun cl hcl=> ?_
  have hxs':=Zq hxs (x:=Exper.mk y l.1 f.1 t state cl arms (Ex.mk e1 e2 e3 e4 e5)) ⟨nmx y (getm hy),hL.key,hF.key,hcl,⟨harms.1,fun r hr=>by obtain⟨p,q,s,t⟩:=harms.2 r hr;exact⟨p,q,s,by omega⟩⟩,he.1⟩
  have hxd':=Zq hxd (x:=Exper.mk y l.1 f.1 t state cl arms (Ex.mk e1 e2 e3 e4 e5)) ⟨hcov,he.2,⟨l,getm hl,rfl⟩,⟨f,getm hf,rfl,fun r hr=>by obtain⟨_,_,s,t⟩:=harms.2 r hr;exact⟨s,t⟩⟩,tt _ ht⟩
  have hyk:xs[k.toNat]? =some y:=hy
  have hxk':((exps++[Exper.mk y l.1 f.1 t state cl arms (Ex.mk e1 e2 e3 e4 e5)]).map Exper.key).Sublist (xs.take (k+1).toNat):=by
   rw[List.map_append,show (k+1).toNat=k.toNat+1 by omega,List.take_add_one,hyk]
   exact hxk.append (List.Sublist.refl _)
  have hl':(exps++[Exper.mk y l.1 f.1 t state cl arms (Ex.mk e1 e2 e3 e4 e5)]).length=exps.length+1:=by simp
  have cut: ∀r∈List.take (((exps++[Exper.mk y l.1 f.1 t state cl arms (Ex.mk e1 e2 e3 e4 e5)]).length:Int) - 1).toNat (exps++[Exper.mk y l.1 f.1 t state cl arms (Ex.mk e1 e2 e3 e4 e5)]),ExpS r:=fun r hr=>hxs' r (List.mem_of_mem_take hr)
  have cutd: ∀r∈List.take (((exps++[Exper.mk y l.1 f.1 t state cl arms (Ex.mk e1 e2 e3 e4 e5)]).length:Int) - 1).toNat (exps++[Exper.mk y l.1 f.1 t state cl arms (Ex.mk e1 e2 e3 e4 e5)]),ExpD layers flags r:=fun r hr=>hxd' r (List.mem_of_mem_take hr)
  have cutk:((List.take (((exps++[Exper.mk y l.1 f.1 t state cl arms (Ex.mk e1 e2 e3 e4 e5)]).length:Int) - 1).toNat (exps++[Exper.mk y l.1 f.1 t state cl arms (Ex.mk e1 e2 e3 e4 e5)])).map Exper.key).Sublist (xs.take (k+1).toNat):=((List.take_sublist _ _).map _).trans hxk'
  generalize exps++[Exper.mk y l.1 f.1 t state cl arms (Ex.mk e1 e2 e3 e4 e5)]=xs' at hxs' hl' cut hxd' hxk' cutd cutk⊢
  have hv:EnvS (Envt.mk (Sett.mk salt hkind hold) ds segs flags layers xs'):=⟨hhk,hat,hsl,hsegs,hf4,hfs,hl2,hls,by simp only;omega,hxs'⟩
  refine⟨by unfold Sml;omega,z5g hv fun b=>Cnd.mk (fun _=>⟨by unfold InI;omega,⟨by omega,by omega,hD,by omega,hxs',hxk',hxd',trivial⟩,by omega⟩) fun _ _=>⟨by unfold InI;omega,by omega,by unfold InI;omega,⟨by omega,by omega,hD,by simp only[List.length_take];omega,cut,cutk,cutd,trivial⟩,by omega⟩⟩
end Go.En
end
noncomputable section
set_option maxRecDepth 100000
namespace Go.En
open Go Go.Fl Go.Fl.Lk Go.Fx
theorem v8m:exK.Nodup:=by unfold exK;decide
theorem v8n{segs:List ByteArray}{e:Ex}(h:DrE segs 20000 e):wt e<=2000000/\EvB e:=⟨Nat.le_trans h.wt (by decide),h.ev⟩
theorem y08{v:Envt}(hE:EnvS v)(hD:EnvD v):SegB v.3:=w91 (Nat.le_trans hE.slen (by decide)) fun g hg=>by
 obtain⟨i,hi⟩:=List.getElem?_of_mem hg
 exact⟨_,hD.gs.cond i g hi⟩
theorem y2p{v:Envt}(hE:EnvS v)(hD:EnvD v):AsB v where
 ln:=Nat.le_trans hE.llen (by decide)
 xn:=Nat.le_trans hE.xlen (by decide)
 sg:=y08 hE hD
 ex x hx:=v8n (hD.exp x hx).cond
 sa:=Nat.le_trans hD.salt (by decide)
 ls l hl:=Nat.le_trans (hE.layers l hl).salt (by decide)
 xs x hx:=Nat.le_trans (hD.exp x hx).salt (by decide)
 cl x hx:=⟨Nat.le_trans (hE.exps x hx).claims.len (by decide),Nat.le_trans (hE.exps x hx).arms.1 (by decide)⟩
 nd:=hD.exps.nodup v8m
abbrev smp:Envt:=Envt.mk (Sett.mk noT noT 0) [] [] [Flg.mk (ByteArray.mk (Array.mk [102])) 1 [Val.mk 1 0 noT [],Val.mk 1 1 noT []] true 1 [] [] [] (Srv.mk 1 noT noT noT [])] [Lay_.mk (ByteArray.mk (Array.mk [108])) (ByteArray.mk (Array.mk [117,115,101,114])) noT 0 0 []] [Exper.mk (ByteArray.mk (Array.mk [120])) (ByteArray.mk (Array.mk [108])) (ByteArray.mk (Array.mk [102])) noT 2 [Spn.mk 0 10000] [Rng.mk 0 10000 2] (Ex.mk 1 noT noT [] [])]
theorem y2q:AsB smp where
 ln:=by decide
 xn:=by decide
 sg:=w91 (by decide) (by simp)
 ex x hx:=by
  rw[List.mem_singleton.1 hx]
  exact v8n v8l
 sa:=by decide
 ls l hl:=by rw[List.mem_singleton.1 hl];decide
 xs x hx:=by rw[List.mem_singleton.1 hx];decide
 cl x hx:=by rw[List.mem_singleton.1 hx];decide
 nd:=by simp
theorem y7m:AsB (Envt.mk (Sett.mk noT noT 0) [] [] [] [] []) where
 ln:=by decide
 xn:=by decide
 sg:=w91 (by decide) (by simp)
 ex x hx:=by cases hx
 sa:=by decide
 ls l hl:=by cases hl
 xs x hx:=by cases hx
 cl x hx:=by cases hx
 nd:=by simp
abbrev usrB:ByteArray:=ByteArray.mk (Array.mk [117,115,101,114])
theorem j54{s:Subj}(h:s.ctxs.length<=2)(hc: ∀c∈s.ctxs,c.attrs=[]/\c.key.size<=5):SubB s:=
 ⟨by omega,fun c hm=>by rw[(hc c hm).1];simp,fun c hm a ha=>by rw[(hc c hm).1] at ha;simp at ha,fun c hm=>by have:=(hc c hm).2;omega⟩
theorem y09:asgV smp (Subj.mk [Ctxt.mk usrB (ByteArray.mk (Array.mk [117])) []]) [] (ByteArray.mk (Array.mk [108]))=(Asg.mk (ByteArray.mk (Array.mk [108])) (ByteArray.mk (Array.mk [120])) (ofV noT (ByteArray.mk (Array.mk [117]))) 2 false,0):=by
 obtain⟨h0,h1⟩:=v7k noT (ByteArray.mk (Array.mk [117]))
 have hf:fnd (Subj.mk [Ctxt.mk usrB (ByteArray.mk (Array.mk [117])) []]) usrB=some (Ctxt.mk usrB (ByteArray.mk (Array.mk [117])) []):=by simp[fnd]
 have hb:bktV (Lay_.mk (ByteArray.mk (Array.mk [108])) usrB noT 0 0 []) (Subj.mk [Ctxt.mk usrB (ByteArray.mk (Array.mk [117])) []])=ofV noT (ByteArray.mk (Array.mk [117])):=by unfold bktV;rw[hf]
 have hh:w4k smp (Subj.mk [Ctxt.mk usrB (ByteArray.mk (Array.mk [117])) []])=false:=by
  unfold w4k
  split
  ·rw[df (by decide)];rfl
  ·rfl
 have hx:xof smp (ByteArray.mk (Array.mk [120]))=some (smp.6.head (by simp)):=by simp[xof]
 have he:w0a smp (Subj.mk [Ctxt.mk usrB (ByteArray.mk (Array.mk [117])) []]) (ByteArray.mk (Array.mk [120]))=true:=by
  unfold w0a;rw[hx];simp only[List.head_cons];unfold cndV;rw[v78];simp
 have hi:insV [Spn.mk 0 10000] (ofV noT (ByteArray.mk (Array.mk [117])))=true:=by
  unfold insV
  rw[List.find?_cons]
  simp[h0,h1]
 have hp: ∀q,v8b [Rng.mk 0 10000 2] (ofV noT q)=2:=fun q=>by
  obtain⟨h0,h1⟩:=v7k noT q
  unfold v8b
  rw[List.find?_cons]
  simp[h0,h1]
 have hl:lof smp (ByteArray.mk (Array.mk [108]))=some (Lay_.mk (ByteArray.mk (Array.mk [108])) usrB noT 0 0 []):=by simp[lof]
 unfold asgV
 rw[hl]
 simp only
 unfold layV
 rw[show fcdV smp [] (ByteArray.mk (Array.mk [108]))=none by simp[fcdV,frcV]]
 simp only
 rw[hb,if_neg (by rw[hh];simp only[Bool.false_eq_true,false_or];intro k;have h2:ofV noT (ByteArray.mk (Array.mk [117]))<0:=k.2;omega),hf]
 simp only
 have ht:hitV smp (Subj.mk [Ctxt.mk usrB (ByteArray.mk (Array.mk [117])) []]) (ByteArray.mk (Array.mk [108])) (ofV noT (ByteArray.mk (Array.mk [117])))=some (smp.6.head (by simp)):=by
  unfold hitV
  rw[List.find?_cons]
  simp only[hi,he]
  simp
 rw[ht]
 simp only[List.head_cons]
 rw[hp]
theorem y1a:asgV smp (Subj.mk []) [] (ByteArray.mk (Array.mk [108]))=(Asg.mk (ByteArray.mk (Array.mk [108])) noT (-1) 0 false,0):=by
 have hl:lof smp (ByteArray.mk (Array.mk [108]))=some (Lay_.mk (ByteArray.mk (Array.mk [108])) usrB noT 0 0 []):=by simp[lof]
 have hf: ∀k,fnd (Subj.mk []) k=none:=fun k=>rfl
 unfold asgV
 rw[hl]
 simp only
 unfold layV w4k bktV
 simp only[hf,show fcdV smp [] (ByteArray.mk (Array.mk [108]))=none by simp[fcdV,frcV]]
 simp
theorem w1n{K:Bool->Prop}(h:K true):R5 K:=by
 unfold R5 z1l q4a
 refine Rm (v:=smp) y2q (j54 (by decide) (by simp;decide)) (by decide) ?_
 rw[y09]
 refine Rm (v:=smp) y2q (j54 (by decide) (by simp)) (by decide) ?_
 rw[y1a]
 refine Cnd.yes rfl (Cnd.yes rfl (Cnd.yes rfl (w6w (by decide) (by decide) (Cnd.yes rfl (Cnd.yes rfl (Cnd.yes ⟨rfl,rfl,rfl,rfl,rfl⟩ ?_))))))
 exact w4n y7m (j54 (by decide) (by simp)) (by decide) fun _=>h
theorem v0a{list:List Int}{at_:Int}{v:Envt}{K:List Frc->Int->Prop}(hD:DS list at_)(hE:EnvS v)(h: ∀l a,l.length<=3->K l a):z0p list at_ v K:=by
 unfold z0p j2j
 have hxn:=hE.xlen
 refine Lp3.ind (fun (l:List Frc) (i a:Int)=>0<=i/\i<=3/\(l.length:Int)=i/\DS list a) (fun _ (i:Int) _=>(3 - i).toNat) ?_ ⟨by omega,by omega,rfl,hD⟩
 rintro l i a ⟨i0,i1,hl,hD⟩
 refine Qh hD (by decide) fun q a q0 q1 hD=>Cnd.mk (fun hc=>Qh hD (by decide) fun w a w0 w1 hD=>⟨by unfold InI;omega,?_⟩) fun _=>h _ _ (by omega)
 refine Jn2.mk (fun _ a=>DS list a) (Qh hD (by decide) fun r a _ _ hD=>Cnd.mk (fun _=>hD) fun _=>hD) fun ly a hD=> ?_
 refine Jn4.mk (fun _ _ _ a=>DS list a) ?_ fun _ _ _ a hD=>⟨by unfold Sml;simp;omega,by unfold InI;omega,⟨by omega,by omega,by simp;omega,hD⟩,by omega⟩
 refine Qh hD (by decide) fun r a r0 r1 hD _=>Cnd.mk (fun hc=>⟨by omega,fun y hy=> ?_⟩) fun _=>hD
 refine Jn2.mk (fun _ a=>DS list a) (Qh hD (by decide) fun q a _ _ hD=>Cnd.mk (fun _=>⟨by omega,fun z hz=>hD⟩) fun _=>hD) fun ly a hD=>⟨by omega,fun z hz=>Qh hD (by decide) fun q a _ _ hD=>Cnd.mk (fun _ _=>Cnd.mk (fun hl0 _=> ?_) fun _=>hD) fun _=>hD⟩
 have hz1:=(hE.exps z (getm hz)).arms.1
 exact Qh hD (by omega) fun u a u0 u1 hD=>⟨⟨u0,u1⟩,fun w hw=>hD⟩
theorem v0b{V:Envt->Prop}(hV: ∀(v:Envt) (K:Bool->Prop),EnvS v->(∀b,(b=true->V v)->K b)->V8 v K)(hV0: ∀ds,V (Envt.mk (Sett.mk (ByteArray.mk (Array.mk [])) (ByteArray.mk (Array.mk [])) 0) ds [] [] [] []))
  {codes who:List Int}{K:Envt->Subj->List Frc->Prop}(hc:Byts codes)(hw:Byts who)(h: ∀v s f,EnvS v->EnvD v->V v->SubB s->f.length<=3->K v s f):Ge codes who K:=by
 unfold Ge z1m
 refine w4j hc (by decide) (by decide) fun cl hD=>j3y hV hV0 hD fun v a hE hd hv _=>w4j hw (by decide) (by decide) fun wl hD2=>z7d hD2 fun s a hs hl hD3=>v0a (v:=v) hD3 hE fun f _ hf=>h v s f hE hd hv (w1l hs hl) hf
theorem w1o{codes who:List Int}{K:Envt->Subj->List Frc->Prop}(hc:Byts codes)(hw:Byts who)(h: ∀v s f,EnvS v->EnvD v->SubB s->f.length<=3->K v s f):Ge codes who K:=
 v0b (V:=fun _=>True) (fun _ _ hv h=>z5g hv fun b=>h b fun _=>trivial) (fun _=>trivial) hc hw fun v s f h1 h2 _ h3 h4=>h v s f h1 h2 h3 h4
end Go.En
end
noncomputable section
set_option maxRecDepth 100000
namespace Go.En
open Go Go.Fl Go.Fl.Lk Go.Fx Go.Sg
open Go.Gr (Ord Grd Rdy Nxt)
theorem y1b{x n:Int}{K:Int->Prop}(hn:0<n)(hi:n<=1000)(h: ∀r,0<=r->r<n->K r):z8b x n K:=by
 unfold z8b
 have h1:=Int.lt_tmod_of_pos x hn
 have h2:=Int.tmod_lt_of_pos x hn
 exact⟨by omega,Cnd.mk (fun hc=>⟨by unfold InI;omega,h _ (by omega) (by omega)⟩) fun hc=>h _ (by omega) h2⟩
end Go.En
end
noncomputable section
set_option maxRecDepth 100000
namespace Go.En
open Go Go.Fl Go.Fl.Lk Go.Fx
theorem v1z{codes who:List Int}{s:Subj}{forced:List Frc}{key:ByteArray}{K:Bool->Prop}(hc:Byts codes)(hw:Byts who)(hs:SubB s)(h:K true):q2h codes who s forced key K:=by
 unfold q2h q2g
 refine w1n (Cnd.yes rfl fun _=>Cnd.mk (fun _=>h) fun _ _=>Cnd.mk (fun _=>h) fun hfl=> ?_)
 refine w1o hc hw fun v q f hE hD hq hf _=> ?_
 have hv:=y2p hE hD
 have hall: ∀y∈[Subj.mk q.1,Subj.mk s.1],SubB y:=fun y hy=>by
  rcases List.mem_cons.1 hy with rfl|hy
  ·exact hq
  ·rw[List.mem_singleton.1 hy];exact hs
 have hfs: ∀y∈[f,forced],y.length<=1000000000:=fun y hy=>by
  simp only[List.mem_cons,List.not_mem_nil,or_false] at hy
  rcases hy with rfl|rfl<;>omega
 have h2:([Subj.mk q.1,Subj.mk s.1]:List Subj).length=2:=rfl
 have h3:([f,forced]:List (List Frc)).length=2:=rfl
 have h4:([ByteArray.mk (Array.mk [120,97]),ByteArray.mk (Array.mk [120,98]),ByteArray.mk (Array.mk [120,99]),key]:List ByteArray).length=4:=rfl
 have h5:([ByteArray.mk (Array.mk [108,97]),ByteArray.mk (Array.mk [108,98]),key]:List ByteArray).length=3:=rfl
 generalize [Subj.mk q.1,Subj.mk s.1]=L at hall h2⊢
 generalize [f,forced]=F at hfs h3⊢
 generalize [ByteArray.mk (Array.mk [120,97]),ByteArray.mk (Array.mk [120,98]),ByteArray.mk (Array.mk [120,99]),key]=ks at h4⊢
 generalize [ByteArray.mk (Array.mk [108,97]),ByteArray.mk (Array.mk [108,98]),key]=ls at h5⊢
 refine srch (fun _=>false) (by omega) (fun _ _=> ?_) fun i y Y hy _ _ hq1=> ?_
 ·refine srch (fun _=>false) (by omega) (fun _=>h) fun i2 y2 Y2 hy2 _ _ hq2 _=>srch (fun _=>false) (by omega) (fun _=>hq2 rfl) fun i3 y3 Y3 hy3 _ _ hq3=> ?_
  have hf2:=hfs y2 (getm hy2)
  exact z2y hf2 (w4m hf2 (Cnd.yes ⟨rfl,rfl,rfl⟩ (Cnd.yes rfl (hq3 rfl))))
 ·have hyb:SubB y:=hall y (getm hy)
  refine z7e (v:=v) hv hyb (w92 (v:=v) hv hyb (Cnd.yes rfl fun _=> ?_))
  refine srch (fun _=>false) (by omega) (fun _=>hq1 rfl) fun i2 y2 Y2 hy2 _ _ hq2=> ?_
  exact q80 (v:=v) hv hyb (j9b (v:=v) hv hyb (Cnd.yes rfl (hq2 rfl)))
theorem y5g{v:Envt}(hd:(v.5.map Lay_.key).Nodup){l:Lay_}(hl:l∈v.5):lof v l.1=some l:=by
 unfold lof
 generalize v.5=L at hl hd
 induction L with
 |nil=>cases hl
 |cons a L ih=>
  rw[List.find?_cons]
  rw[List.map_cons,List.nodup_cons] at hd
  rcases List.mem_cons.1 hl with rfl|hl
  ·simp
  ·rw[decide_eq_false (fun e=>hd.1 (by rw[e];exact List.mem_map_of_mem hl))]
   exact ih hl hd.2
theorem v8o(n:Nat):(lyK.take n).Nodup:=(show lyK.Nodup by unfold lyK;decide).sublist (List.take_sublist _ _)
theorem y7n: ∀x∈exK,x≠noT:=by unfold exK;decide
theorem v8p{x:Int}{K:Int->Prop}(h: ∀r,0<=r->r<10001->K r):z8b x 10001 K:=by
 unfold z8b
 have h1:=Int.lt_tmod_of_pos x (show (0:Int)<10001 by decide)
 have h2:=Int.tmod_lt_of_pos x (show (0:Int)<10001 by decide)
 exact⟨by omega,Cnd.mk (fun hc=>⟨by unfold InI;omega,h _ (by omega) (by omega)⟩) fun hc=>h _ (by omega) h2⟩
theorem w0h{codes who later:List Int}{which holdout:Int}{K:Bool->Prop}(hc:Byts codes)(hw:Byts who)(hlt:Byts later)(h:K true):Jk codes who later which holdout K:=by
 unfold Jk q0r
 refine w1n (Cnd.yes rfl ?_)
 refine w1o hc hw fun v s f hE hD hs hf=>y1b (by decide) (by decide) fun k k0 k1 _=>Cnd.mk (fun _=>h) fun hk=>⟨by omega,fun x0 hx0=>Cnd.mk (fun h5=>⟨by omega,fun x hx=> ?_⟩) fun _=>h⟩
 rw[hx0] at hx;cases hx
 have hv:=y2p hE hD
 have hm:=getm hx0
 have hxd:=hD.exp x0 hm
 have hrl:=(hE.exps x0 hm).arms.1
 have hpos:0<x0.7.length:=by
  obtain⟨r,hr,_⟩:=hxd.cov 0 (by decide) (by decide)
  exact List.length_pos_of_mem hr
 refine fun _=>⟨by unfold InI;omega,by omega,fun r hr=> ?_⟩
 refine v8p fun w w0 w1=> ?_
 have hE':EnvS (Envt.mk (Sett.mk (ByteArray.mk (Array.mk [122])) (ByteArray.mk (Array.mk [117,115,101,114])) w) v.2 v.3 v.4 v.5 v.6):=⟨(by decide:(ByteArray.mk (Array.mk [117,115,101,114])).size<=100),hE.attrs,hE.slen,hE.segs,hE.flen,hE.flags,hE.llen,hE.layers,hE.xlen,hE.exps⟩
 have hv':AsB (Envt.mk (Sett.mk (ByteArray.mk (Array.mk [122])) (ByteArray.mk (Array.mk [117,115,101,114])) w) v.2 v.3 v.4 v.5 v.6):=⟨hv.ln,hv.xn,hv.sg,hv.ex,(by decide:(ByteArray.mk (Array.mk [122])).size<=10000000),hv.ls,hv.xs,hv.cl,hv.nd⟩
 refine z5g hE' fun b=>Cnd.mk (fun _=> ?_) fun _=>h
 generalize hV:Envt.mk (Sett.mk (ByteArray.mk (Array.mk [122])) (ByteArray.mk (Array.mk [117,115,101,114])) w) v.2 v.3 v.4 v.5 v.6=V at hE' hv'⊢
 have hV5:V.5=v.5:=by rw[←hV]
 have hV6:V.6=v.6:=by rw[←hV]
 refine w4j hlt (by decide) (by decide) fun wl hD2=>w7h hD2 fun q _ hs1 hs2 _=> ?_
 have hq:=w1l hs1 hs2
 have hall: ∀y∈[Subj.mk s.1,Subj.mk q.1,Subj.mk []],SubB y:=fun y hy=>by
  simp only[List.mem_cons,List.not_mem_nil,or_false] at hy
  rcases hy with rfl|rfl|rfl
  ·exact hs
  ·exact hq
  ·exact j54 (by decide) (by simp)
 have h3:([Subj.mk s.1,Subj.mk q.1,Subj.mk []]:List Subj).length=3:=rfl
 generalize [Subj.mk s.1,Subj.mk q.1,Subj.mk []]=L at hall h3⊢
 refine Lp4.ind (fun (i:Int) (l:List Subj) (o g:List Frc)=>0<=i/\i<=3/\l=L/\o=[Frc.mk x0.2 noT 0]/\g=[Frc.mk x0.2 x0.1 r.3]) (fun i _ _ _=>(3 - i).toNat) ?_ ⟨by omega,by omega,rfl,rfl,rfl⟩
 rintro i l o g ⟨i0,i1,rfl,rfl,rfl⟩
 refine Cnd.mk (fun hi=>⟨by omega,fun y hy=> ?_⟩) fun _=>h
 have hyb:SubB y:=hall y (getm hy)
 obtain⟨ly,hly,hlk⟩:=hxd.layer
 have hnd:(v.5.map Lay_.key).Nodup:=by rw[hD.layers];exact v8o _
 have hlo:lof V x0.2=some ly:=by rw[hlk];exact y5g (by rw[hV5];exact hnd) (by rw[hV5];exact hly)
 have hne:x0.1≠noT:=y7n _ (hD.exps.subset (List.mem_map_of_mem hm))
 have hf1:fcdV V [Frc.mk x0.2 x0.1 r.3] x0.2=some (x0.1,r.3):=by
  have hrun:runV V (Frc.mk x0.2 x0.1 r.3)=true:=by
   unfold runV
   rw[hV6,Option.isSome_iff_ne_none,Ne,List.find?_eq_none]
   intro hall
   refine hall x0 hm (w7i (dt rfl) (w7i (dt rfl) (w7i (dt h5) ?_)))
   unfold armV
   rw[Option.isSome_iff_ne_none,Ne,List.find?_eq_none]
   exact fun hn=>hn r (getm hr) (dt rfl)
  unfold fcdV frcV
  simp only[List.find?_cons,decide_true]
  rw[if_neg hne,if_pos hrun]
 have hf2:fcdV V [Frc.mk x0.2 noT 0] x0.2=some (noT,0):=by
  unfold fcdV frcV
  simp
 have ha1:asgV V y [Frc.mk x0.2 x0.1 r.3] x0.2=(Asg.mk x0.2 x0.1 (bktV ly y) r.3 false,0):=by unfold asgV;rw[hlo];simp only;unfold layV;rw[hf1]
 have ha2:asgV V y [Frc.mk x0.2 noT 0] x0.2=(Asg.mk x0.2 noT (bktV ly y) 0 false,0):=by unfold asgV;rw[hlo];simp only;unfold layV;rw[hf2]
 refine Rm (v:=V) hv' hyb (by simp) ?_
 rw[ha1]
 refine Rm (v:=V) hv' hyb (by simp) ?_
 rw[ha2]
 refine Cnd.yes rfl (Cnd.yes rfl (Cnd.yes rfl ⟨by simp,fun z hz=> ?_⟩))
 have hz:z=Frc.mk x0.2 x0.1 r.3:=(Option.some.inj hz).symm
 rw[hz]
 exact Cnd.yes rfl (Cnd.no (by simp) (Cnd.yes rfl (Cnd.yes rfl (Cnd.no (by simp) ⟨by unfold InI;omega,⟨by omega,by omega,rfl,rfl,rfl⟩,by omega⟩))))
end Go.En
end
section
namespace Go.En
open Go Go.RowKit Go.Fl Go.Fx
/-- Bytes as numbers. -/
def u8s (l : List UInt8) : List Int := l.map fun b => ((b.toNat : Nat) : Int)
theorem v8q {l : List UInt8} : Byts (u8s l) := fun x hx => by
  obtain ⟨b, _, rfl⟩ := List.mem_map.1 hx
  have := b.toNat_lt
  exact ⟨by omega, by omega⟩
theorem y5h {σ : Hv} {v : Value} {l : List UInt8} (h : RSl 1 RU8 σ v l) : RSl (D.size C.u8) (ElF D C.u8) σ v (u8s l) := by
  obtain ⟨a, cap, rfl, h1, h2, h3⟩ := h
  refine ⟨a, cap, by simp [u8s], by simpa [u8s] using h1, by simpa [u8s] using h2, fun i x hx => ?_⟩
  simp only [u8s, List.getElem?_map, Option.map_eq_some_iff] at hx
  obtain ⟨b, hb, rfl⟩ := hx
  obtain ⟨ad, cs, e1, e2, e3, e4⟩ := h3 i b hb
  have e4 : cs = _ := e4
  subst e4
  exact ⟨ad, _, e1, rfl, e3, U5 (.int _ _) j18⟩
theorem z84 (x0 : List UInt8) (x1 : List UInt8) (x2 : List UInt8) (x3 : Int) (x4 : Int) {v0 : Value} {v1 : Value} {v2 : Value} {σ : Hv} {w : World} (hV : View σ w) (hG : Glb D σ) (rd0 : RSl 1 RU8 σ v0 x0) (rd1 : RSl 1 RU8 σ v1 x1) (rd2 : RSl 1 RU8 σ v2 x2) (h : ∀ K : Bool → Prop, K true → Jk (u8s x0) (u8s x1) (u8s x2) x3 x4 K) :
    Calls Go.Proofs.Tryz.prog 7 #[v0, v1, v2, .int .i64 x3, .int .i64 x4] w fun e w1 => ∃ r, e = .returned (.bool r) ∧ Grow [] σ w σ w1 ∧ r = true := by
  have he : (Gi Jk).m ([.f (.sl C.u8 (u8s x0)), .f (.sl C.u8 (u8s x1)), .f (.sl C.u8 (u8s x2)), .f (.int .i64 x3), .f (.int .i64 x4)] : List (Fx.Tr Sg)) (fun rets _ => rets = [.f (.bool true)]) = Jk (u8s x0) (u8s x1) (u8s x2) x3 x4 (fun b => ([.f (.bool b)] : List (Fx.Tr Sg)) = [.f (.bool true)]) := by kernel_rfl
  have hp : (Gi Jk).m ([.f (.sl C.u8 (u8s x0)), .f (.sl C.u8 (u8s x1)), .f (.sl C.u8 (u8s x2)), .f (.int .i64 x3), .f (.int .i64 x4)] : List (Fx.Tr Sg)) (fun rets _ => rets = [.f (.bool true)]) := Eq.mpr he (h _ rfl)
  have hm := (z8v).m _ _ hp w σ [v0, v1, v2, .int .i64 x3, .int .i64 x4] [] hG (LayL.cons (ms := []) (.f (RepF.ofRSl okP.ok (y5h rd0))) (LayL.cons (ms := []) (.f (RepF.ofRSl okP.ok (y5h rd1))) (LayL.cons (ms := []) (.f (RepF.ofRSl okP.ok (y5h rd2))) (LayL.cons (ms := []) (.f (.int _ _)) (LayL.cons (ms := []) (.f (.int _ _)) .nil))))) (St.start hV)
  refine Calls.mono hm ?_
  rintro e w1 ⟨rets, outs, rv, σ1, msr, mso, rfl, hK, hLr, _, hS⟩
  subst hK
  cases hLr with
  | cons h1 hn =>
  cases hn
  cases h1 with
  | f hf =>
  cases hf
  exact ⟨true, rfl, hS.done.forget, rfl⟩
end Go.En
namespace Go.Proofs.YtfiomedjdipbgaaGreatDoor.assignStays
open Go Go.RowKit Go.Fl Go.ChangeShapes Go.WideShapes Go.ChangeAt
open Go.ChangeMaps (open_string shut_string)
theorem own : ownKnob Tryz.prog.godebug = none := by kernel_rfl
theorem laidOut : laidOutB Tryz.prog = true := by kernel_rfl
set_option maxRecDepth 100000 in
theorem contract (H : Type) (enc : TypeId × Value → H) (W : World) (base : Nat) (args : Array Value) (ds gs : List (DataW H)) (before : List MemPlace)
    (hval : ∀ (j : Nat) t v, Tryz.f7.params[j]? = some t → args[j]? = some v → Value.okWide Tryz.prog W .any base t v)
    (hW : DataW.Whole enc Tryz.prog Tryz.f7.params.toList Rows.assignStaysSpec.vars false W args.toList ds gs before)
    (hsz : (DataW.weightsEach Tryz.prog (Tryz.f7.params.toList ++ (OpenSpec.ofChange Rows.assignStaysSpec).bare.plain.varTypes Tryz.prog) (ds ++ gs)).all (· ≤ reachBytes) = true)
    (hL : laidMetH Tryz.prog Rows.assignStaysRow.laid W) (hsh : W.ShapedOpen Tryz.prog) :
    Calls Tryz.prog 7 args W fun e W' => ∃ v, e = .returned v ∧ Rows.assignStaysSpec.post enc Tryz.prog Tryz.f7 false true false false W args v W' := by
  have hG : Go.Fx.Glb Go.En.D (hv W) := Go.En.w8l hL hsh
  have hW' := hW
  obtain ⟨p, q, hA0, hV, rfl, hfz, hnd⟩ := hW
  have hA : DataW.TrodAll enc Tryz.prog W 0 (fun _ => true) true Tryz.f7.params.toList args.toList ds p := hA0
  rw [Tryz.params7] at hA hval hsz
  obtain ⟨v0, vs0, d0, ds0, p0, q0, hargs, rfl, rfl, h0, r0⟩ := trodAll_cons hA
  obtain ⟨v1, vs1, d1, ds1, p1, q1, rfl, rfl, rfl, h1, r1⟩ := trodAll_cons r0
  obtain ⟨v2, vs2, d2, ds2, p2, q2, rfl, rfl, rfl, h2, r2⟩ := trodAll_cons r1
  obtain ⟨v3, vs3, d3, ds3, p3, q3, rfl, rfl, rfl, h3, r3⟩ := trodAll_cons r2
  obtain ⟨v4, vs4, d4, ds4, p4, q4, rfl, rfl, rfl, h4, r4⟩ := trodAll_cons r3
  obtain ⟨rfl, rfl, rfl⟩ := trodAll_nil r4
  obtain rfl : args = #[v0, v1, v2, v3, v4] := by cases args; simp_all
  obtain ⟨rfl, rfl⟩ := trodVars_none hV
  have k0 := h0
  have lt0 : ∀ x ∈ p0, x.block < W.heap.size := by obtain ⟨m, hm⟩ := k0; exact DataW.trod_lt m _ _ _ hm
  obtain ⟨x0, rd0⟩ := y4l Tryz.underlying22 Tryz.underlying5 (by kernel_rfl) (of_decide_eq_true (by kernel_rfl)) (hval 0 22 v0 rfl rfl) h0 (w2j hsz (j := 0) (t := 22) rfl rfl)
  have k1 := h1
  have lt1 : ∀ x ∈ p1, x.block < W.heap.size := by obtain ⟨m, hm⟩ := k1; exact DataW.trod_lt m _ _ _ hm
  obtain ⟨x1, rd1⟩ := y4l Tryz.underlying22 Tryz.underlying5 (by kernel_rfl) (of_decide_eq_true (by kernel_rfl)) (hval 1 22 v1 rfl rfl) h1 (w2j hsz (j := 1) (t := 22) rfl rfl)
  have k2 := h2
  have lt2 : ∀ x ∈ p2, x.block < W.heap.size := by obtain ⟨m, hm⟩ := k2; exact DataW.trod_lt m _ _ _ hm
  obtain ⟨x2, rd2⟩ := y4l Tryz.underlying22 Tryz.underlying5 (by kernel_rfl) (of_decide_eq_true (by kernel_rfl)) (hval 2 22 v2 rfl rfl) h2 (w2j hsz (j := 2) (t := 22) rfl rfl)
  obtain ⟨x3, rfl, rfl, rfl, wx3⟩ := open_int Tryz.underlying3 (hval 3 3 v3 rfl rfl) h3
  have bx3 := wx3
  simp only [Lit.wf, Bool.and_eq_true, decide_eq_true_eq] at bx3
  have blo3 : -9223372036854775808 ≤ x3 := by have := bx3.1; simp [IntKind.min] at this; exact this
  have bhi3 : x3 ≤ 9223372036854775807 := by have := bx3.2; simp [IntKind.max] at this; exact this
  obtain ⟨x4, rfl, rfl, rfl, wx4⟩ := open_int Tryz.underlying3 (hval 4 3 v4 rfl rfl) h4
  have bx4 := wx4
  simp only [Lit.wf, Bool.and_eq_true, decide_eq_true_eq] at bx4
  have blo4 : -9223372036854775808 ≤ x4 := by have := bx4.1; simp [IntKind.min] at this; exact this
  have bhi4 : x4 ≤ 9223372036854775807 := by have := bx4.2; simp [IntKind.max] at this; exact this
  refine (Go.En.z84 x0 x1 x2 x3 x4 (y4j W) hG rd0 rd1 rd2 (fun _ hk => Go.En.w0h Go.En.v8q Go.En.v8q Go.En.v8q hk)).mono fun e W' he => ?_
  obtain ⟨r, rfl, hg, hr⟩ := he
  have hrt : r = true := hr
  subst hrt
  have bel := y0g hg.keeps
  exact ⟨_, rfl, _, _, _, [], _, [], hW', trodAll_mk1 (shut_bool Tryz.underlying4 _), (trodAll_cons_mk (Below.trod laidOut (by kernel_rfl) (of_decide_eq_true (by kernel_rfl)) k0 bel lt0) (trodAll_cons_mk (Below.trod laidOut (by kernel_rfl) (of_decide_eq_true (by kernel_rfl)) k1 bel lt1) (trodAll_cons_mk (Below.trod laidOut (by kernel_rfl) (of_decide_eq_true (by kernel_rfl)) k2 bel lt2) (trodAll_cons_mk (shut_int Tryz.underlying3 wx3) (trodAll_cons_mk (shut_int Tryz.underlying3 wx4) trodAll_mk0))))), rfl, bel.frame _, fun h => by cases h⟩
theorem reads (os : Os) {H : Type} (enc : TypeId × Value → H) : ∃ places, DataW.whole enc Tryz.prog ((World.laidAll Tryz.prog os Rows.assignStaysRow.laid).forCall (fun _ _ => 0) ⟨#[], #[.slice none 0 0, .slice none 0 0, .slice none 0 0, .int .i64 0, .int .i64 0], []⟩).memory Tryz.f7.params.toList Rows.assignStaysSpec.vars false (#[.slice none 0 0, .slice none 0 0, .slice none 0 0, .int .i64 0, .int .i64 0] : Array Value).toList 8 = some ([.nil, .nil, .nil, .lit (.int .i64 0), .lit (.int .i64 0)], [], places) :=
  ⟨[], by kernel_rfl⟩
set_option maxRecDepth 100000 in
theorem lifted (os : Os) (started : os.Started) (H : Type) (enc : TypeId × Value → H) (F : Stop.Interp) :
    ReturnsInHanded {} Tryz.checked os 7 .any ((OpenSpec.ofChange Rows.assignStaysSpec).preRow enc Tryz.prog Tryz.f7 Rows.assignStaysRow.domain false Rows.assignStaysRow.laid) (((OpenSpec.ofChange Rows.assignStaysSpec).at F).post enc Tryz.prog Tryz.f7 false true false false) := by
  obtain ⟨places, hx⟩ := reads os enc
  refine returnsInHanded_of_row (C := Tryz.checked) (s := (OpenSpec.ofChange Rows.assignStaysSpec)) own started (by kernel_rfl) Tryz.func7
    (witness_row_atRef (enc := enc) (C := Tryz.checked) false (World.laidAll Tryz.prog os Rows.assignStaysRow.laid) #[.slice none 0 0, .slice none 0 0, .slice none 0 0, .int .i64 0, .int .i64 0] (World.laidAll_os _ _ _) (by kernel_rfl) (by kernel_rfl) (by kernel_rfl)
      (OpenSpec.preRow_of_cond 8 hx (by kernel_rfl) (fun k hk => by cases hk) (by kernel_rfl) (by rw [MakeChecks.laidMetH_plain _ _ _ (by kernel_rfl)]; exact laidMet_laidAll _ (by kernel_rfl) (by kernel_rfl)))) ?_
  intro W base args ds gs before hval hW _ _ hsz hL hsh _
  exact contract H enc W base args ds gs before hval hW hsz hL hsh
theorem y1c : (Rows.assignStaysRow.inPlace == Tryz.pinned.checked.prog.inPlace 7) = true := by kernel_rfl
theorem kUnf : (Rows.assignStaysRow.unfollowed == Tryz.pinned.checked.prog.unfollowed 7) = true := by kernel_rfl
theorem kRec : (Rows.assignStaysRow.recurses == Tryz.pinned.checked.prog.recurses 7) = true := by kernel_rfl
theorem y7o : (Rows.assignStaysRow.named == Tryz.pinned.checked.prog.varsNamed 7) = true := by kernel_rfl
theorem closed : joinedFacts Tryz.pinned.checked.prog 7 Tryz.f7 (OpenSpec.ofChange Rows.assignStaysSpec).bare Rows.assignStaysRow = true := by
  unfold joinedFacts
  rw [y1c, kUnf, kRec, y7o]
  kernel_rfl
theorem said : Rows.AssignStaysSaid :=
  OpenClaim.holds_of_cond 7 Tryz.f7 rfl rfl rfl rfl rfl rfl rfl ⟨rfl, rfl, rfl, rfl, rfl⟩ rfl rfl rfl rfl rfl (by kernel_rfl) Tryz.func7 closed
    (of_decide_eq_true (by kernel_rfl)) (by unfold Func.isWrapper; first | (rw [if_pos (by decide +kernel)]; kernel_rfl) | (rw [if_neg (by decide +kernel)]; exact ⟨rfl, rfl⟩))
    (fun os started H enc _ F => by rw [OpenClaim.pre_eq_preRow]; exact lifted os started H enc F)
theorem plain (f : FuncId) (fn : Func) (hf : Tryz.pinned.checked.prog.funcNamed "flagstone/flagstonelaw15.AssignStays" = some f) (hfn : Tryz.pinned.checked.prog.funcs[f]? = some fn) :
    true = Tryz.pinned.checked.prog.looks [] ∧ ∀ (j : Nat) t, fn.params[j]? = some t → Tryz.pinned.checked.prog.wantsStandIn t = false := by
  obtain rfl : f = 7 := Option.some.inj ((show Tryz.prog.funcNamed "flagstone/flagstonelaw15.AssignStays" = some 7 by kernel_rfl).symm.trans hf) |>.symm
  obtain rfl : fn = Tryz.f7 := (Option.some.inj (Tryz.func7.symm.trans hfn)).symm
  refine ⟨by kernel_rfl, fun j t ht => ?_⟩
  rw [Tryz.params7] at ht
  match j with
  | 0 => cases ht; exact (show Tryz.prog.wantsStandIn 22 = false by kernel_rfl)
  | 1 => cases ht; exact (show Tryz.prog.wantsStandIn 22 = false by kernel_rfl)
  | 2 => cases ht; exact (show Tryz.prog.wantsStandIn 22 = false by kernel_rfl)
  | 3 => cases ht; exact (show Tryz.prog.wantsStandIn 3 = false by kernel_rfl)
  | 4 => cases ht; exact (show Tryz.prog.wantsStandIn 3 = false by kernel_rfl)
  | j + 5 => cases ht
theorem card : Rows.AssignStaysCardSaid :=
  Claim7.holds_tied_plain_at .later [] _ _ _ _ said (fun _ h => by cases h) (by kernel_rfl) (fun _ h => by cases h) assignStays_row_tie rfl ⟨rfl, rfl⟩ (by kernel_rfl) rfl plain (by kernel_rfl)
end Go.Proofs.YtfiomedjdipbgaaGreatDoor.assignStays
end
#print axioms Go.Proofs.YtfiomedjdipbgaaGreatDoor.assignStays.card
