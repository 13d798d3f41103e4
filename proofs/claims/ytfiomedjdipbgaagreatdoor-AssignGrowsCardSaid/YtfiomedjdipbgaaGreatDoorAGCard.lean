/- A subject stays in its experiment when experiments claim more, start or stop. This is part 7 of 7. Conditions: those in the statements. -/
import Derived.Test.YtfiomedjdipbgaaGreatDoorRows
import Derived.Test.YtfiomedjdipbgaaGreatDoorCards
import Derived.Test.YtfiomedjdipbgaaGreatDoorTie
import Derived.Test.YtfiomedjdipbgaaGreatDoorAG6
import Derived.KernelRfl
import Derived.WalkKit
import Derived.ProofKit
import Derived.OpenShut
import Derived.Deep.DeepHandedRow
import Derived.Deep.DeepWitnessRowRef
import Derived.Lay
import Derived.SevenTiedAt
noncomputable section
set_option maxRecDepth 100000
namespace Go.En
open Go Go.Fl Go.Fl.Lk Go.Fx Go.Dg
def Cov(l:List Rng):Prop:= ∀b:Int,0<=b->b<10000-> ∃r∈l,r.1<=b/\b<r.2
theorem j47{list:List Int}{at_ n:Int}{K:List Rng->Int->Prop}(hD:DS list at_)(hn:1<=n)(hn':n<=100)(h: ∀l a,SplS n l->Cov l->DS list a->K l a):q7p list at_ n K:=by
 unfold q7p j7u
 have cv1: ∀{l:List Rng} {x y z:Int},(∀b:Int,0<=b->b<x-> ∃r∈l,r.1<=b/\b<r.2)-> ∀b:Int,0<=b->b<y-> ∃r∈l++[Rng.mk x y z],r.1<=b/\b<r.2:=fun {l x y z} hc b h0 h1=>by
  by_cases hb:b<x
  ·obtain⟨r,hr,hh⟩:=hc b h0 hb
   exact⟨r,List.mem_append_left _ hr,hh⟩
  ·exact⟨_,List.mem_append_right _ List.mem_cons_self,by simp only;omega,h1⟩
 refine Jn4.mk (fun l at_ last a=>DS list a/\l.length<=3/\0<=at_/\(∀b:Int,0<=b->b<at_-> ∃r∈l,r.1<=b/\b<r.2)/\ ∀r∈l,0<=r.lo/\r.hi<=10000/\1<=r.variation/\r.variation<=n) ?_ ?_
 ·refine Lp5.ind (fun l at_ last i a=>DS list a/\0<=i/\i<=3/\(l.length:Int)=i/\0<=at_/\at_<=10000/\0<=last/\last<=n/\(∀b:Int,0<=b->b<at_-> ∃r∈l,r.1<=b/\b<r.2)/\ ∀r∈l,0<=r.lo/\r.hi<=10000/\1<=r.variation/\r.variation<=n) (fun _ _ _ i _=>(3 - i).toNat) ?_ ⟨hD,by omega,by omega,rfl,by omega,by omega,by omega,by omega,fun b h0 h1=>by omega,by simp⟩
  rintro l at_ last i a ⟨hD,i0,i1,hl,a0,a1,l0,l1,hcv,hr⟩
  refine Qh hD (by decide) fun q a q0 q1 hD=>Cnd.mk (fun _=>Cnd.mk (fun _=>⟨by unfold InI;omega,q29 hD (by decide) fun w a w0 w1 hD=>⟨by unfold InI;omega,Qh hD hn fun v a v0 v1 hD=>⟨by unfold InI;omega,?_⟩⟩⟩) fun _=> ?_) fun _=> ?_
  ·have m0:=Int.tmod_nonneg n (show 0<=1+v by omega);have m1:=Int.tmod_lt_of_pos (1+v) (b:=n) (by omega)
   refine Jn1.mk (fun v=>1<=v/\v<=n) (Cnd.mk (fun _=>⟨by omega,by unfold InI;omega,by omega,by omega⟩) fun _=>⟨by omega,by omega⟩) fun v hv=>Cnd.mk (fun _=>⟨hD,by omega,a0,hcv,hr⟩) fun _=> ?_
   exact⟨by unfold Sml;simp;omega,by unfold InI;omega,⟨hD,by omega,by omega,by simp;omega,by omega,by omega,by omega,by omega,cv1 hcv,Js hr ⟨by simp only;omega,by simp only;omega,by simp only;omega,by simp only;omega⟩⟩,by omega⟩
  ·exact⟨hD,by omega,a0,hcv,hr⟩
  ·exact⟨hD,by omega,a0,hcv,hr⟩
 ·rintro l at_ last a ⟨hD,hl,a0,hcv,hr⟩
  refine Qh hD hn fun v a v0 v1 hD=>⟨by unfold InI;omega,?_⟩
  have m0:=Int.tmod_nonneg n (show 0<=1+v by omega);have m1:=Int.tmod_lt_of_pos (1+v) (b:=n) (by omega)
  refine Jn1.mk (fun v=>1<=v/\v<=n) (Cnd.mk (fun _=>⟨by omega,by unfold InI;omega,by omega,by omega⟩) fun _=>⟨by omega,by omega⟩) fun v hv=> ?_
  exact⟨by unfold Sml;simp;omega,h _ _ ⟨by simp;omega,Js hr ⟨a0,by simp,hv.1,hv.2⟩⟩ (cv1 hcv) hD⟩
structure SrvD(n:Int)(s:Srv):Prop where
 ok:SrvS n s
 cov:s.variation=0->Cov s.split
theorem j48{list:List Int}{at_ n:Int}{K:Srv->Int->Prop}(hD:DS list at_)(hn:1<=n)(hn':n<=100)(h: ∀s a,SrvD n s->DS list a->K s a):z4h list at_ n K:=by
 unfold z4h j7v
 have tt: ∀s∈j0d,s.size<=100:=by decide
 have key:(ByteArray.mk (Array.mk [107,101,121])).size<=100:=by decide
 refine Qh hD (by decide) fun r a r0 r1 hD=>Cnd.mk (fun _=>Qh hD hn fun v a v0 v1 hD=>⟨by unfold InI;omega,h _ _ ⟨⟨sz0,⟨by simp only;omega,by simp only;omega⟩,⟨by simp,by simp⟩,sz0,sz0⟩,fun h0=>by simp only at h0;omega⟩ hD⟩) fun _=> ?_
 refine z1i hD fun t a ht hD=>j47 hD hn hn' fun l a hl hcv hD=>q3a fun ds _ hds=>Qh hD (by decide) fun q a q0 q1 hD _=> ?_
 have usr:(ByteArray.mk (Array.mk [117,115,101,114])).size<=100:=by decide
 have ok: ∀{k b:ByteArray},k.size<=100->b.size<=100->SrvD n (Srv.mk 0 k b t l):=fun hk hb=>⟨⟨hk,⟨by simp,by simp only;omega⟩,hl,hb,tt _ ht⟩,fun _=>hcv⟩
 refine Cnd.mk (fun _=>⟨by omega,fun y hy=>Cnd.mk (fun _=>h _ _ (ok usr key) hD) fun _=>⟨by omega,fun z hz=>⟨by omega,fun u hu=>h _ _ (ok (hds z (getm hz)).1 (hds u (getm hu)).2.1) hD⟩⟩⟩) fun _=>h _ _ (ok usr key) hD
theorem w73{list:List Int}{at_ kind:Int}{K:Val->Int->Prop}(hk0:1<=kind)(hk1:kind<=5)(hD:DS list at_)(h: ∀r a,ValS r->r.kind=kind->DS list a->K r a):Uu list at_ kind K:=by
 unfold Uu j0e
 have tt: ∀s∈j0d,s.size<=100:=by decide
 have tv: ∀s∈z4e,s.size<=100:=by decide
 have tl: ∀l∈j7s,l.length<=10/\ ∀s∈l,s.size<=100:=by decide
 refine Cnd.mk (fun _=> ?_) fun _=>Cnd.mk (fun _=>fun _=> ?_) fun _=>Cnd.mk (fun _=> ?_) fun _=>Cnd.mk (fun _=> ?_) fun _=> ?_
 ·exact Qh hD (by decide) fun r a r0 r1 hD=>h _ _ ⟨by unfold InI;simp only;omega,sz0,by simp,by simp⟩ rfl hD
 ·refine Qh hD (by decide) fun r a r0 r1 hD=>⟨⟨r0,r1⟩,fun y hy=>h _ _ ⟨?_,sz0,by simp,by simp⟩ rfl hD⟩
  have:=getm hy
  have k: ∀y∈[(0:Int),(1:Int),(17:Int),(18:Int),(19:Int),(-5:Int),(64:Int),(1099511627776:Int),(-1099511627776:Int)], -9223372036854775808<=y/\y<=9223372036854775807:=by decide
  exact k y this
 ·exact z1i hD fun r a hr hD=>h _ _ ⟨by unfold InI;simp,tt _ hr,by simp,by simp⟩ rfl hD
 ·exact Qh hD (by decide) fun r a r0 r1 hD=>⟨⟨r0,r1⟩,fun y hy=>h _ _ ⟨by unfold InI;simp,tv _ (getm hy),by simp,by simp⟩ rfl hD⟩
 ·refine Qh hD (by decide) fun r a r0 r1 hD=>⟨⟨r0,r1⟩,fun y hy=> ?_⟩
  obtain⟨a1,a2⟩:=tl _ (getm hy)
  exact⟨by unfold Sml;simp;omega,h _ _ ⟨by unfold InI;simp,sz0,by simpa using a1,by simpa using a2⟩ (by simp only;omega) hD⟩
def flK:List ByteArray:=[ByteArray.mk (Array.mk [102,97]),ByteArray.mk (Array.mk [102,98]),ByteArray.mk (Array.mk [102,99]),ByteArray.mk (Array.mk [102,100])]
def lyK:List ByteArray:=[ByteArray.mk (Array.mk [108,97]),ByteArray.mk (Array.mk [108,98])]
def exK:List ByteArray:=[ByteArray.mk (Array.mk [120,97]),ByteArray.mk (Array.mk [120,98]),ByteArray.mk (Array.mk [120,99])]
structure RulD(n:Int)(r:Rul):Prop where
 cond:DrE sgK 20000 r.cond
 serve:SrvD n r.serve
structure FlgD(prev:List Flg)(f:Flg):Prop where
 kind:1<=f.kind/\f.kind<=5
 kinds: ∀v∈f.variations,v.kind=f.kind
 off:1<=f.off/\f.off<=f.variations.length
 needs: ∀q∈f.needs,∃g∈prev,q.flag=g.key/\1<=q.variation/\q.variation<=g.variations.length
 tgts: ∀t∈f.targets,(1<=t.variation/\t.variation<=f.variations.length)/\t.keys.length<=3
 rules: ∀r∈f.rules,RulD f.variations.length r
 dflt:SrvD f.variations.length f.dflt
structure FlgsD(l:List Flg):Prop where
 keys:l.map Flg.key=flK.take l.length
 all: ∀(i:Nat) f,l[i]? =some f->FlgD (l.take i) f
structure ExpD(layers:List Lay_)(flags:List Flg)(x:Exper):Prop where
 cov:Cov x.arms
 cond:DrE sgK 20000 x.cond
 layer: ∃l∈layers,x.layer=l.key
 flag: ∃f∈flags,x.flag=f.key/\ ∀r∈x.arms,1<=r.variation/\r.variation<=f.variations.length
 salt:x.salt.size<=100
structure EnvD(v:Envt):Prop where
 salt:v.settings.salt.size<=100
 gs:GS v.segments
 flags:FlgsD v.flags
 layers:v.layers.map Lay_.key=lyK.take v.layers.length
 exps:(v.experiments.map Exper.key).Sublist exK
 exp: ∀x∈v.experiments,ExpD v.layers v.flags x
theorem w74:FlgsD []:=⟨rfl,by simp⟩
theorem v4v{l:List Flg}{f:Flg}(h:FlgsD l)(hk:flK[l.length]? =some f.key)(hf:FlgD l f):FlgsD (l++[f]):=by
 refine⟨?_,fun i g hi=> ?_⟩
 ·rw[List.map_append,h.keys,List.length_append,List.length_singleton,List.take_add_one,hk];rfl
 ·rcases Nat.lt_or_ge i l.length with hlt|hge
  ·rw[List.getElem?_append_left hlt] at hi
   rw[List.take_append_of_le_length (by omega)]
   exact h.all i g hi
  ·have:=Qf hi
   rw[List.length_append,List.length_singleton] at this
   have e:i=l.length:=by omega
   subst e
   rw[List.getElem?_append_right (Nat.le_refl _),Nat.sub_self] at hi
   cases hi
   rw[List.take_left' rfl];exact hf
theorem v84{a b:List ByteArray}{w:Nat}{e:Ex}(h:DrE a w e)(hs: ∀x∈a,x∈b):DrE b w e:=⟨h.wt,fun x hx=>hs x (h.nms x hx),h.ev⟩
theorem v4w{ds:List Decl}:EnvD (Envt.mk (Sett.mk (ByteArray.mk (Array.mk [])) (ByteArray.mk (Array.mk [])) 0) ds [] [] [] []):=
 ⟨sz0,y3n,w74,rfl,by simp,by simp⟩
theorem v86{l:List Seg}(h:GS l): ∀s∈l.map Seg.key,s∈sgK:=fun s hs=>by rw[h.keys] at hs;exact List.mem_of_mem_take hs
theorem v87:DrE sgK 20000 (Ex.mk 1 (ByteArray.mk (Array.mk [])) (ByteArray.mk (Array.mk [])) [] []):=
 ⟨by simp[wt,wtV,wtL],fun x hx=>by rw[w2o] at hx;rcases hx with ⟨h,_⟩|⟨k,hk,_⟩<;>simp at*,EvB.mk' (by simp) (by simp)⟩
theorem y3o{l:List ByteArray}{n i:Nat}{y:ByteArray}(h:(l.take n)[i]? =some y):l[i]? =some y:=by
 rw[List.getElem?_take] at h
 split at h
 ·exact h
 ·cases h
theorem j4i{V:Envt->Prop}(hV: ∀(v:Envt) (K:Bool->Prop),EnvS v->(∀b,(b=true->V v)->K b)->Wt v K)(hV0: ∀ds,V (Envt.mk (Sett.mk (ByteArray.mk (Array.mk [])) (ByteArray.mk (Array.mk [])) 0) ds [] [] [] []))
  {list:List Int}{at_ now:Int}{K:Envt->Int->Prop}(hD:DS list at_)(h: ∀v a,EnvS v->EnvD v->V v->DS list a->K v a):Ri list at_ now K:=by
 unfold Ri q8a
 have tt: ∀s∈j0d,s.size<=100:=by decide
 refine q3a fun attrs _ had=> ?_
 have hat: ∀d∈attrs,d.kind.size<=100/\d.name.size<=100:=fun d hd=>⟨(had d hd).1,(had d hd).2.1⟩
 refine Jn1.mk (fun x=>(x.1.size<=100/\x.2.1.size<=100)/\DS list x.2.2.2.1/\x.2.2.2.2.1=attrs) (Qh hD (by decide) fun r a _ _ hD=>Cnd.mk (fun _=>z1i hD fun t a ht hD=>q29 hD (by decide) fun w a _ _ hD=>⟨⟨tt _ ht,(by decide:(ByteArray.mk (Array.mk [117,115,101,114])).size<=100)⟩,hD,rfl⟩) fun _=>⟨⟨sz0,sz0⟩,hD,rfl⟩) ?_
 rintro⟨salt,hkind,hold,a,ds,u⟩ ⟨⟨hslt,hhk⟩,hD,hds⟩
 simp only at hslt hhk hD hds⊢
 subst hds
 refine w5d hD fun a segs hD hsl hsegs hgs=>Qh hD (by decide) fun n a n0 n1 hD=>j1m n0 (by simp only[List.length_cons,List.length_nil];omega) ?_
 have fin: ∀{flags:List Flg} {layers:List Lay_} {exps:List Exper} {a:Int},DS list a->flags.length<=4->(∀f∈flags,FlgS f)->layers.length<=2->(∀l∈layers,LayS l)->exps.length<=3->(∀x∈exps,ExpS x)->FlgsD flags->layers.map Lay_.key=lyK.take layers.length->(exps.map Exper.key).Sublist exK->(∀x∈exps,ExpD layers flags x)->
   Wt (Envt.mk (Sett.mk salt hkind hold) ds segs flags layers exps) fun b=>Cnd (b=true) (K (Envt.mk (Sett.mk salt hkind hold) ds segs flags layers exps) a) (J3 fun ds=>K (Envt.mk (Sett.mk (ByteArray.mk (Array.mk [])) (ByteArray.mk (Array.mk [])) 0) ds [] [] [] []) a):=fun hD h1 h2 h3 h4 h5 h6 e1 e2 e3 e4=>by
  have hv:EnvS (Envt.mk (Sett.mk salt hkind hold) ds segs _ _ _):=⟨hhk,hat,hsl,hsegs,h1,h2,h3,h4,h5,h6⟩
  exact hV _ _ hv fun b hb=>Cnd.mk (fun ht=>h _ _ hv ⟨hslt,hgs,e1,e2,e3,e4⟩ (hb ht) hD) fun _=>q3a fun ds _ had=>h _ _ (v4u fun d hd=>⟨(had d hd).1,(had d hd).2.1⟩) v4w (hV0 ds) hD
 have nms: ∀s∈List.take n.toNat [ByteArray.mk (Array.mk [102,97]),ByteArray.mk (Array.mk [102,98]),ByteArray.mk (Array.mk [102,99]),ByteArray.mk (Array.mk [102,100])],s.size<=100:=w5e (by decide)
 have hlen:(List.take n.toNat [ByteArray.mk (Array.mk [102,97]),ByteArray.mk (Array.mk [102,98]),ByteArray.mk (Array.mk [102,99]),ByteArray.mk (Array.mk [102,100])]).length<=4:=by
  rw[List.length_take];simp only[List.length_cons,List.length_nil];omega
 have hget: ∀(i:Nat) y,(List.take n.toNat [ByteArray.mk (Array.mk [102,97]),ByteArray.mk (Array.mk [102,98]),ByteArray.mk (Array.mk [102,99]),ByteArray.mk (Array.mk [102,100])])[i]? =some y->flK[i]? =some y:=fun i y hy=>y3o hy
 generalize List.take n.toNat _=l at nms hlen hget
 refine LpH.ind (fun (x:Int×Int×List Flg×List Seg×List Lay_×List Exper×Unit)=>0<=x.1/\x.1<=(l.length:Int)/\DS list x.2.1/\(x.2.2.1.length:Int)=x.1/\(∀f∈x.2.2.1,FlgS f)/\FlgsD x.2.2.1/\x.2.2.2=(segs,[],[],())) (fun x=>((l.length:Int) - x.1).toNat) ?_ ⟨Int.le_refl 0,by simp,hD,rfl,by simp,w74,rfl⟩
 rintro⟨i,a,flags,rest⟩ ⟨i0,i1,hD,hfl,hfs,hfd,hr⟩
 simp only at i0 i1 hD hfl hfs hfd hr⊢
 subst hr
 simp only
 intro _
 refine Cnd.mk (fun hc=>⟨by omega,fun key hkey=> ?_⟩) fun _=> ?_
 ·
  refine Qh hD (by decide) fun kind a k0 k1 hD=>⟨by unfold InI;omega,Qh hD (by decide) fun on a _ _ hD=>Qh hD (by decide) fun m a m0 m1 hD=>⟨by unfold InI;omega,?_⟩⟩
  refine LpH.ind (fun (x:Int×Int×List Val×List Exper×List Lay_×List Flg×List Seg×Unit)=>0<=x.1/\x.1<=1+m/\DS list x.2.1/\(x.2.2.1.length:Int)=x.1/\(∀v∈x.2.2.1,ValS v/\v.kind=1+kind)/\x.2.2.2=([],[],flags,segs,())) (fun x=>(1+m - x.1).toNat) ?_ ⟨Int.le_refl 0,by simp only;omega,hD,rfl,by simp,rfl⟩
  rintro⟨j,a,vals,rest⟩ ⟨j0,j1,hD,hvl,hvs,hr⟩
  simp only at j0 j1 hD hvl hvs hr⊢
  subst hr
  simp only
  refine Cnd.mk (fun hc=>w73 (by omega) (by omega) hD fun v a hv hvk hD=>⟨by unfold Sml;simp;omega,by unfold InI;omega,⟨by omega,by omega,hD,by simp;omega,Js hvs ⟨hv,hvk⟩,trivial⟩,by omega⟩) fun hc=> ?_
  refine Qh hD (by omega) fun off a o0 o1 hD=>⟨by unfold InI;omega,?_⟩
  have hlv:vals.length=(1+m).toNat:=by omega
  refine LpH.ind (fun (x:Int×List Prq×Int×List Seg×List Flg×List Lay_×List Exper×List Val×Unit)=>0<=x.1/\x.1<=(flags.length:Int)/\(x.2.1.length:Int)<=x.1/\(∀q∈x.2.1,q.flag.size<=100/\ ∃g∈flags,q.flag=g.key/\1<=q.variation/\q.variation<=g.variations.length)/\DS list x.2.2.1/\x.2.2.2=(segs,flags,[],[],vals,())) (fun x=>((flags.length:Int) - x.1).toNat) ?_ ⟨Int.le_refl 0,by simp,by simp,by simp,hD,rfl⟩
  rintro⟨j,needs,a,rest⟩ ⟨j0,j1,hnl,hns,hD,hr⟩
  simp only at j0 j1 hnl hns hD hr⊢
  subst hr
  simp only
  intro _
  refine Cnd.mk (fun hc=>Qh hD (by decide) fun q a _ _ hD=>Cnd.mk (fun _=>⟨by omega,fun y hy=>⟨by omega,fun z hz _=>Qh hD (by have:=(hfs z (getm hz)).vlen;omega) fun w a w0 w1 hD=> ?_⟩⟩) fun _=>⟨by unfold InI;omega,⟨by omega,by omega,by omega,hns,hD,trivial⟩,by omega⟩) fun _=> ?_
  ·have:=(hfs z (getm hz)).vlen
   exact⟨by unfold InI;omega,by unfold Sml;simp;omega,by unfold InI;omega,⟨by omega,by omega,by simp;omega,Js hns ⟨(hfs y (getm hy)).key,z,getm hz,by rw[hy] at hz;rw[Option.some.inj hz],by simp only;omega,by simp only;omega⟩,hD,trivial⟩,by omega⟩
  have hnl4:needs.length<=4:=by omega
  refine LpH.ind (fun (x:Int×List Tgt×Int×List Val×List Exper×List Lay_×List Flg×List Seg×List Prq×Unit)=>0<=x.1/\x.1<=3/\(x.2.1.length:Int)<=x.1/\(∀t∈x.2.1,t.kind.size<=100/\(1<=t.variation/\t.variation<=1+m)/\t.keys.length<=3)/\DS list x.2.2.1/\x.2.2.2=(vals,[],[],flags,segs,needs,())) (fun x=>(3 - x.1).toNat) ?_ ⟨Int.le_refl 0,by simp,by simp,by simp,hD,rfl⟩
  rintro⟨j,tgts,a,rest⟩ ⟨j0,j1,htl,hts,hD,hr⟩
  simp only at j0 j1 htl hts hD hr⊢
  subst hr
  simp only
  refine Qh hD (by decide) fun q a q0 q1 hD=>Cnd.mk (fun hc=>Qh hD (by omega) fun w a w0 w1 hD=>⟨by unfold InI;omega,j9g hD fun ks a hks _ hD=> ?_⟩) fun _=> ?_
  ·refine Jn1.mk (fun x=>x.1.size<=100/\DS list x.2.1/\x.2.2=(ks,needs,segs,flags,[],[],vals,tgts,())) (Qh hD (by decide) fun r a _ _ hD=>Cnd.mk (fun _=>⟨(by decide:(ByteArray.mk (Array.mk [100,101,118,105,99,101])).size<=100),hD,rfl⟩) fun _=>⟨(by decide:(ByteArray.mk (Array.mk [117,115,101,114])).size<=100),hD,rfl⟩) ?_
   rintro⟨kd,a,rest⟩ ⟨hkd,hD,hr⟩
   simp only at hkd hD hr⊢
   subst hr
   simp only
   exact fun _=>Cnd.mk (fun _=>⟨by unfold Sml;simp;omega,by unfold InI;omega,⟨by omega,by omega,by simp;omega,Js hts ⟨hkd,⟨by simp only;omega,by simp only;omega⟩,hks⟩,hD,trivial⟩,by omega⟩) fun _=>⟨by unfold InI;omega,⟨by omega,by omega,by omega,hts,hD,trivial⟩,by omega⟩
  refine Jn1.mk (fun (x:Int×List Rul×List ByteArray×List Prq×List Seg×List Flg×List Lay_×List Exper×List Val×List Tgt×Unit)=>DS list x.1/\x.2.1.length<=4/\(∀r∈x.2.1,RulS (1+m) r/\RulD (1+m) r)/\x.2.2.2=(needs,segs,flags,[],[],vals,tgts,())) ?_ ?_
  case refine_2=>
   rintro⟨a,rules,names,rest⟩ ⟨hD,hrl,hrs,hr⟩
   simp only at hD hrl hrs hr⊢
   subst hr
   simp only
   refine j48 hD (by omega) (by omega) fun s a hs hD=>⟨by unfold Sml;simp;omega,by unfold InI;omega,⟨by omega,by omega,hD,by simp;omega,Js hfs ?_,v4v hfd ?_ ?_,trivial⟩,by omega⟩
   all_goals have hvm:(vals.length:Int)=1+m:=by omega
   ·exact⟨nms key (getm hkey),⟨by simp only;omega,by simp only;omega⟩,fun v hv=>(hvs v hv).1,hnl4,fun q hq=>(hns q hq).1,by simp only;omega,fun t ht=>(hts t ht).1,hrl,by rw[hvm];exact fun r hr=>(hrs r hr).1,by rw[hvm];exact hs.ok⟩
   ·rw[←hget _ _ hkey];congr 1;omega
   ·exact⟨⟨by simp only;omega,by simp only;omega⟩,fun v hv=>(hvs v hv).2,⟨by simp only;omega,by simp only;omega⟩,fun q hq=>(hns q hq).2,fun t ht=>by simp only;rw[hvm];exact (hts t ht).2,fun r hr=>by simp only;rw[hvm];exact (hrs r hr).2,by simp only;rw[hvm];exact hs⟩
  have nm4: ∀s∈([ByteArray.mk (Array.mk [102,105,114,115,116]),ByteArray.mk (Array.mk [115,101,99,111,110,100]),ByteArray.mk (Array.mk [116,104,105,114,100]),ByteArray.mk (Array.mk [102,111,117,114,116,104])]:List ByteArray),s.size<=100:=by decide
  have nl4:([ByteArray.mk (Array.mk [102,105,114,115,116]),ByteArray.mk (Array.mk [115,101,99,111,110,100]),ByteArray.mk (Array.mk [116,104,105,114,100]),ByteArray.mk (Array.mk [102,111,117,114,116,104])]:List ByteArray).length=4:=rfl
  generalize ([ByteArray.mk (Array.mk [102,105,114,115,116]),ByteArray.mk (Array.mk [115,101,99,111,110,100]),ByteArray.mk (Array.mk [116,104,105,114,100]),ByteArray.mk (Array.mk [102,111,117,114,116,104])]:List ByteArray)=ns4 at nm4 nl4⊢
  refine LpH.ind (fun (x:Int×Int×List Rul×List ByteArray×List Prq×List Seg×List Flg×List Lay_×List Exper×List Val×List Tgt×Unit)=>0<=x.1/\x.1<=4/\DS list x.2.1/\(x.2.2.1.length:Int)=x.1/\(∀r∈x.2.2.1,RulS (1+m) r/\RulD (1+m) r)/\x.2.2.2=(ns4,needs,segs,flags,[],[],vals,tgts,())) (fun x=>(4 - x.1).toNat) ?_ ⟨Int.le_refl 0,by simp,hD,rfl,by simp,rfl⟩
  rintro⟨j,a,rules,rest⟩ ⟨j0,j1,hD,hrl,hrs,hr⟩
  simp only at j0 j1 hD hrl hrs hr⊢
  subst hr
  simp only
  refine Qh hD (by decide) fun q a q0 q1 hD=>Cnd.mk (fun hc=>⟨by rw[nl4];omega,fun y hy=> ?_⟩) fun _=>⟨hD,by omega,hrs,trivial⟩
  refine z3u (by simp only;omega) (j4c ((v0h fun s hs=> ?_).and v8u) 2 (by omega) (by decide) (by decide) hD fun e a he hD=>j48 hD (by omega) (by omega) fun s a hs hD=>⟨by unfold Sml;simp;omega,?_⟩)
  ·obtain⟨g,hg,rfl⟩:=List.mem_map.1 hs;exact (hsegs g hg).key
  have hrs':=Js hrs (x:=Rul.mk y (Ex.mk e.1 e.2 e.3 e.4 e.5) s) ⟨⟨nm4 y (getm hy),he.1.eta,hs.ok⟩,v84 (he.2.le (by decide)).eta (v86 hgs),hs⟩
  have hl':(rules++[Rul.mk y (Ex.mk e.1 e.2 e.3 e.4 e.5) s]).length=rules.length+1:=by simp
  have cut: ∀r∈List.take (((rules++[Rul.mk y (Ex.mk e.1 e.2 e.3 e.4 e.5) s]).length:Int) - 1).toNat (rules++[Rul.mk y (Ex.mk e.1 e.2 e.3 e.4 e.5) s]),RulS (1+m) r/\RulD (1+m) r:=fun r hr=>hrs' r (List.mem_of_mem_take hr)
  generalize rules++[Rul.mk y (Ex.mk e.1 e.2 e.3 e.4 e.5) s]=rs at hrs' hl' cut⊢
  refine q9t (by omega) (fun r hr=>(hrs' r hr).1.cond) fun o n b ho=>Cnd.mk (fun _ _=>Cnd.mk (fun _ _=>⟨by unfold InI;omega,by omega,hD,by simp only[List.length_take];omega,cut,trivial⟩) fun _=>⟨by unfold InI;omega,⟨by omega,by omega,hD,by omega,hrs',trivial⟩,by omega⟩) fun _ _=>⟨by unfold InI;omega,by omega,hD,by simp only[List.length_take];omega,cut,trivial⟩
 ·
  refine Qh hD (by decide) fun n a n0 n1 hD=>j1m n0 (by simp only[List.length_cons,List.length_nil];omega) ?_
  have nms: ∀s∈List.take n.toNat [ByteArray.mk (Array.mk [108,97]),ByteArray.mk (Array.mk [108,98])],s.size<=100:=w5e (by decide)
  have hlen:(List.take n.toNat [ByteArray.mk (Array.mk [108,97]),ByteArray.mk (Array.mk [108,98])]).length<=2:=by
   rw[List.length_take];simp only[List.length_cons,List.length_nil];omega
  have hgetl: ∀(i:Nat) y,(List.take n.toNat [ByteArray.mk (Array.mk [108,97]),ByteArray.mk (Array.mk [108,98])])[i]? =some y->lyK[i]? =some y:=fun i y hy=>y3o hy
  generalize List.take n.toNat _=ls at nms hlen hgetl
  have hf4:flags.length<=4:=by omega
  refine LpH.ind (fun (x:Int×Int×List Lay_×List Exper×List Seg×List Flg×Unit)=>0<=x.1/\x.1<=(ls.length:Int)/\DS list x.2.1/\(x.2.2.1.length:Int)=x.1/\(∀f∈x.2.2.1,LayS f)/\x.2.2.1.map Lay_.key=lyK.take x.2.2.1.length/\x.2.2.2=([],segs,flags,())) (fun x=>((ls.length:Int) - x.1).toNat) ?_ ⟨Int.le_refl 0,by simp,hD,rfl,by simp,rfl,rfl⟩
  rintro⟨j,a,layers,rest⟩ ⟨j0,j1,hD,hll,hls,hlk,hr⟩
  simp only at j0 j1 hD hll hls hlk hr⊢
  subst hr
  simp only
  intro _
  refine Cnd.mk (fun hc=>⟨by omega,fun y hy=>v4c hD (nms y (getm hy)) fun l a hl hky hD=>⟨by unfold Sml;simp;omega,by unfold InI;omega,⟨by omega,by omega,hD,by simp;omega,Js hls hl,by rw[List.map_append,hlk,List.length_append,List.length_singleton,List.take_add_one,←show j.toNat=layers.length by omega,hgetl _ _ hy,←hky];rfl,trivial⟩,by omega⟩⟩) fun _=> ?_
  refine Qh hD (by decide) fun n a n0 n1 hD=>j1m n0 (by simp only[List.length_cons,List.length_nil];omega) ?_
  have nmx: ∀s∈List.take n.toNat [ByteArray.mk (Array.mk [120,97]),ByteArray.mk (Array.mk [120,98]),ByteArray.mk (Array.mk [120,99])],s.size<=100:=w5e (by decide)
  have hxen:(List.take n.toNat [ByteArray.mk (Array.mk [120,97]),ByteArray.mk (Array.mk [120,98]),ByteArray.mk (Array.mk [120,99])]).length<=3:=by
   rw[List.length_take];simp only[List.length_cons,List.length_nil];omega
  have hgetx:List.take n.toNat [ByteArray.mk (Array.mk [120,97]),ByteArray.mk (Array.mk [120,98]),ByteArray.mk (Array.mk [120,99])]|>.Sublist exK:=List.take_sublist _ _
  generalize List.take n.toNat _=xs at nmx hxen hgetx
  have hl2:layers.length<=2:=by omega
  refine LpH.ind (fun (x:Int×Int×List Exper×List Flg×List Seg×List Lay_×Unit)=>0<=x.1/\x.1<=(xs.length:Int)/\DS list x.2.1/\(x.2.2.1.length:Int)<=x.1/\(∀f∈x.2.2.1,ExpS f)/\(x.2.2.1.map Exper.key).Sublist (xs.take x.1.toNat)/\(∀f∈x.2.2.1,ExpD layers flags f)/\x.2.2.2=(flags,segs,layers,())) (fun x=>((xs.length:Int) - x.1).toNat) ?_ ⟨Int.le_refl 0,by simp,hD,by simp,by simp,by simp,by simp,rfl⟩
  rintro⟨k,a,exps,rest⟩ ⟨k0,k1,hD,hxl,hxs,hxk,hxd,hr⟩
  simp only at k0 k1 hD hxl hxs hxk hxd hr⊢
  subst hr
  simp only
  intro _
  have hfin:=fun {a:Int} (hD:DS list a)=>fin (flags:=flags) (layers:=layers) (exps:=exps) hD hf4 hfs hl2 hls (by omega) hxs hfd hlk ((hxk.trans (List.take_sublist _ _)).trans hgetx) hxd
  refine Cnd.mk (fun hc _=>Cnd.mk (fun hfl0 _=>Cnd.mk (fun hll0=>⟨by omega,fun y hy _=> ?_⟩) fun _=>hfin hD) fun _=>hfin hD) fun _=>hfin hD
  refine Qh hD (by omega) fun q a q0 q1 hD=>⟨by omega,fun f hf _ hfv=>Qh hD (by omega) fun q' a q0' q1' hD=>⟨by omega,fun l hl=>z1i hD fun t a ht hD=>Qh hD (by decide) fun u a u0 u1 hD=>⟨by unfold InI;omega,?_⟩⟩⟩
  have hF:=hfs f (getm hf)
  have hL:=hls l (getm hl)
  have hv1:=hF.vlen
  refine j47 hD (by omega) (by omega) fun arms a harms hcov hD=> ?_
  refine Jn1.mk (fun (x:Int×Int×List Rng×List Exper×List Lay_×List Flg×List Seg×Unit)=>DS list x.2.1/\x.2.2=(arms,exps,layers,flags,segs,())) (Cnd.mk (fun _=>Qh hD (by decide) fun r a _ _ hD=>Cnd.mk (fun _=>⟨hD,rfl⟩) fun _=>⟨hD,rfl⟩) fun _=>⟨hD,rfl⟩) ?_
  rintro⟨state,a,rest⟩ ⟨hD,hr⟩
  simp only at hD hr⊢
  subst hr
  simp only
  refine Jn1.mk (fun (x:Int×ByteArray×ByteArray×List Val×List Ex×Int×List Seg×List Flg×List Lay_×List Exper×List Rng×Unit)=>(ExS 4 (Ex.mk x.1 x.2.1 x.2.2.1 x.2.2.2.1 x.2.2.2.2.1)/\DrE sgK 20000 (Ex.mk x.1 x.2.1 x.2.2.1 x.2.2.2.1 x.2.2.2.2.1))/\DS list x.2.2.2.2.2.1/\x.2.2.2.2.2.2=(segs,flags,layers,exps,arms,())) (Qh hD (by decide) fun r a _ _ hD=>Cnd.mk (fun _=>z3u (by simp only;omega) (j4c ((v0h fun s hs=> ?_).and v8u) 2 (by omega) (by decide) (by decide) hD fun e a he hD=>⟨⟨he.1.eta,v84 (he.2.le (by decide)).eta (v86 hgs)⟩,hD,rfl⟩)) fun _=>⟨⟨u0c,v87⟩,hD,rfl⟩) ?_
  ·obtain⟨g,hg,rfl⟩:=List.mem_map.1 hs;exact (hsegs g hg).key
  rintro⟨e1,e2,e3,e4,e5,a,rest⟩ ⟨he,hD,hr⟩
  simp only at he hD hr⊢
  subst hr
  simp only
  refine j96 fun sp _ _=>q29 hD (by decide) fun w a _ _ hD=>q29 hD (by decide) fun w' a _ _ hD=>j4x fun sq _=>q29 hD (by decide) fun w2 a w20 w21 hD=>j4y (by omega) fun cl hcl=> ?_
  have hxs':=Js hxs (x:=Exper.mk y l.1 f.1 t state cl arms (Ex.mk e1 e2 e3 e4 e5)) ⟨nmx y (getm hy),hL.key,hF.key,hcl,⟨harms.1,fun r hr=>by obtain⟨p,q,s,t⟩:=harms.2 r hr;exact⟨p,q,s,by omega⟩⟩,he.1⟩
  have hxd':=Js hxd (x:=Exper.mk y l.1 f.1 t state cl arms (Ex.mk e1 e2 e3 e4 e5)) ⟨hcov,he.2,⟨l,getm hl,rfl⟩,⟨f,getm hf,rfl,fun r hr=>by obtain⟨_,_,s,t⟩:=harms.2 r hr;exact⟨s,t⟩⟩,tt _ ht⟩
  have hyk:xs[k.toNat]? =some y:=hy
  have hxk':((exps++[Exper.mk y l.1 f.1 t state cl arms (Ex.mk e1 e2 e3 e4 e5)]).map Exper.key).Sublist (xs.take (k+1).toNat):=by
   rw[List.map_append,show (k+1).toNat=k.toNat+1 by omega,List.take_add_one,hyk]
   exact hxk.append (List.Sublist.refl _)
  have hl':(exps++[Exper.mk y l.1 f.1 t state cl arms (Ex.mk e1 e2 e3 e4 e5)]).length=exps.length+1:=by simp
  have cut: ∀r∈List.take (((exps++[Exper.mk y l.1 f.1 t state cl arms (Ex.mk e1 e2 e3 e4 e5)]).length:Int) - 1).toNat (exps++[Exper.mk y l.1 f.1 t state cl arms (Ex.mk e1 e2 e3 e4 e5)]),ExpS r:=fun r hr=>hxs' r (List.mem_of_mem_take hr)
  have cutd: ∀r∈List.take (((exps++[Exper.mk y l.1 f.1 t state cl arms (Ex.mk e1 e2 e3 e4 e5)]).length:Int) - 1).toNat (exps++[Exper.mk y l.1 f.1 t state cl arms (Ex.mk e1 e2 e3 e4 e5)]),ExpD layers flags r:=fun r hr=>hxd' r (List.mem_of_mem_take hr)
  have cutk:((List.take (((exps++[Exper.mk y l.1 f.1 t state cl arms (Ex.mk e1 e2 e3 e4 e5)]).length:Int) - 1).toNat (exps++[Exper.mk y l.1 f.1 t state cl arms (Ex.mk e1 e2 e3 e4 e5)])).map Exper.key).Sublist (xs.take (k+1).toNat):=((List.take_sublist _ _).map _).trans hxk'
  generalize exps++[Exper.mk y l.1 f.1 t state cl arms (Ex.mk e1 e2 e3 e4 e5)]=xs' at hxs' hl' cut hxd' hxk' cutd cutk⊢
  have hv:EnvS (Envt.mk (Sett.mk salt hkind hold) ds segs flags layers xs'):=⟨hhk,hat,hsl,hsegs,hf4,hfs,hl2,hls,by simp only;omega,hxs'⟩
  refine⟨by unfold Sml;omega,w72 hv fun b=>Cnd.mk (fun _=>⟨by unfold InI;omega,⟨by omega,by omega,hD,by omega,hxs',hxk',hxd',trivial⟩,by omega⟩) fun _ _=>⟨by unfold InI;omega,by omega,by unfold InI;omega,⟨by omega,by omega,hD,by simp only[List.length_take];omega,cut,cutk,cutd,trivial⟩,by omega⟩⟩
end Go.En
end
noncomputable section
set_option maxRecDepth 100000
namespace Go.En
open Go Go.Fl Go.Fl.Lk Go.Fx
theorem v88:exK.Nodup:=by unfold exK;decide
theorem v89{segs:List ByteArray}{e:Ex}(h:DrE segs 20000 e):wt e<=2000000/\EvB e:=⟨Nat.le_trans h.wt (by decide),h.ev⟩
theorem y2b{v:Envt}(hE:EnvS v)(hD:EnvD v):SegB v.3:=v0i (Nat.le_trans hE.slen (by decide)) fun g hg=>by
 obtain⟨i,hi⟩:=List.getElem?_of_mem hg
 exact⟨_,hD.gs.cond i g hi⟩
theorem y8n{v:Envt}(hE:EnvS v)(hD:EnvD v):AsB v where
 ln:=Nat.le_trans hE.llen (by decide)
 xn:=Nat.le_trans hE.xlen (by decide)
 sg:=y2b hE hD
 ex x hx:=v89 (hD.exp x hx).cond
 sa:=Nat.le_trans hD.salt (by decide)
 ls l hl:=Nat.le_trans (hE.layers l hl).salt (by decide)
 xs x hx:=Nat.le_trans (hD.exp x hx).salt (by decide)
 cl x hx:=⟨Nat.le_trans (hE.exps x hx).claims.len (by decide),Nat.le_trans (hE.exps x hx).arms.1 (by decide)⟩
 nd:=hD.exps.nodup v88
abbrev smp:Envt:=Envt.mk (Sett.mk noT noT 0) [] [] [Flg.mk (ByteArray.mk (Array.mk [102])) 1 [Val.mk 1 0 noT [],Val.mk 1 1 noT []] true 1 [] [] [] (Srv.mk 1 noT noT noT [])] [Lay_.mk (ByteArray.mk (Array.mk [108])) (ByteArray.mk (Array.mk [117,115,101,114])) noT 0 0 []] [Exper.mk (ByteArray.mk (Array.mk [120])) (ByteArray.mk (Array.mk [108])) (ByteArray.mk (Array.mk [102])) noT 2 [Spn.mk 0 10000] [Rng.mk 0 10000 2] (Ex.mk 1 noT noT [] [])]
theorem y3p:AsB smp where
 ln:=by decide
 xn:=by decide
 sg:=v0i (by decide) (by simp)
 ex x hx:=by
  rw[List.mem_singleton.1 hx]
  exact v89 v87
 sa:=by decide
 ls l hl:=by rw[List.mem_singleton.1 hl];decide
 xs x hx:=by rw[List.mem_singleton.1 hx];decide
 cl x hx:=by rw[List.mem_singleton.1 hx];decide
 nd:=by simp
theorem y8o:AsB (Envt.mk (Sett.mk noT noT 0) [] [] [] [] []) where
 ln:=by decide
 xn:=by decide
 sg:=v0i (by decide) (by simp)
 ex x hx:=by cases hx
 sa:=by decide
 ls l hl:=by cases hl
 xs x hx:=by cases hx
 cl x hx:=by cases hx
 nd:=by simp
abbrev usrB:ByteArray:=ByteArray.mk (Array.mk [117,115,101,114])
theorem w5f{s:Subj}(h:s.ctxs.length<=2)(hc: ∀c∈s.ctxs,c.attrs=[]/\c.key.size<=5):SubB s:=
 ⟨by omega,fun c hm=>by rw[(hc c hm).1];simp,fun c hm a ha=>by rw[(hc c hm).1] at ha;simp at ha,fun c hm=>by have:=(hc c hm).2;omega⟩
theorem y2c:asgV smp (Subj.mk [Ctxt.mk usrB (ByteArray.mk (Array.mk [117])) []]) [] (ByteArray.mk (Array.mk [108]))=(Asg.mk (ByteArray.mk (Array.mk [108])) (ByteArray.mk (Array.mk [120])) (ofV noT (ByteArray.mk (Array.mk [117]))) 2 false,0):=by
 obtain⟨h0,h1⟩:=w95 noT (ByteArray.mk (Array.mk [117]))
 have hf:fnd (Subj.mk [Ctxt.mk usrB (ByteArray.mk (Array.mk [117])) []]) usrB=some (Ctxt.mk usrB (ByteArray.mk (Array.mk [117])) []):=by simp[fnd]
 have hb:bktV (Lay_.mk (ByteArray.mk (Array.mk [108])) usrB noT 0 0 []) (Subj.mk [Ctxt.mk usrB (ByteArray.mk (Array.mk [117])) []])=ofV noT (ByteArray.mk (Array.mk [117])):=by unfold bktV;rw[hf]
 have hh:j90 smp (Subj.mk [Ctxt.mk usrB (ByteArray.mk (Array.mk [117])) []])=false:=by
  unfold j90
  split
  ·rw[df (by decide)];rfl
  ·rfl
 have hx:xof smp (ByteArray.mk (Array.mk [120]))=some (smp.6.head (by simp)):=by simp[xof]
 have he:j91 smp (Subj.mk [Ctxt.mk usrB (ByteArray.mk (Array.mk [117])) []]) (ByteArray.mk (Array.mk [120]))=true:=by
  unfold j91;rw[hx];simp only[List.head_cons];unfold cndV;rw[v8q];simp
 have hi:insV [Spn.mk 0 10000] (ofV noT (ByteArray.mk (Array.mk [117])))=true:=by
  unfold insV
  rw[List.find?_cons]
  simp[h0,h1]
 have hp: ∀q,v8v [Rng.mk 0 10000 2] (ofV noT q)=2:=fun q=>by
  obtain⟨h0,h1⟩:=w95 noT q
  unfold v8v
  rw[List.find?_cons]
  simp[h0,h1]
 have hl:lof smp (ByteArray.mk (Array.mk [108]))=some (Lay_.mk (ByteArray.mk (Array.mk [108])) usrB noT 0 0 []):=by simp[lof]
 unfold asgV
 rw[hl]
 simp only
 unfold layV
 rw[show fcdV smp [] (ByteArray.mk (Array.mk [108]))=none by simp[fcdV,frcV]]
 simp only
 rw[hb,if_neg (by rw[hh];simp only[Bool.false_eq_true,false_or];intro k;have h2:ofV noT (ByteArray.mk (Array.mk [117]))<0:=k.2;omega),hf]
 simp only
 have ht:hitV smp (Subj.mk [Ctxt.mk usrB (ByteArray.mk (Array.mk [117])) []]) (ByteArray.mk (Array.mk [108])) (ofV noT (ByteArray.mk (Array.mk [117])))=some (smp.6.head (by simp)):=by
  unfold hitV
  rw[List.find?_cons]
  simp only[hi,he]
  simp
 rw[ht]
 simp only[List.head_cons]
 rw[hp]
theorem y2d:asgV smp (Subj.mk []) [] (ByteArray.mk (Array.mk [108]))=(Asg.mk (ByteArray.mk (Array.mk [108])) noT (-1) 0 false,0):=by
 have hl:lof smp (ByteArray.mk (Array.mk [108]))=some (Lay_.mk (ByteArray.mk (Array.mk [108])) usrB noT 0 0 []):=by simp[lof]
 have hf: ∀k,fnd (Subj.mk []) k=none:=fun k=>rfl
 unfold asgV
 rw[hl]
 simp only
 unfold layV j90 bktV
 simp only[hf,show fcdV smp [] (ByteArray.mk (Array.mk [108]))=none by simp[fcdV,frcV]]
 simp
theorem v4x{K:Bool->Prop}(h:K true):q2s K:=by
 unfold q2s z2h q4t
 refine q85 (v:=smp) y3p (w5f (by decide) (by simp;decide)) (by decide) ?_
 rw[y2c]
 refine q85 (v:=smp) y3p (w5f (by decide) (by simp)) (by decide) ?_
 rw[y2d]
 refine Cnd.yes rfl (Cnd.yes rfl (Cnd.yes rfl (v74 (by decide) (by decide) (Cnd.yes rfl (Cnd.yes rfl (Cnd.yes ⟨rfl,rfl,rfl,rfl,rfl⟩ ?_))))))
 exact z3c y8o (w5f (by decide) (by simp)) (by decide) fun _=>h
theorem v0q{list:List Int}{at_:Int}{v:Envt}{K:List Frc->Int->Prop}(hD:DS list at_)(hE:EnvS v)(h: ∀l a,l.length<=3->K l a):z09 list at_ v K:=by
 unfold z09 j25
 have hxn:=hE.xlen
 refine Lp3.ind (fun (l:List Frc) (i a:Int)=>0<=i/\i<=3/\(l.length:Int)=i/\DS list a) (fun _ (i:Int) _=>(3 - i).toNat) ?_ ⟨by omega,by omega,rfl,hD⟩
 rintro l i a ⟨i0,i1,hl,hD⟩
 refine Qh hD (by decide) fun q a q0 q1 hD=>Cnd.mk (fun hc=>Qh hD (by decide) fun w a w0 w1 hD=>⟨by unfold InI;omega,?_⟩) fun _=>h _ _ (by omega)
 refine Jn2.mk (fun _ a=>DS list a) (Qh hD (by decide) fun r a _ _ hD=>Cnd.mk (fun _=>hD) fun _=>hD) fun ly a hD=> ?_
 refine Jn4.mk (fun _ _ _ a=>DS list a) ?_ fun _ _ _ a hD=>⟨by unfold Sml;simp;omega,by unfold InI;omega,⟨by omega,by omega,by simp;omega,hD⟩,by omega⟩
 refine Qh hD (by decide) fun r a r0 r1 hD _=>Cnd.mk (fun hc=>⟨by omega,fun y hy=> ?_⟩) fun _=>hD
 refine Jn2.mk (fun _ a=>DS list a) (Qh hD (by decide) fun q a _ _ hD=>Cnd.mk (fun _=>⟨by omega,fun z hz=>hD⟩) fun _=>hD) fun ly a hD=>⟨by omega,fun z hz=>Qh hD (by decide) fun q a _ _ hD=>Cnd.mk (fun _ _=>Cnd.mk (fun hl0 _=> ?_) fun _=>hD) fun _=>hD⟩
 have hz1:=(hE.exps z (getm hz)).arms.1
 exact Qh hD (by omega) fun u a u0 u1 hD=>⟨⟨u0,u1⟩,fun w hw=>hD⟩
theorem v0r{V:Envt->Prop}(hV: ∀(v:Envt) (K:Bool->Prop),EnvS v->(∀b,(b=true->V v)->K b)->Wt v K)(hV0: ∀ds,V (Envt.mk (Sett.mk (ByteArray.mk (Array.mk [])) (ByteArray.mk (Array.mk [])) 0) ds [] [] [] []))
  {codes who:List Int}{K:Envt->Subj->List Frc->Prop}(hc:Byts codes)(hw:Byts who)(h: ∀v s f,EnvS v->EnvD v->V v->SubB s->f.length<=3->K v s f):q2u codes who K:=by
 unfold q2u z2i
 refine w47 hc (by decide) (by decide) fun cl hD=>j4i hV hV0 hD fun v a hE hd hv _=>w47 hw (by decide) (by decide) fun wl hD2=>w01 hD2 fun s a hs hl hD3=>v0q (v:=v) hD3 hE fun f _ hf=>h v s f hE hd hv (v4n hs hl) hf
end Go.En
end
noncomputable section
set_option maxRecDepth 100000
namespace Go.En
open Go Go.Fl Go.Fl.Lk Go.Fx
theorem y6c{v:Envt}(hd:(v.5.map Lay_.key).Nodup){l:Lay_}(hl:l∈v.5):lof v l.1=some l:=by
 unfold lof
 generalize v.5=L at hl hd
 induction L with
 |nil=>cases hl
 |cons a L ih=>
  rw[List.find?_cons]
  rw[List.map_cons,List.nodup_cons] at hd
  rcases List.mem_cons.1 hl with rfl|hl
  ·simp
  ·rw[decide_eq_false (fun e=>hd.1 (by rw[e];exact List.mem_map_of_mem hl))]
   exact ih hl hd.2
theorem v9a(n:Nat):(lyK.take n).Nodup:=(show lyK.Nodup by unfold lyK;decide).sublist (List.take_sublist _ _)
theorem y8p: ∀x∈exK,x≠noT:=by unfold exK;decide
end Go.En
end
noncomputable section
set_option maxRecDepth 100000
namespace Go.En
open Go Go.Fl Go.Fl.Lk Go.Fx
theorem q87(a b:List Spn)(q:Int):insV (a++b) q=(insV a q||insV b q):=by
 unfold insV
 rw[List.find?_append]
 cases List.find? (fun r:Spn=>decide (r.1<=q) && decide (q<r.2)) a<;>simp
theorem w5g(y:Spn)(q:Int):insV [y] q=(decide (y.1<=q) && decide (q<y.2)):=by
 unfold insV
 rw[List.find?_cons]
 cases decide (y.1<=q) && decide (q<y.2)<;>simp
theorem v2o{l:List Spn}{q:Int}:insV l q=true↔ ∃r∈l,r.1<=q/\q<r.2:=by
 unfold insV
 rw[List.find?_isSome]
 simp only[Bool.and_eq_true,decide_eq_true_eq]
structure BAt(o:List Bool)(f:Nat->Bool):Prop where
 len:o.length=10000
 at_: ∀q,q<10000->o[q]? =some (f q)
theorem BAt.set{o:List Bool}{f g:Nat->Bool}{k:Nat}{v:Bool}(h:BAt o f)(hv:g k=v)(hg: ∀q,q<10000->q≠k->g q=f q):BAt (o.set k v) g:=by
 refine⟨by rw[List.length_set];exact h.len,fun q hq=> ?_⟩
 have hl:=h.len
 rw[List.getElem?_set]
 split
 ·rename_i he
  subst he
  rw[if_pos (by omega),hv]
 ·rename_i hne
  rw[h.at_ q hq,hg q hq (fun e=>hne e.symm)]
theorem BAt.of{o:List Bool}{f g:Nat->Bool}(h:BAt o f)(hg: ∀q,q<10000->g q=f q):BAt o g:=⟨h.len,fun q hq=>by rw[h.at_ q hq,hg q hq]⟩
theorem BAt.get{o:List Bool}{f:Nat->Bool}(h:BAt o f){k:Nat}{y:Bool}(hy:o[k]? =some y):y=f k:=by
 have hl:=Qf hy
 have:=h.at_ k (by have:=h.len;omega)
 rw[hy] at this;exact Option.some.inj this
theorem q9v{l:List Spn}{K:List Bool->Prop}(hl:l.length<=1000000)(h: ∀b,BAt b (fun q=>insV l (q:Int))->K b):Wl l K:=by
 unfold Wl
 refine⟨⟨by decide,by decide,by unfold Sml;decide⟩,Lp2.ind (fun i o=> ∃j:Nat,i=(j:Int)/\j<=l.length/\BAt o (fun q=>insV (l.take j) (q:Int))) (fun i _=>(l.length - i).toNat) ?_ ⟨0,rfl,by omega,⟨List.length_replicate,fun q hq=>by rw[List.getElem?_replicate,if_pos (show q<Int.toNat 10000 from hq)];rfl⟩⟩⟩
 rintro i o ⟨j,rfl,hj,hb⟩ _
 refine Cnd.mk (fun hc=>⟨by omega,fun y hy=> ?_⟩) fun hc=>h o (hb.of fun q hq=>by rw[List.take_of_length_le (by omega)])
 have hy:l[j]? =some y:=hy
 have hlt:=Qf hy
 refine Lp2.ind (fun (b:Int) o=>max y.1 0<=b/\b<=max (max y.1 0) (min y.2 10000)/\BAt o (fun q=>insV (l.take j) (q:Int)||(decide (y.1<=(q:Int)) && decide ((q:Int)<b)))) (fun b _=>(10000 - b).toNat) ?_ ⟨Int.le_refl _,by omega,hb.of fun q hq=> ?_⟩
 ·rintro b o ⟨b0,b1,hb⟩
  refine⟨by omega,fun z hz=> ?_⟩
  have hz:l[j]? =some z:=hz
  rw[hy] at hz;cases hz
  refine Cnd.mk (fun hlt2=>⟨by have:=hb.len;omega,fun w hw=>⟨by unfold InI;omega,⟨by omega,by omega,hb.set (k:=b.toNat) ?_ fun q hq hne=> ?_⟩,by omega⟩⟩) fun hge=>⟨by unfold InI;omega,⟨j+1,by omega,by omega,hb.of fun q hq=> ?_⟩,by omega⟩
  ·rw[dt (show y.1<=(b.toNat:Int) by omega),dt (show (b.toNat:Int)<b+1 by omega)];simp
  ·congr 2
   by_cases hqb:(q:Int)<b
   ·rw[dt hqb,dt (show (q:Int)<b+1 by omega)]
   ·rw[df hqb,df (show ¬(q:Int)<b+1 by omega)]
  ·rw[List.take_add_one,hy,q87]
   show (_||insV [y] (q:Int))=_
   rw[w5g]
   congr 1
   by_cases h1:y.1<=(q:Int)
   ·rw[dt h1,Bool.true_and,Bool.true_and]
    by_cases h2:(q:Int)<y.2
    ·rw[dt h2,dt (show (q:Int)<b by omega)]
    ·rw[df h2,df (show ¬(q:Int)<b by omega)]
   ·rw[df h1];simp
 ·have:(decide (y.1<=(q:Int)) && decide ((q:Int)<max y.1 0))=false:=by
   by_cases h1:y.1<=(q:Int)
   ·rw[df (show ¬(q:Int)<max y.1 0 by omega)];simp
   ·rw[df h1];simp
  rw[this,Bool.or_false]
def IsS(l:List Spn)(p:Int->Prop):Prop:=SpsS l/\ ∀q,insV l q=true↔(0<=q/\q<10000)/\p q
theorem IsS.nonempty{l:List Spn}{p:Int->Prop}(h:IsS l p):0<l.length↔ ∃q,0<=q/\q<10000/\p q:=by
 constructor
 ·intro hp
  obtain⟨h1,h2,h3⟩:=h.1.all l[0] (List.getElem_mem hp)
  have:=(h.2 l[0].lo).1 (v2o.2 ⟨l[0],List.getElem_mem hp,Int.le_refl _,h2⟩)
  exact⟨_,this.1.1,this.1.2,this.2⟩
 ·rintro⟨q,q0,q1,hq⟩
  obtain⟨r,hr,_⟩:=v2o.1 ((h.2 q).2 ⟨⟨q0,q1⟩,hq⟩)
  exact List.length_pos_of_mem hr
theorem z79{b:List Bool}{f:Nat->Bool}{K:List Spn->Prop}(hb:BAt b f)(h: ∀l,IsS l (fun q=>f q.toNat=true)->K l):Jn b K:=by
 unfold Jn
 have hlen:=hb.len
 refine Lp2.ind (fun (o:List Spn) (i:Int)=> ∃j:Nat,i=(j:Int)/\j<=10000/\o.length<=j/\(∀s∈o,0<=s.lo/\s.lo<s.hi/\s.hi<=(j:Int))/\(∀q:Int,insV o q=true↔(0<=q/\q<(j:Int))/\f q.toNat=true)/\(0<j->f (j - 1)=true-> ∃a s,o=a++[s]/\s.hi=(j:Int))) (fun _ i=>(10000 - i).toNat) ?_ ⟨0,rfl,by omega,by simp,by simp,fun q=>⟨fun h=>(by cases h),fun h=>by omega⟩,fun h=>by omega⟩
 rintro o i ⟨j,rfl,hj,hol,hos,hin,hlast⟩ _
 refine Cnd.mk (fun hc=>⟨by omega,fun y hy=> ?_⟩) fun hc=>h o ⟨⟨by omega,fun s hs=>by have:=hos s hs;omega⟩,fun q=>(hin q).trans ⟨fun k=>⟨⟨k.1.1,by have:=k.1.2;omega⟩,k.2⟩,fun k=>⟨⟨k.1.1,by have:=k.1.2;omega⟩,k.2⟩⟩⟩
 have hy:b[j]? =some y:=hy
 have hyf:=hb.get hy
 have fresh:f j=true->Sml (o++[Spn.mk (j:Int) ((j:Int)+1)]).length/\InI ((j:Int)+1)/\(∃j':Nat,(j:Int)+1=(j':Int)/\j'<=10000/\(o++[Spn.mk (j:Int) ((j:Int)+1)]).length<=j'/\(∀s∈o++[Spn.mk (j:Int) ((j:Int)+1)],0<=s.lo/\s.lo<s.hi/\s.hi<=(j':Int))/\(∀q:Int,insV (o++[Spn.mk (j:Int) ((j:Int)+1)]) q=true↔(0<=q/\q<(j':Int))/\f q.toNat=true)/\(0<j'->f (j' - 1)=true-> ∃a s,o++[Spn.mk (j:Int) ((j:Int)+1)]=a++[s]/\s.hi=(j':Int)))/\(10000 - ((j:Int)+1)).toNat<(10000 - (j:Int)).toNat:=fun hf=>by
  refine⟨by unfold Sml;simp;omega,by unfold InI;omega,⟨j+1,by omega,by omega,by simp;omega,Js (fun s hs=>by have:=hos s hs;omega) ⟨by simp only;omega,by simp only;omega,by simp only;omega⟩,fun q=> ?_,fun _ _=>⟨o,_,rfl,by simp only;omega⟩⟩,by omega⟩
  rw[q87,w5g,Bool.or_eq_true,hin q,Bool.and_eq_true,decide_eq_true_eq,decide_eq_true_eq]
  simp only
  constructor
  ·rintro (⟨⟨a,b⟩,c⟩|⟨a,b⟩)
   ·exact⟨⟨a,by omega⟩,c⟩
   ·have:q=(j:Int):=by omega
    subst this
    exact⟨⟨by omega,by omega⟩,hf⟩
  ·rintro⟨⟨a,b⟩,c⟩
   by_cases hq:q<(j:Int)
   ·exact .inl ⟨⟨a,hq⟩,c⟩
   ·exact .inr ⟨by omega,by omega⟩
 refine Cnd.mk (fun ht=> ?_) fun hf=> ?_
 ·have hfj:f j=true:=by rw[←hyf,ht]
  refine Cnd.mk (fun hpos=>⟨by unfold InI;omega,by omega,fun z hz=> ?_⟩) fun _=>⟨by unfold InI;omega,fresh hfj⟩
  have hz:b[j - 1]? =some z:=by rw[show ((j:Int) - 1).toNat=j - 1 by omega] at hz;exact hz
  have hzf:=hb.get hz
  refine Cnd.mk (fun ht2 _=> ?_) fun _=>⟨by unfold InI;omega,fresh hfj⟩
  obtain⟨a,s,rfl,hs⟩:=hlast (by omega) (by rw[←hzf,ht2])
  have hal:(a++[s]).length=a.length+1:=by simp
  rw[hal] at hol
  refine⟨by unfold InI;omega,by unfold InI;omega,by omega,fun w hw=> ?_⟩
  rw[show (((a++[s]).length:Int) - 1).toNat=a.length by omega] at hw⊢
  have hw':w=s:=by simpa using hw.symm
  subst hw'
  have hset:(a++[w]).set a.length (Spn.mk w.1 ((j:Int)+1))=a++[Spn.mk w.1 ((j:Int)+1)]:=by simp
  rw[hset]
  obtain⟨w1,w2,w3⟩:=hos w (by simp)
  refine⟨by unfold InI;omega,⟨j+1,by omega,by omega,by simp;omega,Js (fun s hs=>by have:=hos s (by simp[hs]);omega) ⟨by simp only;omega,by simp only;omega,by simp only;omega⟩,fun q=> ?_,fun _ _=>⟨a,_,rfl,by simp only;omega⟩⟩,by omega⟩
  have ho:=hin q
  rw[q87,w5g,Bool.or_eq_true,Bool.and_eq_true,decide_eq_true_eq,decide_eq_true_eq] at ho⊢
  simp only
  rw[hs] at ho
  constructor
  ·rintro (k|⟨k1,k2⟩)
   ·have:=ho.1 (.inl k);exact⟨⟨this.1.1,by omega⟩,this.2⟩
   ·by_cases hq:q<(j:Int)
    ·have:=ho.1 (.inr ⟨k1,hq⟩);exact⟨⟨this.1.1,by omega⟩,this.2⟩
    ·have:q=(j:Int):=by omega
     subst this
     exact⟨⟨by omega,by omega⟩,hfj⟩
  ·rintro⟨⟨k1,k2⟩,k3⟩
   by_cases hq:q<(j:Int)
   ·rcases ho.2 ⟨⟨k1,hq⟩,k3⟩ with k|⟨k4,_⟩
    ·exact .inl k
    ·exact .inr ⟨k4,by omega⟩
   ·exact .inr ⟨by omega,by omega⟩
 ·have hfj:f j=false:=by rw[←hyf];simpa using hf
  refine⟨by unfold InI;omega,⟨j+1,by omega,by omega,by omega,fun s hs=>by have:=hos s hs;omega,fun q=> ?_,fun _ hh=> ?_⟩,by omega⟩
  ·rw[hin q]
   constructor
   ·rintro⟨⟨a,b⟩,c⟩;exact⟨⟨a,by omega⟩,c⟩
   ·rintro⟨⟨a,b⟩,c⟩
    refine⟨⟨a,?_⟩,c⟩
    by_cases hq:q<(j:Int)
    ·exact hq
    ·have:q=(j:Int):=by omega
     subst this
     rw[Int.toNat_natCast,hfj] at c;cases c
  ·rw[Nat.add_sub_cancel,hfj] at hh;cases hh
theorem w09{a b:List Spn}{K:List Spn->Prop}(ha:a.length<=1000000)(hb:b.length<=1000000)(h: ∀l,IsS l (fun q=>insV a q=true∨insV b q=true)->K l):Gi a b K:=by
 unfold Gi z11
 refine q9v ha fun x hx=>q9v hb fun y hy=>Lp2.ind (fun (i:Int) (o:List Bool)=> ∃j:Nat,i=(j:Int)/\j<=10000/\BAt o (fun q=>if q<j then insV a (q:Int)||insV b (q:Int) else insV a (q:Int))) (fun i _=>(10000 - i).toNat) ?_ ⟨0,rfl,by omega,hx.of fun q hq=>by simp⟩
 rintro i o ⟨j,rfl,hj,ho⟩ _
 have hlen:=ho.len
 have hyl:=hy.len
 refine Cnd.mk (fun hc=>⟨by omega,fun z hz=> ?_⟩) fun hc=>z79 (ho.of (g:=fun q=>insV a (q:Int)||insV b (q:Int)) fun q hq=>by rw[if_pos (by omega)]) fun l hl=>h l ⟨hl.1,fun q=>by
  rw[hl.2 q]
  constructor
  ·rintro⟨h1,h2⟩;rw[Int.toNat_of_nonneg h1.1,Bool.or_eq_true] at h2;exact⟨h1,h2⟩
  ·rintro⟨h1,h2⟩;refine⟨h1,?_⟩;simp only;rw[Int.toNat_of_nonneg h1.1,Bool.or_eq_true];exact h2⟩
 have hz:o[j]? =some z:=hz
 have hzf:=ho.get hz
 simp only[Nat.lt_irrefl,if_false] at hzf
 have step: ∀{v:Bool},v=(insV a (j:Int)||insV b (j:Int))->InI ((j:Int)+1)/\(∃j':Nat,(j:Int)+1=(j':Int)/\j'<=10000/\BAt (o.set j v) (fun q=>if q<j' then insV a (q:Int)||insV b (q:Int) else insV a (q:Int)))/\(10000 - ((j:Int)+1)).toNat<(10000 - (j:Int)).toNat:=fun {v} hv=>⟨by unfold InI;omega,⟨j+1,by omega,by omega,ho.set (by rw[if_pos (by omega),hv]) fun q hq hne=>by
  by_cases hqj:q<j
  ·rw[if_pos hqj,if_pos (by omega)]
  ·rw[if_neg hqj,if_neg (by omega)]⟩,by omega⟩
 refine Cnd.mk (fun ht=>⟨by omega,fun w hw=>step (by rw[←hzf,ht];rfl)⟩) fun hf=>⟨by omega,fun w hw=>⟨by omega,fun u hu=>step ?_⟩⟩
 have hw:y[j]? =some w:=hw
 rw[hy.get hw,←hzf,Bool.eq_false_iff.2 hf];rfl
theorem j99{a b:List Spn}{K:List Spn->Prop}(ha:a.length<=1000000)(hb:b.length<=1000000)(h: ∀l,IsS l (fun q=>insV a q=true/\insV b q=true)->K l):V4 a b K:=by
 unfold V4 q9g
 refine q9v ha fun x hx=>q9v hb fun y hy=>Lp2.ind (fun (i:Int) (o:List Bool)=> ∃j:Nat,i=(j:Int)/\j<=10000/\BAt o (fun q=>if q<j then insV a (q:Int) && insV b (q:Int) else insV a (q:Int))) (fun i _=>(10000 - i).toNat) ?_ ⟨0,rfl,by omega,hx.of fun q hq=>by simp⟩
 rintro i o ⟨j,rfl,hj,ho⟩ _
 have hlen:=ho.len
 have hyl:=hy.len
 refine Cnd.mk (fun hc=>⟨by omega,fun z hz=> ?_⟩) fun hc=>z79 (ho.of (g:=fun q=>insV a (q:Int) && insV b (q:Int)) fun q hq=>by rw[if_pos (by omega)]) fun l hl=>h l ⟨hl.1,fun q=>by
  rw[hl.2 q]
  constructor
  ·rintro⟨h1,h2⟩;rw[Int.toNat_of_nonneg h1.1,Bool.and_eq_true] at h2;exact⟨h1,h2⟩
  ·rintro⟨h1,h2⟩;refine⟨h1,?_⟩;simp only;rw[Int.toNat_of_nonneg h1.1,Bool.and_eq_true];exact h2⟩
 have hz:o[j]? =some z:=hz
 have hzf:=ho.get hz
 simp only[Nat.lt_irrefl,if_false] at hzf
 have step: ∀{v:Bool},v=(insV a (j:Int) && insV b (j:Int))->InI ((j:Int)+1)/\(∃j':Nat,(j:Int)+1=(j':Int)/\j'<=10000/\BAt (o.set j v) (fun q=>if q<j' then insV a (q:Int) && insV b (q:Int) else insV a (q:Int)))/\(10000 - ((j:Int)+1)).toNat<(10000 - (j:Int)).toNat:=fun {v} hv=>⟨by unfold InI;omega,⟨j+1,by omega,by omega,ho.set (by rw[if_pos (by omega),hv]) fun q hq hne=>by
  by_cases hqj:q<j
  ·rw[if_pos hqj,if_pos (by omega)]
  ·rw[if_neg hqj,if_neg (by omega)]⟩,by omega⟩
 refine Cnd.mk (fun ht=>⟨by omega,fun w hw=>⟨by omega,fun u hu=>step ?_⟩⟩) fun hf=>⟨by omega,fun w hw=>step (by rw[←hzf,Bool.eq_false_iff.2 hf];rfl)⟩
 have hw:y[j]? =some w:=hw
 rw[hy.get hw,←hzf,ht];rfl
end Go.En
end
noncomputable section
set_option maxRecDepth 100000
namespace Go.En
open Go Go.Fl Go.Fl.Lk Go.Fx Go.Dg
def v0s(v:Envt):Prop:= ∀(i j:Nat) x y,j<i->v.6[i]? =some x->v.6[j]? =some y->x.5≠3->y.5≠3->y.2=x.2-> ∀q,0<=q->q<10000-> ¬(insV x.6 q=true/\insV y.6 q=true)
theorem z1l{v:Envt}{i:Nat}{K:Int->Prop}(hv:EnvS v)(i1:(i:Int)<v.experiments.length)(h0:(∀x,v.6[i]? =some x->x.5≠3-> ∀(j:Nat) y,j<i->v.6[j]? =some y->y.5≠3->y.2=x.2-> ∀q,0<=q->q<10000-> ¬(insV x.6 q=true/\insV y.6 q=true))->K 0)(h: ∀r,r≠0->K r):Zz v (i:Int) K:=by
 unfold Zz V5
 have ev:Envt.mk (Sett.mk v.1.1 v.1.2 v.1.3) v.2 v.3 v.4 v.5 v.6=v:=rfl
 rw[ev]
 have hsl:=hv.slen
 have hxl:=hv.xlen
 refine⟨⟨by omega,i1⟩,fun x hx=>q4z fun k hk=>z3a fun g hg=>Cnd.mk (fun _=>h _ (by decide)) fun hk0=>Cnd.mk (fun _=>h _ (by decide)) fun hg0=> ?_⟩
 have hx:v.6[i]? =some x:=hx
 have hX:=hv.exps x (getm hx)
 have kb:0<=k/\k<(v.layers.length:Int):=by rcases hk with ⟨a,_⟩|⟨a,b,_⟩<;>omega
 have gb:0<=g/\g<(v.flags.length:Int):=by rcases hg with ⟨a,_⟩|⟨a,b,_⟩<;>omega
 refine Lp1.ind (fun (j:Int)=>0<=j/\j<=x.arms.length) (fun (j:Int)=>(x.arms.length - j).toNat) ?_ ⟨by omega,by omega⟩
 rintro j ⟨j0,j1⟩ _
 refine Cnd.mk (fun hc=>⟨by omega,fun _ _=>⟨gb,fun _ _ _=>Cnd.mk (fun _=>h _ (by decide)) fun _=>⟨by unfold InI;omega,⟨by omega,by omega⟩,by omega⟩⟩⟩) fun _=> ?_
 refine q81 (by omega) ?_
 rw[Jb]
 refine z1k 4 hX.cond fun _=>Cnd.mk (fun _=>Cnd.mk (fun h3=>h0 fun x' hx' hn=>by rw[hx] at hx';cases hx';exact absurd h3 hn) fun h3=>⟨kb,fun l hl=> ?_⟩) fun hne=>h _ hne
 refine Lp3.ind (fun (t:List Spn) (j:Int) (_:List ByteArray)=> ∃k:Nat,j=(k:Int)/\k<=i/\(t.length:Int)<=1+j*10000/\ ∀(m:Nat) y,m<k->v.6[m]? =some y->y.5≠3->y.2=x.2-> ∀q,insV y.6 q=true->insV t q=true) (fun _ (j:Int) _=>(i - j).toNat) ?_ ⟨0,rfl,by omega,by simp,fun m y hm=>by omega⟩
 rintro t j ks ⟨k,rfl,hk2,ht,htk⟩
 have him:=Qf hx
 refine Cnd.mk (fun hc=>⟨by omega,fun y hy=> ?_⟩) fun hge=>j99 (by have:=hX.claims.len;omega) (by omega) fun c hcs _=>Cnd.mk (fun _=>h _ (by decide)) fun hno=> ?_
 ·have hcl:=(hv.exps y (getm hy)).claims.len
  have hy:v.6[k]? =some y:=hy
  have next: ∀{t':List Spn},(t'.length:Int)<=1+((k:Int)+1)*10000->(∀q,insV t q=true->insV t' q=true)->(y.5≠3->y.2=x.2-> ∀q,insV y.6 q=true->insV t' q=true)->InI ((k:Int)+1)/\(∃k':Nat,(k:Int)+1=(k':Int)/\k'<=i/\(t'.length:Int)<=1+((k:Int)+1)*10000/\ ∀(m:Nat) y,m<k'->v.6[m]? =some y->y.5≠3->y.2=x.2-> ∀q,insV y.6 q=true->insV t' q=true)/\(i - ((k:Int)+1)).toNat<(i - (k:Int)).toNat:=fun {t'} h1 h2 h3=>⟨by unfold InI;omega,⟨k+1,by omega,by omega,h1,fun m z hm hz a b q hq=>by
   by_cases hmk:m<k
   ·exact h2 q (htk m z hmk hz a b q hq)
   ·have:m=k:=by omega
    subst this
    rw[hy] at hz;cases hz
    exact h3 a b q hq⟩,by omega⟩
  exact Cnd.mk (fun k1=>Cnd.mk (fun k2=>next (by omega) (fun _ h=>h) fun h3'=>absurd k2 h3') fun k2=>⟨by unfold Sml;simp;omega,next (by simp;omega) (fun q hq=>by rw[q87,hq];rfl) fun _ _ q hq=>by rw[q87,hq];simp⟩) fun k1=>next (by omega) (fun _ h=>h) fun _ h2=>absurd h2 k1
 ·have hki:k=i:=by omega
  subst hki
  have fin:K 0:=h0 fun x' hx' hn m y hm hy h5 h2 q q0 q1 hq=>by
   rw[hx] at hx';cases hx'
   refine hno ?_
   have:=hcs.nonempty.2 ⟨q,q0,q1,hq.1,htk m y hm hy h5 h2 q hq.2⟩
   omega
  refine Lp4.ind (fun (j:Int) (_ _:List Spn) (_:List ByteArray)=>0<=j/\j<=v.experiments.length) (fun (j:Int) _ _ _=>(v.experiments.length - j).toNat) ?_ ⟨by omega,by omega⟩
  rintro j a b c ⟨j0,j1⟩
  (repeat' (first|exact h _ (by decide)|exact fin|assumption|(unfold InI;omega)|omega|refine Cnd.mk (fun _=> ?_) fun _=> ?_|refine⟨?_,?_⟩|intro _))
theorem z7i{v:Envt}{K:ByteArray->Int->Prop}(hv:EnvS v)(h0:v0s v-> ∀s,K s 0)(h: ∀s r,r≠0->K s r):Wb v K:=by
 unfold Wb R2
 have hsl:=hv.slen
 have hfl:=hv.flen
 have hxl:=hv.xlen
 have ev:Envt.mk (Sett.mk v.1.1 v.1.2 v.1.3) v.2 v.3 v.4 v.5 v.6=v:=rfl
 rw[ev]
 have s8:(ByteArray.mk (Array.mk [115,101,103,109,101,110,116,32])).size=8:=rfl
 have s5:(ByteArray.mk (Array.mk [102,108,97,103,32])).size=5:=rfl
 have s11:(ByteArray.mk (Array.mk [101,120,112,101,114,105,109,101,110,116,32])).size=11:=rfl
 have sk: ∀x∈v.segments.map Seg.key,x.size<=100:=fun x hx=>by obtain⟨g,hg,rfl⟩:=List.mem_map.1 hx;exact (hv.segs g hg).key
 have fk: ∀x∈v.flags.map Flg.key,x.size<=100:=fun x hx=>by obtain⟨g,hg,rfl⟩:=List.mem_map.1 hx;exact (hv.flags g hg).key
 have nlen:(v.flags.flatMap q6b).length<=4*v.flags.length:=by
  have: ∀l:List Flg,(∀f∈l,FlgS f)->(l.flatMap q6b).length<=4*l.length:=by
   intro l
   induction l with
   |nil=>simp
   |cons f l ih=>intro hf;have h1:=(hf f (by simp)).nlen;have h2:=ih fun g hg=>hf g (by simp[hg]);simp only[List.flatMap_cons,List.length_append,q6b,List.length_map,List.length_cons] at*;omega
  exact this _ hv.flags
 refine z1j hv fun _=>Cnd.mk (fun _=>q81 (by omega) ?_) fun hne=>h _ _ hne
 refine Lp2.ind (fun (i:Int) (ks:List ByteArray)=>0<=i/\i<=v.segments.length/\ks=v.segments.map Seg.key) (fun (i:Int) _=>(v.segments.length - i).toNat) ?_ ⟨by omega,by omega,rfl⟩
 rintro i ks ⟨i0,i1,rfl⟩ _
 refine Cnd.mk (fun hc=>⟨by omega,fun g hg=>Cnd.mk (fun _=>⟨by unfold InI;omega,⟨by omega,by omega,rfl⟩,by omega⟩) fun _=>⟨by omega,fun g hg=> ?_⟩⟩) fun _=> ?_
 ·dsimp only;rw[Jb]
  refine z1k 4 (hv.segs g (getm hg)).cond fun _=>Cnd.mk (fun _=>⟨by unfold InI;omega,⟨by omega,by omega,rfl⟩,by omega⟩) fun hne=>⟨by omega,fun g hg=>⟨?_,h _ _ hne⟩⟩
  have:=(hv.segs g (getm hg)).key
  rw[s8];omega
 refine j46 (by omega) hv.segs fun es hes=>q9u (by simp;omega) hes sk fun s b hs=>Cnd.mk (fun _=>⟨by rw[s8];omega,h _ _ (by decide)⟩) fun _=> ?_
 refine Lp3.ind (fun (i:Int) (_:List ByteArray) (_:List Edg)=>0<=i/\i<=v.flags.length) (fun (i:Int) _ _=>(v.flags.length - i).toNat) ?_ ⟨by omega,by omega⟩
 rintro i ks es ⟨i0,i1⟩ _
 refine Cnd.mk (fun hc=>⟨by omega,fun f hf=>z3y hv (hv.flags f (getm hf)) fun _=>Cnd.mk (fun _=>⟨by unfold InI;omega,⟨by omega,by omega⟩,by omega⟩) fun hne=>⟨by omega,fun g hg=>⟨?_,h _ _ hne⟩⟩⟩) fun _=> ?_
 ·have:=(hv.flags g (getm hg)).key
  rw[s5];omega
 refine z5z (by omega) (z3v (by omega) (fun f hf=>by have:=(hv.flags f hf).nlen;omega) (q9u (by simp;omega) (by omega) fk fun s b hs=>Cnd.mk (fun _=>⟨by rw[s5];omega,h _ _ (by decide)⟩) fun _=> ?_))
 refine Lp5.ind (fun (i:Int) (_:List ByteArray) (_ _:List Edg) (_:List ByteArray)=> ∃k:Nat,i=(k:Int)/\k<=v.experiments.length/\ ∀(m:Nat) x,m<k->v.6[m]? =some x->x.5≠3-> ∀(j:Nat) y,j<m->v.6[j]? =some y->y.5≠3->y.2=x.2-> ∀q,0<=q->q<10000-> ¬(insV x.6 q=true/\insV y.6 q=true)) (fun (i:Int) _ _ _ _=>(v.experiments.length - i).toNat) ?_ ⟨0,rfl,by omega,fun m x hm=>by omega⟩
 rintro i a b c d ⟨k,rfl,hk,hall⟩ _
 refine Cnd.mk (fun hc=>z1l hv hc (fun hf=>Cnd.yes rfl ⟨by unfold InI;omega,⟨k+1,by omega,by omega,fun m x hm hx=> ?_⟩,by omega⟩) fun r hr=>Cnd.no hr ⟨by omega,fun x hx=>⟨?_,h _ _ hr⟩⟩) fun hge=>h0 (fun i j x y hji hx hy h1 h2 h3=>hall i x (by have:=Qf hx;omega) hx h1 j y hji hy h2 h3) _
 ·by_cases hmk:m<k
  ·exact hall m x hmk hx
  ·have:m=k:=by omega
   subst this
   exact hf x hx
 ·have:=(hv.exps x (getm hx)).key
  rw[s11];omega
theorem z8a{v:Envt}{K:Bool->Prop}(hv:EnvS v)(h: ∀r,(r=true->v0s v)->K r):Wt v K:=by
 unfold Wt z16
 refine z7i hv (fun hd _=>h _ fun _=>hd) fun _ r hr=>h _ fun hb=> ?_
 exact absurd (of_decide_eq_true hb) hr
end Go.En
end
noncomputable section
set_option maxRecDepth 100000
namespace Go.En
open Go Go.Fl Go.Fl.Lk Go.Fx
def PR{α:Type}(R:α->α->Prop)(l m:List α):Prop:=m.length=l.length/\ ∀(i:Nat) x y,l[i]? =some x->m[i]? =some y->R x y
theorem PR.refl{α:Type}{R:α->α->Prop}(hr: ∀a,R a a)(l:List α):PR R l l:=⟨rfl,fun i x y hx hy=>by rw[hx] at hy;cases hy;exact hr x⟩
theorem PR.trans{α:Type}{R:α->α->Prop}(ht: ∀a b c,R a b->R b c->R a c){l m n:List α}(h:PR R l m)(k:PR R m n):PR R l n:=
 ⟨k.1.trans h.1,fun i x z hx hz=>by
  have hlt:=Qf hx
  have hm:=List.getElem?_eq_getElem (l:=m) (i:=i) (by have:=h.1;omega)
  exact ht _ _ _ (h.2 i x _ hx hm) (k.2 i _ z hm hz)⟩
theorem PR.set{α:Type}{R:α->α->Prop}(hr: ∀a,R a a){l:List α}{i:Nat}{a b:α}(ha:l[i]? =some a)(hab:R a b):PR R l (l.set i b):=by
 refine⟨List.length_set,fun j x y hx hy=> ?_⟩
 rw[List.getElem?_set] at hy
 split at hy
 ·rename_i he
  subst he
  rw[if_pos (Qf ha)] at hy
  cases hy
  rw[ha] at hx;cases hx;exact hab
 ·rw[hx] at hy;cases hy;exact hr x
theorem PR.at_{α:Type}{R:α->α->Prop}{l m:List α}(h:PR R l m){i:Nat}{y:α}(hy:m[i]? =some y): ∃x,l[i]? =some x/\R x y:=by
 have hlt:=Qf hy
 have hl:=List.getElem?_eq_getElem (l:=l) (i:=i) (by have:=h.1;omega)
 exact⟨_,hl,h.2 i _ y hl hy⟩
def v4y(a b:Lay_):Prop:=b.1=a.1/\b.2=a.2/\b.3=a.3/\b.4=a.4/\b.5=a.5
def w5h(a b:Exper):Prop:=b.1=a.1/\b.2=a.2/\b.3=a.3/\b.4=a.4/\b.7=a.7/\b.8=a.8/\ ∀q,0<=q->q<10000->insV a.6 q=true->insV b.6 q=true
theorem j4j(a:Lay_):v4y a a:=⟨rfl,rfl,rfl,rfl,rfl⟩
theorem j4k(a:Exper):w5h a a:=⟨rfl,rfl,rfl,rfl,rfl,rfl,fun _ _ _ h=>h⟩
theorem v0t(a b c:Lay_)(h:v4y a b)(k:v4y b c):v4y a c:=⟨k.1.trans h.1,k.2.1.trans h.2.1,k.2.2.1.trans h.2.2.1,k.2.2.2.1.trans h.2.2.2.1,k.2.2.2.2.trans h.2.2.2.2⟩
theorem v0u(a b c:Exper)(h:w5h a b)(k:w5h b c):w5h a c:=
 ⟨k.1.trans h.1,k.2.1.trans h.2.1,k.2.2.1.trans h.2.2.1,k.2.2.2.1.trans h.2.2.2.1,k.2.2.2.2.1.trans h.2.2.2.2.1,k.2.2.2.2.2.1.trans h.2.2.2.2.2.1,fun q q0 q1 hq=>k.2.2.2.2.2.2 q q0 q1 (h.2.2.2.2.2.2 q q0 q1 hq)⟩
structure Mvd(v w:Envt):Prop where
 st:w.1=v.1
 at_:w.2=v.2
 sg:w.3=v.3
 fl:w.4=v.4
 ly:PR v4y v.5 w.5
 ex:PR w5h v.6 w.6
theorem Mvd.refl(v:Envt):Mvd v v:=⟨rfl,rfl,rfl,rfl,.refl j4j _,.refl j4k _⟩
theorem Mvd.trans{u v w:Envt}(h:Mvd u v)(k:Mvd v w):Mvd u w:=⟨k.st.trans h.st,k.at_.trans h.at_,k.sg.trans h.sg,k.fl.trans h.fl,h.ly.trans v0t k.ly,h.ex.trans v0u k.ex⟩
theorem z9v{v:Envt}{key:ByteArray}{now:Int}{K:Int->Int->Prop}(hxn:v.6.length<=1000)(hln:v.5.length<=1000)(h1: ∀(j:Nat) x,v.6[j]? =some x->K (j:Int) 0)(h0: ∀i e,e≠0->K i e):R7 v key now K:=by
 unfold R7 j28
 have rest: ∀{r:Int},(r<0∨ ∃(j:Nat) (x:Exper),r=(j:Int)/\v.6[j]? =some x)->q09 now fun Qc=>Cnd (Qc=true) (Cnd (r<0) (K 0 11) (At v.6 r fun y2=>Zr v y2.2 fun Qe=>Cnd (Qe<0) (K 0 11) (K r 0))) (K 0 3):=fun {r} hr=>j9m fun _ _=>Cnd.mk (fun _=>Cnd.mk (fun _=>h0 _ _ (by decide)) fun hn=> ?_) fun _=>h0 _ _ (by decide)
 ·exact q05 (v:=v) hxn (fun _=>rest (.inl (by decide))) fun j x hx _=>rest (.inr ⟨j,x,rfl,hx⟩)
 ·rcases hr with hr|⟨j,x,rfl,hx⟩
  ·exact absurd hr hn
  ·refine⟨by have:=Qf hx;omega,fun y hy=>z77 (v:=v) hln (fun _=>Cnd.mk (fun _=>h0 _ _ (by decide)) fun _=>h1 j x hx) fun k l _ _=>Cnd.mk (fun _=>h0 _ _ (by decide)) fun _=>h1 j x hx⟩
theorem v9b{α:Type}{P:α->Prop}{l:List α}{i:Nat}{b:α}(h: ∀x∈l,P x)(hb:P b): ∀x∈l.set i b,P x:=fun x hx=>(List.mem_or_eq_of_mem_set hx).elim (h x) fun e=>by rw[e];exact hb
theorem v9c(x:Exper):Exper.mk x.1 x.2 x.3 x.4 x.5 x.6 x.7 (Ex.mk x.8.1 x.8.2 x.8.3 x.8.4 x.8.5)=x:=by rw[Jb]
theorem z9w{v:Envt}{j:Nat}{x0 x:Exper}{K:Envt->Prop}(hxn:v.6.length<=1000)(hx:v.6[j]? =some x0)(h:K (Envt.mk v.1 v.2 v.3 v.4 v.5 (v.6.set j x))):Hn v (j:Int) x K:=by
 unfold Hn
 simp only[List.nil_append]
 exact⟨by unfold Sml;omega,by have:=Qf hx;omega,fun y hy=>by rw[v9c];exact h⟩
theorem w5i{v:Envt}(hE:EnvS v){j:Nat}{x0 x:Exper}(hx:v.6[j]? =some x0)(h1:x.1=x0.1)(h2:x.2=x0.2)(h3:x.3=x0.3)(h6:SpsS x.6)(h7:x.7=x0.7)(h8:x.8=x0.8):EnvS (Envt.mk v.1 v.2 v.3 v.4 v.5 (v.6.set j x)):=by
 have h0:=hE.exps x0 (getm hx)
 exact⟨hE.hkind,hE.attrs,hE.slen,hE.segs,hE.flen,hE.flags,hE.llen,hE.layers,by simp only[List.length_set];exact hE.xlen,v9b hE.exps ⟨by rw[h1];exact h0.key,by rw[h2];exact h0.layer,by rw[h3];exact h0.flag,h6,by rw[h7];exact h0.arms,by rw[h8];exact h0.cond⟩⟩
theorem v9d{v:Envt}{j:Nat}{x0 x:Exper}(hx:v.6[j]? =some x0)(h:w5h x0 x):Mvd v (Envt.mk v.1 v.2 v.3 v.4 v.5 (v.6.set j x)):=⟨rfl,rfl,rfl,rfl,.refl j4j _,.set j4k hx h⟩
theorem v0v{l:List Spn}{K:Int->Prop}(h: ∀n,K n):z1b l K:=by
 unfold z1b j29
 refine Bd fun b hb=>Lp2.ind (fun (n i:Int)=>0<=i/\i<=10000/\0<=n/\n<=i) (fun _ (i:Int)=>(10000 - i).toNat) ?_ ⟨by omega,by omega,by omega,by omega⟩
 rintro n i ⟨i0,i1,n0,n1⟩ _
 exact Cnd.mk (fun hc=>⟨by omega,fun y hy=>Cnd.mk (fun _=>⟨by unfold InI;omega,by unfold InI;omega,⟨by omega,by omega,by omega,by omega⟩,by omega⟩) fun _=>⟨by unfold InI;omega,⟨by omega,by omega,by omega,by omega⟩,by omega⟩⟩) fun _=>h _
theorem w75{v:Envt}{key:ByteArray}{size now:Int}{K:Envt->Int->Prop}(hE:EnvS v)(hsz:size<=100000)(h: ∀w e,(e=0->EnvS w/\Mvd v w)->K w e):q8k v key size now K:=by
 unfold q8k z82
 have hxn:v.6.length<=1000:=Nat.le_trans hE.xlen (by decide)
 have hln:v.5.length<=1000:=Nat.le_trans hE.llen (by decide)
 refine z9v (v:=v) hxn hln (fun j x hx=>Cnd.yes rfl ⟨by have:=Qf hx;omega,fun y hy=> ?_⟩) fun i e he=>Cnd.no he (h _ _ fun h0=>absurd h0 he)
 have hy:v.6[j]? =some y:=hy
 rw[hx] at hy;cases hy
 have hc:=(hE.exps x (getm hx)).claims
 refine Cnd.mk (fun _=>h _ _ fun h0=>absurd h0 (by decide)) fun _=>Cnd.mk (fun _=>h _ _ fun h0=>absurd h0 (by decide)) fun hs1=>j96 (v:=v) fun l e hl=>v0v fun n=>Cnd.mk (fun _=>h _ _ fun h0=>absurd h0 (by decide)) fun _=>j4y ⟨by omega,by omega⟩ fun g hg=> ?_
 refine w09 (by have:=hc.len;omega) (by have:=hg.len;omega) fun r hr _=>Cnd.mk (fun _=>h _ _ fun h0=>absurd h0 (by decide)) fun _=> ?_
 refine z9w (v:=v) hxn hx ?_
 refine h _ _ fun _=>⟨w5i hE hx rfl rfl rfl hr.1 rfl (Jb),v9d hx ⟨rfl,rfl,rfl,rfl,rfl,Jb,fun q q0 q1 hq=>(hr.2 q).2 ⟨⟨q0,q1⟩,.inl hq⟩⟩⟩
theorem w76{v:Envt}{key:ByteArray}{now:Int}{K:Envt->Int->Prop}(hE:EnvS v)(h: ∀w e,(e=0->EnvS w/\Mvd v w)->K w e):q8m v key now K:=by
 unfold q8m z83
 have hxn:v.6.length<=1000:=Nat.le_trans hE.xlen (by decide)
 have hln:v.5.length<=1000:=Nat.le_trans hE.llen (by decide)
 refine z9v (v:=v) hxn hln (fun j x hx=>Cnd.yes rfl ⟨by have:=Qf hx;omega,fun y hy=> ?_⟩) fun i e he=>Cnd.no he (h _ _ fun h0=>absurd h0 he)
 have hy:v.6[j]? =some y:=hy
 rw[hx] at hy;cases hy
 have hc:=(hE.exps x (getm hx)).claims
 refine Cnd.mk (fun _=>j45 (v:=v) fun l _=>j1o fun c _ _=>Cnd.mk (fun _=>h _ _ fun h0=>absurd h0 (by decide)) fun _=> ?_) fun _=>h _ _ fun h0=>absurd h0 (by decide)
 refine z9w (v:=v) hxn hx ?_
 exact h _ _ fun _=>⟨w5i hE hx rfl rfl rfl hc rfl (Jb),v9d hx ⟨rfl,rfl,rfl,rfl,rfl,Jb,fun q q0 q1 hq=>hq⟩⟩
theorem w1a{u:List Int}{now:Int}{K:List Col->Prop}(hu:u.length<=10000)(h: ∀l,K l):R8 u now K:=by
 unfold R8
 refine Lp2.ind (fun (o:List Col) (i:Int)=> ∃j:Nat,i=(j:Int)/\j<=u.length/\o.length<=j/\(∀y,0<j->u[j - 1]? =some y->now<y->0<o.length)) (fun _ i=>(u.length - i).toNat) ?_ ⟨0,rfl,by omega,by simp,fun y hj=>by omega⟩
 rintro o i ⟨j,rfl,hj,hol,hop⟩ _
 refine Cnd.mk (fun hc=>⟨by omega,fun y hy=> ?_⟩) fun _=>h _
 have hy:u[j]? =some y:=hy
 have add: ∀c:Col,Sml (o++[c]).length/\InI ((j:Int)+1)/\(∃j':Nat,(j:Int)+1=(j':Int)/\j'<=u.length/\(o++[c]).length<=j'/\(∀y,0<j'->u[j' - 1]? =some y->now<y->0<(o++[c]).length))/\(u.length - ((j:Int)+1)).toNat<(u.length - (j:Int)).toNat:=fun c=>⟨by unfold Sml;simp;omega,by unfold InI;omega,⟨j+1,by omega,by omega,by simp;omega,fun _ _ _ _=>by simp⟩,by omega⟩
 refine Cnd.mk (fun hle=>⟨by unfold InI;omega,⟨j+1,by omega,by omega,by omega,fun z _ hz hlt=> ?_⟩,by omega⟩) fun hgt=>Cnd.mk (fun hpos=>⟨by unfold InI;omega,by omega,fun z hz=>⟨by omega,fun w hw=>Cnd.mk (fun he _=> ?_) fun _=>⟨by unfold InI;omega,by omega,fun c hc=>add _⟩⟩⟩) fun _=>⟨by unfold InI;omega,by omega,fun c hc=>add _⟩
 ·rw[Nat.add_sub_cancel,hy] at hz;cases hz;omega
 ·have hw:u[j]? =some w:=hw
  rw[hy] at hw;cases hw
  have hz:u[j - 1]? =some z:=by rw[show ((j:Int) - 1).toNat=j - 1 by omega] at hz;exact hz
  have hp:=hop z (by omega) hz (by omega)
  refine⟨by unfold InI;omega,by unfold InI;omega,by omega,fun c hc=>⟨by unfold InI;omega,⟨j+1,by omega,by omega,by rw[List.length_set];omega,fun _ _ _ _=>by rw[List.length_set];exact hp⟩,by omega⟩⟩
theorem v0w{v:Envt}{key:ByteArray}{now:Int}{K:Envt->Int->Prop}(hE:EnvS v)(hD: ∀x∈v.6,∃l∈v.5,x.2=l.1)(n0:0<=now)(n1:now<=1000)(h: ∀w e,(e=0->EnvS w/\Mvd v w)->K w e):z1d v key now K:=by
 unfold z1d j3a
 have hxn:v.6.length<=1000:=Nat.le_trans hE.xlen (by decide)
 have hln:v.5.length<=1000:=Nat.le_trans hE.llen (by decide)
 refine z9v (v:=v) hxn hln (fun j x hx=>Cnd.yes rfl ⟨by have:=Qf hx;omega,fun y hy=> ?_⟩) fun i e he=>Cnd.no he (h _ _ fun h0=>absurd h0 he)
 have hy:v.6[j]? =some y:=hy
 rw[hx] at hy;cases hy
 have hc:=(hE.exps x (getm hx)).claims
 refine Cnd.mk (fun _=>z77 (v:=v) hln (fun hn=> ?_) fun k l hl _=>⟨by have:=Qf hl;omega,fun l' hl'=> ?_⟩) fun _=>h _ _ fun h0=>absurd h0 (by decide)
 ·obtain⟨l,hl,hk⟩:=hD x (getm hx)
  unfold lof at hn
  rw[List.find?_eq_none] at hn
  exact absurd (dt hk.symm) (hn l hl)
 have hl':v.5[k]? =some l':=hl'
 rw[hl] at hl';cases hl'
 have hL:=hE.layers l (getm hl)
 refine q6a fun u hu=>Bd fun b hb=> ?_
 have fin: ∀u:List Int,u.length=10000->R8 u now fun Jv=>Fits Jv->Cnd (32<(↑Jv.length:Int)) (K (Envt.mk (Sett.mk (ByteArray.mk (Array.mk [])) (ByteArray.mk (Array.mk [])) 0) [] [] [] [] []) 5) (Hn (Envt.mk (Sett.mk v.1.1 v.1.2 v.1.3) v.2 v.3 v.4 v.5 v.6) (j:Int) (Exper.mk x.1 x.2 x.3 x.4 3 x.6 x.7 (Ex.mk x.8.1 x.8.2 x.8.3 x.8.4 x.8.5)) fun Zw=>Sml ([]++Zw.5).length/\(0<=(k:Int)/\(k:Int)<(↑([]++Zw.5).length:Int))/\ ∀y13,([]++Zw.5)[(k:Int).toNat]? =some y13->K (Envt.mk (Sett.mk Zw.1.1 Zw.1.2 Zw.1.3) Zw.2 Zw.3 Zw.4 (([]++Zw.5).set (k:Int).toNat (Lay_.mk l.1 l.2 l.3 l.4 l.5 Jv)) Zw.6) 0):=fun u hu=>w1a (by omega) fun c _=>Cnd.mk (fun _=>h _ _ fun h0=>absurd h0 (by decide)) fun _=>by
  refine z9w (v:=v) hxn hx ?_
  simp only[List.nil_append]
  refine⟨by unfold Sml;omega,by have:=Qf hl;omega,fun _ _=>h _ _ fun _=>⟨?_,?_⟩⟩
  ·have h1:=w5i (x:=Exper.mk x.1 x.2 x.3 x.4 3 x.6 x.7 (Ex.mk x.8.1 x.8.2 x.8.3 x.8.4 x.8.5)) hE hx rfl rfl rfl hc rfl (Jb)
   exact⟨h1.hkind,h1.attrs,h1.slen,h1.segs,h1.flen,h1.flags,by simp only[List.length_set];exact hE.llen,v9b hE.layers ⟨hL.key,hL.kind,hL.salt,hL.hold,hL.cool⟩,h1.xlen,h1.exps⟩
  ·exact⟨rfl,rfl,rfl,rfl,.set j4j hl ⟨rfl,rfl,rfl,rfl,rfl⟩,.set j4k hx ⟨rfl,rfl,rfl,rfl,rfl,Jb,fun q _ _ hq=>hq⟩⟩
 refine Lp2.ind (fun (i:Int) (u:List Int)=>0<=i/\i<=10000/\u.length=10000) (fun (i:Int) _=>(10000 - i).toNat) ?_ ⟨by omega,by omega,hu⟩
 rintro i u ⟨i0,i1,hu⟩ _
 refine Cnd.mk (fun hc=>Cnd.mk (fun _=>⟨by omega,fun z hz=>Cnd.mk (fun _=>⟨by omega,fun w hw=> ?_⟩) fun _=>⟨by unfold InI;omega,⟨by omega,by omega,hu⟩,by omega⟩⟩) fun _=>fin u hu) fun _=>fin u hu
 unfold j0r
 have hcl:=hL.cool
 have step: ∀m:Int,At u i fun y15=>InI (i+1)/\(0<=i+1/\i+1<=10000/\(u.set i.toNat (Max.max w m)).length=10000)/\(10000 - (i+1)).toNat<(10000 - i).toNat:=fun m=>⟨by omega,fun _ _=>⟨by unfold InI;omega,⟨by omega,by omega,by rw[List.length_set];exact hu⟩,by omega⟩⟩
 exact⟨by unfold InI;omega,Cnd.mk (fun _=>step _) fun _=>⟨by unfold InI;omega,step _⟩⟩
end Go.En
end
noncomputable section
set_option maxRecDepth 100000
namespace Go.En
open Go Go.Fl Go.Fl.Lk Go.Fx
theorem PR.map{α:Type}{R:α->α->Prop}{l m:List α}(h:PR R l m){β:Type}{f:α->β}(hf: ∀x y,R x y->f y=f x):m.map f=l.map f:=by
 refine List.ext_getElem? fun i=> ?_
 rw[List.getElem?_map,List.getElem?_map]
 cases hx:l[i]? with
 |none=>
  have:m[i]? =none:=by rw[List.getElem?_eq_none_iff] at hx⊢;have:=h.1;omega
  rw[this]
 |some x=>
  obtain⟨y,hy⟩: ∃y,m[i]? =some y:=⟨_,List.getElem?_eq_getElem (by have:=Qf hx;have:=h.1;omega)⟩
  rw[hy,Option.map_some,Option.map_some,hf x y (h.2 i x y hx hy)]
theorem v9e{α:Type}{R:α->α->Prop}{p q:α->Bool}(hpq: ∀x y,R x y->p x=q y): ∀{l m:List α},PR R l m->(l.find? p=none/\m.find? q=none)∨ ∃x y,l.find? p=some x/\m.find? q=some y/\R x y
 |[],m,h=>by
  have:m=[]:=List.eq_nil_of_length_eq_zero h.1
  subst this;exact .inl ⟨rfl,rfl⟩
 |a::l,[],h=>by have:=h.1;simp at this
 |a::l,b::m,h=>by
  have hab:R a b:=h.2 0 a b rfl rfl
  have ht:PR R l m:=⟨by have:=h.1;simpa using this,fun i x y hx hy=>h.2 (i+1) x y hx hy⟩
  rw[List.find?_cons,List.find?_cons,←hpq a b hab]
  cases hp:p a with
  |true=>exact .inr ⟨a,b,rfl,rfl,hab⟩
  |false=>exact v9e hpq ht
theorem v0x{v w:Envt}(h:Mvd v w)(k:ByteArray):(xof v k=none/\xof w k=none)∨ ∃x y,xof v k=some x/\xof w k=some y/\w5h x y:=by
 unfold xof;exact v9e (fun x y hxy=>by rw[hxy.1]) h.ex
theorem y6d{v w:Envt}(hv:AsB v)(hE:EnvS w)(h:Mvd v w):AsB w where
 ln:=by rw[h.ly.1];exact hv.ln
 xn:=by rw[h.ex.1];exact hv.xn
 sg:=by rw[h.sg];exact hv.sg
 ex x hx:=by obtain⟨i,hi⟩:=List.getElem?_of_mem hx;obtain⟨y,hy,hr⟩:=h.ex.at_ hi;rw[hr.2.2.2.2.2.1];exact hv.ex y (getm hy)
 sa:=by rw[h.st];exact hv.sa
 ls l hl:=by obtain⟨i,hi⟩:=List.getElem?_of_mem hl;obtain⟨y,hy,hr⟩:=h.ly.at_ hi;rw[hr.2.2.1];exact hv.ls y (getm hy)
 xs x hx:=by obtain⟨i,hi⟩:=List.getElem?_of_mem hx;obtain⟨y,hy,hr⟩:=h.ex.at_ hi;rw[hr.2.2.2.1];exact hv.xs y (getm hy)
 cl x hx:=⟨Nat.le_trans (hE.exps x hx).claims.len (by decide),Nat.le_trans (hE.exps x hx).arms.1 (by decide)⟩
 nd:=by rw[h.ex.map (f:=Exper.key) fun x y hxy=>hxy.1];exact hv.nd
def GrwF(v:Envt)(fs:List Frc):Prop:= ∀z∈fs,∀x,xof v z.2=some x->x.5=2
theorem y3q{v:Envt}{f:Frc}{x:Exper}(hx:xof v f.2=some x)(h2:x.2=f.1)(h5:x.5=2)(ha:armV x.7 f.3=true):runV v f=true:=by
 unfold runV
 rw[Option.isSome_iff_ne_none,Ne,List.find?_eq_none]
 intro hall
 exact hall x (j4d hx).1 (j92 (dt (j4d hx).2) (j92 (dt h2) (j92 (dt h5) ha)))
theorem y3r{v:Envt}(hv:AsB v){f:Frc}(h:runV v f=true): ∃x,xof v f.2=some x/\x.2=f.1/\x.5=2/\armV x.7 f.3=true:=by
 unfold runV at h
 obtain⟨x,hx⟩:=Option.isSome_iff_exists.1 h
 have hp:=List.find?_some hx
 simp only[Bool.and_eq_true,decide_eq_true_eq] at hp
 exact⟨x,by rw[←hp.1];exact v2g hv (List.mem_of_find?_eq_some hx),hp.2.1,hp.2.2.1,hp.2.2.2⟩
theorem y2e{v w:Envt}{fs:List Frc}{key:ByteArray}{q:ByteArray×Int}{x':Exper}(hv:AsB v)(hm:Mvd v w)(h:fcdV v fs key=some q)(hx:xof w q.1=some x')(h5:x'.5=2):fcdV w fs key=some q:=by
 unfold fcdV at h⊢
 cases hf:frcV fs key with
 |none=>rw[hf] at h;cases h
 |some f=>
  rw[hf] at h
  simp only at h⊢
  by_cases hn:f.2=noT
  ·rw[if_pos hn] at h⊢;exact h
  ·rw[if_neg hn] at h⊢
   by_cases hr:runV v f=true
   ·rw[if_pos hr] at h
    have h:=Option.some.inj h
    subst h
    obtain⟨x,hx0,h2,_,ha⟩:=y3r hv hr
    rcases v0x hm f.2 with ⟨hn,_⟩|⟨a,b,ha1,hb1,hab⟩
    ·rw[hx0] at hn;cases hn
    ·rw[hx0] at ha1;cases ha1
     rw[show xof w f.2=some x' from hx] at hb1;cases hb1
     rw[if_pos (y3q (show xof w f.2=some x' from hx) (hab.2.1.trans h2) h5 (by rw[hab.2.2.2.2.1];exact ha))]
   ·rw[if_neg hr] at h;cases h
theorem y2f{v w:Envt}{fs:List Frc}{key:ByteArray}(hw:AsB w)(hm:Mvd v w)(hf0:GrwF v fs)(h:fcdV v fs key=none):fcdV w fs key=none:=by
 unfold fcdV at h⊢
 cases hf:frcV fs key with
 |none=>rfl
 |some f=>
  rw[hf] at h
  simp only at h⊢
  by_cases hn:f.2=noT
  ·rw[if_pos hn] at h;cases h
  ·rw[if_neg hn] at h⊢
   by_cases hr:runV v f=true
   ·rw[if_pos hr] at h;cases h
   ·refine if_neg fun hrw=>hr ?_
    obtain⟨x,hx0,h2,_,ha⟩:=y3r hw hrw
    rcases v0x hm f.2 with ⟨_,hn⟩|⟨a,b,ha1,hb1,hab⟩
    ·rw[hx0] at hn;cases hn
    ·rw[hx0] at hb1;cases hb1
     unfold frcV at hf
     exact y3q ha1 (hab.2.1.symm.trans h2) (hf0 f (List.mem_of_find?_eq_some hf) a ha1) (by rw[←hab.2.2.2.2.1];exact ha)
theorem y2g{v w:Envt}{s:Subj}{key:ByteArray}{b:Int}{x x':Exper}(hv:AsB v)(hm:Mvd v w)(hd:v0s w)(b0:0<=b)(b1:b<10000)(h:hitV v s key b=some x)(hx:xof w x.1=some x')(h5:x'.5=2):hitV w s key b=some x'/\w5h x x':=by
 unfold hitV at h
 have hmem:=List.mem_of_find?_eq_some h
 have hp:=List.find?_some h
 simp only[Bool.and_eq_true,decide_eq_true_eq] at hp
 have hsx:w5h x x':=by
  rcases v0x hm x.1 with ⟨hn,_⟩|⟨a,c,ha,hc,hac⟩
  ·rw[v2g hv hmem] at hn;cases hn
  ·rw[v2g hv hmem] at ha;cases ha
   rw[hx] at hc;cases hc
   exact hac
 have hel:j91 w s x'.1=true:=by
  have h1:=hp.2.2.2
  unfold j91 at h1⊢
  rw[v2g hv hmem] at h1
  rw[hsx.1,hx]
  simp only at h1⊢
  unfold cndV at h1⊢
  rw[hsx.2.2.2.2.2.1,hm.sg]
  exact h1
 have hins:=hsx.2.2.2.2.2.2 b b0 b1 hp.2.2.1
 refine⟨?_,hsx⟩
 unfold hitV
 cases hf:w.6.find? fun x=>decide (x.2=key) && (decide (x.5=2) && (insV x.6 b && j91 w s x.1)) with
 |none=>
  rw[List.find?_eq_none] at hf
  exact absurd (j92 (dt (hsx.2.1.trans hp.1)) (j92 (dt h5) (j92 hins hel))) (hf x' (j4d hx).1)
 |some y=>
  have hy:=List.mem_of_find?_eq_some hf
  have hq:=List.find?_some hf
  simp only[Bool.and_eq_true,decide_eq_true_eq] at hq
  obtain⟨i,hi⟩:=List.getElem?_of_mem hy
  obtain⟨j,hj⟩:=List.getElem?_of_mem (j4d hx).1
  have e2:x'.2=y.2:=(hsx.2.1.trans hp.1).trans hq.1.symm
  rcases Nat.lt_trichotomy i j with hij|hij|hij
  ·exact absurd ⟨hins,hq.2.2.1⟩ (hd j i x' y hij hj hi (by omega) (by omega) e2.symm b b0 b1)
  ·subst hij;rw[hi] at hj;cases hj;rfl
  ·exact absurd ⟨hq.2.2.1,hins⟩ (hd i j y x' hij hi hj (by omega) (by omega) e2 b b0 b1)
theorem y6e{v w:Envt}{s:Subj}{fs:List Frc}{l l':Lay_}{x':Exper}(hv:AsB v)(hw:AsB w)(hm:Mvd v w)(hd:v0s w)(hne: ∀x∈w.6,x.1≠noT)(hf:GrwF v fs)(hl:v4y l l')(hx:xof w (layV v s l fs l.1).2=some x')(h5:x'.5=2):
  (layV w s l' fs l.1).2=(layV v s l fs l.1).2/\(layV w s l' fs l.1).4=(layV v s l fs l.1).4:=by
 have hb:bktV l' s=bktV l s:=by unfold bktV;rw[hl.2.1,hl.2.2.1]
 have hh:j90 w s=j90 v s:=by unfold j90;rw[hm.st]
 cases hc:fcdV v fs l.1 with
 |some q=>
  have ha:layV v s l fs l.1=Asg.mk l.1 q.1 (bktV l s) q.2 false:=by unfold layV;rw[hc]
  rw[ha] at hx
  have hb':layV w s l' fs l.1=Asg.mk l.1 q.1 (bktV l' s) q.2 false:=by unfold layV;rw[y2e hv hm hc hx h5]
  rw[ha,hb'];exact⟨rfl,rfl⟩
 |none=>
  have hcw:=y2f hw hm hf hc
  unfold layV at hx⊢
  rw[hc] at hx⊢
  rw[hcw]
  simp only at hx⊢
  rw[hh,hb,hl.2.1,hl.2.2.2.1]
  by_cases hcond:j90 v s=true∨(fnd s l.2).isSome=true/\bktV l s<l.4
  ·rw[if_pos hcond,if_pos hcond];exact⟨rfl,rfl⟩
  ·rw[if_neg hcond] at hx⊢
   rw[if_neg hcond]
   cases hfn:fnd s l.2 with
   |none=>exact⟨rfl,rfl⟩
   |some c=>
    rw[hfn] at hx
    simp only at hx⊢
    have hbk:bktV l s=ofV l.3 c.2:=by unfold bktV;rw[hfn]
    have hrg:=w95 l.3 c.2
    cases hht:hitV v s l.1 (bktV l s) with
    |none=>rw[hht] at hx;exact absurd (j4d hx).2 (hne _ (j4d hx).1)
    |some x=>
     rw[hht] at hx
     simp only at hx⊢
     obtain⟨h1,h2⟩:=y2g hv hm hd (by rw[hbk];exact hrg.1) (by rw[hbk];exact hrg.2) hht hx h5
     rw[h1]
     simp only
     exact⟨h2.1,by rw[h2.2.2.2.2.1,h2.2.2.2.1]⟩
theorem v9f{list:List Int}{at_:Int}{v:Envt}{now:Int}{K:Envt->Int->Prop}(hD:DS list at_)(hE:EnvS v)(hX: ∀x∈v.6,∃l∈v.5,x.2=l.1)(n0:0<=now)(n1:now<=1000)(h: ∀w a,DS list a->EnvS w->(w=v∨Mvd v w/\v0s w)->K w a):j0t list at_ v now K:=by
 unfold j0t w3s
 have hxl:=hE.xlen
 refine fun _=>Cnd.mk (fun _=>h v _ hD hE (.inl rfl)) fun hn _=>Qh hD (by omega) fun q a q0 q1 hD=>⟨⟨q0,q1⟩,fun y hy=> ?_⟩
 refine Jn1.mk (fun x=>DS list x.2.2.2.2.2.2.2.2.2.1/\(x.1=0->EnvS (Envt.mk (Sett.mk x.2.1 x.2.2.1 x.2.2.2.1) x.2.2.2.2.1 x.2.2.2.2.2.1 x.2.2.2.2.2.2.1 x.2.2.2.2.2.2.2.1 x.2.2.2.2.2.2.2.2.1)/\(Envt.mk (Sett.mk x.2.1 x.2.2.1 x.2.2.2.1) x.2.2.2.2.1 x.2.2.2.2.2.1 x.2.2.2.2.2.2.1 x.2.2.2.2.2.2.2.1 x.2.2.2.2.2.2.2.2.1=v∨Mvd v (Envt.mk (Sett.mk x.2.1 x.2.2.1 x.2.2.2.1) x.2.2.2.2.1 x.2.2.2.2.2.1 x.2.2.2.2.2.2.1 x.2.2.2.2.2.2.2.1 x.2.2.2.2.2.2.2.2.1)))) ?_ ?_
 ·refine Qh hD (by decide) fun r a r0 r1 hD=>Cnd.mk (fun _=>q29 hD (by decide) fun u a u0 u1 hD=>⟨by unfold InI;omega,w75 (v:=v) hE (by omega) fun w e hw=>⟨hD,fun he=>⟨(hw he).1,.inr (hw he).2⟩⟩⟩) fun h0=>Cnd.mk (fun _=>w76 (v:=v) hE fun w e hw=>⟨hD,fun he=>⟨(hw he).1,.inr (hw he).2⟩⟩) fun h1=>Cnd.mk (fun _=>v0w (v:=v) hE hX n0 n1 fun w e hw=>⟨hD,fun he=>⟨(hw he).1,.inr (hw he).2⟩⟩) fun h2=>absurd r1 (by omega)
 ·rintro⟨e,a1,a2,a3,a4,a5,a6,a7,a8,a9,_⟩ ⟨hD,hw⟩
  simp only at hD hw⊢
  refine Cnd.mk (fun he=> ?_) fun _=>h v _ hD hE (.inl rfl)
  obtain⟨hEw,hmv⟩:=hw he
  refine z8a hEw fun b hb=>Cnd.mk (fun ht=>h _ _ hD hEw ?_) fun _=>h v _ hD hE (.inl rfl)
  rcases hmv with hmv|hmv
  ·exact .inl hmv
  ·exact .inr ⟨hmv,hb ht⟩
theorem y6f{p q F A B:Prop}(ha:p->q->A)(hb:B):Cnd p (F->Cnd q A B) B:=Cnd.mk (fun hp _=>Cnd.mk (ha hp) fun _=>hb) fun _=>hb
theorem w1b{codes who acts:List Int}{force:Bool}{K:Bool->Prop}(hc:Byts codes)(hw:Byts who)(ha:Byts acts)(h:K true):Jo codes who acts force K:=by
 unfold Jo q0z
 refine v4x (Cnd.yes rfl ?_)
 refine v0r (V:=v0s) (fun v K hE h=>z8a hE h) (fun ds i j x y _ hx=>by cases hx) hc hw fun v s f hE hD hdj hs hf=> ?_
 have hv:=y8n hE hD
 have hne: ∀x∈v.6,x.1≠noT:=fun x hx=>y8p _ (hD.exps.subset (List.mem_map_of_mem hx))
 have hnd:(v.5.map Lay_.key).Nodup:=by rw[hD.layers];exact v9a _
 have hX: ∀x∈v.6,∃l∈v.5,x.2=l.1:=fun x hx=>(hD.exp x hx).layer
 refine Lp2.ind (fun (g:List Frc) (i:Int)=> ∃j:Nat,i=(j:Int)/\j<=f.length/\g.length<=j/\GrwF v g) (fun _ i=>(f.length - i).toNat) ?_ ⟨0,rfl,by omega,by simp,fun z hz=>by cases hz⟩
 rintro g i ⟨j,rfl,hj,hgl,hg⟩
 refine y6f (fun _ hlt=>⟨by omega,fun y hy=> ?_⟩) ?_
 ·have hy:f[j]? =some y:=hy
  have add:(∀x,xof v y.2=some x->x.5=2)->At f (j:Int) fun y7=>Sml (g++[y7]).length/\InI ((j:Int)+1)/\(∃j':Nat,(j:Int)+1=(j':Int)/\j'<=f.length/\(g++[y7]).length<=j'/\GrwF v (g++[y7]))/\(f.length - ((j:Int)+1)).toNat<(f.length - (j:Int)).toNat:=fun hx=>⟨by omega,fun z hz=>by
   have hz:f[j]? =some z:=hz
   rw[hy] at hz;cases hz
   exact⟨by unfold Sml;simp;omega,by unfold InI;omega,⟨j+1,by omega,by omega,by simp;omega,fun z hz=>(List.mem_append.1 hz).elim (hg z) fun e=>by rw[List.mem_singleton.1 e];exact hx⟩,by omega⟩⟩
  refine q05 (v:=v) hv.xn (fun hn=>Cnd.yes (by decide) (add fun x hx=>by rw[hn] at hx;cases hx)) fun k x hx hxo=>Cnd.no (by omega) ⟨by have:=Qf hx;omega,fun x1 hx1=> ?_⟩
  have hx1:v.6[k]? =some x1:=hx1
  rw[hx] at hx1;cases hx1
  refine Cnd.mk (fun h5=>add fun z hz=>by rw[hxo] at hz;cases hz;exact h5) fun _=>⟨by unfold InI;omega,⟨j+1,by omega,by omega,by omega,hg⟩,by omega⟩
 have hgl:g.length<=1000000000:=by omega
 refine z3c (v:=v) (s:=s) hv hs hgl (w47 ha (by decide) (by decide) fun al hA=> ?_)
 refine LpH.ind (fun x=>0<=x.1/\x.1<=5/\DS al x.2.2.2.2.2.2.2.2.2.1/\EnvS (Envt.mk (Sett.mk x.2.1 x.2.2.1 x.2.2.2.1) x.2.2.2.2.1 x.2.2.2.2.2.1 x.2.2.2.2.2.2.1 x.2.2.2.2.2.2.2.1 x.2.2.2.2.2.2.2.2.1)/\Mvd v (Envt.mk (Sett.mk x.2.1 x.2.2.1 x.2.2.2.1) x.2.2.2.2.1 x.2.2.2.2.2.1 x.2.2.2.2.2.2.1 x.2.2.2.2.2.2.2.1 x.2.2.2.2.2.2.2.2.1)/\v0s (Envt.mk (Sett.mk x.2.1 x.2.2.1 x.2.2.2.1) x.2.2.2.2.1 x.2.2.2.2.2.1 x.2.2.2.2.2.2.1 x.2.2.2.2.2.2.2.1 x.2.2.2.2.2.2.2.2.1)) (fun x=>(5 - x.1).toNat) ?_ ⟨by simp,by simp,hA,hE,Mvd.refl v,hdj⟩
 rintro⟨i,a1,a2,a3,a4,a5,a6,a7,a8,a9,_⟩ ⟨i0,i1,hA,hEw,hmv,hdw⟩
 simp only at i0 i1 hA hEw hmv hdw⊢
 generalize hW:Envt.mk (Sett.mk a1 a2 a3) a4 a5 a6 a7 a8=w at hEw hmv hdw⊢
 have hXw: ∀x∈w.6,∃l∈w.5,x.2=l.1:=fun x hx=>by
  obtain⟨i,hi⟩:=List.getElem?_of_mem hx
  obtain⟨y,hy,hr⟩:=hmv.ex.at_ hi
  obtain⟨l,hl,hk⟩:=hX y (getm hy)
  obtain⟨m,hm⟩:=List.getElem?_of_mem hl
  have hlt:=Qf hm
  have hl':=List.getElem?_eq_getElem (l:=w.5) (i:=m) (by have:=hmv.ly.1;omega)
  exact⟨_,getm hl',by rw[hr.2.1,hk];exact (hmv.ly.2 m l _ hm hl').1.symm⟩
 refine Cnd.mk (fun hc5=>v9f hA hEw hXw (by decide) (by decide) fun u a hA hEu hu=>⟨by unfold InI;omega,⟨by omega,by omega,hA,hEu,?_⟩,by omega⟩) fun _=> ?_
 ·rcases hu with rfl|⟨hu1,hu2⟩
  ·exact⟨hmv,hdw⟩
  ·exact⟨hmv.trans hu1,hu2⟩
 have hwB:=y6d hv hEw hmv
 have hnw: ∀x∈w.6,x.1≠noT:=fun x hx=>by
  obtain⟨i,hi⟩:=List.getElem?_of_mem hx
  obtain⟨y,hy,hr⟩:=hmv.ex.at_ hi
  rw[hr.1];exact hne y (getm hy)
 have hndw:(w.5.map Lay_.key).Nodup:=by rw[hmv.ly.map (f:=Lay_.key) fun x y hxy=>hxy.1];exact hnd
 have l1:(allV v s g).length=v.5.length:=by unfold allV;simp
 have l2:(allV w s g).length=w.5.length:=by unfold allV;simp
 have hly:=hmv.ly.1
 have hln:=hv.ln
 have a8e:a8=w.6:=by rw[←hW]
 rw[a8e]
 refine z3c (v:=w) (s:=s) hwB hs hgl fun _ _=>Cnd.yes (by rw[l1,l2,hly]) fun _=> ?_
 have hat: ∀{w:Envt},(w.5.map Lay_.key).Nodup-> ∀{i:Nat} {z:Asg},(allV w s g)[i]? =some z-> ∃l,w.5[i]? =some l/\z=layV w s l g l.1:=fun {w} hnd {i z} h2=>by
  unfold allV at h2
  rw[List.getElem?_map] at h2
  cases h1:w.5[i]? with
  |none=>rw[h1] at h2;cases h2
  |some l=>
   rw[h1] at h2
   refine⟨l,rfl,?_⟩
   rw[←Option.some.inj h2]
   show (asgV w s g l.1).1=_
   unfold asgV
   rw[y6c hnd (getm h1)]
 refine srch (fun _=>false) (by omega) (fun _=>h) fun i y Y hy hi _ hq=> ?_
 obtain⟨l,hl,he⟩:=hat hnd hy
 refine q05 (v:=w) hwB.xn (fun _=>Cnd.yes (by decide) (hq rfl)) fun k x hx hxo=>Cnd.no (by omega) ⟨by have:=Qf hx;omega,fun x1 hx1=> ?_⟩
 have hx1:w.6[k]? =some x1:=hx1
 rw[hx] at hx1;cases hx1
 refine Cnd.mk (fun h5=>⟨by omega,fun z hz=>⟨by omega,fun y' hy'=> ?_⟩⟩) fun _=>hq rfl
 have hy':(allV v s g)[i]? =some y':=hy'
 rw[hy] at hy';cases hy'
 obtain⟨l',hl',hz'⟩:=hat hndw (show (allV w s g)[i]? =some z from hz)
 have hsl:=hmv.ly.2 i l l' hl hl'
 subst he
 obtain⟨g1,g2⟩:=y6e (s:=s) (fs:=g) hv hwB hmv hdw hnw hg hsl hxo h5
 rw[hsl.1] at hz'
 rw[←hz'] at g1 g2
 refine Cnd.yes g1 ⟨by omega,fun z2 hz2=>⟨by omega,fun y2 hy2=> ?_⟩⟩
 rw[hz] at hz2;cases hz2
 have hy2:(allV v s g)[i]? =some y2:=hy2
 rw[hy] at hy2;cases hy2
 exact Cnd.yes g2 (hq rfl)
end Go.En
end
section
namespace Go.En
open Go Go.RowKit Go.Fl Go.Fx
/-- Bytes as numbers. -/
def u8s (l : List UInt8) : List Int := l.map fun b => ((b.toNat : Nat) : Int)
theorem v9g {l : List UInt8} : Byts (u8s l) := fun x hx => by
  obtain ⟨b, _, rfl⟩ := List.mem_map.1 hx
  have := b.toNat_lt
  exact ⟨by omega, by omega⟩
theorem y6g {σ : Hv} {v : Value} {l : List UInt8} (h : RSl 1 RU8 σ v l) : RSl (D.size C.u8) (ElF D C.u8) σ v (u8s l) := by
  obtain ⟨a, cap, rfl, h1, h2, h3⟩ := h
  refine ⟨a, cap, by simp [u8s], by simpa [u8s] using h1, by simpa [u8s] using h2, fun i x hx => ?_⟩
  simp only [u8s, List.getElem?_map, Option.map_eq_some_iff] at hx
  obtain ⟨b, hb, rfl⟩ := hx
  obtain ⟨ad, cs, e1, e2, e3, e4⟩ := h3 i b hb
  have e4 : cs = _ := e4
  subst e4
  exact ⟨ad, _, e1, rfl, e3, Gg (.int _ _) j2u⟩
theorem z9x (x0 : List UInt8) (x1 : List UInt8) (x2 : List UInt8) (x3 : Bool) {v0 : Value} {v1 : Value} {v2 : Value} {σ : Hv} {w : World} (hV : View σ w) (hG : Glb D σ) (rd0 : RSl 1 RU8 σ v0 x0) (rd1 : RSl 1 RU8 σ v1 x1) (rd2 : RSl 1 RU8 σ v2 x2) (h : ∀ K : Bool → Prop, K true → Jo (u8s x0) (u8s x1) (u8s x2) x3 K) :
    Calls Go.Proofs.Tryz.prog 6 #[v0, v1, v2, .bool x3] w fun e w1 => ∃ r, e = .returned (.bool r) ∧ Grow [] σ w σ w1 ∧ r = true := by
  have he : (Gu Jo).m ([.f (.sl C.u8 (u8s x0)), .f (.sl C.u8 (u8s x1)), .f (.sl C.u8 (u8s x2)), .f (.bool x3)] : List (Fx.Tr Sg)) (fun rets _ => rets = [.f (.bool true)]) = Jo (u8s x0) (u8s x1) (u8s x2) x3 (fun b => ([.f (.bool b)] : List (Fx.Tr Sg)) = [.f (.bool true)]) := by kernel_rfl
  have hp : (Gu Jo).m ([.f (.sl C.u8 (u8s x0)), .f (.sl C.u8 (u8s x1)), .f (.sl C.u8 (u8s x2)), .f (.bool x3)] : List (Fx.Tr Sg)) (fun rets _ => rets = [.f (.bool true)]) := Eq.mpr he (h _ rfl)
  have hm := (z9o).m _ _ hp w σ [v0, v1, v2, .bool x3] [] hG (LayL.cons (ms := []) (.f (RepF.ofRSl okP.ok (y6g rd0))) (LayL.cons (ms := []) (.f (RepF.ofRSl okP.ok (y6g rd1))) (LayL.cons (ms := []) (.f (RepF.ofRSl okP.ok (y6g rd2))) (LayL.cons (ms := []) (.f (.bool _)) .nil)))) (St.start hV)
  refine Calls.mono hm ?_
  rintro e w1 ⟨rets, outs, rv, σ1, msr, mso, rfl, hK, hLr, _, hS⟩
  subst hK
  cases hLr with
  | cons h1 hn =>
  cases hn
  cases h1 with
  | f hf =>
  cases hf
  exact ⟨true, rfl, hS.done.forget, rfl⟩
end Go.En
namespace Go.Proofs.YtfiomedjdipbgaaGreatDoor.assignGrows
open Go Go.RowKit Go.Fl Go.ChangeShapes Go.WideShapes Go.ChangeAt
open Go.ChangeMaps (open_string shut_string)
theorem own : ownKnob Tryz.prog.godebug = none := by kernel_rfl
theorem laidOut : laidOutB Tryz.prog = true := by kernel_rfl
set_option maxRecDepth 100000 in
theorem contract (H : Type) (enc : TypeId × Value → H) (W : World) (base : Nat) (args : Array Value) (ds gs : List (DataW H)) (before : List MemPlace)
    (hval : ∀ (j : Nat) t v, Tryz.f6.params[j]? = some t → args[j]? = some v → Value.okWide Tryz.prog W .any base t v)
    (hW : DataW.Whole enc Tryz.prog Tryz.f6.params.toList Rows.assignGrowsSpec.vars false W args.toList ds gs before)
    (hsz : (DataW.weightsEach Tryz.prog (Tryz.f6.params.toList ++ (OpenSpec.ofChange Rows.assignGrowsSpec).bare.plain.varTypes Tryz.prog) (ds ++ gs)).all (· ≤ reachBytes) = true)
    (hL : laidMetH Tryz.prog Rows.assignGrowsRow.laid W) (hsh : W.ShapedOpen Tryz.prog) :
    Calls Tryz.prog 6 args W fun e W' => ∃ v, e = .returned v ∧ Rows.assignGrowsSpec.post enc Tryz.prog Tryz.f6 false true false false W args v W' := by
  have hG : Go.Fx.Glb Go.En.D (hv W) := Go.En.w82 hL hsh
  have hW' := hW
  obtain ⟨p, q, hA0, hV, rfl, hfz, hnd⟩ := hW
  have hA : DataW.TrodAll enc Tryz.prog W 0 (fun _ => true) true Tryz.f6.params.toList args.toList ds p := hA0
  rw [Tryz.params6] at hA hval hsz
  obtain ⟨v0, vs0, d0, ds0, p0, q0, hargs, rfl, rfl, h0, r0⟩ := trodAll_cons hA
  obtain ⟨v1, vs1, d1, ds1, p1, q1, rfl, rfl, rfl, h1, r1⟩ := trodAll_cons r0
  obtain ⟨v2, vs2, d2, ds2, p2, q2, rfl, rfl, rfl, h2, r2⟩ := trodAll_cons r1
  obtain ⟨v3, vs3, d3, ds3, p3, q3, rfl, rfl, rfl, h3, r3⟩ := trodAll_cons r2
  obtain ⟨rfl, rfl, rfl⟩ := trodAll_nil r3
  obtain rfl : args = #[v0, v1, v2, v3] := by cases args; simp_all
  obtain ⟨rfl, rfl⟩ := trodVars_none hV
  have k0 := h0
  have lt0 : ∀ x ∈ p0, x.block < W.heap.size := by obtain ⟨m, hm⟩ := k0; exact DataW.trod_lt m _ _ _ hm
  obtain ⟨x0, rd0⟩ := y5h Tryz.underlying22 Tryz.underlying5 (by kernel_rfl) (of_decide_eq_true (by kernel_rfl)) (hval 0 22 v0 rfl rfl) h0 (w3j hsz (j := 0) (t := 22) rfl rfl)
  have k1 := h1
  have lt1 : ∀ x ∈ p1, x.block < W.heap.size := by obtain ⟨m, hm⟩ := k1; exact DataW.trod_lt m _ _ _ hm
  obtain ⟨x1, rd1⟩ := y5h Tryz.underlying22 Tryz.underlying5 (by kernel_rfl) (of_decide_eq_true (by kernel_rfl)) (hval 1 22 v1 rfl rfl) h1 (w3j hsz (j := 1) (t := 22) rfl rfl)
  have k2 := h2
  have lt2 : ∀ x ∈ p2, x.block < W.heap.size := by obtain ⟨m, hm⟩ := k2; exact DataW.trod_lt m _ _ _ hm
  obtain ⟨x2, rd2⟩ := y5h Tryz.underlying22 Tryz.underlying5 (by kernel_rfl) (of_decide_eq_true (by kernel_rfl)) (hval 2 22 v2 rfl rfl) h2 (w3j hsz (j := 2) (t := 22) rfl rfl)
  obtain ⟨x3, rfl, rfl, rfl⟩ := open_bool Tryz.underlying4 (hval 3 4 v3 rfl rfl) h3
  refine (Go.En.z9x x0 x1 x2 x3 (y5f W) hG rd0 rd1 rd2 (fun _ hk => Go.En.w1b Go.En.v9g Go.En.v9g Go.En.v9g hk)).mono fun e W' he => ?_
  obtain ⟨r, rfl, hg, hr⟩ := he
  have hrt : r = true := hr
  subst hrt
  have bel := y03 hg.keeps
  exact ⟨_, rfl, _, _, _, [], _, [], hW', trodAll_mk1 (shut_bool Tryz.underlying4 _), (trodAll_cons_mk (Below.trod laidOut (by kernel_rfl) (of_decide_eq_true (by kernel_rfl)) k0 bel lt0) (trodAll_cons_mk (Below.trod laidOut (by kernel_rfl) (of_decide_eq_true (by kernel_rfl)) k1 bel lt1) (trodAll_cons_mk (Below.trod laidOut (by kernel_rfl) (of_decide_eq_true (by kernel_rfl)) k2 bel lt2) (trodAll_cons_mk (shut_bool Tryz.underlying4 _) trodAll_mk0)))), rfl, bel.frame _, fun h => by cases h⟩
theorem reads (os : Os) {H : Type} (enc : TypeId × Value → H) : ∃ places, DataW.whole enc Tryz.prog ((World.laidAll Tryz.prog os Rows.assignGrowsRow.laid).forCall (fun _ _ => 0) ⟨#[], #[.slice none 0 0, .slice none 0 0, .slice none 0 0, .bool false], []⟩).memory Tryz.f6.params.toList Rows.assignGrowsSpec.vars false (#[.slice none 0 0, .slice none 0 0, .slice none 0 0, .bool false] : Array Value).toList 8 = some ([.nil, .nil, .nil, .lit (.bool false)], [], places) :=
  ⟨[], by kernel_rfl⟩
set_option maxRecDepth 100000 in
theorem lifted (os : Os) (started : os.Started) (H : Type) (enc : TypeId × Value → H) (F : Stop.Interp) :
    ReturnsInHanded {} Tryz.checked os 6 .any ((OpenSpec.ofChange Rows.assignGrowsSpec).preRow enc Tryz.prog Tryz.f6 Rows.assignGrowsRow.domain false Rows.assignGrowsRow.laid) (((OpenSpec.ofChange Rows.assignGrowsSpec).at F).post enc Tryz.prog Tryz.f6 false true false false) := by
  obtain ⟨places, hx⟩ := reads os enc
  refine returnsInHanded_of_row (C := Tryz.checked) (s := (OpenSpec.ofChange Rows.assignGrowsSpec)) own started (by kernel_rfl) Tryz.func6
    (witness_row_atRef (enc := enc) (C := Tryz.checked) false (World.laidAll Tryz.prog os Rows.assignGrowsRow.laid) #[.slice none 0 0, .slice none 0 0, .slice none 0 0, .bool false] (World.laidAll_os _ _ _) (by kernel_rfl) (by kernel_rfl) (by kernel_rfl)
      (OpenSpec.preRow_of_cond 8 hx (by kernel_rfl) (fun k hk => by cases hk) (by kernel_rfl) (by rw [MakeChecks.laidMetH_plain _ _ _ (by kernel_rfl)]; exact laidMet_laidAll _ (by kernel_rfl) (by kernel_rfl)))) ?_
  intro W base args ds gs before hval hW _ _ hsz hL hsh _
  exact contract H enc W base args ds gs before hval hW hsz hL hsh
theorem y2h : (Rows.assignGrowsRow.inPlace == Tryz.pinned.checked.prog.inPlace 6) = true := by kernel_rfl
theorem kUnf : (Rows.assignGrowsRow.unfollowed == Tryz.pinned.checked.prog.unfollowed 6) = true := by kernel_rfl
theorem kRec : (Rows.assignGrowsRow.recurses == Tryz.pinned.checked.prog.recurses 6) = true := by kernel_rfl
theorem y8q : (Rows.assignGrowsRow.named == Tryz.pinned.checked.prog.varsNamed 6) = true := by kernel_rfl
theorem closed : joinedFacts Tryz.pinned.checked.prog 6 Tryz.f6 (OpenSpec.ofChange Rows.assignGrowsSpec).bare Rows.assignGrowsRow = true := by
  unfold joinedFacts
  rw [y2h, kUnf, kRec, y8q]
  kernel_rfl
theorem said : Rows.AssignGrowsSaid :=
  OpenClaim.holds_of_cond 6 Tryz.f6 rfl rfl rfl rfl rfl rfl rfl ⟨rfl, rfl, rfl, rfl, rfl⟩ rfl rfl rfl rfl rfl (by kernel_rfl) Tryz.func6 closed
    (of_decide_eq_true (by kernel_rfl)) (by unfold Func.isWrapper; first | (rw [if_pos (by decide +kernel)]; kernel_rfl) | (rw [if_neg (by decide +kernel)]; exact ⟨rfl, rfl⟩))
    (fun os started H enc _ F => by rw [OpenClaim.pre_eq_preRow]; exact lifted os started H enc F)
theorem plain (f : FuncId) (fn : Func) (hf : Tryz.pinned.checked.prog.funcNamed "flagstone/flagstonelaw15.AssignGrows" = some f) (hfn : Tryz.pinned.checked.prog.funcs[f]? = some fn) :
    true = Tryz.pinned.checked.prog.looks [] ∧ ∀ (j : Nat) t, fn.params[j]? = some t → Tryz.pinned.checked.prog.wantsStandIn t = false := by
  obtain rfl : f = 6 := Option.some.inj ((show Tryz.prog.funcNamed "flagstone/flagstonelaw15.AssignGrows" = some 6 by kernel_rfl).symm.trans hf) |>.symm
  obtain rfl : fn = Tryz.f6 := (Option.some.inj (Tryz.func6.symm.trans hfn)).symm
  refine ⟨by kernel_rfl, fun j t ht => ?_⟩
  rw [Tryz.params6] at ht
  match j with
  | 0 => cases ht; exact (show Tryz.prog.wantsStandIn 22 = false by kernel_rfl)
  | 1 => cases ht; exact (show Tryz.prog.wantsStandIn 22 = false by kernel_rfl)
  | 2 => cases ht; exact (show Tryz.prog.wantsStandIn 22 = false by kernel_rfl)
  | 3 => cases ht; exact (show Tryz.prog.wantsStandIn 4 = false by kernel_rfl)
  | j + 4 => cases ht
theorem card : Rows.AssignGrowsCardSaid :=
  Claim7.holds_tied_plain_at .later [] _ _ _ _ said (fun _ h => by cases h) (by kernel_rfl) (fun _ h => by cases h) assignGrows_row_tie rfl ⟨rfl, rfl⟩ (by kernel_rfl) rfl plain (by kernel_rfl)
end Go.Proofs.YtfiomedjdipbgaaGreatDoor.assignGrows
end
#print axioms Go.Proofs.YtfiomedjdipbgaaGreatDoor.assignGrows.card
