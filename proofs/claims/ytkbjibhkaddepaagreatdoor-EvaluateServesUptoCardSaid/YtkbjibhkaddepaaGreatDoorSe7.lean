/- For every input within the given bound on its size EvaluateServes returns true and leaves its arguments as they were. This is part 7 of 11. Conditions: those in the statements. -/
import Derived.Test.YtkbjibhkaddepaaGreatDoorRows
import Derived.Test.YtkbjibhkaddepaaGreatDoorSe6
import Derived.Lib.ItoaNum
import Derived.KernelRfl
noncomputable section
set_option maxRecDepth 100000
namespace Go.En
open Go Go.Fl Go.Fl.Lk Go.Fx Go.Dg
def Cov(l:List Rng):Prop:= ∀b:Int,0<=b->b<10000-> ∃r∈l,r.1<=b/\b<r.2
theorem j53{list:List Int}{at_ n:Int}{K:List Rng->Int->Prop}(hD:DS list at_)(hn:1<=n)(hn':n<=100)(h: ∀l a,SplS n l->Cov l->DS list a->K l a):z42 list at_ n K:=by
 unfold z42 j80
 have cv1: ∀{l:List Rng} {x y z:Int},(∀b:Int,0<=b->b<x-> ∃r∈l,r.1<=b/\b<r.2)-> ∀b:Int,0<=b->b<y-> ∃r∈l++[Rng.mk x y z],r.1<=b/\b<r.2:=fun {l x y z} hc b h0 h1=>by
  by_cases hb:b<x
  ·obtain⟨r,hr,hh⟩:=hc b h0 hb
   exact⟨r,List.mem_append_left _ hr,hh⟩
  ·exact⟨_,List.mem_append_right _ List.mem_cons_self,by simp only;omega,h1⟩
 refine Jn4.mk (fun l at_ last a=>DS list a/\l.length<=3/\0<=at_/\(∀b:Int,0<=b->b<at_-> ∃r∈l,r.1<=b/\b<r.2)/\ ∀r∈l,0<=r.lo/\r.hi<=10000/\1<=r.variation/\r.variation<=n) ?_ ?_
 ·refine Lp5.ind (fun l at_ last i a=>DS list a/\0<=i/\i<=3/\(l.length:Int)=i/\0<=at_/\at_<=10000/\0<=last/\last<=n/\(∀b:Int,0<=b->b<at_-> ∃r∈l,r.1<=b/\b<r.2)/\ ∀r∈l,0<=r.lo/\r.hi<=10000/\1<=r.variation/\r.variation<=n) (fun _ _ _ i _=>(3 - i).toNat) ?_ ⟨hD,by omega,by omega,rfl,by omega,by omega,by omega,by omega,fun b h0 h1=>by omega,by simp⟩
  rintro l at_ last i a ⟨hD,i0,i1,hl,a0,a1,l0,l1,hcv,hr⟩
  refine Qj hD (by decide) fun q a q0 q1 hD=>Cnd.mk (fun _=>Cnd.mk (fun _=>⟨by unfold InI;omega,q5h hD (by decide) fun w a w0 w1 hD=>⟨by unfold InI;omega,Qj hD hn fun v a v0 v1 hD=>⟨by unfold InI;omega,?_⟩⟩⟩) fun _=> ?_) fun _=> ?_
  ·have m0:=Int.tmod_nonneg n (show 0<=1+v by omega);have m1:=Int.tmod_lt_of_pos (1+v) (b:=n) (by omega)
   refine Jn1.mk (fun v=>1<=v/\v<=n) (Cnd.mk (fun _=>⟨by omega,by unfold InI;omega,by omega,by omega⟩) fun _=>⟨by omega,by omega⟩) fun v hv=>Cnd.mk (fun _=>⟨hD,by omega,a0,hcv,hr⟩) fun _=> ?_
   exact⟨by unfold Sml;simp;omega,by unfold InI;omega,⟨hD,by omega,by omega,by simp;omega,by omega,by omega,by omega,by omega,cv1 hcv,Jw hr ⟨by simp only;omega,by simp only;omega,by simp only;omega,by simp only;omega⟩⟩,by omega⟩
  ·exact⟨hD,by omega,a0,hcv,hr⟩
  ·exact⟨hD,by omega,a0,hcv,hr⟩
 ·rintro l at_ last a ⟨hD,hl,a0,hcv,hr⟩
  refine Qj hD hn fun v a v0 v1 hD=>⟨by unfold InI;omega,?_⟩
  have m0:=Int.tmod_nonneg n (show 0<=1+v by omega);have m1:=Int.tmod_lt_of_pos (1+v) (b:=n) (by omega)
  refine Jn1.mk (fun v=>1<=v/\v<=n) (Cnd.mk (fun _=>⟨by omega,by unfold InI;omega,by omega,by omega⟩) fun _=>⟨by omega,by omega⟩) fun v hv=> ?_
  exact⟨by unfold Sml;simp;omega,h _ _ ⟨by simp;omega,Jw hr ⟨a0,by simp,hv.1,hv.2⟩⟩ (cv1 hcv) hD⟩
structure SrvD(n:Int)(s:Srv):Prop where
 ok:SrvS n s
 cov:s.variation=0->Cov s.split
theorem z6t{list:List Int}{at_ n:Int}{K:Srv->Int->Prop}(hD:DS list at_)(hn:1<=n)(hn':n<=100)(h: ∀s a,SrvD n s->DS list a->K s a):z43 list at_ n K:=by
 unfold z43 j81
 have tt: ∀s∈j1g,s.size<=100:=by decide
 have key:(ByteArray.mk (Array.mk [107,101,121])).size<=100:=by decide
 refine Qj hD (by decide) fun r a r0 r1 hD=>Cnd.mk (fun _=>Qj hD hn fun v a v0 v1 hD=>⟨by unfold InI;omega,h _ _ ⟨⟨sz0,⟨by simp only;omega,by simp only;omega⟩,⟨by simp,by simp⟩,sz0,sz0⟩,fun h0=>by simp only at h0;omega⟩ hD⟩) fun _=> ?_
 refine z1u hD fun t a ht hD=>j53 hD hn hn' fun l a hl hcv hD=>q2w fun ds _ hds=>Qj hD (by decide) fun q a q0 q1 hD _=> ?_
 have usr:(ByteArray.mk (Array.mk [117,115,101,114])).size<=100:=by decide
 have ok: ∀{k b:ByteArray},k.size<=100->b.size<=100->SrvD n (Srv.mk 0 k b t l):=fun hk hb=>⟨⟨hk,⟨by simp,by simp only;omega⟩,hl,hb,tt _ ht⟩,fun _=>hcv⟩
 refine Cnd.mk (fun _=>⟨by omega,fun y hy=>Cnd.mk (fun _=>h _ _ (ok usr key) hD) fun _=>⟨by omega,fun z hz=>⟨by omega,fun u hu=>h _ _ (ok (hds z (getm hz)).1 (hds u (getm hu)).2.1) hD⟩⟩⟩) fun _=>h _ _ (ok usr key) hD
theorem w9l{list:List Int}{at_ kind:Int}{K:Val->Int->Prop}(hk0:1<=kind)(hk1:kind<=5)(hD:DS list at_)(h: ∀r a,ValS r->r.kind=kind->DS list a->K r a):Bi list at_ kind K:=by
 unfold Bi j1i
 have tt: ∀s∈j1g,s.size<=100:=by decide
 have tv: ∀s∈z4z,s.size<=100:=by decide
 have tl: ∀l∈j8x,l.length<=10/\ ∀s∈l,s.size<=100:=by decide
 refine Cnd.mk (fun _=> ?_) fun _=>Cnd.mk (fun _=>fun _=> ?_) fun _=>Cnd.mk (fun _=> ?_) fun _=>Cnd.mk (fun _=> ?_) fun _=> ?_
 ·exact Qj hD (by decide) fun r a r0 r1 hD=>h _ _ ⟨by unfold InI;simp only;omega,sz0,by simp,by simp⟩ rfl hD
 ·refine Qj hD (by decide) fun r a r0 r1 hD=>⟨⟨r0,r1⟩,fun y hy=>h _ _ ⟨?_,sz0,by simp,by simp⟩ rfl hD⟩
  have:=getm hy
  have k: ∀y∈[(0:Int),(1:Int),(17:Int),(18:Int),(19:Int),(-5:Int),(64:Int),(1099511627776:Int),(-1099511627776:Int)], -9223372036854775808<=y/\y<=9223372036854775807:=by decide
  exact k y this
 ·exact z1u hD fun r a hr hD=>h _ _ ⟨by unfold InI;simp,tt _ hr,by simp,by simp⟩ rfl hD
 ·exact Qj hD (by decide) fun r a r0 r1 hD=>⟨⟨r0,r1⟩,fun y hy=>h _ _ ⟨by unfold InI;simp,tv _ (getm hy),by simp,by simp⟩ rfl hD⟩
 ·refine Qj hD (by decide) fun r a r0 r1 hD=>⟨⟨r0,r1⟩,fun y hy=> ?_⟩
  obtain⟨a1,a2⟩:=tl _ (getm hy)
  exact⟨by unfold Sml;simp;omega,h _ _ ⟨by unfold InI;simp,sz0,by simpa using a1,by simpa using a2⟩ (by simp only;omega) hD⟩
def flK:List ByteArray:=[ByteArray.mk (Array.mk [102,97]),ByteArray.mk (Array.mk [102,98]),ByteArray.mk (Array.mk [102,99]),ByteArray.mk (Array.mk [102,100])]
def lyK:List ByteArray:=[ByteArray.mk (Array.mk [108,97]),ByteArray.mk (Array.mk [108,98])]
def exK:List ByteArray:=[ByteArray.mk (Array.mk [120,97]),ByteArray.mk (Array.mk [120,98]),ByteArray.mk (Array.mk [120,99])]
structure RulD(n:Int)(r:Rul):Prop where
 cond:DrE sgK 20000 r.cond
 serve:SrvD n r.serve
structure FlgD(prev:List Flg)(f:Flg):Prop where
 kind:1<=f.kind/\f.kind<=5
 kinds: ∀v∈f.variations,v.kind=f.kind
 off:1<=f.off/\f.off<=f.variations.length
 needs: ∀q∈f.needs,∃g∈prev,q.flag=g.key/\1<=q.variation/\q.variation<=g.variations.length
 nsub:(f.needs.map Prq.flag).Sublist (prev.map Flg.key)
 tgts: ∀t∈f.targets,(1<=t.variation/\t.variation<=f.variations.length)/\t.keys.length<=3
 rules: ∀r∈f.rules,RulD f.variations.length r
 dflt:SrvD f.variations.length f.dflt
theorem y33{l a:List ByteArray}{j:Nat}{k:ByteArray}(h:a.Sublist (l.take j))(hk:l[j]? =some k):(a++[k]).Sublist (l.take (j+1)):=by
 rw[List.take_add_one,hk];exact h.append (List.Sublist.refl _)
theorem y34{l a:List ByteArray}{j:Nat}(h:a.Sublist (l.take j)):a.Sublist (l.take (j+1)):=by
 rw[List.take_add_one];exact h.trans (List.sublist_append_left _ _)
structure FlgsD(l:List Flg):Prop where
 keys:l.map Flg.key=flK.take l.length
 all: ∀(i:Nat) f,l[i]? =some f->FlgD (l.take i) f
structure ExpD(layers:List Lay_)(flags:List Flg)(x:Exper):Prop where
 cov:Cov x.arms
 cond:DrE sgK 20000 x.cond
 layer: ∃l∈layers,x.layer=l.key
 flag: ∃f∈flags,x.flag=f.key/\ ∀r∈x.arms,1<=r.variation/\r.variation<=f.variations.length
 salt:x.salt.size<=100
structure EnvD(v:Envt):Prop where
 salt:v.settings.salt.size<=100
 gs:GS v.segments
 flags:FlgsD v.flags
 layers:v.layers.map Lay_.key=lyK.take v.layers.length
 exps:(v.experiments.map Exper.key).Sublist exK
 exp: ∀x∈v.experiments,ExpD v.layers v.flags x
 al:v.attributes.length<=100
theorem w9m:FlgsD []:=⟨rfl,by simp⟩
theorem v6g{l:List Flg}{f:Flg}(h:FlgsD l)(hk:flK[l.length]? =some f.key)(hf:FlgD l f):FlgsD (l++[f]):=by
 refine⟨?_,fun i g hi=> ?_⟩
 ·rw[List.map_append,h.keys,List.length_append,List.length_singleton,List.take_add_one,hk];rfl
 ·rcases Nat.lt_or_ge i l.length with hlt|hge
  ·rw[List.getElem?_append_left hlt] at hi
   rw[List.take_append_of_le_length (by omega)]
   exact h.all i g hi
  ·have:=Qi hi
   rw[List.length_append,List.length_singleton] at this
   have e:i=l.length:=by omega
   subst e
   rw[List.getElem?_append_right (Nat.le_refl _),Nat.sub_self] at hi
   cases hi
   rw[List.take_left' rfl];exact hf
theorem y0w{a b:List ByteArray}{w:Nat}{e:Ex}(h:DrE a w e)(hs: ∀x∈a,x∈b):DrE b w e:=⟨h.wt,fun x hx=>hs x (h.nms x hx),h.ev⟩
theorem v6h{ds:List Decl}(hl:ds.length<=100):EnvD (Envt.mk (Sett.mk (ByteArray.mk (Array.mk [])) (ByteArray.mk (Array.mk [])) 0) ds [] [] [] []):=
 ⟨sz0,y5f,w9m,rfl,by simp,by simp,hl⟩
theorem y0x{l:List Seg}(h:GS l): ∀s∈l.map Seg.key,s∈sgK:=fun s hs=>by rw[h.keys] at hs;exact List.mem_of_mem_take hs
theorem y8a:DrE sgK 20000 (Ex.mk 1 (ByteArray.mk (Array.mk [])) (ByteArray.mk (Array.mk [])) [] []):=
 ⟨by simp[wt,wtV,wtL],fun x hx=>by rw[w34] at hx;rcases hx with ⟨h,_⟩|⟨k,hk,_⟩<;>simp at*,EvB.mk' (by simp) (by simp)⟩
theorem y5g{l:List ByteArray}{n i:Nat}{y:ByteArray}(h:(l.take n)[i]? =some y):l[i]? =some y:=by
 rw[List.getElem?_take] at h
 split at h
 ·exact h
 ·cases h
theorem j5g{V:Envt->Prop}(hV: ∀(v:Envt) (K:Bool->Prop),EnvS v->(∀b,(b=true->V v)->K b)->q3n v K)(hV0: ∀ds,V (Envt.mk (Sett.mk (ByteArray.mk (Array.mk [])) (ByteArray.mk (Array.mk [])) 0) ds [] [] [] []))
  {list:List Int}{at_ now:Int}{K:Envt->Int->Prop}(hD:DS list at_)(h: ∀v a,EnvS v->EnvD v->V v->DS list a->K v a):q1w list at_ now K:=by
 unfold q1w q8f
 have tt: ∀s∈j1g,s.size<=100:=by decide
 refine q2w fun attrs hal had=> ?_
 have hat: ∀d∈attrs,d.kind.size<=100/\d.name.size<=100:=fun d hd=>⟨(had d hd).1,(had d hd).2.1⟩
 refine Jn1.mk (fun x=>(x.1.size<=100/\x.2.1.size<=100)/\DS list x.2.2.2.1/\x.2.2.2.2.1=attrs) (Qj hD (by decide) fun r a _ _ hD=>Cnd.mk (fun _=>z1u hD fun t a ht hD=>q5h hD (by decide) fun w a _ _ hD=>⟨⟨tt _ ht,(by decide:(ByteArray.mk (Array.mk [117,115,101,114])).size<=100)⟩,hD,rfl⟩) fun _=>⟨⟨sz0,sz0⟩,hD,rfl⟩) ?_
 rintro⟨salt,hkind,hold,a,ds,u⟩ ⟨⟨hslt,hhk⟩,hD,hds⟩
 simp only at hslt hhk hD hds⊢
 subst hds
 refine w6n hD fun a segs hD hsl hsegs hgs=>Qj hD (by decide) fun n a n0 n1 hD=>j2v n0 (by simp only[List.length_cons,List.length_nil];omega) ?_
 have fin: ∀{flags:List Flg} {layers:List Lay_} {exps:List Exper} {a:Int},DS list a->flags.length<=4->(∀f∈flags,FlgS f)->layers.length<=2->(∀l∈layers,LayS l)->exps.length<=3->(∀x∈exps,ExpS x)->FlgsD flags->layers.map Lay_.key=lyK.take layers.length->(exps.map Exper.key).Sublist exK->(∀x∈exps,ExpD layers flags x)->
   q3n (Envt.mk (Sett.mk salt hkind hold) ds segs flags layers exps) fun b=>Cnd (b=true) (K (Envt.mk (Sett.mk salt hkind hold) ds segs flags layers exps) a) (Ux fun ds=>K (Envt.mk (Sett.mk (ByteArray.mk (Array.mk [])) (ByteArray.mk (Array.mk [])) 0) ds [] [] [] []) a):=fun hD h1 h2 h3 h4 h5 h6 e1 e2 e3 e4=>by
  have hv:EnvS (Envt.mk (Sett.mk salt hkind hold) ds segs _ _ _):=⟨hhk,hat,hsl,hsegs,h1,h2,h3,h4,h5,h6⟩
  exact hV _ _ hv fun b hb=>Cnd.mk (fun ht=>h _ _ hv ⟨hslt,hgs,e1,e2,e3,e4,by show ds.length<=100;omega⟩ (hb ht) hD) fun _=>q2w fun ds hal2 had=>h _ _ (v6f fun d hd=>⟨(had d hd).1,(had d hd).2.1⟩) (v6h (by omega)) (hV0 ds) hD
 have nms: ∀s∈List.take n.toNat [ByteArray.mk (Array.mk [102,97]),ByteArray.mk (Array.mk [102,98]),ByteArray.mk (Array.mk [102,99]),ByteArray.mk (Array.mk [102,100])],s.size<=100:=w6o (by decide)
 have hlen:(List.take n.toNat [ByteArray.mk (Array.mk [102,97]),ByteArray.mk (Array.mk [102,98]),ByteArray.mk (Array.mk [102,99]),ByteArray.mk (Array.mk [102,100])]).length<=4:=by
  rw[List.length_take];simp only[List.length_cons,List.length_nil];omega
 have hget: ∀(i:Nat) y,(List.take n.toNat [ByteArray.mk (Array.mk [102,97]),ByteArray.mk (Array.mk [102,98]),ByteArray.mk (Array.mk [102,99]),ByteArray.mk (Array.mk [102,100])])[i]? =some y->flK[i]? =some y:=fun i y hy=>y5g hy
 generalize List.take n.toNat _=l at nms hlen hget
 refine LpH.ind (fun (x:Int×Int×List Flg×List Seg×List Lay_×List Exper×Unit)=>0<=x.1/\x.1<=(l.length:Int)/\DS list x.2.1/\(x.2.2.1.length:Int)=x.1/\(∀f∈x.2.2.1,FlgS f)/\FlgsD x.2.2.1/\x.2.2.2=(segs,[],[],())) (fun x=>((l.length:Int) - x.1).toNat) ?_ ⟨Int.le_refl 0,by simp,hD,rfl,by simp,w9m,rfl⟩
 rintro⟨i,a,flags,rest⟩ ⟨i0,i1,hD,hfl,hfs,hfd,hr⟩
 simp only at i0 i1 hD hfl hfs hfd hr⊢
 subst hr
 simp only
 intro _
 refine Cnd.mk (fun hc=>⟨by omega,fun key hkey=> ?_⟩) fun _=> ?_
 ·
  refine Qj hD (by decide) fun kind a k0 k1 hD=>⟨by unfold InI;omega,Qj hD (by decide) fun on a _ _ hD=>Qj hD (by decide) fun m a m0 m1 hD=>⟨by unfold InI;omega,?_⟩⟩
  refine LpH.ind (fun (x:Int×Int×List Val×List Exper×List Lay_×List Flg×List Seg×Unit)=>0<=x.1/\x.1<=1+m/\DS list x.2.1/\(x.2.2.1.length:Int)=x.1/\(∀v∈x.2.2.1,ValS v/\v.kind=1+kind)/\x.2.2.2=([],[],flags,segs,())) (fun x=>(1+m - x.1).toNat) ?_ ⟨Int.le_refl 0,by simp only;omega,hD,rfl,by simp,rfl⟩
  rintro⟨j,a,vals,rest⟩ ⟨j0,j1,hD,hvl,hvs,hr⟩
  simp only at j0 j1 hD hvl hvs hr⊢
  subst hr
  simp only
  refine Cnd.mk (fun hc=>w9l (by omega) (by omega) hD fun v a hv hvk hD=>⟨by unfold Sml;simp;omega,by unfold InI;omega,⟨by omega,by omega,hD,by simp;omega,Jw hvs ⟨hv,hvk⟩,trivial⟩,by omega⟩) fun hc=> ?_
  refine Qj hD (by omega) fun off a o0 o1 hD=>⟨by unfold InI;omega,?_⟩
  have hlv:vals.length=(1+m).toNat:=by omega
  refine LpH.ind (fun (x:Int×List Prq×Int×List Seg×List Flg×List Lay_×List Exper×List Val×Unit)=>0<=x.1/\x.1<=(flags.length:Int)/\((x.2.1.length:Int)<=x.1/\(x.2.1.map Prq.flag).Sublist ((flags.map Flg.key).take x.1.toNat))/\(∀q∈x.2.1,q.flag.size<=100/\ ∃g∈flags,q.flag=g.key/\1<=q.variation/\q.variation<=g.variations.length)/\DS list x.2.2.1/\x.2.2.2=(segs,flags,[],[],vals,())) (fun x=>((flags.length:Int) - x.1).toNat) ?_ ⟨Int.le_refl 0,by simp,⟨by simp,List.nil_sublist _⟩,by simp,hD,rfl⟩
  rintro⟨j,needs,a,rest⟩ ⟨j0,j1,⟨hnl,hsb⟩,hns,hD,hr⟩
  simp only at j0 j1 hnl hsb hns hD hr⊢
  have hj1:(j+1).toNat=j.toNat+1:=by omega
  subst hr
  simp only
  intro _
  refine Cnd.mk (fun hc=>Qj hD (by decide) fun q a _ _ hD=>Cnd.mk (fun _=>⟨by omega,fun y hy=>⟨by omega,fun z hz _=>Qj hD (by have:=(hfs z (getm hz)).vlen;omega) fun w a w0 w1 hD=> ?_⟩⟩) fun _=>⟨by unfold InI;omega,⟨by omega,by omega,⟨by omega,by rw[hj1];exact y34 hsb⟩,hns,hD,trivial⟩,by omega⟩) fun _=> ?_
  ·have:=(hfs z (getm hz)).vlen
   exact⟨by unfold InI;omega,by unfold Sml;simp;omega,by unfold InI;omega,⟨by omega,by omega,⟨by simp;omega,by rw[hj1,List.map_append];exact y33 hsb (by rw[List.getElem?_map,hy];rfl)⟩,Jw hns ⟨(hfs y (getm hy)).key,z,getm hz,by rw[hy] at hz;rw[Option.some.inj hz],by simp only;omega,by simp only;omega⟩,hD,trivial⟩,by omega⟩
  have hnl4:needs.length<=4:=by omega
  have hsb:=hsb.trans (List.take_sublist _ _)
  refine LpH.ind (fun (x:Int×List Tgt×Int×List Val×List Exper×List Lay_×List Flg×List Seg×List Prq×Unit)=>0<=x.1/\x.1<=3/\(x.2.1.length:Int)<=x.1/\(∀t∈x.2.1,t.kind.size<=100/\(1<=t.variation/\t.variation<=1+m)/\t.keys.length<=3)/\DS list x.2.2.1/\x.2.2.2=(vals,[],[],flags,segs,needs,())) (fun x=>(3 - x.1).toNat) ?_ ⟨Int.le_refl 0,by simp,by simp,by simp,hD,rfl⟩
  rintro⟨j,tgts,a,rest⟩ ⟨j0,j1,htl,hts,hD,hr⟩
  simp only at j0 j1 htl hts hD hr⊢
  subst hr
  simp only
  refine Qj hD (by decide) fun q a q0 q1 hD=>Cnd.mk (fun hc=>Qj hD (by omega) fun w a w0 w1 hD=>⟨by unfold InI;omega,w0k hD fun ks a hks _ hD=> ?_⟩) fun _=> ?_
  ·refine Jn1.mk (fun x=>x.1.size<=100/\DS list x.2.1/\x.2.2=(ks,needs,segs,flags,[],[],vals,tgts,())) (Qj hD (by decide) fun r a _ _ hD=>Cnd.mk (fun _=>⟨(by decide:(ByteArray.mk (Array.mk [100,101,118,105,99,101])).size<=100),hD,rfl⟩) fun _=>⟨(by decide:(ByteArray.mk (Array.mk [117,115,101,114])).size<=100),hD,rfl⟩) ?_
   rintro⟨kd,a,rest⟩ ⟨hkd,hD,hr⟩
   simp only at hkd hD hr⊢
   subst hr
   simp only
   exact fun _=>Cnd.mk (fun _=>⟨by unfold Sml;simp;omega,by unfold InI;omega,⟨by omega,by omega,by simp;omega,Jw hts ⟨hkd,⟨by simp only;omega,by simp only;omega⟩,hks⟩,hD,trivial⟩,by omega⟩) fun _=>⟨by unfold InI;omega,⟨by omega,by omega,by omega,hts,hD,trivial⟩,by omega⟩
  refine Jn1.mk (fun (x:Int×List Rul×List ByteArray×List Prq×List Seg×List Flg×List Lay_×List Exper×List Val×List Tgt×Unit)=>DS list x.1/\x.2.1.length<=4/\(∀r∈x.2.1,RulS (1+m) r/\RulD (1+m) r)/\x.2.2.2=(needs,segs,flags,[],[],vals,tgts,())) ?_ ?_
  case refine_2=>
   rintro⟨a,rules,names,rest⟩ ⟨hD,hrl,hrs,hr⟩
   simp only at hD hrl hrs hr⊢
   subst hr
   simp only
   refine z6t hD (by omega) (by omega) fun s a hs hD=>⟨by unfold Sml;simp;omega,by unfold InI;omega,⟨by omega,by omega,hD,by simp;omega,Jw hfs ?_,v6g hfd ?_ ?_,trivial⟩,by omega⟩
   all_goals have hvm:(vals.length:Int)=1+m:=by omega
   ·exact⟨nms key (getm hkey),⟨by simp only;omega,by simp only;omega⟩,fun v hv=>(hvs v hv).1,hnl4,fun q hq=>(hns q hq).1,by simp only;omega,fun t ht=>(hts t ht).1,hrl,by rw[hvm];exact fun r hr=>(hrs r hr).1,by rw[hvm];exact hs.ok⟩
   ·rw[←hget _ _ hkey];congr 1;omega
   ·exact⟨⟨by simp only;omega,by simp only;omega⟩,fun v hv=>(hvs v hv).2,⟨by simp only;omega,by simp only;omega⟩,fun q hq=>(hns q hq).2,hsb,fun t ht=>by simp only;rw[hvm];exact (hts t ht).2,fun r hr=>by simp only;rw[hvm];exact (hrs r hr).2,by simp only;rw[hvm];exact hs⟩
  have nm4: ∀s∈([ByteArray.mk (Array.mk [102,105,114,115,116]),ByteArray.mk (Array.mk [115,101,99,111,110,100]),ByteArray.mk (Array.mk [116,104,105,114,100]),ByteArray.mk (Array.mk [102,111,117,114,116,104])]:List ByteArray),s.size<=100:=by decide
  have nl4:([ByteArray.mk (Array.mk [102,105,114,115,116]),ByteArray.mk (Array.mk [115,101,99,111,110,100]),ByteArray.mk (Array.mk [116,104,105,114,100]),ByteArray.mk (Array.mk [102,111,117,114,116,104])]:List ByteArray).length=4:=rfl
  generalize ([ByteArray.mk (Array.mk [102,105,114,115,116]),ByteArray.mk (Array.mk [115,101,99,111,110,100]),ByteArray.mk (Array.mk [116,104,105,114,100]),ByteArray.mk (Array.mk [102,111,117,114,116,104])]:List ByteArray)=ns4 at nm4 nl4⊢
  refine LpH.ind (fun (x:Int×Int×List Rul×List ByteArray×List Prq×List Seg×List Flg×List Lay_×List Exper×List Val×List Tgt×Unit)=>0<=x.1/\x.1<=4/\DS list x.2.1/\(x.2.2.1.length:Int)=x.1/\(∀r∈x.2.2.1,RulS (1+m) r/\RulD (1+m) r)/\x.2.2.2=(ns4,needs,segs,flags,[],[],vals,tgts,())) (fun x=>(4 - x.1).toNat) ?_ ⟨Int.le_refl 0,by simp,hD,rfl,by simp,rfl⟩
  rintro⟨j,a,rules,rest⟩ ⟨j0,j1,hD,hrl,hrs,hr⟩
  simp only at j0 j1 hD hrl hrs hr⊢
  subst hr
  simp only
  refine Qj hD (by decide) fun q a q0 q1 hD=>Cnd.mk (fun hc=>⟨by rw[nl4];omega,fun y hy=> ?_⟩) fun _=>⟨hD,by omega,hrs,trivial⟩
  refine z4k (by simp only;omega) (j5a ((v2a fun s hs=> ?_).and y0p) 2 (by omega) (by decide) (by decide) hD fun e a he hD=>z6t hD (by omega) (by omega) fun s a hs hD=>⟨by unfold Sml;simp;omega,?_⟩)
  ·obtain⟨g,hg,rfl⟩:=List.mem_map.1 hs;exact (hsegs g hg).key
  have hrs':=Jw hrs (x:=Rul.mk y (Ex.mk e.1 e.2 e.3 e.4 e.5) s) ⟨⟨nm4 y (getm hy),he.1.eta,hs.ok⟩,y0w (he.2.le (by decide)).eta (y0x hgs),hs⟩
  have hl':(rules++[Rul.mk y (Ex.mk e.1 e.2 e.3 e.4 e.5) s]).length=rules.length+1:=by simp
  have cut: ∀r∈List.take (((rules++[Rul.mk y (Ex.mk e.1 e.2 e.3 e.4 e.5) s]).length:Int) - 1).toNat (rules++[Rul.mk y (Ex.mk e.1 e.2 e.3 e.4 e.5) s]),RulS (1+m) r/\RulD (1+m) r:=fun r hr=>hrs' r (List.mem_of_mem_take hr)
  generalize rules++[Rul.mk y (Ex.mk e.1 e.2 e.3 e.4 e.5) s]=rs at hrs' hl' cut⊢
  refine q93 (by omega) (fun r hr=>(hrs' r hr).1.cond) fun o n b ho=>Cnd.mk (fun _ _=>Cnd.mk (fun _ _=>⟨by unfold InI;omega,by omega,hD,by simp only[List.length_take];omega,cut,trivial⟩) fun _=>⟨by unfold InI;omega,⟨by omega,by omega,hD,by omega,hrs',trivial⟩,by omega⟩) fun _ _=>⟨by unfold InI;omega,by omega,hD,by simp only[List.length_take];omega,cut,trivial⟩
 ·
  refine Qj hD (by decide) fun n a n0 n1 hD=>j2v n0 (by simp only[List.length_cons,List.length_nil];omega) ?_
  have nms: ∀s∈List.take n.toNat [ByteArray.mk (Array.mk [108,97]),ByteArray.mk (Array.mk [108,98])],s.size<=100:=w6o (by decide)
  have hlen:(List.take n.toNat [ByteArray.mk (Array.mk [108,97]),ByteArray.mk (Array.mk [108,98])]).length<=2:=by
   rw[List.length_take];simp only[List.length_cons,List.length_nil];omega
  have hgetl: ∀(i:Nat) y,(List.take n.toNat [ByteArray.mk (Array.mk [108,97]),ByteArray.mk (Array.mk [108,98])])[i]? =some y->lyK[i]? =some y:=fun i y hy=>y5g hy
  generalize List.take n.toNat _=ls at nms hlen hgetl
  have hf4:flags.length<=4:=by omega
  refine LpH.ind (fun (x:Int×Int×List Lay_×List Exper×List Seg×List Flg×Unit)=>0<=x.1/\x.1<=(ls.length:Int)/\DS list x.2.1/\(x.2.2.1.length:Int)=x.1/\(∀f∈x.2.2.1,LayS f)/\x.2.2.1.map Lay_.key=lyK.take x.2.2.1.length/\x.2.2.2=([],segs,flags,())) (fun x=>((ls.length:Int) - x.1).toNat) ?_ ⟨Int.le_refl 0,by simp,hD,rfl,by simp,rfl,rfl⟩
  rintro⟨j,a,layers,rest⟩ ⟨j0,j1,hD,hll,hls,hlk,hr⟩
  simp only at j0 j1 hD hll hls hlk hr⊢
  subst hr
  simp only
  intro _
  refine Cnd.mk (fun hc=>⟨by omega,fun y hy=>v5u hD (nms y (getm hy)) fun l a hl hky hD=>⟨by unfold Sml;simp;omega,by unfold InI;omega,⟨by omega,by omega,hD,by simp;omega,Jw hls hl,by rw[List.map_append,hlk,List.length_append,List.length_singleton,List.take_add_one,←show j.toNat=layers.length by omega,hgetl _ _ hy,←hky];rfl,trivial⟩,by omega⟩⟩) fun _=> ?_
  refine Qj hD (by decide) fun n a n0 n1 hD=>j2v n0 (by simp only[List.length_cons,List.length_nil];omega) ?_
  have nmx: ∀s∈List.take n.toNat [ByteArray.mk (Array.mk [120,97]),ByteArray.mk (Array.mk [120,98]),ByteArray.mk (Array.mk [120,99])],s.size<=100:=w6o (by decide)
  have hxen:(List.take n.toNat [ByteArray.mk (Array.mk [120,97]),ByteArray.mk (Array.mk [120,98]),ByteArray.mk (Array.mk [120,99])]).length<=3:=by
   rw[List.length_take];simp only[List.length_cons,List.length_nil];omega
  have hgetx:List.take n.toNat [ByteArray.mk (Array.mk [120,97]),ByteArray.mk (Array.mk [120,98]),ByteArray.mk (Array.mk [120,99])]|>.Sublist exK:=List.take_sublist _ _
  generalize List.take n.toNat _=xs at nmx hxen hgetx
  have hl2:layers.length<=2:=by omega
  refine LpH.ind (fun (x:Int×Int×List Exper×List Flg×List Seg×List Lay_×Unit)=>0<=x.1/\x.1<=(xs.length:Int)/\DS list x.2.1/\(x.2.2.1.length:Int)<=x.1/\(∀f∈x.2.2.1,ExpS f)/\(x.2.2.1.map Exper.key).Sublist (xs.take x.1.toNat)/\(∀f∈x.2.2.1,ExpD layers flags f)/\x.2.2.2=(flags,segs,layers,())) (fun x=>((xs.length:Int) - x.1).toNat) ?_ ⟨Int.le_refl 0,by simp,hD,by simp,by simp,by simp,by simp,rfl⟩
  rintro⟨k,a,exps,rest⟩ ⟨k0,k1,hD,hxl,hxs,hxk,hxd,hr⟩
  simp only at k0 k1 hD hxl hxs hxk hxd hr⊢
  subst hr
  simp only
  intro _
  have hfin:=fun {a:Int} (hD:DS list a)=>fin (flags:=flags) (layers:=layers) (exps:=exps) hD hf4 hfs hl2 hls (by omega) hxs hfd hlk ((hxk.trans (List.take_sublist _ _)).trans hgetx) hxd
  refine Cnd.mk (fun hc _=>Cnd.mk (fun hfl0 _=>Cnd.mk (fun hll0=>⟨by omega,fun y hy _=> ?_⟩) fun _=>hfin hD) fun _=>hfin hD) fun _=>hfin hD
  refine Qj hD (by omega) fun q a q0 q1 hD=>⟨by omega,fun f hf _ hfv=>Qj hD (by omega) fun q' a q0' q1' hD=>⟨by omega,fun l hl=>z1u hD fun t a ht hD=>Qj hD (by decide) fun u a u0 u1 hD=>⟨by unfold InI;omega,?_⟩⟩⟩
  have hF:=hfs f (getm hf)
  have hL:=hls l (getm hl)
  have hv1:=hF.vlen
  refine j53 hD (by omega) (by omega) fun arms a harms hcov hD=> ?_
  refine Jn1.mk (fun (x:Int×Int×List Rng×List Exper×List Lay_×List Flg×List Seg×Unit)=>DS list x.2.1/\x.2.2=(arms,exps,layers,flags,segs,())) (Cnd.mk (fun _=>Qj hD (by decide) fun r a _ _ hD=>Cnd.mk (fun _=>⟨hD,rfl⟩) fun _=>⟨hD,rfl⟩) fun _=>⟨hD,rfl⟩) ?_
  rintro⟨state,a,rest⟩ ⟨hD,hr⟩
  simp only at hD hr⊢
  subst hr
  simp only
  refine Jn1.mk (fun (x:Int×ByteArray×ByteArray×List Val×List Ex×Int×List Seg×List Flg×List Lay_×List Exper×List Rng×Unit)=>(ExS 4 (Ex.mk x.1 x.2.1 x.2.2.1 x.2.2.2.1 x.2.2.2.2.1)/\DrE sgK 20000 (Ex.mk x.1 x.2.1 x.2.2.1 x.2.2.2.1 x.2.2.2.2.1))/\DS list x.2.2.2.2.2.1/\x.2.2.2.2.2.2=(segs,flags,layers,exps,arms,())) (Qj hD (by decide) fun r a _ _ hD=>Cnd.mk (fun _=>z4k (by simp only;omega) (j5a ((v2a fun s hs=> ?_).and y0p) 2 (by omega) (by decide) (by decide) hD fun e a he hD=>⟨⟨he.1.eta,y0w (he.2.le (by decide)).eta (y0x hgs)⟩,hD,rfl⟩)) fun _=>⟨⟨u2h,y8a⟩,hD,rfl⟩) ?_
  ·obtain⟨g,hg,rfl⟩:=List.mem_map.1 hs;exact (hsegs g hg).key
  rintro⟨e1,e2,e3,e4,e5,a,rest⟩ ⟨he,hD,hr⟩
  simp only at he hD hr⊢
  subst hr
  simp only
  refine v2g fun sp _ _=>q5h hD (by decide) fun w a _ _ hD=>q5h hD (by decide) fun w' a _ _ hD=>j5t fun sq _=>q5h hD (by decide) fun w2 a w20 w21 hD=>w83 (by omega) fun cl hcl=> ?_
  have hxs':=Jw hxs (x:=Exper.mk y l.1 f.1 t state cl arms (Ex.mk e1 e2 e3 e4 e5)) ⟨nmx y (getm hy),hL.key,hF.key,hcl,⟨harms.1,fun r hr=>by obtain⟨p,q,s,t⟩:=harms.2 r hr;exact⟨p,q,s,by omega⟩⟩,he.1⟩
  have hxd':=Jw hxd (x:=Exper.mk y l.1 f.1 t state cl arms (Ex.mk e1 e2 e3 e4 e5)) ⟨hcov,he.2,⟨l,getm hl,rfl⟩,⟨f,getm hf,rfl,fun r hr=>by obtain⟨_,_,s,t⟩:=harms.2 r hr;exact⟨s,t⟩⟩,tt _ ht⟩
  have hyk:xs[k.toNat]? =some y:=hy
  have hxk':((exps++[Exper.mk y l.1 f.1 t state cl arms (Ex.mk e1 e2 e3 e4 e5)]).map Exper.key).Sublist (xs.take (k+1).toNat):=by
   rw[List.map_append,show (k+1).toNat=k.toNat+1 by omega,List.take_add_one,hyk]
   exact hxk.append (List.Sublist.refl _)
  have hl':(exps++[Exper.mk y l.1 f.1 t state cl arms (Ex.mk e1 e2 e3 e4 e5)]).length=exps.length+1:=by simp
  have cut: ∀r∈List.take (((exps++[Exper.mk y l.1 f.1 t state cl arms (Ex.mk e1 e2 e3 e4 e5)]).length:Int) - 1).toNat (exps++[Exper.mk y l.1 f.1 t state cl arms (Ex.mk e1 e2 e3 e4 e5)]),ExpS r:=fun r hr=>hxs' r (List.mem_of_mem_take hr)
  have cutd: ∀r∈List.take (((exps++[Exper.mk y l.1 f.1 t state cl arms (Ex.mk e1 e2 e3 e4 e5)]).length:Int) - 1).toNat (exps++[Exper.mk y l.1 f.1 t state cl arms (Ex.mk e1 e2 e3 e4 e5)]),ExpD layers flags r:=fun r hr=>hxd' r (List.mem_of_mem_take hr)
  have cutk:((List.take (((exps++[Exper.mk y l.1 f.1 t state cl arms (Ex.mk e1 e2 e3 e4 e5)]).length:Int) - 1).toNat (exps++[Exper.mk y l.1 f.1 t state cl arms (Ex.mk e1 e2 e3 e4 e5)])).map Exper.key).Sublist (xs.take (k+1).toNat):=((List.take_sublist _ _).map _).trans hxk'
  generalize exps++[Exper.mk y l.1 f.1 t state cl arms (Ex.mk e1 e2 e3 e4 e5)]=xs' at hxs' hl' cut hxd' hxk' cutd cutk⊢
  have hv:EnvS (Envt.mk (Sett.mk salt hkind hold) ds segs flags layers xs'):=⟨hhk,hat,hsl,hsegs,hf4,hfs,hl2,hls,by simp only;omega,hxs'⟩
  refine⟨by unfold Sml;omega,j52 hv fun b=>Cnd.mk (fun _=>⟨by unfold InI;omega,⟨by omega,by omega,hD,by omega,hxs',hxk',hxd',trivial⟩,by omega⟩) fun _ _=>⟨by unfold InI;omega,by omega,by unfold InI;omega,⟨by omega,by omega,hD,by simp only[List.length_take];omega,cut,cutk,cutd,trivial⟩,by omega⟩⟩
end Go.En
end
noncomputable section
set_option maxRecDepth 100000
namespace Go.En
open Go Go.Fl Go.Fl.Lk Go.Fx
theorem y0y{segs:List ByteArray}{e:Ex}(h:DrE segs 20000 e):wt e<=2000000/\EvB e:=⟨Nat.le_trans h.wt (by decide),h.ev⟩
theorem y35{s:Subj}(h:s.ctxs.length<=2)(hc: ∀c∈s.ctxs,c.attrs=[]/\c.key.size<=5):SubB s:=
 ⟨by omega,fun c hm=>by rw[(hc c hm).1];simp,fun c hm a ha=>by rw[(hc c hm).1] at ha;simp at ha,fun c hm=>by have:=(hc c hm).2;omega⟩
end Go.En
end
noncomputable section
set_option maxRecDepth 100000
namespace Go.En
open Go Go.Fl Go.Fl.Lk Go.Fx
def ixF{α:Type}(p:α->Bool):List α->Nat->Option (Nat×α)
 |[],_=>none
 |a::l,i=>if p a=true then some (i,a) else ixF p l (i+1)
theorem y0z{α:Type}{l:List α}{p:α->Bool}{i:Nat}{y:α}(hy:l[i]? =some y)(hp:p y=true):ixF p (l.drop i) i=some (i,y):=by
 have hlt:=Qi hy
 rw[List.drop_eq_getElem_cons hlt]
 have e:l[i]=y:=by rw[List.getElem?_eq_getElem hlt] at hy;exact Option.some.inj hy
 rw[e,ixF,if_pos hp]
theorem v2j{α:Type}{l:List α}{p:α->Bool}{i:Nat}{y:α}(hy:l[i]? =some y)(hp:p y=false):ixF p (l.drop i) i=ixF p (l.drop (i+1)) (i+1):=by
 have hlt:=Qi hy
 rw[List.drop_eq_getElem_cons hlt]
 have e:l[i]=y:=by rw[List.getElem?_eq_getElem hlt] at hy;exact Option.some.inj hy
 rw[e,ixF,if_neg (by rw[hp];simp)]
theorem y00{α:Type}{p:α->Bool}: ∀{l:List α} {n i:Nat} {y:α},ixF p l n=some (i,y)->n<=i/\l[i - n]? =some y/\p y=true
 |[],_,_,_,h=>by cases h
 |a::l,n,i,y,h=>by
  rw[ixF] at h
  split at h
  ·cases h;exact⟨Nat.le_refl _,by simp,by assumption⟩
  ·obtain⟨h1,h2,h3⟩:=y00 h
   refine⟨by omega,?_,h3⟩
   rw[show i - n=(i - (n+1))+1 by omega];exact h2
theorem u2i{α:Type}{l:List α}(p:α->Bool){G:Int->α->(Int->Prop)->Prop}{B:Prop}(hl:l.length<=1000000000)(hB:ixF p l 0=none->B)
  (hG: ∀(i:Nat) y Y,l[i]? =some y->i<l.length->(p y=true->ixF p l 0=some (i,y))->(p y=false->InI ((i:Int)+1)/\Y ((i:Int)+1))->G (i:Int) y Y):
  Lp1 (fun x Y=>Cnd (x<(l.length:Int)) ((0<=x/\x<(l.length:Int))/\ ∀y,l[x.toNat]? =some y->G x y Y) B) 0:=by
 refine Lp1.ind (fun i=> ∃j:Nat,i=(j:Int)/\j<=l.length/\ixF p l 0=ixF p (l.drop j) j) (fun i=>(l.length - i).toNat) ?_ ⟨0,rfl,by omega,rfl⟩
 rintro i ⟨j,rfl,hj,hf⟩
 refine Cnd.mk (fun hc=>⟨by omega,fun y hy=> ?_⟩) fun hc=> ?_
 ·have hy:l[j]? =some y:=hy
  refine hG j y _ hy (by omega) (fun hp=>by rw[hf,y0z hy hp]) fun hp=>⟨by unfold InI;omega,⟨j+1,by omega,by omega,by rw[hf,v2j hy hp]⟩,by omega⟩
 ·refine hB ?_
  rw[hf,List.drop_eq_nil_of_le (by omega)];rfl
abbrev numB(n:Int):ByteArray:=⟨(Go.Lib.itoa n).toArray⟩
def hkV(v:Val):Option ByteArray:=
 if v.1=3∨v.1=4 then some v.3 else if v.1=2 then some (numB v.2) else if v.1=1 then some (if v.2=1 then ByteArray.mk (Array.mk [116,114,117,101]) else ByteArray.mk (Array.mk [102,97,108,115,101])) else none
def bksV(s:Subj)(k b salt:ByteArray):Option Int:=(lkp s k b).bind fun v=>(hkV v).map fun t=>ofV salt t
def srvV(s:Subj)(v:Srv):Int×Int×Bool:=
 if v.1≠0 then (v.1, -1,true) else match bksV s v.2 v.3 v.4 with
 |some b=>(v58 v.5 b,b,true)
 |none=>(0, -1,false)
def tgP(s:Subj)(t:Tgt):Bool:=match fnd s t.1 with
 |some c=>dec (c.2∈t.3)
 |none=>false
def fof(v:Envt)(key:ByteArray):Option Flg:=v.4.find? fun f=>decide (f.1=key)
def metV(v:Envt)(dv:Flg->Int)(p:Prq):Bool:=match fof v p.1 with
 |some g=>g.4 && decide (dv g=p.2)
 |none=>false
def inXV(v:Envt)(s:Subj)(fs:List Frc)(key:ByteArray)(x:Exper):Bool:=decide (x.3=key) && (decide (x.5=2) && decide ((asgV v s fs x.2).1.2=x.1))
def abV(v:Envt)(s:Subj)(x:Exper):Int:=match lof v x.2 with
 |some l=>(match fnd s l.2 with
  |some c=>ofV x.4 c.2
  |none=> -1)
 |none=> -1
def svd(s:Subj)(off:Int)(sv:Srv)(k i:Int)(n:ByteArray):Int×Rsn:=
 if (srvV s sv).2.2=true then ((srvV s sv).1,Rsn.mk k i n (srvV s sv).2.1) else (off,Rsn.mk 7 i noT (-1))
def rlsV(v:Envt)(s:Subj)(f:Flg):Int×Rsn:=match ixF (fun r=>cndV v s r.2) f.8 0 with
 |some q=>svd s f.5 q.2.3 5 ((q.1:Int)+1) q.2.1
 |none=>svd s f.5 f.9 6 0 noT
def chsV(v:Envt)(s:Subj)(fs:List Frc)(dv:Flg->Int)(f:Flg):Int×Rsn:=
 if f.4=false then (f.5,Rsn.mk 1 0 noT (-1)) else
 match f.6.find? (fun p=> !metV v dv p) with
 |some p=>(f.5,Rsn.mk 2 0 p.1 (-1))
 |none=>match ixF (tgP s) f.7 0 with
  |some q=>(q.2.2,Rsn.mk 3 ((q.1:Int)+1) noT (-1))
  |none=>match v.6.find? (inXV v s fs f.1) with
   |some x=>((asgV v s fs x.2).1.4,Rsn.mk 4 0 x.1 (abV v s x))
   |none=>rlsV v s f
def dvN(v:Envt)(s:Subj)(fs:List Frc):Nat->Flg->Int
 |0,f=>(chsV v s fs (fun _=>0) f).1
 |n+1,f=>(chsV v s fs (dvN v s fs n) f).1
def dcV(v:Envt)(s:Subj)(fs:List Frc)(f:Flg):Int×Rsn:=chsV v s fs (dvN v s fs v.4.length) f
def valV(l:List Val)(k:Int):Val:=if 1<=k/\k<=(l.length:Int) then (l[(k - 1).toNat]?).getD noV else noV
def dcsV(v:Envt)(s:Subj)(fs:List Frc)(f:Flg):Dcs:=Dcs.mk f.1 (dcV v s fs f).1 (valV f.3 (dcV v s fs f).1) (dcV v s fs f).2 0
structure FlB(l:List Flg):Prop where
 nd:(l.map Flg.key).Nodup
 ord: ∀(i:Nat) f,l[i]? =some f-> ∀p∈f.6,∀(j:Nat) g,l[j]? =some g->p.1=g.1->j<i
theorem v4e{v:Envt}{key:ByteArray}{g:Flg}(h:fof v key=some g): ∃j:Nat,v.4[j]? =some g/\key=g.1:=by
 unfold fof at h
 obtain⟨j,hj⟩:=List.getElem?_of_mem (List.mem_of_find?_eq_some h)
 have:=List.find?_some h
 simp only[decide_eq_true_eq] at this
 exact⟨j,hj,this.symm⟩
theorem v4f{v:Envt}(hB:FlB v.4){i:Nat}{g:Flg}(h:v.4[i]? =some g):fof v g.1=some g:=by
 have hnd:=hB.nd
 have hg:=getm h
 unfold fof
 generalize v.4=L at hnd hg
 clear h
 induction L with
 |nil=>cases hg
 |cons a L ih=>
  rw[List.find?_cons]
  rw[List.map_cons,List.nodup_cons] at hnd
  rcases List.mem_cons.1 hg with rfl|hg
  ·simp
  ·rw[decide_eq_false (fun e=>hnd.1 (by rw[e];exact List.mem_map_of_mem hg))]
   exact ih hnd.2 hg
theorem v6i{v:Envt}{d d':Flg->Int}{p:Prq}(h: ∀g,fof v p.1=some g->d g=d' g):metV v d p=metV v d' p:=by
 unfold metV
 cases hf:fof v p.1 with
 |none=>rfl
 |some g=>simp only;rw[h g hf]
theorem w36{α:Type}{p q:α->Bool}: ∀{l:List α},(∀x∈l,p x=q x)->l.find? p=l.find? q
 |[],_=>rfl
 |a::l,h=>by rw[List.find?_cons,List.find?_cons,h a List.mem_cons_self,w36 fun x hx=>h x (List.mem_cons_of_mem _ hx)]
theorem w37{v:Envt}{s:Subj}{fs:List Frc}{d d':Flg->Int}{f:Flg}(h: ∀p∈f.6,∀g,fof v p.1=some g->d g=d' g):chsV v s fs d f=chsV v s fs d' f:=by
 unfold chsV
 rw[w36 (q:=fun p=> !metV v d' p) fun p hp=>by rw[v6i (h p hp)]]
theorem v6j{v:Envt}{s:Subj}{fs:List Frc}(hB:FlB v.4): ∀(i n m:Nat) (f:Flg),v.4[i]? =some f->i<=n->i<=m->dvN v s fs n f=dvN v s fs m f:=by
 intro i
 induction i using Nat.strongRecOn with
 |ind i ih=>
  intro n m f hf hn hm
  have key: ∀d d':Flg->Int,(∀(j:Nat) g,j<i->v.4[j]? =some g->d g=d' g)->chsV v s fs d f=chsV v s fs d' f:=fun d d' h=>w37 fun p hp g hg=>by
   obtain⟨j,hj,hk⟩:=v4e hg
   exact h j g (hB.ord i f hf p hp j g hj hk) hj
  cases n with
  |zero=>
   cases m with
   |zero=>rfl
   |succ m=>unfold dvN;rw[key _ (dvN v s fs m) fun j g hj=>by omega]
  |succ n=>
   cases m with
   |zero=>unfold dvN;rw[key _ (fun _=>0) fun j g hj=>by omega]
   |succ m=>unfold dvN;rw[key _ (dvN v s fs m) fun j g hj hg=>ih j hj n m g hg (by omega) (by omega)]
theorem u0o{v:Envt}{s:Subj}{fs:List Frc}(hB:FlB v.4){i:Nat}{f:Flg}(hf:v.4[i]? =some f):dcV v s fs f=chsV v s fs (fun g=>(dcV v s fs g).1) f:=by
 have hi:=Qi hf
 unfold dcV
 refine w37 fun p hp g hg=> ?_
 obtain⟨j,hj,hk⟩:=v4e hg
 have hji:=hB.ord i f hf p hp j g hj hk
 obtain⟨n,hn⟩: ∃n,v.4.length=n+1:=⟨v.4.length - 1,by omega⟩
 have h2:(chsV v s fs (dvN v s fs v.4.length) g).1=dvN v s fs (v.4.length+1) g:=rfl
 rw[h2]
 exact v6j hB j _ _ g hj (by omega) (by omega)
end Go.En
end
noncomputable section
set_option maxRecDepth 100000
namespace Go.En
open Go Go.Fl Go.Fl.Lk Go.Fx
theorem u0p: ∀x∈exK,x≠noT:=by unfold exK;decide
end Go.En
end
noncomputable section
set_option maxRecDepth 100000
namespace Go.En
open Go Go.Fl Go.Fl.Lk Go.Fx
theorem y01(n:Nat):(flK.take n).Nodup:=(show flK.Nodup by unfold flK;decide).sublist (List.take_sublist _ _)
theorem u0q{v:Envt}(hD:EnvD v):FlB v.4:=by
 have hnd:(v.4.map Flg.key).Nodup:=by rw[hD.flags.keys];exact y01 _
 refine⟨hnd,fun i f hf p hp j g hg hpg=> ?_⟩
 obtain⟨g',hg',hk,_⟩:=(hD.flags.all i f hf).needs p hp
 obtain⟨q,hq⟩:=List.getElem?_of_mem hg'
 rw[List.getElem?_take] at hq
 split at hq
 ·rename_i hlt
  have hlg:=Qi hg
  have hlq:=Qi hq
  have e:j=q:=by
   have h1:(v.4.map Flg.key)[j]? =some g.1:=by rw[List.getElem?_map,hg];rfl
   have h2:(v.4.map Flg.key)[q]? =some g.1:=by rw[List.getElem?_map,hq,←hpg,hk];rfl
   have hlj:j<(v.4.map Flg.key).length:=by rw[List.length_map];exact hlg
   have hlk:q<(v.4.map Flg.key).length:=by rw[List.length_map];exact hlq
   rw[List.getElem?_eq_getElem hlj] at h1
   rw[List.getElem?_eq_getElem hlk] at h2
   exact (List.getElem_inj (h₀:=hlj) (h₁:=hlk) hnd).1 ((Option.some.inj h1).trans (Option.some.inj h2).symm)
  omega
 ·cases hq
end Go.En
end
noncomputable section
set_option maxRecDepth 100000
namespace Go.En
open Go Go.Fl Go.Fl.Lk Go.Fx
def rstD(n:Int):List UInt8:=if n=0 then [] else Go.Lib.decDigits n.natAbs
theorem y02{n:Int}(h:n≠0):rstD n=rstD (n.tdiv 10)++[UInt8.ofNat (48+(n.tmod 10).natAbs)]:=by
 have e1:(n.tdiv 10).natAbs=n.natAbs / 10:=Int.natAbs_tdiv n 10
 have e2:(n.tmod 10).natAbs=n.natAbs % 10:=by rw[Int.natAbs_tmod];rfl
 have hn:n.natAbs≠0:=by omega
 unfold rstD
 rw[if_neg h,e2]
 by_cases hs:n.natAbs<10
 ·have:n.tdiv 10=0:=by omega
  rw[if_pos this,Go.Lib.decDigits,dif_pos hs,Nat.mod_eq_of_lt hs];rfl
 ·have:n.tdiv 10≠0:=by omega
  rw[if_neg this,e1,Go.Lib.decDigits,dif_neg hs]
theorem y03{d:Nat}(h:d<10):Utf8.encode ((48:Int)+(d:Int))=⟨#[UInt8.ofNat (48+d)]⟩:=by
 rcases (show d=0∨d=1∨d=2∨d=3∨d=4∨d=5∨d=6∨d=7∨d=8∨d=9 by omega) with rfl|rfl|rfl|rfl|rfl|rfl|rfl|rfl|rfl|rfl<;>rfl
theorem w6p{n:Int}(h:n≠0):Go.Lib.itoa n=(if n<0 then [45] else [])++rstD n:=by
 unfold Go.Lib.itoa rstD
 rw[if_neg h]
 split
 ·rfl
 ·rw[show n.toNat=n.natAbs by omega];rfl
theorem w9n:Go.Lib.itoa 0=[48]:=by unfold Go.Lib.itoa;rw[if_neg (by decide),Go.Lib.decDigits];rfl
end Go.En
end
noncomputable section
set_option maxRecDepth 100000
namespace Go.En
open Go Go.Fl Go.Fl.Lk Go.Fx
def NumB(s:Subj):Prop:= ∀c∈s.ctxs,∀a∈c.attrs,InI a.value.number
theorem v6k{s:Subj}(hc: ∀c∈s.ctxs,CtxS c):NumB s:=fun c hm a ha=>((hc c hm).l a ha).num
theorem y04: ∀(k n:Nat),n<10 ^ k->1<=k->(Go.Lib.decDigits n).length<=k
 |0,_,_,h=>by omega
 |k+1,n,h,_=>by
  rw[Go.Lib.decDigits]
  split
  ·simp
  ·rename_i hs
   have hk:1<=k:=by
    refine Nat.one_le_iff_ne_zero.2 fun e=> ?_
    subst e;simp at h;omega
   have:=y04 k (n / 10) (by rw[Nat.pow_succ] at h;omega) hk
   simp;omega
theorem y05{n:Int}(h:InI n):(rstD n).length<=19:=by
 unfold rstD
 split
 ·simp
 ·refine y04 19 _ ?_ (by decide)
  have:(10:Nat) ^ 19=10000000000000000000:=by decide
  unfold InI at h
  omega
theorem w09{a b:ByteArray}(h:a.data.toList=b.data.toList):a=b:=by
 cases a;cases b;congr 1;exact Array.ext' h
theorem w1a(n:Int):(numB n).data.toList=Go.Lib.itoa n:=rfl
theorem y36{n:Int}(h:InI n):(numB n).size<=100:=by
 show (Go.Lib.itoa n).toArray.size<=100
 rw[List.size_toArray]
 by_cases h0:n=0
 ·subst h0;rw[w9n];decide
 ·rw[w6p h0]
  have:=y05 h
  split<;>simp<;>omega
theorem w2p{n:Int}{K:ByteArray->Prop}(hn:InI n)(h:K (numB n)):q6q n K:=by
 unfold q6q
 exact⟨hn,h⟩
theorem v6l{d:Int}(h0:0<=d)(h1:d<10):Go.Utf8.encode (Go.IntKind.i32.wrap (48+d))=⟨#[UInt8.ofNat (48+d.natAbs)]⟩:=by
 obtain⟨k,rfl⟩: ∃k:Nat,d=k:=⟨d.toNat,by omega⟩
 have e:Go.IntKind.i32.wrap (48+(k:Int))=48+(k:Int):=by
  rcases (show k=0∨k=1∨k=2∨k=3∨k=4∨k=5∨k=6∨k=7∨k=8∨k=9 by omega) with rfl|rfl|rfl|rfl|rfl|rfl|rfl|rfl|rfl|rfl<;>decide
 rw[e,y03 (by omega)]
 rfl
theorem w9o{n:Int}{K:ByteArray->Prop}(hn:InI n)(h:K (numB n)):z22 n K:=by
 unfold z22
 refine Cnd.mk (fun h0=> ?_) fun h0=> ?_
 ·subst h0
  have e:numB 0=ByteArray.mk (Array.mk [48]):=w09 (by rw[w1a,w9n])
  rw[e] at h;exact h
 have hr:=y05 hn
 refine Lp2.ind (fun x s=>InI x/\rstD n=rstD x++s.data.toList) (fun x _=>x.natAbs) ?_ ⟨hn,by simp⟩
 rintro x s ⟨hx,hs⟩
 have hsz:s.size<=19:=by
  have:=congrArg List.length hs
  rw[List.length_append] at this
  have e:s.size=s.data.toList.length:=by rw[Array.length_toList];rfl
  omega
 refine Cnd.mk (fun hz=> ?_) fun hz=>⟨by decide,?_⟩
 ·subst hz
  have hs:rstD n=s.data.toList:=hs
  refine Cnd.mk (fun hneg=>⟨?_,?_⟩) fun hneg=> ?_
  ·have:(ByteArray.mk (Array.mk [45])).size=1:=rfl
   rw[this];omega
  ·have e:numB n=ByteArray.mk (Array.mk [45])++s:=w09 (by rw[w1a,w6p h0,if_pos hneg,hs];simp)
   rw[e] at h;exact h
  ·have e:numB n=s:=w09 (by rw[w1a,w6p h0,if_neg hneg,hs];simp)
   rw[e] at h;exact h
 ·have step: ∀d:Int,d=((x.tmod 10).natAbs:Int)->InI (48+d)/\((((Go.Utf8.encode (Go.IntKind.i32.wrap (48+d))).size+s.size:Nat):Int)<=(9223372036854775807:Int))/\(10:Int)≠0/\InI (x.tdiv 10)/\(InI (x.tdiv 10)/\rstD n=rstD (x.tdiv 10)++(Go.Utf8.encode (Go.IntKind.i32.wrap (48+d))++s).data.toList)/\(x.tdiv 10).natAbs<x.natAbs:=fun d hd=>by
   have h1:(x.tmod 10).natAbs<10:=by rw[Int.natAbs_tmod];exact Nat.mod_lt _ (by decide)
   have hi:InI (x.tdiv 10):=by
    have:(x.tdiv 10).natAbs=x.natAbs / 10:=Int.natAbs_tdiv x 10
    unfold InI at hx⊢;omega
   have ha:(x.tdiv 10).natAbs<x.natAbs:=by
    have:(x.tdiv 10).natAbs=x.natAbs / 10:=Int.natAbs_tdiv x 10
    omega
   rw[v6l (by omega) (by omega)]
   refine⟨by unfold InI;omega,?_,by decide,hi,⟨hi,?_⟩,ha⟩
   ·have:(ByteArray.mk (Array.mk [UInt8.ofNat (48+d.natAbs)])).size=1:=rfl
    rw[this];omega
   ·rw[hs,y02 hz,show d.natAbs=(x.tmod 10).natAbs by omega]
    simp
  refine Jn1.mk (fun d=>d=((x.tmod 10).natAbs:Int)) (Cnd.mk (fun hm=>⟨?_,by omega⟩) fun hm=>by omega) fun d hd=> ?_
  ·have h1:(x.tmod 10).natAbs<10:=by rw[Int.natAbs_tmod];exact Nat.mod_lt _ (by decide)
   unfold InI;omega
  exact step d hd
theorem w6q{v:Val}{K:ByteArray->Bool->Prop}(hn:InI v.2)(h:K ((hkV v).getD noT) (hkV v).isSome):q9q v K:=by
 unfold q9q z5k
 refine Jn1.mk (fun b=>b=true↔v.1=3∨v.1=4) (Cnd.mk (fun e=>by simp[e]) fun e=>by simp[e]) ?_
 intro b hb
 unfold hkV at h
 refine Cnd.mk (fun ht=> ?_) fun ht=> ?_
 ·rw[if_pos (hb.1 ht)] at h;exact h
 rw[if_neg (fun e=>ht (hb.2 e))] at h
 refine Cnd.mk (fun e=> ?_) fun e=> ?_
 ·rw[if_pos e] at h;exact w2p hn h
 rw[if_neg e] at h
 refine Cnd.mk (fun e1=> ?_) fun e1=> ?_
 ·rw[if_pos e1] at h
  refine Cnd.mk (fun e2=> ?_) fun e2=> ?_
  ·rw[if_pos e2] at h;exact h
  ·rw[if_neg e2] at h;exact h
 ·rw[if_neg e1] at h;exact h
theorem v6m{v:Val}{K:ByteArray->Bool->Prop}(hn:InI v.2)(h:K ((hkV v).getD noT) (hkV v).isSome):j1z v K:=by
 unfold j1z j88
 unfold hkV at h
 refine Cnd.mk (fun e1=> ?_) fun e1=> ?_
 ·rw[if_neg (by omega),if_neg (by omega),if_pos e1] at h
  refine Cnd.mk (fun e2=> ?_) fun e2=> ?_
  ·rw[if_pos e2] at h;exact h
  ·rw[if_neg e2] at h;exact h
 refine Cnd.mk (fun e=> ?_) fun e=> ?_
 ·rw[if_neg (by omega),if_pos e] at h;exact w9o hn h
 refine Jn1.mk (fun b=>b=true↔v.1=3∨v.1=4) (Cnd.mk (fun e=>by simp[e]) fun e=>by simp[e]) ?_
 intro b hb
 refine Cnd.mk (fun ht=> ?_) fun ht=> ?_
 ·rw[if_pos (hb.1 ht)] at h;exact h
 ·rw[if_neg (fun e=>ht (hb.2 e)),if_neg e,if_neg e1] at h;exact h
theorem y37{s:Subj}{kind name:ByteArray}{v:Val}(hN:NumB s)(h:lkp s kind name=some v):InI v.2:=by
 unfold lkp at h
 cases hf:fnd s kind with
 |none=>rw[hf] at h;cases h
 |some c=>
  rw[hf] at h
  simp only[Option.bind_some] at h
  by_cases hk:name=keyB
  ·rw[if_pos hk] at h;cases h
   show InI 0
   unfold InI;omega
  ·rw[if_neg hk] at h
   obtain⟨a,ha,rfl⟩:=Option.map_eq_some_iff.1 h
   exact hN c (j48 hf) a (List.mem_of_find?_eq_some ha)
theorem y5h{v:Val}{t:ByteArray}(hn:InI v.2)(hv:v.3.size<=2000000)(h:hkV v=some t):t.size<=10000000:=by
 unfold hkV at h
 split at h
 ·cases h;omega
 ·split at h
  ·cases h;have:=y36 hn;omega
  ·split at h
   ·cases h
    split<;>decide
   ·cases h
theorem j5h{s:Subj}{k b salt:ByteArray}{K:Int->Bool->Prop}(hs:SubB s)(hN:NumB s)(hz:salt.size<=10000000)(h:K ((bksV s k b salt).getD 0) (bksV s k b salt).isSome):B3 s k b salt K:=by
 unfold B3 q5w
 refine z1w hs ?_
 unfold bksV at h
 cases hl:lkp s k b with
 |none=>rw[hl] at h;exact Cnd.no (by simp) h
 |some v=>
  rw[hl] at h
  simp only[Option.bind_some] at h
  refine Cnd.yes rfl (w6q (y37 hN hl) ?_)
  simp only[Option.getD_some]
  cases hk:hkV v with
  |none=>rw[hk] at h;exact Cnd.no (by simp) h
  |some t=>
   rw[hk] at h
   exact Cnd.yes rfl (q5i hz (y5h (y37 hN hl) (y3q hs hl).2 hk) h)
theorem w2q{s:Subj}{k b salt:ByteArray}{K:Int->Bool->Prop}(hs:SubB s)(hN:NumB s)(hz:salt.size<=10000000)(h:K ((bksV s k b salt).getD 0) (bksV s k b salt).isSome):q6s s k b salt K:=by
 unfold q6s z27
 refine j5x hs ?_
 unfold bksV at h
 cases hl:lkp s k b with
 |none=>rw[hl] at h;exact Cnd.no (by simp) h
 |some v=>
  rw[hl] at h
  simp only[Option.bind_some] at h
  refine Cnd.yes rfl (v6m (y37 hN hl) ?_)
  simp only[Option.getD_some]
  cases hk:hkV v with
  |none=>rw[hk] at h;exact Cnd.no (by simp) h
  |some t=>
   rw[hk] at h
   exact Cnd.yes rfl (v92 hz (y5h (y37 hN hl) (y3q hs hl).2 hk) h)
theorem z1y{s:Subj}{v:Srv}{K:Int->Int->Bool->Prop}(hs:SubB s)(hN:NumB s)(hz:v.4.size<=10000000)(hl:v.5.length<=1000000)(h:K (srvV s v).1 (srvV s v).2.1 (srvV s v).2.2):G2 s v K:=by
 unfold G2 q5x
 unfold srvV at h
 refine Cnd.mk (fun e=> ?_) fun e=>by rw[if_pos e] at h;exact h
 rw[if_neg (by omega)] at h
 refine j5h hs hN hz ?_
 cases hb:bksV s v.2 v.3 v.4 with
 |none=>rw[hb] at h;exact Cnd.no (by simp) h
 |some b=>rw[hb] at h;exact Cnd.yes rfl (z86 hl h)
theorem w9p{s:Subj}{v:Srv}{K:Int->Int->Bool->Prop}(hs:SubB s)(hN:NumB s)(hz:v.4.size<=10000000)(hl:v.5.length<=1000000)(h:K (srvV s v).1 (srvV s v).2.1 (srvV s v).2.2):z29 s v K:=by
 unfold z29 z91
 unfold srvV at h
 refine Cnd.mk (fun e=> ?_) fun e=>by rw[if_pos e] at h;exact h
 rw[if_neg (by omega)] at h
 refine w2q hs hN hz ?_
 cases hb:bksV s v.2 v.3 v.4 with
 |none=>rw[hb] at h;exact Cnd.no (by simp) h
 |some b=>rw[hb] at h;exact Cnd.yes rfl (v2b hl h)
def tgtV(s:Subj)(f:Flg):Int:=match ixF (tgP s) f.7 0 with
 |some q=>(q.1:Int)+1
 |none=>0
theorem u0r{α:Type}{l:List α}(p:α->Bool){G:Int->α->(Int->Prop)->Prop}{B:Prop}(hl:l.length<=1000000000)(hB:ixF p l 0=none->B)
  (hG: ∀(i:Nat) y Y,l[i]? =some y->i<l.length->(p y=true->ixF p l 0=some (i,y))->(p y=false->InI ((i:Int)+1)/\Y ((i:Int)+1))->G (i:Int) y Y):
  Lp1 (fun x Y=>l.length<=(9223372036854775807:Nat)->Cnd (x<(l.length:Int)) ((0<=x/\x<(l.length:Int))/\ ∀y,l[x.toNat]? =some y->G x y Y) B) 0:=by
 refine Lp1.ind (fun i=> ∃j:Nat,i=(j:Int)/\j<=l.length/\ixF p l 0=ixF p (l.drop j) j) (fun i=>(l.length - i).toNat) ?_ ⟨0,rfl,by omega,rfl⟩
 rintro i ⟨j,rfl,hj,hf⟩ _
 refine Cnd.mk (fun hc=>⟨by omega,fun y hy=> ?_⟩) fun hc=> ?_
 ·have hy:l[j]? =some y:=hy
  refine hG j y _ hy (by omega) (fun hp=>by rw[hf,y0z hy hp]) fun hp=>⟨by unfold InI;omega,⟨j+1,by omega,by omega,by rw[hf,v2j hy hp]⟩,by omega⟩
 ·refine hB ?_
  rw[hf,List.drop_eq_nil_of_le (by omega)];rfl
theorem q2x{f:Flg}{s:Subj}{K:Int->Prop}(hs:SubB s)(ht:f.7.length<=1000000)(hk: ∀t∈f.7,t.3.length<=1048576)(h:K (tgtV s f)):J4 f s K:=by
 unfold J4 q3q
 unfold tgtV at h
 refine fun _=>u2i (tgP s) (by omega) (fun hn=>by rw[hn] at h;exact h) fun i y Y hy hi hp hq=>Rb hs ?_
 have miss:tgP s y=false->InI ((i:Int)+1)/\Y ((i:Int)+1):=hq
 cases hf:fnd s y.1 with
 |none=>exact Cnd.no (by simp) (miss (by unfold tgP;rw[hf]))
 |some c=>
  refine Cnd.yes rfl fun _=>srch (fun k=>decide (k=c.2)) (by have:=hk y (getm hy);omega) (fun hn=>Cnd.no (by omega) (miss ?_)) fun j k Z hkk hj hp2 hq2=>Cnd.mk (fun e=>Cnd.yes (by omega) ⟨by unfold InI;omega,?_⟩) fun e=>hq2 (df fun e2=>e e2.symm)
  ·unfold tgP;rw[hf]
   refine j24 fun hm=> ?_
   rw[List.find?_eq_none] at hn
   exact hn _ hm (dt rfl)
  ·have hc:c.2=k:=e
   have ht:tgP s y=true:=by unfold tgP;rw[hf];exact j7w (hc▸getm hkk)
   rw[hp ht] at h;exact h
theorem j28{f:Flg}{s:Subj}{K:Int->Prop}(hs:SubB s)(ht:f.7.length<=1000000)(h:K (tgtV s f)):q9r f s K:=by
 unfold q9r z5o
 unfold tgtV at h
 refine u0r (tgP s) (by omega) (fun hn=>by rw[hn] at h;exact h) fun i y Y hy hi hp hq=>w32 hs ?_
 cases hf:fnd s y.1 with
 |none=>exact Cnd.no (by simp) (hq (by unfold tgP;rw[hf]))
 |some c=>
  refine Cnd.yes rfl ⟨by omega,fun z hz=> ?_⟩
  have hz:f.7[i]? =some z:=hz
  rw[hy] at hz;cases hz
  refine z1v fun r hr=>Cnd.mk (fun e=>⟨by unfold InI;omega,?_⟩) fun e=>hq ?_
  ·have ht:tgP s y=true:=by unfold tgP;rw[hf];exact j7w (hr.1 e)
   rw[hp ht] at h;exact h
  ·unfold tgP;rw[hf]
   exact j24 fun hm=>e (hr.2 hm)
end Go.En
end
noncomputable section
set_option maxRecDepth 100000
namespace Go.En
open Go Go.Fl Go.Fl.Lk Go.Fx
def SrvB(v:Srv):Prop:=v.4.size<=10000000/\v.5.length<=1000000
structure FlX(v:Envt):Prop where
 b:FlB v.4
 n:v.4.length<=1000
 vs: ∀f∈v.4,f.3.length<=1000000/\ ∀x∈f.3,x.4.length<=2000000
 p: ∀f∈v.4,f.6.length<=1000000
 t: ∀f∈v.4,f.7.length<=1000000/\ ∀t∈f.7,t.3.length<=1048576
 r: ∀f∈v.4,f.8.length<=1000000/\ ∀r∈f.8,wt r.2<=2000000/\EvB r.2/\SrvB r.3
 d: ∀f∈v.4,SrvB f.9
 x: ∀x∈v.6,x.1≠noT
theorem v2k{n:Int}{s:Srv}(h:SrvD n s):SrvB s:=⟨Nat.le_trans h.ok.salt (by decide),by have:=h.ok.split.1;omega⟩
theorem u0s{v:Envt}(hE:EnvS v)(hD:EnvD v):FlX v where
 b:=u0q hD
 n:=Nat.le_trans hE.flen (by decide)
 vs f hf:=⟨by have:=(hE.flags f hf).vlen;omega,fun x hx=>by have:=((hE.flags f hf).vals x hx).len;omega⟩
 p f hf:=by have:=(hE.flags f hf).nlen;omega
 t f hf:=⟨by have:=(hE.flags f hf).tlen;omega,fun t ht=>by
  obtain⟨i,hi⟩:=List.getElem?_of_mem hf
  have:=((hD.flags.all i f hi).tgts t ht).2;omega⟩
 r f hf:=⟨by have:=(hE.flags f hf).rlen;omega,fun r hr=>by
  obtain⟨i,hi⟩:=List.getElem?_of_mem hf
  have h1:=(hD.flags.all i f hi).rules r hr
  exact⟨(y0y h1.cond).1,(y0y h1.cond).2,v2k h1.serve⟩⟩
 d f hf:=by
  obtain⟨i,hi⟩:=List.getElem?_of_mem hf
  exact v2k (hD.flags.all i f hi).dflt
 x x hx:=u0p _ (hD.exps.subset (List.mem_map_of_mem hx))
abbrev noF:Flg:=Flg.mk noT 0 [] false 0 [] [] [] (Srv.mk 0 noT noT noT [])
abbrev noD:Dcs:=Dcs.mk noT 0 noV (Rsn.mk 0 0 noT 0) 0
theorem j5i{v:Envt}{s:Subj}{fs:List Frc}{K:ByteArray->ByteArray->Int->List Decl->List Seg->List Flg->List Lay_->List Exper->List Ctxt->List Frc->List ByteArray->(ByteArray->Option Dcs)->(ByteArray->Option Bool)->Prop}(hv:AsB v)(hs:SubB s)
  (h:K v.1.1 v.1.2 v.1.3 v.2 v.3 v.4 v.5 v.6 s.1 fs (mem v.3 s) (fun _=>none) (fun _=>none)):B2 v s fs K:=by
 unfold B2 q5v
 have one: ∀{K':List ByteArray->Prop},K' (mem v.3 s)->W8 v.3 (Subj.mk s.1) K':=fun h=>q92 hv.sg hs fun m hm=>by rw[y5d hm];exact h
 exact⟨one ⟨h,h⟩,⟨one h,one h⟩,one h,one h⟩
section
variable {v:Envt}{s:Subj}{fs:List Frc}{inn:List ByteArray}{done:ByteArray->Option Dcs}{opn:ByteArray->Option Bool}
theorem w1b{key:ByteArray}{K:Flg->Bool->(ByteArray->Option Dcs)->(ByteArray->Option Bool)->Prop}(hn:v.4.length<=1000)(h:K ((fof v key).getD noF) (fof v key).isSome done opn):
  Jp v.1.1 v.1.2 v.1.3 v.2 v.3 v.4 v.5 v.6 s.1 fs inn done opn key K:=by
 unfold Jp
 unfold fof at h
 refine fun _=>srch (fun f=>decide (f.1=key)) (by omega) (fun hf=> ?_) fun i y Y hy hi hp hq=>Cnd.mk (fun e=>Cnd.no (by omega) ⟨by omega,fun z hz=> ?_⟩) fun e=>hq (df e)
 ·rw[hf] at h;exact Cnd.yes (by omega) h
 ·have hz:v.4[i]? =some z:=hz
  rw[hy] at hz;cases hz
  rw[hp (dt e)] at h;exact h
theorem w6r{x:Exper}{K:Int->(ByteArray->Option Dcs)->(ByteArray->Option Bool)->Prop}(hv:AsB v)(hs:SubB s)(hx:x.4.size<=10000000)(h:K (abV v s x) done opn):
  Ju v.1.1 v.1.2 v.1.3 v.2 v.3 v.4 v.5 v.6 s.1 fs inn done opn x K:=by
 unfold Ju Ba
 unfold abV lof at h
 have hln:=hv.ln
 refine fun _=>srch (fun l=>decide (l.1=x.2)) (by omega) (fun hf=>by rw[hf] at h;exact h) fun i y Y hy hi hp hq=>Cnd.mk (fun e=>Rb (s:=s) hs ?_) fun e=>hq (df e)
 rw[hp (dt e)] at h
 simp only at h
 cases hf:fnd s y.2 with
 |none=>rw[hf] at h;exact Cnd.no (by simp) h
 |some c=>rw[hf] at h;exact Cnd.yes rfl (q5i hx (w6h hs hf) h)
theorem j54{f:Flg}{sv:Srv}{r:Rsn}{K:Int->Rsn->(ByteArray->Option Dcs)->(ByteArray->Option Bool)->Prop}(hs:SubB s)(hN:NumB s)(hb:SrvB sv)(h:K (svd s f.5 sv r.1 r.2 r.3).1 (svd s f.5 sv r.1 r.2 r.3).2 done opn):
  J5 v.1.1 v.1.2 v.1.3 v.2 v.3 v.4 v.5 v.6 s.1 fs inn done opn f sv r K:=by
 unfold J5 q0o
 unfold svd at h
 refine z1y (s:=s) hs hN hb.1 hb.2 (Cnd.mk (fun e=> ?_) fun e=> ?_)
 ·rw[if_pos e] at h;exact h
 ·rw[if_neg e] at h;exact h
end
end Go.En
end
noncomputable section
set_option maxRecDepth 100000
namespace Go.En
open Go Go.Fl Go.Fl.Lk Go.Fx
theorem q94{l:List Val}{n:Int}{Z:Int->Int->ByteArray->List ByteArray->Prop}(hl:l.length<=1000000)(h:Z (valV l n).1 (valV l n).2 (valV l n).3 (valV l n).4):
  Jn4 Z fun Y=>Cnd (1<=n) (Fits l->Cnd (n<=(l.length:Int)) (InI (n - 1)/\At l (n - 1) fun y=>Y y.1 y.2 y.3 y.4) (Y 0 0 noT [])) (Y 0 0 noT []):=by
 refine Jn4.mk (fun a b c d=>a=(valV l n).1/\b=(valV l n).2/\c=(valV l n).3/\d=(valV l n).4) (Cnd.mk (fun h1 _=>Cnd.mk (fun h2=>⟨by unfold InI;omega,by omega,fun y hy=> ?_⟩) fun h2=> ?_) fun h1=> ?_) fun a b c d ⟨e1,e2,e3,e4⟩=>by rw[e1,e2,e3,e4];exact h
 ·unfold valV;rw[if_pos ⟨h1,h2⟩,hy];exact⟨rfl,rfl,rfl,rfl⟩
 ·unfold valV;rw[if_neg (fun k=>h2 k.2)];exact⟨rfl,rfl,rfl,rfl⟩
 ·unfold valV;rw[if_neg (fun k=>h1 k.1)];exact⟨rfl,rfl,rfl,rfl⟩
theorem y38{l:List Val}{n:Int}(h: ∀x∈l,x.4.length<=2000000):(valV l n).4.length<=2000000:=by
 unfold valV
 split
 ·cases hq:l[(n - 1).toNat]? with
  |none=>simp
  |some x=>exact h x (getm hq)
 ·simp
def DnI(v:Envt)(s:Subj)(fs:List Frc)(done:ByteArray->Option Dcs):Prop:= ∀k d,done k=some d-> ∃f∈v.4,k=f.1/\d=dcsV v s fs f
theorem DnI.nil{v:Envt}{s:Subj}{fs:List Frc}:DnI v s fs fun _=>none:=fun _ _ h=>by cases h
theorem DnI.put{v:Envt}{s:Subj}{fs:List Frc}{done:ByteArray->Option Dcs}(h:DnI v s fs done){f:Flg}(hf:f∈v.4):DnI v s fs (put done f.1 (dcsV v s fs f)):=fun k d hk=>by
 unfold Fl.put at hk
 split at hk
 ·rename_i e;cases hk;exact⟨f,hf,e,rfl⟩
 ·exact h k d hk
theorem y8b{o:ByteArray->Option Bool}{k:ByteArray}{b:Bool}(h:o k=none):dlt (put o k b) k=o:=by
 funext q
 unfold dlt Fl.put
 by_cases e:q=k
 ·rw[if_pos e,e,h]
 ·rw[if_neg e,if_neg e]
theorem y8c{v:Envt}{s:Subj}{fs:List Frc}{key:ByteArray}(h:(asgV v s fs key).2≠0):(asgV v s fs key).1.2=noT:=by
 unfold asgV at h⊢
 split
 ·rename_i l hl;rw[hl] at h;exact absurd rfl h
 ·rfl
theorem nodup_at{v:Envt}(hB:FlB v.4){i j:Nat}{f g:Flg}(hf:v.4[i]? =some f)(hg:v.4[j]? =some g)(h:i≠j):f.1≠g.1:=fun e=>by
 have h1:=v4f hB hf
 have h2:=v4f hB hg
 rw[e,h2] at h1
 have e2:g=f:=Option.some.inj h1
 subst e2
 have hnd:=hB.nd
 have a:=Qi hf
 have b:=Qi hg
 refine h ((List.getElem_inj (h₀:=by rw[List.length_map];exact a) (h₁:=by rw[List.length_map];exact b) hnd).1 ?_)
 rw[List.getElem_map,List.getElem_map]
 rw[List.getElem?_eq_getElem a] at hf
 rw[List.getElem?_eq_getElem b] at hg
 rw[Option.some.inj hf,Option.some.inj hg]
theorem y06{v:Envt}{s:Subj}{fs:List Frc}(hv:AsB v)(hF:FlX v)(hs:SubB s)(hN:NumB s)(hfs:fs.length<=1000000000){i:Nat}{f:Flg}(hf:v.4[i]? =some f){done:ByteArray->Option Dcs}{opn:ByteArray->Option Bool}
  {K:Dcs->(ByteArray->Option Dcs)->(ByteArray->Option Bool)->Prop}(hd:DnI v s fs done)(ho: ∀(j:Nat) g,j<=i->v.4[j]? =some g->opn g.1=none)(hK: ∀done',DnI v s fs done'->K (dcsV v s fs f) done' opn):
  Ue v.1.1 v.1.2 v.1.3 v.2 v.3 v.4 v.5 v.6 s.1 fs (mem v.3 s) done opn f K:=by
 intro X hX
 induction i using Nat.strongRecOn generalizing f done opn K with
 |ind i ih=>
  refine hX _ _ _ _ _ _ _ _ _ _ _ _ _ _ _ ?_
  clear hX
  have hm:=getm hf
  have hvs:=hF.vs f hm
  unfold Bb
  refine Jn1.mk (fun t=> ∃done',DnI v s fs done'/\t=(f.1,(dcsV v s fs f).2,(dcsV v s fs f).3.1,(dcsV v s fs f).3.2,(dcsV v s fs f).3.3,(dcsV v s fs f).3.4,(dcsV v s fs f).4.1,(dcsV v s fs f).4.2,(dcsV v s fs f).4.3,(dcsV v s fs f).4.4,(dcsV v s fs f).5,done',opn,())) ?_ ?_
  case refine_2=>
   rintro _ ⟨done',hd',rfl⟩
   exact q4n (y38 hvs.2) (hK done' hd')
  have fin: ∀{n:Int} {r:Rsn} {done1:ByteArray->Option Dcs} {opn1:ByteArray->Option Bool},DnI v s fs done1->opn1=put opn f.1 true->dcV v s fs f=(n,r)-> ∃done',DnI v s fs done'/\(f.1,n,(valV f.3 n).1,(valV f.3 n).2,(valV f.3 n).3,(valV f.3 n).4,r.1,r.2,r.3,r.4,(0:Int),put done1 f.1 (Dcs.mk f.1 n (valV f.3 n) r 0),dlt opn1 f.1,())=(f.1,(dcsV v s fs f).2,(dcsV v s fs f).3.1,(dcsV v s fs f).3.2,(dcsV v s fs f).3.3,(dcsV v s fs f).3.4,(dcsV v s fs f).4.1,(dcsV v s fs f).4.2,(dcsV v s fs f).4.3,(dcsV v s fs f).4.4,(dcsV v s fs f).5,done',opn,()):=by
   intro n r done1 opn1 h1 h2 h3
   have e:dcsV v s fs f=Dcs.mk f.1 n (valV f.3 n) r 0:=by unfold dcsV;rw[h3]
   refine⟨_,h1.put hm,?_⟩
   rw[e,h2,y8b (ho i f (Nat.le_refl _) hf)]
  refine Cnd.mk (fun hm1=> ?_) fun hm1=> ?_
  ·obtain⟨d,hdd⟩:=Option.isSome_iff_exists.1 hm1
   rw[hdd]
   obtain⟨g,hg,hk,rfl⟩:=hd _ _ hdd
   obtain⟨j,hj⟩:=List.getElem?_of_mem hg
   have e:g=f:=by
    have a1:=v4f hF.b hj
    rw[←hk,v4f hF.b hf] at a1
    exact (Option.some.inj a1).symm
   subst e
   exact⟨done,hd,rfl⟩
  have hdc:=u0o (s:=s) (fs:=fs) hF.b hf
  unfold chsV at hdc
  refine Cnd.mk (fun hon=>fun _=> ?_) fun hon=> ?_
  case refine_2=>
   rw[if_pos (by simpa using hon)] at hdc
   exact q94 hvs.1 (fin hd rfl hdc)
  rw[if_neg (by rw[hon];simp)] at hdc
  have hol: ∀(j:Nat) g,j<i->v.4[j]? =some g->put opn f.1 true g.1=none:=fun j g hj hg=>by
   unfold Fl.put
   rw[if_neg (nodup_at hF.b hg hf (by omega))]
   exact ho j g (by omega) hg
  have hpl:=hF.p f hm
  refine LpH.ind (fun t=> ∃(j:Nat) (a b:Int) (c:ByteArray) (e:Int) (done1:ByteArray->Option Dcs),t=((j:Int),a,b,c,e,put opn f.1 true,done1,())/\j<=f.6.length/\DnI v s fs done1/\(f.6.find? fun p=> !metV v (fun g=>(dcV v s fs g).1) p)=(f.6.drop j).find? fun p=> !metV v (fun g=>(dcV v s fs g).1) p) (fun t=>(f.6.length - t.1).toNat) ?_ ⟨0,_,_,_,_,done,rfl,by omega,hd,rfl⟩
  rintro _ ⟨j,a,b,c,e,done1,rfl,hj,hd1,hfd⟩
  dsimp only
  refine Cnd.mk (fun hlt=>⟨by omega,fun p hp=> ?_⟩) fun hlt=> ?_
  ·have hp:f.6[j]? =some p:=hp
   have miss:metV v (fun g=>(dcV v s fs g).1) p=false->dcV v s fs f=(f.5,Rsn.mk 2 0 p.1 (-1)):=fun hmf=>by
    rw[hfd,z7z hp (by rw[hmf];rfl)] at hdc;exact hdc
   refine w1b (v:=v) (s:=s) hF.n ?_
   cases hfo:fof v p.1 with
   |none=>exact Cnd.no (by simp) (q94 hvs.1 (fin hd1 rfl (miss (by unfold metV;rw[hfo]))))
   |some g=>
    obtain⟨q,hq,hpk⟩:=v4e hfo
    have hqi:=hF.b.ord i f hf p (getm hp) q g hq hpk
    refine Cnd.yes rfl (Cnd.mk (fun hgo=>Cnd.no ?_ ?_) fun hgo=> ?_)
    ·show ¬(put opn f.1 true g.1).getD false=true
     rw[hol q g hqi hq];simp
    ·refine ih q hqi hq hd1 (fun j' g' hj' hg'=>hol j' g' (by omega) hg') fun done2 hd2=> ?_
     refine Cnd.mk (fun he=>⟨by unfold InI;omega,⟨j+1,a,b,c,e,done2,rfl,by omega,hd2,?_⟩,by show ((f.6.length:Int) - ((j:Int)+1)).toNat<((f.6.length:Int) - (j:Int)).toNat;omega⟩) fun he=>q94 hvs.1 (fin hd2 rfl (miss ?_))
     ·have he:(dcV v s fs g).1=p.2:=he
      rw[hfd,z1x hp]
      unfold metV;rw[hfo];simp only
      have hgo:g.4=true:=hgo
      rw[hgo,dt he];rfl
     ·have he: ¬(dcV v s fs g).1=p.2:=he
      unfold metV;rw[hfo];simp only
      rw[df he];simp
    ·have hgo: ¬g.4=true:=hgo
     refine q94 hvs.1 (fin hd1 rfl (miss ?_))
     unfold metV;rw[hfo];simp only
     rw[Bool.eq_false_iff.2 hgo];rfl
  ·rw[hfd,List.drop_eq_nil_of_le (by omega),List.find?_nil] at hdc
   clear hfd hlt
   refine q2x (f:=f) (s:=s) hs (hF.t f hm).1 (hF.t f hm).2 ?_
   unfold tgtV
   cases hix:ixF (tgP s) f.7 0 with
   |some q=>
    rw[hix] at hdc
    have hsp:=y00 hix
    refine Cnd.yes (by simp only;omega) ⟨by have:=Qi hsp.2.1;have:=(hF.t f hm).1;unfold InI;simp only;omega,by have:=Qi hsp.2.1;simp only;omega,fun y hy=> ?_⟩
    simp only at hy
    have hq2:=hsp.2.1
    rw[show ((q.1:Int)+1 - 1).toNat=q.1 - 0 by omega,hq2] at hy
    cases hy
    exact q94 hvs.1 (fin (r:=Rsn.mk 3 ((q.1:Int)+1) noT (-1)) hd1 rfl hdc)
   |none=>
    rw[hix] at hdc
    simp only at hdc
    refine Cnd.no (by simp) fun _=> ?_
    have hxl:=hv.xn
    refine LpH.ind (fun t=> ∃(j:Nat) (a b:Int) (c:ByteArray) (e:Int) (done1:ByteArray->Option Dcs),t=((j:Int),a,b,c,e,done1,put opn f.1 true,())/\j<=v.6.length/\DnI v s fs done1/\v.6.find? (inXV v s fs f.1)=(v.6.drop j).find? (inXV v s fs f.1)) (fun t=>(v.6.length - t.1).toNat) ?_ ⟨0,_,_,_,_,done1,rfl,by omega,hd1,rfl⟩
    clear hd1
    rintro _ ⟨j,a,b,c,e,done1,rfl,hj,hd1,hfd⟩
    dsimp only
    refine Cnd.mk (fun hlt=>⟨by omega,fun x hx=> ?_⟩) fun hlt=> ?_
    ·have hx:v.6[j]? =some x:=hx
     have next:inXV v s fs f.1 x=false->InI ((j:Int)+1)/\(∃(j':Nat) (a' b':Int) (c':ByteArray) (e':Int) (done2:ByteArray->Option Dcs),((j:Int)+1,a,b,c,e,done1,put opn f.1 true,())=((j':Int),a',b',c',e',done2,put opn f.1 true,())/\j'<=v.6.length/\DnI v s fs done2/\v.6.find? (inXV v s fs f.1)=(v.6.drop j').find? (inXV v s fs f.1))/\((v.6.length:Int) - ((j:Int)+1)).toNat<((v.6.length:Int) - (j:Int)).toNat:=fun hn=>
      ⟨by unfold InI;omega,⟨j+1,a,b,c,e,done1,rfl,by omega,hd1,by rw[hfd,z1x hx hn]⟩,by omega⟩
     refine Cnd.mk (fun h3=>Cnd.mk (fun h5=> ?_) fun h5=>next ?_) fun h3=>next ?_
     ·refine w03 (v:=v) (s:=s) hv hs hfs (Cnd.mk (fun he=>Cnd.mk (fun hxk=> ?_) fun hxk=>next ?_) fun he=>next ?_)
      ·have hin:inXV v s fs f.1 x=true:=w9f (dt h3) (w9f (dt h5) (dt hxk))
       rw[hfd,z7z hx hin] at hdc
       exact w6r (v:=v) (s:=s) hv hs (hv.xs x (getm hx)) (q94 hvs.1 (fin (r:=Rsn.mk 4 0 x.1 (abV v s x)) hd1 rfl hdc))
      ·exact q9a (.inr (q9a (.inr (df hxk))))
      ·refine q9a (.inr (q9a (.inr (df ?_))))
       rw[y8c he]
       exact fun e=>hF.x x (getm hx) e.symm
     ·exact q9a (.inr (q9a (.inl (df h5))))
     ·exact q9a (.inl (df h3))
    ·rw[hfd,List.drop_eq_nil_of_le (by omega),List.find?_nil] at hdc
     simp only at hdc
     clear hfd hlt
     unfold rlsV at hdc
     have hr:=hF.r f hm
     refine fun _=>LpH.ind (fun t=> ∃(j:Nat) (a b:Int) (c:ByteArray) (e:Int) (done1:ByteArray->Option Dcs),t=((j:Int),a,b,c,e,put opn f.1 true,done1,())/\j<=f.8.length/\DnI v s fs done1/\ixF (fun r=>cndV v s r.2) f.8 0=ixF (fun r=>cndV v s r.2) (f.8.drop j) j) (fun t=>(f.8.length - t.1).toNat) ?_ ⟨0,_,_,_,_,done1,rfl,by omega,hd1,rfl⟩
     clear hd1
     rintro _ ⟨j,a,b,c,e,done1,rfl,hj,hd1,hfd⟩
     dsimp only
     refine Cnd.mk (fun hlt=>⟨by omega,fun r hr0=> ?_⟩) fun hlt=> ?_
     ·have hr0:f.8[j]? =some r:=hr0
      have hrm:=hr.2 r (getm hr0)
      refine z01 (s:=s) hs _ (Nat.le_refl _) (by rw[Jl];exact hrm.1) (by rw[Jl];exact hrm.2.1) ?_
      rw[Jl]
      refine Cnd.mk (fun hc=>⟨by unfold InI;omega,?_⟩) fun hc=> ?_
      ·rw[hfd,y0z hr0 hc] at hdc
       exact j54 (v:=v) (s:=s) (r:=Rsn.mk 5 ((j:Int)+1) r.1 0) hs hN hrm.2.2 (q94 hvs.1 (fin hd1 rfl hdc))
      ·refine⟨by unfold InI;omega,⟨j+1,a,b,c,e,done1,rfl,by omega,hd1,?_⟩,by show ((f.8.length:Int) - ((j:Int)+1)).toNat<((f.8.length:Int) - (j:Int)).toNat;omega⟩
       rw[hfd,v2j hr0 (Bool.eq_false_iff.2 hc)]
     ·rw[hfd,List.drop_eq_nil_of_le (by omega)] at hdc
      exact j54 (v:=v) (s:=s) (r:=Rsn.mk 6 0 noT 0) hs hN (hF.d f hm) (q94 hvs.1 (fin hd1 rfl hdc))
end Go.En
end
noncomputable section
set_option maxRecDepth 100000
namespace Go.En
open Go Go.Fl Go.Fl.Lk Go.Fx
def flgV(v:Envt)(s:Subj)(fs:List Frc)(key:ByteArray):Dcs×Int:=match fof v key with
 |some f=>(dcsV v s fs f,0)
 |none=>(noD,11)
theorem j67{v:Envt}{s:Subj}{fs:List Frc}{key:ByteArray}{K:Dcs->Int->Prop}(hv:AsB v)(hF:FlX v)(hs:SubB s)(hN:NumB s)(hfs:fs.length<=1000000000)(h:K (flgV v s fs key).1 (flgV v s fs key).2):q2i v s fs key K:=by
 unfold q2i q8l
 unfold flgV at h
 refine j5i (v:=v) (s:=s) hv hs (w1b (v:=v) (s:=s) hF.n ?_)
 cases hf:fof v key with
 |none=>rw[hf] at h;exact Cnd.no (by simp) h
 |some f=>
  rw[hf] at h
  obtain⟨i,hi,_⟩:=v4e hf
  exact Cnd.yes rfl (y06 hv hF hs hN hfs hi DnI.nil (fun _ _ _ _=>rfl) fun _ _=>h)
abbrev fB:ByteArray:=ByteArray.mk (Array.mk [102])
abbrev smpF:Flg:=Flg.mk fB 1 [Val.mk 1 0 noT [],Val.mk 1 1 noT []] true 1 [] [] [] (Srv.mk 2 noT noT noT [])
abbrev smpE:Envt:=Envt.mk (Sett.mk noT noT 0) [] [] [smpF] [] []
theorem y8d:AsB smpE where
 ln:=by decide
 xn:=by decide
 sg:=y72 (by decide) (by simp)
 ex x hx:=by cases hx
 sa:=by decide
 ls l hl:=by cases hl
 xs x hx:=by cases hx
 cl x hx:=by cases hx
 nd:=by simp
theorem y8e:FlX smpE where
 b:=⟨by simp,fun i f hf p hp=>by
  have hf:[smpF][i]? =some f:=hf
  have:=List.mem_of_getElem? hf
  rw[List.mem_singleton] at this
  subst this;cases hp⟩
 n:=by decide
 vs f hf:=by
  rw[List.mem_singleton.1 hf]
  refine⟨by decide,fun x hx=> ?_⟩
  have hx:x∈[Val.mk 1 0 noT [],Val.mk 1 1 noT []]:=hx
  simp only[List.mem_cons,List.not_mem_nil,or_false] at hx
  rcases hx with rfl|rfl<;>simp
 p f hf:=by rw[List.mem_singleton.1 hf];decide
 t f hf:=by rw[List.mem_singleton.1 hf];exact⟨by decide,fun t ht=>by cases ht⟩
 r f hf:=by rw[List.mem_singleton.1 hf];exact⟨by decide,fun t ht=>by cases ht⟩
 d f hf:=by rw[List.mem_singleton.1 hf];exact⟨by decide,by decide⟩
 x x hx:=by cases hx
theorem y39:flgV smpE (Subj.mk []) [] fB=(Dcs.mk fB 2 (Val.mk 1 1 noT []) (Rsn.mk 6 0 noT (-1)) 0,0):=by
 have hf:fof smpE fB=some smpF:=by simp[fof]
 have hd:dcV smpE (Subj.mk []) [] smpF=(2,Rsn.mk 6 0 noT (-1)):=by
  unfold dcV chsV
  simp[ixF,rlsV,svd,srvV]
 unfold flgV
 rw[hf]
 simp only
 unfold dcsV
 rw[hd]
 rfl
theorem v6n{K:Bool->Prop}(h:K true):q6r K:=by
 unfold q6r z2x
 refine j67 (v:=smpE) y8d y8e (y35 (by decide) (by simp)) (fun c hc=>by cases hc) (by decide) ?_
 rw[y39]
 exact Cnd.yes rfl (Cnd.yes rfl (Cnd.yes rfl (Cnd.yes rfl (by rw[dt ⟨rfl,rfl,rfl,rfl⟩];exact h))))
theorem j5j{codes who:List Int}{s:Subj}{sv:Srv}{f:Flg}{K:Bool->Prop}(hc:Byts codes)(hw:Byts who)(hs:SubB s)(hN:NumB s)(hz:sv.4.size<=10000000)(hk: ∀t∈f.7,t.3.length<=1048576)(h:K true):Zu codes who s sv f K:=by
 unfold Zu Hd
 refine v6n (Cnd.yes rfl fun _=>Cnd.mk (fun _=>h) fun _ _=>Cnd.mk (fun _=>h) fun hsp _=>Cnd.mk (fun _=>h) fun htg=> ?_)
 refine v35 hc (by decide) (by decide) fun cl hD=> ?_
 refine j5g (V:=fun _=>True) (fun _ _ hv h=>j52 hv fun b=>h b fun _=>trivial) (fun _=>trivial) hD fun v a hE hd _ hDa=>v35 hw (by decide) (by decide) fun wl hD2=>w2i hD2 fun q a hq hl hD3=>z6t hDa (by decide) (by decide) fun u _ hu _ _=> ?_
 have hF:=u0s hE hd
 have hall: ∀y∈[Subj.mk q.1,Subj.mk s.1],SubB y/\NumB y:=fun y hy=>by
  rcases List.mem_cons.1 hy with rfl|hy
  ·exact⟨v56 hq hl,v6k hl⟩
  ·rw[List.mem_singleton.1 hy];exact⟨hs,hN⟩
 have hsv: ∀y∈[u,sv],SrvB y:=fun y hy=>by
  rcases List.mem_cons.1 hy with rfl|hy
  ·exact v2k hu
  ·rw[List.mem_singleton.1 hy];exact⟨hz,by omega⟩
 have h2:([Subj.mk q.1,Subj.mk s.1]:List Subj).length=2:=rfl
 have h3:([u,sv]:List Srv).length=2:=rfl
 generalize [Subj.mk q.1,Subj.mk s.1]=L at hall h2⊢
 generalize [u,sv]=F at hsv h3⊢
 have hfn:=hF.n
 refine srch (fun _=>false) (by omega) (fun _=>h) fun i y Y hy _ _ hq1 _=>srch (fun _=>false) (by omega) (fun _=> ?_) fun i2 z Z hz _ _ hq2=> ?_
 ·obtain⟨hsb,hnb⟩:=hall y (getm hy)
  refine y73 (fun _=>false) (by omega) (fun _=> ?_) fun i3 g Z hg hi3 _ hq3=>⟨by omega,fun g' hg'=> ?_⟩
  ·refine q2x (s:=y) (f:=f) hsb (by omega) hk (j28 (s:=y) (f:=f) hsb (by omega) (Cnd.yes rfl (hq1 rfl)))
  ·have hg':v.4[i3]? =some g':=hg'
   rw[hg] at hg';cases hg'
   have ht:=hF.t g (getm hg)
   exact q2x (s:=y) (f:=g) hsb ht.1 ht.2 (j28 (s:=y) (f:=g) hsb ht.1 (Cnd.yes rfl (hq3 rfl)))
 ·obtain⟨hsb,hnb⟩:=hall y (getm hy)
  have hb:=hsv z (getm hz)
  exact z1y (s:=y) hsb hnb hb.1 hb.2 (w9p (s:=y) hsb hnb hb.1 hb.2 (Cnd.yes rfl (Cnd.yes rfl (Cnd.yes rfl (hq2 rfl)))))
end Go.En
end
noncomputable section
set_option maxRecDepth 100000
namespace Go.En
open Go Go.RowKit Go.Fl Go.Fl.Lk Go.Fx
open Go.Proofs.YtkbjibhkaddepaaGreatDoor.Rows (uptoBulk uptoBulkAll)
section
variable {H:Type}{enc:TypeId×Value->H}{W:World}{base:Nat}{spare:Nat->Bool}{held:Bool}
theorem y4a(d:DataW H):1<=uptoBulk d:=by
 cases d with
 |lit l=>cases l<;>simp[uptoBulk]
 |_=>simp[uptoBulk]
theorem y4b(l:List (DataW H)):l.length<=uptoBulkAll l:=by
 induction l with
 |nil=>simp
 |cons d l ih=>have:=y4a d;simp only[List.length_cons,uptoBulkAll];omega
theorem y8f{l:List (DataW H)}{i:Nat}{d:DataW H}(h:l[i]? =some d):uptoBulk d<=uptoBulkAll l:=by
 induction l generalizing i with
 |nil=>simp at h
 |cons a l ih=>
  cases i with
  |zero=>simp at h;subst h;simp only[uptoBulkAll];omega
  |succ i=>have:=ih (i:=i) (by simpa using h);simp only[uptoBulkAll];omega
theorem y5i{α:Type}{f:α->Nat}: ∀{l:List α} {ds:List (DataW H)},l.length=ds.length->(∀(i:Nat) y d,l[i]? =some y->ds[i]? =some d->f y<=uptoBulk d)->(l.map f).sum<=uptoBulkAll ds
 |[],_,_,_=>by simp
 |y::l,[],h,_=>by simp at h
 |y::l,d::ds,h,hk=>by
  have h0:=hk 0 y d rfl rfl
  have h1:=y5i (l:=l) (ds:=ds) (by simpa using h) fun i y d hy hd=>hk (i+1) y d (by simpa using hy) (by simpa using hd)
  simp only[List.map_cons,List.sum_cons,uptoBulkAll];omega
theorem z88{T:Sg.C}{e t:TypeId}{fuel:Nat}{cs:List Value}{x:DataW H×List MemPlace}{f:Sg.car T->Nat}{A:Sg.car T->Prop}(hu:Proofs.Tryz.prog.underlying t=some (.slice e))(hc:Proofs.Tryz.prog.cellsOf e=D.size T)
  (hel: ∀n cs x,fuel=n+1->cs.length=D.size T->DataW.trod enc Proofs.Tryz.prog W base spare held n e cs=some x->uptoBulk x.1<=1048576-> ∃y,RowF D (hv W) cs (D.shape T y)/\f y<=uptoBulk x.1/\A y)
  (h:DataW.trod enc Proofs.Tryz.prog W base spare held fuel t cs=some x)(hb:uptoBulk x.1<=1048576):
  ∃(l:List (Sg.car T)) (v:Value),cs=[v]/\RepF D (hv W) v (.sl T l)/\(l.map f).sum+1<=uptoBulk x.1/\l.length<=uptoBulk x.1/\ ∀y∈l,A y:=by
 rcases DataW.trod_slice hu h with ⟨rfl,rfl⟩|⟨a,len,cap,Vk,rest,n,hfu,rfl,rfl,_,hl,_,hlen,hE,_,_⟩
 ·exact⟨[],_,rfl,v8x T,by simp[uptoBulk],by simp,by simp⟩
 ·have hbb:uptoBulkAll (Vk.map (·.1))+1<=uptoBulk (DataW.slice (Vk.map (·.1)) (rest.map (·.1))):=by simp only[uptoBulk];omega
  have hel0:=y4b (Vk.map (·.1))
  rw[List.length_map] at hel0
  have hb1:uptoBulk (DataW.slice (Vk.map (·.1)) (rest.map (·.1)))<=1048576:=hb
  obtain⟨l,hl1,hl2⟩:=v81 (α:=Sg.car T) (Q:=fun i y=> ∃cs d,(Vk.map (·.1))[i]? =some d/\cs.length=D.size T/\VRow (hv W) (a.add (i*D.size T)) cs/\RowF D (hv W) cs (D.shape T y)/\f y<=uptoBulk d/\A y) len (fun i hi=>by
   have h1:=hE i hi
   rw[hc] at h1
   have h0:Vk[i]? =some Vk[i]:=List.getElem?_eq_getElem (by omega)
   rw[h0] at h1
   obtain⟨cs,h3,h4⟩:=Option.bind_eq_some_iff.1 h1
   obtain⟨h5,h6⟩:=v8z h3
   have h7:(Vk.map (·.1))[i]? =some Vk[i].1:=by rw[List.getElem?_map,h0];rfl
   have h8:=y8f h7
   obtain⟨y,hy,hm,hA⟩:=hel _ _ _ hfu h5 h4 (by omega)
   exact⟨y,cs,_,h7,h5,h6,hy,hm,hA⟩)
  refine⟨l,_,rfl,?_,?_,?_,fun y hy=> ?_⟩
  ·have:=RepF.ofRSl okP.ok (D:=D) (σ:=hv W) (v:= .slice (some a) l.length cap) (T:=T) (l:=l) ⟨some a,cap,rfl,by omega,by omega,fun i x hx=>by
    obtain⟨cs,d,_,h1,h2,h3,_⟩:=hl2 i x hx
    exact⟨a,cs,rfl,h1,h2,h3⟩⟩
   rw[hl1] at this;exact this
  ·have:=y5i (f:=f) (l:=l) (ds:=Vk.map (·.1)) (by rw[hl1,List.length_map,hlen]) fun i y d hy hd=>by
    obtain⟨_,d',h1,_,_,_,h2,_⟩:=hl2 i y hy
    rw[hd] at h1;cases h1;exact h2
   simp only;omega
  ·simp only;omega
  ·obtain⟨i,hi⟩:=List.getElem?_of_mem hy
   obtain⟨_,_,_,_,_,_,_,hA⟩:=hl2 i y hi
   exact hA
theorem q2y{fuel:Nat}{cs:List Value}{x:DataW H×List MemPlace}(h:DataW.trod enc Proofs.Tryz.prog W base spare held fuel 9 cs=some x): ∃s:ByteArray,cs=[.string s]/\s.size+1<=uptoBulk x.1:=by
 obtain⟨s,rfl,rfl,_⟩:=DataW.trod_string Proofs.Tryz.underlying9 h
 refine⟨s,rfl,?_⟩
 have:s.data.toList.length=s.size:=rfl
 simp only[uptoBulk];omega
theorem v4g{fuel:Nat}{cs:List Value}{x:DataW H×List MemPlace}(h:DataW.trod enc Proofs.Tryz.prog W base spare held fuel 70 cs=some x)(hb:uptoBulk x.1<=1048576): ∃(l:List ByteArray) (v:Value),cs=[v]/\RepF D (hv W) v (.sl C.str l)/\l.length<=uptoBulk x.1:=by
 obtain⟨l,v,h1,h2,_,h3,_⟩:=z88 (T:=C.str) (f:=fun _=>0) (A:=fun _=>True) Proofs.Tryz.underlying70 (by kernel_rfl) (fun n cs x _ _ hx _=>by
  obtain⟨s,rfl,_⟩:=q2y hx
  exact⟨s,Qo (.str _) q0h,Nat.zero_le _,trivial⟩) h hb
 exact⟨l,v,h1,h2,h3⟩
theorem z89{n:Int}(h:(Lit.int .i64 n).wf=true):InI n:=by
 simp only[Lit.wf,Bool.and_eq_true,decide_eq_true_eq] at h
 have a:=h.1
 have b:=h.2
 simp[IntKind.min] at a
 simp[IntKind.max] at b
 exact⟨a,b⟩
theorem y8g{σ:Hv}{a b:List Value}{s t:List (FV Sg)}(h:RowF D σ a s)(k:RowF D σ b t):RowF D σ (a++b) (s++t):=by
 refine⟨by rw[List.length_append,List.length_append,h.1,k.1],fun j v x hj hx=> ?_⟩
 rcases Nat.lt_or_ge j a.length with hlt|hge
 ·rw[List.getElem?_append_left hlt] at hj
  rw[List.getElem?_append_left (by rw[←h.1];exact hlt)] at hx
  exact h.2 j v x hj hx
 ·rw[List.getElem?_append_right hge] at hj
  rw[List.getElem?_append_right (by rw[←h.1];exact hge),←h.1] at hx
  exact k.2 _ v x hj hx
theorem v2l{fuel:Nat}{cs:List Value}{x:DataW H×List MemPlace}(hl:cs.length=4)(h:DataW.trod enc Proofs.Tryz.prog W base spare held fuel 72 cs=some x)(hb:uptoBulk x.1<=1048576): ∃y:Val,RowF D (hv W) cs (D.shape .val y)/\(1+y.4.length<=uptoBulk x.1/\y.3.size<=1048576/\y.4.length<=1048576/\InI y.2):=by
 obtain⟨xs,m,hfu,rfl,_,hn,hf⟩:=DataW.trod_struct Proofs.Tryz.underlying72 h
 have c3:Proofs.Tryz.prog.cellsOf 3=1:=by kernel_rfl
 have c9:Proofs.Tryz.prog.cellsOf 9=1:=by kernel_rfl
 have c70:Proofs.Tryz.prog.cellsOf 70=1:=by kernel_rfl
 match xs,hn with
 |[z0,z1,z2,z3],_=>
 have q0:=hf 0 _ rfl
 have q1:=hf 1 _ rfl
 have q2:=hf 2 _ rfl
 have q3:=hf 3 _ rfl
 match cs,hl with
 |[u0,u1,u2,u3],_=>
 simp only[List.map_cons,List.map_nil,uptoBulk,uptoBulkAll] at hb
 change DataW.trod enc Proofs.Tryz.prog W base spare held m 3 (List.take (Proofs.Tryz.prog.cellsOf 3) [u0,u1,u2,u3])=some z0 at q0
 rw[c3] at q0
 change DataW.trod enc Proofs.Tryz.prog W base spare held m 3 [u0]=some z0 at q0
 obtain⟨a0,e0,g0,w0⟩:=DataW.trod_int Proofs.Tryz.underlying3 q0
 have i0:=z89 w0
 change DataW.trod enc Proofs.Tryz.prog W base spare held m 3 (List.take (Proofs.Tryz.prog.cellsOf 3) [u1,u2,u3])=some z1 at q1
 rw[c3] at q1
 change DataW.trod enc Proofs.Tryz.prog W base spare held m 3 [u1]=some z1 at q1
 obtain⟨a1,e1,g1,w1⟩:=DataW.trod_int Proofs.Tryz.underlying3 q1
 have i1:=z89 w1
 change DataW.trod enc Proofs.Tryz.prog W base spare held m 9 (List.take (Proofs.Tryz.prog.cellsOf 9) [u2,u3])=some z2 at q2
 rw[c9] at q2
 change DataW.trod enc Proofs.Tryz.prog W base spare held m 9 [u2]=some z2 at q2
 obtain⟨a2,e2,g2⟩:=q2y q2
 change DataW.trod enc Proofs.Tryz.prog W base spare held m 70 (List.take (Proofs.Tryz.prog.cellsOf 70) [u3])=some z3 at q3
 rw[c70] at q3
 change DataW.trod enc Proofs.Tryz.prog W base spare held m 70 [u3]=some z3 at q3
 obtain⟨a3,v3,e3,r3,g3⟩:=v4g q3 (by omega)
 simp only[List.cons.injEq,and_true] at e0
 subst e0
 subst g0
 simp only[List.cons.injEq,and_true] at e1
 subst e1
 subst g1
 simp only[List.cons.injEq,and_true] at e2
 subst e2
 simp only[List.cons.injEq,and_true] at e3
 subst e3
 refine⟨Val.mk a0 a1 a2 a3,(Qo (.int _ _) (Qo (.int _ _) (Qo (.str _) (Qo r3 q0h)))),?_⟩
 simp only[List.map_cons,List.map_nil,uptoBulk,uptoBulkAll] at hb⊢
 exact⟨by omega,by omega,by omega,i1⟩
theorem y4c{fuel:Nat}{cs:List Value}{x:DataW H×List MemPlace}(hl:cs.length=5)(h:DataW.trod enc Proofs.Tryz.prog W base spare held fuel 160 cs=some x)(hb:uptoBulk x.1<=1048576): ∃y:Attr,RowF D (hv W) cs (D.shape .attr y)/\(y.value.list.length<=1048576/\y.value.text.size<=1048576/\InI y.value.number):=by
 obtain⟨xs,m,hfu,rfl,_,hn,hf⟩:=DataW.trod_struct Proofs.Tryz.underlying160 h
 have c9:Proofs.Tryz.prog.cellsOf 9=1:=by kernel_rfl
 have c72:Proofs.Tryz.prog.cellsOf 72=4:=by kernel_rfl
 match xs,hn with
 |[z0,z1],_=>
 have q0:=hf 0 _ rfl
 have q1:=hf 1 _ rfl
 match cs,hl with
 |[u0,u1,u2,u3,u4],_=>
 simp only[List.map_cons,List.map_nil,uptoBulk,uptoBulkAll] at hb
 change DataW.trod enc Proofs.Tryz.prog W base spare held m 9 (List.take (Proofs.Tryz.prog.cellsOf 9) [u0,u1,u2,u3,u4])=some z0 at q0
 rw[c9] at q0
 change DataW.trod enc Proofs.Tryz.prog W base spare held m 9 [u0]=some z0 at q0
 obtain⟨a0,e0,g0⟩:=q2y q0
 change DataW.trod enc Proofs.Tryz.prog W base spare held m 72 (List.take (Proofs.Tryz.prog.cellsOf 72) [u1,u2,u3,u4])=some z1 at q1
 rw[c72] at q1
 change DataW.trod enc Proofs.Tryz.prog W base spare held m 72 [u1,u2,u3,u4]=some z1 at q1
 obtain⟨a1,r1,g1⟩:=v2l rfl q1 (by omega)
 simp only[List.cons.injEq,and_true] at e0
 subst e0
 refine⟨Attr.mk a0 a1,(Qo (.str _) r1),?_⟩
 exact⟨g1.2.2.1,g1.2.1,g1.2.2.2⟩
theorem y8h{fuel:Nat}{cs:List Value}{x:DataW H×List MemPlace}(hl:cs.length=3)(h:DataW.trod enc Proofs.Tryz.prog W base spare held fuel 107 cs=some x)(hb:uptoBulk x.1<=1048576): ∃y:Ctxt,RowF D (hv W) cs (D.shape .ctx y)/\(y.attrs.length<=1048576/\(∀a∈y.attrs,a.value.list.length<=1048576/\a.value.text.size<=1048576/\InI a.value.number)/\y.key.size<=1048576):=by
 obtain⟨xs,m,hfu,rfl,_,hn,hf⟩:=DataW.trod_struct Proofs.Tryz.underlying107 h
 have c9:Proofs.Tryz.prog.cellsOf 9=1:=by kernel_rfl
 have c105:Proofs.Tryz.prog.cellsOf 105=1:=by kernel_rfl
 match xs,hn with
 |[z0,z1,z2],_=>
 have q0:=hf 0 _ rfl
 have q1:=hf 1 _ rfl
 have q2:=hf 2 _ rfl
 match cs,hl with
 |[u0,u1,u2],_=>
 simp only[List.map_cons,List.map_nil,uptoBulk,uptoBulkAll] at hb
 change DataW.trod enc Proofs.Tryz.prog W base spare held m 9 (List.take (Proofs.Tryz.prog.cellsOf 9) [u0,u1,u2])=some z0 at q0
 rw[c9] at q0
 change DataW.trod enc Proofs.Tryz.prog W base spare held m 9 [u0]=some z0 at q0
 obtain⟨a0,e0,g0⟩:=q2y q0
 change DataW.trod enc Proofs.Tryz.prog W base spare held m 9 (List.take (Proofs.Tryz.prog.cellsOf 9) [u1,u2])=some z1 at q1
 rw[c9] at q1
 change DataW.trod enc Proofs.Tryz.prog W base spare held m 9 [u1]=some z1 at q1
 obtain⟨a1,e1,g1⟩:=q2y q1
 change DataW.trod enc Proofs.Tryz.prog W base spare held m 105 (List.take (Proofs.Tryz.prog.cellsOf 105) [u2])=some z2 at q2
 rw[c105] at q2
 change DataW.trod enc Proofs.Tryz.prog W base spare held m 105 [u2]=some z2 at q2
 obtain⟨a2,v2,e2,r2,g2,b2,A2⟩:=z88 (T:=C.attr) (f:=fun _=>0) (A:=fun y:Attr=>y.value.list.length<=1048576/\y.value.text.size<=1048576/\InI y.value.number) Proofs.Tryz.underlying105 (by kernel_rfl) (fun n cs x _ hl hx hb=>by
  obtain⟨y,h1,h2⟩:=y4c hl hx hb
  exact⟨y,h1,Nat.zero_le _,h2⟩) q2 (by omega)
 simp only[List.cons.injEq,and_true] at e0
 subst e0
 simp only[List.cons.injEq,and_true] at e1
 subst e1
 simp only[List.cons.injEq,and_true] at e2
 subst e2
 refine⟨Ctxt.mk a0 a1 a2,(Qo (.str _) (Qo (.str _) (Qo r2 q0h))),?_⟩
 exact⟨by simp only;omega,A2,by simp only;omega⟩
theorem y4d{fuel:Nat}{cs:List Value}{x:DataW H×List MemPlace}(hl:cs.length=1)(h:DataW.trod enc Proofs.Tryz.prog W base spare held fuel 25 cs=some x)(hb:uptoBulk x.1<=1048576): ∃y:Subj,RowF D (hv W) cs (D.shape .subj y)/\(SubB y/\NumB y):=by
 obtain⟨xs,m,hfu,rfl,_,hn,hf⟩:=DataW.trod_struct Proofs.Tryz.underlying25 h
 have c23:Proofs.Tryz.prog.cellsOf 23=1:=by kernel_rfl
 match xs,hn with
 |[z0],_=>
 have q0:=hf 0 _ rfl
 match cs,hl with
 |[u0],_=>
 simp only[List.map_cons,List.map_nil,uptoBulk,uptoBulkAll] at hb
 change DataW.trod enc Proofs.Tryz.prog W base spare held m 23 (List.take (Proofs.Tryz.prog.cellsOf 23) [u0])=some z0 at q0
 rw[c23] at q0
 change DataW.trod enc Proofs.Tryz.prog W base spare held m 23 [u0]=some z0 at q0
 obtain⟨a0,v0,e0,r0,g0,b0,A0⟩:=z88 (T:=C.ctx) (f:=fun _=>0) (A:=fun y:Ctxt=>y.attrs.length<=1048576/\(∀a∈y.attrs,a.value.list.length<=1048576/\a.value.text.size<=1048576/\InI a.value.number)/\y.key.size<=1048576) Proofs.Tryz.underlying23 (by kernel_rfl) (fun n cs x _ hl hx hb=>by
  obtain⟨y,h1,h2⟩:=y8h hl hx hb
  exact⟨y,h1,Nat.zero_le _,h2⟩) q0 (by omega)
 simp only[List.cons.injEq,and_true] at e0
 subst e0
 refine⟨Subj.mk a0,(Qo r0 q0h),?_⟩
 exact⟨⟨by simp only;omega,fun c hc=>by have:=(A0 c hc).1;omega,fun c hc a ha=>by have:=(A0 c hc).2.1 a ha;omega,fun c hc=>by have:=(A0 c hc).2.2;omega⟩,fun c hc a ha=>((A0 c hc).2.1 a ha).2.2⟩
theorem y07{fuel:Nat}{cs:List Value}{x:DataW H×List MemPlace}(hl:cs.length=3)(h:DataW.trod enc Proofs.Tryz.prog W base spare held fuel 162 cs=some x)(hb:uptoBulk x.1<=1048576): ∃y:Rng,RowF D (hv W) cs (D.shape .range y)/\True:=by
 obtain⟨xs,m,hfu,rfl,_,hn,hf⟩:=DataW.trod_struct Proofs.Tryz.underlying162 h
 have c3:Proofs.Tryz.prog.cellsOf 3=1:=by kernel_rfl
 match xs,hn with
 |[z0,z1,z2],_=>
 have q0:=hf 0 _ rfl
 have q1:=hf 1 _ rfl
 have q2:=hf 2 _ rfl
 match cs,hl with
 |[u0,u1,u2],_=>
 simp only[List.map_cons,List.map_nil,uptoBulk,uptoBulkAll] at hb
 change DataW.trod enc Proofs.Tryz.prog W base spare held m 3 (List.take (Proofs.Tryz.prog.cellsOf 3) [u0,u1,u2])=some z0 at q0
 rw[c3] at q0
 change DataW.trod enc Proofs.Tryz.prog W base spare held m 3 [u0]=some z0 at q0
 obtain⟨a0,e0,g0,w0⟩:=DataW.trod_int Proofs.Tryz.underlying3 q0
 have i0:=z89 w0
 change DataW.trod enc Proofs.Tryz.prog W base spare held m 3 (List.take (Proofs.Tryz.prog.cellsOf 3) [u1,u2])=some z1 at q1
 rw[c3] at q1
 change DataW.trod enc Proofs.Tryz.prog W base spare held m 3 [u1]=some z1 at q1
 obtain⟨a1,e1,g1,w1⟩:=DataW.trod_int Proofs.Tryz.underlying3 q1
 have i1:=z89 w1
 change DataW.trod enc Proofs.Tryz.prog W base spare held m 3 (List.take (Proofs.Tryz.prog.cellsOf 3) [u2])=some z2 at q2
 rw[c3] at q2
 change DataW.trod enc Proofs.Tryz.prog W base spare held m 3 [u2]=some z2 at q2
 obtain⟨a2,e2,g2,w2⟩:=DataW.trod_int Proofs.Tryz.underlying3 q2
 have i2:=z89 w2
 simp only[List.cons.injEq,and_true] at e0
 subst e0
 subst g0
 simp only[List.cons.injEq,and_true] at e1
 subst e1
 subst g1
 simp only[List.cons.injEq,and_true] at e2
 subst e2
 subst g2
 refine⟨Rng.mk a0 a1 a2,(Qo (.int _ _) (Qo (.int _ _) (Qo (.int _ _) q0h))),?_⟩
 exact trivial
theorem w1c{fuel:Nat}{cs:List Value}{x:DataW H×List MemPlace}(hl:cs.length=5)(h:DataW.trod enc Proofs.Tryz.prog W base spare held fuel 28 cs=some x)(hb:uptoBulk x.1<=1048576): ∃y:Srv,RowF D (hv W) cs (D.shape .serve y)/\(y.5.length<=1048576/\y.4.size<=1048576):=by
 obtain⟨xs,m,hfu,rfl,_,hn,hf⟩:=DataW.trod_struct Proofs.Tryz.underlying28 h
 have c3:Proofs.Tryz.prog.cellsOf 3=1:=by kernel_rfl
 have c9:Proofs.Tryz.prog.cellsOf 9=1:=by kernel_rfl
 have c26:Proofs.Tryz.prog.cellsOf 26=1:=by kernel_rfl
 match xs,hn with
 |[z0,z1,z2,z3,z4],_=>
 have q0:=hf 0 _ rfl
 have q1:=hf 1 _ rfl
 have q2:=hf 2 _ rfl
 have q3:=hf 3 _ rfl
 have q4:=hf 4 _ rfl
 match cs,hl with
 |[u0,u1,u2,u3,u4],_=>
 simp only[List.map_cons,List.map_nil,uptoBulk,uptoBulkAll] at hb
 change DataW.trod enc Proofs.Tryz.prog W base spare held m 3 (List.take (Proofs.Tryz.prog.cellsOf 3) [u0,u1,u2,u3,u4])=some z0 at q0
 rw[c3] at q0
 change DataW.trod enc Proofs.Tryz.prog W base spare held m 3 [u0]=some z0 at q0
 obtain⟨a0,e0,g0,w0⟩:=DataW.trod_int Proofs.Tryz.underlying3 q0
 have i0:=z89 w0
 change DataW.trod enc Proofs.Tryz.prog W base spare held m 9 (List.take (Proofs.Tryz.prog.cellsOf 9) [u1,u2,u3,u4])=some z1 at q1
 rw[c9] at q1
 change DataW.trod enc Proofs.Tryz.prog W base spare held m 9 [u1]=some z1 at q1
 obtain⟨a1,e1,g1⟩:=q2y q1
 change DataW.trod enc Proofs.Tryz.prog W base spare held m 9 (List.take (Proofs.Tryz.prog.cellsOf 9) [u2,u3,u4])=some z2 at q2
 rw[c9] at q2
 change DataW.trod enc Proofs.Tryz.prog W base spare held m 9 [u2]=some z2 at q2
 obtain⟨a2,e2,g2⟩:=q2y q2
 change DataW.trod enc Proofs.Tryz.prog W base spare held m 9 (List.take (Proofs.Tryz.prog.cellsOf 9) [u3,u4])=some z3 at q3
 rw[c9] at q3
 change DataW.trod enc Proofs.Tryz.prog W base spare held m 9 [u3]=some z3 at q3
 obtain⟨a3,e3,g3⟩:=q2y q3
 change DataW.trod enc Proofs.Tryz.prog W base spare held m 26 (List.take (Proofs.Tryz.prog.cellsOf 26) [u4])=some z4 at q4
 rw[c26] at q4
 change DataW.trod enc Proofs.Tryz.prog W base spare held m 26 [u4]=some z4 at q4
 obtain⟨a4,v4,e4,r4,g4,b4,A4⟩:=z88 (T:=C.range) (f:=fun _=>0) (A:=fun y:Rng=>True) Proofs.Tryz.underlying26 (by kernel_rfl) (fun n cs x _ hl hx hb=>by
  obtain⟨y,h1,h2⟩:=y07 hl hx hb
  exact⟨y,h1,Nat.zero_le _,h2⟩) q4 (by omega)
 simp only[List.cons.injEq,and_true] at e0
 subst e0
 subst g0
 simp only[List.cons.injEq,and_true] at e1
 subst e1
 simp only[List.cons.injEq,and_true] at e2
 subst e2
 simp only[List.cons.injEq,and_true] at e3
 subst e3
 simp only[List.cons.injEq,and_true] at e4
 subst e4
 refine⟨Srv.mk a0 a1 a2 a3 a4,(Qo (.int _ _) (Qo (.str _) (Qo (.str _) (Qo (.str _) (Qo r4 q0h))))),?_⟩
 exact⟨by simp only;omega,by simp only;omega⟩
theorem v6o{fuel:Nat}{cs:List Value}{x:DataW H×List MemPlace}(hl:cs.length=2)(h:DataW.trod enc Proofs.Tryz.prog W base spare held fuel 62 cs=some x)(hb:uptoBulk x.1<=1048576): ∃y:Prq,RowF D (hv W) cs (D.shape .prereq y)/\True:=by
 obtain⟨xs,m,hfu,rfl,_,hn,hf⟩:=DataW.trod_struct Proofs.Tryz.underlying62 h
 have c3:Proofs.Tryz.prog.cellsOf 3=1:=by kernel_rfl
 have c9:Proofs.Tryz.prog.cellsOf 9=1:=by kernel_rfl
 match xs,hn with
 |[z0,z1],_=>
 have q0:=hf 0 _ rfl
 have q1:=hf 1 _ rfl
 match cs,hl with
 |[u0,u1],_=>
 simp only[List.map_cons,List.map_nil,uptoBulk,uptoBulkAll] at hb
 change DataW.trod enc Proofs.Tryz.prog W base spare held m 9 (List.take (Proofs.Tryz.prog.cellsOf 9) [u0,u1])=some z0 at q0
 rw[c9] at q0
 change DataW.trod enc Proofs.Tryz.prog W base spare held m 9 [u0]=some z0 at q0
 obtain⟨a0,e0,g0⟩:=q2y q0
 change DataW.trod enc Proofs.Tryz.prog W base spare held m 3 (List.take (Proofs.Tryz.prog.cellsOf 3) [u1])=some z1 at q1
 rw[c3] at q1
 change DataW.trod enc Proofs.Tryz.prog W base spare held m 3 [u1]=some z1 at q1
 obtain⟨a1,e1,g1,w1⟩:=DataW.trod_int Proofs.Tryz.underlying3 q1
 have i1:=z89 w1
 simp only[List.cons.injEq,and_true] at e0
 subst e0
 simp only[List.cons.injEq,and_true] at e1
 subst e1
 subst g1
 refine⟨Prq.mk a0 a1,(Qo (.str _) (Qo (.int _ _) q0h)),?_⟩
 exact trivial
theorem v6p{fuel:Nat}{cs:List Value}{x:DataW H×List MemPlace}(hl:cs.length=3)(h:DataW.trod enc Proofs.Tryz.prog W base spare held fuel 116 cs=some x)(hb:uptoBulk x.1<=1048576): ∃y:Tgt,RowF D (hv W) cs (D.shape .target y)/\y.3.length<=1048576:=by
 obtain⟨xs,m,hfu,rfl,_,hn,hf⟩:=DataW.trod_struct Proofs.Tryz.underlying116 h
 have c3:Proofs.Tryz.prog.cellsOf 3=1:=by kernel_rfl
 have c9:Proofs.Tryz.prog.cellsOf 9=1:=by kernel_rfl
 have c70:Proofs.Tryz.prog.cellsOf 70=1:=by kernel_rfl
 match xs,hn with
 |[z0,z1,z2],_=>
 have q0:=hf 0 _ rfl
 have q1:=hf 1 _ rfl
 have q2:=hf 2 _ rfl
 match cs,hl with
 |[u0,u1,u2],_=>
 simp only[List.map_cons,List.map_nil,uptoBulk,uptoBulkAll] at hb
 change DataW.trod enc Proofs.Tryz.prog W base spare held m 9 (List.take (Proofs.Tryz.prog.cellsOf 9) [u0,u1,u2])=some z0 at q0
 rw[c9] at q0
 change DataW.trod enc Proofs.Tryz.prog W base spare held m 9 [u0]=some z0 at q0
 obtain⟨a0,e0,g0⟩:=q2y q0
 change DataW.trod enc Proofs.Tryz.prog W base spare held m 3 (List.take (Proofs.Tryz.prog.cellsOf 3) [u1,u2])=some z1 at q1
 rw[c3] at q1
 change DataW.trod enc Proofs.Tryz.prog W base spare held m 3 [u1]=some z1 at q1
 obtain⟨a1,e1,g1,w1⟩:=DataW.trod_int Proofs.Tryz.underlying3 q1
 have i1:=z89 w1
 change DataW.trod enc Proofs.Tryz.prog W base spare held m 70 (List.take (Proofs.Tryz.prog.cellsOf 70) [u2])=some z2 at q2
 rw[c70] at q2
 change DataW.trod enc Proofs.Tryz.prog W base spare held m 70 [u2]=some z2 at q2
 obtain⟨a2,v2,e2,r2,g2⟩:=v4g q2 (by omega)
 simp only[List.cons.injEq,and_true] at e0
 subst e0
 simp only[List.cons.injEq,and_true] at e1
 subst e1
 subst g1
 simp only[List.cons.injEq,and_true] at e2
 subst e2
 refine⟨Tgt.mk a0 a1 a2,(Qo (.str _) (Qo (.int _ _) (Qo r2 q0h))),?_⟩
 simp only;omega
theorem u0t(fuel:Nat){cs:List Value}{x:DataW H×List MemPlace}(hl:cs.length=5)(h:DataW.trod enc Proofs.Tryz.prog W base spare held fuel 66 cs=some x)(hb:uptoBulk x.1<=1048576): ∃y:Ex,RowF D (hv W) cs (D.shape .ex y)/\wt y<=uptoBulk x.1/\EvB y:=by
 induction fuel using Nat.strongRecOn generalizing cs x with
 |_ fuel ih=>
 obtain⟨xs,m,hfu,rfl,_,hn,hf⟩:=DataW.trod_struct Proofs.Tryz.underlying66 h
 have c3:Proofs.Tryz.prog.cellsOf 3=1:=by kernel_rfl
 have c9:Proofs.Tryz.prog.cellsOf 9=1:=by kernel_rfl
 have c29:Proofs.Tryz.prog.cellsOf 29=1:=by kernel_rfl
 have c64:Proofs.Tryz.prog.cellsOf 64=1:=by kernel_rfl
 match xs,hn with
 |[z0,z1,z2,z3,z4],_=>
 have q0:=hf 0 _ rfl
 have q1:=hf 1 _ rfl
 have q2:=hf 2 _ rfl
 have q3:=hf 3 _ rfl
 have q4:=hf 4 _ rfl
 match cs,hl with
 |[u0,u1,u2,u3,u4],_=>
 simp only[List.map_cons,List.map_nil,uptoBulk,uptoBulkAll] at hb
 change DataW.trod enc Proofs.Tryz.prog W base spare held m 3 (List.take (Proofs.Tryz.prog.cellsOf 3) [u0,u1,u2,u3,u4])=some z0 at q0
 rw[c3] at q0
 change DataW.trod enc Proofs.Tryz.prog W base spare held m 3 [u0]=some z0 at q0
 obtain⟨a0,e0,g0,_⟩:=DataW.trod_int Proofs.Tryz.underlying3 q0
 change DataW.trod enc Proofs.Tryz.prog W base spare held m 9 (List.take (Proofs.Tryz.prog.cellsOf 9) [u1,u2,u3,u4])=some z1 at q1
 rw[c9] at q1
 change DataW.trod enc Proofs.Tryz.prog W base spare held m 9 [u1]=some z1 at q1
 obtain⟨a1,e1,g1⟩:=q2y q1
 change DataW.trod enc Proofs.Tryz.prog W base spare held m 9 (List.take (Proofs.Tryz.prog.cellsOf 9) [u2,u3,u4])=some z2 at q2
 rw[c9] at q2
 change DataW.trod enc Proofs.Tryz.prog W base spare held m 9 [u2]=some z2 at q2
 obtain⟨a2,e2,g2⟩:=q2y q2
 change DataW.trod enc Proofs.Tryz.prog W base spare held m 29 (List.take (Proofs.Tryz.prog.cellsOf 29) [u3,u4])=some z3 at q3
 rw[c29] at q3
 change DataW.trod enc Proofs.Tryz.prog W base spare held m 29 [u3]=some z3 at q3
 obtain⟨a3,v3,e3,r3,g3,b3,A3⟩:=z88 (T:=C.val) (f:=fun v:Val=>1+v.4.length) (A:=fun v:Val=>ValB v) Proofs.Tryz.underlying29 (by kernel_rfl) (fun n cs x _ hl hx hb=>by
  obtain⟨y,h1,h2,h3,h4⟩:=v2l hl hx hb
  exact⟨y,h1,h2,by omega,by omega⟩) q3 (by omega)
 change DataW.trod enc Proofs.Tryz.prog W base spare held m 64 (List.take (Proofs.Tryz.prog.cellsOf 64) [u4])=some z4 at q4
 rw[c64] at q4
 change DataW.trod enc Proofs.Tryz.prog W base spare held m 64 [u4]=some z4 at q4
 obtain⟨a4,v4,e4,r4,g4,b4,A4⟩:=z88 (T:=C.ex) (f:=wt) (A:=EvB) Proofs.Tryz.underlying64 (by kernel_rfl) (fun n cs x hn hl hx hb=>ih n (by omega) hl hx hb) q4 (by omega)
 simp only[List.cons.injEq,and_true] at e0
 subst e0
 subst g0
 simp only[List.cons.injEq,and_true] at e1
 subst e1
 simp only[List.cons.injEq,and_true] at e2
 subst e2
 simp only[List.cons.injEq,and_true] at e3
 subst e3
 simp only[List.cons.injEq,and_true] at e4
 subst e4
 refine⟨Ex.mk a0 a1 a2 a3 a4,(Qo (.int _ _) (Qo (.str _) (Qo (.str _) (Qo r3 (Qo r4 q0h))))),?_⟩
 have w1:wtV a3=(a3.map fun v:Val=>1+v.4.length).sum:=by
  clear r3 g3 b3 A3
  induction a3 with
  |nil=>rfl
  |cons v l ihl=>simp only[wtV,List.map_cons,List.sum_cons,ihl]
 have w2:wtL a4=(a4.map wt).sum:=by
  clear r4 g4 b4 A4
  induction a4 with
  |nil=>rfl
  |cons v l ihl=>simp only[wtL,List.map_cons,List.sum_cons,ihl]
 refine⟨?_,EvB.mk' A3 A4⟩
 simp only[List.map_cons,List.map_nil,uptoBulk,uptoBulkAll,wt]
 omega
theorem y4e{fuel:Nat}{cs:List Value}{x:DataW H×List MemPlace}(hl:cs.length=11)(h:DataW.trod enc Proofs.Tryz.prog W base spare held fuel 138 cs=some x)(hb:uptoBulk x.1<=1048576): ∃y:Rul,RowF D (hv W) cs (D.shape .rule y)/\True:=by
 obtain⟨xs,m,hfu,rfl,_,hn,hf⟩:=DataW.trod_struct Proofs.Tryz.underlying138 h
 have c9:Proofs.Tryz.prog.cellsOf 9=1:=by kernel_rfl
 have c28:Proofs.Tryz.prog.cellsOf 28=5:=by kernel_rfl
 have c66:Proofs.Tryz.prog.cellsOf 66=5:=by kernel_rfl
 match xs,hn with
 |[z0,z1,z2],_=>
 have q0:=hf 0 _ rfl
 have q1:=hf 1 _ rfl
 have q2:=hf 2 _ rfl
 match cs,hl with
 |[u0,u1,u2,u3,u4,u5,u6,u7,u8,u9,u10],_=>
 simp only[List.map_cons,List.map_nil,uptoBulk,uptoBulkAll] at hb
 change DataW.trod enc Proofs.Tryz.prog W base spare held m 9 (List.take (Proofs.Tryz.prog.cellsOf 9) [u0,u1,u2,u3,u4,u5,u6,u7,u8,u9,u10])=some z0 at q0
 rw[c9] at q0
 change DataW.trod enc Proofs.Tryz.prog W base spare held m 9 [u0]=some z0 at q0
 obtain⟨a0,e0,g0⟩:=q2y q0
 change DataW.trod enc Proofs.Tryz.prog W base spare held m 66 (List.take (Proofs.Tryz.prog.cellsOf 66) [u1,u2,u3,u4,u5,u6,u7,u8,u9,u10])=some z1 at q1
 rw[c66] at q1
 change DataW.trod enc Proofs.Tryz.prog W base spare held m 66 [u1,u2,u3,u4,u5]=some z1 at q1
 obtain⟨a1,r1,g1⟩:=u0t _ rfl q1 (by omega)
 change DataW.trod enc Proofs.Tryz.prog W base spare held m 28 (List.take (Proofs.Tryz.prog.cellsOf 28) [u6,u7,u8,u9,u10])=some z2 at q2
 rw[c28] at q2
 change DataW.trod enc Proofs.Tryz.prog W base spare held m 28 [u6,u7,u8,u9,u10]=some z2 at q2
 obtain⟨a2,r2,g2⟩:=w1c rfl q2 (by omega)
 simp only[List.cons.injEq,and_true] at e0
 subst e0
 refine⟨Rul.mk a0 a1 a2,(Qo (.str _) (y8g r1 r2)),?_⟩
 exact trivial
theorem y4f{fuel:Nat}{cs:List Value}{x:DataW H×List MemPlace}(hl:cs.length=13)(h:DataW.trod enc Proofs.Tryz.prog W base spare held fuel 34 cs=some x)(hb:uptoBulk x.1<=1048576): ∃y:Flg,RowF D (hv W) cs (D.shape .flag y)/\ ∀t∈y.7,t.3.length<=1048576:=by
 obtain⟨xs,m,hfu,rfl,_,hn,hf⟩:=DataW.trod_struct Proofs.Tryz.underlying34 h
 have c3:Proofs.Tryz.prog.cellsOf 3=1:=by kernel_rfl
 have c4:Proofs.Tryz.prog.cellsOf 4=1:=by kernel_rfl
 have c9:Proofs.Tryz.prog.cellsOf 9=1:=by kernel_rfl
 have c28:Proofs.Tryz.prog.cellsOf 28=5:=by kernel_rfl
 have c29:Proofs.Tryz.prog.cellsOf 29=1:=by kernel_rfl
 have c30:Proofs.Tryz.prog.cellsOf 30=1:=by kernel_rfl
 have c31:Proofs.Tryz.prog.cellsOf 31=1:=by kernel_rfl
 have c32:Proofs.Tryz.prog.cellsOf 32=1:=by kernel_rfl
 match xs,hn with
 |[z0,z1,z2,z3,z4,z5,z6,z7,z8],_=>
 have q0:=hf 0 _ rfl
 have q1:=hf 1 _ rfl
 have q2:=hf 2 _ rfl
 have q3:=hf 3 _ rfl
 have q4:=hf 4 _ rfl
 have q5:=hf 5 _ rfl
 have q6:=hf 6 _ rfl
 have q7:=hf 7 _ rfl
 have q8:=hf 8 _ rfl
 match cs,hl with
 |[u0,u1,u2,u3,u4,u5,u6,u7,u8,u9,u10,u11,u12],_=>
 simp only[List.map_cons,List.map_nil,uptoBulk,uptoBulkAll] at hb
 change DataW.trod enc Proofs.Tryz.prog W base spare held m 9 (List.take (Proofs.Tryz.prog.cellsOf 9) [u0,u1,u2,u3,u4,u5,u6,u7,u8,u9,u10,u11,u12])=some z0 at q0
 rw[c9] at q0
 change DataW.trod enc Proofs.Tryz.prog W base spare held m 9 [u0]=some z0 at q0
 obtain⟨a0,e0,g0⟩:=q2y q0
 change DataW.trod enc Proofs.Tryz.prog W base spare held m 3 (List.take (Proofs.Tryz.prog.cellsOf 3) [u1,u2,u3,u4,u5,u6,u7,u8,u9,u10,u11,u12])=some z1 at q1
 rw[c3] at q1
 change DataW.trod enc Proofs.Tryz.prog W base spare held m 3 [u1]=some z1 at q1
 obtain⟨a1,e1,g1,w1⟩:=DataW.trod_int Proofs.Tryz.underlying3 q1
 have i1:=z89 w1
 change DataW.trod enc Proofs.Tryz.prog W base spare held m 29 (List.take (Proofs.Tryz.prog.cellsOf 29) [u2,u3,u4,u5,u6,u7,u8,u9,u10,u11,u12])=some z2 at q2
 rw[c29] at q2
 change DataW.trod enc Proofs.Tryz.prog W base spare held m 29 [u2]=some z2 at q2
 obtain⟨a2,v2,e2,r2,g2,b2,A2⟩:=z88 (T:=C.val) (f:=fun _=>0) (A:=fun y:Val=>ValB y) Proofs.Tryz.underlying29 (by kernel_rfl) (fun n cs x _ hl hx hb=>by
  obtain⟨y,h1,h2⟩:=v2l hl hx hb
  exact⟨y,h1,Nat.zero_le _,(by have:=h2.2.1;omega),(by have:=h2.2.2.1;omega)⟩) q2 (by omega)
 change DataW.trod enc Proofs.Tryz.prog W base spare held m 4 (List.take (Proofs.Tryz.prog.cellsOf 4) [u3,u4,u5,u6,u7,u8,u9,u10,u11,u12])=some z3 at q3
 rw[c4] at q3
 change DataW.trod enc Proofs.Tryz.prog W base spare held m 4 [u3]=some z3 at q3
 obtain⟨a3,e3,g3⟩:=DataW.trod_bool Proofs.Tryz.underlying4 q3
 change DataW.trod enc Proofs.Tryz.prog W base spare held m 3 (List.take (Proofs.Tryz.prog.cellsOf 3) [u4,u5,u6,u7,u8,u9,u10,u11,u12])=some z4 at q4
 rw[c3] at q4
 change DataW.trod enc Proofs.Tryz.prog W base spare held m 3 [u4]=some z4 at q4
 obtain⟨a4,e4,g4,w4⟩:=DataW.trod_int Proofs.Tryz.underlying3 q4
 have i4:=z89 w4
 change DataW.trod enc Proofs.Tryz.prog W base spare held m 30 (List.take (Proofs.Tryz.prog.cellsOf 30) [u5,u6,u7,u8,u9,u10,u11,u12])=some z5 at q5
 rw[c30] at q5
 change DataW.trod enc Proofs.Tryz.prog W base spare held m 30 [u5]=some z5 at q5
 obtain⟨a5,v5,e5,r5,g5,b5,A5⟩:=z88 (T:=C.prereq) (f:=fun _=>0) (A:=fun y:Prq=>True) Proofs.Tryz.underlying30 (by kernel_rfl) (fun n cs x _ hl hx hb=>by
  obtain⟨y,h1,h2⟩:=v6o hl hx hb
  exact⟨y,h1,Nat.zero_le _,h2⟩) q5 (by omega)
 change DataW.trod enc Proofs.Tryz.prog W base spare held m 31 (List.take (Proofs.Tryz.prog.cellsOf 31) [u6,u7,u8,u9,u10,u11,u12])=some z6 at q6
 rw[c31] at q6
 change DataW.trod enc Proofs.Tryz.prog W base spare held m 31 [u6]=some z6 at q6
 obtain⟨a6,v6,e6,r6,g6,b6,A6⟩:=z88 (T:=C.target) (f:=fun _=>0) (A:=fun y:Tgt=>y.3.length<=1048576) Proofs.Tryz.underlying31 (by kernel_rfl) (fun n cs x _ hl hx hb=>by
  obtain⟨y,h1,h2⟩:=v6p hl hx hb
  exact⟨y,h1,Nat.zero_le _,h2⟩) q6 (by omega)
 change DataW.trod enc Proofs.Tryz.prog W base spare held m 32 (List.take (Proofs.Tryz.prog.cellsOf 32) [u7,u8,u9,u10,u11,u12])=some z7 at q7
 rw[c32] at q7
 change DataW.trod enc Proofs.Tryz.prog W base spare held m 32 [u7]=some z7 at q7
 obtain⟨a7,v7,e7,r7,g7,b7,A7⟩:=z88 (T:=C.rule) (f:=fun _=>0) (A:=fun y:Rul=>True) Proofs.Tryz.underlying32 (by kernel_rfl) (fun n cs x _ hl hx hb=>by
  obtain⟨y,h1,h2⟩:=y4e hl hx hb
  exact⟨y,h1,Nat.zero_le _,h2⟩) q7 (by omega)
 change DataW.trod enc Proofs.Tryz.prog W base spare held m 28 (List.take (Proofs.Tryz.prog.cellsOf 28) [u8,u9,u10,u11,u12])=some z8 at q8
 rw[c28] at q8
 change DataW.trod enc Proofs.Tryz.prog W base spare held m 28 [u8,u9,u10,u11,u12]=some z8 at q8
 obtain⟨a8,r8,g8⟩:=w1c rfl q8 (by omega)
 simp only[List.cons.injEq,and_true] at e0
 subst e0
 simp only[List.cons.injEq,and_true] at e1
 subst e1
 subst g1
 simp only[List.cons.injEq,and_true] at e2
 subst e2
 simp only[List.cons.injEq,and_true] at e3
 subst e3
 subst g3
 simp only[List.cons.injEq,and_true] at e4
 subst e4
 subst g4
 simp only[List.cons.injEq,and_true] at e5
 subst e5
 simp only[List.cons.injEq,and_true] at e6
 subst e6
 simp only[List.cons.injEq,and_true] at e7
 subst e7
 refine⟨Flg.mk a0 a1 a2 a3 a4 a5 a6 a7 a8,(Qo (.str _) (Qo (.int _ _) (Qo r2 (Qo (.bool _) (Qo (.int _ _) (Qo r5 (Qo r6 (Qo r7 r8)))))))),?_⟩
 exact A6
end
end Go.En
end
