/- The assignment of any subject in any layer, and in all of them; the arguments are of bounded bulk. This is part 7 of 7. Conditions: those in the statements. -/
import Derived.Test.YtfiomedjdipbgaaGreatDoorRows
import Derived.Test.YtfiomedjdipbgaaGreatDoorCards
import Derived.Test.YtfiomedjdipbgaaGreatDoorTie
import Derived.Test.YtfiomedjdipbgaaGreatDoorAL6
import Derived.KernelRfl
import Derived.WalkKit
import Derived.ProofKit
import Derived.OpenShut
import Derived.Deep.DeepHandedRow
import Derived.Deep.DeepWitnessRowRef
import Derived.Lay
import Derived.SevenTiedAt
noncomputable section
set_option maxRecDepth 100000
namespace Go.En
open Go Go.Fl Go.Fl.Lk Go.Fx Go.Dg
theorem w9n{nodes:List ByteArray}{edges:List Edg}{K:List ByteArray->Prop}(hN:nodes.length<=100000)(hE:edges.length<=100000)(h: ∀r,Asc r->(∀x∈r,x∈nodes)->K r):q8r nodes edges K:=by
 unfold q8r z9z
 refine Lp2.ind (fun (o:List ByteArray) (i:Int)=>0<=i/\i<=nodes.length/\Asc o/\ ∀x∈o,x∈nodes) (fun _ (i:Int)=>(nodes.length - i).toNat) ?_ ⟨by omega,by omega,w04,by simp⟩
 rintro o i ⟨i0,i1,ho,hs⟩ _
 have hlo:=v2p ho hs
 refine Cnd.mk (fun hc=>⟨by omega,fun n hn=>⟨by omega,fun m hm=>v2q hE fun q _ _=>Hi fun r _=>Cnd.mk (fun _=>⟨by omega,fun p hp=>z66 ho (by omega) fun o' ho' hmem=>⟨by unfold InI;omega,⟨by omega,by omega,ho',fun x hx=> ?_⟩,by omega⟩⟩) fun _=>⟨by unfold InI;omega,⟨by omega,by omega,ho,hs⟩,by omega⟩⟩⟩) fun _=>h o ho hs
 rcases (hmem x).1 hx with hx|rfl
 ·exact hs x hx
 ·exact getm hp
theorem j6b{nodes:List ByteArray}{edges:List Edg}{K:ByteArray->Bool->Prop}(hN:nodes.length<=100000)(hE:edges.length<=100000)(hs: ∀x∈nodes,x.size<=100)(h: ∀s b,s.size<=100->K s b):q8t nodes edges K:=by
 unfold q8t z90
 exact w9n hN hE fun r _ hr _=>Cnd.mk (fun _=>h _ _ sz0) fun hc=>⟨by omega,fun y hy=>h _ _ (hs y (hr y (getm hy)))⟩
theorem w6l: ∀(n:Nat) {l:List ByteArray} {e:Ex} {K:List ByteArray->Prop},ExS n e->Asc l->l.length+lim n<=1000000->(∀r,Asc r->r.length<=l.length+lim n->K r)->q1m l e K:=by
 intro n l e K he hl hB h X hX
 induction n using Nat.strongRecOn generalizing l e K with
 |_ n ih=>
 refine hX _ _ _ ?_
 unfold q90
 have lp:1<=lim n:=by cases n<;>simp[lim]
 refine Jn1.mk (fun r=>Asc r/\r.length<=l.length+1) (Cnd.mk (fun _=>z66 hl (by omega) fun r hr hmem=>⟨hr,?_⟩) fun _=>⟨hl,by omega⟩) fun r hr=> ?_
 ·have:=v2p hr (m:=e.3::l) fun x hx=>by rcases (hmem x).1 hx with hx|rfl<;>simp[*]
  simpa using this
 ·obtain⟨hr,hlen⟩:=hr
  have hk:=he.kids
  cases n with
  |zero=>
   have hk0:e.kids=[]:=he.2.2.2
   refine Lp2.ind (fun (q:List ByteArray) (i:Int)=>q=r/\0<=i) (fun _ _=>0) ?_ ⟨rfl,by omega⟩
   rintro q i ⟨rfl,i0⟩ _
   refine Cnd.mk (fun hc=> ?_) fun _=>h _ hr (by simp[lim];omega)
   rw[hk0]
   exact⟨by rw[hk0] at hc;simp at hc;omega,fun y hy=>by simp at hy⟩
  |succ n=>
  refine Lp2.ind (fun (q:List ByteArray) (i:Int)=>0<=i/\i<=e.kids.length/\Asc q/\q.length<=r.length+i.toNat*lim n) (fun _ (i:Int)=>(e.kids.length - i).toNat) ?_ ⟨by omega,by omega,hr,by simp⟩
  rintro q i ⟨i0,i1,hq,hql⟩ _
  have hle:i.toNat*lim n<=3*lim n:=Nat.mul_le_mul_right _ (by omega)
  have hB:l.length+(1+3*lim n)<=1000000:=hB
  refine Cnd.mk (fun hc=>⟨by omega,fun y hy=> ?_⟩) fun _=>h _ hq (by show q.length<=l.length+(1+3*lim n);omega)
  obtain⟨m,hm,hk⟩:=he.kid (getm hy)
  obtain rfl:m=n:=by omega
  rw[Jj]
  have hle2:i.toNat*lim m<=2*lim m:=Nat.mul_le_mul_right _ (by omega)
  refine ih m (by omega) hk hq (by omega) fun s hs hsl=>⟨by unfold InI;omega,⟨by omega,by omega,hs,?_⟩,by omega⟩
  rw[show (i+1).toNat=i.toNat+1 by omega,Nat.add_mul,Nat.one_mul];omega
theorem w6m{e:Ex}{K:List ByteArray->Prop}(he:ExS 4 e)(h: ∀r,Asc r->r.length<=121->K r):Rh e K:=by
 unfold Rh q91
 rw[Jj]
 exact w6l 4 he w04 (by decide) fun r hr hl=>h r hr (by rw[lim4] at hl;simpa using hl)
theorem w9o{l:List Seg}{K:List Edg->Prop}(hl:l.length<=100)(hs: ∀g∈l,SegS g)(h: ∀r,r.length<=100000->K r):Gj l K:=by
 unfold Gj z25
 refine Lp2.ind (fun (r:List Edg) (i:Int)=>0<=i/\i<=l.length/\r.length<=i.toNat*121) (fun _ (i:Int)=>(l.length - i).toNat) ?_ ⟨by omega,by omega,by simp⟩
 rintro r i ⟨i0,i1,hr⟩ _
 refine Cnd.mk (fun hc=>⟨by omega,fun g hg=> ?_⟩) fun _=>h _ (by omega)
 dsimp only;rw[Jj]
 refine w6m (hs g (getm hg)).cond fun q _ hq=> ?_
 refine Lp2.ind (fun (p:List Edg) (j:Int)=>0<=j/\j<=q.length/\p.length<=r.length+j.toNat) (fun _ (j:Int)=>(q.length - j).toNat) ?_ ⟨by omega,by omega,by simp⟩
 rintro p j ⟨j0,j1,hp⟩ _
 exact Cnd.mk (fun hc=>⟨by omega,fun _ _=>⟨by omega,fun _ _=>⟨by unfold Sml;simp;omega,by unfold InI;omega,⟨by omega,by omega,by simp;omega⟩,by omega⟩⟩⟩) fun _=>⟨by unfold InI;omega,⟨by omega,by omega,by omega⟩,by omega⟩
theorem w33{l:List Decl}{kind name:ByteArray}{K:Int->Prop}(h: ∀r,K r):q2e l kind name K:=by
 unfold q2e
 refine Lp1.ind (fun (i:Int)=>0<=i/\i<=l.length) (fun (i:Int)=>(l.length - i).toNat) ?_ ⟨by omega,by omega⟩
 rintro i ⟨i0,i1⟩
 (repeat' (first|exact h _|assumption|(unfold InI;omega)|omega|refine Cnd.mk (fun _=> ?_) fun _=> ?_|refine⟨?_,?_⟩|intro _))
theorem j5p: ∀(n:Nat) {l:List Decl} {segs:List ByteArray} {e:Ex} {K:Int->Prop},ExS n e->(∀r,K r)->q2f l segs e K:=by
 intro n l segs e K he h X hX
 induction n using Nat.strongRecOn generalizing e K with
 |_ n ih=>
 refine hX _ _ _ _ ?_
 unfold j85
 have lp:Lp1 (fun (Qa:Int) Bw=>e.5.length<=(9223372036854775807:Nat)->Cnd (Qa<(↑e.5.length:Int)) (((0:Int)<=Qa/\Qa<(↑e.5.length:Int))/\ ∀y2,e.5[Qa.toNat]? =some y2->X l segs (Ex.mk y2.1 y2.2 y2.3 y2.4 y2.5) fun Qe=>Cnd (Qe=(0:Int)) (InI (Qa+(1:Int))/\Bw (Qa+(1:Int))) (K Qe)) (K (0:Int))) (0:Int):=by
  refine Lp1.ind (fun (i:Int)=>0<=i/\i<=e.kids.length) (fun (i:Int)=>(e.kids.length - i).toNat) ?_ ⟨by omega,by omega⟩
  rintro i ⟨i0,i1⟩ _
  refine Cnd.mk (fun hc=>⟨by omega,fun y hy=> ?_⟩) fun _=>h _
  obtain⟨m,hm,hk⟩:=he.kid (getm hy)
  rw[Jj]
  exact ih m (by omega) hk fun r=>Cnd.mk (fun _=>⟨by unfold InI;omega,⟨by omega,by omega⟩,by omega⟩) fun _=>h _
 have jn:Jn0 (Lp1 (fun (Qa:Int) Bw=>e.5.length<=(9223372036854775807:Nat)->Cnd (Qa<(↑e.5.length:Int)) (((0:Int)<=Qa/\Qa<(↑e.5.length:Int))/\ ∀y2,e.5[Qa.toNat]? =some y2->X l segs (Ex.mk y2.1 y2.2 y2.3 y2.4 y2.5) fun Qe=>Cnd (Qe=(0:Int)) (InI (Qa+(1:Int))/\Bw (Qa+(1:Int))) (K Qe)) (K (0:Int))) (0:Int)) fun Qa=>Jf e.1 fun Qd=>Cnd (Qd=true) (q2e l e.2 e.3 fun Qg=>Cnd (Qg=(0:Int)) (K (11:Int)) (q8p Qg (Ex.mk e.1 e.2 e.3 e.4 e.5) fun Qf=>Cnd (Qf=true) Qa (K (8:Int)))) Qa:=
  ⟨True,fun _=>lp,q1s fun _ _=>Cnd.mk (fun _=>w33 fun _=>Cnd.mk (fun _=>h _) fun _=>v6h fun _=>Cnd.mk (fun _=>trivial) fun _=>h _) fun _=>trivial⟩
 exact Cnd.mk (fun _=>Hi fun _ _=>Cnd.mk (fun _=>jn) fun _=>h _) fun _=>jn
theorem w1d{l:List Decl}{s:Srv}{K:Int->Prop}(h: ∀r,K r):z10 l s K:=by
 unfold z10 j4e
 (repeat' (first|exact h _|refine w33 fun _=> ?_|assumption|(unfold InI;omega)|omega|refine Cnd.mk (fun _=> ?_) fun _=> ?_|refine⟨?_,?_⟩|intro _))
theorem j7a{v:Envt}{f:Flg}{K:Int->Prop}(hv:EnvS v)(hf:FlgS f)(h: ∀r,K r):Rj v f K:=by
 unfold Rj q8u
 have ev:Envt.mk (Sett.mk v.1.1 v.1.2 v.1.3) v.2 v.3 v.4 v.5 v.6=v:=rfl
 rw[ev]
 have hsl:=hv.slen
 have hrl:=hf.rlen
 refine z35 (by omega) ?_
 refine Lp2.ind (fun (i:Int) (_:List ByteArray)=>0<=i/\i<=f.needs.length) (fun (i:Int) _=>(f.needs.length - i).toNat) ?_ ⟨by omega,by omega⟩
 rintro i ks ⟨i0,i1⟩ _
 refine Cnd.mk (fun hc=>⟨by omega,fun q hq=>j2x fun r hr=>Cnd.mk (fun _=>h _) fun hn=>⟨by omega,fun q hq=>⟨?_,fun g hg _=>Cnd.mk (fun _=>h _) fun _=>⟨by unfold InI;omega,⟨by omega,by omega⟩,by omega⟩⟩⟩⟩) fun _=> ?_
 ·rcases hr with ⟨a,_⟩|⟨a,b,_⟩<;>omega
 refine Lp2.ind (fun (i:Int) (_:List ByteArray)=>0<=i/\i<=f.rules.length) (fun (i:Int) _=>(f.rules.length - i).toNat) ?_ ⟨by omega,by omega⟩
 rintro i ks ⟨i0,i1⟩ _
 refine Cnd.mk (fun hc=>⟨by omega,fun r hr=> ?_⟩) fun _=> ?_
 ·dsimp only;rw[Jj]
  exact j5p 4 (hf.rules r (getm hr)).cond fun _=>Cnd.mk (fun _=>⟨by omega,fun r hr=>w1d fun _=>Cnd.mk (fun _=>⟨by unfold InI;omega,⟨by omega,by omega⟩,by omega⟩) fun _=>h _⟩) fun _=>h _
 ·exact w1d fun _=>Cnd.mk (fun _=>z0f (by omega) (fun r hr=>(hf.rules r hr).cond) fun o n b ho=>Cnd.mk (fun _ _=>Cnd.mk (fun _=>h _) fun _=>h _) fun _=>h _) fun _=>h _
theorem z4z{v:Envt}{i:Int}{K:Int->Prop}(hv:EnvS v)(i0:0<=i)(i1:i<v.experiments.length)(h: ∀r,K r):Wk v i K:=by
 unfold Wk Rl
 have ev:Envt.mk (Sett.mk v.1.1 v.1.2 v.1.3) v.2 v.3 v.4 v.5 v.6=v:=rfl
 rw[ev]
 have hsl:=hv.slen
 have hxl:=hv.xlen
 refine⟨⟨i0,i1⟩,fun x hx=>z1a fun k hk=>j2x fun g hg=>Cnd.mk (fun _=>h _) fun hk0=>Cnd.mk (fun _=>h _) fun hg0=> ?_⟩
 have hX:=hv.exps x (getm hx)
 have kb:0<=k/\k<(v.layers.length:Int):=by rcases hk with ⟨a,_⟩|⟨a,b,_⟩<;>omega
 have gb:0<=g/\g<(v.flags.length:Int):=by rcases hg with ⟨a,_⟩|⟨a,b,_⟩<;>omega
 refine Lp1.ind (fun (j:Int)=>0<=j/\j<=x.arms.length) (fun (j:Int)=>(x.arms.length - j).toNat) ?_ ⟨by omega,by omega⟩
 rintro j ⟨j0,j1⟩ _
 refine Cnd.mk (fun hc=>⟨by omega,fun _ _=>⟨gb,fun _ _ _=>Cnd.mk (fun _=>h _) fun _=>⟨by unfold InI;omega,⟨by omega,by omega⟩,by omega⟩⟩⟩) fun _=> ?_
 refine z35 (by omega) ?_
 rw[Jj]
 refine j5p 4 hX.cond fun _=>Cnd.mk (fun _=>Cnd.mk (fun _=>h _) fun _=>⟨kb,fun l hl=> ?_⟩) fun _=>h _
 refine Lp3.ind (fun (t:List Spn) (j:Int) (_:List ByteArray)=>0<=j/\j<=v.experiments.length/\(t.length:Int)<=1+j*10000) (fun _ (j:Int) _=>(v.experiments.length - j).toNat) ?_ ⟨by omega,by omega,by simp⟩
 rintro t j ks ⟨j0,j1,ht⟩
 refine Cnd.mk (fun hc=>⟨by omega,fun y hy=> ?_⟩) fun _=>w53 fun c _ _=>Cnd.mk (fun _=>h _) fun _=> ?_
 ·have hcl:=(hv.exps y (getm hy)).claims.len
  exact Cnd.mk (fun _=>Cnd.mk (fun _=>⟨by unfold InI;omega,⟨by omega,by omega,by omega⟩,by omega⟩) fun _=>⟨by unfold Sml;simp;omega,by unfold InI;omega,⟨by omega,by omega,by simp;omega⟩,by omega⟩) fun _=>⟨by unfold InI;omega,⟨by omega,by omega,by omega⟩,by omega⟩
 ·refine Lp4.ind (fun (j:Int) (_ _:List Spn) (_:List ByteArray)=>0<=j/\j<=v.experiments.length) (fun (j:Int) _ _ _=>(v.experiments.length - j).toNat) ?_ ⟨by omega,by omega⟩
  rintro j a b c ⟨j0,j1⟩
  (repeat' (first|exact h _|assumption|(unfold InI;omega)|omega|refine Cnd.mk (fun _=> ?_) fun _=> ?_|refine⟨?_,?_⟩|intro _))
theorem j28{v:Envt}{K:ByteArray->Int->Prop}(hv:EnvS v)(h: ∀s r,K s r):U0 v K:=by
 unfold U0 q39
 have hsl:=hv.slen
 have hfl:=hv.flen
 have hxl:=hv.xlen
 have ev:Envt.mk (Sett.mk v.1.1 v.1.2 v.1.3) v.2 v.3 v.4 v.5 v.6=v:=rfl
 rw[ev]
 have s8:(ByteArray.mk (Array.mk [115,101,103,109,101,110,116,32])).size=8:=rfl
 have s5:(ByteArray.mk (Array.mk [102,108,97,103,32])).size=5:=rfl
 have s11:(ByteArray.mk (Array.mk [101,120,112,101,114,105,109,101,110,116,32])).size=11:=rfl
 have sk: ∀x∈v.segments.map Seg.key,x.size<=100:=fun x hx=>by obtain⟨g,hg,rfl⟩:=List.mem_map.1 hx;exact (hv.segs g hg).key
 have fk: ∀x∈v.flags.map Flg.key,x.size<=100:=fun x hx=>by obtain⟨g,hg,rfl⟩:=List.mem_map.1 hx;exact (hv.flags g hg).key
 have nlen:(v.flags.flatMap z36).length<=4*v.flags.length:=by
  have: ∀l:List Flg,(∀f∈l,FlgS f)->(l.flatMap z36).length<=4*l.length:=by
   intro l
   induction l with
   |nil=>simp
   |cons f l ih=>intro hf;have h1:=(hf f (by simp)).nlen;have h2:=ih fun g hg=>hf g (by simp[hg]);simp only[List.flatMap_cons,List.length_append,z36,List.length_map,List.length_cons] at*;omega
  exact this _ hv.flags
 refine j5n hv fun _=>Cnd.mk (fun _=>z35 (by omega) ?_) fun _=>h _ _
 refine Lp2.ind (fun (i:Int) (ks:List ByteArray)=>0<=i/\i<=v.segments.length/\ks=v.segments.map Seg.key) (fun (i:Int) _=>(v.segments.length - i).toNat) ?_ ⟨by omega,by omega,rfl⟩
 rintro i ks ⟨i0,i1,rfl⟩ _
 refine Cnd.mk (fun hc=>⟨by omega,fun g hg=>Cnd.mk (fun _=>⟨by unfold InI;omega,⟨by omega,by omega,rfl⟩,by omega⟩) fun _=>⟨by omega,fun g hg=> ?_⟩⟩) fun _=> ?_
 ·dsimp only;rw[Jj]
  refine j5p 4 (hv.segs g (getm hg)).cond fun _=>Cnd.mk (fun _=>⟨by unfold InI;omega,⟨by omega,by omega,rfl⟩,by omega⟩) fun _=>⟨by omega,fun g hg=>⟨?_,h _ _⟩⟩
  have:=(hv.segs g (getm hg)).key
  rw[s8];omega
 refine w9o (by omega) hv.segs fun es hes=>j6b (by simp;omega) hes sk fun s b hs=>Cnd.mk (fun _=>⟨by rw[s8];omega,h _ _⟩) fun _=> ?_
 refine Lp3.ind (fun (i:Int) (_:List ByteArray) (_:List Edg)=>0<=i/\i<=v.flags.length) (fun (i:Int) _ _=>(v.flags.length - i).toNat) ?_ ⟨by omega,by omega⟩
 rintro i ks es ⟨i0,i1⟩ _
 refine Cnd.mk (fun hc=>⟨by omega,fun f hf=>j7a hv (hv.flags f (getm hf)) fun _=>Cnd.mk (fun _=>⟨by unfold InI;omega,⟨by omega,by omega⟩,by omega⟩) fun _=>⟨by omega,fun g hg=>⟨?_,h _ _⟩⟩⟩) fun _=> ?_
 ·have:=(hv.flags g (getm hg)).key
  rw[s5];omega
 refine w0r (by omega) (j60 (by omega) (fun f hf=>by have:=(hv.flags f hf).nlen;omega) (j6b (by simp;omega) (by omega) fk fun s b hs=>Cnd.mk (fun _=>⟨by rw[s5];omega,h _ _⟩) fun _=> ?_))
 refine Lp5.ind (fun (i:Int) (_:List ByteArray) (_ _:List Edg) (_:List ByteArray)=>0<=i/\i<=v.experiments.length) (fun (i:Int) _ _ _ _=>(v.experiments.length - i).toNat) ?_ ⟨by omega,by omega⟩
 rintro i a b c d ⟨i0,i1⟩ _
 refine Cnd.mk (fun hc=>z4z hv i0 hc fun _=>Cnd.mk (fun _=>⟨by unfold InI;omega,⟨by omega,by omega⟩,by omega⟩) fun _=>⟨by omega,fun x hx=>⟨?_,h _ _⟩⟩) fun _=>h _ _
 have:=(hv.exps x (getm hx)).key
 rw[s11];omega
theorem j6c{v:Envt}{K:Bool->Prop}(hv:EnvS v)(h: ∀r,K r):Rm v K:=by
 unfold Rm z91
 exact j28 hv fun _ _=>h _
end Go.En
end
noncomputable section
set_option maxRecDepth 100000
namespace Go.En
open Go Go.Fl Go.Fl.Lk Go.Fx Go.Sg
def sgK:List ByteArray:=[ByteArray.mk (Array.mk [97,108,112,104,97]),ByteArray.mk (Array.mk [98,101,116,97]),ByteArray.mk (Array.mk [103,97,109,109,97])]
structure GS(l:List Seg):Prop where
 keys:l.map Seg.key=sgK.take l.length
 cond: ∀(i:Nat) g,l[i]? =some g->DrE (sgK.take i) 20000 g.5
theorem DrE.le{segs:List ByteArray}{a b:Nat}{e:Ex}(h:DrE segs a e)(hab:a<=b):DrE segs b e:=⟨Nat.le_trans h.wt hab,h.nms,h.ev⟩
theorem DrE.eta{segs:List ByteArray}{w:Nat}{e:Ex}(h:DrE segs w e):DrE segs w (Ex.mk e.1 e.2 e.3 e.4 e.5):=by rw[Jj];exact h
theorem y5c:GS []:=⟨rfl,by simp⟩
theorem y33{segs:List ByteArray}:DrE segs 20000 (Ex.mk 0 (ByteArray.mk (Array.mk [])) (ByteArray.mk (Array.mk [])) [] []):=
 ⟨by simp[wt,wtV,wtL],fun x hx=>by rw[w06] at hx;rcases hx with ⟨h,_⟩|⟨k,hk,_⟩<;>simp at*,EvB.mk' (by simp) (by simp)⟩
theorem w6n{list:List Int}{at_ hold:Int}{salt hkind:ByteArray}{attrs:List Decl}{flags:List Flg}{layers:List Lay_}{expers:List Exper}
  {K:Int->ByteArray->ByteArray->Int->List Decl->List Seg->List Flg->List Lay_->List Exper->Prop}(hD:DS list at_)
  (h: ∀a segs,DS list a->segs.length<=3->(∀g∈segs,SegS g)->GS segs->K a salt hkind hold attrs segs flags layers expers):q5j list at_ salt hkind hold attrs [] flags layers expers K:=by
 unfold q5j z5a
 refine Qh hD (by decide) fun n a n0 n1 hD=>j2u n0 (by simp only[List.length_cons,List.length_nil];omega) ?_
 rw[show ([ByteArray.mk (Array.mk [97,108,112,104,97]),ByteArray.mk (Array.mk [98,101,116,97]),ByteArray.mk (Array.mk [103,97,109,109,97])]:List ByteArray)=sgK from rfl]
 have nms: ∀s∈List.take n.toNat sgK,s.size<=100:=fun s hs=>by
  have:=List.mem_of_mem_take hs
  have k: ∀s∈sgK,s.size<=100:=by decide
  exact k s this
 have hlen:(List.take n.toNat sgK).length<=3:=by
  rw[List.length_take];have:sgK.length=3:=rfl;omega
 have hfst: ∀i,i<=(List.take n.toNat sgK).length->(List.take n.toNat sgK).take i=sgK.take i:=fun i hi=>by
  rw[List.take_take,Nat.min_eq_left]
  rw[List.length_take] at hi;omega
 generalize List.take n.toNat _=l at nms hlen hfst
 refine Lp3.ind (fun (i a:Int) (gs:List Seg)=>DS list a/\0<=i/\i<=l.length/\(gs.length:Int)=i/\(∀g∈gs,SegS g)/\GS gs) (fun (i:Int) _ _=>(3 - i).toNat) ?_ ⟨hD,Int.le_refl 0,by omega,rfl,by simp,y5c⟩
 rintro i a gs ⟨hD,i0,i1,hl,hg,hgs⟩ _
 refine Cnd.mk (fun hc=>⟨by omega,fun y hy=>w0k hD fun inc a hi1 _ hD=>w0k hD fun exc a he1 _ hD=> ?_⟩) fun _=>h _ _ hD (by omega) hg hgs
 refine Jn2.mk (fun k a=>k.size<=100/\DS list a) (Qh hD (by decide) fun r a r0 r1 hD=>Cnd.mk (fun _=>⟨by decide,hD⟩) fun _=>⟨by decide,hD⟩) fun kind a hx=> ?_
 obtain⟨hkd,hD⟩:=hx
 refine Jn1.mk (fun x=>(ExS 4 (Ex.mk x.1 x.2.1 x.2.2.1 x.2.2.2.1 x.2.2.2.2.1)/\DrE (l.take i.toNat) 20000 (Ex.mk x.1 x.2.1 x.2.2.1 x.2.2.2.1 x.2.2.2.2.1))/\DS list x.2.2.2.2.2.1) (Qh hD (by decide) fun r a r0 r1 hD=>Cnd.mk (fun _=>⟨by omega,?_⟩) fun _=>⟨⟨ExS.le (n:=0) ⟨.nil,⟨sz0,sz0⟩,opl (by simp),rfl⟩ (by omega),y33⟩,hD⟩) fun x hx=> ?_
 ·exact j5j ((v2e fun s hs=>nms s (List.mem_of_mem_take (List.mem_of_mem_drop hs))).and y02) 2 (by omega) (by decide) (by decide) hD fun e a he hD=>⟨⟨he.1.eta,(he.2.le (by decide)).eta⟩,hD⟩
 ·have hk:l[i.toNat]? =some y:=hy
  refine⟨by unfold Sml;simp;omega,by unfold InI;omega,⟨hx.2,by omega,by omega,by simp;omega,Zt hg ⟨nms _ (getm hy),hkd,hi1,he1,hx.1.1⟩,?_,fun j g hj=> ?_⟩,by omega⟩
  ·rw[List.map_append,hgs.keys,List.length_append,List.length_singleton,←hfst _ (by omega),←hfst _ (by omega),List.take_add_one,show l[gs.length]? =some y by rw[←hk];congr 1;omega]
   rfl
  ·rcases Nat.lt_or_ge j gs.length with hlt|hge
   ·rw[List.getElem?_append_left hlt] at hj;exact hgs.cond j g hj
   ·rw[List.getElem?_append_right hge] at hj
    have hj0:j=gs.length:=by
     rcases Nat.eq_zero_or_pos (j - gs.length) with h0|h0
     ·omega
     ·rw[List.getElem?_eq_none (by simp;omega)] at hj;cases hj
    subst hj0
    simp only[Nat.sub_self,List.getElem?_cons_zero,Option.some.injEq] at hj
    subst hj
    rw[←hfst _ (by omega),show gs.length=i.toNat by omega]
    exact hx.1.2
end Go.En
end
noncomputable section
set_option maxRecDepth 100000
namespace Go.En
open Go Go.Fl Go.Fl.Lk Go.Fx Go.Dg
theorem w6o{l:List ByteArray}{n:Nat}{p:ByteArray->Prop}(h: ∀x∈l,p x): ∀x∈l.take n,p x:=fun x hx=>h x (List.mem_of_mem_take hx)
theorem v6w{ds:List Decl}(hd: ∀d∈ds,d.kind.size<=100/\d.name.size<=100):EnvS (Envt.mk (Sett.mk (ByteArray.mk (Array.mk [])) (ByteArray.mk (Array.mk [])) 0) ds [] [] [] []):=
 ⟨sz0,hd,by simp,by simp,by simp,by simp,by simp,by simp,by simp,by simp⟩
theorem u1t:ExS 4 (Ex.mk 1 (ByteArray.mk (Array.mk [])) (ByteArray.mk (Array.mk [])) [] []):=ExS.le (n:=0) ⟨VsS.nil,⟨sz0,sz0⟩,opl (by simp),rfl⟩ (by decide)
end Go.En
end
noncomputable section
set_option maxRecDepth 100000
namespace Go.En
open Go Go.Fl Go.Fl.Lk Go.Fx Go.Dg
def Cov(l:List Rng):Prop:= ∀b:Int,0<=b->b<10000-> ∃r∈l,r.1<=b/\b<r.2
theorem j6d{list:List Int}{at_ n:Int}{K:List Rng->Int->Prop}(hD:DS list at_)(hn:1<=n)(hn':n<=100)(h: ∀l a,SplS n l->Cov l->DS list a->K l a):q76 list at_ n K:=by
 unfold q76 j8x
 have cv1: ∀{l:List Rng} {x y z:Int},(∀b:Int,0<=b->b<x-> ∃r∈l,r.1<=b/\b<r.2)-> ∀b:Int,0<=b->b<y-> ∃r∈l++[Rng.mk x y z],r.1<=b/\b<r.2:=fun {l x y z} hc b h0 h1=>by
  by_cases hb:b<x
  ·obtain⟨r,hr,hh⟩:=hc b h0 hb
   exact⟨r,List.mem_append_left _ hr,hh⟩
  ·exact⟨_,List.mem_append_right _ List.mem_cons_self,by simp only;omega,h1⟩
 refine Jn4.mk (fun l at_ last a=>DS list a/\l.length<=3/\0<=at_/\(∀b:Int,0<=b->b<at_-> ∃r∈l,r.1<=b/\b<r.2)/\ ∀r∈l,0<=r.lo/\r.hi<=10000/\1<=r.variation/\r.variation<=n) ?_ ?_
 ·refine Lp5.ind (fun l at_ last i a=>DS list a/\0<=i/\i<=3/\(l.length:Int)=i/\0<=at_/\at_<=10000/\0<=last/\last<=n/\(∀b:Int,0<=b->b<at_-> ∃r∈l,r.1<=b/\b<r.2)/\ ∀r∈l,0<=r.lo/\r.hi<=10000/\1<=r.variation/\r.variation<=n) (fun _ _ _ i _=>(3 - i).toNat) ?_ ⟨hD,by omega,by omega,rfl,by omega,by omega,by omega,by omega,fun b h0 h1=>by omega,by simp⟩
  rintro l at_ last i a ⟨hD,i0,i1,hl,a0,a1,l0,l1,hcv,hr⟩
  refine Qh hD (by decide) fun q a q0 q1 hD=>Cnd.mk (fun _=>Cnd.mk (fun _=>⟨by unfold InI;omega,q56 hD (by decide) fun w a w0 w1 hD=>⟨by unfold InI;omega,Qh hD hn fun v a v0 v1 hD=>⟨by unfold InI;omega,?_⟩⟩⟩) fun _=> ?_) fun _=> ?_
  ·have m0:=Int.tmod_nonneg n (show 0<=1+v by omega);have m1:=Int.tmod_lt_of_pos (1+v) (b:=n) (by omega)
   refine Jn1.mk (fun v=>1<=v/\v<=n) (Cnd.mk (fun _=>⟨by omega,by unfold InI;omega,by omega,by omega⟩) fun _=>⟨by omega,by omega⟩) fun v hv=>Cnd.mk (fun _=>⟨hD,by omega,a0,hcv,hr⟩) fun _=> ?_
   exact⟨by unfold Sml;simp;omega,by unfold InI;omega,⟨hD,by omega,by omega,by simp;omega,by omega,by omega,by omega,by omega,cv1 hcv,Zt hr ⟨by simp only;omega,by simp only;omega,by simp only;omega,by simp only;omega⟩⟩,by omega⟩
  ·exact⟨hD,by omega,a0,hcv,hr⟩
  ·exact⟨hD,by omega,a0,hcv,hr⟩
 ·rintro l at_ last a ⟨hD,hl,a0,hcv,hr⟩
  refine Qh hD hn fun v a v0 v1 hD=>⟨by unfold InI;omega,?_⟩
  have m0:=Int.tmod_nonneg n (show 0<=1+v by omega);have m1:=Int.tmod_lt_of_pos (1+v) (b:=n) (by omega)
  refine Jn1.mk (fun v=>1<=v/\v<=n) (Cnd.mk (fun _=>⟨by omega,by unfold InI;omega,by omega,by omega⟩) fun _=>⟨by omega,by omega⟩) fun v hv=> ?_
  exact⟨by unfold Sml;simp;omega,h _ _ ⟨by simp;omega,Zt hr ⟨a0,by simp,hv.1,hv.2⟩⟩ (cv1 hcv) hD⟩
structure SrvD(n:Int)(s:Srv):Prop where
 ok:SrvS n s
 cov:s.variation=0->Cov s.split
theorem j6e{list:List Int}{at_ n:Int}{K:Srv->Int->Prop}(hD:DS list at_)(hn:1<=n)(hn':n<=100)(h: ∀s a,SrvD n s->DS list a->K s a):z5c list at_ n K:=by
 unfold z5c j8y
 have tt: ∀s∈j1o,s.size<=100:=by decide
 have key:(ByteArray.mk (Array.mk [107,101,121])).size<=100:=by decide
 refine Qh hD (by decide) fun r a r0 r1 hD=>Cnd.mk (fun _=>Qh hD hn fun v a v0 v1 hD=>⟨by unfold InI;omega,h _ _ ⟨⟨sz0,⟨by simp only;omega,by simp only;omega⟩,⟨by simp,by simp⟩,sz0,sz0⟩,fun h0=>by simp only at h0;omega⟩ hD⟩) fun _=> ?_
 refine z2h hD fun t a ht hD=>j6d hD hn hn' fun l a hl hcv hD=>q3j fun ds _ hds=>Qh hD (by decide) fun q a q0 q1 hD _=> ?_
 have usr:(ByteArray.mk (Array.mk [117,115,101,114])).size<=100:=by decide
 have ok: ∀{k b:ByteArray},k.size<=100->b.size<=100->SrvD n (Srv.mk 0 k b t l):=fun hk hb=>⟨⟨hk,⟨by simp,by simp only;omega⟩,hl,hb,tt _ ht⟩,fun _=>hcv⟩
 refine Cnd.mk (fun _=>⟨by omega,fun y hy=>Cnd.mk (fun _=>h _ _ (ok usr key) hD) fun _=>⟨by omega,fun z hz=>⟨by omega,fun u hu=>h _ _ (ok (hds z (getm hz)).1 (hds u (getm hu)).2.1) hD⟩⟩⟩) fun _=>h _ _ (ok usr key) hD
theorem w9p{list:List Int}{at_ kind:Int}{K:Val->Int->Prop}(hk0:1<=kind)(hk1:kind<=5)(hD:DS list at_)(h: ∀r a,ValS r->r.kind=kind->DS list a->K r a):Us list at_ kind K:=by
 unfold Us j1p
 have tt: ∀s∈j1o,s.size<=100:=by decide
 have tv: ∀s∈z49,s.size<=100:=by decide
 have tl: ∀l∈j8v,l.length<=10/\ ∀s∈l,s.size<=100:=by decide
 refine Cnd.mk (fun _=> ?_) fun _=>Cnd.mk (fun _=>fun _=> ?_) fun _=>Cnd.mk (fun _=> ?_) fun _=>Cnd.mk (fun _=> ?_) fun _=> ?_
 ·exact Qh hD (by decide) fun r a r0 r1 hD=>h _ _ ⟨by unfold InI;simp only;omega,sz0,by simp,by simp⟩ rfl hD
 ·refine Qh hD (by decide) fun r a r0 r1 hD=>⟨⟨r0,r1⟩,fun y hy=>h _ _ ⟨?_,sz0,by simp,by simp⟩ rfl hD⟩
  have:=getm hy
  have k: ∀y∈[(0:Int),(1:Int),(17:Int),(18:Int),(19:Int),(-5:Int),(64:Int),(1099511627776:Int),(-1099511627776:Int)], -9223372036854775808<=y/\y<=9223372036854775807:=by decide
  exact k y this
 ·exact z2h hD fun r a hr hD=>h _ _ ⟨by unfold InI;simp,tt _ hr,by simp,by simp⟩ rfl hD
 ·exact Qh hD (by decide) fun r a r0 r1 hD=>⟨⟨r0,r1⟩,fun y hy=>h _ _ ⟨by unfold InI;simp,tv _ (getm hy),by simp,by simp⟩ rfl hD⟩
 ·refine Qh hD (by decide) fun r a r0 r1 hD=>⟨⟨r0,r1⟩,fun y hy=> ?_⟩
  obtain⟨a1,a2⟩:=tl _ (getm hy)
  exact⟨by unfold Sml;simp;omega,h _ _ ⟨by unfold InI;simp,sz0,by simpa using a1,by simpa using a2⟩ (by simp only;omega) hD⟩
def flK:List ByteArray:=[ByteArray.mk (Array.mk [102,97]),ByteArray.mk (Array.mk [102,98]),ByteArray.mk (Array.mk [102,99]),ByteArray.mk (Array.mk [102,100])]
def lyK:List ByteArray:=[ByteArray.mk (Array.mk [108,97]),ByteArray.mk (Array.mk [108,98])]
def exK:List ByteArray:=[ByteArray.mk (Array.mk [120,97]),ByteArray.mk (Array.mk [120,98]),ByteArray.mk (Array.mk [120,99])]
structure RulD(n:Int)(r:Rul):Prop where
 cond:DrE sgK 20000 r.cond
 serve:SrvD n r.serve
structure FlgD(prev:List Flg)(f:Flg):Prop where
 kind:1<=f.kind/\f.kind<=5
 kinds: ∀v∈f.variations,v.kind=f.kind
 off:1<=f.off/\f.off<=f.variations.length
 needs: ∀q∈f.needs,∃g∈prev,q.flag=g.key/\1<=q.variation/\q.variation<=g.variations.length
 tgts: ∀t∈f.targets,(1<=t.variation/\t.variation<=f.variations.length)/\t.keys.length<=3
 rules: ∀r∈f.rules,RulD f.variations.length r
 dflt:SrvD f.variations.length f.dflt
structure FlgsD(l:List Flg):Prop where
 keys:l.map Flg.key=flK.take l.length
 all: ∀(i:Nat) f,l[i]? =some f->FlgD (l.take i) f
structure ExpD(layers:List Lay_)(flags:List Flg)(x:Exper):Prop where
 cov:Cov x.arms
 cond:DrE sgK 20000 x.cond
 layer: ∃l∈layers,x.layer=l.key
 flag: ∃f∈flags,x.flag=f.key/\ ∀r∈x.arms,1<=r.variation/\r.variation<=f.variations.length
 salt:x.salt.size<=100
structure EnvD(v:Envt):Prop where
 salt:v.settings.salt.size<=100
 gs:GS v.segments
 flags:FlgsD v.flags
 layers:v.layers.map Lay_.key=lyK.take v.layers.length
 exps:(v.experiments.map Exper.key).Sublist exK
 exp: ∀x∈v.experiments,ExpD v.layers v.flags x
theorem w9q:FlgsD []:=⟨rfl,by simp⟩
theorem v6x{l:List Flg}{f:Flg}(h:FlgsD l)(hk:flK[l.length]? =some f.key)(hf:FlgD l f):FlgsD (l++[f]):=by
 refine⟨?_,fun i g hi=> ?_⟩
 ·rw[List.map_append,h.keys,List.length_append,List.length_singleton,List.take_add_one,hk];rfl
 ·rcases Nat.lt_or_ge i l.length with hlt|hge
  ·rw[List.getElem?_append_left hlt] at hi
   rw[List.take_append_of_le_length (by omega)]
   exact h.all i g hi
  ·have:=Qk hi
   rw[List.length_append,List.length_singleton] at this
   have e:i=l.length:=by omega
   subst e
   rw[List.getElem?_append_right (Nat.le_refl _),Nat.sub_self] at hi
   cases hi
   rw[List.take_left' rfl];exact hf
theorem y09{a b:List ByteArray}{w:Nat}{e:Ex}(h:DrE a w e)(hs: ∀x∈a,x∈b):DrE b w e:=⟨h.wt,fun x hx=>hs x (h.nms x hx),h.ev⟩
theorem v6y{ds:List Decl}:EnvD (Envt.mk (Sett.mk (ByteArray.mk (Array.mk [])) (ByteArray.mk (Array.mk [])) 0) ds [] [] [] []):=
 ⟨sz0,y5c,w9q,rfl,by simp,by simp⟩
theorem y1a{l:List Seg}(h:GS l): ∀s∈l.map Seg.key,s∈sgK:=fun s hs=>by rw[h.keys] at hs;exact List.mem_of_mem_take hs
theorem y1b:DrE sgK 20000 (Ex.mk 1 (ByteArray.mk (Array.mk [])) (ByteArray.mk (Array.mk [])) [] []):=
 ⟨by simp[wt,wtV,wtL],fun x hx=>by rw[w06] at hx;rcases hx with ⟨h,_⟩|⟨k,hk,_⟩<;>simp at*,EvB.mk' (by simp) (by simp)⟩
theorem y5d{l:List ByteArray}{n i:Nat}{y:ByteArray}(h:(l.take n)[i]? =some y):l[i]? =some y:=by
 rw[List.getElem?_take] at h
 split at h
 ·exact h
 ·cases h
theorem j5q{V:Envt->Prop}(hV: ∀(v:Envt) (K:Bool->Prop),EnvS v->(∀b,(b=true->V v)->K b)->Rm v K)(hV0: ∀ds,V (Envt.mk (Sett.mk (ByteArray.mk (Array.mk [])) (ByteArray.mk (Array.mk [])) 0) ds [] [] [] []))
  {list:List Int}{at_ now:Int}{K:Envt->Int->Prop}(hD:DS list at_)(h: ∀v a,EnvS v->EnvD v->V v->DS list a->K v a):Rp list at_ now K:=by
 unfold Rp q8w
 have tt: ∀s∈j1o,s.size<=100:=by decide
 refine q3j fun attrs _ had=> ?_
 have hat: ∀d∈attrs,d.kind.size<=100/\d.name.size<=100:=fun d hd=>⟨(had d hd).1,(had d hd).2.1⟩
 refine Jn1.mk (fun x=>(x.1.size<=100/\x.2.1.size<=100)/\DS list x.2.2.2.1/\x.2.2.2.2.1=attrs) (Qh hD (by decide) fun r a _ _ hD=>Cnd.mk (fun _=>z2h hD fun t a ht hD=>q56 hD (by decide) fun w a _ _ hD=>⟨⟨tt _ ht,(by decide:(ByteArray.mk (Array.mk [117,115,101,114])).size<=100)⟩,hD,rfl⟩) fun _=>⟨⟨sz0,sz0⟩,hD,rfl⟩) ?_
 rintro⟨salt,hkind,hold,a,ds,u⟩ ⟨⟨hslt,hhk⟩,hD,hds⟩
 simp only at hslt hhk hD hds⊢
 subst hds
 refine w6n hD fun a segs hD hsl hsegs hgs=>Qh hD (by decide) fun n a n0 n1 hD=>j2u n0 (by simp only[List.length_cons,List.length_nil];omega) ?_
 have fin: ∀{flags:List Flg} {layers:List Lay_} {exps:List Exper} {a:Int},DS list a->flags.length<=4->(∀f∈flags,FlgS f)->layers.length<=2->(∀l∈layers,LayS l)->exps.length<=3->(∀x∈exps,ExpS x)->FlgsD flags->layers.map Lay_.key=lyK.take layers.length->(exps.map Exper.key).Sublist exK->(∀x∈exps,ExpD layers flags x)->
   Rm (Envt.mk (Sett.mk salt hkind hold) ds segs flags layers exps) fun b=>Cnd (b=true) (K (Envt.mk (Sett.mk salt hkind hold) ds segs flags layers exps) a) (J0 fun ds=>K (Envt.mk (Sett.mk (ByteArray.mk (Array.mk [])) (ByteArray.mk (Array.mk [])) 0) ds [] [] [] []) a):=fun hD h1 h2 h3 h4 h5 h6 e1 e2 e3 e4=>by
  have hv:EnvS (Envt.mk (Sett.mk salt hkind hold) ds segs _ _ _):=⟨hhk,hat,hsl,hsegs,h1,h2,h3,h4,h5,h6⟩
  exact hV _ _ hv fun b hb=>Cnd.mk (fun ht=>h _ _ hv ⟨hslt,hgs,e1,e2,e3,e4⟩ (hb ht) hD) fun _=>q3j fun ds _ had=>h _ _ (v6w fun d hd=>⟨(had d hd).1,(had d hd).2.1⟩) v6y (hV0 ds) hD
 have nms: ∀s∈List.take n.toNat [ByteArray.mk (Array.mk [102,97]),ByteArray.mk (Array.mk [102,98]),ByteArray.mk (Array.mk [102,99]),ByteArray.mk (Array.mk [102,100])],s.size<=100:=w6o (by decide)
 have hlen:(List.take n.toNat [ByteArray.mk (Array.mk [102,97]),ByteArray.mk (Array.mk [102,98]),ByteArray.mk (Array.mk [102,99]),ByteArray.mk (Array.mk [102,100])]).length<=4:=by
  rw[List.length_take];simp only[List.length_cons,List.length_nil];omega
 have hget: ∀(i:Nat) y,(List.take n.toNat [ByteArray.mk (Array.mk [102,97]),ByteArray.mk (Array.mk [102,98]),ByteArray.mk (Array.mk [102,99]),ByteArray.mk (Array.mk [102,100])])[i]? =some y->flK[i]? =some y:=fun i y hy=>y5d hy
 generalize List.take n.toNat _=l at nms hlen hget
 refine LpH.ind (fun (x:Int×Int×List Flg×List Seg×List Lay_×List Exper×Unit)=>0<=x.1/\x.1<=(l.length:Int)/\DS list x.2.1/\(x.2.2.1.length:Int)=x.1/\(∀f∈x.2.2.1,FlgS f)/\FlgsD x.2.2.1/\x.2.2.2=(segs,[],[],())) (fun x=>((l.length:Int) - x.1).toNat) ?_ ⟨Int.le_refl 0,by simp,hD,rfl,by simp,w9q,rfl⟩
 rintro⟨i,a,flags,rest⟩ ⟨i0,i1,hD,hfl,hfs,hfd,hr⟩
 simp only at i0 i1 hD hfl hfs hfd hr⊢
 subst hr
 simp only
 intro _
 refine Cnd.mk (fun hc=>⟨by omega,fun key hkey=> ?_⟩) fun _=> ?_
 ·
  refine Qh hD (by decide) fun kind a k0 k1 hD=>⟨by unfold InI;omega,Qh hD (by decide) fun on a _ _ hD=>Qh hD (by decide) fun m a m0 m1 hD=>⟨by unfold InI;omega,?_⟩⟩
  refine LpH.ind (fun (x:Int×Int×List Val×List Exper×List Lay_×List Flg×List Seg×Unit)=>0<=x.1/\x.1<=1+m/\DS list x.2.1/\(x.2.2.1.length:Int)=x.1/\(∀v∈x.2.2.1,ValS v/\v.kind=1+kind)/\x.2.2.2=([],[],flags,segs,())) (fun x=>(1+m - x.1).toNat) ?_ ⟨Int.le_refl 0,by simp only;omega,hD,rfl,by simp,rfl⟩
  rintro⟨j,a,vals,rest⟩ ⟨j0,j1,hD,hvl,hvs,hr⟩
  simp only at j0 j1 hD hvl hvs hr⊢
  subst hr
  simp only
  refine Cnd.mk (fun hc=>w9p (by omega) (by omega) hD fun v a hv hvk hD=>⟨by unfold Sml;simp;omega,by unfold InI;omega,⟨by omega,by omega,hD,by simp;omega,Zt hvs ⟨hv,hvk⟩,trivial⟩,by omega⟩) fun hc=> ?_
  refine Qh hD (by omega) fun off a o0 o1 hD=>⟨by unfold InI;omega,?_⟩
  have hlv:vals.length=(1+m).toNat:=by omega
  refine LpH.ind (fun (x:Int×List Prq×Int×List Seg×List Flg×List Lay_×List Exper×List Val×Unit)=>0<=x.1/\x.1<=(flags.length:Int)/\(x.2.1.length:Int)<=x.1/\(∀q∈x.2.1,q.flag.size<=100/\ ∃g∈flags,q.flag=g.key/\1<=q.variation/\q.variation<=g.variations.length)/\DS list x.2.2.1/\x.2.2.2=(segs,flags,[],[],vals,())) (fun x=>((flags.length:Int) - x.1).toNat) ?_ ⟨Int.le_refl 0,by simp,by simp,by simp,hD,rfl⟩
  rintro⟨j,needs,a,rest⟩ ⟨j0,j1,hnl,hns,hD,hr⟩
  simp only at j0 j1 hnl hns hD hr⊢
  subst hr
  simp only
  intro _
  refine Cnd.mk (fun hc=>Qh hD (by decide) fun q a _ _ hD=>Cnd.mk (fun _=>⟨by omega,fun y hy=>⟨by omega,fun z hz _=>Qh hD (by have:=(hfs z (getm hz)).vlen;omega) fun w a w0 w1 hD=> ?_⟩⟩) fun _=>⟨by unfold InI;omega,⟨by omega,by omega,by omega,hns,hD,trivial⟩,by omega⟩) fun _=> ?_
  ·have:=(hfs z (getm hz)).vlen
   exact⟨by unfold InI;omega,by unfold Sml;simp;omega,by unfold InI;omega,⟨by omega,by omega,by simp;omega,Zt hns ⟨(hfs y (getm hy)).key,z,getm hz,by rw[hy] at hz;rw[Option.some.inj hz],by simp only;omega,by simp only;omega⟩,hD,trivial⟩,by omega⟩
  have hnl4:needs.length<=4:=by omega
  refine LpH.ind (fun (x:Int×List Tgt×Int×List Val×List Exper×List Lay_×List Flg×List Seg×List Prq×Unit)=>0<=x.1/\x.1<=3/\(x.2.1.length:Int)<=x.1/\(∀t∈x.2.1,t.kind.size<=100/\(1<=t.variation/\t.variation<=1+m)/\t.keys.length<=3)/\DS list x.2.2.1/\x.2.2.2=(vals,[],[],flags,segs,needs,())) (fun x=>(3 - x.1).toNat) ?_ ⟨Int.le_refl 0,by simp,by simp,by simp,hD,rfl⟩
  rintro⟨j,tgts,a,rest⟩ ⟨j0,j1,htl,hts,hD,hr⟩
  simp only at j0 j1 htl hts hD hr⊢
  subst hr
  simp only
  refine Qh hD (by decide) fun q a q0 q1 hD=>Cnd.mk (fun hc=>Qh hD (by omega) fun w a w0 w1 hD=>⟨by unfold InI;omega,w0k hD fun ks a hks _ hD=> ?_⟩) fun _=> ?_
  ·refine Jn1.mk (fun x=>x.1.size<=100/\DS list x.2.1/\x.2.2=(ks,needs,segs,flags,[],[],vals,tgts,())) (Qh hD (by decide) fun r a _ _ hD=>Cnd.mk (fun _=>⟨(by decide:(ByteArray.mk (Array.mk [100,101,118,105,99,101])).size<=100),hD,rfl⟩) fun _=>⟨(by decide:(ByteArray.mk (Array.mk [117,115,101,114])).size<=100),hD,rfl⟩) ?_
   rintro⟨kd,a,rest⟩ ⟨hkd,hD,hr⟩
   simp only at hkd hD hr⊢
   subst hr
   simp only
   exact fun _=>Cnd.mk (fun _=>⟨by unfold Sml;simp;omega,by unfold InI;omega,⟨by omega,by omega,by simp;omega,Zt hts ⟨hkd,⟨by simp only;omega,by simp only;omega⟩,hks⟩,hD,trivial⟩,by omega⟩) fun _=>⟨by unfold InI;omega,⟨by omega,by omega,by omega,hts,hD,trivial⟩,by omega⟩
  refine Jn1.mk (fun (x:Int×List Rul×List ByteArray×List Prq×List Seg×List Flg×List Lay_×List Exper×List Val×List Tgt×Unit)=>DS list x.1/\x.2.1.length<=4/\(∀r∈x.2.1,RulS (1+m) r/\RulD (1+m) r)/\x.2.2.2=(needs,segs,flags,[],[],vals,tgts,())) ?_ ?_
  case refine_2=>
   rintro⟨a,rules,names,rest⟩ ⟨hD,hrl,hrs,hr⟩
   simp only at hD hrl hrs hr⊢
   subst hr
   simp only
   refine j6e hD (by omega) (by omega) fun s a hs hD=>⟨by unfold Sml;simp;omega,by unfold InI;omega,⟨by omega,by omega,hD,by simp;omega,Zt hfs ?_,v6x hfd ?_ ?_,trivial⟩,by omega⟩
   all_goals have hvm:(vals.length:Int)=1+m:=by omega
   ·exact⟨nms key (getm hkey),⟨by simp only;omega,by simp only;omega⟩,fun v hv=>(hvs v hv).1,hnl4,fun q hq=>(hns q hq).1,by simp only;omega,fun t ht=>(hts t ht).1,hrl,by rw[hvm];exact fun r hr=>(hrs r hr).1,by rw[hvm];exact hs.ok⟩
   ·rw[←hget _ _ hkey];congr 1;omega
   ·exact⟨⟨by simp only;omega,by simp only;omega⟩,fun v hv=>(hvs v hv).2,⟨by simp only;omega,by simp only;omega⟩,fun q hq=>(hns q hq).2,fun t ht=>by simp only;rw[hvm];exact (hts t ht).2,fun r hr=>by simp only;rw[hvm];exact (hrs r hr).2,by simp only;rw[hvm];exact hs⟩
  have nm4: ∀s∈([ByteArray.mk (Array.mk [102,105,114,115,116]),ByteArray.mk (Array.mk [115,101,99,111,110,100]),ByteArray.mk (Array.mk [116,104,105,114,100]),ByteArray.mk (Array.mk [102,111,117,114,116,104])]:List ByteArray),s.size<=100:=by decide
  have nl4:([ByteArray.mk (Array.mk [102,105,114,115,116]),ByteArray.mk (Array.mk [115,101,99,111,110,100]),ByteArray.mk (Array.mk [116,104,105,114,100]),ByteArray.mk (Array.mk [102,111,117,114,116,104])]:List ByteArray).length=4:=rfl
  generalize ([ByteArray.mk (Array.mk [102,105,114,115,116]),ByteArray.mk (Array.mk [115,101,99,111,110,100]),ByteArray.mk (Array.mk [116,104,105,114,100]),ByteArray.mk (Array.mk [102,111,117,114,116,104])]:List ByteArray)=ns4 at nm4 nl4⊢
  refine LpH.ind (fun (x:Int×Int×List Rul×List ByteArray×List Prq×List Seg×List Flg×List Lay_×List Exper×List Val×List Tgt×Unit)=>0<=x.1/\x.1<=4/\DS list x.2.1/\(x.2.2.1.length:Int)=x.1/\(∀r∈x.2.2.1,RulS (1+m) r/\RulD (1+m) r)/\x.2.2.2=(ns4,needs,segs,flags,[],[],vals,tgts,())) (fun x=>(4 - x.1).toNat) ?_ ⟨Int.le_refl 0,by simp,hD,rfl,by simp,rfl⟩
  rintro⟨j,a,rules,rest⟩ ⟨j0,j1,hD,hrl,hrs,hr⟩
  simp only at j0 j1 hD hrl hrs hr⊢
  subst hr
  simp only
  refine Qh hD (by decide) fun q a q0 q1 hD=>Cnd.mk (fun hc=>⟨by rw[nl4];omega,fun y hy=> ?_⟩) fun _=>⟨hD,by omega,hrs,trivial⟩
  refine z4s (by simp only;omega) (j5j ((v2e fun s hs=> ?_).and y02) 2 (by omega) (by decide) (by decide) hD fun e a he hD=>j6e hD (by omega) (by omega) fun s a hs hD=>⟨by unfold Sml;simp;omega,?_⟩)
  ·obtain⟨g,hg,rfl⟩:=List.mem_map.1 hs;exact (hsegs g hg).key
  have hrs':=Zt hrs (x:=Rul.mk y (Ex.mk e.1 e.2 e.3 e.4 e.5) s) ⟨⟨nm4 y (getm hy),he.1.eta,hs.ok⟩,y09 (he.2.le (by decide)).eta (y1a hgs),hs⟩
  have hl':(rules++[Rul.mk y (Ex.mk e.1 e.2 e.3 e.4 e.5) s]).length=rules.length+1:=by simp
  have cut: ∀r∈List.take (((rules++[Rul.mk y (Ex.mk e.1 e.2 e.3 e.4 e.5) s]).length:Int) - 1).toNat (rules++[Rul.mk y (Ex.mk e.1 e.2 e.3 e.4 e.5) s]),RulS (1+m) r/\RulD (1+m) r:=fun r hr=>hrs' r (List.mem_of_mem_take hr)
  generalize rules++[Rul.mk y (Ex.mk e.1 e.2 e.3 e.4 e.5) s]=rs at hrs' hl' cut⊢
  refine z0f (by omega) (fun r hr=>(hrs' r hr).1.cond) fun o n b ho=>Cnd.mk (fun _ _=>Cnd.mk (fun _ _=>⟨by unfold InI;omega,by omega,hD,by simp only[List.length_take];omega,cut,trivial⟩) fun _=>⟨by unfold InI;omega,⟨by omega,by omega,hD,by omega,hrs',trivial⟩,by omega⟩) fun _ _=>⟨by unfold InI;omega,by omega,hD,by simp only[List.length_take];omega,cut,trivial⟩
 ·
  refine Qh hD (by decide) fun n a n0 n1 hD=>j2u n0 (by simp only[List.length_cons,List.length_nil];omega) ?_
  have nms: ∀s∈List.take n.toNat [ByteArray.mk (Array.mk [108,97]),ByteArray.mk (Array.mk [108,98])],s.size<=100:=w6o (by decide)
  have hlen:(List.take n.toNat [ByteArray.mk (Array.mk [108,97]),ByteArray.mk (Array.mk [108,98])]).length<=2:=by
   rw[List.length_take];simp only[List.length_cons,List.length_nil];omega
  have hgetl: ∀(i:Nat) y,(List.take n.toNat [ByteArray.mk (Array.mk [108,97]),ByteArray.mk (Array.mk [108,98])])[i]? =some y->lyK[i]? =some y:=fun i y hy=>y5d hy
  generalize List.take n.toNat _=ls at nms hlen hgetl
  have hf4:flags.length<=4:=by omega
  refine LpH.ind (fun (x:Int×Int×List Lay_×List Exper×List Seg×List Flg×Unit)=>0<=x.1/\x.1<=(ls.length:Int)/\DS list x.2.1/\(x.2.2.1.length:Int)=x.1/\(∀f∈x.2.2.1,LayS f)/\x.2.2.1.map Lay_.key=lyK.take x.2.2.1.length/\x.2.2.2=([],segs,flags,())) (fun x=>((ls.length:Int) - x.1).toNat) ?_ ⟨Int.le_refl 0,by simp,hD,rfl,by simp,rfl,rfl⟩
  rintro⟨j,a,layers,rest⟩ ⟨j0,j1,hD,hll,hls,hlk,hr⟩
  simp only at j0 j1 hD hll hls hlk hr⊢
  subst hr
  simp only
  intro _
  refine Cnd.mk (fun hc=>⟨by omega,fun y hy=>v6b hD (nms y (getm hy)) fun l a hl hky hD=>⟨by unfold Sml;simp;omega,by unfold InI;omega,⟨by omega,by omega,hD,by simp;omega,Zt hls hl,by rw[List.map_append,hlk,List.length_append,List.length_singleton,List.take_add_one,←show j.toNat=layers.length by omega,hgetl _ _ hy,←hky];rfl,trivial⟩,by omega⟩⟩) fun _=> ?_
  refine Qh hD (by decide) fun n a n0 n1 hD=>j2u n0 (by simp only[List.length_cons,List.length_nil];omega) ?_
  have nmx: ∀s∈List.take n.toNat [ByteArray.mk (Array.mk [120,97]),ByteArray.mk (Array.mk [120,98]),ByteArray.mk (Array.mk [120,99])],s.size<=100:=w6o (by decide)
  have hxen:(List.take n.toNat [ByteArray.mk (Array.mk [120,97]),ByteArray.mk (Array.mk [120,98]),ByteArray.mk (Array.mk [120,99])]).length<=3:=by
   rw[List.length_take];simp only[List.length_cons,List.length_nil];omega
  have hgetx:List.take n.toNat [ByteArray.mk (Array.mk [120,97]),ByteArray.mk (Array.mk [120,98]),ByteArray.mk (Array.mk [120,99])]|>.Sublist exK:=List.take_sublist _ _
  generalize List.take n.toNat _=xs at nmx hxen hgetx
  have hl2:layers.length<=2:=by omega
  refine LpH.ind (fun (x:Int×Int×List Exper×List Flg×List Seg×List Lay_×Unit)=>0<=x.1/\x.1<=(xs.length:Int)/\DS list x.2.1/\(x.2.2.1.length:Int)<=x.1/\(∀f∈x.2.2.1,ExpS f)/\(x.2.2.1.map Exper.key).Sublist (xs.take x.1.toNat)/\(∀f∈x.2.2.1,ExpD layers flags f)/\x.2.2.2=(flags,segs,layers,())) (fun x=>((xs.length:Int) - x.1).toNat) ?_ ⟨Int.le_refl 0,by simp,hD,by simp,by simp,by simp,by simp,rfl⟩
  rintro⟨k,a,exps,rest⟩ ⟨k0,k1,hD,hxl,hxs,hxk,hxd,hr⟩
  simp only at k0 k1 hD hxl hxs hxk hxd hr⊢
  subst hr
  simp only
  intro _
  have hfin:=fun {a:Int} (hD:DS list a)=>fin (flags:=flags) (layers:=layers) (exps:=exps) hD hf4 hfs hl2 hls (by omega) hxs hfd hlk ((hxk.trans (List.take_sublist _ _)).trans hgetx) hxd
  refine Cnd.mk (fun hc _=>Cnd.mk (fun hfl0 _=>Cnd.mk (fun hll0=>⟨by omega,fun y hy _=> ?_⟩) fun _=>hfin hD) fun _=>hfin hD) fun _=>hfin hD
  refine Qh hD (by omega) fun q a q0 q1 hD=>⟨by omega,fun f hf _ hfv=>Qh hD (by omega) fun q' a q0' q1' hD=>⟨by omega,fun l hl=>z2h hD fun t a ht hD=>Qh hD (by decide) fun u a u0 u1 hD=>⟨by unfold InI;omega,?_⟩⟩⟩
  have hF:=hfs f (getm hf)
  have hL:=hls l (getm hl)
  have hv1:=hF.vlen
  refine j6d hD (by omega) (by omega) fun arms a harms hcov hD=> ?_
  refine Jn1.mk (fun (x:Int×Int×List Rng×List Exper×List Lay_×List Flg×List Seg×Unit)=>DS list x.2.1/\x.2.2=(arms,exps,layers,flags,segs,())) (Cnd.mk (fun _=>Qh hD (by decide) fun r a _ _ hD=>Cnd.mk (fun _=>⟨hD,rfl⟩) fun _=>⟨hD,rfl⟩) fun _=>⟨hD,rfl⟩) ?_
  rintro⟨state,a,rest⟩ ⟨hD,hr⟩
  simp only at hD hr⊢
  subst hr
  simp only
  refine Jn1.mk (fun (x:Int×ByteArray×ByteArray×List Val×List Ex×Int×List Seg×List Flg×List Lay_×List Exper×List Rng×Unit)=>(ExS 4 (Ex.mk x.1 x.2.1 x.2.2.1 x.2.2.2.1 x.2.2.2.2.1)/\DrE sgK 20000 (Ex.mk x.1 x.2.1 x.2.2.1 x.2.2.2.1 x.2.2.2.2.1))/\DS list x.2.2.2.2.2.1/\x.2.2.2.2.2.2=(segs,flags,layers,exps,arms,())) (Qh hD (by decide) fun r a _ _ hD=>Cnd.mk (fun _=>z4s (by simp only;omega) (j5j ((v2e fun s hs=> ?_).and y02) 2 (by omega) (by decide) (by decide) hD fun e a he hD=>⟨⟨he.1.eta,y09 (he.2.le (by decide)).eta (y1a hgs)⟩,hD,rfl⟩)) fun _=>⟨⟨u1t,y1b⟩,hD,rfl⟩) ?_
  ·obtain⟨g,hg,rfl⟩:=List.mem_map.1 hs;exact (hsegs g hg).key
  rintro⟨e1,e2,e3,e4,e5,a,rest⟩ ⟨he,hD,hr⟩
  simp only at he hD hr⊢
  subst hr
  simp only
  refine v2o fun sp _ _=>q56 hD (by decide) fun w a _ _ hD=>q56 hD (by decide) fun w' a _ _ hD=>j53 fun sq _=>q56 hD (by decide) fun w2 a w20 w21 hD=>w80 (by omega) fun cl hcl=> ?_
  have hxs':=Zt hxs (x:=Exper.mk y l.1 f.1 t state cl arms (Ex.mk e1 e2 e3 e4 e5)) ⟨nmx y (getm hy),hL.key,hF.key,hcl,⟨harms.1,fun r hr=>by obtain⟨p,q,s,t⟩:=harms.2 r hr;exact⟨p,q,s,by omega⟩⟩,he.1⟩
  have hxd':=Zt hxd (x:=Exper.mk y l.1 f.1 t state cl arms (Ex.mk e1 e2 e3 e4 e5)) ⟨hcov,he.2,⟨l,getm hl,rfl⟩,⟨f,getm hf,rfl,fun r hr=>by obtain⟨_,_,s,t⟩:=harms.2 r hr;exact⟨s,t⟩⟩,tt _ ht⟩
  have hyk:xs[k.toNat]? =some y:=hy
  have hxk':((exps++[Exper.mk y l.1 f.1 t state cl arms (Ex.mk e1 e2 e3 e4 e5)]).map Exper.key).Sublist (xs.take (k+1).toNat):=by
   rw[List.map_append,show (k+1).toNat=k.toNat+1 by omega,List.take_add_one,hyk]
   exact hxk.append (List.Sublist.refl _)
  have hl':(exps++[Exper.mk y l.1 f.1 t state cl arms (Ex.mk e1 e2 e3 e4 e5)]).length=exps.length+1:=by simp
  have cut: ∀r∈List.take (((exps++[Exper.mk y l.1 f.1 t state cl arms (Ex.mk e1 e2 e3 e4 e5)]).length:Int) - 1).toNat (exps++[Exper.mk y l.1 f.1 t state cl arms (Ex.mk e1 e2 e3 e4 e5)]),ExpS r:=fun r hr=>hxs' r (List.mem_of_mem_take hr)
  have cutd: ∀r∈List.take (((exps++[Exper.mk y l.1 f.1 t state cl arms (Ex.mk e1 e2 e3 e4 e5)]).length:Int) - 1).toNat (exps++[Exper.mk y l.1 f.1 t state cl arms (Ex.mk e1 e2 e3 e4 e5)]),ExpD layers flags r:=fun r hr=>hxd' r (List.mem_of_mem_take hr)
  have cutk:((List.take (((exps++[Exper.mk y l.1 f.1 t state cl arms (Ex.mk e1 e2 e3 e4 e5)]).length:Int) - 1).toNat (exps++[Exper.mk y l.1 f.1 t state cl arms (Ex.mk e1 e2 e3 e4 e5)])).map Exper.key).Sublist (xs.take (k+1).toNat):=((List.take_sublist _ _).map _).trans hxk'
  generalize exps++[Exper.mk y l.1 f.1 t state cl arms (Ex.mk e1 e2 e3 e4 e5)]=xs' at hxs' hl' cut hxd' hxk' cutd cutk⊢
  have hv:EnvS (Envt.mk (Sett.mk salt hkind hold) ds segs flags layers xs'):=⟨hhk,hat,hsl,hsegs,hf4,hfs,hl2,hls,by simp only;omega,hxs'⟩
  refine⟨by unfold Sml;omega,j6c hv fun b=>Cnd.mk (fun _=>⟨by unfold InI;omega,⟨by omega,by omega,hD,by omega,hxs',hxk',hxd',trivial⟩,by omega⟩) fun _ _=>⟨by unfold InI;omega,by omega,by unfold InI;omega,⟨by omega,by omega,hD,by simp only[List.length_take];omega,cut,cutk,cutd,trivial⟩,by omega⟩⟩
end Go.En
end
noncomputable section
set_option maxRecDepth 100000
namespace Go.En
open Go Go.Fl Go.Fl.Lk Go.Fx
theorem y1c:exK.Nodup:=by unfold exK;decide
theorem y1d{segs:List ByteArray}{e:Ex}(h:DrE segs 20000 e):wt e<=2000000/\EvB e:=⟨Nat.le_trans h.wt (by decide),h.ev⟩
theorem y34{v:Envt}(hE:EnvS v)(hD:EnvD v):SegB v.3:=v2f (Nat.le_trans hE.slen (by decide)) fun g hg=>by
 obtain⟨i,hi⟩:=List.getElem?_of_mem hg
 exact⟨_,hD.gs.cond i g hi⟩
theorem y99{v:Envt}(hE:EnvS v)(hD:EnvD v):AsB v where
 ln:=Nat.le_trans hE.llen (by decide)
 xn:=Nat.le_trans hE.xlen (by decide)
 sg:=y34 hE hD
 ex x hx:=y1d (hD.exp x hx).cond
 sa:=Nat.le_trans hD.salt (by decide)
 ls l hl:=Nat.le_trans (hE.layers l hl).salt (by decide)
 xs x hx:=Nat.le_trans (hD.exp x hx).salt (by decide)
 cl x hx:=⟨Nat.le_trans (hE.exps x hx).claims.len (by decide),Nat.le_trans (hE.exps x hx).arms.1 (by decide)⟩
 nd:=hD.exps.nodup y1c
abbrev smp:Envt:=Envt.mk (Sett.mk noT noT 0) [] [] [Flg.mk (ByteArray.mk (Array.mk [102])) 1 [Val.mk 1 0 noT [],Val.mk 1 1 noT []] true 1 [] [] [] (Srv.mk 1 noT noT noT [])] [Lay_.mk (ByteArray.mk (Array.mk [108])) (ByteArray.mk (Array.mk [117,115,101,114])) noT 0 0 []] [Exper.mk (ByteArray.mk (Array.mk [120])) (ByteArray.mk (Array.mk [108])) (ByteArray.mk (Array.mk [102])) noT 2 [Spn.mk 0 10000] [Rng.mk 0 10000 2] (Ex.mk 1 noT noT [] [])]
theorem y5e:AsB smp where
 ln:=by decide
 xn:=by decide
 sg:=v2f (by decide) (by simp)
 ex x hx:=by
  rw[List.mem_singleton.1 hx]
  exact y1d y1b
 sa:=by decide
 ls l hl:=by rw[List.mem_singleton.1 hl];decide
 xs x hx:=by rw[List.mem_singleton.1 hx];decide
 cl x hx:=by rw[List.mem_singleton.1 hx];decide
 nd:=by simp
theorem u0a:AsB (Envt.mk (Sett.mk noT noT 0) [] [] [] [] []) where
 ln:=by decide
 xn:=by decide
 sg:=v2f (by decide) (by simp)
 ex x hx:=by cases hx
 sa:=by decide
 ls l hl:=by cases hl
 xs x hx:=by cases hx
 cl x hx:=by cases hx
 nd:=by simp
abbrev usrB:ByteArray:=ByteArray.mk (Array.mk [117,115,101,114])
theorem w6p{s:Subj}(h:s.ctxs.length<=2)(hc: ∀c∈s.ctxs,c.attrs=[]/\c.key.size<=5):SubB s:=
 ⟨by omega,fun c hm=>by rw[(hc c hm).1];simp,fun c hm a ha=>by rw[(hc c hm).1] at ha;simp at ha,fun c hm=>by have:=(hc c hm).2;omega⟩
theorem y35:asgV smp (Subj.mk [Ctxt.mk usrB (ByteArray.mk (Array.mk [117])) []]) [] (ByteArray.mk (Array.mk [108]))=(Asg.mk (ByteArray.mk (Array.mk [108])) (ByteArray.mk (Array.mk [120])) (ofV noT (ByteArray.mk (Array.mk [117]))) 2 false,0):=by
 obtain⟨h0,h1⟩:=y0e noT (ByteArray.mk (Array.mk [117]))
 have hf:fnd (Subj.mk [Ctxt.mk usrB (ByteArray.mk (Array.mk [117])) []]) usrB=some (Ctxt.mk usrB (ByteArray.mk (Array.mk [117])) []):=by simp[fnd]
 have hb:bktV (Lay_.mk (ByteArray.mk (Array.mk [108])) usrB noT 0 0 []) (Subj.mk [Ctxt.mk usrB (ByteArray.mk (Array.mk [117])) []])=ofV noT (ByteArray.mk (Array.mk [117])):=by unfold bktV;rw[hf]
 have hh:w6e smp (Subj.mk [Ctxt.mk usrB (ByteArray.mk (Array.mk [117])) []])=false:=by
  unfold w6e
  split
  ·rw[df (by decide)];rfl
  ·rfl
 have hx:xof smp (ByteArray.mk (Array.mk [120]))=some (smp.6.head (by simp)):=by simp[xof]
 have he:j01 smp (Subj.mk [Ctxt.mk usrB (ByteArray.mk (Array.mk [117])) []]) (ByteArray.mk (Array.mk [120]))=true:=by
  unfold j01;rw[hx];simp only[List.head_cons];unfold cndV;rw[y00];simp
 have hi:insV [Spn.mk 0 10000] (ofV noT (ByteArray.mk (Array.mk [117])))=true:=by
  unfold insV
  rw[List.find?_cons]
  simp[h0,h1]
 have hp: ∀q,v2g [Rng.mk 0 10000 2] (ofV noT q)=2:=fun q=>by
  obtain⟨h0,h1⟩:=y0e noT q
  unfold v2g
  rw[List.find?_cons]
  simp[h0,h1]
 have hl:lof smp (ByteArray.mk (Array.mk [108]))=some (Lay_.mk (ByteArray.mk (Array.mk [108])) usrB noT 0 0 []):=by simp[lof]
 unfold asgV
 rw[hl]
 simp only
 unfold layV
 rw[show fcdV smp [] (ByteArray.mk (Array.mk [108]))=none by simp[fcdV,frcV]]
 simp only
 rw[hb,if_neg (by rw[hh];simp only[Bool.false_eq_true,false_or];intro k;have h2:ofV noT (ByteArray.mk (Array.mk [117]))<0:=k.2;omega),hf]
 simp only
 have ht:hitV smp (Subj.mk [Ctxt.mk usrB (ByteArray.mk (Array.mk [117])) []]) (ByteArray.mk (Array.mk [108])) (ofV noT (ByteArray.mk (Array.mk [117])))=some (smp.6.head (by simp)):=by
  unfold hitV
  rw[List.find?_cons]
  simp only[hi,he]
  simp
 rw[ht]
 simp only[List.head_cons]
 rw[hp]
theorem y36:asgV smp (Subj.mk []) [] (ByteArray.mk (Array.mk [108]))=(Asg.mk (ByteArray.mk (Array.mk [108])) noT (-1) 0 false,0):=by
 have hl:lof smp (ByteArray.mk (Array.mk [108]))=some (Lay_.mk (ByteArray.mk (Array.mk [108])) usrB noT 0 0 []):=by simp[lof]
 have hf: ∀k,fnd (Subj.mk []) k=none:=fun k=>rfl
 unfold asgV
 rw[hl]
 simp only
 unfold layV w6e bktV
 simp only[hf,show fcdV smp [] (ByteArray.mk (Array.mk [108]))=none by simp[fcdV,frcV]]
 simp
theorem v6z{K:Bool->Prop}(h:K true):q20 K:=by
 unfold q20 z3h q41
 refine q3k (v:=smp) y5e (w6p (by decide) (by simp;decide)) (by decide) ?_
 rw[y35]
 refine q3k (v:=smp) y5e (w6p (by decide) (by simp)) (by decide) ?_
 rw[y36]
 refine Cnd.yes rfl (Cnd.yes rfl (Cnd.yes rfl (j2w (by decide) (by decide) (Cnd.yes rfl (Cnd.yes rfl (Cnd.yes ⟨rfl,rfl,rfl,rfl,rfl⟩ ?_))))))
 exact j26 u0a (w6p (by decide) (by simp)) (by decide) fun _=>h
theorem v2r{list:List Int}{at_:Int}{v:Envt}{K:List Frc->Int->Prop}(hD:DS list at_)(hE:EnvS v)(h: ∀l a,l.length<=3->K l a):z14 list at_ v K:=by
 unfold z14 j4f
 have hxn:=hE.xlen
 refine Lp3.ind (fun (l:List Frc) (i a:Int)=>0<=i/\i<=3/\(l.length:Int)=i/\DS list a) (fun _ (i:Int) _=>(3 - i).toNat) ?_ ⟨by omega,by omega,rfl,hD⟩
 rintro l i a ⟨i0,i1,hl,hD⟩
 refine Qh hD (by decide) fun q a q0 q1 hD=>Cnd.mk (fun hc=>Qh hD (by decide) fun w a w0 w1 hD=>⟨by unfold InI;omega,?_⟩) fun _=>h _ _ (by omega)
 refine Jn2.mk (fun _ a=>DS list a) (Qh hD (by decide) fun r a _ _ hD=>Cnd.mk (fun _=>hD) fun _=>hD) fun ly a hD=> ?_
 refine Jn4.mk (fun _ _ _ a=>DS list a) ?_ fun _ _ _ a hD=>⟨by unfold Sml;simp;omega,by unfold InI;omega,⟨by omega,by omega,by simp;omega,hD⟩,by omega⟩
 refine Qh hD (by decide) fun r a r0 r1 hD _=>Cnd.mk (fun hc=>⟨by omega,fun y hy=> ?_⟩) fun _=>hD
 refine Jn2.mk (fun _ a=>DS list a) (Qh hD (by decide) fun q a _ _ hD=>Cnd.mk (fun _=>⟨by omega,fun z hz=>hD⟩) fun _=>hD) fun ly a hD=>⟨by omega,fun z hz=>Qh hD (by decide) fun q a _ _ hD=>Cnd.mk (fun _ _=>Cnd.mk (fun hl0 _=> ?_) fun _=>hD) fun _=>hD⟩
 have hz1:=(hE.exps z (getm hz)).arms.1
 exact Qh hD (by omega) fun u a u0 u1 hD=>⟨⟨u0,u1⟩,fun w hw=>hD⟩
theorem v2s{V:Envt->Prop}(hV: ∀(v:Envt) (K:Bool->Prop),EnvS v->(∀b,(b=true->V v)->K b)->Rm v K)(hV0: ∀ds,V (Envt.mk (Sett.mk (ByteArray.mk (Array.mk [])) (ByteArray.mk (Array.mk [])) 0) ds [] [] [] []))
  {codes who:List Int}{K:Envt->Subj->List Frc->Prop}(hc:Byts codes)(hw:Byts who)(h: ∀v s f,EnvS v->EnvD v->V v->SubB s->f.length<=3->K v s f):Bg codes who K:=by
 unfold Bg z3i
 refine v4g hc (by decide) (by decide) fun cl hD=>j5q hV hV0 hD fun v a hE hd hv _=>v4g hw (by decide) (by decide) fun wl hD2=>w2l hD2 fun s a hs hl hD3=>v2r (v:=v) hD3 hE fun f _ hf=>h v s f hE hd hv (v6n hs hl) hf
theorem v60{codes who:List Int}{K:Envt->Subj->List Frc->Prop}(hc:Byts codes)(hw:Byts who)(h: ∀v s f,EnvS v->EnvD v->SubB s->f.length<=3->K v s f):Bg codes who K:=
 v2s (V:=fun _=>True) (fun _ _ hv h=>j6c hv fun b=>h b fun _=>trivial) (fun _=>trivial) hc hw fun v s f h1 h2 _ h3 h4=>h v s f h1 h2 h3 h4
theorem w1e{codes who:List Int}{s:Subj}{forced:List Frc}{key:ByteArray}{K:Bool->Prop}(hc:Byts codes)(hw:Byts who)(hs:SubB s)(h:K true):Jh codes who s forced key K:=by
 unfold Jh Bz
 refine v6z (Cnd.yes rfl fun _=>Cnd.mk (fun _=>h) fun _ _=>Cnd.mk (fun _=>h) fun hfl=> ?_)
 refine v60 hc hw fun v q f hE hD hq hf _=> ?_
 have hv:=y99 hE hD
 have hall: ∀y∈[Subj.mk q.1,Subj.mk s.1],SubB y:=fun y hy=>by
  rcases List.mem_cons.1 hy with rfl|hy
  ·exact hq
  ·rw[List.mem_singleton.1 hy];exact hs
 have hfs: ∀y∈[[],f,forced],y.length<=1000000000:=fun y hy=>by
  simp only[List.mem_cons,List.not_mem_nil,or_false] at hy
  rcases hy with rfl|rfl|rfl
  ·simp
  ·omega
  ·omega
 have h2:([Subj.mk q.1,Subj.mk s.1]:List Subj).length=2:=rfl
 have h3:([[],f,forced]:List (List Frc)).length=3:=rfl
 have h4:([ByteArray.mk (Array.mk [108,97]),ByteArray.mk (Array.mk [108,98]),key]:List ByteArray).length=3:=rfl
 generalize [Subj.mk q.1,Subj.mk s.1]=L at hall h2⊢
 generalize [[],f,forced]=F at hfs h3⊢
 generalize [ByteArray.mk (Array.mk [108,97]),ByteArray.mk (Array.mk [108,98]),key]=ks at h4⊢
 refine srch (fun _=>false) (by omega) (fun _=>h) fun i y Y hy _ _ hq1 _=>srch (fun _=>false) (by omega) (fun _=>hq1 rfl) fun i2 y2 Y2 hy2 _ _ hq2=> ?_
 have hyb:SubB y:=hall y (getm hy)
 have hf2:=hfs y2 (getm hy2)
 refine j26 (v:=v) hv hyb hf2 (v6p (v:=v) hv hyb hf2 (z4y (by have:=hv.ln;simp[allV];omega) (Cnd.yes rfl fun _=> ?_)))
 refine srch (fun _=>false) (by omega) (fun _=>hq2 rfl) fun i3 y3 Y3 hy3 _ _ hq3=> ?_
 exact q3k (v:=v) hv hyb hf2 (j59 (v:=v) hv hyb hf2 (Cnd.yes ⟨rfl,rfl,rfl,rfl,rfl⟩ (Cnd.yes rfl (hq3 rfl))))
end Go.En
end
noncomputable section
set_option maxRecDepth 100000
namespace Go.En
open Go Go.RowKit Go.Fl Go.Fl.Lk Go.Fx
open Go.Proofs.YtfiomedjdipbgaaGreatDoor.Rows (uptoBulk uptoBulkAll)
section
variable {H:Type}{enc:TypeId×Value->H}{W:World}{base:Nat}{spare:Nat->Bool}{held:Bool}
theorem y37(d:DataW H):1<=uptoBulk d:=by
 cases d with
 |lit l=>cases l<;>simp[uptoBulk]
 |_=>simp[uptoBulk]
theorem y38(l:List (DataW H)):l.length<=uptoBulkAll l:=by
 induction l with
 |nil=>simp
 |cons d l ih=>have:=y37 d;simp only[List.length_cons,uptoBulkAll];omega
theorem y72{l:List (DataW H)}{i:Nat}{d:DataW H}(h:l[i]? =some d):uptoBulk d<=uptoBulkAll l:=by
 induction l generalizing i with
 |nil=>simp at h
 |cons a l ih=>
  cases i with
  |zero=>simp at h;subst h;simp only[uptoBulkAll];omega
  |succ i=>have:=ih (i:=i) (by simpa using h);simp only[uptoBulkAll];omega
theorem y5f{α:Type}{f:α->Nat}: ∀{l:List α} {ds:List (DataW H)},l.length=ds.length->(∀(i:Nat) y d,l[i]? =some y->ds[i]? =some d->f y<=uptoBulk d)->(l.map f).sum<=uptoBulkAll ds
 |[],_,_,_=>by simp
 |y::l,[],h,_=>by simp at h
 |y::l,d::ds,h,hk=>by
  have h0:=hk 0 y d rfl rfl
  have h1:=y5f (l:=l) (ds:=ds) (by simpa using h) fun i y d hy hd=>hk (i+1) y d (by simpa using hy) (by simpa using hd)
  simp only[List.map_cons,List.sum_cons,uptoBulkAll];omega
theorem v4o{T:Sg.C}{e t:TypeId}{fuel:Nat}{cs:List Value}{x:DataW H×List MemPlace}{f:Sg.car T->Nat}{A:Sg.car T->Prop}(hu:Proofs.Tryz.prog.underlying t=some (.slice e))(hc:Proofs.Tryz.prog.cellsOf e=D.size T)
  (hel: ∀n cs x,fuel=n+1->cs.length=D.size T->DataW.trod enc Proofs.Tryz.prog W base spare held n e cs=some x->uptoBulk x.1<=1048576-> ∃y,RowF D (hv W) cs (D.shape T y)/\f y<=uptoBulk x.1/\A y)
  (h:DataW.trod enc Proofs.Tryz.prog W base spare held fuel t cs=some x)(hb:uptoBulk x.1<=1048576):
  ∃(l:List (Sg.car T)) (v:Value),cs=[v]/\RepF D (hv W) v (.sl T l)/\(l.map f).sum+1<=uptoBulk x.1/\l.length<=uptoBulk x.1/\ ∀y∈l,A y:=by
 rcases DataW.trod_slice hu h with ⟨rfl,rfl⟩|⟨a,len,cap,Vo,rest,n,hfu,rfl,rfl,_,hl,_,hlen,hE,_,_⟩
 ·exact⟨[],_,rfl,v9a T,by simp[uptoBulk],by simp,by simp⟩
 ·have hbb:uptoBulkAll (Vo.map (·.1))+1<=uptoBulk (DataW.slice (Vo.map (·.1)) (rest.map (·.1))):=by simp only[uptoBulk];omega
  have hel0:=y38 (Vo.map (·.1))
  rw[List.length_map] at hel0
  have hb1:uptoBulk (DataW.slice (Vo.map (·.1)) (rest.map (·.1)))<=1048576:=hb
  obtain⟨l,hl1,hl2⟩:=v9d (α:=Sg.car T) (Q:=fun i y=> ∃cs d,(Vo.map (·.1))[i]? =some d/\cs.length=D.size T/\VRow (hv W) (a.add (i*D.size T)) cs/\RowF D (hv W) cs (D.shape T y)/\f y<=uptoBulk d/\A y) len (fun i hi=>by
   have h1:=hE i hi
   rw[hc] at h1
   have h0:Vo[i]? =some Vo[i]:=List.getElem?_eq_getElem (by omega)
   rw[h0] at h1
   obtain⟨cs,h3,h4⟩:=Option.bind_eq_some_iff.1 h1
   obtain⟨h5,h6⟩:=v9c h3
   have h7:(Vo.map (·.1))[i]? =some Vo[i].1:=by rw[List.getElem?_map,h0];rfl
   have h8:=y72 h7
   obtain⟨y,hy,hm,hA⟩:=hel _ _ _ hfu h5 h4 (by omega)
   exact⟨y,cs,_,h7,h5,h6,hy,hm,hA⟩)
  refine⟨l,_,rfl,?_,?_,?_,fun y hy=> ?_⟩
  ·have:=RepF.ofRSl okP.ok (D:=D) (σ:=hv W) (v:= .slice (some a) l.length cap) (T:=T) (l:=l) ⟨some a,cap,rfl,by omega,by omega,fun i x hx=>by
    obtain⟨cs,d,_,h1,h2,h3,_⟩:=hl2 i x hx
    exact⟨a,cs,rfl,h1,h2,h3⟩⟩
   rw[hl1] at this;exact this
  ·have:=y5f (f:=f) (l:=l) (ds:=Vo.map (·.1)) (by rw[hl1,List.length_map,hlen]) fun i y d hy hd=>by
    obtain⟨_,d',h1,_,_,_,h2,_⟩:=hl2 i y hy
    rw[hd] at h1;cases h1;exact h2
   simp only;omega
  ·simp only;omega
  ·obtain⟨i,hi⟩:=List.getElem?_of_mem hy
   obtain⟨_,_,_,_,_,_,_,hA⟩:=hl2 i y hi
   exact hA
theorem j03{fuel:Nat}{cs:List Value}{x:DataW H×List MemPlace}(h:DataW.trod enc Proofs.Tryz.prog W base spare held fuel 9 cs=some x): ∃s:ByteArray,cs=[.string s]/\s.size+1<=uptoBulk x.1:=by
 obtain⟨s,rfl,rfl,_⟩:=DataW.trod_string Proofs.Tryz.underlying9 h
 refine⟨s,rfl,?_⟩
 have:s.data.toList.length=s.size:=rfl
 simp only[uptoBulk];omega
theorem y39{fuel:Nat}{cs:List Value}{x:DataW H×List MemPlace}(h:DataW.trod enc Proofs.Tryz.prog W base spare held fuel 44 cs=some x)(hb:uptoBulk x.1<=1048576): ∃(l:List ByteArray) (v:Value),cs=[v]/\RepF D (hv W) v (.sl C.str l)/\l.length<=uptoBulk x.1:=by
 obtain⟨l,v,h1,h2,_,h3,_⟩:=v4o (T:=C.str) (f:=fun _=>0) (A:=fun _=>True) Proofs.Tryz.underlying44 (by kernel_rfl) (fun n cs x _ _ hx _=>by
  obtain⟨s,rfl,_⟩:=j03 hx
  exact⟨s,Z0 (.str _) q74,Nat.zero_le _,trivial⟩) h hb
 exact⟨l,v,h1,h2,h3⟩
theorem y73{fuel:Nat}{cs:List Value}{x:DataW H×List MemPlace}(hl:cs.length=4)(h:DataW.trod enc Proofs.Tryz.prog W base spare held fuel 115 cs=some x)(hb:uptoBulk x.1<=1048576): ∃y:Val,RowF D (hv W) cs (D.shape .val y)/\(1+y.4.length<=uptoBulk x.1/\y.3.size<=1048576/\y.4.length<=1048576):=by
 obtain⟨xs,m,hfu,rfl,_,hn,hf⟩:=DataW.trod_struct Proofs.Tryz.underlying115 h
 have c3:Proofs.Tryz.prog.cellsOf 3=1:=by kernel_rfl
 have c9:Proofs.Tryz.prog.cellsOf 9=1:=by kernel_rfl
 have c44:Proofs.Tryz.prog.cellsOf 44=1:=by kernel_rfl
 match xs,hn with
 |[z0,z1,z2,z3],_=>
 have q0:=hf 0 _ rfl
 have q1:=hf 1 _ rfl
 have q2:=hf 2 _ rfl
 have q3:=hf 3 _ rfl
 match cs,hl with
 |[u0,u1,u2,u3],_=>
 simp only[List.map_cons,List.map_nil,uptoBulk,uptoBulkAll] at hb
 change DataW.trod enc Proofs.Tryz.prog W base spare held m 3 (List.take (Proofs.Tryz.prog.cellsOf 3) [u0,u1,u2,u3])=some z0 at q0
 rw[c3] at q0
 change DataW.trod enc Proofs.Tryz.prog W base spare held m 3 [u0]=some z0 at q0
 obtain⟨a0,e0,g0,_⟩:=DataW.trod_int Proofs.Tryz.underlying3 q0
 change DataW.trod enc Proofs.Tryz.prog W base spare held m 3 (List.take (Proofs.Tryz.prog.cellsOf 3) [u1,u2,u3])=some z1 at q1
 rw[c3] at q1
 change DataW.trod enc Proofs.Tryz.prog W base spare held m 3 [u1]=some z1 at q1
 obtain⟨a1,e1,g1,_⟩:=DataW.trod_int Proofs.Tryz.underlying3 q1
 change DataW.trod enc Proofs.Tryz.prog W base spare held m 9 (List.take (Proofs.Tryz.prog.cellsOf 9) [u2,u3])=some z2 at q2
 rw[c9] at q2
 change DataW.trod enc Proofs.Tryz.prog W base spare held m 9 [u2]=some z2 at q2
 obtain⟨a2,e2,g2⟩:=j03 q2
 change DataW.trod enc Proofs.Tryz.prog W base spare held m 44 (List.take (Proofs.Tryz.prog.cellsOf 44) [u3])=some z3 at q3
 rw[c44] at q3
 change DataW.trod enc Proofs.Tryz.prog W base spare held m 44 [u3]=some z3 at q3
 obtain⟨a3,v3,e3,r3,g3⟩:=y39 q3 (by omega)
 simp only[List.cons.injEq,and_true] at e0
 subst e0
 subst g0
 simp only[List.cons.injEq,and_true] at e1
 subst e1
 subst g1
 simp only[List.cons.injEq,and_true] at e2
 subst e2
 simp only[List.cons.injEq,and_true] at e3
 subst e3
 refine⟨Val.mk a0 a1 a2 a3,(Z0 (.int _ _) (Z0 (.int _ _) (Z0 (.str _) (Z0 r3 q74)))),?_⟩
 simp only[List.map_cons,List.map_nil,uptoBulk,uptoBulkAll] at hb⊢
 exact⟨by omega,by omega,by omega⟩
theorem y4a{fuel:Nat}{cs:List Value}{x:DataW H×List MemPlace}(hl:cs.length=5)(h:DataW.trod enc Proofs.Tryz.prog W base spare held fuel 180 cs=some x)(hb:uptoBulk x.1<=1048576): ∃y:Attr,RowF D (hv W) cs (D.shape .attr y)/\(y.value.list.length<=1048576/\y.value.text.size<=1048576):=by
 obtain⟨xs,m,hfu,rfl,_,hn,hf⟩:=DataW.trod_struct Proofs.Tryz.underlying180 h
 have c9:Proofs.Tryz.prog.cellsOf 9=1:=by kernel_rfl
 have c115:Proofs.Tryz.prog.cellsOf 115=4:=by kernel_rfl
 match xs,hn with
 |[z0,z1],_=>
 have q0:=hf 0 _ rfl
 have q1:=hf 1 _ rfl
 match cs,hl with
 |[u0,u1,u2,u3,u4],_=>
 simp only[List.map_cons,List.map_nil,uptoBulk,uptoBulkAll] at hb
 change DataW.trod enc Proofs.Tryz.prog W base spare held m 9 (List.take (Proofs.Tryz.prog.cellsOf 9) [u0,u1,u2,u3,u4])=some z0 at q0
 rw[c9] at q0
 change DataW.trod enc Proofs.Tryz.prog W base spare held m 9 [u0]=some z0 at q0
 obtain⟨a0,e0,g0⟩:=j03 q0
 change DataW.trod enc Proofs.Tryz.prog W base spare held m 115 (List.take (Proofs.Tryz.prog.cellsOf 115) [u1,u2,u3,u4])=some z1 at q1
 rw[c115] at q1
 change DataW.trod enc Proofs.Tryz.prog W base spare held m 115 [u1,u2,u3,u4]=some z1 at q1
 obtain⟨a1,r1,g1⟩:=y73 rfl q1 (by omega)
 simp only[List.cons.injEq,and_true] at e0
 subst e0
 refine⟨Attr.mk a0 a1,(Z0 (.str _) r1),?_⟩
 exact⟨g1.2.2,g1.2.1⟩
theorem y74{fuel:Nat}{cs:List Value}{x:DataW H×List MemPlace}(hl:cs.length=3)(h:DataW.trod enc Proofs.Tryz.prog W base spare held fuel 82 cs=some x)(hb:uptoBulk x.1<=1048576): ∃y:Ctxt,RowF D (hv W) cs (D.shape .ctx y)/\(y.attrs.length<=1048576/\(∀a∈y.attrs,a.value.list.length<=1048576/\a.value.text.size<=1048576)/\y.key.size<=1048576):=by
 obtain⟨xs,m,hfu,rfl,_,hn,hf⟩:=DataW.trod_struct Proofs.Tryz.underlying82 h
 have c9:Proofs.Tryz.prog.cellsOf 9=1:=by kernel_rfl
 have c80:Proofs.Tryz.prog.cellsOf 80=1:=by kernel_rfl
 match xs,hn with
 |[z0,z1,z2],_=>
 have q0:=hf 0 _ rfl
 have q1:=hf 1 _ rfl
 have q2:=hf 2 _ rfl
 match cs,hl with
 |[u0,u1,u2],_=>
 simp only[List.map_cons,List.map_nil,uptoBulk,uptoBulkAll] at hb
 change DataW.trod enc Proofs.Tryz.prog W base spare held m 9 (List.take (Proofs.Tryz.prog.cellsOf 9) [u0,u1,u2])=some z0 at q0
 rw[c9] at q0
 change DataW.trod enc Proofs.Tryz.prog W base spare held m 9 [u0]=some z0 at q0
 obtain⟨a0,e0,g0⟩:=j03 q0
 change DataW.trod enc Proofs.Tryz.prog W base spare held m 9 (List.take (Proofs.Tryz.prog.cellsOf 9) [u1,u2])=some z1 at q1
 rw[c9] at q1
 change DataW.trod enc Proofs.Tryz.prog W base spare held m 9 [u1]=some z1 at q1
 obtain⟨a1,e1,g1⟩:=j03 q1
 change DataW.trod enc Proofs.Tryz.prog W base spare held m 80 (List.take (Proofs.Tryz.prog.cellsOf 80) [u2])=some z2 at q2
 rw[c80] at q2
 change DataW.trod enc Proofs.Tryz.prog W base spare held m 80 [u2]=some z2 at q2
 obtain⟨a2,v2,e2,r2,g2,b2,A2⟩:=v4o (T:=C.attr) (f:=fun _=>0) (A:=fun y:Attr=>y.value.list.length<=1048576/\y.value.text.size<=1048576) Proofs.Tryz.underlying80 (by kernel_rfl) (fun n cs x _ hl hx hb=>by
  obtain⟨y,h1,h2⟩:=y4a hl hx hb
  exact⟨y,h1,Nat.zero_le _,h2⟩) q2 (by omega)
 simp only[List.cons.injEq,and_true] at e0
 subst e0
 simp only[List.cons.injEq,and_true] at e1
 subst e1
 simp only[List.cons.injEq,and_true] at e2
 subst e2
 refine⟨Ctxt.mk a0 a1 a2,(Z0 (.str _) (Z0 (.str _) (Z0 r2 q74))),?_⟩
 exact⟨by simp only;omega,A2,by simp only;omega⟩
theorem y4b{fuel:Nat}{cs:List Value}{x:DataW H×List MemPlace}(hl:cs.length=1)(h:DataW.trod enc Proofs.Tryz.prog W base spare held fuel 25 cs=some x)(hb:uptoBulk x.1<=1048576): ∃y:Subj,RowF D (hv W) cs (D.shape .subj y)/\SubB y:=by
 obtain⟨xs,m,hfu,rfl,_,hn,hf⟩:=DataW.trod_struct Proofs.Tryz.underlying25 h
 have c23:Proofs.Tryz.prog.cellsOf 23=1:=by kernel_rfl
 match xs,hn with
 |[z0],_=>
 have q0:=hf 0 _ rfl
 match cs,hl with
 |[u0],_=>
 simp only[List.map_cons,List.map_nil,uptoBulk,uptoBulkAll] at hb
 change DataW.trod enc Proofs.Tryz.prog W base spare held m 23 (List.take (Proofs.Tryz.prog.cellsOf 23) [u0])=some z0 at q0
 rw[c23] at q0
 change DataW.trod enc Proofs.Tryz.prog W base spare held m 23 [u0]=some z0 at q0
 obtain⟨a0,v0,e0,r0,g0,b0,A0⟩:=v4o (T:=C.ctx) (f:=fun _=>0) (A:=fun y:Ctxt=>y.attrs.length<=1048576/\(∀a∈y.attrs,a.value.list.length<=1048576/\a.value.text.size<=1048576)/\y.key.size<=1048576) Proofs.Tryz.underlying23 (by kernel_rfl) (fun n cs x _ hl hx hb=>by
  obtain⟨y,h1,h2⟩:=y74 hl hx hb
  exact⟨y,h1,Nat.zero_le _,h2⟩) q0 (by omega)
 simp only[List.cons.injEq,and_true] at e0
 subst e0
 refine⟨Subj.mk a0,(Z0 r0 q74),?_⟩
 exact⟨by simp only;omega,fun c hc=>by have:=(A0 c hc).1;omega,fun c hc a ha=>by have:=(A0 c hc).2.1 a ha;omega,fun c hc=>by have:=(A0 c hc).2.2;omega⟩
theorem v61{fuel:Nat}{cs:List Value}{x:DataW H×List MemPlace}(hl:cs.length=3)(h:DataW.trod enc Proofs.Tryz.prog W base spare held fuel 54 cs=some x)(hb:uptoBulk x.1<=1048576): ∃y:Frc,RowF D (hv W) cs (D.shape .forced y)/\True:=by
 obtain⟨xs,m,hfu,rfl,_,hn,hf⟩:=DataW.trod_struct Proofs.Tryz.underlying54 h
 have c3:Proofs.Tryz.prog.cellsOf 3=1:=by kernel_rfl
 have c9:Proofs.Tryz.prog.cellsOf 9=1:=by kernel_rfl
 match xs,hn with
 |[z0,z1,z2],_=>
 have q0:=hf 0 _ rfl
 have q1:=hf 1 _ rfl
 have q2:=hf 2 _ rfl
 match cs,hl with
 |[u0,u1,u2],_=>
 simp only[List.map_cons,List.map_nil,uptoBulk,uptoBulkAll] at hb
 change DataW.trod enc Proofs.Tryz.prog W base spare held m 9 (List.take (Proofs.Tryz.prog.cellsOf 9) [u0,u1,u2])=some z0 at q0
 rw[c9] at q0
 change DataW.trod enc Proofs.Tryz.prog W base spare held m 9 [u0]=some z0 at q0
 obtain⟨a0,e0,g0⟩:=j03 q0
 change DataW.trod enc Proofs.Tryz.prog W base spare held m 9 (List.take (Proofs.Tryz.prog.cellsOf 9) [u1,u2])=some z1 at q1
 rw[c9] at q1
 change DataW.trod enc Proofs.Tryz.prog W base spare held m 9 [u1]=some z1 at q1
 obtain⟨a1,e1,g1⟩:=j03 q1
 change DataW.trod enc Proofs.Tryz.prog W base spare held m 3 (List.take (Proofs.Tryz.prog.cellsOf 3) [u2])=some z2 at q2
 rw[c3] at q2
 change DataW.trod enc Proofs.Tryz.prog W base spare held m 3 [u2]=some z2 at q2
 obtain⟨a2,e2,g2,_⟩:=DataW.trod_int Proofs.Tryz.underlying3 q2
 simp only[List.cons.injEq,and_true] at e0
 subst e0
 simp only[List.cons.injEq,and_true] at e1
 subst e1
 simp only[List.cons.injEq,and_true] at e2
 subst e2
 subst g2
 refine⟨Frc.mk a0 a1 a2,(Z0 (.str _) (Z0 (.str _) (Z0 (.int _ _) q74))),?_⟩
 exact trivial
theorem v62{fuel:Nat}{cs:List Value}{x:DataW H×List MemPlace}(h:DataW.trod enc Proofs.Tryz.prog W base spare held fuel 26 cs=some x)(hb:uptoBulk x.1<=1048576): ∃(l:List Frc) (v:Value),cs=[v]/\RepF D (hv W) v (.sl C.forced l)/\l.length<=1048576:=by
 obtain⟨l,v,h1,h2,_,h3,_⟩:=v4o (T:=C.forced) (f:=fun _=>0) (A:=fun _=>True) Proofs.Tryz.underlying26 (by kernel_rfl) (fun n cs x _ hl hx hb=>by
  obtain⟨y,h1,_⟩:=v61 hl hx hb
  exact⟨y,h1,Nat.zero_le _,trivial⟩) h hb
 exact⟨l,v,h1,h2,by omega⟩
end
end Go.En
end
section
namespace Go.En
open Go Go.RowKit Go.Fl Go.Fx
/-- Bytes as numbers. -/
def u8s (l : List UInt8) : List Int := l.map fun b => ((b.toNat : Nat) : Int)
theorem y5g {l : List UInt8} : Byts (u8s l) := fun x hx => by
  obtain ⟨b, _, rfl⟩ := List.mem_map.1 hx
  have := b.toNat_lt
  exact ⟨by omega, by omega⟩
theorem u0b {σ : Hv} {v : Value} {l : List UInt8} (h : RSl 1 RU8 σ v l) : RSl (D.size C.u8) (ElF D C.u8) σ v (u8s l) := by
  obtain ⟨a, cap, rfl, h1, h2, h3⟩ := h
  refine ⟨a, cap, by simp [u8s], by simpa [u8s] using h1, by simpa [u8s] using h2, fun i x hx => ?_⟩
  simp only [u8s, List.getElem?_map, Option.map_eq_some_iff] at hx
  obtain ⟨b, hb, rfl⟩ := hx
  obtain ⟨ad, cs, e1, e2, e3, e4⟩ := h3 i b hb
  have e4 : cs = _ := e4
  subst e4
  exact ⟨ad, _, e1, rfl, e3, Z0 (.int _ _) q74⟩
theorem z8w (x0 : List UInt8) (x1 : List UInt8) (x2 : Subj) (x3 : List Frc) (x4 : ByteArray) {v0 : Value} {v1 : Value} {v2 : List Value} {v3 : Value} {σ : Hv} {w : World} (hV : View σ w) (hG : Glb D σ) (rd0 : RSl 1 RU8 σ v0 x0) (rd1 : RSl 1 RU8 σ v1 x1) (rd2 : RowF D σ v2 (D.shape C.subj x2)) (rd3 : RepF D σ v3 (.sl C.forced x3)) (h : ∀ K : Bool → Prop, K true → Jh (u8s x0) (u8s x1) x2 x3 x4 K) :
    Calls Go.Proofs.Tryz.prog 3 #[v0, v1, .agg v2.toArray, v3, .string x4] w fun e w1 => ∃ r, e = .returned (.bool r) ∧ Grow [] σ w σ w1 ∧ r = true := by
  have he : (Uo Jh).m ([.f (.sl C.u8 (u8s x0)), .f (.sl C.u8 (u8s x1)), .el C.subj x2, .f (.sl C.forced x3), .f (.str x4)] : List (Fx.Tr Sg)) (fun rets _ => rets = [.f (.bool true)]) = Jh (u8s x0) (u8s x1) x2 x3 x4 (fun b => ([.f (.bool b)] : List (Fx.Tr Sg)) = [.f (.bool true)]) := by kernel_rfl
  have hp : (Uo Jh).m ([.f (.sl C.u8 (u8s x0)), .f (.sl C.u8 (u8s x1)), .el C.subj x2, .f (.sl C.forced x3), .f (.str x4)] : List (Fx.Tr Sg)) (fun rets _ => rets = [.f (.bool true)]) := Eq.mpr he (h _ rfl)
  have hm := (z8u).m _ _ hp w σ [v0, v1, .agg v2.toArray, v3, .string x4] [] hG (LayL.cons (ms := []) (.f (RepF.ofRSl okP.ok (u0b rd0))) (LayL.cons (ms := []) (.f (RepF.ofRSl okP.ok (u0b rd1))) (LayL.cons (ms := []) (.el rd2) (LayL.cons (ms := []) (.f rd3) (LayL.cons (ms := []) (.f (.str _)) .nil))))) (St.start hV)
  refine Calls.mono hm ?_
  rintro e w1 ⟨rets, outs, rv, σ1, msr, mso, rfl, hK, hLr, _, hS⟩
  subst hK
  cases hLr with
  | cons h1 hn =>
  cases hn
  cases h1 with
  | f hf =>
  cases hf
  exact ⟨true, rfl, hS.done.forget, rfl⟩
end Go.En
namespace Go.Proofs.YtfiomedjdipbgaaGreatDoor.assignLayersUpto
open Go Go.RowKit Go.Fl Go.ChangeShapes Go.WideShapes Go.ChangeAt
open Go.ChangeMaps (open_string shut_string)
theorem own : ownKnob Tryz.prog.godebug = none := by kernel_rfl
theorem laidOut : laidOutB Tryz.prog = true := by kernel_rfl
set_option maxRecDepth 100000 in
theorem contract (H : Type) (enc : TypeId × Value → H) (W : World) (base : Nat) (args : Array Value) (ds gs : List (DataW H)) (before : List MemPlace)
    (hval : ∀ (j : Nat) t v, Tryz.f3.params[j]? = some t → args[j]? = some v → Value.okWide Tryz.prog W .any base t v)
    (hW : DataW.Whole enc Tryz.prog Tryz.f3.params.toList Rows.assignLayersSpec.vars false W args.toList ds gs before)
    (hsz : (DataW.weightsEach Tryz.prog (Tryz.f3.params.toList ++ (Rows.OpenSpec.upto Rows.assignLayersSpec).bare.plain.varTypes Tryz.prog) (ds ++ gs)).all (· ≤ reachBytes) = true)
    (hL : laidMetH Tryz.prog Rows.assignLayersUptoRow.laid W) (hsh : W.ShapedOpen Tryz.prog) (hcnd : ∀ k, (Rows.OpenSpec.upto Rows.assignLayersSpec).cond = some k → k H (ds ++ gs) = true) :
    Calls Tryz.prog 3 args W fun e W' => ∃ v, e = .returned v ∧ Rows.assignLayersSpec.post enc Tryz.prog Tryz.f3 false true false false W args v W' := by
  have hG : Go.Fx.Glb Go.En.D (hv W) := Go.En.v0m hL hsh
  have hW' := hW
  obtain ⟨p, q, hA0, hV, rfl, hfz, hnd⟩ := hW
  have hA : DataW.TrodAll enc Tryz.prog W 0 (fun _ => true) true Tryz.f3.params.toList args.toList ds p := hA0
  rw [Tryz.params3] at hA hval hsz
  obtain ⟨v0, vs0, d0, ds0, p0, q0, hargs, rfl, rfl, h0, r0⟩ := trodAll_cons hA
  obtain ⟨v1, vs1, d1, ds1, p1, q1, rfl, rfl, rfl, h1, r1⟩ := trodAll_cons r0
  obtain ⟨v2, vs2, d2, ds2, p2, q2, rfl, rfl, rfl, h2, r2⟩ := trodAll_cons r1
  obtain ⟨v3, vs3, d3, ds3, p3, q3, rfl, rfl, rfl, h3, r3⟩ := trodAll_cons r2
  obtain ⟨v4, vs4, d4, ds4, p4, q4, rfl, rfl, rfl, h4, r4⟩ := trodAll_cons r3
  obtain ⟨rfl, rfl, rfl⟩ := trodAll_nil r4
  obtain rfl : args = #[v0, v1, v2, v3, v4] := by cases args; simp_all
  obtain ⟨rfl, rfl⟩ := trodVars_none hV
  have hbk : Rows.uptoBulkAll ([d0, d1, d2, d3, d4] ++ ([] : List (DataW H))) ≤ 1048576 := of_decide_eq_true (hcnd _ rfl)
  simp only [List.cons_append, List.nil_append, Rows.uptoBulkAll] at hbk
  have k0 := h0
  have lt0 : ∀ x ∈ p0, x.block < W.heap.size := by obtain ⟨m, hm⟩ := k0; exact DataW.trod_lt m _ _ _ hm
  obtain ⟨x0, rd0⟩ := y9q Tryz.underlying22 Tryz.underlying5 (by kernel_rfl) (of_decide_eq_true (by kernel_rfl)) (hval 0 22 v0 rfl rfl) h0 (v3v hsz (j := 0) (t := 22) rfl rfl)
  have k1 := h1
  have lt1 : ∀ x ∈ p1, x.block < W.heap.size := by obtain ⟨m, hm⟩ := k1; exact DataW.trod_lt m _ _ _ hm
  obtain ⟨x1, rd1⟩ := y9q Tryz.underlying22 Tryz.underlying5 (by kernel_rfl) (of_decide_eq_true (by kernel_rfl)) (hval 1 22 v1 rfl rfl) h1 (v3v hsz (j := 1) (t := 22) rfl rfl)
  have k2 := h2
  have lt2 : ∀ x ∈ p2, x.block < W.heap.size := by obtain ⟨m, hm⟩ := k2; exact DataW.trod_lt m _ _ _ hm
  obtain ⟨c2, rfl, z2⟩ := okWide_struct Tryz.underlying25 (hval 2 25 v2 rfl rfl)
  have hz2 : (Tryz.prog.cellsOf 25) = 1 := by kernel_rfl
  obtain ⟨m2, hm2⟩ := k2
  have hm2 : DataW.trod enc Tryz.prog W 0 (fun _ => true) true m2 25 c2.toList = some (d2, p2) := hm2
  obtain ⟨x2, rd2, sz2⟩ := Go.En.y4b (by rw [Array.length_toList, z2, hz2]) hm2 (by simp only; omega)
  have k3 := h3
  have lt3 : ∀ x ∈ p3, x.block < W.heap.size := by obtain ⟨m, hm⟩ := k3; exact DataW.trod_lt m _ _ _ hm
  obtain ⟨a3, n3, c3, rfl⟩ := okWide_slice Tryz.underlying26 (hval 3 26 v3 rfl rfl)
  obtain ⟨m3, hm3⟩ := k3
  obtain ⟨x3, v3, hv3, rd3, sz3⟩ := Go.En.v62 hm3 (by simp only; omega)
  cases hv3
  obtain ⟨x4, rfl, rfl, rfl, wx4⟩ := open_string Tryz.underlying9 (hval 4 9 v4 rfl rfl) h4
  refine (Go.En.z8w x0 x1 x2 x3 x4 (y65 W) hG rd0 rd1 rd2 rd3 (fun _ hk => Go.En.w1e Go.En.y5g Go.En.y5g sz2 hk)).mono fun e W' he => ?_
  obtain ⟨r, rfl, hg, hr⟩ := he
  have hrt : r = true := hr
  subst hrt
  have bel := y3d hg.keeps
  exact ⟨_, rfl, _, _, _, [], _, [], hW', trodAll_mk1 (shut_bool Tryz.underlying4 _), (trodAll_cons_mk (Below.trod laidOut (by kernel_rfl) (of_decide_eq_true (by kernel_rfl)) k0 bel lt0) (trodAll_cons_mk (Below.trod laidOut (by kernel_rfl) (of_decide_eq_true (by kernel_rfl)) k1 bel lt1) (trodAll_cons_mk (Below.trod laidOut (by kernel_rfl) (of_decide_eq_true (by kernel_rfl)) h2 bel lt2) (trodAll_cons_mk (Below.trod laidOut (by kernel_rfl) (of_decide_eq_true (by kernel_rfl)) h3 bel lt3) (trodAll_cons_mk (shut_string Tryz.underlying9 wx4) trodAll_mk0))))), rfl, bel.frame _, fun h => by cases h⟩
theorem reads (os : Os) {H : Type} (enc : TypeId × Value → H) : ∃ places, DataW.whole enc Tryz.prog ((World.laidAll Tryz.prog os Rows.assignLayersUptoRow.laid).forCall (fun _ _ => 0) ⟨#[], #[.slice none 0 0, .slice none 0 0, .agg #[.slice none 0 0], .slice none 0 0, .string ⟨#[]⟩], []⟩).memory Tryz.f3.params.toList Rows.assignLayersSpec.vars false (#[.slice none 0 0, .slice none 0 0, .agg #[.slice none 0 0], .slice none 0 0, .string ⟨#[]⟩] : Array Value).toList 8 = some ([.nil, .nil, .agg [.nil], .nil, .lit (.string [])], [], places) :=
  ⟨[], by kernel_rfl⟩
set_option maxRecDepth 100000 in
theorem lifted (os : Os) (started : os.Started) (H : Type) (enc : TypeId × Value → H) (F : Stop.Interp) :
    ReturnsInHanded {} Tryz.checked os 3 .any ((Rows.OpenSpec.upto Rows.assignLayersSpec).preRow enc Tryz.prog Tryz.f3 Rows.assignLayersUptoRow.domain false Rows.assignLayersUptoRow.laid) (((Rows.OpenSpec.upto Rows.assignLayersSpec).at F).post enc Tryz.prog Tryz.f3 false true false false) := by
  obtain ⟨places, hx⟩ := reads os enc
  refine returnsInHanded_of_row (C := Tryz.checked) (s := (Rows.OpenSpec.upto Rows.assignLayersSpec)) own started (by kernel_rfl) Tryz.func3
    (witness_row_atRef (enc := enc) (C := Tryz.checked) false (World.laidAll Tryz.prog os Rows.assignLayersUptoRow.laid) #[.slice none 0 0, .slice none 0 0, .agg #[.slice none 0 0], .slice none 0 0, .string ⟨#[]⟩] (World.laidAll_os _ _ _) (by kernel_rfl) (by kernel_rfl) (by kernel_rfl)
      (OpenSpec.preRow_of_cond 8 hx (by kernel_rfl) (fun k hk => by cases hk; kernel_rfl) (by kernel_rfl) (by rw [MakeChecks.laidMetH_plain _ _ _ (by kernel_rfl)]; exact laidMet_laidAll _ (by kernel_rfl) (by kernel_rfl)))) ?_
  intro W base args ds gs before hval hW _ hcnd hsz hL hsh _
  exact contract H enc W base args ds gs before hval hW hsz hL hsh hcnd
theorem y4c : (Rows.assignLayersUptoRow.inPlace == Tryz.pinned.checked.prog.inPlace 3) = true := by kernel_rfl
theorem kUnf : (Rows.assignLayersUptoRow.unfollowed == Tryz.pinned.checked.prog.unfollowed 3) = true := by kernel_rfl
theorem kRec : (Rows.assignLayersUptoRow.recurses == Tryz.pinned.checked.prog.recurses 3) = true := by kernel_rfl
theorem u0c : (Rows.assignLayersUptoRow.named == Tryz.pinned.checked.prog.varsNamed 3) = true := by kernel_rfl
theorem closed : joinedFacts Tryz.pinned.checked.prog 3 Tryz.f3 (Rows.OpenSpec.upto Rows.assignLayersSpec).bare Rows.assignLayersUptoRow = true := by
  unfold joinedFacts
  rw [y4c, kUnf, kRec, u0c]
  kernel_rfl
theorem said : Rows.AssignLayersUptoSaid :=
  OpenClaim.holds_of_cond 3 Tryz.f3 rfl rfl rfl rfl rfl rfl rfl ⟨rfl, rfl, rfl, rfl, rfl⟩ rfl rfl rfl rfl rfl (by kernel_rfl) Tryz.func3 closed
    (of_decide_eq_true (by kernel_rfl)) (by unfold Func.isWrapper; first | (rw [if_pos (by decide +kernel)]; kernel_rfl) | (rw [if_neg (by decide +kernel)]; exact ⟨rfl, rfl⟩))
    (fun os started H enc _ F => by rw [OpenClaim.pre_eq_preRow]; exact lifted os started H enc F)
theorem plain (f : FuncId) (fn : Func) (hf : Tryz.pinned.checked.prog.funcNamed "flagstone/flagstonelaw15.AssignLayers" = some f) (hfn : Tryz.pinned.checked.prog.funcs[f]? = some fn) :
    true = Tryz.pinned.checked.prog.looks [] ∧ ∀ (j : Nat) t, fn.params[j]? = some t → Tryz.pinned.checked.prog.wantsStandIn t = false := by
  obtain rfl : f = 3 := Option.some.inj ((show Tryz.prog.funcNamed "flagstone/flagstonelaw15.AssignLayers" = some 3 by kernel_rfl).symm.trans hf) |>.symm
  obtain rfl : fn = Tryz.f3 := (Option.some.inj (Tryz.func3.symm.trans hfn)).symm
  refine ⟨by kernel_rfl, fun j t ht => ?_⟩
  rw [Tryz.params3] at ht
  match j with
  | 0 => cases ht; exact (show Tryz.prog.wantsStandIn 22 = false by kernel_rfl)
  | 1 => cases ht; exact (show Tryz.prog.wantsStandIn 22 = false by kernel_rfl)
  | 2 => cases ht; exact (show Tryz.prog.wantsStandIn 25 = false by kernel_rfl)
  | 3 => cases ht; exact (show Tryz.prog.wantsStandIn 26 = false by kernel_rfl)
  | 4 => cases ht; exact (show Tryz.prog.wantsStandIn 9 = false by kernel_rfl)
  | j + 5 => cases ht
theorem card : Rows.AssignLayersUptoCardSaid :=
  Claim7.holds_tied_plain_at .later [] _ _ _ _ said (fun _ h => by cases h) (by kernel_rfl) (fun _ h => by cases h) assignLayersUpto_row_tie rfl ⟨rfl, rfl⟩ (by kernel_rfl) rfl plain (by kernel_rfl)
end Go.Proofs.YtfiomedjdipbgaaGreatDoor.assignLayersUpto
end
#print axioms Go.Proofs.YtfiomedjdipbgaaGreatDoor.assignLayersUpto.card
