/- In words: each decision has a value of its type, and its reason is true; for every input the law returns true. This is part 7 of 11. Conditions: those in the statements. -/
import Derived.Test.YtkbjibhkaddepaaGreatDoorRe6
import Derived.Lib.ItoaNum
noncomputable section
set_option maxRecDepth 100000
namespace Go.En
open Go Go.Fl Go.Fl.Lk Go.Fx Go.Dg
theorem v2k{nodes:List ByteArray}{edges:List Edg}{K:List ByteArray->Prop}(hN:nodes.length<=100000)(hE:edges.length<=100000)(h: ∀r,Asc r->(∀x∈r,x∈nodes)->K r):z4h nodes edges K:=by
 unfold z4h j1t
 refine Lp2.ind (fun (o:List ByteArray) (i:Int)=>0<=i/\i<=nodes.length/\Asc o/\ ∀x∈o,x∈nodes) (fun _ (i:Int)=>(nodes.length - i).toNat) ?_ ⟨by omega,by omega,w3v,by simp⟩
 rintro o i ⟨i0,i1,ho,hs⟩ _
 have hlo:=v5o ho hs
 refine Cnd.mk (fun hc=>⟨by omega,fun n hn=>⟨by omega,fun m hm=>v5p hE fun q _ _=>Hq fun r _=>Cnd.mk (fun _=>⟨by omega,fun p hp=>z8r ho (by omega) fun o' ho' hmem=>⟨by unfold InI;omega,⟨by omega,by omega,ho',fun x hx=> ?_⟩,by omega⟩⟩) fun _=>⟨by unfold InI;omega,⟨by omega,by omega,ho,hs⟩,by omega⟩⟩⟩) fun _=>h o ho hs
 rcases (hmem x).1 hx with hx|rfl
 ·exact hs x hx
 ·exact getm hp
theorem j8e{nodes:List ByteArray}{edges:List Edg}{K:ByteArray->Bool->Prop}(hN:nodes.length<=100000)(hE:edges.length<=100000)(hs: ∀x∈nodes,x.size<=100)(h: ∀s b,s.size<=100->K s b):z4i nodes edges K:=by
 unfold z4i j1u
 exact v2k hN hE fun r _ hr _=>Cnd.mk (fun _=>h _ _ sz0) fun hc=>⟨by omega,fun y hy=>h _ _ (hs y (hr y (getm hy)))⟩
theorem w86: ∀(n:Nat) {l:List ByteArray} {e:Ex} {K:List ByteArray->Prop},ExS n e->Asc l->l.length+lim n<=1000000->(∀r,Asc r->r.length<=l.length+lim n->K r)->q54 l e K:=by
 intro n l e K he hl hB h X hX
 induction n using Nat.strongRecOn generalizing l e K with
 |_ n ih=>
 refine hX _ _ _ ?_
 unfold z0n
 have lp:1<=lim n:=by cases n<;>simp[lim]
 refine Jn1.mk (fun r=>Asc r/\r.length<=l.length+1) (Cnd.mk (fun _=>z8r hl (by omega) fun r hr hmem=>⟨hr,?_⟩) fun _=>⟨hl,by omega⟩) fun r hr=> ?_
 ·have:=v5o hr (m:=e.3::l) fun x hx=>by rcases (hmem x).1 hx with hx|rfl<;>simp[*]
  simpa using this
 ·obtain⟨hr,hlen⟩:=hr
  have hk:=he.kids
  cases n with
  |zero=>
   have hk0:e.kids=[]:=he.2.2.2
   refine Lp2.ind (fun (q:List ByteArray) (i:Int)=>q=r/\0<=i) (fun _ _=>0) ?_ ⟨rfl,by omega⟩
   rintro q i ⟨rfl,i0⟩ _
   refine Cnd.mk (fun hc=> ?_) fun _=>h _ hr (by simp[lim];omega)
   rw[hk0]
   exact⟨by rw[hk0] at hc;simp at hc;omega,fun y hy=>by simp at hy⟩
  |succ n=>
  refine Lp2.ind (fun (q:List ByteArray) (i:Int)=>0<=i/\i<=e.kids.length/\Asc q/\q.length<=r.length+i.toNat*lim n) (fun _ (i:Int)=>(e.kids.length - i).toNat) ?_ ⟨by omega,by omega,hr,by simp⟩
  rintro q i ⟨i0,i1,hq,hql⟩ _
  have hle:i.toNat*lim n<=3*lim n:=Nat.mul_le_mul_right _ (by omega)
  have hB:l.length+(1+3*lim n)<=1000000:=hB
  refine Cnd.mk (fun hc=>⟨by omega,fun y hy=> ?_⟩) fun _=>h _ hq (by show q.length<=l.length+(1+3*lim n);omega)
  obtain⟨m,hm,hk⟩:=he.kid (getm hy)
  obtain rfl:m=n:=by omega
  rw[Z4]
  have hle2:i.toNat*lim m<=2*lim m:=Nat.mul_le_mul_right _ (by omega)
  refine ih m (by omega) hk hq (by omega) fun s hs hsl=>⟨by unfold InI;omega,⟨by omega,by omega,hs,?_⟩,by omega⟩
  rw[show (i+1).toNat=i.toNat+1 by omega,Nat.add_mul,Nat.one_mul];omega
theorem w87{e:Ex}{K:List ByteArray->Prop}(he:ExS 4 e)(h: ∀r,Asc r->r.length<=121->K r):q1u e K:=by
 unfold q1u z0o
 rw[Z4]
 exact w86 4 he w3v (by decide) fun r hr hl=>h r hr (by rw[lim4] at hl;simpa using hl)
theorem v2l{l:List Seg}{K:List Edg->Prop}(hl:l.length<=100)(hs: ∀g∈l,SegS g)(h: ∀r,r.length<=100000->K r):q1c l K:=by
 unfold q1c z4g
 refine Lp2.ind (fun (r:List Edg) (i:Int)=>0<=i/\i<=l.length/\r.length<=i.toNat*121) (fun _ (i:Int)=>(l.length - i).toNat) ?_ ⟨by omega,by omega,by simp⟩
 rintro r i ⟨i0,i1,hr⟩ _
 refine Cnd.mk (fun hc=>⟨by omega,fun g hg=> ?_⟩) fun _=>h _ (by omega)
 dsimp only;rw[Z4]
 refine w87 (hs g (getm hg)).cond fun q _ hq=> ?_
 refine Lp2.ind (fun (p:List Edg) (j:Int)=>0<=j/\j<=q.length/\p.length<=r.length+j.toNat) (fun _ (j:Int)=>(q.length - j).toNat) ?_ ⟨by omega,by omega,by simp⟩
 rintro p j ⟨j0,j1,hp⟩ _
 exact Cnd.mk (fun hc=>⟨by omega,fun _ _=>⟨by omega,fun _ _=>⟨by unfold Sml;simp;omega,by unfold InI;omega,⟨by omega,by omega,by simp;omega⟩,by omega⟩⟩⟩) fun _=>⟨by unfold InI;omega,⟨by omega,by omega,by omega⟩,by omega⟩
theorem w6k{l:List Decl}{kind name:ByteArray}{K:Int->Prop}(h: ∀r,K r):q53 l kind name K:=by
 unfold q53
 refine Lp1.ind (fun (i:Int)=>0<=i/\i<=l.length) (fun (i:Int)=>(l.length - i).toNat) ?_ ⟨by omega,by omega⟩
 rintro i ⟨i0,i1⟩
 (repeat' (first|exact h _|assumption|(unfold InI;omega)|omega|refine Cnd.mk (fun _=> ?_) fun _=> ?_|refine⟨?_,?_⟩|intro _))
theorem j7t: ∀(n:Nat) {l:List Decl} {segs:List ByteArray} {e:Ex} {K:Int->Prop},ExS n e->(∀r,K r)->z29 l segs e K:=by
 intro n l segs e K he h X hX
 induction n using Nat.strongRecOn generalizing e K with
 |_ n ih=>
 refine hX _ _ _ _ ?_
 unfold w1h
 have lp:Lp1 (fun (Qa:Int) R3=>e.5.length<=(9223372036854775807:Nat)->Cnd (Qa<(↑e.5.length:Int)) (((0:Int)<=Qa/\Qa<(↑e.5.length:Int))/\ ∀y2,e.5[Qa.toNat]? =some y2->X l segs (Ex.mk y2.1 y2.2 y2.3 y2.4 y2.5) fun Qe=>Cnd (Qe=(0:Int)) (InI (Qa+(1:Int))/\R3 (Qa+(1:Int))) (K Qe)) (K (0:Int))) (0:Int):=by
  refine Lp1.ind (fun (i:Int)=>0<=i/\i<=e.kids.length) (fun (i:Int)=>(e.kids.length - i).toNat) ?_ ⟨by omega,by omega⟩
  rintro i ⟨i0,i1⟩ _
  refine Cnd.mk (fun hc=>⟨by omega,fun y hy=> ?_⟩) fun _=>h _
  obtain⟨m,hm,hk⟩:=he.kid (getm hy)
  rw[Z4]
  exact ih m (by omega) hk fun r=>Cnd.mk (fun _=>⟨by unfold InI;omega,⟨by omega,by omega⟩,by omega⟩) fun _=>h _
 have jn:Jn0 (Lp1 (fun (Qa:Int) R3=>e.5.length<=(9223372036854775807:Nat)->Cnd (Qa<(↑e.5.length:Int)) (((0:Int)<=Qa/\Qa<(↑e.5.length:Int))/\ ∀y2,e.5[Qa.toNat]? =some y2->X l segs (Ex.mk y2.1 y2.2 y2.3 y2.4 y2.5) fun Qe=>Cnd (Qe=(0:Int)) (InI (Qa+(1:Int))/\R3 (Qa+(1:Int))) (K Qe)) (K (0:Int))) (0:Int)) fun Qa=>J5 e.1 fun Qc=>Cnd (Qc=true) (q53 l e.2 e.3 fun Qf=>Cnd (Qf=(0:Int)) (K (11:Int)) (q9f Qf (Ex.mk e.1 e.2 e.3 e.4 e.5) fun Qi=>Cnd (Qi=true) Qa (K (8:Int)))) Qa:=
  ⟨True,fun _=>lp,q1x fun _ _=>Cnd.mk (fun _=>w6k fun _=>Cnd.mk (fun _=>h _) fun _=>v9h fun _=>Cnd.mk (fun _=>trivial) fun _=>h _) fun _=>trivial⟩
 exact Cnd.mk (fun _=>Hq fun _ _=>Cnd.mk (fun _=>jn) fun _=>h _) fun _=>jn
theorem w37{l:List Decl}{s:Srv}{K:Int->Prop}(h: ∀r,K r):z9s l s K:=by
 unfold z9s j6h
 (repeat' (first|exact h _|refine w6k fun _=> ?_|assumption|(unfold InI;omega)|omega|refine Cnd.mk (fun _=> ?_) fun _=> ?_|refine⟨?_,?_⟩|intro _))
theorem j9j{v:Envt}{f:Flg}{K:Int->Prop}(hv:EnvS v)(hf:FlgS f)(h: ∀r,K r):q2k v f K:=by
 unfold q2k q9i
 have ev:Envt.mk (Sett.mk v.1.1 v.1.2 v.1.3) v.2 v.3 v.4 v.5 v.6=v:=rfl
 rw[ev]
 have hsl:=hv.slen
 have hrl:=hf.rlen
 refine z5r (by omega) ?_
 refine Lp2.ind (fun (i:Int) (_:List ByteArray)=>0<=i/\i<=f.needs.length) (fun (i:Int) _=>(f.needs.length - i).toNat) ?_ ⟨by omega,by omega⟩
 rintro i ks ⟨i0,i1⟩ _
 refine Cnd.mk (fun hc=>⟨by omega,fun q hq=>z5q fun r hr=>Cnd.mk (fun _=>h _) fun hn=>⟨by omega,fun q hq=>⟨?_,fun g hg _=>Cnd.mk (fun _=>h _) fun _=>⟨by unfold InI;omega,⟨by omega,by omega⟩,by omega⟩⟩⟩⟩) fun _=> ?_
 ·rcases hr with ⟨a,_⟩|⟨a,b,_⟩<;>omega
 refine Lp2.ind (fun (i:Int) (_:List ByteArray)=>0<=i/\i<=f.rules.length) (fun (i:Int) _=>(f.rules.length - i).toNat) ?_ ⟨by omega,by omega⟩
 rintro i ks ⟨i0,i1⟩ _
 refine Cnd.mk (fun hc=>⟨by omega,fun r hr=> ?_⟩) fun _=> ?_
 ·dsimp only;rw[Z4]
  exact j7t 4 (hf.rules r (getm hr)).cond fun _=>Cnd.mk (fun _=>⟨by omega,fun r hr=>w37 fun _=>Cnd.mk (fun _=>⟨by unfold InI;omega,⟨by omega,by omega⟩,by omega⟩) fun _=>h _⟩) fun _=>h _
 ·exact w37 fun _=>Cnd.mk (fun _=>z1d (by omega) (fun r hr=>(hf.rules r hr).cond) fun o n b ho=>Cnd.mk (fun _ _=>Cnd.mk (fun _=>h _) fun _=>h _) fun _=>h _) fun _=>h _
theorem z6r{v:Envt}{i:Int}{K:Int->Prop}(hv:EnvS v)(i0:0<=i)(i1:i<v.experiments.length)(h: ∀r,K r):Ub v i K:=by
 unfold Ub Rn
 have ev:Envt.mk (Sett.mk v.1.1 v.1.2 v.1.3) v.2 v.3 v.4 v.5 v.6=v:=rfl
 rw[ev]
 have hsl:=hv.slen
 have hxl:=hv.xlen
 refine⟨⟨i0,i1⟩,fun x hx=>z2h fun k hk=>z5q fun g hg=>Cnd.mk (fun _=>h _) fun hk0=>Cnd.mk (fun _=>h _) fun hg0=> ?_⟩
 have hX:=hv.exps x (getm hx)
 have kb:0<=k/\k<(v.layers.length:Int):=by rcases hk with ⟨a,_⟩|⟨a,b,_⟩<;>omega
 have gb:0<=g/\g<(v.flags.length:Int):=by rcases hg with ⟨a,_⟩|⟨a,b,_⟩<;>omega
 refine Lp1.ind (fun (j:Int)=>0<=j/\j<=x.arms.length) (fun (j:Int)=>(x.arms.length - j).toNat) ?_ ⟨by omega,by omega⟩
 rintro j ⟨j0,j1⟩ _
 refine Cnd.mk (fun hc=>⟨by omega,fun _ _=>⟨gb,fun _ _ _=>Cnd.mk (fun _=>h _) fun _=>⟨by unfold InI;omega,⟨by omega,by omega⟩,by omega⟩⟩⟩) fun _=> ?_
 refine z5r (by omega) ?_
 rw[Z4]
 refine j7t 4 hX.cond fun _=>Cnd.mk (fun _=>Cnd.mk (fun _=>h _) fun _=>⟨kb,fun l hl=> ?_⟩) fun _=>h _
 refine Lp3.ind (fun (t:List Spn) (j:Int) (_:List ByteArray)=>0<=j/\j<=v.experiments.length/\(t.length:Int)<=1+j*10000) (fun _ (j:Int) _=>(v.experiments.length - j).toNat) ?_ ⟨by omega,by omega,by simp⟩
 rintro t j ks ⟨j0,j1,ht⟩
 refine Cnd.mk (fun hc=>⟨by omega,fun y hy=> ?_⟩) fun _=>w8o fun c _ _=>Cnd.mk (fun _=>h _) fun _=> ?_
 ·have hcl:=(hv.exps y (getm hy)).claims.len
  exact Cnd.mk (fun _=>Cnd.mk (fun _=>⟨by unfold InI;omega,⟨by omega,by omega,by omega⟩,by omega⟩) fun _=>⟨by unfold Sml;simp;omega,by unfold InI;omega,⟨by omega,by omega,by simp;omega⟩,by omega⟩) fun _=>⟨by unfold InI;omega,⟨by omega,by omega,by omega⟩,by omega⟩
 ·refine Lp4.ind (fun (j:Int) (_ _:List Spn) (_:List ByteArray)=>0<=j/\j<=v.experiments.length) (fun (j:Int) _ _ _=>(v.experiments.length - j).toNat) ?_ ⟨by omega,by omega⟩
  rintro j a b c ⟨j0,j1⟩
  (repeat' (first|exact h _|assumption|(unfold InI;omega)|omega|refine Cnd.mk (fun _=> ?_) fun _=> ?_|refine⟨?_,?_⟩|intro _))
theorem j5b{v:Envt}{K:ByteArray->Int->Prop}(hv:EnvS v)(h: ∀s r,K s r):Bb v K:=by
 unfold Bb q4c
 have hsl:=hv.slen
 have hfl:=hv.flen
 have hxl:=hv.xlen
 have ev:Envt.mk (Sett.mk v.1.1 v.1.2 v.1.3) v.2 v.3 v.4 v.5 v.6=v:=rfl
 rw[ev]
 have s8:(ByteArray.mk (Array.mk [115,101,103,109,101,110,116,32])).size=8:=rfl
 have s5:(ByteArray.mk (Array.mk [102,108,97,103,32])).size=5:=rfl
 have s11:(ByteArray.mk (Array.mk [101,120,112,101,114,105,109,101,110,116,32])).size=11:=rfl
 have sk: ∀x∈v.segments.map Seg.key,x.size<=100:=fun x hx=>by obtain⟨g,hg,rfl⟩:=List.mem_map.1 hx;exact (hv.segs g hg).key
 have fk: ∀x∈v.flags.map Flg.key,x.size<=100:=fun x hx=>by obtain⟨g,hg,rfl⟩:=List.mem_map.1 hx;exact (hv.flags g hg).key
 have nlen:(v.flags.flatMap z5s).length<=4*v.flags.length:=by
  have: ∀l:List Flg,(∀f∈l,FlgS f)->(l.flatMap z5s).length<=4*l.length:=by
   intro l
   induction l with
   |nil=>simp
   |cons f l ih=>intro hf;have h1:=(hf f (by simp)).nlen;have h2:=ih fun g hg=>hf g (by simp[hg]);simp only[List.flatMap_cons,List.length_append,z5s,List.length_map,List.length_cons] at*;omega
  exact this _ hv.flags
 refine j7r hv fun _=>Cnd.mk (fun _=>z5r (by omega) ?_) fun _=>h _ _
 refine Lp2.ind (fun (i:Int) (ks:List ByteArray)=>0<=i/\i<=v.segments.length/\ks=v.segments.map Seg.key) (fun (i:Int) _=>(v.segments.length - i).toNat) ?_ ⟨by omega,by omega,rfl⟩
 rintro i ks ⟨i0,i1,rfl⟩ _
 refine Cnd.mk (fun hc=>⟨by omega,fun g hg=>Cnd.mk (fun _=>⟨by unfold InI;omega,⟨by omega,by omega,rfl⟩,by omega⟩) fun _=>⟨by omega,fun g hg=> ?_⟩⟩) fun _=> ?_
 ·dsimp only;rw[Z4]
  refine j7t 4 (hv.segs g (getm hg)).cond fun _=>Cnd.mk (fun _=>⟨by unfold InI;omega,⟨by omega,by omega,rfl⟩,by omega⟩) fun _=>⟨by omega,fun g hg=>⟨?_,h _ _⟩⟩
  have:=(hv.segs g (getm hg)).key
  rw[s8];omega
 refine v2l (by omega) hv.segs fun es hes=>j8e (by simp;omega) hes sk fun s b hs=>Cnd.mk (fun _=>⟨by rw[s8];omega,h _ _⟩) fun _=> ?_
 refine Lp3.ind (fun (i:Int) (_:List ByteArray) (_:List Edg)=>0<=i/\i<=v.flags.length) (fun (i:Int) _ _=>(v.flags.length - i).toNat) ?_ ⟨by omega,by omega⟩
 rintro i ks es ⟨i0,i1⟩ _
 refine Cnd.mk (fun hc=>⟨by omega,fun f hf=>j9j hv (hv.flags f (getm hf)) fun _=>Cnd.mk (fun _=>⟨by unfold InI;omega,⟨by omega,by omega⟩,by omega⟩) fun _=>⟨by omega,fun g hg=>⟨?_,h _ _⟩⟩⟩) fun _=> ?_
 ·have:=(hv.flags g (getm hg)).key
  rw[s5];omega
 refine w3j (by omega) (j89 (by omega) (fun f hf=>by have:=(hv.flags f hf).nlen;omega) (j8e (by simp;omega) (by omega) fk fun s b hs=>Cnd.mk (fun _=>⟨by rw[s5];omega,h _ _⟩) fun _=> ?_))
 refine Lp5.ind (fun (i:Int) (_:List ByteArray) (_ _:List Edg) (_:List ByteArray)=>0<=i/\i<=v.experiments.length) (fun (i:Int) _ _ _ _=>(v.experiments.length - i).toNat) ?_ ⟨by omega,by omega⟩
 rintro i a b c d ⟨i0,i1⟩ _
 refine Cnd.mk (fun hc=>z6r hv i0 hc fun _=>Cnd.mk (fun _=>⟨by unfold InI;omega,⟨by omega,by omega⟩,by omega⟩) fun _=>⟨by omega,fun x hx=>⟨?_,h _ _⟩⟩) fun _=>h _ _
 have:=(hv.exps x (getm hx)).key
 rw[s11];omega
theorem j8f{v:Envt}{K:Bool->Prop}(hv:EnvS v)(h: ∀r,K r):q1d v K:=by
 unfold q1d j1v
 exact j5b hv fun _ _=>h _
end Go.En
end
noncomputable section
set_option maxRecDepth 100000
namespace Go.En
open Go Go.Fl Go.Fl.Lk Go.Fx Go.Sg
def sgK:List ByteArray:=[ByteArray.mk (Array.mk [97,108,112,104,97]),ByteArray.mk (Array.mk [98,101,116,97]),ByteArray.mk (Array.mk [103,97,109,109,97])]
structure GS(l:List Seg):Prop where
 keys:l.map Seg.key=sgK.take l.length
 cond: ∀(i:Nat) g,l[i]? =some g->DrE (sgK.take i) 20000 g.5
theorem DrE.le{segs:List ByteArray}{a b:Nat}{e:Ex}(h:DrE segs a e)(hab:a<=b):DrE segs b e:=⟨Nat.le_trans h.wt hab,h.nms,h.ev⟩
theorem DrE.eta{segs:List ByteArray}{w:Nat}{e:Ex}(h:DrE segs w e):DrE segs w (Ex.mk e.1 e.2 e.3 e.4 e.5):=by rw[Z4];exact h
theorem y8m:GS []:=⟨rfl,by simp⟩
theorem y65{segs:List ByteArray}:DrE segs 20000 (Ex.mk 0 (ByteArray.mk (Array.mk [])) (ByteArray.mk (Array.mk [])) [] []):=
 ⟨by simp[wt,wtV,wtL],fun x hx=>by rw[w3x] at hx;rcases hx with ⟨h,_⟩|⟨k,hk,_⟩<;>simp at*,EvB.mk' (by simp) (by simp)⟩
theorem w88{list:List Int}{at_ hold:Int}{salt hkind:ByteArray}{attrs:List Decl}{flags:List Flg}{layers:List Lay_}{expers:List Exper}
  {K:Int->ByteArray->ByteArray->Int->List Decl->List Seg->List Flg->List Lay_->List Exper->Prop}(hD:DS list at_)
  (h: ∀a segs,DS list a->segs.length<=3->(∀g∈segs,SegS g)->GS segs->K a salt hkind hold attrs segs flags layers expers):z0k list at_ salt hkind hold attrs [] flags layers expers K:=by
 unfold z0k z64
 refine Qh hD (by decide) fun n a n0 n1 hD=>j40 n0 (by simp only[List.length_cons,List.length_nil];omega) ?_
 rw[show ([ByteArray.mk (Array.mk [97,108,112,104,97]),ByteArray.mk (Array.mk [98,101,116,97]),ByteArray.mk (Array.mk [103,97,109,109,97])]:List ByteArray)=sgK from rfl]
 have nms: ∀s∈List.take n.toNat sgK,s.size<=100:=fun s hs=>by
  have:=List.mem_of_mem_take hs
  have k: ∀s∈sgK,s.size<=100:=by decide
  exact k s this
 have hlen:(List.take n.toNat sgK).length<=3:=by
  rw[List.length_take];have:sgK.length=3:=rfl;omega
 have hfst: ∀i,i<=(List.take n.toNat sgK).length->(List.take n.toNat sgK).take i=sgK.take i:=fun i hi=>by
  rw[List.take_take,Nat.min_eq_left]
  rw[List.length_take] at hi;omega
 generalize List.take n.toNat _=l at nms hlen hfst
 refine Lp3.ind (fun (i a:Int) (gs:List Seg)=>DS list a/\0<=i/\i<=l.length/\(gs.length:Int)=i/\(∀g∈gs,SegS g)/\GS gs) (fun (i:Int) _ _=>(3 - i).toNat) ?_ ⟨hD,Int.le_refl 0,by omega,rfl,by simp,y8m⟩
 rintro i a gs ⟨hD,i0,i1,hl,hg,hgs⟩ _
 refine Cnd.mk (fun hc=>⟨by omega,fun y hy=>w3b hD fun inc a hi1 _ hD=>w3b hD fun exc a he1 _ hD=> ?_⟩) fun _=>h _ _ hD (by omega) hg hgs
 refine Jn2.mk (fun k a=>k.size<=100/\DS list a) (Qh hD (by decide) fun r a r0 r1 hD=>Cnd.mk (fun _=>⟨by decide,hD⟩) fun _=>⟨by decide,hD⟩) fun kind a hx=> ?_
 obtain⟨hkd,hD⟩:=hx
 refine Jn1.mk (fun x=>(ExS 4 (Ex.mk x.1 x.2.1 x.2.2.1 x.2.2.2.1 x.2.2.2.2.1)/\DrE (l.take i.toNat) 20000 (Ex.mk x.1 x.2.1 x.2.2.1 x.2.2.2.1 x.2.2.2.2.1))/\DS list x.2.2.2.2.2.1) (Qh hD (by decide) fun r a r0 r1 hD=>Cnd.mk (fun _=>⟨by omega,?_⟩) fun _=>⟨⟨ExS.le (n:=0) ⟨.nil,⟨sz0,sz0⟩,opl (by simp),rfl⟩ (by omega),y65⟩,hD⟩) fun x hx=> ?_
 ·exact j7o ((v5g fun s hs=>nms s (List.mem_of_mem_take (List.mem_of_mem_drop hs))).and y37) 2 (by omega) (by decide) (by decide) hD fun e a he hD=>⟨⟨he.1.eta,(he.2.le (by decide)).eta⟩,hD⟩
 ·have hk:l[i.toNat]? =some y:=hy
  refine⟨by unfold Sml;simp;omega,by unfold InI;omega,⟨hx.2,by omega,by omega,by simp;omega,Zw hg ⟨nms _ (getm hy),hkd,hi1,he1,hx.1.1⟩,?_,fun j g hj=> ?_⟩,by omega⟩
  ·rw[List.map_append,hgs.keys,List.length_append,List.length_singleton,←hfst _ (by omega),←hfst _ (by omega),List.take_add_one,show l[gs.length]? =some y by rw[←hk];congr 1;omega]
   rfl
  ·rcases Nat.lt_or_ge j gs.length with hlt|hge
   ·rw[List.getElem?_append_left hlt] at hj;exact hgs.cond j g hj
   ·rw[List.getElem?_append_right hge] at hj
    have hj0:j=gs.length:=by
     rcases Nat.eq_zero_or_pos (j - gs.length) with h0|h0
     ·omega
     ·rw[List.getElem?_eq_none (by simp;omega)] at hj;cases hj
    subst hj0
    simp only[Nat.sub_self,List.getElem?_cons_zero,Option.some.injEq] at hj
    subst hj
    rw[←hfst _ (by omega),show gs.length=i.toNat by omega]
    exact hx.1.2
end Go.En
end
noncomputable section
set_option maxRecDepth 100000
namespace Go.En
open Go Go.Fl Go.Fl.Lk Go.Fx Go.Dg
theorem w89{l:List ByteArray}{n:Nat}{p:ByteArray->Prop}(h: ∀x∈l,p x): ∀x∈l.take n,p x:=fun x hx=>h x (List.mem_of_mem_take hx)
theorem v9v{ds:List Decl}(hd: ∀d∈ds,d.kind.size<=100/\d.name.size<=100):EnvS (Envt.mk (Sett.mk (ByteArray.mk (Array.mk [])) (ByteArray.mk (Array.mk [])) 0) ds [] [] [] []):=
 ⟨sz0,hd,by simp,by simp,by simp,by simp,by simp,by simp,by simp,by simp⟩
theorem u5k:ExS 4 (Ex.mk 1 (ByteArray.mk (Array.mk [])) (ByteArray.mk (Array.mk [])) [] []):=ExS.le (n:=0) ⟨VsS.nil,⟨sz0,sz0⟩,opl (by simp),rfl⟩ (by decide)
end Go.En
end
noncomputable section
set_option maxRecDepth 100000
namespace Go.En
open Go Go.Fl Go.Fl.Lk Go.Fx Go.Dg
def Cov(l:List Rng):Prop:= ∀b:Int,0<=b->b<10000-> ∃r∈l,r.1<=b/\b<r.2
theorem j8g{list:List Int}{at_ n:Int}{K:List Rng->Int->Prop}(hD:DS list at_)(hn:1<=n)(hn':n<=100)(h: ∀l a,SplS n l->Cov l->DS list a->K l a):z65 list at_ n K:=by
 unfold z65 w1a
 have cv1: ∀{l:List Rng} {x y z:Int},(∀b:Int,0<=b->b<x-> ∃r∈l,r.1<=b/\b<r.2)-> ∀b:Int,0<=b->b<y-> ∃r∈l++[Rng.mk x y z],r.1<=b/\b<r.2:=fun {l x y z} hc b h0 h1=>by
  by_cases hb:b<x
  ·obtain⟨r,hr,hh⟩:=hc b h0 hb
   exact⟨r,List.mem_append_left _ hr,hh⟩
  ·exact⟨_,List.mem_append_right _ List.mem_cons_self,by simp only;omega,h1⟩
 refine Jn4.mk (fun l at_ last a=>DS list a/\l.length<=3/\0<=at_/\(∀b:Int,0<=b->b<at_-> ∃r∈l,r.1<=b/\b<r.2)/\ ∀r∈l,0<=r.lo/\r.hi<=10000/\1<=r.variation/\r.variation<=n) ?_ ?_
 ·refine Lp5.ind (fun l at_ last i a=>DS list a/\0<=i/\i<=3/\(l.length:Int)=i/\0<=at_/\at_<=10000/\0<=last/\last<=n/\(∀b:Int,0<=b->b<at_-> ∃r∈l,r.1<=b/\b<r.2)/\ ∀r∈l,0<=r.lo/\r.hi<=10000/\1<=r.variation/\r.variation<=n) (fun _ _ _ i _=>(3 - i).toNat) ?_ ⟨hD,by omega,by omega,rfl,by omega,by omega,by omega,by omega,fun b h0 h1=>by omega,by simp⟩
  rintro l at_ last i a ⟨hD,i0,i1,hl,a0,a1,l0,l1,hcv,hr⟩
  refine Qh hD (by decide) fun q a q0 q1 hD=>Cnd.mk (fun _=>Cnd.mk (fun _=>⟨by unfold InI;omega,q6j hD (by decide) fun w a w0 w1 hD=>⟨by unfold InI;omega,Qh hD hn fun v a v0 v1 hD=>⟨by unfold InI;omega,?_⟩⟩⟩) fun _=> ?_) fun _=> ?_
  ·have m0:=Int.tmod_nonneg n (show 0<=1+v by omega);have m1:=Int.tmod_lt_of_pos (1+v) (b:=n) (by omega)
   refine Jn1.mk (fun v=>1<=v/\v<=n) (Cnd.mk (fun _=>⟨by omega,by unfold InI;omega,by omega,by omega⟩) fun _=>⟨by omega,by omega⟩) fun v hv=>Cnd.mk (fun _=>⟨hD,by omega,a0,hcv,hr⟩) fun _=> ?_
   exact⟨by unfold Sml;simp;omega,by unfold InI;omega,⟨hD,by omega,by omega,by simp;omega,by omega,by omega,by omega,by omega,cv1 hcv,Zw hr ⟨by simp only;omega,by simp only;omega,by simp only;omega,by simp only;omega⟩⟩,by omega⟩
  ·exact⟨hD,by omega,a0,hcv,hr⟩
  ·exact⟨hD,by omega,a0,hcv,hr⟩
 ·rintro l at_ last a ⟨hD,hl,a0,hcv,hr⟩
  refine Qh hD hn fun v a v0 v1 hD=>⟨by unfold InI;omega,?_⟩
  have m0:=Int.tmod_nonneg n (show 0<=1+v by omega);have m1:=Int.tmod_lt_of_pos (1+v) (b:=n) (by omega)
  refine Jn1.mk (fun v=>1<=v/\v<=n) (Cnd.mk (fun _=>⟨by omega,by unfold InI;omega,by omega,by omega⟩) fun _=>⟨by omega,by omega⟩) fun v hv=> ?_
  exact⟨by unfold Sml;simp;omega,h _ _ ⟨by simp;omega,Zw hr ⟨a0,by simp,hv.1,hv.2⟩⟩ (cv1 hcv) hD⟩
structure SrvD(n:Int)(s:Srv):Prop where
 ok:SrvS n s
 cov:s.variation=0->Cov s.split
theorem j8h{list:List Int}{at_ n:Int}{K:Srv->Int->Prop}(hD:DS list at_)(hn:1<=n)(hn':n<=100)(h: ∀s a,SrvD n s->DS list a->K s a):j3r list at_ n K:=by
 unfold j3r w1b
 have tt: ∀s∈j3m,s.size<=100:=by decide
 have key:(ByteArray.mk (Array.mk [107,101,121])).size<=100:=by decide
 refine Qh hD (by decide) fun r a r0 r1 hD=>Cnd.mk (fun _=>Qh hD hn fun v a v0 v1 hD=>⟨by unfold InI;omega,h _ _ ⟨⟨sz0,⟨by simp only;omega,by simp only;omega⟩,⟨by simp,by simp⟩,sz0,sz0⟩,fun h0=>by simp only at h0;omega⟩ hD⟩) fun _=> ?_
 refine z3o hD fun t a ht hD=>j8g hD hn hn' fun l a hl hcv hD=>q3p fun ds _ hds=>Qh hD (by decide) fun q a q0 q1 hD _=> ?_
 have usr:(ByteArray.mk (Array.mk [117,115,101,114])).size<=100:=by decide
 have ok: ∀{k b:ByteArray},k.size<=100->b.size<=100->SrvD n (Srv.mk 0 k b t l):=fun hk hb=>⟨⟨hk,⟨by simp,by simp only;omega⟩,hl,hb,tt _ ht⟩,fun _=>hcv⟩
 refine Cnd.mk (fun _=>⟨by omega,fun y hy=>Cnd.mk (fun _=>h _ _ (ok usr key) hD) fun _=>⟨by omega,fun z hz=>⟨by omega,fun u hu=>h _ _ (ok (hds z (getm hz)).1 (hds u (getm hu)).2.1) hD⟩⟩⟩) fun _=>h _ _ (ok usr key) hD
theorem v2m{list:List Int}{at_ kind:Int}{K:Val->Int->Prop}(hk0:1<=kind)(hk1:kind<=5)(hD:DS list at_)(h: ∀r a,ValS r->r.kind=kind->DS list a->K r a):B7 list at_ kind K:=by
 unfold B7 j3o
 have tt: ∀s∈j3m,s.size<=100:=by decide
 have tv: ∀s∈z62,s.size<=100:=by decide
 have tl: ∀l∈w07,l.length<=10/\ ∀s∈l,s.size<=100:=by decide
 refine Cnd.mk (fun _=> ?_) fun _=>Cnd.mk (fun _=>fun _=> ?_) fun _=>Cnd.mk (fun _=> ?_) fun _=>Cnd.mk (fun _=> ?_) fun _=> ?_
 ·exact Qh hD (by decide) fun r a r0 r1 hD=>h _ _ ⟨by unfold InI;simp only;omega,sz0,by simp,by simp⟩ rfl hD
 ·refine Qh hD (by decide) fun r a r0 r1 hD=>⟨⟨r0,r1⟩,fun y hy=>h _ _ ⟨?_,sz0,by simp,by simp⟩ rfl hD⟩
  have:=getm hy
  have k: ∀y∈[(0:Int),(1:Int),(17:Int),(18:Int),(19:Int),(-5:Int),(64:Int),(1099511627776:Int),(-1099511627776:Int)], -9223372036854775808<=y/\y<=9223372036854775807:=by decide
  exact k y this
 ·exact z3o hD fun r a hr hD=>h _ _ ⟨by unfold InI;simp,tt _ hr,by simp,by simp⟩ rfl hD
 ·exact Qh hD (by decide) fun r a r0 r1 hD=>⟨⟨r0,r1⟩,fun y hy=>h _ _ ⟨by unfold InI;simp,tv _ (getm hy),by simp,by simp⟩ rfl hD⟩
 ·refine Qh hD (by decide) fun r a r0 r1 hD=>⟨⟨r0,r1⟩,fun y hy=> ?_⟩
  obtain⟨a1,a2⟩:=tl _ (getm hy)
  exact⟨by unfold Sml;simp;omega,h _ _ ⟨by unfold InI;simp,sz0,by simpa using a1,by simpa using a2⟩ (by simp only;omega) hD⟩
def flK:List ByteArray:=[ByteArray.mk (Array.mk [102,97]),ByteArray.mk (Array.mk [102,98]),ByteArray.mk (Array.mk [102,99]),ByteArray.mk (Array.mk [102,100])]
def lyK:List ByteArray:=[ByteArray.mk (Array.mk [108,97]),ByteArray.mk (Array.mk [108,98])]
def exK:List ByteArray:=[ByteArray.mk (Array.mk [120,97]),ByteArray.mk (Array.mk [120,98]),ByteArray.mk (Array.mk [120,99])]
structure RulD(n:Int)(r:Rul):Prop where
 cond:DrE sgK 20000 r.cond
 serve:SrvD n r.serve
structure FlgD(prev:List Flg)(f:Flg):Prop where
 kind:1<=f.kind/\f.kind<=5
 kinds: ∀v∈f.variations,v.kind=f.kind
 off:1<=f.off/\f.off<=f.variations.length
 needs: ∀q∈f.needs,∃g∈prev,q.flag=g.key/\1<=q.variation/\q.variation<=g.variations.length
 nsub:(f.needs.map Prq.flag).Sublist (prev.map Flg.key)
 tgts: ∀t∈f.targets,(1<=t.variation/\t.variation<=f.variations.length)/\t.keys.length<=3
 rules: ∀r∈f.rules,RulD f.variations.length r
 dflt:SrvD f.variations.length f.dflt
theorem y66{l a:List ByteArray}{j:Nat}{k:ByteArray}(h:a.Sublist (l.take j))(hk:l[j]? =some k):(a++[k]).Sublist (l.take (j+1)):=by
 rw[List.take_add_one,hk];exact h.append (List.Sublist.refl _)
theorem y67{l a:List ByteArray}{j:Nat}(h:a.Sublist (l.take j)):a.Sublist (l.take (j+1)):=by
 rw[List.take_add_one];exact h.trans (List.sublist_append_left _ _)
structure FlgsD(l:List Flg):Prop where
 keys:l.map Flg.key=flK.take l.length
 all: ∀(i:Nat) f,l[i]? =some f->FlgD (l.take i) f
structure ExpD(layers:List Lay_)(flags:List Flg)(x:Exper):Prop where
 cov:Cov x.arms
 cond:DrE sgK 20000 x.cond
 layer: ∃l∈layers,x.layer=l.key
 flag: ∃f∈flags,x.flag=f.key/\ ∀r∈x.arms,1<=r.variation/\r.variation<=f.variations.length
 salt:x.salt.size<=100
structure EnvD(v:Envt):Prop where
 salt:v.settings.salt.size<=100
 gs:GS v.segments
 flags:FlgsD v.flags
 layers:v.layers.map Lay_.key=lyK.take v.layers.length
 exps:(v.experiments.map Exper.key).Sublist exK
 exp: ∀x∈v.experiments,ExpD v.layers v.flags x
 al:v.attributes.length<=100
theorem v2n:FlgsD []:=⟨rfl,by simp⟩
theorem v9w{l:List Flg}{f:Flg}(h:FlgsD l)(hk:flK[l.length]? =some f.key)(hf:FlgD l f):FlgsD (l++[f]):=by
 refine⟨?_,fun i g hi=> ?_⟩
 ·rw[List.map_append,h.keys,List.length_append,List.length_singleton,List.take_add_one,hk];rfl
 ·rcases Nat.lt_or_ge i l.length with hlt|hge
  ·rw[List.getElem?_append_left hlt] at hi
   rw[List.take_append_of_le_length (by omega)]
   exact h.all i g hi
  ·have:=Qg hi
   rw[List.length_append,List.length_singleton] at this
   have e:i=l.length:=by omega
   subst e
   rw[List.getElem?_append_right (Nat.le_refl _),Nat.sub_self] at hi
   cases hi
   rw[List.take_left' rfl];exact hf
theorem y4f{a b:List ByteArray}{w:Nat}{e:Ex}(h:DrE a w e)(hs: ∀x∈a,x∈b):DrE b w e:=⟨h.wt,fun x hx=>hs x (h.nms x hx),h.ev⟩
theorem v9x{ds:List Decl}(hl:ds.length<=100):EnvD (Envt.mk (Sett.mk (ByteArray.mk (Array.mk [])) (ByteArray.mk (Array.mk [])) 0) ds [] [] [] []):=
 ⟨sz0,y8m,v2n,rfl,by simp,by simp,hl⟩
theorem y4g{l:List Seg}(h:GS l): ∀s∈l.map Seg.key,s∈sgK:=fun s hs=>by rw[h.keys] at hs;exact List.mem_of_mem_take hs
theorem u1g:DrE sgK 20000 (Ex.mk 1 (ByteArray.mk (Array.mk [])) (ByteArray.mk (Array.mk [])) [] []):=
 ⟨by simp[wt,wtV,wtL],fun x hx=>by rw[w3x] at hx;rcases hx with ⟨h,_⟩|⟨k,hk,_⟩<;>simp at*,EvB.mk' (by simp) (by simp)⟩
theorem y8n{l:List ByteArray}{n i:Nat}{y:ByteArray}(h:(l.take n)[i]? =some y):l[i]? =some y:=by
 rw[List.getElem?_take] at h
 split at h
 ·exact h
 ·cases h
theorem j7u{V:Envt->Prop}(hV: ∀(v:Envt) (K:Bool->Prop),EnvS v->(∀b,(b=true->V v)->K b)->q1d v K)(hV0: ∀ds,V (Envt.mk (Sett.mk (ByteArray.mk (Array.mk [])) (ByteArray.mk (Array.mk [])) 0) ds [] [] [] []))
  {list:List Int}{at_ now:Int}{K:Envt->Int->Prop}(hD:DS list at_)(h: ∀v a,EnvS v->EnvD v->V v->DS list a->K v a):q2n list at_ now K:=by
 unfold q2n q9k
 have tt: ∀s∈j3m,s.size<=100:=by decide
 refine q3p fun attrs hal had=> ?_
 have hat: ∀d∈attrs,d.kind.size<=100/\d.name.size<=100:=fun d hd=>⟨(had d hd).1,(had d hd).2.1⟩
 refine Jn1.mk (fun x=>(x.1.size<=100/\x.2.1.size<=100)/\DS list x.2.2.2.1/\x.2.2.2.2.1=attrs) (Qh hD (by decide) fun r a _ _ hD=>Cnd.mk (fun _=>z3o hD fun t a ht hD=>q6j hD (by decide) fun w a _ _ hD=>⟨⟨tt _ ht,(by decide:(ByteArray.mk (Array.mk [117,115,101,114])).size<=100)⟩,hD,rfl⟩) fun _=>⟨⟨sz0,sz0⟩,hD,rfl⟩) ?_
 rintro⟨salt,hkind,hold,a,ds,u⟩ ⟨⟨hslt,hhk⟩,hD,hds⟩
 simp only at hslt hhk hD hds⊢
 subst hds
 refine w88 hD fun a segs hD hsl hsegs hgs=>Qh hD (by decide) fun n a n0 n1 hD=>j40 n0 (by simp only[List.length_cons,List.length_nil];omega) ?_
 have fin: ∀{flags:List Flg} {layers:List Lay_} {exps:List Exper} {a:Int},DS list a->flags.length<=4->(∀f∈flags,FlgS f)->layers.length<=2->(∀l∈layers,LayS l)->exps.length<=3->(∀x∈exps,ExpS x)->FlgsD flags->layers.map Lay_.key=lyK.take layers.length->(exps.map Exper.key).Sublist exK->(∀x∈exps,ExpD layers flags x)->
   q1d (Envt.mk (Sett.mk salt hkind hold) ds segs flags layers exps) fun b=>Cnd (b=true) (K (Envt.mk (Sett.mk salt hkind hold) ds segs flags layers exps) a) (U9 fun ds=>K (Envt.mk (Sett.mk (ByteArray.mk (Array.mk [])) (ByteArray.mk (Array.mk [])) 0) ds [] [] [] []) a):=fun hD h1 h2 h3 h4 h5 h6 e1 e2 e3 e4=>by
  have hv:EnvS (Envt.mk (Sett.mk salt hkind hold) ds segs _ _ _):=⟨hhk,hat,hsl,hsegs,h1,h2,h3,h4,h5,h6⟩
  exact hV _ _ hv fun b hb=>Cnd.mk (fun ht=>h _ _ hv ⟨hslt,hgs,e1,e2,e3,e4,by show ds.length<=100;omega⟩ (hb ht) hD) fun _=>q3p fun ds hal2 had=>h _ _ (v9v fun d hd=>⟨(had d hd).1,(had d hd).2.1⟩) (v9x (by omega)) (hV0 ds) hD
 have nms: ∀s∈List.take n.toNat [ByteArray.mk (Array.mk [102,97]),ByteArray.mk (Array.mk [102,98]),ByteArray.mk (Array.mk [102,99]),ByteArray.mk (Array.mk [102,100])],s.size<=100:=w89 (by decide)
 have hlen:(List.take n.toNat [ByteArray.mk (Array.mk [102,97]),ByteArray.mk (Array.mk [102,98]),ByteArray.mk (Array.mk [102,99]),ByteArray.mk (Array.mk [102,100])]).length<=4:=by
  rw[List.length_take];simp only[List.length_cons,List.length_nil];omega
 have hget: ∀(i:Nat) y,(List.take n.toNat [ByteArray.mk (Array.mk [102,97]),ByteArray.mk (Array.mk [102,98]),ByteArray.mk (Array.mk [102,99]),ByteArray.mk (Array.mk [102,100])])[i]? =some y->flK[i]? =some y:=fun i y hy=>y8n hy
 generalize List.take n.toNat _=l at nms hlen hget
 refine LpH.ind (fun (x:Int×Int×List Flg×List Seg×List Lay_×List Exper×Unit)=>0<=x.1/\x.1<=(l.length:Int)/\DS list x.2.1/\(x.2.2.1.length:Int)=x.1/\(∀f∈x.2.2.1,FlgS f)/\FlgsD x.2.2.1/\x.2.2.2=(segs,[],[],())) (fun x=>((l.length:Int) - x.1).toNat) ?_ ⟨Int.le_refl 0,by simp,hD,rfl,by simp,v2n,rfl⟩
 rintro⟨i,a,flags,rest⟩ ⟨i0,i1,hD,hfl,hfs,hfd,hr⟩
 simp only at i0 i1 hD hfl hfs hfd hr⊢
 subst hr
 simp only
 intro _
 refine Cnd.mk (fun hc=>⟨by omega,fun key hkey=> ?_⟩) fun _=> ?_
 ·
  refine Qh hD (by decide) fun kind a k0 k1 hD=>⟨by unfold InI;omega,Qh hD (by decide) fun on a _ _ hD=>Qh hD (by decide) fun m a m0 m1 hD=>⟨by unfold InI;omega,?_⟩⟩
  refine LpH.ind (fun (x:Int×Int×List Val×List Exper×List Lay_×List Flg×List Seg×Unit)=>0<=x.1/\x.1<=1+m/\DS list x.2.1/\(x.2.2.1.length:Int)=x.1/\(∀v∈x.2.2.1,ValS v/\v.kind=1+kind)/\x.2.2.2=([],[],flags,segs,())) (fun x=>(1+m - x.1).toNat) ?_ ⟨Int.le_refl 0,by simp only;omega,hD,rfl,by simp,rfl⟩
  rintro⟨j,a,vals,rest⟩ ⟨j0,j1,hD,hvl,hvs,hr⟩
  simp only at j0 j1 hD hvl hvs hr⊢
  subst hr
  simp only
  refine Cnd.mk (fun hc=>v2m (by omega) (by omega) hD fun v a hv hvk hD=>⟨by unfold Sml;simp;omega,by unfold InI;omega,⟨by omega,by omega,hD,by simp;omega,Zw hvs ⟨hv,hvk⟩,trivial⟩,by omega⟩) fun hc=> ?_
  refine Qh hD (by omega) fun off a o0 o1 hD=>⟨by unfold InI;omega,?_⟩
  have hlv:vals.length=(1+m).toNat:=by omega
  refine LpH.ind (fun (x:Int×List Prq×Int×List Seg×List Flg×List Lay_×List Exper×List Val×Unit)=>0<=x.1/\x.1<=(flags.length:Int)/\((x.2.1.length:Int)<=x.1/\(x.2.1.map Prq.flag).Sublist ((flags.map Flg.key).take x.1.toNat))/\(∀q∈x.2.1,q.flag.size<=100/\ ∃g∈flags,q.flag=g.key/\1<=q.variation/\q.variation<=g.variations.length)/\DS list x.2.2.1/\x.2.2.2=(segs,flags,[],[],vals,())) (fun x=>((flags.length:Int) - x.1).toNat) ?_ ⟨Int.le_refl 0,by simp,⟨by simp,List.nil_sublist _⟩,by simp,hD,rfl⟩
  rintro⟨j,needs,a,rest⟩ ⟨j0,j1,⟨hnl,hsb⟩,hns,hD,hr⟩
  simp only at j0 j1 hnl hsb hns hD hr⊢
  have hj1:(j+1).toNat=j.toNat+1:=by omega
  subst hr
  simp only
  intro _
  refine Cnd.mk (fun hc=>Qh hD (by decide) fun q a _ _ hD=>Cnd.mk (fun _=>⟨by omega,fun y hy=>⟨by omega,fun z hz _=>Qh hD (by have:=(hfs z (getm hz)).vlen;omega) fun w a w0 w1 hD=> ?_⟩⟩) fun _=>⟨by unfold InI;omega,⟨by omega,by omega,⟨by omega,by rw[hj1];exact y67 hsb⟩,hns,hD,trivial⟩,by omega⟩) fun _=> ?_
  ·have:=(hfs z (getm hz)).vlen
   exact⟨by unfold InI;omega,by unfold Sml;simp;omega,by unfold InI;omega,⟨by omega,by omega,⟨by simp;omega,by rw[hj1,List.map_append];exact y66 hsb (by rw[List.getElem?_map,hy];rfl)⟩,Zw hns ⟨(hfs y (getm hy)).key,z,getm hz,by rw[hy] at hz;rw[Option.some.inj hz],by simp only;omega,by simp only;omega⟩,hD,trivial⟩,by omega⟩
  have hnl4:needs.length<=4:=by omega
  have hsb:=hsb.trans (List.take_sublist _ _)
  refine LpH.ind (fun (x:Int×List Tgt×Int×List Val×List Exper×List Lay_×List Flg×List Seg×List Prq×Unit)=>0<=x.1/\x.1<=3/\(x.2.1.length:Int)<=x.1/\(∀t∈x.2.1,t.kind.size<=100/\(1<=t.variation/\t.variation<=1+m)/\t.keys.length<=3)/\DS list x.2.2.1/\x.2.2.2=(vals,[],[],flags,segs,needs,())) (fun x=>(3 - x.1).toNat) ?_ ⟨Int.le_refl 0,by simp,by simp,by simp,hD,rfl⟩
  rintro⟨j,tgts,a,rest⟩ ⟨j0,j1,htl,hts,hD,hr⟩
  simp only at j0 j1 htl hts hD hr⊢
  subst hr
  simp only
  refine Qh hD (by decide) fun q a q0 q1 hD=>Cnd.mk (fun hc=>Qh hD (by omega) fun w a w0 w1 hD=>⟨by unfold InI;omega,w3b hD fun ks a hks _ hD=> ?_⟩) fun _=> ?_
  ·refine Jn1.mk (fun x=>x.1.size<=100/\DS list x.2.1/\x.2.2=(ks,needs,segs,flags,[],[],vals,tgts,())) (Qh hD (by decide) fun r a _ _ hD=>Cnd.mk (fun _=>⟨(by decide:(ByteArray.mk (Array.mk [100,101,118,105,99,101])).size<=100),hD,rfl⟩) fun _=>⟨(by decide:(ByteArray.mk (Array.mk [117,115,101,114])).size<=100),hD,rfl⟩) ?_
   rintro⟨kd,a,rest⟩ ⟨hkd,hD,hr⟩
   simp only at hkd hD hr⊢
   subst hr
   simp only
   exact fun _=>Cnd.mk (fun _=>⟨by unfold Sml;simp;omega,by unfold InI;omega,⟨by omega,by omega,by simp;omega,Zw hts ⟨hkd,⟨by simp only;omega,by simp only;omega⟩,hks⟩,hD,trivial⟩,by omega⟩) fun _=>⟨by unfold InI;omega,⟨by omega,by omega,by omega,hts,hD,trivial⟩,by omega⟩
  refine Jn1.mk (fun (x:Int×List Rul×List ByteArray×List Prq×List Seg×List Flg×List Lay_×List Exper×List Val×List Tgt×Unit)=>DS list x.1/\x.2.1.length<=4/\(∀r∈x.2.1,RulS (1+m) r/\RulD (1+m) r)/\x.2.2.2=(needs,segs,flags,[],[],vals,tgts,())) ?_ ?_
  case refine_2=>
   rintro⟨a,rules,names,rest⟩ ⟨hD,hrl,hrs,hr⟩
   simp only at hD hrl hrs hr⊢
   subst hr
   simp only
   refine j8h hD (by omega) (by omega) fun s a hs hD=>⟨by unfold Sml;simp;omega,by unfold InI;omega,⟨by omega,by omega,hD,by simp;omega,Zw hfs ?_,v9w hfd ?_ ?_,trivial⟩,by omega⟩
   all_goals have hvm:(vals.length:Int)=1+m:=by omega
   ·exact⟨nms key (getm hkey),⟨by simp only;omega,by simp only;omega⟩,fun v hv=>(hvs v hv).1,hnl4,fun q hq=>(hns q hq).1,by simp only;omega,fun t ht=>(hts t ht).1,hrl,by rw[hvm];exact fun r hr=>(hrs r hr).1,by rw[hvm];exact hs.ok⟩
   ·rw[←hget _ _ hkey];congr 1;omega
   ·exact⟨⟨by simp only;omega,by simp only;omega⟩,fun v hv=>(hvs v hv).2,⟨by simp only;omega,by simp only;omega⟩,fun q hq=>(hns q hq).2,hsb,fun t ht=>by simp only;rw[hvm];exact (hts t ht).2,fun r hr=>by simp only;rw[hvm];exact (hrs r hr).2,by simp only;rw[hvm];exact hs⟩
  have nm4: ∀s∈([ByteArray.mk (Array.mk [102,105,114,115,116]),ByteArray.mk (Array.mk [115,101,99,111,110,100]),ByteArray.mk (Array.mk [116,104,105,114,100]),ByteArray.mk (Array.mk [102,111,117,114,116,104])]:List ByteArray),s.size<=100:=by decide
  have nl4:([ByteArray.mk (Array.mk [102,105,114,115,116]),ByteArray.mk (Array.mk [115,101,99,111,110,100]),ByteArray.mk (Array.mk [116,104,105,114,100]),ByteArray.mk (Array.mk [102,111,117,114,116,104])]:List ByteArray).length=4:=rfl
  generalize ([ByteArray.mk (Array.mk [102,105,114,115,116]),ByteArray.mk (Array.mk [115,101,99,111,110,100]),ByteArray.mk (Array.mk [116,104,105,114,100]),ByteArray.mk (Array.mk [102,111,117,114,116,104])]:List ByteArray)=ns4 at nm4 nl4⊢
  refine LpH.ind (fun (x:Int×Int×List Rul×List ByteArray×List Prq×List Seg×List Flg×List Lay_×List Exper×List Val×List Tgt×Unit)=>0<=x.1/\x.1<=4/\DS list x.2.1/\(x.2.2.1.length:Int)=x.1/\(∀r∈x.2.2.1,RulS (1+m) r/\RulD (1+m) r)/\x.2.2.2=(ns4,needs,segs,flags,[],[],vals,tgts,())) (fun x=>(4 - x.1).toNat) ?_ ⟨Int.le_refl 0,by simp,hD,rfl,by simp,rfl⟩
  rintro⟨j,a,rules,rest⟩ ⟨j0,j1,hD,hrl,hrs,hr⟩
  simp only at j0 j1 hD hrl hrs hr⊢
  subst hr
  simp only
  refine Qh hD (by decide) fun q a q0 q1 hD=>Cnd.mk (fun hc=>⟨by rw[nl4];omega,fun y hy=> ?_⟩) fun _=>⟨hD,by omega,hrs,trivial⟩
  refine z6j (by simp only;omega) (j7o ((v5g fun s hs=> ?_).and y37) 2 (by omega) (by decide) (by decide) hD fun e a he hD=>j8h hD (by omega) (by omega) fun s a hs hD=>⟨by unfold Sml;simp;omega,?_⟩)
  ·obtain⟨g,hg,rfl⟩:=List.mem_map.1 hs;exact (hsegs g hg).key
  have hrs':=Zw hrs (x:=Rul.mk y (Ex.mk e.1 e.2 e.3 e.4 e.5) s) ⟨⟨nm4 y (getm hy),he.1.eta,hs.ok⟩,y4f (he.2.le (by decide)).eta (y4g hgs),hs⟩
  have hl':(rules++[Rul.mk y (Ex.mk e.1 e.2 e.3 e.4 e.5) s]).length=rules.length+1:=by simp
  have cut: ∀r∈List.take (((rules++[Rul.mk y (Ex.mk e.1 e.2 e.3 e.4 e.5) s]).length:Int) - 1).toNat (rules++[Rul.mk y (Ex.mk e.1 e.2 e.3 e.4 e.5) s]),RulS (1+m) r/\RulD (1+m) r:=fun r hr=>hrs' r (List.mem_of_mem_take hr)
  generalize rules++[Rul.mk y (Ex.mk e.1 e.2 e.3 e.4 e.5) s]=rs at hrs' hl' cut⊢
  refine z1d (by omega) (fun r hr=>(hrs' r hr).1.cond) fun o n b ho=>Cnd.mk (fun _ _=>Cnd.mk (fun _ _=>⟨by unfold InI;omega,by omega,hD,by simp only[List.length_take];omega,cut,trivial⟩) fun _=>⟨by unfold InI;omega,⟨by omega,by omega,hD,by omega,hrs',trivial⟩,by omega⟩) fun _ _=>⟨by unfold InI;omega,by omega,hD,by simp only[List.length_take];omega,cut,trivial⟩
 ·
  refine Qh hD (by decide) fun n a n0 n1 hD=>j40 n0 (by simp only[List.length_cons,List.length_nil];omega) ?_
  have nms: ∀s∈List.take n.toNat [ByteArray.mk (Array.mk [108,97]),ByteArray.mk (Array.mk [108,98])],s.size<=100:=w89 (by decide)
  have hlen:(List.take n.toNat [ByteArray.mk (Array.mk [108,97]),ByteArray.mk (Array.mk [108,98])]).length<=2:=by
   rw[List.length_take];simp only[List.length_cons,List.length_nil];omega
  have hgetl: ∀(i:Nat) y,(List.take n.toNat [ByteArray.mk (Array.mk [108,97]),ByteArray.mk (Array.mk [108,98])])[i]? =some y->lyK[i]? =some y:=fun i y hy=>y8n hy
  generalize List.take n.toNat _=ls at nms hlen hgetl
  have hf4:flags.length<=4:=by omega
  refine LpH.ind (fun (x:Int×Int×List Lay_×List Exper×List Seg×List Flg×Unit)=>0<=x.1/\x.1<=(ls.length:Int)/\DS list x.2.1/\(x.2.2.1.length:Int)=x.1/\(∀f∈x.2.2.1,LayS f)/\x.2.2.1.map Lay_.key=lyK.take x.2.2.1.length/\x.2.2.2=([],segs,flags,())) (fun x=>((ls.length:Int) - x.1).toNat) ?_ ⟨Int.le_refl 0,by simp,hD,rfl,by simp,rfl,rfl⟩
  rintro⟨j,a,layers,rest⟩ ⟨j0,j1,hD,hll,hls,hlk,hr⟩
  simp only at j0 j1 hD hll hls hlk hr⊢
  subst hr
  simp only
  intro _
  refine Cnd.mk (fun hc=>⟨by omega,fun y hy=>v9b hD (nms y (getm hy)) fun l a hl hky hD=>⟨by unfold Sml;simp;omega,by unfold InI;omega,⟨by omega,by omega,hD,by simp;omega,Zw hls hl,by rw[List.map_append,hlk,List.length_append,List.length_singleton,List.take_add_one,←show j.toNat=layers.length by omega,hgetl _ _ hy,←hky];rfl,trivial⟩,by omega⟩⟩) fun _=> ?_
  refine Qh hD (by decide) fun n a n0 n1 hD=>j40 n0 (by simp only[List.length_cons,List.length_nil];omega) ?_
  have nmx: ∀s∈List.take n.toNat [ByteArray.mk (Array.mk [120,97]),ByteArray.mk (Array.mk [120,98]),ByteArray.mk (Array.mk [120,99])],s.size<=100:=w89 (by decide)
  have hxen:(List.take n.toNat [ByteArray.mk (Array.mk [120,97]),ByteArray.mk (Array.mk [120,98]),ByteArray.mk (Array.mk [120,99])]).length<=3:=by
   rw[List.length_take];simp only[List.length_cons,List.length_nil];omega
  have hgetx:List.take n.toNat [ByteArray.mk (Array.mk [120,97]),ByteArray.mk (Array.mk [120,98]),ByteArray.mk (Array.mk [120,99])]|>.Sublist exK:=List.take_sublist _ _
  generalize List.take n.toNat _=xs at nmx hxen hgetx
  have hl2:layers.length<=2:=by omega
  refine LpH.ind (fun (x:Int×Int×List Exper×List Flg×List Seg×List Lay_×Unit)=>0<=x.1/\x.1<=(xs.length:Int)/\DS list x.2.1/\(x.2.2.1.length:Int)<=x.1/\(∀f∈x.2.2.1,ExpS f)/\(x.2.2.1.map Exper.key).Sublist (xs.take x.1.toNat)/\(∀f∈x.2.2.1,ExpD layers flags f)/\x.2.2.2=(flags,segs,layers,())) (fun x=>((xs.length:Int) - x.1).toNat) ?_ ⟨Int.le_refl 0,by simp,hD,by simp,by simp,by simp,by simp,rfl⟩
  rintro⟨k,a,exps,rest⟩ ⟨k0,k1,hD,hxl,hxs,hxk,hxd,hr⟩
  simp only at k0 k1 hD hxl hxs hxk hxd hr⊢
  subst hr
  simp only
  intro _
  have hfin:=fun {a:Int} (hD:DS list a)=>fin (flags:=flags) (layers:=layers) (exps:=exps) hD hf4 hfs hl2 hls (by omega) hxs hfd hlk ((hxk.trans (List.take_sublist _ _)).trans hgetx) hxd
  refine Cnd.mk (fun hc _=>Cnd.mk (fun hfl0 _=>Cnd.mk (fun hll0=>⟨by omega,fun y hy _=> ?_⟩) fun _=>hfin hD) fun _=>hfin hD) fun _=>hfin hD
  refine Qh hD (by omega) fun q a q0 q1 hD=>⟨by omega,fun f hf _ hfv=>Qh hD (by omega) fun q' a q0' q1' hD=>⟨by omega,fun l hl=>z3o hD fun t a ht hD=>Qh hD (by decide) fun u a u0 u1 hD=>⟨by unfold InI;omega,?_⟩⟩⟩
  have hF:=hfs f (getm hf)
  have hL:=hls l (getm hl)
  have hv1:=hF.vlen
  refine j8g hD (by omega) (by omega) fun arms a harms hcov hD=> ?_
  refine Jn1.mk (fun (x:Int×Int×List Rng×List Exper×List Lay_×List Flg×List Seg×Unit)=>DS list x.2.1/\x.2.2=(arms,exps,layers,flags,segs,())) (Cnd.mk (fun _=>Qh hD (by decide) fun r a _ _ hD=>Cnd.mk (fun _=>⟨hD,rfl⟩) fun _=>⟨hD,rfl⟩) fun _=>⟨hD,rfl⟩) ?_
  rintro⟨state,a,rest⟩ ⟨hD,hr⟩
  simp only at hD hr⊢
  subst hr
  simp only
  refine Jn1.mk (fun (x:Int×ByteArray×ByteArray×List Val×List Ex×Int×List Seg×List Flg×List Lay_×List Exper×List Rng×Unit)=>(ExS 4 (Ex.mk x.1 x.2.1 x.2.2.1 x.2.2.2.1 x.2.2.2.2.1)/\DrE sgK 20000 (Ex.mk x.1 x.2.1 x.2.2.1 x.2.2.2.1 x.2.2.2.2.1))/\DS list x.2.2.2.2.2.1/\x.2.2.2.2.2.2=(segs,flags,layers,exps,arms,())) (Qh hD (by decide) fun r a _ _ hD=>Cnd.mk (fun _=>z6j (by simp only;omega) (j7o ((v5g fun s hs=> ?_).and y37) 2 (by omega) (by decide) (by decide) hD fun e a he hD=>⟨⟨he.1.eta,y4f (he.2.le (by decide)).eta (y4g hgs)⟩,hD,rfl⟩)) fun _=>⟨⟨u5k,u1g⟩,hD,rfl⟩) ?_
  ·obtain⟨g,hg,rfl⟩:=List.mem_map.1 hs;exact (hsegs g hg).key
  rintro⟨e1,e2,e3,e4,e5,a,rest⟩ ⟨he,hD,hr⟩
  simp only at he hD hr⊢
  subst hr
  simp only
  refine v5n fun sp _ _=>q6j hD (by decide) fun w a _ _ hD=>q6j hD (by decide) fun w' a _ _ hD=>j77 fun sq _=>q6j hD (by decide) fun w2 a w20 w21 hD=>v1r (by omega) fun cl hcl=> ?_
  have hxs':=Zw hxs (x:=Exper.mk y l.1 f.1 t state cl arms (Ex.mk e1 e2 e3 e4 e5)) ⟨nmx y (getm hy),hL.key,hF.key,hcl,⟨harms.1,fun r hr=>by obtain⟨p,q,s,t⟩:=harms.2 r hr;exact⟨p,q,s,by omega⟩⟩,he.1⟩
  have hxd':=Zw hxd (x:=Exper.mk y l.1 f.1 t state cl arms (Ex.mk e1 e2 e3 e4 e5)) ⟨hcov,he.2,⟨l,getm hl,rfl⟩,⟨f,getm hf,rfl,fun r hr=>by obtain⟨_,_,s,t⟩:=harms.2 r hr;exact⟨s,t⟩⟩,tt _ ht⟩
  have hyk:xs[k.toNat]? =some y:=hy
  have hxk':((exps++[Exper.mk y l.1 f.1 t state cl arms (Ex.mk e1 e2 e3 e4 e5)]).map Exper.key).Sublist (xs.take (k+1).toNat):=by
   rw[List.map_append,show (k+1).toNat=k.toNat+1 by omega,List.take_add_one,hyk]
   exact hxk.append (List.Sublist.refl _)
  have hl':(exps++[Exper.mk y l.1 f.1 t state cl arms (Ex.mk e1 e2 e3 e4 e5)]).length=exps.length+1:=by simp
  have cut: ∀r∈List.take (((exps++[Exper.mk y l.1 f.1 t state cl arms (Ex.mk e1 e2 e3 e4 e5)]).length:Int) - 1).toNat (exps++[Exper.mk y l.1 f.1 t state cl arms (Ex.mk e1 e2 e3 e4 e5)]),ExpS r:=fun r hr=>hxs' r (List.mem_of_mem_take hr)
  have cutd: ∀r∈List.take (((exps++[Exper.mk y l.1 f.1 t state cl arms (Ex.mk e1 e2 e3 e4 e5)]).length:Int) - 1).toNat (exps++[Exper.mk y l.1 f.1 t state cl arms (Ex.mk e1 e2 e3 e4 e5)]),ExpD layers flags r:=fun r hr=>hxd' r (List.mem_of_mem_take hr)
  have cutk:((List.take (((exps++[Exper.mk y l.1 f.1 t state cl arms (Ex.mk e1 e2 e3 e4 e5)]).length:Int) - 1).toNat (exps++[Exper.mk y l.1 f.1 t state cl arms (Ex.mk e1 e2 e3 e4 e5)])).map Exper.key).Sublist (xs.take (k+1).toNat):=((List.take_sublist _ _).map _).trans hxk'
  generalize exps++[Exper.mk y l.1 f.1 t state cl arms (Ex.mk e1 e2 e3 e4 e5)]=xs' at hxs' hl' cut hxd' hxk' cutd cutk⊢
  have hv:EnvS (Envt.mk (Sett.mk salt hkind hold) ds segs flags layers xs'):=⟨hhk,hat,hsl,hsegs,hf4,hfs,hl2,hls,by simp only;omega,hxs'⟩
  refine⟨by unfold Sml;omega,j8f hv fun b=>Cnd.mk (fun _=>⟨by unfold InI;omega,⟨by omega,by omega,hD,by omega,hxs',hxk',hxd',trivial⟩,by omega⟩) fun _ _=>⟨by unfold InI;omega,by omega,by unfold InI;omega,⟨by omega,by omega,hD,by simp only[List.length_take];omega,cut,cutk,cutd,trivial⟩,by omega⟩⟩
end Go.En
end
noncomputable section
set_option maxRecDepth 100000
namespace Go.En
open Go Go.Fl Go.Fl.Lk Go.Fx
theorem y4h:exK.Nodup:=by unfold exK;decide
theorem v5q{segs:List ByteArray}{e:Ex}(h:DrE segs 20000 e):wt e<=2000000/\EvB e:=⟨Nat.le_trans h.wt (by decide),h.ev⟩
theorem y68{v:Envt}(hE:EnvS v)(hD:EnvD v):SegB v.3:=y38 (Nat.le_trans hE.slen (by decide)) fun g hg=>by
 obtain⟨i,hi⟩:=List.getElem?_of_mem hg
 exact⟨_,hD.gs.cond i g hi⟩
theorem v7l{v:Envt}(hE:EnvS v)(hD:EnvD v):AsB v where
 ln:=Nat.le_trans hE.llen (by decide)
 xn:=Nat.le_trans hE.xlen (by decide)
 sg:=y68 hE hD
 ex x hx:=v5q (hD.exp x hx).cond
 sa:=Nat.le_trans hD.salt (by decide)
 ls l hl:=Nat.le_trans (hE.layers l hl).salt (by decide)
 xs x hx:=Nat.le_trans (hD.exp x hx).salt (by decide)
 cl x hx:=⟨Nat.le_trans (hE.exps x hx).claims.len (by decide),Nat.le_trans (hE.exps x hx).arms.1 (by decide)⟩
 nd:=hD.exps.nodup y4h
theorem y69{s:Subj}(h:s.ctxs.length<=2)(hc: ∀c∈s.ctxs,c.attrs=[]/\c.key.size<=5):SubB s:=
 ⟨by omega,fun c hm=>by rw[(hc c hm).1];simp,fun c hm a ha=>by rw[(hc c hm).1] at ha;simp at ha,fun c hm=>by have:=(hc c hm).2;omega⟩
theorem v5r{list:List Int}{at_:Int}{v:Envt}{K:List Frc->Int->Prop}(hD:DS list at_)(hE:EnvS v)(h: ∀l a,l.length<=3->K l a):z9x list at_ v K:=by
 unfold z9x j6i
 have hxn:=hE.xlen
 refine Lp3.ind (fun (l:List Frc) (i a:Int)=>0<=i/\i<=3/\(l.length:Int)=i/\DS list a) (fun _ (i:Int) _=>(3 - i).toNat) ?_ ⟨by omega,by omega,rfl,hD⟩
 rintro l i a ⟨i0,i1,hl,hD⟩
 refine Qh hD (by decide) fun q a q0 q1 hD=>Cnd.mk (fun hc=>Qh hD (by decide) fun w a w0 w1 hD=>⟨by unfold InI;omega,?_⟩) fun _=>h _ _ (by omega)
 refine Jn2.mk (fun _ a=>DS list a) (Qh hD (by decide) fun r a _ _ hD=>Cnd.mk (fun _=>hD) fun _=>hD) fun ly a hD=> ?_
 refine Jn4.mk (fun _ _ _ a=>DS list a) ?_ fun _ _ _ a hD=>⟨by unfold Sml;simp;omega,by unfold InI;omega,⟨by omega,by omega,by simp;omega,hD⟩,by omega⟩
 refine Qh hD (by decide) fun r a r0 r1 hD _=>Cnd.mk (fun hc=>⟨by omega,fun y hy=> ?_⟩) fun _=>hD
 refine Jn2.mk (fun _ a=>DS list a) (Qh hD (by decide) fun q a _ _ hD=>Cnd.mk (fun _=>⟨by omega,fun z hz=>hD⟩) fun _=>hD) fun ly a hD=>⟨by omega,fun z hz=>Qh hD (by decide) fun q a _ _ hD=>Cnd.mk (fun _ _=>Cnd.mk (fun hl0 _=> ?_) fun _=>hD) fun _=>hD⟩
 have hz1:=(hE.exps z (getm hz)).arms.1
 exact Qh hD (by omega) fun u a u0 u1 hD=>⟨⟨u0,u1⟩,fun w hw=>hD⟩
end Go.En
end
noncomputable section
set_option maxRecDepth 100000
namespace Go.En
open Go Go.Fl Go.Fl.Lk Go.Fx
def ixF{α:Type}(p:α->Bool):List α->Nat->Option (Nat×α)
 |[],_=>none
 |a::l,i=>if p a=true then some (i,a) else ixF p l (i+1)
theorem y8o{α:Type}{l:List α}{p:α->Bool}{i:Nat}{y:α}(hy:l[i]? =some y)(hp:p y=true):ixF p (l.drop i) i=some (i,y):=by
 have hlt:=Qg hy
 rw[List.drop_eq_getElem_cons hlt]
 have e:l[i]=y:=by rw[List.getElem?_eq_getElem hlt] at hy;exact Option.some.inj hy
 rw[e,ixF,if_pos hp]
theorem y4i{α:Type}{l:List α}{p:α->Bool}{i:Nat}{y:α}(hy:l[i]? =some y)(hp:p y=false):ixF p (l.drop i) i=ixF p (l.drop (i+1)) (i+1):=by
 have hlt:=Qg hy
 rw[List.drop_eq_getElem_cons hlt]
 have e:l[i]=y:=by rw[List.getElem?_eq_getElem hlt] at hy;exact Option.some.inj hy
 rw[e,ixF,if_neg (by rw[hp];simp)]
theorem j7v{α:Type}{p:α->Bool}: ∀{l:List α} {n i:Nat} {y:α},ixF p l n=some (i,y)->n<=i/\l[i - n]? =some y/\p y=true
 |[],_,_,_,h=>by cases h
 |a::l,n,i,y,h=>by
  rw[ixF] at h
  split at h
  ·cases h;exact⟨Nat.le_refl _,by simp,by assumption⟩
  ·obtain⟨h1,h2,h3⟩:=j7v h
   refine⟨by omega,?_,h3⟩
   rw[show i - n=(i - (n+1))+1 by omega];exact h2
theorem u5l{α:Type}{l:List α}(p:α->Bool){G:Int->α->(Int->Prop)->Prop}{B:Prop}(hl:l.length<=1000000000)(hB:ixF p l 0=none->B)
  (hG: ∀(i:Nat) y Y,l[i]? =some y->i<l.length->(p y=true->ixF p l 0=some (i,y))->(p y=false->InI ((i:Int)+1)/\Y ((i:Int)+1))->G (i:Int) y Y):
  Lp1 (fun x Y=>Cnd (x<(l.length:Int)) ((0<=x/\x<(l.length:Int))/\ ∀y,l[x.toNat]? =some y->G x y Y) B) 0:=by
 refine Lp1.ind (fun i=> ∃j:Nat,i=(j:Int)/\j<=l.length/\ixF p l 0=ixF p (l.drop j) j) (fun i=>(l.length - i).toNat) ?_ ⟨0,rfl,by omega,rfl⟩
 rintro i ⟨j,rfl,hj,hf⟩
 refine Cnd.mk (fun hc=>⟨by omega,fun y hy=> ?_⟩) fun hc=> ?_
 ·have hy:l[j]? =some y:=hy
  refine hG j y _ hy (by omega) (fun hp=>by rw[hf,y8o hy hp]) fun hp=>⟨by unfold InI;omega,⟨j+1,by omega,by omega,by rw[hf,y4i hy hp]⟩,by omega⟩
 ·refine hB ?_
  rw[hf,List.drop_eq_nil_of_le (by omega)];rfl
abbrev numB(n:Int):ByteArray:=⟨(Go.Lib.itoa n).toArray⟩
def hkV(v:Val):Option ByteArray:=
 if v.1=3∨v.1=4 then some v.3 else if v.1=2 then some (numB v.2) else if v.1=1 then some (if v.2=1 then ByteArray.mk (Array.mk [116,114,117,101]) else ByteArray.mk (Array.mk [102,97,108,115,101])) else none
def bksV(s:Subj)(k b salt:ByteArray):Option Int:=(lkp s k b).bind fun v=>(hkV v).map fun t=>ofV salt t
def srvV(s:Subj)(v:Srv):Int×Int×Bool:=
 if v.1≠0 then (v.1, -1,true) else match bksV s v.2 v.3 v.4 with
 |some b=>(w3z v.5 b,b,true)
 |none=>(0, -1,false)
def tgP(s:Subj)(t:Tgt):Bool:=match fnd s t.1 with
 |some c=>dec (c.2∈t.3)
 |none=>false
def fof(v:Envt)(key:ByteArray):Option Flg:=v.4.find? fun f=>decide (f.1=key)
def metV(v:Envt)(dv:Flg->Int)(p:Prq):Bool:=match fof v p.1 with
 |some g=>g.4 && decide (dv g=p.2)
 |none=>false
def inXV(v:Envt)(s:Subj)(fs:List Frc)(key:ByteArray)(x:Exper):Bool:=decide (x.3=key) && (decide (x.5=2) && decide ((asgV v s fs x.2).1.2=x.1))
def abV(v:Envt)(s:Subj)(x:Exper):Int:=match lof v x.2 with
 |some l=>(match fnd s l.2 with
  |some c=>ofV x.4 c.2
  |none=> -1)
 |none=> -1
def svd(s:Subj)(off:Int)(sv:Srv)(k i:Int)(n:ByteArray):Int×Rsn:=
 if (srvV s sv).2.2=true then ((srvV s sv).1,Rsn.mk k i n (srvV s sv).2.1) else (off,Rsn.mk 7 i noT (-1))
def rlsV(v:Envt)(s:Subj)(f:Flg):Int×Rsn:=match ixF (fun r=>cndV v s r.2) f.8 0 with
 |some q=>svd s f.5 q.2.3 5 ((q.1:Int)+1) q.2.1
 |none=>svd s f.5 f.9 6 0 noT
def chsV(v:Envt)(s:Subj)(fs:List Frc)(dv:Flg->Int)(f:Flg):Int×Rsn:=
 if f.4=false then (f.5,Rsn.mk 1 0 noT (-1)) else
 match f.6.find? (fun p=> !metV v dv p) with
 |some p=>(f.5,Rsn.mk 2 0 p.1 (-1))
 |none=>match ixF (tgP s) f.7 0 with
  |some q=>(q.2.2,Rsn.mk 3 ((q.1:Int)+1) noT (-1))
  |none=>match v.6.find? (inXV v s fs f.1) with
   |some x=>((asgV v s fs x.2).1.4,Rsn.mk 4 0 x.1 (abV v s x))
   |none=>rlsV v s f
def dvN(v:Envt)(s:Subj)(fs:List Frc):Nat->Flg->Int
 |0,f=>(chsV v s fs (fun _=>0) f).1
 |n+1,f=>(chsV v s fs (dvN v s fs n) f).1
def dcV(v:Envt)(s:Subj)(fs:List Frc)(f:Flg):Int×Rsn:=chsV v s fs (dvN v s fs v.4.length) f
def valV(l:List Val)(k:Int):Val:=if 1<=k/\k<=(l.length:Int) then (l[(k - 1).toNat]?).getD noV else noV
def dcsV(v:Envt)(s:Subj)(fs:List Frc)(f:Flg):Dcs:=Dcs.mk f.1 (dcV v s fs f).1 (valV f.3 (dcV v s fs f).1) (dcV v s fs f).2 0
structure FlB(l:List Flg):Prop where
 nd:(l.map Flg.key).Nodup
 ord: ∀(i:Nat) f,l[i]? =some f-> ∀p∈f.6,∀(j:Nat) g,l[j]? =some g->p.1=g.1->j<i
theorem v7m{v:Envt}{key:ByteArray}{g:Flg}(h:fof v key=some g): ∃j:Nat,v.4[j]? =some g/\key=g.1:=by
 unfold fof at h
 obtain⟨j,hj⟩:=List.getElem?_of_mem (List.mem_of_find?_eq_some h)
 have:=List.find?_some h
 simp only[decide_eq_true_eq] at this
 exact⟨j,hj,this.symm⟩
theorem j8i{v:Envt}(hB:FlB v.4){i:Nat}{g:Flg}(h:v.4[i]? =some g):fof v g.1=some g:=by
 have hnd:=hB.nd
 have hg:=getm h
 unfold fof
 generalize v.4=L at hnd hg
 clear h
 induction L with
 |nil=>cases hg
 |cons a L ih=>
  rw[List.find?_cons]
  rw[List.map_cons,List.nodup_cons] at hnd
  rcases List.mem_cons.1 hg with rfl|hg
  ·simp
  ·rw[decide_eq_false (fun e=>hnd.1 (by rw[e];exact List.mem_map_of_mem hg))]
   exact ih hnd.2 hg
theorem v9y{v:Envt}{d d':Flg->Int}{p:Prq}(h: ∀g,fof v p.1=some g->d g=d' g):metV v d p=metV v d' p:=by
 unfold metV
 cases hf:fof v p.1 with
 |none=>rfl
 |some g=>simp only;rw[h g hf]
theorem w6l{α:Type}{p q:α->Bool}: ∀{l:List α},(∀x∈l,p x=q x)->l.find? p=l.find? q
 |[],_=>rfl
 |a::l,h=>by rw[List.find?_cons,List.find?_cons,h a List.mem_cons_self,w6l fun x hx=>h x (List.mem_cons_of_mem _ hx)]
theorem w6m{v:Envt}{s:Subj}{fs:List Frc}{d d':Flg->Int}{f:Flg}(h: ∀p∈f.6,∀g,fof v p.1=some g->d g=d' g):chsV v s fs d f=chsV v s fs d' f:=by
 unfold chsV
 rw[w6l (q:=fun p=> !metV v d' p) fun p hp=>by rw[v9y (h p hp)]]
theorem v9z{v:Envt}{s:Subj}{fs:List Frc}(hB:FlB v.4): ∀(i n m:Nat) (f:Flg),v.4[i]? =some f->i<=n->i<=m->dvN v s fs n f=dvN v s fs m f:=by
 intro i
 induction i using Nat.strongRecOn with
 |ind i ih=>
  intro n m f hf hn hm
  have key: ∀d d':Flg->Int,(∀(j:Nat) g,j<i->v.4[j]? =some g->d g=d' g)->chsV v s fs d f=chsV v s fs d' f:=fun d d' h=>w6m fun p hp g hg=>by
   obtain⟨j,hj,hk⟩:=v7m hg
   exact h j g (hB.ord i f hf p hp j g hj hk) hj
  cases n with
  |zero=>
   cases m with
   |zero=>rfl
   |succ m=>unfold dvN;rw[key _ (dvN v s fs m) fun j g hj=>by omega]
  |succ n=>
   cases m with
   |zero=>unfold dvN;rw[key _ (fun _=>0) fun j g hj=>by omega]
   |succ m=>unfold dvN;rw[key _ (dvN v s fs m) fun j g hj hg=>ih j hj n m g hg (by omega) (by omega)]
theorem y8p{v:Envt}{s:Subj}{fs:List Frc}(hB:FlB v.4){i:Nat}{f:Flg}(hf:v.4[i]? =some f):dcV v s fs f=chsV v s fs (fun g=>(dcV v s fs g).1) f:=by
 have hi:=Qg hf
 unfold dcV
 refine w6m fun p hp g hg=> ?_
 obtain⟨j,hj,hk⟩:=v7m hg
 have hji:=hB.ord i f hf p hp j g hj hk
 obtain⟨n,hn⟩: ∃n,v.4.length=n+1:=⟨v.4.length - 1,by omega⟩
 have h2:(chsV v s fs (dvN v s fs v.4.length) g).1=dvN v s fs (v.4.length+1) g:=rfl
 rw[h2]
 exact v9z hB j _ _ g hj (by omega) (by omega)
end Go.En
end
noncomputable section
set_option maxRecDepth 100000
namespace Go.En
open Go Go.Fl Go.Fl.Lk Go.Fx
theorem u1h{v:Envt}(hd:(v.5.map Lay_.key).Nodup){l:Lay_}(hl:l∈v.5):lof v l.1=some l:=by
 unfold lof
 generalize v.5=L at hl hd
 induction L with
 |nil=>cases hl
 |cons a L ih=>
  rw[List.find?_cons]
  rw[List.map_cons,List.nodup_cons] at hd
  rcases List.mem_cons.1 hl with rfl|hl
  ·simp
  ·rw[decide_eq_false (fun e=>hd.1 (by rw[e];exact List.mem_map_of_mem hl))]
   exact ih hl hd.2
theorem y4j(n:Nat):(lyK.take n).Nodup:=(show lyK.Nodup by unfold lyK;decide).sublist (List.take_sublist _ _)
theorem y4k: ∀x∈exK,x≠noT:=by unfold exK;decide
theorem y7a{l:List Rng}{b:Int}(hc:Cov l)(h0:0<=b)(h1:b<10000):armV l (w3z l b)=true:=by
 obtain⟨r,hr,hh⟩:=hc b h0 h1
 unfold w3z
 cases hf:l.find? fun r=>decide (r.1<=b) && decide (b<r.2) with
 |none=>
  rw[List.find?_eq_none] at hf
  exact absurd (w30 (dt hh.1) (dt hh.2)) (hf r hr)
 |some q=>
  unfold armV
  rw[Option.isSome_iff_ne_none,Ne,List.find?_eq_none]
  intro hn
  exact hn q (List.mem_of_find?_eq_some hf) (dt rfl)
theorem y7b{v:Envt}(hE:EnvS v)(hD:EnvD v){s:Subj}{l:Lay_}{fs:List Frc}:((layV v s l fs l.1).2=noT/\(layV v s l fs l.1).4=0)∨
  ∃x,xof v (layV v s l fs l.1).2=some x/\(layV v s l fs l.1).2=x.1/\x.1≠noT/\(layV v s l fs l.1).5=false/\x.5=2/\x.2=l.1/\armV x.7 (layV v s l fs l.1).4=true/\
   (fs=[]->v2e v s=false/\ ¬bktV l s<l.4/\j48 v s x.1=true):=by
 have hv:=v7l hE hD
 have hne: ∀x∈v.6,x.1≠noT:=fun x hx=>y4k _ (hD.exps.subset (List.mem_map_of_mem hx))
 unfold layV
 split
 ·rename_i q hq
  unfold fcdV at hq
  split at hq
  ·rename_i f hf
   have hfk:f.1=l.1:=by simpa using List.find?_some hf
   split at hq
   ·cases hq;exact .inl ⟨rfl,rfl⟩
   ·split at hq
    ·rename_i hn hr
     cases hq
     unfold runV at hr
     obtain⟨x,hx⟩:=Option.isSome_iff_exists.1 hr
     have hm:=List.mem_of_find?_eq_some hx
     have hp:=List.find?_some hx
     simp only[Bool.and_eq_true,decide_eq_true_eq] at hp
     refine .inr ⟨x,by simp only;rw[←hp.1];exact w6j hv hm,hp.1.symm,hne x hm,rfl,hp.2.2.1,by rw[hp.2.1,hfk],hp.2.2.2,fun he=> ?_⟩
     rw[he] at hf;simp[frcV] at hf
    ·cases hq
  ·cases hq
 ·split
  ·exact .inl ⟨rfl,rfl⟩
  ·rename_i hh
   split
   ·exact .inl ⟨rfl,rfl⟩
   ·rename_i c hc
    split
    ·rename_i x hx
     unfold hitV at hx
     have hm:=List.mem_of_find?_eq_some hx
     have hp:=List.find?_some hx
     simp only[Bool.and_eq_true,decide_eq_true_eq] at hp
     have hr:=y3k x.4 c.2
     refine .inr ⟨x,w6j hv hm,rfl,hne x hm,rfl,hp.2.1,hp.1,y7a (hD.exp x hm).cov hr.1 hr.2,fun _=>⟨?_,fun hb=>hh (.inr ⟨by rw[hc];rfl,hb⟩),hp.2.2.2⟩⟩
     cases hb:v2e v s with
     |false=>rfl
     |true=>exact absurd (.inl hb) hh
    ·exact .inl ⟨rfl,rfl⟩
end Go.En
end
noncomputable section
set_option maxRecDepth 100000
namespace Go.En
open Go Go.Fl Go.Fl.Lk Go.Fx
theorem v2o(n:Nat):(flK.take n).Nodup:=(show flK.Nodup by unfold flK;decide).sublist (List.take_sublist _ _)
theorem y4l{v:Envt}(hD:EnvD v):FlB v.4:=by
 have hnd:(v.4.map Flg.key).Nodup:=by rw[hD.flags.keys];exact v2o _
 refine⟨hnd,fun i f hf p hp j g hg hpg=> ?_⟩
 obtain⟨g',hg',hk,_⟩:=(hD.flags.all i f hf).needs p hp
 obtain⟨q,hq⟩:=List.getElem?_of_mem hg'
 rw[List.getElem?_take] at hq
 split at hq
 ·rename_i hlt
  have hlg:=Qg hg
  have hlq:=Qg hq
  have e:j=q:=by
   have h1:(v.4.map Flg.key)[j]? =some g.1:=by rw[List.getElem?_map,hg];rfl
   have h2:(v.4.map Flg.key)[q]? =some g.1:=by rw[List.getElem?_map,hq,←hpg,hk];rfl
   have hlj:j<(v.4.map Flg.key).length:=by rw[List.length_map];exact hlg
   have hlk:q<(v.4.map Flg.key).length:=by rw[List.length_map];exact hlq
   rw[List.getElem?_eq_getElem hlj] at h1
   rw[List.getElem?_eq_getElem hlk] at h2
   exact (List.getElem_inj (h₀:=hlj) (h₁:=hlk) hnd).1 ((Option.some.inj h1).trans (Option.some.inj h2).symm)
  omega
 ·cases hq
theorem y7c{n:Int}{l:List Rng}{b:Int}(hl:SplS n l)(hc:Cov l)(h0:0<=b)(h1:b<10000):1<=w3z l b/\w3z l b<=n:=by
 obtain⟨r,hr,hb⟩:=hc b h0 h1
 unfold w3z
 cases hf:l.find? fun r=>decide (r.1<=b) && decide (b<r.2) with
 |none=>rw[List.find?_eq_none] at hf;exact absurd (w30 (dt hb.1) (dt hb.2)) (hf r hr)
 |some q=>have:=hl.2 q (List.mem_of_find?_eq_some hf);exact⟨this.2.2.1,this.2.2.2⟩
theorem y4m{s:Subj}{k b salt:ByteArray}{q:Int}(h:bksV s k b salt=some q):0<=q/\q<10000:=by
 unfold bksV at h
 cases hl:lkp s k b with
 |none=>rw[hl] at h;cases h
 |some v=>
  rw[hl] at h
  cases ht:hkV v with
  |none=>rw[Option.bind_some,ht] at h;cases h
  |some t=>rw[Option.bind_some,ht] at h;cases h;exact y3k _ _
theorem u1i{n:Int}{s:Subj}{sv:Srv}(h:SrvD n sv)(ho:(srvV s sv).2.2=true):1<=(srvV s sv).1/\(srvV s sv).1<=n:=by
 unfold srvV at ho⊢
 by_cases h0:sv.1≠0
 ·rw[if_pos h0];have:=h.ok.var;exact⟨by simp only;omega,this.2⟩
 ·rw[if_neg h0] at ho⊢
  cases hb:bksV s sv.2 sv.3 sv.4 with
  |none=>rw[hb] at ho;simp at ho
  |some b=>exact y7c h.ok.split (h.cov (by omega)) (y4m hb).1 (y4m hb).2
theorem y4n{n off k i:Int}{nm:ByteArray}{s:Subj}{sv:Srv}(h:SrvD n sv)(ho:1<=off/\off<=n):1<=(svd s off sv k i nm).1/\(svd s off sv k i nm).1<=n:=by
 unfold svd
 split
 ·rename_i hh;exact u1i h hh
 ·exact ho
theorem u3v{v:Envt}(hE:EnvS v)(hD:EnvD v){s:Subj}{fs:List Frc}{i:Nat}{f:Flg}(hf:v.4[i]? =some f):1<=(dcV v s fs f).1/\(dcV v s fs f).1<=(f.3.length:Int):=by
 have hF:=hD.flags.all i f hf
 have hv:=v7l hE hD
 unfold dcV chsV
 split
 ·exact hF.off
 ·split
  ·exact hF.off
  ·split
   ·rename_i q hq
    exact (hF.tgts _ (getm (j7v hq).2.1)).1
   ·split
    ·rename_i x hx
     have hm:=List.mem_of_find?_eq_some hx
     have hp:=List.find?_some hx
     unfold inXV at hp
     simp only[Bool.and_eq_true,decide_eq_true_eq] at hp
     obtain⟨l,hl,hlk⟩:=(hD.exp x hm).layer
     have hlo:lof v x.2=some l:=by
      rw[hlk];exact u1h (by rw[hD.layers];exact y4j _) hl
     have ha:(asgV v s fs x.2).1=layV v s l fs l.1:=by unfold asgV;rw[hlo,hlk]
     rw[ha] at hp⊢
     have hne:x.1≠noT:=y4k _ (hD.exps.subset (List.mem_map_of_mem hm))
     rcases y7b hE hD (s:=s) (l:=l) (fs:=fs) with ⟨h1,_⟩|⟨x',hx',hk,_,_,_,_,harm,_⟩
     ·exact absurd (hp.2.2.symm.trans h1) hne
     ·have hxx:x'=x:=by
       rw[hp.2.2,w6j hv hm] at hx';exact (Option.some.inj hx').symm
      subst hxx
      obtain⟨g,hg,hgk,hr⟩:=(hD.exp x' hm).flag
      have hgf:g=f:=by
       obtain⟨j,hj⟩:=List.getElem?_of_mem hg
       have h1:=j8i (y4l hD) hj
       have h2:=j8i (y4l hD) hf
       rw[←hgk,hp.1,h2] at h1
       exact (Option.some.inj h1).symm
      subst hgf
      unfold armV at harm
      obtain⟨r,hr0⟩:=Option.isSome_iff_exists.1 harm
      have hr1:=List.find?_some hr0
      simp only[decide_eq_true_eq] at hr1
      rw[←hr1]
      exact hr r (List.mem_of_find?_eq_some hr0)
    ·unfold rlsV
     split
     ·rename_i q hq
      exact y4n (hF.rules _ (getm (j7v hq).2.1)).serve hF.off
     ·exact y4n hF.dflt hF.off
end Go.En
end
noncomputable section
set_option maxRecDepth 100000
namespace Go.En
open Go Go.Fl Go.Fl.Lk Go.Fx
def rstD(n:Int):List UInt8:=if n=0 then [] else Go.Lib.decDigits n.natAbs
theorem y7d{n:Int}(h:n≠0):Go.Lib.itoa n=(if n<0 then [45] else [])++rstD n:=by
 unfold Go.Lib.itoa rstD
 rw[if_neg h]
 split
 ·rfl
 ·rw[show n.toNat=n.natAbs by omega];rfl
theorem y4o:Go.Lib.itoa 0=[48]:=by unfold Go.Lib.itoa;rw[if_neg (by decide),Go.Lib.decDigits];rfl
end Go.En
end
noncomputable section
set_option maxRecDepth 100000
namespace Go.En
open Go Go.Fl Go.Fl.Lk Go.Fx
def NumB(s:Subj):Prop:= ∀c∈s.ctxs,∀a∈c.attrs,InI a.value.number
theorem v90{s:Subj}(hc: ∀c∈s.ctxs,CtxS c):NumB s:=fun c hm a ha=>((hc c hm).l a ha).num
theorem y4p: ∀(k n:Nat),n<10 ^ k->1<=k->(Go.Lib.decDigits n).length<=k
 |0,_,_,h=>by omega
 |k+1,n,h,_=>by
  rw[Go.Lib.decDigits]
  split
  ·simp
  ·rename_i hs
   have hk:1<=k:=by
    refine Nat.one_le_iff_ne_zero.2 fun e=> ?_
    subst e;simp at h;omega
   have:=y4p k (n / 10) (by rw[Nat.pow_succ] at h;omega) hk
   simp;omega
theorem u1j{n:Int}(h:InI n):(rstD n).length<=19:=by
 unfold rstD
 split
 ·simp
 ·refine y4p 19 _ ?_ (by decide)
  have:(10:Nat) ^ 19=10000000000000000000:=by decide
  unfold InI at h
  omega
theorem y7e{n:Int}(h:InI n):(numB n).size<=100:=by
 show (Go.Lib.itoa n).toArray.size<=100
 rw[List.size_toArray]
 by_cases h0:n=0
 ·subst h0;rw[y4o];decide
 ·rw[y7d h0]
  have:=u1j h
  split<;>simp<;>omega
theorem w5i{n:Int}{K:ByteArray->Prop}(hn:InI n)(h:K (numB n)):q7v n K:=by
 unfold q7v
 exact⟨hn,h⟩
theorem w9a{v:Val}{K:ByteArray->Bool->Prop}(hn:InI v.2)(h:K ((hkV v).getD noT) (hkV v).isSome):z0t v K:=by
 unfold z0t z7k
 refine Jn1.mk (fun b=>b=true↔v.1=3∨v.1=4) (Cnd.mk (fun e=>by simp[e]) fun e=>by simp[e]) ?_
 intro b hb
 unfold hkV at h
 refine Cnd.mk (fun ht=> ?_) fun ht=> ?_
 ·rw[if_pos (hb.1 ht)] at h;exact h
 rw[if_neg (fun e=>ht (hb.2 e))] at h
 refine Cnd.mk (fun e=> ?_) fun e=> ?_
 ·rw[if_pos e] at h;exact w5i hn h
 rw[if_neg e] at h
 refine Cnd.mk (fun e1=> ?_) fun e1=> ?_
 ·rw[if_pos e1] at h
  refine Cnd.mk (fun e2=> ?_) fun e2=> ?_
  ·rw[if_pos e2] at h;exact h
  ·rw[if_neg e2] at h;exact h
 ·rw[if_neg e1] at h;exact h
theorem u3w{s:Subj}{kind name:ByteArray}{v:Val}(hN:NumB s)(h:lkp s kind name=some v):InI v.2:=by
 unfold lkp at h
 cases hf:fnd s kind with
 |none=>rw[hf] at h;cases h
 |some c=>
  rw[hf] at h
  simp only[Option.bind_some] at h
  by_cases hk:name=keyB
  ·rw[if_pos hk] at h;cases h
   show InI 0
   unfold InI;omega
  ·rw[if_neg hk] at h
   obtain⟨a,ha,rfl⟩:=Option.map_eq_some_iff.1 h
   exact hN c (j7m hf) a (List.mem_of_find?_eq_some ha)
theorem u3x{v:Val}{t:ByteArray}(hn:InI v.2)(hv:v.3.size<=2000000)(h:hkV v=some t):t.size<=10000000:=by
 unfold hkV at h
 split at h
 ·cases h;omega
 ·split at h
  ·cases h;have:=y7e hn;omega
  ·split at h
   ·cases h
    split<;>decide
   ·cases h
theorem j7w{s:Subj}{k b salt:ByteArray}{K:Int->Bool->Prop}(hs:SubB s)(hN:NumB s)(hz:salt.size<=10000000)(h:K ((bksV s k b salt).getD 0) (bksV s k b salt).isSome):q0v s k b salt K:=by
 unfold q0v q6z
 refine z3q hs ?_
 unfold bksV at h
 cases hl:lkp s k b with
 |none=>rw[hl] at h;exact Cnd.no (by simp) h
 |some v=>
  rw[hl] at h
  simp only[Option.bind_some] at h
  refine Cnd.yes rfl (w9a (u3w hN hl) ?_)
  simp only[Option.getD_some]
  cases hk:hkV v with
  |none=>rw[hk] at h;exact Cnd.no (by simp) h
  |some t=>
   rw[hk] at h
   exact Cnd.yes rfl (q6k hz (u3x (u3w hN hl) (u0v hs hl).2 hk) h)
theorem j7x{s:Subj}{v:Srv}{K:Int->Int->Bool->Prop}(hs:SubB s)(hN:NumB s)(hz:v.4.size<=10000000)(hl:v.5.length<=1000000)(h:K (srvV s v).1 (srvV s v).2.1 (srvV s v).2.2):q0w s v K:=by
 unfold q0w q60
 unfold srvV at h
 refine Cnd.mk (fun e=> ?_) fun e=>by rw[if_pos e] at h;exact h
 rw[if_neg (by omega)] at h
 refine j7w hs hN hz ?_
 cases hb:bksV s v.2 v.3 v.4 with
 |none=>rw[hb] at h;exact Cnd.no (by simp) h
 |some b=>rw[hb] at h;exact Cnd.yes rfl (j1c hl h)
def tgtV(s:Subj)(f:Flg):Int:=match ixF (tgP s) f.7 0 with
 |some q=>(q.1:Int)+1
 |none=>0
theorem j5c{f:Flg}{s:Subj}{K:Int->Prop}(hs:SubB s)(ht:f.7.length<=1000000)(hk: ∀t∈f.7,t.3.length<=1048576)(h:K (tgtV s f)):Vl f s K:=by
 unfold Vl q4f
 unfold tgtV at h
 refine fun _=>u5l (tgP s) (by omega) (fun hn=>by rw[hn] at h;exact h) fun i y Y hy hi hp hq=>Rz hs ?_
 have miss:tgP s y=false->InI ((i:Int)+1)/\Y ((i:Int)+1):=hq
 cases hf:fnd s y.1 with
 |none=>exact Cnd.no (by simp) (miss (by unfold tgP;rw[hf]))
 |some c=>
  refine Cnd.yes rfl fun _=>srch (fun k=>decide (k=c.2)) (by have:=hk y (getm hy);omega) (fun hn=>Cnd.no (by omega) (miss ?_)) fun j k Z hkk hj hp2 hq2=>Cnd.mk (fun e=>Cnd.yes (by omega) ⟨by unfold InI;omega,?_⟩) fun e=>hq2 (df fun e2=>e e2.symm)
  ·unfold tgP;rw[hf]
   refine w3r fun hm=> ?_
   rw[List.find?_eq_none] at hn
   exact hn _ hm (dt rfl)
  ·have hc:c.2=k:=e
   have ht:tgP s y=true:=by unfold tgP;rw[hf];exact w8t (hc▸getm hkk)
   rw[hp ht] at h;exact h
end Go.En
end
noncomputable section
set_option maxRecDepth 100000
namespace Go.En
open Go Go.Fl Go.Fl.Lk Go.Fx
def SrvB(v:Srv):Prop:=v.4.size<=10000000/\v.5.length<=1000000
structure FlX(v:Envt):Prop where
 b:FlB v.4
 n:v.4.length<=1000
 vs: ∀f∈v.4,f.3.length<=1000000/\ ∀x∈f.3,x.4.length<=2000000
 p: ∀f∈v.4,f.6.length<=1000000
 t: ∀f∈v.4,f.7.length<=1000000/\ ∀t∈f.7,t.3.length<=1048576
 r: ∀f∈v.4,f.8.length<=1000000/\ ∀r∈f.8,wt r.2<=2000000/\EvB r.2/\SrvB r.3
 d: ∀f∈v.4,SrvB f.9
 x: ∀x∈v.6,x.1≠noT
theorem y4q{n:Int}{s:Srv}(h:SrvD n s):SrvB s:=⟨Nat.le_trans h.ok.salt (by decide),by have:=h.ok.split.1;omega⟩
theorem y8q{v:Envt}(hE:EnvS v)(hD:EnvD v):FlX v where
 b:=y4l hD
 n:=Nat.le_trans hE.flen (by decide)
 vs f hf:=⟨by have:=(hE.flags f hf).vlen;omega,fun x hx=>by have:=((hE.flags f hf).vals x hx).len;omega⟩
 p f hf:=by have:=(hE.flags f hf).nlen;omega
 t f hf:=⟨by have:=(hE.flags f hf).tlen;omega,fun t ht=>by
  obtain⟨i,hi⟩:=List.getElem?_of_mem hf
  have:=((hD.flags.all i f hi).tgts t ht).2;omega⟩
 r f hf:=⟨by have:=(hE.flags f hf).rlen;omega,fun r hr=>by
  obtain⟨i,hi⟩:=List.getElem?_of_mem hf
  have h1:=(hD.flags.all i f hi).rules r hr
  exact⟨(v5q h1.cond).1,(v5q h1.cond).2,y4q h1.serve⟩⟩
 d f hf:=by
  obtain⟨i,hi⟩:=List.getElem?_of_mem hf
  exact y4q (hD.flags.all i f hi).dflt
 x x hx:=y4k _ (hD.exps.subset (List.mem_map_of_mem hx))
abbrev noF:Flg:=Flg.mk noT 0 [] false 0 [] [] [] (Srv.mk 0 noT noT noT [])
abbrev noD:Dcs:=Dcs.mk noT 0 noV (Rsn.mk 0 0 noT 0) 0
theorem z3r{v:Envt}{s:Subj}{fs:List Frc}{K:ByteArray->ByteArray->Int->List Decl->List Seg->List Flg->List Lay_->List Exper->List Ctxt->List Frc->List ByteArray->(ByteArray->Option Dcs)->(ByteArray->Option Bool)->Prop}(hv:AsB v)(hs:SubB s)
  (h:K v.1.1 v.1.2 v.1.3 v.2 v.3 v.4 v.5 v.6 s.1 fs (mem v.3 s) (fun _=>none) (fun _=>none)):Hk v s fs K:=by
 unfold Hk q6y
 have one: ∀{K':List ByteArray->Prop},K' (mem v.3 s)->Vk v.3 (Subj.mk s.1) K':=fun h=>z1b hv.sg hs fun m hm=>by rw[v7d hm];exact h
 exact⟨one ⟨h,h⟩,⟨one h,one h⟩,one h,one h⟩
section
variable {v:Envt}{s:Subj}{fs:List Frc}{inn:List ByteArray}{done:ByteArray->Option Dcs}{opn:ByteArray->Option Bool}
theorem w38{key:ByteArray}{K:Flg->Bool->(ByteArray->Option Dcs)->(ByteArray->Option Bool)->Prop}(hn:v.4.length<=1000)(h:K ((fof v key).getD noF) (fof v key).isSome done opn):
  Jx v.1.1 v.1.2 v.1.3 v.2 v.3 v.4 v.5 v.6 s.1 fs inn done opn key K:=by
 unfold Jx
 unfold fof at h
 refine fun _=>srch (fun f=>decide (f.1=key)) (by omega) (fun hf=> ?_) fun i y Y hy hi hp hq=>Cnd.mk (fun e=>Cnd.no (by omega) ⟨by omega,fun z hz=> ?_⟩) fun e=>hq (df e)
 ·rw[hf] at h;exact Cnd.yes (by omega) h
 ·have hz:v.4[i]? =some z:=hz
  rw[hy] at hz;cases hz
  rw[hp (dt e)] at h;exact h
theorem w9b{x:Exper}{K:Int->(ByteArray->Option Dcs)->(ByteArray->Option Bool)->Prop}(hv:AsB v)(hs:SubB s)(hx:x.4.size<=10000000)(h:K (abV v s x) done opn):
  J3 v.1.1 v.1.2 v.1.3 v.2 v.3 v.4 v.5 v.6 s.1 fs inn done opn x K:=by
 unfold J3 B0
 unfold abV lof at h
 have hln:=hv.ln
 refine fun _=>srch (fun l=>decide (l.1=x.2)) (by omega) (fun hf=>by rw[hf] at h;exact h) fun i y Y hy hi hp hq=>Cnd.mk (fun e=>Rz (s:=s) hs ?_) fun e=>hq (df e)
 rw[hp (dt e)] at h
 simp only at h
 cases hf:fnd s y.2 with
 |none=>rw[hf] at h;exact Cnd.no (by simp) h
 |some c=>rw[hf] at h;exact Cnd.yes rfl (q6k hx (j2z hs hf) h)
theorem j8j{f:Flg}{sv:Srv}{r:Rsn}{K:Int->Rsn->(ByteArray->Option Dcs)->(ByteArray->Option Bool)->Prop}(hs:SubB s)(hN:NumB s)(hb:SrvB sv)(h:K (svd s f.5 sv r.1 r.2 r.3).1 (svd s f.5 sv r.1 r.2 r.3).2 done opn):
  Wa v.1.1 v.1.2 v.1.3 v.2 v.3 v.4 v.5 v.6 s.1 fs inn done opn f sv r K:=by
 unfold Wa q1i
 unfold svd at h
 refine j7x (s:=s) hs hN hb.1 hb.2 (Cnd.mk (fun e=> ?_) fun e=> ?_)
 ·rw[if_pos e] at h;exact h
 ·rw[if_neg e] at h;exact h
end
end Go.En
end
noncomputable section
set_option maxRecDepth 100000
namespace Go.En
open Go Go.Fl Go.Fl.Lk Go.Fx
theorem z1e{l:List Val}{n:Int}{Z:Int->Int->ByteArray->List ByteArray->Prop}(hl:l.length<=1000000)(h:Z (valV l n).1 (valV l n).2 (valV l n).3 (valV l n).4):
  Jn4 Z fun Y=>Cnd (1<=n) (Fits l->Cnd (n<=(l.length:Int)) (InI (n - 1)/\At l (n - 1) fun y=>Y y.1 y.2 y.3 y.4) (Y 0 0 noT [])) (Y 0 0 noT []):=by
 refine Jn4.mk (fun a b c d=>a=(valV l n).1/\b=(valV l n).2/\c=(valV l n).3/\d=(valV l n).4) (Cnd.mk (fun h1 _=>Cnd.mk (fun h2=>⟨by unfold InI;omega,by omega,fun y hy=> ?_⟩) fun h2=> ?_) fun h1=> ?_) fun a b c d ⟨e1,e2,e3,e4⟩=>by rw[e1,e2,e3,e4];exact h
 ·unfold valV;rw[if_pos ⟨h1,h2⟩,hy];exact⟨rfl,rfl,rfl,rfl⟩
 ·unfold valV;rw[if_neg (fun k=>h2 k.2)];exact⟨rfl,rfl,rfl,rfl⟩
 ·unfold valV;rw[if_neg (fun k=>h1 k.1)];exact⟨rfl,rfl,rfl,rfl⟩
theorem y7f{l:List Val}{n:Int}(h: ∀x∈l,x.4.length<=2000000):(valV l n).4.length<=2000000:=by
 unfold valV
 split
 ·cases hq:l[(n - 1).toNat]? with
  |none=>simp
  |some x=>exact h x (getm hq)
 ·simp
def DnI(v:Envt)(s:Subj)(fs:List Frc)(done:ByteArray->Option Dcs):Prop:= ∀k d,done k=some d-> ∃f∈v.4,k=f.1/\d=dcsV v s fs f
theorem DnI.nil{v:Envt}{s:Subj}{fs:List Frc}:DnI v s fs fun _=>none:=fun _ _ h=>by cases h
theorem DnI.put{v:Envt}{s:Subj}{fs:List Frc}{done:ByteArray->Option Dcs}(h:DnI v s fs done){f:Flg}(hf:f∈v.4):DnI v s fs (put done f.1 (dcsV v s fs f)):=fun k d hk=>by
 unfold Fl.put at hk
 split at hk
 ·rename_i e;cases hk;exact⟨f,hf,e,rfl⟩
 ·exact h k d hk
theorem u1k{o:ByteArray->Option Bool}{k:ByteArray}{b:Bool}(h:o k=none):dlt (put o k b) k=o:=by
 funext q
 unfold dlt Fl.put
 by_cases e:q=k
 ·rw[if_pos e,e,h]
 ·rw[if_neg e,if_neg e]
theorem u1l{v:Envt}{s:Subj}{fs:List Frc}{key:ByteArray}(h:(asgV v s fs key).2≠0):(asgV v s fs key).1.2=noT:=by
 unfold asgV at h⊢
 split
 ·rename_i l hl;rw[hl] at h;exact absurd rfl h
 ·rfl
theorem nodup_at{v:Envt}(hB:FlB v.4){i j:Nat}{f g:Flg}(hf:v.4[i]? =some f)(hg:v.4[j]? =some g)(h:i≠j):f.1≠g.1:=fun e=>by
 have h1:=j8i hB hf
 have h2:=j8i hB hg
 rw[e,h2] at h1
 have e2:g=f:=Option.some.inj h1
 subst e2
 have hnd:=hB.nd
 have a:=Qg hf
 have b:=Qg hg
 refine h ((List.getElem_inj (h₀:=by rw[List.length_map];exact a) (h₁:=by rw[List.length_map];exact b) hnd).1 ?_)
 rw[List.getElem_map,List.getElem_map]
 rw[List.getElem?_eq_getElem a] at hf
 rw[List.getElem?_eq_getElem b] at hg
 rw[Option.some.inj hf,Option.some.inj hg]
theorem v2p{v:Envt}{s:Subj}{fs:List Frc}(hv:AsB v)(hF:FlX v)(hs:SubB s)(hN:NumB s)(hfs:fs.length<=1000000000){i:Nat}{f:Flg}(hf:v.4[i]? =some f){done:ByteArray->Option Dcs}{opn:ByteArray->Option Bool}
  {K:Dcs->(ByteArray->Option Dcs)->(ByteArray->Option Bool)->Prop}(hd:DnI v s fs done)(ho: ∀(j:Nat) g,j<=i->v.4[j]? =some g->opn g.1=none)(hK: ∀done',DnI v s fs done'->K (dcsV v s fs f) done' opn):
  Wv v.1.1 v.1.2 v.1.3 v.2 v.3 v.4 v.5 v.6 s.1 fs (mem v.3 s) done opn f K:=by
 intro X hX
 induction i using Nat.strongRecOn generalizing f done opn K with
 |ind i ih=>
  refine hX _ _ _ _ _ _ _ _ _ _ _ _ _ _ _ ?_
  clear hX
  have hm:=getm hf
  have hvs:=hF.vs f hm
  unfold B1
  refine Jn1.mk (fun t=> ∃done',DnI v s fs done'/\t=(f.1,(dcsV v s fs f).2,(dcsV v s fs f).3.1,(dcsV v s fs f).3.2,(dcsV v s fs f).3.3,(dcsV v s fs f).3.4,(dcsV v s fs f).4.1,(dcsV v s fs f).4.2,(dcsV v s fs f).4.3,(dcsV v s fs f).4.4,(dcsV v s fs f).5,done',opn,())) ?_ ?_
  case refine_2=>
   rintro _ ⟨done',hd',rfl⟩
   exact q5f (y7f hvs.2) (hK done' hd')
  have fin: ∀{n:Int} {r:Rsn} {done1:ByteArray->Option Dcs} {opn1:ByteArray->Option Bool},DnI v s fs done1->opn1=put opn f.1 true->dcV v s fs f=(n,r)-> ∃done',DnI v s fs done'/\(f.1,n,(valV f.3 n).1,(valV f.3 n).2,(valV f.3 n).3,(valV f.3 n).4,r.1,r.2,r.3,r.4,(0:Int),put done1 f.1 (Dcs.mk f.1 n (valV f.3 n) r 0),dlt opn1 f.1,())=(f.1,(dcsV v s fs f).2,(dcsV v s fs f).3.1,(dcsV v s fs f).3.2,(dcsV v s fs f).3.3,(dcsV v s fs f).3.4,(dcsV v s fs f).4.1,(dcsV v s fs f).4.2,(dcsV v s fs f).4.3,(dcsV v s fs f).4.4,(dcsV v s fs f).5,done',opn,()):=by
   intro n r done1 opn1 h1 h2 h3
   have e:dcsV v s fs f=Dcs.mk f.1 n (valV f.3 n) r 0:=by unfold dcsV;rw[h3]
   refine⟨_,h1.put hm,?_⟩
   rw[e,h2,u1k (ho i f (Nat.le_refl _) hf)]
  refine Cnd.mk (fun hm1=> ?_) fun hm1=> ?_
  ·obtain⟨d,hdd⟩:=Option.isSome_iff_exists.1 hm1
   rw[hdd]
   obtain⟨g,hg,hk,rfl⟩:=hd _ _ hdd
   obtain⟨j,hj⟩:=List.getElem?_of_mem hg
   have e:g=f:=by
    have a1:=j8i hF.b hj
    rw[←hk,j8i hF.b hf] at a1
    exact (Option.some.inj a1).symm
   subst e
   exact⟨done,hd,rfl⟩
  have hdc:=y8p (s:=s) (fs:=fs) hF.b hf
  unfold chsV at hdc
  refine Cnd.mk (fun hon=>fun _=> ?_) fun hon=> ?_
  case refine_2=>
   rw[if_pos (by simpa using hon)] at hdc
   exact z1e hvs.1 (fin hd rfl hdc)
  rw[if_neg (by rw[hon];simp)] at hdc
  have hol: ∀(j:Nat) g,j<i->v.4[j]? =some g->put opn f.1 true g.1=none:=fun j g hj hg=>by
   unfold Fl.put
   rw[if_neg (nodup_at hF.b hg hf (by omega))]
   exact ho j g (by omega) hg
  have hpl:=hF.p f hm
  refine LpH.ind (fun t=> ∃(j:Nat) (a b:Int) (c:ByteArray) (e:Int) (done1:ByteArray->Option Dcs),t=((j:Int),a,b,c,e,put opn f.1 true,done1,())/\j<=f.6.length/\DnI v s fs done1/\(f.6.find? fun p=> !metV v (fun g=>(dcV v s fs g).1) p)=(f.6.drop j).find? fun p=> !metV v (fun g=>(dcV v s fs g).1) p) (fun t=>(f.6.length - t.1).toNat) ?_ ⟨0,_,_,_,_,done,rfl,by omega,hd,rfl⟩
  rintro _ ⟨j,a,b,c,e,done1,rfl,hj,hd1,hfd⟩
  dsimp only
  refine Cnd.mk (fun hlt=>⟨by omega,fun p hp=> ?_⟩) fun hlt=> ?_
  ·have hp:f.6[j]? =some p:=hp
   have miss:metV v (fun g=>(dcV v s fs g).1) p=false->dcV v s fs f=(f.5,Rsn.mk 2 0 p.1 (-1)):=fun hmf=>by
    rw[hfd,z1c hp (by rw[hmf];rfl)] at hdc;exact hdc
   refine w38 (v:=v) (s:=s) hF.n ?_
   cases hfo:fof v p.1 with
   |none=>exact Cnd.no (by simp) (z1e hvs.1 (fin hd1 rfl (miss (by unfold metV;rw[hfo]))))
   |some g=>
    obtain⟨q,hq,hpk⟩:=v7m hfo
    have hqi:=hF.b.ord i f hf p (getm hp) q g hq hpk
    refine Cnd.yes rfl (Cnd.mk (fun hgo=>Cnd.no ?_ ?_) fun hgo=> ?_)
    ·show ¬(put opn f.1 true g.1).getD false=true
     rw[hol q g hqi hq];simp
    ·refine ih q hqi hq hd1 (fun j' g' hj' hg'=>hol j' g' (by omega) hg') fun done2 hd2=> ?_
     refine Cnd.mk (fun he=>⟨by unfold InI;omega,⟨j+1,a,b,c,e,done2,rfl,by omega,hd2,?_⟩,by show ((f.6.length:Int) - ((j:Int)+1)).toNat<((f.6.length:Int) - (j:Int)).toNat;omega⟩) fun he=>z1e hvs.1 (fin hd2 rfl (miss ?_))
     ·have he:(dcV v s fs g).1=p.2:=he
      rw[hfd,q6m hp]
      unfold metV;rw[hfo];simp only
      have hgo:g.4=true:=hgo
      rw[hgo,dt he];rfl
     ·have he: ¬(dcV v s fs g).1=p.2:=he
      unfold metV;rw[hfo];simp only
      rw[df he];simp
    ·have hgo: ¬g.4=true:=hgo
     refine z1e hvs.1 (fin hd1 rfl (miss ?_))
     unfold metV;rw[hfo];simp only
     rw[Bool.eq_false_iff.2 hgo];rfl
  ·rw[hfd,List.drop_eq_nil_of_le (by omega),List.find?_nil] at hdc
   clear hfd hlt
   refine j5c (f:=f) (s:=s) hs (hF.t f hm).1 (hF.t f hm).2 ?_
   unfold tgtV
   cases hix:ixF (tgP s) f.7 0 with
   |some q=>
    rw[hix] at hdc
    have hsp:=j7v hix
    refine Cnd.yes (by simp only;omega) ⟨by have:=Qg hsp.2.1;have:=(hF.t f hm).1;unfold InI;simp only;omega,by have:=Qg hsp.2.1;simp only;omega,fun y hy=> ?_⟩
    simp only at hy
    have hq2:=hsp.2.1
    rw[show ((q.1:Int)+1 - 1).toNat=q.1 - 0 by omega,hq2] at hy
    cases hy
    exact z1e hvs.1 (fin (r:=Rsn.mk 3 ((q.1:Int)+1) noT (-1)) hd1 rfl hdc)
   |none=>
    rw[hix] at hdc
    simp only at hdc
    refine Cnd.no (by simp) fun _=> ?_
    have hxl:=hv.xn
    refine LpH.ind (fun t=> ∃(j:Nat) (a b:Int) (c:ByteArray) (e:Int) (done1:ByteArray->Option Dcs),t=((j:Int),a,b,c,e,done1,put opn f.1 true,())/\j<=v.6.length/\DnI v s fs done1/\v.6.find? (inXV v s fs f.1)=(v.6.drop j).find? (inXV v s fs f.1)) (fun t=>(v.6.length - t.1).toNat) ?_ ⟨0,_,_,_,_,done1,rfl,by omega,hd1,rfl⟩
    clear hd1
    rintro _ ⟨j,a,b,c,e,done1,rfl,hj,hd1,hfd⟩
    dsimp only
    refine Cnd.mk (fun hlt=>⟨by omega,fun x hx=> ?_⟩) fun hlt=> ?_
    ·have hx:v.6[j]? =some x:=hx
     have next:inXV v s fs f.1 x=false->InI ((j:Int)+1)/\(∃(j':Nat) (a' b':Int) (c':ByteArray) (e':Int) (done2:ByteArray->Option Dcs),((j:Int)+1,a,b,c,e,done1,put opn f.1 true,())=((j':Int),a',b',c',e',done2,put opn f.1 true,())/\j'<=v.6.length/\DnI v s fs done2/\v.6.find? (inXV v s fs f.1)=(v.6.drop j').find? (inXV v s fs f.1))/\((v.6.length:Int) - ((j:Int)+1)).toNat<((v.6.length:Int) - (j:Int)).toNat:=fun hn=>
      ⟨by unfold InI;omega,⟨j+1,a,b,c,e,done1,rfl,by omega,hd1,by rw[hfd,q6m hx hn]⟩,by omega⟩
     refine Cnd.mk (fun h3=>Cnd.mk (fun h5=> ?_) fun h5=>next ?_) fun h3=>next ?_
     ·refine w31 (v:=v) (s:=s) hv hs hfs (Cnd.mk (fun he=>Cnd.mk (fun hxk=> ?_) fun hxk=>next ?_) fun he=>next ?_)
      ·have hin:inXV v s fs f.1 x=true:=w30 (dt h3) (w30 (dt h5) (dt hxk))
       rw[hfd,z1c hx hin] at hdc
       exact w9b (v:=v) (s:=s) hv hs (hv.xs x (getm hx)) (z1e hvs.1 (fin (r:=Rsn.mk 4 0 x.1 (abV v s x)) hd1 rfl hdc))
      ·exact q75 (.inr (q75 (.inr (df hxk))))
      ·refine q75 (.inr (q75 (.inr (df ?_))))
       rw[u1l he]
       exact fun e=>hF.x x (getm hx) e.symm
     ·exact q75 (.inr (q75 (.inl (df h5))))
     ·exact q75 (.inl (df h3))
    ·rw[hfd,List.drop_eq_nil_of_le (by omega),List.find?_nil] at hdc
     simp only at hdc
     clear hfd hlt
     unfold rlsV at hdc
     have hr:=hF.r f hm
     refine fun _=>LpH.ind (fun t=> ∃(j:Nat) (a b:Int) (c:ByteArray) (e:Int) (done1:ByteArray->Option Dcs),t=((j:Int),a,b,c,e,put opn f.1 true,done1,())/\j<=f.8.length/\DnI v s fs done1/\ixF (fun r=>cndV v s r.2) f.8 0=ixF (fun r=>cndV v s r.2) (f.8.drop j) j) (fun t=>(f.8.length - t.1).toNat) ?_ ⟨0,_,_,_,_,done1,rfl,by omega,hd1,rfl⟩
     clear hd1
     rintro _ ⟨j,a,b,c,e,done1,rfl,hj,hd1,hfd⟩
     dsimp only
     refine Cnd.mk (fun hlt=>⟨by omega,fun r hr0=> ?_⟩) fun hlt=> ?_
     ·have hr0:f.8[j]? =some r:=hr0
      have hrm:=hr.2 r (getm hr0)
      refine z2j (s:=s) hs _ (Nat.le_refl _) (by rw[Z4];exact hrm.1) (by rw[Z4];exact hrm.2.1) ?_
      rw[Z4]
      refine Cnd.mk (fun hc=>⟨by unfold InI;omega,?_⟩) fun hc=> ?_
      ·rw[hfd,y8o hr0 hc] at hdc
       exact j8j (v:=v) (s:=s) (r:=Rsn.mk 5 ((j:Int)+1) r.1 0) hs hN hrm.2.2 (z1e hvs.1 (fin hd1 rfl hdc))
      ·refine⟨by unfold InI;omega,⟨j+1,a,b,c,e,done1,rfl,by omega,hd1,?_⟩,by show ((f.8.length:Int) - ((j:Int)+1)).toNat<((f.8.length:Int) - (j:Int)).toNat;omega⟩
       rw[hfd,y4i hr0 (Bool.eq_false_iff.2 hc)]
     ·rw[hfd,List.drop_eq_nil_of_le (by omega)] at hdc
      exact j8j (v:=v) (s:=s) (r:=Rsn.mk 6 0 noT 0) hs hN (hF.d f hm) (z1e hvs.1 (fin hd1 rfl hdc))
end Go.En
end
noncomputable section
set_option maxRecDepth 100000
namespace Go.En
open Go Go.Fl Go.Fl.Lk Go.Fx
def flgV(v:Envt)(s:Subj)(fs:List Frc)(key:ByteArray):Dcs×Int:=match fof v key with
 |some f=>(dcsV v s fs f,0)
 |none=>(noD,11)
theorem z6o{v:Envt}{s:Subj}{fs:List Frc}{key:ByteArray}{K:Dcs->Int->Prop}(hv:AsB v)(hF:FlX v)(hs:SubB s)(hN:NumB s)(hfs:fs.length<=1000000000)(h:K (flgV v s fs key).1 (flgV v s fs key).2):Rw v s fs key K:=by
 unfold Rw q9q
 unfold flgV at h
 refine z3r (v:=v) (s:=s) hv hs (w38 (v:=v) (s:=s) hF.n ?_)
 cases hf:fof v key with
 |none=>rw[hf] at h;exact Cnd.no (by simp) h
 |some f=>
  rw[hf] at h
  obtain⟨i,hi,_⟩:=v7m hf
  exact Cnd.yes rfl (v2p hv hF hs hN hfs hi DnI.nil (fun _ _ _ _=>rfl) fun _ _=>h)
theorem w39{v:Envt}{s:Subj}{fs:List Frc}{K:List Dcs->Prop}(hv:AsB v)(hF:FlX v)(hs:SubB s)(hN:NumB s)(hfs:fs.length<=1000000000)(h:K (v.4.map (dcsV v s fs))):q48 v s fs K:=by
 unfold q48 z15
 have hn:=hF.n
 refine z3r (v:=v) (s:=s) hv hs fun _=> ?_
 refine Lp4.ind (fun l i done opn=> ∃j:Nat,i=(j:Int)/\j<=v.4.length/\l=(v.4.take j).map (dcsV v s fs)/\DnI v s fs done/\opn=fun _=>none) (fun _ i _ _=>(v.4.length - i).toNat) ?_ ⟨0,rfl,by omega,by simp,DnI.nil,rfl⟩
 rintro l i done opn ⟨j,rfl,hj,rfl,hd,rfl⟩
 refine Cnd.mk (fun hlt=>⟨by omega,fun f hf=> ?_⟩) fun hlt=> ?_
 ·have hf:v.4[j]? =some f:=hf
  refine v2p hv hF hs hN hfs hf hd (fun _ _ _ _=>rfl) fun done' hd'=>⟨by unfold Sml;simp;omega,by unfold InI;omega,⟨j+1,rfl,by omega,?_,hd',rfl⟩,by omega⟩
  rw[List.take_add_one,hf,List.map_append];rfl
 ·rw[List.take_of_length_le (by omega)];exact h
abbrev fB:ByteArray:=ByteArray.mk (Array.mk [102])
abbrev smpF:Flg:=Flg.mk fB 1 [Val.mk 1 0 noT [],Val.mk 1 1 noT []] true 1 [] [] [] (Srv.mk 2 noT noT noT [])
abbrev smpE:Envt:=Envt.mk (Sett.mk noT noT 0) [] [] [smpF] [] []
theorem u1m:AsB smpE where
 ln:=by decide
 xn:=by decide
 sg:=y38 (by decide) (by simp)
 ex x hx:=by cases hx
 sa:=by decide
 ls l hl:=by cases hl
 xs x hx:=by cases hx
 cl x hx:=by cases hx
 nd:=by simp
theorem u1n:FlX smpE where
 b:=⟨by simp,fun i f hf p hp=>by
  have hf:[smpF][i]? =some f:=hf
  have:=List.mem_of_getElem? hf
  rw[List.mem_singleton] at this
  subst this;cases hp⟩
 n:=by decide
 vs f hf:=by
  rw[List.mem_singleton.1 hf]
  refine⟨by decide,fun x hx=> ?_⟩
  have hx:x∈[Val.mk 1 0 noT [],Val.mk 1 1 noT []]:=hx
  simp only[List.mem_cons,List.not_mem_nil,or_false] at hx
  rcases hx with rfl|rfl<;>simp
 p f hf:=by rw[List.mem_singleton.1 hf];decide
 t f hf:=by rw[List.mem_singleton.1 hf];exact⟨by decide,fun t ht=>by cases ht⟩
 r f hf:=by rw[List.mem_singleton.1 hf];exact⟨by decide,fun t ht=>by cases ht⟩
 d f hf:=by rw[List.mem_singleton.1 hf];exact⟨by decide,by decide⟩
 x x hx:=by cases hx
theorem y7g:flgV smpE (Subj.mk []) [] fB=(Dcs.mk fB 2 (Val.mk 1 1 noT []) (Rsn.mk 6 0 noT (-1)) 0,0):=by
 have hf:fof smpE fB=some smpF:=by simp[fof]
 have hd:dcV smpE (Subj.mk []) [] smpF=(2,Rsn.mk 6 0 noT (-1)):=by
  unfold dcV chsV
  simp[ixF,rlsV,svd,srvV]
 unfold flgV
 rw[hf]
 simp only
 unfold dcsV
 rw[hd]
 rfl
theorem v91{K:Bool->Prop}(h:K true):q7w K:=by
 unfold q7w z4r
 refine z6o (v:=smpE) u1m u1n (y69 (by decide) (by simp)) (fun c hc=>by cases hc) (by decide) ?_
 rw[y7g]
 exact Cnd.yes rfl (Cnd.yes rfl (Cnd.yes rfl (Cnd.yes rfl (by rw[dt ⟨rfl,rfl,rfl,rfl⟩];exact h))))
theorem v5s{V:Envt->Prop}(hV: ∀(v:Envt) (K:Bool->Prop),EnvS v->(∀b,(b=true->V v)->K b)->q1d v K)(hV0: ∀ds,V (Envt.mk (Sett.mk (ByteArray.mk (Array.mk [])) (ByteArray.mk (Array.mk [])) 0) ds [] [] [] []))
  {codes who:List Int}{K:Envt->Subj->List Frc->Prop}(hc:Byts codes)(hw:Byts who)(h: ∀v s f,EnvS v->EnvD v->V v->SubB s->NumB s->f.length<=3->K v s f):q28 codes who K:=by
 unfold q28 z4y
 refine v7c hc (by decide) (by decide) fun cl hD=>j7u hV hV0 hD fun v a hE hd hv _=>v7c hw (by decide) (by decide) fun wl hD2=>w5a hD2 fun s a hs hl hD3=>v5r (v:=v) hD3 hE fun f _ hf=>h v s f hE hd hv (v9n hs hl) (v90 hl) hf
theorem v92{codes who:List Int}{K:Envt->Subj->List Frc->Prop}(hc:Byts codes)(hw:Byts who)(h: ∀v s f,EnvS v->EnvD v->SubB s->NumB s->f.length<=3->K v s f):q28 codes who K:=
 v5s (V:=fun _=>True) (fun _ _ hv h=>j8f hv fun b=>h b fun _=>trivial) (fun _=>trivial) hc hw fun v s f h1 h2 _ h3 h4 h5=>h v s f h1 h2 h3 h4 h5
end Go.En
end
noncomputable section
set_option maxRecDepth 100000
namespace Go.En
open Go Go.Fl Go.Fl.Lk Go.Fx
theorem y7h{v:Envt}(hB:FlB v.4){s:Subj}{fs:List Frc}{i:Nat}{f:Flg}(hf:v.4[i]? =some f):
  (f.4=false/\dcV v s fs f=(f.5,Rsn.mk 1 0 noT (-1)))∨
  (∃p∈f.6,metV v (fun g=>(dcV v s fs g).1) p=false/\dcV v s fs f=(f.5,Rsn.mk 2 0 p.1 (-1)))∨
  (∃(j:Nat) (t:Tgt),f.7[j]? =some t/\tgP s t=true/\dcV v s fs f=(t.2,Rsn.mk 3 ((j:Int)+1) noT (-1)))∨
  (∃x∈v.6,inXV v s fs f.1 x=true/\dcV v s fs f=((asgV v s fs x.2).1.4,Rsn.mk 4 0 x.1 (abV v s x)))∨
  (∃(j:Nat) (r:Rul),f.8[j]? =some r/\cndV v s r.2=true/\ ∃b,(dcV v s fs f).2=Rsn.mk 5 ((j:Int)+1) r.1 b)∨
  ((dcV v s fs f).1=f.5/\(dcV v s fs f).2.1=7/\0<=(dcV v s fs f).2.2/\(dcV v s fs f).2.2<=(f.8.length:Int))∨
  (dcV v s fs f).2.1=6:=by
 rw[y8p hB hf]
 unfold chsV
 split
 ·rename_i h;exact .inl ⟨h,rfl⟩
 ·split
  ·rename_i p hp
   refine .inr (.inl ⟨p,List.mem_of_find?_eq_some hp,?_,rfl⟩)
   simpa using List.find?_some hp
  ·split
   ·rename_i q hq
    have:=j7v hq
    exact .inr (.inr (.inl ⟨q.1,q.2,this.2.1,this.2.2,rfl⟩))
   ·split
    ·rename_i x hx
     exact .inr (.inr (.inr (.inl ⟨x,List.mem_of_find?_eq_some hx,List.find?_some hx,rfl⟩)))
    ·unfold rlsV
     split
     ·rename_i q hq
      have h:=j7v hq
      have hlt:=Qg h.2.1
      unfold svd
      split
      ·exact .inr (.inr (.inr (.inr (.inl ⟨q.1,q.2,h.2.1,h.2.2,_,rfl⟩))))
      ·exact .inr (.inr (.inr (.inr (.inr (.inl ⟨rfl,rfl,by simp only;omega,by simp only;omega⟩)))))
     ·unfold svd
      split
      ·exact .inr (.inr (.inr (.inr (.inr (.inr rfl)))))
      ·exact .inr (.inr (.inr (.inr (.inr (.inl ⟨rfl,rfl,by simp,by simp⟩)))))
theorem v5t{v:Envt}(hD:EnvD v){i:Nat}{f:Flg}(hf:v.4[i]? =some f):(f.6.map Prq.flag).Nodup:=by
 refine List.Nodup.sublist (hD.flags.all i f hf).nsub ?_
 rw[List.map_take,hD.flags.keys]
 exact (v2o _).sublist (List.take_sublist _ _)
end Go.En
end
noncomputable section
set_option maxRecDepth 100000
namespace Go.En
open Go Go.Fl Go.Fl.Lk Go.Fx
theorem y7i{l:List Prq}(hn:(l.map Prq.flag).Nodup){p q:Prq}(hp:p∈l)(hq:q∈l)(h:p.1=q.1):p=q:=by
 have h:p.flag=q.flag:=h
 induction l with
 |nil=>cases hp
 |cons a l ih=>
  rw[List.map_cons,List.nodup_cons] at hn
  rcases List.mem_cons.1 hp with e|hp
  ·rcases List.mem_cons.1 hq with e2|hq
   ·rw[e,e2]
   ·exact absurd (List.mem_map_of_mem (f:=Prq.flag) hq) (by rw[←h,e];exact hn.1)
  ·rcases List.mem_cons.1 hq with e2|hq
   ·exact absurd (List.mem_map_of_mem (f:=Prq.flag) hp) (by rw[h,e2];exact hn.1)
   ·exact ih hn.2 hp hq
theorem y4r{v:Envt}{s:Subj}{fs:List Frc}(hE:EnvS v)(hD:EnvD v)(hs:SubB s)(hN:NumB s)(hfs:fs.length<=1000000000){i:Nat}{f:Flg}(hf:v.4[i]? =some f){K:Bool->Prop}(h:K true):q5b v s fs f (dcsV v s fs f) K:=by
 have hv:=v7l hE hD
 have hF:=y8q hE hD
 have hm:=getm hf
 unfold q5b z18 dcsV
 rcases y7h (s:=s) (fs:=fs) hF.b hf with ⟨hoff,e⟩|⟨p,hp,hmt,e⟩|⟨j,t,ht,htg,e⟩|⟨x,hx,hin,e⟩|⟨j,r,hr,hc,b,e⟩|⟨e1,e2,e3,e4⟩|e
 ·rw[e]
  exact Cnd.yes rfl (Cnd.no (by rw[hoff];simp) (by rw[dt rfl];exact h))
 ·rw[e]
  refine Cnd.no (by simp) (Cnd.yes rfl ?_)
  have hpl:=hF.p f hm
  refine v9o (fun q:Prq=>decide (q.1=p.1)) (by omega) (fun hn=> ?_) fun k q Y hq _ hp1 hq1=>Cnd.mk (fun he=> ?_) fun he=>hq1 (df he)
  ·rw[List.find?_eq_none] at hn
   exact absurd (dt rfl) (hn p hp)
  ·have hpq:q=p:=y7i (v5t hD hf) (getm hq) hp he
   subst hpq
   obtain⟨g,hg,hgk,_⟩:=(hD.flags.all i f hf).needs q hp
   obtain⟨j,hj⟩:=List.getElem?_of_mem (List.mem_of_mem_take hg)
   have hfo:fof v q.1=some g:=by rw[show q.1=g.1 from hgk];exact j8i hF.b hj
   refine z5q fun r hr=> ?_
   refine z6o (v:=v) (s:=s) hv hF hs hN hfs ?_
   have hfl:flgV v s fs q.1=(dcsV v s fs g,0):=by unfold flgV;rw[hfo]
   rw[hfl]
   rcases hr with ⟨rfl,hno⟩|⟨h0,h1,⟨y0,hy0,hyk⟩,_⟩
   ·exact absurd hgk.symm (hno g (getm hj))
   ·refine Cnd.yes h0 ⟨⟨h0,h1⟩,fun y hy=> ?_⟩
    have hy0:v.4[r.toNat]? =some y0:=hy0
    have hy:v.4[r.toNat]? =some y:=hy
    rw[hy] at hy0
    rw[←Option.some.inj hy0] at hyk
    have hyg:y=g:=by
     have a1:=j8i hF.b hy
     rw[show y.1=q.1 from hyk,hfo] at a1
     exact (Option.some.inj a1).symm
    subst hyg
    refine Cnd.mk (fun hon=>Cnd.no (fun he2=> ?_) (by rw[dt rfl];exact h)) fun _=>by rw[dt rfl];exact h
    unfold metV at hmt
    rw[hfo] at hmt
    simp only at hmt
    have hon:y.4=true:=hon
    have he2:(dcV v s fs y).1=q.2:=he2
    rw[hon,dt he2] at hmt
    cases hmt
 ·rw[e]
  have hlt:=Qg ht
  have htl:=(hF.t f hm).1
  have hkl:=(hF.t f hm).2 t (getm ht)
  have at_: ∀{y:Tgt},f.7[((j:Int)+1 - 1).toNat]? =some y->y=t:=fun {y} hy=>by
   rw[show ((j:Int)+1 - 1).toNat=j by omega,ht] at hy;exact (Option.some.inj hy).symm
  have hin: ∀{A:Prop},A->InI ((j:Int)+1 - 1)/\((0<=(j:Int)+1 - 1/\(j:Int)+1 - 1<(f.7.length:Int))/\A):=fun ha=>⟨by unfold InI;omega,by omega,ha⟩
  refine Cnd.no (by simp) (Cnd.no (by simp) (Cnd.yes rfl (Cnd.no (by simp only;omega) fun _=>Cnd.no (by simp only;omega) (hin fun y hy=> ?_))))
  rw[at_ hy]
  refine z3p (s:=s) hs ?_
  unfold tgP at htg
  cases hfn:fnd s t.1 with
  |none=>rw[hfn] at htg;cases htg
  |some c=>
   rw[hfn] at htg
   have hmem:=w8s.1 htg
   refine Lp2.ind (fun (b:Bool) (k:Int)=> ∃q:Nat,k=(q:Int)/\q<=t.3.length/\(b=true∨c.2∉t.3.take q)) (fun _ k=>(t.3.length - k).toNat) ?_ ⟨0,rfl,by omega,.inr (by simp)⟩
   rintro b k ⟨q,rfl,hq,hb⟩
   refine hin fun y hy _=> ?_
   rw[at_ hy]
   refine Cnd.mk (fun hlt2=>Cnd.mk (fun _=>⟨by unfold InI;omega,⟨q+1,by omega,by omega,.inl rfl⟩,by omega⟩) fun hb2=>hin fun y hy=> ?_) fun hge=>Cnd.yes rfl ?_
   ·rw[at_ hy]
    refine⟨by omega,fun z hz=>⟨by unfold InI;omega,⟨q+1,by omega,by omega,?_⟩,by omega⟩⟩
    have hz:t.3[q]? =some z:=hz
    by_cases he:z=c.2
    ·exact .inl (dt he)
    ·refine .inr fun hmm=> ?_
     rw[List.take_add_one,hz] at hmm
     rcases List.mem_append.1 hmm with hmm|hmm
     ·exact (hb.resolve_left hb2) hmm
     ·simp only[Option.toList_some,List.mem_singleton] at hmm
      exact he hmm.symm
   ·have hbt:b=true:=hb.resolve_right fun hn=>hn (by rw[List.take_of_length_le (by omega)];exact hmem)
    refine Cnd.yes hbt (hin fun y hy=> ?_)
    rw[at_ hy,dt rfl];exact h
 ·rw[e]
  refine Cnd.no (by simp) (Cnd.no (by simp) (Cnd.no (by simp) (Cnd.yes rfl ?_)))
  unfold inXV at hin
  simp only[Bool.and_eq_true,decide_eq_true_eq] at hin
  refine q1n (v:=v) hv.xn (fun hn=>by rw[w6j hv hx] at hn;cases hn) fun j x' hx' hxo=> ?_
  rw[w6j hv hx] at hxo;cases hxo
  have hj:=Qg hx'
  have at_: ∀{y:Exper},v.6[((j:Nat):Int).toNat]? =some y->y=x:=fun {y} hy=>by
   have hy:v.6[j]? =some y:=hy
   rw[hx'] at hy;exact (Option.some.inj hy).symm
  refine Cnd.no (by omega) ⟨by omega,fun y hy=> ?_⟩
  rw[at_ hy]
  refine Cnd.yes hin.1 ⟨by omega,fun y hy=> ?_⟩
  rw[at_ hy]
  refine Cnd.yes hin.2.1 ⟨by omega,fun y hy=> ?_⟩
  rw[at_ hy]
  exact v2g (v:=v) (s:=s) hv hs hfs (Cnd.yes hin.2.2 (by rw[dt rfl];exact h))
 ·have hlt:=Qg hr
  have hrl:=(hF.r f hm).1
  have hrm:=(hF.r f hm).2 r (getm hr)
  have at_: ∀{y:Rul},f.8[((j:Int)+1 - 1).toNat]? =some y->y=r:=fun {y} hy=>by
   rw[show ((j:Int)+1 - 1).toNat=j by omega,hr] at hy;exact (Option.some.inj hy).symm
  have hin: ∀{A:Prop},A->InI ((j:Int)+1 - 1)/\((0<=(j:Int)+1 - 1/\(j:Int)+1 - 1<(f.8.length:Int))/\A):=fun ha=>⟨by unfold InI;omega,by omega,ha⟩
  simp only
  rw[e]
  refine Cnd.no (by simp) (Cnd.no (by simp) (Cnd.no (by simp) (Cnd.no (by simp) (Cnd.yes rfl (Cnd.yes (by simp only;omega) fun _=>Cnd.yes (by simp only;omega) (hin fun y hy=> ?_))))))
  rw[at_ hy]
  refine Cnd.yes rfl (hin fun y hy=> ?_)
  rw[at_ hy]
  refine j1b hv.sg hs fun m hmm=>j2x (s:=s) hs _ (Nat.le_refl _) (by rw[Z4];exact hrm.1) (by rw[Z4];exact hrm.2.1) ?_
  rw[Z4,v7d hmm]
  have hc:evl (tst s) (fun x=>dec (x∈mem v.3 s)) r.2=true:=hc
  rw[hc];exact h
 ·have e2':(dcV v s fs f).2.1=7:=e2
  refine Cnd.no (by simp only;omega) (Cnd.no (by simp only;omega) (Cnd.no (by simp only;omega) (Cnd.no (by simp only;omega) (Cnd.no (by simp only;omega) (Cnd.yes e2 (Cnd.yes e1 (Cnd.yes e3 fun _=> ?_)))))))
  rw[dt e4];exact h
 ·have e':(dcV v s fs f).2.1=6:=e
  refine Cnd.no (by simp only;omega) (Cnd.no (by simp only;omega) (Cnd.no (by simp only;omega) (Cnd.no (by simp only;omega) (Cnd.no (by simp only;omega) (Cnd.no (by simp only;omega) ?_)))))
  rw[dt e];exact h
theorem y7j{l:List Val}{n k:Int}(h: ∀x∈l,x.1=k)(h0:1<=n)(h1:n<=(l.length:Int)):(valV l n).1=k:=by
 unfold valV
 rw[if_pos ⟨h0,h1⟩,List.getElem?_eq_getElem (show (n - 1).toNat<l.length by omega)]
 exact h _ (List.getElem_mem _)
theorem j5d{codes who:List Int}{K:Bool->Prop}(hc:Byts codes)(hw:Byts who)(h:K true):Zt codes who K:=by
 unfold Zt G0
 refine v91 (Cnd.yes rfl (v92 hc hw fun v s fs hE hD hs hN hfs=> ?_))
 have hF:=y8q hE hD
 have hv:=v7l hE hD
 have hfl:=hF.n
 refine w39 (v:=v) (s:=s) hv hF hs hN (by omega) fun _ _=>Cnd.yes (by rw[List.length_map]) fun _=> ?_
 refine Lp1.ind (fun i=> ∃j:Nat,i=(j:Int)/\j<=v.4.length) (fun i=>(v.4.length - i).toNat) ?_ ⟨0,rfl,by omega⟩
 rintro _ ⟨i,rfl,hi⟩
 rw[List.length_map]
 refine Cnd.mk (fun hlt=>⟨by omega,fun f hf=>⟨by rw[List.length_map];omega,fun d' hd'=> ?_⟩⟩) fun _=>h
 have hf:v.4[i]? =some f:=hf
 have hd':(v.4.map (dcsV v s fs))[i]? =some d':=hd'
 rw[List.getElem?_map,hf] at hd'
 have e:=(Option.some.inj hd').symm
 rw[e]
 have hr:=u3v (s:=s) (fs:=fs) hE hD hf
 have hkd:=(hD.flags.all i f hf).kinds
 refine Cnd.yes rfl (Cnd.no (show ¬(dcV v s fs f).1<1 by omega) fun _=>Cnd.no (show ¬(f.3.length:Int)<(dcV v s fs f).1 by omega) (Cnd.yes (y7j (fun x hx=>hkd x hx) hr.1 hr.2) (Cnd.yes rfl ?_)))
 exact y4r (v:=v) (s:=s) (f:=f) hE hD hs hN (by omega) hf (Cnd.yes rfl ⟨by unfold InI;omega,⟨i+1,rfl,by omega⟩,by omega⟩)
end Go.En
end
