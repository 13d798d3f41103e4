/- For every input within the given bound on its size EvaluateFlags returns true and leaves its arguments as they were. This is part 7 of 11. Conditions: those in the statements. -/
import Derived.Test.YtkbjibhkaddepaaGreatDoorRows
import Derived.Test.YtkbjibhkaddepaaGreatDoorFl6
import Derived.Lib.ItoaNum
import Derived.KernelRfl
set_option maxRecDepth 100000
noncomputable section
namespace Go.En
open Go Go.Fl Go.Fl.Lk Go.Fx Go.Dg
theorem v5g{v:Envt}{layer but:BA}{now:Int}{K:List Spn->Prop}(h: ∀l,l.length<=10000->K l):z5s v layer but now K:=by
 unfold z5s j3k;refine z3z fun r hr=>Cnd.mk (fun _=>h _ (by simp)) fun hn=> ?_
 refine Jn1.mk (fun l=>SpsS l) ?_ fun l hl=> ?_
 .rcases hr with ⟨e,_⟩|⟨a,b,_⟩
  .omega
  refine⟨⟨a,b⟩,fun y hy=>⟨⟨a,b⟩,fun z hz=> ?_⟩⟩;refine⟨z78 fun u hu=>j0a (by omega) fun l _=>z2o fun l hl=>hl,z78 fun u hu=>⟨j0a (by omega) fun l _=>z2o fun l hl=>hl,j0a (by omega) fun l _=>z2o fun l hl=>hl⟩⟩
 .refine Lp2.ind (fun (l:List Spn) (i:Int)=>0<=i/\i<=v.experiments.length/\SpsS l) (fun _ (i:Int)=>(v.experiments.length - i).toNat) ?_ ⟨by omega,by omega,hl⟩;rintro l i ⟨i0,i1,hl⟩;have hlen:=hl.len
  (repeat' (first|exact h _ (by omega)|refine z2o fun l hl=> ?_|assumption|(unfold InI;omega)|omega|refine Cnd.mk (fun _=> ?_) fun _=> ?_|refine⟨?_,?_⟩|intro _))
theorem v8n{v:Envt}{layer:BA}{now:Int}{K:List Spn->Int->Prop}(h: ∀l e,SpsS l->K l e):j06 v layer now K:=by unfold j06 j8a;have nil:SpsS []:=⟨by simp,by simp⟩;exact v70 fun _ _=>Cnd.mk (fun _=>z3z fun _ _=>Cnd.mk (fun _=>h _ _ nil) fun _=>v5g fun _ _=>w0c fun l hl=>h _ _ hl) fun _=>h _ _ nil
def lim:Nat->Nat
 |0=>1
 |n+1=>1+3*lim n
theorem w6m: ∀(n:Nat) {l:List Ex} {e:Ex} {K:List Ex->Prop},n<=5->ExS n e->(∀x∈l,ExS 5 x)->l.length+lim n<=1000000->(∀r,(∀x∈r,ExS 5 x)->r.length<=l.length+lim n->K r)->q53 l e K:=by
 intro n l e K hn he hl hB h X hX
 induction n using Nat.strongRecOn generalizing l e K with
 |_ n ih=>
 refine hX _ _ _ ?_;unfold z3d;rw[Ja];have lp:1<=lim n:=by cases n<;>simp[lim]
 refine Jn1.mk (fun r=>(∀x∈r,ExS 5 x)/\r.length<=l.length+1) ?_ fun r hr=> ?_
 .have same:(∀x∈l,ExS 5 x)/\l.length<=l.length+1:=⟨hl,by omega⟩;have more:Sml ([]++l).length/\Sml ([]++l++[e]).length/\((∀x∈[]++l++[e],ExS 5 x)/\([]++l++[e]).length<=l.length+1):=by refine⟨by unfold Sml;simp;omega,by unfold Sml;simp;omega,?_,by simp⟩;rw[List.nil_append];exact Z2 hl (he.le hn)
  have ix:U3 l e fun x=>Cnd (x<0) ((Sml ([]++l).length/\Sml ([]++l++[e]).length/\((∀x∈[]++l++[e],ExS 5 x)/\([]++l++[e]).length<=l.length+1))/\Sml ([]++l).length/\Sml ([]++l++[e]).length/\((∀x∈[]++l++[e],ExS 5 x)/\([]++l++[e]).length<=l.length+1)) ((∀x∈l,ExS 5 x)/\l.length<=l.length+1):=
   w0b hl fun r _=>Cnd.mk (fun _=>⟨more,more⟩) fun _=>same
  exact Cnd.mk (fun _=>ix) fun _=>q2w fun r _=>Cnd.mk (fun _=>ix) fun _=>same
 .obtain⟨hr,hlen⟩:=hr;have hk:=he.kids;cases n with
  |zero=>
   have hk0:e.kids=[]:=he.2.2.2;refine Lp2.ind (fun (q:List Ex) (i:Int)=>q=r/\0<=i) (fun _ _=>0) ?_ ⟨rfl,by omega⟩;rintro q i ⟨rfl,i0⟩ _;refine Cnd.mk (fun hc=> ?_) fun _=>h _ hr (by simp[lim];omega)
   rw[hk0];exact⟨by rw[hk0] at hc;simp at hc;omega,fun y hy=>by simp at hy⟩
  |succ n=>
  refine Lp2.ind (fun (q:List Ex) (i:Int)=>0<=i/\i<=e.kids.length/\(∀x∈q,ExS 5 x)/\q.length<=r.length+i.toNat*lim n) (fun _ (i:Int)=>(e.kids.length - i).toNat) ?_ ⟨by omega,by omega,hr,by simp⟩;rintro q i ⟨i0,i1,hq,hql⟩ _;have hle:i.toNat*lim n<=3*lim n:=Nat.mul_le_mul_right _ (by omega);have hB:l.length+(1+3*lim n)<=1000000:=hB;refine Cnd.mk (fun hc=>⟨by omega,fun y hy=> ?_⟩) fun _=>h _ hq (by show q.length<=l.length+(1+3*lim n);omega)
  obtain⟨m,hm,hk⟩:=he.kid (getm hy);obtain rfl:m=n:=by omega
  rw[Ja];have hle2:i.toNat*lim m<=2*lim m:=Nat.mul_le_mul_right _ (by omega);refine ih m (by omega) (by omega) hk hq (by omega) fun s hs hsl=>⟨by unfold InI;omega,⟨by omega,by omega,hs,?_⟩,by omega⟩
  .rw[show (i+1).toNat=i.toNat+1 by omega,Nat.add_mul,Nat.one_mul];omega
theorem lim4:lim 4=121:=rfl
theorem w1o{l:List Rul}{K:List Ex->Prop}(hl:l.length<=100)(hr: ∀r∈l,ExS 4 r.cond)(h: ∀r,(∀x∈r,ExS 5 x)->r.length<=100000->K r):q26 l K:=by
 unfold q26 z0a;refine Lp2.ind (fun (q:List Ex) (i:Int)=>0<=i/\i<=l.length/\(∀x∈q,ExS 5 x)/\q.length<=i.toNat*121) (fun _ (i:Int)=>(l.length - i).toNat) ?_ ⟨by omega,by omega,by simp,by simp⟩;rintro q i ⟨i0,i1,hq,hql⟩ _;refine Cnd.mk (fun hc=>⟨by omega,fun y hy=> ?_⟩) fun _=>h _ hq (by omega)
 dsimp only;rw[Ja];refine w6m 4 (by omega) (hr y (getm hy)) hq (by rw[lim4];omega) fun s hs hsl=>⟨by unfold InI;omega,⟨by omega,by omega,hs,?_⟩,by omega⟩
 rw[lim4] at hsl;omega
def StS(ns:List Nd)(ids:Nd->Option Int):Prop:=Inv ns ids/\ns.length<=4000
theorem OpR.st{p:Prop}{ns:List Nd}{ids:Nd->Option Int}{full:Bool}{f g h r:Int}{ns':List Nd}{ids':Nd->Option Int}{full':Bool}(h:OpR p ns ids full f g h r ns' ids' full')(hS:StS ns ids):StS ns' ids':=by
 rcases h with ⟨_,C⟩|⟨_,_,e1,e2,_⟩
 .exact⟨C.grew.inv,C.grew.len⟩
 .rw[e1,e2];exact hS
theorem u4q{ns:List Nd}{ids:Nd->Option Int}{full:Bool}{t y n:Int}(hS:StS ns ids):StS (node ns ids full t y n).2.1 (node ns ids full t y n).2.2.1:=by
 by_cases hO:w0j ns t y n
 .obtain⟨h1,_⟩:=y7l (full:=full) hS.1 hS.2 hO (he:=rfl);exact⟨h1.inv,h1.len⟩
 .rw[y0h hO];exact hS
theorem u4r:Inv [] fun _=>none:=⟨⟨fun i h0 hl=>by simp at hl;omega,fun i j h0 hl=>by simp at hl;omega⟩,fun n id=>by simp;omega⟩
theorem w1p: ∀(n:Nat) {ns:List Nd} {ids:Nd->Option Int} {full:Bool} {atoms:List Ex} {e:Ex} {K:Int->List Nd->(Nd->Option Int)->Bool->Prop},ExS n e->(∀x∈atoms,ExS 5 x)->StS ns ids->(∀r ns ids full,StS ns ids->K r ns ids full)->q27 ns ids full atoms e K:=by
 intro n ns ids full atoms e K he ha hS h X hX
 induction n using Nat.strongRecOn generalizing ns ids full e K with
 |_ n ih=>
 refine hX _ _ _ _ _ _ ?_;unfold z0b;rw[Ja];have hop:=he.opK;have zero:2<=e.op->e.op<=4->(0:Int)<(e.kids.length:Int):=fun a b=>by have:=List.length_pos_iff.2 (hop a b);omega
 have kid: ∀{y:Ex} {ns ids full} {K:Int->List Nd->(Nd->Option Int)->Bool->Prop},y∈e.kids->StS ns ids->(∀r ns ids full,StS ns ids->K r ns ids full)->X ns ids full atoms (Ex.mk y.1 y.2 y.3 y.4 y.5) K:=fun hy hS hK=>by obtain⟨m,hm,hk⟩:=he.kid hy;rw[Ja];exact ih m (by omega) hk hS hK
 refine Cnd.mk (fun _=>h _ _ _ _ hS) fun _=>Cnd.mk (fun h4=>⟨⟨by omega,zero (by omega) (by omega)⟩,fun y hy=>kid (getm hy) hS fun r ns ids full hS=>u4p hS.1 hS.2 fun r ns ids full C=>h _ _ _ _ (C.st hS)⟩) fun _=> ?_
 refine Jn1.mk (fun b=>b=true->2<=e.op/\e.op<=4) (Cnd.mk (fun hc _=>by omega) fun _ hd=>by have:=of_decide_eq_true hd;omega) fun b hb=>Cnd.mk (fun hc=>⟨⟨by omega,zero (hb hc).1 (hb hc).2⟩,fun y hy=>kid (getm hy) hS fun r ns ids full hS=> ?_⟩) fun _=> ?_
 .refine Lp5.ind (fun (_ i:Int) ns _ ids=>1<=i/\i<=e.kids.length+1/\StS ns ids) (fun _ (i:Int) _ _ _=>(e.kids.length+1 - i).toNat) ?_ ⟨by omega,by omega,hS⟩;rintro f i ns full ids ⟨i0,i1,hS⟩ _;refine Cnd.mk (fun hc=>⟨by omega,fun y hy=>kid (getm hy) hS fun r ns ids full hS=> ?_⟩) fun _=>h _ _ _ _ hS
  exact Cnd.mk (fun _=>u4o hS.1 hS.2 fun r ns ids full C=>⟨by unfold InI;omega,⟨by omega,by omega,C.st hS⟩,by omega⟩) fun _=>u1v hS.1 hS.2 fun r ns ids full C=>⟨by unfold InI;omega,⟨by omega,by omega,C.st hS⟩,by omega⟩
 .exact w0b ha fun r hr=>Cnd.mk (fun _=>h _ _ _ _ hS) fun _=>y0i hS.2 (h _ _ _ _ (u4q hS))
theorem z2q{l:List Rul}{K:List Int->Int->Bool->Prop}(hl:l.length<=100)(hr: ∀r∈l,ExS 4 r.cond)(h: ∀o n b,o.length<=100->K o n b):Gh l K:=by
 unfold Gh q5a;refine w1o hl hr fun atoms ha _=> ?_
 refine LpH.ind (fun (x:Int×List Int×Int×List Nd×Bool×(Nd->Option Int)×Unit)=>0<=x.2.2.1/\x.2.2.1<=(l.length:Int)/\(x.2.1.length:Int)<=x.2.2.1/\StS x.2.2.2.1 x.2.2.2.2.2.1) (fun x=>((l.length:Int) - x.2.2.1).toNat) ?_ ⟨by simp,by simp,by simp,u4r,by simp⟩;rintro⟨some_,out,i,ns,full,ids,u⟩ ⟨i0,i1,ho,hS⟩;simp only at i0 i1 ho hS⊢;refine fun _=>Cnd.mk (fun hc=>⟨by omega,fun y hy=> ?_⟩) fun _ _=>h _ _ _ (by omega)
 dsimp only;rw[Ja];refine w1p 4 (hr y (getm hy)) ha hS fun r ns ids full hS=>u1v hS.1 hS.2 fun r ns ids full C=>Cnd.mk (fun _ _=>h _ _ _ (by simp)) fun _=>Cnd.mk (fun _=> ?_) fun _=> ?_
 .exact⟨by unfold InI;omega,by unfold Sml;simp;omega,by unfold InI;omega,⟨by omega,by omega,by simp;omega,C.st hS⟩,by omega⟩
 .exact⟨by unfold InI;omega,⟨by omega,by omega,by omega,C.st hS⟩,by omega⟩
theorem v8o{l m:List BA}(hl:Asc l)(hs: ∀x∈l,x∈m):l.length<=m.length:=y0j (j44 hl) hs
theorem v8p{edges:List Edg}{node:BA}{K:List BA->Prop}(hE:edges.length<=100000)(h: ∀r,Asc r->(∀x∈r,x∈edges.map Edg.dst)->K r):j1g edges node K:=by
 unfold j1g j8f;have len: ∀{o:List BA},Asc o->(∀x∈o,x∈edges.map Edg.dst)->o.length<=edges.length:=fun a b=>by have:=v8o a b;simpa using this
 refine Lp2.ind (fun (o t:List BA)=>Asc o/\(∀x∈o,x∈edges.map Edg.dst)/\t.length<=o.length+1) (fun o t=>2*(edges.length - o.length)+t.length) ?_ ⟨w6b,by simp,by simp⟩;rintro o t ⟨ho,hs,ht⟩ _;refine Cnd.mk (fun hc=>⟨by omega,fun n hn=>⟨by omega,?_⟩⟩) fun _=>h o ho hs
 have hlo:=len ho hs;refine Lp3.ind (fun (o' t':List BA) (i:Int)=>0<=i/\i<=edges.length/\Asc o'/\(∀x∈o',x∈edges.map Edg.dst)/\t'.length<=o'.length/\2*(edges.length - o'.length)+t'.length<2*(edges.length - o.length)+t.length) (fun _ _ (i:Int)=>(edges.length - i).toNat) ?_ ⟨by omega,by omega,ho,hs,by simp;omega,by simp;omega⟩;rintro o' t' i ⟨i0,i1,ho',hs',ht',hm⟩ _;have hlo':=len ho' hs';refine Cnd.mk (fun hc=>⟨by omega,fun e he=>Cnd.mk (fun _=>⟨by omega,fun e he=>Gu fun r hr=>Cnd.mk (fun _=>⟨by unfold InI;omega,⟨by omega,by omega,ho',hs',ht',hm⟩,by omega⟩) fun hn=>⟨by omega,fun e2 he2=> ?_⟩⟩) fun _=>⟨by unfold InI;omega,⟨by omega,by omega,ho',hs',ht',hm⟩,by omega⟩⟩) fun _=>⟨⟨ho',hs',by omega⟩,hm⟩
 rw[he] at he2;cases he2;refine j0g ho' (by omega) fun q hq hmem=>⟨by omega,fun e3 he3=> ?_⟩
 rw[he] at he3;cases he3;have hin:e.dst∈edges.map Edg.dst:=List.mem_map.2 ⟨e,getm he,rfl⟩;have hq2: ∀x∈q,x∈edges.map Edg.dst:=fun x hx=>by
  rcases (hmem x).1 hx with hx|rfl
  .exact hs' x hx
  .exact hin
 have hlq:=len hq hq2;have hne:e.dst∉o':=fun hx=>hn (hr.2 hx)
 have hlen:o'.length+1<=q.length:=by have h1:(e.dst::o').Nodup:=List.nodup_cons.2 ⟨hne,j44 ho'⟩;exact y0j h1 fun x hx=>(hmem x).2 (by rcases List.mem_cons.1 hx with rfl|hx<;>simp[*])
 have goal:Sml ([]++t').length/\Sml ([]++t'++[e.dst]).length/\InI (i+1)/\((0<=i+1/\i+1<=edges.length/\Asc q/\(∀x∈q,x∈edges.map Edg.dst)/\([]++t'++[e.dst]).length<=q.length/\2*(edges.length - q.length)+([]++t'++[e.dst]).length<2*(edges.length - o.length)+t.length)/\(edges.length - (i+1)).toNat<(edges.length - i).toNat):=
  ⟨by unfold Sml;simp;omega,by unfold Sml;simp;omega,by unfold InI;omega,⟨by omega,by omega,hq,hq2,by simp;omega,by simp;omega⟩,by omega⟩
 exact⟨goal,goal⟩
end Go.En
end
noncomputable section
namespace Go.En
open Go Go.Fl Go.Fl.Lk Go.Fx Go.Dg
theorem v5h{nodes:List BA}{edges:List Edg}{K:List BA->Prop}(hN:nodes.length<=100000)(hE:edges.length<=100000)(h: ∀r,Asc r->(∀x∈r,x∈nodes)->K r):z50 nodes edges K:=by
 unfold z50 j3p;refine Lp2.ind (fun (o:List BA) (i:Int)=>0<=i/\i<=nodes.length/\Asc o/\∀x∈o,x∈nodes) (fun _ (i:Int)=>(nodes.length - i).toNat) ?_ ⟨by omega,by omega,w6b,by simp⟩;rintro o i ⟨i0,i1,ho,hs⟩ _;have hlo:=v8o ho hs;refine Cnd.mk (fun hc=>⟨by omega,fun n hn=>⟨by omega,fun m hm=>v8p hE fun q _ _=>Gu fun r _=>Cnd.mk (fun _=>⟨by omega,fun p hp=>j0g ho (by omega) fun o' ho' hmem=>⟨by unfold InI;omega,⟨by omega,by omega,ho',fun x hx=> ?_⟩,by omega⟩⟩) fun _=>⟨by unfold InI;omega,⟨by omega,by omega,ho,hs⟩,by omega⟩⟩⟩) fun _=>h o ho hs
 rcases (hmem x).1 hx with hx|rfl
 .exact hs x hx
 .exact getm hp
theorem w0k{nodes:List BA}{edges:List Edg}{K:BA->Bool->Prop}(hN:nodes.length<=100000)(hE:edges.length<=100000)(hs: ∀x∈nodes,x.size<=100)(h: ∀s b,s.size<=100->K s b):z52 nodes edges K:=by unfold z52 j3q;exact v5h hN hE fun r _ hr _=>Cnd.mk (fun _=>h _ _ sz0) fun hc=>⟨by omega,fun y hy=>h _ _ (hs y (hr y (getm hy)))⟩
theorem v1s: ∀(n:Nat) {l:List BA} {e:Ex} {K:List BA->Prop},ExS n e->Asc l->l.length+lim n<=1000000->(∀r,Asc r->r.length<=l.length+lim n->K r)->q65 l e K:=by
 intro n l e K he hl hB h X hX
 induction n using Nat.strongRecOn generalizing l e K with
 |_ n ih=>
 refine hX _ _ _ ?_;unfold z1z;have lp:1<=lim n:=by cases n<;>simp[lim]
 refine Jn1.mk (fun r=>Asc r/\r.length<=l.length+1) (Cnd.mk (fun _=>j0g hl (by omega) fun r hr hmem=>⟨hr,?_⟩) fun _=>⟨hl,by omega⟩) fun r hr=> ?_
 .have:=v8o hr (m:=e.3::l) fun x hx=>by rcases (hmem x).1 hx with hx|rfl<;>simp[*]
  simpa using this
 .obtain⟨hr,hlen⟩:=hr;have hk:=he.kids;cases n with
  |zero=>
   have hk0:e.kids=[]:=he.2.2.2;refine Lp2.ind (fun (q:List BA) (i:Int)=>q=r/\0<=i) (fun _ _=>0) ?_ ⟨rfl,by omega⟩;rintro q i ⟨rfl,i0⟩ _;refine Cnd.mk (fun hc=> ?_) fun _=>h _ hr (by simp[lim];omega)
   rw[hk0];exact⟨by rw[hk0] at hc;simp at hc;omega,fun y hy=>by simp at hy⟩
  |succ n=>
  refine Lp2.ind (fun (q:List BA) (i:Int)=>0<=i/\i<=e.kids.length/\Asc q/\q.length<=r.length+i.toNat*lim n) (fun _ (i:Int)=>(e.kids.length - i).toNat) ?_ ⟨by omega,by omega,hr,by simp⟩;rintro q i ⟨i0,i1,hq,hql⟩ _;have hle:i.toNat*lim n<=3*lim n:=Nat.mul_le_mul_right _ (by omega);have hB:l.length+(1+3*lim n)<=1000000:=hB;refine Cnd.mk (fun hc=>⟨by omega,fun y hy=> ?_⟩) fun _=>h _ hq (by show q.length<=l.length+(1+3*lim n);omega)
  obtain⟨m,hm,hk⟩:=he.kid (getm hy);obtain rfl:m=n:=by omega
  rw[Ja];have hle2:i.toNat*lim m<=2*lim m:=Nat.mul_le_mul_right _ (by omega);refine ih m (by omega) hk hq (by omega) fun s hs hsl=>⟨by unfold InI;omega,⟨by omega,by omega,hs,?_⟩,by omega⟩
  rw[show (i+1).toNat=i.toNat+1 by omega,Nat.add_mul,Nat.one_mul];omega
theorem v1t{e:Ex}{K:List BA->Prop}(he:ExS 4 e)(h: ∀r,Asc r->r.length<=121->K r):q2p e K:=by unfold q2p z10;rw[Ja];exact v1s 4 he w6b (by decide) fun r hr hl=>h r hr (by rw[lim4] at hl;simpa using hl)
theorem v5i{l:List Seg}{K:List Edg->Prop}(hl:l.length<=100)(hs: ∀g∈l,SegS g)(h: ∀r,r.length<=100000->K r):q15 l K:=by
 unfold q15 z5z;refine Lp2.ind (fun (r:List Edg) (i:Int)=>0<=i/\i<=l.length/\r.length<=i.toNat*121) (fun _ (i:Int)=>(l.length - i).toNat) ?_ ⟨by omega,by omega,by simp⟩;rintro r i ⟨i0,i1,hr⟩ _;refine Cnd.mk (fun hc=>⟨by omega,fun g hg=> ?_⟩) fun _=>h _ (by omega)
 dsimp only;rw[Ja];refine v1t (hs g (getm hg)).cond fun q _ hq=> ?_
 refine Lp2.ind (fun (p:List Edg) (j:Int)=>0<=j/\j<=q.length/\p.length<=r.length+j.toNat) (fun _ (j:Int)=>(q.length - j).toNat) ?_ ⟨by omega,by omega,by simp⟩;rintro p j ⟨j0,j1,hp⟩ _;exact Cnd.mk (fun hc=>⟨by omega,fun _ _=>⟨by omega,fun _ _=>⟨by unfold Sml;simp;omega,by unfold InI;omega,⟨by omega,by omega,by simp;omega⟩,by omega⟩⟩⟩) fun _=>⟨by unfold InI;omega,⟨by omega,by omega,by omega⟩,by omega⟩
theorem w86{l:List Decl}{kind name:BA}{K:Int->Prop}(h: ∀r,K r):q64 l kind name K:=by
 unfold q64;refine Lp1.ind (fun (i:Int)=>0<=i/\i<=l.length) (fun (i:Int)=>(l.length - i).toNat) ?_ ⟨by omega,by omega⟩;rintro i ⟨i0,i1⟩
 (repeat' (first|exact h _|assumption|(unfold InI;omega)|omega|refine Cnd.mk (fun _=> ?_) fun _=> ?_|refine⟨?_,?_⟩|intro _))
theorem j9y: ∀(n:Nat) {l:List Decl} {segs:List BA} {e:Ex} {K:Int->Prop},ExS n e->(∀r,K r)->z4p l segs e K:=by
 intro n l segs e K he h X hX
 induction n using Nat.strongRecOn generalizing e K with
 |_ n ih=>
 refine hX _ _ _ _ ?_;unfold w4b;have lp:Lp1 (fun (Qa:Int) Bj=>e.5.length<=(9223372036854775807:Nat)->Cnd (Qa<(↑e.5.length:Int)) (((0:Int)<=Qa/\Qa<(↑e.5.length:Int))/\∀y2,e.5[Qa.toNat]? =some y2->X l segs (Ex.mk y2.1 y2.2 y2.3 y2.4 y2.5) fun Qe=>Cnd (Qe=(0:Int)) (InI (Qa+(1:Int))/\Bj (Qa+(1:Int))) (K Qe)) (K (0:Int))) (0:Int):=by
  refine Lp1.ind (fun (i:Int)=>0<=i/\i<=e.kids.length) (fun (i:Int)=>(e.kids.length - i).toNat) ?_ ⟨by omega,by omega⟩;rintro i ⟨i0,i1⟩ _;refine Cnd.mk (fun hc=>⟨by omega,fun y hy=> ?_⟩) fun _=>h _
  obtain⟨m,hm,hk⟩:=he.kid (getm hy);rw[Ja];exact ih m (by omega) hk fun r=>Cnd.mk (fun _=>⟨by unfold InI;omega,⟨by omega,by omega⟩,by omega⟩) fun _=>h _
 have jn:Jn0 (Lp1 (fun (Qa:Int) Bj=>e.5.length<=(9223372036854775807:Nat)->Cnd (Qa<(↑e.5.length:Int)) (((0:Int)<=Qa/\Qa<(↑e.5.length:Int))/\∀y2,e.5[Qa.toNat]? =some y2->X l segs (Ex.mk y2.1 y2.2 y2.3 y2.4 y2.5) fun Qe=>Cnd (Qe=(0:Int)) (InI (Qa+(1:Int))/\Bj (Qa+(1:Int))) (K Qe)) (K (0:Int))) (0:Int)) fun Qa=>We e.1 fun Qc=>Cnd (Qc=true) (q64 l e.2 e.3 fun Qf=>Cnd (Qf=(0:Int)) (K (11:Int)) (z0m Qf (Ex.mk e.1 e.2 e.3 e.4 e.5) fun Qg=>Cnd (Qg=true) Qa (K (8:Int)))) Qa:=
  ⟨True,fun _=>lp,q2w fun _ _=>Cnd.mk (fun _=>w86 fun _=>Cnd.mk (fun _=>h _) fun _=>y2o fun _=>Cnd.mk (fun _=>trivial) fun _=>h _) fun _=>trivial⟩
 exact Cnd.mk (fun _=>Gu fun _ _=>Cnd.mk (fun _=>jn) fun _=>h _) fun _=>jn
theorem w6n{l:List Decl}{s:Srv}{K:Int->Prop}(h: ∀r,K r):j1h l s K:=by
 unfold j1h j8g
 (repeat' (first|exact h _|refine w86 fun _=> ?_|assumption|(unfold InI;omega)|omega|refine Cnd.mk (fun _=> ?_) fun _=> ?_|refine⟨?_,?_⟩|intro _))
theorem w1q{v:Envt}{f:Flg}{K:Int->Prop}(hv:EnvS v)(hf:FlgS f)(h: ∀r,K r):q3h v f K:=by
 unfold q3h z0p;have ev:Envt.mk (Sett.mk v.1.1 v.1.2 v.1.3) v.2 v.3 v.4 v.5 v.6=v:=rfl;rw[ev];have hsl:=hv.slen;have hrl:=hf.rlen;refine z7f (by omega) ?_;refine Lp2.ind (fun (i:Int) (_:List BA)=>0<=i/\i<=f.needs.length) (fun (i:Int) _=>(f.needs.length - i).toNat) ?_ ⟨by omega,by omega⟩;rintro i ks ⟨i0,i1⟩ _;refine Cnd.mk (fun hc=>⟨by omega,fun q hq=>j6z fun r hr=>Cnd.mk (fun _=>h _) fun hn=>⟨by omega,fun q hq=>⟨?_,fun g hg _=>Cnd.mk (fun _=>h _) fun _=>⟨by unfold InI;omega,⟨by omega,by omega⟩,by omega⟩⟩⟩⟩) fun _=> ?_
 .rcases hr with ⟨a,_⟩|⟨a,b,_⟩<;>omega
 refine Lp2.ind (fun (i:Int) (_:List BA)=>0<=i/\i<=f.rules.length) (fun (i:Int) _=>(f.rules.length - i).toNat) ?_ ⟨by omega,by omega⟩;rintro i ks ⟨i0,i1⟩ _;refine Cnd.mk (fun hc=>⟨by omega,fun r hr=> ?_⟩) fun _=> ?_
 .dsimp only;rw[Ja];exact j9y 4 (hf.rules r (getm hr)).cond fun _=>Cnd.mk (fun _=>⟨by omega,fun r hr=>w6n fun _=>Cnd.mk (fun _=>⟨by unfold InI;omega,⟨by omega,by omega⟩,by omega⟩) fun _=>h _⟩) fun _=>h _
 .exact w6n fun _=>Cnd.mk (fun _=>z2q (by omega) (fun r hr=>(hf.rules r hr).cond) fun o n b ho=>Cnd.mk (fun _ _=>Cnd.mk (fun _=>h _) fun _=>h _) fun _=>h _) fun _=>h _
theorem z8e{v:Envt}{i:Int}{K:Int->Prop}(hv:EnvS v)(i0:0<=i)(i1:i<v.experiments.length)(h: ∀r,K r):Us v i K:=by
 unfold Us R4;have ev:Envt.mk (Sett.mk v.1.1 v.1.2 v.1.3) v.2 v.3 v.4 v.5 v.6=v:=rfl;rw[ev];have hsl:=hv.slen;have hxl:=hv.xlen;refine⟨⟨i0,i1⟩,fun x hx=>z3z fun k hk=>j6z fun g hg=>Cnd.mk (fun _=>h _) fun hk0=>Cnd.mk (fun _=>h _) fun hg0=> ?_⟩;have hX:=hv.exps x (getm hx);have kb:0<=k/\k<(v.layers.length:Int):=by rcases hk with ⟨a,_⟩|⟨a,b,_⟩<;>omega
 have gb:0<=g/\g<(v.flags.length:Int):=by rcases hg with ⟨a,_⟩|⟨a,b,_⟩<;>omega
 refine Lp1.ind (fun (j:Int)=>0<=j/\j<=x.arms.length) (fun (j:Int)=>(x.arms.length - j).toNat) ?_ ⟨by omega,by omega⟩;rintro j ⟨j0,j1⟩ _;refine Cnd.mk (fun hc=>⟨by omega,fun _ _=>⟨gb,fun _ _ _=>Cnd.mk (fun _=>h _) fun _=>⟨by unfold InI;omega,⟨by omega,by omega⟩,by omega⟩⟩⟩) fun _=> ?_
 refine z7f (by omega) ?_;rw[Ja];refine j9y 4 hX.cond fun _=>Cnd.mk (fun _=>Cnd.mk (fun _=>h _) fun _=>⟨kb,fun l hl=> ?_⟩) fun _=>h _
 refine Lp3.ind (fun (t:List Spn) (j:Int) (_:List BA)=>0<=j/\j<=v.experiments.length/\(t.length:Int)<=1+j*10000) (fun _ (j:Int) _=>(v.experiments.length - j).toNat) ?_ ⟨by omega,by omega,by simp⟩;rintro t j ks ⟨j0,j1,ht⟩;refine Cnd.mk (fun hc=>⟨by omega,fun y hy=> ?_⟩) fun _=>v1c fun c _ _=>Cnd.mk (fun _=>h _) fun _=> ?_
 .have hcl:=(hv.exps y (getm hy)).claims.len;exact Cnd.mk (fun _=>Cnd.mk (fun _=>⟨by unfold InI;omega,⟨by omega,by omega,by omega⟩,by omega⟩) fun _=>⟨by unfold Sml;simp;omega,by unfold InI;omega,⟨by omega,by omega,by simp;omega⟩,by omega⟩) fun _=>⟨by unfold InI;omega,⟨by omega,by omega,by omega⟩,by omega⟩
 .refine Lp4.ind (fun (j:Int) (_ _:List Spn) (_:List BA)=>0<=j/\j<=v.experiments.length) (fun (j:Int) _ _ _=>(v.experiments.length - j).toNat) ?_ ⟨by omega,by omega⟩;rintro j a b c ⟨j0,j1⟩
  (repeat' (first|exact h _|assumption|(unfold InI;omega)|omega|refine Cnd.mk (fun _=> ?_) fun _=> ?_|refine⟨?_,?_⟩|intro _))
theorem j69{v:Envt}{K:BA->Int->Prop}(hv:EnvS v)(h: ∀s r,K s r):Bv v K:=by
 unfold Bv q5e;have hsl:=hv.slen;have hfl:=hv.flen;have hxl:=hv.xlen;have ev:Envt.mk (Sett.mk v.1.1 v.1.2 v.1.3) v.2 v.3 v.4 v.5 v.6=v:=rfl;rw[ev];have s8:(ByteArray.mk (Array.mk [115,101,103,109,101,110,116,32])).size=8:=rfl;have s5:(ByteArray.mk (Array.mk [102,108,97,103,32])).size=5:=rfl;have s11:(ByteArray.mk (Array.mk [101,120,112,101,114,105,109,101,110,116,32])).size=11:=rfl;have sk: ∀x∈v.segments.map Seg.key,x.size<=100:=fun x hx=>by obtain⟨g,hg,rfl⟩:=List.mem_map.1 hx;exact (hv.segs g hg).key
 have fk: ∀x∈v.flags.map Flg.key,x.size<=100:=fun x hx=>by obtain⟨g,hg,rfl⟩:=List.mem_map.1 hx;exact (hv.flags g hg).key
 have nlen:(v.flags.flatMap z7g).length<=4*v.flags.length:=by
  have: ∀l:List Flg,(∀f∈l,FlgS f)->(l.flatMap z7g).length<=4*l.length:=by
   intro l
   induction l with
   |nil=>simp
   |cons f l ih=>intro hf;have h1:=(hf f (by simp)).nlen;have h2:=ih fun g hg=>hf g (by simp[hg]);simp only[List.flatMap_cons,List.length_append,z7g,List.length_map,List.length_cons] at*;omega
  exact this _ hv.flags
 refine j9w hv fun _=>Cnd.mk (fun _=>z7f (by omega) ?_) fun _=>h _ _
 refine Lp2.ind (fun (i:Int) (ks:List BA)=>0<=i/\i<=v.segments.length/\ks=v.segments.map Seg.key) (fun (i:Int) _=>(v.segments.length - i).toNat) ?_ ⟨by omega,by omega,rfl⟩;rintro i ks ⟨i0,i1,rfl⟩ _;refine Cnd.mk (fun hc=>⟨by omega,fun g hg=>Cnd.mk (fun _=>⟨by unfold InI;omega,⟨by omega,by omega,rfl⟩,by omega⟩) fun _=>⟨by omega,fun g hg=> ?_⟩⟩) fun _=> ?_
 .dsimp only;rw[Ja];refine j9y 4 (hv.segs g (getm hg)).cond fun _=>Cnd.mk (fun _=>⟨by unfold InI;omega,⟨by omega,by omega,rfl⟩,by omega⟩) fun _=>⟨by omega,fun g hg=>⟨?_,h _ _⟩⟩
  have:=(hv.segs g (getm hg)).key;rw[s8];omega
 refine v5i (by omega) hv.segs fun es hes=>w0k (by simp;omega) hes sk fun s b hs=>Cnd.mk (fun _=>⟨by rw[s8];omega,h _ _⟩) fun _=> ?_
 refine Lp3.ind (fun (i:Int) (_:List BA) (_:List Edg)=>0<=i/\i<=v.flags.length) (fun (i:Int) _ _=>(v.flags.length - i).toNat) ?_ ⟨by omega,by omega⟩;rintro i ks es ⟨i0,i1⟩ _;refine Cnd.mk (fun hc=>⟨by omega,fun f hf=>w1q hv (hv.flags f (getm hf)) fun _=>Cnd.mk (fun _=>⟨by unfold InI;omega,⟨by omega,by omega⟩,by omega⟩) fun _=>⟨by omega,fun g hg=>⟨?_,h _ _⟩⟩⟩) fun _=> ?_
 .have:=(hv.flags g (getm hg)).key;rw[s5];omega
 refine w50 (by omega) (w1g (by omega) (fun f hf=>by have:=(hv.flags f hf).nlen;omega) (w0k (by simp;omega) (by omega) fk fun s b hs=>Cnd.mk (fun _=>⟨by rw[s5];omega,h _ _⟩) fun _=> ?_));refine Lp5.ind (fun (i:Int) (_:List BA) (_ _:List Edg) (_:List BA)=>0<=i/\i<=v.experiments.length) (fun (i:Int) _ _ _ _=>(v.experiments.length - i).toNat) ?_ ⟨by omega,by omega⟩;rintro i a b c d ⟨i0,i1⟩ _;refine Cnd.mk (fun hc=>z8e hv i0 hc fun _=>Cnd.mk (fun _=>⟨by unfold InI;omega,⟨by omega,by omega⟩,by omega⟩) fun _=>⟨by omega,fun x hx=>⟨?_,h _ _⟩⟩) fun _=>h _ _
 have:=(hv.exps x (getm hx)).key;rw[s11];omega
theorem w0l{v:Envt}{K:Bool->Prop}(hv:EnvS v)(h: ∀r,K r):q16 v K:=by unfold q16 j3r;exact j69 hv fun _ _=>h _
end Go.En
end
noncomputable section
namespace Go.En
open Go Go.Fl Go.Fl.Lk Go.Fx Go.Sg
def sgK:List BA:=[ByteArray.mk (Array.mk [97,108,112,104,97]),ByteArray.mk (Array.mk [98,101,116,97]),ByteArray.mk (Array.mk [103,97,109,109,97])]
structure GS(l:List Seg):Prop where
 keys:l.map Seg.key=sgK.take l.length
 cond: ∀(i:Nat) g,l[i]? =some g->DrE (sgK.take i) 20000 g.5
theorem DrE.le{segs:List BA}{a b:Nat}{e:Ex}(h:DrE segs a e)(hab:a<=b):DrE segs b e:=⟨Nat.le_trans h.wt hab,h.nms,h.ev⟩
theorem DrE.eta{segs:List BA}{w:Nat}{e:Ex}(h:DrE segs w e):DrE segs w (Ex.mk e.1 e.2 e.3 e.4 e.5):=by rw[Ja];exact h
theorem u1w:GS []:=⟨rfl,by simp⟩
theorem u0g{segs:List BA}:DrE segs 20000 (Ex.mk 0 (ByteArray.mk (Array.mk [])) (ByteArray.mk (Array.mk [])) [] []):=
 ⟨by simp[wt,wtV,wtL],fun x hx=>by rw[w6d] at hx;rcases hx with ⟨h,_⟩|⟨k,hk,_⟩<;>simp at*,EvB.mk' (by simp) (by simp)⟩
theorem v1u{list:List Int}{at_ hold:Int}{salt hkind:BA}{attrs:List Decl}{flags:List Flg}{layers:List Lay_}{expers:List Exper}
  {K:Int->BA->BA->Int->List Decl->List Seg->List Flg->List Lay_->List Exper->Prop}(hD:DS list at_)
  (h: ∀a segs,DS list a->segs.length<=3->(∀g∈segs,SegS g)->GS segs->K a salt hkind hold attrs segs flags layers expers):z1w list at_ salt hkind hold attrs [] flags layers expers K:=by
 unfold z1w z8p;refine Qi hD (by decide) fun n a n0 n1 hD=>j6x n0 (by simp only[List.length_cons,List.length_nil];omega) ?_
 rw[show ([ByteArray.mk (Array.mk [97,108,112,104,97]),ByteArray.mk (Array.mk [98,101,116,97]),ByteArray.mk (Array.mk [103,97,109,109,97])]:List BA)=sgK from rfl];have nms: ∀s∈List.take n.toNat sgK,s.size<=100:=fun s hs=>by
  have:=List.mem_of_mem_take hs;have k: ∀s∈sgK,s.size<=100:=by decide
  exact k s this
 have hlen:(List.take n.toNat sgK).length<=3:=by rw[List.length_take];have:sgK.length=3:=rfl;omega
 have hfst: ∀i,i<=(List.take n.toNat sgK).length->(List.take n.toNat sgK).take i=sgK.take i:=fun i hi=>by rw[List.take_take,Nat.min_eq_left];rw[List.length_take] at hi;omega
 generalize List.take n.toNat _=l at nms hlen hfst;refine Lp3.ind (fun (i a:Int) (gs:List Seg)=>DS list a/\0<=i/\i<=l.length/\(gs.length:Int)=i/\(∀g∈gs,SegS g)/\GS gs) (fun (i:Int) _ _=>(3 - i).toNat) ?_ ⟨hD,Int.le_refl 0,by omega,rfl,by simp,u1w⟩;rintro i a gs ⟨hD,i0,i1,hl,hg,hgs⟩ _;refine Cnd.mk (fun hc=>⟨by omega,fun y hy=>w5t hD fun inc a hi1 _ hD=>w5t hD fun exc a he1 _ hD=> ?_⟩) fun _=>h _ _ hD (by omega) hg hgs
 refine Jn2.mk (fun k a=>k.size<=100/\DS list a) (Qi hD (by decide) fun r a r0 r1 hD=>Cnd.mk (fun _=>⟨by decide,hD⟩) fun _=>⟨by decide,hD⟩) fun kind a hx=> ?_
 obtain⟨hkd,hD⟩:=hx;refine Jn1.mk (fun x=>(ExS 4 (Ex.mk x.1 x.2.1 x.2.2.1 x.2.2.2.1 x.2.2.2.2.1)/\DrE (l.take i.toNat) 20000 (Ex.mk x.1 x.2.1 x.2.2.1 x.2.2.2.1 x.2.2.2.2.1))/\DS list x.2.2.2.2.2.1) (Qi hD (by decide) fun r a r0 r1 hD=>Cnd.mk (fun _=>⟨by omega,?_⟩) fun _=>⟨⟨ExS.le (n:=0) ⟨.nil,⟨sz0,sz0⟩,opl (by simp),rfl⟩ (by omega),u0g⟩,hD⟩) fun x hx=> ?_
 .exact j9s ((v8g fun s hs=>nms s (List.mem_of_mem_take (List.mem_of_mem_drop hs))).and y7j) 2 (by omega) (by decide) (by decide) hD fun e a he hD=>⟨⟨he.1.eta,(he.2.le (by decide)).eta⟩,hD⟩
 .have hk:l[i.toNat]? =some y:=hy;refine⟨by unfold Sml;simp;omega,by unfold InI;omega,⟨hx.2,by omega,by omega,by simp;omega,Z2 hg ⟨nms _ (getm hy),hkd,hi1,he1,hx.1.1⟩,?_,fun j g hj=> ?_⟩,by omega⟩
  .rw[List.map_append,hgs.keys,List.length_append,List.length_singleton,<-hfst _ (by omega),<-hfst _ (by omega),List.take_add_one,show l[gs.length]? =some y by rw[<-hk];congr 1;omega];rfl
  .rcases Nat.lt_or_ge j gs.length with hlt|hge
   .rw[List.getElem?_append_left hlt] at hj;exact hgs.cond j g hj
   .rw[List.getElem?_append_right hge] at hj;have hj0:j=gs.length:=by
     rcases Nat.eq_zero_or_pos (j - gs.length) with h0|h0
     .omega
     .rw[List.getElem?_eq_none (by simp;omega)] at hj;cases hj
    subst hj0;simp only[Nat.sub_self,List.getElem?_cons_zero,Option.some.injEq] at hj;subst hj;rw[<-hfst _ (by omega),show gs.length=i.toNat by omega];exact hx.1.2
end Go.En
end
noncomputable section
namespace Go.En
open Go Go.Fl Go.Fl.Lk Go.Fx Go.Dg
theorem v1v{l:List BA}{n:Nat}{p:BA->Prop}(h: ∀x∈l,p x): ∀x∈l.take n,p x:=fun x hx=>h x (List.mem_of_mem_take hx)
theorem y27{ds:List Decl}(hd: ∀d∈ds,d.kind.size<=100/\d.name.size<=100):EnvS (Envt.mk (Sett.mk (ByteArray.mk (Array.mk [])) (ByteArray.mk (Array.mk [])) 0) ds [] [] [] []):=
 ⟨sz0,hd,by simp,by simp,by simp,by simp,by simp,by simp,by simp,by simp⟩
theorem u8y:ExS 4 (Ex.mk 1 (ByteArray.mk (Array.mk [])) (ByteArray.mk (Array.mk [])) [] []):=ExS.le (n:=0) ⟨VsS.nil,⟨sz0,sz0⟩,opl (by simp),rfl⟩ (by decide)
end Go.En
end
noncomputable section
namespace Go.En
open Go Go.Fl Go.Fl.Lk Go.Fx Go.Dg
def Cov(l:List Rng):Prop:= ∀b:Int,0<=b->b<10000-> ∃r∈l,r.1<=b/\b<r.2
theorem w0m{list:List Int}{at_ n:Int}{K:List Rng->Int->Prop}(hD:DS list at_)(hn:1<=n)(hn':n<=100)(h: ∀l a,SplS n l->Cov l->DS list a->K l a):z8q list at_ n K:=by
 unfold z8q w34;have cv1: ∀{l:List Rng} {x y z:Int},(∀b:Int,0<=b->b<x-> ∃r∈l,r.1<=b/\b<r.2)-> ∀b:Int,0<=b->b<y-> ∃r∈l++[Rng.mk x y z],r.1<=b/\b<r.2:=fun {l x y z} hc b h0 h1=>by
  by_cases hb:b<x
  .obtain⟨r,hr,hh⟩:=hc b h0 hb;exact⟨r,List.mem_append_left _ hr,hh⟩
  .exact⟨_,List.mem_append_right _ List.mem_cons_self,by simp only;omega,h1⟩
 refine Jn4.mk (fun l at_ last a=>DS list a/\l.length<=3/\0<=at_/\(∀b:Int,0<=b->b<at_-> ∃r∈l,r.1<=b/\b<r.2)/\∀r∈l,0<=r.lo/\r.hi<=10000/\1<=r.variation/\r.variation<=n) ?_ ?_
 .refine Lp5.ind (fun l at_ last i a=>DS list a/\0<=i/\i<=3/\(l.length:Int)=i/\0<=at_/\at_<=10000/\0<=last/\last<=n/\(∀b:Int,0<=b->b<at_-> ∃r∈l,r.1<=b/\b<r.2)/\∀r∈l,0<=r.lo/\r.hi<=10000/\1<=r.variation/\r.variation<=n) (fun _ _ _ i _=>(3 - i).toNat) ?_ ⟨hD,by omega,by omega,rfl,by omega,by omega,by omega,by omega,fun b h0 h1=>by omega,by simp⟩;rintro l at_ last i a ⟨hD,i0,i1,hl,a0,a1,l0,l1,hcv,hr⟩;refine Qi hD (by decide) fun q a q0 q1 hD=>Cnd.mk (fun _=>Cnd.mk (fun _=>⟨by unfold InI;omega,q7j hD (by decide) fun w a w0 w1 hD=>⟨by unfold InI;omega,Qi hD hn fun v a v0 v1 hD=>⟨by unfold InI;omega,?_⟩⟩⟩) fun _=> ?_) fun _=> ?_
  .have m0:=Int.tmod_nonneg n (show 0<=1+v by omega);have m1:=Int.tmod_lt_of_pos (1+v) (b:=n) (by omega);refine Jn1.mk (fun v=>1<=v/\v<=n) (Cnd.mk (fun _=>⟨by omega,by unfold InI;omega,by omega,by omega⟩) fun _=>⟨by omega,by omega⟩) fun v hv=>Cnd.mk (fun _=>⟨hD,by omega,a0,hcv,hr⟩) fun _=> ?_
   exact⟨by unfold Sml;simp;omega,by unfold InI;omega,⟨hD,by omega,by omega,by simp;omega,by omega,by omega,by omega,by omega,cv1 hcv,Z2 hr ⟨by simp only;omega,by simp only;omega,by simp only;omega,by simp only;omega⟩⟩,by omega⟩
  .exact⟨hD,by omega,a0,hcv,hr⟩
  .exact⟨hD,by omega,a0,hcv,hr⟩
 .rintro l at_ last a ⟨hD,hl,a0,hcv,hr⟩;refine Qi hD hn fun v a v0 v1 hD=>⟨by unfold InI;omega,?_⟩
  have m0:=Int.tmod_nonneg n (show 0<=1+v by omega);have m1:=Int.tmod_lt_of_pos (1+v) (b:=n) (by omega);refine Jn1.mk (fun v=>1<=v/\v<=n) (Cnd.mk (fun _=>⟨by omega,by unfold InI;omega,by omega,by omega⟩) fun _=>⟨by omega,by omega⟩) fun v hv=> ?_
  exact⟨by unfold Sml;simp;omega,h _ _ ⟨by simp;omega,Z2 hr ⟨a0,by simp,hv.1,hv.2⟩⟩ (cv1 hcv) hD⟩
structure SrvD(n:Int)(s:Srv):Prop where
 ok:SrvS n s
 cov:s.variation=0->Cov s.split
theorem w0n{list:List Int}{at_ n:Int}{K:Srv->Int->Prop}(hD:DS list at_)(hn:1<=n)(hn':n<=100)(h: ∀s a,SrvD n s->DS list a->K s a):j5n list at_ n K:=by
 unfold j5n w35;have tt: ∀s∈j5i,s.size<=100:=by decide
 have key:(ByteArray.mk (Array.mk [107,101,121])).size<=100:=by decide
 refine Qi hD (by decide) fun r a r0 r1 hD=>Cnd.mk (fun _=>Qi hD hn fun v a v0 v1 hD=>⟨by unfold InI;omega,h _ _ ⟨⟨sz0,⟨by simp only;omega,by simp only;omega⟩,⟨by simp,by simp⟩,sz0,sz0⟩,fun h0=>by simp only at h0;omega⟩ hD⟩) fun _=> ?_
 refine z48 hD fun t a ht hD=>w0m hD hn hn' fun l a hl hcv hD=>q4p fun ds _ hds=>Qi hD (by decide) fun q a q0 q1 hD _=> ?_
 have usr:(ByteArray.mk (Array.mk [117,115,101,114])).size<=100:=by decide
 have ok: ∀{k b:BA},k.size<=100->b.size<=100->SrvD n (Srv.mk 0 k b t l):=fun hk hb=>⟨⟨hk,⟨by simp,by simp only;omega⟩,hl,hb,tt _ ht⟩,fun _=>hcv⟩
 refine Cnd.mk (fun _=>⟨by omega,fun y hy=>Cnd.mk (fun _=>h _ _ (ok usr key) hD) fun _=>⟨by omega,fun z hz=>⟨by omega,fun u hu=>h _ _ (ok (hds z (getm hz)).1 (hds u (getm hu)).2.1) hD⟩⟩⟩) fun _=>h _ _ (ok usr key) hD
theorem v5j{list:List Int}{at_ kind:Int}{K:Val->Int->Prop}(hk0:1<=kind)(hk1:kind<=5)(hD:DS list at_)(h: ∀r a,ValS r->r.kind=kind->DS list a->K r a):q0v list at_ kind K:=by
 unfold q0v j5k;have tt: ∀s∈j5i,s.size<=100:=by decide
 have tv: ∀s∈z8n,s.size<=100:=by decide
 have tl: ∀l∈w31,l.length<=10/\∀s∈l,s.size<=100:=by decide
 refine Cnd.mk (fun _=> ?_) fun _=>Cnd.mk (fun _=>fun _=> ?_) fun _=>Cnd.mk (fun _=> ?_) fun _=>Cnd.mk (fun _=> ?_) fun _=> ?_
 .exact Qi hD (by decide) fun r a r0 r1 hD=>h _ _ ⟨by unfold InI;simp only;omega,sz0,by simp,by simp⟩ rfl hD
 .refine Qi hD (by decide) fun r a r0 r1 hD=>⟨⟨r0,r1⟩,fun y hy=>h _ _ ⟨?_,sz0,by simp,by simp⟩ rfl hD⟩
  have:=getm hy;have k: ∀y∈[(0:Int),(1:Int),(17:Int),(18:Int),(19:Int),(-5:Int),(64:Int),(1099511627776:Int),(-1099511627776:Int)], -9223372036854775808<=y/\y<=9223372036854775807:=by decide
  exact k y this
 .exact z48 hD fun r a hr hD=>h _ _ ⟨by unfold InI;simp,tt _ hr,by simp,by simp⟩ rfl hD
 .exact Qi hD (by decide) fun r a r0 r1 hD=>⟨⟨r0,r1⟩,fun y hy=>h _ _ ⟨by unfold InI;simp,tv _ (getm hy),by simp,by simp⟩ rfl hD⟩
 .refine Qi hD (by decide) fun r a r0 r1 hD=>⟨⟨r0,r1⟩,fun y hy=> ?_⟩
  obtain⟨a1,a2⟩:=tl _ (getm hy);exact⟨by unfold Sml;simp;omega,h _ _ ⟨by unfold InI;simp,sz0,by simpa using a1,by simpa using a2⟩ (by simp only;omega) hD⟩
def flK:List BA:=[ByteArray.mk (Array.mk [102,97]),ByteArray.mk (Array.mk [102,98]),ByteArray.mk (Array.mk [102,99]),ByteArray.mk (Array.mk [102,100])]
def lyK:List BA:=[ByteArray.mk (Array.mk [108,97]),ByteArray.mk (Array.mk [108,98])]
def exK:List BA:=[ByteArray.mk (Array.mk [120,97]),ByteArray.mk (Array.mk [120,98]),ByteArray.mk (Array.mk [120,99])]
structure RulD(n:Int)(r:Rul):Prop where
 cond:DrE sgK 20000 r.cond
 serve:SrvD n r.serve
structure FlgD(prev:List Flg)(f:Flg):Prop where
 kind:1<=f.kind/\f.kind<=5
 kinds: ∀v∈f.variations,v.kind=f.kind
 off:1<=f.off/\f.off<=f.variations.length
 needs: ∀q∈f.needs,∃g∈prev,q.flag=g.key/\1<=q.variation/\q.variation<=g.variations.length
 nsub:(f.needs.map Prq.flag).Sublist (prev.map Flg.key)
 tgts: ∀t∈f.targets,(1<=t.variation/\t.variation<=f.variations.length)/\t.keys.length<=3
 rules: ∀r∈f.rules,RulD f.variations.length r
 dflt:SrvD f.variations.length f.dflt
theorem u0h{l a:List BA}{j:Nat}{k:BA}(h:a.Sublist (l.take j))(hk:l[j]? =some k):(a++[k]).Sublist (l.take (j+1)):=by rw[List.take_add_one,hk];exact h.append (List.Sublist.refl _)
theorem u0i{l a:List BA}{j:Nat}(h:a.Sublist (l.take j)):a.Sublist (l.take (j+1)):=by rw[List.take_add_one];exact h.trans (List.sublist_append_left _ _)
structure FlgsD(l:List Flg):Prop where
 keys:l.map Flg.key=flK.take l.length
 all: ∀(i:Nat) f,l[i]? =some f->FlgD (l.take i) f
structure ExpD(layers:List Lay_)(flags:List Flg)(x:Exper):Prop where
 cov:Cov x.arms
 cond:DrE sgK 20000 x.cond
 layer: ∃l∈layers,x.layer=l.key
 flag: ∃f∈flags,x.flag=f.key/\∀r∈x.arms,1<=r.variation/\r.variation<=f.variations.length
 salt:x.salt.size<=100
structure EnvD(v:Envt):Prop where
 salt:v.settings.salt.size<=100
 gs:GS v.segments
 flags:FlgsD v.flags
 layers:v.layers.map Lay_.key=lyK.take v.layers.length
 exps:(v.experiments.map Exper.key).Sublist exK
 exp: ∀x∈v.experiments,ExpD v.layers v.flags x
 al:v.attributes.length<=100
theorem v5k:FlgsD []:=⟨rfl,by simp⟩
theorem y28{l:List Flg}{f:Flg}(h:FlgsD l)(hk:flK[l.length]? =some f.key)(hf:FlgD l f):FlgsD (l++[f]):=by
 refine⟨?_,fun i g hi=> ?_⟩
 .rw[List.map_append,h.keys,List.length_append,List.length_singleton,List.take_add_one,hk];rfl
 .rcases Nat.lt_or_ge i l.length with hlt|hge
  .rw[List.getElem?_append_left hlt] at hi;rw[List.take_append_of_le_length (by omega)];exact h.all i g hi
  .have:=Qh hi;rw[List.length_append,List.length_singleton] at this;have e:i=l.length:=by omega
   subst e;rw[List.getElem?_append_right (Nat.le_refl _),Nat.sub_self] at hi;cases hi;rw[List.take_left' rfl];exact hf
theorem y7r{a b:List BA}{w:Nat}{e:Ex}(h:DrE a w e)(hs: ∀x∈a,x∈b):DrE b w e:=⟨h.wt,fun x hx=>hs x (h.nms x hx),h.ev⟩
theorem y29{ds:List Decl}(hl:ds.length<=100):EnvD (Envt.mk (Sett.mk (ByteArray.mk (Array.mk [])) (ByteArray.mk (Array.mk [])) 0) ds [] [] [] []):=
 ⟨sz0,u1w,v5k,rfl,by simp,by simp,hl⟩
theorem y7s{l:List Seg}(h:GS l): ∀s∈l.map Seg.key,s∈sgK:=fun s hs=>by rw[h.keys] at hs;exact List.mem_of_mem_take hs
theorem u4s:DrE sgK 20000 (Ex.mk 1 (ByteArray.mk (Array.mk [])) (ByteArray.mk (Array.mk [])) [] []):=
 ⟨by simp[wt,wtV,wtL],fun x hx=>by rw[w6d] at hx;rcases hx with ⟨h,_⟩|⟨k,hk,_⟩<;>simp at*,EvB.mk' (by simp) (by simp)⟩
theorem u1x{l:List BA}{n i:Nat}{y:BA}(h:(l.take n)[i]? =some y):l[i]? =some y:=by
 rw[List.getElem?_take] at h;split at h
 .exact h
 .cases h
theorem j9z{V:Envt->Prop}(hV: ∀(v:Envt) (K:Bool->Prop),EnvS v->(∀b,(b=true->V v)->K b)->q16 v K)(hV0: ∀ds,V (Envt.mk (Sett.mk (ByteArray.mk (Array.mk [])) (ByteArray.mk (Array.mk [])) 0) ds [] [] [] []))
  {list:List Int}{at_ now:Int}{K:Envt->Int->Prop}(hD:DS list at_)(h: ∀v a,EnvS v->EnvD v->V v->DS list a->K v a):q3k list at_ now K:=by
 unfold q3k z0r;have tt: ∀s∈j5i,s.size<=100:=by decide
 refine q4p fun attrs hal had=> ?_
 have hat: ∀d∈attrs,d.kind.size<=100/\d.name.size<=100:=fun d hd=>⟨(had d hd).1,(had d hd).2.1⟩
 refine Jn1.mk (fun x=>(x.1.size<=100/\x.2.1.size<=100)/\DS list x.2.2.2.1/\x.2.2.2.2.1=attrs) (Qi hD (by decide) fun r a _ _ hD=>Cnd.mk (fun _=>z48 hD fun t a ht hD=>q7j hD (by decide) fun w a _ _ hD=>⟨⟨tt _ ht,(by decide:(ByteArray.mk (Array.mk [117,115,101,114])).size<=100)⟩,hD,rfl⟩) fun _=>⟨⟨sz0,sz0⟩,hD,rfl⟩) ?_;rintro⟨salt,hkind,hold,a,ds,u⟩ ⟨⟨hslt,hhk⟩,hD,hds⟩;simp only at hslt hhk hD hds⊢;subst hds;refine v1u hD fun a segs hD hsl hsegs hgs=>Qi hD (by decide) fun n a n0 n1 hD=>j6x n0 (by simp only[List.length_cons,List.length_nil];omega) ?_
 have fin: ∀{flags:List Flg} {layers:List Lay_} {exps:List Exper} {a:Int},DS list a->flags.length<=4->(∀f∈flags,FlgS f)->layers.length<=2->(∀l∈layers,LayS l)->exps.length<=3->(∀x∈exps,ExpS x)->FlgsD flags->layers.map Lay_.key=lyK.take layers.length->(exps.map Exper.key).Sublist exK->(∀x∈exps,ExpD layers flags x)->
   q16 (Envt.mk (Sett.mk salt hkind hold) ds segs flags layers exps) fun b=>Cnd (b=true) (K (Envt.mk (Sett.mk salt hkind hold) ds segs flags layers exps) a) (Gw fun ds=>K (Envt.mk (Sett.mk (ByteArray.mk (Array.mk [])) (ByteArray.mk (Array.mk [])) 0) ds [] [] [] []) a):=fun hD h1 h2 h3 h4 h5 h6 e1 e2 e3 e4=>by
  have hv:EnvS (Envt.mk (Sett.mk salt hkind hold) ds segs _ _ _):=⟨hhk,hat,hsl,hsegs,h1,h2,h3,h4,h5,h6⟩;exact hV _ _ hv fun b hb=>Cnd.mk (fun ht=>h _ _ hv ⟨hslt,hgs,e1,e2,e3,e4,by show ds.length<=100;omega⟩ (hb ht) hD) fun _=>q4p fun ds hal2 had=>h _ _ (y27 fun d hd=>⟨(had d hd).1,(had d hd).2.1⟩) (y29 (by omega)) (hV0 ds) hD
 have nms: ∀s∈List.take n.toNat [ByteArray.mk (Array.mk [102,97]),ByteArray.mk (Array.mk [102,98]),ByteArray.mk (Array.mk [102,99]),ByteArray.mk (Array.mk [102,100])],s.size<=100:=v1v (by decide);have hlen:(List.take n.toNat [ByteArray.mk (Array.mk [102,97]),ByteArray.mk (Array.mk [102,98]),ByteArray.mk (Array.mk [102,99]),ByteArray.mk (Array.mk [102,100])]).length<=4:=by rw[List.length_take];simp only[List.length_cons,List.length_nil];omega
 have hget: ∀(i:Nat) y,(List.take n.toNat [ByteArray.mk (Array.mk [102,97]),ByteArray.mk (Array.mk [102,98]),ByteArray.mk (Array.mk [102,99]),ByteArray.mk (Array.mk [102,100])])[i]? =some y->flK[i]? =some y:=fun i y hy=>u1x hy
 generalize List.take n.toNat _=l at nms hlen hget;refine LpH.ind (fun (x:Int×Int×List Flg×List Seg×List Lay_×List Exper×Unit)=>0<=x.1/\x.1<=(l.length:Int)/\DS list x.2.1/\(x.2.2.1.length:Int)=x.1/\(∀f∈x.2.2.1,FlgS f)/\FlgsD x.2.2.1/\x.2.2.2=(segs,[],[],())) (fun x=>((l.length:Int) - x.1).toNat) ?_ ⟨Int.le_refl 0,by simp,hD,rfl,by simp,v5k,rfl⟩;rintro⟨i,a,flags,rest⟩ ⟨i0,i1,hD,hfl,hfs,hfd,hr⟩;simp only at i0 i1 hD hfl hfs hfd hr⊢;subst hr;simp only;intro _;refine Cnd.mk (fun hc=>⟨by omega,fun key hkey=> ?_⟩) fun _=> ?_
 .
  refine Qi hD (by decide) fun kind a k0 k1 hD=>⟨by unfold InI;omega,Qi hD (by decide) fun on a _ _ hD=>Qi hD (by decide) fun m a m0 m1 hD=>⟨by unfold InI;omega,?_⟩⟩
  refine LpH.ind (fun (x:Int×Int×List Val×List Exper×List Lay_×List Flg×List Seg×Unit)=>0<=x.1/\x.1<=1+m/\DS list x.2.1/\(x.2.2.1.length:Int)=x.1/\(∀v∈x.2.2.1,ValS v/\v.kind=1+kind)/\x.2.2.2=([],[],flags,segs,())) (fun x=>(1+m - x.1).toNat) ?_ ⟨Int.le_refl 0,by simp only;omega,hD,rfl,by simp,rfl⟩;rintro⟨j,a,vals,rest⟩ ⟨j0,j1,hD,hvl,hvs,hr⟩;simp only at j0 j1 hD hvl hvs hr⊢;subst hr;simp only;refine Cnd.mk (fun hc=>v5j (by omega) (by omega) hD fun v a hv hvk hD=>⟨by unfold Sml;simp;omega,by unfold InI;omega,⟨by omega,by omega,hD,by simp;omega,Z2 hvs ⟨hv,hvk⟩,trivial⟩,by omega⟩) fun hc=> ?_
  refine Qi hD (by omega) fun off a o0 o1 hD=>⟨by unfold InI;omega,?_⟩
  have hlv:vals.length=(1+m).toNat:=by omega
  refine LpH.ind (fun (x:Int×List Prq×Int×List Seg×List Flg×List Lay_×List Exper×List Val×Unit)=>0<=x.1/\x.1<=(flags.length:Int)/\((x.2.1.length:Int)<=x.1/\(x.2.1.map Prq.flag).Sublist ((flags.map Flg.key).take x.1.toNat))/\(∀q∈x.2.1,q.flag.size<=100/\∃g∈flags,q.flag=g.key/\1<=q.variation/\q.variation<=g.variations.length)/\DS list x.2.2.1/\x.2.2.2=(segs,flags,[],[],vals,())) (fun x=>((flags.length:Int) - x.1).toNat) ?_ ⟨Int.le_refl 0,by simp,⟨by simp,List.nil_sublist _⟩,by simp,hD,rfl⟩;rintro⟨j,needs,a,rest⟩ ⟨j0,j1,⟨hnl,hsb⟩,hns,hD,hr⟩;simp only at j0 j1 hnl hsb hns hD hr⊢;have hj1:(j+1).toNat=j.toNat+1:=by omega
  subst hr;simp only;intro _;refine Cnd.mk (fun hc=>Qi hD (by decide) fun q a _ _ hD=>Cnd.mk (fun _=>⟨by omega,fun y hy=>⟨by omega,fun z hz _=>Qi hD (by have:=(hfs z (getm hz)).vlen;omega) fun w a w0 w1 hD=> ?_⟩⟩) fun _=>⟨by unfold InI;omega,⟨by omega,by omega,⟨by omega,by rw[hj1];exact u0i hsb⟩,hns,hD,trivial⟩,by omega⟩) fun _=> ?_
  .have:=(hfs z (getm hz)).vlen;exact⟨by unfold InI;omega,by unfold Sml;simp;omega,by unfold InI;omega,⟨by omega,by omega,⟨by simp;omega,by rw[hj1,List.map_append];exact u0h hsb (by rw[List.getElem?_map,hy];rfl)⟩,Z2 hns ⟨(hfs y (getm hy)).key,z,getm hz,by rw[hy] at hz;rw[Option.some.inj hz],by simp only;omega,by simp only;omega⟩,hD,trivial⟩,by omega⟩
  have hnl4:needs.length<=4:=by omega
  have hsb:=hsb.trans (List.take_sublist _ _);refine LpH.ind (fun (x:Int×List Tgt×Int×List Val×List Exper×List Lay_×List Flg×List Seg×List Prq×Unit)=>0<=x.1/\x.1<=3/\(x.2.1.length:Int)<=x.1/\(∀t∈x.2.1,t.kind.size<=100/\(1<=t.variation/\t.variation<=1+m)/\t.keys.length<=3)/\DS list x.2.2.1/\x.2.2.2=(vals,[],[],flags,segs,needs,())) (fun x=>(3 - x.1).toNat) ?_ ⟨Int.le_refl 0,by simp,by simp,by simp,hD,rfl⟩;rintro⟨j,tgts,a,rest⟩ ⟨j0,j1,htl,hts,hD,hr⟩;simp only at j0 j1 htl hts hD hr⊢;subst hr;simp only;refine Qi hD (by decide) fun q a q0 q1 hD=>Cnd.mk (fun hc=>Qi hD (by omega) fun w a w0 w1 hD=>⟨by unfold InI;omega,w5t hD fun ks a hks _ hD=> ?_⟩) fun _=> ?_
  .refine Jn1.mk (fun x=>x.1.size<=100/\DS list x.2.1/\x.2.2=(ks,needs,segs,flags,[],[],vals,tgts,())) (Qi hD (by decide) fun r a _ _ hD=>Cnd.mk (fun _=>⟨(by decide:(ByteArray.mk (Array.mk [100,101,118,105,99,101])).size<=100),hD,rfl⟩) fun _=>⟨(by decide:(ByteArray.mk (Array.mk [117,115,101,114])).size<=100),hD,rfl⟩) ?_;rintro⟨kd,a,rest⟩ ⟨hkd,hD,hr⟩;simp only at hkd hD hr⊢;subst hr;simp only;exact fun _=>Cnd.mk (fun _=>⟨by unfold Sml;simp;omega,by unfold InI;omega,⟨by omega,by omega,by simp;omega,Z2 hts ⟨hkd,⟨by simp only;omega,by simp only;omega⟩,hks⟩,hD,trivial⟩,by omega⟩) fun _=>⟨by unfold InI;omega,⟨by omega,by omega,by omega,hts,hD,trivial⟩,by omega⟩
  refine Jn1.mk (fun (x:Int×List Rul×List BA×List Prq×List Seg×List Flg×List Lay_×List Exper×List Val×List Tgt×Unit)=>DS list x.1/\x.2.1.length<=4/\(∀r∈x.2.1,RulS (1+m) r/\RulD (1+m) r)/\x.2.2.2=(needs,segs,flags,[],[],vals,tgts,())) ?_ ?_
  case refine_2=>
   rintro⟨a,rules,names,rest⟩ ⟨hD,hrl,hrs,hr⟩;simp only at hD hrl hrs hr⊢;subst hr;simp only;refine w0n hD (by omega) (by omega) fun s a hs hD=>⟨by unfold Sml;simp;omega,by unfold InI;omega,⟨by omega,by omega,hD,by simp;omega,Z2 hfs ?_,y28 hfd ?_ ?_,trivial⟩,by omega⟩
   all_goals have hvm:(vals.length:Int)=1+m:=by omega
   .exact⟨nms key (getm hkey),⟨by simp only;omega,by simp only;omega⟩,fun v hv=>(hvs v hv).1,hnl4,fun q hq=>(hns q hq).1,by simp only;omega,fun t ht=>(hts t ht).1,hrl,by rw[hvm];exact fun r hr=>(hrs r hr).1,by rw[hvm];exact hs.ok⟩
   .rw[<-hget _ _ hkey];congr 1;omega
   .exact⟨⟨by simp only;omega,by simp only;omega⟩,fun v hv=>(hvs v hv).2,⟨by simp only;omega,by simp only;omega⟩,fun q hq=>(hns q hq).2,hsb,fun t ht=>by simp only;rw[hvm];exact (hts t ht).2,fun r hr=>by simp only;rw[hvm];exact (hrs r hr).2,by simp only;rw[hvm];exact hs⟩
  have nm4: ∀s∈([ByteArray.mk (Array.mk [102,105,114,115,116]),ByteArray.mk (Array.mk [115,101,99,111,110,100]),ByteArray.mk (Array.mk [116,104,105,114,100]),ByteArray.mk (Array.mk [102,111,117,114,116,104])]:List BA),s.size<=100:=by decide
  have nl4:([ByteArray.mk (Array.mk [102,105,114,115,116]),ByteArray.mk (Array.mk [115,101,99,111,110,100]),ByteArray.mk (Array.mk [116,104,105,114,100]),ByteArray.mk (Array.mk [102,111,117,114,116,104])]:List BA).length=4:=rfl;generalize ([ByteArray.mk (Array.mk [102,105,114,115,116]),ByteArray.mk (Array.mk [115,101,99,111,110,100]),ByteArray.mk (Array.mk [116,104,105,114,100]),ByteArray.mk (Array.mk [102,111,117,114,116,104])]:List BA)=ns4 at nm4 nl4⊢;refine LpH.ind (fun (x:Int×Int×List Rul×List BA×List Prq×List Seg×List Flg×List Lay_×List Exper×List Val×List Tgt×Unit)=>0<=x.1/\x.1<=4/\DS list x.2.1/\(x.2.2.1.length:Int)=x.1/\(∀r∈x.2.2.1,RulS (1+m) r/\RulD (1+m) r)/\x.2.2.2=(ns4,needs,segs,flags,[],[],vals,tgts,())) (fun x=>(4 - x.1).toNat) ?_ ⟨Int.le_refl 0,by simp,hD,rfl,by simp,rfl⟩;rintro⟨j,a,rules,rest⟩ ⟨j0,j1,hD,hrl,hrs,hr⟩;simp only at j0 j1 hD hrl hrs hr⊢;subst hr;simp only;refine Qi hD (by decide) fun q a q0 q1 hD=>Cnd.mk (fun hc=>⟨by rw[nl4];omega,fun y hy=> ?_⟩) fun _=>⟨hD,by omega,hrs,trivial⟩
  refine z77 (by simp only;omega) (j9s ((v8g fun s hs=> ?_).and y7j) 2 (by omega) (by decide) (by decide) hD fun e a he hD=>w0n hD (by omega) (by omega) fun s a hs hD=>⟨by unfold Sml;simp;omega,?_⟩)
  .obtain⟨g,hg,rfl⟩:=List.mem_map.1 hs;exact (hsegs g hg).key
  have hrs':=Z2 hrs (x:=Rul.mk y (Ex.mk e.1 e.2 e.3 e.4 e.5) s) ⟨⟨nm4 y (getm hy),he.1.eta,hs.ok⟩,y7r (he.2.le (by decide)).eta (y7s hgs),hs⟩;have hl':(rules++[Rul.mk y (Ex.mk e.1 e.2 e.3 e.4 e.5) s]).length=rules.length+1:=by simp
  have cut: ∀r∈List.take (((rules++[Rul.mk y (Ex.mk e.1 e.2 e.3 e.4 e.5) s]).length:Int) - 1).toNat (rules++[Rul.mk y (Ex.mk e.1 e.2 e.3 e.4 e.5) s]),RulS (1+m) r/\RulD (1+m) r:=fun r hr=>hrs' r (List.mem_of_mem_take hr)
  generalize rules++[Rul.mk y (Ex.mk e.1 e.2 e.3 e.4 e.5) s]=rs at hrs' hl' cut⊢;refine z2q (by omega) (fun r hr=>(hrs' r hr).1.cond) fun o n b ho=>Cnd.mk (fun _ _=>Cnd.mk (fun _ _=>⟨by unfold InI;omega,by omega,hD,by simp only[List.length_take];omega,cut,trivial⟩) fun _=>⟨by unfold InI;omega,⟨by omega,by omega,hD,by omega,hrs',trivial⟩,by omega⟩) fun _ _=>⟨by unfold InI;omega,by omega,hD,by simp only[List.length_take];omega,cut,trivial⟩
 .
  refine Qi hD (by decide) fun n a n0 n1 hD=>j6x n0 (by simp only[List.length_cons,List.length_nil];omega) ?_
  have nms: ∀s∈List.take n.toNat [ByteArray.mk (Array.mk [108,97]),ByteArray.mk (Array.mk [108,98])],s.size<=100:=v1v (by decide);have hlen:(List.take n.toNat [ByteArray.mk (Array.mk [108,97]),ByteArray.mk (Array.mk [108,98])]).length<=2:=by rw[List.length_take];simp only[List.length_cons,List.length_nil];omega
  have hgetl: ∀(i:Nat) y,(List.take n.toNat [ByteArray.mk (Array.mk [108,97]),ByteArray.mk (Array.mk [108,98])])[i]? =some y->lyK[i]? =some y:=fun i y hy=>u1x hy
  generalize List.take n.toNat _=ls at nms hlen hgetl;have hf4:flags.length<=4:=by omega
  refine LpH.ind (fun (x:Int×Int×List Lay_×List Exper×List Seg×List Flg×Unit)=>0<=x.1/\x.1<=(ls.length:Int)/\DS list x.2.1/\(x.2.2.1.length:Int)=x.1/\(∀f∈x.2.2.1,LayS f)/\x.2.2.1.map Lay_.key=lyK.take x.2.2.1.length/\x.2.2.2=([],segs,flags,())) (fun x=>((ls.length:Int) - x.1).toNat) ?_ ⟨Int.le_refl 0,by simp,hD,rfl,by simp,rfl,rfl⟩;rintro⟨j,a,layers,rest⟩ ⟨j0,j1,hD,hll,hls,hlk,hr⟩;simp only at j0 j1 hD hll hls hlk hr⊢;subst hr;simp only;intro _;refine Cnd.mk (fun hc=>⟨by omega,fun y hy=>y2i hD (nms y (getm hy)) fun l a hl hky hD=>⟨by unfold Sml;simp;omega,by unfold InI;omega,⟨by omega,by omega,hD,by simp;omega,Z2 hls hl,by rw[List.map_append,hlk,List.length_append,List.length_singleton,List.take_add_one,<-show j.toNat=layers.length by omega,hgetl _ _ hy,<-hky];rfl,trivial⟩,by omega⟩⟩) fun _=> ?_
  refine Qi hD (by decide) fun n a n0 n1 hD=>j6x n0 (by simp only[List.length_cons,List.length_nil];omega) ?_
  have nmx: ∀s∈List.take n.toNat [ByteArray.mk (Array.mk [120,97]),ByteArray.mk (Array.mk [120,98]),ByteArray.mk (Array.mk [120,99])],s.size<=100:=v1v (by decide);have hxen:(List.take n.toNat [ByteArray.mk (Array.mk [120,97]),ByteArray.mk (Array.mk [120,98]),ByteArray.mk (Array.mk [120,99])]).length<=3:=by rw[List.length_take];simp only[List.length_cons,List.length_nil];omega
  have hgetx:List.take n.toNat [ByteArray.mk (Array.mk [120,97]),ByteArray.mk (Array.mk [120,98]),ByteArray.mk (Array.mk [120,99])]|>.Sublist exK:=List.take_sublist _ _;generalize List.take n.toNat _=xs at nmx hxen hgetx;have hl2:layers.length<=2:=by omega
  refine LpH.ind (fun (x:Int×Int×List Exper×List Flg×List Seg×List Lay_×Unit)=>0<=x.1/\x.1<=(xs.length:Int)/\DS list x.2.1/\(x.2.2.1.length:Int)<=x.1/\(∀f∈x.2.2.1,ExpS f)/\(x.2.2.1.map Exper.key).Sublist (xs.take x.1.toNat)/\(∀f∈x.2.2.1,ExpD layers flags f)/\x.2.2.2=(flags,segs,layers,())) (fun x=>((xs.length:Int) - x.1).toNat) ?_ ⟨Int.le_refl 0,by simp,hD,by simp,by simp,by simp,by simp,rfl⟩;rintro⟨k,a,exps,rest⟩ ⟨k0,k1,hD,hxl,hxs,hxk,hxd,hr⟩;simp only at k0 k1 hD hxl hxs hxk hxd hr⊢;subst hr;simp only;intro _;have hfin:=fun {a:Int} (hD:DS list a)=>fin (flags:=flags) (layers:=layers) (exps:=exps) hD hf4 hfs hl2 hls (by omega) hxs hfd hlk ((hxk.trans (List.take_sublist _ _)).trans hgetx) hxd
  refine Cnd.mk (fun hc _=>Cnd.mk (fun hfl0 _=>Cnd.mk (fun hll0=>⟨by omega,fun y hy _=> ?_⟩) fun _=>hfin hD) fun _=>hfin hD) fun _=>hfin hD
  refine Qi hD (by omega) fun q a q0 q1 hD=>⟨by omega,fun f hf _ hfv=>Qi hD (by omega) fun q' a q0' q1' hD=>⟨by omega,fun l hl=>z48 hD fun t a ht hD=>Qi hD (by decide) fun u a u0 u1 hD=>⟨by unfold InI;omega,?_⟩⟩⟩
  have hF:=hfs f (getm hf);have hL:=hls l (getm hl);have hv1:=hF.vlen;refine w0m hD (by omega) (by omega) fun arms a harms hcov hD=> ?_
  refine Jn1.mk (fun (x:Int×Int×List Rng×List Exper×List Lay_×List Flg×List Seg×Unit)=>DS list x.2.1/\x.2.2=(arms,exps,layers,flags,segs,())) (Cnd.mk (fun _=>Qi hD (by decide) fun r a _ _ hD=>Cnd.mk (fun _=>⟨hD,rfl⟩) fun _=>⟨hD,rfl⟩) fun _=>⟨hD,rfl⟩) ?_;rintro⟨state,a,rest⟩ ⟨hD,hr⟩;simp only at hD hr⊢;subst hr;simp only;refine Jn1.mk (fun (x:Int×BA×BA×List Val×List Ex×Int×List Seg×List Flg×List Lay_×List Exper×List Rng×Unit)=>(ExS 4 (Ex.mk x.1 x.2.1 x.2.2.1 x.2.2.2.1 x.2.2.2.2.1)/\DrE sgK 20000 (Ex.mk x.1 x.2.1 x.2.2.1 x.2.2.2.1 x.2.2.2.2.1))/\DS list x.2.2.2.2.2.1/\x.2.2.2.2.2.2=(segs,flags,layers,exps,arms,())) (Qi hD (by decide) fun r a _ _ hD=>Cnd.mk (fun _=>z77 (by simp only;omega) (j9s ((v8g fun s hs=> ?_).and y7j) 2 (by omega) (by decide) (by decide) hD fun e a he hD=>⟨⟨he.1.eta,y7r (he.2.le (by decide)).eta (y7s hgs)⟩,hD,rfl⟩)) fun _=>⟨⟨u8y,u4s⟩,hD,rfl⟩) ?_
  .obtain⟨g,hg,rfl⟩:=List.mem_map.1 hs;exact (hsegs g hg).key
  rintro⟨e1,e2,e3,e4,e5,a,rest⟩ ⟨he,hD,hr⟩;simp only at he hD hr⊢;subst hr;simp only;refine v8n fun sp _ _=>q7j hD (by decide) fun w a _ _ hD=>q7j hD (by decide) fun w' a _ _ hD=>w0c fun sq _=>q7j hD (by decide) fun w2 a w20 w21 hD=>v4v (by omega) fun cl hcl=> ?_
  have hxs':=Z2 hxs (x:=Exper.mk y l.1 f.1 t state cl arms (Ex.mk e1 e2 e3 e4 e5)) ⟨nmx y (getm hy),hL.key,hF.key,hcl,⟨harms.1,fun r hr=>by obtain⟨p,q,s,t⟩:=harms.2 r hr;exact⟨p,q,s,by omega⟩⟩,he.1⟩;have hxd':=Z2 hxd (x:=Exper.mk y l.1 f.1 t state cl arms (Ex.mk e1 e2 e3 e4 e5)) ⟨hcov,he.2,⟨l,getm hl,rfl⟩,⟨f,getm hf,rfl,fun r hr=>by obtain⟨_,_,s,t⟩:=harms.2 r hr;exact⟨s,t⟩⟩,tt _ ht⟩;have hyk:xs[k.toNat]? =some y:=hy;have hxk':((exps++[Exper.mk y l.1 f.1 t state cl arms (Ex.mk e1 e2 e3 e4 e5)]).map Exper.key).Sublist (xs.take (k+1).toNat):=by rw[List.map_append,show (k+1).toNat=k.toNat+1 by omega,List.take_add_one,hyk];exact hxk.append (List.Sublist.refl _)
  have hl':(exps++[Exper.mk y l.1 f.1 t state cl arms (Ex.mk e1 e2 e3 e4 e5)]).length=exps.length+1:=by simp
  have cut: ∀r∈List.take (((exps++[Exper.mk y l.1 f.1 t state cl arms (Ex.mk e1 e2 e3 e4 e5)]).length:Int) - 1).toNat (exps++[Exper.mk y l.1 f.1 t state cl arms (Ex.mk e1 e2 e3 e4 e5)]),ExpS r:=fun r hr=>hxs' r (List.mem_of_mem_take hr)
  have cutd: ∀r∈List.take (((exps++[Exper.mk y l.1 f.1 t state cl arms (Ex.mk e1 e2 e3 e4 e5)]).length:Int) - 1).toNat (exps++[Exper.mk y l.1 f.1 t state cl arms (Ex.mk e1 e2 e3 e4 e5)]),ExpD layers flags r:=fun r hr=>hxd' r (List.mem_of_mem_take hr)
  have cutk:((List.take (((exps++[Exper.mk y l.1 f.1 t state cl arms (Ex.mk e1 e2 e3 e4 e5)]).length:Int) - 1).toNat (exps++[Exper.mk y l.1 f.1 t state cl arms (Ex.mk e1 e2 e3 e4 e5)])).map Exper.key).Sublist (xs.take (k+1).toNat):=((List.take_sublist _ _).map _).trans hxk';generalize exps++[Exper.mk y l.1 f.1 t state cl arms (Ex.mk e1 e2 e3 e4 e5)]=xs' at hxs' hl' cut hxd' hxk' cutd cutk⊢;have hv:EnvS (Envt.mk (Sett.mk salt hkind hold) ds segs flags layers xs'):=⟨hhk,hat,hsl,hsegs,hf4,hfs,hl2,hls,by simp only;omega,hxs'⟩;refine⟨by unfold Sml;omega,w0l hv fun b=>Cnd.mk (fun _=>⟨by unfold InI;omega,⟨by omega,by omega,hD,by omega,hxs',hxk',hxd',trivial⟩,by omega⟩) fun _ _=>⟨by unfold InI;omega,by omega,by unfold InI;omega,⟨by omega,by omega,hD,by simp only[List.length_take];omega,cut,cutk,cutd,trivial⟩,by omega⟩⟩
end Go.En
end
noncomputable section
namespace Go.En
open Go Go.Fl Go.Fl.Lk Go.Fx
theorem y7t:exK.Nodup:=by unfold exK;decide
theorem v8q{segs:List BA}{e:Ex}(h:DrE segs 20000 e):wt e<=2000000/\EvB e:=⟨Nat.le_trans h.wt (by decide),h.ev⟩
theorem u0j{v:Envt}(hE:EnvS v)(hD:EnvD v):SegB v.3:=y7k (Nat.le_trans hE.slen (by decide)) fun g hg=>by obtain⟨i,hi⟩:=List.getElem?_of_mem hg;exact⟨_,hD.gs.cond i g hi⟩
theorem u7c{v:Envt}(hE:EnvS v)(hD:EnvD v):AsB v where
 ln:=Nat.le_trans hE.llen (by decide)
 xn:=Nat.le_trans hE.xlen (by decide)
 sg:=u0j hE hD
 ex x hx:=v8q (hD.exp x hx).cond
 sa:=Nat.le_trans hD.salt (by decide)
 ls l hl:=Nat.le_trans (hE.layers l hl).salt (by decide)
 xs x hx:=Nat.le_trans (hD.exp x hx).salt (by decide)
 cl x hx:=⟨Nat.le_trans (hE.exps x hx).claims.len (by decide),Nat.le_trans (hE.exps x hx).arms.1 (by decide)⟩
 nd:=hD.exps.nodup y7t
theorem u0k{s:Subj}(h:s.ctxs.length<=2)(hc: ∀c∈s.ctxs,c.attrs=[]/\c.key.size<=5):SubB s:=
 ⟨by omega,fun c hm=>by rw[(hc c hm).1];simp,fun c hm a ha=>by rw[(hc c hm).1] at ha;simp at ha,fun c hm=>by have:=(hc c hm).2;omega⟩
theorem v8r{list:List Int}{at_:Int}{v:Envt}{K:List Frc->Int->Prop}(hD:DS list at_)(hE:EnvS v)(h: ∀l a,l.length<=3->K l a):j1k list at_ v K:=by
 unfold j1k j8h;have hxn:=hE.xlen;refine Lp3.ind (fun (l:List Frc) (i a:Int)=>0<=i/\i<=3/\(l.length:Int)=i/\DS list a) (fun _ (i:Int) _=>(3 - i).toNat) ?_ ⟨by omega,by omega,rfl,hD⟩;rintro l i a ⟨i0,i1,hl,hD⟩;refine Qi hD (by decide) fun q a q0 q1 hD=>Cnd.mk (fun hc=>Qi hD (by decide) fun w a w0 w1 hD=>⟨by unfold InI;omega,?_⟩) fun _=>h _ _ (by omega)
 refine Jn2.mk (fun _ a=>DS list a) (Qi hD (by decide) fun r a _ _ hD=>Cnd.mk (fun _=>hD) fun _=>hD) fun ly a hD=> ?_
 refine Jn4.mk (fun _ _ _ a=>DS list a) ?_ fun _ _ _ a hD=>⟨by unfold Sml;simp;omega,by unfold InI;omega,⟨by omega,by omega,by simp;omega,hD⟩,by omega⟩
 refine Qi hD (by decide) fun r a r0 r1 hD _=>Cnd.mk (fun hc=>⟨by omega,fun y hy=> ?_⟩) fun _=>hD
 refine Jn2.mk (fun _ a=>DS list a) (Qi hD (by decide) fun q a _ _ hD=>Cnd.mk (fun _=>⟨by omega,fun z hz=>hD⟩) fun _=>hD) fun ly a hD=>⟨by omega,fun z hz=>Qi hD (by decide) fun q a _ _ hD=>Cnd.mk (fun _ _=>Cnd.mk (fun hl0 _=> ?_) fun _=>hD) fun _=>hD⟩
 have hz1:=(hE.exps z (getm hz)).arms.1;exact Qi hD (by omega) fun u a u0 u1 hD=>⟨⟨u0,u1⟩,fun w hw=>hD⟩
end Go.En
end
noncomputable section
namespace Go.En
open Go Go.Fl Go.Fl.Lk Go.Fx
def ixF{α:Type}(p:α->Bool):List α->Nat->Option (Nat×α)
 |[],_=>none
 |a::l,i=>if p a=true then some (i,a) else ixF p l (i+1)
theorem y0l{α:Type}{l:List α}{p:α->Bool}{i:Nat}{y:α}(hy:l[i]? =some y)(hp:p y=true):ixF p (l.drop i) i=some (i,y):=by
 have hlt:=Qh hy;rw[List.drop_eq_getElem_cons hlt];have e:l[i]=y:=by rw[List.getElem?_eq_getElem hlt] at hy;exact Option.some.inj hy
 rw[e,ixF,if_pos hp]
theorem v1w{α:Type}{l:List α}{p:α->Bool}{i:Nat}{y:α}(hy:l[i]? =some y)(hp:p y=false):ixF p (l.drop i) i=ixF p (l.drop (i+1)) (i+1):=by
 have hlt:=Qh hy;rw[List.drop_eq_getElem_cons hlt];have e:l[i]=y:=by rw[List.getElem?_eq_getElem hlt] at hy;exact Option.some.inj hy
 rw[e,ixF,if_neg (by rw[hp];simp)]
theorem v8s{α:Type}{p:α->Bool}: ∀{l:List α} {n i:Nat} {y:α},ixF p l n=some (i,y)->n<=i/\l[i - n]? =some y/\p y=true
 |[],_,_,_,h=>by cases h
 |a::l,n,i,y,h=>by
  rw[ixF] at h;split at h
  .cases h;exact⟨Nat.le_refl _,by simp,by assumption⟩
  .obtain⟨h1,h2,h3⟩:=v8s h;refine⟨by omega,?_,h3⟩;rw[show i - n=(i - (n+1))+1 by omega];exact h2
theorem u8z{α:Type}{l:List α}(p:α->Bool){G:Int->α->(Int->Prop)->Prop}{B:Prop}(hl:l.length<=1000000000)(hB:ixF p l 0=none->B)
  (hG: ∀(i:Nat) y Y,l[i]? =some y->i<l.length->(p y=true->ixF p l 0=some (i,y))->(p y=false->InI ((i:Int)+1)/\Y ((i:Int)+1))->G (i:Int) y Y):
  Lp1 (fun x Y=>Cnd (x<(l.length:Int)) ((0<=x/\x<(l.length:Int))/\∀y,l[x.toNat]? =some y->G x y Y) B) 0:=by
 refine Lp1.ind (fun i=> ∃j:Nat,i=(j:Int)/\j<=l.length/\ixF p l 0=ixF p (l.drop j) j) (fun i=>(l.length - i).toNat) ?_ ⟨0,rfl,by omega,rfl⟩;rintro i ⟨j,rfl,hj,hf⟩;refine Cnd.mk (fun hc=>⟨by omega,fun y hy=> ?_⟩) fun hc=> ?_
 .have hy:l[j]? =some y:=hy;refine hG j y _ hy (by omega) (fun hp=>by rw[hf,y0l hy hp]) fun hp=>⟨by unfold InI;omega,⟨j+1,by omega,by omega,by rw[hf,v1w hy hp]⟩,by omega⟩
 .refine hB ?_;rw[hf,List.drop_eq_nil_of_le (by omega)];rfl
abbrev numB(n:Int):BA:=⟨(Go.Lib.itoa n).toArray⟩
def hkV(v:Val):Option BA:=
 if v.1=3\/v.1=4 then some v.3 else if v.1=2 then some (numB v.2) else if v.1=1 then some (if v.2=1 then ByteArray.mk (Array.mk [116,114,117,101]) else ByteArray.mk (Array.mk [102,97,108,115,101])) else none
def bksV(s:Subj)(k b salt:BA):Option Int:=(lkp s k b).bind fun v=>(hkV v).map fun t=>ofV salt t
def srvV(s:Subj)(v:Srv):Int×Int×Bool:=
 if v.1≠0 then (v.1, -1,true) else match bksV s v.2 v.3 v.4 with
 |some b=>(y2w v.5 b,b,true)
 |none=>(0, -1,false)
def tgP(s:Subj)(t:Tgt):Bool:=match fnd s t.1 with
 |some c=>dec (c.2∈t.3)
 |none=>false
def fof(v:Envt)(key:BA):Option Flg:=v.4.find? fun f=>decide (f.1=key)
def metV(v:Envt)(dv:Flg->Int)(p:Prq):Bool:=match fof v p.1 with
 |some g=>g.4 && decide (dv g=p.2)
 |none=>false
def inXV(v:Envt)(s:Subj)(fs:List Frc)(key:BA)(x:Exper):Bool:=decide (x.3=key) && (decide (x.5=2) && decide ((asgV v s fs x.2).1.2=x.1))
def abV(v:Envt)(s:Subj)(x:Exper):Int:=match lof v x.2 with
 |some l=>(match fnd s l.2 with
  |some c=>ofV x.4 c.2
  |none=> -1)
 |none=> -1
def svd(s:Subj)(off:Int)(sv:Srv)(k i:Int)(n:BA):Int×Rsn:=
 if (srvV s sv).2.2=true then ((srvV s sv).1,Rsn.mk k i n (srvV s sv).2.1) else (off,Rsn.mk 7 i noT (-1))
def rlsV(v:Envt)(s:Subj)(f:Flg):Int×Rsn:=match ixF (fun r=>cndV v s r.2) f.8 0 with
 |some q=>svd s f.5 q.2.3 5 ((q.1:Int)+1) q.2.1
 |none=>svd s f.5 f.9 6 0 noT
def chsV(v:Envt)(s:Subj)(fs:List Frc)(dv:Flg->Int)(f:Flg):Int×Rsn:=
 if f.4=false then (f.5,Rsn.mk 1 0 noT (-1)) else
 match f.6.find? (fun p=> !metV v dv p) with
 |some p=>(f.5,Rsn.mk 2 0 p.1 (-1))
 |none=>match ixF (tgP s) f.7 0 with
  |some q=>(q.2.2,Rsn.mk 3 ((q.1:Int)+1) noT (-1))
  |none=>match v.6.find? (inXV v s fs f.1) with
   |some x=>((asgV v s fs x.2).1.4,Rsn.mk 4 0 x.1 (abV v s x))
   |none=>rlsV v s f
def dvN(v:Envt)(s:Subj)(fs:List Frc):Nat->Flg->Int
 |0,f=>(chsV v s fs (fun _=>0) f).1
 |n+1,f=>(chsV v s fs (dvN v s fs n) f).1
def dcV(v:Envt)(s:Subj)(fs:List Frc)(f:Flg):Int×Rsn:=chsV v s fs (dvN v s fs v.4.length) f
def valV(l:List Val)(k:Int):Val:=if 1<=k/\k<=(l.length:Int) then (l[(k - 1).toNat]?).getD noV else noV
def dcsV(v:Envt)(s:Subj)(fs:List Frc)(f:Flg):Dcs:=Dcs.mk f.1 (dcV v s fs f).1 (valV f.3 (dcV v s fs f).1) (dcV v s fs f).2 0
structure FlB(l:List Flg):Prop where
 nd:(l.map Flg.key).Nodup
 ord: ∀(i:Nat) f,l[i]? =some f-> ∀p∈f.6,∀(j:Nat) g,l[j]? =some g->p.1=g.1->j<i
theorem v5l{v:Envt}{key:BA}{g:Flg}(h:fof v key=some g): ∃j:Nat,v.4[j]? =some g/\key=g.1:=by unfold fof at h;obtain⟨j,hj⟩:=List.getElem?_of_mem (List.mem_of_find?_eq_some h);have:=List.find?_some h;simp only[decide_eq_true_eq] at this;exact⟨j,hj,this.symm⟩
theorem y0m{v:Envt}(hB:FlB v.4){i:Nat}{g:Flg}(h:v.4[i]? =some g):fof v g.1=some g:=by
 have hnd:=hB.nd;have hg:=getm h;unfold fof;generalize v.4=L at hnd hg;clear h
 induction L with
 |nil=>cases hg
 |cons a L ih=>
  rw[List.find?_cons];rw[List.map_cons,List.nodup_cons] at hnd;rcases List.mem_cons.1 hg with rfl|hg
  .simp
  .rw[decide_eq_false (fun e=>hnd.1 (by rw[e];exact List.mem_map_of_mem hg))];exact ih hnd.2 hg
theorem y3a{v:Envt}{d d':Flg->Int}{p:Prq}(h: ∀g,fof v p.1=some g->d g=d' g):metV v d p=metV v d' p:=by
 unfold metV;cases hf:fof v p.1 with
 |none=>rfl
 |some g=>simp only;rw[h g hf]
theorem w87{α:Type}{p q:α->Bool}: ∀{l:List α},(∀x∈l,p x=q x)->l.find? p=l.find? q
 |[],_=>rfl
 |a::l,h=>by rw[List.find?_cons,List.find?_cons,h a List.mem_cons_self,w87 fun x hx=>h x (List.mem_cons_of_mem _ hx)]
theorem w88{v:Envt}{s:Subj}{fs:List Frc}{d d':Flg->Int}{f:Flg}(h: ∀p∈f.6,∀g,fof v p.1=some g->d g=d' g):chsV v s fs d f=chsV v s fs d' f:=by unfold chsV;rw[w87 (q:=fun p=> !metV v d' p) fun p hp=>by rw[y3a (h p hp)]]
theorem y3b{v:Envt}{s:Subj}{fs:List Frc}(hB:FlB v.4): ∀(i n m:Nat) (f:Flg),v.4[i]? =some f->i<=n->i<=m->dvN v s fs n f=dvN v s fs m f:=by
 intro i
 induction i using Nat.strongRecOn with
 |ind i ih=>
  intro n m f hf hn hm;have key: ∀d d':Flg->Int,(∀(j:Nat) g,j<i->v.4[j]? =some g->d g=d' g)->chsV v s fs d f=chsV v s fs d' f:=fun d d' h=>w88 fun p hp g hg=>by obtain⟨j,hj,hk⟩:=v5l hg;exact h j g (hB.ord i f hf p hp j g hj hk) hj
  cases n with
  |zero=>
   cases m with
   |zero=>rfl
   |succ m=>unfold dvN;rw[key _ (dvN v s fs m) fun j g hj=>by omega]
  |succ n=>
   cases m with
   |zero=>unfold dvN;rw[key _ (fun _=>0) fun j g hj=>by omega]
   |succ m=>unfold dvN;rw[key _ (dvN v s fs m) fun j g hj hg=>ih j hj n m g hg (by omega) (by omega)]
theorem u1y{v:Envt}{s:Subj}{fs:List Frc}(hB:FlB v.4){i:Nat}{f:Flg}(hf:v.4[i]? =some f):dcV v s fs f=chsV v s fs (fun g=>(dcV v s fs g).1) f:=by
 have hi:=Qh hf;unfold dcV;refine w88 fun p hp g hg=> ?_
 obtain⟨j,hj,hk⟩:=v5l hg;have hji:=hB.ord i f hf p hp j g hj hk;obtain⟨n,hn⟩: ∃n,v.4.length=n+1:=⟨v.4.length - 1,by omega⟩;have h2:(chsV v s fs (dvN v s fs v.4.length) g).1=dvN v s fs (v.4.length+1) g:=rfl;rw[h2];exact y3b hB j _ _ g hj (by omega) (by omega)
end Go.En
end
noncomputable section
namespace Go.En
open Go Go.Fl Go.Fl.Lk Go.Fx
theorem u7d: ∀x∈exK,x≠noT:=by unfold exK;decide
end Go.En
end
noncomputable section
namespace Go.En
open Go Go.Fl Go.Fl.Lk Go.Fx
theorem y7u(n:Nat):(flK.take n).Nodup:=(show flK.Nodup by unfold flK;decide).sublist (List.take_sublist _ _)
theorem u7e{v:Envt}(hD:EnvD v):FlB v.4:=by
 have hnd:(v.4.map Flg.key).Nodup:=by rw[hD.flags.keys];exact y7u _
 refine⟨hnd,fun i f hf p hp j g hg hpg=> ?_⟩;obtain⟨g',hg',hk,_⟩:=(hD.flags.all i f hf).needs p hp;obtain⟨q,hq⟩:=List.getElem?_of_mem hg';rw[List.getElem?_take] at hq;split at hq
 .rename_i hlt;have hlg:=Qh hg;have hlq:=Qh hq;have e:j=q:=by
   have h1:(v.4.map Flg.key)[j]? =some g.1:=by rw[List.getElem?_map,hg];rfl
   have h2:(v.4.map Flg.key)[q]? =some g.1:=by rw[List.getElem?_map,hq,<-hpg,hk];rfl
   have hlj:j<(v.4.map Flg.key).length:=by rw[List.length_map];exact hlg
   have hlk:q<(v.4.map Flg.key).length:=by rw[List.length_map];exact hlq
   rw[List.getElem?_eq_getElem hlj] at h1;rw[List.getElem?_eq_getElem hlk] at h2;exact (List.getElem_inj (h₀:=hlj) (h₁:=hlk) hnd).1 ((Option.some.inj h1).trans (Option.some.inj h2).symm)
  omega
 .cases hq
end Go.En
end
noncomputable section
namespace Go.En
open Go Go.Fl Go.Fl.Lk Go.Fx
def rstD(n:Int):List UInt8:=if n=0 then [] else Go.Lib.decDigits n.natAbs
theorem y7v{n:Int}(h:n≠0):rstD n=rstD (n.tdiv 10)++[UInt8.ofNat (48+(n.tmod 10).natAbs)]:=by
 have e1:(n.tdiv 10).natAbs=n.natAbs / 10:=Int.natAbs_tdiv n 10;have e2:(n.tmod 10).natAbs=n.natAbs % 10:=by rw[Int.natAbs_tmod];rfl
 have hn:n.natAbs≠0:=by omega
 unfold rstD;rw[if_neg h,e2];by_cases hs:n.natAbs<10
 .have:n.tdiv 10=0:=by omega
  rw[if_pos this,Go.Lib.decDigits,dif_pos hs,Nat.mod_eq_of_lt hs];rfl
 .have:n.tdiv 10≠0:=by omega
  rw[if_neg this,e1,Go.Lib.decDigits,dif_neg hs]
theorem y7w{d:Nat}(h:d<10):Utf8.encode ((48:Int)+(d:Int))=⟨#[UInt8.ofNat (48+d)]⟩:=by rcases (show d=0\/d=1\/d=2\/d=3\/d=4\/d=5\/d=6\/d=7\/d=8\/d=9 by omega) with rfl|rfl|rfl|rfl|rfl|rfl|rfl|rfl|rfl|rfl<;>rfl
theorem v1x{n:Int}(h:n≠0):Go.Lib.itoa n=(if n<0 then [45] else [])++rstD n:=by
 unfold Go.Lib.itoa rstD;rw[if_neg h];split
 .rfl
 .rw[show n.toNat=n.natAbs by omega];rfl
theorem v5m:Go.Lib.itoa 0=[48]:=by unfold Go.Lib.itoa;rw[if_neg (by decide),Go.Lib.decDigits];rfl
end Go.En
end
noncomputable section
namespace Go.En
open Go Go.Fl Go.Fl.Lk Go.Fx
def NumB(s:Subj):Prop:= ∀c∈s.ctxs,∀a∈c.attrs,InI a.value.number
theorem y3c{s:Subj}(hc: ∀c∈s.ctxs,CtxS c):NumB s:=fun c hm a ha=>((hc c hm).l a ha).num
theorem y7x: ∀(k n:Nat),n<10 ^ k->1<=k->(Go.Lib.decDigits n).length<=k
 |0,_,_,h=>by omega
 |k+1,n,h,_=>by
  rw[Go.Lib.decDigits];split
  .simp
  .rename_i hs;have hk:1<=k:=by
    refine Nat.one_le_iff_ne_zero.2 fun e=> ?_
    subst e;simp at h;omega
   have:=y7x k (n / 10) (by rw[Nat.pow_succ] at h;omega) hk;simp;omega
theorem y7y{n:Int}(h:InI n):(rstD n).length<=19:=by
 unfold rstD;split
 .simp
 .refine y7x 19 _ ?_ (by decide);have:(10:Nat) ^ 19=10000000000000000000:=by decide
  unfold InI at h;omega
theorem w6o{a b:BA}(h:a.data.toList=b.data.toList):a=b:=by cases a;cases b;congr 1;exact Array.ext' h
theorem w6p(n:Int):(numB n).data.toList=Go.Lib.itoa n:=rfl
theorem u0l{n:Int}(h:InI n):(numB n).size<=100:=by
 show (Go.Lib.itoa n).toArray.size<=100;rw[List.size_toArray];by_cases h0:n=0
 .subst h0;rw[v5m];decide
 .rw[v1x h0];have:=y7y h;split<;>simp<;>omega
theorem w72{n:Int}{K:BA->Prop}(hn:InI n)(h:K (numB n)):q8x n K:=by unfold q8x;exact⟨hn,h⟩
theorem y3d{d:Int}(h0:0<=d)(h1:d<10):Go.Utf8.encode (IntKind.i32.wrap (48+d))=⟨#[UInt8.ofNat (48+d.natAbs)]⟩:=by
 obtain⟨k,rfl⟩: ∃k:Nat,d=k:=⟨d.toNat,by omega⟩;have e:IntKind.i32.wrap (48+(k:Int))=48+(k:Int):=by rcases (show k=0\/k=1\/k=2\/k=3\/k=4\/k=5\/k=6\/k=7\/k=8\/k=9 by omega) with rfl|rfl|rfl|rfl|rfl|rfl|rfl|rfl|rfl|rfl<;>decide
 rw[e,y7w (by omega)];rfl
theorem v5n{n:Int}{K:BA->Prop}(hn:InI n)(h:K (numB n)):z6f n K:=by
 unfold z6f;refine Cnd.mk (fun h0=> ?_) fun h0=> ?_
 .subst h0;have e:numB 0=ByteArray.mk (Array.mk [48]):=w6o (by rw[w6p,v5m]);rw[e] at h;exact h
 have hr:=y7y hn;refine Lp2.ind (fun x s=>InI x/\rstD n=rstD x++s.data.toList) (fun x _=>x.natAbs) ?_ ⟨hn,by simp⟩;rintro x s ⟨hx,hs⟩;have hsz:s.size<=19:=by
  have:=congrArg List.length hs;rw[List.length_append] at this;have e:s.size=s.data.toList.length:=by rw[Array.length_toList];rfl
  omega
 refine Cnd.mk (fun hz=> ?_) fun hz=>⟨by decide,?_⟩
 .subst hz;have hs:rstD n=s.data.toList:=hs;refine Cnd.mk (fun hneg=>⟨?_,?_⟩) fun hneg=> ?_
  .have:(ByteArray.mk (Array.mk [45])).size=1:=rfl;rw[this];omega
  .have e:numB n=ByteArray.mk (Array.mk [45])++s:=w6o (by rw[w6p,v1x h0,if_pos hneg,hs];simp);rw[e] at h;exact h
  .have e:numB n=s:=w6o (by rw[w6p,v1x h0,if_neg hneg,hs];simp);rw[e] at h;exact h
 .have step: ∀d:Int,d=((x.tmod 10).natAbs:Int)->InI (48+d)/\((((Go.Utf8.encode (IntKind.i32.wrap (48+d))).size+s.size:Nat):Int)<=(9223372036854775807:Int))/\(10:Int)≠0/\InI (x.tdiv 10)/\(InI (x.tdiv 10)/\rstD n=rstD (x.tdiv 10)++(Go.Utf8.encode (IntKind.i32.wrap (48+d))++s).data.toList)/\(x.tdiv 10).natAbs<x.natAbs:=fun d hd=>by
   have h1:(x.tmod 10).natAbs<10:=by rw[Int.natAbs_tmod];exact Nat.mod_lt _ (by decide)
   have hi:InI (x.tdiv 10):=by have:(x.tdiv 10).natAbs=x.natAbs / 10:=Int.natAbs_tdiv x 10;unfold InI at hx⊢;omega
   have ha:(x.tdiv 10).natAbs<x.natAbs:=by have:(x.tdiv 10).natAbs=x.natAbs / 10:=Int.natAbs_tdiv x 10;omega
   rw[y3d (by omega) (by omega)];refine⟨by unfold InI;omega,?_,by decide,hi,⟨hi,?_⟩,ha⟩
   .have:(ByteArray.mk (Array.mk [UInt8.ofNat (48+d.natAbs)])).size=1:=rfl;rw[this];omega
   .rw[hs,y7v hz,show d.natAbs=(x.tmod 10).natAbs by omega];simp
  refine Jn1.mk (fun d=>d=((x.tmod 10).natAbs:Int)) (Cnd.mk (fun hm=>⟨?_,by omega⟩) fun hm=>by omega) fun d hd=> ?_
  .have h1:(x.tmod 10).natAbs<10:=by rw[Int.natAbs_tmod];exact Nat.mod_lt _ (by decide)
   unfold InI;omega
  exact step d hd
theorem v1y{v:Val}{K:BA->Bool->Prop}(hn:InI v.2)(h:K ((hkV v).getD noT) (hkV v).isSome):z16 v K:=by
 unfold z16 z87;refine Jn1.mk (fun b=>b=true↔v.1=3\/v.1=4) (Cnd.mk (fun e=>by simp[e]) fun e=>by simp[e]) ?_;intro b hb;unfold hkV at h;refine Cnd.mk (fun ht=> ?_) fun ht=> ?_
 .rw[if_pos (hb.1 ht)] at h;exact h
 rw[if_neg (fun e=>ht (hb.2 e))] at h;refine Cnd.mk (fun e=> ?_) fun e=> ?_
 .rw[if_pos e] at h;exact w72 hn h
 rw[if_neg e] at h;refine Cnd.mk (fun e1=> ?_) fun e1=> ?_
 .rw[if_pos e1] at h;refine Cnd.mk (fun e2=> ?_) fun e2=> ?_
  .rw[if_pos e2] at h;exact h
  .rw[if_neg e2] at h;exact h
 .rw[if_neg e1] at h;exact h
theorem y3e{v:Val}{K:BA->Bool->Prop}(hn:InI v.2)(h:K ((hkV v).getD noT) (hkV v).isSome):j52 v K:=by
 unfold j52 w4c;unfold hkV at h;refine Cnd.mk (fun e1=> ?_) fun e1=> ?_
 .rw[if_neg (by omega),if_neg (by omega),if_pos e1] at h;refine Cnd.mk (fun e2=> ?_) fun e2=> ?_
  .rw[if_pos e2] at h;exact h
  .rw[if_neg e2] at h;exact h
 refine Cnd.mk (fun e=> ?_) fun e=> ?_
 .rw[if_neg (by omega),if_pos e] at h;exact v5n hn h
 refine Jn1.mk (fun b=>b=true↔v.1=3\/v.1=4) (Cnd.mk (fun e=>by simp[e]) fun e=>by simp[e]) ?_;intro b hb;refine Cnd.mk (fun ht=> ?_) fun ht=> ?_
 .rw[if_pos (hb.1 ht)] at h;exact h
 .rw[if_neg (fun e=>ht (hb.2 e)),if_neg e,if_neg e1] at h;exact h
theorem u0m{s:Subj}{kind name:BA}{v:Val}(hN:NumB s)(h:lkp s kind name=some v):InI v.2:=by
 unfold lkp at h;cases hf:fnd s kind with
 |none=>rw[hf] at h;cases h
 |some c=>
  rw[hf] at h;simp only[Option.bind_some] at h;by_cases hk:name=keyB
  .rw[if_pos hk] at h;cases h;show InI 0;unfold InI;omega
  .rw[if_neg hk] at h;obtain⟨a,ha,rfl⟩:=Option.map_eq_some_iff.1 h;exact hN c (j9q hf) a (List.mem_of_find?_eq_some ha)
theorem u1z{v:Val}{t:BA}(hn:InI v.2)(hv:v.3.size<=2000000)(h:hkV v=some t):t.size<=10000000:=by
 unfold hkV at h;split at h
 .cases h;omega
 .split at h
  .cases h;have:=u0l hn;omega
  .split at h
   .cases h;split<;>decide
   .cases h
theorem j90{s:Subj}{k b salt:BA}{K:Int->Bool->Prop}(hs:SubB s)(hN:NumB s)(hz:salt.size<=10000000)(h:K ((bksV s k b salt).getD 0) (bksV s k b salt).isSome):q1k s k b salt K:=by
 unfold q1k q7z;refine z49 hs ?_;unfold bksV at h;cases hl:lkp s k b with
 |none=>rw[hl] at h;exact Cnd.no (by simp) h
 |some v=>
  rw[hl] at h;simp only[Option.bind_some] at h;refine Cnd.yes rfl (v1y (u0m hN hl) ?_);simp only[Option.getD_some];cases hk:hkV v with
  |none=>rw[hk] at h;exact Cnd.no (by simp) h
  |some t=>
   rw[hk] at h;exact Cnd.yes rfl (q7k hz (u1z (u0m hN hl) (y99 hs hl).2 hk) h)
theorem w73{s:Subj}{k b salt:BA}{K:Int->Bool->Prop}(hs:SubB s)(hN:NumB s)(hz:salt.size<=10000000)(h:K ((bksV s k b salt).getD 0) (bksV s k b salt).isSome):q80 s k b salt K:=by
 unfold q80 z6i;refine w0g hs ?_;unfold bksV at h;cases hl:lkp s k b with
 |none=>rw[hl] at h;exact Cnd.no (by simp) h
 |some v=>
  rw[hl] at h;simp only[Option.bind_some] at h;refine Cnd.yes rfl (y3e (u0m hN hl) ?_);simp only[Option.getD_some];cases hk:hkV v with
  |none=>rw[hk] at h;exact Cnd.no (by simp) h
  |some t=>
   rw[hk] at h;exact Cnd.yes rfl (z99 hz (u1z (u0m hN hl) (y99 hs hl).2 hk) h)
theorem j91{s:Subj}{v:Srv}{K:Int->Int->Bool->Prop}(hs:SubB s)(hN:NumB s)(hz:v.4.size<=10000000)(hl:v.5.length<=1000000)(h:K (srvV s v).1 (srvV s v).2.1 (srvV s v).2.2):q1l s v K:=by
 unfold q1l q70;unfold srvV at h;refine Cnd.mk (fun e=> ?_) fun e=>by rw[if_pos e] at h;exact h
 rw[if_neg (by omega)] at h;refine j90 hs hN hz ?_;cases hb:bksV s v.2 v.3 v.4 with
 |none=>rw[hb] at h;exact Cnd.no (by simp) h
 |some b=>rw[hb] at h;exact Cnd.yes rfl (j27 hl h)
theorem v5o{s:Subj}{v:Srv}{K:Int->Int->Bool->Prop}(hs:SubB s)(hN:NumB s)(hz:v.4.size<=10000000)(hl:v.5.length<=1000000)(h:K (srvV s v).1 (srvV s v).2.1 (srvV s v).2.2):z6j s v K:=by
 unfold z6j j3x;unfold srvV at h;refine Cnd.mk (fun e=> ?_) fun e=>by rw[if_pos e] at h;exact h
 rw[if_neg (by omega)] at h;refine w73 hs hN hz ?_;cases hb:bksV s v.2 v.3 v.4 with
 |none=>rw[hb] at h;exact Cnd.no (by simp) h
 |some b=>rw[hb] at h;exact Cnd.yes rfl (w6h hl h)
def tgtV(s:Subj)(f:Flg):Int:=match ixF (tgP s) f.7 0 with
 |some q=>(q.1:Int)+1
 |none=>0
theorem u7f{α:Type}{l:List α}(p:α->Bool){G:Int->α->(Int->Prop)->Prop}{B:Prop}(hl:l.length<=1000000000)(hB:ixF p l 0=none->B)
  (hG: ∀(i:Nat) y Y,l[i]? =some y->i<l.length->(p y=true->ixF p l 0=some (i,y))->(p y=false->InI ((i:Int)+1)/\Y ((i:Int)+1))->G (i:Int) y Y):
  Lp1 (fun x Y=>l.length<=(9223372036854775807:Nat)->Cnd (x<(l.length:Int)) ((0<=x/\x<(l.length:Int))/\∀y,l[x.toNat]? =some y->G x y Y) B) 0:=by
 refine Lp1.ind (fun i=> ∃j:Nat,i=(j:Int)/\j<=l.length/\ixF p l 0=ixF p (l.drop j) j) (fun i=>(l.length - i).toNat) ?_ ⟨0,rfl,by omega,rfl⟩;rintro i ⟨j,rfl,hj,hf⟩ _;refine Cnd.mk (fun hc=>⟨by omega,fun y hy=> ?_⟩) fun hc=> ?_
 .have hy:l[j]? =some y:=hy;refine hG j y _ hy (by omega) (fun hp=>by rw[hf,y0l hy hp]) fun hp=>⟨by unfold InI;omega,⟨j+1,by omega,by omega,by rw[hf,v1w hy hp]⟩,by omega⟩
 .refine hB ?_;rw[hf,List.drop_eq_nil_of_le (by omega)];rfl
theorem j7a{f:Flg}{s:Subj}{K:Int->Prop}(hs:SubB s)(ht:f.7.length<=1000000)(hk: ∀t∈f.7,t.3.length<=1048576)(h:K (tgtV s f)):V0 f s K:=by
 unfold V0 q5h;unfold tgtV at h;refine fun _=>u8z (tgP s) (by omega) (fun hn=>by rw[hn] at h;exact h) fun i y Y hy hi hp hq=>Bi hs ?_
 have miss:tgP s y=false->InI ((i:Int)+1)/\Y ((i:Int)+1):=hq;cases hf:fnd s y.1 with
 |none=>exact Cnd.no (by simp) (miss (by unfold tgP;rw[hf]))
 |some c=>
  refine Cnd.yes rfl fun _=>srch (fun k=>decide (k=c.2)) (by have:=hk y (getm hy);omega) (fun hn=>Cnd.no (by omega) (miss ?_)) fun j k Z hkk hj hp2 hq2=>Cnd.mk (fun e=>Cnd.yes (by omega) ⟨by unfold InI;omega,?_⟩) fun e=>hq2 (df fun e2=>e e2.symm)
  .unfold tgP;rw[hf];refine j66 fun hm=> ?_
   rw[List.find?_eq_none] at hn;exact hn _ hm (dt rfl)
  .have hc:c.2=k:=e;have ht:tgP s y=true:=by unfold tgP;rw[hf];exact w2u (hc▸getm hkk)
   rw[hp ht] at h;exact h
theorem v1z{f:Flg}{s:Subj}{K:Int->Prop}(hs:SubB s)(ht:f.7.length<=1000000)(h:K (tgtV s f)):q2r f s K:=by
 unfold q2r z9a;unfold tgtV at h;refine u7f (tgP s) (by omega) (fun hn=>by rw[hn] at h;exact h) fun i y Y hy hi hp hq=>q91 hs ?_
 cases hf:fnd s y.1 with
 |none=>exact Cnd.no (by simp) (hq (by unfold tgP;rw[hf]))
 |some c=>
  refine Cnd.yes rfl ⟨by omega,fun z hz=> ?_⟩;have hz:f.7[i]? =some z:=hz;rw[hy] at hz;cases hz;refine Gu fun r hr=>Cnd.mk (fun e=>⟨by unfold InI;omega,?_⟩) fun e=>hq ?_
  .have ht:tgP s y=true:=by unfold tgP;rw[hf];exact w2u (hr.1 e)
   rw[hp ht] at h;exact h
  .unfold tgP;rw[hf];exact j66 fun hm=>e (hr.2 hm)
end Go.En
end
noncomputable section
namespace Go.En
open Go Go.Fl Go.Fl.Lk Go.Fx
def SrvB(v:Srv):Prop:=v.4.size<=10000000/\v.5.length<=1000000
structure FlX(v:Envt):Prop where
 b:FlB v.4
 n:v.4.length<=1000
 vs: ∀f∈v.4,f.3.length<=1000000/\∀x∈f.3,x.4.length<=2000000
 p: ∀f∈v.4,f.6.length<=1000000
 t: ∀f∈v.4,f.7.length<=1000000/\∀t∈f.7,t.3.length<=1048576
 r: ∀f∈v.4,f.8.length<=1000000/\∀r∈f.8,wt r.2<=2000000/\EvB r.2/\SrvB r.3
 d: ∀f∈v.4,SrvB f.9
 x: ∀x∈v.6,x.1≠noT
theorem y7z{n:Int}{s:Srv}(h:SrvD n s):SrvB s:=⟨Nat.le_trans h.ok.salt (by decide),by have:=h.ok.split.1;omega⟩
theorem u7g{v:Envt}(hE:EnvS v)(hD:EnvD v):FlX v where
 b:=u7e hD
 n:=Nat.le_trans hE.flen (by decide)
 vs f hf:=⟨by have:=(hE.flags f hf).vlen;omega,fun x hx=>by have:=((hE.flags f hf).vals x hx).len;omega⟩
 p f hf:=by have:=(hE.flags f hf).nlen;omega
 t f hf:=⟨by have:=(hE.flags f hf).tlen;omega,fun t ht=>by
  obtain⟨i,hi⟩:=List.getElem?_of_mem hf
  have:=((hD.flags.all i f hi).tgts t ht).2;omega⟩
 r f hf:=⟨by have:=(hE.flags f hf).rlen;omega,fun r hr=>by
  obtain⟨i,hi⟩:=List.getElem?_of_mem hf;have h1:=(hD.flags.all i f hi).rules r hr
  exact⟨(v8q h1.cond).1,(v8q h1.cond).2,y7z h1.serve⟩⟩
 d f hf:=by obtain⟨i,hi⟩:=List.getElem?_of_mem hf;exact y7z (hD.flags.all i f hi).dflt
 x x hx:=u7d _ (hD.exps.subset (List.mem_map_of_mem hx))
abbrev noF:Flg:=Flg.mk noT 0 [] false 0 [] [] [] (Srv.mk 0 noT noT noT [])
abbrev noD:Dcs:=Dcs.mk noT 0 noV (Rsn.mk 0 0 noT 0) 0
theorem z5a{v:Envt}{s:Subj}{fs:List Frc}{K:BA->BA->Int->List Decl->List Seg->List Flg->List Lay_->List Exper->List Ctxt->List Frc->List BA->(BA->Option Dcs)->(BA->Option Bool)->Prop}(hv:AsB v)(hs:SubB s)
  (h:K v.1.1 v.1.2 v.1.3 v.2 v.3 v.4 v.5 v.6 s.1 fs (mem v.3 s) (fun _=>none) (fun _=>none)):H3 v s fs K:=by
 unfold H3 q7y;have one: ∀{K':List BA->Prop},K' (mem v.3 s)->Vz v.3 (Subj.mk s.1) K':=fun h=>z2p hv.sg hs fun m hm=>by rw[y0d hm];exact h
 exact⟨one ⟨h,h⟩,⟨one h,one h⟩,one h,one h⟩
section
variable {v:Envt}{s:Subj}{fs:List Frc}{inn:List BA}{done:BA->Option Dcs}{opn:BA->Option Bool}
theorem w6q{key:BA}{K:Flg->Bool->(BA->Option Dcs)->(BA->Option Bool)->Prop}(hn:v.4.length<=1000)(h:K ((fof v key).getD noF) (fof v key).isSome done opn):
  J6 v.1.1 v.1.2 v.1.3 v.2 v.3 v.4 v.5 v.6 s.1 fs inn done opn key K:=by
 unfold J6;unfold fof at h;refine fun _=>srch (fun f=>decide (f.1=key)) (by omega) (fun hf=> ?_) fun i y Y hy hi hp hq=>Cnd.mk (fun e=>Cnd.no (by omega) ⟨by omega,fun z hz=> ?_⟩) fun e=>hq (df e)
 .rw[hf] at h;exact Cnd.yes (by omega) h
 .have hz:v.4[i]? =some z:=hz;rw[hy] at hz;cases hz;rw[hp (dt e)] at h;exact h
theorem v10{x:Exper}{K:Int->(BA->Option Dcs)->(BA->Option Bool)->Prop}(hv:AsB v)(hs:SubB s)(hx:x.4.size<=10000000)(h:K (abV v s x) done opn):
  Wb v.1.1 v.1.2 v.1.3 v.2 v.3 v.4 v.5 v.6 s.1 fs inn done opn x K:=by
 unfold Wb q0n;unfold abV lof at h;have hln:=hv.ln;refine fun _=>srch (fun l=>decide (l.1=x.2)) (by omega) (fun hf=>by rw[hf] at h;exact h) fun i y Y hy hi hp hq=>Cnd.mk (fun e=>Bi (s:=s) hs ?_) fun e=>hq (df e)
 rw[hp (dt e)] at h;simp only at h;cases hf:fnd s y.2 with
 |none=>rw[hf] at h;exact Cnd.no (by simp) h
 |some c=>rw[hf] at h;exact Cnd.yes rfl (q7k hx (j0h hs hf) h)
theorem w0o{f:Flg}{sv:Srv}{r:Rsn}{K:Int->Rsn->(BA->Option Dcs)->(BA->Option Bool)->Prop}(hs:SubB s)(hN:NumB s)(hb:SrvB sv)(h:K (svd s f.5 sv r.1 r.2 r.3).1 (svd s f.5 sv r.1 r.2 r.3).2 done opn):
  Wj v.1.1 v.1.2 v.1.3 v.2 v.3 v.4 v.5 v.6 s.1 fs inn done opn f sv r K:=by
 unfold Wj q2b;unfold svd at h;refine j91 (s:=s) hs hN hb.1 hb.2 (Cnd.mk (fun e=> ?_) fun e=> ?_)
 .rw[if_pos e] at h;exact h
 .rw[if_neg e] at h;exact h
end
end Go.En
end
noncomputable section
namespace Go.En
open Go Go.Fl Go.Fl.Lk Go.Fx
theorem z2r{l:List Val}{n:Int}{Z:Int->Int->BA->List BA->Prop}(hl:l.length<=1000000)(h:Z (valV l n).1 (valV l n).2 (valV l n).3 (valV l n).4):
  Jn4 Z fun Y=>Cnd (1<=n) (Fits l->Cnd (n<=(l.length:Int)) (InI (n - 1)/\At l (n - 1) fun y=>Y y.1 y.2 y.3 y.4) (Y 0 0 noT [])) (Y 0 0 noT []):=by
 refine Jn4.mk (fun a b c d=>a=(valV l n).1/\b=(valV l n).2/\c=(valV l n).3/\d=(valV l n).4) (Cnd.mk (fun h1 _=>Cnd.mk (fun h2=>⟨by unfold InI;omega,by omega,fun y hy=> ?_⟩) fun h2=> ?_) fun h1=> ?_) fun a b c d ⟨e1,e2,e3,e4⟩=>by rw[e1,e2,e3,e4];exact h
 .unfold valV;rw[if_pos ⟨h1,h2⟩,hy];exact⟨rfl,rfl,rfl,rfl⟩
 .unfold valV;rw[if_neg (fun k=>h2 k.2)];exact⟨rfl,rfl,rfl,rfl⟩
 .unfold valV;rw[if_neg (fun k=>h1 k.1)];exact⟨rfl,rfl,rfl,rfl⟩
theorem u0n{l:List Val}{n:Int}(h: ∀x∈l,x.4.length<=2000000):(valV l n).4.length<=2000000:=by
 unfold valV;split
 .cases hq:l[(n - 1).toNat]? with
  |none=>simp
  |some x=>exact h x (getm hq)
 .simp
def DnI(v:Envt)(s:Subj)(fs:List Frc)(done:BA->Option Dcs):Prop:= ∀k d,done k=some d-> ∃f∈v.4,k=f.1/\d=dcsV v s fs f
theorem DnI.nil{v:Envt}{s:Subj}{fs:List Frc}:DnI v s fs fun _=>none:=fun _ _ h=>by cases h
theorem DnI.put{v:Envt}{s:Subj}{fs:List Frc}{done:BA->Option Dcs}(h:DnI v s fs done){f:Flg}(hf:f∈v.4):DnI v s fs (put done f.1 (dcsV v s fs f)):=fun k d hk=>by
 unfold Fl.put at hk;split at hk
 .rename_i e;cases hk;exact⟨f,hf,e,rfl⟩
 .exact h k d hk
theorem u4t{o:BA->Option Bool}{k:BA}{b:Bool}(h:o k=none):dlt (put o k b) k=o:=by
 funext q;unfold dlt Fl.put;by_cases e:q=k
 .rw[if_pos e,e,h]
 .rw[if_neg e,if_neg e]
theorem u4u{v:Envt}{s:Subj}{fs:List Frc}{key:BA}(h:(asgV v s fs key).2≠0):(asgV v s fs key).1.2=noT:=by
 unfold asgV at h⊢;split
 .rename_i l hl;rw[hl] at h;exact absurd rfl h
 .rfl
theorem nodup_at{v:Envt}(hB:FlB v.4){i j:Nat}{f g:Flg}(hf:v.4[i]? =some f)(hg:v.4[j]? =some g)(h:i≠j):f.1≠g.1:=fun e=>by have h1:=y0m hB hf;have h2:=y0m hB hg;rw[e,h2] at h1;have e2:g=f:=Option.some.inj h1;subst e2;have hnd:=hB.nd;have a:=Qh hf;have b:=Qh hg;refine h ((List.getElem_inj (h₀:=by rw[List.length_map];exact a) (h₁:=by rw[List.length_map];exact b) hnd).1 ?_);rw[List.getElem_map,List.getElem_map];rw[List.getElem?_eq_getElem a] at hf;rw[List.getElem?_eq_getElem b] at hg;rw[Option.some.inj hf,Option.some.inj hg]
theorem v5p{v:Envt}{s:Subj}{fs:List Frc}(hv:AsB v)(hF:FlX v)(hs:SubB s)(hN:NumB s)(hfs:fs.length<=1000000000){i:Nat}{f:Flg}(hf:v.4[i]? =some f){done:BA->Option Dcs}{opn:BA->Option Bool}
  {K:Dcs->(BA->Option Dcs)->(BA->Option Bool)->Prop}(hd:DnI v s fs done)(ho: ∀(j:Nat) g,j<=i->v.4[j]? =some g->opn g.1=none)(hK: ∀done',DnI v s fs done'->K (dcsV v s fs f) done' opn):
  Vb v.1.1 v.1.2 v.1.3 v.2 v.3 v.4 v.5 v.6 s.1 fs (mem v.3 s) done opn f K:=by
 intro X hX
 induction i using Nat.strongRecOn generalizing f done opn K with
 |ind i ih=>
  refine hX _ _ _ _ _ _ _ _ _ _ _ _ _ _ _ ?_;clear hX;have hm:=getm hf;have hvs:=hF.vs f hm;unfold q0o;refine Jn1.mk (fun t=> ∃done',DnI v s fs done'/\t=(f.1,(dcsV v s fs f).2,(dcsV v s fs f).3.1,(dcsV v s fs f).3.2,(dcsV v s fs f).3.3,(dcsV v s fs f).3.4,(dcsV v s fs f).4.1,(dcsV v s fs f).4.2,(dcsV v s fs f).4.3,(dcsV v s fs f).4.4,(dcsV v s fs f).5,done',opn,())) ?_ ?_
  case refine_2=>
   rintro _ ⟨done',hd',rfl⟩;exact q6h (u0n hvs.2) (hK done' hd')
  have fin: ∀{n:Int} {r:Rsn} {done1:BA->Option Dcs} {opn1:BA->Option Bool},DnI v s fs done1->opn1=put opn f.1 true->dcV v s fs f=(n,r)-> ∃done',DnI v s fs done'/\(f.1,n,(valV f.3 n).1,(valV f.3 n).2,(valV f.3 n).3,(valV f.3 n).4,r.1,r.2,r.3,r.4,(0:Int),put done1 f.1 (Dcs.mk f.1 n (valV f.3 n) r 0),dlt opn1 f.1,())=(f.1,(dcsV v s fs f).2,(dcsV v s fs f).3.1,(dcsV v s fs f).3.2,(dcsV v s fs f).3.3,(dcsV v s fs f).3.4,(dcsV v s fs f).4.1,(dcsV v s fs f).4.2,(dcsV v s fs f).4.3,(dcsV v s fs f).4.4,(dcsV v s fs f).5,done',opn,()):=by
   intro n r done1 opn1 h1 h2 h3;have e:dcsV v s fs f=Dcs.mk f.1 n (valV f.3 n) r 0:=by unfold dcsV;rw[h3]
   refine⟨_,h1.put hm,?_⟩;rw[e,h2,u4t (ho i f (Nat.le_refl _) hf)]
  refine Cnd.mk (fun hm1=> ?_) fun hm1=> ?_
  .obtain⟨d,hdd⟩:=Option.isSome_iff_exists.1 hm1;rw[hdd];obtain⟨g,hg,hk,rfl⟩:=hd _ _ hdd;obtain⟨j,hj⟩:=List.getElem?_of_mem hg;have e:g=f:=by have a1:=y0m hF.b hj;rw[<-hk,y0m hF.b hf] at a1;exact (Option.some.inj a1).symm
   subst e;exact⟨done,hd,rfl⟩
  have hdc:=u1y (s:=s) (fs:=fs) hF.b hf;unfold chsV at hdc;refine Cnd.mk (fun hon=>fun _=> ?_) fun hon=> ?_
  case refine_2=>
   rw[if_pos (by simpa using hon)] at hdc;exact z2r hvs.1 (fin hd rfl hdc)
  rw[if_neg (by rw[hon];simp)] at hdc;have hol: ∀(j:Nat) g,j<i->v.4[j]? =some g->put opn f.1 true g.1=none:=fun j g hj hg=>by unfold Fl.put;rw[if_neg (nodup_at hF.b hg hf (by omega))];exact ho j g (by omega) hg
  have hpl:=hF.p f hm;refine LpH.ind (fun t=> ∃(j:Nat) (a b:Int) (c:BA) (e:Int) (done1:BA->Option Dcs),t=((j:Int),a,b,c,e,put opn f.1 true,done1,())/\j<=f.6.length/\DnI v s fs done1/\(f.6.find? fun p=> !metV v (fun g=>(dcV v s fs g).1) p)=(f.6.drop j).find? fun p=> !metV v (fun g=>(dcV v s fs g).1) p) (fun t=>(f.6.length - t.1).toNat) ?_ ⟨0,_,_,_,_,done,rfl,by omega,hd,rfl⟩;rintro _ ⟨j,a,b,c,e,done1,rfl,hj,hd1,hfd⟩;dsimp only;refine Cnd.mk (fun hlt=>⟨by omega,fun p hp=> ?_⟩) fun hlt=> ?_
  .have hp:f.6[j]? =some p:=hp;have miss:metV v (fun g=>(dcV v s fs g).1) p=false->dcV v s fs f=(f.5,Rsn.mk 2 0 p.1 (-1)):=fun hmf=>by rw[hfd,q6i hp (by rw[hmf];rfl)] at hdc;exact hdc
   refine w6q (v:=v) (s:=s) hF.n ?_;cases hfo:fof v p.1 with
   |none=>exact Cnd.no (by simp) (z2r hvs.1 (fin hd1 rfl (miss (by unfold metV;rw[hfo]))))
   |some g=>
    obtain⟨q,hq,hpk⟩:=v5l hfo;have hqi:=hF.b.ord i f hf p (getm hp) q g hq hpk;refine Cnd.yes rfl (Cnd.mk (fun hgo=>Cnd.no ?_ ?_) fun hgo=> ?_)
    .show ¬(put opn f.1 true g.1).getD false=true;rw[hol q g hqi hq];simp
    .refine ih q hqi hq hd1 (fun j' g' hj' hg'=>hol j' g' (by omega) hg') fun done2 hd2=> ?_
     refine Cnd.mk (fun he=>⟨by unfold InI;omega,⟨j+1,a,b,c,e,done2,rfl,by omega,hd2,?_⟩,by show ((f.6.length:Int) - ((j:Int)+1)).toNat<((f.6.length:Int) - (j:Int)).toNat;omega⟩) fun he=>z2r hvs.1 (fin hd2 rfl (miss ?_))
     .have he:(dcV v s fs g).1=p.2:=he;rw[hfd,q07 hp];unfold metV;rw[hfo];simp only;have hgo:g.4=true:=hgo;rw[hgo,dt he];rfl
     .have he: ¬(dcV v s fs g).1=p.2:=he;unfold metV;rw[hfo];simp only;rw[df he];simp
    .have hgo: ¬g.4=true:=hgo;refine z2r hvs.1 (fin hd1 rfl (miss ?_));unfold metV;rw[hfo];simp only;rw[Bool.eq_false_iff.2 hgo];rfl
  .rw[hfd,List.drop_eq_nil_of_le (by omega),List.find?_nil] at hdc;clear hfd hlt;refine j7a (f:=f) (s:=s) hs (hF.t f hm).1 (hF.t f hm).2 ?_;unfold tgtV;cases hix:ixF (tgP s) f.7 0 with
   |some q=>
    rw[hix] at hdc;have hsp:=v8s hix;refine Cnd.yes (by simp only;omega) ⟨by have:=Qh hsp.2.1;have:=(hF.t f hm).1;unfold InI;simp only;omega,by have:=Qh hsp.2.1;simp only;omega,fun y hy=> ?_⟩;simp only at hy;have hq2:=hsp.2.1;rw[show ((q.1:Int)+1 - 1).toNat=q.1 - 0 by omega,hq2] at hy;cases hy;exact z2r hvs.1 (fin (r:=Rsn.mk 3 ((q.1:Int)+1) noT (-1)) hd1 rfl hdc)
   |none=>
    rw[hix] at hdc;simp only at hdc;refine Cnd.no (by simp) fun _=> ?_
    have hxl:=hv.xn;refine LpH.ind (fun t=> ∃(j:Nat) (a b:Int) (c:BA) (e:Int) (done1:BA->Option Dcs),t=((j:Int),a,b,c,e,done1,put opn f.1 true,())/\j<=v.6.length/\DnI v s fs done1/\v.6.find? (inXV v s fs f.1)=(v.6.drop j).find? (inXV v s fs f.1)) (fun t=>(v.6.length - t.1).toNat) ?_ ⟨0,_,_,_,_,done1,rfl,by omega,hd1,rfl⟩;clear hd1;rintro _ ⟨j,a,b,c,e,done1,rfl,hj,hd1,hfd⟩;dsimp only;refine Cnd.mk (fun hlt=>⟨by omega,fun x hx=> ?_⟩) fun hlt=> ?_
    .have hx:v.6[j]? =some x:=hx
     have next:inXV v s fs f.1 x=false->InI ((j:Int)+1)/\(∃(j':Nat) (a' b':Int) (c':BA) (e':Int) (done2:BA->Option Dcs),((j:Int)+1,a,b,c,e,done1,put opn f.1 true,())=((j':Int),a',b',c',e',done2,put opn f.1 true,())/\j'<=v.6.length/\DnI v s fs done2/\v.6.find? (inXV v s fs f.1)=(v.6.drop j').find? (inXV v s fs f.1))/\((v.6.length:Int) - ((j:Int)+1)).toNat<((v.6.length:Int) - (j:Int)).toNat:=fun hn=>
      ⟨by unfold InI;omega,⟨j+1,a,b,c,e,done1,rfl,by omega,hd1,by rw[hfd,q07 hx hn]⟩,by omega⟩
     refine Cnd.mk (fun h3=>Cnd.mk (fun h5=> ?_) fun h5=>next ?_) fun h3=>next ?_
     .refine w6g (v:=v) (s:=s) hv hs hfs (Cnd.mk (fun he=>Cnd.mk (fun hxk=> ?_) fun hxk=>next ?_) fun he=>next ?_)
      .have hin:inXV v s fs f.1 x=true:=w6f (dt h3) (w6f (dt h5) (dt hxk));rw[hfd,q6i hx hin] at hdc;exact v10 (v:=v) (s:=s) hv hs (hv.xs x (getm hx)) (z2r hvs.1 (fin (r:=Rsn.mk 4 0 x.1 (abV v s x)) hd1 rfl hdc))
      .exact q4q (.inr (q4q (.inr (df hxk))))
      .refine q4q (.inr (q4q (.inr (df ?_))));rw[u4u he];exact fun e=>hF.x x (getm hx) e.symm
     .exact q4q (.inr (q4q (.inl (df h5))))
     .exact q4q (.inl (df h3))
    .rw[hfd,List.drop_eq_nil_of_le (by omega),List.find?_nil] at hdc;simp only at hdc;clear hfd hlt;unfold rlsV at hdc;have hr:=hF.r f hm;refine fun _=>LpH.ind (fun t=> ∃(j:Nat) (a b:Int) (c:BA) (e:Int) (done1:BA->Option Dcs),t=((j:Int),a,b,c,e,put opn f.1 true,done1,())/\j<=f.8.length/\DnI v s fs done1/\ixF (fun r=>cndV v s r.2) f.8 0=ixF (fun r=>cndV v s r.2) (f.8.drop j) j) (fun t=>(f.8.length - t.1).toNat) ?_ ⟨0,_,_,_,_,done1,rfl,by omega,hd1,rfl⟩
     clear hd1;rintro _ ⟨j,a,b,c,e,done1,rfl,hj,hd1,hfd⟩;dsimp only;refine Cnd.mk (fun hlt=>⟨by omega,fun r hr0=> ?_⟩) fun hlt=> ?_
     .have hr0:f.8[j]? =some r:=hr0;have hrm:=hr.2 r (getm hr0);refine z32 (s:=s) hs _ (Nat.le_refl _) (by rw[Ja];exact hrm.1) (by rw[Ja];exact hrm.2.1) ?_;rw[Ja];refine Cnd.mk (fun hc=>⟨by unfold InI;omega,?_⟩) fun hc=> ?_
      .rw[hfd,y0l hr0 hc] at hdc;exact w0o (v:=v) (s:=s) (r:=Rsn.mk 5 ((j:Int)+1) r.1 0) hs hN hrm.2.2 (z2r hvs.1 (fin hd1 rfl hdc))
      .refine⟨by unfold InI;omega,⟨j+1,a,b,c,e,done1,rfl,by omega,hd1,?_⟩,by show ((f.8.length:Int) - ((j:Int)+1)).toNat<((f.8.length:Int) - (j:Int)).toNat;omega⟩;rw[hfd,v1w hr0 (Bool.eq_false_iff.2 hc)]
     .rw[hfd,List.drop_eq_nil_of_le (by omega)] at hdc;exact w0o (v:=v) (s:=s) (r:=Rsn.mk 6 0 noT 0) hs hN (hF.d f hm) (z2r hvs.1 (fin hd1 rfl hdc))
end Go.En
end
noncomputable section
namespace Go.En
open Go Go.Fl Go.Fl.Lk Go.Fx
def flgV(v:Envt)(s:Subj)(fs:List Frc)(key:BA):Dcs×Int:=match fof v key with
 |some f=>(dcsV v s fs f,0)
 |none=>(noD,11)
theorem z8c{v:Envt}{s:Subj}{fs:List Frc}{key:BA}{K:Dcs->Int->Prop}(hv:AsB v)(hF:FlX v)(hs:SubB s)(hN:NumB s)(hfs:fs.length<=1000000000)(h:K (flgV v s fs key).1 (flgV v s fs key).2):Bc v s fs key K:=by
 unfold Bc z0x;unfold flgV at h;refine z5a (v:=v) (s:=s) hv hs (w6q (v:=v) (s:=s) hF.n ?_);cases hf:fof v key with
 |none=>rw[hf] at h;exact Cnd.no (by simp) h
 |some f=>
  rw[hf] at h;obtain⟨i,hi,_⟩:=v5l hf;exact Cnd.yes rfl (v5p hv hF hs hN hfs hi DnI.nil (fun _ _ _ _=>rfl) fun _ _=>h)
theorem w6r{v:Envt}{s:Subj}{fs:List Frc}{K:List Dcs->Prop}(hv:AsB v)(hF:FlX v)(hs:SubB s)(hN:NumB s)(hfs:fs.length<=1000000000)(h:K (v.4.map (dcsV v s fs))):q6a v s fs K:=by
 unfold q6a z3n;have hn:=hF.n;refine z5a (v:=v) (s:=s) hv hs fun _=> ?_
 refine Lp4.ind (fun l i done opn=> ∃j:Nat,i=(j:Int)/\j<=v.4.length/\l=(v.4.take j).map (dcsV v s fs)/\DnI v s fs done/\opn=fun _=>none) (fun _ i _ _=>(v.4.length - i).toNat) ?_ ⟨0,rfl,by omega,by simp,DnI.nil,rfl⟩;rintro l i done opn ⟨j,rfl,hj,rfl,hd,rfl⟩;refine Cnd.mk (fun hlt=>⟨by omega,fun f hf=> ?_⟩) fun hlt=> ?_
 .have hf:v.4[j]? =some f:=hf;refine v5p hv hF hs hN hfs hf hd (fun _ _ _ _=>rfl) fun done' hd'=>⟨by unfold Sml;simp;omega,by unfold InI;omega,⟨j+1,rfl,by omega,?_,hd',rfl⟩,by omega⟩
  rw[List.take_add_one,hf,List.map_append];rfl
 .rw[t99 (by omega)];exact h
abbrev fB:BA:=ByteArray.mk (Array.mk [102])
abbrev smpF:Flg:=Flg.mk fB 1 [Val.mk 1 0 noT [],Val.mk 1 1 noT []] true 1 [] [] [] (Srv.mk 2 noT noT noT [])
abbrev smpE:Envt:=Envt.mk (Sett.mk noT noT 0) [] [] [smpF] [] []
theorem u4v:AsB smpE where
 ln:=by decide
 xn:=by decide
 sg:=y7k (by decide) (by simp)
 ex x hx:=by cases hx
 sa:=by decide
 ls l hl:=by cases hl
 xs x hx:=by cases hx
 cl x hx:=by cases hx
 nd:=by simp
theorem u4w:FlX smpE where
 b:=⟨by simp,fun i f hf p hp=>by
  have hf:[smpF][i]? =some f:=hf;have:=List.mem_of_getElem? hf;rw[List.mem_singleton] at this
  subst this;cases hp⟩
 n:=by decide
 vs f hf:=by rw[List.mem_singleton.1 hf];refine⟨by decide,fun x hx=> ?_⟩;have hx:x∈[Val.mk 1 0 noT [],Val.mk 1 1 noT []]:=hx;simp only[List.mem_cons,List.not_mem_nil,or_false] at hx;rcases hx with rfl|rfl<;>simp
 p f hf:=by rw[List.mem_singleton.1 hf];decide
 t f hf:=by rw[List.mem_singleton.1 hf];exact⟨by decide,fun t ht=>by cases ht⟩
 r f hf:=by rw[List.mem_singleton.1 hf];exact⟨by decide,fun t ht=>by cases ht⟩
 d f hf:=by rw[List.mem_singleton.1 hf];exact⟨by decide,by decide⟩
 x x hx:=by cases hx
theorem u0o:flgV smpE (Subj.mk []) [] fB=(Dcs.mk fB 2 (Val.mk 1 1 noT []) (Rsn.mk 6 0 noT (-1)) 0,0):=by
 have hf:fof smpE fB=some smpF:=by simp[fof]
 have hd:dcV smpE (Subj.mk []) [] smpF=(2,Rsn.mk 6 0 noT (-1)):=by unfold dcV chsV;simp[ixF,rlsV,svd,srvV]
 unfold flgV;rw[hf];simp only;unfold dcsV;rw[hd];rfl
theorem y3f{K:Bool->Prop}(h:K true):q8y K:=by unfold q8y z6c;refine z8c (v:=smpE) u4v u4w (u0k (by decide) (by simp)) (fun c hc=>by cases hc) (by decide) ?_;rw[u0o];exact Cnd.yes rfl (Cnd.yes rfl (Cnd.yes rfl (Cnd.yes rfl (by rw[dt ⟨rfl,rfl,rfl,rfl⟩];exact h))))
theorem v8t{V:Envt->Prop}(hV: ∀(v:Envt) (K:Bool->Prop),EnvS v->(∀b,(b=true->V v)->K b)->q16 v K)(hV0: ∀ds,V (Envt.mk (Sett.mk (ByteArray.mk (Array.mk [])) (ByteArray.mk (Array.mk [])) 0) ds [] [] [] []))
  {codes who:List Int}{K:Envt->Subj->List Frc->Prop}(hc:Byts codes)(hw:Byts who)(h: ∀v s f,EnvS v->EnvD v->V v->SubB s->NumB s->f.length<=3->K v s f):q38 codes who K:=by
 unfold q38 z6k;refine y0c hc (by decide) (by decide) fun cl hD=>j9z hV hV0 hD fun v a hE hd hv _=>y0c hw (by decide) (by decide) fun wl hD2=>w7v hD2 fun s a hs hl hD3=>v8r (v:=v) hD3 hE fun f _ hf=>h v s f hE hd hv (y2u hs hl) (y3c hl) hf
theorem y3g{codes who:List Int}{K:Envt->Subj->List Frc->Prop}(hc:Byts codes)(hw:Byts who)(h: ∀v s f,EnvS v->EnvD v->SubB s->NumB s->f.length<=3->K v s f):q38 codes who K:=
 v8t (V:=fun _=>True) (fun _ _ hv h=>w0l hv fun b=>h b fun _=>trivial) (fun _=>trivial) hc hw fun v s f h1 h2 _ h3 h4 h5=>h v s f h1 h2 h3 h4 h5
theorem w6s{a b:Dcs}{K:Bool->Prop}(h: ∀r,(r=true↔a=b)->K r):z4z a b K:=by
 unfold z4z j8n;refine Cnd.mk (fun h1=>Cnd.mk (fun h2=>z7e fun r hr=>Cnd.mk (fun h3=>Cnd.mk (fun h4=>h _ ⟨fun h5=> ?_,fun e=> ?_⟩) fun h4=>h _ ⟨fun e=>by simp at e,fun e=> ?_⟩) fun h3=>h _ ⟨fun e=>by simp at e,fun e=> ?_⟩) fun h2=>h _ ⟨fun e=>by simp at e,fun e=> ?_⟩) fun h1=>h _ ⟨fun e=>by simp at e,fun e=> ?_⟩
 .replace h5:=of_decide_eq_true h5
  replace h3:=hr.1 h3
  clear hr h;cases a with|mk a1 a2 a3 a4 a5=>cases b with|mk b1 b2 b3 b4 b5=>
  cases a3;cases b3;cases a4;cases b4;simp only at h1 h2 h4 h5;simp only[Val.mk.injEq] at h3;obtain⟨e1,e2,e3,e4⟩:=h3;obtain⟨g1,g2,g3,g4⟩:=h4;subst h1 h2 h5 e1 e2 e3 e4 g1 g2 g3 g4;rfl
 .subst e;simp
 .subst e;exact absurd ⟨rfl,rfl,rfl,rfl⟩ h4
 .subst e;exact absurd (hr.2 rfl) h3
 .subst e;exact absurd rfl h2
 .subst e;exact absurd rfl h1
end Go.En
end
noncomputable section
namespace Go.En
open Go Go.Fl Go.Fl.Lk Go.Fx
theorem j4w{f:Flg}{n:Int}{r:Rsn}{K:Dcs->Prop}(hl:f.3.length<=1000000)(h:K (Dcs.mk f.1 n (valV f.3 n) r 0)):q2u f n r K:=by
 unfold q2u;unfold valV at h;refine Cnd.mk (fun h1 _=>Cnd.mk (fun h2=>⟨by unfold InI;omega,by omega,fun y hy=> ?_⟩) fun h2=> ?_) fun h1=> ?_
 .rw[if_pos ⟨h1,h2⟩,hy] at h;exact h
 .rw[if_neg (fun k=>h2 k.2)] at h;exact h
 .rw[if_neg (fun k=>h1 k.1)] at h;exact h
theorem j7b{v:Envt}{key:BA}{K:Int->Prop}(hn:v.4.length<=1000)(h0:fof v key=none->K (-1))(h1: ∀(j:Nat) g,v.4[j]? =some g->fof v key=some g->K (j:Int)):Vt v key K:=by unfold Vt;exact v8h (fun g:Flg=>decide (g.1=key)) (by omega) h0 fun i y Y hy _ hp hq=>Cnd.mk (fun he=>h1 i y hy (hp (dt he))) fun he=>hq (df he)
theorem w1r{v:Envt}{s:Subj}{x:Exper}{K:Int->Prop}(hv:AsB v)(hs:SubB s)(hx:x.4.size<=10000000)(h:K (abV v s x)):Gn v s x K:=by
 unfold Gn z07;unfold abV at h;refine j28 (v:=v) hv.ln (fun hn=>by rw[hn] at h;exact Cnd.yes (by omega) h) fun j l hl hlo=>Cnd.no (by omega) ⟨by have:=Qh hl;omega,fun y hy=> ?_⟩
 have hy:v.5[j]? =some y:=hy;rw[hl] at hy;cases hy;rw[hlo] at h;simp only at h;refine q91 (s:=s) hs ?_;cases hf:fnd s l.2 with
 |none=>rw[hf] at h;exact Cnd.no (by simp) h
 |some c=>rw[hf] at h;exact Cnd.yes rfl (z99 hx (j0h hs hf) h)
theorem w0p{v:Envt}{s:Subj}{fs:List Frc}{K:BA->BA->Int->List Decl->List Seg->List Flg->List Lay_->List Exper->List Ctxt->List Frc->List BA->List Bool->List Dcs->Prop}(hv:AsB v)(hs:SubB s)(hn:v.4.length<=1000)
  (h:K v.1.1 v.1.2 v.1.3 v.2 v.3 v.4 v.5 v.6 s.1 fs (mem v.3 s) (List.replicate v.4.length false) (List.replicate v.4.length noD)):z04 v s fs K:=by
 unfold z04 j3z;have one: ∀{K':List BA->Prop},K' (mem v.3 s)->B1 v.3 (Subj.mk s.1) K':=fun h=>j26 hv.sg hs fun m hm=>by rw[y0d hm];exact h
 have sz:0<=(v.4.length:Int)/\(v.4.length:Int)<=(v.4.length:Int)/\Sml ((v.4.length:Int)).toNat:=⟨by omega,by omega,by unfold Sml;omega⟩;refine fun _ _=> ?_
 rw[show ((v.4.length:Int)).toNat=v.4.length from rfl] at sz⊢;exact⟨one ⟨⟨sz,sz,h⟩,sz,sz,h⟩,⟨sz,one ⟨sz,h⟩,sz,one h⟩,sz,one ⟨sz,h⟩,sz,one h⟩
section
variable {v:Envt}{s:Subj}{fs:List Frc}{inn:List BA}{done:List Bool}{known:List Dcs}
theorem v5q{f:Flg}{sv:Srv}{r:Rsn}{K:Dcs->List Bool->List Dcs->Prop}(hs:SubB s)(hN:NumB s)(hb:SrvB sv)(hl:f.3.length<=1000000)(h:K (Dcs.mk f.1 (svd s f.5 sv r.1 r.2 r.3).1 (valV f.3 (svd s f.5 sv r.1 r.2 r.3).1) (svd s f.5 sv r.1 r.2 r.3).2 0) done known):
  Jo v.1.1 v.1.2 v.1.3 v.2 v.3 v.4 v.5 v.6 s.1 fs inn done known f sv r K:=by
 unfold Jo q0p;unfold svd at h;refine v5o (s:=s) hs hN hb.1 hb.2 (Cnd.mk (fun e=> ?_) fun e=> ?_)
 .rw[if_pos e] at h;exact j4w hl h
 .rw[if_neg e] at h;exact j4w hl h
end
theorem w1s{l:List Dcs}{K:Bool->Prop}(hl:l.length<=1000000000)(h:K true):q81 l l K:=by
 unfold q81 z6o;refine fun _ _=>Cnd.yes rfl (v8h (fun _=>false) hl (fun _=>h) fun i y Y hy hi _ hq=>⟨by omega,fun z hz=> ?_⟩)
 have hz:l[i]? =some z:=hz;rw[hy] at hz;cases hz;exact w6s fun r hr=>Cnd.yes (hr.2 rfl) (hq rfl)
end Go.En
end
noncomputable section
namespace Go.En
open Go Go.Fl Go.Fl.Lk Go.Fx
def DnL(v:Envt)(s:Subj)(fs:List Frc)(n:Nat)(done:List Bool)(known:List Dcs):Prop:=
 done.length=v.4.length/\known.length=v.4.length/\∀(q:Nat) g,q<n->v.4[q]? =some g->done[q]? =some true->known[q]? =some (dcsV v s fs g)
theorem DnL.all{v:Envt}{s:Subj}{fs:List Frc}{n m:Nat}{done:List Bool}{known:List Dcs}(h:DnL v s fs n done known)(hm:m<=n\/v.4.length<=n):DnL v s fs m done known:=
 ⟨h.1,h.2.1,fun q g hq hg hd=>h.2.2 q g (by have:=Qh hg;omega) hg hd⟩
theorem DnL.nil{v:Envt}{s:Subj}{fs:List Frc}{n:Nat}:DnL v s fs n (List.replicate v.4.length false) (List.replicate v.4.length noD):=
 ⟨by simp,by simp,fun q g _ _ hd=>by
  rw[List.getElem?_replicate] at hd
  split at hd<;>simp at hd⟩
def Abv(i:Nat)(done:List Bool)(known:List Dcs)(done':List Bool)(known':List Dcs):Prop:= ∀j,i<j->done'[j]? =done[j]? /\known'[j]? =known[j]?
theorem y70{v:Envt}{s:Subj}{fs:List Frc}(hv:AsB v)(hF:FlX v)(hs:SubB s)(hN:NumB s)(hfs:fs.length<=1000000000){i:Nat}{f:Flg}(hf:v.4[i]? =some f){done:List Bool}{known:List Dcs}
  {K:Dcs->List Bool->List Dcs->Prop}(hd:DnL v s fs (i+1) done known)(hK: ∀done' known',DnL v s fs (i+1) done' known'->Abv i done known done' known'->K (dcsV v s fs f) done' known'):
  Ub v.1.1 v.1.2 v.1.3 v.2 v.3 v.4 v.5 v.6 s.1 fs (mem v.3 s) done known (i:Int) K:=by
 intro X hX
 induction i using Nat.strongRecOn generalizing f done known K with
 |ind i ih=>
  refine hX _ _ _ _ _ _ _ _ _ _ _ _ _ _ _ ?_;clear hX;have hm:=getm hf;have hlt:=Qh hf;have hvs:=hF.vs f hm;have hnn:=hF.n;have it:((i:Nat):Int).toNat=i:=rfl;unfold q2e;rw[it];refine Jn2.mk (fun a b=>DnL v s fs (i+1) a b/\Abv i done known a b/\b[i]? =some (dcsV v s fs f)) ?_ ?_
  case refine_2=>
   rintro a b ⟨h1,h2,h3⟩;refine⟨by have:=Qh h3;omega,fun y hy=> ?_⟩;have hy:b[i]? =some y:=hy;rw[h3] at hy;cases hy;exact hK a b h1 h2
  have h1:=hd.1;refine⟨by omega,fun b hb=>Cnd.mk (fun ht=> ?_) fun _=>⟨by omega,fun _ _=>⟨by omega,fun y hy=> ?_⟩⟩⟩
  .have hb:done[i]? =some b:=hb;subst ht;exact⟨hd,fun _ _=>⟨rfl,rfl⟩,hd.2.2 i f (by omega) hf hb⟩
  have hy:v.4[i]? =some y:=hy;rw[hf] at hy;cases hy
  have ini:DnL v s fs i (done.set i true) known/\Abv i done known (done.set i true) known:=
   ⟨⟨by rw[List.length_set];exact hd.1,hd.2.1,fun q g hq hg hdn=>hd.2.2 q g (by omega) hg (by rw[List.getElem?_set_ne (by omega)] at hdn;exact hdn)⟩,fun j hj=>⟨by rw[List.getElem?_set_ne (by omega)],rfl⟩⟩
  generalize done.set i true=d0 at ini⊢
  have fin0: ∀{n:Int} {r:Rsn} {d:List Bool} {k:List Dcs},DnL v s fs i d k/\Abv i done known d k->dcV v s fs f=(n,r)->
    At k (i:Int) fun _=>DnL v s fs (i+1) d (k.set i (Dcs.mk f.1 n (valV f.3 n) r 0))/\Abv i done known d (k.set i (Dcs.mk f.1 n (valV f.3 n) r 0))/\(k.set i (Dcs.mk f.1 n (valV f.3 n) r 0))[i]? =some (dcsV v s fs f):=by
   intro n r d k ⟨hdk,hab⟩ he;have e:dcsV v s fs f=Dcs.mk f.1 n (valV f.3 n) r 0:=by unfold dcsV;rw[he]
   have hkl:=hdk.2.1;rw[<-e];refine⟨by omega,fun _ _=>⟨⟨hdk.1,by rw[List.length_set];exact hdk.2.1,fun q g hq hg hdn=> ?_⟩,fun j hj=>⟨(hab j hj).1,by rw[List.getElem?_set_ne (by omega)];exact (hab j hj).2⟩,by rw[List.getElem?_set_self (by omega)]⟩⟩;by_cases hqi:q=i
   .subst hqi;rw[hf] at hg;cases hg;rw[List.getElem?_set_self (by omega)]
   .rw[List.getElem?_set_ne (by omega)];exact hdk.2.2 q g (by omega) hg hdn
  have fin: ∀{n:Int} {r:Rsn} {d:List Bool} {k:List Dcs},DnL v s fs i d k/\Abv i done known d k->dcV v s fs f=(n,r)->
    q2u f n r fun x=>At k (i:Int) fun _=>DnL v s fs (i+1) d (k.set i x)/\Abv i done known d (k.set i x)/\(k.set i x)[i]? =some (dcsV v s fs f):=
   fun hi he=>j4w hvs.1 (fin0 hi he)
  have hdc:=u1y (s:=s) (fs:=fs) hF.b hf;unfold chsV at hdc;refine (fun h=>⟨h,h⟩: ∀{A:Prop},A->A/\A) (Cnd.mk (fun hon=> ?_) fun hon=> ?_)
  case refine_2=>
   rw[if_pos (by simpa using hon)] at hdc;exact fin ini hdc
  rw[if_neg (by rw[hon];simp)] at hdc;have hpl:=hF.p f hm;refine LpH.ind (fun t=> ∃(j:Nat) (d:List Bool) (k:List Dcs),t=((j:Int),noT,(0:Int),(0:Int),(0:Int),noT,[],(0:Int),(0:Int),noT,(0:Int),(0:Int),k,d,())/\j<=f.6.length/\(DnL v s fs i d k/\Abv i done known d k)/\(f.6.find? fun p=> !metV v (fun g=>(dcV v s fs g).1) p)=(f.6.drop j).find? fun p=> !metV v (fun g=>(dcV v s fs g).1) p) (fun t=>(f.6.length - t.1).toNat) ?_ ⟨0,d0,known,rfl,by omega,ini,rfl⟩;clear ini;rintro _ ⟨j,d,k,rfl,hj,hi,hfd⟩;dsimp only;refine fun _=>Cnd.mk (fun hlt=>⟨by omega,fun p hp=> ?_⟩) fun hlt=> ?_
  .have hp:f.6[j]? =some p:=hp;have at_: ∀{y:Prq},f.6[((j:Nat):Int).toNat]? =some y->y=p:=fun {y} hy=>by have hy:f.6[j]? =some y:=hy;rw[hp] at hy;exact (Option.some.inj hy).symm
   have miss:metV v (fun g=>(dcV v s fs g).1) p=false->dcV v s fs f=(f.5,Rsn.mk 2 0 p.1 (-1)):=fun hmf=>by rw[hfd,q6i hp (by rw[hmf];rfl)] at hdc;exact hdc
   refine j7b (v:=v) hnn (fun hno=> ?_) fun q g hq hfo=> ?_
   .refine Cnd.no (by omega) ⟨by omega,fun y hy=> ?_⟩;rw[at_ hy];exact fin hi (miss (by unfold metV;rw[hno]))
   .have hql:=Qh hq;refine Cnd.yes (by omega) ⟨by omega,fun y hy=> ?_⟩;have hy:v.4[q]? =some y:=hy;rw[hq] at hy;cases hy;obtain⟨q0,hq0,hpk⟩:=v5l hfo;have hqi:=hF.b.ord i f hf p (getm hp) q g hq hpk;refine Cnd.mk (fun hgo=> ?_) fun hgo=> ?_
    .refine ih q hqi hq (hi.1.all (.inl (by omega))) fun d2 k2 h2 h2a=> ?_
     have hi2:DnL v s fs i d2 k2/\Abv i done known d2 k2:=⟨⟨h2.1,h2.2.1,fun q' g' hq' hg' hdn=>by
       by_cases hle:q'<=q
       .exact h2.2.2 q' g' (by omega) hg' hdn
       .have hh:=h2a q' (by omega);rw[hh.2];rw[hh.1] at hdn
        exact hi.1.2.2 q' g' hq' hg' hdn⟩,fun j' hj'=>by
       have hh:=h2a j' (by omega);have h3:=hi.2 j' hj'
       rw[hh.1,hh.2];exact h3⟩
     refine Cnd.mk (fun he=>⟨by unfold InI;omega,⟨j+1,d2,k2,rfl,by omega,hi2,?_⟩,by show ((f.6.length:Int) - ((j:Int)+1)).toNat<((f.6.length:Int) - (j:Int)).toNat;omega⟩) fun he=>⟨by omega,fun y2 hy2=> ?_⟩
     .have he:(dcV v s fs g).1=p.2:=he;rw[hfd,q07 hp];unfold metV;rw[hfo];simp only;have hgo:g.4=true:=hgo;rw[hgo,dt he];rfl
     .rw[at_ hy2];refine fin hi2 (miss ?_);have he: ¬(dcV v s fs g).1=p.2:=he;unfold metV;rw[hfo];simp only;rw[df he];simp
    .have hgo: ¬g.4=true:=hgo;refine⟨by omega,fun y2 hy2=> ?_⟩;rw[at_ hy2];refine fin hi (miss ?_);unfold metV;rw[hfo];simp only;rw[Bool.eq_false_iff.2 hgo];rfl
  .rw[hfd,List.drop_eq_nil_of_le (by omega),List.find?_nil] at hdc;clear hfd hlt;have hft:=hF.t f hm;refine v1z (f:=f) (s:=s) hs hft.1 ?_;unfold tgtV;cases hix:ixF (tgP s) f.7 0 with
   |some q=>
    rw[hix] at hdc;have hsp:=v8s hix;have hq2:=hsp.2.1;have hql:=Qh hq2;refine Cnd.yes (by simp only;omega) ⟨by unfold InI;simp only;omega,by simp only;omega,fun y hy=> ?_⟩;simp only at hy;rw[show ((q.1:Int)+1 - 1).toNat=q.1 - 0 by omega,hq2] at hy;cases hy;exact fin (r:=Rsn.mk 3 ((q.1:Int)+1) noT (-1)) hi hdc
   |none=>
    rw[hix] at hdc;simp only at hdc;refine Cnd.no (by simp) ?_;have hxl:=hv.xn;refine LpH.ind (fun t=> ∃(j:Nat),t=((j:Int),noT,(0:Int),(0:Int),(0:Int),noT,[],(0:Int),(0:Int),noT,(0:Int),(0:Int),())/\j<=v.6.length/\v.6.find? (inXV v s fs f.1)=(v.6.drop j).find? (inXV v s fs f.1)) (fun t=>(v.6.length - t.1).toNat) ?_ ⟨0,rfl,by omega,rfl⟩;rintro _ ⟨j,rfl,hj,hfd⟩;dsimp only;refine fun _=>Cnd.mk (fun hlt=>⟨by omega,fun x hx=> ?_⟩) fun hlt=> ?_
    .have hx:v.6[j]? =some x:=hx
     have next:inXV v s fs f.1 x=false->InI ((j:Int)+1)/\(∃(j':Nat),((j:Int)+1,noT,(0:Int),(0:Int),(0:Int),noT,([]:List BA),(0:Int),(0:Int),noT,(0:Int),(0:Int),())=((j':Int),noT,(0:Int),(0:Int),(0:Int),noT,[],(0:Int),(0:Int),noT,(0:Int),(0:Int),())/\j'<=v.6.length/\v.6.find? (inXV v s fs f.1)=(v.6.drop j').find? (inXV v s fs f.1))/\((v.6.length:Int) - ((j:Int)+1)).toNat<((v.6.length:Int) - (j:Int)).toNat:=fun hn=>
      ⟨by unfold InI;omega,⟨j+1,rfl,by omega,by rw[hfd,q07 hx hn]⟩,by omega⟩
     refine Cnd.mk (fun h3=>Cnd.mk (fun h5=> ?_) fun h5=>next ?_) fun h3=>next ?_
     .refine v5d (v:=v) (s:=s) hv hs hfs (Cnd.mk (fun hxk=> ?_) fun hxk=>next ?_)
      .have hin:inXV v s fs f.1 x=true:=w6f (dt h3) (w6f (dt h5) (dt hxk));rw[hfd,q6i hx hin] at hdc;rw[Ja];refine w1r (v:=v) (s:=s) (x:=x) hv hs (hv.xs x (getm hx)) ?_;exact fin (r:=Rsn.mk 4 0 x.1 (abV v s x)) hi hdc
      .exact q4q (.inr (q4q (.inr (df hxk))))
     .exact q4q (.inr (q4q (.inl (df h5))))
     .exact q4q (.inl (df h3))
    .rw[hfd,List.drop_eq_nil_of_le (by omega),List.find?_nil] at hdc;simp only at hdc;clear hfd hlt;unfold rlsV at hdc;have hr:=hF.r f hm;refine LpH.ind (fun t=> ∃(j:Nat),t=((j:Int),noT,(0:Int),(0:Int),(0:Int),noT,[],(0:Int),(0:Int),noT,(0:Int),(0:Int),d,k,())/\j<=f.8.length/\ixF (fun r=>cndV v s r.2) f.8 0=ixF (fun r=>cndV v s r.2) (f.8.drop j) j) (fun t=>(f.8.length - t.1).toNat) ?_ ⟨0,rfl,by omega,rfl⟩;rintro _ ⟨j,rfl,hj,hfd⟩;dsimp only
     have sv: ∀{sv:Srv} {r:Rsn},SrvB sv->dcV v s fs f=svd s f.5 sv r.1 r.2 r.3->Jo v.1.1 v.1.2 v.1.3 v.2 v.3 v.4 v.5 v.6 s.1 fs (mem v.3 s) d k f sv r fun x d' k'=>At k' (i:Int) fun _=>DnL v s fs (i+1) d' (k'.set i x)/\Abv i done known d' (k'.set i x)/\(k'.set i x)[i]? =some (dcsV v s fs f):=fun hb he=>
      v5q (v:=v) (s:=s) hs hN hb hvs.1 (fin0 hi he)
     refine fun _=>Cnd.mk (fun hlt=>⟨by omega,fun r hr0=> ?_⟩) fun hlt=> ?_
     .have hr0:f.8[j]? =some r:=hr0;have at_: ∀{y:Rul},f.8[((j:Nat):Int).toNat]? =some y->y=r:=fun {y} hy=>by have hy:f.8[j]? =some y:=hy;rw[hr0] at hy;exact (Option.some.inj hy).symm
      have hrm:=hr.2 r (getm hr0);refine j4t (s:=s) hs _ (Nat.le_refl _) (by rw[Ja];exact hrm.1) (by rw[Ja];exact hrm.2.1) ?_;rw[Ja];refine Cnd.mk (fun hc=>⟨by omega,fun y hy=>⟨by unfold InI;omega,by omega,fun y2 hy2=> ?_⟩⟩) fun hc=>⟨by unfold InI;omega,⟨j+1,rfl,by omega,?_⟩,by show ((f.8.length:Int) - ((j:Int)+1)).toNat<((f.8.length:Int) - (j:Int)).toNat;omega⟩
      .rw[at_ hy,at_ hy2];rw[hfd,y0l hr0 hc] at hdc;exact sv (sv:=r.3) (r:=Rsn.mk 5 ((j:Int)+1) r.1 0) hrm.2.2 hdc
      .rw[hfd,v1w hr0 (Bool.eq_false_iff.2 hc)]
     .rw[hfd,List.drop_eq_nil_of_le (by omega)] at hdc;exact sv (sv:=f.9) (r:=Rsn.mk 6 0 noT 0) (hF.d f hm) hdc
theorem v8u{v:Envt}{s:Subj}{fs:List Frc}{key:BA}{K:Dcs->Int->Prop}(hv:AsB v)(hF:FlX v)(hs:SubB s)(hN:NumB s)(hfs:fs.length<=1000000000)(h:K (flgV v s fs key).1 (flgV v s fs key).2):j1o v s fs key K:=by
 unfold j1o j8o;unfold flgV at h;refine j7b (v:=v) hF.n (fun hno=> ?_) fun q g hq hfo=> ?_
 .rw[hno] at h;exact Cnd.yes (by omega) h
 .rw[hfo] at h;exact Cnd.no (by omega) (w0p (v:=v) (s:=s) hv hs hF.n (y70 hv hF hs hN hfs hq DnL.nil fun _ _ _ _=>h))
theorem w6t{v:Envt}{s:Subj}{fs:List Frc}{K:List Dcs->Prop}(hv:AsB v)(hF:FlX v)(hs:SubB s)(hN:NumB s)(hfs:fs.length<=1000000000)(h:K (v.4.map (dcsV v s fs))):q6d v s fs K:=by
 unfold q6d z3q;have hn:=hF.n;refine w0p (v:=v) (s:=s) hv hs hn ?_;refine Lp4.ind (fun l i done known=> ∃j:Nat,i=(j:Int)/\j<=v.4.length/\l=(v.4.take j).map (dcsV v s fs)/\DnL v s fs v.4.length done known) (fun _ i _ _=>(v.4.length - i).toNat) ?_ ⟨0,rfl,by omega,by simp,DnL.nil⟩;rintro l i done known ⟨j,rfl,hj,rfl,hd⟩;refine fun _=>Cnd.mk (fun hlt=> ?_) fun hlt=> ?_
 .obtain⟨f,hf⟩: ∃f,v.4[j]? =some f:=⟨_,List.getElem?_eq_getElem (by omega)⟩;refine y70 hv hF hs hN hfs hf (hd.all (.inr (by omega))) fun done' known' hd' ha=>⟨by unfold Sml;simp;omega,by unfold InI;omega,⟨j+1,rfl,by omega,?_,⟨hd'.1,hd'.2.1,fun q g hq hg hdn=> ?_⟩⟩,by omega⟩
  .rw[List.take_add_one,hf,List.map_append];rfl
  .by_cases hle:q<=j
   .exact hd'.2.2 q g (by omega) hg hdn
   .have hh:=ha q (by omega);rw[hh.2];rw[hh.1] at hdn;exact hd.2.2 q g hq hg hdn
 .rw[t99 (by omega)] at*;exact h
theorem w1t{codes who:List Int}{s:Subj}{forced:List Frc}{key:BA}{K:Bool->Prop}(hc:Byts codes)(hw:Byts who)(hs:SubB s)(hN:NumB s)(h:K true):Je codes who s forced key K:=by
 unfold Je Bf;refine y3f (Cnd.yes rfl fun _=>Cnd.mk (fun _=>h) fun _ _=>Cnd.mk (fun _=>h) fun hfl=>y3g hc hw fun v q f hE hD hq hqN hf=> ?_);have hF:=u7g hE hD;have hv:=u7c hE hD;have hall: ∀y∈[Subj.mk q.1,Subj.mk s.1],SubB y/\NumB y:=fun y hy=>by
  rcases List.mem_cons.1 hy with rfl|hy
  .exact⟨hq,hqN⟩
  .rw[List.mem_singleton.1 hy];exact⟨hs,hN⟩
 have hfo: ∀y∈[[],f,forced],y.length<=8:=fun y hy=>by
  simp only[List.mem_cons,List.not_mem_nil,or_false] at hy;rcases hy with rfl|rfl|rfl
  .simp
  .omega
  .omega
 have h2:([Subj.mk q.1,Subj.mk s.1]:List Subj).length=2:=rfl;have h3:([[],f,forced]:List (List Frc)).length=3:=rfl;generalize [Subj.mk q.1,Subj.mk s.1]=L at hall h2⊢;generalize [[],f,forced]=F at hfo h3⊢;refine fun _=>srch (fun _=>false) (by omega) (fun _=>h) fun i y Y hy _ _ hq1 _=>srch (fun _=>false) (by omega) (fun _=>hq1 rfl) fun i2 z Z hz _ _ hq2=> ?_
 obtain⟨hsb,hnb⟩:=hall y (getm hy);have hzl:=hfo z (getm hz);refine w6r (v:=v) (s:=y) hv hF hsb hnb (by omega) (w6t (v:=v) (s:=y) hv hF hsb hnb (by omega) (w1s (by rw[List.length_map];have:=hF.n;omega) (Cnd.yes rfl fun _=> ?_)));refine srch (fun _=>false) (by simp) (fun _=>hq2 rfl) fun i3 k Z hk _ _ hq3=> ?_
 exact z8c (v:=v) (s:=y) hv hF hsb hnb (by omega) (v8u (v:=v) (s:=y) hv hF hsb hnb (by omega) (Cnd.yes rfl (w6s fun r hr=>Cnd.yes (hr.2 rfl) (hq3 rfl))))
end Go.En
end
noncomputable section
namespace Go.En
open Go Go.RowKit Go.Fl Go.Fl.Lk Go.Fx
open Go.Proofs.YtkbjibhkaddepaaGreatDoor.Rows (uptoBulk uptoBulkAll)
section
variable {H:Type}{enc:TypeId×Value->H}{W:World}{base:Nat}{spare:Nat->Bool}{held:Bool}
theorem u0p(d:DataW H):1<=uptoBulk d:=by
 cases d with
 |lit l=>cases l<;>simp[uptoBulk]
 |_=>simp[uptoBulk]
theorem u0q(l:List (DataW H)):l.length<=uptoBulkAll l:=by
 induction l with
 |nil=>simp
 |cons d l ih=>have:=u0p d;simp only[List.length_cons,uptoBulkAll];omega
theorem u4x{l:List (DataW H)}{i:Nat}{d:DataW H}(h:l[i]? =some d):uptoBulk d<=uptoBulkAll l:=by
 induction l generalizing i with
 |nil=>simp at h
 |cons a l ih=>
  cases i with
  |zero=>simp at h;subst h;simp only[uptoBulkAll];omega
  |succ i=>have:=ih (i:=i) (by simpa using h);simp only[uptoBulkAll];omega
theorem u10{α:Type}{f:α->Nat}: ∀{l:List α} {ds:List (DataW H)},l.length=ds.length->(∀(i:Nat) y d,l[i]? =some y->ds[i]? =some d->f y<=uptoBulk d)->(l.map f).sum<=uptoBulkAll ds
 |[],_,_,_=>by simp
 |y::l,[],h,_=>by simp at h
 |y::l,d::ds,h,hk=>by
  have h0:=hk 0 y d rfl rfl;have h1:=u10 (l:=l) (ds:=ds) (by simpa using h) fun i y d hy hd=>hk (i+1) y d (by simpa using hy) (by simpa using hd)
  simp only[List.map_cons,List.sum_cons,uptoBulkAll];omega
theorem y0n{T:Sg.C}{e t:TypeId}{fuel:Nat}{cs:List Value}{x:DataW H×List MemPlace}{f:Sg.car T->Nat}{A:Sg.car T->Prop}(hu:Proofs.Tryz.prog.underlying t=some (.slice e))(hc:Proofs.Tryz.prog.cellsOf e=D.size T)
  (hel: ∀n cs x,fuel=n+1->cs.length=D.size T->DataW.trod enc Proofs.Tryz.prog W base spare held n e cs=some x->uptoBulk x.1<=1048576-> ∃y,RowF D (hv W) cs (D.shape T y)/\f y<=uptoBulk x.1/\A y)
  (h:DataW.trod enc Proofs.Tryz.prog W base spare held fuel t cs=some x)(hb:uptoBulk x.1<=1048576):
  ∃(l:List (Sg.car T)) (v:Value),cs=[v]/\RepF D (hv W) v (.sl T l)/\(l.map f).sum+1<=uptoBulk x.1/\l.length<=uptoBulk x.1/\∀y∈l,A y:=by
 rcases DataW.trod_slice hu h with ⟨rfl,rfl⟩|⟨a,len,cap,Ue,rest,n,hfu,rfl,rfl,_,hl,_,hlen,hE,_,_⟩
 .exact⟨[],_,rfl,y5s T,by simp[uptoBulk],by simp,by simp⟩
 .have hbb:uptoBulkAll (Ue.map (·.1))+1<=uptoBulk (DataW.slice (Ue.map (·.1)) (rest.map (·.1))):=by simp only[uptoBulk];omega
  have hel0:=u0q (Ue.map (·.1));rw[List.length_map] at hel0;have hb1:uptoBulk (DataW.slice (Ue.map (·.1)) (rest.map (·.1)))<=1048576:=hb
  obtain⟨l,hl1,hl2⟩:=y5v (α:=Sg.car T) (Q:=fun i y=> ∃cs d,(Ue.map (·.1))[i]? =some d/\cs.length=D.size T/\VRow (hv W) (a.add (i*D.size T)) cs/\RowF D (hv W) cs (D.shape T y)/\f y<=uptoBulk d/\A y) len (fun i hi=>by
   have h1:=hE i hi;rw[hc] at h1;have h0:Ue[i]? =some Ue[i]:=List.getElem?_eq_getElem (by omega);rw[h0] at h1;obtain⟨cs,h3,h4⟩:=Option.bind_eq_some_iff.1 h1;obtain⟨h5,h6⟩:=y5u h3;have h7:(Ue.map (·.1))[i]? =some Ue[i].1:=by rw[List.getElem?_map,h0];rfl
   have h8:=u4x h7;obtain⟨y,hy,hm,hA⟩:=hel _ _ _ hfu h5 h4 (by omega)
   exact⟨y,cs,_,h7,h5,h6,hy,hm,hA⟩)
  refine⟨l,_,rfl,?_,?_,?_,fun y hy=> ?_⟩
  .have:=RepF.ofRSl okP.ok (D:=D) (σ:=hv W) (v:= .slice (some a) l.length cap) (T:=T) (l:=l) ⟨some a,cap,rfl,by omega,by omega,fun i x hx=>by
    obtain⟨cs,d,_,h1,h2,h3,_⟩:=hl2 i x hx
    exact⟨a,cs,rfl,h1,h2,h3⟩⟩
   rw[hl1] at this;exact this
  .have:=u10 (f:=f) (l:=l) (ds:=Ue.map (·.1)) (by rw[hl1,List.length_map,hlen]) fun i y d hy hd=>by obtain⟨_,d',h1,_,_,_,h2,_⟩:=hl2 i y hy;rw[hd] at h1;cases h1;exact h2
   simp only;omega
  .simp only;omega
  .obtain⟨i,hi⟩:=List.getElem?_of_mem hy;obtain⟨_,_,_,_,_,_,_,hA⟩:=hl2 i y hi;exact hA
theorem j4x{fuel:Nat}{cs:List Value}{x:DataW H×List MemPlace}(h:DataW.trod enc Proofs.Tryz.prog W base spare held fuel 9 cs=some x): ∃s:BA,cs=[.string s]/\s.size+1<=uptoBulk x.1:=by obtain⟨s,rfl,rfl,_⟩:=DataW.trod_string Proofs.Tryz.underlying9 h;refine⟨s,rfl,?_⟩;have:s.data.toList.length=s.size:=rfl;simp only[uptoBulk];omega
theorem u0r{fuel:Nat}{cs:List Value}{x:DataW H×List MemPlace}(h:DataW.trod enc Proofs.Tryz.prog W base spare held fuel 70 cs=some x)(hb:uptoBulk x.1<=1048576): ∃(l:List BA) (v:Value),cs=[v]/\RepF D (hv W) v (.sl C.str l)/\l.length<=uptoBulk x.1:=by
 obtain⟨l,v,h1,h2,_,h3,_⟩:=y0n (T:=C.str) (f:=fun _=>0) (A:=fun _=>True) Proofs.Tryz.underlying70 (by kernel_rfl) (fun n cs x _ _ hx _=>by
  obtain⟨s,rfl,_⟩:=j4x hx
  exact⟨s,Jc (.str _) q97,Nat.zero_le _,trivial⟩) h hb
 exact⟨l,v,h1,h2,h3⟩
theorem y71{n:Int}(h:(Lit.int .i64 n).wf=true):InI n:=by simp only[Lit.wf,Bool.and_eq_true,decide_eq_true_eq] at h;have a:=h.1;have b:=h.2;simp[IntKind.min] at a;simp[IntKind.max] at b;exact⟨a,b⟩
theorem u4y{fuel:Nat}{cs:List Value}{x:DataW H×List MemPlace}(hl:cs.length=4)(h:DataW.trod enc Proofs.Tryz.prog W base spare held fuel 72 cs=some x)(hb:uptoBulk x.1<=1048576): ∃y:Val,RowF D (hv W) cs (D.shape .val y)/\(1+y.4.length<=uptoBulk x.1/\y.3.size<=1048576/\y.4.length<=1048576/\InI y.2):=by
 obtain⟨xs,m,hfu,rfl,_,hn,hf⟩:=DataW.trod_struct Proofs.Tryz.underlying72 h;have c3:Proofs.Tryz.prog.cellsOf 3=1:=by kernel_rfl
 have c9:Proofs.Tryz.prog.cellsOf 9=1:=by kernel_rfl
 have c70:Proofs.Tryz.prog.cellsOf 70=1:=by kernel_rfl
 match xs,hn with
 |[z0,z1,z2,z3],_=>
 have q0:=hf 0 _ rfl;have q1:=hf 1 _ rfl;have q2:=hf 2 _ rfl;have q3:=hf 3 _ rfl
 match cs,hl with
 |[u0,u1,u2,u3],_=>
 simp only[List.map_cons,List.map_nil,uptoBulk,uptoBulkAll] at hb;change DataW.trod enc Proofs.Tryz.prog W base spare held m 3 (List.take (Proofs.Tryz.prog.cellsOf 3) [u0,u1,u2,u3])=some z0 at q0;rw[c3] at q0;change DataW.trod enc Proofs.Tryz.prog W base spare held m 3 [u0]=some z0 at q0;obtain⟨a0,e0,g0,w0⟩:=DataW.trod_int Proofs.Tryz.underlying3 q0;have i0:=y71 w0;change DataW.trod enc Proofs.Tryz.prog W base spare held m 3 (List.take (Proofs.Tryz.prog.cellsOf 3) [u1,u2,u3])=some z1 at q1;rw[c3] at q1;change DataW.trod enc Proofs.Tryz.prog W base spare held m 3 [u1]=some z1 at q1;obtain⟨a1,e1,g1,w1⟩:=DataW.trod_int Proofs.Tryz.underlying3 q1;have i1:=y71 w1;change DataW.trod enc Proofs.Tryz.prog W base spare held m 9 (List.take (Proofs.Tryz.prog.cellsOf 9) [u2,u3])=some z2 at q2;rw[c9] at q2;change DataW.trod enc Proofs.Tryz.prog W base spare held m 9 [u2]=some z2 at q2;obtain⟨a2,e2,g2⟩:=j4x q2;change DataW.trod enc Proofs.Tryz.prog W base spare held m 70 (List.take (Proofs.Tryz.prog.cellsOf 70) [u3])=some z3 at q3;rw[c70] at q3;change DataW.trod enc Proofs.Tryz.prog W base spare held m 70 [u3]=some z3 at q3;obtain⟨a3,v3,e3,r3,g3⟩:=u0r q3 (by omega);simp only[List.cons.injEq,and_true] at e0;subst e0;subst g0;simp only[List.cons.injEq,and_true] at e1;subst e1;subst g1;simp only[List.cons.injEq,and_true] at e2;subst e2;simp only[List.cons.injEq,and_true] at e3;subst e3;refine⟨Val.mk a0 a1 a2 a3,(Jc (.int _ _) (Jc (.int _ _) (Jc (.str _) (Jc r3 q97)))),?_⟩;simp only[List.map_cons,List.map_nil,uptoBulk,uptoBulkAll] at hb⊢;exact⟨by omega,by omega,by omega,i1⟩
theorem u0s{fuel:Nat}{cs:List Value}{x:DataW H×List MemPlace}(hl:cs.length=5)(h:DataW.trod enc Proofs.Tryz.prog W base spare held fuel 160 cs=some x)(hb:uptoBulk x.1<=1048576): ∃y:Attr,RowF D (hv W) cs (D.shape .attr y)/\(y.value.list.length<=1048576/\y.value.text.size<=1048576/\InI y.value.number):=by
 obtain⟨xs,m,hfu,rfl,_,hn,hf⟩:=DataW.trod_struct Proofs.Tryz.underlying160 h;have c9:Proofs.Tryz.prog.cellsOf 9=1:=by kernel_rfl
 have c72:Proofs.Tryz.prog.cellsOf 72=4:=by kernel_rfl
 match xs,hn with
 |[z0,z1],_=>
 have q0:=hf 0 _ rfl;have q1:=hf 1 _ rfl
 match cs,hl with
 |[u0,u1,u2,u3,u4],_=>
 simp only[List.map_cons,List.map_nil,uptoBulk,uptoBulkAll] at hb;change DataW.trod enc Proofs.Tryz.prog W base spare held m 9 (List.take (Proofs.Tryz.prog.cellsOf 9) [u0,u1,u2,u3,u4])=some z0 at q0;rw[c9] at q0;change DataW.trod enc Proofs.Tryz.prog W base spare held m 9 [u0]=some z0 at q0;obtain⟨a0,e0,g0⟩:=j4x q0;change DataW.trod enc Proofs.Tryz.prog W base spare held m 72 (List.take (Proofs.Tryz.prog.cellsOf 72) [u1,u2,u3,u4])=some z1 at q1;rw[c72] at q1;change DataW.trod enc Proofs.Tryz.prog W base spare held m 72 [u1,u2,u3,u4]=some z1 at q1;obtain⟨a1,r1,g1⟩:=u4y rfl q1 (by omega);simp only[List.cons.injEq,and_true] at e0;subst e0;refine⟨Attr.mk a0 a1,(Jc (.str _) r1),?_⟩;exact⟨g1.2.2.1,g1.2.1,g1.2.2.2⟩
theorem u4z{fuel:Nat}{cs:List Value}{x:DataW H×List MemPlace}(hl:cs.length=3)(h:DataW.trod enc Proofs.Tryz.prog W base spare held fuel 107 cs=some x)(hb:uptoBulk x.1<=1048576): ∃y:Ctxt,RowF D (hv W) cs (D.shape .ctx y)/\(y.attrs.length<=1048576/\(∀a∈y.attrs,a.value.list.length<=1048576/\a.value.text.size<=1048576/\InI a.value.number)/\y.key.size<=1048576):=by
 obtain⟨xs,m,hfu,rfl,_,hn,hf⟩:=DataW.trod_struct Proofs.Tryz.underlying107 h;have c9:Proofs.Tryz.prog.cellsOf 9=1:=by kernel_rfl
 have c105:Proofs.Tryz.prog.cellsOf 105=1:=by kernel_rfl
 match xs,hn with
 |[z0,z1,z2],_=>
 have q0:=hf 0 _ rfl;have q1:=hf 1 _ rfl;have q2:=hf 2 _ rfl
 match cs,hl with
 |[u0,u1,u2],_=>
 simp only[List.map_cons,List.map_nil,uptoBulk,uptoBulkAll] at hb;change DataW.trod enc Proofs.Tryz.prog W base spare held m 9 (List.take (Proofs.Tryz.prog.cellsOf 9) [u0,u1,u2])=some z0 at q0;rw[c9] at q0;change DataW.trod enc Proofs.Tryz.prog W base spare held m 9 [u0]=some z0 at q0;obtain⟨a0,e0,g0⟩:=j4x q0;change DataW.trod enc Proofs.Tryz.prog W base spare held m 9 (List.take (Proofs.Tryz.prog.cellsOf 9) [u1,u2])=some z1 at q1;rw[c9] at q1;change DataW.trod enc Proofs.Tryz.prog W base spare held m 9 [u1]=some z1 at q1;obtain⟨a1,e1,g1⟩:=j4x q1;change DataW.trod enc Proofs.Tryz.prog W base spare held m 105 (List.take (Proofs.Tryz.prog.cellsOf 105) [u2])=some z2 at q2;rw[c105] at q2;change DataW.trod enc Proofs.Tryz.prog W base spare held m 105 [u2]=some z2 at q2
 obtain⟨a2,v2,e2,r2,g2,b2,A2⟩:=y0n (T:=C.attr) (f:=fun _=>0) (A:=fun y:Attr=>y.value.list.length<=1048576/\y.value.text.size<=1048576/\InI y.value.number) Proofs.Tryz.underlying105 (by kernel_rfl) (fun n cs x _ hl hx hb=>by
  obtain⟨y,h1,h2⟩:=u0s hl hx hb
  exact⟨y,h1,Nat.zero_le _,h2⟩) q2 (by omega)
 simp only[List.cons.injEq,and_true] at e0;subst e0;simp only[List.cons.injEq,and_true] at e1;subst e1;simp only[List.cons.injEq,and_true] at e2;subst e2;refine⟨Ctxt.mk a0 a1 a2,(Jc (.str _) (Jc (.str _) (Jc r2 q97))),?_⟩;exact⟨by simp only;omega,A2,by simp only;omega⟩
theorem u0t{fuel:Nat}{cs:List Value}{x:DataW H×List MemPlace}(hl:cs.length=1)(h:DataW.trod enc Proofs.Tryz.prog W base spare held fuel 25 cs=some x)(hb:uptoBulk x.1<=1048576): ∃y:Subj,RowF D (hv W) cs (D.shape .subj y)/\(SubB y/\NumB y):=by
 obtain⟨xs,m,hfu,rfl,_,hn,hf⟩:=DataW.trod_struct Proofs.Tryz.underlying25 h;have c23:Proofs.Tryz.prog.cellsOf 23=1:=by kernel_rfl
 match xs,hn with
 |[z0],_=>
 have q0:=hf 0 _ rfl
 match cs,hl with
 |[u0],_=>
 simp only[List.map_cons,List.map_nil,uptoBulk,uptoBulkAll] at hb;change DataW.trod enc Proofs.Tryz.prog W base spare held m 23 (List.take (Proofs.Tryz.prog.cellsOf 23) [u0])=some z0 at q0;rw[c23] at q0;change DataW.trod enc Proofs.Tryz.prog W base spare held m 23 [u0]=some z0 at q0
 obtain⟨a0,v0,e0,r0,g0,b0,A0⟩:=y0n (T:=C.ctx) (f:=fun _=>0) (A:=fun y:Ctxt=>y.attrs.length<=1048576/\(∀a∈y.attrs,a.value.list.length<=1048576/\a.value.text.size<=1048576/\InI a.value.number)/\y.key.size<=1048576) Proofs.Tryz.underlying23 (by kernel_rfl) (fun n cs x _ hl hx hb=>by
  obtain⟨y,h1,h2⟩:=u4z hl hx hb
  exact⟨y,h1,Nat.zero_le _,h2⟩) q0 (by omega)
 simp only[List.cons.injEq,and_true] at e0;subst e0;refine⟨Subj.mk a0,(Jc r0 q97),?_⟩;exact⟨⟨by simp only;omega,fun c hc=>by have:=(A0 c hc).1;omega,fun c hc a ha=>by have:=(A0 c hc).2.1 a ha;omega,fun c hc=>by have:=(A0 c hc).2.2;omega⟩,fun c hc a ha=>((A0 c hc).2.1 a ha).2.2⟩
theorem y3h{fuel:Nat}{cs:List Value}{x:DataW H×List MemPlace}(hl:cs.length=3)(h:DataW.trod enc Proofs.Tryz.prog W base spare held fuel 172 cs=some x)(hb:uptoBulk x.1<=1048576): ∃y:Frc,RowF D (hv W) cs (D.shape .forced y)/\True:=by
 obtain⟨xs,m,hfu,rfl,_,hn,hf⟩:=DataW.trod_struct Proofs.Tryz.underlying172 h;have c3:Proofs.Tryz.prog.cellsOf 3=1:=by kernel_rfl
 have c9:Proofs.Tryz.prog.cellsOf 9=1:=by kernel_rfl
 match xs,hn with
 |[z0,z1,z2],_=>
 have q0:=hf 0 _ rfl;have q1:=hf 1 _ rfl;have q2:=hf 2 _ rfl
 match cs,hl with
 |[u0,u1,u2],_=>
 simp only[List.map_cons,List.map_nil,uptoBulk,uptoBulkAll] at hb;change DataW.trod enc Proofs.Tryz.prog W base spare held m 9 (List.take (Proofs.Tryz.prog.cellsOf 9) [u0,u1,u2])=some z0 at q0;rw[c9] at q0;change DataW.trod enc Proofs.Tryz.prog W base spare held m 9 [u0]=some z0 at q0;obtain⟨a0,e0,g0⟩:=j4x q0;change DataW.trod enc Proofs.Tryz.prog W base spare held m 9 (List.take (Proofs.Tryz.prog.cellsOf 9) [u1,u2])=some z1 at q1;rw[c9] at q1;change DataW.trod enc Proofs.Tryz.prog W base spare held m 9 [u1]=some z1 at q1;obtain⟨a1,e1,g1⟩:=j4x q1;change DataW.trod enc Proofs.Tryz.prog W base spare held m 3 (List.take (Proofs.Tryz.prog.cellsOf 3) [u2])=some z2 at q2;rw[c3] at q2;change DataW.trod enc Proofs.Tryz.prog W base spare held m 3 [u2]=some z2 at q2;obtain⟨a2,e2,g2,w2⟩:=DataW.trod_int Proofs.Tryz.underlying3 q2;have i2:=y71 w2;simp only[List.cons.injEq,and_true] at e0;subst e0;simp only[List.cons.injEq,and_true] at e1;subst e1;simp only[List.cons.injEq,and_true] at e2;subst e2;subst g2;refine⟨Frc.mk a0 a1 a2,(Jc (.str _) (Jc (.str _) (Jc (.int _ _) q97))),?_⟩;exact trivial
theorem y3i{fuel:Nat}{cs:List Value}{x:DataW H×List MemPlace}(h:DataW.trod enc Proofs.Tryz.prog W base spare held fuel 56 cs=some x)(hb:uptoBulk x.1<=1048576): ∃(l:List Frc) (v:Value),cs=[v]/\RepF D (hv W) v (.sl C.forced l)/\l.length<=1048576:=by
 obtain⟨l,v,h1,h2,_,h3,_⟩:=y0n (T:=C.forced) (f:=fun _=>0) (A:=fun _=>True) Proofs.Tryz.underlying56 (by kernel_rfl) (fun n cs x _ hl hx hb=>by
  obtain⟨y,h1,_⟩:=y3h hl hx hb
  exact⟨y,h1,Nat.zero_le _,trivial⟩) h hb
 exact⟨l,v,h1,h2,by omega⟩
end
end Go.En
end
