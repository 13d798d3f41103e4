/- AssignOnce: for every input the law returns true and leaves its arguments as they were. This is part 7 of 7. Conditions: those in the statements. -/
import Derived.Test.YtfiomedjdipbgaaGreatDoorRows
import Derived.Test.YtfiomedjdipbgaaGreatDoorCards
import Derived.Test.YtfiomedjdipbgaaGreatDoorTie
import Derived.Test.YtfiomedjdipbgaaGreatDoorAO6
import Derived.KernelRfl
import Derived.WalkKit
import Derived.ProofKit
import Derived.OpenShut
import Derived.Deep.DeepHandedRow
import Derived.Deep.DeepWitnessRowRef
import Derived.Lay
import Derived.SevenTiedAt
noncomputable section
set_option maxRecDepth 100000
namespace Go.En
open Go Go.Fl Go.Fl.Lk Go.Fx Go.Dg
theorem v7w {v:Envt} {layer but:ByteArray} {now:Int} {K:List Spn->Prop} (h: ∀l,l.length<=10000->K l):q82 v layer but now K:=by
 unfold q82 j0h
 refine z1e fun r hr=>Cnd.mk (fun _=>h _ (by simp)) fun hn=> ?_
 refine Jn1.mk (fun l=>SpsS l) ?_ fun l hl=> ?_
 ·rcases hr with ⟨e,_⟩|⟨a,b,_⟩
  ·omega
  refine ⟨⟨a,b⟩,fun y hy=>⟨⟨a,b⟩,fun z hz=> ?_⟩⟩
  refine ⟨z41 fun u hu=>z7k (by omega) fun l _=>z0r fun l hl=>hl,z41 fun u hu=>⟨z7k (by omega) fun l _=>z0r fun l hl=>hl,z7k (by omega) fun l _=>z0r fun l hl=>hl⟩⟩
 ·refine Lp2.ind (fun (l:List Spn) (i:Int)=>0<=i/\i<=v.experiments.length/\SpsS l) (fun _ (i:Int)=>(v.experiments.length - i).toNat) ?_ ⟨by omega,by omega,hl⟩
  rintro l i ⟨i0,i1,hl⟩
  have hlen:=hl.len
  (repeat' (first|exact h _ (by omega)|refine z0r fun l hl=> ?_|assumption|(unfold InI;omega)|omega|refine Cnd.mk (fun _=> ?_) fun _=> ?_|refine ⟨?_,?_⟩|intro _))
theorem y2q {v:Envt} {layer:ByteArray} {now:Int} {K:List Spn->Int->Prop} (h: ∀l e,SpsS l->K l e):z1u v layer now K:=by
 unfold z1u j5e
 have nil:SpsS []:=⟨by simp,by simp⟩
 exact y1x fun _ _=>Cnd.mk (fun _=>z1e fun _ _=>Cnd.mk (fun _=>h _ _ nil) fun _=>v7w fun _ _=>j75 fun l hl=>h _ _ hl) fun _=>h _ _ nil
def lim:Nat->Nat
 |0=>1
 |n+1=>1+3*lim n
theorem w50: ∀(n:Nat) {l:List Ex} {e:Ex} {K:List Ex->Prop},n<=5->ExS n e->(∀x∈l,ExS 5 x)->l.length+lim n<=1000000->(∀r,(∀x∈r,ExS 5 x)->r.length<=l.length+lim n->K r)->q12 l e K:=by
 intro n l e K hn he hl hB h X hX
 induction n using Nat.strongRecOn generalizing l e K with
 |_ n ih=>
 refine hX _ _ _ ?_
 unfold z0y
 rw [W0]
 have lp:1<=lim n:=by cases n<;>simp [lim]
 refine Jn1.mk (fun r=>(∀x∈r,ExS 5 x)/\r.length<=l.length+1) ?_ fun r hr=> ?_
 ·have same:(∀x∈l,ExS 5 x)/\l.length<=l.length+1:=⟨hl,by omega⟩
  have more:Sml ([]++l).length/\Sml ([]++l++[e]).length/\((∀x∈[]++l++[e],ExS 5 x)/\([]++l++[e]).length<=l.length+1):=by
   refine ⟨by unfold Sml;simp;omega,by unfold Sml;simp;omega,?_,by simp⟩
   rw [List.nil_append]
   exact W8 hl (he.le hn)
  have ix:G3 l e fun x=>Cnd (x<0) ((Sml ([]++l).length/\Sml ([]++l++[e]).length/\((∀x∈[]++l++[e],ExS 5 x)/\([]++l++[e]).length<=l.length+1))/\Sml ([]++l).length/\Sml ([]++l++[e]).length/\((∀x∈[]++l++[e],ExS 5 x)/\([]++l++[e]).length<=l.length+1)) ((∀x∈l,ExS 5 x)/\l.length<=l.length+1):=
   j74 hl fun r _=>Cnd.mk (fun _=>⟨more,more⟩) fun _=>same
  exact Cnd.mk (fun _=>ix) fun _=>q28 fun r _=>Cnd.mk (fun _=>ix) fun _=>same
 ·obtain ⟨hr,hlen⟩:=hr
  have hk:=he.kids
  cases n with
  |zero=>
   have hk0:e.kids=[]:=he.2.2.2
   refine Lp2.ind (fun (q:List Ex) (i:Int)=>q=r/\0<=i) (fun _ _=>0) ?_ ⟨rfl,by omega⟩
   rintro q i ⟨rfl,i0⟩ _
   refine Cnd.mk (fun hc=> ?_) fun _=>h _ hr (by simp [lim];omega)
   rw [hk0]
   exact ⟨by rw [hk0] at hc;simp at hc;omega,fun y hy=>by simp at hy⟩
  |succ n=>
  refine Lp2.ind (fun (q:List Ex) (i:Int)=>0<=i/\i<=e.kids.length/\(∀x∈q,ExS 5 x)/\q.length<=r.length+i.toNat*lim n) (fun _ (i:Int)=>(e.kids.length - i).toNat) ?_ ⟨by omega,by omega,hr,by simp⟩
  rintro q i ⟨i0,i1,hq,hql⟩ _
  have hle:i.toNat*lim n<=3*lim n:=Nat.mul_le_mul_right _ (by omega)
  have hB:l.length+(1+3*lim n)<=1000000:=hB
  refine Cnd.mk (fun hc=>⟨by omega,fun y hy=> ?_⟩) fun _=>h _ hq (by show q.length<=l.length+(1+3*lim n);omega)
  obtain ⟨m,hm,hk⟩:=he.kid (getm hy)
  obtain rfl:m=n:=by omega
  rw [W0]
  have hle2:i.toNat*lim m<=2*lim m:=Nat.mul_le_mul_right _ (by omega)
  refine ih m (by omega) (by omega) hk hq (by omega) fun s hs hsl=>⟨by unfold InI;omega,⟨by omega,by omega,hs,?_⟩,by omega⟩
  ·rw [show (i+1).toNat=i.toNat+1 by omega,Nat.add_mul,Nat.one_mul];omega
theorem lim4:lim 4=121:=rfl
theorem w0b {l:List Rul} {K:List Ex->Prop} (hl:l.length<=100) (hr: ∀r∈l,ExS 4 r.cond) (h: ∀r,(∀x∈r,ExS 5 x)->r.length<=100000->K r):B9 l K:=by
 unfold B9 q8y
 refine Lp2.ind (fun (q:List Ex) (i:Int)=>0<=i/\i<=l.length/\(∀x∈q,ExS 5 x)/\q.length<=i.toNat*121) (fun _ (i:Int)=>(l.length - i).toNat) ?_ ⟨by omega,by omega,by simp,by simp⟩
 rintro q i ⟨i0,i1,hq,hql⟩ _
 refine Cnd.mk (fun hc=>⟨by omega,fun y hy=> ?_⟩) fun _=>h _ hq (by omega)
 rw [W0]
 refine w50 4 (by omega) (hr y (getm hy)) hq (by rw [lim4];omega) fun s hs hsl=>⟨by unfold InI;omega,⟨by omega,by omega,hs,?_⟩,by omega⟩
 rw [lim4] at hsl;omega
def StS (ns:List Nd) (ids:Nd->Option Int):Prop:=Inv ns ids/\ns.length<=4000
theorem OpR.st {p:Prop} {ns:List Nd} {ids:Nd->Option Int} {full:Bool} {f g h r:Int} {ns':List Nd} {ids':Nd->Option Int} {full':Bool} (h:OpR p ns ids full f g h r ns' ids' full') (hS:StS ns ids):StS ns' ids':=by
 rcases h with ⟨_,C⟩|⟨_,_,e1,e2,_⟩
 ·exact ⟨C.grew.inv,C.grew.len⟩
 ·rw [e1,e2];exact hS
theorem u99 {ns:List Nd} {ids:Nd->Option Int} {full:Bool} {t y n:Int} (hS:StS ns ids):StS (node ns ids full t y n).2.1 (node ns ids full t y n).2.2.1:=by
 by_cases hO:j8b ns t y n
 ·obtain ⟨h1,_⟩:=u25 (full:=full) hS.1 hS.2 hO (he:=rfl)
  exact ⟨h1.inv,h1.len⟩
 ·rw [y4h hO];exact hS
theorem qa0a:Inv [] fun _=>none:=⟨⟨fun i h0 hl=>by simp at hl;omega,fun i j h0 hl=>by simp at hl;omega⟩,fun n id=>by simp;omega⟩
theorem w0c: ∀(n:Nat) {ns:List Nd} {ids:Nd->Option Int} {full:Bool} {atoms:List Ex} {e:Ex} {K:Int->List Nd->(Nd->Option Int)->Bool->Prop},ExS n e->(∀x∈atoms,ExS 5 x)->StS ns ids->(∀r ns ids full,StS ns ids->K r ns ids full)->q0a ns ids full atoms e K:=by
 intro n ns ids full atoms e K he ha hS h X hX
 induction n using Nat.strongRecOn generalizing ns ids full e K with
 |_ n ih=>
 refine hX _ _ _ _ _ _ ?_
 unfold q8z
 rw [W0]
 have hop:=he.opK
 have zero:2<=e.op->e.op<=4->(0:Int)<(e.kids.length:Int):=fun a b=>by have:=List.length_pos_iff.2 (hop a b);omega
 have kid: ∀{y:Ex} {ns ids full} {K:Int->List Nd->(Nd->Option Int)->Bool->Prop},y∈e.kids->StS ns ids->(∀r ns ids full,StS ns ids->K r ns ids full)->X ns ids full atoms (Ex.mk y.1 y.2 y.3 y.4 y.5) K:=fun hy hS hK=>by
  obtain ⟨m,hm,hk⟩:=he.kid hy
  rw [W0]
  exact ih m (by omega) hk hS hK
 refine Cnd.mk (fun _=>h _ _ _ _ hS) fun _=>Cnd.mk (fun h4=>⟨⟨by omega,zero (by omega) (by omega)⟩,fun y hy=>kid (getm hy) hS fun r ns ids full hS=>u98 hS.1 hS.2 fun r ns ids full C=>h _ _ _ _ (C.st hS)⟩) fun _=> ?_
 refine Jn1.mk (fun b=>b=true->2<=e.op/\e.op<=4) (Cnd.mk (fun hc _=>by omega) fun _ hd=>by have:=of_decide_eq_true hd;omega) fun b hb=>Cnd.mk (fun hc=>⟨⟨by omega,zero (hb hc).1 (hb hc).2⟩,fun y hy=>kid (getm hy) hS fun r ns ids full hS=> ?_⟩) fun _=> ?_
 ·refine Lp5.ind (fun (_ i:Int) ns _ ids=>1<=i/\i<=e.kids.length+1/\StS ns ids) (fun _ (i:Int) _ _ _=>(e.kids.length+1 - i).toNat) ?_ ⟨by omega,by omega,hS⟩
  rintro f i ns full ids ⟨i0,i1,hS⟩ _
  refine Cnd.mk (fun hc=>⟨by omega,fun y hy=>kid (getm hy) hS fun r ns ids full hS=> ?_⟩) fun _=>h _ _ _ _ hS
  exact Cnd.mk (fun _=>u97 hS.1 hS.2 fun r ns ids full C=>⟨by unfold InI;omega,⟨by omega,by omega,C.st hS⟩,by omega⟩) fun _=>u7f hS.1 hS.2 fun r ns ids full C=>⟨by unfold InI;omega,⟨by omega,by omega,C.st hS⟩,by omega⟩
 ·exact j74 ha fun r hr=>Cnd.mk (fun _=>h _ _ _ _ hS) fun _=>y4i hS.2 (h _ _ _ _ (u99 hS))
theorem z0t {l:List Rul} {K:List Int->Int->Bool->Prop} (hl:l.length<=100) (hr: ∀r∈l,ExS 4 r.cond) (h: ∀o n b,o.length<=100->K o n b):Va l K:=by
 unfold Va q42
 refine w0b hl hr fun atoms ha _=> ?_
 refine LpH.ind (fun (x:Int×List Int×Int×List Nd×Bool×(Nd->Option Int)×Unit)=>0<=x.2.2.1/\x.2.2.1<=(l.length:Int)/\(x.2.1.length:Int)<=x.2.2.1/\StS x.2.2.2.1 x.2.2.2.2.2.1) (fun x=>((l.length:Int) - x.2.2.1).toNat) ?_ ⟨by simp,by simp,by simp,qa0a,by simp⟩
 rintro ⟨some_,out,i,ns,full,ids,u⟩ ⟨i0,i1,ho,hS⟩
 simp only at i0 i1 ho hS⊢
 refine fun _=>Cnd.mk (fun hc=>⟨by omega,fun y hy=> ?_⟩) fun _ _=>h _ _ _ (by omega)
 rw [W0]
 refine w0c 4 (hr y (getm hy)) ha hS fun r ns ids full hS=>u7f hS.1 hS.2 fun r ns ids full C=>Cnd.mk (fun _ _=>h _ _ _ (by simp)) fun _=>Cnd.mk (fun _=> ?_) fun _=> ?_
 ·exact ⟨by unfold InI;omega,by unfold Sml;simp;omega,by unfold InI;omega,⟨by omega,by omega,by simp;omega,C.st hS⟩,by omega⟩
 ·exact ⟨by unfold InI;omega,⟨by omega,by omega,by omega,C.st hS⟩,by omega⟩
theorem y2r {l m:List ByteArray} (hl:Asc l) (hs: ∀x∈l,x∈m):l.length<=m.length:=y4j (w09 hl) hs
theorem y2s {edges:List Edg} {node:ByteArray} {K:List ByteArray->Prop} (hE:edges.length<=100000) (h: ∀r,Asc r->(∀x∈r,x∈edges.map Edg.dst)->K r):z16 edges node K:=by
 unfold z16 j5j
 have len: ∀{o:List ByteArray},Asc o->(∀x∈o,x∈edges.map Edg.dst)->o.length<=edges.length:=fun a b=>by have:=y2r a b;simpa using this
 refine Lp2.ind (fun (o t:List ByteArray)=>Asc o/\(∀x∈o,x∈edges.map Edg.dst)/\t.length<=o.length+1) (fun o t=>2*(edges.length - o.length)+t.length) ?_ ⟨y2h,by simp,by simp⟩
 rintro o t ⟨ho,hs,ht⟩ _
 refine Cnd.mk (fun hc=>⟨by omega,fun n hn=>⟨by omega,?_⟩⟩) fun _=>h o ho hs
 have hlo:=len ho hs
 refine Lp3.ind (fun (o' t':List ByteArray) (i:Int)=>0<=i/\i<=edges.length/\Asc o'/\(∀x∈o',x∈edges.map Edg.dst)/\t'.length<=o'.length/\2*(edges.length - o'.length)+t'.length<2*(edges.length - o.length)+t.length) (fun _ _ (i:Int)=>(edges.length - i).toNat) ?_ ⟨by omega,by omega,ho,hs,by simp;omega,by simp;omega⟩
 rintro o' t' i ⟨i0,i1,ho',hs',ht',hm⟩ _
 have hlo':=len ho' hs'
 refine Cnd.mk (fun hc=>⟨by omega,fun e he=>Cnd.mk (fun _=>⟨by omega,fun e he=>z7j fun r hr=>Cnd.mk (fun _=>⟨by unfold InI;omega,⟨by omega,by omega,ho',hs',ht',hm⟩,by omega⟩) fun hn=>⟨by omega,fun e2 he2=> ?_⟩⟩) fun _=>⟨by unfold InI;omega,⟨by omega,by omega,ho',hs',ht',hm⟩,by omega⟩⟩) fun _=>⟨⟨ho',hs',by omega⟩,hm⟩
 rw [he] at he2;cases he2
 refine w5u ho' (by omega) fun q hq hmem=>⟨by omega,fun e3 he3=> ?_⟩
 rw [he] at he3;cases he3
 have hin:e.dst∈edges.map Edg.dst:=List.mem_map.2 ⟨e,getm he,rfl⟩
 have hq2: ∀x∈q,x∈edges.map Edg.dst:=fun x hx=>by
  rcases (hmem x).1 hx with hx|rfl
  ·exact hs' x hx
  ·exact hin
 have hlq:=len hq hq2
 have hne:e.dst∉o':=fun hx=>hn (hr.2 hx)
 have hlen:o'.length+1<=q.length:=by
  have h1:(e.dst::o').Nodup:=List.nodup_cons.2 ⟨hne,w09 ho'⟩
  exact y4j h1 fun x hx=>(hmem x).2 (by rcases List.mem_cons.1 hx with rfl|hx<;>simp [*])
 have goal:Sml ([]++t').length/\Sml ([]++t'++[e.dst]).length/\InI (i+1)/\((0<=i+1/\i+1<=edges.length/\Asc q/\(∀x∈q,x∈edges.map Edg.dst)/\([]++t'++[e.dst]).length<=q.length/\2*(edges.length - q.length)+([]++t'++[e.dst]).length<2*(edges.length - o.length)+t.length)/\(edges.length - (i+1)).toNat<(edges.length - i).toNat):=
  ⟨by unfold Sml;simp;omega,by unfold Sml;simp;omega,by unfold InI;omega,⟨by omega,by omega,hq,hq2,by simp;omega,by simp;omega⟩,by omega⟩
 exact ⟨goal,goal⟩
end Go.En
end
noncomputable section
set_option maxRecDepth 100000
namespace Go.En
open Go Go.Fl Go.Fl.Lk Go.Fx Go.Dg
theorem v7x {nodes:List ByteArray} {edges:List Edg} {K:List ByteArray->Prop} (hN:nodes.length<=100000) (hE:edges.length<=100000) (h: ∀r,Asc r->(∀x∈r,x∈nodes)->K r):q9b nodes edges K:=by
 unfold q9b j0n
 refine Lp2.ind (fun (o:List ByteArray) (i:Int)=>0<=i/\i<=nodes.length/\Asc o/\ ∀x∈o,x∈nodes) (fun _ (i:Int)=>(nodes.length - i).toNat) ?_ ⟨by omega,by omega,y2h,by simp⟩
 rintro o i ⟨i0,i1,ho,hs⟩ _
 have hlo:=y2r ho hs
 refine Cnd.mk (fun hc=>⟨by omega,fun n hn=>⟨by omega,fun m hm=>y2s hE fun q _ _=>z7j fun r _=>Cnd.mk (fun _=>⟨by omega,fun p hp=>w5u ho (by omega) fun o' ho' hmem=>⟨by unfold InI;omega,⟨by omega,by omega,ho',fun x hx=> ?_⟩,by omega⟩⟩) fun _=>⟨by unfold InI;omega,⟨by omega,by omega,ho,hs⟩,by omega⟩⟩⟩) fun _=>h o ho hs
 rcases (hmem x).1 hx with hx|rfl
 ·exact hs x hx
 ·exact getm hp
theorem j8c {nodes:List ByteArray} {edges:List Edg} {K:ByteArray->Bool->Prop} (hN:nodes.length<=100000) (hE:edges.length<=100000) (hs: ∀x∈nodes,x.size<=100) (h: ∀s b,s.size<=100->K s b):q9c nodes edges K:=by
 unfold q9c j0o
 exact v7x hN hE fun r _ hr _=>Cnd.mk (fun _=>h _ _ sz0) fun hc=>⟨by omega,fun y hy=>h _ _ (hs y (hr y (getm hy)))⟩
theorem v3j: ∀(n:Nat) {l:List ByteArray} {e:Ex} {K:List ByteArray->Prop},ExS n e->Asc l->l.length+lim n<=1000000->(∀r,Asc r->r.length<=l.length+lim n->K r)->q6s l e K:=by
 intro n l e K he hl hB h X hX
 induction n using Nat.strongRecOn generalizing l e K with
 |_ n ih=>
 refine hX _ _ _ ?_
 unfold z5y
 have lp:1<=lim n:=by cases n<;>simp [lim]
 refine Jn1.mk (fun r=>Asc r/\r.length<=l.length+1) (Cnd.mk (fun _=>w5u hl (by omega) fun r hr hmem=>⟨hr,?_⟩) fun _=>⟨hl,by omega⟩) fun r hr=> ?_
 ·have:=y2r hr (m:=e.3::l) fun x hx=>by rcases (hmem x).1 hx with hx|rfl<;>simp [*]
  simpa using this
 ·obtain ⟨hr,hlen⟩:=hr
  have hk:=he.kids
  cases n with
  |zero=>
   have hk0:e.kids=[]:=he.2.2.2
   refine Lp2.ind (fun (q:List ByteArray) (i:Int)=>q=r/\0<=i) (fun _ _=>0) ?_ ⟨rfl,by omega⟩
   rintro q i ⟨rfl,i0⟩ _
   refine Cnd.mk (fun hc=> ?_) fun _=>h _ hr (by simp [lim];omega)
   rw [hk0]
   exact ⟨by rw [hk0] at hc;simp at hc;omega,fun y hy=>by simp at hy⟩
  |succ n=>
  refine Lp2.ind (fun (q:List ByteArray) (i:Int)=>0<=i/\i<=e.kids.length/\Asc q/\q.length<=r.length+i.toNat*lim n) (fun _ (i:Int)=>(e.kids.length - i).toNat) ?_ ⟨by omega,by omega,hr,by simp⟩
  rintro q i ⟨i0,i1,hq,hql⟩ _
  have hle:i.toNat*lim n<=3*lim n:=Nat.mul_le_mul_right _ (by omega)
  have hB:l.length+(1+3*lim n)<=1000000:=hB
  refine Cnd.mk (fun hc=>⟨by omega,fun y hy=> ?_⟩) fun _=>h _ hq (by show q.length<=l.length+(1+3*lim n);omega)
  obtain ⟨m,hm,hk⟩:=he.kid (getm hy)
  obtain rfl:m=n:=by omega
  rw [W0]
  have hle2:i.toNat*lim m<=2*lim m:=Nat.mul_le_mul_right _ (by omega)
  refine ih m (by omega) hk hq (by omega) fun s hs hsl=>⟨by unfold InI;omega,⟨by omega,by omega,hs,?_⟩,by omega⟩
  rw [show (i+1).toNat=i.toNat+1 by omega,Nat.add_mul,Nat.one_mul];omega
theorem v3k {e:Ex} {K:List ByteArray->Prop} (he:ExS 4 e) (h: ∀r,Asc r->r.length<=121->K r):q6t e K:=by
 unfold q6t z5z
 rw [W0]
 exact v3j 4 he y2h (by decide) fun r hr hl=>h r hr (by rw [lim4] at hl;simpa using hl)
theorem v7y {l:List Seg} {K:List Edg->Prop} (hl:l.length<=100) (hs: ∀g∈l,SegS g) (h: ∀r,r.length<=100000->K r):q9a l K:=by
 unfold q9a j0m
 refine Lp2.ind (fun (r:List Edg) (i:Int)=>0<=i/\i<=l.length/\r.length<=i.toNat*121) (fun _ (i:Int)=>(l.length - i).toNat) ?_ ⟨by omega,by omega,by simp⟩
 rintro r i ⟨i0,i1,hr⟩ _
 refine Cnd.mk (fun hc=>⟨by omega,fun g hg=> ?_⟩) fun _=>h _ (by omega)
 rw [W0]
 refine v3k (hs g (getm hg)).cond fun q _ hq=> ?_
 refine Lp2.ind (fun (p:List Edg) (j:Int)=>0<=j/\j<=q.length/\p.length<=r.length+j.toNat) (fun _ (j:Int)=>(q.length - j).toNat) ?_ ⟨by omega,by omega,by simp⟩
 rintro p j ⟨j0,j1,hp⟩ _
 exact Cnd.mk (fun hc=>⟨by omega,fun _ _=>⟨by omega,fun _ _=>⟨by unfold Sml;simp;omega,by unfold InI;omega,⟨by omega,by omega,by simp;omega⟩,by omega⟩⟩⟩) fun _=>⟨by unfold InI;omega,⟨by omega,by omega,by omega⟩,by omega⟩
theorem w9n {l:List Decl} {kind name:ByteArray} {K:Int->Prop} (h: ∀r,K r):q3z l kind name K:=by
 unfold q3z
 refine Lp1.ind (fun (i:Int)=>0<=i/\i<=l.length) (fun (i:Int)=>(l.length - i).toNat) ?_ ⟨by omega,by omega⟩
 rintro i ⟨i0,i1⟩
 (repeat' (first|exact h _|assumption|(unfold InI;omega)|omega|refine Cnd.mk (fun _=> ?_) fun _=> ?_|refine ⟨?_,?_⟩|intro _))
theorem j7o: ∀(n:Nat) {l:List Decl} {segs:List ByteArray} {e:Ex} {K:Int->Prop},ExS n e->(∀r,K r)->q30 l segs e K:=by
 intro n l segs e K he h X hX
 induction n using Nat.strongRecOn generalizing e K with
 |_ n ih=>
 refine hX _ _ _ _ ?_
 unfold w2r
 have lp:Lp1 (fun (Qb:Int) q54=>e.5.length<=(9223372036854775807:Nat)->Cnd (Qb<(↑e.5.length:Int)) (((0:Int)<=Qb/\Qb<(↑e.5.length:Int))/\ ∀y2,e.5[Qb.toNat]? =some y2->X l segs (Ex.mk y2.1 y2.2 y2.3 y2.4 y2.5) fun Qk=>Cnd (Qk=(0:Int)) (InI (Qb+(1:Int))/\q54 (Qb+(1:Int))) (K Qk)) (K (0:Int))) (0:Int):=by
  refine Lp1.ind (fun (i:Int)=>0<=i/\i<=e.kids.length) (fun (i:Int)=>(e.kids.length - i).toNat) ?_ ⟨by omega,by omega⟩
  rintro i ⟨i0,i1⟩ _
  refine Cnd.mk (fun hc=>⟨by omega,fun y hy=> ?_⟩) fun _=>h _
  obtain ⟨m,hm,hk⟩:=he.kid (getm hy)
  rw [W0]
  exact ih m (by omega) hk fun r=>Cnd.mk (fun _=>⟨by unfold InI;omega,⟨by omega,by omega⟩,by omega⟩) fun _=>h _
 have jn:Jn0 (Lp1 (fun (Qb:Int) q54=>e.5.length<=(9223372036854775807:Nat)->Cnd (Qb<(↑e.5.length:Int)) (((0:Int)<=Qb/\Qb<(↑e.5.length:Int))/\ ∀y2,e.5[Qb.toNat]? =some y2->X l segs (Ex.mk y2.1 y2.2 y2.3 y2.4 y2.5) fun Qk=>Cnd (Qk=(0:Int)) (InI (Qb+(1:Int))/\q54 (Qb+(1:Int))) (K Qk)) (K (0:Int))) (0:Int)) fun Qb=>We e.1 fun Qc=>Cnd (Qc=true) (q3z l e.2 e.3 fun Qh=>Cnd (Qh=(0:Int)) (K (11:Int)) (q89 Qh (Ex.mk e.1 e.2 e.3 e.4 e.5) fun Qm=>Cnd (Qm=true) Qb (K (8:Int)))) Qb:=
  ⟨True,fun _=>lp,q28 fun _ _=>Cnd.mk (fun _=>w9n fun _=>Cnd.mk (fun _=>h _) fun _=>y7j fun _=>Cnd.mk (fun _=>trivial) fun _=>h _) fun _=>trivial⟩
 exact Cnd.mk (fun _=>z7j fun _ _=>Cnd.mk (fun _=>jn) fun _=>h _) fun _=>jn
theorem w51 {l:List Decl} {s:Srv} {K:Int->Prop} (h: ∀r,K r):z17 l s K:=by
 unfold z17 j5k
 (repeat' (first|exact h _|refine w9n fun _=> ?_|assumption|(unfold InI;omega)|omega|refine Cnd.mk (fun _=> ?_) fun _=> ?_|refine ⟨?_,?_⟩|intro _))
theorem w0d {v:Envt} {f:Flg} {K:Int->Prop} (hv:EnvS v) (hf:FlgS f) (h: ∀r,K r):q0h v f K:=by
 unfold q0h q9d
 have ev:Envt.mk (Sett.mk v.1.1 v.1.2 v.1.3) v.2 v.3 v.4 v.5 v.6=v:=rfl
 rw [ev]
 have hsl:=hv.slen
 have hrl:=hf.rlen
 refine j12 (by omega) ?_
 refine Lp2.ind (fun (i:Int) (_:List ByteArray)=>0<=i/\i<=f.needs.length) (fun (i:Int) _=>(f.needs.length - i).toNat) ?_ ⟨by omega,by omega⟩
 rintro i ks ⟨i0,i1⟩ _
 refine Cnd.mk (fun hc=>⟨by omega,fun q hq=>j4g fun r hr=>Cnd.mk (fun _=>h _) fun hn=>⟨by omega,fun q hq=>⟨?_,fun g hg _=>Cnd.mk (fun _=>h _) fun _=>⟨by unfold InI;omega,⟨by omega,by omega⟩,by omega⟩⟩⟩⟩) fun _=> ?_
 ·rcases hr with ⟨a,_⟩|⟨a,b,_⟩<;>omega
 refine Lp2.ind (fun (i:Int) (_:List ByteArray)=>0<=i/\i<=f.rules.length) (fun (i:Int) _=>(f.rules.length - i).toNat) ?_ ⟨by omega,by omega⟩
 rintro i ks ⟨i0,i1⟩ _
 refine Cnd.mk (fun hc=>⟨by omega,fun r hr=> ?_⟩) fun _=> ?_
 ·rw [W0]
  exact j7o 4 (hf.rules r (getm hr)).cond fun _=>Cnd.mk (fun _=>⟨by omega,fun r hr=>w51 fun _=>Cnd.mk (fun _=>⟨by unfold InI;omega,⟨by omega,by omega⟩,by omega⟩) fun _=>h _⟩) fun _=>h _
 ·exact w51 fun _=>Cnd.mk (fun _=>z0t (by omega) (fun r hr=>(hf.rules r hr).cond) fun o n b ho=>Cnd.mk (fun _ _=>Cnd.mk (fun _=>h _) fun _=>h _) fun _=>h _) fun _=>h _
theorem z48 {v:Envt} {i:Int} {K:Int->Prop} (hv:EnvS v) (i0:0<=i) (i1:i<v.experiments.length) (h: ∀r,K r):Vq v i K:=by
 unfold Vq q0k
 have ev:Envt.mk (Sett.mk v.1.1 v.1.2 v.1.3) v.2 v.3 v.4 v.5 v.6=v:=rfl
 rw [ev]
 have hsl:=hv.slen
 have hxl:=hv.xlen
 refine ⟨⟨i0,i1⟩,fun x hx=>z1e fun k hk=>j4g fun g hg=>Cnd.mk (fun _=>h _) fun hk0=>Cnd.mk (fun _=>h _) fun hg0=> ?_⟩
 have hX:=hv.exps x (getm hx)
 have kb:0<=k/\k<(v.layers.length:Int):=by rcases hk with ⟨a,_⟩|⟨a,b,_⟩<;>omega
 have gb:0<=g/\g<(v.flags.length:Int):=by rcases hg with ⟨a,_⟩|⟨a,b,_⟩<;>omega
 refine Lp1.ind (fun (j:Int)=>0<=j/\j<=x.arms.length) (fun (j:Int)=>(x.arms.length - j).toNat) ?_ ⟨by omega,by omega⟩
 rintro j ⟨j0,j1⟩ _
 refine Cnd.mk (fun hc=>⟨by omega,fun _ _=>⟨gb,fun _ _ _=>Cnd.mk (fun _=>h _) fun _=>⟨by unfold InI;omega,⟨by omega,by omega⟩,by omega⟩⟩⟩) fun _=> ?_
 refine j12 (by omega) ?_
 rw [W0]
 refine j7o 4 hX.cond fun _=>Cnd.mk (fun _=>Cnd.mk (fun _=>h _) fun _=>⟨kb,fun l hl=> ?_⟩) fun _=>h _
 refine Lp3.ind (fun (t:List Spn) (j:Int) (_:List ByteArray)=>0<=j/\j<=v.experiments.length/\(t.length:Int)<=1+j*10000) (fun _ (j:Int) _=>(v.experiments.length - j).toNat) ?_ ⟨by omega,by omega,by simp⟩
 rintro t j ks ⟨j0,j1,ht⟩
 refine Cnd.mk (fun hc=>⟨by omega,fun y hy=> ?_⟩) fun _=>v23 fun c _ _=>Cnd.mk (fun _=>h _) fun _=> ?_
 ·have hcl:=(hv.exps y (getm hy)).claims.len
  exact Cnd.mk (fun _=>Cnd.mk (fun _=>⟨by unfold InI;omega,⟨by omega,by omega,by omega⟩,by omega⟩) fun _=>⟨by unfold Sml;simp;omega,by unfold InI;omega,⟨by omega,by omega,by simp;omega⟩,by omega⟩) fun _=>⟨by unfold InI;omega,⟨by omega,by omega,by omega⟩,by omega⟩
 ·refine Lp4.ind (fun (j:Int) (_ _:List Spn) (_:List ByteArray)=>0<=j/\j<=v.experiments.length) (fun (j:Int) _ _ _=>(v.experiments.length - j).toNat) ?_ ⟨by omega,by omega⟩
  rintro j a b c ⟨j0,j1⟩
  (repeat' (first|exact h _|assumption|(unfold InI;omega)|omega|refine Cnd.mk (fun _=> ?_) fun _=> ?_|refine ⟨?_,?_⟩|intro _))
theorem j4q {v:Envt} {K:ByteArray->Int->Prop} (hv:EnvS v) (h: ∀s r,K s r):Hl v K:=by
 unfold Hl q5g
 have hsl:=hv.slen
 have hfl:=hv.flen
 have hxl:=hv.xlen
 have ev:Envt.mk (Sett.mk v.1.1 v.1.2 v.1.3) v.2 v.3 v.4 v.5 v.6=v:=rfl
 rw [ev]
 have s8:(ByteArray.mk (Array.mk [115,101,103,109,101,110,116,32])).size=8:=rfl
 have s5:(ByteArray.mk (Array.mk [102,108,97,103,32])).size=5:=rfl
 have s11:(ByteArray.mk (Array.mk [101,120,112,101,114,105,109,101,110,116,32])).size=11:=rfl
 have sk: ∀x∈v.segments.map Seg.key,x.size<=100:=fun x hx=>by obtain ⟨g,hg,rfl⟩:=List.mem_map.1 hx;exact (hv.segs g hg).key
 have fk: ∀x∈v.flags.map Flg.key,x.size<=100:=fun x hx=>by obtain ⟨g,hg,rfl⟩:=List.mem_map.1 hx;exact (hv.flags g hg).key
 have nlen:(v.flags.flatMap z4j).length<=4*v.flags.length:=by
  have: ∀l:List Flg,(∀f∈l,FlgS f)->(l.flatMap z4j).length<=4*l.length:=by
   intro l
   induction l with
   |nil=>simp
   |cons f l ih=>intro hf;have h1:=(hf f (by simp)).nlen;have h2:=ih fun g hg=>hf g (by simp [hg]);simp only [List.flatMap_cons,List.length_append,z4j,List.length_map,List.length_cons] at*;omega
  exact this _ hv.flags
 refine j7m hv fun _=>Cnd.mk (fun _=>j12 (by omega) ?_) fun _=>h _ _
 refine Lp2.ind (fun (i:Int) (ks:List ByteArray)=>0<=i/\i<=v.segments.length/\ks=v.segments.map Seg.key) (fun (i:Int) _=>(v.segments.length - i).toNat) ?_ ⟨by omega,by omega,rfl⟩
 rintro i ks ⟨i0,i1,rfl⟩ _
 refine Cnd.mk (fun hc=>⟨by omega,fun g hg=>Cnd.mk (fun _=>⟨by unfold InI;omega,⟨by omega,by omega,rfl⟩,by omega⟩) fun _=>⟨by omega,fun g hg=> ?_⟩⟩) fun _=> ?_
 ·rw [W0]
  refine j7o 4 (hv.segs g (getm hg)).cond fun _=>Cnd.mk (fun _=>⟨by unfold InI;omega,⟨by omega,by omega,rfl⟩,by omega⟩) fun _=>⟨by omega,fun g hg=>⟨?_,h _ _⟩⟩
  have:=(hv.segs g (getm hg)).key
  rw [s8];omega
 refine v7y (by omega) hv.segs fun es hes=>j8c (by simp;omega) hes sk fun s b hs=>Cnd.mk (fun _=>⟨by rw [s8];omega,h _ _⟩) fun _=> ?_
 refine Lp3.ind (fun (i:Int) (_:List ByteArray) (_:List Edg)=>0<=i/\i<=v.flags.length) (fun (i:Int) _ _=>(v.flags.length - i).toNat) ?_ ⟨by omega,by omega⟩
 rintro i ks es ⟨i0,i1⟩ _
 refine Cnd.mk (fun hc=>⟨by omega,fun f hf=>w0d hv (hv.flags f (getm hf)) fun _=>Cnd.mk (fun _=>⟨by unfold InI;omega,⟨by omega,by omega⟩,by omega⟩) fun _=>⟨by omega,fun g hg=>⟨?_,h _ _⟩⟩⟩) fun _=> ?_
 ·have:=(hv.flags g (getm hg)).key
  rw [s5];omega
 refine w5k (by omega) (j93 (by omega) (fun f hf=>by have:=(hv.flags f hf).nlen;omega) (j8c (by simp;omega) (by omega) fk fun s b hs=>Cnd.mk (fun _=>⟨by rw [s5];omega,h _ _⟩) fun _=> ?_))
 refine Lp5.ind (fun (i:Int) (_:List ByteArray) (_ _:List Edg) (_:List ByteArray)=>0<=i/\i<=v.experiments.length) (fun (i:Int) _ _ _ _=>(v.experiments.length - i).toNat) ?_ ⟨by omega,by omega⟩
 rintro i a b c d ⟨i0,i1⟩ _
 refine Cnd.mk (fun hc=>z48 hv i0 hc fun _=>Cnd.mk (fun _=>⟨by unfold InI;omega,⟨by omega,by omega⟩,by omega⟩) fun _=>⟨by omega,fun x hx=>⟨?_,h _ _⟩⟩) fun _=>h _ _
 have:=(hv.exps x (getm hx)).key
 rw [s11];omega
theorem j8d {v:Envt} {K:Bool->Prop} (hv:EnvS v) (h: ∀r,K r):q5i v K:=by
 unfold q5i j0p
 exact j4q hv fun _ _=>h _
end Go.En
end
noncomputable section
set_option maxRecDepth 100000
namespace Go.En
open Go Go.Fl Go.Fl.Lk Go.Fx Go.Sg
def sgK:List ByteArray:=[ByteArray.mk (Array.mk [97,108,112,104,97]),ByteArray.mk (Array.mk [98,101,116,97]),ByteArray.mk (Array.mk [103,97,109,109,97])]
structure GS (l:List Seg):Prop where
 keys:l.map Seg.key=sgK.take l.length
 cond: ∀(i:Nat) g,l[i]? =some g->DrE (sgK.take i) 20000 g.5
theorem DrE.le {segs:List ByteArray} {a b:Nat} {e:Ex} (h:DrE segs a e) (hab:a<=b):DrE segs b e:=⟨Nat.le_trans h.wt hab,h.nms,h.ev⟩
theorem DrE.eta {segs:List ByteArray} {w:Nat} {e:Ex} (h:DrE segs w e):DrE segs w (Ex.mk e.1 e.2 e.3 e.4 e.5):=by rw [W0];exact h
theorem u7g:GS []:=⟨rfl,by simp⟩
theorem u6c {segs:List ByteArray}:DrE segs 20000 (Ex.mk 0 (ByteArray.mk (Array.mk [])) (ByteArray.mk (Array.mk [])) [] []):=
 ⟨by simp [wt,wtV,wtL],fun x hx=>by rw [w9m] at hx;rcases hx with ⟨h,_⟩|⟨k,hk,_⟩<;>simp at*,EvB.mk' (by simp) (by simp)⟩
theorem v3l {list:List Int} {at_ hold:Int} {salt hkind:ByteArray} {attrs:List Decl} {flags:List Flg} {layers:List Lay_} {expers:List Exper}
  {K:Int->ByteArray->ByteArray->Int->List Decl->List Seg->List Flg->List Lay_->List Exper->Prop} (hD:DS list at_)
  (h: ∀a segs,DS list a->segs.length<=3->(∀g∈segs,SegS g)->GS segs->K a salt hkind hold attrs segs flags layers expers):q6o list at_ salt hkind hold attrs [] flags layers expers K:=by
 unfold q6o z5h
 refine Qo hD (by decide) fun n a n0 n1 hD=>j4e n0 (by simp only [List.length_cons,List.length_nil];omega) ?_
 rw [show ([ByteArray.mk (Array.mk [97,108,112,104,97]),ByteArray.mk (Array.mk [98,101,116,97]),ByteArray.mk (Array.mk [103,97,109,109,97])]:List ByteArray)=sgK from rfl]
 have nms: ∀s∈List.take n.toNat sgK,s.size<=100:=fun s hs=>by
  have:=List.mem_of_mem_take hs
  have k: ∀s∈sgK,s.size<=100:=by decide
  exact k s this
 have hlen:(List.take n.toNat sgK).length<=3:=by
  rw [List.length_take];have:sgK.length=3:=rfl;omega
 have hfst: ∀i,i<=(List.take n.toNat sgK).length->(List.take n.toNat sgK).take i=sgK.take i:=fun i hi=>by
  rw [List.take_take,Nat.min_eq_left]
  rw [List.length_take] at hi;omega
 generalize List.take n.toNat _=l at nms hlen hfst
 refine Lp3.ind (fun (i a:Int) (gs:List Seg)=>DS list a/\0<=i/\i<=l.length/\(gs.length:Int)=i/\(∀g∈gs,SegS g)/\GS gs) (fun (i:Int) _ _=>(3 - i).toNat) ?_ ⟨hD,Int.le_refl 0,by omega,rfl,by simp,u7g⟩
 rintro i a gs ⟨hD,i0,i1,hl,hg,hgs⟩ _
 refine Cnd.mk (fun hc=>⟨by omega,fun y hy=>w5d hD fun inc a hi1 _ hD=>w5d hD fun exc a he1 _ hD=> ?_⟩) fun _=>h _ _ hD (by omega) hg hgs
 refine Jn2.mk (fun k a=>k.size<=100/\DS list a) (Qo hD (by decide) fun r a r0 r1 hD=>Cnd.mk (fun _=>⟨by decide,hD⟩) fun _=>⟨by decide,hD⟩) fun kind a hx=> ?_
 obtain ⟨hkd,hD⟩:=hx
 refine Jn1.mk (fun x=>(ExS 4 (Ex.mk x.1 x.2.1 x.2.2.1 x.2.2.2.1 x.2.2.2.2.1)/\DrE (l.take i.toNat) 20000 (Ex.mk x.1 x.2.1 x.2.2.1 x.2.2.2.1 x.2.2.2.2.1))/\DS list x.2.2.2.2.2.1) (Qo hD (by decide) fun r a r0 r1 hD=>Cnd.mk (fun _=>⟨by omega,?_⟩) fun _=>⟨⟨ExS.le (n:=0) ⟨.nil,⟨sz0,sz0⟩,opl (by simp),rfl⟩ (by omega),u6c⟩,hD⟩) fun x hx=> ?_
 ·exact j7i ((y2i fun s hs=>nms s (List.mem_of_mem_take (List.mem_of_mem_drop hs))).and u22) 2 (by omega) (by decide) (by decide) hD fun e a he hD=>⟨⟨he.1.eta,(he.2.le (by decide)).eta⟩,hD⟩
 ·have hk:l[i.toNat]? =some y:=hy
  refine ⟨by unfold Sml;simp;omega,by unfold InI;omega,⟨hx.2,by omega,by omega,by simp;omega,W8 hg ⟨nms _ (getm hy),hkd,hi1,he1,hx.1.1⟩,?_,fun j g hj=> ?_⟩,by omega⟩
  ·rw [List.map_append,hgs.keys,List.length_append,List.length_singleton,←hfst _ (by omega),←hfst _ (by omega),List.take_add_one,show l[gs.length]? =some y by rw [←hk];congr 1;omega]
   rfl
  ·rcases Nat.lt_or_ge j gs.length with hlt|hge
   ·rw [List.getElem?_append_left hlt] at hj;exact hgs.cond j g hj
   ·rw [List.getElem?_append_right hge] at hj
    have hj0:j=gs.length:=by
     rcases Nat.eq_zero_or_pos (j - gs.length) with h0|h0
     ·omega
     ·rw [List.getElem?_eq_none (by simp;omega)] at hj;cases hj
    subst hj0
    simp only [Nat.sub_self,List.getElem?_cons_zero,Option.some.injEq] at hj
    subst hj
    rw [←hfst _ (by omega),show gs.length=i.toNat by omega]
    exact hx.1.2
end Go.En
end
noncomputable section
set_option maxRecDepth 100000
namespace Go.En
open Go Go.Fl Go.Fl.Lk Go.Fx Go.Dg
theorem v3m {l:List ByteArray} {n:Nat} {p:ByteArray->Prop} (h: ∀x∈l,p x): ∀x∈l.take n,p x:=fun x hx=>h x (List.mem_of_mem_take hx)
theorem y7w {ds:List Decl} (hd: ∀d∈ds,d.kind.size<=100/\d.name.size<=100):EnvS (Envt.mk (Sett.mk (ByteArray.mk (Array.mk [])) (ByteArray.mk (Array.mk [])) 0) ds [] [] [] []):=
 ⟨sz0,hd,by simp,by simp,by simp,by simp,by simp,by simp,by simp,by simp⟩
theorem qa3z:ExS 4 (Ex.mk 1 (ByteArray.mk (Array.mk [])) (ByteArray.mk (Array.mk [])) [] []):=ExS.le (n:=0) ⟨VsS.nil,⟨sz0,sz0⟩,opl (by simp),rfl⟩ (by decide)
end Go.En
end
noncomputable section
set_option maxRecDepth 100000
namespace Go.En
open Go Go.Fl Go.Fl.Lk Go.Fx Go.Dg
def Cov (l:List Rng):Prop:= ∀b:Int,0<=b->b<10000-> ∃r∈l,r.1<=b/\b<r.2
theorem j8e {list:List Int} {at_ n:Int} {K:List Rng->Int->Prop} (hD:DS list at_) (hn:1<=n) (hn':n<=100) (h: ∀l a,SplS n l->Cov l->DS list a->K l a):q8w list at_ n K:=by
 unfold q8w w2j
 have cv1: ∀{l:List Rng} {x y z:Int},(∀b:Int,0<=b->b<x-> ∃r∈l,r.1<=b/\b<r.2)-> ∀b:Int,0<=b->b<y-> ∃r∈l++[Rng.mk x y z],r.1<=b/\b<r.2:=fun {l x y z} hc b h0 h1=>by
  by_cases hb:b<x
  ·obtain ⟨r,hr,hh⟩:=hc b h0 hb
   exact ⟨r,List.mem_append_left _ hr,hh⟩
  ·exact ⟨_,List.mem_append_right _ List.mem_cons_self,by simp only;omega,h1⟩
 refine Jn4.mk (fun l at_ last a=>DS list a/\l.length<=3/\0<=at_/\(∀b:Int,0<=b->b<at_-> ∃r∈l,r.1<=b/\b<r.2)/\ ∀r∈l,0<=r.lo/\r.hi<=10000/\1<=r.variation/\r.variation<=n) ?_ ?_
 ·refine Lp5.ind (fun l at_ last i a=>DS list a/\0<=i/\i<=3/\(l.length:Int)=i/\0<=at_/\at_<=10000/\0<=last/\last<=n/\(∀b:Int,0<=b->b<at_-> ∃r∈l,r.1<=b/\b<r.2)/\ ∀r∈l,0<=r.lo/\r.hi<=10000/\1<=r.variation/\r.variation<=n) (fun _ _ _ i _=>(3 - i).toNat) ?_ ⟨hD,by omega,by omega,rfl,by omega,by omega,by omega,by omega,fun b h0 h1=>by omega,by simp⟩
  rintro l at_ last i a ⟨hD,i0,i1,hl,a0,a1,l0,l1,hcv,hr⟩
  refine Qo hD (by decide) fun q a q0 q1 hD=>Cnd.mk (fun _=>Cnd.mk (fun _=>⟨by unfold InI;omega,q61 hD (by decide) fun w a w0 w1 hD=>⟨by unfold InI;omega,Qo hD hn fun v a v0 v1 hD=>⟨by unfold InI;omega,?_⟩⟩⟩) fun _=> ?_) fun _=> ?_
  ·have m0:=Int.tmod_nonneg n (show 0<=1+v by omega);have m1:=Int.tmod_lt_of_pos (1+v) (b:=n) (by omega)
   refine Jn1.mk (fun v=>1<=v/\v<=n) (Cnd.mk (fun _=>⟨by omega,by unfold InI;omega,by omega,by omega⟩) fun _=>⟨by omega,by omega⟩) fun v hv=>Cnd.mk (fun _=>⟨hD,by omega,a0,hcv,hr⟩) fun _=> ?_
   exact ⟨by unfold Sml;simp;omega,by unfold InI;omega,⟨hD,by omega,by omega,by simp;omega,by omega,by omega,by omega,by omega,cv1 hcv,W8 hr ⟨by simp only;omega,by simp only;omega,by simp only;omega,by simp only;omega⟩⟩,by omega⟩
  ·exact ⟨hD,by omega,a0,hcv,hr⟩
  ·exact ⟨hD,by omega,a0,hcv,hr⟩
 ·rintro l at_ last a ⟨hD,hl,a0,hcv,hr⟩
  refine Qo hD hn fun v a v0 v1 hD=>⟨by unfold InI;omega,?_⟩
  have m0:=Int.tmod_nonneg n (show 0<=1+v by omega);have m1:=Int.tmod_lt_of_pos (1+v) (b:=n) (by omega)
  refine Jn1.mk (fun v=>1<=v/\v<=n) (Cnd.mk (fun _=>⟨by omega,by unfold InI;omega,by omega,by omega⟩) fun _=>⟨by omega,by omega⟩) fun v hv=> ?_
  exact ⟨by unfold Sml;simp;omega,h _ _ ⟨by simp;omega,W8 hr ⟨a0,by simp,hv.1,hv.2⟩⟩ (cv1 hcv) hD⟩
structure SrvD (n:Int) (s:Srv):Prop where
 ok:SrvS n s
 cov:s.variation=0->Cov s.split
theorem j8f {list:List Int} {at_ n:Int} {K:Srv->Int->Prop} (hD:DS list at_) (hn:1<=n) (hn':n<=100) (h: ∀s a,SrvD n s->DS list a->K s a):z5i list at_ n K:=by
 unfold z5i w2k
 have tt: ∀s∈j2m,s.size<=100:=by decide
 have key:(ByteArray.mk (Array.mk [107,101,121])).size<=100:=by decide
 refine Qo hD (by decide) fun r a r0 r1 hD=>Cnd.mk (fun _=>Qo hD hn fun v a v0 v1 hD=>⟨by unfold InI;omega,h _ _ ⟨⟨sz0,⟨by simp only;omega,by simp only;omega⟩,⟨by simp,by simp⟩,sz0,sz0⟩,fun h0=>by simp only at h0;omega⟩ hD⟩) fun _=> ?_
 refine z2o hD fun t a ht hD=>j8e hD hn hn' fun l a hl hcv hD=>q4w fun ds _ hds=>Qo hD (by decide) fun q a q0 q1 hD _=> ?_
 have usr:(ByteArray.mk (Array.mk [117,115,101,114])).size<=100:=by decide
 have ok: ∀{k b:ByteArray},k.size<=100->b.size<=100->SrvD n (Srv.mk 0 k b t l):=fun hk hb=>⟨⟨hk,⟨by simp,by simp only;omega⟩,hl,hb,tt _ ht⟩,fun _=>hcv⟩
 refine Cnd.mk (fun _=>⟨by omega,fun y hy=>Cnd.mk (fun _=>h _ _ (ok usr key) hD) fun _=>⟨by omega,fun z hz=>⟨by omega,fun u hu=>h _ _ (ok (hds z (getm hz)).1 (hds u (getm hu)).2.1) hD⟩⟩⟩) fun _=>h _ _ (ok usr key) hD
theorem v7z {list:List Int} {at_ kind:Int} {K:Val->Int->Prop} (hk0:1<=kind) (hk1:kind<=5) (hD:DS list at_) (h: ∀r a,ValS r->r.kind=kind->DS list a->K r a):Ha list at_ kind K:=by
 unfold Ha j2p
 have tt: ∀s∈j2m,s.size<=100:=by decide
 have tv: ∀s∈z5g,s.size<=100:=by decide
 have tl: ∀l∈w2g,l.length<=10/\ ∀s∈l,s.size<=100:=by decide
 refine Cnd.mk (fun _=> ?_) fun _=>Cnd.mk (fun _=>fun _=> ?_) fun _=>Cnd.mk (fun _=> ?_) fun _=>Cnd.mk (fun _=> ?_) fun _=> ?_
 ·exact Qo hD (by decide) fun r a r0 r1 hD=>h _ _ ⟨by unfold InI;simp only;omega,sz0,by simp,by simp⟩ rfl hD
 ·refine Qo hD (by decide) fun r a r0 r1 hD=>⟨⟨r0,r1⟩,fun y hy=>h _ _ ⟨?_,sz0,by simp,by simp⟩ rfl hD⟩
  have:=getm hy
  have k: ∀y∈[(0:Int),(1:Int),(17:Int),(18:Int),(19:Int),(-5:Int),(64:Int),(1099511627776:Int),(-1099511627776:Int)], -9223372036854775808<=y/\y<=9223372036854775807:=by decide
  exact k y this
 ·exact z2o hD fun r a hr hD=>h _ _ ⟨by unfold InI;simp,tt _ hr,by simp,by simp⟩ rfl hD
 ·exact Qo hD (by decide) fun r a r0 r1 hD=>⟨⟨r0,r1⟩,fun y hy=>h _ _ ⟨by unfold InI;simp,tv _ (getm hy),by simp,by simp⟩ rfl hD⟩
 ·refine Qo hD (by decide) fun r a r0 r1 hD=>⟨⟨r0,r1⟩,fun y hy=> ?_⟩
  obtain ⟨a1,a2⟩:=tl _ (getm hy)
  exact ⟨by unfold Sml;simp;omega,h _ _ ⟨by unfold InI;simp,sz0,by simpa using a1,by simpa using a2⟩ (by simp only;omega) hD⟩
def flK:List ByteArray:=[ByteArray.mk (Array.mk [102,97]),ByteArray.mk (Array.mk [102,98]),ByteArray.mk (Array.mk [102,99]),ByteArray.mk (Array.mk [102,100])]
def lyK:List ByteArray:=[ByteArray.mk (Array.mk [108,97]),ByteArray.mk (Array.mk [108,98])]
def exK:List ByteArray:=[ByteArray.mk (Array.mk [120,97]),ByteArray.mk (Array.mk [120,98]),ByteArray.mk (Array.mk [120,99])]
structure RulD (n:Int) (r:Rul):Prop where
 cond:DrE sgK 20000 r.cond
 serve:SrvD n r.serve
structure FlgD (prev:List Flg) (f:Flg):Prop where
 kind:1<=f.kind/\f.kind<=5
 kinds: ∀v∈f.variations,v.kind=f.kind
 off:1<=f.off/\f.off<=f.variations.length
 needs: ∀q∈f.needs,∃g∈prev,q.flag=g.key/\1<=q.variation/\q.variation<=g.variations.length
 tgts: ∀t∈f.targets,(1<=t.variation/\t.variation<=f.variations.length)/\t.keys.length<=3
 rules: ∀r∈f.rules,RulD f.variations.length r
 dflt:SrvD f.variations.length f.dflt
structure FlgsD (l:List Flg):Prop where
 keys:l.map Flg.key=flK.take l.length
 all: ∀(i:Nat) f,l[i]? =some f->FlgD (l.take i) f
structure ExpD (layers:List Lay_) (flags:List Flg) (x:Exper):Prop where
 cov:Cov x.arms
 cond:DrE sgK 20000 x.cond
 layer: ∃l∈layers,x.layer=l.key
 flag: ∃f∈flags,x.flag=f.key/\ ∀r∈x.arms,1<=r.variation/\r.variation<=f.variations.length
 salt:x.salt.size<=100
structure EnvD (v:Envt):Prop where
 salt:v.settings.salt.size<=100
 gs:GS v.segments
 flags:FlgsD v.flags
 layers:v.layers.map Lay_.key=lyK.take v.layers.length
 exps:(v.experiments.map Exper.key).Sublist exK
 exp: ∀x∈v.experiments,ExpD v.layers v.flags x
theorem v70:FlgsD []:=⟨rfl,by simp⟩
theorem y7x {l:List Flg} {f:Flg} (h:FlgsD l) (hk:flK[l.length]? =some f.key) (hf:FlgD l f):FlgsD (l++[f]):=by
 refine ⟨?_,fun i g hi=> ?_⟩
 ·rw [List.map_append,h.keys,List.length_append,List.length_singleton,List.take_add_one,hk];rfl
 ·rcases Nat.lt_or_ge i l.length with hlt|hge
  ·rw [List.getElem?_append_left hlt] at hi
   rw [List.take_append_of_le_length (by omega)]
   exact h.all i g hi
  ·have:=Qv hi
   rw [List.length_append,List.length_singleton] at this
   have e:i=l.length:=by omega
   subst e
   rw [List.getElem?_append_right (Nat.le_refl _),Nat.sub_self] at hi
   cases hi
   rw [List.take_left' rfl];exact hf
theorem u3c {a b:List ByteArray} {w:Nat} {e:Ex} (h:DrE a w e) (hs: ∀x∈a,x∈b):DrE b w e:=⟨h.wt,fun x hx=>hs x (h.nms x hx),h.ev⟩
theorem y7y {ds:List Decl}:EnvD (Envt.mk (Sett.mk (ByteArray.mk (Array.mk [])) (ByteArray.mk (Array.mk [])) 0) ds [] [] [] []):=
 ⟨sz0,u7g,v70,rfl,by simp,by simp⟩
theorem u3d {l:List Seg} (h:GS l): ∀s∈l.map Seg.key,s∈sgK:=fun s hs=>by rw [h.keys] at hs;exact List.mem_of_mem_take hs
theorem u3e:DrE sgK 20000 (Ex.mk 1 (ByteArray.mk (Array.mk [])) (ByteArray.mk (Array.mk [])) [] []):=
 ⟨by simp [wt,wtV,wtL],fun x hx=>by rw [w9m] at hx;rcases hx with ⟨h,_⟩|⟨k,hk,_⟩<;>simp at*,EvB.mk' (by simp) (by simp)⟩
theorem u7h {l:List ByteArray} {n i:Nat} {y:ByteArray} (h:(l.take n)[i]? =some y):l[i]? =some y:=by
 rw [List.getElem?_take] at h
 split at h
 ·exact h
 ·cases h
theorem j4r {list:List Int} {at_ now:Int} {K:Envt->Int->Prop} (hD:DS list at_) (h: ∀v a,EnvS v->EnvD v->DS list a->K v a):q0l list at_ now K:=by
 unfold q0l q9e
 have tt: ∀s∈j2m,s.size<=100:=by decide
 refine q4w fun attrs _ had=> ?_
 have hat: ∀d∈attrs,d.kind.size<=100/\d.name.size<=100:=fun d hd=>⟨(had d hd).1,(had d hd).2.1⟩
 refine Jn1.mk (fun x=>(x.1.size<=100/\x.2.1.size<=100)/\DS list x.2.2.2.1/\x.2.2.2.2.1=attrs) (Qo hD (by decide) fun r a _ _ hD=>Cnd.mk (fun _=>z2o hD fun t a ht hD=>q61 hD (by decide) fun w a _ _ hD=>⟨⟨tt _ ht,(by decide:(ByteArray.mk (Array.mk [117,115,101,114])).size<=100)⟩,hD,rfl⟩) fun _=>⟨⟨sz0,sz0⟩,hD,rfl⟩) ?_
 rintro ⟨salt,hkind,hold,a,ds,u⟩ ⟨⟨hslt,hhk⟩,hD,hds⟩
 simp only at hslt hhk hD hds⊢
 subst hds
 refine v3l hD fun a segs hD hsl hsegs hgs=>Qo hD (by decide) fun n a n0 n1 hD=>j4e n0 (by simp only [List.length_cons,List.length_nil];omega) ?_
 have fin: ∀{flags:List Flg} {layers:List Lay_} {exps:List Exper} {a:Int},DS list a->flags.length<=4->(∀f∈flags,FlgS f)->layers.length<=2->(∀l∈layers,LayS l)->exps.length<=3->(∀x∈exps,ExpS x)->FlgsD flags->layers.map Lay_.key=lyK.take layers.length->(exps.map Exper.key).Sublist exK->(∀x∈exps,ExpD layers flags x)->
   q5i (Envt.mk (Sett.mk salt hkind hold) ds segs flags layers exps) fun b=>Cnd (b=true) (K (Envt.mk (Sett.mk salt hkind hold) ds segs flags layers exps) a) (W4 fun ds=>K (Envt.mk (Sett.mk (ByteArray.mk (Array.mk [])) (ByteArray.mk (Array.mk [])) 0) ds [] [] [] []) a):=fun hD h1 h2 h3 h4 h5 h6 e1 e2 e3 e4=>by
  have hv:EnvS (Envt.mk (Sett.mk salt hkind hold) ds segs _ _ _):=⟨hhk,hat,hsl,hsegs,h1,h2,h3,h4,h5,h6⟩
  exact j8d hv fun b=>Cnd.mk (fun _=>h _ _ hv ⟨hslt,hgs,e1,e2,e3,e4⟩ hD) fun _=>q4w fun ds _ had=>h _ _ (y7w fun d hd=>⟨(had d hd).1,(had d hd).2.1⟩) y7y hD
 have nms: ∀s∈List.take n.toNat [ByteArray.mk (Array.mk [102,97]),ByteArray.mk (Array.mk [102,98]),ByteArray.mk (Array.mk [102,99]),ByteArray.mk (Array.mk [102,100])],s.size<=100:=v3m (by decide)
 have hlen:(List.take n.toNat [ByteArray.mk (Array.mk [102,97]),ByteArray.mk (Array.mk [102,98]),ByteArray.mk (Array.mk [102,99]),ByteArray.mk (Array.mk [102,100])]).length<=4:=by
  rw [List.length_take];simp only [List.length_cons,List.length_nil];omega
 have hget: ∀(i:Nat) y,(List.take n.toNat [ByteArray.mk (Array.mk [102,97]),ByteArray.mk (Array.mk [102,98]),ByteArray.mk (Array.mk [102,99]),ByteArray.mk (Array.mk [102,100])])[i]? =some y->flK[i]? =some y:=fun i y hy=>u7h hy
 generalize List.take n.toNat _=l at nms hlen hget
 refine LpH.ind (fun (x:Int×Int×List Flg×List Seg×List Lay_×List Exper×Unit)=>0<=x.1/\x.1<=(l.length:Int)/\DS list x.2.1/\(x.2.2.1.length:Int)=x.1/\(∀f∈x.2.2.1,FlgS f)/\FlgsD x.2.2.1/\x.2.2.2=(segs,[],[],())) (fun x=>((l.length:Int) - x.1).toNat) ?_ ⟨Int.le_refl 0,by simp,hD,rfl,by simp,v70,rfl⟩
 rintro ⟨i,a,flags,rest⟩ ⟨i0,i1,hD,hfl,hfs,hfd,hr⟩
 simp only at i0 i1 hD hfl hfs hfd hr⊢
 subst hr
 simp only
 intro _
 refine Cnd.mk (fun hc=>⟨by omega,fun key hkey=> ?_⟩) fun _=> ?_
 ·
  refine Qo hD (by decide) fun kind a k0 k1 hD=>⟨by unfold InI;omega,Qo hD (by decide) fun on a _ _ hD=>Qo hD (by decide) fun m a m0 m1 hD=>⟨by unfold InI;omega,?_⟩⟩
  refine LpH.ind (fun (x:Int×Int×List Val×List Exper×List Lay_×List Flg×List Seg×Unit)=>0<=x.1/\x.1<=1+m/\DS list x.2.1/\(x.2.2.1.length:Int)=x.1/\(∀v∈x.2.2.1,ValS v/\v.kind=1+kind)/\x.2.2.2=([],[],flags,segs,())) (fun x=>(1+m - x.1).toNat) ?_ ⟨Int.le_refl 0,by simp only;omega,hD,rfl,by simp,rfl⟩
  rintro ⟨j,a,vals,rest⟩ ⟨j0,j1,hD,hvl,hvs,hr⟩
  simp only at j0 j1 hD hvl hvs hr⊢
  subst hr
  simp only
  refine Cnd.mk (fun hc=>v7z (by omega) (by omega) hD fun v a hv hvk hD=>⟨by unfold Sml;simp;omega,by unfold InI;omega,⟨by omega,by omega,hD,by simp;omega,W8 hvs ⟨hv,hvk⟩,trivial⟩,by omega⟩) fun hc=> ?_
  refine Qo hD (by omega) fun off a o0 o1 hD=>⟨by unfold InI;omega,?_⟩
  have hlv:vals.length=(1+m).toNat:=by omega
  refine LpH.ind (fun (x:Int×List Prq×Int×List Seg×List Flg×List Lay_×List Exper×List Val×Unit)=>0<=x.1/\x.1<=(flags.length:Int)/\(x.2.1.length:Int)<=x.1/\(∀q∈x.2.1,q.flag.size<=100/\ ∃g∈flags,q.flag=g.key/\1<=q.variation/\q.variation<=g.variations.length)/\DS list x.2.2.1/\x.2.2.2=(segs,flags,[],[],vals,())) (fun x=>((flags.length:Int) - x.1).toNat) ?_ ⟨Int.le_refl 0,by simp,by simp,by simp,hD,rfl⟩
  rintro ⟨j,needs,a,rest⟩ ⟨j0,j1,hnl,hns,hD,hr⟩
  simp only at j0 j1 hnl hns hD hr⊢
  subst hr
  simp only
  intro _
  refine Cnd.mk (fun hc=>Qo hD (by decide) fun q a _ _ hD=>Cnd.mk (fun _=>⟨by omega,fun y hy=>⟨by omega,fun z hz _=>Qo hD (by have:=(hfs z (getm hz)).vlen;omega) fun w a w0 w1 hD=> ?_⟩⟩) fun _=>⟨by unfold InI;omega,⟨by omega,by omega,by omega,hns,hD,trivial⟩,by omega⟩) fun _=> ?_
  ·have:=(hfs z (getm hz)).vlen
   exact ⟨by unfold InI;omega,by unfold Sml;simp;omega,by unfold InI;omega,⟨by omega,by omega,by simp;omega,W8 hns ⟨(hfs y (getm hy)).key,z,getm hz,by rw [hy] at hz;rw [Option.some.inj hz],by simp only;omega,by simp only;omega⟩,hD,trivial⟩,by omega⟩
  have hnl4:needs.length<=4:=by omega
  refine LpH.ind (fun (x:Int×List Tgt×Int×List Val×List Exper×List Lay_×List Flg×List Seg×List Prq×Unit)=>0<=x.1/\x.1<=3/\(x.2.1.length:Int)<=x.1/\(∀t∈x.2.1,t.kind.size<=100/\(1<=t.variation/\t.variation<=1+m)/\t.keys.length<=3)/\DS list x.2.2.1/\x.2.2.2=(vals,[],[],flags,segs,needs,())) (fun x=>(3 - x.1).toNat) ?_ ⟨Int.le_refl 0,by simp,by simp,by simp,hD,rfl⟩
  rintro ⟨j,tgts,a,rest⟩ ⟨j0,j1,htl,hts,hD,hr⟩
  simp only at j0 j1 htl hts hD hr⊢
  subst hr
  simp only
  refine Qo hD (by decide) fun q a q0 q1 hD=>Cnd.mk (fun hc=>Qo hD (by omega) fun w a w0 w1 hD=>⟨by unfold InI;omega,w5d hD fun ks a hks _ hD=> ?_⟩) fun _=> ?_
  ·refine Jn1.mk (fun x=>x.1.size<=100/\DS list x.2.1/\x.2.2=(ks,needs,segs,flags,[],[],vals,tgts,())) (Qo hD (by decide) fun r a _ _ hD=>Cnd.mk (fun _=>⟨(by decide:(ByteArray.mk (Array.mk [100,101,118,105,99,101])).size<=100),hD,rfl⟩) fun _=>⟨(by decide:(ByteArray.mk (Array.mk [117,115,101,114])).size<=100),hD,rfl⟩) ?_
   rintro ⟨kd,a,rest⟩ ⟨hkd,hD,hr⟩
   simp only at hkd hD hr⊢
   subst hr
   simp only
   exact fun _=>Cnd.mk (fun _=>⟨by unfold Sml;simp;omega,by unfold InI;omega,⟨by omega,by omega,by simp;omega,W8 hts ⟨hkd,⟨by simp only;omega,by simp only;omega⟩,hks⟩,hD,trivial⟩,by omega⟩) fun _=>⟨by unfold InI;omega,⟨by omega,by omega,by omega,hts,hD,trivial⟩,by omega⟩
  refine Jn1.mk (fun (x:Int×List Rul×List ByteArray×List Prq×List Seg×List Flg×List Lay_×List Exper×List Val×List Tgt×Unit)=>DS list x.1/\x.2.1.length<=4/\(∀r∈x.2.1,RulS (1+m) r/\RulD (1+m) r)/\x.2.2.2=(needs,segs,flags,[],[],vals,tgts,())) ?_ ?_
  case refine_2=>
   rintro ⟨a,rules,names,rest⟩ ⟨hD,hrl,hrs,hr⟩
   simp only at hD hrl hrs hr⊢
   subst hr
   simp only
   refine j8f hD (by omega) (by omega) fun s a hs hD=>⟨by unfold Sml;simp;omega,by unfold InI;omega,⟨by omega,by omega,hD,by simp;omega,W8 hfs ?_,y7x hfd ?_ ?_,trivial⟩,by omega⟩
   all_goals have hvm:(vals.length:Int)=1+m:=by omega
   ·exact ⟨nms key (getm hkey),⟨by simp only;omega,by simp only;omega⟩,fun v hv=>(hvs v hv).1,hnl4,fun q hq=>(hns q hq).1,by simp only;omega,fun t ht=>(hts t ht).1,hrl,by rw [hvm];exact fun r hr=>(hrs r hr).1,by rw [hvm];exact hs.ok⟩
   ·rw [←hget _ _ hkey];congr 1;omega
   ·exact ⟨⟨by simp only;omega,by simp only;omega⟩,fun v hv=>(hvs v hv).2,⟨by simp only;omega,by simp only;omega⟩,fun q hq=>(hns q hq).2,fun t ht=>by simp only;rw [hvm];exact (hts t ht).2,fun r hr=>by simp only;rw [hvm];exact (hrs r hr).2,by simp only;rw [hvm];exact hs⟩
  have nm4: ∀s∈([ByteArray.mk (Array.mk [102,105,114,115,116]),ByteArray.mk (Array.mk [115,101,99,111,110,100]),ByteArray.mk (Array.mk [116,104,105,114,100]),ByteArray.mk (Array.mk [102,111,117,114,116,104])]:List ByteArray),s.size<=100:=by decide
  have nl4:([ByteArray.mk (Array.mk [102,105,114,115,116]),ByteArray.mk (Array.mk [115,101,99,111,110,100]),ByteArray.mk (Array.mk [116,104,105,114,100]),ByteArray.mk (Array.mk [102,111,117,114,116,104])]:List ByteArray).length=4:=rfl
  generalize ([ByteArray.mk (Array.mk [102,105,114,115,116]),ByteArray.mk (Array.mk [115,101,99,111,110,100]),ByteArray.mk (Array.mk [116,104,105,114,100]),ByteArray.mk (Array.mk [102,111,117,114,116,104])]:List ByteArray)=ns4 at nm4 nl4⊢
  refine LpH.ind (fun (x:Int×Int×List Rul×List ByteArray×List Prq×List Seg×List Flg×List Lay_×List Exper×List Val×List Tgt×Unit)=>0<=x.1/\x.1<=4/\DS list x.2.1/\(x.2.2.1.length:Int)=x.1/\(∀r∈x.2.2.1,RulS (1+m) r/\RulD (1+m) r)/\x.2.2.2=(ns4,needs,segs,flags,[],[],vals,tgts,())) (fun x=>(4 - x.1).toNat) ?_ ⟨Int.le_refl 0,by simp,hD,rfl,by simp,rfl⟩
  rintro ⟨j,a,rules,rest⟩ ⟨j0,j1,hD,hrl,hrs,hr⟩
  simp only at j0 j1 hD hrl hrs hr⊢
  subst hr
  simp only
  refine Qo hD (by decide) fun q a q0 q1 hD=>Cnd.mk (fun hc=>⟨by rw [nl4];omega,fun y hy=> ?_⟩) fun _=>⟨hD,by omega,hrs,trivial⟩
  refine z40 (by simp only;omega) (j7i ((y2i fun s hs=> ?_).and u22) 2 (by omega) (by decide) (by decide) hD fun e a he hD=>j8f hD (by omega) (by omega) fun s a hs hD=>⟨by unfold Sml;simp;omega,?_⟩)
  ·obtain ⟨g,hg,rfl⟩:=List.mem_map.1 hs;exact (hsegs g hg).key
  have hrs':=W8 hrs (x:=Rul.mk y (Ex.mk e.1 e.2 e.3 e.4 e.5) s) ⟨⟨nm4 y (getm hy),he.1.eta,hs.ok⟩,u3c (he.2.le (by decide)).eta (u3d hgs),hs⟩
  have hl':(rules++[Rul.mk y (Ex.mk e.1 e.2 e.3 e.4 e.5) s]).length=rules.length+1:=by simp
  have cut: ∀r∈List.take (((rules++[Rul.mk y (Ex.mk e.1 e.2 e.3 e.4 e.5) s]).length:Int) - 1).toNat (rules++[Rul.mk y (Ex.mk e.1 e.2 e.3 e.4 e.5) s]),RulS (1+m) r/\RulD (1+m) r:=fun r hr=>hrs' r (List.mem_of_mem_take hr)
  generalize rules++[Rul.mk y (Ex.mk e.1 e.2 e.3 e.4 e.5) s]=rs at hrs' hl' cut⊢
  refine z0t (by omega) (fun r hr=>(hrs' r hr).1.cond) fun o n b ho=>Cnd.mk (fun _ _=>Cnd.mk (fun _ _=>⟨by unfold InI;omega,by omega,hD,by simp only [List.length_take];omega,cut,trivial⟩) fun _=>⟨by unfold InI;omega,⟨by omega,by omega,hD,by omega,hrs',trivial⟩,by omega⟩) fun _ _=>⟨by unfold InI;omega,by omega,hD,by simp only [List.length_take];omega,cut,trivial⟩
 ·
  refine Qo hD (by decide) fun n a n0 n1 hD=>j4e n0 (by simp only [List.length_cons,List.length_nil];omega) ?_
  have nms: ∀s∈List.take n.toNat [ByteArray.mk (Array.mk [108,97]),ByteArray.mk (Array.mk [108,98])],s.size<=100:=v3m (by decide)
  have hlen:(List.take n.toNat [ByteArray.mk (Array.mk [108,97]),ByteArray.mk (Array.mk [108,98])]).length<=2:=by
   rw [List.length_take];simp only [List.length_cons,List.length_nil];omega
  have hgetl: ∀(i:Nat) y,(List.take n.toNat [ByteArray.mk (Array.mk [108,97]),ByteArray.mk (Array.mk [108,98])])[i]? =some y->lyK[i]? =some y:=fun i y hy=>u7h hy
  generalize List.take n.toNat _=ls at nms hlen hgetl
  have hf4:flags.length<=4:=by omega
  refine LpH.ind (fun (x:Int×Int×List Lay_×List Exper×List Seg×List Flg×Unit)=>0<=x.1/\x.1<=(ls.length:Int)/\DS list x.2.1/\(x.2.2.1.length:Int)=x.1/\(∀f∈x.2.2.1,LayS f)/\x.2.2.1.map Lay_.key=lyK.take x.2.2.1.length/\x.2.2.2=([],segs,flags,())) (fun x=>((ls.length:Int) - x.1).toNat) ?_ ⟨Int.le_refl 0,by simp,hD,rfl,by simp,rfl,rfl⟩
  rintro ⟨j,a,layers,rest⟩ ⟨j0,j1,hD,hll,hls,hlk,hr⟩
  simp only at j0 j1 hD hll hls hlk hr⊢
  subst hr
  simp only
  intro _
  refine Cnd.mk (fun hc=>⟨by omega,fun y hy=>y7d hD (nms y (getm hy)) fun l a hl hky hD=>⟨by unfold Sml;simp;omega,by unfold InI;omega,⟨by omega,by omega,hD,by simp;omega,W8 hls hl,by rw [List.map_append,hlk,List.length_append,List.length_singleton,List.take_add_one,←show j.toNat=layers.length by omega,hgetl _ _ hy,←hky];rfl,trivial⟩,by omega⟩⟩) fun _=> ?_
  refine Qo hD (by decide) fun n a n0 n1 hD=>j4e n0 (by simp only [List.length_cons,List.length_nil];omega) ?_
  have nmx: ∀s∈List.take n.toNat [ByteArray.mk (Array.mk [120,97]),ByteArray.mk (Array.mk [120,98]),ByteArray.mk (Array.mk [120,99])],s.size<=100:=v3m (by decide)
  have hxen:(List.take n.toNat [ByteArray.mk (Array.mk [120,97]),ByteArray.mk (Array.mk [120,98]),ByteArray.mk (Array.mk [120,99])]).length<=3:=by
   rw [List.length_take];simp only [List.length_cons,List.length_nil];omega
  have hgetx:List.take n.toNat [ByteArray.mk (Array.mk [120,97]),ByteArray.mk (Array.mk [120,98]),ByteArray.mk (Array.mk [120,99])]|>.Sublist exK:=List.take_sublist _ _
  generalize List.take n.toNat _=xs at nmx hxen hgetx
  have hl2:layers.length<=2:=by omega
  refine LpH.ind (fun (x:Int×Int×List Exper×List Flg×List Seg×List Lay_×Unit)=>0<=x.1/\x.1<=(xs.length:Int)/\DS list x.2.1/\(x.2.2.1.length:Int)<=x.1/\(∀f∈x.2.2.1,ExpS f)/\(x.2.2.1.map Exper.key).Sublist (xs.take x.1.toNat)/\(∀f∈x.2.2.1,ExpD layers flags f)/\x.2.2.2=(flags,segs,layers,())) (fun x=>((xs.length:Int) - x.1).toNat) ?_ ⟨Int.le_refl 0,by simp,hD,by simp,by simp,by simp,by simp,rfl⟩
  rintro ⟨k,a,exps,rest⟩ ⟨k0,k1,hD,hxl,hxs,hxk,hxd,hr⟩
  simp only at k0 k1 hD hxl hxs hxk hxd hr⊢
  subst hr
  simp only
  intro _
  have hfin:=fun {a:Int} (hD:DS list a)=>fin (flags:=flags) (layers:=layers) (exps:=exps) hD hf4 hfs hl2 hls (by omega) hxs hfd hlk ((hxk.trans (List.take_sublist _ _)).trans hgetx) hxd
  refine Cnd.mk (fun hc _=>Cnd.mk (fun hfl0 _=>Cnd.mk (fun hll0=>⟨by omega,fun y hy _=> ?_⟩) fun _=>hfin hD) fun _=>hfin hD) fun _=>hfin hD
  refine Qo hD (by omega) fun q a q0 q1 hD=>⟨by omega,fun f hf _ hfv=>Qo hD (by omega) fun q' a q0' q1' hD=>⟨by omega,fun l hl=>z2o hD fun t a ht hD=>Qo hD (by decide) fun u a u0 u1 hD=>⟨by unfold InI;omega,?_⟩⟩⟩
  have hF:=hfs f (getm hf)
  have hL:=hls l (getm hl)
  have hv1:=hF.vlen
  refine j8e hD (by omega) (by omega) fun arms a harms hcov hD=> ?_
  refine Jn1.mk (fun (x:Int×Int×List Rng×List Exper×List Lay_×List Flg×List Seg×Unit)=>DS list x.2.1/\x.2.2=(arms,exps,layers,flags,segs,())) (Cnd.mk (fun _=>Qo hD (by decide) fun r a _ _ hD=>Cnd.mk (fun _=>⟨hD,rfl⟩) fun _=>⟨hD,rfl⟩) fun _=>⟨hD,rfl⟩) ?_
  rintro ⟨state,a,rest⟩ ⟨hD,hr⟩
  simp only at hD hr⊢
  subst hr
  simp only
  refine Jn1.mk (fun (x:Int×ByteArray×ByteArray×List Val×List Ex×Int×List Seg×List Flg×List Lay_×List Exper×List Rng×Unit)=>(ExS 4 (Ex.mk x.1 x.2.1 x.2.2.1 x.2.2.2.1 x.2.2.2.2.1)/\DrE sgK 20000 (Ex.mk x.1 x.2.1 x.2.2.1 x.2.2.2.1 x.2.2.2.2.1))/\DS list x.2.2.2.2.2.1/\x.2.2.2.2.2.2=(segs,flags,layers,exps,arms,())) (Qo hD (by decide) fun r a _ _ hD=>Cnd.mk (fun _=>z40 (by simp only;omega) (j7i ((y2i fun s hs=> ?_).and u22) 2 (by omega) (by decide) (by decide) hD fun e a he hD=>⟨⟨he.1.eta,u3c (he.2.le (by decide)).eta (u3d hgs)⟩,hD,rfl⟩)) fun _=>⟨⟨qa3z,u3e⟩,hD,rfl⟩) ?_
  ·obtain ⟨g,hg,rfl⟩:=List.mem_map.1 hs;exact (hsegs g hg).key
  rintro ⟨e1,e2,e3,e4,e5,a,rest⟩ ⟨he,hD,hr⟩
  simp only at he hD hr⊢
  subst hr
  simp only
  refine y2q fun sp _ _=>q61 hD (by decide) fun w a _ _ hD=>q61 hD (by decide) fun w' a _ _ hD=>j75 fun sq _=>q61 hD (by decide) fun w2 a w20 w21 hD=>v7g (by omega) fun cl hcl=> ?_
  have hxs':=W8 hxs (x:=Exper.mk y l.1 f.1 t state cl arms (Ex.mk e1 e2 e3 e4 e5)) ⟨nmx y (getm hy),hL.key,hF.key,hcl,⟨harms.1,fun r hr=>by obtain ⟨p,q,s,t⟩:=harms.2 r hr;exact ⟨p,q,s,by omega⟩⟩,he.1⟩
  have hxd':=W8 hxd (x:=Exper.mk y l.1 f.1 t state cl arms (Ex.mk e1 e2 e3 e4 e5)) ⟨hcov,he.2,⟨l,getm hl,rfl⟩,⟨f,getm hf,rfl,fun r hr=>by obtain ⟨_,_,s,t⟩:=harms.2 r hr;exact ⟨s,t⟩⟩,tt _ ht⟩
  have hyk:xs[k.toNat]? =some y:=hy
  have hxk':((exps++[Exper.mk y l.1 f.1 t state cl arms (Ex.mk e1 e2 e3 e4 e5)]).map Exper.key).Sublist (xs.take (k+1).toNat):=by
   rw [List.map_append,show (k+1).toNat=k.toNat+1 by omega,List.take_add_one,hyk]
   exact hxk.append (List.Sublist.refl _)
  have hl':(exps++[Exper.mk y l.1 f.1 t state cl arms (Ex.mk e1 e2 e3 e4 e5)]).length=exps.length+1:=by simp
  have cut: ∀r∈List.take (((exps++[Exper.mk y l.1 f.1 t state cl arms (Ex.mk e1 e2 e3 e4 e5)]).length:Int) - 1).toNat (exps++[Exper.mk y l.1 f.1 t state cl arms (Ex.mk e1 e2 e3 e4 e5)]),ExpS r:=fun r hr=>hxs' r (List.mem_of_mem_take hr)
  have cutd: ∀r∈List.take (((exps++[Exper.mk y l.1 f.1 t state cl arms (Ex.mk e1 e2 e3 e4 e5)]).length:Int) - 1).toNat (exps++[Exper.mk y l.1 f.1 t state cl arms (Ex.mk e1 e2 e3 e4 e5)]),ExpD layers flags r:=fun r hr=>hxd' r (List.mem_of_mem_take hr)
  have cutk:((List.take (((exps++[Exper.mk y l.1 f.1 t state cl arms (Ex.mk e1 e2 e3 e4 e5)]).length:Int) - 1).toNat (exps++[Exper.mk y l.1 f.1 t state cl arms (Ex.mk e1 e2 e3 e4 e5)])).map Exper.key).Sublist (xs.take (k+1).toNat):=((List.take_sublist _ _).map _).trans hxk'
  generalize exps++[Exper.mk y l.1 f.1 t state cl arms (Ex.mk e1 e2 e3 e4 e5)]=xs' at hxs' hl' cut hxd' hxk' cutd cutk⊢
  have hv:EnvS (Envt.mk (Sett.mk salt hkind hold) ds segs flags layers xs'):=⟨hhk,hat,hsl,hsegs,hf4,hfs,hl2,hls,by simp only;omega,hxs'⟩
  refine ⟨by unfold Sml;omega,j8d hv fun b=>Cnd.mk (fun _=>⟨by unfold InI;omega,⟨by omega,by omega,hD,by omega,hxs',hxk',hxd',trivial⟩,by omega⟩) fun _ _=>⟨by unfold InI;omega,by omega,by unfold InI;omega,⟨by omega,by omega,hD,by simp only [List.length_take];omega,cut,cutk,cutd,trivial⟩,by omega⟩⟩
end Go.En
end
noncomputable section
set_option maxRecDepth 100000
namespace Go.En
open Go Go.Fl Go.Fl.Lk Go.Fx
theorem u3f:exK.Nodup:=by unfold exK;decide
theorem u3g {segs:List ByteArray} {e:Ex} (h:DrE segs 20000 e):wt e<=2000000/\EvB e:=⟨Nat.le_trans h.wt (by decide),h.ev⟩
theorem u6d {v:Envt} (hE:EnvS v) (hD:EnvD v):SegB v.3:=y2j (Nat.le_trans hE.slen (by decide)) fun g hg=>by
 obtain ⟨i,hi⟩:=List.getElem?_of_mem hg
 exact ⟨_,hD.gs.cond i g hi⟩
theorem u7i {v:Envt} (hE:EnvS v) (hD:EnvD v):AsB v where
 ln:=Nat.le_trans hE.llen (by decide)
 xn:=Nat.le_trans hE.xlen (by decide)
 sg:=u6d hE hD
 ex x hx:=u3g (hD.exp x hx).cond
 sa:=Nat.le_trans hD.salt (by decide)
 ls l hl:=Nat.le_trans (hE.layers l hl).salt (by decide)
 xs x hx:=Nat.le_trans (hD.exp x hx).salt (by decide)
 cl x hx:=⟨Nat.le_trans (hE.exps x hx).claims.len (by decide),Nat.le_trans (hE.exps x hx).arms.1 (by decide)⟩
 nd:=hD.exps.nodup u3f
abbrev smp:Envt:=Envt.mk (Sett.mk noT noT 0) [] [] [Flg.mk (ByteArray.mk (Array.mk [102])) 1 [Val.mk 1 0 noT [],Val.mk 1 1 noT []] true 1 [] [] [] (Srv.mk 1 noT noT noT [])] [Lay_.mk (ByteArray.mk (Array.mk [108])) (ByteArray.mk (Array.mk [117,115,101,114])) noT 0 0 []] [Exper.mk (ByteArray.mk (Array.mk [120])) (ByteArray.mk (Array.mk [108])) (ByteArray.mk (Array.mk [102])) noT 2 [Spn.mk 0 10000] [Rng.mk 0 10000 2] (Ex.mk 1 noT noT [] [])]
theorem u7j:AsB smp where
 ln:=by decide
 xn:=by decide
 sg:=y2j (by decide) (by simp)
 ex x hx:=by
  rw [List.mem_singleton.1 hx]
  exact u3g u3e
 sa:=by decide
 ls l hl:=by rw [List.mem_singleton.1 hl];decide
 xs x hx:=by rw [List.mem_singleton.1 hx];decide
 cl x hx:=by rw [List.mem_singleton.1 hx];decide
 nd:=by simp
theorem qa2c:AsB (Envt.mk (Sett.mk noT noT 0) [] [] [] [] []) where
 ln:=by decide
 xn:=by decide
 sg:=y2j (by decide) (by simp)
 ex x hx:=by cases hx
 sa:=by decide
 ls l hl:=by cases hl
 xs x hx:=by cases hx
 cl x hx:=by cases hx
 nd:=by simp
abbrev usrB:ByteArray:=ByteArray.mk (Array.mk [117,115,101,114])
theorem v3n {s:Subj} (h:s.ctxs.length<=2) (hc: ∀c∈s.ctxs,c.attrs=[]/\c.key.size<=5):SubB s:=
 ⟨by omega,fun c hm=>by rw [(hc c hm).1];simp,fun c hm a ha=>by rw [(hc c hm).1] at ha;simp at ha,fun c hm=>by have:=(hc c hm).2;omega⟩
theorem u6e:asgV smp (Subj.mk [Ctxt.mk usrB (ByteArray.mk (Array.mk [117])) []]) [] (ByteArray.mk (Array.mk [108]))=(Asg.mk (ByteArray.mk (Array.mk [108])) (ByteArray.mk (Array.mk [120])) (ofV noT (ByteArray.mk (Array.mk [117]))) 2 false,0):=by
 obtain ⟨h0,h1⟩:=y1w noT (ByteArray.mk (Array.mk [117]))
 have hf:fnd (Subj.mk [Ctxt.mk usrB (ByteArray.mk (Array.mk [117])) []]) usrB=some (Ctxt.mk usrB (ByteArray.mk (Array.mk [117])) []):=by simp [fnd]
 have hb:bktV (Lay_.mk (ByteArray.mk (Array.mk [108])) usrB noT 0 0 []) (Subj.mk [Ctxt.mk usrB (ByteArray.mk (Array.mk [117])) []])=ofV noT (ByteArray.mk (Array.mk [117])):=by unfold bktV;rw [hf]
 have hh:v3e smp (Subj.mk [Ctxt.mk usrB (ByteArray.mk (Array.mk [117])) []])=false:=by
  unfold v3e
  split
  ·rw [df (by decide)];rfl
  ·rfl
 have hx:xof smp (ByteArray.mk (Array.mk [120]))=some (smp.6.head (by simp)):=by simp [xof]
 have he:v3f smp (Subj.mk [Ctxt.mk usrB (ByteArray.mk (Array.mk [117])) []]) (ByteArray.mk (Array.mk [120]))=true:=by
  unfold v3f;rw [hx];simp only [List.head_cons];unfold cndV;rw [u2y];simp
 have hi:insV [Spn.mk 0 10000] (ofV noT (ByteArray.mk (Array.mk [117])))=true:=by
  unfold insV
  rw [List.find?_cons]
  simp [h0,h1]
 have hp: ∀q,y2k [Rng.mk 0 10000 2] (ofV noT q)=2:=fun q=>by
  obtain ⟨h0,h1⟩:=y1w noT q
  unfold y2k
  rw [List.find?_cons]
  simp [h0,h1]
 have hl:lof smp (ByteArray.mk (Array.mk [108]))=some (Lay_.mk (ByteArray.mk (Array.mk [108])) usrB noT 0 0 []):=by simp [lof]
 unfold asgV
 rw [hl]
 simp only
 unfold layV
 rw [show fcdV smp [] (ByteArray.mk (Array.mk [108]))=none by simp [fcdV,frcV]]
 simp only
 rw [hb,if_neg (by rw [hh];simp only [Bool.false_eq_true,false_or];intro k;have h2:ofV noT (ByteArray.mk (Array.mk [117]))<0:=k.2;omega),hf]
 simp only
 have ht:hitV smp (Subj.mk [Ctxt.mk usrB (ByteArray.mk (Array.mk [117])) []]) (ByteArray.mk (Array.mk [108])) (ofV noT (ByteArray.mk (Array.mk [117])))=some (smp.6.head (by simp)):=by
  unfold hitV
  rw [List.find?_cons]
  simp only [hi,he]
  simp
 rw [ht]
 simp only [List.head_cons]
 rw [hp]
theorem u6f:asgV smp (Subj.mk []) [] (ByteArray.mk (Array.mk [108]))=(Asg.mk (ByteArray.mk (Array.mk [108])) noT (-1) 0 false,0):=by
 have hl:lof smp (ByteArray.mk (Array.mk [108]))=some (Lay_.mk (ByteArray.mk (Array.mk [108])) usrB noT 0 0 []):=by simp [lof]
 have hf: ∀k,fnd (Subj.mk []) k=none:=fun k=>rfl
 unfold asgV
 rw [hl]
 simp only
 unfold layV v3e bktV
 simp only [hf,show fcdV smp [] (ByteArray.mk (Array.mk [108]))=none by simp [fcdV,frcV]]
 simp
theorem y7z {K:Bool->Prop} (h:K true):q4f K:=by
 unfold q4f z3s q6f
 refine q98 (v:=smp) u7j (v3n (by decide) (by simp;decide)) (by decide) ?_
 rw [u6e]
 refine q98 (v:=smp) u7j (v3n (by decide) (by simp)) (by decide) ?_
 rw [u6f]
 refine Cnd.yes rfl (Cnd.yes rfl (Cnd.yes rfl (u2e (by decide) (by decide) (Cnd.yes rfl (Cnd.yes rfl (Cnd.yes ⟨rfl,rfl,rfl,rfl,rfl⟩ ?_))))))
 exact j4o qa2c (v3n (by decide) (by simp)) (by decide) fun _=>h
theorem y2t {list:List Int} {at_:Int} {v:Envt} {K:List Frc->Int->Prop} (hD:DS list at_) (hE:EnvS v) (h: ∀l a,l.length<=3->K l a):z2b list at_ v K:=by
 unfold z2b j5l
 have hxn:=hE.xlen
 refine Lp3.ind (fun (l:List Frc) (i a:Int)=>0<=i/\i<=3/\(l.length:Int)=i/\DS list a) (fun _ (i:Int) _=>(3 - i).toNat) ?_ ⟨by omega,by omega,rfl,hD⟩
 rintro l i a ⟨i0,i1,hl,hD⟩
 refine Qo hD (by decide) fun q a q0 q1 hD=>Cnd.mk (fun hc=>Qo hD (by decide) fun w a w0 w1 hD=>⟨by unfold InI;omega,?_⟩) fun _=>h _ _ (by omega)
 refine Jn2.mk (fun _ a=>DS list a) (Qo hD (by decide) fun r a _ _ hD=>Cnd.mk (fun _=>hD) fun _=>hD) fun ly a hD=> ?_
 refine Jn4.mk (fun _ _ _ a=>DS list a) ?_ fun _ _ _ a hD=>⟨by unfold Sml;simp;omega,by unfold InI;omega,⟨by omega,by omega,by simp;omega,hD⟩,by omega⟩
 refine Qo hD (by decide) fun r a r0 r1 hD _=>Cnd.mk (fun hc=>⟨by omega,fun y hy=> ?_⟩) fun _=>hD
 refine Jn2.mk (fun _ a=>DS list a) (Qo hD (by decide) fun q a _ _ hD=>Cnd.mk (fun _=>⟨by omega,fun z hz=>hD⟩) fun _=>hD) fun ly a hD=>⟨by omega,fun z hz=>Qo hD (by decide) fun q a _ _ hD=>Cnd.mk (fun _ _=>Cnd.mk (fun hl0 _=> ?_) fun _=>hD) fun _=>hD⟩
 have hz1:=(hE.exps z (getm hz)).arms.1
 exact Qo hD (by omega) fun u a u0 u1 hD=>⟨⟨u0,u1⟩,fun w hw=>hD⟩
theorem y70 {codes who:List Int} {K:Envt->Subj->List Frc->Prop} (hc:Byts codes) (hw:Byts who) (h: ∀v s f,EnvS v->EnvD v->SubB s->f.length<=3->K v s f):q4g codes who K:=by
 unfold q4g z3t
 refine y4d hc (by decide) (by decide) fun cl hD=>j4r hD fun v a hE hd _=>y4d hw (by decide) (by decide) fun wl hD2=>w79 hD2 fun s a hs hl hD3=>y2t (v:=v) hD3 hE fun f _ hf=>h v s f hE hd (y7o hs hl) hf
end Go.En
end
noncomputable section
set_option maxRecDepth 100000
namespace Go.En
open Go Go.Fl Go.Fl.Lk Go.Fx
theorem v3o (v:Envt) (s:Subj) (l:Lay_) (fs:List Frc) (key:ByteArray):(layV v s l fs key).3=bktV l s/\(layV v s l fs key).1=key:=by
 unfold layV
 split
 ·exact ⟨rfl,rfl⟩
 ·split
  ·exact ⟨rfl,rfl⟩
  ·split
   ·exact ⟨rfl,rfl⟩
   ·split<;>exact ⟨rfl,rfl⟩
theorem qa0b {v:Envt} (hd:(v.5.map Lay_.key).Nodup) {l:Lay_} (hl:l∈v.5):lof v l.1=some l:=by
 unfold lof
 generalize v.5=L at hl hd
 induction L with
 |nil=>cases hl
 |cons a L ih=>
  rw [List.find?_cons]
  rw [List.map_cons,List.nodup_cons] at hd
  rcases List.mem_cons.1 hl with rfl|hl
  ·simp
  ·rw [decide_eq_false (fun e=>hd.1 (by rw [e];exact List.mem_map_of_mem hl))]
   exact ih hl hd.2
theorem u3h (n:Nat):(lyK.take n).Nodup:=(show lyK.Nodup by unfold lyK;decide).sublist (List.take_sublist _ _)
theorem qa2d: ∀x∈exK,x≠noT:=by unfold exK;decide
theorem u6g {l:List Rng} {b:Int} (hc:Cov l) (h0:0<=b) (h1:b<10000):armV l (y2k l b)=true:=by
 obtain ⟨r,hr,hh⟩:=hc b h0 h1
 unfold y2k
 cases hf:l.find? fun r=>decide (r.1<=b) && decide (b<r.2) with
 |none=>
  rw [List.find?_eq_none] at hf
  exact absurd (y7p (dt hh.1) (dt hh.2)) (hf r hr)
 |some q=>
  unfold armV
  rw [Option.isSome_iff_ne_none,Ne,List.find?_eq_none]
  intro hn
  exact hn q (List.mem_of_find?_eq_some hf) (dt rfl)
theorem u6h {v:Envt} (hE:EnvS v) (hD:EnvD v) {s:Subj} {l:Lay_} {fs:List Frc}:((layV v s l fs l.1).2=noT/\(layV v s l fs l.1).4=0)∨
  ∃x,xof v (layV v s l fs l.1).2=some x/\(layV v s l fs l.1).2=x.1/\x.1≠noT/\(layV v s l fs l.1).5=false/\x.5=2/\x.2=l.1/\armV x.7 (layV v s l fs l.1).4=true/\
   (fs=[]->v3e v s=false/\ ¬bktV l s<l.4/\v3f v s x.1=true):=by
 have hv:=u7i hE hD
 have hne: ∀x∈v.6,x.1≠noT:=fun x hx=>qa2d _ (hD.exps.subset (List.mem_map_of_mem hx))
 unfold layV
 split
 ·rename_i q hq
  unfold fcdV at hq
  split at hq
  ·rename_i f hf
   have hfk:f.1=l.1:=by simpa using List.find?_some hf
   split at hq
   ·cases hq;exact .inl ⟨rfl,rfl⟩
   ·split at hq
    ·rename_i hn hr
     cases hq
     unfold runV at hr
     obtain ⟨x,hx⟩:=Option.isSome_iff_exists.1 hr
     have hm:=List.mem_of_find?_eq_some hx
     have hp:=List.find?_some hx
     simp only [Bool.and_eq_true,decide_eq_true_eq] at hp
     refine .inr ⟨x,by simp only;rw [←hp.1];exact u7e hv hm,hp.1.symm,hne x hm,rfl,hp.2.2.1,by rw [hp.2.1,hfk],hp.2.2.2,fun he=> ?_⟩
     rw [he] at hf;simp [frcV] at hf
    ·cases hq
  ·cases hq
 ·split
  ·exact .inl ⟨rfl,rfl⟩
  ·rename_i hh
   split
   ·exact .inl ⟨rfl,rfl⟩
   ·rename_i c hc
    split
    ·rename_i x hx
     unfold hitV at hx
     have hm:=List.mem_of_find?_eq_some hx
     have hp:=List.find?_some hx
     simp only [Bool.and_eq_true,decide_eq_true_eq] at hp
     have hr:=y1w x.4 c.2
     refine .inr ⟨x,u7e hv hm,rfl,hne x hm,rfl,hp.2.1,hp.1,u6g (hD.exp x hm).cov hr.1 hr.2,fun _=>⟨?_,fun hb=>hh (.inr ⟨by rw [hc];rfl,hb⟩),hp.2.2.2⟩⟩
     cases hb:v3e v s with
     |false=>rfl
     |true=>exact absurd (.inl hb) hh
    ·exact .inl ⟨rfl,rfl⟩
theorem v3p {codes who:List Int} {force:Bool} {K:Bool->Prop} (hc:Byts codes) (hw:Byts who) (h:K true):Ww codes who force K:=by
 unfold Ww q4i
 refine y7z (Cnd.yes rfl ?_)
 refine y70 hc hw fun v s f hE hD hs hf=> ?_
 have hv:=u7i hE hD
 have hln:=hv.ln
 refine Jn1.mk (fun g=>g.length<=1000000000/\(force=false->g=[])) (Cnd.mk (fun hb=>⟨by omega,fun hn=>by rw [hb] at hn;cases hn⟩) fun _=>⟨by simp,fun _=>rfl⟩) fun g hg=> ?_
 have hnd:(v.5.map Lay_.key).Nodup:=by rw [hD.layers];exact u3h _
 have hlen:(allV v s g).length=v.5.length:=by unfold allV;simp
 refine j4o (v:=v) (s:=s) hv hs hg.1 fun _ _=>Cnd.yes (by rw [hlen]) ?_
 have hat: ∀{i:Nat} {l:Lay_} {z:Asg},v.5[i]? =some l->(allV v s g)[i]? =some z->z=layV v s l g l.1:=fun {i l z} h1 h2=>by
  unfold allV at h2
  rw [List.getElem?_map,h1] at h2
  have:=(Option.some.inj h2).symm
  rw [this]
  show (asgV v s g l.1).1=_
  unfold asgV
  rw [qa0b hnd (getm h1)]
 refine qa17 (fun _=>false) (by omega) (fun _=>h) fun i y Y hy hi _ hq=>⟨by omega,fun l hl=> ?_⟩
 have hl:v.5[i]? =some l:=hl
 have same: ∀{z:Asg},(allV v s g)[(i:Int).toNat]? =some z->z=layV v s l g l.1:=fun hz=>hat hl hz
 have hin: ∀{A:Prop},A->(0<=(i:Int)/\(i:Int)<((allV v s g).length:Int))/\A:=fun ha=>⟨by omega,ha⟩
 rw [hat hl hy]
 have hsp:=u6h hE hD (s:=s) (l:=l) (fs:=g)
 refine Cnd.yes (v3o _ _ _ _ _).2 (hin fun z hz=> ?_)
 rw [same hz]
 rcases hsp with ⟨h1,h2⟩|⟨x,hx,hk,hne,hh,h5,h6,ha,hfr⟩
 ·refine Cnd.yes h1 (hin fun z hz=> ?_)
  rw [same hz]
  exact Cnd.yes h2 (hq rfl)
 ·refine Cnd.no (fun he=>hne (by rw [←hk,he])) (hin fun z hz=> ?_)
  rw [same hz]
  refine j15 (v:=v) hv.xn (fun hn=>by rw [hx] at hn;cases hn) fun j x' hx' hxo=> ?_
  rw [hx] at hxo;cases hxo
  have hj:=Qv hx'
  refine Cnd.no (by omega) (hin fun z hz=> ?_)
  rw [same hz]
  refine Cnd.no (by rw [hh];simp) ⟨by omega,fun x' hx''=> ?_⟩
  have hx'':v.6[j]? =some x':=hx''
  rw [hx'] at hx'';cases hx''
  have hrl:=(hv.cl x (getm hx')).2
  refine Lp2.ind (fun (b:Bool) (k:Int)=> ∃q:Nat,k=(q:Int)/\q<=x.7.length/\(b=true∨(x.7.find? fun r=>decide (r.3=(layV v s l g l.1).4))=(x.7.drop q).find? fun r=>decide (r.3=(layV v s l g l.1).4))) (fun _ k=>(x.7.length - k).toNat) ?_ ⟨0,rfl,by omega,.inr rfl⟩
  rintro b k ⟨q,rfl,hq1,hb⟩ _
  refine Cnd.mk (fun hlt=>Cnd.mk (fun _=>⟨by unfold InI;omega,⟨q+1,by omega,by omega,.inl rfl⟩,by omega⟩) fun hbn=>⟨by omega,fun r hr=>hin fun z hz=> ?_⟩) fun hge=> ?_
  ·rw [same hz]
   have hr:x.7[q]? =some r:=hr
   have hb:=hb.resolve_left hbn
   refine ⟨by unfold InI;omega,⟨q+1,by omega,by omega,?_⟩,by omega⟩
   by_cases he:r.3=(layV v s l g l.1).4
   ·exact .inl (dt he)
   ·exact .inr (by rw [hb,z7p hr (df he)])
  ·refine Cnd.yes h5 (hin fun z hz=> ?_)
   rw [same hz]
   refine Cnd.yes (by rw [h6,(v3o _ _ _ _ _).2]) (Cnd.yes ?_ (Cnd.mk (fun _=>hq rfl) fun hfo=> ?_))
   ·refine hb.resolve_right fun hn=> ?_
    unfold armV at ha
    rw [hn,List.drop_eq_nil_of_le (by omega)] at ha
    cases ha
   ·obtain ⟨g1,g2,g3⟩:=hfr (hg.2 (by simpa using hfo))
    refine z92 (v:=v) hv hs (Cnd.no (by rw [g1];simp) (hin fun z hz=>⟨by omega,fun l' hl'=> ?_⟩))
    have hl':v.5[i]? =some l':=hl'
    rw [hl] at hl';cases hl'
    rw [same hz,(v3o _ _ _ _ _).1]
    exact Cnd.no g2 (z0s (v:=v) hv hs (Cnd.yes g3 (hq rfl)))
end Go.En
end
section
namespace Go.En
open Go Go.RowKit Go.Fl Go.Fx
/-- Bytes as numbers. -/
def u8s (l : List UInt8) : List Int := l.map fun b => ((b.toNat : Nat) : Int)
theorem u7k {l : List UInt8} : Byts (u8s l) := fun x hx => by
  obtain ⟨b, _, rfl⟩ := List.mem_map.1 hx
  have := b.toNat_lt
  exact ⟨by omega, by omega⟩
theorem qa2e {σ : Hv} {v : Value} {l : List UInt8} (h : RSl 1 RU8 σ v l) : RSl (D.size C.u8) (ElF D C.u8) σ v (u8s l) := by
  obtain ⟨a, cap, rfl, h1, h2, h3⟩ := h
  refine ⟨a, cap, by simp [u8s], by simpa [u8s] using h1, by simpa [u8s] using h2, fun i x hx => ?_⟩
  simp only [u8s, List.getElem?_map, Option.map_eq_some_iff] at hx
  obtain ⟨b, hb, rfl⟩ := hx
  obtain ⟨ad, cs, e1, e2, e3, e4⟩ := h3 i b hb
  have e4 : cs = _ := e4
  subst e4
  exact ⟨ad, _, e1, rfl, e3, Qd (.int _ _) Jd⟩
theorem j4s (x0 : List UInt8) (x1 : List UInt8) (x2 : Bool) {v0 : Value} {v1 : Value} {σ : Hv} {w : World} (hV : View σ w) (hG : Glb D σ) (rd0 : RSl 1 RU8 σ v0 x0) (rd1 : RSl 1 RU8 σ v1 x1) (h : ∀ K : Bool → Prop, K true → Ww (u8s x0) (u8s x1) x2 K) :
    Calls Go.Proofs.Tryz.prog 5 #[v0, v1, .bool x2] w fun e w1 => ∃ r, e = .returned (.bool r) ∧ Grow [] σ w σ w1 ∧ r = true := by
  have he : (Bz Ww).m ([.f (.sl C.u8 (u8s x0)), .f (.sl C.u8 (u8s x1)), .f (.bool x2)] : List (Fx.Tr Sg)) (fun rets _ => rets = [.f (.bool true)]) = Ww (u8s x0) (u8s x1) x2 (fun b => ([.f (.bool b)] : List (Fx.Tr Sg)) = [.f (.bool true)]) := by kernel_rfl
  have hp : (Bz Ww).m ([.f (.sl C.u8 (u8s x0)), .f (.sl C.u8 (u8s x1)), .f (.bool x2)] : List (Fx.Tr Sg)) (fun rets _ => rets = [.f (.bool true)]) := Eq.mpr he (h _ rfl)
  have hm := j4d _ _ hp w σ [v0, v1, .bool x2] [] hG (LayL.cons (ms := []) (.f (RepF.ofRSl okP.ok (qa2e rd0))) (LayL.cons (ms := []) (.f (RepF.ofRSl okP.ok (qa2e rd1))) (LayL.cons (ms := []) (.f (.bool _)) .nil))) (St.start hV)
  refine Calls.mono hm ?_
  rintro e w1 ⟨rets, outs, rv, σ1, msr, mso, rfl, hK, hLr, _, hS⟩
  subst hK
  cases hLr with
  | cons h1 hn =>
  cases hn
  cases h1 with
  | f hf =>
  cases hf
  exact ⟨true, rfl, hS.done.forget, rfl⟩
end Go.En
namespace Go.Proofs.YtfiomedjdipbgaaGreatDoor.assignOnce
open Go Go.RowKit Go.Fl Go.ChangeShapes Go.WideShapes Go.ChangeAt
open Go.ChangeMaps (open_string shut_string)
theorem own : ownKnob Tryz.prog.godebug = none := by kernel_rfl
theorem laidOut : laidOutB Tryz.prog = true := by kernel_rfl
set_option maxRecDepth 100000 in
theorem contract (H : Type) (enc : TypeId × Value → H) (W : World) (base : Nat) (args : Array Value) (ds gs : List (DataW H)) (before : List MemPlace)
    (hval : ∀ (j : Nat) t v, Tryz.f5.params[j]? = some t → args[j]? = some v → Value.okWide Tryz.prog W .any base t v)
    (hW : DataW.Whole enc Tryz.prog Tryz.f5.params.toList Rows.assignOnceSpec.vars false W args.toList ds gs before)
    (hsz : (DataW.weightsEach Tryz.prog (Tryz.f5.params.toList ++ (OpenSpec.ofChange Rows.assignOnceSpec).bare.plain.varTypes Tryz.prog) (ds ++ gs)).all (· ≤ reachBytes) = true)
    (hL : laidMetH Tryz.prog Rows.assignOnceRow.laid W) (hsh : W.ShapedOpen Tryz.prog) :
    Calls Tryz.prog 5 args W fun e W' => ∃ v, e = .returned v ∧ Rows.assignOnceSpec.post enc Tryz.prog Tryz.f5 false true false false W args v W' := by
  have hG : Go.Fx.Glb Go.En.D (hv W) := Go.En.v9j hL hsh
  have hW' := hW
  obtain ⟨p, q, hA0, hV, rfl, hfz, hnd⟩ := hW
  have hA : DataW.TrodAll enc Tryz.prog W 0 (fun _ => true) true Tryz.f5.params.toList args.toList ds p := hA0
  rw [Tryz.params5] at hA hval hsz
  obtain ⟨v0, vs0, d0, ds0, p0, q0, hargs, rfl, rfl, h0, r0⟩ := trodAll_cons hA
  obtain ⟨v1, vs1, d1, ds1, p1, q1, rfl, rfl, rfl, h1, r1⟩ := trodAll_cons r0
  obtain ⟨v2, vs2, d2, ds2, p2, q2, rfl, rfl, rfl, h2, r2⟩ := trodAll_cons r1
  obtain ⟨rfl, rfl, rfl⟩ := trodAll_nil r2
  obtain rfl : args = #[v0, v1, v2] := by cases args; simp_all
  obtain ⟨rfl, rfl⟩ := trodVars_none hV
  have k0 := h0
  have lt0 : ∀ x ∈ p0, x.block < W.heap.size := by obtain ⟨m, hm⟩ := k0; exact DataW.trod_lt m _ _ _ hm
  obtain ⟨x0, rd0⟩ := qa1r Tryz.underlying22 Tryz.underlying5 (by kernel_rfl) (of_decide_eq_true (by kernel_rfl)) (hval 0 22 v0 rfl rfl) h0 (y3w hsz (j := 0) (t := 22) rfl rfl)
  have k1 := h1
  have lt1 : ∀ x ∈ p1, x.block < W.heap.size := by obtain ⟨m, hm⟩ := k1; exact DataW.trod_lt m _ _ _ hm
  obtain ⟨x1, rd1⟩ := qa1r Tryz.underlying22 Tryz.underlying5 (by kernel_rfl) (of_decide_eq_true (by kernel_rfl)) (hval 1 22 v1 rfl rfl) h1 (y3w hsz (j := 1) (t := 22) rfl rfl)
  obtain ⟨x2, rfl, rfl, rfl⟩ := open_bool Tryz.underlying4 (hval 2 4 v2 rfl rfl) h2
  refine (Go.En.j4s x0 x1 x2 (u9e W) hG rd0 rd1 (fun _ hk => Go.En.v3p Go.En.u7k Go.En.u7k hk)).mono fun e W' he => ?_
  obtain ⟨r, rfl, hg, hr⟩ := he
  have hrt : r = true := hr
  subst hrt
  have bel := u5d hg.keeps
  exact ⟨_, rfl, _, _, _, [], _, [], hW', trodAll_mk1 (shut_bool Tryz.underlying4 _), (trodAll_cons_mk (Below.trod laidOut (by kernel_rfl) (of_decide_eq_true (by kernel_rfl)) k0 bel lt0) (trodAll_cons_mk (Below.trod laidOut (by kernel_rfl) (of_decide_eq_true (by kernel_rfl)) k1 bel lt1) (trodAll_cons_mk (shut_bool Tryz.underlying4 _) trodAll_mk0))), rfl, bel.frame _, fun h => by cases h⟩
theorem reads (os : Os) {H : Type} (enc : TypeId × Value → H) : ∃ places, DataW.whole enc Tryz.prog ((World.laidAll Tryz.prog os Rows.assignOnceRow.laid).forCall (fun _ _ => 0) ⟨#[], #[.slice none 0 0, .slice none 0 0, .bool false], []⟩).memory Tryz.f5.params.toList Rows.assignOnceSpec.vars false (#[.slice none 0 0, .slice none 0 0, .bool false] : Array Value).toList 8 = some ([.nil, .nil, .lit (.bool false)], [], places) :=
  ⟨[], by kernel_rfl⟩
set_option maxRecDepth 100000 in
theorem lifted (os : Os) (started : os.Started) (H : Type) (enc : TypeId × Value → H) (F : Stop.Interp) :
    ReturnsInHanded {} Tryz.checked os 5 .any ((OpenSpec.ofChange Rows.assignOnceSpec).preRow enc Tryz.prog Tryz.f5 Rows.assignOnceRow.domain false Rows.assignOnceRow.laid) (((OpenSpec.ofChange Rows.assignOnceSpec).at F).post enc Tryz.prog Tryz.f5 false true false false) := by
  obtain ⟨places, hx⟩ := reads os enc
  refine returnsInHanded_of_row (C := Tryz.checked) (s := (OpenSpec.ofChange Rows.assignOnceSpec)) own started (by kernel_rfl) Tryz.func5
    (witness_row_atRef (enc := enc) (C := Tryz.checked) false (World.laidAll Tryz.prog os Rows.assignOnceRow.laid) #[.slice none 0 0, .slice none 0 0, .bool false] (World.laidAll_os _ _ _) (by kernel_rfl) (by kernel_rfl) (by kernel_rfl)
      (OpenSpec.preRow_of_cond 8 hx (by kernel_rfl) (fun k hk => by cases hk) (by kernel_rfl) (by rw [MakeChecks.laidMetH_plain _ _ _ (by kernel_rfl)]; exact laidMet_laidAll _ (by kernel_rfl) (by kernel_rfl)))) ?_
  intro W base args ds gs before hval hW _ _ hsz hL hsh _
  exact contract H enc W base args ds gs before hval hW hsz hL hsh
theorem u6i : (Rows.assignOnceRow.inPlace == Tryz.pinned.checked.prog.inPlace 5) = true := by kernel_rfl
theorem kUnf : (Rows.assignOnceRow.unfollowed == Tryz.pinned.checked.prog.unfollowed 5) = true := by kernel_rfl
theorem kRec : (Rows.assignOnceRow.recurses == Tryz.pinned.checked.prog.recurses 5) = true := by kernel_rfl
theorem qa2f : (Rows.assignOnceRow.named == Tryz.pinned.checked.prog.varsNamed 5) = true := by kernel_rfl
theorem closed : joinedFacts Tryz.pinned.checked.prog 5 Tryz.f5 (OpenSpec.ofChange Rows.assignOnceSpec).bare Rows.assignOnceRow = true := by
  unfold joinedFacts
  rw [u6i, kUnf, kRec, qa2f]
  kernel_rfl
theorem said : Rows.AssignOnceSaid :=
  OpenClaim.holds_of_cond 5 Tryz.f5 rfl rfl rfl rfl rfl rfl rfl ⟨rfl, rfl, rfl, rfl, rfl⟩ rfl rfl rfl rfl rfl (by kernel_rfl) Tryz.func5 closed
    (of_decide_eq_true (by kernel_rfl)) (by unfold Func.isWrapper; first | (rw [if_pos (by decide +kernel)]; kernel_rfl) | (rw [if_neg (by decide +kernel)]; exact ⟨rfl, rfl⟩))
    (fun os started H enc _ F => by rw [OpenClaim.pre_eq_preRow]; exact lifted os started H enc F)
theorem plain (f : FuncId) (fn : Func) (hf : Tryz.pinned.checked.prog.funcNamed "flagstone/flagstonelaw15.AssignOnce" = some f) (hfn : Tryz.pinned.checked.prog.funcs[f]? = some fn) :
    true = Tryz.pinned.checked.prog.looks [] ∧ ∀ (j : Nat) t, fn.params[j]? = some t → Tryz.pinned.checked.prog.wantsStandIn t = false := by
  obtain rfl : f = 5 := Option.some.inj ((show Tryz.prog.funcNamed "flagstone/flagstonelaw15.AssignOnce" = some 5 by kernel_rfl).symm.trans hf) |>.symm
  obtain rfl : fn = Tryz.f5 := (Option.some.inj (Tryz.func5.symm.trans hfn)).symm
  refine ⟨by kernel_rfl, fun j t ht => ?_⟩
  rw [Tryz.params5] at ht
  match j with
  | 0 => cases ht; exact (show Tryz.prog.wantsStandIn 22 = false by kernel_rfl)
  | 1 => cases ht; exact (show Tryz.prog.wantsStandIn 22 = false by kernel_rfl)
  | 2 => cases ht; exact (show Tryz.prog.wantsStandIn 4 = false by kernel_rfl)
  | j + 3 => cases ht
theorem card : Rows.AssignOnceCardSaid :=
  Claim7.holds_tied_plain_at .later [] _ _ _ _ said (fun _ h => by cases h) (by kernel_rfl) (fun _ h => by cases h) assignOnce_row_tie rfl ⟨rfl, rfl⟩ (by kernel_rfl) rfl plain (by kernel_rfl)
end Go.Proofs.YtfiomedjdipbgaaGreatDoor.assignOnce
end
#print axioms Go.Proofs.YtfiomedjdipbgaaGreatDoor.assignOnce.card
