/- EvaluateOff: a flag that is switched off serves its off variation, flags that need it fail, and switching it on restores every decision This is part 6 of 10. Conditions: those in the statements. -/
import Derived.Test.YtkbjibhkaddepaaGreatDoorOf5
import Derived.Lib.ItoaNum
noncomputable section
set_option maxRecDepth 100000
namespace Go.En
open Go Go.Fl Go.Fl.Lk Go.Fx Go.Sg
open Go.Gr (Ord Grd Rdy Nxt)
open Classical in
def cntn(g:Seg)(s:Subj)(inn:List ByteArray):Bool:=
 match fnd s g.2 with
 |none=>false
 |some c=>if c.2∈g.4 then false else if c.2∈g.3 then true else if g.5.1=0 then false else evl (tst s) (fun x=>dec (x∈inn)) g.5
theorem w6t{α:Type}{l:List α}{x:α}{A A' B B':Prop}(hl:l.length<=9223372036854775807)(hy:x∈l->A)(hn:x∉l->B):
  Lp1 (fun i Y=>Cnd (i<(l.length:Int)) ((0<=i/\i<(l.length:Int))/\ ∀y,l[i.toNat]? =some y->Cnd (x=y) (Cnd (0<=i) A A') (InI (i+1)/\Y (i+1))) (Cnd ((0:Int)<= -1) B' B)) 0:=by
 refine Lp1.ind (fun (i:Int)=>0<=i/\i<=l.length/\x∉l.take i.toNat) (fun (i:Int)=>(l.length - i).toNat) ?_ ⟨by omega,by omega,by simp⟩
 rintro i ⟨i0,i1,hno⟩
 refine Cnd.mk (fun hc=>⟨by omega,fun y hy'=>Cnd.mk (fun e=>Cnd.yes i0 (hy (e▸getm hy'))) fun e=>⟨by unfold InI;omega,⟨by omega,by omega,?_⟩,by omega⟩⟩) fun hc=>Cnd.no (by decide) (hn ?_)
 ·rw[show (i+1).toNat=i.toNat+1 by omega,List.take_add_one,hy']
  simp[hno,e]
 ·rwa [List.take_of_length_le (by omega)] at hno
theorem z8x{g:Seg}{s:Subj}{inn:List ByteArray}{K:Bool->Prop}(hs:SubB s)(hw:wt g.5<=1000000)(hv:EvB g.5)(h:K (cntn g s inn)):Gn g s inn K:=by
 unfold Gn q1c
 refine Hi hs ?_
 unfold cntn at h
 cases hf:fnd s g.2 with
 |none=>rw[hf] at h;exact Cnd.no (by simp) h
 |some c=>
  rw[hf] at h
  dsimp only at h
  dsimp only [Option.getD_some]
  refine Cnd.yes rfl fun hl=>w6t hl (fun hx=> ?_) fun hx hl2=>w6t hl2 (fun hy=> ?_) fun hy=>Cnd.mk (fun h0=> ?_) fun h0=> ?_
  ·rwa [if_pos hx] at h
  ·rwa [if_neg hx,if_pos hy] at h
  ·rwa [if_neg hx,if_neg hy,if_pos h0] at h
  ·rw[if_neg hx,if_neg hy,if_neg h0] at h
   rw[Jl]
   exact q91 hs _ (Nat.le_refl _) (by omega) hv h
def memb(l:List Seg)(s:Subj)(inn:List ByteArray)(k:ByteArray):Bool:=
 match l.find? fun g=>decide (g.1=k) with
 |none=>false
 |some g=>cntn g s inn
def mbs(l:List Seg)(s:Subj):List ByteArray->List ByteArray->List ByteArray
 |acc,[]=>acc
 |acc,k::o=>mbs l s (if memb l s acc k=true then acc++[k] else acc) o
def MemS(l:List Seg)(s:Subj)(m:List ByteArray):Prop:= ∃o r,OrdS l o r/\m=srt (mbs l s [] o)
theorem MemS.uniq{l:List Seg}{s:Subj}{m m':List ByteArray}(h:MemS l s m)(h':MemS l s m'):m=m':=by
 obtain⟨o,r,ho,rfl⟩:=h
 obtain⟨o',r',ho',rfl⟩:=h'
 rw[(ho.uniq ho').1]
theorem v66{ns:List ByteArray}{E:List (ByteArray×ByteArray)}{o:List ByteArray}{r:Int}(h:Ord ns E o r):(o=[]/\r≠0)∨(r=0/\ns.Nodup/\Grd ns E o/\o.length=ns.length):=by
 rcases h with ⟨_,rfl,rfl⟩|⟨_,_,rfl,rfl⟩|⟨h1,_,⟨_,_,_,_,rfl,rfl⟩|⟨a,b,rfl⟩⟩
 ·exact .inl ⟨rfl,by decide⟩
 ·exact .inl ⟨rfl,by decide⟩
 ·exact .inl ⟨rfl,by decide⟩
 ·exact .inr ⟨rfl,h1,a,b⟩
theorem v99{l:List Seg}(hn:(l.map Seg.key).Nodup){g:Seg}(hg:g∈l):(l.find? fun x=>decide (x.1=g.1))=some g:=by
 induction l with
 |nil=>simp at hg
 |cons a l ih=>
  rw[List.map_cons,List.nodup_cons] at hn
  rw[List.find?_cons]
  rcases List.mem_cons.1 hg with rfl|hg
  ·simp
  ·have: ¬a.1=g.1:=fun e=>hn.1 (by rw[show a.key=g.key from e];exact List.mem_map_of_mem hg)
   rw[decide_eq_false this]
   exact ih hn.2 hg
theorem y40:srt []=[]:=by
 have:=Jn []
 exact List.eq_nil_of_length_eq_zero (by simpa using this)
theorem q85{l:List Seg}{s:Subj}{K:List ByteArray->Prop}(hB:SegB l)(hs:SubB s)(h: ∀m,MemS l s m->K m):Wq l s K:=by
 unfold Wq q2x
 refine j4j hB fun o r ho=> ?_
 rcases v66 ho with ⟨rfl,h0⟩|⟨rfl,hnd,hg,hlen⟩
 ·refine Cnd.no h0 (h _ ⟨[],r,ho,?_⟩)
  rw[mbs,y40]
 have hn:=hB.n
 have hlen:o.length=l.length:=by simpa using hlen
 have hon:=Go.Gr.Grd.nodup hg
 refine Cnd.yes rfl fun _=> ?_
 refine Lp2.ind (fun (i:Int) (F:ByteArray->Option Seg)=>0<=i/\i<=l.length/\ ∀g∈l.take i.toNat,F g.1=some g) (fun (i:Int) _=>(l.length - i).toNat) ?_ ⟨by omega,by omega,by simp⟩
 rintro i F ⟨i0,i1,hF⟩
 refine Cnd.mk (fun hc=>⟨by omega,fun g hg'=>⟨by unfold InI;omega,⟨by omega,by omega,?_⟩,by omega⟩⟩) fun hc _=> ?_
 ·rw[show (i+1).toNat=i.toNat+1 by omega,List.take_add_one,hg',Jl]
  refine Jz (fun x hx=> ?_) ?_
  ·have:x.1≠g.1:=by
    intro e
    have h1:(l.map Seg.key)[i.toNat]? =some g.1:=by rw[List.getElem?_map,hg'];rfl
    refine Go.Gr.nodup_at hnd h1 ?_
    rw[←List.map_take,←e]
    exact List.mem_map_of_mem hx
   simp only[put,if_neg this]
   exact hF x hx
  ·simp[put]
 rw[List.take_of_length_le (by omega)] at hF
 refine Lp2.ind (fun (acc:List ByteArray) (j:Int)=>0<=j/\j<=o.length/\acc.length<=j.toNat/\mbs l s [] o=mbs l s acc (o.drop j.toNat)) (fun _ (j:Int)=>(o.length - j).toNat) ?_ ⟨by omega,by omega,by simp,rfl⟩
 rintro acc j ⟨j0,j1,hal,hm⟩
 refine Cnd.mk (fun hc=>⟨by omega,fun k hk=> ?_⟩) fun hc=> ?_
 ·have hko:k∈l.map Seg.key:=Go.Gr.Grd.sub hg k (getm hk)
  obtain⟨g,hgl,hgk⟩:=List.mem_map.1 hko
  have hgk:g.1=k:=hgk
  subst hgk
  dsimp only;rw[hF g hgl]
  dsimp only [Option.getD_some]
  rw[Jl]
  rw[drp hk,mbs] at hm
  have hmb:memb l s acc g.1=cntn g s acc:=by unfold memb;rw[v99 hnd hgl]
  refine z8x hs (hB.w g hgl) (hB.v g hgl) ?_
  rw[hmb] at hm
  refine Cnd.mk (fun hb=>⟨by unfold Sml;simp;omega,by unfold InI;omega,⟨by omega,by omega,by simp;omega,?_⟩,by omega⟩) fun hb=>⟨by unfold InI;omega,⟨by omega,by omega,by omega,?_⟩,by omega⟩
  ·have hb:cntn g s acc=true:=hb
   rw[if_pos hb] at hm
   rw[show (j+1).toNat=j.toNat+1 by omega];exact hm
  ·have hb: ¬cntn g s acc=true:=hb
   rw[if_neg hb] at hm
   rw[show (j+1).toNat=j.toNat+1 by omega];exact hm
 ·rw[List.drop_eq_nil_of_le (by omega),mbs] at hm
  show K (srt acc)
  rw[←hm]
  exact h _ ⟨o,0,ho,rfl⟩
end Go.En
end
noncomputable section
set_option maxRecDepth 100000
namespace Go.En
open Go Go.Fl Go.Fl.Lk Go.Fx Go.Sg
structure ClE(segs:List ByteArray)(Q:Nat->Ex->Prop):Prop where
 hT: ∀k,Q k (Ex.mk 1 (ByteArray.mk (Array.mk [])) (ByteArray.mk (Array.mk [])) [] [])
 hS: ∀k b,b∈segs->Q k (Ex.mk 5 (ByteArray.mk (Array.mk [])) b [] [])
 ht: ∀k e,ExS 0 e->6<=e.1->Q k e
 hN: ∀k e,Q k e->Q (k+1) (Ex.mk 4 (ByteArray.mk (Array.mk [])) (ByteArray.mk (Array.mk [])) [] [e])
 hA: ∀k op l,op=2∨op=3->l.length<=3->l≠[]->(∀e∈l,Q k e∨ ∃e',Q k e'/\e=Ex.mk 4 (ByteArray.mk (Array.mk [])) (ByteArray.mk (Array.mk [])) [] [e'])->Q (k+1) (Ex.mk op (ByteArray.mk (Array.mk [])) (ByteArray.mk (Array.mk [])) [] l)
theorem ClE.and{segs:List ByteArray}{Q R:Nat->Ex->Prop}(a:ClE segs Q)(b:ClE segs R):ClE segs fun k e=>Q k e/\R k e:=
 ⟨fun k=>⟨a.hT k,b.hT k⟩,fun k x hx=>⟨a.hS k x hx,b.hS k x hx⟩,fun k e h1 h2=>⟨a.ht k e h1 h2,b.ht k e h1 h2⟩,fun k e h=>⟨a.hN k e h.1,b.hN k e h.2⟩,
  fun k op l h1 h2 h3 h=>⟨a.hA k op l h1 h2 h3 fun e he=>(h e he).imp (·.1) fun ⟨e',h,h'⟩=>⟨e',h.1,h'⟩,b.hA k op l h1 h2 h3 fun e he=>(h e he).imp (·.2) fun ⟨e',h,h'⟩=>⟨e',h.2,h'⟩⟩⟩
theorem j23{list:List Int}{segs:List ByteArray}{Q:Nat->Ex->Prop}(c:ClE segs Q):
  ∀(k:Nat) {at_ levels:Int} {K:Ex->Int->Prop},k<=100->levels<=k+1->1<=levels->DS list at_->(∀r a,Q k r->DS list a->K r a)->z9m list at_ segs levels K:=by
 obtain⟨hT,hS,ht,hN,hA⟩:=c
 intro k at_ levels K hk0 hk hl hD h X hX
 induction k generalizing at_ levels K with
 |zero=>
  refine hX _ _ _ _ _ ?_
  unfold j46
  refine Qd hD (by decide) fun r a r0 r1 hD=>Jn1.mk (fun x=>0<=x/\x<=3) (Cnd.mk (fun _=>Cnd.mk (fun _=>⟨by unfold InI;omega,by omega,by omega⟩) fun _=>⟨by omega,by omega⟩) fun _=>by omega) fun x hx=> ?_
  have t:=w6a (K:=fun r a=>K (Ex.mk r.1 r.2 r.3 r.4 r.5) a) hD fun r a hr h6 hD=>h _ a (by rw[Jl];exact ht 0 r hr h6) hD
  refine Cnd.mk (fun _=>h _ _ (hT 0) hD) fun _=>Cnd.mk (fun _ _=>Cnd.mk (fun hc _=> ?_) fun _=>t) fun _=>Cnd.mk (fun hc=>by omega) fun _=> ?_
  ·exact Qd hD (by omega) fun r a r0 r1 hD=>⟨⟨r0,r1⟩,fun y hy=>h _ _ (hS 0 y (getm hy)) hD⟩
  ·exact Jn1.mk (fun x=>x=false) (Cnd.mk (fun hc=>by omega) fun _=>decide_eq_false (by omega)) fun x hx=>Cnd.mk (fun hc=>by rw[hx] at hc;cases hc) fun _=>t
 |succ k ih=>
  refine hX _ _ _ _ _ ?_
  unfold j46
  have go: ∀{at_:Int} {K:Ex->Int->Prop},1<=levels - 1->DS list at_->(∀r a,Q k r->DS list a->K r a)->X list at_ segs (levels - 1) K:=fun h1 hD hK=>ih (by omega) (by omega) h1 hD hK
  refine Qd hD (by decide) fun r a r0 r1 hD=>Jn1.mk (fun x=>0<=x/\x<=7/\(levels<=1->x<=3)) (Cnd.mk (fun _=>Cnd.mk (fun _=>⟨by unfold InI;omega,by omega,by omega,by omega⟩) fun _=>⟨by omega,by omega,by omega⟩) fun _=>by omega) fun x hx=> ?_
  have t:=w6a (K:=fun r a=>K (Ex.mk r.1 r.2 r.3 r.4 r.5) a) hD fun r a hr h6 hD=>h _ a (by rw[Jl];exact ht _ r hr h6) hD
  refine Cnd.mk (fun _=>h _ _ (hT _) hD) fun _=>Cnd.mk (fun _ _=>Cnd.mk (fun hc _=> ?_) fun _=>t) fun _=>Cnd.mk (fun hc=> ?_) fun _=> ?_
  ·exact Qd hD (by omega) fun r a r0 r1 hD=>⟨⟨r0,r1⟩,fun y hy=>h _ _ (hS _ y (getm hy)) hD⟩
  ·refine⟨by unfold InI;omega,go (by omega) hD fun e a he hD=>h _ _ ?_ hD⟩
   rw[Jl];exact hN k e he
  refine Jn1.mk (fun y=>y=true->2<=levels) (Cnd.mk (fun hc _=>by omega) fun _ hc=>by have:=of_decide_eq_true hc;omega) fun y hy=>Cnd.mk (fun hc=> ?_) fun _=>t
  have hy:=hy hc
  refine Qd hD (by decide) fun r a r0 r1 hD=>⟨by unfold InI;omega,Qd hD (by decide) fun q a q0 q1 hD=>⟨by unfold InI;omega,?_⟩⟩
  refine LpH.ind (fun x=>0<=x.1/\x.1<=2+q/\DS list x.2.1/\x.2.2=(2+r,ByteArray.mk (Array.mk []),ByteArray.mk (Array.mk []),[],x.2.2.2.2.2.2.1,())/\(x.2.2.2.2.2.2.1.length:Int)=x.1/\ ∀e∈x.2.2.2.2.2.2.1,Q k e∨ ∃e',Q k e'/\e=Ex.mk 4 (ByteArray.mk (Array.mk [])) (ByteArray.mk (Array.mk [])) [] [e']) (fun x=>(3 - x.1).toNat) ?_ ⟨Int.le_refl 0,by simp only;omega,hD,rfl,rfl,by simp⟩
  rintro⟨i,a,x⟩ ⟨i0,i1,hD,hx,hl,he⟩
  simp only at i0 i1 hD hx hl he
  generalize x.2.2.2.2.1=l at*
  subst hx
  simp only at hl he⊢
  refine Cnd.mk (fun hc=>⟨by unfold InI;omega,go (by omega) hD fun e a hk hD=> ?_⟩) fun hc=>h _ _ (hA k (2+r) l (by omega) (by omega) (fun e=>by rw[e] at hl;simp at hl;omega) he) hD
  refine Jn1.mk (fun z=>(fun e=>Q k e∨ ∃e',Q k e'/\e=Ex.mk 4 (ByteArray.mk (Array.mk [])) (ByteArray.mk (Array.mk [])) [] [e']) (Ex.mk z.1 z.2.1 z.2.2.1 z.2.2.2.1 z.2.2.2.2.1)) (Cnd.mk (fun _=> .inr ⟨e,hk,by simp only;rw[Jl]⟩) fun _=> .inl (by simp only;rw[Jl];exact hk)) fun z hz=> ?_
  exact⟨by unfold Sml;simp;omega,by unfold InI;omega,⟨by omega,by omega,hD,trivial,by simp;omega,Jz he hz⟩,by omega⟩
structure DrE(segs:List ByteArray)(w:Nat)(e:Ex):Prop where
 wt:wt e<=w
 nms: ∀x∈nms e,x∈segs
 ev:EvB e
theorem EvB.mk'{e:Ex}(h: ∀w∈e.4,ValB w)(hk: ∀k∈e.5,EvB k):EvB e:=fun a ha=>by
 rw[z44] at ha
 rcases List.mem_cons.1 ha with rfl|ha
 ·exact h
 ·obtain⟨k,hk',ha⟩:=q79.1 ha
  exact hk k hk' a ha
theorem y7l{l:List Val}{b:Nat}(h: ∀v∈l,v.4.length<=b):wtV l<=l.length*(1+b):=by
 induction l with
 |nil=>simp[wtV]
 |cons v l ih=>
  have h1:=h v List.mem_cons_self
  have h2:=ih fun v hv=>h v (List.mem_cons_of_mem _ hv)
  simp only[wtV,List.length_cons,Nat.add_mul,Nat.one_mul] at*
  omega
theorem y7m{l:List Ex}{b:Nat}(h: ∀e∈l,wt e<=b):wtL l<=l.length*b:=by
 induction l with
 |nil=>simp[wtL]
 |cons v l ih=>
  have h1:=h v List.mem_cons_self
  have h2:=ih fun v hv=>h v (List.mem_cons_of_mem _ hv)
  simp only[wtL,List.length_cons,Nat.add_mul,Nat.one_mul] at*
  omega
def lvl:Nat->Nat
 |0=>45
 |k+1=>4+3*lvl k
theorem v67(k:Nat):45<=lvl k:=by
 induction k with
 |zero=>exact Nat.le_refl _
 |succ k ih=>simp only[lvl];omega
theorem v68{segs:List ByteArray}:ClE segs fun k e=>DrE segs (lvl k) e:=by
 have leaf: ∀{e:Ex} {x:ByteArray},e.5=[]->x∈nms e->e.1=5/\e.3=x:=fun {e x} h5 hx=>by
  rw[w0z,h5] at hx
  exact hx.elim id fun ⟨k,hk,_⟩=>by simp at hk
 refine⟨fun k=>⟨?_,fun x hx=> ?_,EvB.mk' (by simp) (by simp)⟩,fun k b hb=>⟨?_,fun x hx=> ?_,EvB.mk' (by simp) (by simp)⟩,fun k e he h6=>⟨?_,fun x hx=> ?_,EvB.mk' (fun w hw=> ?_) (by rw[he.2.2.2];simp)⟩,fun k e he=>⟨?_,fun x hx=> ?_,EvB.mk' (by simp) (by simpa using he.ev)⟩,fun k op l hop h3 hne he=>⟨?_,fun x hx=> ?_,EvB.mk' (by simp) fun e hm=> ?_⟩⟩
 ·have:=v67 k;simp only[wt,wtV,wtL];omega
 ·have:=(leaf rfl hx).1;simp at this
 ·have:=v67 k;simp only[wt,wtV,wtL];omega
 ·rw[←(leaf rfl hx).2];exact hb
 ·have h1:=v67 k
  have h2:=y7l (l:=e.4) (b:=10) fun v hv=>(he.vals.all v hv).len
  have h3:=he.vals.len
  rw[j9o,he.2.2.2]
  simp only[wtL];omega
 ·have:=(leaf he.2.2.2 hx).1;omega
 ·exact⟨Nat.le_trans (he.vals.all w hw).txt (by decide),Nat.le_trans (he.vals.all w hw).len (by decide)⟩
 ·have:=he.wt;simp only[wt,wtV,wtL,lvl];omega
 ·rw[w0z] at hx
  rcases hx with hx|⟨k,hk,hx⟩
  ·simp at hx
  ·have:k=e:=by simpa using hk
   rw[this] at hx;exact he.nms x hx
 ·rw[j9o]
  have:wtL l<=l.length*(1+lvl k):=y7m fun e hm=>by
   rcases he e hm with h|⟨e',h,rfl⟩
   ·have:=h.wt;omega
   ·have:=h.wt;simp only[wt,wtV,wtL];omega
  have h4:l.length*(1+lvl k)<=3*(1+lvl k):=Nat.mul_le_mul_right _ h3
  simp only[wtV,lvl];omega
 ·rw[w0z] at hx
  rcases hx with hx|⟨q,hq,hx⟩
  ·simp only at hx;omega
  ·rcases he q hq with h|⟨e',h,rfl⟩
   ·exact h.nms x hx
   ·rw[w0z] at hx
    rcases hx with hx|⟨k,hk,hx⟩
    ·simp at hx
    ·have:k=e':=by simpa using hk
     rw[this] at hx;exact h.nms x hx
 ·rcases he e hm with h|⟨e',h,rfl⟩
  ·exact h.ev
  ·exact EvB.mk' (by simp) (by simpa using h.ev)
theorem w9b{segs:List ByteArray}(hs: ∀s∈segs,s.size<=100):ClE segs fun k e=>ExS (2*k) e:=
 ⟨fun k=>ExS.le (n:=0) ⟨.nil,⟨sz0,sz0⟩,opl (by simp),rfl⟩ (by omega),fun k b hb=>ExS.le (n:=0) ⟨.nil,⟨hs _ hb,sz0⟩,opl (by simp),rfl⟩ (by omega),fun k e he _=>he.le (by omega),fun k e he=>(y7a he sz0 sz0).le (by omega),
  fun k op l hop h3 hne he=>⟨.nil,⟨sz0,sz0⟩,⟨InI.mk (by simp only;omega) (by simp only;omega),fun _ _=>hne⟩,h3,fun e hm=>by
   rcases he e hm with h|⟨e',h,rfl⟩
   ·exact h.up
   ·exact y7a h sz0 sz0⟩⟩
def Byts(l:List Int):Prop:= ∀x∈l,0<=x/\x<256
theorem v0z{l:List Int}{most:Int}{K:List Int->Int->Prop}(hb:Byts l)(h0:0<=most)(h1:most<=1000)(h: ∀r,DS r 0->K r 0):w1u l most K:=by
 unfold w1u
 refine Jn1.mk (fun r=>DS r 0) ?_ h
 refine fun _=>Cnd.mk (fun hc=>⟨by omega,?_⟩) fun hc=>⟨by omega,by omega,by omega,hb⟩
 rw[show List.drop (Int.toNat 0) (List.take most.toNat l)=l.take most.toNat from rfl]
 exact⟨by rw[List.length_take];omega,by omega,by omega,fun x hx=>hb x (List.mem_of_mem_take hx)⟩
structure CtxS(c:Ctxt):Prop where
 a:c.attrs.length<=8
 l: ∀a∈c.attrs,ValS a.value
 k:c.key.size<=5
theorem j3n{list:List Int}{at_:Int}{kind:ByteArray}{K:Ctxt->Int->Prop}(hD:DS list at_)(h: ∀c a,c.kind=kind->CtxS c->DS list a->K c a):q7q list at_ kind K:=by
 unfold q7q z71
 refine v0r hD fun key a hk hD=>q14 fun l hl hd=> ?_
 refine Lp3.ind (fun (i:Int) (r:List Attr) (a:Int)=>0<=i/\i<=l.length/\r.length<=i.toNat/\(∀a∈r,ValS a.value)/\DS list a) (fun (i:Int) _ _=>(l.length - i).toNat) ?_ ⟨by omega,by omega,by simp,by simp,hD⟩
 rintro i r a ⟨i0,i1,hr,hv,hD⟩ _
 refine Cnd.mk (fun hc=>⟨by omega,fun y hy=>Cnd.mk (fun _=>Qd hD (by decide) fun q a q0 q1 hD=>Cnd.mk (fun _=>⟨by omega,fun y2 hy2=>⟨by omega,fun y3 hy3=>q6q hD fun v a hvv hD=>⟨by unfold Sml;simp;omega,by unfold InI;omega,⟨by omega,by omega,by simp;omega,Jz hv hvv,hD⟩,by omega⟩⟩⟩) fun _=>⟨by unfold InI;omega,⟨by omega,by omega,by omega,hv,hD⟩,by omega⟩) fun _=>⟨by unfold InI;omega,⟨by omega,by omega,by omega,hv,hD⟩,by omega⟩⟩) fun _=>h _ _ rfl ⟨by simp only;omega,hv,hk⟩ hD
theorem j9p{list:List Int}{at_:Int}{K:Subj->Int->Prop}(hD:DS list at_)(h: ∀s a,s.ctxs.length<=2->(∀c∈s.ctxs,CtxS c)->DS list a->K s a):z13 list at_ K:=by
 unfold z13 z72
 refine Qd hD (by decide) fun q a q0 q1 hD=> ?_
 refine Jn2.mk (fun (a:Int) (l:List Ctxt)=>l.length<=1/\(∀c∈l,CtxS c)/\DS list a) ?_ fun a l hx=> ?_
 ·have one:q7q list a (ByteArray.mk (Array.mk [100,101,118,105,99,101])) fun c a=>Sml ([]++[c]).length/\(([]++[c]:List Ctxt).length<=1/\(∀x∈([]++[c]:List Ctxt),CtxS x)/\DS list a):=j3n hD fun c a _ hc hD=>⟨by unfold Sml;simp,by simp,by simpa using hc,hD⟩
  exact Cnd.mk (fun _=>one) fun _=>Cnd.mk (fun _=>one) fun _=>Cnd.mk (fun _=>one) fun _=>⟨by simp,by simp,hD⟩
 ·obtain⟨hl,hc,hD⟩:=hx
  have fin:K (Subj.mk l) a:=h _ _ (by simp only;omega) hc hD
  exact Cnd.mk (fun _=>fin) fun _=>Cnd.mk (fun _=>fin) fun _=>j3n hD fun c a _ hcc hD=>⟨by unfold Sml;simp;omega,h _ _ (by simp;omega) (Jz hc hcc) hD⟩
theorem v2y{s:Subj}(h:s.ctxs.length<=2)(hc: ∀c∈s.ctxs,CtxS c):SubB s:=
 ⟨by omega,fun c hm=>by have:=(hc c hm).a;omega,fun c hm a ha=>by have:=((hc c hm).l a ha);have h1:=this.len;have h2:=this.txt;omega,fun c hm=>by have:=(hc c hm).k;omega⟩
theorem v69{l:List Seg}(hn:l.length<=50)(h: ∀g∈l,∃segs,DrE segs 20000 g.5):SegB l:=⟨hn,fun g hg=>Nat.le_trans (h g hg).choose_spec.wt (by decide),fun g hg=>(h g hg).choose_spec.ev,by
 have:=y4z (l:=l) fun g hg=>(h g hg).choose_spec.wt
 omega⟩
end Go.En
end
noncomputable section
set_option maxRecDepth 100000
namespace Go.En
open Go Go.Fl Go.Fl.Lk Go.Fx Go.Sg
open Go.Gr (Ord Grd Rdy Nxt)
abbrev bB:ByteArray:=ByteArray.mk (Array.mk [98])
end Go.En
end
noncomputable section
set_option maxRecDepth 100000
namespace Go.En
open Go Go.Fl Go.Fl.Lk Go.Fx
theorem z6b{α:Type}{l:List α}{p:α->Bool}{i:Nat}{y:α}(hy:l[i]? =some y)(hp:p y=true):(l.drop i).find? p=some y:=by
 have hlt:=Qe hy
 rw[List.drop_eq_getElem_cons hlt,List.find?_cons]
 have e:l[i]=y:=by rw[List.getElem?_eq_getElem hlt] at hy;exact Option.some.inj hy
 rw[e,hp]
theorem z0z{α:Type}{l:List α}{p:α->Bool}{i:Nat}{y:α}(hy:l[i]? =some y)(hp:p y=false):(l.drop i).find? p=(l.drop (i+1)).find? p:=by
 have hlt:=Qe hy
 rw[List.drop_eq_getElem_cons hlt,List.find?_cons]
 have e:l[i]=y:=by rw[List.getElem?_eq_getElem hlt] at hy;exact Option.some.inj hy
 rw[e,hp]
theorem srch{α:Type}{l:List α}(p:α->Bool){G:Int->α->(Int->Prop)->Prop}{B:Prop}(hl:l.length<=1000000000)(hB:l.find? p=none->B)
  (hG: ∀(i:Nat) y Y,l[i]? =some y->i<l.length->(p y=true->l.find? p=some y)->(p y=false->InI ((i:Int)+1)/\Y ((i:Int)+1))->G (i:Int) y Y):
  Lp1 (fun x Y=>Cnd (x<(l.length:Int)) ((0<=x/\x<(l.length:Int))/\ ∀y,l[x.toNat]? =some y->G x y Y) B) 0:=by
 refine Lp1.ind (fun i=> ∃j:Nat,i=(j:Int)/\j<=l.length/\l.find? p=(l.drop j).find? p) (fun i=>(l.length - i).toNat) ?_ ⟨0,rfl,by omega,rfl⟩
 rintro i ⟨j,rfl,hj,hf⟩
 refine Cnd.mk (fun hc=>⟨by omega,fun y hy=> ?_⟩) fun hc=> ?_
 ·have hy:l[j]? =some y:=hy
  refine hG j y _ hy (by omega) (fun hp=>by rw[hf,z6b hy hp]) fun hp=>⟨by unfold InI;omega,⟨j+1,by omega,by omega,by rw[hf,z0z hy hp]⟩,by omega⟩
 ·refine hB ?_
  rw[hf,List.drop_eq_nil_of_le (by omega)];rfl
theorem y9q{α:Type}{l:List α}(p:α->Bool){G:Int->α->(Int->Prop)->Prop}{B:Prop}(hl:l.length<=1000000000)(hB:l.find? p=none->B)
  (hG: ∀(i:Nat) y Y,l[i]? =some y->i<l.length->(p y=true->l.find? p=some y)->(p y=false->InI ((i:Int)+1)/\Y ((i:Int)+1))->G (i:Int) y Y):
  Lp1 (fun x Y=>l.length<=(9223372036854775807:Nat)->Cnd (x<(l.length:Int)) ((0<=x/\x<(l.length:Int))/\ ∀y,l[x.toNat]? =some y->G x y Y) B) 0:=by
 refine Lp1.ind (fun i=> ∃j:Nat,i=(j:Int)/\j<=l.length/\l.find? p=(l.drop j).find? p) (fun i=>(l.length - i).toNat) ?_ ⟨0,rfl,by omega,rfl⟩
 rintro i ⟨j,rfl,hj,hf⟩ _
 refine Cnd.mk (fun hc=>⟨by omega,fun y hy=> ?_⟩) fun hc=> ?_
 ·have hy:l[j]? =some y:=hy
  refine hG j y _ hy (by omega) (fun hp=>by rw[hf,z6b hy hp]) fun hp=>⟨by unfold InI;omega,⟨j+1,by omega,by omega,by rw[hf,z0z hy hp]⟩,by omega⟩
 ·refine hB ?_
  rw[hf,List.drop_eq_nil_of_le (by omega)];rfl
theorem y1q(l:List Seg)(s:Subj): ∃r:List ByteArray,∀m,MemS l s m->m=r:=by
 rcases Classical.em (∃m,MemS l s m) with ⟨m,hm⟩|hn
 ·exact⟨m,fun m' h=>h.uniq hm⟩
 ·exact⟨[],fun m h=>absurd ⟨m,h⟩ hn⟩
def mem(l:List Seg)(s:Subj):List ByteArray:=Classical.choose (y1q l s)
theorem y1r{l:List Seg}{s:Subj}{m:List ByteArray}(h:MemS l s m):m=mem l s:=Classical.choose_spec (y1q l s) m h
structure AsB(v:Envt):Prop where
 ln:v.5.length<=1000
 xn:v.6.length<=1000
 sg:SegB v.3
 ex: ∀x∈v.6,wt x.8<=2000000/\EvB x.8
 sa:v.1.1.size<=10000000
 ls: ∀l∈v.5,l.3.size<=10000000
 xs: ∀x∈v.6,x.4.size<=10000000
 cl: ∀x∈v.6,x.6.length<=1000000/\x.7.length<=1000000
 nd:(v.6.map Exper.key).Nodup
abbrev noT:ByteArray:=ByteArray.mk (Array.mk [])
def y0a(v:Envt)(s:Subj):Bool:=
 match fnd s v.1.2 with
 |some c=>decide (0<v.1.3) && decide (ofV v.1.1 c.2<v.1.3)
 |none=>false
def xof(v:Envt)(key:ByteArray):Option Exper:=v.6.find? fun x=>decide (x.1=key)
def cndV(v:Envt)(s:Subj)(e:Ex):Bool:=evl (tst s) (fun x=>dec (x∈mem v.3 s)) e
def v2z(v:Envt)(s:Subj)(key:ByteArray):Bool:=
 match xof v key with
 |some x=>cndV v s x.8
 |none=>false
def y0b(l:List Rng)(b:Int):Int:=((l.find? fun r=>decide (r.1<=b) && decide (b<r.2)).map Rng.variation).getD 0
def insV(l:List Spn)(b:Int):Bool:=(l.find? fun r=>decide (r.1<=b) && decide (b<r.2)).isSome
def armV(l:List Rng)(a:Int):Bool:=(l.find? fun r=>decide (r.3=a)).isSome
def frcV(l:List Frc)(key:ByteArray):Option Frc:=l.find? fun f=>decide (f.1=key)
def runV(v:Envt)(f:Frc):Bool:=(v.6.find? fun x=>decide (x.1=f.2) && (decide (x.2=f.1) && (decide (x.5=2) && armV x.7 f.3))).isSome
def fcdV(v:Envt)(l:List Frc)(key:ByteArray):Option (ByteArray×Int):=
 match frcV l key with
 |some f=>if f.2=noT then some (noT,0) else if runV v f=true then some (f.2,f.3) else none
 |none=>none
def hitV(v:Envt)(s:Subj)(key:ByteArray)(b:Int):Option Exper:=v.6.find? fun x=>decide (x.2=key) && (decide (x.5=2) && (insV x.6 b && v2z v s x.1))
def bktV(l:Lay_)(s:Subj):Int:=
 match fnd s l.2 with
 |some c=>ofV l.3 c.2
 |none=> -1
def layV(v:Envt)(s:Subj)(l:Lay_)(fs:List Frc)(key:ByteArray):Asg:=
 match fcdV v fs key with
 |some q=>Asg.mk key q.1 (bktV l s) q.2 false
 |none=>if y0a v s=true∨(fnd s l.2).isSome=true/\bktV l s<l.4 then Asg.mk key noT (bktV l s) 0 true else
  match fnd s l.2 with
  |none=>Asg.mk key noT (bktV l s) 0 false
  |some c=>match hitV v s key (bktV l s) with
   |some x=>Asg.mk key x.1 (bktV l s) (y0b x.7 (ofV x.4 c.2)) false
   |none=>Asg.mk key noT (bktV l s) 0 false
def lof(v:Envt)(key:ByteArray):Option Lay_:=v.5.find? fun l=>decide (l.1=key)
def asgV(v:Envt)(s:Subj)(fs:List Frc)(key:ByteArray):Asg×Int:=
 match lof v key with
 |some l=>(layV v s l fs key,0)
 |none=>(Asg.mk noT noT 0 0 false,11)
theorem w3y{s:Subj}(hs:SubB s){k:ByteArray}{c:Ctxt}(h:fnd s k=some c):c.2.size<=10000000:=by
 have:=hs.k c (List.mem_of_find?_eq_some h);omega
theorem z00{a b:Bool}(h:a=false∨b=false):(a && b)=false:=by rcases h with h|h<;>simp[h]
theorem w9c{a b:Bool}(h:a=true)(k:b=true):(a && b)=true:=by simp[h,k]
theorem dt{p:Prop}[Decidable p](h:p):decide p=true:=decide_eq_true h
theorem df{p:Prop}[Decidable p](h: ¬p):decide p=false:=decide_eq_false h
theorem j9q{v:Envt}{s:Subj}{K:Bool->Prop}(hv:AsB v)(hs:SubB s)(h:K (y0a v s)):q5w v s K:=by
 unfold q5w z10
 unfold y0a at h
 refine Cnd.mk (fun hc=> ?_) fun hc=>Hi hs ?_
 ·rw[decide_eq_false (show ¬0<v.1.3 by omega)] at h
  split at h<;>exact h
 ·cases hf:fnd s v.1.2 with
  |none=>rw[hf] at h;exact Cnd.mk (fun hb=>by simp at hb) fun _=>h
  |some c=>
   rw[hf] at h
   refine Cnd.mk (fun _=>q4i hv.sa (w3y hs hf) ?_) fun hn=>absurd rfl hn
   rw[decide_eq_true (show 0<v.1.3 by omega)] at h
   exact h
theorem j4k{l:List Frc}{key:ByteArray}{K:Frc->Bool->Prop}(hl:l.length<=1000000000)(h:K ((frcV l key).getD (Frc.mk noT noT 0)) (frcV l key).isSome):q1g l key K:=by
 unfold q1g
 unfold frcV at h
 refine fun _=>Lp4.ind (fun i _ _ _=> ∃j:Nat,i=(j:Int)/\j<=l.length/\(l.find? fun f=>decide (f.1=key))=(l.drop j).find? fun f=>decide (f.1=key)) (fun i _ _ _=>(l.length - i).toNat) ?_ ⟨0,rfl,by omega,rfl⟩
 rintro i _ _ _ ⟨j,rfl,hj,hf⟩
 refine Cnd.mk (fun hc=>⟨by omega,fun y hy=> ?_⟩) fun hc=> ?_
 ·have hy:l[j]? =some y:=hy
  refine Cnd.mk (fun he=> ?_) fun he=>⟨by unfold InI;omega,⟨j+1,by omega,by omega,by rw[hf,z0z hy (df he)]⟩,by omega⟩
  rw[hf,z6b hy (dt he)] at h;exact h
 ·rw[hf,List.drop_eq_nil_of_le (by omega)] at h;exact h
theorem j9r{v:Envt}{f:Frc}{K:Bool->Prop}(hv:AsB v)(h:K (runV v f)):q5v v f K:=by
 unfold q5v
 unfold runV at h
 have hn:=hv.xn
 refine fun _=>srch (fun x=>decide (x.1=f.2) && (decide (x.2=f.1) && (decide (x.5=2) && armV x.7 f.3))) (by omega) (fun hf=>by rw[hf] at h;exact h) fun i y Y hy _ hp hq=> ?_
 refine Cnd.mk (fun h1=>Cnd.mk (fun h2=>Cnd.mk (fun h3 _=> ?_) fun h3=>hq (z00 (.inr (z00 (.inr (z00 (.inl (df h3)))))))) fun h2=>hq (z00 (.inr (z00 (.inl (df h2)))))) fun h1=>hq (z00 (.inl (df h1)))
 refine srch (fun r=>decide (r.3=f.3)) (by have:=(hv.cl y (getm hy)).2;omega) (fun hf=>Cnd.mk (fun hb=>absurd hb (by decide)) fun _=>hq (z00 (.inr (z00 (.inr (z00 (.inr (by unfold armV;rw[hf];rfl)))))))) fun k r Z hr _ hp2 hq2=>Cnd.mk (fun he=>Cnd.mk (fun _=> ?_) fun hb=>absurd (Int.natCast_nonneg k) hb) fun he=>hq2 (df he)
 have ha:armV y.7 f.3=true:=by unfold armV;rw[hp2 (dt he)];rfl
 rw[hp (w9c (dt h1) (w9c (dt h2) (w9c (dt h3) ha)))] at h
 rw[dt (Int.natCast_nonneg i)]
 exact h
theorem j0x{v:Envt}{s:Subj}{key:ByteArray}{K:Bool->Prop}(hv:AsB v)(hs:SubB s)(h:K (v2z v s key)):H0 v s key K:=by
 unfold H0 q2z
 unfold v2z xof at h
 have hn:=hv.xn
 refine fun _=>srch (fun x=>decide (x.1=key)) (by omega) (fun hf=>by rw[hf] at h;exact h) fun i y Y hy _ hp hq=>Cnd.mk (fun he=> ?_) fun he=>hq (df he)
 refine q85 hv.sg hs fun m hm=> ?_
 obtain⟨h1,h2⟩:=hv.ex y (getm hy)
 refine q91 hs _ (Nat.le_refl _) (by rw[Jl];exact h1) (by rw[Jl];exact h2) ?_
 rw[hp (dt he)] at h
 rw[Jl,y1r hm]
 exact h
theorem z7d{l:List Rng}{b:Int}{K:Int->Prop}(hl:l.length<=1000000)(h:K (y0b l b)):q1i l b K:=by
 unfold q1i
 unfold y0b at h
 refine fun _=>srch (fun r=>decide (r.1<=b) && decide (b<r.2)) (by omega) (fun hf=>by rw[hf] at h;exact h) fun i y Y hy _ hp hq=>Cnd.mk (fun h1=>Cnd.mk (fun h2=> ?_) fun h2=>hq (z00 (.inr (df h2)))) fun h1=>hq (z00 (.inl (df h1)))
 rw[hp (w9c (dt h1) (dt h2))] at h;exact h
theorem j8m{v:Envt}{s:Subj}{fs:List Frc}{key:ByteArray}{K:Asg->Int->Prop}(hv:AsB v)(hs:SubB s)(hf:fs.length<=1000000000)(h:K (asgV v s fs key).1 (asgV v s fs key).2):Gh v s fs key K:=by
 unfold Gh q9q
 have hln:=hv.ln
 have hxn:=hv.xn
 refine Jn1.mk (fun i=>(lof v key=none/\i<0)∨ ∃(j:Nat) (l:Lay_),i=(j:Int)/\v.5[j]? =some l/\lof v key=some l) ?_ ?_
 ·refine fun _=>srch (fun l:Lay_=>decide (l.1=key)) (by omega) (fun hn=> .inl ⟨hn,by decide⟩) fun i y Y hy _ hp hq=>Cnd.mk (fun he=> .inr ⟨i,y,rfl,hy,hp (dt he)⟩) fun he=>hq (df he)
 ·rintro i (⟨hn,hi⟩|⟨j,l,rfl,hl,hlo⟩)
  ·refine Cnd.mk (fun _=> ?_) fun hc=>absurd hi hc
   unfold asgV at h;rw[hn] at h;exact h
  refine Cnd.mk (fun hc=>by omega) fun _=>⟨by have:=Qe hl;omega,fun y1 hy1=> ?_⟩
  have hy1:v.5[j]? =some y1:=hy1
  rw[hl] at hy1;cases hy1
  unfold asgV at h;rw[hlo] at h
  change K (layV v s l fs key) 0 at h
  refine Hi hs (Jn1.mk (fun b=>b=bktV l s) ?_ ?_)
  ·unfold bktV
   cases hc:fnd s l.2 with
   |none=>exact Cnd.mk (fun hb=>by simp at hb) fun _=>rfl
   |some c=>exact Cnd.mk (fun _=>q4i (hv.ls l (getm hl)) (w3y hs hc) rfl) fun hb=>absurd rfl hb
  rintro b rfl
  refine j4k hf (Jn1.mk (fun q=>(q=true-> ∃f,frcV fs key=some f/\fcdV v fs key=some (if f.2=noT then (noT,0) else (f.2,f.3)))/\(q=false->fcdV v fs key=none)) ?_ ?_)
  ·unfold fcdV
   cases hc:frcV fs key with
   |none=>exact Cnd.mk (fun hb=>by simp at hb) fun _=>⟨fun hb=>by simp at hb,fun _=>rfl⟩
   |some f=>
    refine Cnd.mk (fun _=>Cnd.mk (fun he=>⟨fun _=>⟨f,rfl,?_⟩,fun hb=>by simp at hb⟩) fun he=>j9r hv ⟨fun hb=>⟨f,rfl,?_⟩,fun hb=> ?_⟩) fun hb=>absurd rfl hb
    ·have he:f.2=noT:=he
     simp only[he,if_true]
    ·have he: ¬f.2=noT:=he
     have hb:runV v f=true:=hb
     simp only[if_neg he]
     rw[if_pos hb]
    ·have he: ¬f.2=noT:=he
     have hb:runV v f=false:=hb
     simp only[if_neg he]
     rw[if_neg (by rw[hb];simp)]
  intro q hq
  unfold layV at h
  refine Cnd.mk (fun hb=> ?_) fun hb=> ?_
  ·obtain⟨f,hf1,hf2⟩:=hq.1 hb
   rw[hf2] at h
   rw[hf1]
   refine Cnd.mk (fun he=> ?_) fun he=> ?_
   ·have he:f.2=noT:=he
    rw[if_pos he] at h;exact h
   ·have he: ¬f.2=noT:=he
    rw[if_neg he] at h;exact h
  have hnone:=hq.2 (by simpa using hb)
  rw[hnone] at h
  simp only at h
  refine Jn1.mk (fun q=>q=true↔(y0a v s=true∨(fnd s l.2).isSome=true/\bktV l s<l.4)) ?_ ?_
  ·refine j9q hv hs (Cnd.mk (fun h1=>⟨fun _=> .inl h1,fun _=>rfl⟩) fun h1=>Cnd.mk (fun h2=>⟨fun h3=> .inr ⟨h2,of_decide_eq_true h3⟩,fun h3=>dt (h3.resolve_left h1).2⟩) fun h2=>⟨fun h3=>by simp at h3,fun h3=>absurd (h3.resolve_left h1).1 h2⟩)
  intro q hq
  refine Cnd.mk (fun hb=> ?_) fun hb=> ?_
  ·rw[if_pos (hq.1 hb)] at h;exact h
  rw[if_neg (fun k=>hb (hq.2 k))] at h
  cases hc:fnd s l.2 with
  |none=>
   rw[hc] at h
   exact Cnd.mk (fun hb=>by simp at hb) fun _=>h
  |some c=>
   rw[hc] at h
   simp only at h
   refine Cnd.mk (fun _ _=> ?_) fun hb=>absurd rfl hb
   unfold hitV at h
   refine Lp3.ind (fun i e a=> ∃j:Nat,i=(j:Int)/\j<=v.6.length/\e=noT/\a=0/\(v.6.find? fun x=>decide (x.2=key) && (decide (x.5=2) && (insV x.6 (bktV l s) && v2z v s x.1)))=(v.6.drop j).find? fun x=>decide (x.2=key) && (decide (x.5=2) && (insV x.6 (bktV l s) && v2z v s x.1))) (fun i _ _=>(v.6.length - i).toNat) ?_ ⟨0,rfl,by omega,rfl,rfl,rfl⟩
   rintro i e a ⟨k,rfl,hk,rfl,rfl,hfd⟩
   refine Cnd.mk (fun hlt=>⟨by omega,fun x hx=> ?_⟩) fun hlt=> ?_
   ·have hx:v.6[k]? =some x:=hx
    refine Jn1.mk (fun q=>q=insV x.6 (bktV l s)) ?_ ?_
    ·unfold insV
     refine fun _=>srch (fun r=>decide (r.1<=bktV l s) && decide (bktV l s<r.2)) (by have:=(hv.cl x (getm hx)).1;omega) (fun hn=>by rw[hn];rfl) fun i y Y hy _ hp hq=>Cnd.mk (fun h1=>Cnd.mk (fun h2=> ?_) fun h2=>hq (z00 (.inr (df h2)))) fun h1=>hq (z00 (.inl (df h1)))
     rw[hp (w9c (dt h1) (dt h2)),dt (Int.natCast_nonneg i)];rfl
    rintro q rfl
    refine Jn1.mk (fun q=>q=(decide (x.2=key) && (decide (x.5=2) && (insV x.6 (bktV l s) && v2z v s x.1)))) ?_ ?_
    ·refine Cnd.mk (fun h1=>Cnd.mk (fun h2=>Cnd.mk (fun h3=>j0x hv hs ?_) fun h3=> ?_) fun h2=> ?_) fun h1=> ?_
     ·rw[dt h1,dt h2,h3];rfl
     ·rw[Bool.eq_false_iff.2 h3];simp
     ·rw[df h2];simp
     ·rw[df h1];simp
    rintro q rfl
    refine Cnd.mk (fun ht=> ?_) fun ht=>⟨by unfold InI;omega,⟨k+1,by omega,by omega,rfl,rfl,by rw[hfd,z0z hx (Bool.eq_false_iff.2 ht)]⟩,by omega⟩
    refine q4i (hv.xs x (getm hx)) (w3y hs hc) (z7d (hv.cl x (getm hx)).2 ?_)
    rw[hfd,z6b hx ht] at h
    exact h
   ·rw[hfd,List.drop_eq_nil_of_le (by omega)] at h
    exact h
end Go.En
end
noncomputable section
set_option maxRecDepth 100000
namespace Go.En
open Go Go.Fl Go.Fl.Lk Go.Fx
theorem B3{s:ByteArray}{K:Bool->Prop}(h: ∀r,K r):Gg s K:=by
 unfold Gg j1x
 refine Cnd.mk (fun _=>h _) fun hs=>⟨by omega,Cnd.mk (fun _=> ?_) fun _=>h _⟩
 refine Lp1.ind (fun (i:Int)=>0<=i/\i<=s.size) (fun (i:Int)=>(s.size - i).toNat) ?_ ⟨by omega,by omega⟩
 rintro i ⟨i0,i1⟩
 (repeat' (first|exact h _|assumption|(unfold InI;omega)|omega|refine Cnd.mk (fun _=> ?_) fun _=> ?_|refine⟨?_,?_⟩|intro _))
theorem j9s{K:List ByteArray->Prop}(h: ∀l:List ByteArray,l.length<=100->K l):q5l K:=by
 unfold q5l
 exact h _ (by decide)
theorem Gb{s:ByteArray}{K:Bool->Prop}(hs:s.size<=1000)(h: ∀r,K r):Gk s K:=by
 unfold Gk w1s
 refine v2u hs fun r=>Cnd.mk (fun _=>Cnd.mk (fun _=>h _) fun _=>j9s fun l hl=> ?_) fun _=>h _
 refine Lp1.ind (fun (i:Int)=>0<=i/\i<=l.length) (fun (i:Int)=>(l.length - i).toNat) ?_ ⟨by omega,by omega⟩
 rintro i ⟨i0,i1⟩
 (repeat' (first|exact h _|assumption|(unfold InI;omega)|omega|refine Cnd.mk (fun _=> ?_) fun _=> ?_|refine⟨?_,?_⟩|intro _))
theorem j9t{s:Sett}{K:Int->Prop}(hs:s.holdoutKind.size<=1000)(h: ∀r,K r):q5m s K:=by
 unfold q5m z1j
 (repeat' (first|exact h _|refine B3 fun _=> ?_|refine Gb hs fun _=> ?_|assumption|(unfold InI;omega)|omega|refine Cnd.mk (fun _=> ?_) fun _=> ?_|refine⟨?_,?_⟩|intro _))
theorem j9u{l:List Decl}{K:Int->Prop}(hl: ∀d∈l,d.kind.size<=1000/\d.name.size<=1000)(h: ∀r,K r):q5n l K:=by
 unfold q5n z1k
 refine fun _=>Cnd.mk (fun _=>h _) fun _=> ?_
 refine Lp1.ind (fun (i:Int)=>0<=i/\i<=l.length) (fun (i:Int)=>(l.length - i).toNat) ?_ ⟨by omega,by omega⟩
 rintro i ⟨i0,i1⟩ _
 refine Cnd.mk (fun hc=>⟨by omega,fun y hy=>Gb (hl y (getm hy)).1 fun _=>Cnd.mk (fun _=>⟨by omega,fun y hy=>Gb (hl y (getm hy)).2 fun _=> ?_⟩) fun _=>h _⟩) fun _=>h _
 (repeat' (first|exact h _|assumption|(unfold InI;omega)|omega|refine Cnd.mk (fun _=> ?_) fun _=> ?_|refine⟨?_,?_⟩|intro _))
theorem j0y{l:List ByteArray}{K:Int->Prop}(h: ∀r,K r):q37 l K:=by
 unfold q37 z3y
 refine fun _=>Cnd.mk (fun _=>h _) fun _=> ?_
 refine Lp1.ind (fun (i:Int)=>0<=i/\i<=l.length) (fun (i:Int)=>(l.length - i).toNat) ?_ ⟨by omega,by omega⟩
 rintro i ⟨i0,i1⟩
 (repeat' (first|exact h _|refine B3 fun _=> ?_|assumption|(unfold InI;omega)|omega|refine Cnd.mk (fun _=> ?_) fun _=> ?_|refine⟨?_,?_⟩|intro _))
theorem v22{l:List ByteArray}{K:Int->Prop}(h: ∀r,K r):z9x l K:=by
 unfold z9x j6k
 refine fun _=>Cnd.mk (fun _=>h _) fun _=> ?_
 refine Lp1.ind (fun (i:Int)=>0<=i/\i<=l.length) (fun (i:Int)=>(l.length - i).toNat) ?_ ⟨by omega,by omega⟩
 rintro i ⟨i0,i1⟩ _
 refine Cnd.mk (fun hc=>⟨by omega,fun y hy=>B3 fun _=>Cnd.mk (fun _=>⟨by unfold InI;omega,⟨by omega,by omega⟩,by omega⟩) fun _=>h _⟩) fun _=> ?_
 refine Lp1.ind (fun (i:Int)=>1<=i/\i<=l.length+1) (fun (i:Int)=>(l.length+1 - i).toNat) ?_ ⟨by omega,by omega⟩
 rintro i ⟨i0,i1⟩
 (repeat' (first|exact h _|assumption|(unfold InI;omega)|omega|refine Cnd.mk (fun _=> ?_) fun _=> ?_|refine⟨?_,?_⟩|intro _))
theorem w9d{s:ByteArray}{K:A3->Bool->Prop}(hs:s.size<=1000)(h: ∀a r,K a r):z5t s K:=by
 unfold z5t j1y
 refine LpH.ind (fun x=>0<=x.1/\0<=x.2.1/\x.2.1<=3/\(x.2.1<3->x.1<=(s.size:Int))) (fun x=>(3 - x.2.1).toNat) ?_ ⟨by simp,by simp,by simp,by simp⟩
 rintro⟨a,i,x⟩ ⟨a0,i0,i1,a1⟩
 simp only at a0 a1 i0 i1⊢
 refine Cnd.mk (fun hc=> ?_) fun _=>h _ _
 have a1:=a1 hc
 have sz: ∀j:Int,(s.extract a.toNat j.toNat).size<=1000:=fun j=>by rw[ByteArray.size_extract];omega
 refine Lp1.ind (fun (j:Int)=>a<=j/\j<=s.size) (fun (j:Int)=>(s.size - j).toNat) ?_ ⟨by omega,by omega⟩
 rintro j ⟨j0,j1⟩
 (repeat' (first|exact h _ _|exact trivial|refine j2z (sz _) fun _ _ _ _ _=> ?_|(intro _;simp only[decide_eq_decide] at*;omega)|assumption|(unfold InI;omega)|omega|refine Cnd.mk (fun _=> ?_) fun _=> ?_|refine⟨?_,?_⟩|intro _))
theorem j8n{v:Val}{K:Int->Prop}(hv:v.text.size<=1000)(h: ∀r,K r):z0g v K:=by
 unfold z0g j1z
 (repeat' (first|exact h _|refine w82 fun _=> ?_|refine B3 fun _=> ?_|refine w9d hv fun _ _=> ?_|refine v22 fun _=> ?_|assumption|(unfold InI;omega)|omega|refine Cnd.mk (fun _=> ?_) fun _=> ?_|refine⟨?_,?_⟩|intro _))
theorem v23{n:Nat}{e:Ex}{K:Int->Prop}(he:ExS n e)(h: ∀r,K r):z0h e K:=by
 unfold z0h j6l
 have hv: ∀v∈e.values,v.text.size<=1000:=fun v hv=>by have:=(he.vals.all v hv).txt;omega
 have hn:=he.nm
 have hk:=he.kd
 rw[Jl]
 refine Cnd.mk (fun _=>h _) fun _=>Cnd.mk (fun _=>h _) fun _=>w6f fun r hr=>Cnd.mk (fun hc=> ?_) fun _=>h _
 have hne:=hr hc
 have z:e.op=9∨e.op=10∨e.op=11->(0:Int)<(e.values.length:Int):=fun ho=>by
  have:=List.length_pos_iff.2 (hne (by omega) (by omega));omega
 (repeat' (first|exact h _|refine q4j fun _ _=> ?_|refine Gb (by omega) fun _=> ?_|(refine j8n (hv _ (getm (by assumption))) fun _=> ?_)|(refine Lp1.ind (fun (i:Int)=>0<=i/\i<=e.kids.length+e.values.length) (fun (i:Int)=>(e.kids.length+e.values.length - i).toNat) (fun i hi=> ?_) ⟨by omega,by omega⟩)|assumption|(unfold InI;omega)|omega|refine Cnd.mk (fun _=> ?_) fun _=> ?_|refine⟨?_,?_⟩|intro _))
theorem v25: ∀(n:Nat) {e:Ex} {d m:Int} {K:Int->Int->Prop},ExS n e->0<=d->d<=11->0<=m->(∀r m,0<=m->K r m)->z9z e d m K:=by
 intro n e d m K he d0 d1 m0 h X hX
 induction n using Nat.strongRecOn generalizing e d m K with
 |_ n ih=>
 refine hX _ _ _ _ ?_
 unfold j6m
 rw[Jl]
 refine Cnd.mk (fun _=>h _ _ m0) fun _=>⟨by unfold InI;omega,Cnd.mk (fun _=>h _ _ (by omega)) fun _=>v23 he fun _=>Cnd.mk (fun _=> ?_) fun _=>h _ _ (by omega)⟩
 refine Lp2.ind (fun (i m:Int)=>0<=i/\i<=e.kids.length/\0<=m) (fun (i _:Int)=>(e.kids.length - i).toNat) ?_ ⟨by omega,by omega,by omega⟩
 rintro i m ⟨i0,i1,m0⟩ _
 refine Cnd.mk (fun hc=>⟨by omega,fun y hy=>⟨by unfold InI;omega,?_⟩⟩) fun _=>h _ _ m0
 obtain⟨q,hq,hk⟩:=he.kid (getm hy)
 rw[Jl]
 exact ih q (by omega) hk (by omega) (by omega) m0 fun r m m0=>Cnd.mk (fun _=>⟨by unfold InI;omega,⟨by omega,by omega,m0⟩,by omega⟩) fun _=>h _ _ m0
theorem j24{n:Nat}{e:Ex}{K:Int->Prop}(he:ExS n e)(h: ∀r,K r):z0i e K:=by
 unfold z0i j6n
 rw[Jl]
 exact v25 n he (by decide) (by decide) (by decide) fun r _ _=>h r
theorem w3z{g:Seg}{K:Int->Prop}(hg:SegS g)(h: ∀r,K r):q8m g K:=by
 unfold q8m z30
 have h1:=hg.key
 have h2:=hg.kind
 rw[Jl]
 (repeat' (first|exact h _|refine Gb (by omega) fun _=> ?_|refine j0y fun _=> ?_|refine v2v fun _=> ?_|refine j24 hg.cond fun _=> ?_|assumption|(unfold InI;omega)|omega|refine Cnd.mk (fun _=> ?_) fun _=> ?_|refine⟨?_,?_⟩|intro _))
theorem j9v{l:List Seg}{K:Int->Prop}(hl: ∀g∈l,SegS g)(h: ∀r,K r):q5o l K:=by
 unfold q5o z1m
 refine fun _=>Cnd.mk (fun _=>h _) fun _=> ?_
 refine Lp1.ind (fun (i:Int)=>0<=i/\i<=l.length) (fun (i:Int)=>(l.length - i).toNat) ?_ ⟨by omega,by omega⟩
 rintro i ⟨i0,i1⟩ _
 refine Cnd.mk (fun hc=>⟨by omega,fun y hy=> ?_⟩) fun _=>h _
 dsimp only;rw[Jl]
 refine w3z (hl y (getm hy)) fun _=> ?_
 (repeat' (first|exact h _|assumption|(unfold InI;omega)|omega|refine Cnd.mk (fun _=> ?_) fun _=> ?_|refine⟨?_,?_⟩|intro _))
theorem j4l{f:Flg}{K:Int->Prop}(hf: ∀v∈f.variations,ValS v)(h: ∀r,K r):q0v f K:=by
 unfold q0v q69
 have hv: ∀v∈f.variations,v.text.size<=1000:=fun v hv=>by have:=(hf v hv).txt;omega
 (repeat' (first|exact h _|(refine j8n (hv _ (getm (by assumption))) fun _=> ?_)|(refine Lp1.ind (fun (i:Int)=>0<=i/\i<=f.variations.length) (fun (i:Int)=>(f.variations.length - i).toNat) (fun i hi=> ?_) ⟨by omega,by omega⟩)|assumption|(unfold InI;omega)|omega|refine Cnd.mk (fun _=> ?_) fun _=> ?_|refine⟨?_,?_⟩|intro _))
theorem z8y{l:List Prq}{K:Int->Prop}(hl: ∀q∈l,q.flag.size<=100)(h: ∀r,K r):Gl l K:=by
 unfold Gl q0w
 refine fun _=>Cnd.mk (fun _=>h _) fun _=> ?_
 refine Lp1.ind (fun (i:Int)=>0<=i/\i<=l.length) (fun (i:Int)=>(l.length - i).toNat) ?_ ⟨by omega,by omega⟩
 rintro i ⟨i0,i1⟩ _
 refine Cnd.mk (fun hc=>⟨by omega,fun y hy=>Gb (by have:=hl y (getm hy);omega) fun _=> ?_⟩) fun _=>h _
 (repeat' (first|exact h _|assumption|(unfold InI;omega)|omega|refine Cnd.mk (fun _=> ?_) fun _=> ?_|refine⟨?_,?_⟩|intro _))
theorem w30{l:List Tgt}{n:Int}{K:Int->Prop}(hl: ∀t∈l,t.kind.size<=100)(h: ∀r,K r):q8n l n K:=by
 unfold q8n z32
 refine fun _=>Cnd.mk (fun _=>h _) fun _=> ?_
 refine Lp1.ind (fun (i:Int)=>0<=i/\i<=l.length) (fun (i:Int)=>(l.length - i).toNat) ?_ ⟨by omega,by omega⟩
 rintro i ⟨i0,i1⟩ _
 refine Cnd.mk (fun hc=>⟨by omega,fun y hy=>Gb (by have:=hl y (getm hy);omega) fun _=> ?_⟩) fun _=>h _
 (repeat' (first|exact h _|refine j0y fun _=> ?_|assumption|(unfold InI;omega)|omega|refine Cnd.mk (fun _=> ?_) fun _=> ?_|refine⟨?_,?_⟩|intro _))
theorem j8o{m n:Int}{s:Srv}{K:Int->Prop}(hs:SrvS m s)(h: ∀r,K r):z0k s n K:=by
 unfold z0k j10
 have h1:=hs.kind
 have h2:=hs.by_
 (repeat' (first|exact h _|refine Gb (by omega) fun _=> ?_|refine B3 fun _=> ?_|refine j79 fun _ _ _=> ?_|assumption|(unfold InI;omega)|omega|refine Cnd.mk (fun _=> ?_) fun _=> ?_|refine⟨?_,?_⟩|intro _))
theorem w9e{m n:Int}{l:List Rul}{K:Int->Prop}(hl: ∀r∈l,RulS m r)(h: ∀r,K r):z5u l n K:=by
 unfold z5u j11
 refine fun _=>Cnd.mk (fun _=>h _) fun _=> ?_
 refine Lp1.ind (fun (i:Int)=>0<=i/\i<=l.length) (fun (i:Int)=>(l.length - i).toNat) ?_ ⟨by omega,by omega⟩
 rintro i ⟨i0,i1⟩ _
 refine Cnd.mk (fun hc=>⟨by omega,fun y hy=>Gb (by have:=(hl y (getm hy)).name;omega) fun _=>Cnd.mk (fun _=> ?_) fun _=>h _⟩) fun _=>h _
 refine Lp1.ind (fun (j:Int)=>0<=j/\j<=i) (fun (j:Int)=>(i - j).toNat) ?_ ⟨by omega,by omega⟩
 rintro j ⟨j0,j1⟩
 refine Cnd.mk (fun hc=>⟨by omega,fun y hy=>⟨by omega,fun z hz=>Cnd.mk (fun _=>h _) fun _=>⟨by unfold InI;omega,⟨by omega,by omega⟩,by omega⟩⟩⟩) fun _=>⟨by omega,fun y hy=> ?_⟩
 dsimp only;rw[Jl]
 refine j24 (hl y (getm hy)).cond fun _=>Cnd.mk (fun _=>⟨by omega,fun z hz=>j8o (hl z (getm hz)).serve fun _=> ?_⟩) fun _=>h _
 (repeat' (first|exact h _|assumption|(unfold InI;omega)|omega|refine Cnd.mk (fun _=> ?_) fun _=> ?_|refine⟨?_,?_⟩|intro _))
theorem v27{f:Flg}{K:Int->Prop}(hf:FlgS f)(h: ∀r,K r):z90 f K:=by
 unfold z90 j6o
 have h1:=hf.key
 (repeat' (first|exact h _|refine Gb (by omega) fun _=> ?_|refine j4l hf.vals fun _=> ?_|refine z8y hf.needs fun _=> ?_|refine w30 hf.tgts fun _=> ?_|refine w9e hf.rules fun _=> ?_|refine j8o hf.dflt fun _=> ?_|assumption|(unfold InI;omega)|omega|refine Cnd.mk (fun _=> ?_) fun _=> ?_|refine⟨?_,?_⟩|intro _))
theorem w9f{l:List Flg}{K:Int->Prop}(hl: ∀f∈l,FlgS f)(h: ∀r,K r):z5v l K:=by
 unfold z5v j12
 refine fun _=>Cnd.mk (fun _=>h _) fun _=> ?_
 refine Lp1.ind (fun (i:Int)=>0<=i/\i<=l.length) (fun (i:Int)=>(l.length - i).toNat) ?_ ⟨by omega,by omega⟩
 rintro i ⟨i0,i1⟩ _
 refine Cnd.mk (fun hc=>⟨by omega,fun y hy=>v27 (hl y (getm hy)) fun _=> ?_⟩) fun _=>h _
 (repeat' (first|exact h _|assumption|(unfold InI;omega)|omega|refine Cnd.mk (fun _=> ?_) fun _=> ?_|refine⟨?_,?_⟩|intro _))
theorem w9g{l:Lay_}{K:Int->Prop}(hl:LayS l)(h: ∀r,K r):z5w l K:=by
 unfold z5w j13
 have h1:=hl.key
 have h2:=hl.kind
 (repeat' (first|exact h _|refine Gb (by omega) fun _=> ?_|refine B3 fun _=> ?_|(refine Lp1.ind (fun (i:Int)=>0<=i/\i<=l.cooling.length) (fun (i:Int)=>(l.cooling.length - i).toNat) (fun i hi=> ?_) ⟨by omega,by omega⟩)|assumption|(unfold InI;omega)|omega|refine Cnd.mk (fun _=> ?_) fun _=> ?_|refine⟨?_,?_⟩|intro _))
theorem w6u{l:List Lay_}{K:Int->Prop}(hl: ∀f∈l,LayS f)(h: ∀r,K r):z1n l K:=by
 unfold z1n z7u
 refine fun _=>Cnd.mk (fun _=>h _) fun _=> ?_
 refine Lp1.ind (fun (i:Int)=>0<=i/\i<=l.length) (fun (i:Int)=>(l.length - i).toNat) ?_ ⟨by omega,by omega⟩
 rintro i ⟨i0,i1⟩ _
 refine Cnd.mk (fun hc=>⟨by omega,fun y hy=>w9g (hl y (getm hy)) fun _=> ?_⟩) fun _=>h _
 (repeat' (first|exact h _|assumption|(unfold InI;omega)|omega|refine Cnd.mk (fun _=> ?_) fun _=> ?_|refine⟨?_,?_⟩|intro _))
theorem j4m{x:Exper}{K:Int->Prop}(hx:ExpS x)(h: ∀r,K r):q0x x K:=by
 unfold q0x q7b
 have h1:=hx.key
 have h2:=hx.layer
 have h3:=hx.flag
 rw[Jl]
 (repeat' (first|exact h _|refine Gb (by omega) fun _=> ?_|refine B3 fun _=> ?_|refine w83 fun _ _ _=> ?_|refine j79 fun _ _ _=> ?_|refine j24 hx.cond fun _=> ?_|assumption|(unfold InI;omega)|omega|refine Cnd.mk (fun _=> ?_) fun _=> ?_|refine⟨?_,?_⟩|intro _))
theorem j25{l:List Exper}{K:Int->Prop}(hl: ∀f∈l,ExpS f)(h: ∀r,K r):R8 l K:=by
 unfold R8 q4r
 refine fun _=>Cnd.mk (fun _=>h _) fun _=> ?_
 refine Lp1.ind (fun (i:Int)=>0<=i/\i<=l.length) (fun (i:Int)=>(l.length - i).toNat) ?_ ⟨by omega,by omega⟩
 rintro i ⟨i0,i1⟩ _
 refine Cnd.mk (fun hc=>⟨by omega,fun y hy=> ?_⟩) fun _=>h _
 dsimp only;rw[Jl]
 refine j4m (hl y (getm hy)) fun _=> ?_
 (repeat' (first|exact h _|assumption|(unfold InI;omega)|omega|refine Cnd.mk (fun _=> ?_) fun _=> ?_|refine⟨?_,?_⟩|intro _))
theorem j26{v:Envt}{K:Int->Prop}(hv:EnvS v)(h: ∀r,K r):R9 v K:=by
 unfold R9 q4s
 refine j9t (show v.settings.holdoutKind.size<=1000 by have:=hv.hkind;omega) fun _=>Cnd.mk (fun _=>j9u (fun d hd=>by have:=hv.attrs d hd;omega) fun _=> ?_) fun _=>h _
 (repeat' (first|exact h _|refine j9v hv.segs fun _=> ?_|refine w9f hv.flags fun _=> ?_|refine w6u hv.layers fun _=> ?_|refine j25 hv.exps fun _=> ?_|assumption|(unfold InI;omega)|omega|refine Cnd.mk (fun _=> ?_) fun _=> ?_|refine⟨?_,?_⟩|intro _))
end Go.En
end
noncomputable section
set_option maxRecDepth 100000
namespace Go.Dg
open Go.Fl
abbrev Nd:=Int×Int×Int
def nd(ns:List Nd)(id:Int):Nd:=ns.getD id.toNat (0,0,0)
def top(ns:List Nd)(id:Int):Int:=if id<0 then 1001 else (nd ns id).1
def Ok(ns:List Nd)(id:Int):Prop:= -1002<id/\id<ns.length
def evF(ns:List Nd)(h:Int->Bool):Nat->Int->Int
 |0,id=> -1 - id
 |n+1,id=>if id<0 then -1 - id else evF ns h n (if h (nd ns id).1=true then (nd ns id).2.1 else (nd ns id).2.2)
def ev(ns:List Nd)(h:Int->Bool)(id:Int):Int:=evF ns h (id.toNat+1) id
structure Nod(ns:List Nd):Prop where
 nod: ∀i:Int,0<=i->i<ns.length->0<=(nd ns i).1/\(nd ns i).1<=1000/\ -1002<(nd ns i).2.1/\(nd ns i).2.1<i/\ -1002<(nd ns i).2.2/\(nd ns i).2.2<i/\
  (nd ns i).2.1≠(nd ns i).2.2/\(nd ns i).1<top ns (nd ns i).2.1/\(nd ns i).1<top ns (nd ns i).2.2
 one: ∀i j:Int,0<=i->i<ns.length->0<=j->j<ns.length->nd ns i=nd ns j->i=j
structure Inv(ns:List Nd)(ids:Nd->Option Int):Prop where
 nod:Nod ns
 ids: ∀n (id:Int),ids n=some id↔0<=id/\id<ns.length/\nd ns id=n
theorem q92{ns:List Nd}{h:Int->Bool}{id:Int}(hi:id<0):ev ns h id= -1 - id:=by
 simp[ev,evF,hi]
theorem v00{ns:List Nd}(hN:Nod ns){h:Int->Bool}: ∀(n m:Nat) (id:Int),id<ns.length->id<n->id<m->evF ns h n id=evF ns h m id:=by
 intro n
 induction n with
 |zero=>
  intro m id _ h1 _
  have:id<0:=by omega
  cases m with
  |zero=>rfl
  |succ m=>simp[evF,this]
 |succ n ih=>
  intro m id hl h1 h2
  cases m with
  |zero=>
   have:id<0:=by omega
   simp[evF,this]
  |succ m=>
   simp only[evF]
   by_cases hi:id<0
   ·simp[hi]
   ·simp only[hi,if_false]
    obtain⟨_,_,_,a,_,b,_⟩:=hN.nod id (by omega) hl
    cases ht:h (nd ns id).1 with
    |true=>simp only[if_true];exact ih m _ (by omega) (by omega) (by omega)
    |false=>simp only[Bool.false_eq_true,if_false];exact ih m _ (by omega) (by omega) (by omega)
theorem q8a{ns:List Nd}(hN:Nod ns){h:Int->Bool}{id:Int}(hi:0<=id)(hl:id<ns.length):
  ev ns h id=if h (nd ns id).1=true then ev ns h (nd ns id).2.1 else ev ns h (nd ns id).2.2:=by
 obtain⟨_,_,_,a,_,b,_⟩:=hN.nod id hi hl
 have hn: ¬id<0:=by omega
 show evF ns h (id.toNat+1) id=_
 simp only[evF,hn,if_false]
 cases ht:h (nd ns id).1 with
 |true=>simp only[if_true];exact v00 hN _ _ _ (by omega) (by omega) (by omega)
 |false=>simp only[Bool.false_eq_true,if_false];exact v00 hN _ _ _ (by omega) (by omega) (by omega)
theorem v01{ns:List Nd}(hN:Nod ns){id:Int}(hl:id<ns.length):0<=top ns id/\top ns id<=1001/\(0<=id->top ns id<=1000):=by
 by_cases hi:id<0
 ·simp only[top,hi,if_true];omega
 ·obtain⟨a,b,_⟩:=hN.nod id (by omega) hl
  simp only[top,hi,if_false];omega
theorem ind{ns:List Nd}(hN:Nod ns){p:Int->Prop}(h0: ∀id:Int, -1002<id->id<0->p id)
  (h1: ∀id:Int,0<=id->id<ns.length->p (nd ns id).2.1->p (nd ns id).2.2->p id){id:Int}(hi:Ok ns id):p id:=by
 have key: ∀(k:Nat) (id:Int),id<k->Ok ns id->p id:=by
  intro k
  induction k with
  |zero=>exact fun id hk hi=>h0 id hi.1 hk
  |succ k ih=>
   intro id hk hi
   by_cases hn:id<0
   ·exact h0 id hi.1 hn
   ·obtain⟨_,_,a,b,c,d,_⟩:=hN.nod id (by omega) hi.2
    have:=hi.2
    exact h1 id (by omega) hi.2 (ih _ (by omega) ⟨a,by omega⟩) (ih _ (by omega) ⟨c,by omega⟩)
 exact key (id.toNat+1) id (by omega) hi
theorem y7n{ns:List Nd}(hN:Nod ns){h h':Int->Bool}{id:Int}(hi:Ok ns id):(∀t,top ns id<=t->h t=h' t)->ev ns h id=ev ns h' id:=by
 refine ind hN (p:=fun id=>(∀t,top ns id<=t->h t=h' t)->ev ns h id=ev ns h' id) ?_ ?_ hi
 ·intro id _ hn _
  rw[q92 hn,q92 hn]
 ·intro id hp hl ih1 ih2 he
  obtain⟨_,_,_,_,_,_,_,a,b⟩:=hN.nod id hp hl
  have ht:top ns id=(nd ns id).1:=by simp only[top,if_neg (show ¬id<0 by omega)]
  rw[q8a hN hp hl,q8a hN hp hl,←he _ (by omega),ih1 fun t h=>he t (by omega),ih2 fun t h=>he t (by omega)]
def setB(h:Int->Bool)(t:Int)(b:Bool):Int->Bool:=fun x=>if x=t then b else h x
theorem v02{ns:List Nd}(hN:Nod ns){h:Int->Bool}{t:Int}{b:Bool}{id:Int}(hi:Ok ns id)(ht:t<top ns id):ev ns (setB h t b) id=ev ns h id:=
 y7n hN hi fun x hx=>by simp only[setB,if_neg (show ¬x=t by omega)]
theorem y7o{ns:List Nd}(hN:Nod ns){h:Int->Bool}{id:Int}(hi:0<=id)(hl:id<ns.length):ev ns (setB h (nd ns id).1 true) id=ev ns h (nd ns id).2.1:=by
 obtain⟨_,_,c,d,_,_,_,a,b⟩:=hN.nod id hi hl
 rw[q8a hN hi hl]
 simp only[setB,if_true]
 exact v02 hN ⟨c,by omega⟩ a
theorem y9r{ns:List Nd}(hN:Nod ns){h:Int->Bool}{id:Int}(hi:0<=id)(hl:id<ns.length):ev ns (setB h (nd ns id).1 false) id=ev ns h (nd ns id).2.2:=by
 obtain⟨_,_,_,_,c,d,_,a,b⟩:=hN.nod id hi hl
 rw[q8a hN hi hl]
 simp only[setB,if_true]
 exact v02 hN ⟨c,by omega⟩ b
theorem y7p{ns ms:List Nd}{id:Int}(h1:id<ns.length)(h0:0<=id):nd (ns++ms) id=nd ns id:=by
 simp only[nd,List.getD_eq_getElem?_getD]
 rw[List.getElem?_append_left (by omega)]
theorem z45{ns ns':List Nd}(hp:ns<+:ns'){id:Int}(h1:id<ns.length)(h0:0<=id):nd ns' id=nd ns id:=by
 obtain⟨ms,rfl⟩:=hp
 exact y7p h1 h0
theorem z2r{ns ns':List Nd}(hp:ns<+:ns'){id:Int}(h1:id<ns.length):top ns' id=top ns id:=by
 by_cases h:id<0
 ·simp only[top,if_pos h]
 ·simp only[top,if_neg h,z45 hp h1 (by omega)]
theorem Ok.pre{ns ns':List Nd}(hp:ns<+:ns'){id:Int}(h:Ok ns id):Ok ns' id:=by
 have:=hp.length_le
 exact⟨h.1,by have:=h.2;omega⟩
theorem q4l{ns ns':List Nd}(hN:Nod ns)(hN':Nod ns')(hp:ns<+:ns'){h:Int->Bool}{id:Int}(hi:Ok ns id):ev ns' h id=ev ns h id:=by
 refine ind hN (p:=fun id=>ev ns' h id=ev ns h id) ?_ ?_ hi
 ·intro id _ hn
  rw[q92 hn,q92 hn]
 ·intro id h0 hl i1 i2
  have hl':=hp.length_le
  rw[q8a hN h0 hl,q8a hN' h0 (by omega),z45 hp hl h0,i1,i2]
def Tb(ns:List Nd)(b:Int):Prop:= ∀i:Int,0<=i->i<ns.length->(nd ns i).1<b
theorem z47{ns:List Nd}{n:Nd}:nd (ns++[n]) ns.length=n:=by
 simp[nd,List.getD_eq_getElem?_getD]
theorem Nod.add{ns:List Nd}(hN:Nod ns){t y n:Int}(ht:0<=t)(ht':t<=1000)(hy:Ok ns y)(hn:Ok ns n)(hne:y≠n)(h1:t<top ns y)(h2:t<top ns n)
  (hnew: ∀i:Int,0<=i->i<ns.length->nd ns i≠(t,y,n)):Nod (ns++[(t,y,n)]):=by
 have hp:ns<+:ns++[(t,y,n)]:=List.prefix_append _ _
 have hlen:((ns++[(t,y,n)]).length:Int)=ns.length+1:=by simp
 refine⟨fun i h0 hl=> ?_,fun i j h0 hl k0 kl he=> ?_⟩
 ·by_cases hi:i<ns.length
  ·rw[z45 hp hi h0]
   obtain⟨a1,a2,a3,a4,a5,a6,a7,a8,a9⟩:=hN.nod i h0 hi
   rw[z2r hp (by omega),z2r hp (by omega)]
   exact⟨a1,a2,a3,a4,a5,a6,a7,a8,a9⟩
  ·have:i=ns.length:=by omega
   subst this
   rw[z47]
   have hy2:=hy.2
   have hn2:=hn.2
   rw[z2r hp hy2,z2r hp hn2]
   exact⟨ht,ht',hy.1,hy2,hn.1,hn2,hne,h1,h2⟩
 ·by_cases hi:i<ns.length
  ·by_cases hj:j<ns.length
   ·rw[z45 hp hi h0,z45 hp hj k0] at he
    exact hN.one i j h0 hi k0 hj he
   ·have:j=ns.length:=by omega
    subst this
    rw[z47,z45 hp hi h0] at he
    exact absurd he (hnew i h0 hi)
  ·have:i=ns.length:=by omega
   subst this
   by_cases hj:j<ns.length
   ·rw[z47,z45 hp hj k0] at he
    exact absurd he.symm (hnew j k0 hj)
   ·omega
theorem Inv.add{ns:List Nd}{ids:Nd->Option Int}(hI:Inv ns ids){t y n:Int}(ht:0<=t)(ht':t<=1000)(hy:Ok ns y)(hn:Ok ns n)(hne:y≠n)(h1:t<top ns y)(h2:t<top ns n)
  (hnew:ids (t,y,n)=none):Inv (ns++[(t,y,n)]) (put ids (t,y,n) ns.length):=by
 have hnew': ∀i:Int,0<=i->i<ns.length->nd ns i≠(t,y,n):=fun i h0 hl he=>by
  rw[(hI.ids _ i).2 ⟨h0,hl,he⟩] at hnew
  cases hnew
 have hp:ns<+:ns++[(t,y,n)]:=List.prefix_append _ _
 have hlen:((ns++[(t,y,n)]).length:Int)=ns.length+1:=by simp
 refine⟨hI.nod.add ht ht' hy hn hne h1 h2 hnew',fun m id=> ?_⟩
 simp only[put]
 by_cases hm:m=(t,y,n)
 ·subst hm
  simp only[if_true,Option.some.injEq]
  constructor
  ·intro h
   subst h
   exact⟨by omega,by omega,z47⟩
  ·rintro⟨a,b,c⟩
   by_cases hid:id<ns.length
   ·rw[z45 hp hid a] at c
    exact absurd c (hnew' id a hid)
   ·omega
 ·simp only[if_neg hm]
  rw[hI.ids]
  constructor
  ·rintro⟨a,b,c⟩
   exact⟨a,by omega,by rw[z45 hp b a];exact c⟩
  ·rintro⟨a,b,c⟩
   by_cases hid:id<ns.length
   ·exact⟨a,hid,by rw[z45 hp hid a] at c;exact c⟩
   ·have:id=ns.length:=by omega
    subst this
    rw[z47] at c
    exact absurd c.symm hm
def j3o(ns:List Nd)(t y n:Int):Prop:=0<=t/\t<=1000/\Ok ns y/\Ok ns n/\t<top ns y/\t<top ns n
instance (ns:List Nd)(id:Int):Decidable (Ok ns id):=by unfold Ok;infer_instance
instance (ns:List Nd)(t y n:Int):Decidable (j3o ns t y n):=by unfold j3o;infer_instance
def node(ns:List Nd)(ids:Nd->Option Int)(full:Bool)(t y n:Int):Int×List Nd×(Nd->Option Int)×Bool:=
 if j3o ns t y n then
  if y=n then (y,ns,ids,full)
  else match ids (t,y,n) with
   |some id=>(id,ns,ids,full)
   |none=>if 4000<=ns.length then (-1002,ns,ids,true) else (ns.length,ns++[(t,y,n)],put ids (t,y,n) ns.length,full)
 else (-1002,ns,ids,full)
structure Grew(ns:List Nd)(ids:Nd->Option Int)(full:Bool)(k:Nat)(ns':List Nd)(ids':Nd->Option Int)(full':Bool):Prop where
 inv:Inv ns' ids'
 pre:ns<+:ns'
 len:ns'.length<=4000
 room:full'=full∨ns'.length=4000
 most:ns'.length<=ns.length+k
theorem Grew.refl{ns:List Nd}{ids:Nd->Option Int}{full:Bool}(hI:Inv ns ids)(hl:ns.length<=4000)(k:Nat):Grew ns ids full k ns ids full:=
 ⟨hI,List.prefix_refl _,hl,.inl rfl,by omega⟩
theorem Grew.trans{ns ns' ns'':List Nd}{ids ids' ids'':Nd->Option Int}{f f' f'':Bool}{k k' m:Nat}(h:Grew ns ids f k ns' ids' f')(h':Grew ns' ids' f' k' ns'' ids'' f'')(hm:k+k'<=m):
  Grew ns ids f m ns'' ids'' f'':=by
 refine⟨h'.inv,h.pre.trans h'.pre,h'.len,?_,?_⟩
 ·rcases h'.room with e|e
  ·rcases h.room with e'|e'
   ·exact .inl (e.trans e')
   ·have:=h'.pre.length_le
    have:=h'.len
    exact .inr (by omega)
  ·exact .inr e
 ·have:=h.most
  have:=h'.most
  omega
theorem v7a{ns:List Nd}{ids:Nd->Option Int}{full:Bool}(hI:Inv ns ids)(hl:ns.length<=4000){t y n:Int}(hO:j3o ns t y n){r:Int}{ns':List Nd}{ids':Nd->Option Int}{full':Bool}
  (he:node ns ids full t y n=(r,ns',ids',full')):Grew ns ids full 1 ns' ids' full'/\(∀b,Tb ns b->t<b->Tb ns' b)/\
   ((r= -1002/\ns'.length=4000/\full'=true)∨(full'=full/\Ok ns' r/\t<=top ns' r/\ ∀h,ev ns' h r=if h t=true then ev ns h y else ev ns h n)):=by
 obtain⟨h1,h2,hy,hn,h3,h4⟩:=hO
 rw[node,if_pos ⟨h1,h2,hy,hn,h3,h4⟩] at he
 by_cases hyn:y=n
 ·rw[if_pos hyn] at he
  cases he
  subst hyn
  exact⟨.refl hI hl 1,fun b h _=>h,.inr ⟨rfl,hy,by omega,fun h=>by simp⟩⟩
 ·rw[if_neg hyn] at he
  cases hid:ids (t,y,n) with
  |some id=>
   rw[hid] at he
   cases he
   obtain⟨a,b,c⟩:=(hI.ids _ _).1 hid
   refine⟨.refl hI hl 1,fun b h _=>h,.inr ⟨rfl,⟨by omega,b⟩,?_,fun h=> ?_⟩⟩
   ·simp only[top,if_neg (show ¬r<0 by omega),c];omega
   ·rw[q8a hI.nod a b,c]
  |none=>
   rw[hid] at he
   simp only at he
   by_cases hf:4000<=ns.length
   ·rw[if_pos hf] at he
    cases he
    exact⟨⟨hI,List.prefix_refl _,hl,.inr (by omega),by omega⟩,fun b h _=>h,.inl ⟨rfl,by omega,rfl⟩⟩
   ·rw[if_neg hf] at he
    cases he
    have hp:ns<+:ns++[(t,y,n)]:=List.prefix_append _ _
    have hI':=hI.add h1 h2 hy hn hyn h3 h4 hid
    have hlen:((ns++[(t,y,n)]).length:Int)=ns.length+1:=by simp
    refine⟨⟨hI',hp,by simp;omega,.inl rfl,by simp⟩,fun b hb ht i h0 hl=> ?_,.inr ⟨rfl,⟨by omega,by omega⟩,?_,fun h=> ?_⟩⟩
    ·by_cases hi:i<ns.length
     ·rw[z45 hp hi h0];exact hb i h0 hi
     ·have:i=ns.length:=by omega
      subst this
      rw[z47];exact ht
    ·simp only[top,if_neg (show ¬(ns.length:Int)<0 by omega),z47];omega
    ·rw[q8a hI'.nod (by omega) (by omega),z47]
     simp only
     rw[q4l hI.nod hI'.nod hp hy,q4l hI.nod hI'.nod hp hn]
theorem v03{ns:List Nd}{ids:Nd->Option Int}{full:Bool}{t y n:Int}(hO: ¬j3o ns t y n):node ns ids full t y n=(-1002,ns,ids,full):=by
 rw[node,if_neg hO]
def mtop(ns:List Nd)(f g h:Int):Int:=min (min (top ns f) (top ns g)) (top ns h)
def Cse(ns:List Nd)(f g h r:Int):Prop:= ∀v,ev ns v r=if ev ns v f=1 then ev ns v g else ev ns v h
def Cond(ns:List Nd)(f:Int):Prop:= ∀v,ev ns v f=0∨ev ns v f=1
def sd(ns:List Nd)(x t:Int):Int×Int:=if top ns x=t then ((nd ns x).2.1,(nd ns x).2.2) else (x,x)
theorem y41{ns:List Nd}(hN:Nod ns){x t:Int}(hx:Ok ns x)(ht:t<=1000)(hl:t<=top ns x):
  Ok ns (sd ns x t).1/\Ok ns (sd ns x t).2/\t<top ns (sd ns x t).1/\t<top ns (sd ns x t).2/\ ∀v,ev ns v x=if v t=true then ev ns v (sd ns x t).1 else ev ns v (sd ns x t).2:=by
 unfold sd
 by_cases he:top ns x=t
 ·rw[if_pos he]
  have h0: ¬x<0:=fun hn=>by simp only[top,if_pos hn] at he;omega
  have hx2:=hx.2
  obtain⟨_,_,a,b,c,d,_,e,g⟩:=hN.nod x (by omega) hx.2
  have ht':(nd ns x).1=t:=by simp only[top,if_neg h0] at he;exact he
  refine⟨⟨a,by omega⟩,⟨c,by omega⟩,by rw[←ht'];exact e,by rw[←ht'];exact g,fun v=> ?_⟩
  rw[q8a hN (by omega) hx.2,ht']
 ·rw[if_neg he]
  refine⟨hx,hx,by show t<top ns x;omega,by show t<top ns x;omega,fun v=>by simp⟩
def Kn(ns:List Nd)(m:Nd->Option Int):Prop:= ∀f g h id,m (f,g,h)=some id->(id= -1002/\ns.length=4000)∨(Ok ns f/\Ok ns g/\Ok ns h/\Ok ns id/\Cse ns f g h id/\mtop ns f g h<=top ns id)
theorem Kn.nil(ns:List Nd):Kn ns fun _=>none:=fun _ _ _ _ h=>by cases h
theorem v7b{ns ns':List Nd}(hp:ns<+:ns'){f g h:Int}(hf:Ok ns f)(hg:Ok ns g)(hh:Ok ns h):mtop ns' f g h=mtop ns f g h:=by
 unfold mtop;rw[z2r hp hf.2,z2r hp hg.2,z2r hp hh.2]
theorem Cse.pre{ns ns':List Nd}(hN:Nod ns)(hN':Nod ns')(hp:ns<+:ns'){f g h r:Int}(hf:Ok ns f)(hg:Ok ns g)(hh:Ok ns h)(hr:Ok ns r)(hs:Cse ns f g h r):Cse ns' f g h r:=fun v=>by
 rw[q4l hN hN' hp hf,q4l hN hN' hp hg,q4l hN hN' hp hh,q4l hN hN' hp hr];exact hs v
theorem Kn.pre{ns ns':List Nd}(hN:Nod ns)(hN':Nod ns')(hp:ns<+:ns')(hl:ns'.length<=4000){m:Nd->Option Int}(hK:Kn ns m):Kn ns' m:=fun f g h id hm=>by
 rcases hK f g h id hm with ⟨h1,h2⟩|⟨h1,h2,h3,h4,h5,h6⟩
 ·have:=hp.length_le
  exact .inl ⟨h1,by omega⟩
 ·exact .inr ⟨h1.pre hp,h2.pre hp,h3.pre hp,h4.pre hp,h5.pre hN hN' hp h1 h2 h3 h4,by rw[v7b hp h1 h2 h3,z2r hp h4.2];exact h6⟩
theorem Kn.put{ns:List Nd}{m:Nd->Option Int}(hK:Kn ns m){f g h r:Int}(hr:(r= -1002/\ns.length=4000)∨(Ok ns f/\Ok ns g/\Ok ns h/\Ok ns r/\Cse ns f g h r/\mtop ns f g h<=top ns r)):Kn ns (put m (f,g,h) r):=fun f' g' h' id hm=>by
 unfold Fl.put at hm
 split at hm
 ·rename_i he
  cases hm
  simp only[Prod.mk.injEq] at he
  obtain⟨rfl,rfl,rfl⟩:=he
  exact hr
 ·exact hK f' g' h' id hm
structure Cho(ns:List Nd)(ids:Nd->Option Int)(full:Bool)(f g h:Int)(r:Int)(ns':List Nd)(ids':Nd->Option Int)(full':Bool):Prop where
 grew:Grew ns ids full 4000 ns' ids' full'
 few: ∀b,Tb ns b->Tb ns' b/\ns'.length+1<=ns.length+2 ^ (b - mtop ns f g h).toNat
 res:(r= -1002/\ns'.length=4000)∨(Ok ns' r/\Cse ns' f g h r/\mtop ns f g h<=top ns' r)
end Go.Dg
end
noncomputable section
set_option maxRecDepth 100000
namespace Go.En
open Go Go.Fl Go.Fx Go.Dg
theorem v7c{ns:List Nd}{id:Int}{y:Nd}(h:ns[id.toNat]? =some y):nd ns id=y:=by
 simp[nd,List.getD_eq_getElem?_getD,h]
theorem z7e{ns:List Nd}{ids:Nd->Option Int}{full:Bool}{id:Int}{K:Bool->List Nd->(Nd->Option Int)->Bool->Prop}(h:K (decide (Ok ns id)) ns ids full):Uh ns ids full id K:=by
 unfold Uh
 refine⟨fun h1 _=> ?_,fun h1=> ?_⟩
 ·have:decide (id<(ns.length:Int))=decide (Ok ns id):=decide_eq_decide.2 ⟨fun a=>⟨h1,a⟩,fun a=>a.2⟩
  rw[this];exact h
 ·have:decide (Ok ns id)=false:=decide_eq_false fun a=>h1 a.1
  rw[this] at h;exact h
theorem z48{ns:List Nd}{ids:Nd->Option Int}{full:Bool}{id:Int}{K:Int->List Nd->(Nd->Option Int)->Bool->Prop}(hi:Ok ns id)(h:K (top ns id) ns ids full):Jx ns ids full id K:=by
 unfold Jx
 refine⟨fun hn=> ?_,fun hn=>⟨⟨by omega,hi.2⟩,fun y hy=> ?_⟩⟩
 ·simp only[top,if_pos hn] at h;exact h
 ·simp only[top,if_neg hn,v7c hy] at h;exact h
theorem j8p{ns:List Nd}{ids:Nd->Option Int}{full:Bool}{id t:Int}{K:Int->Int->List Nd->(Nd->Option Int)->Bool->Prop}(hi:Ok ns id)(ht:t<=1000)(h:K (sd ns id t).1 (sd ns id t).2 ns ids full):J9 ns ids full id t K:=by
 unfold J9
 refine z48 hi ⟨fun he=> ?_,fun he=> ?_⟩
 ·have h0: ¬id<0:=fun hn=>by simp only[top,if_pos hn] at he;omega
  refine⟨⟨by omega,hi.2⟩,fun y hy=>⟨⟨by omega,hi.2⟩,fun z hz=> ?_⟩⟩
  rw[hy] at hz
  cases hz
  simp only[sd,if_pos he,v7c hy] at h
  exact h
 ·simp only[sd,if_neg he] at h;exact h
theorem v04{ns:List Nd}{ids:Nd->Option Int}{full:Bool}{t y n:Int}{K:Int->List Nd->(Nd->Option Int)->Bool->Prop}(hl:ns.length<=4000)
  (h:K (node ns ids full t y n).1 (node ns ids full t y n).2.1 (node ns ids full t y n).2.2.1 (node ns ids full t y n).2.2.2):Z5 ns ids full t y n K:=by
 unfold Z5
 by_cases hO:j3o ns t y n
 ·obtain⟨h1,h2,h3,h4,h5,h6⟩:=hO
  refine Cnd.no (by omega) (Cnd.no (by omega) (z7e (Cnd.yes (decide_eq_true h3) (z7e (Cnd.yes (decide_eq_true h4) (z48 h3 (Cnd.no (by omega) (z48 h4 (Cnd.no (by omega) ?_)))))))))
  rw[node,if_pos ⟨h1,h2,h3,h4,h5,h6⟩] at h
  refine⟨fun he=> ?_,fun he=> ?_⟩
  ·rw[if_pos he] at h;exact h
  rw[if_neg he] at h
  cases hid:ids (t,y,n) with
  |some id=>rw[hid] at h;exact Cnd.yes rfl h
  |none=>
   rw[hid] at h
   refine Cnd.no (by simp) fun _=>⟨fun hf=> ?_,fun hf=> ?_⟩
   ·rw[if_pos (by omega)] at h;exact h
   rw[if_neg (by omega)] at h
   have hlen:((ns++[(t,y,n)]).length:Int)=ns.length+1:=by simp
   have e1:((ns++[(t,y,n)]).length:Int) - 1=ns.length:=by omega
   have hs:Sml (ns++[(t,y,n)]).length:=by unfold Sml;simp;omega
   have hi:InI (((ns++[(t,y,n)]).length:Int) - 1):=by constructor<;>omega
   exact fun _=>⟨hs,fun _=>⟨hi,by rw[e1];exact h⟩⟩
 ·rw[v03 hO] at h
  refine⟨fun _=>h,fun h1=>⟨fun _=>h,fun h2=>z7e ⟨fun h3=>z7e ⟨fun h4=>z48 (of_decide_eq_true h3) ⟨fun _=>h,fun h5=>z48 (of_decide_eq_true h4) ⟨fun _=>h,fun h6=> ?_⟩⟩,fun _=>h⟩,fun _=>h⟩⟩⟩
  exact absurd ⟨by omega,by omega,of_decide_eq_true h3,of_decide_eq_true h4,by omega,by omega⟩ hO
theorem w6v{X:List Nd->(Nd->Option Int)->Bool->Int->Int->Int->(Nd->Option Int)->(Int->List Nd->(Nd->Option Int)->Bool->(Nd->Option Int)->Prop)->Prop}{ns:List Nd}{ids:Nd->Option Int}{full:Bool}{f g h:Int}{m:Nd->Option Int}{K:Int->List Nd->(Nd->Option Int)->Bool->(Nd->Option Int)->Prop}(hI:Inv ns ids)(hl:ns.length<=4000)(_:Ok ns f)(hg:Ok ns g)(hh:Ok ns h)(hc:Cond ns f)(hm:Kn ns m)(hn:f<0)
  (hK: ∀r ns' ids' full' m',Cho ns ids full f g h r ns' ids' full'->Kn ns' m'->K r ns' ids' full' m'):V2 Jx J9 Z5 X ns ids full f g h m K:=by
 have hc0:=hc fun _=>true
 rw[q92 hn] at hc0
 have mk: ∀r,((f= -2/\r=g)∨(f= -1/\r=h))->Cho ns ids full f g h r ns ids full:=by
  rintro r hr
  refine⟨.refl hI hl _,fun b hb=>⟨hb,by have:=Nat.two_pow_pos ((b - mtop ns f g h).toNat);omega⟩,.inr ?_⟩
  rcases hr with ⟨h1,rfl⟩|⟨h1,rfl⟩
  ·exact⟨hg,fun v=>by rw[q92 (id:=f) hn,if_pos (by omega)],by unfold mtop;omega⟩
  ·exact⟨hh,fun v=>by rw[q92 (id:=f) hn,if_neg (by omega)],by unfold mtop;omega⟩
 unfold V2
 refine⟨fun he=>hK _ _ _ _ _ (mk g (.inl ⟨he,rfl⟩)) hm,fun he=>⟨fun hgh=> ?_,fun hgh=>⟨fun he'=>hK _ _ _ _ _ (mk h (.inr ⟨he',rfl⟩)) hm,fun he'=>absurd hc0 (by omega)⟩⟩⟩
 exact hK _ _ _ _ _ (mk g (.inr ⟨by omega,hgh⟩)) hm
theorem v29: ∀(ns:List Nd) (ids:Nd->Option Int) (full:Bool) (f g h:Int) (m:Nd->Option Int) (K:Int->List Nd->(Nd->Option Int)->Bool->(Nd->Option Int)->Prop),Inv ns ids->ns.length<=4000->Ok ns f->Ok ns g->Ok ns h->Cond ns f->Kn ns m->
  (∀r ns' ids' full' m',Cho ns ids full f g h r ns' ids' full'->Kn ns' m'->K r ns' ids' full' m')->Ht ns ids full f g h m K:=by
 intro ns ids full f g h m K hI hl hf hg hh hc hm hK X hX
 have key: ∀(k:Nat) (ns:List Nd) (ids:Nd->Option Int) (full:Bool) (f g h:Int) (m:Nd->Option Int) (K:Int->List Nd->(Nd->Option Int)->Bool->(Nd->Option Int)->Prop),(1001 - mtop ns f g h).toNat<=k->Inv ns ids->ns.length<=4000->Ok ns f->Ok ns g->Ok ns h->Cond ns f->Kn ns m->
   (∀r ns' ids' full' m',Cho ns ids full f g h r ns' ids' full'->Kn ns' m'->K r ns' ids' full' m')->X ns ids full f g h m K:=by
  intro k
  induction k with
  |zero=>
   intro ns ids full f g h m K hk hI hl hf hg hh hc hm hK
   refine hX _ _ _ _ _ _ _ _ ?_
   have ht:=(v01 hI.nod hf.2)
   have hn:f<0:=by
    refine Int.not_le.1 fun h0=> ?_
    have:=ht.2.2 h0
    unfold mtop at hk;omega
   exact w6v hI hl hf hg hh hc hm hn hK
  |succ k ih=>
   intro ns ids full f g h m K hk hI hl hf hg hh hc hm hK
   refine hX _ _ _ _ _ _ _ _ ?_
   by_cases hn:f<0
   ·exact w6v hI hl hf hg hh hc hm hn hK
   have same: ∀r,(g=h/\r=g)->Cho ns ids full f g h r ns ids full:=by
    rintro r ⟨rfl,rfl⟩
    exact⟨.refl hI hl _,fun b hb=>⟨hb,by have:=Nat.two_pow_pos ((b - mtop ns f r r).toNat);omega⟩,.inr ⟨hg,fun v=>by simp,by unfold mtop;omega⟩⟩
   unfold V2
   refine Cnd.no (by omega) ⟨fun hgh=>hK _ _ _ _ _ (same g ⟨hgh,rfl⟩) hm,fun hgh=>Cnd.no (by omega) ⟨fun hs=> ?_,fun _=> ?_⟩⟩
   ·obtain⟨id,hid⟩:=Option.isSome_iff_exists.1 hs
    rw[hid]
    refine hK _ _ _ _ _ ⟨.refl hI hl _,fun b hb=>⟨hb,by have:=Nat.two_pow_pos ((b - mtop ns f g h).toNat);omega⟩,?_⟩ hm
    rcases hm f g h id hid with h1|⟨_,_,_,h4,h5,h6⟩
    ·exact .inl h1
    ·exact .inr ⟨h4,h5,h6⟩
   have t0:=v01 hI.nod hf.2
   have t1:=v01 hI.nod hg.2
   have t2:=v01 hI.nod hh.2
   have hft:=t0.2.2 (by omega)
   have ht:mtop ns f g h<=1000:=by unfold mtop;omega
   have ht0:0<=mtop ns f g h:=by unfold mtop;omega
   refine z48 hf (z48 hg (z48 hh ?_))
   rw[show min (min (top ns f) (top ns g)) (top ns h)=mtop ns f g h from rfl]
   refine j8p hf ht (j8p hg ht (j8p hh ht ?_))
   obtain⟨fa,fb,fc,fd,fe⟩:=y41 hI.nod hf ht (by unfold mtop;omega)
   obtain⟨ga,gb,gc,gd,ge⟩:=y41 hI.nod hg ht (by unfold mtop;omega)
   obtain⟨ha,hb,hc',hd,he⟩:=y41 hI.nod hh ht (by unfold mtop;omega)
   have cy:Cond ns (sd ns f (mtop ns f g h)).1:=fun v=>by
    have:=hc (setB v (mtop ns f g h) true)
    rw[fe] at this
    simp only[setB,if_true] at this
    rw[v02 hI.nod fa fc] at this
    exact this
   have cn:Cond ns (sd ns f (mtop ns f g h)).2:=fun v=>by
    have:=hc (setB v (mtop ns f g h) false)
    rw[fe] at this
    simp only[setB,if_true,Bool.false_eq_true,if_false] at this
    rw[v02 hI.nod fb fd] at this
    exact this
   have hty:mtop ns f g h<mtop ns (sd ns f (mtop ns f g h)).1 (sd ns g (mtop ns f g h)).1 (sd ns h (mtop ns f g h)).1:=by
    show _<min (min _ _) _;omega
   have htn:mtop ns f g h<mtop ns (sd ns f (mtop ns f g h)).2 (sd ns g (mtop ns f g h)).2 (sd ns h (mtop ns f g h)).2:=by
    show _<min (min _ _) _;omega
   refine ih _ _ _ _ _ _ _ _ (by omega) hI hl fa ga ha cy hm fun r1 ns1 ids1 full1 m1 C1 hm1=> ?_
   have hp1:=C1.grew.pre
   have hN1:=C1.grew.inv.nod
   have htn1:mtop ns1 (sd ns f (mtop ns f g h)).2 (sd ns g (mtop ns f g h)).2 (sd ns h (mtop ns f g h)).2=mtop ns (sd ns f (mtop ns f g h)).2 (sd ns g (mtop ns f g h)).2 (sd ns h (mtop ns f g h)).2:=v7b hp1 fb gb hb
   refine ih _ _ _ _ _ _ _ _ (by rw[htn1];omega) C1.grew.inv C1.grew.len (fb.pre hp1) (gb.pre hp1) (hb.pre hp1) (fun v=>by rw[q4l hI.nod hN1 hp1 fb];exact cn v) hm1 fun r2 ns2 ids2 full2 m2 C2 hm2=> ?_
   have hp2:=C2.grew.pre
   have hN2:=C2.grew.inv.nod
   have hp:=hp1.trans hp2
   have few2: ∀b,Tb ns b->Tb ns2 b/\ns2.length+2<=ns.length+2 ^ (b - mtop ns f g h).toNat:=fun b hb0=>by
    obtain⟨a1,a2⟩:=C1.few b hb0
    obtain⟨a3,a4⟩:=C2.few b a1
    rw[htn1] at a4
    have hlt:mtop ns f g h<b:=by
     have hq:=hb0 f (by omega) hf.2
     have:top ns f=(nd ns f).1:=by simp only[top,if_neg hn]
     unfold mtop;omega
    refine⟨a3,?_⟩
    have e:2 ^ (b - mtop ns f g h).toNat=2*2 ^ (b - mtop ns f g h - 1).toNat:=by
     rw[show (b - mtop ns f g h).toNat=(b - mtop ns f g h - 1).toNat+1 by omega,Nat.pow_succ];omega
    have p1:=Nat.pow_le_pow_right (show 0<2 by omega) (show (b - mtop ns (sd ns f (mtop ns f g h)).1 (sd ns g (mtop ns f g h)).1 (sd ns h (mtop ns f g h)).1).toNat<=(b - mtop ns f g h - 1).toNat by omega)
    have p2:=Nat.pow_le_pow_right (show 0<2 by omega) (show (b - mtop ns (sd ns f (mtop ns f g h)).2 (sd ns g (mtop ns f g h)).2 (sd ns h (mtop ns f g h)).2).toNat<=(b - mtop ns f g h - 1).toNat by omega)
    omega
   have gr2:Grew ns ids full 4000 ns2 ids2 full2:=by
    have:=C1.grew.trans C2.grew (Nat.le_refl _)
    exact⟨this.inv,this.pre,this.len,this.room,by have:=this.len;omega⟩
   have bad:ns2.length=4000->Cho ns ids full f g h (-1002) ns2 ids2 full2:=fun hb0=>⟨gr2,fun b hb1=>⟨(few2 b hb1).1,by have:=(few2 b hb1).2;omega⟩,.inl ⟨rfl,hb0⟩⟩
   have full1:r1= -1002->ns2.length=4000:=fun e=>by
    rcases C1.res with h1|h1
    ·have:=hp2.length_le
     have:=C2.grew.len
     omega
    ·have:=h1.1.1;omega
   have full2':r2= -1002->ns2.length=4000:=fun e=>by
    rcases C2.res with h1|h1
    ·exact h1.2
    ·have:=h1.1.1;omega
   have hbad:ns2.length=4000->Kn ns2 (Fl.put m2 (f,g,h) (-1002)):=fun hb0=>hm2.put (.inl ⟨rfl,hb0⟩)
   refine Jn4.mk (fun a b c d=>K a b d c (put m2 (f,g,h) a)) ?_ fun _ _ _ _ h=>h
   refine⟨fun e1=>hK _ _ _ _ _ (bad (full1 e1)) (hbad (full1 e1)),fun e1=>⟨fun e2=>hK _ _ _ _ _ (bad (full2' e2)) (hbad (full2' e2)),fun e2=> ?_⟩⟩
   have o1:Ok ns1 r1/\Cse ns1 (sd ns f (mtop ns f g h)).1 (sd ns g (mtop ns f g h)).1 (sd ns h (mtop ns f g h)).1 r1/\mtop ns (sd ns f (mtop ns f g h)).1 (sd ns g (mtop ns f g h)).1 (sd ns h (mtop ns f g h)).1<=top ns1 r1:=by
    rcases C1.res with h1|h1
    ·exact absurd h1.1 e1
    ·exact h1
   have o2:Ok ns2 r2/\Cse ns2 (sd ns f (mtop ns f g h)).2 (sd ns g (mtop ns f g h)).2 (sd ns h (mtop ns f g h)).2 r2/\mtop ns1 (sd ns f (mtop ns f g h)).2 (sd ns g (mtop ns f g h)).2 (sd ns h (mtop ns f g h)).2<=top ns2 r2:=by
    rcases C2.res with h1|h1
    ·exact absurd h1.1 e2
    ·exact h1
   have o1t:top ns2 r1=top ns1 r1:=z2r hp2 o1.1.2
   have hO:j3o ns2 (mtop ns f g h) r1 r2:=⟨ht0,ht,o1.1.pre hp2,o2.1,by rw[o1t];have:=o1.2.2;omega,by have:=o2.2.2;rw[htn1] at this;omega⟩
   refine v04 C2.grew.len ?_
   obtain⟨hg3,htb,hres⟩:=v7a C2.grew.inv C2.grew.len hO (r:=(node ns2 ids2 full2 (mtop ns f g h) r1 r2).1) (ns':=(node ns2 ids2 full2 (mtop ns f g h) r1 r2).2.1) (ids':=(node ns2 ids2 full2 (mtop ns f g h) r1 r2).2.2.1) (full':=(node ns2 ids2 full2 (mtop ns f g h) r1 r2).2.2.2) rfl
   generalize (node ns2 ids2 full2 (mtop ns f g h) r1 r2).1=r3 at hg3 htb hres
   generalize (node ns2 ids2 full2 (mtop ns f g h) r1 r2).2.1=ns3 at hg3 htb hres
   generalize (node ns2 ids2 full2 (mtop ns f g h) r1 r2).2.2.1=ids3 at hg3 htb hres
   generalize (node ns2 ids2 full2 (mtop ns f g h) r1 r2).2.2.2=full3 at hg3 htb hres
   have hp3:=hp.trans hg3.pre
   have hN3:=hg3.inv.nod
   have hr3:(r3= -1002/\ns3.length=4000)∨(Ok ns3 r3/\Cse ns3 f g h r3/\mtop ns f g h<=top ns3 r3):=by
    rcases hres with h1|⟨_,h1,h2,h3⟩
    ·exact .inl ⟨h1.1,h1.2.1⟩
    ·refine .inr ⟨h1,fun v=> ?_,h2⟩
     rw[h3,q4l hI.nod hN3 hp3 hf,q4l hI.nod hN3 hp3 hg,q4l hI.nod hN3 hp3 hh,fe,ge,he]
     cases v (mtop ns f g h) with
     |true=>
      simp only[if_true]
      rw[q4l hN1 hN2 hp2 o1.1,o1.2.1,q4l hI.nod hN1 hp1 fa,q4l hI.nod hN1 hp1 ga,q4l hI.nod hN1 hp1 ha]
     |false=>
      simp only[Bool.false_eq_true,if_false]
      rw[o2.2.1,q4l hI.nod hN2 hp fb,q4l hI.nod hN2 hp gb,q4l hI.nod hN2 hp hb]
   have hcho:Cho ns ids full f g h r3 ns3 ids3 full3:=by
    refine⟨?_,fun b hb0=>⟨?_,?_⟩,hr3⟩
    ·have:=gr2.trans hg3 (Nat.le_refl _)
     exact⟨this.inv,this.pre,this.len,this.room,by have:=this.len;omega⟩
    ·have hlt:mtop ns f g h<b:=by
      have hq:=hb0 f (by omega) hf.2
      have:top ns f=(nd ns f).1:=by simp only[top,if_neg hn]
      unfold mtop;omega
     exact htb b (few2 b hb0).1 hlt
    ·have:=(few2 b hb0).2
     have:=hg3.most
     omega
   refine hK _ _ _ _ _ hcho (Kn.put (hm2.pre hN2 hN3 hg3.pre hg3.len) ?_)
   rcases hr3 with h1|⟨h1,h2,h3⟩
   ·exact .inl h1
   ·exact .inr ⟨hf.pre hp3,hg.pre hp3,hh.pre hp3,h1,h2,by rw[v7b hp3 hf hg hh];exact h3⟩
 exact key _ ns ids full f g h m K (Nat.le_refl _) hI hl hf hg hh hc hm hK
inductive Rch(ns:List Nd):Int->Int->Prop
 |self (a:Int):Rch ns a a
 |yes {a x:Int}:0<=a->Rch ns (nd ns a).2.1 x->Rch ns a x
 |no {a x:Int}:0<=a->Rch ns (nd ns a).2.2 x->Rch ns a x
theorem Rch.step{ns:List Nd}{a b c:Int}(h:Rch ns a b)(k:Rch ns b c):Rch ns a c:=by
 induction h with
 |self=>exact k
 |yes h0 _ ih=>exact .yes h0 (ih k)
 |no h0 _ ih=>exact .no h0 (ih k)
theorem kids{ns:List Nd}(hN:Nod ns){a:Int}(h:Ok ns a)(h0:0<=a):Ok ns (nd ns a).2.1/\Ok ns (nd ns a).2.2/\(nd ns a).2.1<a/\(nd ns a).2.2<a:=by
 have h2:=h.2
 obtain⟨_,_,a1,a2,a3,a4,_⟩:=hN.nod a h0 h.2
 exact⟨⟨a1,by omega⟩,⟨a3,by omega⟩,a2,a4⟩
theorem Rch.ok{ns:List Nd}(hN:Nod ns){a x:Int}(h:Rch ns a x):Ok ns a->Ok ns x:=by
 induction h with
 |self=>exact id
 |yes h0 _ ih=>exact fun h=>ih (kids hN h h0).1
 |no h0 _ ih=>exact fun h=>ih (kids hN h h0).2.1
def Tr(F:Int->Option Bool):Prop:= ∀x,F x=none∨F x=some true
theorem Tr.get{F:Int->Option Bool}(h:Tr F){x:Int}:(F x).getD false=true↔(F x).isSome=true:=by
 rcases h x with e|e<;>simp[e]
theorem Tr.nil:Tr fun _=>none:=fun _=> .inl rfl
theorem Tr.put{F:Int->Option Bool}(h:Tr F)(x:Int):Tr (put F x true):=fun y=>by
 unfold Fl.put
 split
 ·exact .inr rfl
 ·exact h y
theorem Bf{F:Int->Option Bool}{x y:Int}:(put F x true y).isSome=true↔y=x∨(F y).isSome=true:=by
 unfold Fl.put
 split
 ·rename_i h;simp[h]
 ·rename_i h;simp[h]
theorem Rch.sub{ns:List Nd}{F:Int->Option Bool}{id x:Int}(h:Rch ns id x)(i:(F id).isSome=true)(c: ∀x,(F x).isSome=true->0<=x->(F (nd ns x).2.1).isSome=true/\(F (nd ns x).2.2).isSome=true):(F x).isSome=true:=by
 induction h with
 |self=>exact i
 |yes h0 _ ih=>exact ih (c _ i h0).1
 |no h0 _ ih=>exact ih (c _ i h0).2
def Rc(ns:List Nd)(id:Int)(F:Int->Option Bool):Prop:=Tr F/\ ∀x,(F x).isSome=true↔Rch ns id x
def univ(ns:List Nd):List Int:=(List.range (ns.length+1001)).map fun (i:Nat)=>(i:Int) - 1001
def left(ns:List Nd)(F:Int->Option Bool):Nat:=(univ ns).countP fun x=>(F x).isNone
theorem y0c{ns:List Nd}{x:Int}(h:Ok ns x):x∈univ ns:=by
 obtain⟨h1,h2⟩:=h
 exact List.mem_map.2 ⟨(x+1001).toNat,List.mem_range.2 (by omega),by omega⟩
theorem v7d{l:List Int}{F:Int->Option Bool}{x:Int}(hx:x∈l)(hn:F x=none):(l.countP fun y=>(put F x true y).isNone)<l.countP fun y=>(F y).isNone:=by
 induction l with
 |nil=>cases hx
 |cons a l ih=>
  have le:(l.countP fun y=>(put F x true y).isNone)<=l.countP fun y=>(F y).isNone:=by
   refine List.countP_mono_left fun y _ h=> ?_
   unfold Fl.put at h
   split at h
   ·cases h
   ·exact h
  rw[List.countP_cons,List.countP_cons]
  by_cases ha:a=x
  ·subst ha
   simp only[Fl.put,if_true,Option.isNone_some,Bool.false_eq_true,if_false,hn,Option.isNone_none]
   simp only[Fl.put] at le
   omega
  ·have:=ih ((List.mem_cons.1 hx).resolve_left fun e=>ha e.symm)
   have e:put F x true a=F a:=by simp[Fl.put,ha]
   rw[e]
   omega
theorem y0d{ns:List Nd}{F:Int->Option Bool}{x:Int}(h:Ok ns x)(hn:F x=none):left ns (put F x true)<left ns F:=v7d (y0c h) hn
theorem y42{ns:List Nd}{F:Int->Option Bool}:left ns F<=ns.length+1001:=by
 have:=List.countP_le_length (p:=fun x=>(F x).isNone) (l:=univ ns)
 simpa [left,univ] using this
theorem v7e{ns:List Nd}{ids:Nd->Option Int}{full:Bool}{id:Int}{K:(Int->Option Bool)->List Nd->(Nd->Option Int)->Bool->Prop}(hN:Nod ns)(hl:ns.length<=4000)(hid:Ok ns id)(h: ∀F,Rc ns id F->K F ns ids full):
  R4 ns ids full id K:=by
 unfold R4
 refine Lp2.ind (fun todo F=>Tr F/\(∀x∈todo,Ok ns x/\Rch ns id x)/\(∀x,(F x).isSome=true->Ok ns x/\Rch ns id x)/\((F id).isSome=true∨id∈todo)/\
  (∀x,(F x).isSome=true->0<=x->((F (nd ns x).2.1).isSome=true∨(nd ns x).2.1∈todo)/\((F (nd ns x).2.2).isSome=true∨(nd ns x).2.2∈todo))/\todo.length+3*left ns F<=15004)
  (fun todo F=>todo.length+3*left ns F) (fun todo F hI _=> ?_) ⟨Tr.nil,by simpa using ⟨hid,.self _⟩,by simp,.inr (by simp),by simp,by have:=y42 (ns:=ns) (F:=fun _=>none);simp;omega⟩
 obtain⟨i1,i2,i3,i4,i5,i6⟩:=hI
 refine⟨fun hpos=>fun _=>⟨⟨by omega,by omega⟩,⟨by omega,by omega⟩,fun y hy _=>⟨⟨by omega,by omega⟩,⟨by omega,by omega⟩,?_⟩⟩,fun hpos=> ?_⟩
 ·have ht:((todo.length:Int) - 1).toNat=todo.length - 1:=by omega
  rw[ht] at hy⊢
  have hne:todo≠[]:=fun e=>by subst e;simp at hpos
  have hsp:todo=todo.take (todo.length - 1)++[y]:=by
   have h1:todo.getLast hne=y:=by
    rw[List.getLast_eq_getElem]
    rw[List.getElem?_eq_getElem (by omega)] at hy
    exact Option.some.inj hy
   rw[←h1,←List.dropLast_eq_take,List.dropLast_concat_getLast]
  generalize hA:todo.take (todo.length - 1)=A at hsp⊢
  have hlen:todo.length=A.length+1:=by rw[hsp];simp
  obtain⟨hy1,hy2⟩:=i2 y (by rw[hsp];simp)
  have sub: ∀x,x∈todo->x∈A∨x=y:=fun x hx=>by rw[hsp] at hx;simpa using hx
  refine⟨fun hs=>⟨⟨i1,fun x hx=>i2 x (by rw[hsp];simp[hx]),i3,?_,fun x hx h0=> ?_,by omega⟩,by omega⟩,fun hs=> ?_⟩
  ·have hs:=(i1.get).1 hs
   rcases i4 with h|h
   ·exact .inl h
   ·rcases sub _ h with h|rfl
    ·exact .inr h
    ·exact .inl hs
  ·have hs:=(i1.get).1 hs
   obtain⟨a,b⟩:=i5 x hx h0
   refine⟨a.elim .inl fun h=> ?_,b.elim .inl fun h=> ?_⟩
   ·rcases sub _ h with h|h
    ·exact .inr h
    ·exact .inl (by rw[h];exact hs)
   ·rcases sub _ h with h|h
    ·exact .inr h
    ·exact .inl (by rw[h];exact hs)
  ·have hn:F y=none:=by
    rcases i1 y with e|e
    ·exact e
    ·rw[e] at hs;simp at hs
   have hlt:=y0d hy1 hn
   refine⟨fun h0=>⟨⟨h0,hy1.2⟩,fun z hz=>⟨⟨h0,hy1.2⟩,fun z' hz'=> ?_⟩⟩,fun h0=>⟨⟨i1.put y,fun x hx=>i2 x (by rw[hsp];simp[hx]),fun x hx=> ?_,?_,fun x hx hx0=> ?_,by omega⟩,by omega⟩⟩
   ·rw[hz] at hz'
    cases hz'
    have ez:=v7c hz
    obtain⟨k1,k2,_⟩:=kids hN hy1 h0
    rw[ez] at k1 k2
    refine⟨by unfold Sml;simp;omega,⟨i1.put y,fun x hx=> ?_,fun x hx=> ?_,?_,fun x hx hx0=> ?_,by simp;omega⟩,by simp;omega⟩
    ·simp only[List.mem_append,List.mem_cons,List.not_mem_nil,or_false] at hx
     rcases hx with hx|rfl|rfl
     ·exact i2 x (by rw[hsp];simp[hx])
     ·exact⟨k1,hy2.step (.yes h0 (by rw[ez];exact .self _))⟩
     ·exact⟨k2,hy2.step (.no h0 (by rw[ez];exact .self _))⟩
    ·rcases Bf.1 hx with rfl|hx
     ·exact⟨hy1,hy2⟩
     ·exact i3 x hx
    ·rcases i4 with h|h
     ·exact .inl (Bf.2 (.inr h))
     ·rcases sub _ h with h|rfl
      ·exact .inr (by simp[h])
      ·exact .inl (Bf.2 (.inl rfl))
    ·have mv: ∀q,(F q).isSome=true∨q∈todo->(put F y true q).isSome=true∨q∈A++[z.2.1,z.2.2]:=fun q hq=>by
      rcases hq with h|h
      ·exact .inl (Bf.2 (.inr h))
      ·rcases sub _ h with h|rfl
       ·exact .inr (by simp[h])
       ·exact .inl (Bf.2 (.inl rfl))
     rcases Bf.1 hx with rfl|hx
     ·rw[ez];exact⟨.inr (by simp),.inr (by simp)⟩
     ·obtain⟨a,b⟩:=i5 x hx hx0
      exact⟨mv _ a,mv _ b⟩
   ·rcases Bf.1 hx with rfl|hx
    ·exact⟨hy1,hy2⟩
    ·exact i3 x hx
   ·rcases i4 with h|h
    ·exact .inl (Bf.2 (.inr h))
    ·rcases sub _ h with h|rfl
     ·exact .inr h
     ·exact .inl (Bf.2 (.inl rfl))
   ·have mv: ∀q,(F q).isSome=true∨q∈todo->(put F y true q).isSome=true∨q∈A:=fun q hq=>by
     rcases hq with h|h
     ·exact .inl (Bf.2 (.inr h))
     ·rcases sub _ h with h|rfl
      ·exact .inr h
      ·exact .inl (Bf.2 (.inl rfl))
    rcases Bf.1 hx with rfl|hx
    ·exact absurd hx0 h0
    ·obtain⟨a,b⟩:=i5 x hx hx0
     exact⟨mv _ a,mv _ b⟩
 ·have hnil:todo=[]:=List.eq_nil_of_length_eq_zero (by omega)
  subst hnil
  refine h F ⟨i1,fun x=>⟨fun hx=>(i3 x hx).2,fun hx=> ?_⟩⟩
  have i4:(F id).isSome=true:=i4.resolve_right (by simp)
  exact hx.sub i4 fun x hx h0=>⟨(i5 x hx h0).1.resolve_right (by simp),(i5 x hx h0).2.resolve_right (by simp)⟩
theorem v05{α:Type}[DecidableEq α]{l l':List α}(h:l.Nodup)(hs: ∀x∈l,x∈l'):l.length<=l'.length:=by
 induction l generalizing l' with
 |nil=>simp
 |cons a l ih=>
  rw[List.nodup_cons] at h
  have:=ih (l':=l'.erase a) h.2 fun x hx=>by
   have hne:x≠a:=fun e=>h.1 (e▸hx)
   exact (List.mem_erase_of_ne hne).2 (hs x (by simp[hx]))
  rw[List.length_erase_of_mem (hs a (by simp))] at this
  have hp:=List.length_pos_of_mem (hs a (by simp))
  simp only[List.length_cons]
  omega
def Lvs(ns:List Nd)(id:Int)(l:List Int):Prop:=l.Pairwise (· < ·)/\ ∀n,n∈l↔Ok ns id/\0<=n/\Rch ns id (-1 - n)
theorem v3a{ns:List Nd}{ids:Nd->Option Int}{full:Bool}{id:Int}{K:List Int->List Nd->(Nd->Option Int)->Bool->Prop}(hN:Nod ns)(hl:ns.length<=4000)(h: ∀l,Lvs ns id l->K l ns ids full):Hs ns ids full id K:=by
 unfold Hs
 by_cases hid:Ok ns id
 ·refine z7e (Cnd.yes (decide_eq_true hid) (v7e hN hl hid fun F hF=> ?_))
  refine Lp2.ind (fun l n=>0<=n/\n<=1001/\l.length<=n/\l.Pairwise (· < ·)/\ ∀x,x∈l↔0<=x/\x<n/\Rch ns id (-1 - x)) (fun _ n=>(1001 - n).toNat) (fun l n hI=> ?_) ⟨by omega,by omega,by simp,by simp,fun x=>by simp;omega⟩
  obtain⟨h0,h1,h2,h3,h4⟩:=hI
  refine⟨fun hn=>⟨⟨by omega,by omega⟩,fun hs=> ?_,fun hs=> ?_⟩,fun hn=> ?_⟩
  ·have hs:=(hF.2 _).1 ((hF.1.get).1 hs)
   refine⟨by unfold Sml;simp;omega,⟨by omega,by omega⟩,⟨by omega,by omega,by simp;omega,?_,fun x=> ?_⟩,by omega⟩
   ·rw[List.pairwise_append]
    exact⟨h3,by simp,fun a ha b hb=>by simp at hb;subst hb;exact ((h4 a).1 ha).2.1⟩
   ·simp only[List.mem_append,List.mem_singleton,h4]
    constructor
    ·rintro (⟨a,b,c⟩|rfl)
     ·exact⟨a,by omega,c⟩
     ·exact⟨h0,by omega,hs⟩
    ·rintro⟨a,b,c⟩
     by_cases hx:x=n
     ·exact .inr hx
     ·exact .inl ⟨a,by omega,c⟩
  ·have hs: ¬Rch ns id (-1 - n):=fun hr=>hs ((hF.1.get).2 ((hF.2 _).2 hr))
   refine⟨⟨by omega,by omega⟩,⟨by omega,by omega,by omega,h3,fun x=> ?_⟩,by omega⟩
   rw[h4]
   constructor
   ·rintro⟨a,b,c⟩;exact⟨a,by omega,c⟩
   ·rintro⟨a,b,c⟩
    refine⟨a,?_,c⟩
    by_cases hx:x=n
    ·subst hx;exact absurd c hs
    ·omega
  ·refine h l ⟨h3,fun x=> ?_⟩
   rw[h4]
   constructor
   ·rintro⟨a,_,c⟩;exact⟨hid,a,c⟩
   ·rintro⟨_,a,c⟩
    have:=(c.ok hN hid).1
    exact⟨a,by omega,c⟩
 ·exact z7e (Cnd.no (by simpa using hid) (h [] ⟨by simp,fun n=>by simp[hid]⟩))
theorem v06{ns:List Nd}(hN:Nod ns){id:Int}(hid:Ok ns id)(n:Int)(hn:0<=n):Rch ns id (-1 - n)↔ ∃v,ev ns v id=n:=by
 constructor
 ·intro h
  generalize hx: -1 - n=x at h
  induction h with
  |self a=>exact⟨fun _=>true,by rw[q92 (by omega)];omega⟩
  | @yes a x h0 _ ih=>
   obtain⟨v,hv⟩:=ih (kids hN hid h0).1 hx
   exact⟨setB v (nd ns a).1 true,by rw[y7o hN h0 hid.2];exact hv⟩
  | @no a x h0 _ ih=>
   obtain⟨v,hv⟩:=ih (kids hN hid h0).2.1 hx
   exact⟨setB v (nd ns a).1 false,by rw[y9r hN h0 hid.2];exact hv⟩
 ·rintro⟨v,hv⟩
  revert hv
  refine ind hN (p:=fun id=>ev ns v id=n->Rch ns id (-1 - n)) (fun id h1 h2 he=> ?_) (fun id h1 h2 i1 i2 he=> ?_) hid
  ·rw[q92 h2] at he
   rw[show -1 - n=id by omega];exact .self _
  ·rw[q8a hN h1 h2] at he
   split at he
   ·exact .yes h1 (i1 he)
   ·exact .no h1 (i2 he)
theorem v7f{ns:List Nd}(hN:Nod ns){id:Int}(hid:Ok ns id)(v:Int->Bool):0<=ev ns v id:=by
 refine ind hN (p:=fun id=>0<=ev ns v id) (fun id h1 h2=> ?_) (fun id h1 h2 i1 i2=> ?_) hid
 ·rw[q92 h2];omega
 ·rw[q8a hN h1 h2];split<;>assumption
theorem y0e{ns:List Nd}(hN:Nod ns){id:Int}(hid:Ok ns id){l:List Int}(hl:Lvs ns id l):Cond ns id↔ ∀n∈l,n<=1:=by
 constructor
 ·intro h n hn
  obtain⟨_,h0,hr⟩:=(hl.2 n).1 hn
  obtain⟨v,hv⟩:=(v06 hN hid n h0).1 hr
  have:=h v
  omega
 ·intro h v
  have h0:=v7f hN hid v
  have:=h (ev ns v id) ((hl.2 _).2 ⟨hid,h0,(v06 hN hid _ h0).2 ⟨v,rfl⟩⟩)
  omega
def OpR(p:Prop)(ns:List Nd)(ids:Nd->Option Int)(full:Bool)(f g h r:Int)(ns':List Nd)(ids':Nd->Option Int)(full':Bool):Prop:=
 (p/\Cho ns ids full f g h r ns' ids' full')∨(¬p/\r= -1002/\ns'=ns/\ids'=ids/\full'=full)
def ChR(ns:List Nd)(ids:Nd->Option Int)(full:Bool)(f g h r:Int)(ns':List Nd)(ids':Nd->Option Int)(full':Bool):Prop:=
 (Ok ns f/\Cond ns f/\Ok ns g/\Ok ns h/\Cho ns ids full f g h r ns' ids' full')∨(¬(Ok ns f/\Cond ns f/\Ok ns g/\Ok ns h)/\r= -1002/\ns'=ns/\ids'=ids/\full'=full)
theorem w31{ns:List Nd}{ids:Nd->Option Int}{full:Bool}{id:Int}{K:Bool->List Nd->(Nd->Option Int)->Bool->Prop}(hN:Nod ns)(hl:ns.length<=4000)(h: ∀b,(b=true↔Ok ns id/\Cond ns id)->K b ns ids full):Ji ns ids full id K:=by
 unfold Ji
 by_cases hid:Ok ns id
 ·refine z7e (Cnd.yes (decide_eq_true hid) (v3a hN hl fun l hL=> ?_))
  have hc:=y0e hN hid hL
  refine Lp1.ind (fun i:Int=>0<=i/\i<=l.length/\ ∀j:Nat,j<i.toNat-> ∀n,l[j]? =some n->n<=1) (fun i:Int=>l.length - i.toNat) (fun i hi hlen=> ?_) ⟨by omega,by omega,fun j hj=>by omega⟩
  obtain⟨h0,h1,h2⟩:=hi
  refine⟨fun hlt=>⟨⟨h0,hlt⟩,fun y hy=>⟨fun h3=>h false ⟨fun e=>(by cases e),fun a=> ?_⟩,fun h3=>⟨⟨by omega,by omega⟩,⟨by omega,by omega,fun j hj n hn=> ?_⟩,by omega⟩⟩⟩,fun hlt=>h true ⟨fun _=>⟨hid,hc.2 fun n hn=> ?_⟩,fun _=>rfl⟩⟩
  ·have:=hc.1 a.2 y (List.mem_of_getElem? hy);omega
  ·by_cases hji:j=i.toNat
   ·subst hji;rw[hy] at hn;cases hn;omega
   ·exact h2 j (by omega) n hn
  ·obtain⟨j,hj⟩:=List.mem_iff_getElem?.1 hn
   exact h2 j (by have:=(List.getElem?_eq_some_iff.1 hj).1;omega) n hj
 ·exact z7e (Cnd.no (by simpa using hid) (h false ⟨fun e=>(by cases e),fun a=>absurd a.1 hid⟩))
theorem j27{ns:List Nd}{ids:Nd->Option Int}{full:Bool}{f g h:Int}{K:Int->List Nd->(Nd->Option Int)->Bool->Prop}(hI:Inv ns ids)(hl:ns.length<=4000)
  (hK: ∀r ns' ids' full',ChR ns ids full f g h r ns' ids' full'->K r ns' ids' full'):Wp ns ids full f g h K:=by
 unfold Wp
 refine w31 hI.nod hl fun b hb=>⟨fun hbt=> ?_,fun hbt=> ?_⟩
 ·obtain⟨hf,hc⟩:=hb.1 hbt
  refine z7e ⟨fun hg=>z7e ⟨fun hh=> ?_,fun hh=> ?_⟩,fun hg=> ?_⟩
  ·exact v29 _ _ _ _ _ _ _ _ hI hl hf (of_decide_eq_true hg) (of_decide_eq_true hh) hc (Kn.nil ns) fun r ns' ids' full' m' C _=>hK _ _ _ _ (.inl ⟨hf,hc,of_decide_eq_true hg,of_decide_eq_true hh,C⟩)
  ·exact hK _ _ _ _ (.inr ⟨fun a=>hh (decide_eq_true a.2.2.2),rfl,rfl,rfl,rfl⟩)
  ·exact hK _ _ _ _ (.inr ⟨fun a=>hg (decide_eq_true a.2.2.1),rfl,rfl,rfl,rfl⟩)
 ·exact hK _ _ _ _ (.inr ⟨fun a=>hbt (hb.2 ⟨a.1,a.2.1⟩),rfl,rfl,rfl,rfl⟩)
theorem y43{ns:List Nd}{ids:Nd->Option Int}{full:Bool}{f g:Int}{K:Int->List Nd->(Nd->Option Int)->Bool->Prop}(hI:Inv ns ids)(hl:ns.length<=4000)
  (hK: ∀r ns' ids' full',OpR (Ok ns f/\Cond ns f/\Ok ns g/\Cond ns g) ns ids full f g (-1) r ns' ids' full'->K r ns' ids' full'):Gf ns ids full f g K:=by
 unfold Gf
 refine w31 hI.nod hl fun b hb=>⟨fun hbt=> ?_,fun hbt=> ?_⟩
 ·refine j27 hI hl fun r ns' ids' full' C=>hK _ _ _ _ ?_
  rcases C with ⟨a1,a2,a3,a4,a5⟩|⟨a1,a2⟩
  ·exact .inl ⟨⟨a1,a2,hb.1 hbt⟩,a5⟩
  ·exact .inr ⟨fun a=>a1 ⟨a.1,a.2.1,a.2.2.1,⟨by omega,by omega⟩⟩,a2⟩
 ·exact hK _ _ _ _ (.inr ⟨fun a=>hbt (hb.2 a.2.2),rfl,rfl,rfl,rfl⟩)
theorem y1s{ns:List Nd}{ids:Nd->Option Int}{full:Bool}{f g:Int}{K:Int->List Nd->(Nd->Option Int)->Bool->Prop}(hI:Inv ns ids)(hl:ns.length<=4000)
  (hK: ∀r ns' ids' full',OpR (Ok ns f/\Cond ns f/\Ok ns g/\Cond ns g) ns ids full f (-2) g r ns' ids' full'->K r ns' ids' full'):Ui ns ids full f g K:=by
 unfold Ui
 refine w31 hI.nod hl fun b hb=>⟨fun hbt=> ?_,fun hbt=> ?_⟩
 ·refine j27 hI hl fun r ns' ids' full' C=>hK _ _ _ _ ?_
  rcases C with ⟨a1,a2,a3,a4,a5⟩|⟨a1,a2⟩
  ·exact .inl ⟨⟨a1,a2,hb.1 hbt⟩,a5⟩
  ·exact .inr ⟨fun a=>a1 ⟨a.1,a.2.1,⟨by omega,by omega⟩,a.2.2.1⟩,a2⟩
 ·exact hK _ _ _ _ (.inr ⟨fun a=>hbt (hb.2 a.2.2),rfl,rfl,rfl,rfl⟩)
theorem y44{ns:List Nd}{ids:Nd->Option Int}{full:Bool}{f:Int}{K:Int->List Nd->(Nd->Option Int)->Bool->Prop}(hI:Inv ns ids)(hl:ns.length<=4000)
  (hK: ∀r ns' ids' full',OpR (Ok ns f/\Cond ns f) ns ids full f (-1) (-2) r ns' ids' full'->K r ns' ids' full'):Ge ns ids full f K:=by
 unfold Ge
 refine j27 hI hl fun r ns' ids' full' C=>hK _ _ _ _ ?_
 rcases C with ⟨a1,a2,a3,a4,a5⟩|⟨a1,a2⟩
 ·exact .inl ⟨⟨a1,a2⟩,a5⟩
 ·exact .inr ⟨fun a=>a1 ⟨a.1,a.2,⟨by omega,by omega⟩,⟨by omega,by omega⟩⟩,a2⟩
end Go.En
end
noncomputable section
set_option maxRecDepth 100000
namespace Go.En
open Go Go.Fl Go.Fl.Lk Go.Fx Go.Dg
theorem w6w{v:Envt}{layer but:ByteArray}{now:Int}{K:List Spn->Prop}(h: ∀l,l.length<=10000->K l):z1h v layer but now K:=by
 unfold z1h z7q
 refine q9z fun r hr=>Cnd.mk (fun _=>h _ (by simp)) fun hn=> ?_
 refine Jn1.mk (fun l=>SpsS l) ?_ fun l hl=> ?_
 ·rcases hr with ⟨e,_⟩|⟨a,b,_⟩
  ·omega
  refine⟨⟨a,b⟩,fun y hy=>⟨⟨a,b⟩,fun z hz=> ?_⟩⟩
  refine⟨z3h fun u hu=>z41 (by omega) fun l _=>q84 fun l hl=>hl,z3h fun u hu=>⟨z41 (by omega) fun l _=>q84 fun l hl=>hl,z41 (by omega) fun l _=>q84 fun l hl=>hl⟩⟩
 ·refine Lp2.ind (fun (l:List Spn) (i:Int)=>0<=i/\i<=v.experiments.length/\SpsS l) (fun _ (i:Int)=>(v.experiments.length - i).toNat) ?_ ⟨by omega,by omega,hl⟩
  rintro l i ⟨i0,i1,hl⟩
  have hlen:=hl.len
  (repeat' (first|exact h _ (by omega)|refine q84 fun l hl=> ?_|assumption|(unfold InI;omega)|omega|refine Cnd.mk (fun _=> ?_) fun _=> ?_|refine⟨?_,?_⟩|intro _))
theorem w9h{v:Envt}{layer:ByteArray}{now:Int}{K:List Spn->Int->Prop}(h: ∀l e,SpsS l->K l e):z5q v layer now K:=by
 unfold z5q j1w
 have nil:SpsS []:=⟨by simp,by simp⟩
 exact w81 fun _ _=>Cnd.mk (fun _=>q9z fun _ _=>Cnd.mk (fun _=>h _ _ nil) fun _=>w6w fun _ _=>j3k fun l hl=>h _ _ hl) fun _=>h _ _ nil
def lim:Nat->Nat
 |0=>1
 |n+1=>1+3*lim n
theorem j8q: ∀(n:Nat) {l:List Ex} {e:Ex} {K:List Ex->Prop},n<=5->ExS n e->(∀x∈l,ExS 5 x)->l.length+lim n<=1000000->(∀r,(∀x∈r,ExS 5 x)->r.length<=l.length+lim n->K r)->q3i l e K:=by
 intro n l e K hn he hl hB h X hX
 induction n using Nat.strongRecOn generalizing l e K with
 |_ n ih=>
 refine hX _ _ _ ?_
 unfold q9j
 rw[Jl]
 have lp:1<=lim n:=by cases n<;>simp[lim]
 refine Jn1.mk (fun r=>(∀x∈r,ExS 5 x)/\r.length<=l.length+1) ?_ fun r hr=> ?_
 ·have same:(∀x∈l,ExS 5 x)/\l.length<=l.length+1:=⟨hl,by omega⟩
  have more:Sml ([]++l).length/\Sml ([]++l++[e]).length/\((∀x∈[]++l++[e],ExS 5 x)/\([]++l++[e]).length<=l.length+1):=by
   refine⟨by unfold Sml;simp;omega,by unfold Sml;simp;omega,?_,by simp⟩
   rw[List.nil_append]
   exact Jz hl (he.le hn)
  have ix:Vo l e fun x=>Cnd (x<0) ((Sml ([]++l).length/\Sml ([]++l++[e]).length/\((∀x∈[]++l++[e],ExS 5 x)/\([]++l++[e]).length<=l.length+1))/\Sml ([]++l).length/\Sml ([]++l++[e]).length/\((∀x∈[]++l++[e],ExS 5 x)/\([]++l++[e]).length<=l.length+1)) ((∀x∈l,ExS 5 x)/\l.length<=l.length+1):=
   j3j hl fun r _=>Cnd.mk (fun _=>⟨more,more⟩) fun _=>same
  exact Cnd.mk (fun _=>ix) fun _=>q4j fun r _=>Cnd.mk (fun _=>ix) fun _=>same
 ·obtain⟨hr,hlen⟩:=hr
  have hk:=he.kids
  cases n with
  |zero=>
   have hk0:e.kids=[]:=he.2.2.2
   refine Lp2.ind (fun (q:List Ex) (i:Int)=>q=r/\0<=i) (fun _ _=>0) ?_ ⟨rfl,by omega⟩
   rintro q i ⟨rfl,i0⟩ _
   refine Cnd.mk (fun hc=> ?_) fun _=>h _ hr (by simp[lim];omega)
   rw[hk0]
   exact⟨by rw[hk0] at hc;simp at hc;omega,fun y hy=>by simp at hy⟩
  |succ n=>
  refine Lp2.ind (fun (q:List Ex) (i:Int)=>0<=i/\i<=e.kids.length/\(∀x∈q,ExS 5 x)/\q.length<=r.length+i.toNat*lim n) (fun _ (i:Int)=>(e.kids.length - i).toNat) ?_ ⟨by omega,by omega,hr,by simp⟩
  rintro q i ⟨i0,i1,hq,hql⟩ _
  have hle:i.toNat*lim n<=3*lim n:=Nat.mul_le_mul_right _ (by omega)
  have hB:l.length+(1+3*lim n)<=1000000:=hB
  refine Cnd.mk (fun hc=>⟨by omega,fun y hy=> ?_⟩) fun _=>h _ hq (by show q.length<=l.length+(1+3*lim n);omega)
  obtain⟨m,hm,hk⟩:=he.kid (getm hy)
  obtain rfl:m=n:=by omega
  rw[Jl]
  have hle2:i.toNat*lim m<=2*lim m:=Nat.mul_le_mul_right _ (by omega)
  refine ih m (by omega) (by omega) hk hq (by omega) fun s hs hsl=>⟨by unfold InI;omega,⟨by omega,by omega,hs,?_⟩,by omega⟩
  ·rw[show (i+1).toNat=i.toNat+1 by omega,Nat.add_mul,Nat.one_mul];omega
theorem lim4:lim 4=121:=rfl
theorem j4n{l:List Rul}{K:List Ex->Prop}(hl:l.length<=100)(hr: ∀r∈l,ExS 4 r.cond)(h: ∀r,(∀x∈r,ExS 5 x)->r.length<=100000->K r):q0m l K:=by
 unfold q0m q6z
 refine Lp2.ind (fun (q:List Ex) (i:Int)=>0<=i/\i<=l.length/\(∀x∈q,ExS 5 x)/\q.length<=i.toNat*121) (fun _ (i:Int)=>(l.length - i).toNat) ?_ ⟨by omega,by omega,by simp,by simp⟩
 rintro q i ⟨i0,i1,hq,hql⟩ _
 refine Cnd.mk (fun hc=>⟨by omega,fun y hy=> ?_⟩) fun _=>h _ hq (by omega)
 dsimp only;rw[Jl]
 refine j8q 4 (by omega) (hr y (getm hy)) hq (by rw[lim4];omega) fun s hs hsl=>⟨by unfold InI;omega,⟨by omega,by omega,hs,?_⟩,by omega⟩
 rw[lim4] at hsl;omega
def StS(ns:List Nd)(ids:Nd->Option Int):Prop:=Inv ns ids/\ns.length<=4000
theorem OpR.st{p:Prop}{ns:List Nd}{ids:Nd->Option Int}{full:Bool}{f g h r:Int}{ns':List Nd}{ids':Nd->Option Int}{full':Bool}(h:OpR p ns ids full f g h r ns' ids' full')(hS:StS ns ids):StS ns' ids':=by
 rcases h with ⟨_,C⟩|⟨_,_,e1,e2,_⟩
 ·exact⟨C.grew.inv,C.grew.len⟩
 ·rw[e1,e2];exact hS
theorem y45{ns:List Nd}{ids:Nd->Option Int}{full:Bool}{t y n:Int}(hS:StS ns ids):StS (node ns ids full t y n).2.1 (node ns ids full t y n).2.2.1:=by
 by_cases hO:j3o ns t y n
 ·obtain⟨h1,_⟩:=v7a (full:=full) hS.1 hS.2 hO (he:=rfl)
  exact⟨h1.inv,h1.len⟩
 ·rw[v03 hO];exact hS
theorem y46:Inv [] fun _=>none:=⟨⟨fun i h0 hl=>by simp at hl;omega,fun i j h0 hl=>by simp at hl;omega⟩,fun n id=>by simp;omega⟩
theorem j4o: ∀(n:Nat) {ns:List Nd} {ids:Nd->Option Int} {full:Bool} {atoms:List Ex} {e:Ex} {K:Int->List Nd->(Nd->Option Int)->Bool->Prop},ExS n e->(∀x∈atoms,ExS 5 x)->StS ns ids->(∀r ns ids full,StS ns ids->K r ns ids full)->q0n ns ids full atoms e K:=by
 intro n ns ids full atoms e K he ha hS h X hX
 induction n using Nat.strongRecOn generalizing ns ids full e K with
 |_ n ih=>
 refine hX _ _ _ _ _ _ ?_
 unfold q60
 rw[Jl]
 have hop:=he.opK
 have zero:2<=e.op->e.op<=4->(0:Int)<(e.kids.length:Int):=fun a b=>by have:=List.length_pos_iff.2 (hop a b);omega
 have kid: ∀{y:Ex} {ns ids full} {K:Int->List Nd->(Nd->Option Int)->Bool->Prop},y∈e.kids->StS ns ids->(∀r ns ids full,StS ns ids->K r ns ids full)->X ns ids full atoms (Ex.mk y.1 y.2 y.3 y.4 y.5) K:=fun hy hS hK=>by
  obtain⟨m,hm,hk⟩:=he.kid hy
  rw[Jl]
  exact ih m (by omega) hk hS hK
 refine Cnd.mk (fun _=>h _ _ _ _ hS) fun _=>Cnd.mk (fun h4=>⟨⟨by omega,zero (by omega) (by omega)⟩,fun y hy=>kid (getm hy) hS fun r ns ids full hS=>y44 hS.1 hS.2 fun r ns ids full C=>h _ _ _ _ (C.st hS)⟩) fun _=> ?_
 refine Jn1.mk (fun b=>b=true->2<=e.op/\e.op<=4) (Cnd.mk (fun hc _=>by omega) fun _ hd=>by have:=of_decide_eq_true hd;omega) fun b hb=>Cnd.mk (fun hc=>⟨⟨by omega,zero (hb hc).1 (hb hc).2⟩,fun y hy=>kid (getm hy) hS fun r ns ids full hS=> ?_⟩) fun _=> ?_
 ·refine Lp5.ind (fun (_ i:Int) ns _ ids=>1<=i/\i<=e.kids.length+1/\StS ns ids) (fun _ (i:Int) _ _ _=>(e.kids.length+1 - i).toNat) ?_ ⟨by omega,by omega,hS⟩
  rintro f i ns full ids ⟨i0,i1,hS⟩ _
  refine Cnd.mk (fun hc=>⟨by omega,fun y hy=>kid (getm hy) hS fun r ns ids full hS=> ?_⟩) fun _=>h _ _ _ _ hS
  exact Cnd.mk (fun _=>y43 hS.1 hS.2 fun r ns ids full C=>⟨by unfold InI;omega,⟨by omega,by omega,C.st hS⟩,by omega⟩) fun _=>y1s hS.1 hS.2 fun r ns ids full C=>⟨by unfold InI;omega,⟨by omega,by omega,C.st hS⟩,by omega⟩
 ·exact j3j ha fun r hr=>Cnd.mk (fun _=>h _ _ _ _ hS) fun _=>v04 hS.2 (h _ _ _ _ (y45 hS))
theorem q86{l:List Rul}{K:List Int->Int->Bool->Prop}(hl:l.length<=100)(hr: ∀r∈l,ExS 4 r.cond)(h: ∀o n b,o.length<=100->K o n b):V3 l K:=by
 unfold V3 q2r
 refine j4n hl hr fun atoms ha _=> ?_
 refine LpH.ind (fun (x:Int×List Int×Int×List Nd×Bool×(Nd->Option Int)×Unit)=>0<=x.2.2.1/\x.2.2.1<=(l.length:Int)/\(x.2.1.length:Int)<=x.2.2.1/\StS x.2.2.2.1 x.2.2.2.2.2.1) (fun x=>((l.length:Int) - x.2.2.1).toNat) ?_ ⟨by simp,by simp,by simp,y46,by simp⟩
 rintro⟨some_,out,i,ns,full,ids,u⟩ ⟨i0,i1,ho,hS⟩
 simp only at i0 i1 ho hS⊢
 refine fun _=>Cnd.mk (fun hc=>⟨by omega,fun y hy=> ?_⟩) fun _ _=>h _ _ _ (by omega)
 dsimp only;rw[Jl]
 refine j4o 4 (hr y (getm hy)) ha hS fun r ns ids full hS=>y1s hS.1 hS.2 fun r ns ids full C=>Cnd.mk (fun _ _=>h _ _ _ (by simp)) fun _=>Cnd.mk (fun _=> ?_) fun _=> ?_
 ·exact⟨by unfold InI;omega,by unfold Sml;simp;omega,by unfold InI;omega,⟨by omega,by omega,by simp;omega,C.st hS⟩,by omega⟩
 ·exact⟨by unfold InI;omega,⟨by omega,by omega,by omega,C.st hS⟩,by omega⟩
theorem w9i{l m:List ByteArray}(hl:Asc l)(hs: ∀x∈l,x∈m):l.length<=m.length:=v05 (j5o hl) hs
theorem w9j{edges:List Edg}{node:ByteArray}{K:List ByteArray->Prop}(hE:edges.length<=100000)(h: ∀r,Asc r->(∀x∈r,x∈edges.map Edg.dst)->K r):z5z edges node K:=by
 unfold z5z j14
 have len: ∀{o:List ByteArray},Asc o->(∀x∈o,x∈edges.map Edg.dst)->o.length<=edges.length:=fun a b=>by have:=w9i a b;simpa using this
 refine Lp2.ind (fun (o t:List ByteArray)=>Asc o/\(∀x∈o,x∈edges.map Edg.dst)/\t.length<=o.length+1) (fun o t=>2*(edges.length - o.length)+t.length) ?_ ⟨w9a,by simp,by simp⟩
 rintro o t ⟨ho,hs,ht⟩ _
 refine Cnd.mk (fun hc=>⟨by omega,fun n hn=>⟨by omega,?_⟩⟩) fun _=>h o ho hs
 have hlo:=len ho hs
 refine Lp3.ind (fun (o' t':List ByteArray) (i:Int)=>0<=i/\i<=edges.length/\Asc o'/\(∀x∈o',x∈edges.map Edg.dst)/\t'.length<=o'.length/\2*(edges.length - o'.length)+t'.length<2*(edges.length - o.length)+t.length) (fun _ _ (i:Int)=>(edges.length - i).toNat) ?_ ⟨by omega,by omega,ho,hs,by simp;omega,by simp;omega⟩
 rintro o' t' i ⟨i0,i1,ho',hs',ht',hm⟩ _
 have hlo':=len ho' hs'
 refine Cnd.mk (fun hc=>⟨by omega,fun e he=>Cnd.mk (fun _=>⟨by omega,fun e he=>j76 fun r hr=>Cnd.mk (fun _=>⟨by unfold InI;omega,⟨by omega,by omega,ho',hs',ht',hm⟩,by omega⟩) fun hn=>⟨by omega,fun e2 he2=> ?_⟩⟩) fun _=>⟨by unfold InI;omega,⟨by omega,by omega,ho',hs',ht',hm⟩,by omega⟩⟩) fun _=>⟨⟨ho',hs',by omega⟩,hm⟩
 rw[he] at he2;cases he2
 refine j8j ho' (by omega) fun q hq hmem=>⟨by omega,fun e3 he3=> ?_⟩
 rw[he] at he3;cases he3
 have hin:e.dst∈edges.map Edg.dst:=List.mem_map.2 ⟨e,getm he,rfl⟩
 have hq2: ∀x∈q,x∈edges.map Edg.dst:=fun x hx=>by
  rcases (hmem x).1 hx with hx|rfl
  ·exact hs' x hx
  ·exact hin
 have hlq:=len hq hq2
 have hne:e.dst∉o':=fun hx=>hn (hr.2 hx)
 have hlen:o'.length+1<=q.length:=by
  have h1:(e.dst::o').Nodup:=List.nodup_cons.2 ⟨hne,j5o ho'⟩
  exact v05 h1 fun x hx=>(hmem x).2 (by rcases List.mem_cons.1 hx with rfl|hx<;>simp[*])
 have goal:Sml ([]++t').length/\Sml ([]++t'++[e.dst]).length/\InI (i+1)/\((0<=i+1/\i+1<=edges.length/\Asc q/\(∀x∈q,x∈edges.map Edg.dst)/\([]++t'++[e.dst]).length<=q.length/\2*(edges.length - q.length)+([]++t'++[e.dst]).length<2*(edges.length - o.length)+t.length)/\(edges.length - (i+1)).toNat<(edges.length - i).toNat):=
  ⟨by unfold Sml;simp;omega,by unfold Sml;simp;omega,by unfold InI;omega,⟨by omega,by omega,hq,hq2,by simp;omega,by simp;omega⟩,by omega⟩
 exact⟨goal,goal⟩
end Go.En
end
noncomputable section
set_option maxRecDepth 100000
namespace Go.En
open Go Go.Fl Go.Fl.Lk Go.Fx Go.Dg
theorem w6x{nodes:List ByteArray}{edges:List Edg}{K:List ByteArray->Prop}(hN:nodes.length<=100000)(hE:edges.length<=100000)(h: ∀r,Asc r->(∀x∈r,x∈nodes)->K r):z1r nodes edges K:=by
 unfold z1r z7w
 refine Lp2.ind (fun (o:List ByteArray) (i:Int)=>0<=i/\i<=nodes.length/\Asc o/\ ∀x∈o,x∈nodes) (fun _ (i:Int)=>(nodes.length - i).toNat) ?_ ⟨by omega,by omega,w9a,by simp⟩
 rintro o i ⟨i0,i1,ho,hs⟩ _
 have hlo:=w9i ho hs
 refine Cnd.mk (fun hc=>⟨by omega,fun n hn=>⟨by omega,fun m hm=>w9j hE fun q _ _=>j76 fun r _=>Cnd.mk (fun _=>⟨by omega,fun p hp=>j8j ho (by omega) fun o' ho' hmem=>⟨by unfold InI;omega,⟨by omega,by omega,ho',fun x hx=> ?_⟩,by omega⟩⟩) fun _=>⟨by unfold InI;omega,⟨by omega,by omega,ho,hs⟩,by omega⟩⟩⟩) fun _=>h o ho hs
 rcases (hmem x).1 hx with hx|rfl
 ·exact hs x hx
 ·exact getm hp
theorem j3p{nodes:List ByteArray}{edges:List Edg}{K:ByteArray->Bool->Prop}(hN:nodes.length<=100000)(hE:edges.length<=100000)(hs: ∀x∈nodes,x.size<=100)(h: ∀s b,s.size<=100->K s b):z1s nodes edges K:=by
 unfold z1s z7x
 exact w6x hN hE fun r _ hr _=>Cnd.mk (fun _=>h _ _ sz0) fun hc=>⟨by omega,fun y hy=>h _ _ (hs y (hr y (getm hy)))⟩
theorem w32: ∀(n:Nat) {l:List ByteArray} {e:Ex} {K:List ByteArray->Prop},ExS n e->Asc l->l.length+lim n<=1000000->(∀r,Asc r->r.length<=l.length+lim n->K r)->q8q l e K:=by
 intro n l e K he hl hB h X hX
 induction n using Nat.strongRecOn generalizing l e K with
 |_ n ih=>
 refine hX _ _ _ ?_
 unfold z35
 have lp:1<=lim n:=by cases n<;>simp[lim]
 refine Jn1.mk (fun r=>Asc r/\r.length<=l.length+1) (Cnd.mk (fun _=>j8j hl (by omega) fun r hr hmem=>⟨hr,?_⟩) fun _=>⟨hl,by omega⟩) fun r hr=> ?_
 ·have:=w9i hr (m:=e.3::l) fun x hx=>by rcases (hmem x).1 hx with hx|rfl<;>simp[*]
  simpa using this
 ·obtain⟨hr,hlen⟩:=hr
  have hk:=he.kids
  cases n with
  |zero=>
   have hk0:e.kids=[]:=he.2.2.2
   refine Lp2.ind (fun (q:List ByteArray) (i:Int)=>q=r/\0<=i) (fun _ _=>0) ?_ ⟨rfl,by omega⟩
   rintro q i ⟨rfl,i0⟩ _
   refine Cnd.mk (fun hc=> ?_) fun _=>h _ hr (by simp[lim];omega)
   rw[hk0]
   exact⟨by rw[hk0] at hc;simp at hc;omega,fun y hy=>by simp at hy⟩
  |succ n=>
  refine Lp2.ind (fun (q:List ByteArray) (i:Int)=>0<=i/\i<=e.kids.length/\Asc q/\q.length<=r.length+i.toNat*lim n) (fun _ (i:Int)=>(e.kids.length - i).toNat) ?_ ⟨by omega,by omega,hr,by simp⟩
  rintro q i ⟨i0,i1,hq,hql⟩ _
  have hle:i.toNat*lim n<=3*lim n:=Nat.mul_le_mul_right _ (by omega)
  have hB:l.length+(1+3*lim n)<=1000000:=hB
  refine Cnd.mk (fun hc=>⟨by omega,fun y hy=> ?_⟩) fun _=>h _ hq (by show q.length<=l.length+(1+3*lim n);omega)
  obtain⟨m,hm,hk⟩:=he.kid (getm hy)
  obtain rfl:m=n:=by omega
  rw[Jl]
  have hle2:i.toNat*lim m<=2*lim m:=Nat.mul_le_mul_right _ (by omega)
  refine ih m (by omega) hk hq (by omega) fun s hs hsl=>⟨by unfold InI;omega,⟨by omega,by omega,hs,?_⟩,by omega⟩
  rw[show (i+1).toNat=i.toNat+1 by omega,Nat.add_mul,Nat.one_mul];omega
theorem w33{e:Ex}{K:List ByteArray->Prop}(he:ExS 4 e)(h: ∀r,Asc r->r.length<=121->K r):q8r e K:=by
 unfold q8r z36
 rw[Jl]
 exact w32 4 he w9a (by decide) fun r hr hl=>h r hr (by rw[lim4] at hl;simpa using hl)
theorem w6y{l:List Seg}{K:List Edg->Prop}(hl:l.length<=100)(hs: ∀g∈l,SegS g)(h: ∀r,r.length<=100000->K r):z1q l K:=by
 unfold z1q z7v
 refine Lp2.ind (fun (r:List Edg) (i:Int)=>0<=i/\i<=l.length/\r.length<=i.toNat*121) (fun _ (i:Int)=>(l.length - i).toNat) ?_ ⟨by omega,by omega,by simp⟩
 rintro r i ⟨i0,i1,hr⟩ _
 refine Cnd.mk (fun hc=>⟨by omega,fun g hg=> ?_⟩) fun _=>h _ (by omega)
 dsimp only;rw[Jl]
 refine w33 (hs g (getm hg)).cond fun q _ hq=> ?_
 refine Lp2.ind (fun (p:List Edg) (j:Int)=>0<=j/\j<=q.length/\p.length<=r.length+j.toNat) (fun _ (j:Int)=>(q.length - j).toNat) ?_ ⟨by omega,by omega,by simp⟩
 rintro p j ⟨j0,j1,hp⟩ _
 exact Cnd.mk (fun hc=>⟨by omega,fun _ _=>⟨by omega,fun _ _=>⟨by unfold Sml;simp;omega,by unfold InI;omega,⟨by omega,by omega,by simp;omega⟩,by omega⟩⟩⟩) fun _=>⟨by unfold InI;omega,⟨by omega,by omega,by omega⟩,by omega⟩
theorem w00{l:List Decl}{kind name:ByteArray}{K:Int->Prop}(h: ∀r,K r):q4a l kind name K:=by
 unfold q4a
 refine Lp1.ind (fun (i:Int)=>0<=i/\i<=l.length) (fun (i:Int)=>(l.length - i).toNat) ?_ ⟨by omega,by omega⟩
 rintro i ⟨i0,i1⟩
 (repeat' (first|exact h _|assumption|(unfold InI;omega)|omega|refine Cnd.mk (fun _=> ?_) fun _=> ?_|refine⟨?_,?_⟩|intro _))
theorem j28: ∀(n:Nat) {l:List Decl} {segs:List ByteArray} {e:Ex} {K:Int->Prop},ExS n e->(∀r,K r)->z0p l segs e K:=by
 intro n l segs e K he h X hX
 induction n using Nat.strongRecOn generalizing e K with
 |_ n ih=>
 refine hX _ _ _ _ ?_
 unfold j6q
 have lp:Lp1 (fun (Qa:Int) q8c=>e.5.length<=(9223372036854775807:Nat)->Cnd (Qa<(↑e.5.length:Int)) (((0:Int)<=Qa/\Qa<(↑e.5.length:Int))/\ ∀y2,e.5[Qa.toNat]? =some y2->X l segs (Ex.mk y2.1 y2.2 y2.3 y2.4 y2.5) fun Qp=>Cnd (Qp=(0:Int)) (InI (Qa+(1:Int))/\q8c (Qa+(1:Int))) (K Qp)) (K (0:Int))) (0:Int):=by
  refine Lp1.ind (fun (i:Int)=>0<=i/\i<=e.kids.length) (fun (i:Int)=>(e.kids.length - i).toNat) ?_ ⟨by omega,by omega⟩
  rintro i ⟨i0,i1⟩ _
  refine Cnd.mk (fun hc=>⟨by omega,fun y hy=> ?_⟩) fun _=>h _
  obtain⟨m,hm,hk⟩:=he.kid (getm hy)
  rw[Jl]
  exact ih m (by omega) hk fun r=>Cnd.mk (fun _=>⟨by unfold InI;omega,⟨by omega,by omega⟩,by omega⟩) fun _=>h _
 have jn:Jn0 (Lp1 (fun (Qa:Int) q8c=>e.5.length<=(9223372036854775807:Nat)->Cnd (Qa<(↑e.5.length:Int)) (((0:Int)<=Qa/\Qa<(↑e.5.length:Int))/\ ∀y2,e.5[Qa.toNat]? =some y2->X l segs (Ex.mk y2.1 y2.2 y2.3 y2.4 y2.5) fun Qp=>Cnd (Qp=(0:Int)) (InI (Qa+(1:Int))/\q8c (Qa+(1:Int))) (K Qp)) (K (0:Int))) (0:Int)) fun Qa=>J8 e.1 fun Qc=>Cnd (Qc=true) (q4a l e.2 e.3 fun Qh=>Cnd (Qh=(0:Int)) (K (11:Int)) (q7c Qh (Ex.mk e.1 e.2 e.3 e.4 e.5) fun Qk=>Cnd (Qk=true) Qa (K (8:Int)))) Qa:=
  ⟨True,fun _=>lp,q4j fun _ _=>Cnd.mk (fun _=>w00 fun _=>Cnd.mk (fun _=>h _) fun _=>v2w fun _=>Cnd.mk (fun _=>trivial) fun _=>h _) fun _=>trivial⟩
 exact Cnd.mk (fun _=>j76 fun _ _=>Cnd.mk (fun _=>jn) fun _=>h _) fun _=>jn
theorem j8r{l:List Decl}{s:Srv}{K:Int->Prop}(h: ∀r,K r):z50 l s K:=by
 unfold z50 j15
 (repeat' (first|exact h _|refine w00 fun _=> ?_|assumption|(unfold InI;omega)|omega|refine Cnd.mk (fun _=> ?_) fun _=> ?_|refine⟨?_,?_⟩|intro _))
theorem j4p{v:Envt}{f:Flg}{K:Int->Prop}(hv:EnvS v)(hf:FlgS f)(h: ∀r,K r):q0y v f K:=by
 unfold q0y q7g
 have ev:Envt.mk (Sett.mk v.1.1 v.1.2 v.1.3) v.2 v.3 v.4 v.5 v.6=v:=rfl
 rw[ev]
 have hsl:=hv.slen
 have hrl:=hf.rlen
 refine z8v (by omega) ?_
 refine Lp2.ind (fun (i:Int) (_:List ByteArray)=>0<=i/\i<=f.needs.length) (fun (i:Int) _=>(f.needs.length - i).toNat) ?_ ⟨by omega,by omega⟩
 rintro i ks ⟨i0,i1⟩ _
 refine Cnd.mk (fun hc=>⟨by omega,fun q hq=>j0s fun r hr=>Cnd.mk (fun _=>h _) fun hn=>⟨by omega,fun q hq=>⟨?_,fun g hg _=>Cnd.mk (fun _=>h _) fun _=>⟨by unfold InI;omega,⟨by omega,by omega⟩,by omega⟩⟩⟩⟩) fun _=> ?_
 ·rcases hr with ⟨a,_⟩|⟨a,b,_⟩<;>omega
 refine Lp2.ind (fun (i:Int) (_:List ByteArray)=>0<=i/\i<=f.rules.length) (fun (i:Int) _=>(f.rules.length - i).toNat) ?_ ⟨by omega,by omega⟩
 rintro i ks ⟨i0,i1⟩ _
 refine Cnd.mk (fun hc=>⟨by omega,fun r hr=> ?_⟩) fun _=> ?_
 ·dsimp only;rw[Jl]
  exact j28 4 (hf.rules r (getm hr)).cond fun _=>Cnd.mk (fun _=>⟨by omega,fun r hr=>j8r fun _=>Cnd.mk (fun _=>⟨by unfold InI;omega,⟨by omega,by omega⟩,by omega⟩) fun _=>h _⟩) fun _=>h _
 ·exact j8r fun _=>Cnd.mk (fun _=>q86 (by omega) (fun r hr=>(hf.rules r hr).cond) fun o n b ho=>Cnd.mk (fun _ _=>Cnd.mk (fun _=>h _) fun _=>h _) fun _=>h _) fun _=>h _
theorem z3j{v:Envt}{i:Int}{K:Int->Prop}(hv:EnvS v)(i0:0<=i)(i1:i<v.experiments.length)(h: ∀r,K r):Va v i K:=by
 unfold Va G8
 have ev:Envt.mk (Sett.mk v.1.1 v.1.2 v.1.3) v.2 v.3 v.4 v.5 v.6=v:=rfl
 rw[ev]
 have hsl:=hv.slen
 have hxl:=hv.xlen
 refine⟨⟨i0,i1⟩,fun x hx=>q9z fun k hk=>j0s fun g hg=>Cnd.mk (fun _=>h _) fun hk0=>Cnd.mk (fun _=>h _) fun hg0=> ?_⟩
 have hX:=hv.exps x (getm hx)
 have kb:0<=k/\k<(v.layers.length:Int):=by rcases hk with ⟨a,_⟩|⟨a,b,_⟩<;>omega
 have gb:0<=g/\g<(v.flags.length:Int):=by rcases hg with ⟨a,_⟩|⟨a,b,_⟩<;>omega
 refine Lp1.ind (fun (j:Int)=>0<=j/\j<=x.arms.length) (fun (j:Int)=>(x.arms.length - j).toNat) ?_ ⟨by omega,by omega⟩
 rintro j ⟨j0,j1⟩ _
 refine Cnd.mk (fun hc=>⟨by omega,fun _ _=>⟨gb,fun _ _ _=>Cnd.mk (fun _=>h _) fun _=>⟨by unfold InI;omega,⟨by omega,by omega⟩,by omega⟩⟩⟩) fun _=> ?_
 refine z8v (by omega) ?_
 rw[Jl]
 refine j28 4 hX.cond fun _=>Cnd.mk (fun _=>Cnd.mk (fun _=>h _) fun _=>⟨kb,fun l hl=> ?_⟩) fun _=>h _
 refine Lp3.ind (fun (t:List Spn) (j:Int) (_:List ByteArray)=>0<=j/\j<=v.experiments.length/\(t.length:Int)<=1+j*10000) (fun _ (j:Int) _=>(v.experiments.length - j).toNat) ?_ ⟨by omega,by omega,by simp⟩
 rintro t j ks ⟨j0,j1,ht⟩
 refine Cnd.mk (fun hc=>⟨by omega,fun y hy=> ?_⟩) fun _=>w3r fun c _ _=>Cnd.mk (fun _=>h _) fun _=> ?_
 ·have hcl:=(hv.exps y (getm hy)).claims.len
  exact Cnd.mk (fun _=>Cnd.mk (fun _=>⟨by unfold InI;omega,⟨by omega,by omega,by omega⟩,by omega⟩) fun _=>⟨by unfold Sml;simp;omega,by unfold InI;omega,⟨by omega,by omega,by simp;omega⟩,by omega⟩) fun _=>⟨by unfold InI;omega,⟨by omega,by omega,by omega⟩,by omega⟩
 ·refine Lp4.ind (fun (j:Int) (_ _:List Spn) (_:List ByteArray)=>0<=j/\j<=v.experiments.length) (fun (j:Int) _ _ _=>(v.experiments.length - j).toNat) ?_ ⟨by omega,by omega⟩
  rintro j a b c ⟨j0,j1⟩
  (repeat' (first|exact h _|assumption|(unfold InI;omega)|omega|refine Cnd.mk (fun _=> ?_) fun _=> ?_|refine⟨?_,?_⟩|intro _))
theorem j0z{v:Envt}{K:ByteArray->Int->Prop}(hv:EnvS v)(h: ∀s r,K s r):Hw v K:=by
 unfold Hw q2u
 have hsl:=hv.slen
 have hfl:=hv.flen
 have hxl:=hv.xlen
 have ev:Envt.mk (Sett.mk v.1.1 v.1.2 v.1.3) v.2 v.3 v.4 v.5 v.6=v:=rfl
 rw[ev]
 have s8:(ByteArray.mk (Array.mk [115,101,103,109,101,110,116,32])).size=8:=rfl
 have s5:(ByteArray.mk (Array.mk [102,108,97,103,32])).size=5:=rfl
 have s11:(ByteArray.mk (Array.mk [101,120,112,101,114,105,109,101,110,116,32])).size=11:=rfl
 have sk: ∀x∈v.segments.map Seg.key,x.size<=100:=fun x hx=>by obtain⟨g,hg,rfl⟩:=List.mem_map.1 hx;exact (hv.segs g hg).key
 have fk: ∀x∈v.flags.map Flg.key,x.size<=100:=fun x hx=>by obtain⟨g,hg,rfl⟩:=List.mem_map.1 hx;exact (hv.flags g hg).key
 have nlen:(v.flags.flatMap z2q).length<=4*v.flags.length:=by
  have: ∀l:List Flg,(∀f∈l,FlgS f)->(l.flatMap z2q).length<=4*l.length:=by
   intro l
   induction l with
   |nil=>simp
   |cons f l ih=>intro hf;have h1:=(hf f (by simp)).nlen;have h2:=ih fun g hg=>hf g (by simp[hg]);simp only[List.flatMap_cons,List.length_append,z2q,List.length_map,List.length_cons] at*;omega
  exact this _ hv.flags
 refine j26 hv fun _=>Cnd.mk (fun _=>z8v (by omega) ?_) fun _=>h _ _
 refine Lp2.ind (fun (i:Int) (ks:List ByteArray)=>0<=i/\i<=v.segments.length/\ks=v.segments.map Seg.key) (fun (i:Int) _=>(v.segments.length - i).toNat) ?_ ⟨by omega,by omega,rfl⟩
 rintro i ks ⟨i0,i1,rfl⟩ _
 refine Cnd.mk (fun hc=>⟨by omega,fun g hg=>Cnd.mk (fun _=>⟨by unfold InI;omega,⟨by omega,by omega,rfl⟩,by omega⟩) fun _=>⟨by omega,fun g hg=> ?_⟩⟩) fun _=> ?_
 ·dsimp only;rw[Jl]
  refine j28 4 (hv.segs g (getm hg)).cond fun _=>Cnd.mk (fun _=>⟨by unfold InI;omega,⟨by omega,by omega,rfl⟩,by omega⟩) fun _=>⟨by omega,fun g hg=>⟨?_,h _ _⟩⟩
  have:=(hv.segs g (getm hg)).key
  rw[s8];omega
 refine w6y (by omega) hv.segs fun es hes=>j3p (by simp;omega) hes sk fun s b hs=>Cnd.mk (fun _=>⟨by rw[s8];omega,h _ _⟩) fun _=> ?_
 refine Lp3.ind (fun (i:Int) (_:List ByteArray) (_:List Edg)=>0<=i/\i<=v.flags.length) (fun (i:Int) _ _=>(v.flags.length - i).toNat) ?_ ⟨by omega,by omega⟩
 rintro i ks es ⟨i0,i1⟩ _
 refine Cnd.mk (fun hc=>⟨by omega,fun f hf=>j4p hv (hv.flags f (getm hf)) fun _=>Cnd.mk (fun _=>⟨by unfold InI;omega,⟨by omega,by omega⟩,by omega⟩) fun _=>⟨by omega,fun g hg=>⟨?_,h _ _⟩⟩⟩) fun _=> ?_
 ·have:=(hv.flags g (getm hg)).key
  rw[s5];omega
 refine j8a (by omega) (j4f (by omega) (fun f hf=>by have:=(hv.flags f hf).nlen;omega) (j3p (by simp;omega) (by omega) fk fun s b hs=>Cnd.mk (fun _=>⟨by rw[s5];omega,h _ _⟩) fun _=> ?_))
 refine Lp5.ind (fun (i:Int) (_:List ByteArray) (_ _:List Edg) (_:List ByteArray)=>0<=i/\i<=v.experiments.length) (fun (i:Int) _ _ _ _=>(v.experiments.length - i).toNat) ?_ ⟨by omega,by omega⟩
 rintro i a b c d ⟨i0,i1⟩ _
 refine Cnd.mk (fun hc=>z3j hv i0 hc fun _=>Cnd.mk (fun _=>⟨by unfold InI;omega,⟨by omega,by omega⟩,by omega⟩) fun _=>⟨by omega,fun x hx=>⟨?_,h _ _⟩⟩) fun _=>h _ _
 have:=(hv.exps x (getm hx)).key
 rw[s11];omega
theorem j3q{v:Envt}{K:Bool->Prop}(hv:EnvS v)(h: ∀r,K r):Bp v K:=by
 unfold Bp z7y
 exact j0z hv fun _ _=>h _
end Go.En
end
noncomputable section
set_option maxRecDepth 100000
namespace Go.En
open Go Go.Fl Go.Fl.Lk Go.Fx Go.Sg
def sgK:List ByteArray:=[ByteArray.mk (Array.mk [97,108,112,104,97]),ByteArray.mk (Array.mk [98,101,116,97]),ByteArray.mk (Array.mk [103,97,109,109,97])]
structure GS(l:List Seg):Prop where
 keys:l.map Seg.key=sgK.take l.length
 cond: ∀(i:Nat) g,l[i]? =some g->DrE (sgK.take i) 20000 g.5
theorem DrE.le{segs:List ByteArray}{a b:Nat}{e:Ex}(h:DrE segs a e)(hab:a<=b):DrE segs b e:=⟨Nat.le_trans h.wt hab,h.nms,h.ev⟩
theorem DrE.eta{segs:List ByteArray}{w:Nat}{e:Ex}(h:DrE segs w e):DrE segs w (Ex.mk e.1 e.2 e.3 e.4 e.5):=by rw[Jl];exact h
theorem y1t:GS []:=⟨rfl,by simp⟩
theorem y0f{segs:List ByteArray}:DrE segs 20000 (Ex.mk 0 (ByteArray.mk (Array.mk [])) (ByteArray.mk (Array.mk [])) [] []):=
 ⟨by simp[wt,wtV,wtL],fun x hx=>by rw[w0z] at hx;rcases hx with ⟨h,_⟩|⟨k,hk,_⟩<;>simp at*,EvB.mk' (by simp) (by simp)⟩
theorem w34{list:List Int}{at_ hold:Int}{salt hkind:ByteArray}{attrs:List Decl}{flags:List Flg}{layers:List Lay_}{expers:List Exper}
  {K:Int->ByteArray->ByteArray->Int->List Decl->List Seg->List Flg->List Lay_->List Exper->Prop}(hD:DS list at_)
  (h: ∀a segs,DS list a->segs.length<=3->(∀g∈segs,SegS g)->GS segs->K a salt hkind hold attrs segs flags layers expers):q8l list at_ salt hkind hold attrs [] flags layers expers K:=by
 unfold q8l z3t
 refine Qd hD (by decide) fun n a n0 n1 hD=>j0q n0 (by simp only[List.length_cons,List.length_nil];omega) ?_
 rw[show ([ByteArray.mk (Array.mk [97,108,112,104,97]),ByteArray.mk (Array.mk [98,101,116,97]),ByteArray.mk (Array.mk [103,97,109,109,97])]:List ByteArray)=sgK from rfl]
 have nms: ∀s∈List.take n.toNat sgK,s.size<=100:=fun s hs=>by
  have:=List.mem_of_mem_take hs
  have k: ∀s∈sgK,s.size<=100:=by decide
  exact k s this
 have hlen:(List.take n.toNat sgK).length<=3:=by
  rw[List.length_take];have:sgK.length=3:=rfl;omega
 have hfst: ∀i,i<=(List.take n.toNat sgK).length->(List.take n.toNat sgK).take i=sgK.take i:=fun i hi=>by
  rw[List.take_take,Nat.min_eq_left]
  rw[List.length_take] at hi;omega
 generalize List.take n.toNat _=l at nms hlen hfst
 refine Lp3.ind (fun (i a:Int) (gs:List Seg)=>DS list a/\0<=i/\i<=l.length/\(gs.length:Int)=i/\(∀g∈gs,SegS g)/\GS gs) (fun (i:Int) _ _=>(3 - i).toNat) ?_ ⟨hD,Int.le_refl 0,by omega,rfl,by simp,y1t⟩
 rintro i a gs ⟨hD,i0,i1,hl,hg,hgs⟩ _
 refine Cnd.mk (fun hc=>⟨by omega,fun y hy=>j71 hD fun inc a hi1 _ hD=>j71 hD fun exc a he1 _ hD=> ?_⟩) fun _=>h _ _ hD (by omega) hg hgs
 refine Jn2.mk (fun k a=>k.size<=100/\DS list a) (Qd hD (by decide) fun r a r0 r1 hD=>Cnd.mk (fun _=>⟨by decide,hD⟩) fun _=>⟨by decide,hD⟩) fun kind a hx=> ?_
 obtain⟨hkd,hD⟩:=hx
 refine Jn1.mk (fun x=>(ExS 4 (Ex.mk x.1 x.2.1 x.2.2.1 x.2.2.2.1 x.2.2.2.2.1)/\DrE (l.take i.toNat) 20000 (Ex.mk x.1 x.2.1 x.2.2.1 x.2.2.2.1 x.2.2.2.2.1))/\DS list x.2.2.2.2.2.1) (Qd hD (by decide) fun r a r0 r1 hD=>Cnd.mk (fun _=>⟨by omega,?_⟩) fun _=>⟨⟨ExS.le (n:=0) ⟨.nil,⟨sz0,sz0⟩,opl (by simp),rfl⟩ (by omega),y0f⟩,hD⟩) fun x hx=> ?_
 ·exact j23 ((w9b fun s hs=>nms s (List.mem_of_mem_take (List.mem_of_mem_drop hs))).and v68) 2 (by omega) (by decide) (by decide) hD fun e a he hD=>⟨⟨he.1.eta,(he.2.le (by decide)).eta⟩,hD⟩
 ·have hk:l[i.toNat]? =some y:=hy
  refine⟨by unfold Sml;simp;omega,by unfold InI;omega,⟨hx.2,by omega,by omega,by simp;omega,Jz hg ⟨nms _ (getm hy),hkd,hi1,he1,hx.1.1⟩,?_,fun j g hj=> ?_⟩,by omega⟩
  ·rw[List.map_append,hgs.keys,List.length_append,List.length_singleton,←hfst _ (by omega),←hfst _ (by omega),List.take_add_one,show l[gs.length]? =some y by rw[←hk];congr 1;omega]
   rfl
  ·rcases Nat.lt_or_ge j gs.length with hlt|hge
   ·rw[List.getElem?_append_left hlt] at hj;exact hgs.cond j g hj
   ·rw[List.getElem?_append_right hge] at hj
    have hj0:j=gs.length:=by
     rcases Nat.eq_zero_or_pos (j - gs.length) with h0|h0
     ·omega
     ·rw[List.getElem?_eq_none (by simp;omega)] at hj;cases hj
    subst hj0
    simp only[Nat.sub_self,List.getElem?_cons_zero,Option.some.injEq] at hj
    subst hj
    rw[←hfst _ (by omega),show gs.length=i.toNat by omega]
    exact hx.1.2
end Go.En
end
noncomputable section
set_option maxRecDepth 100000
namespace Go.En
open Go Go.Fl Go.Fl.Lk Go.Fx Go.Dg
theorem w35{l:List ByteArray}{n:Nat}{p:ByteArray->Prop}(h: ∀x∈l,p x): ∀x∈l.take n,p x:=fun x hx=>h x (List.mem_of_mem_take hx)
theorem v3b{ds:List Decl}(hd: ∀d∈ds,d.kind.size<=100/\d.name.size<=100):EnvS (Envt.mk (Sett.mk (ByteArray.mk (Array.mk [])) (ByteArray.mk (Array.mk [])) 0) ds [] [] [] []):=
 ⟨sz0,hd,by simp,by simp,by simp,by simp,by simp,by simp,by simp,by simp⟩
theorem y9s:ExS 4 (Ex.mk 1 (ByteArray.mk (Array.mk [])) (ByteArray.mk (Array.mk [])) [] []):=ExS.le (n:=0) ⟨VsS.nil,⟨sz0,sz0⟩,opl (by simp),rfl⟩ (by decide)
end Go.En
end
noncomputable section
set_option maxRecDepth 100000
namespace Go.En
open Go Go.Fl Go.Fl.Lk Go.Fx Go.Dg
def Cov(l:List Rng):Prop:= ∀b:Int,0<=b->b<10000-> ∃r∈l,r.1<=b/\b<r.2
theorem j3r{list:List Int}{at_ n:Int}{K:List Rng->Int->Prop}(hD:DS list at_)(hn:1<=n)(hn':n<=100)(h: ∀l a,SplS n l->Cov l->DS list a->K l a):z3u list at_ n K:=by
 unfold z3u j6h
 have cv1: ∀{l:List Rng} {x y z:Int},(∀b:Int,0<=b->b<x-> ∃r∈l,r.1<=b/\b<r.2)-> ∀b:Int,0<=b->b<y-> ∃r∈l++[Rng.mk x y z],r.1<=b/\b<r.2:=fun {l x y z} hc b h0 h1=>by
  by_cases hb:b<x
  ·obtain⟨r,hr,hh⟩:=hc b h0 hb
   exact⟨r,List.mem_append_left _ hr,hh⟩
  ·exact⟨_,List.mem_append_right _ List.mem_cons_self,by simp only;omega,h1⟩
 refine Jn4.mk (fun l at_ last a=>DS list a/\l.length<=3/\0<=at_/\(∀b:Int,0<=b->b<at_-> ∃r∈l,r.1<=b/\b<r.2)/\ ∀r∈l,0<=r.lo/\r.hi<=10000/\1<=r.variation/\r.variation<=n) ?_ ?_
 ·refine Lp5.ind (fun l at_ last i a=>DS list a/\0<=i/\i<=3/\(l.length:Int)=i/\0<=at_/\at_<=10000/\0<=last/\last<=n/\(∀b:Int,0<=b->b<at_-> ∃r∈l,r.1<=b/\b<r.2)/\ ∀r∈l,0<=r.lo/\r.hi<=10000/\1<=r.variation/\r.variation<=n) (fun _ _ _ i _=>(3 - i).toNat) ?_ ⟨hD,by omega,by omega,rfl,by omega,by omega,by omega,by omega,fun b h0 h1=>by omega,by simp⟩
  rintro l at_ last i a ⟨hD,i0,i1,hl,a0,a1,l0,l1,hcv,hr⟩
  refine Qd hD (by decide) fun q a q0 q1 hD=>Cnd.mk (fun _=>Cnd.mk (fun _=>⟨by unfold InI;omega,q4h hD (by decide) fun w a w0 w1 hD=>⟨by unfold InI;omega,Qd hD hn fun v a v0 v1 hD=>⟨by unfold InI;omega,?_⟩⟩⟩) fun _=> ?_) fun _=> ?_
  ·have m0:=Int.tmod_nonneg n (show 0<=1+v by omega);have m1:=Int.tmod_lt_of_pos (1+v) (b:=n) (by omega)
   refine Jn1.mk (fun v=>1<=v/\v<=n) (Cnd.mk (fun _=>⟨by omega,by unfold InI;omega,by omega,by omega⟩) fun _=>⟨by omega,by omega⟩) fun v hv=>Cnd.mk (fun _=>⟨hD,by omega,a0,hcv,hr⟩) fun _=> ?_
   exact⟨by unfold Sml;simp;omega,by unfold InI;omega,⟨hD,by omega,by omega,by simp;omega,by omega,by omega,by omega,by omega,cv1 hcv,Jz hr ⟨by simp only;omega,by simp only;omega,by simp only;omega,by simp only;omega⟩⟩,by omega⟩
  ·exact⟨hD,by omega,a0,hcv,hr⟩
  ·exact⟨hD,by omega,a0,hcv,hr⟩
 ·rintro l at_ last a ⟨hD,hl,a0,hcv,hr⟩
  refine Qd hD hn fun v a v0 v1 hD=>⟨by unfold InI;omega,?_⟩
  have m0:=Int.tmod_nonneg n (show 0<=1+v by omega);have m1:=Int.tmod_lt_of_pos (1+v) (b:=n) (by omega)
  refine Jn1.mk (fun v=>1<=v/\v<=n) (Cnd.mk (fun _=>⟨by omega,by unfold InI;omega,by omega,by omega⟩) fun _=>⟨by omega,by omega⟩) fun v hv=> ?_
  exact⟨by unfold Sml;simp;omega,h _ _ ⟨by simp;omega,Jz hr ⟨a0,by simp,hv.1,hv.2⟩⟩ (cv1 hcv) hD⟩
structure SrvD(n:Int)(s:Srv):Prop where
 ok:SrvS n s
 cov:s.variation=0->Cov s.split
theorem j3s{list:List Int}{at_ n:Int}{K:Srv->Int->Prop}(hD:DS list at_)(hn:1<=n)(hn':n<=100)(h: ∀s a,SrvD n s->DS list a->K s a):z9n list at_ n K:=by
 unfold z9n j6i
 have tt: ∀s∈z9j,s.size<=100:=by decide
 have key:(ByteArray.mk (Array.mk [107,101,121])).size<=100:=by decide
 refine Qd hD (by decide) fun r a r0 r1 hD=>Cnd.mk (fun _=>Qd hD hn fun v a v0 v1 hD=>⟨by unfold InI;omega,h _ _ ⟨⟨sz0,⟨by simp only;omega,by simp only;omega⟩,⟨by simp,by simp⟩,sz0,sz0⟩,fun h0=>by simp only at h0;omega⟩ hD⟩) fun _=> ?_
 refine z0x hD fun t a ht hD=>j3r hD hn hn' fun l a hl hcv hD=>q14 fun ds _ hds=>Qd hD (by decide) fun q a q0 q1 hD _=> ?_
 have usr:(ByteArray.mk (Array.mk [117,115,101,114])).size<=100:=by decide
 have ok: ∀{k b:ByteArray},k.size<=100->b.size<=100->SrvD n (Srv.mk 0 k b t l):=fun hk hb=>⟨⟨hk,⟨by simp,by simp only;omega⟩,hl,hb,tt _ ht⟩,fun _=>hcv⟩
 refine Cnd.mk (fun _=>⟨by omega,fun y hy=>Cnd.mk (fun _=>h _ _ (ok usr key) hD) fun _=>⟨by omega,fun z hz=>⟨by omega,fun u hu=>h _ _ (ok (hds z (getm hz)).1 (hds u (getm hu)).2.1) hD⟩⟩⟩) fun _=>h _ _ (ok usr key) hD
theorem w6z{list:List Int}{at_ kind:Int}{K:Val->Int->Prop}(hk0:1<=kind)(hk1:kind<=5)(hD:DS list at_)(h: ∀r a,ValS r->r.kind=kind->DS list a->K r a):Rv list at_ kind K:=by
 unfold Rv z9l
 have tt: ∀s∈z9j,s.size<=100:=by decide
 have tv: ∀s∈z3r,s.size<=100:=by decide
 have tl: ∀l∈j6e,l.length<=10/\ ∀s∈l,s.size<=100:=by decide
 refine Cnd.mk (fun _=> ?_) fun _=>Cnd.mk (fun _=>fun _=> ?_) fun _=>Cnd.mk (fun _=> ?_) fun _=>Cnd.mk (fun _=> ?_) fun _=> ?_
 ·exact Qd hD (by decide) fun r a r0 r1 hD=>h _ _ ⟨by unfold InI;simp only;omega,sz0,by simp,by simp⟩ rfl hD
 ·refine Qd hD (by decide) fun r a r0 r1 hD=>⟨⟨r0,r1⟩,fun y hy=>h _ _ ⟨?_,sz0,by simp,by simp⟩ rfl hD⟩
  have:=getm hy
  have k: ∀y∈[(0:Int),(1:Int),(17:Int),(18:Int),(19:Int),(-5:Int),(64:Int),(1099511627776:Int),(-1099511627776:Int)], -9223372036854775808<=y/\y<=9223372036854775807:=by decide
  exact k y this
 ·exact z0x hD fun r a hr hD=>h _ _ ⟨by unfold InI;simp,tt _ hr,by simp,by simp⟩ rfl hD
 ·exact Qd hD (by decide) fun r a r0 r1 hD=>⟨⟨r0,r1⟩,fun y hy=>h _ _ ⟨by unfold InI;simp,tv _ (getm hy),by simp,by simp⟩ rfl hD⟩
 ·refine Qd hD (by decide) fun r a r0 r1 hD=>⟨⟨r0,r1⟩,fun y hy=> ?_⟩
  obtain⟨a1,a2⟩:=tl _ (getm hy)
  exact⟨by unfold Sml;simp;omega,h _ _ ⟨by unfold InI;simp,sz0,by simpa using a1,by simpa using a2⟩ (by simp only;omega) hD⟩
def flK:List ByteArray:=[ByteArray.mk (Array.mk [102,97]),ByteArray.mk (Array.mk [102,98]),ByteArray.mk (Array.mk [102,99]),ByteArray.mk (Array.mk [102,100])]
def lyK:List ByteArray:=[ByteArray.mk (Array.mk [108,97]),ByteArray.mk (Array.mk [108,98])]
def exK:List ByteArray:=[ByteArray.mk (Array.mk [120,97]),ByteArray.mk (Array.mk [120,98]),ByteArray.mk (Array.mk [120,99])]
structure RulD(n:Int)(r:Rul):Prop where
 cond:DrE sgK 20000 r.cond
 serve:SrvD n r.serve
structure FlgD(prev:List Flg)(f:Flg):Prop where
 kind:1<=f.kind/\f.kind<=5
 kinds: ∀v∈f.variations,v.kind=f.kind
 off:1<=f.off/\f.off<=f.variations.length
 needs: ∀q∈f.needs,∃g∈prev,q.flag=g.key/\1<=q.variation/\q.variation<=g.variations.length
 nsub:(f.needs.map Prq.flag).Sublist (prev.map Flg.key)
 tgts: ∀t∈f.targets,(1<=t.variation/\t.variation<=f.variations.length)/\t.keys.length<=3
 rules: ∀r∈f.rules,RulD f.variations.length r
 dflt:SrvD f.variations.length f.dflt
theorem y0g{l a:List ByteArray}{j:Nat}{k:ByteArray}(h:a.Sublist (l.take j))(hk:l[j]? =some k):(a++[k]).Sublist (l.take (j+1)):=by
 rw[List.take_add_one,hk];exact h.append (List.Sublist.refl _)
theorem y0h{l a:List ByteArray}{j:Nat}(h:a.Sublist (l.take j)):a.Sublist (l.take (j+1)):=by
 rw[List.take_add_one];exact h.trans (List.sublist_append_left _ _)
structure FlgsD(l:List Flg):Prop where
 keys:l.map Flg.key=flK.take l.length
 all: ∀(i:Nat) f,l[i]? =some f->FlgD (l.take i) f
structure ExpD(layers:List Lay_)(flags:List Flg)(x:Exper):Prop where
 cov:Cov x.arms
 cond:DrE sgK 20000 x.cond
 layer: ∃l∈layers,x.layer=l.key
 flag: ∃f∈flags,x.flag=f.key/\ ∀r∈x.arms,1<=r.variation/\r.variation<=f.variations.length
 salt:x.salt.size<=100
structure EnvD(v:Envt):Prop where
 salt:v.settings.salt.size<=100
 gs:GS v.segments
 flags:FlgsD v.flags
 layers:v.layers.map Lay_.key=lyK.take v.layers.length
 exps:(v.experiments.map Exper.key).Sublist exK
 exp: ∀x∈v.experiments,ExpD v.layers v.flags x
 al:v.attributes.length<=100
theorem w60:FlgsD []:=⟨rfl,by simp⟩
theorem v3c{l:List Flg}{f:Flg}(h:FlgsD l)(hk:flK[l.length]? =some f.key)(hf:FlgD l f):FlgsD (l++[f]):=by
 refine⟨?_,fun i g hi=> ?_⟩
 ·rw[List.map_append,h.keys,List.length_append,List.length_singleton,List.take_add_one,hk];rfl
 ·rcases Nat.lt_or_ge i l.length with hlt|hge
  ·rw[List.getElem?_append_left hlt] at hi
   rw[List.take_append_of_le_length (by omega)]
   exact h.all i g hi
  ·have:=Qe hi
   rw[List.length_append,List.length_singleton] at this
   have e:i=l.length:=by omega
   subst e
   rw[List.getElem?_append_right (Nat.le_refl _),Nat.sub_self] at hi
   cases hi
   rw[List.take_left' rfl];exact hf
theorem v7g{a b:List ByteArray}{w:Nat}{e:Ex}(h:DrE a w e)(hs: ∀x∈a,x∈b):DrE b w e:=⟨h.wt,fun x hx=>hs x (h.nms x hx),h.ev⟩
theorem v3d{ds:List Decl}(hl:ds.length<=100):EnvD (Envt.mk (Sett.mk (ByteArray.mk (Array.mk [])) (ByteArray.mk (Array.mk [])) 0) ds [] [] [] []):=
 ⟨sz0,y1t,w60,rfl,by simp,by simp,hl⟩
theorem v7h{l:List Seg}(h:GS l): ∀s∈l.map Seg.key,s∈sgK:=fun s hs=>by rw[h.keys] at hs;exact List.mem_of_mem_take hs
theorem y47:DrE sgK 20000 (Ex.mk 1 (ByteArray.mk (Array.mk [])) (ByteArray.mk (Array.mk [])) [] []):=
 ⟨by simp[wt,wtV,wtL],fun x hx=>by rw[w0z] at hx;rcases hx with ⟨h,_⟩|⟨k,hk,_⟩<;>simp at*,EvB.mk' (by simp) (by simp)⟩
theorem y1u{l:List ByteArray}{n i:Nat}{y:ByteArray}(h:(l.take n)[i]? =some y):l[i]? =some y:=by
 rw[List.getElem?_take] at h
 split at h
 ·exact h
 ·cases h
theorem j29{V:Envt->Prop}(hV: ∀(v:Envt) (K:Bool->Prop),EnvS v->(∀b,(b=true->V v)->K b)->Bp v K)(hV0: ∀ds,V (Envt.mk (Sett.mk (ByteArray.mk (Array.mk [])) (ByteArray.mk (Array.mk [])) 0) ds [] [] [] []))
  {list:List Int}{at_ now:Int}{K:Envt->Int->Prop}(hD:DS list at_)(h: ∀v a,EnvS v->EnvD v->V v->DS list a->K v a):q01 list at_ now K:=by
 unfold q01 q7i
 have tt: ∀s∈z9j,s.size<=100:=by decide
 refine q14 fun attrs hal had=> ?_
 have hat: ∀d∈attrs,d.kind.size<=100/\d.name.size<=100:=fun d hd=>⟨(had d hd).1,(had d hd).2.1⟩
 refine Jn1.mk (fun x=>(x.1.size<=100/\x.2.1.size<=100)/\DS list x.2.2.2.1/\x.2.2.2.2.1=attrs) (Qd hD (by decide) fun r a _ _ hD=>Cnd.mk (fun _=>z0x hD fun t a ht hD=>q4h hD (by decide) fun w a _ _ hD=>⟨⟨tt _ ht,(by decide:(ByteArray.mk (Array.mk [117,115,101,114])).size<=100)⟩,hD,rfl⟩) fun _=>⟨⟨sz0,sz0⟩,hD,rfl⟩) ?_
 rintro⟨salt,hkind,hold,a,ds,u⟩ ⟨⟨hslt,hhk⟩,hD,hds⟩
 simp only at hslt hhk hD hds⊢
 subst hds
 refine w34 hD fun a segs hD hsl hsegs hgs=>Qd hD (by decide) fun n a n0 n1 hD=>j0q n0 (by simp only[List.length_cons,List.length_nil];omega) ?_
 have fin: ∀{flags:List Flg} {layers:List Lay_} {exps:List Exper} {a:Int},DS list a->flags.length<=4->(∀f∈flags,FlgS f)->layers.length<=2->(∀l∈layers,LayS l)->exps.length<=3->(∀x∈exps,ExpS x)->FlgsD flags->layers.map Lay_.key=lyK.take layers.length->(exps.map Exper.key).Sublist exK->(∀x∈exps,ExpD layers flags x)->
   Bp (Envt.mk (Sett.mk salt hkind hold) ds segs flags layers exps) fun b=>Cnd (b=true) (K (Envt.mk (Sett.mk salt hkind hold) ds segs flags layers exps) a) (Ud fun ds=>K (Envt.mk (Sett.mk (ByteArray.mk (Array.mk [])) (ByteArray.mk (Array.mk [])) 0) ds [] [] [] []) a):=fun hD h1 h2 h3 h4 h5 h6 e1 e2 e3 e4=>by
  have hv:EnvS (Envt.mk (Sett.mk salt hkind hold) ds segs _ _ _):=⟨hhk,hat,hsl,hsegs,h1,h2,h3,h4,h5,h6⟩
  exact hV _ _ hv fun b hb=>Cnd.mk (fun ht=>h _ _ hv ⟨hslt,hgs,e1,e2,e3,e4,by show ds.length<=100;omega⟩ (hb ht) hD) fun _=>q14 fun ds hal2 had=>h _ _ (v3b fun d hd=>⟨(had d hd).1,(had d hd).2.1⟩) (v3d (by omega)) (hV0 ds) hD
 have nms: ∀s∈List.take n.toNat [ByteArray.mk (Array.mk [102,97]),ByteArray.mk (Array.mk [102,98]),ByteArray.mk (Array.mk [102,99]),ByteArray.mk (Array.mk [102,100])],s.size<=100:=w35 (by decide)
 have hlen:(List.take n.toNat [ByteArray.mk (Array.mk [102,97]),ByteArray.mk (Array.mk [102,98]),ByteArray.mk (Array.mk [102,99]),ByteArray.mk (Array.mk [102,100])]).length<=4:=by
  rw[List.length_take];simp only[List.length_cons,List.length_nil];omega
 have hget: ∀(i:Nat) y,(List.take n.toNat [ByteArray.mk (Array.mk [102,97]),ByteArray.mk (Array.mk [102,98]),ByteArray.mk (Array.mk [102,99]),ByteArray.mk (Array.mk [102,100])])[i]? =some y->flK[i]? =some y:=fun i y hy=>y1u hy
 generalize List.take n.toNat _=l at nms hlen hget
 refine LpH.ind (fun (x:Int×Int×List Flg×List Seg×List Lay_×List Exper×Unit)=>0<=x.1/\x.1<=(l.length:Int)/\DS list x.2.1/\(x.2.2.1.length:Int)=x.1/\(∀f∈x.2.2.1,FlgS f)/\FlgsD x.2.2.1/\x.2.2.2=(segs,[],[],())) (fun x=>((l.length:Int) - x.1).toNat) ?_ ⟨Int.le_refl 0,by simp,hD,rfl,by simp,w60,rfl⟩
 rintro⟨i,a,flags,rest⟩ ⟨i0,i1,hD,hfl,hfs,hfd,hr⟩
 simp only at i0 i1 hD hfl hfs hfd hr⊢
 subst hr
 simp only
 intro _
 refine Cnd.mk (fun hc=>⟨by omega,fun key hkey=> ?_⟩) fun _=> ?_
 ·
  refine Qd hD (by decide) fun kind a k0 k1 hD=>⟨by unfold InI;omega,Qd hD (by decide) fun on a _ _ hD=>Qd hD (by decide) fun m a m0 m1 hD=>⟨by unfold InI;omega,?_⟩⟩
  refine LpH.ind (fun (x:Int×Int×List Val×List Exper×List Lay_×List Flg×List Seg×Unit)=>0<=x.1/\x.1<=1+m/\DS list x.2.1/\(x.2.2.1.length:Int)=x.1/\(∀v∈x.2.2.1,ValS v/\v.kind=1+kind)/\x.2.2.2=([],[],flags,segs,())) (fun x=>(1+m - x.1).toNat) ?_ ⟨Int.le_refl 0,by simp only;omega,hD,rfl,by simp,rfl⟩
  rintro⟨j,a,vals,rest⟩ ⟨j0,j1,hD,hvl,hvs,hr⟩
  simp only at j0 j1 hD hvl hvs hr⊢
  subst hr
  simp only
  refine Cnd.mk (fun hc=>w6z (by omega) (by omega) hD fun v a hv hvk hD=>⟨by unfold Sml;simp;omega,by unfold InI;omega,⟨by omega,by omega,hD,by simp;omega,Jz hvs ⟨hv,hvk⟩,trivial⟩,by omega⟩) fun hc=> ?_
  refine Qd hD (by omega) fun off a o0 o1 hD=>⟨by unfold InI;omega,?_⟩
  have hlv:vals.length=(1+m).toNat:=by omega
  refine LpH.ind (fun (x:Int×List Prq×Int×List Seg×List Flg×List Lay_×List Exper×List Val×Unit)=>0<=x.1/\x.1<=(flags.length:Int)/\((x.2.1.length:Int)<=x.1/\(x.2.1.map Prq.flag).Sublist ((flags.map Flg.key).take x.1.toNat))/\(∀q∈x.2.1,q.flag.size<=100/\ ∃g∈flags,q.flag=g.key/\1<=q.variation/\q.variation<=g.variations.length)/\DS list x.2.2.1/\x.2.2.2=(segs,flags,[],[],vals,())) (fun x=>((flags.length:Int) - x.1).toNat) ?_ ⟨Int.le_refl 0,by simp,⟨by simp,List.nil_sublist _⟩,by simp,hD,rfl⟩
  rintro⟨j,needs,a,rest⟩ ⟨j0,j1,⟨hnl,hsb⟩,hns,hD,hr⟩
  simp only at j0 j1 hnl hsb hns hD hr⊢
  have hj1:(j+1).toNat=j.toNat+1:=by omega
  subst hr
  simp only
  intro _
  refine Cnd.mk (fun hc=>Qd hD (by decide) fun q a _ _ hD=>Cnd.mk (fun _=>⟨by omega,fun y hy=>⟨by omega,fun z hz _=>Qd hD (by have:=(hfs z (getm hz)).vlen;omega) fun w a w0 w1 hD=> ?_⟩⟩) fun _=>⟨by unfold InI;omega,⟨by omega,by omega,⟨by omega,by rw[hj1];exact y0h hsb⟩,hns,hD,trivial⟩,by omega⟩) fun _=> ?_
  ·have:=(hfs z (getm hz)).vlen
   exact⟨by unfold InI;omega,by unfold Sml;simp;omega,by unfold InI;omega,⟨by omega,by omega,⟨by simp;omega,by rw[hj1,List.map_append];exact y0g hsb (by rw[List.getElem?_map,hy];rfl)⟩,Jz hns ⟨(hfs y (getm hy)).key,z,getm hz,by rw[hy] at hz;rw[Option.some.inj hz],by simp only;omega,by simp only;omega⟩,hD,trivial⟩,by omega⟩
  have hnl4:needs.length<=4:=by omega
  have hsb:=hsb.trans (List.take_sublist _ _)
  refine LpH.ind (fun (x:Int×List Tgt×Int×List Val×List Exper×List Lay_×List Flg×List Seg×List Prq×Unit)=>0<=x.1/\x.1<=3/\(x.2.1.length:Int)<=x.1/\(∀t∈x.2.1,t.kind.size<=100/\(1<=t.variation/\t.variation<=1+m)/\t.keys.length<=3)/\DS list x.2.2.1/\x.2.2.2=(vals,[],[],flags,segs,needs,())) (fun x=>(3 - x.1).toNat) ?_ ⟨Int.le_refl 0,by simp,by simp,by simp,hD,rfl⟩
  rintro⟨j,tgts,a,rest⟩ ⟨j0,j1,htl,hts,hD,hr⟩
  simp only at j0 j1 htl hts hD hr⊢
  subst hr
  simp only
  refine Qd hD (by decide) fun q a q0 q1 hD=>Cnd.mk (fun hc=>Qd hD (by omega) fun w a w0 w1 hD=>⟨by unfold InI;omega,j71 hD fun ks a hks _ hD=> ?_⟩) fun _=> ?_
  ·refine Jn1.mk (fun x=>x.1.size<=100/\DS list x.2.1/\x.2.2=(ks,needs,segs,flags,[],[],vals,tgts,())) (Qd hD (by decide) fun r a _ _ hD=>Cnd.mk (fun _=>⟨(by decide:(ByteArray.mk (Array.mk [100,101,118,105,99,101])).size<=100),hD,rfl⟩) fun _=>⟨(by decide:(ByteArray.mk (Array.mk [117,115,101,114])).size<=100),hD,rfl⟩) ?_
   rintro⟨kd,a,rest⟩ ⟨hkd,hD,hr⟩
   simp only at hkd hD hr⊢
   subst hr
   simp only
   exact fun _=>Cnd.mk (fun _=>⟨by unfold Sml;simp;omega,by unfold InI;omega,⟨by omega,by omega,by simp;omega,Jz hts ⟨hkd,⟨by simp only;omega,by simp only;omega⟩,hks⟩,hD,trivial⟩,by omega⟩) fun _=>⟨by unfold InI;omega,⟨by omega,by omega,by omega,hts,hD,trivial⟩,by omega⟩
  refine Jn1.mk (fun (x:Int×List Rul×List ByteArray×List Prq×List Seg×List Flg×List Lay_×List Exper×List Val×List Tgt×Unit)=>DS list x.1/\x.2.1.length<=4/\(∀r∈x.2.1,RulS (1+m) r/\RulD (1+m) r)/\x.2.2.2=(needs,segs,flags,[],[],vals,tgts,())) ?_ ?_
  case refine_2=>
   rintro⟨a,rules,names,rest⟩ ⟨hD,hrl,hrs,hr⟩
   simp only at hD hrl hrs hr⊢
   subst hr
   simp only
   refine j3s hD (by omega) (by omega) fun s a hs hD=>⟨by unfold Sml;simp;omega,by unfold InI;omega,⟨by omega,by omega,hD,by simp;omega,Jz hfs ?_,v3c hfd ?_ ?_,trivial⟩,by omega⟩
   all_goals have hvm:(vals.length:Int)=1+m:=by omega
   ·exact⟨nms key (getm hkey),⟨by simp only;omega,by simp only;omega⟩,fun v hv=>(hvs v hv).1,hnl4,fun q hq=>(hns q hq).1,by simp only;omega,fun t ht=>(hts t ht).1,hrl,by rw[hvm];exact fun r hr=>(hrs r hr).1,by rw[hvm];exact hs.ok⟩
   ·rw[←hget _ _ hkey];congr 1;omega
   ·exact⟨⟨by simp only;omega,by simp only;omega⟩,fun v hv=>(hvs v hv).2,⟨by simp only;omega,by simp only;omega⟩,fun q hq=>(hns q hq).2,hsb,fun t ht=>by simp only;rw[hvm];exact (hts t ht).2,fun r hr=>by simp only;rw[hvm];exact (hrs r hr).2,by simp only;rw[hvm];exact hs⟩
  have nm4: ∀s∈([ByteArray.mk (Array.mk [102,105,114,115,116]),ByteArray.mk (Array.mk [115,101,99,111,110,100]),ByteArray.mk (Array.mk [116,104,105,114,100]),ByteArray.mk (Array.mk [102,111,117,114,116,104])]:List ByteArray),s.size<=100:=by decide
  have nl4:([ByteArray.mk (Array.mk [102,105,114,115,116]),ByteArray.mk (Array.mk [115,101,99,111,110,100]),ByteArray.mk (Array.mk [116,104,105,114,100]),ByteArray.mk (Array.mk [102,111,117,114,116,104])]:List ByteArray).length=4:=rfl
  generalize ([ByteArray.mk (Array.mk [102,105,114,115,116]),ByteArray.mk (Array.mk [115,101,99,111,110,100]),ByteArray.mk (Array.mk [116,104,105,114,100]),ByteArray.mk (Array.mk [102,111,117,114,116,104])]:List ByteArray)=ns4 at nm4 nl4⊢
  refine LpH.ind (fun (x:Int×Int×List Rul×List ByteArray×List Prq×List Seg×List Flg×List Lay_×List Exper×List Val×List Tgt×Unit)=>0<=x.1/\x.1<=4/\DS list x.2.1/\(x.2.2.1.length:Int)=x.1/\(∀r∈x.2.2.1,RulS (1+m) r/\RulD (1+m) r)/\x.2.2.2=(ns4,needs,segs,flags,[],[],vals,tgts,())) (fun x=>(4 - x.1).toNat) ?_ ⟨Int.le_refl 0,by simp,hD,rfl,by simp,rfl⟩
  rintro⟨j,a,rules,rest⟩ ⟨j0,j1,hD,hrl,hrs,hr⟩
  simp only at j0 j1 hD hrl hrs hr⊢
  subst hr
  simp only
  refine Qd hD (by decide) fun q a q0 q1 hD=>Cnd.mk (fun hc=>⟨by rw[nl4];omega,fun y hy=> ?_⟩) fun _=>⟨hD,by omega,hrs,trivial⟩
  refine z3g (by simp only;omega) (j23 ((w9b fun s hs=> ?_).and v68) 2 (by omega) (by decide) (by decide) hD fun e a he hD=>j3s hD (by omega) (by omega) fun s a hs hD=>⟨by unfold Sml;simp;omega,?_⟩)
  ·obtain⟨g,hg,rfl⟩:=List.mem_map.1 hs;exact (hsegs g hg).key
  have hrs':=Jz hrs (x:=Rul.mk y (Ex.mk e.1 e.2 e.3 e.4 e.5) s) ⟨⟨nm4 y (getm hy),he.1.eta,hs.ok⟩,v7g (he.2.le (by decide)).eta (v7h hgs),hs⟩
  have hl':(rules++[Rul.mk y (Ex.mk e.1 e.2 e.3 e.4 e.5) s]).length=rules.length+1:=by simp
  have cut: ∀r∈List.take (((rules++[Rul.mk y (Ex.mk e.1 e.2 e.3 e.4 e.5) s]).length:Int) - 1).toNat (rules++[Rul.mk y (Ex.mk e.1 e.2 e.3 e.4 e.5) s]),RulS (1+m) r/\RulD (1+m) r:=fun r hr=>hrs' r (List.mem_of_mem_take hr)
  generalize rules++[Rul.mk y (Ex.mk e.1 e.2 e.3 e.4 e.5) s]=rs at hrs' hl' cut⊢
  refine q86 (by omega) (fun r hr=>(hrs' r hr).1.cond) fun o n b ho=>Cnd.mk (fun _ _=>Cnd.mk (fun _ _=>⟨by unfold InI;omega,by omega,hD,by simp only[List.length_take];omega,cut,trivial⟩) fun _=>⟨by unfold InI;omega,⟨by omega,by omega,hD,by omega,hrs',trivial⟩,by omega⟩) fun _ _=>⟨by unfold InI;omega,by omega,hD,by simp only[List.length_take];omega,cut,trivial⟩
 ·
  refine Qd hD (by decide) fun n a n0 n1 hD=>j0q n0 (by simp only[List.length_cons,List.length_nil];omega) ?_
  have nms: ∀s∈List.take n.toNat [ByteArray.mk (Array.mk [108,97]),ByteArray.mk (Array.mk [108,98])],s.size<=100:=w35 (by decide)
  have hlen:(List.take n.toNat [ByteArray.mk (Array.mk [108,97]),ByteArray.mk (Array.mk [108,98])]).length<=2:=by
   rw[List.length_take];simp only[List.length_cons,List.length_nil];omega
  have hgetl: ∀(i:Nat) y,(List.take n.toNat [ByteArray.mk (Array.mk [108,97]),ByteArray.mk (Array.mk [108,98])])[i]? =some y->lyK[i]? =some y:=fun i y hy=>y1u hy
  generalize List.take n.toNat _=ls at nms hlen hgetl
  have hf4:flags.length<=4:=by omega
  refine LpH.ind (fun (x:Int×Int×List Lay_×List Exper×List Seg×List Flg×Unit)=>0<=x.1/\x.1<=(ls.length:Int)/\DS list x.2.1/\(x.2.2.1.length:Int)=x.1/\(∀f∈x.2.2.1,LayS f)/\x.2.2.1.map Lay_.key=lyK.take x.2.2.1.length/\x.2.2.2=([],segs,flags,())) (fun x=>((ls.length:Int) - x.1).toNat) ?_ ⟨Int.le_refl 0,by simp,hD,rfl,by simp,rfl,rfl⟩
  rintro⟨j,a,layers,rest⟩ ⟨j0,j1,hD,hll,hls,hlk,hr⟩
  simp only at j0 j1 hD hll hls hlk hr⊢
  subst hr
  simp only
  intro _
  refine Cnd.mk (fun hc=>⟨by omega,fun y hy=>v2q hD (nms y (getm hy)) fun l a hl hky hD=>⟨by unfold Sml;simp;omega,by unfold InI;omega,⟨by omega,by omega,hD,by simp;omega,Jz hls hl,by rw[List.map_append,hlk,List.length_append,List.length_singleton,List.take_add_one,←show j.toNat=layers.length by omega,hgetl _ _ hy,←hky];rfl,trivial⟩,by omega⟩⟩) fun _=> ?_
  refine Qd hD (by decide) fun n a n0 n1 hD=>j0q n0 (by simp only[List.length_cons,List.length_nil];omega) ?_
  have nmx: ∀s∈List.take n.toNat [ByteArray.mk (Array.mk [120,97]),ByteArray.mk (Array.mk [120,98]),ByteArray.mk (Array.mk [120,99])],s.size<=100:=w35 (by decide)
  have hxen:(List.take n.toNat [ByteArray.mk (Array.mk [120,97]),ByteArray.mk (Array.mk [120,98]),ByteArray.mk (Array.mk [120,99])]).length<=3:=by
   rw[List.length_take];simp only[List.length_cons,List.length_nil];omega
  have hgetx:List.take n.toNat [ByteArray.mk (Array.mk [120,97]),ByteArray.mk (Array.mk [120,98]),ByteArray.mk (Array.mk [120,99])]|>.Sublist exK:=List.take_sublist _ _
  generalize List.take n.toNat _=xs at nmx hxen hgetx
  have hl2:layers.length<=2:=by omega
  refine LpH.ind (fun (x:Int×Int×List Exper×List Flg×List Seg×List Lay_×Unit)=>0<=x.1/\x.1<=(xs.length:Int)/\DS list x.2.1/\(x.2.2.1.length:Int)<=x.1/\(∀f∈x.2.2.1,ExpS f)/\(x.2.2.1.map Exper.key).Sublist (xs.take x.1.toNat)/\(∀f∈x.2.2.1,ExpD layers flags f)/\x.2.2.2=(flags,segs,layers,())) (fun x=>((xs.length:Int) - x.1).toNat) ?_ ⟨Int.le_refl 0,by simp,hD,by simp,by simp,by simp,by simp,rfl⟩
  rintro⟨k,a,exps,rest⟩ ⟨k0,k1,hD,hxl,hxs,hxk,hxd,hr⟩
  simp only at k0 k1 hD hxl hxs hxk hxd hr⊢
  subst hr
  simp only
  intro _
  have hfin:=fun {a:Int} (hD:DS list a)=>fin (flags:=flags) (layers:=layers) (exps:=exps) hD hf4 hfs hl2 hls (by omega) hxs hfd hlk ((hxk.trans (List.take_sublist _ _)).trans hgetx) hxd
  refine Cnd.mk (fun hc _=>Cnd.mk (fun hfl0 _=>Cnd.mk (fun hll0=>⟨by omega,fun y hy _=> ?_⟩) fun _=>hfin hD) fun _=>hfin hD) fun _=>hfin hD
  refine Qd hD (by omega) fun q a q0 q1 hD=>⟨by omega,fun f hf _ hfv=>Qd hD (by omega) fun q' a q0' q1' hD=>⟨by omega,fun l hl=>z0x hD fun t a ht hD=>Qd hD (by decide) fun u a u0 u1 hD=>⟨by unfold InI;omega,?_⟩⟩⟩
  have hF:=hfs f (getm hf)
  have hL:=hls l (getm hl)
  have hv1:=hF.vlen
  refine j3r hD (by omega) (by omega) fun arms a harms hcov hD=> ?_
  refine Jn1.mk (fun (x:Int×Int×List Rng×List Exper×List Lay_×List Flg×List Seg×Unit)=>DS list x.2.1/\x.2.2=(arms,exps,layers,flags,segs,())) (Cnd.mk (fun _=>Qd hD (by decide) fun r a _ _ hD=>Cnd.mk (fun _=>⟨hD,rfl⟩) fun _=>⟨hD,rfl⟩) fun _=>⟨hD,rfl⟩) ?_
  rintro⟨state,a,rest⟩ ⟨hD,hr⟩
  simp only at hD hr⊢
  subst hr
  simp only
  refine Jn1.mk (fun (x:Int×ByteArray×ByteArray×List Val×List Ex×Int×List Seg×List Flg×List Lay_×List Exper×List Rng×Unit)=>(ExS 4 (Ex.mk x.1 x.2.1 x.2.2.1 x.2.2.2.1 x.2.2.2.2.1)/\DrE sgK 20000 (Ex.mk x.1 x.2.1 x.2.2.1 x.2.2.2.1 x.2.2.2.2.1))/\DS list x.2.2.2.2.2.1/\x.2.2.2.2.2.2=(segs,flags,layers,exps,arms,())) (Qd hD (by decide) fun r a _ _ hD=>Cnd.mk (fun _=>z3g (by simp only;omega) (j23 ((w9b fun s hs=> ?_).and v68) 2 (by omega) (by decide) (by decide) hD fun e a he hD=>⟨⟨he.1.eta,v7g (he.2.le (by decide)).eta (v7h hgs)⟩,hD,rfl⟩)) fun _=>⟨⟨y9s,y47⟩,hD,rfl⟩) ?_
  ·obtain⟨g,hg,rfl⟩:=List.mem_map.1 hs;exact (hsegs g hg).key
  rintro⟨e1,e2,e3,e4,e5,a,rest⟩ ⟨he,hD,hr⟩
  simp only at he hD hr⊢
  subst hr
  simp only
  refine w9h fun sp _ _=>q4h hD (by decide) fun w a _ _ hD=>q4h hD (by decide) fun w' a _ _ hD=>j3k fun sq _=>q4h hD (by decide) fun w2 a w20 w21 hD=>w6e (by omega) fun cl hcl=> ?_
  have hxs':=Jz hxs (x:=Exper.mk y l.1 f.1 t state cl arms (Ex.mk e1 e2 e3 e4 e5)) ⟨nmx y (getm hy),hL.key,hF.key,hcl,⟨harms.1,fun r hr=>by obtain⟨p,q,s,t⟩:=harms.2 r hr;exact⟨p,q,s,by omega⟩⟩,he.1⟩
  have hxd':=Jz hxd (x:=Exper.mk y l.1 f.1 t state cl arms (Ex.mk e1 e2 e3 e4 e5)) ⟨hcov,he.2,⟨l,getm hl,rfl⟩,⟨f,getm hf,rfl,fun r hr=>by obtain⟨_,_,s,t⟩:=harms.2 r hr;exact⟨s,t⟩⟩,tt _ ht⟩
  have hyk:xs[k.toNat]? =some y:=hy
  have hxk':((exps++[Exper.mk y l.1 f.1 t state cl arms (Ex.mk e1 e2 e3 e4 e5)]).map Exper.key).Sublist (xs.take (k+1).toNat):=by
   rw[List.map_append,show (k+1).toNat=k.toNat+1 by omega,List.take_add_one,hyk]
   exact hxk.append (List.Sublist.refl _)
  have hl':(exps++[Exper.mk y l.1 f.1 t state cl arms (Ex.mk e1 e2 e3 e4 e5)]).length=exps.length+1:=by simp
  have cut: ∀r∈List.take (((exps++[Exper.mk y l.1 f.1 t state cl arms (Ex.mk e1 e2 e3 e4 e5)]).length:Int) - 1).toNat (exps++[Exper.mk y l.1 f.1 t state cl arms (Ex.mk e1 e2 e3 e4 e5)]),ExpS r:=fun r hr=>hxs' r (List.mem_of_mem_take hr)
  have cutd: ∀r∈List.take (((exps++[Exper.mk y l.1 f.1 t state cl arms (Ex.mk e1 e2 e3 e4 e5)]).length:Int) - 1).toNat (exps++[Exper.mk y l.1 f.1 t state cl arms (Ex.mk e1 e2 e3 e4 e5)]),ExpD layers flags r:=fun r hr=>hxd' r (List.mem_of_mem_take hr)
  have cutk:((List.take (((exps++[Exper.mk y l.1 f.1 t state cl arms (Ex.mk e1 e2 e3 e4 e5)]).length:Int) - 1).toNat (exps++[Exper.mk y l.1 f.1 t state cl arms (Ex.mk e1 e2 e3 e4 e5)])).map Exper.key).Sublist (xs.take (k+1).toNat):=((List.take_sublist _ _).map _).trans hxk'
  generalize exps++[Exper.mk y l.1 f.1 t state cl arms (Ex.mk e1 e2 e3 e4 e5)]=xs' at hxs' hl' cut hxd' hxk' cutd cutk⊢
  have hv:EnvS (Envt.mk (Sett.mk salt hkind hold) ds segs flags layers xs'):=⟨hhk,hat,hsl,hsegs,hf4,hfs,hl2,hls,by simp only;omega,hxs'⟩
  refine⟨by unfold Sml;omega,j3q hv fun b=>Cnd.mk (fun _=>⟨by unfold InI;omega,⟨by omega,by omega,hD,by omega,hxs',hxk',hxd',trivial⟩,by omega⟩) fun _ _=>⟨by unfold InI;omega,by omega,by unfold InI;omega,⟨by omega,by omega,hD,by simp only[List.length_take];omega,cut,cutk,cutd,trivial⟩,by omega⟩⟩
end Go.En
end
noncomputable section
set_option maxRecDepth 100000
namespace Go.En
open Go Go.Fl Go.Fl.Lk Go.Fx
theorem v7i:exK.Nodup:=by unfold exK;decide
theorem w9k{segs:List ByteArray}{e:Ex}(h:DrE segs 20000 e):wt e<=2000000/\EvB e:=⟨Nat.le_trans h.wt (by decide),h.ev⟩
theorem y0i{v:Envt}(hE:EnvS v)(hD:EnvD v):SegB v.3:=v69 (Nat.le_trans hE.slen (by decide)) fun g hg=>by
 obtain⟨i,hi⟩:=List.getElem?_of_mem hg
 exact⟨_,hD.gs.cond i g hi⟩
theorem y7q{v:Envt}(hE:EnvS v)(hD:EnvD v):AsB v where
 ln:=Nat.le_trans hE.llen (by decide)
 xn:=Nat.le_trans hE.xlen (by decide)
 sg:=y0i hE hD
 ex x hx:=w9k (hD.exp x hx).cond
 sa:=Nat.le_trans hD.salt (by decide)
 ls l hl:=Nat.le_trans (hE.layers l hl).salt (by decide)
 xs x hx:=Nat.le_trans (hD.exp x hx).salt (by decide)
 cl x hx:=⟨Nat.le_trans (hE.exps x hx).claims.len (by decide),Nat.le_trans (hE.exps x hx).arms.1 (by decide)⟩
 nd:=hD.exps.nodup v7i
theorem y0j{s:Subj}(h:s.ctxs.length<=2)(hc: ∀c∈s.ctxs,c.attrs=[]/\c.key.size<=5):SubB s:=
 ⟨by omega,fun c hm=>by rw[(hc c hm).1];simp,fun c hm a ha=>by rw[(hc c hm).1] at ha;simp at ha,fun c hm=>by have:=(hc c hm).2;omega⟩
theorem w9l{list:List Int}{at_:Int}{v:Envt}{K:List Frc->Int->Prop}(hD:DS list at_)(hE:EnvS v)(h: ∀l a,l.length<=3->K l a):z52 list at_ v K:=by
 unfold z52 j17
 have hxn:=hE.xlen
 refine Lp3.ind (fun (l:List Frc) (i a:Int)=>0<=i/\i<=3/\(l.length:Int)=i/\DS list a) (fun _ (i:Int) _=>(3 - i).toNat) ?_ ⟨by omega,by omega,rfl,hD⟩
 rintro l i a ⟨i0,i1,hl,hD⟩
 refine Qd hD (by decide) fun q a q0 q1 hD=>Cnd.mk (fun hc=>Qd hD (by decide) fun w a w0 w1 hD=>⟨by unfold InI;omega,?_⟩) fun _=>h _ _ (by omega)
 refine Jn2.mk (fun _ a=>DS list a) (Qd hD (by decide) fun r a _ _ hD=>Cnd.mk (fun _=>hD) fun _=>hD) fun ly a hD=> ?_
 refine Jn4.mk (fun _ _ _ a=>DS list a) ?_ fun _ _ _ a hD=>⟨by unfold Sml;simp;omega,by unfold InI;omega,⟨by omega,by omega,by simp;omega,hD⟩,by omega⟩
 refine Qd hD (by decide) fun r a r0 r1 hD _=>Cnd.mk (fun hc=>⟨by omega,fun y hy=> ?_⟩) fun _=>hD
 refine Jn2.mk (fun _ a=>DS list a) (Qd hD (by decide) fun q a _ _ hD=>Cnd.mk (fun _=>⟨by omega,fun z hz=>hD⟩) fun _=>hD) fun ly a hD=>⟨by omega,fun z hz=>Qd hD (by decide) fun q a _ _ hD=>Cnd.mk (fun _ _=>Cnd.mk (fun hl0 _=> ?_) fun _=>hD) fun _=>hD⟩
 have hz1:=(hE.exps z (getm hz)).arms.1
 exact Qd hD (by omega) fun u a u0 u1 hD=>⟨⟨u0,u1⟩,fun w hw=>hD⟩
end Go.En
end
noncomputable section
set_option maxRecDepth 100000
namespace Go.En
open Go Go.Fl Go.Fl.Lk Go.Fx
def ixF{α:Type}(p:α->Bool):List α->Nat->Option (Nat×α)
 |[],_=>none
 |a::l,i=>if p a=true then some (i,a) else ixF p l (i+1)
theorem y1v{α:Type}{l:List α}{p:α->Bool}{i:Nat}{y:α}(hy:l[i]? =some y)(hp:p y=true):ixF p (l.drop i) i=some (i,y):=by
 have hlt:=Qe hy
 rw[List.drop_eq_getElem_cons hlt]
 have e:l[i]=y:=by rw[List.getElem?_eq_getElem hlt] at hy;exact Option.some.inj hy
 rw[e,ixF,if_pos hp]
theorem v7j{α:Type}{l:List α}{p:α->Bool}{i:Nat}{y:α}(hy:l[i]? =some y)(hp:p y=false):ixF p (l.drop i) i=ixF p (l.drop (i+1)) (i+1):=by
 have hlt:=Qe hy
 rw[List.drop_eq_getElem_cons hlt]
 have e:l[i]=y:=by rw[List.getElem?_eq_getElem hlt] at hy;exact Option.some.inj hy
 rw[e,ixF,if_neg (by rw[hp];simp)]
theorem v7k{α:Type}{p:α->Bool}: ∀{l:List α} {n i:Nat} {y:α},ixF p l n=some (i,y)->n<=i/\l[i - n]? =some y/\p y=true
 |[],_,_,_,h=>by cases h
 |a::l,n,i,y,h=>by
  rw[ixF] at h
  split at h
  ·cases h;exact⟨Nat.le_refl _,by simp,by assumption⟩
  ·obtain⟨h1,h2,h3⟩:=v7k h
   refine⟨by omega,?_,h3⟩
   rw[show i - n=(i - (n+1))+1 by omega];exact h2
theorem y9t{α:Type}{l:List α}(p:α->Bool){G:Int->α->(Int->Prop)->Prop}{B:Prop}(hl:l.length<=1000000000)(hB:ixF p l 0=none->B)
  (hG: ∀(i:Nat) y Y,l[i]? =some y->i<l.length->(p y=true->ixF p l 0=some (i,y))->(p y=false->InI ((i:Int)+1)/\Y ((i:Int)+1))->G (i:Int) y Y):
  Lp1 (fun x Y=>Cnd (x<(l.length:Int)) ((0<=x/\x<(l.length:Int))/\ ∀y,l[x.toNat]? =some y->G x y Y) B) 0:=by
 refine Lp1.ind (fun i=> ∃j:Nat,i=(j:Int)/\j<=l.length/\ixF p l 0=ixF p (l.drop j) j) (fun i=>(l.length - i).toNat) ?_ ⟨0,rfl,by omega,rfl⟩
 rintro i ⟨j,rfl,hj,hf⟩
 refine Cnd.mk (fun hc=>⟨by omega,fun y hy=> ?_⟩) fun hc=> ?_
 ·have hy:l[j]? =some y:=hy
  refine hG j y _ hy (by omega) (fun hp=>by rw[hf,y1v hy hp]) fun hp=>⟨by unfold InI;omega,⟨j+1,by omega,by omega,by rw[hf,v7j hy hp]⟩,by omega⟩
 ·refine hB ?_
  rw[hf,List.drop_eq_nil_of_le (by omega)];rfl
abbrev numB(n:Int):ByteArray:=⟨(Go.Lib.itoa n).toArray⟩
def hkV(v:Val):Option ByteArray:=
 if v.1=3∨v.1=4 then some v.3 else if v.1=2 then some (numB v.2) else if v.1=1 then some (if v.2=1 then ByteArray.mk (Array.mk [116,114,117,101]) else ByteArray.mk (Array.mk [102,97,108,115,101])) else none
def bksV(s:Subj)(k b salt:ByteArray):Option Int:=(lkp s k b).bind fun v=>(hkV v).map fun t=>ofV salt t
def srvV(s:Subj)(v:Srv):Int×Int×Bool:=
 if v.1≠0 then (v.1, -1,true) else match bksV s v.2 v.3 v.4 with
 |some b=>(y0b v.5 b,b,true)
 |none=>(0, -1,false)
def tgP(s:Subj)(t:Tgt):Bool:=match fnd s t.1 with
 |some c=>dec (c.2∈t.3)
 |none=>false
def fof(v:Envt)(key:ByteArray):Option Flg:=v.4.find? fun f=>decide (f.1=key)
def metV(v:Envt)(dv:Flg->Int)(p:Prq):Bool:=match fof v p.1 with
 |some g=>g.4 && decide (dv g=p.2)
 |none=>false
def inXV(v:Envt)(s:Subj)(fs:List Frc)(key:ByteArray)(x:Exper):Bool:=decide (x.3=key) && (decide (x.5=2) && decide ((asgV v s fs x.2).1.2=x.1))
def abV(v:Envt)(s:Subj)(x:Exper):Int:=match lof v x.2 with
 |some l=>(match fnd s l.2 with
  |some c=>ofV x.4 c.2
  |none=> -1)
 |none=> -1
def svd(s:Subj)(off:Int)(sv:Srv)(k i:Int)(n:ByteArray):Int×Rsn:=
 if (srvV s sv).2.2=true then ((srvV s sv).1,Rsn.mk k i n (srvV s sv).2.1) else (off,Rsn.mk 7 i noT (-1))
def rlsV(v:Envt)(s:Subj)(f:Flg):Int×Rsn:=match ixF (fun r=>cndV v s r.2) f.8 0 with
 |some q=>svd s f.5 q.2.3 5 ((q.1:Int)+1) q.2.1
 |none=>svd s f.5 f.9 6 0 noT
def chsV(v:Envt)(s:Subj)(fs:List Frc)(dv:Flg->Int)(f:Flg):Int×Rsn:=
 if f.4=false then (f.5,Rsn.mk 1 0 noT (-1)) else
 match f.6.find? (fun p=> !metV v dv p) with
 |some p=>(f.5,Rsn.mk 2 0 p.1 (-1))
 |none=>match ixF (tgP s) f.7 0 with
  |some q=>(q.2.2,Rsn.mk 3 ((q.1:Int)+1) noT (-1))
  |none=>match v.6.find? (inXV v s fs f.1) with
   |some x=>((asgV v s fs x.2).1.4,Rsn.mk 4 0 x.1 (abV v s x))
   |none=>rlsV v s f
def dvN(v:Envt)(s:Subj)(fs:List Frc):Nat->Flg->Int
 |0,f=>(chsV v s fs (fun _=>0) f).1
 |n+1,f=>(chsV v s fs (dvN v s fs n) f).1
def dcV(v:Envt)(s:Subj)(fs:List Frc)(f:Flg):Int×Rsn:=chsV v s fs (dvN v s fs v.4.length) f
def valV(l:List Val)(k:Int):Val:=if 1<=k/\k<=(l.length:Int) then (l[(k - 1).toNat]?).getD noV else noV
def dcsV(v:Envt)(s:Subj)(fs:List Frc)(f:Flg):Dcs:=Dcs.mk f.1 (dcV v s fs f).1 (valV f.3 (dcV v s fs f).1) (dcV v s fs f).2 0
structure FlB(l:List Flg):Prop where
 nd:(l.map Flg.key).Nodup
 ord: ∀(i:Nat) f,l[i]? =some f-> ∀p∈f.6,∀(j:Nat) g,l[j]? =some g->p.1=g.1->j<i
theorem v07{v:Envt}{key:ByteArray}{g:Flg}(h:fof v key=some g): ∃j:Nat,v.4[j]? =some g/\key=g.1:=by
 unfold fof at h
 obtain⟨j,hj⟩:=List.getElem?_of_mem (List.mem_of_find?_eq_some h)
 have:=List.find?_some h
 simp only[decide_eq_true_eq] at this
 exact⟨j,hj,this.symm⟩
theorem w61{v:Envt}(hB:FlB v.4){i:Nat}{g:Flg}(h:v.4[i]? =some g):fof v g.1=some g:=by
 have hnd:=hB.nd
 have hg:=getm h
 unfold fof
 generalize v.4=L at hnd hg
 clear h
 induction L with
 |nil=>cases hg
 |cons a L ih=>
  rw[List.find?_cons]
  rw[List.map_cons,List.nodup_cons] at hnd
  rcases List.mem_cons.1 hg with rfl|hg
  ·simp
  ·rw[decide_eq_false (fun e=>hnd.1 (by rw[e];exact List.mem_map_of_mem hg))]
   exact ih hnd.2 hg
theorem v3e{v:Envt}{d d':Flg->Int}{p:Prq}(h: ∀g,fof v p.1=some g->d g=d' g):metV v d p=metV v d' p:=by
 unfold metV
 cases hf:fof v p.1 with
 |none=>rfl
 |some g=>simp only;rw[h g hf]
theorem w01{α:Type}{p q:α->Bool}: ∀{l:List α},(∀x∈l,p x=q x)->l.find? p=l.find? q
 |[],_=>rfl
 |a::l,h=>by rw[List.find?_cons,List.find?_cons,h a List.mem_cons_self,w01 fun x hx=>h x (List.mem_cons_of_mem _ hx)]
theorem w02{v:Envt}{s:Subj}{fs:List Frc}{d d':Flg->Int}{f:Flg}(h: ∀p∈f.6,∀g,fof v p.1=some g->d g=d' g):chsV v s fs d f=chsV v s fs d' f:=by
 unfold chsV
 rw[w01 (q:=fun p=> !metV v d' p) fun p hp=>by rw[v3e (h p hp)]]
theorem v3f{v:Envt}{s:Subj}{fs:List Frc}(hB:FlB v.4): ∀(i n m:Nat) (f:Flg),v.4[i]? =some f->i<=n->i<=m->dvN v s fs n f=dvN v s fs m f:=by
 intro i
 induction i using Nat.strongRecOn with
 |ind i ih=>
  intro n m f hf hn hm
  have key: ∀d d':Flg->Int,(∀(j:Nat) g,j<i->v.4[j]? =some g->d g=d' g)->chsV v s fs d f=chsV v s fs d' f:=fun d d' h=>w02 fun p hp g hg=>by
   obtain⟨j,hj,hk⟩:=v07 hg
   exact h j g (hB.ord i f hf p hp j g hj hk) hj
  cases n with
  |zero=>
   cases m with
   |zero=>rfl
   |succ m=>unfold dvN;rw[key _ (dvN v s fs m) fun j g hj=>by omega]
  |succ n=>
   cases m with
   |zero=>unfold dvN;rw[key _ (fun _=>0) fun j g hj=>by omega]
   |succ m=>unfold dvN;rw[key _ (dvN v s fs m) fun j g hj hg=>ih j hj n m g hg (by omega) (by omega)]
theorem y7r{v:Envt}{s:Subj}{fs:List Frc}(hB:FlB v.4){i:Nat}{f:Flg}(hf:v.4[i]? =some f):dcV v s fs f=chsV v s fs (fun g=>(dcV v s fs g).1) f:=by
 have hi:=Qe hf
 unfold dcV
 refine w02 fun p hp g hg=> ?_
 obtain⟨j,hj,hk⟩:=v07 hg
 have hji:=hB.ord i f hf p hp j g hj hk
 obtain⟨n,hn⟩: ∃n,v.4.length=n+1:=⟨v.4.length - 1,by omega⟩
 have h2:(chsV v s fs (dvN v s fs v.4.length) g).1=dvN v s fs (v.4.length+1) g:=rfl
 rw[h2]
 exact v3f hB j _ _ g hj (by omega) (by omega)
end Go.En
end
noncomputable section
set_option maxRecDepth 100000
namespace Go.En
open Go Go.Fl Go.Fl.Lk Go.Fx Go.Sg
open Go.Gr (Ord Grd Rdy Nxt)
theorem y0k{x n:Int}{K:Int->Prop}(hn:0<n)(hi:n<=1000)(h: ∀r,0<=r->r<n->K r):w1z x n K:=by
 unfold w1z
 have h1:=Int.lt_tmod_of_pos x hn
 have h2:=Int.tmod_lt_of_pos x hn
 exact⟨by omega,Cnd.mk (fun hc=>⟨by unfold InI;omega,h _ (by omega) (by omega)⟩) fun hc=>h _ (by omega) h2⟩
end Go.En
end
noncomputable section
set_option maxRecDepth 100000
namespace Go.En
open Go Go.Fl Go.Fl.Lk Go.Fx
theorem y7s: ∀x∈exK,x≠noT:=by unfold exK;decide
end Go.En
end
noncomputable section
set_option maxRecDepth 100000
namespace Go.En
open Go Go.Fl Go.Fl.Lk Go.Fx
theorem v7l(n:Nat):(flK.take n).Nodup:=(show flK.Nodup by unfold flK;decide).sublist (List.take_sublist _ _)
theorem y7t{v:Envt}(hD:EnvD v):FlB v.4:=by
 have hnd:(v.4.map Flg.key).Nodup:=by rw[hD.flags.keys];exact v7l _
 refine⟨hnd,fun i f hf p hp j g hg hpg=> ?_⟩
 obtain⟨g',hg',hk,_⟩:=(hD.flags.all i f hf).needs p hp
 obtain⟨q,hq⟩:=List.getElem?_of_mem hg'
 rw[List.getElem?_take] at hq
 split at hq
 ·rename_i hlt
  have hlg:=Qe hg
  have hlq:=Qe hq
  have e:j=q:=by
   have h1:(v.4.map Flg.key)[j]? =some g.1:=by rw[List.getElem?_map,hg];rfl
   have h2:(v.4.map Flg.key)[q]? =some g.1:=by rw[List.getElem?_map,hq,←hpg,hk];rfl
   have hlj:j<(v.4.map Flg.key).length:=by rw[List.length_map];exact hlg
   have hlk:q<(v.4.map Flg.key).length:=by rw[List.length_map];exact hlq
   rw[List.getElem?_eq_getElem hlj] at h1
   rw[List.getElem?_eq_getElem hlk] at h2
   exact (List.getElem_inj (h₀:=hlj) (h₁:=hlk) hnd).1 ((Option.some.inj h1).trans (Option.some.inj h2).symm)
  omega
 ·cases hq
end Go.En
end
noncomputable section
set_option maxRecDepth 100000
namespace Go.En
open Go Go.Fl Go.Fl.Lk Go.Fx
def rstD(n:Int):List UInt8:=if n=0 then [] else Go.Lib.decDigits n.natAbs
theorem y0l{n:Int}(h:n≠0):Go.Lib.itoa n=(if n<0 then [45] else [])++rstD n:=by
 unfold Go.Lib.itoa rstD
 rw[if_neg h]
 split
 ·rfl
 ·rw[show n.toNat=n.natAbs by omega];rfl
theorem v7m:Go.Lib.itoa 0=[48]:=by unfold Go.Lib.itoa;rw[if_neg (by decide),Go.Lib.decDigits];rfl
end Go.En
end
noncomputable section
set_option maxRecDepth 100000
namespace Go.En
open Go Go.Fl Go.Fl.Lk Go.Fx
def NumB(s:Subj):Prop:= ∀c∈s.ctxs,∀a∈c.attrs,InI a.value.number
theorem v3g{s:Subj}(hc: ∀c∈s.ctxs,CtxS c):NumB s:=fun c hm a ha=>((hc c hm).l a ha).num
theorem v7n: ∀(k n:Nat),n<10 ^ k->1<=k->(Go.Lib.decDigits n).length<=k
 |0,_,_,h=>by omega
 |k+1,n,h,_=>by
  rw[Go.Lib.decDigits]
  split
  ·simp
  ·rename_i hs
   have hk:1<=k:=by
    refine Nat.one_le_iff_ne_zero.2 fun e=> ?_
    subst e;simp at h;omega
   have:=v7n k (n / 10) (by rw[Nat.pow_succ] at h;omega) hk
   simp;omega
theorem y48{n:Int}(h:InI n):(rstD n).length<=19:=by
 unfold rstD
 split
 ·simp
 ·refine v7n 19 _ ?_ (by decide)
  have:(10:Nat) ^ 19=10000000000000000000:=by decide
  unfold InI at h
  omega
theorem y0m{n:Int}(h:InI n):(numB n).size<=100:=by
 show (Go.Lib.itoa n).toArray.size<=100
 rw[List.size_toArray]
 by_cases h0:n=0
 ·subst h0;rw[v7m];decide
 ·rw[y0l h0]
  have:=y48 h
  split<;>simp<;>omega
theorem j9w{n:Int}{K:ByteArray->Prop}(hn:InI n)(h:K (numB n)):q5x n K:=by
 unfold q5x
 exact⟨hn,h⟩
theorem w36{v:Val}{K:ByteArray->Bool->Prop}(hn:InI v.2)(h:K ((hkV v).getD noT) (hkV v).isSome):q8y v K:=by
 unfold q8y z4d
 refine Jn1.mk (fun b=>b=true↔v.1=3∨v.1=4) (Cnd.mk (fun e=>by simp[e]) fun e=>by simp[e]) ?_
 intro b hb
 unfold hkV at h
 refine Cnd.mk (fun ht=> ?_) fun ht=> ?_
 ·rw[if_pos (hb.1 ht)] at h;exact h
 rw[if_neg (fun e=>ht (hb.2 e))] at h
 refine Cnd.mk (fun e=> ?_) fun e=> ?_
 ·rw[if_pos e] at h;exact j9w hn h
 rw[if_neg e] at h
 refine Cnd.mk (fun e1=> ?_) fun e1=> ?_
 ·rw[if_pos e1] at h
  refine Cnd.mk (fun e2=> ?_) fun e2=> ?_
  ·rw[if_pos e2] at h;exact h
  ·rw[if_neg e2] at h;exact h
 ·rw[if_neg e1] at h;exact h
theorem y7u{s:Subj}{kind name:ByteArray}{v:Val}(hN:NumB s)(h:lkp s kind name=some v):InI v.2:=by
 unfold lkp at h
 cases hf:fnd s kind with
 |none=>rw[hf] at h;cases h
 |some c=>
  rw[hf] at h
  simp only[Option.bind_some] at h
  by_cases hk:name=keyB
  ·rw[if_pos hk] at h;cases h
   show InI 0
   unfold InI;omega
  ·rw[if_neg hk] at h
   obtain⟨a,ha,rfl⟩:=Option.map_eq_some_iff.1 h
   exact hN c (j8g hf) a (List.mem_of_find?_eq_some ha)
theorem y7v{v:Val}{t:ByteArray}(hn:InI v.2)(hv:v.3.size<=2000000)(h:hkV v=some t):t.size<=10000000:=by
 unfold hkV at h
 split at h
 ·cases h;omega
 ·split at h
  ·cases h;have:=y0m hn;omega
  ·split at h
   ·cases h
    split<;>decide
   ·cases h
theorem j3a{s:Subj}{k b salt:ByteArray}{K:Int->Bool->Prop}(hs:SubB s)(hN:NumB s)(hz:salt.size<=10000000)(h:K ((bksV s k b salt).getD 0) (bksV s k b salt).isSome):Bb s k b salt K:=by
 unfold Bb q4w
 refine z0y hs ?_
 unfold bksV at h
 cases hl:lkp s k b with
 |none=>rw[hl] at h;exact Cnd.no (by simp) h
 |some v=>
  rw[hl] at h
  simp only[Option.bind_some] at h
  refine Cnd.yes rfl (w36 (y7u hN hl) ?_)
  simp only[Option.getD_some]
  cases hk:hkV v with
  |none=>rw[hk] at h;exact Cnd.no (by simp) h
  |some t=>
   rw[hk] at h
   exact Cnd.yes rfl (q4i hz (y7v (y7u hN hl) (y7g hs hl).2 hk) h)
theorem j3b{s:Subj}{v:Srv}{K:Int->Int->Bool->Prop}(hs:SubB s)(hN:NumB s)(hz:v.4.size<=10000000)(hl:v.5.length<=1000000)(h:K (srvV s v).1 (srvV s v).2.1 (srvV s v).2.2):Bc s v K:=by
 unfold Bc q4x
 unfold srvV at h
 refine Cnd.mk (fun e=> ?_) fun e=>by rw[if_pos e] at h;exact h
 rw[if_neg (by omega)] at h
 refine j3a hs hN hz ?_
 cases hb:bksV s v.2 v.3 v.4 with
 |none=>rw[hb] at h;exact Cnd.no (by simp) h
 |some b=>rw[hb] at h;exact Cnd.yes rfl (z7d hl h)
def tgtV(s:Subj)(f:Flg):Int:=match ixF (tgP s) f.7 0 with
 |some q=>(q.1:Int)+1
 |none=>0
theorem j00{f:Flg}{s:Subj}{K:Int->Prop}(hs:SubB s)(ht:f.7.length<=1000000)(hk: ∀t∈f.7,t.3.length<=1048576)(h:K (tgtV s f)):Wr f s K:=by
 unfold Wr q2y
 unfold tgtV at h
 refine fun _=>y9t (tgP s) (by omega) (fun hn=>by rw[hn] at h;exact h) fun i y Y hy hi hp hq=>Hi hs ?_
 have miss:tgP s y=false->InI ((i:Int)+1)/\Y ((i:Int)+1):=hq
 cases hf:fnd s y.1 with
 |none=>exact Cnd.no (by simp) (miss (by unfold tgP;rw[hf]))
 |some c=>
  refine Cnd.yes rfl fun _=>srch (fun k=>decide (k=c.2)) (by have:=hk y (getm hy);omega) (fun hn=>Cnd.no (by omega) (miss ?_)) fun j k Z hkk hj hp2 hq2=>Cnd.mk (fun e=>Cnd.yes (by omega) ⟨by unfold InI;omega,?_⟩) fun e=>hq2 (df fun e2=>e e2.symm)
  ·unfold tgP;rw[hf]
   refine w6q fun hm=> ?_
   rw[List.find?_eq_none] at hn
   exact hn _ hm (dt rfl)
  ·have hc:c.2=k:=e
   have ht:tgP s y=true:=by unfold tgP;rw[hf];exact v0x (hc▸getm hkk)
   rw[hp ht] at h;exact h
end Go.En
end
noncomputable section
set_option maxRecDepth 100000
namespace Go.En
open Go Go.Fl Go.Fl.Lk Go.Fx
def SrvB(v:Srv):Prop:=v.4.size<=10000000/\v.5.length<=1000000
structure FlX(v:Envt):Prop where
 b:FlB v.4
 n:v.4.length<=1000
 vs: ∀f∈v.4,f.3.length<=1000000/\ ∀x∈f.3,x.4.length<=2000000
 p: ∀f∈v.4,f.6.length<=1000000
 t: ∀f∈v.4,f.7.length<=1000000/\ ∀t∈f.7,t.3.length<=1048576
 r: ∀f∈v.4,f.8.length<=1000000/\ ∀r∈f.8,wt r.2<=2000000/\EvB r.2/\SrvB r.3
 d: ∀f∈v.4,SrvB f.9
 x: ∀x∈v.6,x.1≠noT
theorem v7o{n:Int}{s:Srv}(h:SrvD n s):SrvB s:=⟨Nat.le_trans h.ok.salt (by decide),by have:=h.ok.split.1;omega⟩
theorem y7w{v:Envt}(hE:EnvS v)(hD:EnvD v):FlX v where
 b:=y7t hD
 n:=Nat.le_trans hE.flen (by decide)
 vs f hf:=⟨by have:=(hE.flags f hf).vlen;omega,fun x hx=>by have:=((hE.flags f hf).vals x hx).len;omega⟩
 p f hf:=by have:=(hE.flags f hf).nlen;omega
 t f hf:=⟨by have:=(hE.flags f hf).tlen;omega,fun t ht=>by
  obtain⟨i,hi⟩:=List.getElem?_of_mem hf
  have:=((hD.flags.all i f hi).tgts t ht).2;omega⟩
 r f hf:=⟨by have:=(hE.flags f hf).rlen;omega,fun r hr=>by
  obtain⟨i,hi⟩:=List.getElem?_of_mem hf
  have h1:=(hD.flags.all i f hi).rules r hr
  exact⟨(w9k h1.cond).1,(w9k h1.cond).2,v7o h1.serve⟩⟩
 d f hf:=by
  obtain⟨i,hi⟩:=List.getElem?_of_mem hf
  exact v7o (hD.flags.all i f hi).dflt
 x x hx:=y7s _ (hD.exps.subset (List.mem_map_of_mem hx))
abbrev noF:Flg:=Flg.mk noT 0 [] false 0 [] [] [] (Srv.mk 0 noT noT noT [])
abbrev noD:Dcs:=Dcs.mk noT 0 noV (Rsn.mk 0 0 noT 0) 0
theorem z01{v:Envt}{s:Subj}{fs:List Frc}{K:ByteArray->ByteArray->Int->List Decl->List Seg->List Flg->List Lay_->List Exper->List Ctxt->List Frc->List ByteArray->(ByteArray->Option Dcs)->(ByteArray->Option Bool)->Prop}(hv:AsB v)(hs:SubB s)
  (h:K v.1.1 v.1.2 v.1.3 v.2 v.3 v.4 v.5 v.6 s.1 fs (mem v.3 s) (fun _=>none) (fun _=>none)):U7 v s fs K:=by
 unfold U7 q4v
 have one: ∀{K':List ByteArray->Prop},K' (mem v.3 s)->Wq v.3 (Subj.mk s.1) K':=fun h=>q85 hv.sg hs fun m hm=>by rw[y1r hm];exact h
 exact⟨one ⟨h,h⟩,⟨one h,one h⟩,one h,one h⟩
section
variable {v:Envt}{s:Subj}{fs:List Frc}{inn:List ByteArray}{done:ByteArray->Option Dcs}{opn:ByteArray->Option Bool}
theorem j8s{key:ByteArray}{K:Flg->Bool->(ByteArray->Option Dcs)->(ByteArray->Option Bool)->Prop}(hn:v.4.length<=1000)(h:K ((fof v key).getD noF) (fof v key).isSome done opn):
  Jg v.1.1 v.1.2 v.1.3 v.2 v.3 v.4 v.5 v.6 s.1 fs inn done opn key K:=by
 unfold Jg
 unfold fof at h
 refine fun _=>srch (fun f=>decide (f.1=key)) (by omega) (fun hf=> ?_) fun i y Y hy hi hp hq=>Cnd.mk (fun e=>Cnd.no (by omega) ⟨by omega,fun z hz=> ?_⟩) fun e=>hq (df e)
 ·rw[hf] at h;exact Cnd.yes (by omega) h
 ·have hz:v.4[i]? =some z:=hz
  rw[hy] at hz;cases hz
  rw[hp (dt e)] at h;exact h
theorem w37{x:Exper}{K:Int->(ByteArray->Option Dcs)->(ByteArray->Option Bool)->Prop}(hv:AsB v)(hs:SubB s)(hx:x.4.size<=10000000)(h:K (abV v s x) done opn):
  Jj v.1.1 v.1.2 v.1.3 v.2 v.3 v.4 v.5 v.6 s.1 fs inn done opn x K:=by
 unfold Jj Rm
 unfold abV lof at h
 have hln:=hv.ln
 refine fun _=>srch (fun l=>decide (l.1=x.2)) (by omega) (fun hf=>by rw[hf] at h;exact h) fun i y Y hy hi hp hq=>Cnd.mk (fun e=>Hi (s:=s) hs ?_) fun e=>hq (df e)
 rw[hp (dt e)] at h
 simp only at h
 cases hf:fnd s y.2 with
 |none=>rw[hf] at h;exact Cnd.no (by simp) h
 |some c=>rw[hf] at h;exact Cnd.yes rfl (q4i hx (w3y hs hf) h)
theorem j3t{f:Flg}{sv:Srv}{r:Rsn}{K:Int->Rsn->(ByteArray->Option Dcs)->(ByteArray->Option Bool)->Prop}(hs:SubB s)(hN:NumB s)(hb:SrvB sv)(h:K (svd s f.5 sv r.1 r.2 r.3).1 (svd s f.5 sv r.1 r.2 r.3).2 done opn):
  Jt v.1.1 v.1.2 v.1.3 v.2 v.3 v.4 v.5 v.6 s.1 fs inn done opn f sv r K:=by
 unfold Jt Bv
 unfold svd at h
 refine j3b (s:=s) hs hN hb.1 hb.2 (Cnd.mk (fun e=> ?_) fun e=> ?_)
 ·rw[if_pos e] at h;exact h
 ·rw[if_neg e] at h;exact h
end
end Go.En
end
noncomputable section
set_option maxRecDepth 100000
namespace Go.En
open Go Go.Fl Go.Fl.Lk Go.Fx
theorem q87{l:List Val}{n:Int}{Z:Int->Int->ByteArray->List ByteArray->Prop}(hl:l.length<=1000000)(h:Z (valV l n).1 (valV l n).2 (valV l n).3 (valV l n).4):
  Jn4 Z fun Y=>Cnd (1<=n) (Fits l->Cnd (n<=(l.length:Int)) (InI (n - 1)/\At l (n - 1) fun y=>Y y.1 y.2 y.3 y.4) (Y 0 0 noT [])) (Y 0 0 noT []):=by
 refine Jn4.mk (fun a b c d=>a=(valV l n).1/\b=(valV l n).2/\c=(valV l n).3/\d=(valV l n).4) (Cnd.mk (fun h1 _=>Cnd.mk (fun h2=>⟨by unfold InI;omega,by omega,fun y hy=> ?_⟩) fun h2=> ?_) fun h1=> ?_) fun a b c d ⟨e1,e2,e3,e4⟩=>by rw[e1,e2,e3,e4];exact h
 ·unfold valV;rw[if_pos ⟨h1,h2⟩,hy];exact⟨rfl,rfl,rfl,rfl⟩
 ·unfold valV;rw[if_neg (fun k=>h2 k.2)];exact⟨rfl,rfl,rfl,rfl⟩
 ·unfold valV;rw[if_neg (fun k=>h1 k.1)];exact⟨rfl,rfl,rfl,rfl⟩
theorem y0n{l:List Val}{n:Int}(h: ∀x∈l,x.4.length<=2000000):(valV l n).4.length<=2000000:=by
 unfold valV
 split
 ·cases hq:l[(n - 1).toNat]? with
  |none=>simp
  |some x=>exact h x (getm hq)
 ·simp
def DnI(v:Envt)(s:Subj)(fs:List Frc)(done:ByteArray->Option Dcs):Prop:= ∀k d,done k=some d-> ∃f∈v.4,k=f.1/\d=dcsV v s fs f
theorem DnI.nil{v:Envt}{s:Subj}{fs:List Frc}:DnI v s fs fun _=>none:=fun _ _ h=>by cases h
theorem DnI.put{v:Envt}{s:Subj}{fs:List Frc}{done:ByteArray->Option Dcs}(h:DnI v s fs done){f:Flg}(hf:f∈v.4):DnI v s fs (put done f.1 (dcsV v s fs f)):=fun k d hk=>by
 unfold Fl.put at hk
 split at hk
 ·rename_i e;cases hk;exact⟨f,hf,e,rfl⟩
 ·exact h k d hk
theorem y49{o:ByteArray->Option Bool}{k:ByteArray}{b:Bool}(h:o k=none):dlt (put o k b) k=o:=by
 funext q
 unfold dlt Fl.put
 by_cases e:q=k
 ·rw[if_pos e,e,h]
 ·rw[if_neg e,if_neg e]
theorem y5a{v:Envt}{s:Subj}{fs:List Frc}{key:ByteArray}(h:(asgV v s fs key).2≠0):(asgV v s fs key).1.2=noT:=by
 unfold asgV at h⊢
 split
 ·rename_i l hl;rw[hl] at h;exact absurd rfl h
 ·rfl
theorem nodup_at{v:Envt}(hB:FlB v.4){i j:Nat}{f g:Flg}(hf:v.4[i]? =some f)(hg:v.4[j]? =some g)(h:i≠j):f.1≠g.1:=fun e=>by
 have h1:=w61 hB hf
 have h2:=w61 hB hg
 rw[e,h2] at h1
 have e2:g=f:=Option.some.inj h1
 subst e2
 have hnd:=hB.nd
 have a:=Qe hf
 have b:=Qe hg
 refine h ((List.getElem_inj (h₀:=by rw[List.length_map];exact a) (h₁:=by rw[List.length_map];exact b) hnd).1 ?_)
 rw[List.getElem_map,List.getElem_map]
 rw[List.getElem?_eq_getElem a] at hf
 rw[List.getElem?_eq_getElem b] at hg
 rw[Option.some.inj hf,Option.some.inj hg]
theorem w62{v:Envt}{s:Subj}{fs:List Frc}(hv:AsB v)(hF:FlX v)(hs:SubB s)(hN:NumB s)(hfs:fs.length<=1000000000){i:Nat}{f:Flg}(hf:v.4[i]? =some f){done:ByteArray->Option Dcs}{opn:ByteArray->Option Bool}
  {K:Dcs->(ByteArray->Option Dcs)->(ByteArray->Option Bool)->Prop}(hd:DnI v s fs done)(ho: ∀(j:Nat) g,j<=i->v.4[j]? =some g->opn g.1=none)(hK: ∀done',DnI v s fs done'->K (dcsV v s fs f) done' opn):
  We v.1.1 v.1.2 v.1.3 v.2 v.3 v.4 v.5 v.6 s.1 fs (mem v.3 s) done opn f K:=by
 intro X hX
 induction i using Nat.strongRecOn generalizing f done opn K with
 |ind i ih=>
  refine hX _ _ _ _ _ _ _ _ _ _ _ _ _ _ _ ?_
  clear hX
  have hm:=getm hf
  have hvs:=hF.vs f hm
  unfold Rn
  refine Jn1.mk (fun t=> ∃done',DnI v s fs done'/\t=(f.1,(dcsV v s fs f).2,(dcsV v s fs f).3.1,(dcsV v s fs f).3.2,(dcsV v s fs f).3.3,(dcsV v s fs f).3.4,(dcsV v s fs f).4.1,(dcsV v s fs f).4.2,(dcsV v s fs f).4.3,(dcsV v s fs f).4.4,(dcsV v s fs f).5,done',opn,())) ?_ ?_
  case refine_2=>
   rintro _ ⟨done',hd',rfl⟩
   exact q3t (y0n hvs.2) (hK done' hd')
  have fin: ∀{n:Int} {r:Rsn} {done1:ByteArray->Option Dcs} {opn1:ByteArray->Option Bool},DnI v s fs done1->opn1=put opn f.1 true->dcV v s fs f=(n,r)-> ∃done',DnI v s fs done'/\(f.1,n,(valV f.3 n).1,(valV f.3 n).2,(valV f.3 n).3,(valV f.3 n).4,r.1,r.2,r.3,r.4,(0:Int),put done1 f.1 (Dcs.mk f.1 n (valV f.3 n) r 0),dlt opn1 f.1,())=(f.1,(dcsV v s fs f).2,(dcsV v s fs f).3.1,(dcsV v s fs f).3.2,(dcsV v s fs f).3.3,(dcsV v s fs f).3.4,(dcsV v s fs f).4.1,(dcsV v s fs f).4.2,(dcsV v s fs f).4.3,(dcsV v s fs f).4.4,(dcsV v s fs f).5,done',opn,()):=by
   intro n r done1 opn1 h1 h2 h3
   have e:dcsV v s fs f=Dcs.mk f.1 n (valV f.3 n) r 0:=by unfold dcsV;rw[h3]
   refine⟨_,h1.put hm,?_⟩
   rw[e,h2,y49 (ho i f (Nat.le_refl _) hf)]
  refine Cnd.mk (fun hm1=> ?_) fun hm1=> ?_
  ·obtain⟨d,hdd⟩:=Option.isSome_iff_exists.1 hm1
   rw[hdd]
   obtain⟨g,hg,hk,rfl⟩:=hd _ _ hdd
   obtain⟨j,hj⟩:=List.getElem?_of_mem hg
   have e:g=f:=by
    have a1:=w61 hF.b hj
    rw[←hk,w61 hF.b hf] at a1
    exact (Option.some.inj a1).symm
   subst e
   exact⟨done,hd,rfl⟩
  have hdc:=y7r (s:=s) (fs:=fs) hF.b hf
  unfold chsV at hdc
  refine Cnd.mk (fun hon=>fun _=> ?_) fun hon=> ?_
  case refine_2=>
   rw[if_pos (by simpa using hon)] at hdc
   exact q87 hvs.1 (fin hd rfl hdc)
  rw[if_neg (by rw[hon];simp)] at hdc
  have hol: ∀(j:Nat) g,j<i->v.4[j]? =some g->put opn f.1 true g.1=none:=fun j g hj hg=>by
   unfold Fl.put
   rw[if_neg (nodup_at hF.b hg hf (by omega))]
   exact ho j g (by omega) hg
  have hpl:=hF.p f hm
  refine LpH.ind (fun t=> ∃(j:Nat) (a b:Int) (c:ByteArray) (e:Int) (done1:ByteArray->Option Dcs),t=((j:Int),a,b,c,e,put opn f.1 true,done1,())/\j<=f.6.length/\DnI v s fs done1/\(f.6.find? fun p=> !metV v (fun g=>(dcV v s fs g).1) p)=(f.6.drop j).find? fun p=> !metV v (fun g=>(dcV v s fs g).1) p) (fun t=>(f.6.length - t.1).toNat) ?_ ⟨0,_,_,_,_,done,rfl,by omega,hd,rfl⟩
  rintro _ ⟨j,a,b,c,e,done1,rfl,hj,hd1,hfd⟩
  dsimp only
  refine Cnd.mk (fun hlt=>⟨by omega,fun p hp=> ?_⟩) fun hlt=> ?_
  ·have hp:f.6[j]? =some p:=hp
   have miss:metV v (fun g=>(dcV v s fs g).1) p=false->dcV v s fs f=(f.5,Rsn.mk 2 0 p.1 (-1)):=fun hmf=>by
    rw[hfd,z6b hp (by rw[hmf];rfl)] at hdc;exact hdc
   refine j8s (v:=v) (s:=s) hF.n ?_
   cases hfo:fof v p.1 with
   |none=>exact Cnd.no (by simp) (q87 hvs.1 (fin hd1 rfl (miss (by unfold metV;rw[hfo]))))
   |some g=>
    obtain⟨q,hq,hpk⟩:=v07 hfo
    have hqi:=hF.b.ord i f hf p (getm hp) q g hq hpk
    refine Cnd.yes rfl (Cnd.mk (fun hgo=>Cnd.no ?_ ?_) fun hgo=> ?_)
    ·show ¬(put opn f.1 true g.1).getD false=true
     rw[hol q g hqi hq];simp
    ·refine ih q hqi hq hd1 (fun j' g' hj' hg'=>hol j' g' (by omega) hg') fun done2 hd2=> ?_
     refine Cnd.mk (fun he=>⟨by unfold InI;omega,⟨j+1,a,b,c,e,done2,rfl,by omega,hd2,?_⟩,by show ((f.6.length:Int) - ((j:Int)+1)).toNat<((f.6.length:Int) - (j:Int)).toNat;omega⟩) fun he=>q87 hvs.1 (fin hd2 rfl (miss ?_))
     ·have he:(dcV v s fs g).1=p.2:=he
      rw[hfd,z0z hp]
      unfold metV;rw[hfo];simp only
      have hgo:g.4=true:=hgo
      rw[hgo,dt he];rfl
     ·have he: ¬(dcV v s fs g).1=p.2:=he
      unfold metV;rw[hfo];simp only
      rw[df he];simp
    ·have hgo: ¬g.4=true:=hgo
     refine q87 hvs.1 (fin hd1 rfl (miss ?_))
     unfold metV;rw[hfo];simp only
     rw[Bool.eq_false_iff.2 hgo];rfl
  ·rw[hfd,List.drop_eq_nil_of_le (by omega),List.find?_nil] at hdc
   clear hfd hlt
   refine j00 (f:=f) (s:=s) hs (hF.t f hm).1 (hF.t f hm).2 ?_
   unfold tgtV
   cases hix:ixF (tgP s) f.7 0 with
   |some q=>
    rw[hix] at hdc
    have hsp:=v7k hix
    refine Cnd.yes (by simp only;omega) ⟨by have:=Qe hsp.2.1;have:=(hF.t f hm).1;unfold InI;simp only;omega,by have:=Qe hsp.2.1;simp only;omega,fun y hy=> ?_⟩
    simp only at hy
    have hq2:=hsp.2.1
    rw[show ((q.1:Int)+1 - 1).toNat=q.1 - 0 by omega,hq2] at hy
    cases hy
    exact q87 hvs.1 (fin (r:=Rsn.mk 3 ((q.1:Int)+1) noT (-1)) hd1 rfl hdc)
   |none=>
    rw[hix] at hdc
    simp only at hdc
    refine Cnd.no (by simp) fun _=> ?_
    have hxl:=hv.xn
    refine LpH.ind (fun t=> ∃(j:Nat) (a b:Int) (c:ByteArray) (e:Int) (done1:ByteArray->Option Dcs),t=((j:Int),a,b,c,e,done1,put opn f.1 true,())/\j<=v.6.length/\DnI v s fs done1/\v.6.find? (inXV v s fs f.1)=(v.6.drop j).find? (inXV v s fs f.1)) (fun t=>(v.6.length - t.1).toNat) ?_ ⟨0,_,_,_,_,done1,rfl,by omega,hd1,rfl⟩
    clear hd1
    rintro _ ⟨j,a,b,c,e,done1,rfl,hj,hd1,hfd⟩
    dsimp only
    refine Cnd.mk (fun hlt=>⟨by omega,fun x hx=> ?_⟩) fun hlt=> ?_
    ·have hx:v.6[j]? =some x:=hx
     have next:inXV v s fs f.1 x=false->InI ((j:Int)+1)/\(∃(j':Nat) (a' b':Int) (c':ByteArray) (e':Int) (done2:ByteArray->Option Dcs),((j:Int)+1,a,b,c,e,done1,put opn f.1 true,())=((j':Int),a',b',c',e',done2,put opn f.1 true,())/\j'<=v.6.length/\DnI v s fs done2/\v.6.find? (inXV v s fs f.1)=(v.6.drop j').find? (inXV v s fs f.1))/\((v.6.length:Int) - ((j:Int)+1)).toNat<((v.6.length:Int) - (j:Int)).toNat:=fun hn=>
      ⟨by unfold InI;omega,⟨j+1,a,b,c,e,done1,rfl,by omega,hd1,by rw[hfd,z0z hx hn]⟩,by omega⟩
     refine Cnd.mk (fun h3=>Cnd.mk (fun h5=> ?_) fun h5=>next ?_) fun h3=>next ?_
     ·refine j8m (v:=v) (s:=s) hv hs hfs (Cnd.mk (fun he=>Cnd.mk (fun hxk=> ?_) fun hxk=>next ?_) fun he=>next ?_)
      ·have hin:inXV v s fs f.1 x=true:=w9c (dt h3) (w9c (dt h5) (dt hxk))
       rw[hfd,z6b hx hin] at hdc
       exact w37 (v:=v) (s:=s) hv hs (hv.xs x (getm hx)) (q87 hvs.1 (fin (r:=Rsn.mk 4 0 x.1 (abV v s x)) hd1 rfl hdc))
      ·exact z00 (.inr (z00 (.inr (df hxk))))
      ·refine z00 (.inr (z00 (.inr (df ?_))))
       rw[y5a he]
       exact fun e=>hF.x x (getm hx) e.symm
     ·exact z00 (.inr (z00 (.inl (df h5))))
     ·exact z00 (.inl (df h3))
    ·rw[hfd,List.drop_eq_nil_of_le (by omega),List.find?_nil] at hdc
     simp only at hdc
     clear hfd hlt
     unfold rlsV at hdc
     have hr:=hF.r f hm
     refine fun _=>LpH.ind (fun t=> ∃(j:Nat) (a b:Int) (c:ByteArray) (e:Int) (done1:ByteArray->Option Dcs),t=((j:Int),a,b,c,e,put opn f.1 true,done1,())/\j<=f.8.length/\DnI v s fs done1/\ixF (fun r=>cndV v s r.2) f.8 0=ixF (fun r=>cndV v s r.2) (f.8.drop j) j) (fun t=>(f.8.length - t.1).toNat) ?_ ⟨0,_,_,_,_,done1,rfl,by omega,hd1,rfl⟩
     clear hd1
     rintro _ ⟨j,a,b,c,e,done1,rfl,hj,hd1,hfd⟩
     dsimp only
     refine Cnd.mk (fun hlt=>⟨by omega,fun r hr0=> ?_⟩) fun hlt=> ?_
     ·have hr0:f.8[j]? =some r:=hr0
      have hrm:=hr.2 r (getm hr0)
      refine q91 (s:=s) hs _ (Nat.le_refl _) (by rw[Jl];exact hrm.1) (by rw[Jl];exact hrm.2.1) ?_
      rw[Jl]
      refine Cnd.mk (fun hc=>⟨by unfold InI;omega,?_⟩) fun hc=> ?_
      ·rw[hfd,y1v hr0 hc] at hdc
       exact j3t (v:=v) (s:=s) (r:=Rsn.mk 5 ((j:Int)+1) r.1 0) hs hN hrm.2.2 (q87 hvs.1 (fin hd1 rfl hdc))
      ·refine⟨by unfold InI;omega,⟨j+1,a,b,c,e,done1,rfl,by omega,hd1,?_⟩,by show ((f.8.length:Int) - ((j:Int)+1)).toNat<((f.8.length:Int) - (j:Int)).toNat;omega⟩
       rw[hfd,v7j hr0 (Bool.eq_false_iff.2 hc)]
     ·rw[hfd,List.drop_eq_nil_of_le (by omega)] at hdc
      exact j3t (v:=v) (s:=s) (r:=Rsn.mk 6 0 noT 0) hs hN (hF.d f hm) (q87 hvs.1 (fin hd1 rfl hdc))
end Go.En
end
noncomputable section
set_option maxRecDepth 100000
namespace Go.En
open Go Go.Fl Go.Fl.Lk Go.Fx
abbrev wF(v:Envt)(k:Nat)(f:Flg):Envt:=Envt.mk v.1 v.2 v.3 (v.4.set k f) v.5 v.6
theorem y7x{v:Envt}(hB:FlB v.4){k:Nat}{f f':Flg}(hf:v.4[k]? =some f)(hk:f'.1=f.1)(hn: ∀p∈f'.6,p∈f.6):FlB (wF v k f').4:=by
 have hlt:=Qe hf
 have at_: ∀{i:Nat} {g:Flg},(v.4.set k f')[i]? =some g->(i=k/\g=f')∨(i≠k/\v.4[i]? =some g):=fun {i g} h=>by
  by_cases he:i=k
  ·subst he
   rw[List.getElem?_set_self hlt] at h
   exact .inl ⟨rfl,(Option.some.inj h).symm⟩
  ·rw[List.getElem?_set_ne (fun e=>he e.symm)] at h
   exact .inr ⟨he,h⟩
 refine⟨?_,fun i g hg p hp j g0 hg0 hpk=> ?_⟩
 ·have e:(v.4.set k f').map Flg.key=v.4.map Flg.key:=by
   refine List.ext_getElem? fun i=> ?_
   rw[List.getElem?_map,List.getElem?_map]
   by_cases he:i=k
   ·subst he
    rw[List.getElem?_set_self hlt,hf,Option.map_some,Option.map_some,hk]
   ·rw[List.getElem?_set_ne (fun e=>he e.symm)]
  show ((v.4.set k f').map Flg.key).Nodup
  rw[e];exact hB.nd
 ·have key: ∀q,v.4[i]? =some q->p∈q.6->j<i:=fun q hq hp=>by
   rcases at_ hg0 with ⟨rfl,rfl⟩|⟨_,h0⟩
   ·exact hB.ord i q hq p hp j f hf (hpk.trans hk)
   ·exact hB.ord i q hq p hp j g0 h0 hpk
  rcases at_ hg with ⟨rfl,rfl⟩|⟨_,h1⟩
  ·exact key f hf (hn p hp)
  ·exact key g h1 hp
theorem y7y{v:Envt}{s:Subj}{fs:List Frc}{f:Flg}(h:f.4=false):dcV v s fs f=(f.5,Rsn.mk 1 0 noT (-1)):=by
 unfold dcV chsV
 rw[if_pos h]
theorem y5b{v:Envt}(hB:FlB v.4){s:Subj}{fs:List Frc}{i:Nat}{f g:Flg}(_hi:v.4[i]? =some f)(hon:f.4=true){p:Prq}(hp:p∈f.6){j:Nat}(hj:v.4[j]? =some g)(hk:p.1=g.1)(hoff:g.4=false):(dcV v s fs f).1=f.5/\(dcV v s fs f).2.1=2:=by
 unfold dcV chsV
 rw[if_neg (by rw[hon];simp)]
 have hfo:fof v p.1=some g:=by rw[hk];exact w61 hB hj
 cases hf:f.6.find? fun p=> !metV v (dvN v s fs v.4.length) p with
 |none=>
  rw[List.find?_eq_none] at hf
  refine absurd ?_ (hf p hp)
  unfold metV
  rw[hfo]
  simp[hoff]
 |some q=>exact⟨rfl,rfl⟩
end Go.En
end
noncomputable section
set_option maxRecDepth 100000
namespace Go.En
open Go Go.Fl Go.Fl.Lk Go.Fx
def flgV(v:Envt)(s:Subj)(fs:List Frc)(key:ByteArray):Dcs×Int:=match fof v key with
 |some f=>(dcsV v s fs f,0)
 |none=>(noD,11)
theorem j4q{v:Envt}{s:Subj}{fs:List Frc}{key:ByteArray}{K:Dcs->Int->Prop}(hv:AsB v)(hF:FlX v)(hs:SubB s)(hN:NumB s)(hfs:fs.length<=1000000000)(h:K (flgV v s fs key).1 (flgV v s fs key).2):q1k v s fs key K:=by
 unfold q1k q7o
 unfold flgV at h
 refine z01 (v:=v) (s:=s) hv hs (j8s (v:=v) (s:=s) hF.n ?_)
 cases hf:fof v key with
 |none=>rw[hf] at h;exact Cnd.no (by simp) h
 |some f=>
  rw[hf] at h
  obtain⟨i,hi,_⟩:=v07 hf
  exact Cnd.yes rfl (w62 hv hF hs hN hfs hi DnI.nil (fun _ _ _ _=>rfl) fun _ _=>h)
theorem q8b{v:Envt}{s:Subj}{fs:List Frc}{K:List Dcs->Prop}(hv:AsB v)(hF:FlX v)(hs:SubB s)(hN:NumB s)(hfs:fs.length<=1000000000)(h:K (v.4.map (dcsV v s fs))):Vs v s fs K:=by
 unfold Vs q9t
 have hn:=hF.n
 refine z01 (v:=v) (s:=s) hv hs fun _=> ?_
 refine Lp4.ind (fun l i done opn=> ∃j:Nat,i=(j:Int)/\j<=v.4.length/\l=(v.4.take j).map (dcsV v s fs)/\DnI v s fs done/\opn=fun _=>none) (fun _ i _ _=>(v.4.length - i).toNat) ?_ ⟨0,rfl,by omega,by simp,DnI.nil,rfl⟩
 rintro l i done opn ⟨j,rfl,hj,rfl,hd,rfl⟩
 refine Cnd.mk (fun hlt=>⟨by omega,fun f hf=> ?_⟩) fun hlt=> ?_
 ·have hf:v.4[j]? =some f:=hf
  refine w62 hv hF hs hN hfs hf hd (fun _ _ _ _=>rfl) fun done' hd'=>⟨by unfold Sml;simp;omega,by unfold InI;omega,⟨j+1,rfl,by omega,?_,hd',rfl⟩,by omega⟩
  rw[List.take_add_one,hf,List.map_append];rfl
 ·rw[List.take_of_length_le (by omega)];exact h
abbrev fB:ByteArray:=ByteArray.mk (Array.mk [102])
abbrev smpF:Flg:=Flg.mk fB 1 [Val.mk 1 0 noT [],Val.mk 1 1 noT []] true 1 [] [] [] (Srv.mk 2 noT noT noT [])
abbrev smpE:Envt:=Envt.mk (Sett.mk noT noT 0) [] [] [smpF] [] []
theorem y5c:AsB smpE where
 ln:=by decide
 xn:=by decide
 sg:=v69 (by decide) (by simp)
 ex x hx:=by cases hx
 sa:=by decide
 ls l hl:=by cases hl
 xs x hx:=by cases hx
 cl x hx:=by cases hx
 nd:=by simp
theorem y5d:FlX smpE where
 b:=⟨by simp,fun i f hf p hp=>by
  have hf:[smpF][i]? =some f:=hf
  have:=List.mem_of_getElem? hf
  rw[List.mem_singleton] at this
  subst this;cases hp⟩
 n:=by decide
 vs f hf:=by
  rw[List.mem_singleton.1 hf]
  refine⟨by decide,fun x hx=> ?_⟩
  have hx:x∈[Val.mk 1 0 noT [],Val.mk 1 1 noT []]:=hx
  simp only[List.mem_cons,List.not_mem_nil,or_false] at hx
  rcases hx with rfl|rfl<;>simp
 p f hf:=by rw[List.mem_singleton.1 hf];decide
 t f hf:=by rw[List.mem_singleton.1 hf];exact⟨by decide,fun t ht=>by cases ht⟩
 r f hf:=by rw[List.mem_singleton.1 hf];exact⟨by decide,fun t ht=>by cases ht⟩
 d f hf:=by rw[List.mem_singleton.1 hf];exact⟨by decide,by decide⟩
 x x hx:=by cases hx
theorem y0o:flgV smpE (Subj.mk []) [] fB=(Dcs.mk fB 2 (Val.mk 1 1 noT []) (Rsn.mk 6 0 noT (-1)) 0,0):=by
 have hf:fof smpE fB=some smpF:=by simp[fof]
 have hd:dcV smpE (Subj.mk []) [] smpF=(2,Rsn.mk 6 0 noT (-1)):=by
  unfold dcV chsV
  simp[ixF,rlsV,svd,srvV]
 unfold flgV
 rw[hf]
 simp only
 unfold dcsV
 rw[hd]
 rfl
theorem v3h{K:Bool->Prop}(h:K true):q5y K:=by
 unfold q5y z11
 refine j4q (v:=smpE) y5c y5d (y0j (by decide) (by simp)) (fun c hc=>by cases hc) (by decide) ?_
 rw[y0o]
 exact Cnd.yes rfl (Cnd.yes rfl (Cnd.yes rfl (Cnd.yes rfl (by rw[dt ⟨rfl,rfl,rfl,rfl⟩];exact h))))
theorem w9m{V:Envt->Prop}(hV: ∀(v:Envt) (K:Bool->Prop),EnvS v->(∀b,(b=true->V v)->K b)->Bp v K)(hV0: ∀ds,V (Envt.mk (Sett.mk (ByteArray.mk (Array.mk [])) (ByteArray.mk (Array.mk [])) 0) ds [] [] [] []))
  {codes who:List Int}{K:Envt->Subj->List Frc->Prop}(hc:Byts codes)(hw:Byts who)(h: ∀v s f,EnvS v->EnvD v->V v->SubB s->NumB s->f.length<=3->K v s f):q1n codes who K:=by
 unfold q1n z14
 refine v0z hc (by decide) (by decide) fun cl hD=>j29 hV hV0 hD fun v a hE hd hv _=>v0z hw (by decide) (by decide) fun wl hD2=>j9p hD2 fun s a hs hl hD3=>w9l (v:=v) hD3 hE fun f _ hf=>h v s f hE hd hv (v2y hs hl) (v3g hl) hf
theorem v3i{codes who:List Int}{K:Envt->Subj->List Frc->Prop}(hc:Byts codes)(hw:Byts who)(h: ∀v s f,EnvS v->EnvD v->SubB s->NumB s->f.length<=3->K v s f):q1n codes who K:=
 w9m (V:=fun _=>True) (fun _ _ hv h=>j3q hv fun b=>h b fun _=>trivial) (fun _=>trivial) hc hw fun v s f h1 h2 _ h3 h4 h5=>h v s f h1 h2 h3 h4 h5
theorem w9n{a b:Dcs}{K:Bool->Prop}(h: ∀r,(r=true↔a=b)->K r):z54 a b K:=by
 unfold z54 j18
 refine Cnd.mk (fun h1=>Cnd.mk (fun h2=>j77 fun r hr=>Cnd.mk (fun h3=>Cnd.mk (fun h4=>h _ ⟨fun h5=> ?_,fun e=> ?_⟩) fun h4=>h _ ⟨fun e=>by simp at e,fun e=> ?_⟩) fun h3=>h _ ⟨fun e=>by simp at e,fun e=> ?_⟩) fun h2=>h _ ⟨fun e=>by simp at e,fun e=> ?_⟩) fun h1=>h _ ⟨fun e=>by simp at e,fun e=> ?_⟩
 ·replace h5:=of_decide_eq_true h5
  replace h3:=hr.1 h3
  clear hr h
  cases a with|mk a1 a2 a3 a4 a5=>cases b with|mk b1 b2 b3 b4 b5=>
  cases a3;cases b3;cases a4;cases b4
  simp only at h1 h2 h4 h5
  simp only[Val.mk.injEq] at h3
  obtain⟨e1,e2,e3,e4⟩:=h3
  obtain⟨g1,g2,g3,g4⟩:=h4
  subst h1 h2 h5 e1 e2 e3 e4 g1 g2 g3 g4
  rfl
 ·subst e;simp
 ·subst e;exact absurd ⟨rfl,rfl,rfl,rfl⟩ h4
 ·subst e;exact absurd (hr.2 rfl) h3
 ·subst e;exact absurd rfl h2
 ·subst e;exact absurd rfl h1
theorem v7p{v:Envt}(hv:AsB v){F:List Flg}:AsB (Envt.mk v.1 v.2 v.3 F v.5 v.6):=⟨hv.ln,hv.xn,hv.sg,hv.ex,hv.sa,hv.ls,hv.xs,hv.cl,hv.nd⟩
theorem j8t{α:Type}{l:List α}{k:Nat}{x y:α}(h:y∈l.set k x):y=x∨y∈l:=by
 rcases List.mem_or_eq_of_mem_set h with h|h
 ·exact .inr h
 ·exact .inl h
theorem y5e{v:Envt}(hF:FlX v){k:Nat}{f f':Flg}(hf:v.4[k]? =some f)(h1:f'.1=f.1)(h3:f'.3=f.3)(h6:f'.6=f.6)(h7:f'.7=f.7)(h8: ∀r∈f'.8,r∈f.8)(h8l:f'.8.length<=f.8.length)(h9:SrvB f'.9):FlX (wF v k f'):=by
 have hm:=getm hf
 exact {
  b:=y7x hF.b hf h1 fun p hp=>by rw[←h6];exact hp
  n:=by show (v.4.set k f').length<=1000;rw[List.length_set];exact hF.n
  vs:=fun g hg=>by
   rcases j8t hg with rfl|hg
   ·rw[h3];exact hF.vs f hm
   ·exact hF.vs g hg
  p:=fun g hg=>by
   rcases j8t hg with rfl|hg
   ·rw[h6];exact hF.p f hm
   ·exact hF.p g hg
  t:=fun g hg=>by
   rcases j8t hg with rfl|hg
   ·rw[h7];exact hF.t f hm
   ·exact hF.t g hg
  r:=fun g hg=>by
   rcases j8t hg with rfl|hg
   ·exact⟨Nat.le_trans h8l (hF.r f hm).1,fun r hr=>(hF.r f hm).2 r (h8 r hr)⟩
   ·exact hF.r g hg
  d:=fun g hg=>by
   rcases j8t hg with rfl|hg
   ·exact h9
   ·exact hF.d g hg
  x:=hF.x}
end Go.En
end
noncomputable section
set_option maxRecDepth 100000
namespace Go.En
open Go Go.Fl Go.Fl.Lk Go.Fx
section
variable {v:Envt}{s:Subj}{fs:List Frc}{inn:List ByteArray}{done:List Bool}{known:List Dcs}
end
theorem j4r{l:List Dcs}{K:Bool->Prop}(hl:l.length<=1000000000)(h:K true):q5z l l K:=by
 unfold q5z z15
 refine fun _ _=>Cnd.yes rfl (y9q (fun _=>false) hl (fun _=>h) fun i y Y hy hi _ hq=>⟨by omega,fun z hz=> ?_⟩)
 have hz:l[i]? =some z:=hz
 rw[hy] at hz;cases hz
 exact w9n fun r hr=>Cnd.yes (hr.2 rfl) (hq rfl)
end Go.En
end
noncomputable section
set_option maxRecDepth 100000
namespace Go.En
open Go Go.Fl Go.Fl.Lk Go.Fx
theorem y0p{α:Type}{l:List α}{k:Nat}{x y:α}(h:l[k]? =some x):(l.set k y).set k x=l:=by
 rw[List.set_set]
 refine List.ext_getElem? fun i=> ?_
 by_cases he:k=i
 ·subst he
  rw[List.getElem?_set_self (Qe h),h]
 ·rw[List.getElem?_set_ne he]
theorem j9x{codes who:List Int}{which:Int}{K:Bool->Prop}(hc:Byts codes)(hw:Byts who)(h:K true):Ja codes who which K:=by
 unfold Ja Bx
 refine v3h (Cnd.yes rfl (v3i hc hw fun v s fs hE hD hs hN hfs _=>Cnd.mk (fun _=>h) fun hn0 _=> ?_))
 have hF:=y7w hE hD
 have hv:=y7q hE hD
 have hfl:=hF.n
 have e2:=hE.slen
 have e5:=hE.llen
 have e6:=hE.xlen
 have hal:=hD.al
 refine y0k (by omega) (by omega) fun k k0 k1=> ?_
 obtain⟨kn,rfl⟩: ∃q:Nat,k=q:=⟨k.toNat,by omega⟩
 have hkt:((kn:Nat):Int).toNat=kn:=rfl
 simp only[List.nil_append]
 refine⟨by unfold Sml;omega,by unfold Sml;omega,by unfold Sml;omega,by unfold Sml;omega,by unfold Sml;omega,by omega,fun f hf=> ?_⟩
 have hf:v.4[kn]? =some f:=hf
 have hm:=getm hf
 have hlt:=Qe hf
 rw[hkt]
 let F0:Flg:=Flg.mk f.1 f.2 f.3 false f.5 f.6 f.7 f.8 f.9
 have hX:FlX (wF v kn F0):=y5e hF hf rfl rfl rfl rfl (fun r hr=>hr) (Nat.le_refl _) (hF.d f hm)
 have hat:(v.4.set kn F0)[kn]? =some F0:=List.getElem?_set_self hlt
 have hls:(v.4.set kn F0).length=v.4.length:=List.length_set
 have hoff:=y7y (v:=wF v kn F0) (s:=s) (fs:=fs) (f:=F0) rfl
 show Vs (wF v kn F0) s fs _
 refine q8b (v:=wF v kn F0) (s:=s) (v7p hv) hX hs hN (by omega) ?_
 have hL: ∀{i:Nat} {y:DcsX},(((v.4.set kn F0).map (dcsV (wF v kn F0) s fs)).map toX)[i]? =some y-> ∃g,(v.4.set kn F0)[i]? =some g/\y.2=(dcV (wF v kn F0) s fs g).1/\y.4=(dcV (wF v kn F0) s fs g).2:=fun {i y} hy=>by
  rw[List.getElem?_map,List.getElem?_map] at hy
  cases hg:(v.4.set kn F0)[i]? with
  |none=>rw[hg] at hy;cases hy
  |some g=>
   rw[hg] at hy
   cases hy
   exact⟨g,rfl,rfl,rfl⟩
 have hLl:(((v.4.set kn F0).map (dcsV (wF v kn F0) s fs)).map toX).length=v.4.length:=by rw[List.length_map,List.length_map,hls]
 show (((v.4.set kn F0).map (dcsV (wF v kn F0) s fs)).map toX).length<=_->(v.4.set kn F0).length<=_->_
 generalize ((v.4.set kn F0).map (dcsV (wF v kn F0) s fs)).map toX=L at hL hLl
 refine fun _ _=>Cnd.yes (by rw[hLl];exact congrArg _ hls.symm) ⟨by omega,fun y10 h10=> ?_⟩
 have self: ∀{y:DcsX},L[kn]? =some y->y.2=f.5/\y.4.1=1:=fun hy=>by
  obtain⟨g,hg,a,b⟩:=hL hy
  rw[hat] at hg;cases hg
  rw[a,b,hoff]
  exact⟨rfl,rfl⟩
 refine Cnd.yes (self h10).2 ⟨by omega,fun y12 h12=>⟨by omega,fun y14 h14=> ?_⟩⟩
 have h14:v.4[kn]? =some y14:=h14
 rw[hf] at h14;cases h14
 refine Cnd.yes (self h12).1 fun _=> ?_
 refine Lp1.ind (fun (i:Int)=>0<=i/\i<=v.4.length) (fun (i:Int)=>(v.4.length - i).toNat) ?_ ⟨by omega,by omega⟩
 rintro i ⟨i0,i1⟩
 refine Cnd.mk (fun hc1=> ?_) fun hc1=> ?_
 ·have hil:i<v.4.length:=by omega
  obtain⟨g,hg⟩: ∃g,(v.4.set kn F0)[i.toNat]? =some g:=⟨_,List.getElem?_eq_getElem (by omega)⟩
  have nx:InI (i+1)/\(0<=i+1/\i+1<=v.4.length)/\(v.4.length - (i+1)).toNat<(v.4.length - i).toNat:=⟨by unfold InI;omega,⟨by omega,by omega⟩,by omega⟩
  have atg: ∀{p:Flg->Prop},p g->(0<=i/\i<((v.4.set kn F0).length:Int))/\ ∀y,(v.4.set kn F0)[i.toNat]? =some y->p y:=fun hp=>⟨by omega,fun y hy=>by rw[hg] at hy;cases hy;exact hp⟩
  have hp6:=(hX.p g (getm hg))
  refine Lp1.ind (fun (j:Int)=>0<=j/\j<=g.6.length) (fun (j:Int)=>(g.6.length - j).toNat) ?_ ⟨by omega,by omega⟩
  rintro j ⟨j0,j1⟩
  refine atg (Cnd.mk (fun hon=>atg fun _=>Cnd.mk (fun hlj=>atg ⟨⟨j0,hlj⟩,fun p hp=>⟨by omega,fun y28 h28=> ?_⟩⟩) fun _=>nx) fun _=>nx)
  have h28:v.4[kn]? =some y28:=h28
  rw[hf] at h28;cases h28
  have ny:InI (j+1)/\(0<=j+1/\j+1<=g.6.length)/\(g.6.length - (j+1)).toNat<(g.6.length - j).toNat:=⟨by unfold InI;omega,⟨by omega,by omega⟩,by omega⟩
  refine Cnd.mk (fun hk=> ?_) fun _=>ny
  obtain⟨n1,n2⟩:=y5b (v:=wF v kn F0) hX.b (s:=s) (fs:=fs) hg hon (getm hp) hat hk rfl
  refine⟨by omega,fun y30 h30=>Cnd.yes ?_ ⟨by omega,fun y32 h32=>atg (Cnd.yes ?_ ny)⟩⟩
  ·obtain⟨g',hg',_,b⟩:=hL h30
   rw[hg] at hg';cases hg'
   rw[b];exact n2
  ·obtain⟨g',hg',a,_⟩:=hL h32
   rw[hg] at hg';cases hg'
   rw[a];exact n1
 ·refine⟨by omega,fun y18 h18=>⟨⟨by omega,by show (kn:Int)<((v.4.set kn F0).length:Int);omega⟩,fun y20 h20=> ?_⟩⟩
  have h18:v.4[kn]? =some y18:=h18
  rw[hf] at h18;cases h18
  have h20:(v.4.set kn F0)[kn]? =some y20:=h20
  rw[hat] at h20;cases h20
  have e:(v.4.set kn F0).set kn (Flg.mk F0.1 F0.2 F0.3 f.4 F0.5 F0.6 F0.7 F0.8 (Srv.mk F0.9.1 F0.9.2 F0.9.3 F0.9.4 F0.9.5))=v.4:=y0p (x:=f) hf
  show Vs (Envt.mk v.1 v.2 v.3 ((v.4.set kn F0).set kn (Flg.mk F0.1 F0.2 F0.3 f.4 F0.5 F0.6 F0.7 F0.8 (Srv.mk F0.9.1 F0.9.2 F0.9.3 F0.9.4 F0.9.5))) v.5 v.6) s fs _
  rw[e]
  refine q8b (v:=v) (s:=s) hv hF hs hN (by omega) (q8b (v:=v) (s:=s) hv hF hs hN (by omega) (j4r (by rw[List.length_map];omega) h))
end Go.En
end
