/- In words: other rules and another default change nothing for a subject that is targeted, in an experiment of the flag, or fails a prerequisite; for every input the law returns true. This is part 7 of 10. Conditions: those in the statements. -/
import Derived.Test.YtkbjibhkaddepaaGreatDoorRu6
noncomputable section
set_option maxRecDepth 100000
namespace Go.En
open Go Go.Fl Go.Fl.Lk Go.Fx
theorem v9i(n:Nat):(flK.take n).Nodup:=(show flK.Nodup by unfold flK;decide).sublist (List.take_sublist _ _)
theorem y83{v:Envt}(hD:EnvD v):FlB v.4:=by
 have hnd:(v.4.map Flg.key).Nodup:=by rw[hD.flags.keys];exact v9i _
 refine⟨hnd,fun i f hf p hp j g hg hpg=> ?_⟩
 obtain⟨g',hg',hk,_⟩:=(hD.flags.all i f hf).needs p hp
 obtain⟨q,hq⟩:=List.getElem?_of_mem hg'
 rw[List.getElem?_take] at hq
 split at hq
 ·rename_i hlt
  have hlg:=Qh hg
  have hlq:=Qh hq
  have e:j=q:=by
   have h1:(v.4.map Flg.key)[j]? =some g.1:=by rw[List.getElem?_map,hg];rfl
   have h2:(v.4.map Flg.key)[q]? =some g.1:=by rw[List.getElem?_map,hq,←hpg,hk];rfl
   have hlj:j<(v.4.map Flg.key).length:=by rw[List.length_map];exact hlg
   have hlk:q<(v.4.map Flg.key).length:=by rw[List.length_map];exact hlq
   rw[List.getElem?_eq_getElem hlj] at h1
   rw[List.getElem?_eq_getElem hlk] at h2
   exact (List.getElem_inj (h₀:=hlj) (h₁:=hlk) hnd).1 ((Option.some.inj h1).trans (Option.some.inj h2).symm)
  omega
 ·cases hq
end Go.En
end
noncomputable section
set_option maxRecDepth 100000
namespace Go.En
open Go Go.Fl Go.Fl.Lk Go.Fx
def rstD(n:Int):List UInt8:=if n=0 then [] else Go.Lib.decDigits n.natAbs
theorem y2l{n:Int}(h:n≠0):Go.Lib.itoa n=(if n<0 then [45] else [])++rstD n:=by
 unfold Go.Lib.itoa rstD
 rw[if_neg h]
 split
 ·rfl
 ·rw[show n.toNat=n.natAbs by omega];rfl
theorem v9j:Go.Lib.itoa 0=[48]:=by unfold Go.Lib.itoa;rw[if_neg (by decide),Go.Lib.decDigits];rfl
end Go.En
end
noncomputable section
set_option maxRecDepth 100000
namespace Go.En
open Go Go.Fl Go.Fl.Lk Go.Fx
def NumB(s:Subj):Prop:= ∀c∈s.ctxs,∀a∈c.attrs,InI a.value.number
theorem v44{s:Subj}(hc: ∀c∈s.ctxs,CtxS c):NumB s:=fun c hm a ha=>((hc c hm).l a ha).num
theorem v9k: ∀(k n:Nat),n<10 ^ k->1<=k->(Go.Lib.decDigits n).length<=k
 |0,_,_,h=>by omega
 |k+1,n,h,_=>by
  rw[Go.Lib.decDigits]
  split
  ·simp
  ·rename_i hs
   have hk:1<=k:=by
    refine Nat.one_le_iff_ne_zero.2 fun e=> ?_
    subst e;simp at h;omega
   have:=v9k k (n / 10) (by rw[Nat.pow_succ] at h;omega) hk
   simp;omega
theorem y6r{n:Int}(h:InI n):(rstD n).length<=19:=by
 unfold rstD
 split
 ·simp
 ·refine v9k 19 _ ?_ (by decide)
  have:(10:Nat) ^ 19=10000000000000000000:=by decide
  unfold InI at h
  omega
theorem y2m{n:Int}(h:InI n):(numB n).size<=100:=by
 show (Go.Lib.itoa n).toArray.size<=100
 rw[List.size_toArray]
 by_cases h0:n=0
 ·subst h0;rw[v9j];decide
 ·rw[y2l h0]
  have:=y6r h
  split<;>simp<;>omega
theorem w08{n:Int}{K:ByteArray->Prop}(hn:InI n)(h:K (numB n)):q6h n K:=by
 unfold q6h
 exact⟨hn,h⟩
theorem w5j{v:Val}{K:ByteArray->Bool->Prop}(hn:InI v.2)(h:K ((hkV v).getD noT) (hkV v).isSome):q9b v K:=by
 unfold q9b z4s
 refine Jn1.mk (fun b=>b=true↔v.1=3∨v.1=4) (Cnd.mk (fun e=>by simp[e]) fun e=>by simp[e]) ?_
 intro b hb
 unfold hkV at h
 refine Cnd.mk (fun ht=> ?_) fun ht=> ?_
 ·rw[if_pos (hb.1 ht)] at h;exact h
 rw[if_neg (fun e=>ht (hb.2 e))] at h
 refine Cnd.mk (fun e=> ?_) fun e=> ?_
 ·rw[if_pos e] at h;exact w08 hn h
 rw[if_neg e] at h
 refine Cnd.mk (fun e1=> ?_) fun e1=> ?_
 ·rw[if_pos e1] at h
  refine Cnd.mk (fun e2=> ?_) fun e2=> ?_
  ·rw[if_pos e2] at h;exact h
  ·rw[if_neg e2] at h;exact h
 ·rw[if_neg e1] at h;exact h
theorem y84{s:Subj}{kind name:ByteArray}{v:Val}(hN:NumB s)(h:lkp s kind name=some v):InI v.2:=by
 unfold lkp at h
 cases hf:fnd s kind with
 |none=>rw[hf] at h;cases h
 |some c=>
  rw[hf] at h
  simp only[Option.bind_some] at h
  by_cases hk:name=keyB
  ·rw[if_pos hk] at h;cases h
   show InI 0
   unfold InI;omega
  ·rw[if_neg hk] at h
   obtain⟨a,ha,rfl⟩:=Option.map_eq_some_iff.1 h
   exact hN c (j4a hf) a (List.mem_of_find?_eq_some ha)
theorem y85{v:Val}{t:ByteArray}(hn:InI v.2)(hv:v.3.size<=2000000)(h:hkV v=some t):t.size<=10000000:=by
 unfold hkV at h
 split at h
 ·cases h;omega
 ·split at h
  ·cases h;have:=y2m hn;omega
  ·split at h
   ·cases h
    split<;>decide
   ·cases h
theorem j4k{s:Subj}{k b salt:ByteArray}{K:Int->Bool->Prop}(hs:SubB s)(hN:NumB s)(hz:salt.size<=10000000)(h:K ((bksV s k b salt).getD 0) (bksV s k b salt).isSome):B0 s k b salt K:=by
 unfold B0 q5m
 refine z1e hs ?_
 unfold bksV at h
 cases hl:lkp s k b with
 |none=>rw[hl] at h;exact Cnd.no (by simp) h
 |some v=>
  rw[hl] at h
  simp only[Option.bind_some] at h
  refine Cnd.yes rfl (w5j (y84 hN hl) ?_)
  simp only[Option.getD_some]
  cases hk:hkV v with
  |none=>rw[hk] at h;exact Cnd.no (by simp) h
  |some t=>
   rw[hk] at h
   exact Cnd.yes rfl (q49 hz (y85 (y84 hN hl) (y56 hs hl).2 hk) h)
theorem j4l{s:Subj}{v:Srv}{K:Int->Int->Bool->Prop}(hs:SubB s)(hN:NumB s)(hz:v.4.size<=10000000)(hl:v.5.length<=1000000)(h:K (srvV s v).1 (srvV s v).2.1 (srvV s v).2.2):B1 s v K:=by
 unfold B1 q5n
 unfold srvV at h
 refine Cnd.mk (fun e=> ?_) fun e=>by rw[if_pos e] at h;exact h
 rw[if_neg (by omega)] at h
 refine j4k hs hN hz ?_
 cases hb:bksV s v.2 v.3 v.4 with
 |none=>rw[hb] at h;exact Cnd.no (by simp) h
 |some b=>rw[hb] at h;exact Cnd.yes rfl (z8d hl h)
def tgtV(s:Subj)(f:Flg):Int:=match ixF (tgP s) f.7 0 with
 |some q=>(q.1:Int)+1
 |none=>0
theorem j17{f:Flg}{s:Subj}{K:Int->Prop}(hs:SubB s)(ht:f.7.length<=1000000)(hk: ∀t∈f.7,t.3.length<=1048576)(h:K (tgtV s f)):W0 f s K:=by
 unfold W0 q3f
 unfold tgtV at h
 refine fun _=>u0s (tgP s) (by omega) (fun hn=>by rw[hn] at h;exact h) fun i y Y hy hi hp hq=>H6 hs ?_
 have miss:tgP s y=false->InI ((i:Int)+1)/\Y ((i:Int)+1):=hq
 cases hf:fnd s y.1 with
 |none=>exact Cnd.no (by simp) (miss (by unfold tgP;rw[hf]))
 |some c=>
  refine Cnd.yes rfl fun _=>srch (fun k=>decide (k=c.2)) (by have:=hk y (getm hy);omega) (fun hn=>Cnd.no (by omega) (miss ?_)) fun j k Z hkk hj hp2 hq2=>Cnd.mk (fun e=>Cnd.yes (by omega) ⟨by unfold InI;omega,?_⟩) fun e=>hq2 (df fun e2=>e e2.symm)
  ·unfold tgP;rw[hf]
   refine j9t fun hm=> ?_
   rw[List.find?_eq_none] at hn
   exact hn _ hm (dt rfl)
  ·have hc:c.2=k:=e
   have ht:tgP s y=true:=by unfold tgP;rw[hf];exact w46 (hc▸getm hkk)
   rw[hp ht] at h;exact h
end Go.En
end
noncomputable section
set_option maxRecDepth 100000
namespace Go.En
open Go Go.Fl Go.Fl.Lk Go.Fx
def SrvB(v:Srv):Prop:=v.4.size<=10000000/\v.5.length<=1000000
structure FlX(v:Envt):Prop where
 b:FlB v.4
 n:v.4.length<=1000
 vs: ∀f∈v.4,f.3.length<=1000000/\ ∀x∈f.3,x.4.length<=2000000
 p: ∀f∈v.4,f.6.length<=1000000
 t: ∀f∈v.4,f.7.length<=1000000/\ ∀t∈f.7,t.3.length<=1048576
 r: ∀f∈v.4,f.8.length<=1000000/\ ∀r∈f.8,wt r.2<=2000000/\EvB r.2/\SrvB r.3
 d: ∀f∈v.4,SrvB f.9
 x: ∀x∈v.6,x.1≠noT
theorem v9l{n:Int}{s:Srv}(h:SrvD n s):SrvB s:=⟨Nat.le_trans h.ok.salt (by decide),by have:=h.ok.split.1;omega⟩
theorem y86{v:Envt}(hE:EnvS v)(hD:EnvD v):FlX v where
 b:=y83 hD
 n:=Nat.le_trans hE.flen (by decide)
 vs f hf:=⟨by have:=(hE.flags f hf).vlen;omega,fun x hx=>by have:=((hE.flags f hf).vals x hx).len;omega⟩
 p f hf:=by have:=(hE.flags f hf).nlen;omega
 t f hf:=⟨by have:=(hE.flags f hf).tlen;omega,fun t ht=>by
  obtain⟨i,hi⟩:=List.getElem?_of_mem hf
  have:=((hD.flags.all i f hi).tgts t ht).2;omega⟩
 r f hf:=⟨by have:=(hE.flags f hf).rlen;omega,fun r hr=>by
  obtain⟨i,hi⟩:=List.getElem?_of_mem hf
  have h1:=(hD.flags.all i f hi).rules r hr
  exact⟨(v0w h1.cond).1,(v0w h1.cond).2,v9l h1.serve⟩⟩
 d f hf:=by
  obtain⟨i,hi⟩:=List.getElem?_of_mem hf
  exact v9l (hD.flags.all i f hi).dflt
 x x hx:=y82 _ (hD.exps.subset (List.mem_map_of_mem hx))
abbrev noF:Flg:=Flg.mk noT 0 [] false 0 [] [] [] (Srv.mk 0 noT noT noT [])
abbrev noD:Dcs:=Dcs.mk noT 0 noV (Rsn.mk 0 0 noT 0) 0
theorem j4m{v:Envt}{s:Subj}{fs:List Frc}{K:ByteArray->ByteArray->Int->List Decl->List Seg->List Flg->List Lay_->List Exper->List Ctxt->List Frc->List ByteArray->(ByteArray->Option Dcs)->(ByteArray->Option Bool)->Prop}(hv:AsB v)(hs:SubB s)
  (h:K v.1.1 v.1.2 v.1.3 v.2 v.3 v.4 v.5 v.6 s.1 fs (mem v.3 s) (fun _=>none) (fun _=>none)):Bz v s fs K:=by
 unfold Bz q5l
 have one: ∀{K':List ByteArray->Prop},K' (mem v.3 s)->Wz v.3 (Subj.mk s.1) K':=fun h=>q9m hv.sg hs fun m hm=>by rw[y3v hm];exact h
 exact⟨one ⟨h,h⟩,⟨one h,one h⟩,one h,one h⟩
section
variable {v:Envt}{s:Subj}{fs:List Frc}{inn:List ByteArray}{done:ByteArray->Option Dcs}{opn:ByteArray->Option Bool}
theorem j94{key:ByteArray}{K:Flg->Bool->(ByteArray->Option Dcs)->(ByteArray->Option Bool)->Prop}(hn:v.4.length<=1000)(h:K ((fof v key).getD noF) (fof v key).isSome done opn):
  Jm v.1.1 v.1.2 v.1.3 v.2 v.3 v.4 v.5 v.6 s.1 fs inn done opn key K:=by
 unfold Jm
 unfold fof at h
 refine fun _=>srch (fun f=>decide (f.1=key)) (by omega) (fun hf=> ?_) fun i y Y hy hi hp hq=>Cnd.mk (fun e=>Cnd.no (by omega) ⟨by omega,fun z hz=> ?_⟩) fun e=>hq (df e)
 ·rw[hf] at h;exact Cnd.yes (by omega) h
 ·have hz:v.4[i]? =some z:=hz
  rw[hy] at hz;cases hz
  rw[hp (dt e)] at h;exact h
theorem w5k{x:Exper}{K:Int->(ByteArray->Option Dcs)->(ByteArray->Option Bool)->Prop}(hv:AsB v)(hs:SubB s)(hx:x.4.size<=10000000)(h:K (abV v s x) done opn):
  Jq v.1.1 v.1.2 v.1.3 v.2 v.3 v.4 v.5 v.6 s.1 fs inn done opn x K:=by
 unfold Jq R8
 unfold abV lof at h
 have hln:=hv.ln
 refine fun _=>srch (fun l=>decide (l.1=x.2)) (by omega) (fun hf=>by rw[hf] at h;exact h) fun i y Y hy hi hp hq=>Cnd.mk (fun e=>H6 (s:=s) hs ?_) fun e=>hq (df e)
 rw[hp (dt e)] at h
 simp only at h
 cases hf:fnd s y.2 with
 |none=>rw[hf] at h;exact Cnd.no (by simp) h
 |some c=>rw[hf] at h;exact Cnd.yes rfl (q49 hx (w5b hs hf) h)
theorem j47{f:Flg}{sv:Srv}{r:Rsn}{K:Int->Rsn->(ByteArray->Option Dcs)->(ByteArray->Option Bool)->Prop}(hs:SubB s)(hN:NumB s)(hb:SrvB sv)(h:K (svd s f.5 sv r.1 r.2 r.3).1 (svd s f.5 sv r.1 r.2 r.3).2 done opn):
  J1 v.1.1 v.1.2 v.1.3 v.2 v.3 v.4 v.5 v.6 s.1 fs inn done opn f sv r K:=by
 unfold J1 q0l
 unfold svd at h
 refine j4l (s:=s) hs hN hb.1 hb.2 (Cnd.mk (fun e=> ?_) fun e=> ?_)
 ·rw[if_pos e] at h;exact h
 ·rw[if_neg e] at h;exact h
end
end Go.En
end
noncomputable section
set_option maxRecDepth 100000
namespace Go.En
open Go Go.Fl Go.Fl.Lk Go.Fx
theorem q9o{l:List Val}{n:Int}{Z:Int->Int->ByteArray->List ByteArray->Prop}(hl:l.length<=1000000)(h:Z (valV l n).1 (valV l n).2 (valV l n).3 (valV l n).4):
  Jn4 Z fun Y=>Cnd (1<=n) (Fits l->Cnd (n<=(l.length:Int)) (InI (n - 1)/\At l (n - 1) fun y=>Y y.1 y.2 y.3 y.4) (Y 0 0 noT [])) (Y 0 0 noT []):=by
 refine Jn4.mk (fun a b c d=>a=(valV l n).1/\b=(valV l n).2/\c=(valV l n).3/\d=(valV l n).4) (Cnd.mk (fun h1 _=>Cnd.mk (fun h2=>⟨by unfold InI;omega,by omega,fun y hy=> ?_⟩) fun h2=> ?_) fun h1=> ?_) fun a b c d ⟨e1,e2,e3,e4⟩=>by rw[e1,e2,e3,e4];exact h
 ·unfold valV;rw[if_pos ⟨h1,h2⟩,hy];exact⟨rfl,rfl,rfl,rfl⟩
 ·unfold valV;rw[if_neg (fun k=>h2 k.2)];exact⟨rfl,rfl,rfl,rfl⟩
 ·unfold valV;rw[if_neg (fun k=>h1 k.1)];exact⟨rfl,rfl,rfl,rfl⟩
theorem y2n{l:List Val}{n:Int}(h: ∀x∈l,x.4.length<=2000000):(valV l n).4.length<=2000000:=by
 unfold valV
 split
 ·cases hq:l[(n - 1).toNat]? with
  |none=>simp
  |some x=>exact h x (getm hq)
 ·simp
def DnI(v:Envt)(s:Subj)(fs:List Frc)(done:ByteArray->Option Dcs):Prop:= ∀k d,done k=some d-> ∃f∈v.4,k=f.1/\d=dcsV v s fs f
theorem DnI.nil{v:Envt}{s:Subj}{fs:List Frc}:DnI v s fs fun _=>none:=fun _ _ h=>by cases h
theorem DnI.put{v:Envt}{s:Subj}{fs:List Frc}{done:ByteArray->Option Dcs}(h:DnI v s fs done){f:Flg}(hf:f∈v.4):DnI v s fs (put done f.1 (dcsV v s fs f)):=fun k d hk=>by
 unfold Fl.put at hk
 split at hk
 ·rename_i e;cases hk;exact⟨f,hf,e,rfl⟩
 ·exact h k d hk
theorem y6s{o:ByteArray->Option Bool}{k:ByteArray}{b:Bool}(h:o k=none):dlt (put o k b) k=o:=by
 funext q
 unfold dlt Fl.put
 by_cases e:q=k
 ·rw[if_pos e,e,h]
 ·rw[if_neg e,if_neg e]
theorem y6t{v:Envt}{s:Subj}{fs:List Frc}{key:ByteArray}(h:(asgV v s fs key).2≠0):(asgV v s fs key).1.2=noT:=by
 unfold asgV at h⊢
 split
 ·rename_i l hl;rw[hl] at h;exact absurd rfl h
 ·rfl
theorem nodup_at{v:Envt}(hB:FlB v.4){i j:Nat}{f g:Flg}(hf:v.4[i]? =some f)(hg:v.4[j]? =some g)(h:i≠j):f.1≠g.1:=fun e=>by
 have h1:=j46 hB hf
 have h2:=j46 hB hg
 rw[e,h2] at h1
 have e2:g=f:=Option.some.inj h1
 subst e2
 have hnd:=hB.nd
 have a:=Qh hf
 have b:=Qh hg
 refine h ((List.getElem_inj (h₀:=by rw[List.length_map];exact a) (h₁:=by rw[List.length_map];exact b) hnd).1 ?_)
 rw[List.getElem_map,List.getElem_map]
 rw[List.getElem?_eq_getElem a] at hf
 rw[List.getElem?_eq_getElem b] at hg
 rw[Option.some.inj hf,Option.some.inj hg]
theorem v9m{v:Envt}{s:Subj}{fs:List Frc}(hv:AsB v)(hF:FlX v)(hs:SubB s)(hN:NumB s)(hfs:fs.length<=1000000000){i:Nat}{f:Flg}(hf:v.4[i]? =some f){done:ByteArray->Option Dcs}{opn:ByteArray->Option Bool}
  {K:Dcs->(ByteArray->Option Dcs)->(ByteArray->Option Bool)->Prop}(hd:DnI v s fs done)(ho: ∀(j:Nat) g,j<=i->v.4[j]? =some g->opn g.1=none)(hK: ∀done',DnI v s fs done'->K (dcsV v s fs f) done' opn):
  V8 v.1.1 v.1.2 v.1.3 v.2 v.3 v.4 v.5 v.6 s.1 fs (mem v.3 s) done opn f K:=by
 intro X hX
 induction i using Nat.strongRecOn generalizing f done opn K with
 |ind i ih=>
  refine hX _ _ _ _ _ _ _ _ _ _ _ _ _ _ _ ?_
  clear hX
  have hm:=getm hf
  have hvs:=hF.vs f hm
  unfold R9
  refine Jn1.mk (fun t=> ∃done',DnI v s fs done'/\t=(f.1,(dcsV v s fs f).2,(dcsV v s fs f).3.1,(dcsV v s fs f).3.2,(dcsV v s fs f).3.3,(dcsV v s fs f).3.4,(dcsV v s fs f).4.1,(dcsV v s fs f).4.2,(dcsV v s fs f).4.3,(dcsV v s fs f).4.4,(dcsV v s fs f).5,done',opn,())) ?_ ?_
  case refine_2=>
   rintro _ ⟨done',hd',rfl⟩
   exact q4d (y2n hvs.2) (hK done' hd')
  have fin: ∀{n:Int} {r:Rsn} {done1:ByteArray->Option Dcs} {opn1:ByteArray->Option Bool},DnI v s fs done1->opn1=put opn f.1 true->dcV v s fs f=(n,r)-> ∃done',DnI v s fs done'/\(f.1,n,(valV f.3 n).1,(valV f.3 n).2,(valV f.3 n).3,(valV f.3 n).4,r.1,r.2,r.3,r.4,(0:Int),put done1 f.1 (Dcs.mk f.1 n (valV f.3 n) r 0),dlt opn1 f.1,())=(f.1,(dcsV v s fs f).2,(dcsV v s fs f).3.1,(dcsV v s fs f).3.2,(dcsV v s fs f).3.3,(dcsV v s fs f).3.4,(dcsV v s fs f).4.1,(dcsV v s fs f).4.2,(dcsV v s fs f).4.3,(dcsV v s fs f).4.4,(dcsV v s fs f).5,done',opn,()):=by
   intro n r done1 opn1 h1 h2 h3
   have e:dcsV v s fs f=Dcs.mk f.1 n (valV f.3 n) r 0:=by unfold dcsV;rw[h3]
   refine⟨_,h1.put hm,?_⟩
   rw[e,h2,y6s (ho i f (Nat.le_refl _) hf)]
  refine Cnd.mk (fun hm1=> ?_) fun hm1=> ?_
  ·obtain⟨d,hdd⟩:=Option.isSome_iff_exists.1 hm1
   rw[hdd]
   obtain⟨g,hg,hk,rfl⟩:=hd _ _ hdd
   obtain⟨j,hj⟩:=List.getElem?_of_mem hg
   have e:g=f:=by
    have a1:=j46 hF.b hj
    rw[←hk,j46 hF.b hf] at a1
    exact (Option.some.inj a1).symm
   subst e
   exact⟨done,hd,rfl⟩
  have hdc:=w8c (s:=s) (fs:=fs) hF.b hf
  unfold chsV at hdc
  refine Cnd.mk (fun hon=>fun _=> ?_) fun hon=> ?_
  case refine_2=>
   rw[if_pos (by simpa using hon)] at hdc
   exact q9o hvs.1 (fin hd rfl hdc)
  rw[if_neg (by rw[hon];simp)] at hdc
  have hol: ∀(j:Nat) g,j<i->v.4[j]? =some g->put opn f.1 true g.1=none:=fun j g hj hg=>by
   unfold Fl.put
   rw[if_neg (nodup_at hF.b hg hf (by omega))]
   exact ho j g (by omega) hg
  have hpl:=hF.p f hm
  refine LpH.ind (fun t=> ∃(j:Nat) (a b:Int) (c:ByteArray) (e:Int) (done1:ByteArray->Option Dcs),t=((j:Int),a,b,c,e,put opn f.1 true,done1,())/\j<=f.6.length/\DnI v s fs done1/\(f.6.find? fun p=> !metV v (fun g=>(dcV v s fs g).1) p)=(f.6.drop j).find? fun p=> !metV v (fun g=>(dcV v s fs g).1) p) (fun t=>(f.6.length - t.1).toNat) ?_ ⟨0,_,_,_,_,done,rfl,by omega,hd,rfl⟩
  rintro _ ⟨j,a,b,c,e,done1,rfl,hj,hd1,hfd⟩
  dsimp only
  refine Cnd.mk (fun hlt=>⟨by omega,fun p hp=> ?_⟩) fun hlt=> ?_
  ·have hp:f.6[j]? =some p:=hp
   have miss:metV v (fun g=>(dcV v s fs g).1) p=false->dcV v s fs f=(f.5,Rsn.mk 2 0 p.1 (-1)):=fun hmf=>by
    rw[hfd,j13 hp (by rw[hmf];rfl)] at hdc;exact hdc
   refine j94 (v:=v) (s:=s) hF.n ?_
   cases hfo:fof v p.1 with
   |none=>exact Cnd.no (by simp) (q9o hvs.1 (fin hd1 rfl (miss (by unfold metV;rw[hfo]))))
   |some g=>
    obtain⟨q,hq,hpk⟩:=w2o hfo
    have hqi:=hF.b.ord i f hf p (getm hp) q g hq hpk
    refine Cnd.yes rfl (Cnd.mk (fun hgo=>Cnd.no ?_ ?_) fun hgo=> ?_)
    ·show ¬(put opn f.1 true g.1).getD false=true
     rw[hol q g hqi hq];simp
    ·refine ih q hqi hq hd1 (fun j' g' hj' hg'=>hol j' g' (by omega) hg') fun done2 hd2=> ?_
     refine Cnd.mk (fun he=>⟨by unfold InI;omega,⟨j+1,a,b,c,e,done2,rfl,by omega,hd2,?_⟩,by show ((f.6.length:Int) - ((j:Int)+1)).toNat<((f.6.length:Int) - (j:Int)).toNat;omega⟩) fun he=>q9o hvs.1 (fin hd2 rfl (miss ?_))
     ·have he:(dcV v s fs g).1=p.2:=he
      rw[hfd,z5w hp]
      unfold metV;rw[hfo];simp only
      have hgo:g.4=true:=hgo
      rw[hgo,dt he];rfl
     ·have he: ¬(dcV v s fs g).1=p.2:=he
      unfold metV;rw[hfo];simp only
      rw[df he];simp
    ·have hgo: ¬g.4=true:=hgo
     refine q9o hvs.1 (fin hd1 rfl (miss ?_))
     unfold metV;rw[hfo];simp only
     rw[Bool.eq_false_iff.2 hgo];rfl
  ·rw[hfd,List.drop_eq_nil_of_le (by omega),List.find?_nil] at hdc
   clear hfd hlt
   refine j17 (f:=f) (s:=s) hs (hF.t f hm).1 (hF.t f hm).2 ?_
   unfold tgtV
   cases hix:ixF (tgP s) f.7 0 with
   |some q=>
    rw[hix] at hdc
    have hsp:=v9h hix
    refine Cnd.yes (by simp only;omega) ⟨by have:=Qh hsp.2.1;have:=(hF.t f hm).1;unfold InI;simp only;omega,by have:=Qh hsp.2.1;simp only;omega,fun y hy=> ?_⟩
    simp only at hy
    have hq2:=hsp.2.1
    rw[show ((q.1:Int)+1 - 1).toNat=q.1 - 0 by omega,hq2] at hy
    cases hy
    exact q9o hvs.1 (fin (r:=Rsn.mk 3 ((q.1:Int)+1) noT (-1)) hd1 rfl hdc)
   |none=>
    rw[hix] at hdc
    simp only at hdc
    refine Cnd.no (by simp) fun _=> ?_
    have hxl:=hv.xn
    refine LpH.ind (fun t=> ∃(j:Nat) (a b:Int) (c:ByteArray) (e:Int) (done1:ByteArray->Option Dcs),t=((j:Int),a,b,c,e,done1,put opn f.1 true,())/\j<=v.6.length/\DnI v s fs done1/\v.6.find? (inXV v s fs f.1)=(v.6.drop j).find? (inXV v s fs f.1)) (fun t=>(v.6.length - t.1).toNat) ?_ ⟨0,_,_,_,_,done1,rfl,by omega,hd1,rfl⟩
    clear hd1
    rintro _ ⟨j,a,b,c,e,done1,rfl,hj,hd1,hfd⟩
    dsimp only
    refine Cnd.mk (fun hlt=>⟨by omega,fun x hx=> ?_⟩) fun hlt=> ?_
    ·have hx:v.6[j]? =some x:=hx
     have next:inXV v s fs f.1 x=false->InI ((j:Int)+1)/\(∃(j':Nat) (a' b':Int) (c':ByteArray) (e':Int) (done2:ByteArray->Option Dcs),((j:Int)+1,a,b,c,e,done1,put opn f.1 true,())=((j':Int),a',b',c',e',done2,put opn f.1 true,())/\j'<=v.6.length/\DnI v s fs done2/\v.6.find? (inXV v s fs f.1)=(v.6.drop j').find? (inXV v s fs f.1))/\((v.6.length:Int) - ((j:Int)+1)).toNat<((v.6.length:Int) - (j:Int)).toNat:=fun hn=>
      ⟨by unfold InI;omega,⟨j+1,a,b,c,e,done1,rfl,by omega,hd1,by rw[hfd,z5w hx hn]⟩,by omega⟩
     refine Cnd.mk (fun h3=>Cnd.mk (fun h5=> ?_) fun h5=>next ?_) fun h3=>next ?_
     ·refine j9y (v:=v) (s:=s) hv hs hfs (Cnd.mk (fun he=>Cnd.mk (fun hxk=> ?_) fun hxk=>next ?_) fun he=>next ?_)
      ·have hin:inXV v s fs f.1 x=true:=v0o (dt h3) (v0o (dt h5) (dt hxk))
       rw[hfd,j13 hx hin] at hdc
       exact w5k (v:=v) (s:=s) hv hs (hv.xs x (getm hx)) (q9o hvs.1 (fin (r:=Rsn.mk 4 0 x.1 (abV v s x)) hd1 rfl hdc))
      ·exact z1f (.inr (z1f (.inr (df hxk))))
      ·refine z1f (.inr (z1f (.inr (df ?_))))
       rw[y6t he]
       exact fun e=>hF.x x (getm hx) e.symm
     ·exact z1f (.inr (z1f (.inl (df h5))))
     ·exact z1f (.inl (df h3))
    ·rw[hfd,List.drop_eq_nil_of_le (by omega),List.find?_nil] at hdc
     simp only at hdc
     clear hfd hlt
     unfold rlsV at hdc
     have hr:=hF.r f hm
     refine fun _=>LpH.ind (fun t=> ∃(j:Nat) (a b:Int) (c:ByteArray) (e:Int) (done1:ByteArray->Option Dcs),t=((j:Int),a,b,c,e,put opn f.1 true,done1,())/\j<=f.8.length/\DnI v s fs done1/\ixF (fun r=>cndV v s r.2) f.8 0=ixF (fun r=>cndV v s r.2) (f.8.drop j) j) (fun t=>(f.8.length - t.1).toNat) ?_ ⟨0,_,_,_,_,done1,rfl,by omega,hd1,rfl⟩
     clear hd1
     rintro _ ⟨j,a,b,c,e,done1,rfl,hj,hd1,hfd⟩
     dsimp only
     refine Cnd.mk (fun hlt=>⟨by omega,fun r hr0=> ?_⟩) fun hlt=> ?_
     ·have hr0:f.8[j]? =some r:=hr0
      have hrm:=hr.2 r (getm hr0)
      refine z0k (s:=s) hs _ (Nat.le_refl _) (by rw[Ji];exact hrm.1) (by rw[Ji];exact hrm.2.1) ?_
      rw[Ji]
      refine Cnd.mk (fun hc=>⟨by unfold InI;omega,?_⟩) fun hc=> ?_
      ·rw[hfd,y3z hr0 hc] at hdc
       exact j47 (v:=v) (s:=s) (r:=Rsn.mk 5 ((j:Int)+1) r.1 0) hs hN hrm.2.2 (q9o hvs.1 (fin hd1 rfl hdc))
      ·refine⟨by unfold InI;omega,⟨j+1,a,b,c,e,done1,rfl,by omega,hd1,?_⟩,by show ((f.8.length:Int) - ((j:Int)+1)).toNat<((f.8.length:Int) - (j:Int)).toNat;omega⟩
       rw[hfd,v9g hr0 (Bool.eq_false_iff.2 hc)]
     ·rw[hfd,List.drop_eq_nil_of_le (by omega)] at hdc
      exact j47 (v:=v) (s:=s) (r:=Rsn.mk 6 0 noT 0) hs hN (hF.d f hm) (q9o hvs.1 (fin hd1 rfl hdc))
end Go.En
end
noncomputable section
set_option maxRecDepth 100000
namespace Go.En
open Go Go.Fl Go.Fl.Lk Go.Fx
abbrev wF(v:Envt)(k:Nat)(f:Flg):Envt:=Envt.mk v.1 v.2 v.3 (v.4.set k f) v.5 v.6
theorem v2v{v:Envt}(hB:FlB v.4){k:Nat}{f f':Flg}(hf:v.4[k]? =some f)(hk:f'.1=f.1)(hn: ∀p∈f'.6,p∈f.6):FlB (wF v k f').4:=by
 have hlt:=Qh hf
 have at_: ∀{i:Nat} {g:Flg},(v.4.set k f')[i]? =some g->(i=k/\g=f')∨(i≠k/\v.4[i]? =some g):=fun {i g} h=>by
  by_cases he:i=k
  ·subst he
   rw[List.getElem?_set_self hlt] at h
   exact .inl ⟨rfl,(Option.some.inj h).symm⟩
  ·rw[List.getElem?_set_ne (fun e=>he e.symm)] at h
   exact .inr ⟨he,h⟩
 refine⟨?_,fun i g hg p hp j g0 hg0 hpk=> ?_⟩
 ·have e:(v.4.set k f').map Flg.key=v.4.map Flg.key:=by
   refine List.ext_getElem? fun i=> ?_
   rw[List.getElem?_map,List.getElem?_map]
   by_cases he:i=k
   ·subst he
    rw[List.getElem?_set_self hlt,hf,Option.map_some,Option.map_some,hk]
   ·rw[List.getElem?_set_ne (fun e=>he e.symm)]
  show ((v.4.set k f').map Flg.key).Nodup
  rw[e];exact hB.nd
 ·have key: ∀q,v.4[i]? =some q->p∈q.6->j<i:=fun q hq hp=>by
   rcases at_ hg0 with ⟨rfl,rfl⟩|⟨_,h0⟩
   ·exact hB.ord i q hq p hp j f hf (hpk.trans hk)
   ·exact hB.ord i q hq p hp j g0 h0 hpk
  rcases at_ hg with ⟨rfl,rfl⟩|⟨_,h1⟩
  ·exact key f hf (hn p hp)
  ·exact key g h1 hp
theorem y30{v:Envt}{k:Nat}{f' f:Flg}{s:Subj}{fs:List Frc}{d d':Flg->Int}(h: ∀p∈f.6,metV (wF v k f') d p=metV v d' p):chsV (wF v k f') s fs d f=chsV v s fs d' f:=by
 unfold chsV
 rw[j4j (q:=fun p=> !metV v d' p) fun p hp=>by rw[h p hp]]
 rfl
theorem w8d{v:Envt}(hB:FlB v.4){k:Nat}{f f' g:Flg}(hf:v.4[k]? =some f)(hk:f'.1=f.1)(hn: ∀p∈f'.6,p∈f.6){j:Nat}(hj:j<=k)(hg:v.4[j]? =some g){p:Prq}(hp:p∈g.6):fof (wF v k f') p.1=fof v p.1/\ ∀q,fof v p.1=some q-> ∃i,i<j/\v.4[i]? =some q:=by
 have hBw:=v2v hB hf hk hn
 have below: ∀q,fof v p.1=some q-> ∃i,i<j/\v.4[i]? =some q/\p.1=q.1:=fun q hq=>by
  obtain⟨i,hi,hpq⟩:=w2o hq
  exact⟨i,hB.ord j g hg p hp i q hi hpq,hi,hpq⟩
 refine⟨?_,fun q hq=>by obtain⟨i,h1,h2,_⟩:=below q hq;exact⟨i,h1,h2⟩⟩
 cases hv:fof v p.1 with
 |some q=>
  obtain⟨i,hi,hiq,hpq⟩:=below q hv
  have:(wF v k f').4[i]? =some q:=by
   show (v.4.set k f')[i]? =_
   rw[List.getElem?_set_ne (by omega)];exact hiq
  rw[hpq];exact j46 hBw this
 |none=>
  cases hw:fof (wF v k f') p.1 with
  |none=>rfl
  |some q=>
   obtain⟨i,hi,hpq⟩:=w2o hw
   have hi:(v.4.set k f')[i]? =some q:=hi
   by_cases he:i=k
   ·subst he
    rw[List.getElem?_set_self (Qh hf)] at hi
    cases hi
    have:=j46 hB hf
    rw[←hk,←hpq,hv] at this;cases this
   ·rw[List.getElem?_set_ne (fun e=>he e.symm)] at hi
    have:=j46 hB hi
    rw[←hpq,hv] at this;cases this
theorem y2o{v:Envt}(hB:FlB v.4){k:Nat}{f f':Flg}(hf:v.4[k]? =some f)(hk:f'.1=f.1)(hn: ∀p∈f'.6,p∈f.6){s:Subj}{fs:List Frc}: ∀(j:Nat) g,j<k->v.4[j]? =some g->dcV (wF v k f') s fs g=dcV v s fs g:=by
 intro j
 induction j using Nat.strongRecOn with
 |ind j ih=>
  intro g hj hg
  have hw:(wF v k f').4[j]? =some g:=by
   show (v.4.set k f')[j]? =_
   rw[List.getElem?_set_ne (by omega)];exact hg
  rw[w8c (v2v hB hf hk hn) hw,w8c hB hg]
  refine y30 fun p hp=> ?_
  obtain⟨h1,h2⟩:=w8d hB hf hk hn (show j<=k by omega) hg hp
  unfold metV
  rw[h1]
  cases hq:fof v p.1 with
  |none=>rfl
  |some q=>
   obtain⟨i,hi,hiq⟩:=h2 q hq
   have e:=ih i hi q (by omega) hiq
   simp only[e]
theorem u0t{v:Envt}(hB:FlB v.4){k:Nat}{f f':Flg}(hf:v.4[k]? =some f)(hk:f'.1=f.1)(hn:f'.6=f.6){s:Subj}{fs:List Frc}:dcV (wF v k f') s fs f'=chsV v s fs (fun g=>(dcV v s fs g).1) f':=by
 have hn': ∀p∈f'.6,p∈f.6:=fun p hp=>by rw[←hn];exact hp
 have hw:(wF v k f').4[k]? =some f':=by
  show (v.4.set k f')[k]? =_
  rw[List.getElem?_set_self (Qh hf)]
 rw[w8c (v2v hB hf hk hn') hw]
 refine y30 fun p hp=> ?_
 obtain⟨h1,h2⟩:=w8d hB hf hk hn' (Nat.le_refl k) hf (hn' p hp)
 unfold metV
 rw[h1]
 cases hq:fof v p.1 with
 |none=>rfl
 |some q=>
  obtain⟨i,hi,hiq⟩:=h2 q hq
  have e:=y2o hB hf hk hn' (s:=s) (fs:=fs) i q hi hiq
  simp only[e]
theorem y2p{v:Envt}(hB:FlB v.4){k:Nat}{f:Flg}(hf:v.4[k]? =some f){s:Subj}{fs:List Frc}{m:Int}(hm:m≠0):
  ((dcV v s fs f).2.1<=4/\dcV (wF v k (Flg.mk f.1 f.2 f.3 f.4 f.5 f.6 f.7 [] (Srv.mk m noT noT noT []))) s fs (Flg.mk f.1 f.2 f.3 f.4 f.5 f.6 f.7 [] (Srv.mk m noT noT noT []))=dcV v s fs f)∨
  (4<(dcV v s fs f).2.1/\dcV (wF v k (Flg.mk f.1 f.2 f.3 f.4 f.5 f.6 f.7 [] (Srv.mk m noT noT noT []))) s fs (Flg.mk f.1 f.2 f.3 f.4 f.5 f.6 f.7 [] (Srv.mk m noT noT noT []))=(m,Rsn.mk 6 0 noT (-1))):=by
 rw[u0t (f':=Flg.mk f.1 f.2 f.3 f.4 f.5 f.6 f.7 [] (Srv.mk m noT noT noT [])) hB hf rfl rfl,w8c hB hf]
 unfold chsV
 simp only
 split
 ·exact .inl ⟨by simp,rfl⟩
 ·split
  ·exact .inl ⟨by simp,rfl⟩
  ·split
   ·exact .inl ⟨by simp,rfl⟩
   ·split
    ·exact .inl ⟨by simp,rfl⟩
    ·refine .inr ⟨?_,?_⟩
     ·unfold rlsV svd
      split<;>split<;>simp
     ·unfold rlsV svd srvV
      simp[ixF,hm]
end Go.En
end
noncomputable section
set_option maxRecDepth 100000
namespace Go.En
open Go Go.Fl Go.Fl.Lk Go.Fx
def flgV(v:Envt)(s:Subj)(fs:List Frc)(key:ByteArray):Dcs×Int:=match fof v key with
 |some f=>(dcsV v s fs f,0)
 |none=>(noD,11)
theorem q5v{v:Envt}{s:Subj}{fs:List Frc}{key:ByteArray}{K:Dcs->Int->Prop}(hv:AsB v)(hF:FlX v)(hs:SubB s)(hN:NumB s)(hfs:fs.length<=1000000000)(h:K (flgV v s fs key).1 (flgV v s fs key).2):H2 v s fs key K:=by
 unfold H2 q8a
 unfold flgV at h
 refine j4m (v:=v) (s:=s) hv hs (j94 (v:=v) (s:=s) hF.n ?_)
 cases hf:fof v key with
 |none=>rw[hf] at h;exact Cnd.no (by simp) h
 |some f=>
  rw[hf] at h
  obtain⟨i,hi,_⟩:=w2o hf
  exact Cnd.yes rfl (v9m hv hF hs hN hfs hi DnI.nil (fun _ _ _ _=>rfl) fun _ _=>h)
abbrev fB:ByteArray:=ByteArray.mk (Array.mk [102])
abbrev smpF:Flg:=Flg.mk fB 1 [Val.mk 1 0 noT [],Val.mk 1 1 noT []] true 1 [] [] [] (Srv.mk 2 noT noT noT [])
abbrev smpE:Envt:=Envt.mk (Sett.mk noT noT 0) [] [] [smpF] [] []
theorem y6u:AsB smpE where
 ln:=by decide
 xn:=by decide
 sg:=v86 (by decide) (by simp)
 ex x hx:=by cases hx
 sa:=by decide
 ls l hl:=by cases hl
 xs x hx:=by cases hx
 cl x hx:=by cases hx
 nd:=by simp
theorem y6v:FlX smpE where
 b:=⟨by simp,fun i f hf p hp=>by
  have hf:[smpF][i]? =some f:=hf
  have:=List.mem_of_getElem? hf
  rw[List.mem_singleton] at this
  subst this;cases hp⟩
 n:=by decide
 vs f hf:=by
  rw[List.mem_singleton.1 hf]
  refine⟨by decide,fun x hx=> ?_⟩
  have hx:x∈[Val.mk 1 0 noT [],Val.mk 1 1 noT []]:=hx
  simp only[List.mem_cons,List.not_mem_nil,or_false] at hx
  rcases hx with rfl|rfl<;>simp
 p f hf:=by rw[List.mem_singleton.1 hf];decide
 t f hf:=by rw[List.mem_singleton.1 hf];exact⟨by decide,fun t ht=>by cases ht⟩
 r f hf:=by rw[List.mem_singleton.1 hf];exact⟨by decide,fun t ht=>by cases ht⟩
 d f hf:=by rw[List.mem_singleton.1 hf];exact⟨by decide,by decide⟩
 x x hx:=by cases hx
theorem y2q:flgV smpE (Subj.mk []) [] fB=(Dcs.mk fB 2 (Val.mk 1 1 noT []) (Rsn.mk 6 0 noT (-1)) 0,0):=by
 have hf:fof smpE fB=some smpF:=by simp[fof]
 have hd:dcV smpE (Subj.mk []) [] smpF=(2,Rsn.mk 6 0 noT (-1)):=by
  unfold dcV chsV
  simp[ixF,rlsV,svd,srvV]
 unfold flgV
 rw[hf]
 simp only
 unfold dcsV
 rw[hd]
 rfl
theorem v45{K:Bool->Prop}(h:K true):q6i K:=by
 unfold q6i z2c
 refine q5v (v:=smpE) y6u y6v (y2k (by decide) (by simp)) (fun c hc=>by cases hc) (by decide) ?_
 rw[y2q]
 exact Cnd.yes rfl (Cnd.yes rfl (Cnd.yes rfl (Cnd.yes rfl (by rw[dt ⟨rfl,rfl,rfl,rfl⟩];exact h))))
theorem v0y{V:Envt->Prop}(hV: ∀(v:Envt) (K:Bool->Prop),EnvS v->(∀b,(b=true->V v)->K b)->q0g v K)(hV0: ∀ds,V (Envt.mk (Sett.mk (ByteArray.mk (Array.mk [])) (ByteArray.mk (Array.mk [])) 0) ds [] [] [] []))
  {codes who:List Int}{K:Envt->Subj->List Frc->Prop}(hc:Byts codes)(hw:Byts who)(h: ∀v s f,EnvS v->EnvD v->V v->SubB s->NumB s->f.length<=3->K v s f):q2e codes who K:=by
 unfold q2e z2e
 refine v2m hc (by decide) (by decide) fun cl hD=>j4i hV hV0 hD fun v a hE hd hv _=>v2m hw (by decide) (by decide) fun wl hD2=>w01 hD2 fun s a hs hl hD3=>v0x (v:=v) hD3 hE fun f _ hf=>h v s f hE hd hv (v4r hs hl) (v44 hl) hf
theorem v47{codes who:List Int}{K:Envt->Subj->List Frc->Prop}(hc:Byts codes)(hw:Byts who)(h: ∀v s f,EnvS v->EnvD v->SubB s->NumB s->f.length<=3->K v s f):q2e codes who K:=
 v0y (V:=fun _=>True) (fun _ _ hv h=>j43 hv fun b=>h b fun _=>trivial) (fun _=>trivial) hc hw fun v s f h1 h2 _ h3 h4 h5=>h v s f h1 h2 h3 h4 h5
theorem v0z{a b:Dcs}{K:Bool->Prop}(h: ∀r,(r=true↔a=b)->K r):z60 a b K:=by
 unfold z60 j3d
 refine Cnd.mk (fun h1=>Cnd.mk (fun h2=>z22 fun r hr=>Cnd.mk (fun h3=>Cnd.mk (fun h4=>h _ ⟨fun h5=> ?_,fun e=> ?_⟩) fun h4=>h _ ⟨fun e=>by simp at e,fun e=> ?_⟩) fun h3=>h _ ⟨fun e=>by simp at e,fun e=> ?_⟩) fun h2=>h _ ⟨fun e=>by simp at e,fun e=> ?_⟩) fun h1=>h _ ⟨fun e=>by simp at e,fun e=> ?_⟩
 ·replace h5:=of_decide_eq_true h5
  replace h3:=hr.1 h3
  clear hr h
  cases a with|mk a1 a2 a3 a4 a5=>cases b with|mk b1 b2 b3 b4 b5=>
  cases a3;cases b3;cases a4;cases b4
  simp only at h1 h2 h4 h5
  simp only[Val.mk.injEq] at h3
  obtain⟨e1,e2,e3,e4⟩:=h3
  obtain⟨g1,g2,g3,g4⟩:=h4
  subst h1 h2 h5 e1 e2 e3 e4 g1 g2 g3 g4
  rfl
 ·subst e;simp
 ·subst e;exact absurd ⟨rfl,rfl,rfl,rfl⟩ h4
 ·subst e;exact absurd (hr.2 rfl) h3
 ·subst e;exact absurd rfl h2
 ·subst e;exact absurd rfl h1
theorem v9n{v:Envt}(hB:FlB v.4){i:Nat}{f:Flg}(h:v.4[i]? =some f){s:Subj}{fs:List Frc}:flgV v s fs f.1=(dcsV v s fs f,0):=by
 unfold flgV;rw[j46 hB h]
theorem v9o{v:Envt}(hv:AsB v){F:List Flg}:AsB (Envt.mk v.1 v.2 v.3 F v.5 v.6):=⟨hv.ln,hv.xn,hv.sg,hv.ex,hv.sa,hv.ls,hv.xs,hv.cl,hv.nd⟩
theorem j95{α:Type}{l:List α}{k:Nat}{x y:α}(h:y∈l.set k x):y=x∨y∈l:=by
 rcases List.mem_or_eq_of_mem_set h with h|h
 ·exact .inr h
 ·exact .inl h
theorem y6w{v:Envt}(hF:FlX v){k:Nat}{f f':Flg}(hf:v.4[k]? =some f)(h1:f'.1=f.1)(h3:f'.3=f.3)(h6:f'.6=f.6)(h7:f'.7=f.7)(h8: ∀r∈f'.8,r∈f.8)(h8l:f'.8.length<=f.8.length)(h9:SrvB f'.9):FlX (wF v k f'):=by
 have hm:=getm hf
 exact {
  b:=v2v hF.b hf h1 fun p hp=>by rw[←h6];exact hp
  n:=by show (v.4.set k f').length<=1000;rw[List.length_set];exact hF.n
  vs:=fun g hg=>by
   rcases j95 hg with rfl|hg
   ·rw[h3];exact hF.vs f hm
   ·exact hF.vs g hg
  p:=fun g hg=>by
   rcases j95 hg with rfl|hg
   ·rw[h6];exact hF.p f hm
   ·exact hF.p g hg
  t:=fun g hg=>by
   rcases j95 hg with rfl|hg
   ·rw[h7];exact hF.t f hm
   ·exact hF.t g hg
  r:=fun g hg=>by
   rcases j95 hg with rfl|hg
   ·exact⟨Nat.le_trans h8l (hF.r f hm).1,fun r hr=>(hF.r f hm).2 r (h8 r hr)⟩
   ·exact hF.r g hg
  d:=fun g hg=>by
   rcases j95 hg with rfl|hg
   ·exact h9
   ·exact hF.d g hg
  x:=hF.x}
theorem j58{codes who:List Int}{which n:Int}{K:Bool->Prop}(hc:Byts codes)(hw:Byts who)(h:K true):Zx codes who which n K:=by
 unfold Zx H4
 refine v45 (Cnd.yes rfl (v47 hc hw fun v s fs hE hD hs hN hfs _=>Cnd.mk (fun _=>h) fun hn0 _=> ?_))
 have hF:=y86 hE hD
 have hv:=y81 hE hD
 have hfl:=hF.n
 have e2:=hE.slen
 have e5:=hE.llen
 have e6:=hE.xlen
 refine v2u (by omega) (by omega) fun k k0 k1=>⟨⟨k0,k1⟩,fun f hf=> ?_⟩
 obtain⟨kn,rfl⟩: ∃q:Nat,k=q:=⟨k.toNat,by omega⟩
 have hf:v.4[kn]? =some f:=hf
 refine q5v (v:=v) (s:=s) hv hF hs hN (by omega) ?_
 rw[v9n hF.b hf]
 have hal:=hD.al
 have hm:=getm hf
 have hvl:=hF.vs f hm
 have hv1:=(hE.flags f hm).vlen
 have hlt:=Qh hf
 simp only[List.nil_append]
 refine⟨by unfold Sml;omega,by unfold Sml;omega,by unfold Sml;omega,by unfold Sml;omega,by unfold Sml;omega,by omega,fun f1 hf1=> ?_⟩
 have hf1:v.4[kn]? =some f1:=hf1
 rw[hf] at hf1;cases hf1
 have hset: ∀(x:Flg),(v.4.set kn x)[((kn:Nat):Int).toNat]? =some x:=fun x=>by
  show (v.4.set kn x)[kn]? =some x
  rw[List.getElem?_set_self hlt]
 have hkt:((kn:Nat):Int).toNat=kn:=rfl
 refine⟨by rw[List.length_set];omega,fun f2 hf2=> ?_⟩
 rw[hkt] at hf2
 have e2:=(hset _).symm.trans hf2
 cases Option.some.inj e2
 refine fun _=>v2u (by simp only;omega) (by simp only;omega) fun m m0 m1=>⟨by simp only at m1;unfold InI;omega,by rw[List.length_set];omega,fun f3 hf3=> ?_⟩
 rw[hkt] at hf3
 have e3:=(hset _).symm.trans hf3
 cases Option.some.inj e3
 refine⟨by omega,fun f4 hf4=> ?_⟩
 have hf4:v.4[kn]? =some f4:=hf4
 rw[hf] at hf4;cases hf4
 rw[hkt,List.set_set]
 simp only
 have hmne:1+m≠0:=by omega
 have hX:FlX (wF v kn (Flg.mk f.1 f.2 f.3 f.4 f.5 f.6 f.7 [] (Srv.mk (1+m) noT noT noT []))):=y6w hF hf rfl rfl rfl rfl (by simp) (by simp) ⟨(by decide:noT.size<=10000000),by simp⟩
 have hat:(wF v kn (Flg.mk f.1 f.2 f.3 f.4 f.5 f.6 f.7 [] (Srv.mk (1+m) noT noT noT []))).4[kn]? =some (Flg.mk f.1 f.2 f.3 f.4 f.5 f.6 f.7 [] (Srv.mk (1+m) noT noT noT [])):=hset _
 refine q5v (v:=wF v kn (Flg.mk f.1 f.2 f.3 f.4 f.5 f.6 f.7 [] (Srv.mk (1+m) noT noT noT []))) (s:=s) (v9o hv) hX hs hN (by omega) ?_
 have hk:=v9n hX.b hat (s:=s) (fs:=fs)
 rw[show (Flg.mk f.1 f.2 f.3 f.4 f.5 f.6 f.7 [] (Srv.mk (1+m) noT noT noT [])).1=f.1 from rfl] at hk
 rw[hk]
 refine Cnd.yes (by first|trivial|rfl) (Cnd.yes (by first|trivial|rfl) ?_)
 rcases y2p hF.b hf (s:=s) (fs:=fs) hmne with ⟨h1,h2⟩|⟨h1,h2⟩
 ·refine Cnd.yes h1 (v0z fun r hr=> ?_)
  have:r=true:=hr.2 (by unfold dcsV;rw[h2])
  rw[this];exact h
 ·refine Cnd.no (show ¬(dcV v s fs f).2.1<=4 by omega) ?_
  have e:dcsV (wF v kn (Flg.mk f.1 f.2 f.3 f.4 f.5 f.6 f.7 [] (Srv.mk (1+m) noT noT noT []))) s fs (Flg.mk f.1 f.2 f.3 f.4 f.5 f.6 f.7 [] (Srv.mk (1+m) noT noT noT []))=Dcs.mk f.1 (1+m) (valV f.3 (1+m)) (Rsn.mk 6 0 noT (-1)) 0:=by unfold dcsV;rw[h2]
  rw[e]
  refine Cnd.yes ⟨rfl,rfl,rfl,rfl⟩ ⟨by rw[List.length_set];omega,fun y hy=> ?_⟩
  have e5:=(hset _).symm.trans hy
  cases Option.some.inj e5
  rw[dt rfl];exact h
end Go.En
end
