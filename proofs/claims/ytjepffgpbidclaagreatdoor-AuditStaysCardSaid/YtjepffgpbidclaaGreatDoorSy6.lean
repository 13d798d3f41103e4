/- For every input AuditStays returns true and leaves its arguments as they were. This is part 6 of 10. Conditions: those in the statements. -/
import Derived.Test.YtjepffgpbidclaaGreatDoorSy5
import Derived.Lib.ItoaNum
import Derived.KernelRfl
noncomputable section
set_option maxRecDepth 100000
namespace Go.En
open Go Go.Fl Go.Fl.Lk Go.Fx
theorem j00{sT:ByteArray}{ho c a b:Int}{x:Exper}(h:x∈(mkE sT ho c a b).6): ∃i,i<4/\x=xpM sT ho c a b i:=by
 obtain⟨i,hi,rfl⟩:=List.mem_map.1 h
 exact⟨i,List.mem_range.1 hi,rfl⟩
theorem j3g(sT:ByteArray)(i:Nat):(sltX sT i).size=sT.size+1:=by unfold sltX;rw[j0z,q6a];rfl
theorem w8m(ho c:Int)(i:Nat):(clM ho c i).length=1:=by unfold clM;split<;>rfl
theorem w0u:wt (Ex.mk 1 noT noT [] [])<=2000000/\EvB (Ex.mk 1 noT noT [] []):=⟨by rw[j0s];simp[wtV,wtL],EvB.mk' (by simp) (by simp)⟩
theorem w5u{sT:ByteArray}{ho c a b:Int}(hs:sT.size<=1000):AsB (mkE sT ho c a b) where
 ln:=by unfold mkE;simp
 xn:=by unfold mkE;simp
 sg:=⟨by unfold mkE;simp,fun g hg=>(by cases hg),fun g hg=>(by cases hg),by unfold mkE;simp[edg]⟩
 ex x hx:=by obtain⟨i,_,rfl⟩:=j00 hx;exact w0u
 sa:=by show noT.size<=10000000;decide
 ls l hl:=by
  obtain⟨k,hk,rfl⟩:=List.mem_map.1 hl
  show (sT++k).size<=_
  have:k.size=4:=by
   rcases List.mem_cons.1 hk with rfl|hq
   ·rfl
   ·rw[List.mem_singleton.1 hq];rfl
  rw[j0z,this];omega
 xs x hx:=by
  obtain⟨i,_,rfl⟩:=j00 hx
  show (sltX sT i).size<=_
  rw[j3g];omega
 cl x hx:=by
  obtain⟨i,_,rfl⟩:=j00 hx
  refine⟨?_,by show (rgM a b).length<=_;unfold rgM;simp⟩
  show (clM ho c i).length<=_
  rw[w8m];decide
 nd:=by
  show (((List.range 4).map (xpM sT ho c a b)).map Exper.key).Nodup
  rw[List.map_map]
  show ((List.range 4).map fun i=>xN.getD i noT).Nodup
  decide
theorem j01{id:ByteArray}(h:id.size<=1000):SubB (usr id):=
 ⟨by simp,fun c hc=>(by rw[List.mem_singleton.1 hc];simp),fun c hc a ha=>(by rw[List.mem_singleton.1 hc] at ha;cases ha),fun c hc=>(by rw[List.mem_singleton.1 hc];show id.size<=_;omega)⟩
def ixM(c q:Int)(k:Nat):Nat:=if q<c then k else k+2
theorem w8n{lo hi q:Int}:insV [Spn.mk lo hi] q=true↔lo<=q/\q<hi:=by rw[w8k];simp
theorem w0v{ho c q:Int}{i:Nat}:insV (clM ho c i) q=true↔(if 2<=i then c<=q/\q<10000 else ho<=q/\q<c):=by
 unfold clM
 split<;>exact w8n
theorem w8o{a b q:Int}(h:0<=q)(h2:q<10000):q58 (rgM a b) q=1∨q58 (rgM a b) q=2∨q58 (rgM a b) q=3∨(b<=q->False)/\(a<=q->b<=q)/\ ¬q<a:=by
 unfold q58 rgM
 by_cases h1:q<a
 ·left;rw[List.find?_cons,dt h,dt h1];simp
 ·rw[List.find?_cons,df h1,Bool.and_false]
  simp only
  by_cases h3:q<b
  ·right;left;rw[List.find?_cons,dt (show a<=q by omega),dt h3];simp
  ·right;right;left
   rw[List.find?_cons,df h3,Bool.and_false]
   simp only
   rw[List.find?_cons,dt (show b<=q by omega),dt h2];simp
theorem w0w{a b q:Int}(h:0<=q)(h2:q<10000):1<=q58 (rgM a b) q/\q58 (rgM a b) q<=3:=by
 rcases w8o (a:=a) (b:=b) h h2 with h|h|h|⟨h,k,l⟩
 ·omega
 ·omega
 ·omega
 ·exact absurd (k (by omega)) (fun e=>h e)
theorem j7c{α:Type}{p:α->Bool}{f:Nat->α}{i:Nat}(hi:i<4)(hp:p (f i)=true)(hn: ∀j,j<i->p (f j)=false):((List.range 4).map f).find? p=some (f i):=by
 have:i=0∨i=1∨i=2∨i=3:=by omega
 show [f 0,f 1,f 2,f 3].find? p=_
 rcases this with rfl|rfl|rfl|rfl
 ·rw[List.find?_cons,hp]
 ·rw[List.find?_cons,hn 0 (by omega),List.find?_cons,hp]
 ·rw[List.find?_cons,hn 0 (by omega),List.find?_cons,hn 1 (by omega),List.find?_cons,hp]
 ·rw[List.find?_cons,hn 0 (by omega),List.find?_cons,hn 1 (by omega),List.find?_cons,hn 2 (by omega),List.find?_cons,hp]
theorem w4a: ∀i,i<4-> ∀j,j<i->xN.getD j noT≠xN.getD i noT:=by decide
theorem v0s{sT:ByteArray}{ho c a b:Int}{i:Nat}(hi:i<4):xof (mkE sT ho c a b) (xN.getD i noT)=some (xpM sT ho c a b i):=
 j7c hi (dt rfl) fun j hj=>df (w4a i hi j hj)
theorem v0t{sT:ByteArray}{ho c a b:Int}{i:Nat}(hi:i<4):xfV (mkE sT ho c a b) (xN.getD i noT) (lN.getD (i % 2) noT)=some (xpM sT ho c a b i):=
 j7c hi (q9o (dt rfl) (dt rfl)) fun j hj=>q05 (.inl (df (w4a i hi j hj)))
theorem w0x{sT:ByteArray}{ho c a b:Int}{k:Nat}(hk:k<2):lof (mkE sT ho c a b) (lN.getD k noT)=some (lyM sT ho (lN.getD k noT)):=by
 show [lyM sT ho (ByteArray.mk (Array.mk [104,111,109,101])),lyM sT ho (ByteArray.mk (Array.mk [115,104,111,112]))].find? _=_
 have:k=0∨k=1:=by omega
 rcases this with rfl|rfl
 ·rw[List.find?_cons,dt (by rfl)];rfl
 ·rw[List.find?_cons,df (by show ¬((ByteArray.mk (Array.mk [104,111,109,101])):ByteArray)=(ByteArray.mk (Array.mk [115,104,111,112]));decide),List.find?_cons,dt (by rfl)];rfl
theorem j6f{c q:Int}{k:Nat}(hk:k<2):ixM c q k<4/\ixM c q k % 2=k:=by unfold ixM;split<;>omega
theorem w8p{sT:ByteArray}{ho c a b:Int}{s:Subj}{i:Nat}(hi:i<4):j28 (mkE sT ho c a b) s (xN.getD i noT)=true:=by
 unfold j28
 rw[v0s hi]
 show cndV _ s (Ex.mk 1 noT noT [] [])=true
 unfold cndV
 rw[w5n];simp
theorem w0y(id:ByteArray):fnd (usr id) usrN=some (Ctxt.mk usrN id []):=by unfold fnd;rw[List.find?_cons,dt (by rfl)]
theorem v0u{sT:ByteArray}{ho c a b:Int}{s:Subj}{q:Int}{k:Nat}(hk:k<2)(h0:ho<=q)(h1:q<10000):hitV (mkE sT ho c a b) s (lN.getD k noT) q=some (xpM sT ho c a b (ixM c q k)):=by
 obtain⟨i0,i1⟩:=j6f (c:=c) (q:=q) hk
 have lne: ∀i,i<4-> ∀k,k<2->i % 2≠k->lN.getD (i % 2) noT≠lN.getD k noT:=by decide
 refine j7c i0 (q9o (dt ?_) (q9o (dt rfl) (q9o (w0v.2 ?_) (w8p i0)))) fun j hj=> ?_
 ·show lN.getD (ixM c q k % 2) noT=_;rw[i1]
 ·unfold ixM at i0 i1⊢
  split
  ·rename_i hq
   rw[if_neg (by omega)];exact⟨h0,hq⟩
  ·rw[if_pos (by omega)];exact⟨by omega,h1⟩
 ·by_cases hjk:j % 2=k
  ·refine q05 (.inr (q05 (.inr (q05 (.inl ?_)))))
   rw[←Bool.not_eq_true]
   intro hi
   have hi:=(w0v (ho:=ho) (c:=c) (q:=q) (i:=j)).1 hi
   unfold ixM at hj
   split at hj
   ·omega
   ·rw[if_neg (by omega)] at hi;omega
  ·exact q05 (.inl (df (lne j (by omega) k hk hjk)))
def asgM(sT:ByteArray)(ho c a b:Int)(k:Nat)(id:ByteArray):Asg:=
 if ofV (sT++lN.getD k noT) id<ho then Asg.mk (lN.getD k noT) noT (ofV (sT++lN.getD k noT) id) 0 true else
  Asg.mk (lN.getD k noT) (xN.getD (ixM c (ofV (sT++lN.getD k noT) id) k) noT) (ofV (sT++lN.getD k noT) id) (q58 (rgM a b) (ofV (sltX sT (ixM c (ofV (sT++lN.getD k noT) id) k)) id)) false
theorem w5v{sT:ByteArray}{ho c a b:Int}{k:Nat}{id:ByteArray}(hk:k<2)(hm:MdB ho c a b):asgV (mkE sT ho c a b) (usr id) [] (lN.getD k noT)=(asgM sT ho c a b k id,0):=by
 obtain⟨r0,r1⟩:=z3b (sT++lN.getD k noT) id
 have hb:bktV (lyM sT ho (lN.getD k noT)) (usr id)=ofV (sT++lN.getD k noT) id:=by
  unfold bktV
  show (match fnd (usr id) usrN with|some c=>ofV (sT++lN.getD k noT) c.2|none=> -1)=_
  rw[w0y]
 have hh:j7a (mkE sT ho c a b) (usr id)=false:=by
  have hf:fnd (usr id) (mkE sT ho c a b).1.2=none:=by
   show fnd (usr id) noT=none
   unfold fnd
   rw[List.find?_cons,df (by show ¬usrN=noT;decide)];rfl
  unfold j7a
  rw[hf]
 have hl:layV (mkE sT ho c a b) (usr id) (lyM sT ho (lN.getD k noT)) [] (lN.getD k noT)=asgM sT ho c a b k id:=by
  unfold layV
  rw[show fcdV (mkE sT ho c a b) [] (lN.getD k noT)=none by simp[fcdV,frcV]]
  dsimp only
  rw[hb,hh]
  rw[show fnd (usr id) (lyM sT ho (lN.getD k noT)).2=some (Ctxt.mk usrN id []) from w0y id,show (lyM sT ho (lN.getD k noT)).4=ho from rfl]
  unfold asgM
  by_cases hq:ofV (sT++lN.getD k noT) id<ho
  ·rw[if_pos hq,if_pos (.inr ⟨rfl,hq⟩)]
  ·rw[if_neg hq,if_neg fun h=>h.elim (fun h=>by cases h) fun h=>hq h.2]
   dsimp only
   rw[v0u hk (by omega) r1]
   rfl
 unfold asgV
 rw[w0x hk]
 dsimp only
 rw[hl]
structure GdS(sT:ByteArray)(ho c a b:Int)(s:Slt)(k:Nat):Prop where
 kk:k<2
 l:s.2=lN.getD k noT
 q:ho<=ofV (sT++s.2) s.1
 x:s.3=xN.getD (ixM c (ofV (sT++s.2) s.1) k) noT
 m:s.4=q58 (rgM a b) (ofV (sltX sT (ixM c (ofV (sT++s.2) s.1) k)) s.1)
theorem j6g{sT:ByteArray}{ho c a b:Int}{k:Nat}{x:Rcd}(hg:GdS sT ho c a b x.3 k)(hld:ldV x.3.1 x.2 x.5 x.1=true):chkR x (mkE sT ho c a b)=if x.4=ofV (sT++x.3.2) x.3.1 then (if x.3.4=q58 (rgM a b) (ofV (sltX sT (ixM c (ofV (sT++x.3.2) x.3.1) k)) x.3.1) then 0 else 23) else 3:=by
 obtain⟨i0,i1⟩:=j6f (c:=c) (q:=ofV (sT++x.3.2) x.3.1) hg.kk
 obtain⟨r0,r1⟩:=z3b (sT++x.3.2) x.3.1
 have hx:xfV (mkE sT ho c a b) x.3.3 x.3.2=some (xpM sT ho c a b (ixM c (ofV (sT++x.3.2) x.3.1) k)):=by
  have:=v0t (sT:=sT) (ho:=ho) (c:=c) (a:=a) (b:=b) i0
  rw[i1,←hg.l,←hg.x] at this;exact this
 have hlo:lof (mkE sT ho c a b) x.3.2=some (lyM sT ho x.3.2):=by rw[hg.l];exact w0x hg.kk
 rw[j3c hld hlo hx]
 show (if x.4=ofV (sT++x.3.2) x.3.1 then (if insV (clM ho c _) x.4=true then (if x.3.4=q58 (rgM a b) (ofV (sltX sT _) x.3.1) then 0 else 23) else 25) else 3)=_
 by_cases h:x.4=ofV (sT++x.3.2) x.3.1
 ·rw[if_pos h,if_pos h,if_pos]
  rw[h]
  refine w0v.2 ?_
  have hq:=hg.q
  have hk:=hg.kk
  revert i0 i1
  unfold ixM
  split
  ·rename_i hq2
   intro i0 i1
   rw[if_neg (by omega)];exact⟨hq,hq2⟩
  ·intro i0 i1
   rw[if_pos (by omega)];exact⟨by omega,r1⟩
 ·rw[if_neg h,if_neg h]
theorem q43{s:ByteArray}(h:s.size<=32)(k:w3y s)(l:(resW.find? fun y=>decide (y=s)).isNone=true):keyV s=true:=by
 unfold keyV
 rw[dt h,dt k,l];rfl
theorem v0v: ∀k,k<2->keyV (lN.getD k noT)=true:=fun k hk=>by
 have:k=0∨k=1:=by omega
 rcases this with rfl|rfl<;>exact q43 (by decide) (by decide+kernel) (by rw[z7e];decide+kernel)
theorem v2n: ∀k,k<4->keyV (xN.getD k noT)=true:=fun k hk=>by
 have:k=0∨k=1∨k=2∨k=3:=by omega
 rcases this with rfl|rfl|rfl|rfl<;>exact q43 (by decide) (by decide+kernel) (by rw[z7e];decide+kernel)
abbrev annN:ByteArray:=(ByteArray.mk (Array.mk [97,110,110]))
theorem j02:keyV annN=true:=q43 (by decide) (by decide+kernel) (by rw[z7e];decide+kernel)
theorem reg0:RegOk noRg:=⟨by decide,by decide,by decide,by decide,fun k e h=>by simp at h,fun k e h=>by simp at h,fun k e h=>by simp at h⟩
theorem w0z(l:List Lnk)(a:ByteArray):z7f l a a=true:=q8z.2 (Conn.refl _ _)
theorem w4b{K:Bool->Prop}(h:K true):q21 K:=by
 unfold q21 q60
 refine w0t (by decide) (by decide) (by decide) (by decide) (by decide) (by decide) (by decide) (by decide) ?_
 have hm:MdB (hoOf 0) (cOf 0 9998) (aOf 4000) (bOf 4000 3000):=j6e (by decide) (by decide) (by decide) (by decide)
 have hs:(sTof 0).size<=1000:=by rw[q6b];decide
 show R9 annN _
 unfold envV
 have h0:hoOf 0=0:=by decide
 generalize sTof 0=sT at hs⊢
 generalize hoOf 0=ho at hm h0⊢
 generalize cOf 0 9998=c at hm⊢
 generalize aOf 4000=a at hm⊢
 generalize bOf 4000 3000=b at hm⊢
 have hv:=w5u (ho:=ho) (c:=c) (a:=a) (b:=b) hs
 obtain⟨r0,r1⟩:=z3b (sT++lN.getD 0 noT) annN
 refine q4k (v:=mkE sT ho c a b) (s:=usr annN) (key:=lN.getD 0 noT) hv (j01 (by decide)) (by decide) ?_
 rw[w5v (by decide) hm]
 have ha:asgM sT ho c a b 0 annN=Asg.mk (lN.getD 0 noT) (xN.getD (ixM c (ofV (sT++lN.getD 0 noT) annN) 0) noT) (ofV (sT++lN.getD 0 noT) annN) (q58 (rgM a b) (ofV (sltX sT (ixM c (ofV (sT++lN.getD 0 noT) annN) 0)) annN)) false:=by
  unfold asgM;rw[if_neg (by omega)]
 obtain⟨i0,i1⟩:=j6f (c:=c) (q:=ofV (sT++lN.getD 0 noT) annN) (k:=0) (by decide)
 have kx:=v2n _ i0
 obtain⟨p0,p1⟩:=w0w (a:=a) (b:=b) (z3b (sltX sT (ixM c (ofV (sT++lN.getD 0 noT) annN) 0)) annN).1 (z3b _ _).2
 rw[ha]
 have hg:GdS sT ho c a b (Slt.mk annN (lN.getD 0 noT) (xN.getD (ixM c (ofV (sT++lN.getD 0 noT) annN) 0) noT) (q58 (rgM a b) (ofV (sltX sT (ixM c (ofV (sT++lN.getD 0 noT) annN) 0)) annN)) 1 0 0) 0:=⟨by decide,rfl,by show ho<=ofV (sT++lN.getD 0 noT) annN;omega,rfl,rfl⟩
 generalize hq:ofV (sT++lN.getD 0 noT) annN=q at*
 generalize ha2:q58 (rgM a b) (ofV (sltX sT (ixM c q 0)) annN)=ar at*
 generalize xN.getD (ixM c q 0) noT=xk at*
 have hr1:RegOk (Reg.mk 1 [] [Slt.mk annN (lN.getD 0 noT) xk ar 1 0 0]):=⟨by show (0:Int)<=1;decide,by show (1:Int)<=1099511627776;decide,by show 0<=64;decide,by show 1<=128;decide,fun k e h=>by simp at h,fun k s hs=>by
  cases k with
  |zero=>cases hs;exact⟨⟨j02,v0v 0 (by decide),kx,p0,by show ar<=8;omega,by show (0:Int)<=1;decide,by show (1:Int)<=1;decide,.inl ⟨rfl,rfl⟩⟩,fun p hp=>by cases hp⟩
  |succ k=>simp at hs,fun k s hs m t hm ht=>by
  cases k with
  |zero=>omega
  |succ k=>simp at hs⟩
 have hA:asnV noRg annN (Asg.mk (lN.getD 0 noT) xk q ar false) 0 1=(Reg.mk 1 [] [Slt.mk annN (lN.getD 0 noT) xk ar 1 0 0],Slt.mk annN (lN.getD 0 noT) xk ar 1 0 0,0):=by
  unfold asnV
  rw[if_pos (q9f.2 ⟨reg0,by decide,by decide⟩),if_neg (by decide),if_pos (by rw[j02,v0v 0 (by decide)];rfl),z7l rfl,if_neg,if_neg,if_neg (by decide)]
  ·rfl
  ·show ¬false=true;decide
  ·rintro (e|e|e|e)
   ·cases e
   ·exact e kx
   ·have e:ar<1:=e;omega
   ·have e:8<ar:=e;omega
 refine j3f (r:=noRg) (by decide) ?_
 rw[hA]
 have hat:atV (Reg.mk 1 [] [Slt.mk annN (lN.getD 0 noT) xk ar 1 0 0]) annN (lN.getD 0 noT) 1=some (Slt.mk annN (lN.getD 0 noT) xk ar 1 0 0):=by
  unfold atV
  rw[List.find?_cons,show atP _ annN (lN.getD 0 noT) 1 (Slt.mk annN (lN.getD 0 noT) xk ar 1 0 0)=true by unfold atP;rw[dt rfl,dt (by show (1:Int)<=1;decide),dt rfl,w0z];rfl]
 refine j7b (r:=Reg.mk 1 [] [Slt.mk annN (lN.getD 0 noT) xk ar 1 0 0]) (v:=mkE sT ho c a b) (id:=annN) (key:=lN.getD 0 noT) (t:=1) hv ?_
 have hE:=j3d (v:=mkE sT ho c a b) (q42.2 hr1) hat (w0x (by decide))
 rw[hE]
 have hb:ofV (lyM sT ho (lN.getD 0 noT)).3 annN=q:=hq
 generalize hp:(j4t (q5x (Reg.mk 1 [] [Slt.mk annN (lN.getD 0 noT) xk ar 1 0 0]).2 1) annN annN).1=p
 have hpn:p=[]:=by
  have:=w0s (l:=q5x (Reg.mk 1 [] [Slt.mk annN (lN.getD 0 noT) xk ar 1 0 0]).2 1) (a:=annN) (b:=annN)
  rw[hp] at this
  exact List.eq_nil_of_length_eq_zero (by simpa [q5x] using this)
 subst hpn
 dsimp only
 rw[hb]
 have hld:ldV annN 1 [] annN=true:=by unfold ldV;exact dt rfl
 have c1:chkV (Rcd.mk annN 1 (Slt.mk annN (lN.getD 0 noT) xk ar 1 0 0) q []) (mkE sT ho c a b)=0:=by
  rw[z7h (by rw[j02];rfl) (fun e=>e.elim (fun e=>absurd (show (1:Int)<1 from e) (by decide)) fun e=>e.1 rfl),j6g hg hld,if_pos hq.symm,if_pos]
  show ar=q58 (rgM a b) (ofV (sltX sT (ixM c (ofV (sT++lN.getD 0 noT) annN) 0)) annN)
  rw[hq];exact ha2.symm
 have c2:chkV (Rcd.mk annN 1 (Slt.mk annN (lN.getD 0 noT) xk ar 1 0 0) ((q+1).tmod 10000) []) (mkE sT ho c a b)=3:=by
  rw[z7h (by rw[j02];rfl) (fun e=>e.elim (fun e=>absurd (show (1:Int)<1 from e) (by decide)) fun e=>e.1 rfl),j6g hg hld,if_neg]
  show ¬(q+1).tmod 10000=ofV (sT++lN.getD 0 noT) annN
  rw[hq,Int.tmod_eq_emod_of_nonneg (by omega)];omega
 refine⟨by unfold InI;omega,by decide,Cnd.mk (fun _=>Cnd.mk (fun _=>Cnd.mk (fun _=>Cnd.mk (fun _=>Cnd.mk (fun _=>Cnd.mk (fun _=>Cnd.mk (fun _=>j6d (v:=mkE sT ho c a b) hv (Nat.zero_le _) ?_) fun e=>absurd rfl e) fun e=>absurd rfl e) fun e=>absurd rfl e) fun e=>absurd (show 0<ar by omega) e) fun e=>absurd rfl e) fun e=>absurd rfl e) fun e=>absurd rfl e⟩
 rw[c1]
 refine Cnd.mk (fun _=>j6d (v:=mkE sT ho c a b) hv (Nat.zero_le _) ?_) fun e=>absurd rfl e
 rw[c2];exact h
structure AEB(x:AEnv):Prop where
 h:0<=x.2/\x.2<=1000000
 c:0<=x.3/\x.3<=1000000
 a:0<=x.4/\x.4<=1000000
 b:0<=x.5/\x.5<=1000000
def envX(x:AEnv):Envt:=envV x.1 x.2 x.3 x.4 x.5
theorem w8q{x:AEnv}{K:Envt->Prop}(hx:AEB x)(h:K (envX x)):Ww x K:=by
 unfold Ww U6
 exact w0t hx.h.1 hx.h.2 hx.c.1 hx.c.2 hx.a.1 hx.a.2 hx.b.1 hx.b.2 h
end Go.En
end
noncomputable section
set_option maxRecDepth 100000
namespace Go.En
open Go Go.Fl Go.Fl.Lk Go.Fx
abbrev idN:List ByteArray:=[(ByteArray.mk (Array.mk [97,110,110])),(ByteArray.mk (Array.mk [98,111,98])),(ByteArray.mk (Array.mk [99,97,116])),(ByteArray.mk (Array.mk [100,97,110])),(ByteArray.mk (Array.mk [101,118,101])),(ByteArray.mk (Array.mk [102,97,121]))]
theorem w8r{i:ByteArray}(h:i∈idN):i=idN.getD 0 noT∨i=idN.getD 1 noT∨i=idN.getD 2 noT∨i=idN.getD 3 noT∨i=idN.getD 4 noT∨i=idN.getD 5 noT:=by
 rcases List.mem_cons.1 h with h|h
 ·exact .inl h
 rcases List.mem_cons.1 h with h|h
 ·exact .inr (.inl h)
 rcases List.mem_cons.1 h with h|h
 ·exact .inr (.inr (.inl h))
 rcases List.mem_cons.1 h with h|h
 ·exact .inr (.inr (.inr (.inl h)))
 rcases List.mem_cons.1 h with h|h
 ·exact .inr (.inr (.inr (.inr (.inl h))))
 ·exact .inr (.inr (.inr (.inr (.inr (List.mem_singleton.1 h)))))
theorem w5w{i:ByteArray}(h:i∈idN):keyV i=true:=by
 rcases w8r h with rfl|rfl|rfl|rfl|rfl|rfl<;>exact q43 (by decide) (by decide+kernel) (by rw[z7e];decide+kernel)
theorem w8s{n:Int}{K:ByteArray->Prop}(h0:0<=n)(h: ∀y∈idN,K y):z2x n K:=by
 unfold z2x j4b
 show (_->_)
 intro _
 have h1:=Int.tmod_nonneg 6 h0
 have h2:=Int.tmod_lt_of_pos n (b:=6) (by decide)
 refine⟨by decide,⟨h1,h2⟩,fun y hy=>h y (List.mem_of_getElem? hy)⟩
structure SmS(s t:Slt):Prop where
 i:s.1=t.1
 l:s.2=t.2
 x:s.3=t.3
 a:s.4=t.4
structure Sms(l k:List Slt):Prop where
 n:l.length=k.length
 s: ∀s∈l,∃t∈k,SmS s t
theorem Sms.refl(l:List Slt):Sms l l:=⟨rfl,fun s h=>⟨s,h,rfl,rfl,rfl,rfl⟩⟩
theorem Sms.set{l k:List Slt}(h:Sms l k){i:Nat}{y z:Slt}(hy:l[i]? =some y)(hz:SmS z y):Sms (l.set i z) k:=
 ⟨by rw[List.length_set];exact h.n,fun s hs=>by
  rcases List.mem_or_eq_of_mem_set hs with hs|rfl
  ·exact h.s s hs
  ·obtain⟨t,ht,e⟩:=h.s y (List.mem_of_getElem? hy)
   exact⟨t,ht,hz.i.trans e.i,hz.l.trans e.l,hz.x.trans e.x,hz.a.trans e.a⟩⟩
theorem Sms.set2{l k:List Slt}(h:Sms l k){i:Nat}{y z u w:Slt}(hy:l[i]? =some y)(hz:SmS z y)(hu:(l.set i z)[i]? =some u)(hw:SmS w u):Sms ((l.set i z).set i w) k:=(h.set hy hz).set hu hw
theorem w8t{r:Reg}{x:ByteArray}{now:Int}{K:Reg->Int->Int->Prop}(h1: ∀c ls,Sms ls r.3->K (Reg.mk now r.2 ls) c 0)(h2: ∀e,e≠0->K noRg 0 e):q22 r x now K:=by
 unfold q22 q61
 refine j0y (Cnd.mk (fun c=> ?_) fun c=>h2 _ c)
 have ok:=(q9f.1 c).ok
 have hln:=ok.ln
 have hsn:=ok.sn
 refine Jw (Cnd.mk (fun _=> ?_) fun _=>h2 _ (by decide))
 refine z7i (by omega) (z7j (by omega) fun _=> ?_)
 refine Lp3.ind (fun (n i:Int) ls=>0<=n/\n<=i/\0<=i/\i<=(r.3.length:Int)/\Sms ls r.3) (fun _ (i:Int) _=>((r.3.length:Int) - i).toNat) ?_ ⟨by decide,by decide,by decide,by omega,Sms.refl _⟩
 rintro n i ls ⟨n0,n1,i0,i1,hs⟩
 have hn:=hs.n
 have nx:i<r.3.length->InI (i+1)/\(0<=n/\n<=i+1/\0<=i+1/\i+1<=r.3.length/\Sms ls r.3)/\((r.3.length:Int) - (i+1)).toNat<((r.3.length:Int) - i).toNat:=fun hi=>⟨by unfold InI;omega,⟨n0,by omega,by omega,by omega,hs⟩,by omega⟩
 refine Cnd.mk (fun hc=>⟨by omega,fun y _=>Cnd.mk (fun _=>fun y2 _=>Cnd.mk (fun _=>fun y3 h3 y4 h4=>⟨by unfold InI;omega,by unfold InI;omega,⟨by omega,by omega,by omega,by omega,?_⟩,by omega⟩) fun _=>nx hc) fun _=>nx hc⟩) fun hc=>h1 _ _ hs
 exact hs.set2 h3 ⟨rfl,rfl,rfl,rfl⟩ h4 ⟨rfl,rfl,rfl,rfl⟩
theorem w4c{r:Reg}{a b:ByteArray}{now:Int}{K:Reg->List Slt->Int->Prop}(h1: ∀ks ls us,ks=r.2∨ks=r.2++[Lnk.mk a b now]->Sms ls r.3->K (Reg.mk now ks ls) us 0)(h2: ∀e,e≠0->K noRg [] e):q1c r a b now K:=by
 unfold q1c q5k
 refine j0y (Cnd.mk (fun c=> ?_) fun c=>h2 _ c)
 have ok:=(q9f.1 c).ok
 have hln:=ok.ln
 have hsn:=ok.sn
 refine Jw (Cnd.mk (fun _=> ?_) fun _=>h2 _ (by decide))
 refine Jw (Cnd.mk (fun _=> ?_) fun _=>h2 _ (by decide))
 refine Cnd.mk (fun _=>h2 _ (by decide)) fun _=> ?_
 refine z7i (by omega) (z7j (by omega) (w0i (by omega) (Cnd.mk (fun _=>h1 _ _ _ (.inl rfl) (Sms.refl _)) fun _=>fun _=>Cnd.mk (fun _=>h2 _ (by decide)) fun _=>⟨by unfold Sml;simp;omega,q5w (by simp;omega) fun _=> ?_⟩)))
 refine LpH.ind (fun x=>(0:Int)<=x.2.1/\x.2.1<=(r.3.length:Int)/\(x.1.length:Int)<=x.2.1/\x.2.2.2.1=r.2++[Lnk.mk a b now]/\Sms x.2.2.2.2.2.1 r.3) (fun x=>((r.3.length:Int) - (x.2.1:Int)).toNat) ?_ ⟨by show (0:Int)<=0;decide,by show (0:Int)<=(r.3.length:Int);omega,by show (0:Int)<=0;decide,rfl,Sms.refl _⟩
 rintro⟨us,i,F,ks,k2,ls,u⟩ ⟨i0,i1,hu,hk,hs⟩
 dsimp only at i0 i1 hu hk hs⊢
 subst hk
 have hn:=hs.n
 have nx: ∀(us':List Slt) (ls':List Slt),i<r.3.length->(us'.length:Int)<=i+1->Sms ls' r.3->InI (i+1)/\(0<=i+1/\i+1<=r.3.length/\(us'.length:Int)<=i+1/\r.2++[Lnk.mk a b now]=r.2++[Lnk.mk a b now]/\Sms ls' r.3)/\((r.3.length:Int) - (i+1)).toNat<((r.3.length:Int) - i).toNat:=fun us' ls' hi hu' hs'=>⟨by unfold InI;omega,⟨by omega,by omega,hu',rfl,hs'⟩,by omega⟩
 refine Cnd.mk (fun hc=>⟨by omega,fun y _=>Cnd.mk (fun _=>fun y2 _=>q5w (by simp;omega) (Cnd.mk (fun _=> ?_) fun _=>nx us ls hc (by omega) hs)) fun _=>nx us ls hc (by omega) hs⟩) fun hc=>h1 _ _ _ (.inr rfl) hs
 refine Jn4.mk (fun us' ks' ls' k2'=>(us'.length:Int)<=i+1/\ks'=r.2++[Lnk.mk a b now]/\Sms ls' r.3) ?_ ?_
 ·intro y3 h3
  refine Cnd.mk (fun _=>fun y4 h4 y5 h5 y6 h6=>⟨by unfold Sml;simp;omega,by simp;omega,rfl,?_⟩) fun _=>⟨by omega,rfl,hs⟩
  exact hs.set2 h4 ⟨rfl,rfl,rfl,rfl⟩ h5 ⟨rfl,rfl,rfl,rfl⟩
 ·rintro us' ks' ls' k2' ⟨g1,rfl,g3⟩ y7 _
  exact nx us' ls' hc g1 g3
end Go.En
end
noncomputable section
set_option maxRecDepth 100000
namespace Go.En
open Go Go.Fl Go.Fl.Lk Go.Fx
theorem SmS.gd{sT:ByteArray}{ho c a b:Int}{s t:Slt}{k:Nat}(h:SmS s t)(g:GdS sT ho c a b t k):GdS sT ho c a b s k:=by
 obtain⟨e1,e2,e3,e4⟩:=h
 refine⟨g.kk,e2.trans g.l,?_,?_,?_⟩
 ·rw[e1,e2];exact g.q
 ·rw[e1,e2,e3];exact g.x
 ·rw[e1,e2,e4];exact g.m
structure PlB(sT:ByteArray)(ho c a b:Int)(n:Int)(r:Reg):Prop where
 t0:0<=r.1
 t1:r.1<=3*n
 ln:(r.2.length:Int)<=n
 sn:(r.3.length:Int)<=n
 sl: ∀s∈r.3,(∃k,GdS sT ho c a b s k)/\s.1∈idN
 lk: ∀e∈r.2,e.1∈idN/\e.2∈idN
theorem PlB.up{sT:ByteArray}{ho c a b n:Int}{r:Reg}(h:PlB sT ho c a b n r):PlB sT ho c a b (n+1) r:=
 ⟨h.t0,by have:=h.t1;omega,by have:=h.ln;omega,by have:=h.sn;omega,h.sl,h.lk⟩
theorem PlB.sms{sT:ByteArray}{ho c a b n now:Int}{r:Reg}{ks:List Lnk}{ls:List Slt}(h:PlB sT ho c a b n r)(h0:r.1<=now)(h1:now<=r.1+3)(hk:ks.length<=r.2.length+1)(hm: ∀e∈ks,e.1∈idN/\e.2∈idN)(hs:Sms ls r.3):PlB sT ho c a b (n+1) (Reg.mk now ks ls) where
 t0:=by have:=h.t0;show 0<=now;omega
 t1:=by have:=h.t1;show now<=_;omega
 ln:=by have:=h.ln;show (ks.length:Int)<=_;omega
 sn:=by have:=h.sn;have:=hs.n;show (ls.length:Int)<=_;omega
 sl s hm:=by
  obtain⟨t,ht,e⟩:=hs.s s hm
  obtain⟨⟨k,g⟩,hi⟩:=h.sl t ht
  exact⟨⟨k,e.gd g⟩,by rw[e.i];exact hi⟩
 lk:=hm
theorem PlB.new{sT:ByteArray}{ho c a b n now:Int}{r:Reg}{s:Slt}{k:Nat}(h:PlB sT ho c a b n r)(h0:r.1<=now)(h1:now<=r.1+3)(hg:GdS sT ho c a b s k)(hi:s.1∈idN):PlB sT ho c a b (n+1) (Reg.mk now r.2 (r.3++[s])) where
 t0:=by have:=h.t0;show 0<=now;omega
 t1:=by have:=h.t1;show now<=_;omega
 ln:=by have:=h.ln;show (r.2.length:Int)<=_;omega
 sn:=by have:=h.sn;show ((r.3++[s]).length:Int)<=_;simp;omega
 sl t ht:=by
  rcases List.mem_append.1 ht with ht|ht
  ·exact h.sl t ht
  ·rw[List.mem_singleton.1 ht];exact⟨⟨k,hg⟩,hi⟩
 lk:=h.lk
theorem w00{r:Reg}{id:ByteArray}{a:Asg}{cool now:Int}(h:(asnV r id a cool now).2.2=0):(asnV r id a cool now).1=Reg.mk now r.2 r.3∨ ¬badA a/\(asnV r id a cool now).1=Reg.mk now r.2 (r.3++[j4u id a now]):=by
 unfold asnV at h⊢
 split at h
 ·rename_i c1
  rw[if_pos c1]
  split at h
  ·cases h
  ·rename_i c2
   rw[if_neg c2]
   split at h
   ·rename_i c3
    rw[if_pos c3]
    cases hc:curV r id a.1 with
    |some s=>rw[j3e hc];exact .inl rfl
    |none=>
     rw[z7l hc] at h⊢
     split at h
     ·cases h
     ·rename_i c4
      rw[if_neg c4]
      split at h
      ·cases h
      ·rename_i c5
       rw[if_neg c5]
       split at h
       ·cases h
       ·rename_i c6
        rw[if_neg c6];exact .inr ⟨c4,rfl⟩
   ·cases h
 ·rename_i c1
  exact absurd h c1
theorem v0w{sT:ByteArray}{ho c a b now:Int}{k:Nat}{id:ByteArray}(hk:k<2)(h: ¬badA (asgM sT ho c a b k id)):GdS sT ho c a b (j4u id (asgM sT ho c a b k id) now) k:=by
 by_cases hq:ofV (sT++lN.getD k noT) id<ho
 ·exact absurd (.inl (by unfold asgM;rw[if_pos hq])) h
 ·unfold asgM
  rw[if_neg hq]
  exact⟨hk,rfl,by show ho<=ofV (sT++lN.getD k noT) id;omega,rfl,rfl⟩
structure MvB(m:Mov):Prop where
 k:0<=m.1/\m.1<=1000
 i:0<=m.2/\m.2<=1000
 o:0<=m.3/\m.3<=1000
 l:0<=m.4/\m.4<=1000
 a:0<=m.5/\m.5<=1000
theorem w8u{sT:ByteArray}{ho c a b:Int}(hs:sT.size<=1000)(hm:MdB ho c a b){l:List Mov}(hl:l.length<=1000)(hb: ∀m∈l,MvB m){K:Reg->Prop}(h: ∀r,PlB sT ho c a b l.length r->K r):q4v (mkE sT ho c a b) l K:=by
 unfold q4v q8i
 have hv:=w5u (ho:=ho) (c:=c) (a:=a) (b:=b) hs
 refine Lp4.ind (fun (i t:Int) ks ls=>0<=i/\i<=(l.length:Int)/\PlB sT ho c a b i (Reg.mk t ks ls)) (fun (i _:Int) _ _=>((l.length:Int) - i).toNat) ?_ ⟨by decide,by omega,⟨by show (0:Int)<=0;decide,by show (0:Int)<=0;decide,by show (0:Int)<=0;decide,by show (0:Int)<=0;decide,fun s hs=>(by cases hs),fun e he=>(by cases he)⟩⟩
 rintro i t ks ls ⟨i0,i1,hp⟩ _
 refine Cnd.mk (fun hc=>⟨by omega,fun y hy=> ?_⟩) fun hc=>h _ (by rw[show i=(l.length:Int) by omega] at hp;exact hp)
 have hy:=hb y (List.mem_of_getElem? hy)
 have t0:0<=t:=hp.t0
 have t1:t<=3*i:=hp.t1
 obtain⟨y50,y51⟩:=hy.a
 obtain⟨y30,y31⟩:=hy.o
 obtain⟨y40,y41⟩:=hy.l
 have d0:=Int.tmod_nonneg 4 y50
 have d1:=Int.tmod_lt_of_pos y.5 (b:=4) (by decide)
 refine⟨by unfold InI;omega,by decide,by unfold InI;omega,by have:=hy.i;unfold InI;omega,w8s hy.i.1 fun id hid=> ?_⟩
 refine Jn4.mk (fun e t' ks' ls'=>e=0->PlB sT ho c a b (i+1) (Reg.mk t' ks' ls')) ?_ ?_
 ·refine⟨by decide,?_⟩
  refine Jn1.mk (fun _=>True) ?_ fun o _=> ?_
  ·exact Cnd.mk (fun _=>trivial) fun _=>Cnd.mk (fun _=>trivial) fun _=>Cnd.mk (fun _=>trivial) fun _=>trivial
  refine Cnd.mk (fun _=>⟨by decide,?_⟩) fun _=>Cnd.mk (fun _=>⟨by decide,?_⟩) fun _=>⟨by unfold InI;omega,w8s y30 fun id2 hid2=> ?_⟩
  ·show R9 id _
   have l0:=Int.tmod_nonneg 2 y40
   have l1:=Int.tmod_lt_of_pos y.4 (b:=2) (by decide)
   refine⟨⟨l0,l1⟩,fun key hkey=> ?_⟩
   have hkey:=(z0t hkey).symm
   have hk2:(y.4.tmod 2).toNat<2:=by omega
   generalize (y.4.tmod 2).toNat=k at hkey hk2
   subst hkey
   refine q4k (v:=mkE sT ho c a b) (s:=usr id) (key:=lN.getD k noT) hv (j01 (Nat.le_trans (j0w (w5w hid)) (by decide))) (by decide) ?_
   rw[w5v hk2 hm]
   have o1:=Int.tmod_lt_of_pos y.3 (b:=3) (by decide)
   refine⟨by unfold InI;omega,by decide,j3f (r:=Reg.mk t ks ls) (by omega) fun he=> ?_⟩
   rcases w00 he with e|⟨e1,e⟩
   ·rw[e];exact hp.sms (now:=t+y.5.tmod 4) (ks:=ks) (ls:=ls) (by show t<=_;omega) (by show _<=t+3;omega) (by show ks.length<=ks.length+1;omega) hp.lk (Sms.refl _)
   ·rw[e];exact hp.new (now:=t+y.5.tmod 4) (s:=j4u id (asgM sT ho c a b k id) (t+y.5.tmod 4)) (by show t<=_;omega) (by show _<=t+3;omega) (v0w hk2 e1) hid
  ·have o0:=Int.tmod_nonneg 4 y30
   have o1:=Int.tmod_lt_of_pos y.3 (b:=4) (by decide)
   refine⟨⟨o0,o1⟩,fun x _=>w8t (r:=Reg.mk t ks ls) (fun n ls' hs' _=> ?_) fun e he h0=>absurd h0 he⟩
   exact hp.sms (now:=t+y.5.tmod 4) (ks:=ks) (ls:=ls') (by show t<=_;omega) (by show _<=t+3;omega) (by show ks.length<=ks.length+1;omega) hp.lk hs'
  ·refine w4c (r:=Reg.mk t ks ls) (fun ks' ls' us hk hs' _=> ?_) fun e he h0=>absurd h0 he
   refine hp.sms (now:=t+y.5.tmod 4) (ks:=ks') (ls:=ls') (by show t<=_;omega) (by show _<=t+3;omega) ?_ ?_ hs'
   ·rcases hk with rfl|rfl
    ·exact Nat.le_succ _
    ·show (ks++_).length<=_;simp
   ·rcases hk with rfl|rfl
    ·exact hp.lk
    ·intro e he
     rcases List.mem_append.1 he with he|he
     ·exact hp.lk e he
     ·rw[List.mem_singleton.1 he];exact⟨hid,hid2⟩
 ·intro e t' ks' ls' hq
  refine Cnd.mk (fun he=>⟨by unfold InI;omega,⟨by omega,by omega,hq he⟩,by omega⟩) fun _=>⟨by unfold InI;omega,⟨by omega,by omega,hp.up⟩,by omega⟩
end Go.En
end
noncomputable section
set_option maxRecDepth 100000
namespace Go.En
open Go Go.Fl Go.Fl.Lk Go.Fx
def lysV(r:Reg):List ByteArray:=cpt (srt (r.3.map fun s=>s.2))
def j4v(r:Reg)(id:ByteArray)(t:Int)(y:ByteArray):Option Frc:=(atV r id y t).map fun s=>Frc.mk y s.3 s.4
def forV(r:Reg)(id:ByteArray)(t:Int):List Frc:=if regV r=true then (lysV r).filterMap (j4v r id t) else []
theorem w4d{r:Reg}{y:ByteArray}:y∈lysV r↔y∈r.3.map fun s=>s.2:=(q6g _).2.1 y
theorem j6h(r:Reg):(lysV r).length<=r.3.length:=by
 have:=(q6g (r.3.map fun s=>s.2)).2.2.2
 rwa [List.length_map] at this
theorem w4e(r:Reg)(id:ByteArray)(t:Int):(forV r id t).length<=r.3.length:=by
 unfold forV
 split
 ·exact Nat.le_trans (List.length_filterMap_le _ _) (j6h r)
 ·exact Nat.zero_le _
theorem w8v{α β:Type}{l:List α}{f:α->Option β}{j:Nat}{y:α}(h:l[j]? =some y):(l.take (j+1)).filterMap f=(l.take j).filterMap f++(match f y with|some z=>[z]|none=>[]):=by
 rw[tk1 h,List.filterMap_append]
 cases hf:f y<;>simp[hf]
theorem w01{r:Reg}{id:ByteArray}{t:Int}{K:List Frc->Prop}(h:K (forV r id t)):B1 r id t K:=by
 unfold B1 q38
 unfold forV at h
 refine z16 (Cnd.mk (fun hc=>fun _=> ?_) fun hc=>by rw[if_neg hc] at h;exact h)
 rw[if_pos hc] at h
 have ok:=q42.1 hc
 have hsn:=ok.sn
 refine Lp2.ind (fun l (i:Int)=> ∃j:Nat,i=(j:Int)/\j<=r.3.length/\l=(r.3.take j).map fun s=>s.2) (fun _ (i:Int)=>((r.3.length:Int) - i).toNat) ?_ ⟨0,rfl,by omega,rfl⟩
 rintro l i ⟨j,rfl,hj,rfl⟩
 refine Cnd.mk (fun hi=>⟨by omega,fun y hy=>⟨by unfold Sml;simp;omega,by unfold InI;omega,⟨j+1,by omega,by omega,?_⟩,by omega⟩⟩) fun hi=> ?_
 ·have hy:r.3[j]? =some y:=hy
  rw[tk1 hy,List.map_append];rfl
 ·rw[List.take_of_length_le (by omega)]
  unfold Zb Zg
  intro _
  have hll:=j6h r
  refine Lp2.ind (fun fs (i:Int)=> ∃j:Nat,i=(j:Int)/\j<=(lysV r).length/\fs=((lysV r).take j).filterMap (j4v r id t)) (fun _ (i:Int)=>(((lysV r).length:Int) - i).toNat) ?_ ⟨0,rfl,by omega,rfl⟩
  rintro fs i ⟨k,rfl,hk,rfl⟩
  have hfl:(((lysV r).take k).filterMap (j4v r id t)).length<=k:=Nat.le_trans (List.length_filterMap_le _ _) (by rw[List.length_take];omega)
  refine Cnd.mk (fun hi=>⟨⟨by omega,hi⟩,fun y hy=> ?_⟩) fun hi=> ?_
  ·have hy:(lysV r)[k]? =some y:=hy
   have hi:(k:Int)<((lysV r).length:Int):=hi
   have hs:=w8v (f:=j4v r id t) hy
   refine v0r ok.ln hsn ?_
   unfold j4v at hs hfl⊢
   cases ha:atV r id y t with
   |none=>
    rw[ha] at hs
    refine Cnd.mk (fun e=>by cases e) fun _=>⟨by unfold InI;omega,⟨k+1,by omega,by omega,?_⟩,by show (((lysV r).length:Int) - ((k:Int)+1)).toNat<_;omega⟩
    rw[hs];simp
   |some s=>
    rw[ha] at hs
    refine Cnd.mk (fun _=>⟨by unfold Sml;rw[List.length_append];simp;omega,by unfold InI;omega,⟨k+1,by omega,by omega,?_⟩,by show (((lysV r).length:Int) - ((k:Int)+1)).toNat<_;omega⟩) fun e=>absurd rfl e
    rw[hs];rfl
  ·have hi: ¬(k:Int)<((lysV r).length:Int):=hi
   rw[List.take_of_length_le (by omega)];exact h
end Go.En
end
noncomputable section
set_option maxRecDepth 100000
namespace Go.Dg
open Go.Fl
abbrev Nd:=Int×Int×Int
def nd(ns:List Nd)(id:Int):Nd:=ns.getD id.toNat (0,0,0)
def top(ns:List Nd)(id:Int):Int:=if id<0 then 1001 else (nd ns id).1
def Ok(ns:List Nd)(id:Int):Prop:= -1002<id/\id<ns.length
def evF(ns:List Nd)(h:Int->Bool):Nat->Int->Int
 |0,id=> -1 - id
 |n+1,id=>if id<0 then -1 - id else evF ns h n (if h (nd ns id).1=true then (nd ns id).2.1 else (nd ns id).2.2)
def ev(ns:List Nd)(h:Int->Bool)(id:Int):Int:=evF ns h (id.toNat+1) id
structure Nod(ns:List Nd):Prop where
 nod: ∀i:Int,0<=i->i<ns.length->0<=(nd ns i).1/\(nd ns i).1<=1000/\ -1002<(nd ns i).2.1/\(nd ns i).2.1<i/\ -1002<(nd ns i).2.2/\(nd ns i).2.2<i/\
  (nd ns i).2.1≠(nd ns i).2.2/\(nd ns i).1<top ns (nd ns i).2.1/\(nd ns i).1<top ns (nd ns i).2.2
 one: ∀i j:Int,0<=i->i<ns.length->0<=j->j<ns.length->nd ns i=nd ns j->i=j
theorem ind{ns:List Nd}(hN:Nod ns){p:Int->Prop}(h0: ∀id:Int, -1002<id->id<0->p id)
  (h1: ∀id:Int,0<=id->id<ns.length->p (nd ns id).2.1->p (nd ns id).2.2->p id){id:Int}(hi:Ok ns id):p id:=by
 have key: ∀(k:Nat) (id:Int),id<k->Ok ns id->p id:=by
  intro k
  induction k with
  |zero=>exact fun id hk hi=>h0 id hi.1 hk
  |succ k ih=>
   intro id hk hi
   by_cases hn:id<0
   ·exact h0 id hi.1 hn
   ·obtain⟨_,_,a,b,c,d,_⟩:=hN.nod id (by omega) hi.2
    have:=hi.2
    exact h1 id (by omega) hi.2 (ih _ (by omega) ⟨a,by omega⟩) (ih _ (by omega) ⟨c,by omega⟩)
 exact key (id.toNat+1) id (by omega) hi
def w5x(ns:List Nd)(t y n:Int):Prop:=0<=t/\t<=1000/\Ok ns y/\Ok ns n/\t<top ns y/\t<top ns n
instance (ns:List Nd)(id:Int):Decidable (Ok ns id):=by unfold Ok;infer_instance
instance (ns:List Nd)(t y n:Int):Decidable (w5x ns t y n):=by unfold w5x;infer_instance
def mtop(ns:List Nd)(f g h:Int):Int:=min (min (top ns f) (top ns g)) (top ns h)
def Cse(ns:List Nd)(f g h r:Int):Prop:= ∀v,ev ns v r=if ev ns v f=1 then ev ns v g else ev ns v h
def Kn(ns:List Nd)(m:Nd->Option Int):Prop:= ∀f g h id,m (f,g,h)=some id->(id= -1002/\ns.length=4000)∨(Ok ns f/\Ok ns g/\Ok ns h/\Ok ns id/\Cse ns f g h id/\mtop ns f g h<=top ns id)
end Go.Dg
end
noncomputable section
set_option maxRecDepth 100000
namespace Go.En
open Go Go.Fl Go.Fx Go.Dg
theorem kids{ns:List Nd}(hN:Nod ns){a:Int}(h:Ok ns a)(h0:0<=a):Ok ns (nd ns a).2.1/\Ok ns (nd ns a).2.2/\(nd ns a).2.1<a/\(nd ns a).2.2<a:=by
 have h2:=h.2
 obtain⟨_,_,a1,a2,a3,a4,_⟩:=hN.nod a h0 h.2
 exact⟨⟨a1,by omega⟩,⟨a3,by omega⟩,a2,a4⟩
def Tr(F:Int->Option Bool):Prop:= ∀x,F x=none∨F x=some true
def univ(ns:List Nd):List Int:=(List.range (ns.length+1001)).map fun (i:Nat)=>(i:Int) - 1001
def left(ns:List Nd)(F:Int->Option Bool):Nat:=(univ ns).countP fun x=>(F x).isNone
end Go.En
end
noncomputable section
set_option maxRecDepth 100000
namespace Go.En
open Go Go.Fl Go.Fl.Lk Go.Fx
def ixF{α:Type}(p:α->Bool):List α->Nat->Option (Nat×α)
 |[],_=>none
 |a::l,i=>if p a=true then some (i,a) else ixF p l (i+1)
theorem w5y{α:Type}{l:List α}{p:α->Bool}{i:Nat}{y:α}(hy:l[i]? =some y)(hp:p y=true):ixF p (l.drop i) i=some (i,y):=by
 have hlt:=Qd hy
 rw[List.drop_eq_getElem_cons hlt]
 have e:l[i]=y:=by rw[List.getElem?_eq_getElem hlt] at hy;exact Option.some.inj hy
 rw[e,ixF,if_pos hp]
theorem w02{α:Type}{l:List α}{p:α->Bool}{i:Nat}{y:α}(hy:l[i]? =some y)(hp:p y=false):ixF p (l.drop i) i=ixF p (l.drop (i+1)) (i+1):=by
 have hlt:=Qd hy
 rw[List.drop_eq_getElem_cons hlt]
 have e:l[i]=y:=by rw[List.getElem?_eq_getElem hlt] at hy;exact Option.some.inj hy
 rw[e,ixF,if_neg (by rw[hp];simp)]
theorem w03{α:Type}{p:α->Bool}: ∀{l:List α} {n i:Nat} {y:α},ixF p l n=some (i,y)->n<=i/\l[i - n]? =some y/\p y=true
 |[],_,_,_,h=>by cases h
 |a::l,n,i,y,h=>by
  rw[ixF] at h
  split at h
  ·cases h;exact⟨Nat.le_refl _,by simp,by assumption⟩
  ·obtain⟨h1,h2,h3⟩:=w03 h
   refine⟨by omega,?_,h3⟩
   rw[show i - n=(i - (n+1))+1 by omega];exact h2
theorem v2o{α:Type}{l:List α}(p:α->Bool){G:Int->α->(Int->Prop)->Prop}{B:Prop}(hl:l.length<=1000000000)(hB:ixF p l 0=none->B)
  (hG: ∀(i:Nat) y Y,l[i]? =some y->i<l.length->(p y=true->ixF p l 0=some (i,y))->(p y=false->InI ((i:Int)+1)/\Y ((i:Int)+1))->G (i:Int) y Y):
  Lp1 (fun x Y=>Cnd (x<(l.length:Int)) ((0<=x/\x<(l.length:Int))/\ ∀y,l[x.toNat]? =some y->G x y Y) B) 0:=by
 refine Lp1.ind (fun i=> ∃j:Nat,i=(j:Int)/\j<=l.length/\ixF p l 0=ixF p (l.drop j) j) (fun i=>(l.length - i).toNat) ?_ ⟨0,rfl,by omega,rfl⟩
 rintro i ⟨j,rfl,hj,hf⟩
 refine Cnd.mk (fun hc=>⟨by omega,fun y hy=> ?_⟩) fun hc=> ?_
 ·have hy:l[j]? =some y:=hy
  refine hG j y _ hy (by omega) (fun hp=>by rw[hf,w5y hy hp]) fun hp=>⟨by unfold InI;omega,⟨j+1,by omega,by omega,by rw[hf,w02 hy hp]⟩,by omega⟩
 ·refine hB ?_
  rw[hf,List.drop_eq_nil_of_le (by omega)];rfl
abbrev numB(n:Int):ByteArray:=⟨(Go.Lib.itoa n).toArray⟩
def hkV(v:Val):Option ByteArray:=
 if v.1=3∨v.1=4 then some v.3 else if v.1=2 then some (numB v.2) else if v.1=1 then some (if v.2=1 then ByteArray.mk (Array.mk [116,114,117,101]) else ByteArray.mk (Array.mk [102,97,108,115,101])) else none
def bksV(s:Subj)(k b salt:ByteArray):Option Int:=(lkp s k b).bind fun v=>(hkV v).map fun t=>ofV salt t
def srvV(s:Subj)(v:Srv):Int×Int×Bool:=
 if v.1≠0 then (v.1, -1,true) else match bksV s v.2 v.3 v.4 with
 |some b=>(q58 v.5 b,b,true)
 |none=>(0, -1,false)
def tgP(s:Subj)(t:Tgt):Bool:=match fnd s t.1 with
 |some c=>dec (c.2∈t.3)
 |none=>false
def fof(v:Envt)(key:ByteArray):Option Flg:=v.4.find? fun f=>decide (f.1=key)
def metV(v:Envt)(dv:Flg->Int)(p:Prq):Bool:=match fof v p.1 with
 |some g=>g.4 && decide (dv g=p.2)
 |none=>false
def inXV(v:Envt)(s:Subj)(fs:List Frc)(key:ByteArray)(x:Exper):Bool:=decide (x.3=key) && (decide (x.5=2) && decide ((asgV v s fs x.2).1.2=x.1))
def abV(v:Envt)(s:Subj)(x:Exper):Int:=match lof v x.2 with
 |some l=>(match fnd s l.2 with
  |some c=>ofV x.4 c.2
  |none=> -1)
 |none=> -1
def svd(s:Subj)(off:Int)(sv:Srv)(k i:Int)(n:ByteArray):Int×Rsn:=
 if (srvV s sv).2.2=true then ((srvV s sv).1,Rsn.mk k i n (srvV s sv).2.1) else (off,Rsn.mk 7 i noT (-1))
def rlsV(v:Envt)(s:Subj)(f:Flg):Int×Rsn:=match ixF (fun r=>cndV v s r.2) f.8 0 with
 |some q=>svd s f.5 q.2.3 5 ((q.1:Int)+1) q.2.1
 |none=>svd s f.5 f.9 6 0 noT
def chsV(v:Envt)(s:Subj)(fs:List Frc)(dv:Flg->Int)(f:Flg):Int×Rsn:=
 if f.4=false then (f.5,Rsn.mk 1 0 noT (-1)) else
 match f.6.find? (fun p=> !metV v dv p) with
 |some p=>(f.5,Rsn.mk 2 0 p.1 (-1))
 |none=>match ixF (tgP s) f.7 0 with
  |some q=>(q.2.2,Rsn.mk 3 ((q.1:Int)+1) noT (-1))
  |none=>match v.6.find? (inXV v s fs f.1) with
   |some x=>((asgV v s fs x.2).1.4,Rsn.mk 4 0 x.1 (abV v s x))
   |none=>rlsV v s f
def dvN(v:Envt)(s:Subj)(fs:List Frc):Nat->Flg->Int
 |0,f=>(chsV v s fs (fun _=>0) f).1
 |n+1,f=>(chsV v s fs (dvN v s fs n) f).1
def dcV(v:Envt)(s:Subj)(fs:List Frc)(f:Flg):Int×Rsn:=chsV v s fs (dvN v s fs v.4.length) f
def valV(l:List Val)(k:Int):Val:=if 1<=k/\k<=(l.length:Int) then (l[(k - 1).toNat]?).getD noV else noV
def dcsV(v:Envt)(s:Subj)(fs:List Frc)(f:Flg):Dcs:=Dcs.mk f.1 (dcV v s fs f).1 (valV f.3 (dcV v s fs f).1) (dcV v s fs f).2 0
structure FlB(l:List Flg):Prop where
 nd:(l.map Flg.key).Nodup
 ord: ∀(i:Nat) f,l[i]? =some f-> ∀p∈f.6,∀(j:Nat) g,l[j]? =some g->p.1=g.1->j<i
theorem j6i{v:Envt}{key:ByteArray}{g:Flg}(h:fof v key=some g): ∃j:Nat,v.4[j]? =some g/\key=g.1:=by
 unfold fof at h
 obtain⟨j,hj⟩:=List.getElem?_of_mem (List.mem_of_find?_eq_some h)
 have:=List.find?_some h
 simp only[decide_eq_true_eq] at this
 exact⟨j,hj,this.symm⟩
theorem j3h{v:Envt}(hB:FlB v.4){i:Nat}{g:Flg}(h:v.4[i]? =some g):fof v g.1=some g:=by
 have hnd:=hB.nd
 have hg:=getm h
 unfold fof
 generalize v.4=L at hnd hg
 clear h
 induction L with
 |nil=>cases hg
 |cons a L ih=>
  rw[List.find?_cons]
  rw[List.map_cons,List.nodup_cons] at hnd
  rcases List.mem_cons.1 hg with rfl|hg
  ·simp
  ·rw[decide_eq_false (fun e=>hnd.1 (by rw[e];exact List.mem_map_of_mem hg))]
   exact ih hnd.2 hg
theorem j7d{v:Envt}{d d':Flg->Int}{p:Prq}(h: ∀g,fof v p.1=some g->d g=d' g):metV v d p=metV v d' p:=by
 unfold metV
 cases hf:fof v p.1 with
 |none=>rfl
 |some g=>simp only;rw[h g hf]
theorem z3g{α:Type}{p q:α->Bool}: ∀{l:List α},(∀x∈l,p x=q x)->l.find? p=l.find? q
 |[],_=>rfl
 |a::l,h=>by rw[List.find?_cons,List.find?_cons,h a List.mem_cons_self,z3g fun x hx=>h x (List.mem_cons_of_mem _ hx)]
theorem z83{v:Envt}{s:Subj}{fs:List Frc}{d d':Flg->Int}{f:Flg}(h: ∀p∈f.6,∀g,fof v p.1=some g->d g=d' g):chsV v s fs d f=chsV v s fs d' f:=by
 unfold chsV
 rw[z3g (q:=fun p=> !metV v d' p) fun p hp=>by rw[j7d (h p hp)]]
theorem j7e{v:Envt}{s:Subj}{fs:List Frc}(hB:FlB v.4): ∀(i n m:Nat) (f:Flg),v.4[i]? =some f->i<=n->i<=m->dvN v s fs n f=dvN v s fs m f:=by
 intro i
 induction i using Nat.strongRecOn with
 |ind i ih=>
  intro n m f hf hn hm
  have key: ∀d d':Flg->Int,(∀(j:Nat) g,j<i->v.4[j]? =some g->d g=d' g)->chsV v s fs d f=chsV v s fs d' f:=fun d d' h=>z83 fun p hp g hg=>by
   obtain⟨j,hj,hk⟩:=j6i hg
   exact h j g (hB.ord i f hf p hp j g hj hk) hj
  cases n with
  |zero=>
   cases m with
   |zero=>rfl
   |succ m=>unfold dvN;rw[key _ (dvN v s fs m) fun j g hj=>by omega]
  |succ n=>
   cases m with
   |zero=>unfold dvN;rw[key _ (fun _=>0) fun j g hj=>by omega]
   |succ m=>unfold dvN;rw[key _ (dvN v s fs m) fun j g hj hg=>ih j hj n m g hg (by omega) (by omega)]
theorem v0x{v:Envt}{s:Subj}{fs:List Frc}(hB:FlB v.4){i:Nat}{f:Flg}(hf:v.4[i]? =some f):dcV v s fs f=chsV v s fs (fun g=>(dcV v s fs g).1) f:=by
 have hi:=Qd hf
 unfold dcV
 refine z83 fun p hp g hg=> ?_
 obtain⟨j,hj,hk⟩:=j6i hg
 have hji:=hB.ord i f hf p hp j g hj hk
 obtain⟨n,hn⟩: ∃n,v.4.length=n+1:=⟨v.4.length - 1,by omega⟩
 have h2:(chsV v s fs (dvN v s fs v.4.length) g).1=dvN v s fs (v.4.length+1) g:=rfl
 rw[h2]
 exact j7e hB j _ _ g hj (by omega) (by omega)
end Go.En
end
noncomputable section
set_option maxRecDepth 100000
namespace Go.En
open Go Go.Fl Go.Fl.Lk Go.Fx
def rstD(n:Int):List UInt8:=if n=0 then [] else Go.Lib.decDigits n.natAbs
theorem w4f{n:Int}(h:n≠0):Go.Lib.itoa n=(if n<0 then [45] else [])++rstD n:=by
 unfold Go.Lib.itoa rstD
 rw[if_neg h]
 split
 ·rfl
 ·rw[show n.toNat=n.natAbs by omega];rfl
theorem w04:Go.Lib.itoa 0=[48]:=by unfold Go.Lib.itoa;rw[if_neg (by decide),Go.Lib.decDigits];rfl
end Go.En
end
noncomputable section
set_option maxRecDepth 100000
namespace Go.En
open Go Go.Fl Go.Fl.Lk Go.Fx
def NumB(s:Subj):Prop:= ∀c∈s.ctxs,∀a∈c.attrs,InI a.value.number
theorem w05: ∀(k n:Nat),n<10 ^ k->1<=k->(Go.Lib.decDigits n).length<=k
 |0,_,_,h=>by omega
 |k+1,n,h,_=>by
  rw[Go.Lib.decDigits]
  split
  ·simp
  ·rename_i hs
   have hk:1<=k:=by
    refine Nat.one_le_iff_ne_zero.2 fun e=> ?_
    subst e;simp at h;omega
   have:=w05 k (n / 10) (by rw[Nat.pow_succ] at h;omega) hk
   simp;omega
theorem w8w{n:Int}(h:InI n):(rstD n).length<=19:=by
 unfold rstD
 split
 ·simp
 ·refine w05 19 _ ?_ (by decide)
  have:(10:Nat) ^ 19=10000000000000000000:=by decide
  unfold InI at h
  omega
theorem w4g{n:Int}(h:InI n):(numB n).size<=100:=by
 show (Go.Lib.itoa n).toArray.size<=100
 rw[List.size_toArray]
 by_cases h0:n=0
 ·subst h0;rw[w04];decide
 ·rw[w4f h0]
  have:=w8w h
  split<;>simp<;>omega
theorem z8e{n:Int}{K:ByteArray->Prop}(hn:InI n)(h:K (numB n)):q23 n K:=by
 unfold q23
 exact⟨hn,h⟩
theorem j03{v:Val}{K:ByteArray->Bool->Prop}(hn:InI v.2)(h:K ((hkV v).getD noT) (hkV v).isSome):q4w v K:=by
 unfold q4w q8j
 refine Jn1.mk (fun b=>b=true↔v.1=3∨v.1=4) (Cnd.mk (fun e=>by simp[e]) fun e=>by simp[e]) ?_
 intro b hb
 unfold hkV at h
 refine Cnd.mk (fun ht=> ?_) fun ht=> ?_
 ·rw[if_pos (hb.1 ht)] at h;exact h
 rw[if_neg (fun e=>ht (hb.2 e))] at h
 refine Cnd.mk (fun e=> ?_) fun e=> ?_
 ·rw[if_pos e] at h;exact z8e hn h
 rw[if_neg e] at h
 refine Cnd.mk (fun e1=> ?_) fun e1=> ?_
 ·rw[if_pos e1] at h
  refine Cnd.mk (fun e2=> ?_) fun e2=> ?_
  ·rw[if_pos e2] at h;exact h
  ·rw[if_neg e2] at h;exact h
 ·rw[if_neg e1] at h;exact h
theorem v0y{s:Subj}{kind name:ByteArray}{v:Val}(hN:NumB s)(h:lkp s kind name=some v):InI v.2:=by
 unfold lkp at h
 cases hf:fnd s kind with
 |none=>rw[hf] at h;cases h
 |some c=>
  rw[hf] at h
  simp only[Option.bind_some] at h
  by_cases hk:name=keyB
  ·rw[if_pos hk] at h;cases h
   show InI 0
   unfold InI;omega
  ·rw[if_neg hk] at h
   obtain⟨a,ha,rfl⟩:=Option.map_eq_some_iff.1 h
   exact hN c (z67 hf) a (List.mem_of_find?_eq_some ha)
theorem v0z{v:Val}{t:ByteArray}(hn:InI v.2)(hv:v.3.size<=2000000)(h:hkV v=some t):t.size<=10000000:=by
 unfold hkV at h
 split at h
 ·cases h;omega
 ·split at h
  ·cases h;have:=w4g hn;omega
  ·split at h
   ·cases h
    split<;>decide
   ·cases h
theorem z3h{s:Subj}{k b salt:ByteArray}{K:Int->Bool->Prop}(hs:SubB s)(hN:NumB s)(hz:salt.size<=10000000)(h:K ((bksV s k b salt).getD 0) (bksV s k b salt).isSome):Rc s k b salt K:=by
 unfold Rc q17
 refine q57 hs ?_
 unfold bksV at h
 cases hl:lkp s k b with
 |none=>rw[hl] at h;exact Cnd.no (by simp) h
 |some v=>
  rw[hl] at h
  simp only[Option.bind_some] at h
  refine Cnd.yes rfl (j03 (v0y hN hl) ?_)
  simp only[Option.getD_some]
  cases hk:hkV v with
  |none=>rw[hk] at h;exact Cnd.no (by simp) h
  |some t=>
   rw[hk] at h
   exact Cnd.yes rfl (V0 hz (v0z (v0y hN hl) (v0h hs hl).2 hk) h)
theorem z3i{s:Subj}{v:Srv}{K:Int->Int->Bool->Prop}(hs:SubB s)(hN:NumB s)(hz:v.4.size<=10000000)(hl:v.5.length<=1000000)(h:K (srvV s v).1 (srvV s v).2.1 (srvV s v).2.2):Rd s v K:=by
 unfold Rd q18
 unfold srvV at h
 refine Cnd.mk (fun e=> ?_) fun e=>by rw[if_pos e] at h;exact h
 rw[if_neg (by omega)] at h
 refine z3h hs hN hz ?_
 cases hb:bksV s v.2 v.3 v.4 with
 |none=>rw[hb] at h;exact Cnd.no (by simp) h
 |some b=>rw[hb] at h;exact Cnd.yes rfl (q5v hl h)
def tgtV(s:Subj)(f:Flg):Int:=match ixF (tgP s) f.7 0 with
 |some q=>(q.1:Int)+1
 |none=>0
theorem z17{f:Flg}{s:Subj}{K:Int->Prop}(hs:SubB s)(ht:f.7.length<=1000000)(hk: ∀t∈f.7,t.3.length<=1048576)(h:K (tgtV s f)):Wp f s K:=by
 unfold Wp q0w
 unfold tgtV at h
 refine fun _=>v2o (tgP s) (by omega) (fun hn=>by rw[hn] at h;exact h) fun i y Y hy hi hp hq=>G5 hs ?_
 have miss:tgP s y=false->InI ((i:Int)+1)/\Y ((i:Int)+1):=hq
 cases hf:fnd s y.1 with
 |none=>exact Cnd.no (by simp) (miss (by unfold tgP;rw[hf]))
 |some c=>
  refine Cnd.yes rfl fun _=>srch (fun k=>decide (k=c.2)) (by have:=hk y (getm hy);omega) (fun hn=>Cnd.no (by omega) (miss ?_)) fun j k Z hkk hj hp2 hq2=>Cnd.mk (fun e=>Cnd.yes (by omega) ⟨by unfold InI;omega,?_⟩) fun e=>hq2 (df fun e2=>e e2.symm)
  ·unfold tgP;rw[hf]
   refine z69 fun hm=> ?_
   rw[List.find?_eq_none] at hn
   exact hn _ hm (dt rfl)
  ·have hc:c.2=k:=e
   have ht:tgP s y=true:=by unfold tgP;rw[hf];exact j0r (hc▸getm hkk)
   rw[hp ht] at h;exact h
end Go.En
end
noncomputable section
set_option maxRecDepth 100000
namespace Go.En
open Go Go.Fl Go.Fl.Lk Go.Fx
def SrvB(v:Srv):Prop:=v.4.size<=10000000/\v.5.length<=1000000
structure FlX(v:Envt):Prop where
 b:FlB v.4
 n:v.4.length<=1000
 vs: ∀f∈v.4,f.3.length<=1000000/\ ∀x∈f.3,x.4.length<=2000000
 p: ∀f∈v.4,f.6.length<=1000000
 t: ∀f∈v.4,f.7.length<=1000000/\ ∀t∈f.7,t.3.length<=1048576
 r: ∀f∈v.4,f.8.length<=1000000/\ ∀r∈f.8,wt r.2<=2000000/\EvB r.2/\SrvB r.3
 d: ∀f∈v.4,SrvB f.9
 x: ∀x∈v.6,x.1≠noT
abbrev noF:Flg:=Flg.mk noT 0 [] false 0 [] [] [] (Srv.mk 0 noT noT noT [])
abbrev noD:Dcs:=Dcs.mk noT 0 noV (Rsn.mk 0 0 noT 0) 0
theorem z3j{v:Envt}{s:Subj}{fs:List Frc}{K:ByteArray->ByteArray->Int->List Decl->List Seg->List Flg->List Lay_->List Exper->List Ctxt->List Frc->List ByteArray->(ByteArray->Option Dcs)->(ByteArray->Option Bool)->Prop}(hv:AsB v)(hs:SubB s)
  (h:K v.1.1 v.1.2 v.1.3 v.2 v.3 v.4 v.5 v.6 s.1 fs (mem v.3 s) (fun _=>none) (fun _=>none)):Rb v s fs K:=by
 unfold Rb q16
 have one: ∀{K':List ByteArray->Prop},K' (mem v.3 s)->Wo v.3 (Subj.mk s.1) K':=fun h=>q40 hv.sg hs fun m hm=>by rw[w5q hm];exact h
 exact⟨one ⟨h,h⟩,⟨one h,one h⟩,one h,one h⟩
section
variable {v:Envt}{s:Subj}{fs:List Frc}{inn:List ByteArray}{done:ByteArray->Option Dcs}{opn:ByteArray->Option Bool}
theorem z7m{key:ByteArray}{K:Flg->Bool->(ByteArray->Option Dcs)->(ByteArray->Option Bool)->Prop}(hn:v.4.length<=1000)(h:K ((fof v key).getD noF) (fof v key).isSome done opn):
  Je v.1.1 v.1.2 v.1.3 v.2 v.3 v.4 v.5 v.6 s.1 fs inn done opn key K:=by
 unfold Je
 unfold fof at h
 refine fun _=>srch (fun f=>decide (f.1=key)) (by omega) (fun hf=> ?_) fun i y Y hy hi hp hq=>Cnd.mk (fun e=>Cnd.no (by omega) ⟨by omega,fun z hz=> ?_⟩) fun e=>hq (df e)
 ·rw[hf] at h;exact Cnd.yes (by omega) h
 ·have hz:v.4[i]? =some z:=hz
  rw[hy] at hz;cases hz
  rw[hp (dt e)] at h;exact h
theorem j04{x:Exper}{K:Int->(ByteArray->Option Dcs)->(ByteArray->Option Bool)->Prop}(hv:AsB v)(hs:SubB s)(hx:x.4.size<=10000000)(h:K (abV v s x) done opn):
  Jk v.1.1 v.1.2 v.1.3 v.2 v.3 v.4 v.5 v.6 s.1 fs inn done opn x K:=by
 unfold Jk Hr
 unfold abV lof at h
 have hln:=hv.ln
 refine fun _=>srch (fun l=>decide (l.1=x.2)) (by omega) (fun hf=>by rw[hf] at h;exact h) fun i y Y hy hi hp hq=>Cnd.mk (fun e=>G5 (s:=s) hs ?_) fun e=>hq (df e)
 rw[hp (dt e)] at h
 simp only at h
 cases hf:fnd s y.2 with
 |none=>rw[hf] at h;exact Cnd.no (by simp) h
 |some c=>rw[hf] at h;exact Cnd.yes rfl (V0 hx (j0v hs hf) h)
theorem z3r{f:Flg}{sv:Srv}{r:Rsn}{K:Int->Rsn->(ByteArray->Option Dcs)->(ByteArray->Option Bool)->Prop}(hs:SubB s)(hN:NumB s)(hb:SrvB sv)(h:K (svd s f.5 sv r.1 r.2 r.3).1 (svd s f.5 sv r.1 r.2 r.3).2 done opn):
  Ju v.1.1 v.1.2 v.1.3 v.2 v.3 v.4 v.5 v.6 s.1 fs inn done opn f sv r K:=by
 unfold Ju Ru
 unfold svd at h
 refine z3i (s:=s) hs hN hb.1 hb.2 (Cnd.mk (fun e=> ?_) fun e=> ?_)
 ·rw[if_pos e] at h;exact h
 ·rw[if_neg e] at h;exact h
end
end Go.En
end
noncomputable section
set_option maxRecDepth 100000
namespace Go.En
open Go Go.Fl Go.Fl.Lk Go.Fx
theorem q44{l:List Val}{n:Int}{Z:Int->Int->ByteArray->List ByteArray->Prop}(hl:l.length<=1000000)(h:Z (valV l n).1 (valV l n).2 (valV l n).3 (valV l n).4):
  Jn4 Z fun Y=>Cnd (1<=n) (Fits l->Cnd (n<=(l.length:Int)) (InI (n - 1)/\At l (n - 1) fun y=>Y y.1 y.2 y.3 y.4) (Y 0 0 noT [])) (Y 0 0 noT []):=by
 refine Jn4.mk (fun a b c d=>a=(valV l n).1/\b=(valV l n).2/\c=(valV l n).3/\d=(valV l n).4) (Cnd.mk (fun h1 _=>Cnd.mk (fun h2=>⟨by unfold InI;omega,by omega,fun y hy=> ?_⟩) fun h2=> ?_) fun h1=> ?_) fun a b c d ⟨e1,e2,e3,e4⟩=>by rw[e1,e2,e3,e4];exact h
 ·unfold valV;rw[if_pos ⟨h1,h2⟩,hy];exact⟨rfl,rfl,rfl,rfl⟩
 ·unfold valV;rw[if_neg (fun k=>h2 k.2)];exact⟨rfl,rfl,rfl,rfl⟩
 ·unfold valV;rw[if_neg (fun k=>h1 k.1)];exact⟨rfl,rfl,rfl,rfl⟩
theorem w4h{l:List Val}{n:Int}(h: ∀x∈l,x.4.length<=2000000):(valV l n).4.length<=2000000:=by
 unfold valV
 split
 ·cases hq:l[(n - 1).toNat]? with
  |none=>simp
  |some x=>exact h x (getm hq)
 ·simp
def DnI(v:Envt)(s:Subj)(fs:List Frc)(done:ByteArray->Option Dcs):Prop:= ∀k d,done k=some d-> ∃f∈v.4,k=f.1/\d=dcsV v s fs f
theorem DnI.nil{v:Envt}{s:Subj}{fs:List Frc}:DnI v s fs fun _=>none:=fun _ _ h=>by cases h
theorem DnI.put{v:Envt}{s:Subj}{fs:List Frc}{done:ByteArray->Option Dcs}(h:DnI v s fs done){f:Flg}(hf:f∈v.4):DnI v s fs (put done f.1 (dcsV v s fs f)):=fun k d hk=>by
 unfold Fl.put at hk
 split at hk
 ·rename_i e;cases hk;exact⟨f,hf,e,rfl⟩
 ·exact h k d hk
theorem w8x{o:ByteArray->Option Bool}{k:ByteArray}{b:Bool}(h:o k=none):dlt (put o k b) k=o:=by
 funext q
 unfold dlt Fl.put
 by_cases e:q=k
 ·rw[if_pos e,e,h]
 ·rw[if_neg e,if_neg e]
theorem w8y{v:Envt}{s:Subj}{fs:List Frc}{key:ByteArray}(h:(asgV v s fs key).2≠0):(asgV v s fs key).1.2=noT:=by
 unfold asgV at h⊢
 split
 ·rename_i l hl;rw[hl] at h;exact absurd rfl h
 ·rfl
theorem nodup_at{v:Envt}(hB:FlB v.4){i j:Nat}{f g:Flg}(hf:v.4[i]? =some f)(hg:v.4[j]? =some g)(h:i≠j):f.1≠g.1:=fun e=>by
 have h1:=j3h hB hf
 have h2:=j3h hB hg
 rw[e,h2] at h1
 have e2:g=f:=Option.some.inj h1
 subst e2
 have hnd:=hB.nd
 have a:=Qd hf
 have b:=Qd hg
 refine h ((List.getElem_inj (h₀:=by rw[List.length_map];exact a) (h₁:=by rw[List.length_map];exact b) hnd).1 ?_)
 rw[List.getElem_map,List.getElem_map]
 rw[List.getElem?_eq_getElem a] at hf
 rw[List.getElem?_eq_getElem b] at hg
 rw[Option.some.inj hf,Option.some.inj hg]
theorem w06{v:Envt}{s:Subj}{fs:List Frc}(hv:AsB v)(hF:FlX v)(hs:SubB s)(hN:NumB s)(hfs:fs.length<=1000000000){i:Nat}{f:Flg}(hf:v.4[i]? =some f){done:ByteArray->Option Dcs}{opn:ByteArray->Option Bool}
  {K:Dcs->(ByteArray->Option Dcs)->(ByteArray->Option Bool)->Prop}(hd:DnI v s fs done)(ho: ∀(j:Nat) g,j<=i->v.4[j]? =some g->opn g.1=none)(hK: ∀done',DnI v s fs done'->K (dcsV v s fs f) done' opn):
  Vp v.1.1 v.1.2 v.1.3 v.2 v.3 v.4 v.5 v.6 s.1 fs (mem v.3 s) done opn f K:=by
 intro X hX
 induction i using Nat.strongRecOn generalizing f done opn K with
 |ind i ih=>
  refine hX _ _ _ _ _ _ _ _ _ _ _ _ _ _ _ ?_
  clear hX
  have hm:=getm hf
  have hvs:=hF.vs f hm
  unfold Hs
  refine Jn1.mk (fun t=> ∃done',DnI v s fs done'/\t=(f.1,(dcsV v s fs f).2,(dcsV v s fs f).3.1,(dcsV v s fs f).3.2,(dcsV v s fs f).3.3,(dcsV v s fs f).3.4,(dcsV v s fs f).4.1,(dcsV v s fs f).4.2,(dcsV v s fs f).4.3,(dcsV v s fs f).4.4,(dcsV v s fs f).5,done',opn,())) ?_ ?_
  case refine_2=>
   rintro _ ⟨done',hd',rfl⟩
   exact q1d (w4h hvs.2) (hK done' hd')
  have fin: ∀{n:Int} {r:Rsn} {done1:ByteArray->Option Dcs} {opn1:ByteArray->Option Bool},DnI v s fs done1->opn1=put opn f.1 true->dcV v s fs f=(n,r)-> ∃done',DnI v s fs done'/\(f.1,n,(valV f.3 n).1,(valV f.3 n).2,(valV f.3 n).3,(valV f.3 n).4,r.1,r.2,r.3,r.4,(0:Int),put done1 f.1 (Dcs.mk f.1 n (valV f.3 n) r 0),dlt opn1 f.1,())=(f.1,(dcsV v s fs f).2,(dcsV v s fs f).3.1,(dcsV v s fs f).3.2,(dcsV v s fs f).3.3,(dcsV v s fs f).3.4,(dcsV v s fs f).4.1,(dcsV v s fs f).4.2,(dcsV v s fs f).4.3,(dcsV v s fs f).4.4,(dcsV v s fs f).5,done',opn,()):=by
   intro n r done1 opn1 h1 h2 h3
   have e:dcsV v s fs f=Dcs.mk f.1 n (valV f.3 n) r 0:=by unfold dcsV;rw[h3]
   refine⟨_,h1.put hm,?_⟩
   rw[e,h2,w8x (ho i f (Nat.le_refl _) hf)]
  refine Cnd.mk (fun hm1=> ?_) fun hm1=> ?_
  ·obtain⟨d,hdd⟩:=Option.isSome_iff_exists.1 hm1
   rw[hdd]
   obtain⟨g,hg,hk,rfl⟩:=hd _ _ hdd
   obtain⟨j,hj⟩:=List.getElem?_of_mem hg
   have e:g=f:=by
    have a1:=j3h hF.b hj
    rw[←hk,j3h hF.b hf] at a1
    exact (Option.some.inj a1).symm
   subst e
   exact⟨done,hd,rfl⟩
  have hdc:=v0x (s:=s) (fs:=fs) hF.b hf
  unfold chsV at hdc
  refine Cnd.mk (fun hon=>fun _=> ?_) fun hon=> ?_
  case refine_2=>
   rw[if_pos (by simpa using hon)] at hdc
   exact q44 hvs.1 (fin hd rfl hdc)
  rw[if_neg (by rw[hon];simp)] at hdc
  have hol: ∀(j:Nat) g,j<i->v.4[j]? =some g->put opn f.1 true g.1=none:=fun j g hj hg=>by
   unfold Fl.put
   rw[if_neg (nodup_at hF.b hg hf (by omega))]
   exact ho j g (by omega) hg
  have hpl:=hF.p f hm
  refine LpH.ind (fun t=> ∃(j:Nat) (a b:Int) (c:ByteArray) (e:Int) (done1:ByteArray->Option Dcs),t=((j:Int),a,b,c,e,put opn f.1 true,done1,())/\j<=f.6.length/\DnI v s fs done1/\(f.6.find? fun p=> !metV v (fun g=>(dcV v s fs g).1) p)=(f.6.drop j).find? fun p=> !metV v (fun g=>(dcV v s fs g).1) p) (fun t=>(f.6.length - t.1).toNat) ?_ ⟨0,_,_,_,_,done,rfl,by omega,hd,rfl⟩
  rintro _ ⟨j,a,b,c,e,done1,rfl,hj,hd1,hfd⟩
  dsimp only
  refine Cnd.mk (fun hlt=>⟨by omega,fun p hp=> ?_⟩) fun hlt=> ?_
  ·have hp:f.6[j]? =some p:=hp
   have miss:metV v (fun g=>(dcV v s fs g).1) p=false->dcV v s fs f=(f.5,Rsn.mk 2 0 p.1 (-1)):=fun hmf=>by
    rw[hfd,q41 hp (by rw[hmf];rfl)] at hdc;exact hdc
   refine z7m (v:=v) (s:=s) hF.n ?_
   cases hfo:fof v p.1 with
   |none=>exact Cnd.no (by simp) (q44 hvs.1 (fin hd1 rfl (miss (by unfold metV;rw[hfo]))))
   |some g=>
    obtain⟨q,hq,hpk⟩:=j6i hfo
    have hqi:=hF.b.ord i f hf p (getm hp) q g hq hpk
    refine Cnd.yes rfl (Cnd.mk (fun hgo=>Cnd.no ?_ ?_) fun hgo=> ?_)
    ·show ¬(put opn f.1 true g.1).getD false=true
     rw[hol q g hqi hq];simp
    ·refine ih q hqi hq hd1 (fun j' g' hj' hg'=>hol j' g' (by omega) hg') fun done2 hd2=> ?_
     refine Cnd.mk (fun he=>⟨by unfold InI;omega,⟨j+1,a,b,c,e,done2,rfl,by omega,hd2,?_⟩,by show ((f.6.length:Int) - ((j:Int)+1)).toNat<((f.6.length:Int) - (j:Int)).toNat;omega⟩) fun he=>q44 hvs.1 (fin hd2 rfl (miss ?_))
     ·have he:(dcV v s fs g).1=p.2:=he
      rw[hfd,q0f hp]
      unfold metV;rw[hfo];simp only
      have hgo:g.4=true:=hgo
      rw[hgo,dt he];rfl
     ·have he: ¬(dcV v s fs g).1=p.2:=he
      unfold metV;rw[hfo];simp only
      rw[df he];simp
    ·have hgo: ¬g.4=true:=hgo
     refine q44 hvs.1 (fin hd1 rfl (miss ?_))
     unfold metV;rw[hfo];simp only
     rw[Bool.eq_false_iff.2 hgo];rfl
  ·rw[hfd,List.drop_eq_nil_of_le (by omega),List.find?_nil] at hdc
   clear hfd hlt
   refine z17 (f:=f) (s:=s) hs (hF.t f hm).1 (hF.t f hm).2 ?_
   unfold tgtV
   cases hix:ixF (tgP s) f.7 0 with
   |some q=>
    rw[hix] at hdc
    have hsp:=w03 hix
    refine Cnd.yes (by simp only;omega) ⟨by have:=Qd hsp.2.1;have:=(hF.t f hm).1;unfold InI;simp only;omega,by have:=Qd hsp.2.1;simp only;omega,fun y hy=> ?_⟩
    simp only at hy
    have hq2:=hsp.2.1
    rw[show ((q.1:Int)+1 - 1).toNat=q.1 - 0 by omega,hq2] at hy
    cases hy
    exact q44 hvs.1 (fin (r:=Rsn.mk 3 ((q.1:Int)+1) noT (-1)) hd1 rfl hdc)
   |none=>
    rw[hix] at hdc
    simp only at hdc
    refine Cnd.no (by simp) fun _=> ?_
    have hxl:=hv.xn
    refine LpH.ind (fun t=> ∃(j:Nat) (a b:Int) (c:ByteArray) (e:Int) (done1:ByteArray->Option Dcs),t=((j:Int),a,b,c,e,done1,put opn f.1 true,())/\j<=v.6.length/\DnI v s fs done1/\v.6.find? (inXV v s fs f.1)=(v.6.drop j).find? (inXV v s fs f.1)) (fun t=>(v.6.length - t.1).toNat) ?_ ⟨0,_,_,_,_,done1,rfl,by omega,hd1,rfl⟩
    clear hd1
    rintro _ ⟨j,a,b,c,e,done1,rfl,hj,hd1,hfd⟩
    dsimp only
    refine Cnd.mk (fun hlt=>⟨by omega,fun x hx=> ?_⟩) fun hlt=> ?_
    ·have hx:v.6[j]? =some x:=hx
     have next:inXV v s fs f.1 x=false->InI ((j:Int)+1)/\(∃(j':Nat) (a' b':Int) (c':ByteArray) (e':Int) (done2:ByteArray->Option Dcs),((j:Int)+1,a,b,c,e,done1,put opn f.1 true,())=((j':Int),a',b',c',e',done2,put opn f.1 true,())/\j'<=v.6.length/\DnI v s fs done2/\v.6.find? (inXV v s fs f.1)=(v.6.drop j').find? (inXV v s fs f.1))/\((v.6.length:Int) - ((j:Int)+1)).toNat<((v.6.length:Int) - (j:Int)).toNat:=fun hn=>
      ⟨by unfold InI;omega,⟨j+1,a,b,c,e,done1,rfl,by omega,hd1,by rw[hfd,q0f hx hn]⟩,by omega⟩
     refine Cnd.mk (fun h3=>Cnd.mk (fun h5=> ?_) fun h5=>next ?_) fun h3=>next ?_
     ·refine q4k (v:=v) (s:=s) hv hs hfs (Cnd.mk (fun he=>Cnd.mk (fun hxk=> ?_) fun hxk=>next ?_) fun he=>next ?_)
      ·have hin:inXV v s fs f.1 x=true:=q9o (dt h3) (q9o (dt h5) (dt hxk))
       rw[hfd,q41 hx hin] at hdc
       exact j04 (v:=v) (s:=s) hv hs (hv.xs x (getm hx)) (q44 hvs.1 (fin (r:=Rsn.mk 4 0 x.1 (abV v s x)) hd1 rfl hdc))
      ·exact q05 (.inr (q05 (.inr (df hxk))))
      ·refine q05 (.inr (q05 (.inr (df ?_))))
       rw[w8y he]
       exact fun e=>hF.x x (getm hx) e.symm
     ·exact q05 (.inr (q05 (.inl (df h5))))
     ·exact q05 (.inl (df h3))
    ·rw[hfd,List.drop_eq_nil_of_le (by omega),List.find?_nil] at hdc
     simp only at hdc
     clear hfd hlt
     unfold rlsV at hdc
     have hr:=hF.r f hm
     refine fun _=>LpH.ind (fun t=> ∃(j:Nat) (a b:Int) (c:ByteArray) (e:Int) (done1:ByteArray->Option Dcs),t=((j:Int),a,b,c,e,put opn f.1 true,done1,())/\j<=f.8.length/\DnI v s fs done1/\ixF (fun r=>cndV v s r.2) f.8 0=ixF (fun r=>cndV v s r.2) (f.8.drop j) j) (fun t=>(f.8.length - t.1).toNat) ?_ ⟨0,_,_,_,_,done1,rfl,by omega,hd1,rfl⟩
     clear hd1
     rintro _ ⟨j,a,b,c,e,done1,rfl,hj,hd1,hfd⟩
     dsimp only
     refine Cnd.mk (fun hlt=>⟨by omega,fun r hr0=> ?_⟩) fun hlt=> ?_
     ·have hr0:f.8[j]? =some r:=hr0
      have hrm:=hr.2 r (getm hr0)
      refine q5u (s:=s) hs _ (Nat.le_refl _) (by rw[q2h];exact hrm.1) (by rw[q2h];exact hrm.2.1) ?_
      rw[q2h]
      refine Cnd.mk (fun hc=>⟨by unfold InI;omega,?_⟩) fun hc=> ?_
      ·rw[hfd,w5y hr0 hc] at hdc
       exact z3r (v:=v) (s:=s) (r:=Rsn.mk 5 ((j:Int)+1) r.1 0) hs hN hrm.2.2 (q44 hvs.1 (fin hd1 rfl hdc))
      ·refine⟨by unfold InI;omega,⟨j+1,a,b,c,e,done1,rfl,by omega,hd1,?_⟩,by show ((f.8.length:Int) - ((j:Int)+1)).toNat<((f.8.length:Int) - (j:Int)).toNat;omega⟩
       rw[hfd,w02 hr0 (Bool.eq_false_iff.2 hc)]
     ·rw[hfd,List.drop_eq_nil_of_le (by omega)] at hdc
      exact z3r (v:=v) (s:=s) (r:=Rsn.mk 6 0 noT 0) hs hN (hF.d f hm) (q44 hvs.1 (fin hd1 rfl hdc))
end Go.En
end
noncomputable section
set_option maxRecDepth 100000
namespace Go.En
open Go Go.Fl Go.Fl.Lk Go.Fx
def flgV(v:Envt)(s:Subj)(fs:List Frc)(key:ByteArray):Dcs×Int:=match fof v key with
 |some f=>(dcsV v s fs f,0)
 |none=>(noD,11)
theorem z4k{v:Envt}{s:Subj}{fs:List Frc}{key:ByteArray}{K:Dcs->Int->Prop}(hv:AsB v)(hF:FlX v)(hs:SubB s)(hN:NumB s)(hfs:fs.length<=1000000000)(h:K (flgV v s fs key).1 (flgV v s fs key).2):B3 v s fs key K:=by
 unfold B3 q39
 unfold flgV at h
 refine z3j (v:=v) (s:=s) hv hs (z7m (v:=v) (s:=s) hF.n ?_)
 cases hf:fof v key with
 |none=>rw[hf] at h;exact Cnd.no (by simp) h
 |some f=>
  rw[hf] at h
  obtain⟨i,hi,_⟩:=j6i hf
  exact Cnd.yes rfl (w06 hv hF hs hN hfs hi DnI.nil (fun _ _ _ _=>rfl) fun _ _=>h)
end Go.En
end
noncomputable section
set_option maxRecDepth 100000
namespace Go.En
open Go Go.Fl Go.Fl.Lk Go.Fx
theorem z3k{sT:ByteArray}{ho c a b:Int}{f:Flg}(h:f∈(mkE sT ho c a b).4): ∃k,f=flM k:=by
 obtain⟨k,_,rfl⟩:=List.mem_map.1 h
 exact⟨k,rfl⟩
theorem v00{sT:ByteArray}{ho c a b:Int}:FlX (mkE sT ho c a b) where
 b:=⟨by
  show ((fN.map flM).map Flg.key).Nodup
  rw[List.map_map]
  show (fN.map fun k=>k).Nodup
  decide,fun i f hf p hp=>by
   obtain⟨k,rfl⟩:=z3k (List.mem_of_getElem? hf)
   cases hp⟩
 n:=by show (fN.map flM).length<=1000;rw[List.length_map];decide
 vs f hf:=by
  obtain⟨k,rfl⟩:=z3k hf
  refine⟨by show (3:Nat)<=1000000;decide,fun x hx=> ?_⟩
  have hx:x∈[vlM 0,vlM 1,vlM 2]:=hx
  rcases List.mem_cons.1 hx with rfl|hx
  ·exact Nat.zero_le _
  rcases List.mem_cons.1 hx with rfl|hx
  ·exact Nat.zero_le _
  rw[List.mem_singleton.1 hx];exact Nat.zero_le _
 p f hf:=by obtain⟨k,rfl⟩:=z3k hf;exact Nat.zero_le _
 t f hf:=by obtain⟨k,rfl⟩:=z3k hf;exact⟨Nat.zero_le _,fun t ht=>by cases ht⟩
 r f hf:=by obtain⟨k,rfl⟩:=z3k hf;exact⟨Nat.zero_le _,fun t ht=>by cases ht⟩
 d f hf:=by obtain⟨k,rfl⟩:=z3k hf;exact⟨Nat.zero_le _,Nat.zero_le _⟩
 x x hx:=by
  obtain⟨i,hi,rfl⟩:=j00 hx
  have: ∀i,i<4->xN.getD i noT≠noT:=by decide
  exact this i hi
theorem w4i(id:ByteArray):NumB (usr id):=fun c hc a ha=>by rw[List.mem_singleton.1 hc] at ha;cases ha
theorem w8z{id:ByteArray}{K:Subj->Prop}(h:K (usr id)):R9 id K:=h
theorem w07{r:Reg}{v:Envt}{s:Subj}{id key:ByteArray}{t:Int}{K:Dcs->Int->Prop}(hv:AsB v)(hF:FlX v)(hs:SubB s)(hN:NumB s)(hsn:r.3.length<=100000)(h:K (flgV v s (forV r id t) key).1 (flgV v s (forV r id t) key).2):U4 r v s id key t K:=by
 unfold U4 q5n
 have hl:=w4e r id t
 exact w01 (z4k (v:=v) (s:=s) (fs:=forV r id t) hv hF hs hN (by omega) h)
end Go.En
end
noncomputable section
set_option maxRecDepth 100000
namespace Go.En
open Go Go.Fl Go.Fl.Lk Go.Fx
theorem v01{r:Reg}{id layer:ByteArray}(ok:RegOk r):atV r id layer r.1=curV r id layer:=by
 have hu:q5x r.2 r.1=r.2:=by
  unfold q5x
  refine List.filter_eq_self.2 fun e he=> ?_
  obtain⟨k,hk⟩:=List.mem_iff_getElem?.1 he
  exact dt (ok.lk k e hk).hi
 unfold atV curV
 refine z3g fun s hs=> ?_
 obtain⟨k,hk⟩:=List.mem_iff_getElem?.1 hs
 have p:=(ok.sl k s hk).p
 unfold atP curP
 rw[hu,dt p.f1,Bool.true_and]
 have e:(decide (s.7=0)||decide (r.1<s.6))=decide (s.7=0):=by
  rcases p.e with h|h
  ·rw[dt h.1];rfl
  ·rw[df (show ¬r.1<s.6 by omega),Bool.or_false]
 rw[e,Bool.and_left_comm]
theorem w80{L:List ByteArray}{f:ByteArray->Option Frc}(hf: ∀y z,f y=some z->z.1=y){key:ByteArray}{z:Frc}(hk:key∈L)(hz:f key=some z):(L.filterMap f).find? (fun q=>decide (q.1=key))=some z:=by
 induction L with
 |nil=>cases hk
 |cons a L ih=>
  cases ha:f a with
  |none=>
   rw[List.filterMap_cons_none ha]
   rcases List.mem_cons.1 hk with rfl|hk
   ·rw[hz] at ha;cases ha
   ·exact ih hk
  |some w=>
   rw[List.filterMap_cons_some ha,List.find?_cons]
   by_cases e:w.1=key
   ·rw[dt e]
    have e2:a=key:=(hf a w ha).symm.trans e
    subst e2;rw[hz] at ha;cases ha;rfl
   ·rw[df e]
    rcases List.mem_cons.1 hk with rfl|hk
    ·exact absurd (hf _ _ ha) e
    ·exact ih hk
theorem w81{r:Reg}{id layer:ByteArray}{s:Slt}(ok:RegOk r)(h:curV r id layer=some s):frcV (forV r id r.1) layer=some (Frc.mk layer s.3 s.4):=by
 unfold frcV forV
 rw[if_pos (q42.2 ok)]
 have hm:s∈r.3:=List.mem_of_find?_eq_some h
 have hp:=List.find?_some h
 unfold curP at hp
 simp only[Bool.and_eq_true,decide_eq_true_eq] at hp
 refine w80 (fun y z hz=> ?_) (w4d.2 (List.mem_map.2 ⟨s,hm,hp.2.1⟩)) ?_
 ·unfold j4v at hz
  cases ha:atV r id y r.1 with
  |none=>rw[ha] at hz;cases hz
  |some t=>rw[ha] at hz;cases hz;rfl
 ·unfold j4v;rw[v01 ok,h];rfl
theorem j7f{r:Reg}{id layer:ByteArray}{K:Slt->Bool->Prop}(h1: ∀s,RegOk r->curV r id layer=some s->K s true)(h0:K noSl false):Uy r id layer K:=by
 unfold Uy q19
 refine z16 (Cnd.mk (fun hc=> ?_) fun _=>h0)
 have ok:=q42.1 hc
 refine w5t ok.ln ok.sn (fun _=>Cnd.mk (fun c=>absurd c (by decide)) fun _=>h0) fun i s hs hcu=>Cnd.mk (fun _=>⟨?_,fun y hy=> ?_⟩) fun c=>absurd (Int.natCast_nonneg i) c
 ·have:=Qd hs;omega
 ·have hy:r.3[i]? =some y:=hy
  rw[hs] at hy;cases hy
  exact h1 _ ok hcu
abbrev othN:ByteArray:=ByteArray.mk (Array.mk [111,116,104,101,114])
def lyW(h:Int)(key:ByteArray):Lay_:=Lay_.mk key usrN othN h 0 []
def xpW(sT:ByteArray)(a b:Int)(cl:Nat->List Spn)(i:Nat):Exper:=Exper.mk (xN.getD i noT) (lN.getD (i % 2) noT) (fN.getD i noT) (sltX sT i) 2 (cl i) (rgM a b) (Ex.mk 1 noT noT [] [])
def mkW(sT:ByteArray)(h a b:Int)(cl:Nat->List Spn):Envt:=Envt.mk (Sett.mk noT noT 0) [] [] (fN.map flM) (lN.map (lyW h)) ((List.range 4).map (xpW sT a b cl))
theorem j05{sT:ByteArray}{h a b:Int}{cl:Nat->List Spn}{x:Exper}(hx:x∈(mkW sT h a b cl).6): ∃i,i<4/\x=xpW sT a b cl i:=by
 obtain⟨i,hi,rfl⟩:=List.mem_map.1 hx
 exact⟨i,List.mem_range.1 hi,rfl⟩
theorem v2p{sT:ByteArray}{h a b:Int}{cl:Nat->List Spn}(hs:sT.size<=1000)(hc: ∀i,(cl i).length<=1000000):AsB (mkW sT h a b cl) where
 ln:=by unfold mkW;simp
 xn:=by unfold mkW;simp
 sg:=⟨by unfold mkW;simp,fun g hg=>(by cases hg),fun g hg=>(by cases hg),by unfold mkW;simp[edg]⟩
 ex x hx:=by obtain⟨i,_,rfl⟩:=j05 hx;exact w0u
 sa:=by show noT.size<=10000000;decide
 ls l hl:=by
  obtain⟨k,hk,rfl⟩:=List.mem_map.1 hl
  show othN.size<=_
  decide
 xs x hx:=by
  obtain⟨i,_,rfl⟩:=j05 hx
  show (sltX sT i).size<=_
  rw[j3g];omega
 cl x hx:=by
  obtain⟨i,_,rfl⟩:=j05 hx
  exact⟨hc i,by show (rgM a b).length<=_;unfold rgM;simp⟩
 nd:=by
  show (((List.range 4).map (xpW sT a b cl)).map Exper.key).Nodup
  rw[List.map_map]
  show ((List.range 4).map fun i=>xN.getD i noT).Nodup
  decide
theorem v02{sT:ByteArray}{h a b:Int}{cl:Nat->List Spn}:FlX (mkW sT h a b cl):=by
 have q:=v00 (sT:=sT) (ho:=0) (c:=0) (a:=a) (b:=b)
 refine⟨q.b,q.n,q.vs,q.p,q.t,q.r,q.d,fun x hx=> ?_⟩
 obtain⟨i,hi,rfl⟩:=j05 hx
 have: ∀i,i<4->xN.getD i noT≠noT:=by decide
 exact this i hi
theorem v2q{sT:ByteArray}{h a b:Int}{cl:Nat->List Spn}{k:Nat}(hk:k<2):lof (mkW sT h a b cl) (lN.getD k noT)=some (lyW h (lN.getD k noT)):=by
 show [lyW h (ByteArray.mk (Array.mk [104,111,109,101])),lyW h (ByteArray.mk (Array.mk [115,104,111,112]))].find? _=_
 have:k=0∨k=1:=by omega
 rcases this with rfl|rfl
 ·rw[List.find?_cons,dt (by rfl)];rfl
 ·rw[List.find?_cons,df (by show ¬((ByteArray.mk (Array.mk [104,111,109,101])):ByteArray)=(ByteArray.mk (Array.mk [115,104,111,112]));decide),List.find?_cons,dt (by rfl)];rfl
theorem v2r: ∀i,i<4-> ∀j,j<i->fN.getD j noT≠fN.getD i noT:=by decide
theorem v2s{sT:ByteArray}{h a b:Int}{cl:Nat->List Spn}{i:Nat}(hi:i<4):xof (mkW sT h a b cl) (xN.getD i noT)=some (xpW sT a b cl i):=
 j7c hi (dt rfl) fun j hj=>df (w4a i hi j hj)
theorem w08{sT:ByteArray}{h a b:Int}{cl:Nat->List Spn}{i:Nat}(hi:i<4){K:ByteArray->Prop}(hK:K (fN.getD i noT)):q0x (mkW sT h a b cl) (xN.getD i noT) K:=by
 unfold q0x
 have hx:=v2s (sT:=sT) (h:=h) (a:=a) (b:=b) (cl:=cl) hi
 refine v2i (l:=(mkW sT h a b cl).6) (fun x=>decide (x.1=xN.getD i noT)) (by show (List.map _ _).length<=_;simp) (fun hn=> ?_) fun n y Y hy hn hp hq=>Cnd.mk (fun he=>⟨⟨by omega,by omega⟩,fun z hz=> ?_⟩) fun he=>hq (df he)
 ·have hn:xof (mkW sT h a b cl) (xN.getD i noT)=none:=hn
  rw[hx] at hn;cases hn
 ·have hz:(mkW sT h a b cl).6[n]? =some z:=hz
  rw[hy] at hz;cases hz
  have e:xof (mkW sT h a b cl) (xN.getD i noT)=some y:=hp (dt he)
  rw[hx] at e;cases e
  exact hK
theorem v2t{a b m:Int}(h0:1<=m)(h1:m<=3):armV (rgM a b) m=true:=by
 have:m=1∨m=2∨m=3:=by omega
 unfold armV rgM
 rcases this with rfl|rfl|rfl
 ·rw[List.find?_cons,dt (by rfl)];rfl
 ·rw[List.find?_cons,df (by show ¬(1:Int)=2;decide),List.find?_cons,dt (by rfl)];rfl
 ·rw[List.find?_cons,df (by show ¬(1:Int)=3;decide),List.find?_cons,df (by show ¬(2:Int)=3;decide),List.find?_cons,dt (by rfl)];rfl
theorem v2u{sT:ByteArray}{h a b m:Int}{cl:Nat->List Spn}{s:Subj}{fs:List Frc}{i:Nat}(hi:i<4)(h0:1<=m)(h1:m<=3)(hf:frcV fs (lN.getD (i % 2) noT)=some (Frc.mk (lN.getD (i % 2) noT) (xN.getD i noT) m)): ∃d,flgV (mkW sT h a b cl) s fs (fN.getD i noT)=(d,0)/\d.2=m/\d.4.1=4/\d.4.3=xN.getD i noT:=by
 have hrun:runV (mkW sT h a b cl) (Frc.mk (lN.getD (i % 2) noT) (xN.getD i noT) m)=true:=by
  unfold runV
  have e:((List.range 4).map (xpW sT a b cl)).find? (fun x=>decide (x.1=xN.getD i noT) && (decide (x.2=lN.getD (i % 2) noT) && (decide (x.5=2) && armV x.7 m)))=some (xpW sT a b cl i):=j7c hi (q9o (dt rfl) (q9o (dt rfl) (q9o (dt rfl) (v2t h0 h1)))) fun j hj=>q05 (.inl (df (w4a i hi j hj)))
  show (((List.range 4).map (xpW sT a b cl)).find? (fun x=>decide (x.1=xN.getD i noT) && (decide (x.2=lN.getD (i % 2) noT) && (decide (x.5=2) && armV x.7 m)))).isSome=true
  rw[e];rfl
 have hne:xN.getD i noT≠noT:=by
  have: ∀i,i<4->xN.getD i noT≠noT:=by decide
  exact this i hi
 have hasg: ∃q,asgV (mkW sT h a b cl) s fs (lN.getD (i % 2) noT)=(Asg.mk (lN.getD (i % 2) noT) (xN.getD i noT) q m false,0):=by
  refine⟨bktV (lyW h (lN.getD (i % 2) noT)) s,?_⟩
  unfold asgV
  rw[v2q (Nat.mod_lt _ (by decide))]
  show (layV _ s (lyW h _) fs _,_)=_
  have hfc:fcdV (mkW sT h a b cl) fs (lN.getD (i % 2) noT)=some (xN.getD i noT,m):=by
   unfold fcdV
   rw[hf]
   show (if xN.getD i noT=noT then _ else if runV _ _=true then _ else _)=_
   rw[if_neg hne,if_pos hrun]
  unfold layV
  rw[hfc]
 obtain⟨q,hq⟩:=hasg
 have hin:((mkW sT h a b cl).6).find? (inXV (mkW sT h a b cl) s fs (fN.getD i noT))=some (xpW sT a b cl i):=by
  refine j7c hi ?_ fun j hj=> ?_
  ·unfold inXV
   refine q9o (dt rfl) (q9o (dt rfl) (dt ?_))
   show (asgV (mkW sT h a b cl) s fs (lN.getD (i % 2) noT)).1.2=xN.getD i noT
   rw[hq]
  ·unfold inXV
   exact q05 (.inl (df (v2r i hi j hj)))
 have hfl:fof (mkW sT h a b cl) (fN.getD i noT)=some (flM (fN.getD i noT)):=by
  have:(fN.map flM)[i]? =some (flM (fN.getD i noT)):=by
   have h4:i=0∨i=1∨i=2∨i=3:=by omega
   rcases h4 with rfl|rfl|rfl|rfl<;>rfl
  exact j3h (v:=mkW sT h a b cl) (v02.b) this
 have hdc:dcV (mkW sT h a b cl) s fs (flM (fN.getD i noT))=(m,Rsn.mk 4 0 (xN.getD i noT) (abV (mkW sT h a b cl) s (xpW sT a b cl i))):=by
  unfold dcV chsV
  show (match ((mkW sT h a b cl).6).find? (inXV (mkW sT h a b cl) s fs (fN.getD i noT)) with|some x=>((asgV (mkW sT h a b cl) s fs x.2).1.4,Rsn.mk 4 0 x.1 (abV (mkW sT h a b cl) s x))|none=>rlsV (mkW sT h a b cl) s (flM (fN.getD i noT)))=_
  rw[hin]
  show ((asgV (mkW sT h a b cl) s fs (lN.getD (i % 2) noT)).1.4,Rsn.mk 4 0 (xN.getD i noT) _)=_
  rw[hq]
 refine⟨dcsV (mkW sT h a b cl) s fs (flM (fN.getD i noT)),?_,?_,?_,?_⟩
 ·unfold flgV;rw[hfl]
 ·unfold dcsV;rw[hdc]
 ·unfold dcsV;rw[hdc]
 ·unfold dcsV;rw[hdc]
theorem w09{sT:ByteArray}{ho c a b n h:Int}{cl:Nat->List Spn}{r:Reg}{id layer:ByteArray}{s:Slt}(hs:sT.size<=1000)(hc: ∀i,(cl i).length<=1000000)(hp:PlB sT ho c a b n r)(ok:RegOk r)(hid:id∈idN)(h1:curV r id layer=some s)
  {K:Bool->Prop}{X:Prop}(hX:X):R9 id fun u=>q0x (mkW sT h a b cl) s.3 fun f=>U4 r (mkW sT h a b cl) (Subj.mk u.1) id f r.1 fun d e=>Cnd (e=0) (Cnd (d.2=s.4) (Cnd (d.4.1=4) (Cnd (d.4.3=s.3) X (K false)) (K false)) (K false)) (K false):=by
 have hm:s∈r.3:=List.mem_of_find?_eq_some h1
 have hpp:=List.find?_some h1
 unfold curP at hpp
 simp only[Bool.and_eq_true,decide_eq_true_eq] at hpp
 obtain⟨⟨k,g⟩,_⟩:=hp.sl s hm
 obtain⟨r0,r1⟩:=z3b (sltX sT (ixM c (ofV (sT++s.2) s.1) k)) s.1
 obtain⟨i0,i1⟩:=j6f (c:=c) (q:=ofV (sT++s.2) s.1) g.kk
 have gx:=g.x
 obtain⟨a0,a1⟩:=w0w (a:=a) (b:=b) r0 r1
 rw[←g.m] at a0 a1
 generalize ixM c (ofV (sT++s.2) s.1) k=i at i0 i1 gx
 refine w8z ?_
 rw[gx]
 refine w08 i0 ?_
 have hfr:=w81 ok h1
 have el:layer=lN.getD (i % 2) noT:=by rw[i1,←g.l];exact hpp.2.1.symm
 rw[el,gx] at hfr
 obtain⟨d,e1,e2,e3,e4⟩:=v2u (sT:=sT) (h:=h) (a:=a) (b:=b) (cl:=cl) (s:=usr id) (fs:=forV r id r.1) i0 a0 a1 hfr
 refine w07 (r:=r) (v:=mkW sT h a b cl) (s:=usr id) (v2p hs hc) v02 (j01 (Nat.le_trans (j0w (w5w hid)) (by decide))) (w4i id) (by have:=ok.sn;omega) ?_
 rw[e1]
 exact Cnd.yes rfl (Cnd.yes e2 (Cnd.yes e3 (Cnd.yes e4 hX)))
end Go.En
end
noncomputable section
set_option maxRecDepth 100000
namespace Go.En
open Go Go.Fl Go.Fl.Lk Go.Fx
theorem w82{salt hold cut one two:Int}{R:List Flg->List Lay_->List Exper->Prop}(h1:0<=hold)(g1:hold<=1000000)(h2:0<=cut)(g2:cut<=1000000)(h3:0<=one)(g3:one<=1000000)(h4:0<=two)(g4:two<=1000000)(h:R (envV salt hold cut one two).4 (envV salt hold cut one two).5 (envV salt hold cut one two).6):
  (26:Int)≠(0:Int)/\(↑((ByteArray.mk (Array.mk [115])).size+(bsOf [Go.IntKind.u8.wrap ((97:Int)+salt.tmod (26:Int))]).size):Int)<=(9223372036854775807:Int)/\InI hold/\(50:Int)≠(0:Int)/\InI (hold.tmod (50:Int)*(20:Int))/\Lp2 (fun Zt Hn j7k=>[ByteArray.mk (Array.mk [102,97,115,116,45,102,108,97,103]),ByteArray.mk (Array.mk [115,104,111,112,45,102,108,97,103]),ByteArray.mk (Array.mk [115,108,111,119,45,102,108,97,103]),ByteArray.mk (Array.mk [116,111,112,45,102,108,97,103])].length<=(9223372036854775807:Nat)->Cnd (Zt<(↑[ByteArray.mk (Array.mk [102,97,115,116,45,102,108,97,103]),ByteArray.mk (Array.mk [115,104,111,112,45,102,108,97,103]),ByteArray.mk (Array.mk [115,108,111,119,45,102,108,97,103]),ByteArray.mk (Array.mk [116,111,112,45,102,108,97,103])].length:Int)) (((0:Int)<=Zt/\Zt<(↑[ByteArray.mk (Array.mk [102,97,115,116,45,102,108,97,103]),ByteArray.mk (Array.mk [115,104,111,112,45,102,108,97,103]),ByteArray.mk (Array.mk [115,108,111,119,45,102,108,97,103]),ByteArray.mk (Array.mk [116,111,112,45,102,108,97,103])].length:Int))/\ ∀y6,[ByteArray.mk (Array.mk [102,97,115,116,45,102,108,97,103]),ByteArray.mk (Array.mk [115,104,111,112,45,102,108,97,103]),ByteArray.mk (Array.mk [115,108,111,119,45,102,108,97,103]),ByteArray.mk (Array.mk [116,111,112,45,102,108,97,103])][Zt.toNat]? =some y6->Lp2 (fun Ui q73 w87=>Cnd (Ui<=3) (InI (Ui*10)/\Sml (q73++[Val.mk (2:Int) (Ui*10) (ByteArray.mk (Array.mk [])) []]).length/\InI (Ui+1)/\w87 (Ui+1) (q73++[Val.mk (2:Int) (Ui*10) (ByteArray.mk (Array.mk [])) []])) (Sml (Hn++[Flg.mk y6 (2:Int) q73 true (3:Int) [] [] [] (Srv.mk (3:Int) (ByteArray.mk (Array.mk [])) (ByteArray.mk (Array.mk [])) (ByteArray.mk (Array.mk [])) [])]).length/\InI (Zt+1)/\j7k (Zt+1) (Hn++[Flg.mk y6 (2:Int) q73 true (3:Int) [] [] [] (Srv.mk (3:Int) (ByteArray.mk (Array.mk [])) (ByteArray.mk (Array.mk [])) (ByteArray.mk (Array.mk [])) [])]))) (1:Int) []) (Lp2 (fun Jm q76 w1d=>Cnd (Jm<2) (Jr fun Q3=>At Q3 Jm fun y8=>Jr fun Vy=>At Vy Jm fun y11=>(↑((ByteArray.mk (Array.mk [115])++bsOf [Go.IntKind.u8.wrap ((97:Int)+salt.tmod (26:Int))]).size+y11.size):Int)<=(9223372036854775807:Int)/\Sml (q76++[Lay_.mk y8 (ByteArray.mk (Array.mk [117,115,101,114])) (ByteArray.mk (Array.mk [115])++bsOf [Go.IntKind.u8.wrap ((97:Int)+salt.tmod (26:Int))]++y11) (hold.tmod (50:Int)*(20:Int)) (0:Int) []]).length/\InI (Jm+1)/\w1d (Jm+1) (q76++[Lay_.mk y8 (ByteArray.mk (Array.mk [117,115,101,114])) (ByteArray.mk (Array.mk [115])++bsOf [Go.IntKind.u8.wrap ((97:Int)+salt.tmod (26:Int))]++y11) (hold.tmod (50:Int)*(20:Int)) (0:Int) []])) (InI one/\(9998:Int)≠(0:Int)/\InI ((1:Int)+one.tmod (9998:Int))/\InI ((1:Int)+one.tmod (9998:Int)+(1:Int))/\InI two/\InI ((9999:Int) - ((1:Int)+one.tmod (9998:Int)))/\(9999:Int) - ((1:Int)+one.tmod (9998:Int))≠(0:Int)/\InI ((1:Int)+one.tmod (9998:Int)+(1:Int)+two.tmod ((9999:Int) - ((1:Int)+one.tmod (9998:Int))))/\InI (hold.tmod (50:Int)*(20:Int)+(1:Int))/\InI cut/\InI ((10000:Int) - hold.tmod (50:Int)*(20:Int))/\InI ((10000:Int) - hold.tmod (50:Int)*(20:Int) - (1:Int))/\(10000:Int) - hold.tmod (50:Int)*(20:Int) - (1:Int)≠(0:Int)/\InI (hold.tmod (50:Int)*(20:Int)+(1:Int)+cut.tmod ((10000:Int) - hold.tmod (50:Int)*(20:Int) - (1:Int)))/\Lp2 (fun Q3 q72 z42=>Cnd (Q3<4) ((2:Int)≠(0:Int)/\((0:Int)<=Q3/\Q3<(↑[ByteArray.mk (Array.mk [102,97,115,116,45,102,108,97,103]),ByteArray.mk (Array.mk [115,104,111,112,45,102,108,97,103]),ByteArray.mk (Array.mk [115,108,111,119,45,102,108,97,103]),ByteArray.mk (Array.mk [116,111,112,45,102,108,97,103])].length:Int))/\ ∀y8,[ByteArray.mk (Array.mk [102,97,115,116,45,102,108,97,103]),ByteArray.mk (Array.mk [115,104,111,112,45,102,108,97,103]),ByteArray.mk (Array.mk [115,108,111,119,45,102,108,97,103]),ByteArray.mk (Array.mk [116,111,112,45,102,108,97,103])][Q3.toNat]? =some y8->(((0:Int)<=Q3/\Q3<(↑[ByteArray.mk (Array.mk [98,108,117,101]),ByteArray.mk (Array.mk [102,97,115,116]),ByteArray.mk (Array.mk [103,114,101,101,110]),ByteArray.mk (Array.mk [115,108,111,119])].length:Int))/\ ∀y10,[ByteArray.mk (Array.mk [98,108,117,101]),ByteArray.mk (Array.mk [102,97,115,116]),ByteArray.mk (Array.mk [103,114,101,101,110]),ByteArray.mk (Array.mk [115,108,111,119])][Q3.toNat]? =some y10->(Jr fun (Uj:List ByteArray)=>((0:Int)<=Q3.tmod (2:Int)/\Q3.tmod (2:Int)<(↑Uj.length:Int))/\ ∀y13,Uj[(Q3.tmod (2:Int)).toNat]? =some y13->(↑((ByteArray.mk (Array.mk [115])++bsOf [Go.IntKind.u8.wrap ((97:Int)+salt.tmod (26:Int))]).size+(bsOf [Go.IntKind.u8.wrap ((48:Int)+Go.IntKind.u8.wrap Q3)]).size):Int)<=(9223372036854775807:Int)/\Jn1 (fun (Jp:List Spn)=>Sml (q72++[Exper.mk y10 y13 y8 (ByteArray.mk (Array.mk [115])++bsOf [Go.IntKind.u8.wrap ((97:Int)+salt.tmod (26:Int))]++bsOf [Go.IntKind.u8.wrap ((48:Int)+Go.IntKind.u8.wrap Q3)]) (2:Int) Jp [Rng.mk (0:Int) ((1:Int)+one.tmod (9998:Int)) (1:Int),Rng.mk ((1:Int)+one.tmod (9998:Int)) ((1:Int)+one.tmod (9998:Int)+(1:Int)+two.tmod ((9999:Int) - ((1:Int)+one.tmod (9998:Int)))) (2:Int),Rng.mk ((1:Int)+one.tmod (9998:Int)+(1:Int)+two.tmod ((9999:Int) - ((1:Int)+one.tmod (9998:Int)))) (10000:Int) (3:Int)] (Ex.mk (1:Int) (ByteArray.mk (Array.mk [])) (ByteArray.mk (Array.mk [])) [] [])]).length/\InI (Q3+1)/\z42 (Q3+1) (q72++[Exper.mk y10 y13 y8 (ByteArray.mk (Array.mk [115])++bsOf [Go.IntKind.u8.wrap ((97:Int)+salt.tmod (26:Int))]++bsOf [Go.IntKind.u8.wrap ((48:Int)+Go.IntKind.u8.wrap Q3)]) (2:Int) Jp [Rng.mk (0:Int) ((1:Int)+one.tmod (9998:Int)) (1:Int),Rng.mk ((1:Int)+one.tmod (9998:Int)) ((1:Int)+one.tmod (9998:Int)+(1:Int)+two.tmod ((9999:Int) - ((1:Int)+one.tmod (9998:Int)))) (2:Int),Rng.mk ((1:Int)+one.tmod (9998:Int)+(1:Int)+two.tmod ((9999:Int) - ((1:Int)+one.tmod (9998:Int)))) (10000:Int) (3:Int)] (Ex.mk (1:Int) (ByteArray.mk (Array.mk [])) (ByteArray.mk (Array.mk [])) [] [])])) fun (U0:List Spn->Prop)=>Cnd ((2:Int)<=Q3) (U0 [Spn.mk (hold.tmod (50:Int)*(20:Int)+(1:Int)+cut.tmod ((10000:Int) - hold.tmod (50:Int)*(20:Int) - (1:Int))) (10000:Int)]) (U0 [Spn.mk (hold.tmod (50:Int)*(20:Int)) (hold.tmod (50:Int)*(20:Int)+(1:Int)+cut.tmod ((10000:Int) - hold.tmod (50:Int)*(20:Int) - (1:Int)))]))/\(↑((ByteArray.mk (Array.mk [115])++bsOf [Go.IntKind.u8.wrap ((97:Int)+salt.tmod (26:Int))]).size+(bsOf [Go.IntKind.u8.wrap ((48:Int)+Go.IntKind.u8.wrap Q3)]).size):Int)<=(9223372036854775807:Int)/\Jr fun (Uj:List ByteArray)=>((0:Int)<=Q3.tmod (2:Int)/\Q3.tmod (2:Int)<(↑Uj.length:Int))/\ ∀y13,Uj[(Q3.tmod (2:Int)).toNat]? =some y13->Jn1 (fun (Jp:List Spn)=>Sml (q72++[Exper.mk y10 y13 y8 (ByteArray.mk (Array.mk [115])++bsOf [Go.IntKind.u8.wrap ((97:Int)+salt.tmod (26:Int))]++bsOf [Go.IntKind.u8.wrap ((48:Int)+Go.IntKind.u8.wrap Q3)]) (2:Int) Jp [Rng.mk (0:Int) ((1:Int)+one.tmod (9998:Int)) (1:Int),Rng.mk ((1:Int)+one.tmod (9998:Int)) ((1:Int)+one.tmod (9998:Int)+(1:Int)+two.tmod ((9999:Int) - ((1:Int)+one.tmod (9998:Int)))) (2:Int),Rng.mk ((1:Int)+one.tmod (9998:Int)+(1:Int)+two.tmod ((9999:Int) - ((1:Int)+one.tmod (9998:Int)))) (10000:Int) (3:Int)] (Ex.mk (1:Int) (ByteArray.mk (Array.mk [])) (ByteArray.mk (Array.mk [])) [] [])]).length/\InI (Q3+1)/\z42 (Q3+1) (q72++[Exper.mk y10 y13 y8 (ByteArray.mk (Array.mk [115])++bsOf [Go.IntKind.u8.wrap ((97:Int)+salt.tmod (26:Int))]++bsOf [Go.IntKind.u8.wrap ((48:Int)+Go.IntKind.u8.wrap Q3)]) (2:Int) Jp [Rng.mk (0:Int) ((1:Int)+one.tmod (9998:Int)) (1:Int),Rng.mk ((1:Int)+one.tmod (9998:Int)) ((1:Int)+one.tmod (9998:Int)+(1:Int)+two.tmod ((9999:Int) - ((1:Int)+one.tmod (9998:Int)))) (2:Int),Rng.mk ((1:Int)+one.tmod (9998:Int)+(1:Int)+two.tmod ((9999:Int) - ((1:Int)+one.tmod (9998:Int)))) (10000:Int) (3:Int)] (Ex.mk (1:Int) (ByteArray.mk (Array.mk [])) (ByteArray.mk (Array.mk [])) [] [])])) fun (U0:List Spn->Prop)=>Cnd ((2:Int)<=Q3) (U0 [Spn.mk (hold.tmod (50:Int)*(20:Int)+(1:Int)+cut.tmod ((10000:Int) - hold.tmod (50:Int)*(20:Int) - (1:Int))) (10000:Int)]) (U0 [Spn.mk (hold.tmod (50:Int)*(20:Int)) (hold.tmod (50:Int)*(20:Int)+(1:Int)+cut.tmod ((10000:Int) - hold.tmod (50:Int)*(20:Int) - (1:Int)))]))/\(Jr fun Vy=>((0:Int)<=Q3.tmod (2:Int)/\Q3.tmod (2:Int)<(↑Vy.length:Int))/\ ∀y11,Vy[(Q3.tmod (2:Int)).toNat]? =some y11->(((0:Int)<=Q3/\Q3<(↑[ByteArray.mk (Array.mk [98,108,117,101]),ByteArray.mk (Array.mk [102,97,115,116]),ByteArray.mk (Array.mk [103,114,101,101,110]),ByteArray.mk (Array.mk [115,108,111,119])].length:Int))/\ ∀y13,[ByteArray.mk (Array.mk [98,108,117,101]),ByteArray.mk (Array.mk [102,97,115,116]),ByteArray.mk (Array.mk [103,114,101,101,110]),ByteArray.mk (Array.mk [115,108,111,119])][Q3.toNat]? =some y13->(↑((ByteArray.mk (Array.mk [115])++bsOf [Go.IntKind.u8.wrap ((97:Int)+salt.tmod (26:Int))]).size+(bsOf [Go.IntKind.u8.wrap ((48:Int)+Go.IntKind.u8.wrap Q3)]).size):Int)<=(9223372036854775807:Int)/\Jn1 (fun (Jp:List Spn)=>Sml (q72++[Exper.mk y13 y11 y8 (ByteArray.mk (Array.mk [115])++bsOf [Go.IntKind.u8.wrap ((97:Int)+salt.tmod (26:Int))]++bsOf [Go.IntKind.u8.wrap ((48:Int)+Go.IntKind.u8.wrap Q3)]) (2:Int) Jp [Rng.mk (0:Int) ((1:Int)+one.tmod (9998:Int)) (1:Int),Rng.mk ((1:Int)+one.tmod (9998:Int)) ((1:Int)+one.tmod (9998:Int)+(1:Int)+two.tmod ((9999:Int) - ((1:Int)+one.tmod (9998:Int)))) (2:Int),Rng.mk ((1:Int)+one.tmod (9998:Int)+(1:Int)+two.tmod ((9999:Int) - ((1:Int)+one.tmod (9998:Int)))) (10000:Int) (3:Int)] (Ex.mk (1:Int) (ByteArray.mk (Array.mk [])) (ByteArray.mk (Array.mk [])) [] [])]).length/\InI (Q3+1)/\z42 (Q3+1) (q72++[Exper.mk y13 y11 y8 (ByteArray.mk (Array.mk [115])++bsOf [Go.IntKind.u8.wrap ((97:Int)+salt.tmod (26:Int))]++bsOf [Go.IntKind.u8.wrap ((48:Int)+Go.IntKind.u8.wrap Q3)]) (2:Int) Jp [Rng.mk (0:Int) ((1:Int)+one.tmod (9998:Int)) (1:Int),Rng.mk ((1:Int)+one.tmod (9998:Int)) ((1:Int)+one.tmod (9998:Int)+(1:Int)+two.tmod ((9999:Int) - ((1:Int)+one.tmod (9998:Int)))) (2:Int),Rng.mk ((1:Int)+one.tmod (9998:Int)+(1:Int)+two.tmod ((9999:Int) - ((1:Int)+one.tmod (9998:Int)))) (10000:Int) (3:Int)] (Ex.mk (1:Int) (ByteArray.mk (Array.mk [])) (ByteArray.mk (Array.mk [])) [] [])])) fun (U0:List Spn->Prop)=>Cnd ((2:Int)<=Q3) (U0 [Spn.mk (hold.tmod (50:Int)*(20:Int)+(1:Int)+cut.tmod ((10000:Int) - hold.tmod (50:Int)*(20:Int) - (1:Int))) (10000:Int)]) (U0 [Spn.mk (hold.tmod (50:Int)*(20:Int)) (hold.tmod (50:Int)*(20:Int)+(1:Int)+cut.tmod ((10000:Int) - hold.tmod (50:Int)*(20:Int) - (1:Int)))]))/\(↑((ByteArray.mk (Array.mk [115])++bsOf [Go.IntKind.u8.wrap ((97:Int)+salt.tmod (26:Int))]).size+(bsOf [Go.IntKind.u8.wrap ((48:Int)+Go.IntKind.u8.wrap Q3)]).size):Int)<=(9223372036854775807:Int)/\((0:Int)<=Q3/\Q3<(↑[ByteArray.mk (Array.mk [98,108,117,101]),ByteArray.mk (Array.mk [102,97,115,116]),ByteArray.mk (Array.mk [103,114,101,101,110]),ByteArray.mk (Array.mk [115,108,111,119])].length:Int))/\ ∀y13,[ByteArray.mk (Array.mk [98,108,117,101]),ByteArray.mk (Array.mk [102,97,115,116]),ByteArray.mk (Array.mk [103,114,101,101,110]),ByteArray.mk (Array.mk [115,108,111,119])][Q3.toNat]? =some y13->Jn1 (fun (Jp:List Spn)=>Sml (q72++[Exper.mk y13 y11 y8 (ByteArray.mk (Array.mk [115])++bsOf [Go.IntKind.u8.wrap ((97:Int)+salt.tmod (26:Int))]++bsOf [Go.IntKind.u8.wrap ((48:Int)+Go.IntKind.u8.wrap Q3)]) (2:Int) Jp [Rng.mk (0:Int) ((1:Int)+one.tmod (9998:Int)) (1:Int),Rng.mk ((1:Int)+one.tmod (9998:Int)) ((1:Int)+one.tmod (9998:Int)+(1:Int)+two.tmod ((9999:Int) - ((1:Int)+one.tmod (9998:Int)))) (2:Int),Rng.mk ((1:Int)+one.tmod (9998:Int)+(1:Int)+two.tmod ((9999:Int) - ((1:Int)+one.tmod (9998:Int)))) (10000:Int) (3:Int)] (Ex.mk (1:Int) (ByteArray.mk (Array.mk [])) (ByteArray.mk (Array.mk [])) [] [])]).length/\InI (Q3+1)/\z42 (Q3+1) (q72++[Exper.mk y13 y11 y8 (ByteArray.mk (Array.mk [115])++bsOf [Go.IntKind.u8.wrap ((97:Int)+salt.tmod (26:Int))]++bsOf [Go.IntKind.u8.wrap ((48:Int)+Go.IntKind.u8.wrap Q3)]) (2:Int) Jp [Rng.mk (0:Int) ((1:Int)+one.tmod (9998:Int)) (1:Int),Rng.mk ((1:Int)+one.tmod (9998:Int)) ((1:Int)+one.tmod (9998:Int)+(1:Int)+two.tmod ((9999:Int) - ((1:Int)+one.tmod (9998:Int)))) (2:Int),Rng.mk ((1:Int)+one.tmod (9998:Int)+(1:Int)+two.tmod ((9999:Int) - ((1:Int)+one.tmod (9998:Int)))) (10000:Int) (3:Int)] (Ex.mk (1:Int) (ByteArray.mk (Array.mk [])) (ByteArray.mk (Array.mk [])) [] [])])) fun (U0:List Spn->Prop)=>Cnd ((2:Int)<=Q3) (U0 [Spn.mk (hold.tmod (50:Int)*(20:Int)+(1:Int)+cut.tmod ((10000:Int) - hold.tmod (50:Int)*(20:Int) - (1:Int))) (10000:Int)]) (U0 [Spn.mk (hold.tmod (50:Int)*(20:Int)) (hold.tmod (50:Int)*(20:Int)+(1:Int)+cut.tmod ((10000:Int) - hold.tmod (50:Int)*(20:Int) - (1:Int)))]))/\(↑((ByteArray.mk (Array.mk [115])++bsOf [Go.IntKind.u8.wrap ((97:Int)+salt.tmod (26:Int))]).size+(bsOf [Go.IntKind.u8.wrap ((48:Int)+Go.IntKind.u8.wrap Q3)]).size):Int)<=(9223372036854775807:Int)/\(((0:Int)<=Q3/\Q3<(↑[ByteArray.mk (Array.mk [98,108,117,101]),ByteArray.mk (Array.mk [102,97,115,116]),ByteArray.mk (Array.mk [103,114,101,101,110]),ByteArray.mk (Array.mk [115,108,111,119])].length:Int))/\ ∀y10,[ByteArray.mk (Array.mk [98,108,117,101]),ByteArray.mk (Array.mk [102,97,115,116]),ByteArray.mk (Array.mk [103,114,101,101,110]),ByteArray.mk (Array.mk [115,108,111,119])][Q3.toNat]? =some y10->Jr fun (Uj:List ByteArray)=>((0:Int)<=Q3.tmod (2:Int)/\Q3.tmod (2:Int)<(↑Uj.length:Int))/\ ∀y13,Uj[(Q3.tmod (2:Int)).toNat]? =some y13->Jn1 (fun (Jp:List Spn)=>Sml (q72++[Exper.mk y10 y13 y8 (ByteArray.mk (Array.mk [115])++bsOf [Go.IntKind.u8.wrap ((97:Int)+salt.tmod (26:Int))]++bsOf [Go.IntKind.u8.wrap ((48:Int)+Go.IntKind.u8.wrap Q3)]) (2:Int) Jp [Rng.mk (0:Int) ((1:Int)+one.tmod (9998:Int)) (1:Int),Rng.mk ((1:Int)+one.tmod (9998:Int)) ((1:Int)+one.tmod (9998:Int)+(1:Int)+two.tmod ((9999:Int) - ((1:Int)+one.tmod (9998:Int)))) (2:Int),Rng.mk ((1:Int)+one.tmod (9998:Int)+(1:Int)+two.tmod ((9999:Int) - ((1:Int)+one.tmod (9998:Int)))) (10000:Int) (3:Int)] (Ex.mk (1:Int) (ByteArray.mk (Array.mk [])) (ByteArray.mk (Array.mk [])) [] [])]).length/\InI (Q3+1)/\z42 (Q3+1) (q72++[Exper.mk y10 y13 y8 (ByteArray.mk (Array.mk [115])++bsOf [Go.IntKind.u8.wrap ((97:Int)+salt.tmod (26:Int))]++bsOf [Go.IntKind.u8.wrap ((48:Int)+Go.IntKind.u8.wrap Q3)]) (2:Int) Jp [Rng.mk (0:Int) ((1:Int)+one.tmod (9998:Int)) (1:Int),Rng.mk ((1:Int)+one.tmod (9998:Int)) ((1:Int)+one.tmod (9998:Int)+(1:Int)+two.tmod ((9999:Int) - ((1:Int)+one.tmod (9998:Int)))) (2:Int),Rng.mk ((1:Int)+one.tmod (9998:Int)+(1:Int)+two.tmod ((9999:Int) - ((1:Int)+one.tmod (9998:Int)))) (10000:Int) (3:Int)] (Ex.mk (1:Int) (ByteArray.mk (Array.mk [])) (ByteArray.mk (Array.mk [])) [] [])])) fun (U0:List Spn->Prop)=>Cnd ((2:Int)<=Q3) (U0 [Spn.mk (hold.tmod (50:Int)*(20:Int)+(1:Int)+cut.tmod ((10000:Int) - hold.tmod (50:Int)*(20:Int) - (1:Int))) (10000:Int)]) (U0 [Spn.mk (hold.tmod (50:Int)*(20:Int)) (hold.tmod (50:Int)*(20:Int)+(1:Int)+cut.tmod ((10000:Int) - hold.tmod (50:Int)*(20:Int) - (1:Int)))]))/\Jr fun Vy=>((0:Int)<=Q3.tmod (2:Int)/\Q3.tmod (2:Int)<(↑Vy.length:Int))/\ ∀y11,Vy[(Q3.tmod (2:Int)).toNat]? =some y11->((0:Int)<=Q3/\Q3<(↑[ByteArray.mk (Array.mk [98,108,117,101]),ByteArray.mk (Array.mk [102,97,115,116]),ByteArray.mk (Array.mk [103,114,101,101,110]),ByteArray.mk (Array.mk [115,108,111,119])].length:Int))/\ ∀y13,[ByteArray.mk (Array.mk [98,108,117,101]),ByteArray.mk (Array.mk [102,97,115,116]),ByteArray.mk (Array.mk [103,114,101,101,110]),ByteArray.mk (Array.mk [115,108,111,119])][Q3.toNat]? =some y13->Jn1 (fun (Jp:List Spn)=>Sml (q72++[Exper.mk y13 y11 y8 (ByteArray.mk (Array.mk [115])++bsOf [Go.IntKind.u8.wrap ((97:Int)+salt.tmod (26:Int))]++bsOf [Go.IntKind.u8.wrap ((48:Int)+Go.IntKind.u8.wrap Q3)]) (2:Int) Jp [Rng.mk (0:Int) ((1:Int)+one.tmod (9998:Int)) (1:Int),Rng.mk ((1:Int)+one.tmod (9998:Int)) ((1:Int)+one.tmod (9998:Int)+(1:Int)+two.tmod ((9999:Int) - ((1:Int)+one.tmod (9998:Int)))) (2:Int),Rng.mk ((1:Int)+one.tmod (9998:Int)+(1:Int)+two.tmod ((9999:Int) - ((1:Int)+one.tmod (9998:Int)))) (10000:Int) (3:Int)] (Ex.mk (1:Int) (ByteArray.mk (Array.mk [])) (ByteArray.mk (Array.mk [])) [] [])]).length/\InI (Q3+1)/\z42 (Q3+1) (q72++[Exper.mk y13 y11 y8 (ByteArray.mk (Array.mk [115])++bsOf [Go.IntKind.u8.wrap ((97:Int)+salt.tmod (26:Int))]++bsOf [Go.IntKind.u8.wrap ((48:Int)+Go.IntKind.u8.wrap Q3)]) (2:Int) Jp [Rng.mk (0:Int) ((1:Int)+one.tmod (9998:Int)) (1:Int),Rng.mk ((1:Int)+one.tmod (9998:Int)) ((1:Int)+one.tmod (9998:Int)+(1:Int)+two.tmod ((9999:Int) - ((1:Int)+one.tmod (9998:Int)))) (2:Int),Rng.mk ((1:Int)+one.tmod (9998:Int)+(1:Int)+two.tmod ((9999:Int) - ((1:Int)+one.tmod (9998:Int)))) (10000:Int) (3:Int)] (Ex.mk (1:Int) (ByteArray.mk (Array.mk [])) (ByteArray.mk (Array.mk [])) [] [])])) fun (U0:List Spn->Prop)=>Cnd ((2:Int)<=Q3) (U0 [Spn.mk (hold.tmod (50:Int)*(20:Int)+(1:Int)+cut.tmod ((10000:Int) - hold.tmod (50:Int)*(20:Int) - (1:Int))) (10000:Int)]) (U0 [Spn.mk (hold.tmod (50:Int)*(20:Int)) (hold.tmod (50:Int)*(20:Int)+(1:Int)+cut.tmod ((10000:Int) - hold.tmod (50:Int)*(20:Int) - (1:Int)))])) (R Hn q76 q72)) (0:Int) [])) (0:Int) [])) (0:Int) []:=by
 have hb:=j6e h1 h2 h3 h4
 have t1:=tmB (m:=50) h1 (by decide)
 have t2:=tmB (m:=9998) h3 (by decide)
 have t3:=tmB (m:=9999 - aOf one) h4 (by unfold aOf;omega)
 have t4:=tmB (m:=10000 - hoOf hold - 1) h2 (by unfold hoOf;omega)
 have hin: ∀n:Int, -1000000<=n->n<=10000000->InI n:=fun n h h'=>by unfold InI;omega
 have sml: ∀{α:Type} (l:List α),l.length<=10->Sml l.length:=fun l hl=>by unfold Sml;omega
 refine⟨by decide,?_,hin _ (by omega) (by omega),by decide,hin _ (by omega) (by omega),?_⟩
 ·rw[q6a];show (((1+1:Nat)):Int)<=9223372036854775807;decide
 refine Lp2.ind (fun i l=> ∃j:Nat,i=(j:Int)/\j<=4/\l=(fN.map flM).take j) (fun i _=>(4 - i).toNat) ?_ ⟨0,rfl,by omega,rfl⟩
 rintro i l ⟨j,rfl,hj,rfl⟩
 refine fun _=>Cnd.mk (fun hc=>⟨⟨by omega,hc⟩,fun y hy=> ?_⟩) fun hc=> ?_
 ·have hy:fN[j]? =some y:=hy
  have hc:(j:Int)<4:=hc
  refine Lp2.ind (fun k l=> ∃m:Nat,k=(m:Int)+1/\m<=3/\l=[vlM 0,vlM 1,vlM 2].take m) (fun k _=>(4 - k).toNat) ?_ ⟨0,rfl,by omega,rfl⟩
  rintro k l ⟨m,rfl,hm,rfl⟩
  refine Cnd.mk (fun hk=>⟨hin _ (by omega) (by omega),sml _ (by simp;omega),hin _ (by omega) (by omega),⟨m+1,by omega,by omega,?_⟩,by omega⟩) fun hk=>⟨sml _ (by simp;omega),hin _ (by omega) (by omega),⟨j+1,by omega,by omega,?_⟩,by omega⟩
  ·have:m=0∨m=1∨m=2:=by omega
   rcases this with rfl|rfl|rfl<;>rfl
  ·rw[show m=3 by omega,q9g hy];rfl
 have hj4:j=4:=by
  have hc: ¬(j:Int)<4:=hc
  omega
 subst hj4
 rw[show (fN.map flM).take 4=fN.map flM from rfl]
 refine Lp2.ind (fun i l=> ∃j:Nat,i=(j:Int)/\j<=2/\l=(lN.map (lyM (sTof salt) (hoOf hold))).take j) (fun i _=>(2 - i).toNat) ?_ ⟨0,rfl,by omega,rfl⟩
 rintro i l ⟨j,rfl,hj,rfl⟩
 refine Cnd.mk (fun hc=>q4l ⟨⟨by omega,hc⟩,fun y hy=>q4l ⟨⟨by omega,hc⟩,fun z hz=> ?_⟩⟩) fun hc=> ?_
 ·have hy:lN[j]? =some y:=hy
  have hz:lN[j]? =some z:=hz
  rw[hy] at hz;cases hz
  have hys:y.size=4:=by
   rcases List.mem_cons.1 (List.mem_of_getElem? hy) with rfl|hq
   ·rfl
   ·rw[List.mem_singleton.1 hq];rfl
  refine⟨?_,sml _ (by simp;omega),hin _ (by omega) (by omega),⟨j+1,by omega,by omega,?_⟩,by omega⟩
  ·have:=q6b salt
   unfold sTof at this
   rw[this,hys];decide
  ·rw[q9g hy];rfl
 have hj2:j=2:=by omega
 subst hj2
 rw[show (lN.map (lyM (sTof salt) (hoOf hold))).take 2=lN.map (lyM (sTof salt) (hoOf hold)) from rfl]
 have b1:=hb.h1
 have b2:=hb.h0
 have b3:=hb.c0
 have b4:=hb.c1
 have b5:=hb.b1
 have b6:=hb.a0
 have b7:=hb.b0
 simp only[hoOf,aOf,cOf,bOf] at b1 b2 b3 b4 b5 b6 b7 t3 t4
 refine⟨hin _ (by omega) (by omega),by decide,hin _ (by omega) (by omega),hin _ (by omega) (by omega),hin _ (by omega) (by omega),hin _ (by omega) (by omega),by omega,hin _ (by omega) (by omega),hin _ (by omega) (by omega),hin _ (by omega) (by omega),hin _ (by omega) (by omega),hin _ (by omega) (by omega),by omega,hin _ (by omega) (by omega),?_⟩
 refine Lp2.ind (fun i l=> ∃j:Nat,i=(j:Int)/\j<=4/\l=((List.range 4).map (xpM (sTof salt) (hoOf hold) (cOf hold cut) (aOf one) (bOf one two))).take j) (fun i _=>(4 - i).toNat) ?_ ⟨0,rfl,by omega,rfl⟩
 rintro i l ⟨j,rfl,hj,rfl⟩
 refine Cnd.mk (fun hc=> ?_) fun hc=> ?_
 ·have tk:((List.range 4).map (xpM (sTof salt) (hoOf hold) (cOf hold cut) (aOf one) (bOf one two))).take (j+1)=((List.range 4).map (xpM (sTof salt) (hoOf hold) (cOf hold cut) (aOf one) (bOf one two))).take j++[xpM (sTof salt) (hoOf hold) (cOf hold cut) (aOf one) (bOf one two) j]:=q9g (by rw[List.getElem?_range (by omega)])
  have len: ∀x:Exper,Sml (((List.range 4).map (xpM (sTof salt) (hoOf hold) (cOf hold cut) (aOf one) (bOf one two))).take j++[x]).length:=fun x=>sml _ (by rw[List.length_append,List.length_take,List.length_map,List.length_range,List.length_singleton];omega)
  have nx: ∀x:Exper,x=xpM (sTof salt) (hoOf hold) (cOf hold cut) (aOf one) (bOf one two) j->Sml (((List.range 4).map (xpM (sTof salt) (hoOf hold) (cOf hold cut) (aOf one) (bOf one two))).take j++[x]).length/\InI ((j:Int)+1)/\(∃j':Nat,(j:Int)+1=(j':Int)/\j'<=4/\((List.range 4).map (xpM (sTof salt) (hoOf hold) (cOf hold cut) (aOf one) (bOf one two))).take j++[x]=((List.range 4).map (xpM (sTof salt) (hoOf hold) (cOf hold cut) (aOf one) (bOf one two))).take j')/\(4 - ((j:Int)+1)).toNat<(4 - (j:Int)).toNat:=fun x hx=>⟨len x,hin _ (by omega) (by omega),⟨j+1,by omega,by omega,by rw[hx,tk]⟩,by omega⟩
  have mk: ∀(y4 y6 y9:ByteArray) (cl:List Spn),fN[((j:Nat):Int).toNat]? =some y4->xN[((j:Nat):Int).toNat]? =some y6->lN[(((j:Nat):Int).tmod (2:Int)).toNat]? =some y9->cl=clM (hoOf hold) (cOf hold cut) j->Exper.mk y6 y9 y4 (sltX (sTof salt) j) 2 cl (rgM (aOf one) (bOf one two)) (Ex.mk 1 noT noT [] [])=xpM (sTof salt) (hoOf hold) (cOf hold cut) (aOf one) (bOf one two) j:=fun y4 y6 y9 cl e4 e6 e9 ec=>by
   have e9:lN[j % 2]? =some y9:=by
    rw[show (((j:Nat):Int).tmod 2).toNat=j % 2 by rw[Int.tmod_eq_emod_of_nonneg (by omega)];omega] at e9
    exact e9
   unfold xpM
   rw[z0t (l:=fN) (i:=j) e4,z0t (l:=xN) (i:=j) e6,z0t e9,ec]
  have hA: ∀y4 y6 y9:ByteArray,fN[((j:Nat):Int).toNat]? =some y4->xN[((j:Nat):Int).toNat]? =some y6->lN[(((j:Nat):Int).tmod (2:Int)).toNat]? =some y9->(2:Int)<=(j:Int)->_:=fun y4 y6 y9 e4 e6 e9 e2=>nx _ (mk y4 y6 y9 [Spn.mk (cOf hold cut) 10000] e4 e6 e9 (by unfold clM;rw[if_pos (by omega)]))
  have hB: ∀y4 y6 y9:ByteArray,fN[((j:Nat):Int).toNat]? =some y4->xN[((j:Nat):Int).toNat]? =some y6->lN[(((j:Nat):Int).tmod (2:Int)).toNat]? =some y9-> ¬(2:Int)<=(j:Int)->_:=fun y4 y6 y9 e4 e6 e9 e2=>nx _ (mk y4 y6 y9 [Spn.mk (hoOf hold) (cOf hold cut)] e4 e6 e9 (by unfold clM;rw[if_neg (by omega)]))
  have z0:(2:Int)≠(0:Int):=by decide
  have z1:(0:Int)<=((j:Nat):Int)/\((j:Nat):Int)<((fN.length:Nat):Int):=⟨by omega,hc⟩
  have z2:(0:Int)<=((j:Nat):Int)/\((j:Nat):Int)<((xN.length:Nat):Int):=⟨by omega,hc⟩
  have z3:(0:Int)<=((j:Nat):Int).tmod (2:Int)/\((j:Nat):Int).tmod (2:Int)<((lN.length:Nat):Int):=tmB (m:=2) (by omega) (by decide)
  have z4:(((sTof salt).size+(bsOf [Go.IntKind.u8.wrap ((48:Int)+Go.IntKind.u8.wrap ((j:Nat):Int))]).size:Nat):Int)<=9223372036854775807:=by rw[q6b,q6a];show (((2+1:Nat)):Int)<=9223372036854775807;decide
  (repeat' (first|assumption|refine⟨_,fun _ h=>h,?_⟩|exact hA _ _ _ (by assumption) (by assumption) (by assumption) (by assumption)|exact hB _ _ _ (by assumption) (by assumption) (by assumption) (by assumption)|exact z4|refine q4l ?_|refine Cnd.mk (fun _=> ?_) fun _=> ?_|refine⟨?_,?_⟩|intro _))
 ·have hj4:j=4:=by omega
  subst hj4
  rw[show ((List.range 4).map (xpM (sTof salt) (hoOf hold) (cOf hold cut) (aOf one) (bOf one two))).take 4=(List.range 4).map (xpM (sTof salt) (hoOf hold) (cOf hold cut) (aOf one) (bOf one two)) from rfl]
  exact h
def j7g(r:Reg)(K:Bool->Prop)(e:List Exper)(ls:List Lay_)(f:List Flg):Prop:=
 (LpH (fun (Qc:Int×List Flg×List Lay_×List Exper×List Flg×List Lay_×List Exper×List Flg×List Lay_×List Exper×List Flg×List Lay_×List Exper×Unit) (z2a:Int×List Flg×List Lay_×List Exper×List Flg×List Lay_×List Exper×List Flg×List Lay_×List Exper×List Flg×List Lay_×List Exper×Unit->Prop)=>Cnd (Qc.1<12) ((2:Int)≠(0:Int)/\InI (Qc.1.tdiv (2:Int))/\(2:Int)≠(0:Int)/\z2x (Qc.1.tdiv (2:Int)) fun (Gi:ByteArray)=>Jr fun (Jp:List ByteArray)=>((0:Int)<=Qc.1.tmod (2:Int)/\Qc.1.tmod (2:Int)<(↑Jp.length:Int))/\ ∀y16,Jp[(Qc.1.tmod (2:Int)).toNat]? =some y16->Uy r Gi y16 fun (q7n:Slt) (j1a:Bool)=>Cnd (j1a=true) (R9 Gi fun (j1b:Subj)=>q0x (Envt.mk (Sett.mk (ByteArray.mk (Array.mk [])) (ByteArray.mk (Array.mk [])) (0:Int)) [] [] Qc.2.1 Qc.2.2.1 Qc.2.2.2.1) q7n.3 fun (j1c:ByteArray)=>U4 r (Envt.mk (Sett.mk (ByteArray.mk (Array.mk [])) (ByteArray.mk (Array.mk [])) (0:Int)) [] [] Qc.2.1 Qc.2.2.1 Qc.2.2.2.1) (Subj.mk j1b.1) Gi j1c r.1 fun (q7o:Dcs) (j1d:Int)=>Cnd (j1d=0) (Cnd (q7o.2=q7n.4) (Cnd (q7o.4.1=4) (Cnd (q7o.4.3=q7n.3) (InI (Qc.1+1)/\z2a (Qc.1+1,Qc.2.1,Qc.2.2.1,Qc.2.2.2.1,Qc.2.2.2.2.1,Qc.2.2.2.2.2.1,Qc.2.2.2.2.2.2.1,Qc.2.2.2.2.2.2.2.1,Qc.2.2.2.2.2.2.2.2.1,Qc.2.2.2.2.2.2.2.2.2.1,Qc.2.2.2.2.2.2.2.2.2.2.1,Qc.2.2.2.2.2.2.2.2.2.2.2.1,Qc.2.2.2.2.2.2.2.2.2.2.2.2.1,())) (K false)) (K false)) (K false)) (K false)) (InI (Qc.1+1)/\z2a (Qc.1+1,Qc.2.1,Qc.2.2.1,Qc.2.2.2.1,Qc.2.2.2.2.1,Qc.2.2.2.2.2.1,Qc.2.2.2.2.2.2.1,Qc.2.2.2.2.2.2.2.1,Qc.2.2.2.2.2.2.2.2.1,Qc.2.2.2.2.2.2.2.2.2.1,Qc.2.2.2.2.2.2.2.2.2.2.1,Qc.2.2.2.2.2.2.2.2.2.2.2.1,Qc.2.2.2.2.2.2.2.2.2.2.2.2.1,()))) (K true)) ((0:Int),f,ls,e,f,ls,e,f,ls,e,f,ls,e,()))
def w4j(r:Reg)(keep:Bool)(K:Bool->Prop)(e:List Exper)(ls:List Lay_)(f:List Flg):Prop:=
 (Lp2 (fun J0 U1 j4y=>Fits U1->Cnd (J0<(↑U1.length:Int)) (Cnd (keep=true) ((2:Int)≠(0:Int)/\InI (J0.tdiv (2:Int))/\InI ((500:Int)*J0.tdiv (2:Int))/\InI ((9000:Int)+(500:Int)*J0.tdiv (2:Int))/\(2:Int)≠(0:Int)/\InI (J0.tdiv (2:Int))/\InI ((500:Int)*J0.tdiv (2:Int))/\InI ((9500:Int)+(500:Int)*J0.tdiv (2:Int))/\At U1 J0 fun y13=>InI (J0+1)/\j4y (J0+1) (U1.set J0.toNat (Exper.mk y13.1 y13.2 y13.3 y13.4 y13.5 [Spn.mk ((9000:Int)+(500:Int)*J0.tdiv (2:Int)) ((9500:Int)+(500:Int)*J0.tdiv (2:Int))] y13.7 (Ex.mk y13.8.1 y13.8.2 y13.8.3 y13.8.4 y13.8.5)))) (j7g r K U1 ls f)) (j7g r K U1 ls f)) (0:Int) e)
theorem w1a{sT:ByteArray}{ho c a b n h:Int}{cl:Nat->List Spn}{r:Reg}(hs:sT.size<=1000)(hc: ∀i,(cl i).length<=1000000)(hp:PlB sT ho c a b n r){K:Bool->Prop}(hK:K true):j7g r K ((List.range 4).map (xpW sT a b cl)) (lN.map (lyW h)) (fN.map flM):=by
 unfold j7g
 refine LpH.ind (fun x=>(0:Int)<=x.1/\x.1<=(12:Int)/\x.2.1=fN.map flM/\x.2.2.1=lN.map (lyW h)/\x.2.2.2.1=(List.range 4).map (xpW sT a b cl)) (fun x=>((12:Int) - (x.1:Int)).toNat) ?_ ⟨by show (0:Int)<=0;decide,by show (0:Int)<=12;decide,rfl,rfl,rfl⟩
 rintro⟨i,f,ls,e,x⟩ ⟨i0,i1,hf,hls,he⟩
 dsimp only at i0 i1 hf hls he⊢
 subst hf hls he
 refine Cnd.mk (fun hi=> ?_) fun _=>hK
 have d0:0<=i.tdiv 2:=Int.tdiv_nonneg i0 (by decide)
 have d1:i.tdiv 2<=i:=by rw[Int.tdiv_eq_ediv_of_nonneg i0];omega
 have l0:=Int.tmod_nonneg 2 i0
 have l1:=Int.tmod_lt_of_pos i (b:=2) (by decide)
 refine⟨by decide,by unfold InI;omega,by decide,w8s d0 fun id hid=>q4l ⟨⟨l0,l1⟩,fun key _=>j7f (fun s ok hcu=>Cnd.yes rfl ?_) (Cnd.no (by decide) ?_)⟩⟩
 ·exact w09 (h:=h) (cl:=cl) hs hc hp ok hid hcu ⟨by unfold InI;omega,⟨by omega,by omega,rfl,rfl,rfl⟩,by omega⟩
 ·exact⟨by unfold InI;omega,⟨by omega,by omega,rfl,rfl,rfl⟩,by omega⟩
def mx(sT:ByteArray)(ho c a b:Int)(cl:Nat->List Spn)(j i:Nat):Exper:=if i<j then xpW sT a b cl i else xpM sT ho c a b i
theorem w1b{sT:ByteArray}{ho c a b:Int}{cl:Nat->List Spn}{j:Nat}(hj:j<4){y:Exper}(hy:((List.range 4).map (mx sT ho c a b cl j))[j]? =some y):((List.range 4).map (mx sT ho c a b cl j)).set j (Exper.mk y.1 y.2 y.3 y.4 y.5 (cl j) y.7 (Ex.mk y.8.1 y.8.2 y.8.3 y.8.4 y.8.5))=(List.range 4).map (mx sT ho c a b cl (j+1)):=by
 have:j=0∨j=1∨j=2∨j=3:=by omega
 rcases this with rfl|rfl|rfl|rfl<;>(cases hy;rfl)
theorem mx_4{sT:ByteArray}{ho c a b:Int}{cl:Nat->List Spn}:(List.range 4).map (mx sT ho c a b cl 4)=(List.range 4).map (xpW sT a b cl):=rfl
def cl1(i:Nat):List Spn:=[Spn.mk ((9000:Int)+(500:Int)*((i:Nat):Int).tdiv (2:Int)) ((9500:Int)+(500:Int)*((i:Nat):Int).tdiv (2:Int))]
theorem w83{sT:ByteArray}{ho c a b n h:Int}{r:Reg}(hs:sT.size<=1000)(hp:PlB sT ho c a b n r){keep:Bool}(hk: ¬keep=true){K:Bool->Prop}(hK:K true):w4j r keep K ((List.range 4).map (xpW sT a b fun _=>[])) (lN.map (lyW h)) (fN.map flM):=by
 unfold w4j
 have fin:j7g r K ((List.range 4).map (xpW sT a b fun _=>[])) (lN.map (lyW h)) (fN.map flM):=w1a hs (fun _=>Nat.zero_le _) hp hK
 refine Lp2.ind (fun (i:Int) e=>i=0/\e=(List.range 4).map (xpW sT a b fun _=>[])) (fun _ _=>0) ?_ ⟨rfl,rfl⟩
 rintro i e ⟨rfl,rfl⟩ _
 exact Cnd.mk (fun _=>Cnd.no hk fin) fun _=>fin
theorem w4k{sT:ByteArray}{ho c a b n h:Int}{r:Reg}(hs:sT.size<=1000)(hp:PlB sT ho c a b n r){keep:Bool}(hk:keep=true){K:Bool->Prop}(hK:K true):w4j r keep K ((List.range 4).map (xpM sT ho c a b)) (lN.map (lyW h)) (fN.map flM):=by
 unfold w4j
 have fin:j7g r K ((List.range 4).map (xpW sT a b cl1)) (lN.map (lyW h)) (fN.map flM):=w1a hs (fun _=>by show (1:Nat)<=_;decide) hp hK
 refine Lp2.ind (fun (i:Int) e=> ∃j:Nat,i=(j:Int)/\j<=4/\e=(List.range 4).map (mx sT ho c a b cl1 j)) (fun (i:Int) _=>(4 - i).toNat) ?_ ⟨0,rfl,by decide,rfl⟩
 rintro i e ⟨j,rfl,hj,rfl⟩ _
 have hl:((List.range 4).map (mx sT ho c a b cl1 j)).length=4:=by rw[List.length_map,List.length_range]
 have d0:0<=((j:Nat):Int).tdiv 2:=Int.tdiv_nonneg (by omega) (by decide)
 have d1:((j:Nat):Int).tdiv 2<=j:=by rw[Int.tdiv_eq_ediv_of_nonneg (by omega)];omega
 refine Cnd.mk (fun hc=>Cnd.yes hk ⟨by decide,by unfold InI;omega,by unfold InI;omega,by unfold InI;omega,by decide,by unfold InI;omega,by unfold InI;omega,by unfold InI;omega,⟨by omega,hc⟩,fun y hy=>⟨by unfold InI;omega,⟨j+1,by omega,by omega,?_⟩,by omega⟩⟩) fun hc=> ?_
 ·exact w1b (cl:=cl1) (by omega) hy
 ·rw[show j=4 by omega,mx_4];exact fin
theorem j06{x:AEnv}{l:List Mov}{hold:Int}{keep:Bool}(hx:AEB x)(hb: ∀m∈l,MvB m)(h1:0<=hold/\hold<=255){K:Bool->Prop}(h:K true):Jf x l hold keep K:=by
 unfold Jf B5
 refine w4b (Cnd.mk (fun _=>fun _=>Cnd.mk (fun _=>h) fun hl=>w8q hx ?_) fun e=>absurd rfl e)
 have hs:(sTof x.1).size<=1000:=by rw[q6b];decide
 have hm:MdB (hoOf x.2) (cOf x.2 x.3) (aOf x.4) (bOf x.4 x.5):=j6e hx.h.1 hx.c.1 hx.a.1 hx.b.1
 refine w8u (l:=l) hs hm (by omega) hb fun r hp=> ?_
 refine w82 hx.h.1 (Int.le_trans hx.h.2 (by decide)) hx.c.1 (Int.le_trans hx.c.2 (by decide)) hx.a.1 (Int.le_trans hx.a.2 (by decide)) hx.b.1 (Int.le_trans hx.b.2 (by decide)) ?_
 unfold envV mkE
 dsimp only
 generalize sTof x.1=sT at hs hp⊢
 generalize hoOf x.2=ho at hp⊢
 generalize cOf x.2 x.3=c at hp⊢
 generalize aOf x.4=a at hp⊢
 generalize bOf x.4 x.5=b at hp⊢
 refine Lp2.ind (fun (i:Int) ls=>(i=0/\ls=lN.map (lyM sT ho))∨(i=1/\ls=[lyW (5000+hold) (lN.getD 0 noT),lyM sT ho (lN.getD 1 noT)])∨(i=2/\ls=lN.map (lyW (5000+hold)))) (fun (i:Int) _=>(2 - i).toNat) ?_ (.inl ⟨rfl,rfl⟩)
 rintro i ls (⟨rfl,rfl⟩|⟨rfl,rfl⟩|⟨rfl,rfl⟩)
 ·exact Cnd.yes (by decide) ⟨by unfold InI;omega,by unfold InI;omega,⟨by decide,by show (0:Int)<2;decide⟩,fun y hy=>⟨⟨by decide,by show (0:Int)<2;decide⟩,fun z hz=>⟨by unfold InI;omega,.inr (.inl ⟨rfl,by cases hy;cases hz;rfl⟩),by decide⟩⟩⟩
 ·exact Cnd.yes (by decide) ⟨by unfold InI;omega,by unfold InI;omega,⟨by decide,by show (1:Int)<2;decide⟩,fun y hy=>⟨⟨by decide,by show (1:Int)<2;decide⟩,fun z hz=>⟨by unfold InI;omega,.inr (.inr ⟨rfl,by cases hy;cases hz;rfl⟩),by decide⟩⟩⟩
 refine Cnd.no (by decide) ?_
 by_cases hk:keep=true
 ·refine Lp2.ind (fun (i:Int) e=>i=0/\e=(List.range 4).map (xpM sT ho c a b)) (fun _ _=>0) ?_ ⟨rfl,rfl⟩
  rintro i e ⟨rfl,rfl⟩ _
  have fin:=w4k (h:=5000+hold) hs hp hk h
  exact Cnd.mk (fun _=>Cnd.yes hk fin) fun _=>fin
 ·refine Lp2.ind (fun (i:Int) e=> ∃j:Nat,i=(j:Int)/\j<=4/\e=(List.range 4).map (mx sT ho c a b (fun _=>[]) j)) (fun (i:Int) _=>(4 - i).toNat) ?_ ⟨0,rfl,by decide,rfl⟩
  rintro i e ⟨j,rfl,hj,rfl⟩ _
  have hl:((List.range 4).map (mx sT ho c a b (fun _=>[]) j)).length=4:=by rw[List.length_map,List.length_range]
  refine Cnd.mk (fun hc=>Cnd.no hk ⟨⟨by omega,hc⟩,fun y hy=>⟨by unfold InI;omega,⟨j+1,by omega,by omega,w1b (cl:=fun _=>[]) (by omega) hy⟩,by omega⟩⟩) fun hc=> ?_
  rw[show j=4 by omega,mx_4]
  exact w83 (h:=5000+hold) hs hp hk h
end Go.En
end
noncomputable section
set_option maxRecDepth 100000
namespace Go.En
open Go Go.RowKit Go.Fl Go.Fl.Lk Go.Fx
section
variable {H:Type}{enc:TypeId×Value->H}{W:World}{base:Nat}{spare:Nat->Bool}{held:Bool}
theorem q81{n:Int}(h:(Lit.int .u8 n).wf=true):0<=n/\n<=255:=by
 simp only[Lit.wf,Bool.and_eq_true,decide_eq_true_eq] at h
 have a:=h.1
 have b:=h.2
 simp[IntKind.min] at a
 simp[IntKind.max] at b
 exact⟨a,b⟩
theorem j07{n:Int}(h:(Lit.int .u16 n).wf=true):0<=n/\n<=65535:=by
 simp only[Lit.wf,Bool.and_eq_true,decide_eq_true_eq] at h
 have a:=h.1
 have b:=h.2
 simp[IntKind.min] at a
 simp[IntKind.max] at b
 exact⟨a,b⟩
theorem w4l{fuel:Nat}{cs:List Value}{x:DataW H×List MemPlace}(hl:cs.length=5)(h:DataW.trod enc Proofs.Tryz.prog W base spare held fuel 128 cs=some x): ∃y:Mov,RowF D (hv W) cs (D.shape .move y)/\MvB y:=by
 obtain⟨xs,m,hfu,rfl,_,hn,hf⟩:=DataW.trod_struct Proofs.Tryz.underlying128 h
 have c5:Proofs.Tryz.prog.cellsOf 5=1:=by kernel_rfl
 match xs,hn with
 |[z0,z1,z2,z3,z4],_=>
 have q0:=hf 0 _ rfl
 have q1:=hf 1 _ rfl
 have q2:=hf 2 _ rfl
 have q3:=hf 3 _ rfl
 have q4:=hf 4 _ rfl
 match cs,hl with
 |[u0,u1,u2,u3,u4],_=>
 change DataW.trod enc Proofs.Tryz.prog W base spare held m 5 (List.take (Proofs.Tryz.prog.cellsOf 5) [u0,u1,u2,u3,u4])=some z0 at q0
 rw[c5] at q0
 change DataW.trod enc Proofs.Tryz.prog W base spare held m 5 [u0]=some z0 at q0
 obtain⟨a0,e0,g0,w0⟩:=DataW.trod_int Proofs.Tryz.underlying5 q0
 have i0:=q81 w0
 change DataW.trod enc Proofs.Tryz.prog W base spare held m 5 (List.take (Proofs.Tryz.prog.cellsOf 5) [u1,u2,u3,u4])=some z1 at q1
 rw[c5] at q1
 change DataW.trod enc Proofs.Tryz.prog W base spare held m 5 [u1]=some z1 at q1
 obtain⟨a1,e1,g1,w1⟩:=DataW.trod_int Proofs.Tryz.underlying5 q1
 have i1:=q81 w1
 change DataW.trod enc Proofs.Tryz.prog W base spare held m 5 (List.take (Proofs.Tryz.prog.cellsOf 5) [u2,u3,u4])=some z2 at q2
 rw[c5] at q2
 change DataW.trod enc Proofs.Tryz.prog W base spare held m 5 [u2]=some z2 at q2
 obtain⟨a2,e2,g2,w2⟩:=DataW.trod_int Proofs.Tryz.underlying5 q2
 have i2:=q81 w2
 change DataW.trod enc Proofs.Tryz.prog W base spare held m 5 (List.take (Proofs.Tryz.prog.cellsOf 5) [u3,u4])=some z3 at q3
 rw[c5] at q3
 change DataW.trod enc Proofs.Tryz.prog W base spare held m 5 [u3]=some z3 at q3
 obtain⟨a3,e3,g3,w3⟩:=DataW.trod_int Proofs.Tryz.underlying5 q3
 have i3:=q81 w3
 change DataW.trod enc Proofs.Tryz.prog W base spare held m 5 (List.take (Proofs.Tryz.prog.cellsOf 5) [u4])=some z4 at q4
 rw[c5] at q4
 change DataW.trod enc Proofs.Tryz.prog W base spare held m 5 [u4]=some z4 at q4
 obtain⟨a4,e4,g4,w4⟩:=DataW.trod_int Proofs.Tryz.underlying5 q4
 have i4:=q81 w4
 simp only[List.cons.injEq,and_true] at e0
 subst e0
 subst g0
 simp only[List.cons.injEq,and_true] at e1
 subst e1
 subst g1
 simp only[List.cons.injEq,and_true] at e2
 subst e2
 subst g2
 simp only[List.cons.injEq,and_true] at e3
 subst e3
 subst g3
 simp only[List.cons.injEq,and_true] at e4
 subst e4
 subst g4
 refine⟨Mov.mk a0 a1 a2 a3 a4,(Jn (.int _ _) (Jn (.int _ _) (Jn (.int _ _) (Jn (.int _ _) (Jn (.int _ _) z52))))),?_⟩
 exact⟨⟨i0.1,by have:=i0.2;simp only;omega⟩,⟨i1.1,by have:=i1.2;simp only;omega⟩,⟨i2.1,by have:=i2.2;simp only;omega⟩,⟨i3.1,by have:=i3.2;simp only;omega⟩,⟨i4.1,by have:=i4.2;simp only;omega⟩⟩
theorem w4m{fuel:Nat}{cs:List Value}{x:DataW H×List MemPlace}(hl:cs.length=5)(h:DataW.trod enc Proofs.Tryz.prog W base spare held fuel 24 cs=some x): ∃y:AEnv,RowF D (hv W) cs (D.shape .aenv y)/\AEB y:=by
 obtain⟨xs,m,hfu,rfl,_,hn,hf⟩:=DataW.trod_struct Proofs.Tryz.underlying24 h
 have c5:Proofs.Tryz.prog.cellsOf 5=1:=by kernel_rfl
 have c22:Proofs.Tryz.prog.cellsOf 22=1:=by kernel_rfl
 match xs,hn with
 |[z0,z1,z2,z3,z4],_=>
 have q0:=hf 0 _ rfl
 have q1:=hf 1 _ rfl
 have q2:=hf 2 _ rfl
 have q3:=hf 3 _ rfl
 have q4:=hf 4 _ rfl
 match cs,hl with
 |[u0,u1,u2,u3,u4],_=>
 change DataW.trod enc Proofs.Tryz.prog W base spare held m 5 (List.take (Proofs.Tryz.prog.cellsOf 5) [u0,u1,u2,u3,u4])=some z0 at q0
 rw[c5] at q0
 change DataW.trod enc Proofs.Tryz.prog W base spare held m 5 [u0]=some z0 at q0
 obtain⟨a0,e0,g0,w0⟩:=DataW.trod_int Proofs.Tryz.underlying5 q0
 have i0:=q81 w0
 change DataW.trod enc Proofs.Tryz.prog W base spare held m 5 (List.take (Proofs.Tryz.prog.cellsOf 5) [u1,u2,u3,u4])=some z1 at q1
 rw[c5] at q1
 change DataW.trod enc Proofs.Tryz.prog W base spare held m 5 [u1]=some z1 at q1
 obtain⟨a1,e1,g1,w1⟩:=DataW.trod_int Proofs.Tryz.underlying5 q1
 have i1:=q81 w1
 change DataW.trod enc Proofs.Tryz.prog W base spare held m 22 (List.take (Proofs.Tryz.prog.cellsOf 22) [u2,u3,u4])=some z2 at q2
 rw[c22] at q2
 change DataW.trod enc Proofs.Tryz.prog W base spare held m 22 [u2]=some z2 at q2
 obtain⟨a2,e2,g2,w2⟩:=DataW.trod_int Proofs.Tryz.underlying22 q2
 have i2:=j07 w2
 change DataW.trod enc Proofs.Tryz.prog W base spare held m 22 (List.take (Proofs.Tryz.prog.cellsOf 22) [u3,u4])=some z3 at q3
 rw[c22] at q3
 change DataW.trod enc Proofs.Tryz.prog W base spare held m 22 [u3]=some z3 at q3
 obtain⟨a3,e3,g3,w3⟩:=DataW.trod_int Proofs.Tryz.underlying22 q3
 have i3:=j07 w3
 change DataW.trod enc Proofs.Tryz.prog W base spare held m 22 (List.take (Proofs.Tryz.prog.cellsOf 22) [u4])=some z4 at q4
 rw[c22] at q4
 change DataW.trod enc Proofs.Tryz.prog W base spare held m 22 [u4]=some z4 at q4
 obtain⟨a4,e4,g4,w4⟩:=DataW.trod_int Proofs.Tryz.underlying22 q4
 have i4:=j07 w4
 simp only[List.cons.injEq,and_true] at e0
 subst e0
 subst g0
 simp only[List.cons.injEq,and_true] at e1
 subst e1
 subst g1
 simp only[List.cons.injEq,and_true] at e2
 subst e2
 subst g2
 simp only[List.cons.injEq,and_true] at e3
 subst e3
 subst g3
 simp only[List.cons.injEq,and_true] at e4
 subst e4
 subst g4
 refine⟨AEnv.mk a0 a1 a2 a3 a4,(Jn (.int _ _) (Jn (.int _ _) (Jn (.int _ _) (Jn (.int _ _) (Jn (.int _ _) z52))))),?_⟩
 exact⟨⟨i1.1,by have:=i1.2;simp only;omega⟩,⟨i2.1,by have:=i2.2;simp only;omega⟩,⟨i3.1,by have:=i3.2;simp only;omega⟩,⟨i4.1,by have:=i4.2;simp only;omega⟩⟩
end
end Go.En
end
