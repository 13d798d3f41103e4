/- For every input EvaluateNeeds returns true and leaves its arguments as they were. This is part 7 of 11. Conditions: those in the statements. -/
import Derived.Test.YtkbjibhkaddepaaGreatDoorNd6
noncomputable section
set_option maxRecDepth 100000
namespace Go.En
open Go Go.Fl Go.Fl.Lk Go.Fx
theorem z0d{l:List Val}{n:Int}{Z:Int->Int->ByteArray->List ByteArray->Prop}(hl:l.length<=1000000)(h:Z (valV l n).1 (valV l n).2 (valV l n).3 (valV l n).4):
  Jn4 Z fun Y=>Cnd (1<=n) (Fits l->Cnd (n<=(l.length:Int)) (InI (n - 1)/\At l (n - 1) fun y=>Y y.1 y.2 y.3 y.4) (Y 0 0 noT [])) (Y 0 0 noT []):=by
 refine Jn4.mk (fun a b c d=>a=(valV l n).1/\b=(valV l n).2/\c=(valV l n).3/\d=(valV l n).4) (Cnd.mk (fun h1 _=>Cnd.mk (fun h2=>⟨by unfold InI;omega,by omega,fun y hy=> ?_⟩) fun h2=> ?_) fun h1=> ?_) fun a b c d ⟨e1,e2,e3,e4⟩=>by rw[e1,e2,e3,e4];exact h
 ·unfold valV;rw[if_pos ⟨h1,h2⟩,hy];exact⟨rfl,rfl,rfl,rfl⟩
 ·unfold valV;rw[if_neg (fun k=>h2 k.2)];exact⟨rfl,rfl,rfl,rfl⟩
 ·unfold valV;rw[if_neg (fun k=>h1 k.1)];exact⟨rfl,rfl,rfl,rfl⟩
theorem y3g{l:List Val}{n:Int}(h: ∀x∈l,x.4.length<=2000000):(valV l n).4.length<=2000000:=by
 unfold valV
 split
 ·cases hq:l[(n - 1).toNat]? with
  |none=>simp
  |some x=>exact h x (getm hq)
 ·simp
def DnI(v:Envt)(s:Subj)(fs:List Frc)(done:ByteArray->Option Dcs):Prop:= ∀k d,done k=some d-> ∃f∈v.4,k=f.1/\d=dcsV v s fs f
theorem DnI.nil{v:Envt}{s:Subj}{fs:List Frc}:DnI v s fs fun _=>none:=fun _ _ h=>by cases h
theorem DnI.put{v:Envt}{s:Subj}{fs:List Frc}{done:ByteArray->Option Dcs}(h:DnI v s fs done){f:Flg}(hf:f∈v.4):DnI v s fs (put done f.1 (dcsV v s fs f)):=fun k d hk=>by
 unfold Fl.put at hk
 split at hk
 ·rename_i e;cases hk;exact⟨f,hf,e,rfl⟩
 ·exact h k d hk
theorem y7m{o:ByteArray->Option Bool}{k:ByteArray}{b:Bool}(h:o k=none):dlt (put o k b) k=o:=by
 funext q
 unfold dlt Fl.put
 by_cases e:q=k
 ·rw[if_pos e,e,h]
 ·rw[if_neg e,if_neg e]
theorem y7n{v:Envt}{s:Subj}{fs:List Frc}{key:ByteArray}(h:(asgV v s fs key).2≠0):(asgV v s fs key).1.2=noT:=by
 unfold asgV at h⊢
 split
 ·rename_i l hl;rw[hl] at h;exact absurd rfl h
 ·rfl
theorem nodup_at{v:Envt}(hB:FlB v.4){i j:Nat}{f g:Flg}(hf:v.4[i]? =some f)(hg:v.4[j]? =some g)(h:i≠j):f.1≠g.1:=fun e=>by
 have h1:=w8w hB hf
 have h2:=w8w hB hg
 rw[e,h2] at h1
 have e2:g=f:=Option.some.inj h1
 subst e2
 have hnd:=hB.nd
 have a:=Qd hf
 have b:=Qd hg
 refine h ((List.getElem_inj (h₀:=by rw[List.length_map];exact a) (h₁:=by rw[List.length_map];exact b) hnd).1 ?_)
 rw[List.getElem_map,List.getElem_map]
 rw[List.getElem?_eq_getElem a] at hf
 rw[List.getElem?_eq_getElem b] at hg
 rw[Option.some.inj hf,Option.some.inj hg]
theorem v94{v:Envt}{s:Subj}{fs:List Frc}(hv:AsB v)(hF:FlX v)(hs:SubB s)(hN:NumB s)(hfs:fs.length<=1000000000){i:Nat}{f:Flg}(hf:v.4[i]? =some f){done:ByteArray->Option Dcs}{opn:ByteArray->Option Bool}
  {K:Dcs->(ByteArray->Option Dcs)->(ByteArray->Option Bool)->Prop}(hd:DnI v s fs done)(ho: ∀(j:Nat) g,j<=i->v.4[j]? =some g->opn g.1=none)(hK: ∀done',DnI v s fs done'->K (dcsV v s fs f) done' opn):
  Uv v.1.1 v.1.2 v.1.3 v.2 v.3 v.4 v.5 v.6 s.1 fs (mem v.3 s) done opn f K:=by
 intro X hX
 induction i using Nat.strongRecOn generalizing f done opn K with
 |ind i ih=>
  refine hX _ _ _ _ _ _ _ _ _ _ _ _ _ _ _ ?_
  clear hX
  have hm:=getm hf
  have hvs:=hF.vs f hm
  unfold Bu
  refine Jn1.mk (fun t=> ∃done',DnI v s fs done'/\t=(f.1,(dcsV v s fs f).2,(dcsV v s fs f).3.1,(dcsV v s fs f).3.2,(dcsV v s fs f).3.3,(dcsV v s fs f).3.4,(dcsV v s fs f).4.1,(dcsV v s fs f).4.2,(dcsV v s fs f).4.3,(dcsV v s fs f).4.4,(dcsV v s fs f).5,done',opn,())) ?_ ?_
  case refine_2=>
   rintro _ ⟨done',hd',rfl⟩
   exact q45 (y3g hvs.2) (hK done' hd')
  have fin: ∀{n:Int} {r:Rsn} {done1:ByteArray->Option Dcs} {opn1:ByteArray->Option Bool},DnI v s fs done1->opn1=put opn f.1 true->dcV v s fs f=(n,r)-> ∃done',DnI v s fs done'/\(f.1,n,(valV f.3 n).1,(valV f.3 n).2,(valV f.3 n).3,(valV f.3 n).4,r.1,r.2,r.3,r.4,(0:Int),put done1 f.1 (Dcs.mk f.1 n (valV f.3 n) r 0),dlt opn1 f.1,())=(f.1,(dcsV v s fs f).2,(dcsV v s fs f).3.1,(dcsV v s fs f).3.2,(dcsV v s fs f).3.3,(dcsV v s fs f).3.4,(dcsV v s fs f).4.1,(dcsV v s fs f).4.2,(dcsV v s fs f).4.3,(dcsV v s fs f).4.4,(dcsV v s fs f).5,done',opn,()):=by
   intro n r done1 opn1 h1 h2 h3
   have e:dcsV v s fs f=Dcs.mk f.1 n (valV f.3 n) r 0:=by unfold dcsV;rw[h3]
   refine⟨_,h1.put hm,?_⟩
   rw[e,h2,y7m (ho i f (Nat.le_refl _) hf)]
  refine Cnd.mk (fun hm1=> ?_) fun hm1=> ?_
  ·obtain⟨d,hdd⟩:=Option.isSome_iff_exists.1 hm1
   rw[hdd]
   obtain⟨g,hg,hk,rfl⟩:=hd _ _ hdd
   obtain⟨j,hj⟩:=List.getElem?_of_mem hg
   have e:g=f:=by
    have a1:=w8w hF.b hj
    rw[←hk,w8w hF.b hf] at a1
    exact (Option.some.inj a1).symm
   subst e
   exact⟨done,hd,rfl⟩
  have hdc:=v9z (s:=s) (fs:=fs) hF.b hf
  unfold chsV at hdc
  refine Cnd.mk (fun hon=>fun _=> ?_) fun hon=> ?_
  case refine_2=>
   rw[if_pos (by simpa using hon)] at hdc
   exact z0d hvs.1 (fin hd rfl hdc)
  rw[if_neg (by rw[hon];simp)] at hdc
  have hol: ∀(j:Nat) g,j<i->v.4[j]? =some g->put opn f.1 true g.1=none:=fun j g hj hg=>by
   unfold Fl.put
   rw[if_neg (nodup_at hF.b hg hf (by omega))]
   exact ho j g (by omega) hg
  have hpl:=hF.p f hm
  refine LpH.ind (fun t=> ∃(j:Nat) (a b:Int) (c:ByteArray) (e:Int) (done1:ByteArray->Option Dcs),t=((j:Int),a,b,c,e,put opn f.1 true,done1,())/\j<=f.6.length/\DnI v s fs done1/\(f.6.find? fun p=> !metV v (fun g=>(dcV v s fs g).1) p)=(f.6.drop j).find? fun p=> !metV v (fun g=>(dcV v s fs g).1) p) (fun t=>(f.6.length - t.1).toNat) ?_ ⟨0,_,_,_,_,done,rfl,by omega,hd,rfl⟩
  rintro _ ⟨j,a,b,c,e,done1,rfl,hj,hd1,hfd⟩
  dsimp only
  refine Cnd.mk (fun hlt=>⟨by omega,fun p hp=> ?_⟩) fun hlt=> ?_
  ·have hp:f.6[j]? =some p:=hp
   have miss:metV v (fun g=>(dcV v s fs g).1) p=false->dcV v s fs f=(f.5,Rsn.mk 2 0 p.1 (-1)):=fun hmf=>by
    rw[hfd,z7n hp (by rw[hmf];rfl)] at hdc;exact hdc
   refine j97 (v:=v) (s:=s) hF.n ?_
   cases hfo:fof v p.1 with
   |none=>exact Cnd.no (by simp) (z0d hvs.1 (fin hd1 rfl (miss (by unfold metV;rw[hfo]))))
   |some g=>
    obtain⟨q,hq,hpk⟩:=w8v hfo
    have hqi:=hF.b.ord i f hf p (getm hp) q g hq hpk
    refine Cnd.yes rfl (Cnd.mk (fun hgo=>Cnd.no ?_ ?_) fun hgo=> ?_)
    ·show ¬(put opn f.1 true g.1).getD false=true
     rw[hol q g hqi hq];simp
    ·refine ih q hqi hq hd1 (fun j' g' hj' hg'=>hol j' g' (by omega) hg') fun done2 hd2=> ?_
     refine Cnd.mk (fun he=>⟨by unfold InI;omega,⟨j+1,a,b,c,e,done2,rfl,by omega,hd2,?_⟩,by show ((f.6.length:Int) - ((j:Int)+1)).toNat<((f.6.length:Int) - (j:Int)).toNat;omega⟩) fun he=>z0d hvs.1 (fin hd2 rfl (miss ?_))
     ·have he:(dcV v s fs g).1=p.2:=he
      rw[hfd,z6h hp]
      unfold metV;rw[hfo];simp only
      have hgo:g.4=true:=hgo
      rw[hgo,dt he];rfl
     ·have he: ¬(dcV v s fs g).1=p.2:=he
      unfold metV;rw[hfo];simp only
      rw[df he];simp
    ·have hgo: ¬g.4=true:=hgo
     refine z0d hvs.1 (fin hd1 rfl (miss ?_))
     unfold metV;rw[hfo];simp only
     rw[Bool.eq_false_iff.2 hgo];rfl
  ·rw[hfd,List.drop_eq_nil_of_le (by omega),List.find?_nil] at hdc
   clear hfd hlt
   refine j2b (f:=f) (s:=s) hs (hF.t f hm).1 (hF.t f hm).2 ?_
   unfold tgtV
   cases hix:ixF (tgP s) f.7 0 with
   |some q=>
    rw[hix] at hdc
    have hsp:=v9y hix
    refine Cnd.yes (by simp only;omega) ⟨by have:=Qd hsp.2.1;have:=(hF.t f hm).1;unfold InI;simp only;omega,by have:=Qd hsp.2.1;simp only;omega,fun y hy=> ?_⟩
    simp only at hy
    have hq2:=hsp.2.1
    rw[show ((q.1:Int)+1 - 1).toNat=q.1 - 0 by omega,hq2] at hy
    cases hy
    exact z0d hvs.1 (fin (r:=Rsn.mk 3 ((q.1:Int)+1) noT (-1)) hd1 rfl hdc)
   |none=>
    rw[hix] at hdc
    simp only at hdc
    refine Cnd.no (by simp) fun _=> ?_
    have hxl:=hv.xn
    refine LpH.ind (fun t=> ∃(j:Nat) (a b:Int) (c:ByteArray) (e:Int) (done1:ByteArray->Option Dcs),t=((j:Int),a,b,c,e,done1,put opn f.1 true,())/\j<=v.6.length/\DnI v s fs done1/\v.6.find? (inXV v s fs f.1)=(v.6.drop j).find? (inXV v s fs f.1)) (fun t=>(v.6.length - t.1).toNat) ?_ ⟨0,_,_,_,_,done1,rfl,by omega,hd1,rfl⟩
    clear hd1
    rintro _ ⟨j,a,b,c,e,done1,rfl,hj,hd1,hfd⟩
    dsimp only
    refine Cnd.mk (fun hlt=>⟨by omega,fun x hx=> ?_⟩) fun hlt=> ?_
    ·have hx:v.6[j]? =some x:=hx
     have next:inXV v s fs f.1 x=false->InI ((j:Int)+1)/\(∃(j':Nat) (a' b':Int) (c':ByteArray) (e':Int) (done2:ByteArray->Option Dcs),((j:Int)+1,a,b,c,e,done1,put opn f.1 true,())=((j':Int),a',b',c',e',done2,put opn f.1 true,())/\j'<=v.6.length/\DnI v s fs done2/\v.6.find? (inXV v s fs f.1)=(v.6.drop j').find? (inXV v s fs f.1))/\((v.6.length:Int) - ((j:Int)+1)).toNat<((v.6.length:Int) - (j:Int)).toNat:=fun hn=>
      ⟨by unfold InI;omega,⟨j+1,a,b,c,e,done1,rfl,by omega,hd1,by rw[hfd,z6h hx hn]⟩,by omega⟩
     refine Cnd.mk (fun h3=>Cnd.mk (fun h5=> ?_) fun h5=>next ?_) fun h3=>next ?_
     ·refine j91 (v:=v) (s:=s) hv hs hfs (Cnd.mk (fun he=>Cnd.mk (fun hxk=> ?_) fun hxk=>next ?_) fun he=>next ?_)
      ·have hin:inXV v s fs f.1 x=true:=v09 (dt h3) (v09 (dt h5) (dt hxk))
       rw[hfd,z7n hx hin] at hdc
       exact w5u (v:=v) (s:=s) hv hs (hv.xs x (getm hx)) (z0d hvs.1 (fin (r:=Rsn.mk 4 0 x.1 (abV v s x)) hd1 rfl hdc))
      ·exact z14 (.inr (z14 (.inr (df hxk))))
      ·refine z14 (.inr (z14 (.inr (df ?_))))
       rw[y7n he]
       exact fun e=>hF.x x (getm hx) e.symm
     ·exact z14 (.inr (z14 (.inl (df h5))))
     ·exact z14 (.inl (df h3))
    ·rw[hfd,List.drop_eq_nil_of_le (by omega),List.find?_nil] at hdc
     simp only at hdc
     clear hfd hlt
     unfold rlsV at hdc
     have hr:=hF.r f hm
     refine fun _=>LpH.ind (fun t=> ∃(j:Nat) (a b:Int) (c:ByteArray) (e:Int) (done1:ByteArray->Option Dcs),t=((j:Int),a,b,c,e,put opn f.1 true,done1,())/\j<=f.8.length/\DnI v s fs done1/\ixF (fun r=>cndV v s r.2) f.8 0=ixF (fun r=>cndV v s r.2) (f.8.drop j) j) (fun t=>(f.8.length - t.1).toNat) ?_ ⟨0,_,_,_,_,done1,rfl,by omega,hd1,rfl⟩
     clear hd1
     rintro _ ⟨j,a,b,c,e,done1,rfl,hj,hd1,hfd⟩
     dsimp only
     refine Cnd.mk (fun hlt=>⟨by omega,fun r hr0=> ?_⟩) fun hlt=> ?_
     ·have hr0:f.8[j]? =some r:=hr0
      have hrm:=hr.2 r (getm hr0)
      refine z07 (s:=s) hs _ (Nat.le_refl _) (by rw[Ju];exact hrm.1) (by rw[Ju];exact hrm.2.1) ?_
      rw[Ju]
      refine Cnd.mk (fun hc=>⟨by unfold InI;omega,?_⟩) fun hc=> ?_
      ·rw[hfd,y4n hr0 hc] at hdc
       exact j44 (v:=v) (s:=s) (r:=Rsn.mk 5 ((j:Int)+1) r.1 0) hs hN hrm.2.2 (z0d hvs.1 (fin hd1 rfl hdc))
      ·refine⟨by unfold InI;omega,⟨j+1,a,b,c,e,done1,rfl,by omega,hd1,?_⟩,by show ((f.8.length:Int) - ((j:Int)+1)).toNat<((f.8.length:Int) - (j:Int)).toNat;omega⟩
       rw[hfd,v9x hr0 (Bool.eq_false_iff.2 hc)]
     ·rw[hfd,List.drop_eq_nil_of_le (by omega)] at hdc
      exact j44 (v:=v) (s:=s) (r:=Rsn.mk 6 0 noT 0) hs hN (hF.d f hm) (z0d hvs.1 (fin hd1 rfl hdc))
end Go.En
end
noncomputable section
set_option maxRecDepth 100000
namespace Go.En
open Go Go.Fl Go.Fl.Lk Go.Fx
def flgV(v:Envt)(s:Subj)(fs:List Frc)(key:ByteArray):Dcs×Int:=match fof v key with
 |some f=>(dcsV v s fs f,0)
 |none=>(noD,11)
theorem q6j{v:Envt}{s:Subj}{fs:List Frc}{key:ByteArray}{K:Dcs->Int->Prop}(hv:AsB v)(hF:FlX v)(hs:SubB s)(hN:NumB s)(hfs:fs.length<=1000000000)(h:K (flgV v s fs key).1 (flgV v s fs key).2):Rj v s fs key K:=by
 unfold Rj q80
 unfold flgV at h
 refine j4i (v:=v) (s:=s) hv hs (j97 (v:=v) (s:=s) hF.n ?_)
 cases hf:fof v key with
 |none=>rw[hf] at h;exact Cnd.no (by simp) h
 |some f=>
  rw[hf] at h
  obtain⟨i,hi,_⟩:=w8v hf
  exact Cnd.yes rfl (v94 hv hF hs hN hfs hi DnI.nil (fun _ _ _ _=>rfl) fun _ _=>h)
abbrev fB:ByteArray:=ByteArray.mk (Array.mk [102])
abbrev smpF:Flg:=Flg.mk fB 1 [Val.mk 1 0 noT [],Val.mk 1 1 noT []] true 1 [] [] [] (Srv.mk 2 noT noT noT [])
abbrev smpE:Envt:=Envt.mk (Sett.mk noT noT 0) [] [] [smpF] [] []
theorem y7o:AsB smpE where
 ln:=by decide
 xn:=by decide
 sg:=v9m (by decide) (by simp)
 ex x hx:=by cases hx
 sa:=by decide
 ls l hl:=by cases hl
 xs x hx:=by cases hx
 cl x hx:=by cases hx
 nd:=by simp
theorem y7p:FlX smpE where
 b:=⟨by simp,fun i f hf p hp=>by
  have hf:[smpF][i]? =some f:=hf
  have:=List.mem_of_getElem? hf
  rw[List.mem_singleton] at this
  subst this;cases hp⟩
 n:=by decide
 vs f hf:=by
  rw[List.mem_singleton.1 hf]
  refine⟨by decide,fun x hx=> ?_⟩
  have hx:x∈[Val.mk 1 0 noT [],Val.mk 1 1 noT []]:=hx
  simp only[List.mem_cons,List.not_mem_nil,or_false] at hx
  rcases hx with rfl|rfl<;>simp
 p f hf:=by rw[List.mem_singleton.1 hf];decide
 t f hf:=by rw[List.mem_singleton.1 hf];exact⟨by decide,fun t ht=>by cases ht⟩
 r f hf:=by rw[List.mem_singleton.1 hf];exact⟨by decide,fun t ht=>by cases ht⟩
 d f hf:=by rw[List.mem_singleton.1 hf];exact⟨by decide,by decide⟩
 x x hx:=by cases hx
theorem y3h:flgV smpE (Subj.mk []) [] fB=(Dcs.mk fB 2 (Val.mk 1 1 noT []) (Rsn.mk 6 0 noT (-1)) 0,0):=by
 have hf:fof smpE fB=some smpF:=by simp[fof]
 have hd:dcV smpE (Subj.mk []) [] smpF=(2,Rsn.mk 6 0 noT (-1)):=by
  unfold dcV chsV
  simp[ixF,rlsV,svd,srvV]
 unfold flgV
 rw[hf]
 simp only
 unfold dcsV
 rw[hd]
 rfl
theorem v5s{K:Bool->Prop}(h:K true):q68 K:=by
 unfold q68 z29
 refine q6j (v:=smpE) y7o y7p (y3a (by decide) (by simp)) (fun c hc=>by cases hc) (by decide) ?_
 rw[y3h]
 exact Cnd.yes rfl (Cnd.yes rfl (Cnd.yes rfl (Cnd.yes rfl (by rw[dt ⟨rfl,rfl,rfl,rfl⟩];exact h))))
theorem v1j{V:Envt->Prop}(hV: ∀(v:Envt) (K:Bool->Prop),EnvS v->(∀b,(b=true->V v)->K b)->Vm v K)(hV0: ∀ds,V (Envt.mk (Sett.mk (ByteArray.mk (Array.mk [])) (ByteArray.mk (Array.mk [])) 0) ds [] [] [] []))
  {codes who:List Int}{K:Envt->Subj->List Frc->Prop}(hc:Byts codes)(hw:Byts who)(h: ∀v s f,EnvS v->EnvD v->V v->SubB s->NumB s->f.length<=3->K v s f):q2x codes who K:=by
 unfold q2x z3b
 refine v27 hc (by decide) (by decide) fun cl hD=>j4f hV hV0 hD fun v a hE hd hv _=>v27 hw (by decide) (by decide) fun wl hD2=>w07 hD2 fun s a hs hl hD3=>v1h (v:=v) hD3 hE fun f _ hf=>h v s f hE hd hv (v5f hs hl) (v5q hl) hf
theorem v1k{a b:Dcs}{K:Bool->Prop}(h: ∀r,(r=true↔a=b)->K r):z7g a b K:=by
 unfold z7g j3a
 refine Cnd.mk (fun h1=>Cnd.mk (fun h2=>j9n fun r hr=>Cnd.mk (fun h3=>Cnd.mk (fun h4=>h _ ⟨fun h5=> ?_,fun e=> ?_⟩) fun h4=>h _ ⟨fun e=>by simp at e,fun e=> ?_⟩) fun h3=>h _ ⟨fun e=>by simp at e,fun e=> ?_⟩) fun h2=>h _ ⟨fun e=>by simp at e,fun e=> ?_⟩) fun h1=>h _ ⟨fun e=>by simp at e,fun e=> ?_⟩
 ·replace h5:=of_decide_eq_true h5
  replace h3:=hr.1 h3
  clear hr h
  cases a with|mk a1 a2 a3 a4 a5=>cases b with|mk b1 b2 b3 b4 b5=>
  cases a3;cases b3;cases a4;cases b4
  simp only at h1 h2 h4 h5
  simp only[Val.mk.injEq] at h3
  obtain⟨e1,e2,e3,e4⟩:=h3
  obtain⟨g1,g2,g3,g4⟩:=h4
  subst h1 h2 h5 e1 e2 e3 e4 g1 g2 g3 g4
  rfl
 ·subst e;simp
 ·subst e;exact absurd ⟨rfl,rfl,rfl,rfl⟩ h4
 ·subst e;exact absurd (hr.2 rfl) h3
 ·subst e;exact absurd rfl h2
 ·subst e;exact absurd rfl h1
theorem v95{v:Envt}(hB:FlB v.4){i:Nat}{f:Flg}(h:v.4[i]? =some f){s:Subj}{fs:List Frc}:flgV v s fs f.1=(dcsV v s fs f,0):=by
 unfold flgV;rw[w8w hB h]
end Go.En
end
noncomputable section
set_option maxRecDepth 100000
namespace Go.En
open Go Go.Fl Go.Fl.Lk Go.Fx Go.Dg
theorem z97{α:Type}{p q:α->Bool}: ∀{l:List α},(∀x∈l,p x=true->q x=true)->(l.filter q).find? p=l.find? p
 |[],_=>rfl
 |a::l,h=>by
  have ih:=z97 (p:=p) (q:=q) (l:=l) fun x hx=>h x (List.mem_cons_of_mem _ hx)
  by_cases hq:q a=true
  ·rw[List.filter_cons_of_pos hq,List.find?_cons,List.find?_cons,ih]
  ·have hp:p a=false:=by
    rw[←Bool.not_eq_true];exact fun hp=>hq (h a List.mem_cons_self hp)
   rw[List.filter_cons_of_neg hq,List.find?_cons,hp,ih]
theorem z6l{α:Type}{q:α->Bool}: ∀{l:List α} {i:Nat} {x:α},(l.filter q)[i]? =some x-> ∃j:Nat,l[j]? =some x/\ ∀(i':Nat) y,i'<i->(l.filter q)[i']? =some y-> ∃j':Nat,j'<j/\l[j']? =some y
 |[],i,x,h=>by simp at h
 |a::l,i,x,h=>by
  by_cases hq:q a=true
  ·rw[List.filter_cons_of_pos hq] at h⊢
   cases i with
   |zero=>exact⟨0,by simpa using h,fun i' y hi=>by omega⟩
   |succ n=>
    rw[List.getElem?_cons_succ] at h
    obtain⟨j,hj,hall⟩:=z6l h
    refine⟨j+1,by rw[List.getElem?_cons_succ];exact hj,fun i' y hi hy=> ?_⟩
    cases i' with
    |zero=>exact⟨0,by omega,by simpa using hy⟩
    |succ m=>
     rw[List.getElem?_cons_succ] at hy
     obtain⟨j',hj',hy'⟩:=hall m y (by omega) hy
     exact⟨j'+1,by omega,by rw[List.getElem?_cons_succ];exact hy'⟩
  ·rw[List.filter_cons_of_neg hq] at h⊢
   obtain⟨j,hj,hall⟩:=z6l h
   refine⟨j+1,by rw[List.getElem?_cons_succ];exact hj,fun i' y hi hy=> ?_⟩
   obtain⟨j',hj',hy'⟩:=hall i' y hi hy
   exact⟨j'+1,by omega,by rw[List.getElem?_cons_succ];exact hy'⟩
def wN(v:Envt)(need:ByteArray->Bool):Envt:=Envt.mk v.1 v.2 v.3 (v.4.filter fun f=>need f.1) v.5 (v.6.filter fun x=>need x.3)
def Clo(v:Envt)(need:ByteArray->Bool):Prop:= ∀f∈v.4,need f.1=true-> ∀p∈f.6,need p.1=true
theorem y7q{v:Envt}{need:ByteArray->Bool}{key:ByteArray}(h:need key=true):fof (wN v need) key=fof v key:=
 z97 fun x _ hx=>by rw[of_decide_eq_true hx];exact h
theorem y98{v:Envt}{need:ByteArray->Bool}(h:EnvS v):EnvS (wN v need) where
 hkind:=h.hkind
 attrs:=h.attrs
 slen:=h.slen
 segs:=h.segs
 flen:=Nat.le_trans (List.length_filter_le _ _) h.flen
 flags f hf:=h.flags f (List.mem_filter.1 hf).1
 llen:=h.llen
 layers:=h.layers
 xlen:=Nat.le_trans (List.length_filter_le _ _) h.xlen
 exps x hx:=h.exps x (List.mem_filter.1 hx).1
theorem y4o{α:Type}{k:α->ByteArray}{l:List α}(h:l.Pairwise fun a b=>Lk.blt (k a) (k b)):w5v k l:=fun i a b ha hb=>by
 have h1:=Qd ha
 have h2:=Qd hb
 have:=List.pairwise_iff_getElem.1 h i (i+1) h1 h2 (by omega)
 rw[List.getElem?_eq_getElem h1] at ha
 rw[List.getElem?_eq_getElem h2] at hb
 rw[←Option.some.inj ha,←Option.some.inj hb];exact this
theorem y7r:flK.Pairwise fun a b=>Lk.blt a b:=by unfold flK;decide
theorem y7s:exK.Pairwise fun a b=>Lk.blt a b:=by unfold exK;decide
theorem u17{v:Envt}(hD:EnvD v):v.4.Pairwise fun a b=>Lk.blt a.1 b.1:=by
 have:(v.4.map Flg.key).Pairwise fun a b=>Lk.blt a b:=by
  have e:v.4.map Flg.key=flK.take v.4.length:=hD.flags.keys
  rw[e];exact y7r.sublist (List.take_sublist _ _)
 exact List.pairwise_map.1 this
theorem u18{v:Envt}(hD:EnvD v):v.6.Pairwise fun a b=>Lk.blt a.1 b.1:=List.pairwise_map.1 (y7s.sublist hD.exps)
def rkF(s:ByteArray):Nat:=if s=flK.getD 0 noT then 0 else if s=flK.getD 1 noT then 1 else if s=flK.getD 2 noT then 2 else if s=flK.getD 3 noT then 3 else 4
theorem y99: ∀i,i<4->rkF (flK.getD i noT)=i:=by decide
theorem y4p{v:Envt}(hD:EnvD v)(hE:EnvS v){i:Nat}{f:Flg}(h:v.4[i]? =some f):rkF f.1=i:=by
 have hi:=Qd h
 have hl:=hE.flen
 have hi4:i<4:=by
  have:v.4.length<=4:=hl
  omega
 have e:(v.4.map Flg.key)[i]? =some f.1:=by rw[List.getElem?_map,h];rfl
 have ek:v.4.map Flg.key=flK.take v.4.length:=hD.flags.keys
 rw[ek] at e
 have e2:=v9v e
 have:flK.getD i noT=f.1:=by rw[List.getD_eq_getElem?_getD,e2];rfl
 rw[←this];exact y99 i hi4
theorem u0a{v:Envt}(hD:EnvD v)(hE:EnvS v):RkOk rkF v:=fun f hf q hq=>by
 obtain⟨i,hi⟩:=List.mem_iff_getElem?.1 hf
 obtain⟨g,hg,e,_⟩:=(hD.flags.all i f hi).needs q hq
 obtain⟨j,hj⟩:=List.mem_iff_getElem?.1 hg
 have hjl:=Qd hj
 rw[List.length_take] at hjl
 have hj2:v.4[j]? =some g:=by rw[List.getElem?_take_of_lt (by omega)] at hj;exact hj
 have e1:=y4p hD hE hj2
 have e2:=y4p hD hE hi
 have e:q.1=g.1:=e
 rw[e,e1,e2];omega
theorem u19{v:Envt}{need:ByteArray->Bool}(hc:Clo v need)(h:VOk v):VOk (wN v need) where
 r:=⟨h.r.s,h.r.d,h.r.g,fun f hf=>h.r.f f (List.mem_filter.1 hf).1,h.r.l,fun x hx=>h.r.x x (List.mem_filter.1 hx).1⟩
 g:=h.g
 c:=h.c
 f f hf:=by
  obtain⟨hf,hn⟩:=List.mem_filter.1 hf
  obtain⟨h1,h2⟩:=h.f f hf
  refine⟨fun p hp=> ?_,h2⟩
  obtain⟨g,hg,hle⟩:=h1 p hp
  exact⟨g,by rw[y7q (hc f hf hn p hp)];exact hg,hle⟩
 x i x hx:=by
  obtain⟨j,hj,hbef⟩:=z6l hx
  have hn:need x.3=true:=(List.mem_filter.1 (getm hx)).2
  have q:=h.x j x hj
  obtain⟨g,hg,ha⟩:=q.f
  refine⟨q.l,⟨g,by rw[y7q hn];exact hg,ha⟩,q.e,q.c.imp id fun ⟨c1,c2⟩=>⟨fun l hl b b0 b1 hb=> ?_,fun h2 i' y hi' hy=> ?_⟩⟩
  ·obtain⟨d1,d2⟩:=c1 l hl b b0 b1 hb
   refine⟨d1,fun i' y hi' hy=> ?_⟩
   obtain⟨j',hj',hy'⟩:=hbef i' y hi' hy
   exact d2 j' y hj' hy'
  ·obtain⟨j',hj',hy'⟩:=hbef i' y hi' hy
   exact c2 h2 j' y hj' hy'
theorem y7t{v:Envt}{need:ByteArray->Bool}{K:Bool->Prop}(hE:EnvS v)(hD:EnvD v)(hV:VOk v)(hc:Clo v need)(h:K true):Vm (wN v need) K:=
 j45 rkF (y98 hE) (fun _=>h) fun hn=>absurd ⟨u19 hc hV,y4o ((u17 hD).filter _),y4o ((u18 hD).filter _),fun f hf q hq=>u0a hD hE f (List.mem_filter.1 hf).1 q hq⟩ hn
theorem y7u{v:Envt}{need:ByteArray->Bool}(h:FlB v.4):FlB (wN v need).4 where
 nd:=h.nd.sublist ((List.filter_sublist (p:=fun f:Flg=>need f.1) (l:=v.4)).map _)
 ord i f hf p hp j g hg e:=by
  refine Nat.lt_of_not_le fun hle=> ?_
  have hf:(v.4.filter fun f=>need f.1)[i]? =some f:=hf
  have hg:(v.4.filter fun f=>need f.1)[j]? =some g:=hg
  rcases Nat.lt_or_ge i j with hij|hij
  ·obtain⟨j0,hj0,hbef⟩:=z6l hg
   obtain⟨i0,hi0,hf0⟩:=hbef i f hij hf
   have:=h.ord i0 f hf0 p hp j0 g hj0 e;omega
  ·have:i=j:=by omega
   subst this
   rw[hf] at hg;cases hg
   obtain⟨i0,hi0,_⟩:=z6l hf
   have:=h.ord i0 f hi0 p hp i0 f hi0 e;omega
theorem u0b{v:Envt}{need:ByteArray->Bool}(h:AsB v):AsB (wN v need) where
 ln:=h.ln
 xn:=Nat.le_trans (List.length_filter_le _ _) h.xn
 sg:=h.sg
 ex x hx:=h.ex x (List.mem_filter.1 hx).1
 sa:=h.sa
 ls:=h.ls
 xs x hx:=h.xs x (List.mem_filter.1 hx).1
 cl x hx:=h.cl x (List.mem_filter.1 hx).1
 nd:=h.nd.sublist ((List.filter_sublist (p:=fun x:Exper=>need x.3) (l:=v.6)).map _)
theorem u2a{v:Envt}{need:ByteArray->Bool}(h:FlX v):FlX (wN v need) where
 b:=y7u h.b
 n:=Nat.le_trans (List.length_filter_le _ _) h.n
 vs f hf:=h.vs f (List.mem_filter.1 hf).1
 p f hf:=h.p f (List.mem_filter.1 hf).1
 t f hf:=h.t f (List.mem_filter.1 hf).1
 r f hf:=h.r f (List.mem_filter.1 hf).1
 d f hf:=h.d f (List.mem_filter.1 hf).1
 x x hx:=h.x x (List.mem_filter.1 hx).1
theorem v96{v:Envt}(hV:VOk v){x y:Exper}(hx:x∈v.6)(hy:y∈v.6)(h1:x.5=2)(h2:y.5=2)(e:x.2=y.2){b:Int}(b0:0<=b)(b1:b<10000)(i1:insV x.6 b=true)(i2:insV y.6 b=true):x=y:=by
 obtain⟨i,hi⟩:=List.mem_iff_getElem?.1 hx
 obtain⟨j,hj⟩:=List.mem_iff_getElem?.1 hy
 have no: ∀{i j:Nat} {x y:Exper},v.6[i]? =some x->v.6[j]? =some y->x.5=2->y.5=2->x.2=y.2->insV x.6 b=true->insV y.6 b=true-> ¬j<i:=fun {i j x y} hi hj h1 h2 e i1 i2 hji=>by
  have q:=hV.x i x hi
  have hl:=q.l
  obtain⟨l,hl⟩:=Option.isSome_iff_exists.1 hl
  rcases q.c with h3|⟨c,_⟩
  ·omega
  ·exact (c l hl b b0 b1 i1).2 j y hji hj e.symm (by omega) i2
 have a:=no hi hj h1 h2 e i1 i2
 have b:=no hj hi h2 h1 e.symm i2 i1
 have:i=j:=by omega
 subst this
 rw[hi] at hj;exact Option.some.inj hj
theorem u2b{v:Envt}{need:ByteArray->Bool}(hA:AsB v){x:Exper}(hx:x∈(wN v need).6):xof (wN v need) x.1=xof v x.1:=by
 rw[v29 (u0b hA) hx,v29 hA (List.mem_filter.1 hx).1]
theorem y4q{v:Envt}{need:ByteArray->Bool}(hA:AsB v){s:Subj}{x:Exper}(hx:x∈(wN v need).6):j90 (wN v need) s x.1=j90 v s x.1:=by
 unfold j90;rw[u2b hA hx];rfl
theorem u0c{v:Envt}{need:ByteArray->Bool}(hA:AsB v)(hF:FlX v)(hV:VOk v){s:Subj}{x:Exper}(hx:x∈v.6)(hn:need x.3=true):((asgV v s [] x.2).1.2=x.1↔(asgV (wN v need) s [] x.2).1.2=x.1)/\((asgV v s [] x.2).1.2=x.1->(asgV v s [] x.2).1.4=(asgV (wN v need) s [] x.2).1.4):=by
 have hx0:=hF.x x hx
 have hxw:x∈(wN v need).6:=List.mem_filter.2 ⟨hx,hn⟩
 have hlo:lof (wN v need) x.2=lof v x.2:=rfl
 unfold asgV
 rw[hlo]
 cases hl:lof v x.2 with
 |none=>exact⟨Iff.rfl,fun _=>rfl⟩
 |some l=>
  show ((layV v s l [] x.2).2=x.1↔(layV (wN v need) s l [] x.2).2=x.1)/\((layV v s l [] x.2).2=x.1->(layV v s l [] x.2).4=(layV (wN v need) s l [] x.2).4)
  have f1:fcdV v [] x.2=none:=rfl
  have f2:fcdV (wN v need) [] x.2=none:=rfl
  have hh:v08 (wN v need) s=v08 v s:=rfl
  unfold layV
  rw[f1,f2,hh]
  dsimp only
  by_cases hheld:v08 v s=true∨(fnd s l.2).isSome=true/\bktV l s<l.4
  ·rw[if_pos hheld,if_pos hheld];exact⟨Iff.rfl,fun _=>rfl⟩
  rw[if_neg hheld,if_neg hheld]
  cases hc:fnd s l.2 with
  |none=>exact⟨Iff.rfl,fun _=>rfl⟩
  |some c=>
   have hb:bktV l s=ofV l.3 c.2:=by unfold bktV;rw[hc]
   obtain⟨b0,b1⟩:=y6s l.3 c.2
   rw[←hb] at b0 b1
   generalize bktV l s=b at b0 b1
   have pr: ∀{u:Envt} {y:Exper},hitV u s x.2 b=some y->y∈u.6/\y.2=x.2/\y.5=2/\insV y.6 b=true/\j90 u s y.1=true:=fun {u y} h=>by
    have hm:=List.mem_of_find?_eq_some h
    have hp:=List.find?_some h
    simp only[Bool.and_eq_true,decide_eq_true_eq] at hp
    exact⟨hm,hp.1,hp.2.1,hp.2.2.1,hp.2.2.2⟩
   have ht: ∀{u:Envt} {y:Exper},y∈u.6->y.2=x.2->y.5=2->insV y.6 b=true->j90 u s y.1=true-> ∃z,hitV u s x.2 b=some z:=fun {u y} hm a1 a2 a3 a4=>by
    cases hq:hitV u s x.2 b with
    |some z=>exact⟨z,rfl⟩
    |none=>
     have:=List.find?_eq_none.1 hq y hm
     rw[dt a1,dt a2,a3,a4] at this
     exact absurd rfl this
   have same: ∀{y:Exper},y∈v.6->y.1=x.1->y=x:=fun {y} hy e=>by
    have h1:=v29 hA hy
    rw[e,v29 hA hx] at h1
    exact (Option.some.inj h1).symm
   have fw:hitV v s x.2 b=some x->hitV (wN v need) s x.2 b=some x:=fun h=>by
    obtain⟨m,a1,a2,a3,a4⟩:=pr h
    obtain⟨z,hz⟩:=ht (u:=wN v need) hxw a1 a2 a3 (by rw[y4q hA hxw];exact a4)
    obtain⟨m',b1',b2',b3',_⟩:=pr hz
    have:=v96 hV (List.mem_filter.1 m').1 hx b2' a2 (b1'.trans a1.symm) b0 b1 b3' a3
    rw[hz,this]
   have bw:hitV (wN v need) s x.2 b=some x->hitV v s x.2 b=some x:=fun h=>by
    obtain⟨m,a1,a2,a3,a4⟩:=pr h
    obtain⟨z,hz⟩:=ht (u:=v) hx a1 a2 a3 (by rw[←y4q hA hxw];exact a4)
    obtain⟨m',b1',b2',b3',_⟩:=pr hz
    have:=v96 hV m' hx b2' a2 (b1'.trans a1.symm) b0 b1 b3' a3
    rw[hz,this]
   have k1:(match hitV v s x.2 b with|some y=>Asg.mk x.2 y.1 b (w8o y.7 (ofV y.4 c.2)) false|none=>Asg.mk x.2 noT b 0 false).2=x.1↔hitV v s x.2 b=some x:=by
    cases hq:hitV v s x.2 b with
    |none=>exact⟨fun e=>absurd e.symm hx0,fun e=>by cases e⟩
    |some y=>exact⟨fun e=>by rw[same (pr hq).1 e],fun e=>by cases e;rfl⟩
   have k2:(match hitV (wN v need) s x.2 b with|some y=>Asg.mk x.2 y.1 b (w8o y.7 (ofV y.4 c.2)) false|none=>Asg.mk x.2 noT b 0 false).2=x.1↔hitV (wN v need) s x.2 b=some x:=by
    cases hq:hitV (wN v need) s x.2 b with
    |none=>exact⟨fun e=>absurd e.symm hx0,fun e=>by cases e⟩
    |some y=>exact⟨fun e=>by rw[same (List.mem_filter.1 (pr hq).1).1 e],fun e=>by cases e;rfl⟩
   refine⟨k1.trans ⟨fun e=>k2.2 (fw e),fun e=>bw (k2.1 e)⟩,fun e=> ?_⟩
   have e1:=k1.1 e
   show (match hitV v s x.2 b with|some y=>Asg.mk x.2 y.1 b (w8o y.7 (ofV y.4 c.2)) false|none=>Asg.mk x.2 noT b 0 false).4=(match hitV (wN v need) s x.2 b with|some y=>Asg.mk x.2 y.1 b (w8o y.7 (ofV y.4 c.2)) false|none=>Asg.mk x.2 noT b 0 false).4
   rw[e1,fw e1]
theorem u2c{v:Envt}{need:ByteArray->Bool}(hA:AsB v)(hF:FlX v)(hV:VOk v){s:Subj}{key:ByteArray}(hn:need key=true){x:Exper}(hx:x∈v.6):inXV (wN v need) s [] key x=inXV v s [] key x:=by
 unfold inXV
 by_cases h1:x.3=key
 ·rw[dt h1]
  have e:=(u0c (need:=need) (s:=s) hA hF hV hx (by rw[h1];exact hn)).1
  congr 1
  congr 1
  exact decide_eq_decide.2 e.symm
 ·rw[df h1,Bool.false_and,Bool.false_and]
theorem dc_w{v:Envt}{need:ByteArray->Bool}(hA:AsB v)(hF:FlX v)(hV:VOk v)(hc:Clo v need){s:Subj}: ∀(i:Nat) f,v.4[i]? =some f->need f.1=true->dcV (wN v need) s [] f=dcV v s [] f:=by
 intro i
 induction i using Nat.strongRecOn with
 |ind i ih=>
  intro f hf hn
  have hfw:f∈(wN v need).4:=List.mem_filter.2 ⟨getm hf,hn⟩
  obtain⟨j,hj⟩:=List.mem_iff_getElem?.1 hfw
  rw[v9z hF.b hf,v9z (y7u hF.b) hj]
  have hmet: ∀p∈f.6,metV (wN v need) (fun g=>(dcV (wN v need) s [] g).1) p=metV v (fun g=>(dcV v s [] g).1) p:=fun p hp=>by
   unfold metV
   rw[y7q (hc f (getm hf) hn p hp)]
   cases hg:fof v p.1 with
   |none=>rfl
   |some g=>
    obtain⟨k,hk,e⟩:=w8v hg
    have:=ih k (hF.b.ord i f hf p hp k g hk e) g hk (by rw[←e];exact hc f (getm hf) hn p hp)
    show (g.4 && decide ((dcV (wN v need) s [] g).1=p.2))=(g.4 && decide ((dcV v s [] g).1=p.2))
    rw[this]
  have hfind:f.6.find? (fun p=> !metV (wN v need) (fun g=>(dcV (wN v need) s [] g).1) p)=f.6.find? (fun p=> !metV v (fun g=>(dcV v s [] g).1) p):=z7p fun p hp=>by rw[hmet p hp]
  have hx:(wN v need).6.find? (inXV (wN v need) s [] f.1)=v.6.find? (inXV v s [] f.1):=by
   have e1:(wN v need).6.find? (inXV (wN v need) s [] f.1)=(v.6.filter fun x=>need x.3).find? (inXV v s [] f.1):=z7p fun x hx=>u2c hA hF hV hn (List.mem_filter.1 hx).1
   rw[e1]
   refine z97 fun x _ hp=> ?_
   unfold inXV at hp
   simp only[Bool.and_eq_true,decide_eq_true_eq] at hp
   rw[hp.1];exact hn
  have hr:rlsV (wN v need) s f=rlsV v s f:=rfl
  unfold chsV
  rw[hfind,hx,hr]
  by_cases hon:f.4=false
  ·rw[if_pos hon,if_pos hon]
  rw[if_neg hon,if_neg hon]
  cases f.6.find? (fun p=> !metV v (fun g=>(dcV v s [] g).1) p) with
  |some p=>rfl
  |none=>
   cases ixF (tgP s) f.7 0 with
   |some q=>rfl
   |none=>
    cases hq:v.6.find? (inXV v s [] f.1) with
    |none=>rfl
    |some x=>
     have hm:=List.mem_of_find?_eq_some hq
     have hp:=List.find?_some hq
     unfold inXV at hp
     simp only[Bool.and_eq_true,decide_eq_true_eq] at hp
     have e:=(u0c (need:=need) (s:=s) hA hF hV hm (by rw[hp.1];exact hn)).2 hp.2.2
     have ab:abV (wN v need) s x=abV v s x:=rfl
     show ((asgV (wN v need) s [] x.2).1.4,Rsn.mk 4 0 x.1 (abV (wN v need) s x))=((asgV v s [] x.2).1.4,Rsn.mk 4 0 x.1 (abV v s x))
     rw[←e,ab]
theorem y3i{v:Envt}{need:ByteArray->Bool}(hA:AsB v)(hF:FlX v)(hV:VOk v)(hc:Clo v need){s:Subj}{i:Nat}{f:Flg}(hf:v.4[i]? =some f)(hn:need f.1=true):flgV (wN v need) s [] f.1=(dcsV v s [] f,0)/\flgV v s [] f.1=(dcsV v s [] f,0):=by
 obtain⟨j,hj⟩:=List.mem_iff_getElem?.1 (show f∈(wN v need).4 from List.mem_filter.2 ⟨getm hf,hn⟩)
 refine⟨?_,v95 hF.b hf⟩
 rw[v95 (y7u hF.b) hj]
 unfold dcsV
 rw[dc_w hA hF hV hc i f hf hn]
end Go.En
end
noncomputable section
set_option maxRecDepth 100000
namespace Go.En
open Go Go.Fl Go.Fl.Lk Go.Fx Go.Dg
def Nd_(F:ByteArray->Option Bool)(s:ByteArray):Bool:=(F s).getD false
theorem w2t{F:ByteArray->Option Bool}{s t:ByteArray}:Nd_ (Fl.put F s true) t=true↔t=s∨Nd_ F t=true:=by
 unfold Nd_ Fl.put
 by_cases h:t=s
 ·rw[if_pos h];exact⟨fun _=> .inl h,fun _=>rfl⟩
 ·rw[if_neg h];exact⟨.inr,fun h'=>h'.resolve_left h⟩
def Qi(v:Envt)(i:Nat)(F:ByteArray->Option Bool):Prop:= ∀(m:Nat) g,v.4[m]? =some g->v.4.length<=m+i->Nd_ F g.1=true-> ∀p∈g.6,Nd_ F p.1=true
structure Pas(v:Envt)(i:Nat)(F0 F:ByteArray->Option Bool)(k:Nat):Prop where
 sub: ∀s,Nd_ F0 s=true->Nd_ F s=true
 top: ∀(m:Nat) g,v.4[m]? =some g->v.4.length<=m+i+1->Nd_ F g.1=true->Nd_ F0 g.1=true
 don: ∀(m:Nat) g,m<k->v.4[m]? =some g->Nd_ F0 g.1=true-> ∀p∈g.6,Nd_ F p.1=true
theorem Pas.refl{v:Envt}{i:Nat}{F:ByteArray->Option Bool}:Pas v i F F 0:=⟨fun _ h=>h,fun _ _ _ _ h=>h,fun m g hm=>by omega⟩
theorem Pas.put{v:Envt}{i k:Nat}{F0 F:ByteArray->Option Bool}(hB:FlB v.4)(hq:Qi v i F0)(h:Pas v i F0 F k){g:Flg}(hg:v.4[k]? =some g)(hn:Nd_ F g.1=true){p:Prq}(hp:p∈g.6):Pas v i F0 (Fl.put F p.1 true) k where
 sub s hs:=w2t.2 (.inr (h.sub s hs))
 top m g' hm hle hs:=by
  rcases w2t.1 hs with e|hs
  ·have hlt:=hB.ord k g hg p hp m g' hm e.symm
   have h0:=h.top k g hg (by omega) hn
   rw[e]
   exact hq k g hg (by omega) h0 p hp
  ·exact h.top m g' hm hle hs
 don m g' hm hg' hs p' hp':=w2t.2 (.inr (h.don m g' hm hg' hs p' hp'))
theorem Pas.next{v:Envt}{i k:Nat}{F0 F:ByteArray->Option Bool}(h:Pas v i F0 F k){g:Flg}(hg:v.4[k]? =some g)(hd:Nd_ F g.1=true-> ∀p∈g.6,Nd_ F p.1=true):Pas v i F0 F (k+1):=
 ⟨h.sub,h.top,fun m g' hm hg' hs=>by
  rcases Nat.lt_or_ge m k with hmk|hmk
  ·exact h.don m g' hmk hg' hs
  ·rw[show m=k by omega,hg] at hg'
   cases hg';exact hd (h.sub _ hs)⟩
theorem Pas.fin{v:Envt}{i:Nat}{F0 F:ByteArray->Option Bool}(h:Pas v i F0 F v.4.length):Qi v (i+1) F:=fun m g hg hle hs=>h.don m g (Qd hg) hg (h.top m g hg (by omega) hs)
theorem Qi.zero{v:Envt}{F:ByteArray->Option Bool}:Qi v 0 F:=fun m g hg hle=>by have:=Qd hg;omega
theorem Qi.clo{v:Envt}{F:ByteArray->Option Bool}(h:Qi v v.4.length F):Clo v (Nd_ F):=fun f hf hn p hp=>by
 obtain⟨m,hm⟩:=List.mem_iff_getElem?.1 hf
 exact h m f hm (by omega) hn p hp
theorem y7v{codes who:List Int}{K:Envt->Subj->List Frc->Prop}(hc:Byts codes)(hw:Byts who)(h: ∀v s f,EnvS v->EnvD v->(v.4=[]∨VOk v)->SubB s->NumB s->f.length<=3->K v s f):q2x codes who K:=
 v1j (V:=fun v=>v.4=[]∨VOk v) (fun v K hE hK=>j45 rkF hE (fun hV=>hK true fun _=> .inr hV) fun _=>hK false fun e=>by cases e) (fun _=> .inl rfl) hc hw h
theorem v97{α:Type}{l:List α}{q:α->Bool}{j:Nat}{y:α}(h:l[j]? =some y):(l.take (j+1)).filter q=(l.take j).filter q++(if q y=true then [y] else []):=by
 rw[tk1 h,List.filter_append]
 by_cases hq:q y=true
 ·rw[if_pos hq,List.filter_cons_of_pos hq];rfl
 ·rw[if_neg hq,List.filter_cons_of_neg hq];rfl
end Go.En
end
noncomputable section
set_option maxRecDepth 100000
namespace Go.En
open Go Go.Fl Go.Fl.Lk Go.Fx Go.Dg
theorem j58{codes who:List Int}{which:Int}{K:Bool->Prop}(hc:Byts codes)(hw:Byts who)(h:K true):Z2 codes who which K:=by
 unfold Z2 Rl
 refine v5s (Cnd.yes rfl (y7v hc hw fun v s fs hE hD hV hs hN _=>fun _=>Cnd.mk (fun _=>h) fun hn0=>fun _=> ?_))
 have hV:VOk v:=hV.resolve_left fun e=>hn0 (by rw[e];rfl)
 have hF:=y96 hE hD
 have hA:=y91 hE hD
 have hB:=hF.b
 have h4:v.4.length<=4:=hE.flen
 have h6:v.6.length<=3:=hE.xlen
 refine y3b (by omega) (by omega) fun k k0 k1=>⟨⟨k0,k1⟩,fun f hf=> ?_⟩
 obtain⟨kn,rfl⟩: ∃q:Nat,k=q:=⟨k.toNat,by omega⟩
 have hf:v.4[kn]? =some f:=hf
 refine Lp2.ind (fun (i:Int) F=> ∃j:Nat,i=(j:Int)/\j<=v.4.length/\Nd_ F f.1=true/\Qi v j F) (fun (i:Int) _=>(v.4.length - i).toNat) ?_ ⟨0,rfl,by omega,w2t.2 (.inl rfl),Qi.zero⟩
 rintro i F0 ⟨j,rfl,hj,hnf,hq⟩ _
 refine Cnd.mk (fun hc=> ?_) fun hc=> ?_
 ·refine Lp2.ind (fun (k:Int) F=> ∃m:Nat,k=(m:Int)/\m<=v.4.length/\Pas v j F0 F m) (fun (k:Int) _=>(v.4.length - k).toNat) ?_ ⟨0,rfl,by omega,Pas.refl⟩
  rintro k F ⟨m,rfl,hm,hp⟩ _
  refine Cnd.mk (fun hc2=> ?_) fun hc2=> ?_
  rotate_left
  ·have hml:m=v.4.length:=by omega
   subst hml
   exact⟨by unfold InI;omega,⟨j+1,by omega,by omega,hp.sub _ hnf,hp.fin⟩,by omega⟩
  obtain⟨g,hg⟩: ∃g,v.4[m]? =some g:=⟨_,List.getElem?_eq_getElem (by omega)⟩
  have nl:g.6.length<=4:=(hE.flags g (getm hg)).nlen
  have atg: ∀{k:Flg->Prop},k g->At v.4 (m:Int) k:=fun hk=>⟨by omega,fun y hy=>by
   have hy:v.4[m]? =some y:=hy
   rw[hg] at hy;cases hy;exact hk⟩
  refine Lp2.ind (fun (q:Int) F'=> ∃t:Nat,q=(t:Int)/\t<=g.6.length/\Pas v j F0 F' m/\ ∀(u:Nat) p,u<t->g.6[u]? =some p->Nd_ F' p.1=true) (fun (q:Int) _=>(g.6.length - q).toNat) ?_ ⟨0,rfl,by omega,hp,fun u p hu=>by omega⟩
  rintro q F' ⟨t,rfl,ht,hp',hd⟩
  have nx:(Nd_ F' g.1=true-> ∀p∈g.6,Nd_ F' p.1=true)->InI ((m:Int)+1)/\(∃m':Nat,(m:Int)+1=(m':Int)/\m'<=v.4.length/\Pas v j F0 F' m')/\(v.4.length - ((m:Int)+1)).toNat<(v.4.length - (m:Int)).toNat:=fun hh=>⟨by unfold InI;omega,⟨m+1,by omega,by omega,hp'.next hg hh⟩,by omega⟩
  refine atg (Cnd.mk (fun hn=>atg fun _=>Cnd.mk (fun ht2=>atg ⟨by omega,fun p hpp=>⟨by unfold InI;omega,⟨t+1,by omega,by omega,hp'.put hB hq hg hn (getm hpp),fun u p' hu hp2=> ?_⟩,by omega⟩⟩) fun ht2=>nx fun _ p hpp=> ?_) fun hn=>nx fun hh=>absurd hh hn)
  ·have hpp:g.6[t]? =some p:=hpp
   rcases Nat.lt_or_ge u t with hut|hut
   ·exact w2t.2 (.inr (hd u p' hut hp2))
   ·rw[show u=t by omega,hpp] at hp2
    cases hp2;exact w2t.2 (.inl rfl)
  ·obtain⟨u,hu⟩:=List.mem_iff_getElem?.1 hpp
   exact hd u p (by have:=Qd hu;omega) hu
 have hjl:j=v.4.length:=by omega
 subst hjl
 have hcl:=hq.clo
 refine Lp2.ind (fun (i:Int) l=> ∃j:Nat,i=(j:Int)/\j<=v.4.length/\l=(v.4.take j).filter fun f=>Nd_ F0 f.1) (fun (i:Int) _=>(v.4.length - i).toNat) ?_ ⟨0,rfl,by omega,rfl⟩
 rintro i l ⟨j,rfl,hj,rfl⟩ _
 have ll:((v.4.take j).filter fun f=>Nd_ F0 f.1).length<=4:=Nat.le_trans (List.length_filter_le _ _) (by rw[List.length_take];omega)
 refine Cnd.mk (fun hc=>⟨by omega,fun y hy=> ?_⟩) fun hc=> ?_
 ·have hy:v.4[j]? =some y:=hy
  have ft:=v97 (q:=fun f:Flg=>Nd_ F0 f.1) hy
  refine Cnd.mk (fun hn=>⟨by omega,fun y2 hy2=> ?_⟩) fun hn=>⟨by unfold InI;omega,⟨j+1,by omega,by omega,?_⟩,by omega⟩
  ·have hy2:v.4[j]? =some y2:=hy2
   rw[hy] at hy2;cases hy2
   have hn:Nd_ F0 y.1=true:=hn
   rw[if_pos hn] at ft
   exact⟨by unfold Sml;simp;omega,by unfold InI;omega,⟨j+1,by omega,by omega,ft.symm⟩,by omega⟩
  ·have hn: ¬Nd_ F0 y.1=true:=hn
   rw[if_neg hn,List.append_nil] at ft
   exact ft.symm
 rw[List.take_of_length_le (show v.4.length<=j by omega)]
 refine Lp2.ind (fun (i:Int) l=> ∃j:Nat,i=(j:Int)/\j<=v.6.length/\l=(v.6.take j).filter fun x=>Nd_ F0 x.3) (fun (i:Int) _=>(v.6.length - i).toNat) ?_ ⟨0,rfl,by omega,rfl⟩
 rintro i l ⟨j',rfl,hj',rfl⟩ _
 have ll:((v.6.take j').filter fun x=>Nd_ F0 x.3).length<=3:=Nat.le_trans (List.length_filter_le _ _) (by rw[List.length_take];omega)
 refine Cnd.mk (fun hc=>⟨by omega,fun y hy=> ?_⟩) fun hc=> ?_
 ·have hy:v.6[j']? =some y:=hy
  have ft:=v97 (q:=fun x:Exper=>Nd_ F0 x.3) hy
  refine Cnd.mk (fun hn=>⟨by omega,fun y2 hy2=> ?_⟩) fun hn=>⟨by unfold InI;omega,⟨j'+1,by omega,by omega,?_⟩,by omega⟩
  ·have hy2:v.6[j']? =some y2:=hy2
   rw[hy] at hy2;cases hy2
   have hn:Nd_ F0 y.3=true:=hn
   rw[if_pos hn] at ft
   dsimp only;rw[Ju]
   exact⟨by unfold Sml;simp;omega,by unfold InI;omega,⟨j'+1,by omega,by omega,ft.symm⟩,by omega⟩
  ·have hn: ¬Nd_ F0 y.3=true:=hn
   rw[if_neg hn,List.append_nil] at ft
   exact ft.symm
 rw[List.take_of_length_le (show v.6.length<=j' by omega)]
 refine y7t hE hD hV hcl (Cnd.yes rfl ?_)
 obtain⟨q1,q2⟩:=y3i (s:=s) hA hF hV hcl hf hnf
 refine q6j (v:=v) (s:=s) hA hF hs hN (by decide) ?_
 rw[q2]
 refine q6j (v:=wN v (Nd_ F0)) (s:=s) (u0b hA) (u2a hF) hs hN (by decide) ?_
 rw[q1]
 refine Cnd.yes rfl (Cnd.yes rfl (v1k fun r hr=> ?_))
 rw[hr.2 rfl];exact h
end Go.En
end
