/- For every input within the given bound on its size EvaluateServes returns true and leaves its arguments as they were. This is part 5 of 11. Conditions: those in the statements. -/
import Derived.Test.YtkbjibhkaddepaaGreatDoorSe4
import Derived.KernelRfl
import Derived.Lib.AppendIntMem
import Derived.Conc.MuLone
import GoSem.Core.Utf8
import Derived.Lib.ValidU
noncomputable section
set_option maxRecDepth 100000
namespace Go.Proofs.YtkbjibhkaddepaaGreatDoor
open Go Go.Proofs Go.RowKit Go.Fl
set_option maxHeartbeats 2000000 in
theorem q3t{σ:Hv}{w:World}(s_p:(List ByteArray))(v1:Value){K:(List ByteArray)->Prop}(hV:View σ w)(hr1:RSl 1 (REnc Qg) σ v1 s_p)(hP:Zi s_p K):
    Calls Tryz.prog 143 #[v1] w (fun e w1=> ∃(r1:(List ByteArray)) (v2:Value),e= .returned v2/\St ⟨w,σ,[]⟩ w1 σ [vec v2 9 1 r1.length ((r1).flatMap Qg)]/\Sml r1.length/\K r1):=by
 unfold Zi at hP
 obtain⟨a1,cap1,rfl⟩:=hr1.shape
 refine enter Tryz.func143 rfl rfl rfl ?_
 have hS:=St.start hV
 refine Qv (Qw (v:=(.slice none 0 0)) rfl (wpList_nil (Qp (wp_seq (Qv (Zc (v:=(.slice a1 s_p.length cap1)) rfl ?_))))))
 replace hP:=hP a1.isNone (RSl.isNil hr1)
 obtain⟨r1_,hn1⟩: ∃r:Bool,a1.isNone=r:=⟨_,rfl⟩
 rw[hn1] at hP
 refine y1v Tryz.underlying70 rfl hn1 (wpList_nil (Qp ?_))
 refine if_b rfl (fun ht1=> ?_) (fun ht1=> ?_)
 ·
  replace hP:=hP.1 ht1
  refine Qv (Qw (v:=(.slice none 0 0)) rfl (wpList_nil (Qp (wp_ret (R8 (ret1 rfl (show ev _ _ _=(.slice none 0 0) from rfl) ?_))))))
  have hS1:=hS.addNil 9 1
  exact⟨[],(.slice none 0 0),rfl,(St.back hS1 (Sub.refl _)),(by simp[Sml]),hP⟩
 ·
  replace hP:=hP.2 (by first|(rw[ht1];exact Bool.false_ne_true)|simp[ht1])
  refine wp_skip (Qp (Qv (j68 (cs:=[]) (e:=9) hS (fun _=>by kernel_rfl) ?_)))
  intro b1 w1 hS2
  refine Zc (v:=(.slice a1 s_p.length cap1)) rfl ?_
  have hS3:=hS2.asVec (i:=0) (ms':=[vec (.slice (some ⟨b1,0,none⟩) 0 0) 9 1 0 []]) (size:=1) rfl rfl (by unfold maxLen;omega) rfl
  obtain⟨hsm1,hP⟩:=hP
  refine y9h (enc:=Qg) (l:=s_p) (Ms:=fun v3=>[vec v3 9 1 s_p.length ((s_p).flatMap Qg)]) (k':=s_p.length) (xs':=(s_p).flatMap Qg) Tryz.underlying70 Tryz.type9 rfl rfl (bytes:=16) rfl rfl (Nat.succ_pos _) hS3 rfl (q:=0) rfl rfl hr1 hS3.view q40 v65 hsm1 (by omega) (by first|rfl|exact List.length_append.symm|simp) (List.nil_append _) (fun _=>rfl) ?_
  intro v3 w2 ho1 hS4
  refine Qw (v:=v3) rfl (wpList_nil (Qp (wp_ret (ret1 rfl (show ev _ _ _=v3 from rfl) ?_))))
  exact⟨s_p,v3,rfl,(St.back hS4 (Sub.refl _)),hsm1,hP⟩
set_option maxHeartbeats 2000000 in
theorem q3u{σ:Hv}{w:World}(s_p:(List ByteArray))(v_p:ByteArray)(v1:Value){K:Int->Prop}(hV:View σ w)(hr1:RSl 1 (REnc Qg) σ v1 s_p)(hP:Zj s_p v_p K):
    Calls Tryz.prog 79 #[v1,(.string v_p)] w (fun e w1=> ∃(r1:Int),e= .returned (.int .i64 r1)/\Grow [] σ w σ w1/\K r1):=by
 unfold Zj at hP
 obtain⟨a1,cap1,rfl⟩:=hr1.shape
 refine enter Tryz.func79 rfl rfl rfl ?_
 have hS:=St.start hV
 refine Qv (Qw (v:=(.int .i64 (0:Int))) rfl (wpList_nil (Qp (wp_seq (Qv (Zc (v:=(.slice a1 s_p.length cap1)) rfl (z11 rfl Tryz.underlying70 ?_)))))))
 have hlen1:=RSl.len63 hr1
 replace hP:=hP hlen1
 refine Zc (v:=(.int .i64 (0:Int))) rfl (wpList_nil (Qp (wp_block ?_)))
 refine w4d (fun k_2 f z=> ∃(σ1:Hv) (g:Fr),f=(upd (upd (upd (upd g 0 (.slice a1 s_p.length cap1)) 1 (.string v_p)) 7 (.int .i64 ((s_p.length:Nat):Int))) 8 (.int .i64 ((k_2:Nat):Int)))/\St ⟨w,σ,[]⟩ z σ1 []/\Sub σ σ1) hP ⟨σ,_,(Zz rfl (Zz rfl (Zz rfl (Zz rfl rfl)))),hS,(Sub.refl _)⟩ ?_
 clear hP
 rintro k_2 Y1 hP f w1 ⟨σ1,g,rfl,hS1,hsub1⟩
 refine Qv (v6v (r:=(decide (((k_2:Nat):Int)<((s_p.length:Nat):Int)))) rfl rfl rfl (wpList_nil (Qp (wp_seq ?_))))
 refine if_d (((k_2:Nat):Int)<((s_p.length:Nat):Int)) rfl (fun ht1=> ?_) (fun ht1=> ?_)
 ·
  replace hP:=hP.1 ht1
  refine wp_skip (Qp (wp_seq (wp_block (Qv (Zc (v:=(.int .i64 ((k_2:Nat):Int))) rfl (Qw (v:=(.int .i64 ((k_2:Nat):Int))) rfl (wpList_nil (Qp (Qv (Zc (v:=(.string v_p)) rfl (Zc (v:=(.slice a1 s_p.length cap1)) rfl (Zc (v:=(.int .i64 ((k_2:Nat):Int))) rfl ?_))))))))))))
  obtain⟨x1_,hx1⟩:=getq (l:=s_p) (k:=k_2) (by have:=ht1;omega)
  replace hP:=hP x1_ hx1
  obtain⟨ad1,cs1,ha1,hl1,hr2,hR1,hlt1⟩:=RSl.at hr1 hx1
  cases hR1
  refine Rg (k:=k_2) (a':=(ad1.add (k_2*1))) (congrArg (fun z=>Value.slice z _ _) ha1) rfl rfl hlt1 Tryz.underlying70 Tryz.sizeOf9 rfl (q7p (v:=(.string x1_)) rfl Tryz.isAgg9 (hr2.cell (View.of hsub1 hS1.view) 0 rfl rfl) (y88 (r:=(decide (v_p=x1_))) rfl rfl rfl (wpList_nil (Qp ?_))))
  refine if_d (v_p=x1_) rfl (fun ht2=> ?_) (fun ht2=> ?_)
  ·
   replace hP:=hP.1 ht2
   refine Qv (Zc (v:=(.int .i64 ((k_2:Nat):Int))) rfl (Qw (v:=(.int .i64 ((k_2:Nat):Int))) rfl (wpList_nil (Qp (wp_ret (j57 (R8 (R8 (j57 (R8 (ret1 rfl (show ev _ _ _=(.int .i64 ((k_2:Nat):Int)) from rfl) ?_)))))))))))
   exact⟨((k_2:Nat):Int),rfl,hS1.done.forget,hP⟩
  ·
   replace hP:=hP.2 ht2
   refine wp_skip (v4i (Qp (j3m (v4h (r:=((k_2+1:Nat):Int)) rfl rfl (nw (by omega) (by omega) (by have:=hlen1;omega)) (Zc (v:=(.int .i64 ((k_2+1:Nat):Int))) rfl (wpList_nil (Qp ?_)))))))
   exact⟨k_2+1,_,rfl,hP,σ1,_,(Zz rfl (Zz rfl (Zz rfl (Zz rfl rfl)))),hS1,hsub1⟩
 ·
  replace hP:=hP.2 ht1
  refine wp_exit (z8k (z8k (j73 (Qp (Qv (Qw (v:=(.int .i64 (-1:Int))) rfl (wpList_nil (Qp (wp_ret (ret1 rfl (show ev _ _ _=(.int .i64 (-1:Int)) from rfl) ?_))))))))))
  exact⟨(-1:Int),rfl,hS1.done.forget,hP⟩
set_option maxHeartbeats 2000000 in
theorem Vm{σ:Hv}{w:World}(s_p:(List ByteArray))(v_p:ByteArray)(v1:Value){K:Bool->Prop}(hV:View σ w)(hr1:RSl 1 (REnc Qg) σ v1 s_p)(hP:Q0 s_p v_p K):
    Calls Tryz.prog 45 #[v1,(.string v_p)] w (fun e w1=> ∃(r1:Bool),e= .returned (.bool (r1))/\Grow [] σ w σ w1/\K r1):=by
 unfold Q0 at hP
 obtain⟨a1,cap1,rfl⟩:=hr1.shape
 refine enter Tryz.func45 rfl rfl rfl ?_
 have hS:=St.start hV
 refine Qv (Qw (v:=(.bool false)) rfl (wpList_nil (Qp (Qv (Zc (v:=(.slice a1 s_p.length cap1)) rfl (Zc (v:=(.string v_p)) rfl ?_))))))
 obtain⟨Y1,hK1,hc1⟩:=hP
 refine q9b (args:=[(.slice a1 s_p.length cap1),(.string v_p)]) rfl Tryz.call79 (Calls.mono (q3u s_p v_p (.slice a1 s_p.length cap1) hS.view hr1 hc1) ?_)
 rintro _ w1 ⟨r1_,rfl,hg1,hY1⟩
 refine⟨_,rfl,?_⟩
 have hS1:=hS.grow hg1
 replace hP:=hK1 r1_ hY1
 refine y87 (r:=(decide ((0:Int)<=r1_))) rfl rfl rfl (Qw (v:=(.bool (decide ((0:Int)<=r1_)))) rfl (wpList_nil (Qp (wp_ret (ret1 rfl (show ev _ _ _=(.bool (decide ((0:Int)<=r1_))) from rfl) ?_)))))
 exact⟨(decide ((0:Int)<=r1_)),rfl,hS1.done.forget,hP⟩
set_option maxHeartbeats 2000000 in
theorem w_graph_Order{σ:Hv}{w:World}(nodes_p:(List ByteArray))(edges_p:(List (ByteArray×ByteArray)))(v1:Value)(v2:Value){K:(List ByteArray)->Int->Prop}(hV:View σ w)(hr1:RSl 1 (REnc Qg) σ v1 nodes_p)(hr2:RSl 2 (REnc y9i) σ v2 edges_p)(hP:P_graph_Order nodes_p edges_p K):
    Calls Tryz.prog 178 #[v1,v2] w (fun e w1=> ∃(r1:(List ByteArray)) (r2:Int) (v3:Value),e= .returned (.tuple #[v3,(.int .i64 r2)])/\St ⟨w,σ,[]⟩ w1 σ [vec v3 9 1 r1.length ((r1).flatMap Qg)]/\Sml r1.length/\K r1 r2):=by
 unfold P_graph_Order at hP
 obtain⟨a1,cap1,rfl⟩:=hr1.shape
 obtain⟨a2,cap2,rfl⟩:=hr2.shape
 refine enter Tryz.func178 rfl rfl rfl ?_
 have hS:=St.start hV
 refine Qv (Qw (v:=(.slice none 0 0)) rfl (Qw (v:=(.int .i64 (0:Int))) rfl (wpList_nil (Qp (Qv (Zc (v:=(.slice a1 nodes_p.length cap1)) rfl (q9b (args:=[(.slice a1 nodes_p.length cap1)]) rfl Tryz.call222 ?_)))))))
 refine enter Tryz.func222 rfl rfl rfl ?_
 refine Qv (u1j (cs:=[(.slice a1 nodes_p.length cap1)]) hS rfl rfl ?_)
 intro b1 w1 hS1
 refine Qw (v:= .nilFunc) rfl (wpList_nil (Qp (Qv (j3n (la:=[]) (lb:=[(.pointer (some ⟨b1,0,none⟩))]) rfl rfl (Qw (v:=(.func (.func 269) #[] #[(.pointer (some ⟨b1,0,none⟩))])) rfl (wpList_nil (Qp (wp_ret (ret1 rfl (show ev _ _ _=(.func (.func 269) #[] #[(.pointer (some ⟨b1,0,none⟩))]) from rfl) ?_)))))))))
 refine⟨_,rfl,?_⟩
 refine q9b (args:=[(.func (.func 269) #[] #[(.pointer (some ⟨b1,0,none⟩))])]) rfl Tryz.call221 ?_
 refine enter Tryz.func221 rfl rfl rfl ?_
 refine Qv (Qw (v:=(.slice none 0 0)) rfl (wpList_nil (Qp (Qv (Zc (v:=(.func (.func 269) #[] #[(.pointer (some ⟨b1,0,none⟩))])) rfl (q9b (args:=[(.func (.func 269) #[] #[(.pointer (some ⟨b1,0,none⟩))])]) rfl Tryz.call268 ?_))))))
 refine enter Tryz.func268 rfl rfl rfl ?_
 refine Qv (Qw (v:=(.slice none 0 0)) rfl (wpList_nil (Qp (Qv (Zc (v:=(.func (.func 269) #[] #[(.pointer (some ⟨b1,0,none⟩))])) rfl ?_)))))
 obtain⟨σ1,hS2,hsub1,hfr1⟩:=hS1.freeze' (i:=0) rfl rfl
 have hB1:σ1 b1=some (.cells #[(.slice a1 nodes_p.length cap1)] 70 (0,0)):=(hfr1 _ rfl).trans (hS1.get (i:=0) rfl)
 obtain⟨hsm1,hP⟩:=hP
 refine q9b (args:=[(.slice none 0 0),(.func (.func 269) #[] #[(.pointer (some ⟨b1,0,none⟩))])]) rfl Tryz.call296 (Calls.mono (u2e b1 (.slice a1 nodes_p.length cap1) nodes_p hS2.view hB1 (RSl.menc hsub1 hr1) hsm1) ?_)
 rintro _ w2 ⟨v4,rfl,hg1,ho1⟩
 refine⟨_,rfl,?_⟩
 have hS3:=hS2.growAdd hg1 (o:=vec v4 9 1 nodes_p.length ((nodes_p).flatMap Qg)) ho1
 refine Qw (v:=v4) rfl (wpList_nil (Qp (wp_ret (ret1 rfl (show ev _ _ _=v4 from rfl) ?_))))
 refine⟨_,rfl,?_⟩
 refine Qw (v:=v4) rfl (wpList_nil (Qp (Qv (Zc (v:=v4) rfl ?_))))
 refine q9b (args:=[v4]) rfl Tryz.call137 (Calls.mono (v2s Tryz.slices_Sort_string Tryz.slices_Sort_string_none hS3.view (hS3.get (i:=0) rfl) rfl (fun b hb=>hS3.off _ (List.mem_of_getElem? (i:=0) rfl) b hb) (by have:=hsm1;unfold Sml at this;omega)) ?_)
 rintro _ w3 ⟨rfl,hg2,ho2⟩
 refine⟨_,rfl,?_⟩
 have hS4:=hS3.growV (i:=0) (o':=vec v4 9 1 nodes_p.length ((srt nodes_p).flatMap Qg)) rfl hg2 rfl ho2 (ms':=[vec v4 9 1 nodes_p.length ((srt nodes_p).flatMap Qg)]) rfl
 have hS5:=hS4.re (ms':=[vec v4 9 1 ((srt nodes_p).length) ((srt nodes_p).flatMap Qg)]) (by simp only[Jx])
 refine wpList_nil (Qp (Qv (Zc (v:=v4) rfl (Qw (v:=v4) rfl (wpList_nil (Qp (wp_ret (ret1 rfl (show ev _ _ _=v4 from rfl) ?_))))))))
 refine⟨_,rfl,?_⟩
 refine Qw (v:=v4) rfl (wpList_nil (Qp (wp_seq (Qv (Zc (v:=v4) rfl ?_)))))
 obtain⟨σ2,hS6,hsub2,hr4⟩:=hS5.peek (i:=0) rfl q40 (show Sml (srt nodes_p).length by rw[Jx];exact hsm1)
 obtain⟨Y1,hK1,hc1⟩:=hP
 refine q9b (args:=[v4]) rfl Tryz.call143 (Calls.mono (q3t (srt nodes_p) v4 hS6.view hr4 hc1) ?_)
 rintro _ w4 ⟨r1_,v5,rfl,hg3,hl1,hY1⟩
 refine⟨_,rfl,?_⟩
 have hS7:=St.callM (ins:=[]) (rest:=[vec v4 9 1 ((srt nodes_p).length) ((srt nodes_p).flatMap Qg)]) (ms':=[vec v5 9 1 r1_.length ((r1_).flatMap Qg),vec v4 9 1 ((srt nodes_p).length) ((srt nodes_p).flatMap Qg)]) hS5 (St.back hg3 hsub2) rfl
 replace hP:=hK1 r1_ hY1
 obtain⟨hsm2,hP⟩:=hP
 refine q9b (args:=[v5]) rfl Tryz.call220 (Calls.mono (j8b Tryz.slices_Compact_string Tryz.slices_Compact_string_empty hS7.view (hS7.get (i:=0) rfl) rfl (fun b hb=>hS7.off _ (List.mem_of_getElem? (i:=0) rfl) b hb) (by have:=hl1;unfold Sml at this;omega)) ?_)
 rintro _ w5 ⟨v6,rfl,hf1,hg4,ho3⟩
 refine⟨_,rfl,?_⟩
 have ho4:=q0f ho3
 have hS8:=hS7.growV (i:=0) (o':=vec v6 9 1 ((cpt r1_).length) ((cpt r1_).flatMap Qg)) rfl hg4 hf1 ho3 (ms':=[vec v6 9 1 ((cpt r1_).length) ((cpt r1_).flatMap Qg),vec v4 9 1 ((srt nodes_p).length) ((srt nodes_p).flatMap Qg)]) rfl
 refine j02 hS8 rfl (i:=0) rfl Tryz.underlying70 ?_
 have hlen1:(cpt r1_).length<=9223372036854775807:=by have:=hsm2;unfold Sml at this;omega
 replace hP:=hP hlen1
 refine Zc (v:=v4) rfl (j02 hS8 rfl (i:=1) rfl Tryz.underlying70 ?_)
 have hlen2:(srt nodes_p).length<=9223372036854775807:=by have:=(show Sml (srt nodes_p).length by rw[Jx];exact hsm1);unfold Sml at this;omega
 replace hP:=hP hlen2
 refine u1h (r:=(!decide ((((cpt r1_).length:Nat):Int)=(((srt nodes_p).length:Nat):Int)))) rfl rfl rfl (wpList_nil (Qp ?_))
 refine y89 ((((cpt r1_).length:Nat):Int)=(((srt nodes_p).length:Nat):Int)) rfl (fun ht1=> ?_) (fun ht1=> ?_)
 ·
  replace hP:=hP.2 ht1
  refine Qv (Qw (v:=(.slice none 0 0)) rfl (Qw (v:=(.int .i64 (10:Int))) rfl (wpList_nil (Qp (wp_ret (R8 (ret2 rfl (show ev _ _ _=(.slice none 0 0) from rfl) (show ev _ _ _=(.int .i64 (10:Int)) from rfl) ?_)))))))
  have hS9:=hS8.addNil 9 1
  exact⟨[],(10:Int),(.slice none 0 0),rfl,(St.back (hS9.keep 1 (ms':=[vec (.slice none 0 0) 9 1 0 []]) rfl) (Sub.refl _)),(by simp[Sml]),hP⟩
 ·
  replace hP:=hP.1 ht1
  refine wp_skip (Qp (Qv (v4n 9 1 Qg hS8 ?_)))
  intro b2 w6 hS10
  refine w9v (cs:=[(.map none)]) hS10 Tryz.zeroValue313 rfl ?_
  intro b3 w7 hS11
  refine w9u (T:=313) (vs:=[(.map (some b2))]) (cs':=[(.map (some b2))]) (ms':=(blk b3 313 [(.map (some b2))]::smap b2 (asl [])::vec v6 9 1 ((cpt r1_).length) ((cpt r1_).flatMap Qg)::vec v4 9 1 ((srt nodes_p).length) ((srt nodes_p).flatMap Qg)::Vk 9 1 Qg [])) (i:=0) hS11 rfl rfl rfl Tryz.sizeOf313 rfl (ones rfl) rfl (Nat.le_of_ble_eq_true rfl) rfl rfl ?_
  intro w8 hS12
  refine wpList_nil (Qp (wp_seq (Qv (Zc (v:=(.slice a2 edges_p.length cap2)) rfl (z11 rfl Tryz.underlying177 ?_)))))
  have hlen3:=RSl.len63 hr2
  replace hP:=hP hlen3
  refine Zc (v:=(.int .i64 (0:Int))) rfl (wpList_nil (Qp (wp_block ?_)))
  have hS13:=hS12.front 3 rfl (ms':=(vec v4 9 1 ((srt nodes_p).length) ((srt nodes_p).flatMap Qg)::blk b3 313 [(.map (some b2))]::smap b2 (asl [])::vec v6 9 1 ((cpt r1_).length) ((cpt r1_).flatMap Qg)::Vk 9 1 Qg [])) rfl
  have hS14:=hS13.front 3 rfl (ms':=(vec v6 9 1 ((cpt r1_).length) ((cpt r1_).flatMap Qg)::vec v4 9 1 ((srt nodes_p).length) ((srt nodes_p).flatMap Qg)::blk b3 313 [(.map (some b2))]::smap b2 (asl [])::Vk 9 1 Qg [])) rfl
  have hS15:=hS14.front 2 rfl (ms':=(blk b3 313 [(.map (some b2))]::vec v6 9 1 ((cpt r1_).length) ((cpt r1_).flatMap Qg)::vec v4 9 1 ((srt nodes_p).length) ((srt nodes_p).flatMap Qg)::smap b2 (asl [])::Vk 9 1 Qg [])) rfl
  have hS16:=hS15.front 3 rfl (ms':=(smap b2 (asl [])::blk b3 313 [(.map (some b2))]::vec v6 9 1 ((cpt r1_).length) ((cpt r1_).flatMap Qg)::vec v4 9 1 ((srt nodes_p).length) ((srt nodes_p).flatMap Qg)::Vk 9 1 Qg [])) rfl
  refine y1s (fun k_3 F_2 f z=> ∃(es2:EL ByteArray) (σ3:Hv) (g:Fr),f=(upd (upd (upd (upd (upd g 6 v4) 7 (.pointer (some ⟨b3,0,none⟩))) 24 (.slice a2 edges_p.length cap2)) 25 (.int .i64 ((edges_p.length:Nat):Int))) 26 (.int .i64 ((k_3:Nat):Int)))/\St ⟨w,σ,[]⟩ z σ3 (smap b2 (asl es2)::blk b3 313 [(.map (some b2))]::vec v6 9 1 ((cpt r1_).length) ((cpt r1_).flatMap Qg)::vec v4 9 1 ((srt nodes_p).length) ((srt nodes_p).flatMap Qg)::Vk 9 1 Qg es2)/\Sub σ1 σ3/\ELF es2 F_2) hP ⟨[],σ1,_,(Zz rfl (Zz rfl (Zz rfl (Zz rfl (Zz rfl rfl))))),hS16,(Sub.refl _),ELF.nil⟩ ?_
  clear hP
  rintro k_3 F_2 Y2 hP f w9 ⟨es2,σ3,g,rfl,hS17,hsub3,hF2⟩
  refine Qv (v6v (r:=(decide (((k_3:Nat):Int)<((edges_p.length:Nat):Int)))) rfl rfl rfl (wpList_nil (Qp (wp_seq ?_))))
  refine if_d (((k_3:Nat):Int)<((edges_p.length:Nat):Int)) rfl (fun ht2=> ?_) (fun ht2=> ?_)
  ·
   replace hP:=hP.1 ht2
   refine wp_skip (Qp (wp_seq (wp_block (Qv ?_))))
   obtain⟨x1_,hx1⟩:=getq (l:=edges_p) (k:=k_3) (by have:=ht2;omega)
   replace hP:=hP x1_ hx1
   obtain⟨ad1,cs1,ha1,hl2,hr6,hR1,hlt1⟩:=RSl.at hr2 hx1
   cases hR1
   refine Rg (k:=k_3) (a':=(ad1.add (k_3*2))) (congrArg (fun z=>Value.slice z _ _) ha1) rfl rfl hlt1 Tryz.underlying177 Tryz.sizeOf238 rfl (y5q (cs:=[(.string x1_.1),(.string x1_.2)]) rfl Tryz.isAgg238 Tryz.sizeOf238 rfl (hr6.row (View.of (Sub.trans hsub1 hsub3) hS17.view)) (w9v (cs:=[(.string (⟨#[]⟩:ByteArray)),(.string (⟨#[]⟩:ByteArray))]) hS17 Tryz.zeroValue238 rfl ?_))
   intro b4 w10 hS18
   refine w9u (T:=238) (vs:=[(.string x1_.1),(.string x1_.2)]) (cs':=[(.string x1_.1),(.string x1_.2)]) (ms':=(blk b4 238 [(.string x1_.1),(.string x1_.2)]::smap b2 (asl es2)::blk b3 313 [(.map (some b2))]::vec v6 9 1 ((cpt r1_).length) ((cpt r1_).flatMap Qg)::vec v4 9 1 ((srt nodes_p).length) ((srt nodes_p).flatMap Qg)::Vk 9 1 Qg es2)) (i:=0) hS18 rfl rfl rfl Tryz.sizeOf238 rfl (ones rfl) rfl (Nat.le_of_ble_eq_true rfl) rfl rfl ?_
   intro w11 hS19
   refine wpList_nil (Qp (wp_seq (Qv (Zc (v:=v4) rfl (j71 (a':=⟨b4,0,none⟩) rfl Tryz.underlying238 rfl Tryz.sizeOf9 rfl (q7p (v:=(.string x1_.1)) rfl Tryz.isAgg9 (hS19.cell (i:=0) rfl rfl) ?_))))))
   obtain⟨σ4,hS20,hsub4,hr7⟩:=hS19.peek (i:=4) rfl q40 (show Sml (srt nodes_p).length by rw[Jx];exact hsm1)
   obtain⟨Y3,hK2,hc2⟩:=hP
   refine q9b (args:=[v4,(.string x1_.1)]) rfl Tryz.call45 (Calls.mono (Vm (srt nodes_p) x1_.1 v4 hS20.view hr7 hc2) ?_)
   rintro _ w12 ⟨r2_,rfl,hg5,hY2⟩
   refine⟨_,rfl,?_⟩
   have hg5b:=hg5.back hsub4
   have hS21:=hS19.grow hg5b
   replace hP:=hK2 r2_ hY2
   refine y1l (r:=(!r2_)) rfl rfl ?_
   rcases Bool.eq_false_or_eq_true (r2_) with hb1|hb1
   ·
    replace hP:=hP.1 hb1
    refine Zc (v:=(.bool false)) (congrArg Value.bool (congrArg Bool.not hb1)) (o_on rfl rfl (Zc (v:=v4) rfl (o_on rfl rfl (j71 (a':=⟨b4,1,none⟩) rfl Tryz.underlying238 rfl Tryz.sizeOf9 rfl (o_on rfl rfl (q7p (v:=(.string x1_.2)) rfl Tryz.isAgg9 (hS21.cell (i:=0) rfl rfl) (o_on rfl rfl ?_)))))))
    obtain⟨σ5,hS22,hsub5,hr8⟩:=hS21.peek (i:=4) rfl q40 (show Sml (srt nodes_p).length by rw[Jx];exact hsm1)
    obtain⟨Y4,hK3,hc3⟩:=hP
    refine q9b (args:=[v4,(.string x1_.2)]) rfl Tryz.call45 (Calls.mono (Vm (srt nodes_p) x1_.2 v4 hS22.view hr8 hc3) ?_)
    rintro _ w13 ⟨r3_,rfl,hg6,hY3⟩
    refine⟨_,rfl,?_⟩
    have hg6b:=hg6.back hsub5
    have hS23:=hS21.grow hg6b
    replace hP:=hK3 r3_ hY3
    refine o_on rfl rfl (y1l (r:=(!r3_)) rfl rfl (y1j (v:=(.bool (!r3_))) rfl rfl (wpList_nil (Qp ?_))))
    refine y9a rfl (fun ht3=> ?_) (fun ht3=> ?_)
    ·
     replace hP:=hP.2 (by first|(rw[ht3];exact Bool.false_ne_true)|simp[ht3])
     refine Qv (Qw (v:=(.slice none 0 0)) rfl (Qw (v:=(.int .i64 (11:Int))) rfl (wpList_nil (Qp (wp_ret (R8 (j57 (R8 (R8 (j57 (R8 (ret2 rfl (show ev _ _ _=(.slice none 0 0) from rfl) (show ev _ _ _=(.int .i64 (11:Int)) from rfl) ?_))))))))))))
     have hS24:=hS23.addNil 9 1
     exact⟨[],(11:Int),(.slice none 0 0),rfl,(St.back (hS24.keep 1 (ms':=[vec (.slice none 0 0) 9 1 0 []]) rfl) (Sub.refl _)),(by simp[Sml]),hP⟩
    ·
     replace hP:=hP.1 ht3
     refine wp_skip (Qp (dr (fun z=>St ⟨w,σ,[]⟩ z σ3 [blk b4 238 [(.string x1_.1),(.string x1_.2)],blk b3 313 [(.map (some b2))],vec v6 9 1 ((cpt r1_).length) ((cpt r1_).flatMap Qg),vec v4 9 1 ((srt nodes_p).length) ((srt nodes_p).flatMap Qg)]) (by kernel_rfl) rfl ?_))
     have hS25:=hS23.drew
     refine dt 0 1 (v:=(.map (some b2))) (by kernel_rfl) rfl rfl (fun _ _ _ h=>h) (hS25.sublist (.cons_cons _ (.cons _ (.cons_cons _ (.cons_cons _ (.cons_cons _ (List.nil_sublist _))))))) (fun _ hJ _ hK=>q7p (v:=(.map (some b2))) rfl Tryz.isAgg313 (hJ.cell (i:=1) rfl rfl) ⟨rfl,hK⟩) (dt 1 3 (v:=(.pointer (some ⟨b4,0,none⟩))) (by kernel_rfl) rfl rfl (fun _ _ _ h=>h) (hS25.sublist (.cons_cons _ (.cons _ (.cons_cons _ (.cons_cons _ (.cons_cons _ (List.nil_sublist _))))))) (fun _ _ _ hK=>j71 (a':=⟨b4,0,none⟩) rfl Tryz.underlying238 rfl Tryz.sizeOf9 rfl ⟨rfl,hK⟩) (dt 2 7 (v:=(.string x1_.1)) (by kernel_rfl) rfl rfl (fun _ _ _ h=>h) (hS25.sublist (.cons_cons _ (.cons _ (.cons_cons _ (.cons_cons _ (.cons_cons _ (List.nil_sublist _))))))) (fun _ hJ _ hK=>q7p (v:=(.string x1_.1)) rfl Tryz.isAgg9 (hJ.cell (i:=0) rfl rfl) ⟨rfl,hK⟩) (dt 3 15 (v:=(.map (some b2))) (by kernel_rfl) rfl rfl (fun _ _ _ h=>h) (hS25.sublist (.cons_cons _ (.cons _ (.cons_cons _ (.cons_cons _ (.cons_cons _ (List.nil_sublist _))))))) (fun _ hJ _ hK=>q7p (v:=(.map (some b2))) rfl Tryz.isAgg313 (hJ.cell (i:=1) rfl rfl) ⟨rfl,hK⟩) (dt 4 31 (v:=(.pointer (some ⟨b4,0,none⟩))) (by kernel_rfl) rfl rfl (fun _ _ _ h=>h) (hS25.sublist (.cons_cons _ (.cons _ (.cons_cons _ (.cons_cons _ (.cons_cons _ (List.nil_sublist _))))))) (fun _ _ _ hK=>j71 (a':=⟨b4,0,none⟩) rfl Tryz.underlying238 rfl Tryz.sizeOf9 rfl ⟨rfl,hK⟩) (dt 5 63 (v:=(.string x1_.1)) (by kernel_rfl) rfl rfl (fun _ _ _ h=>h) (hS25.sublist (.cons_cons _ (.cons _ (.cons_cons _ (.cons_cons _ (.cons_cons _ (List.nil_sublist _))))))) (fun _ hJ _ hK=>q7p (v:=(.string x1_.1)) rfl Tryz.isAgg9 (hJ.cell (i:=0) rfl rfl) ⟨rfl,hK⟩) (dt 7 191 (v:=(.pointer (some ⟨b4,1,none⟩))) (by kernel_rfl) rfl rfl (fun _ _ _ h=>h) (hS25.sublist (.cons_cons _ (.cons _ (.cons_cons _ (.cons_cons _ (.cons_cons _ (List.nil_sublist _))))))) (fun _ _ _ hK=>j71 (a':=⟨b4,1,none⟩) rfl Tryz.underlying238 rfl Tryz.sizeOf9 rfl ⟨rfl,hK⟩) (dt 8 447 (v:=(.string x1_.2)) (by kernel_rfl) rfl rfl (fun _ _ _ h=>h) (hS25.sublist (.cons_cons _ (.cons _ (.cons_cons _ (.cons_cons _ (.cons_cons _ (List.nil_sublist _))))))) (fun _ hJ _ hK=>q7p (v:=(.string x1_.2)) rfl Tryz.isAgg9 (hJ.cell (i:=0) rfl rfl) ⟨rfl,hK⟩) ?_)))))))
     refine d2 6 9 511 959 (by kernel_rfl) rfl rfl rfl rfl ?_ ?_
     ·
      obtain⟨v7,hv1⟩: ∃v,(asl es2 x1_.1).getD (.slice none 0 0)=v:=⟨_,rfl⟩
      refine v64 (i:=1) (v:=v7) hS25 rfl rfl rfl Tryz.underlying313 Tryz.underlying9 Tryz.zeroValue70 hv1 (wpList_nil ?_)
      refine⟨rfl,(hS25.sublist (.cons_cons _ (.cons _ (.cons_cons _ (.cons_cons _ (.cons_cons _ (List.nil_sublist _))))))),?_⟩
      refine d1 9 1023 (by kernel_rfl) rfl (j68 (cs:=[(.string x1_.2)]) (e:=9) hS25 (fun _=>by kernel_rfl) ?_)
      intro b5 w14 hS26
      refine wpList_nil ?_
      refine⟨rfl,(hS26.sublist (.cons _ (.cons_cons _ (.cons _ (.cons_cons _ (.cons_cons _ (.cons_cons _ (List.nil_sublist _)))))))),?_⟩
      refine d1 10 2047 (by kernel_rfl) rfl ?_
      obtain⟨es3,hS27,hL1,hl3⟩:=St.borrow (ms:=[blk b5 9 [(.string x1_.2)],blk b4 238 [(.string x1_.1),(.string x1_.2)],smap b2 (asl es2),blk b3 313 [(.map (some b2))],vec v6 9 1 ((cpt r1_).length) ((cpt r1_).flatMap Qg),vec v4 9 1 ((srt nodes_p).length) ((srt nodes_p).flatMap Qg)]) hS26 hF2 x1_.1 hv1
      obtain⟨hsm3,hP⟩:=hP
      refine y5y (Ms:=fun v8=>(vec v8 9 1 ((((F_2 x1_.1).getD [])++[x1_.2]).length) ((((F_2 x1_.1).getD [])++[x1_.2]).flatMap Qg)::blk b5 9 [(.string x1_.2)]::blk b4 238 [(.string x1_.1),(.string x1_.2)]::smap b2 (asl es2)::blk b3 313 [(.map (some b2))]::vec v6 9 1 ((cpt r1_).length) ((cpt r1_).flatMap Qg)::vec v4 9 1 ((srt nodes_p).length) ((srt nodes_p).flatMap Qg)::Vk 9 1 Qg es3)) (k':=(((F_2 x1_.1).getD [])++[x1_.2]).length) (xs':=(((F_2 x1_.1).getD [])++[x1_.2]).flatMap Qg) Tryz.underlying70 Tryz.type9 rfl rfl (bytes:=16) rfl rfl (Nat.succ_pos _) hS27 rfl (q:=0) rfl rfl rfl (z0h (hS27.get (i:=1) rfl)) (ones rfl) hsm3 (by omega) (by first|rfl|exact List.length_append.symm|simp) (by simp[Qg]) (fun _=>rfl) ?_
      intro v8 w15 ho5 hS28
      have hS29:=hS28.drop 1 (ms':=(vec v8 9 1 ((((F_2 x1_.1).getD [])++[x1_.2]).length) ((((F_2 x1_.1).getD [])++[x1_.2]).flatMap Qg)::blk b4 238 [(.string x1_.1),(.string x1_.2)]::smap b2 (asl es2)::blk b3 313 [(.map (some b2))]::vec v6 9 1 ((cpt r1_).length) ((cpt r1_).flatMap Qg)::vec v4 9 1 ((srt nodes_p).length) ((srt nodes_p).flatMap Qg)::Vk 9 1 Qg es3)) rfl
      refine wpList_nil ?_
      refine⟨rfl,(hS29.sublist (.cons _ (.cons_cons _ (.cons _ (.cons_cons _ (.cons_cons _ (.cons_cons _ (List.nil_sublist _)))))))),?_⟩
      refine d1 11 4095 (by kernel_rfl) rfl (y5v (v:=v8) (i:=2) (ms':=(vec v8 9 1 ((((F_2 x1_.1).getD [])++[x1_.2]).length) ((((F_2 x1_.1).getD [])++[x1_.2]).flatMap Qg)::blk b4 238 [(.string x1_.1),(.string x1_.2)]::smap b2 (fun k'=>if k'=x1_.1 then some v8 else asl es2 k')::blk b3 313 [(.map (some b2))]::vec v6 9 1 ((cpt r1_).length) ((cpt r1_).flatMap Qg)::vec v4 9 1 ((srt nodes_p).length) ((srt nodes_p).flatMap Qg)::Vk 9 1 Qg es3)) hS29 rfl rfl rfl rfl Tryz.underlying313 Tryz.underlying9 rfl ?_)
      intro w16 hS30
      have hS32:=St.giveback (ms:=[blk b4 238 [(.string x1_.1),(.string x1_.2)],smap b2 (fun k'=>if k'=x1_.1 then some v8 else asl es2 k'),blk b3 313 [(.map (some b2))],vec v6 9 1 ((cpt r1_).length) ((cpt r1_).flatMap Qg),vec v4 9 1 ((srt nodes_p).length) ((srt nodes_p).flatMap Qg)]) (ms':=[blk b4 238 [(.string x1_.1),(.string x1_.2)],smap b2 (asl ((x1_.1,v8,((F_2 x1_.1).getD [])++[x1_.2])::es3)),blk b3 313 [(.map (some b2))],vec v6 9 1 ((cpt r1_).length) ((cpt r1_).flatMap Qg),vec v4 9 1 ((srt nodes_p).length) ((srt nodes_p).flatMap Qg)]) (i:=1) hS30 hL1 rfl rfl
      have hF3:=ELF.put (v:=v8) hF2 hL1 hsm3
      refine wpList_nil ?_
      refine⟨rfl,(hS32.sublist (.cons_cons _ (.cons _ (.cons_cons _ (.cons_cons _ (.cons_cons _ (List.nil_sublist _))))))),j69 (J':=fun z=>St ⟨w,σ,[]⟩ z σ3 (blk b4 238 [(.string x1_.1),(.string x1_.2)]::smap b2 (asl ((x1_.1,v8,((F_2 x1_.1).getD [])++[x1_.2])::es3))::blk b3 313 [(.map (some b2))]::vec v6 9 1 ((cpt r1_).length) ((cpt r1_).flatMap Qg)::vec v4 9 1 ((srt nodes_p).length) ((srt nodes_p).flatMap Qg)::Vk 9 1 Qg ((x1_.1,v8,((F_2 x1_.1).getD [])++[x1_.2])::es3))) (fun w h=>h.sublist (.cons_cons _ (.cons _ (.cons_cons _ (.cons_cons _ (.cons_cons _ (List.nil_sublist _))))))) _ _ _ _ ?_⟩
      refine dz (by kernel_rfl) (v4i (Qp (j3m (v4h (r:=((k_3+1:Nat):Int)) rfl rfl (nw (by omega) (by omega) (by have:=hlen3;omega)) (Zc (v:=(.int .i64 ((k_3+1:Nat):Int))) rfl (wpList_nil (Qp ?_)))))))
      exact⟨k_3+1,(put F_2 x1_.1 (((F_2 x1_.1).getD [])++[x1_.2])),_,rfl,hP,((x1_.1,v8,((F_2 x1_.1).getD [])++[x1_.2])::es3),σ3,_,(Zz rfl (Zz rfl (Zz rfl (Zz rfl (Zz rfl rfl))))),(hS32.sublist (ms':=(smap b2 (asl ((x1_.1,v8,((F_2 x1_.1).getD [])++[x1_.2])::es3))::blk b3 313 [(.map (some b2))]::vec v6 9 1 ((cpt r1_).length) ((cpt r1_).flatMap Qg)::vec v4 9 1 ((srt nodes_p).length) ((srt nodes_p).flatMap Qg)::Vk 9 1 Qg ((x1_.1,v8,((F_2 x1_.1).getD [])++[x1_.2])::es3))) (.cons _ (List.Sublist.refl _))),hsub3,hF3⟩
     ·
      refine j68 (cs:=[(.string x1_.2)]) (e:=9) hS25 (fun _=>by kernel_rfl) ?_
      intro b5 w14 hS26
      refine wpList_nil ?_
      refine⟨rfl,(hS26.sublist (.cons _ (.cons_cons _ (.cons _ (.cons_cons _ (.cons_cons _ (.cons_cons _ (List.nil_sublist _)))))))),?_⟩
      refine d1 6 1023 (by kernel_rfl) rfl ?_
      obtain⟨v7,hv1⟩: ∃v,(asl es2 x1_.1).getD (.slice none 0 0)=v:=⟨_,rfl⟩
      refine v64 (i:=2) (v:=v7) hS26 rfl rfl rfl Tryz.underlying313 Tryz.underlying9 Tryz.zeroValue70 hv1 (wpList_nil ?_)
      refine⟨rfl,(hS26.sublist (.cons _ (.cons_cons _ (.cons _ (.cons_cons _ (.cons_cons _ (.cons_cons _ (List.nil_sublist _)))))))),?_⟩
      refine d1 10 2047 (by kernel_rfl) rfl ?_
      obtain⟨es3,hS27,hL1,hl3⟩:=St.borrow (ms:=[blk b5 9 [(.string x1_.2)],blk b4 238 [(.string x1_.1),(.string x1_.2)],smap b2 (asl es2),blk b3 313 [(.map (some b2))],vec v6 9 1 ((cpt r1_).length) ((cpt r1_).flatMap Qg),vec v4 9 1 ((srt nodes_p).length) ((srt nodes_p).flatMap Qg)]) hS26 hF2 x1_.1 hv1
      obtain⟨hsm3,hP⟩:=hP
      refine y5y (Ms:=fun v8=>(vec v8 9 1 ((((F_2 x1_.1).getD [])++[x1_.2]).length) ((((F_2 x1_.1).getD [])++[x1_.2]).flatMap Qg)::blk b5 9 [(.string x1_.2)]::blk b4 238 [(.string x1_.1),(.string x1_.2)]::smap b2 (asl es2)::blk b3 313 [(.map (some b2))]::vec v6 9 1 ((cpt r1_).length) ((cpt r1_).flatMap Qg)::vec v4 9 1 ((srt nodes_p).length) ((srt nodes_p).flatMap Qg)::Vk 9 1 Qg es3)) (k':=(((F_2 x1_.1).getD [])++[x1_.2]).length) (xs':=(((F_2 x1_.1).getD [])++[x1_.2]).flatMap Qg) Tryz.underlying70 Tryz.type9 rfl rfl (bytes:=16) rfl rfl (Nat.succ_pos _) hS27 rfl (q:=0) rfl rfl rfl (z0h (hS27.get (i:=1) rfl)) (ones rfl) hsm3 (by omega) (by first|rfl|exact List.length_append.symm|simp) (by simp[Qg]) (fun _=>rfl) ?_
      intro v8 w15 ho5 hS28
      have hS29:=hS28.drop 1 (ms':=(vec v8 9 1 ((((F_2 x1_.1).getD [])++[x1_.2]).length) ((((F_2 x1_.1).getD [])++[x1_.2]).flatMap Qg)::blk b4 238 [(.string x1_.1),(.string x1_.2)]::smap b2 (asl es2)::blk b3 313 [(.map (some b2))]::vec v6 9 1 ((cpt r1_).length) ((cpt r1_).flatMap Qg)::vec v4 9 1 ((srt nodes_p).length) ((srt nodes_p).flatMap Qg)::Vk 9 1 Qg es3)) rfl
      refine wpList_nil ?_
      refine⟨rfl,(hS29.sublist (.cons _ (.cons_cons _ (.cons _ (.cons_cons _ (.cons_cons _ (.cons_cons _ (List.nil_sublist _)))))))),?_⟩
      refine d1 11 4095 (by kernel_rfl) rfl (y5v (v:=v8) (i:=2) (ms':=(vec v8 9 1 ((((F_2 x1_.1).getD [])++[x1_.2]).length) ((((F_2 x1_.1).getD [])++[x1_.2]).flatMap Qg)::blk b4 238 [(.string x1_.1),(.string x1_.2)]::smap b2 (fun k'=>if k'=x1_.1 then some v8 else asl es2 k')::blk b3 313 [(.map (some b2))]::vec v6 9 1 ((cpt r1_).length) ((cpt r1_).flatMap Qg)::vec v4 9 1 ((srt nodes_p).length) ((srt nodes_p).flatMap Qg)::Vk 9 1 Qg es3)) hS29 rfl rfl rfl rfl Tryz.underlying313 Tryz.underlying9 rfl ?_)
      intro w16 hS30
      have hS32:=St.giveback (ms:=[blk b4 238 [(.string x1_.1),(.string x1_.2)],smap b2 (fun k'=>if k'=x1_.1 then some v8 else asl es2 k'),blk b3 313 [(.map (some b2))],vec v6 9 1 ((cpt r1_).length) ((cpt r1_).flatMap Qg),vec v4 9 1 ((srt nodes_p).length) ((srt nodes_p).flatMap Qg)]) (ms':=[blk b4 238 [(.string x1_.1),(.string x1_.2)],smap b2 (asl ((x1_.1,v8,((F_2 x1_.1).getD [])++[x1_.2])::es3)),blk b3 313 [(.map (some b2))],vec v6 9 1 ((cpt r1_).length) ((cpt r1_).flatMap Qg),vec v4 9 1 ((srt nodes_p).length) ((srt nodes_p).flatMap Qg)]) (i:=1) hS30 hL1 rfl rfl
      have hF3:=ELF.put (v:=v8) hF2 hL1 hsm3
      refine wpList_nil ?_
      refine⟨rfl,(hS32.sublist (.cons_cons _ (.cons _ (.cons_cons _ (.cons_cons _ (.cons_cons _ (List.nil_sublist _))))))),j69 (J':=fun z=>St ⟨w,σ,[]⟩ z σ3 (blk b4 238 [(.string x1_.1),(.string x1_.2)]::smap b2 (asl ((x1_.1,v8,((F_2 x1_.1).getD [])++[x1_.2])::es3))::blk b3 313 [(.map (some b2))]::vec v6 9 1 ((cpt r1_).length) ((cpt r1_).flatMap Qg)::vec v4 9 1 ((srt nodes_p).length) ((srt nodes_p).flatMap Qg)::Vk 9 1 Qg ((x1_.1,v8,((F_2 x1_.1).getD [])++[x1_.2])::es3))) (fun w h=>h.sublist (.cons_cons _ (.cons _ (.cons_cons _ (.cons_cons _ (.cons_cons _ (List.nil_sublist _))))))) _ _ _ _ ?_⟩
      refine dz (by kernel_rfl) (v4i (Qp (j3m (v4h (r:=((k_3+1:Nat):Int)) rfl rfl (nw (by omega) (by omega) (by have:=hlen3;omega)) (Zc (v:=(.int .i64 ((k_3+1:Nat):Int))) rfl (wpList_nil (Qp ?_)))))))
      exact⟨k_3+1,(put F_2 x1_.1 (((F_2 x1_.1).getD [])++[x1_.2])),_,rfl,hP,((x1_.1,v8,((F_2 x1_.1).getD [])++[x1_.2])::es3),σ3,_,(Zz rfl (Zz rfl (Zz rfl (Zz rfl (Zz rfl rfl))))),(hS32.sublist (ms':=(smap b2 (asl ((x1_.1,v8,((F_2 x1_.1).getD [])++[x1_.2])::es3))::blk b3 313 [(.map (some b2))]::vec v6 9 1 ((cpt r1_).length) ((cpt r1_).flatMap Qg)::vec v4 9 1 ((srt nodes_p).length) ((srt nodes_p).flatMap Qg)::Vk 9 1 Qg ((x1_.1,v8,((F_2 x1_.1).getD [])++[x1_.2])::es3))) (.cons _ (List.Sublist.refl _))),hsub3,hF3⟩
   ·
    replace hP:=hP.2 (by first|(rw[hb1];exact Bool.false_ne_true)|simp[hb1])
    refine Zc (v:=(.bool true)) (congrArg Value.bool (congrArg Bool.not hb1)) (v6u rfl rfl (v6u rfl rfl (v6u rfl rfl (v6u rfl rfl (v6u rfl rfl (y1i (v:=(.bool true)) rfl rfl (wpList_nil (Qp (if_t rfl (Qv (Qw (v:=(.slice none 0 0)) rfl (Qw (v:=(.int .i64 (11:Int))) rfl (wpList_nil (Qp (wp_ret (R8 (j57 (R8 (R8 (j57 (R8 (ret2 rfl (show ev _ _ _=(.slice none 0 0) from rfl) (show ev _ _ _=(.int .i64 (11:Int)) from rfl) ?_))))))))))))))))))))))
    have hS33:=hS21.addNil 9 1
    exact⟨[],(11:Int),(.slice none 0 0),rfl,(St.back (hS33.keep 1 (ms':=[vec (.slice none 0 0) 9 1 0 []]) rfl) (Sub.refl _)),(by simp[Sml]),hP⟩
  ·
   replace hP:=hP.2 ht2
   refine wp_exit (z8k (z8k (j73 (Qp (Qv (Qw (v:=(.slice none 0 0)) rfl (wpList_nil (Qp (Qv (y5w (fun y:Bool=>(Value.bool (y))) hS17 ?_))))))))))
   intro b6 w17 hS34
   refine w9v (cs:=[(.map none)]) hS34 Tryz.zeroValue60 rfl ?_
   intro b7 w18 hS35
   refine w9u (T:=60) (vs:=[(.map (some b6))]) (cs':=[(.map (some b6))]) (ms':=(blk b7 60 [(.map (some b6))]::emap b6 (fun y:Bool=>(Value.bool (y))) (fun _=>none)::smap b2 (asl es2)::blk b3 313 [(.map (some b2))]::vec v6 9 1 ((cpt r1_).length) ((cpt r1_).flatMap Qg)::vec v4 9 1 ((srt nodes_p).length) ((srt nodes_p).flatMap Qg)::Vk 9 1 Qg es2)) (i:=0) hS35 rfl rfl rfl Tryz.sizeOf60 rfl (ones rfl) rfl (Nat.le_of_ble_eq_true rfl) rfl rfl ?_
   intro w19 hS36
   refine wpList_nil (Qp (wp_seq (wp_block ?_)))
   obtain⟨σ6,hS37,hsub6,hr9⟩:=St.freezeL (ms:=[blk b7 60 [(.map (some b6))],emap b6 (fun y:Bool=>(Value.bool (y))) (fun _=>none),smap b2 (asl es2),blk b3 313 [(.map (some b2))],vec v6 9 1 ((cpt r1_).length) ((cpt r1_).flatMap Qg),vec v4 9 1 ((srt nodes_p).length) ((srt nodes_p).flatMap Qg)]) (ms':=[blk b7 60 [(.map (some b6))],emap b6 (fun y:Bool=>(Value.bool (y))) (fun _=>none),blk b3 313 [(.map (some b2))],vec v6 9 1 ((cpt r1_).length) ((cpt r1_).flatMap Qg),vec v4 9 1 ((srt nodes_p).length) ((srt nodes_p).flatMap Qg)]) (i:=2) hS36 hF2 q40 rfl rfl
   have hS38:=hS37.addNil 9 1
   have hS39:=hS38.front 4 rfl (ms':=[vec v6 9 1 ((cpt r1_).length) ((cpt r1_).flatMap Qg),vec (.slice none 0 0) 9 1 0 [],blk b7 60 [(.map (some b6))],emap b6 (fun y:Bool=>(Value.bool (y))) (fun _=>none),blk b3 313 [(.map (some b2))],vec v4 9 1 ((srt nodes_p).length) ((srt nodes_p).flatMap Qg)]) rfl
   have hS40:=hS39.front 4 rfl (ms':=[blk b3 313 [(.map (some b2))],vec v6 9 1 ((cpt r1_).length) ((cpt r1_).flatMap Qg),vec (.slice none 0 0) 9 1 0 [],blk b7 60 [(.map (some b6))],emap b6 (fun y:Bool=>(Value.bool (y))) (fun _=>none),vec v4 9 1 ((srt nodes_p).length) ((srt nodes_p).flatMap Qg)]) rfl
   have hS41:=hS40.front 3 rfl (ms':=[blk b7 60 [(.map (some b6))],blk b3 313 [(.map (some b2))],vec v6 9 1 ((cpt r1_).length) ((cpt r1_).flatMap Qg),vec (.slice none 0 0) 9 1 0 [],emap b6 (fun y:Bool=>(Value.bool (y))) (fun _=>none),vec v4 9 1 ((srt nodes_p).length) ((srt nodes_p).flatMap Qg)]) rfl
   have hS42:=hS41.front 4 rfl (ms':=[emap b6 (fun y:Bool=>(Value.bool (y))) (fun _=>none),blk b7 60 [(.map (some b6))],blk b3 313 [(.map (some b2))],vec v6 9 1 ((cpt r1_).length) ((cpt r1_).flatMap Qg),vec (.slice none 0 0) 9 1 0 [],vec v4 9 1 ((srt nodes_p).length) ((srt nodes_p).flatMap Qg)]) rfl
   have hS43:=hS42.front 4 rfl (ms':=[vec (.slice none 0 0) 9 1 0 [],emap b6 (fun y:Bool=>(Value.bool (y))) (fun _=>none),blk b7 60 [(.map (some b6))],blk b3 313 [(.map (some b2))],vec v6 9 1 ((cpt r1_).length) ((cpt r1_).flatMap Qg),vec v4 9 1 ((srt nodes_p).length) ((srt nodes_p).flatMap Qg)]) rfl
   have hS44:=hS43.front 5 rfl (ms':=[vec v4 9 1 ((srt nodes_p).length) ((srt nodes_p).flatMap Qg),vec (.slice none 0 0) 9 1 0 [],emap b6 (fun y:Bool=>(Value.bool (y))) (fun _=>none),blk b7 60 [(.map (some b6))],blk b3 313 [(.map (some b2))],vec v6 9 1 ((cpt r1_).length) ((cpt r1_).flatMap Qg)]) rfl
   refine y1t (fun left_3 out_3 F_4 f z=> ∃(v13:Value) (v14:Value) (σ7:Hv) (g:Fr),f=(upd (upd (upd (upd g 6 v13) 7 (.pointer (some ⟨b3,0,none⟩))) 10 v14) 11 (.pointer (some ⟨b7,0,none⟩)))/\St ⟨w,σ,[]⟩ z σ7 [vec v13 9 1 left_3.length ((left_3).flatMap Qg),vec v14 9 1 out_3.length ((out_3).flatMap Qg),emap b6 (fun y:Bool=>(Value.bool (y))) F_4,blk b7 60 [(.map (some b6))],blk b3 313 [(.map (some b2))],vec v6 9 1 ((cpt r1_).length) ((cpt r1_).flatMap Qg)]/\Sub σ6 σ7/\v13.oneCell'=true/\Sml left_3.length/\v14.oneCell'=true/\Sml out_3.length) hP ⟨v4,(.slice none 0 0),σ6,_,(Zz rfl (Zz rfl (Zz rfl (Zz rfl rfl)))),hS44,(Sub.refl _),(q0f ho1.1),(show Sml (srt nodes_p).length by rw[Jx];exact hsm1),rfl,(by simp[Sml])⟩ ?_
   clear hP
   rintro left_3 out_3 F_4 Y5 hP f w20 ⟨v13,v14,σ7,g,rfl,hS45,hsub7,ho10,hl8,ho11,hl9⟩
   refine wp_seq (Qv (Zc (v:=v13) rfl (j02 hS45 rfl (i:=0) rfl Tryz.underlying70 ?_)))
   have hlen4:left_3.length<=9223372036854775807:=by have:=hl8;unfold Sml at this;omega
   replace hP:=hP hlen4
   refine u1i (r:=(decide ((0:Int)<((left_3.length:Nat):Int)))) rfl rfl rfl (wpList_nil (Qp ?_))
   refine if_d ((0:Int)<((left_3.length:Nat):Int)) rfl (fun ht4=> ?_) (fun ht4=> ?_)
   ·
    replace hP:=hP.1 ht4
    refine wp_skip (Qp (wp_block (Qv (Zc (v:=v13) rfl (j3n (la:=[]) (lb:=[(.pointer (some ⟨b3,0,none⟩)),(.pointer (some ⟨b7,0,none⟩))]) rfl rfl ?_)))))
    obtain⟨Y6,hK4,hP⟩:=hP
    refine q9b (args:=[v13,(.func (.func 224) #[] #[(.pointer (some ⟨b3,0,none⟩)),(.pointer (some ⟨b7,0,none⟩))])]) rfl Tryz.call223 (Calls.mono (R:=fun e z=> ∃(r_1:Int) (σ8:Hv),e= .returned (.int .i64 r_1)/\Y6 r_1/\St ⟨w,σ,[]⟩ z σ8 [vec v13 9 1 left_3.length ((left_3).flatMap Qg),vec v14 9 1 out_3.length ((out_3).flatMap Qg),emap b6 (fun y:Bool=>(Value.bool (y))) F_4,blk b7 60 [(.map (some b6))],blk b3 313 [(.map (some b2))],vec v6 9 1 ((cpt r1_).length) ((cpt r1_).flatMap Qg)]/\Sub σ7 σ8) ?_ ?_)
    ·
     refine enter Tryz.func223 rfl rfl rfl ?_
     refine Qv (Qw (v:=(.int .i64 (0:Int))) rfl (wpList_nil (Qp (wp_seq (Qv (Zc (v:=v13) rfl (j02 hS45 rfl (i:=0) rfl Tryz.underlying70 (Zc (v:=(.int .i64 (0:Int))) rfl (wpList_nil (Qp (wp_block ?_)))))))))))
     refine w4d (fun k_5 f z=> ∃(σ9:Hv) (g:Fr),f=(upd (upd (upd (upd g 0 v13) 1 (.func (.func 224) #[] #[(.pointer (some ⟨b3,0,none⟩)),(.pointer (some ⟨b7,0,none⟩))])) 7 (.int .i64 ((left_3.length:Nat):Int))) 8 (.int .i64 ((k_5:Nat):Int)))/\St ⟨w,σ,[]⟩ z σ9 [vec v13 9 1 left_3.length ((left_3).flatMap Qg),vec v14 9 1 out_3.length ((out_3).flatMap Qg),emap b6 (fun y:Bool=>(Value.bool (y))) F_4,blk b7 60 [(.map (some b6))],blk b3 313 [(.map (some b2))],vec v6 9 1 ((cpt r1_).length) ((cpt r1_).flatMap Qg)]/\Sub σ7 σ9) hP ⟨σ7,_,(Zz rfl (Zz rfl (Zz rfl (Zz rfl rfl)))),hS45,(Sub.refl _)⟩ ?_
     clear hP
     rintro k_5 Y7 hP f w21 ⟨σ9,g,rfl,hS46,hsub9⟩
     refine Qv (v6v (r:=(decide (((k_5:Nat):Int)<((left_3.length:Nat):Int)))) rfl rfl rfl (wpList_nil (Qp (wp_seq ?_))))
     refine if_d (((k_5:Nat):Int)<((left_3.length:Nat):Int)) rfl (fun ht5=> ?_) (fun ht5=> ?_)
     ·
      replace hP:=hP.1 ht5
      refine wp_skip (Qp (wp_seq (wp_block (Qv (Zc (v:=(.int .i64 ((k_5:Nat):Int))) rfl (Qw (v:=(.int .i64 ((k_5:Nat):Int))) rfl (wpList_nil (Qp (Qv (Zc (v:=(.func (.func 224) #[] #[(.pointer (some ⟨b3,0,none⟩)),(.pointer (some ⟨b7,0,none⟩))])) rfl (Zc (v:=v13) rfl (Zc (v:=(.int .i64 ((k_5:Nat):Int))) rfl ?_))))))))))))
      obtain⟨x2_,hx2⟩:=getq (l:=left_3) (k:=k_5) (by have:=ht5;omega)
      replace hP:=hP x2_ hx2
      obtain⟨g1,cp1,hv2⟩:=w4e (hS46.get (i:=0) rfl) (Qi hx2)
      refine Rg (k:=k_5) (a':=⟨g1,k_5*1,none⟩) hv2 rfl rfl (Qi hx2) Tryz.underlying70 Tryz.sizeOf9 (by simp[Vs]) (q7p (v:=(.string x2_)) rfl Tryz.isAgg9 (j8c q40 (j:=0) hv2 (hS46.get (i:=0) rfl) hx2 rfl) (v6y (args:=[(.string x2_),(.pointer (some ⟨b3,0,none⟩)),(.pointer (some ⟨b7,0,none⟩))]) rfl rfl Tryz.call224 ?_))
      refine enter Tryz.func224 rfl rfl rfl ?_
      refine Qv (Qw (v:=(.bool false)) rfl (wpList_nil (Qp (Qv (q7p (v:=(.map (some b2))) rfl Tryz.isAgg313 (hS46.cell (i:=4) rfl rfl) (Zc (v:=(.string x2_)) rfl ?_))))))
      obtain⟨v15,hl10,hz1⟩:=RMp.at (z:= .slice none 0 0) (z0:=[]) RSl.nil hr9 x2_
      obtain⟨a3,cap3,rfl⟩:=hz1.shape
      refine y5z (v:=(.slice a3 ((F_2 x2_).getD []).length cap3)) hl10 (View.of (Sub.trans hsub7 hsub9) hS46.view) rfl rfl Tryz.underlying313 Tryz.underlying9 Tryz.zeroValue70 (j3n (la:=[]) (lb:=[(.pointer (some ⟨b7,0,none⟩))]) rfl rfl (q9b (args:=[(.slice a3 ((F_2 x2_).getD []).length cap3),(.func (.func 226) #[] #[(.pointer (some ⟨b7,0,none⟩))])]) rfl Tryz.call225 ?_))
      refine enter Tryz.func225 rfl rfl rfl ?_
      refine Qv (Qw (v:=(.bool false)) rfl (wpList_nil (Qp (Qv (Zc (v:=(.slice a3 ((F_2 x2_).getD []).length cap3)) rfl (Zc (v:=(.func (.func 226) #[] #[(.pointer (some ⟨b7,0,none⟩))])) rfl ?_))))))
      obtain⟨Y8,hK5,hP⟩:=hP
      refine q9b (args:=[(.slice a3 ((F_2 x2_).getD []).length cap3),(.func (.func 226) #[] #[(.pointer (some ⟨b7,0,none⟩))])]) rfl Tryz.call223 (Calls.mono (R:=fun e z=> ∃(r_2:Int) (σ10:Hv),e= .returned (.int .i64 r_2)/\Y8 r_2/\St ⟨w,σ,[]⟩ z σ10 [vec v13 9 1 left_3.length ((left_3).flatMap Qg),vec v14 9 1 out_3.length ((out_3).flatMap Qg),emap b6 (fun y:Bool=>(Value.bool (y))) F_4,blk b7 60 [(.map (some b6))],blk b3 313 [(.map (some b2))],vec v6 9 1 ((cpt r1_).length) ((cpt r1_).flatMap Qg)]/\Sub σ9 σ10) ?_ ?_)
      ·
       refine enter Tryz.func223 rfl rfl rfl ?_
       refine Qv (Qw (v:=(.int .i64 (0:Int))) rfl (wpList_nil (Qp (wp_seq (Qv (Zc (v:=(.slice a3 ((F_2 x2_).getD []).length cap3)) rfl (z11 rfl Tryz.underlying70 ?_)))))))
       have hlen6:=RSl.len63 hz1
       replace hP:=hP hlen6
       refine Zc (v:=(.int .i64 (0:Int))) rfl (wpList_nil (Qp (wp_block ?_)))
       refine w4d (fun k_7 f z=> ∃(σ11:Hv) (g:Fr),f=(upd (upd (upd (upd g 0 (.slice a3 ((F_2 x2_).getD []).length cap3)) 1 (.func (.func 226) #[] #[(.pointer (some ⟨b7,0,none⟩))])) 7 (.int .i64 ((((F_2 x2_).getD []).length:Nat):Int))) 8 (.int .i64 ((k_7:Nat):Int)))/\St ⟨w,σ,[]⟩ z σ11 [vec v13 9 1 left_3.length ((left_3).flatMap Qg),vec v14 9 1 out_3.length ((out_3).flatMap Qg),emap b6 (fun y:Bool=>(Value.bool (y))) F_4,blk b7 60 [(.map (some b6))],blk b3 313 [(.map (some b2))],vec v6 9 1 ((cpt r1_).length) ((cpt r1_).flatMap Qg)]/\Sub σ9 σ11) hP ⟨σ9,_,(Zz rfl (Zz rfl (Zz rfl (Zz rfl rfl)))),hS46,(Sub.refl _)⟩ ?_
       clear hP
       rintro k_7 Y9 hP f w22 ⟨σ11,g,rfl,hS47,hsub11⟩
       refine Qv (v6v (r:=(decide (((k_7:Nat):Int)<((((F_2 x2_).getD []).length:Nat):Int)))) rfl rfl rfl (wpList_nil (Qp (wp_seq ?_))))
       refine if_d (((k_7:Nat):Int)<((((F_2 x2_).getD []).length:Nat):Int)) rfl (fun ht6=> ?_) (fun ht6=> ?_)
       ·
        replace hP:=hP.1 ht6
        refine wp_skip (Qp (wp_seq (wp_block (Qv (Zc (v:=(.int .i64 ((k_7:Nat):Int))) rfl (Qw (v:=(.int .i64 ((k_7:Nat):Int))) rfl (wpList_nil (Qp (Qv (Zc (v:=(.func (.func 226) #[] #[(.pointer (some ⟨b7,0,none⟩))])) rfl (Zc (v:=(.slice a3 ((F_2 x2_).getD []).length cap3)) rfl (Zc (v:=(.int .i64 ((k_7:Nat):Int))) rfl ?_))))))))))))
        obtain⟨x3_,hx3⟩:=getq (l:=((F_2 x2_).getD [])) (k:=k_7) (by have:=ht6;omega)
        replace hP:=hP x3_ hx3
        obtain⟨ad2,cs2,ha2,hl11,hr10,hR2,hlt2⟩:=RSl.at hz1 hx3
        cases hR2
        refine Rg (k:=k_7) (a':=(ad2.add (k_7*1))) (congrArg (fun z=>Value.slice z _ _) ha2) rfl rfl hlt2 Tryz.underlying70 Tryz.sizeOf9 rfl (q7p (v:=(.string x3_)) rfl Tryz.isAgg9 (hr10.cell (View.of (Sub.trans (Sub.trans hsub7 hsub9) hsub11) hS47.view) 0 rfl rfl) (v6y (args:=[(.string x3_),(.pointer (some ⟨b7,0,none⟩))]) rfl rfl Tryz.call226 ?_))
        refine enter Tryz.func226 rfl rfl rfl ?_
        refine Qv (Qw (v:=(.bool false)) rfl (wpList_nil (Qp (Qv (q7p (v:=(.map (some b6))) rfl Tryz.isAgg60 (hS47.cell (i:=3) rfl rfl) (Zc (v:=(.string x3_)) rfl (y5x (v:=(.bool (((F_4 x3_).getD false)))) (i:=2) hS47 rfl rfl rfl Tryz.underlying60 Tryz.underlying9 Tryz.zeroValue4 (y1u (fun y:Bool=>(Value.bool (y))) _ rfl) (y1l (r:=(!((F_4 x3_).getD false))) rfl rfl (Qw (v:=(.bool (!((F_4 x3_).getD false)))) rfl (wpList_nil (Qp (wp_ret (ret1 rfl (show ev _ _ _=(.bool (!((F_4 x3_).getD false))) from rfl) ?_)))))))))))))
        refine⟨_,rfl,?_⟩
        refine wpList_nil (Qp ?_)
        refine y9a rfl (fun ht7=> ?_) (fun ht7=> ?_)
        ·
         replace hP:=hP.2 (by first|(rw[ht7];exact Bool.false_ne_true)|simp[ht7])
         refine Qv (Zc (v:=(.int .i64 ((k_7:Nat):Int))) rfl (Qw (v:=(.int .i64 ((k_7:Nat):Int))) rfl (wpList_nil (Qp (wp_ret (j57 (R8 (R8 (j57 (R8 (ret1 rfl (show ev _ _ _=(.int .i64 ((k_7:Nat):Int)) from rfl) ?_)))))))))))
         exact⟨((k_7:Nat):Int),σ11,rfl,hP,hS47,hsub11⟩
        ·
         replace hP:=hP.1 ht7
         refine wp_skip (v4i (Qp (j3m (v4h (r:=((k_7+1:Nat):Int)) rfl rfl (nw (by omega) (by omega) (by have:=hlen6;omega)) (Zc (v:=(.int .i64 ((k_7+1:Nat):Int))) rfl (wpList_nil (Qp ?_)))))))
         exact⟨k_7+1,_,rfl,hP,σ11,_,(Zz rfl (Zz rfl (Zz rfl (Zz rfl rfl)))),hS47,hsub11⟩
       ·
        replace hP:=hP.2 ht6
        refine wp_exit (z8k (z8k (j73 (Qp (Qv (Qw (v:=(.int .i64 (-1:Int))) rfl (wpList_nil (Qp (wp_ret (ret1 rfl (show ev _ _ _=(.int .i64 (-1:Int)) from rfl) ?_))))))))))
        exact⟨(-1:Int),σ11,rfl,hP,hS47,hsub11⟩
      ·
       rintro _ w23 ⟨r_2,σ10,rfl,hY4,hS48,hsub10⟩
       refine⟨_,rfl,?_⟩
       replace hP:=hK5 r_2 hY4
       refine y87 (r:=(decide ((0:Int)<=r_2))) rfl rfl rfl (Qw (v:=(.bool (decide ((0:Int)<=r_2)))) rfl (wpList_nil (Qp (wp_ret (ret1 rfl (show ev _ _ _=(.bool (decide ((0:Int)<=r_2))) from rfl) ?_)))))
       refine⟨_,rfl,?_⟩
       refine y1l (r:=(!decide ((0:Int)<=r_2))) rfl rfl (Qw (v:=(.bool (!decide ((0:Int)<=r_2)))) rfl (wpList_nil (Qp (wp_ret (ret1 rfl (show ev _ _ _=(.bool (!decide ((0:Int)<=r_2))) from rfl) ?_)))))
       refine⟨_,rfl,?_⟩
       refine wpList_nil (Qp ?_)
       refine y89 ((0:Int)<=r_2) rfl (fun ht8=> ?_) (fun ht8=> ?_)
       ·
        replace hP:=hP.2 ht8
        refine Qv (Zc (v:=(.int .i64 ((k_5:Nat):Int))) rfl (Qw (v:=(.int .i64 ((k_5:Nat):Int))) rfl (wpList_nil (Qp (wp_ret (j57 (R8 (R8 (j57 (R8 (ret1 rfl (show ev _ _ _=(.int .i64 ((k_5:Nat):Int)) from rfl) ?_)))))))))))
        exact⟨((k_5:Nat):Int),σ10,rfl,hP,hS48,(Sub.trans hsub9 hsub10)⟩
       ·
        replace hP:=hP.1 ht8
        refine wp_skip (v4i (Qp (j3m (v4h (r:=((k_5+1:Nat):Int)) rfl rfl (nw (by omega) (by omega) (by have:=hlen4;omega)) (Zc (v:=(.int .i64 ((k_5+1:Nat):Int))) rfl (wpList_nil (Qp ?_)))))))
        exact⟨k_5+1,_,rfl,hP,σ10,_,(Zz rfl (Zz rfl (Zz rfl (Zz rfl rfl)))),hS48,(Sub.trans hsub9 hsub10)⟩
     ·
      replace hP:=hP.2 ht5
      refine wp_exit (z8k (z8k (j73 (Qp (Qv (Qw (v:=(.int .i64 (-1:Int))) rfl (wpList_nil (Qp (wp_ret (ret1 rfl (show ev _ _ _=(.int .i64 (-1:Int)) from rfl) ?_))))))))))
      exact⟨(-1:Int),σ9,rfl,hP,hS46,hsub9⟩
    ·
     rintro _ w24 ⟨r_1,σ8,rfl,hY5,hS49,hsub8⟩
     refine⟨_,rfl,?_⟩
     replace hP:=hK4 r_1 hY5
     refine Qw (v:=(.int .i64 r_1)) rfl (wpList_nil (Qp (wp_seq (Qv (Zc (v:=(.int .i64 r_1)) rfl (v6v (r:=(decide (r_1<(0:Int)))) rfl rfl rfl (wpList_nil (Qp ?_))))))))
     refine if_d (r_1<(0:Int)) rfl (fun ht9=> ?_) (fun ht9=> ?_)
     ·
      replace hP:=hP.1 ht9
      refine Qv (Qw (v:=(.slice none 0 0)) rfl (Qw (v:=(.int .i64 (12:Int))) rfl (wpList_nil (Qp (wp_ret (R8 (j57 (R8 (j57 (R8 (ret2 rfl (show ev _ _ _=(.slice none 0 0) from rfl) (show ev _ _ _=(.int .i64 (12:Int)) from rfl) ?_)))))))))))
      have hS50:=hS49.addNil 9 1
      exact⟨[],(12:Int),(.slice none 0 0),rfl,(St.back (hS50.keep 1 (ms':=[vec (.slice none 0 0) 9 1 0 []]) rfl) (Sub.refl _)),(by simp[Sml]),hP⟩
     ·
      replace hP:=hP.2 ht9
      refine wp_skip (Qp (Qv (Zc (v:=v14) rfl (Zc (v:=v13) rfl (Zc (v:=(.int .i64 r_1)) rfl ?_)))))
      obtain⟨j1_,hj1,hP⟩:=hP
      obtain⟨x4_,hx4,hP⟩:=hP
      obtain⟨g2,cp2,hv3⟩:=w4e (hS49.get (i:=0) rfl) (Qi hx4)
      refine Rg (k:=j1_) (a':=⟨g2,j1_*1,none⟩) hv3 rfl hj1 (Qi hx4) Tryz.underlying70 Tryz.sizeOf9 (by simp[Vs]) (q7p (v:=(.string x4_)) rfl Tryz.isAgg9 (j8c q40 (j:=0) hv3 (hS49.get (i:=0) rfl) hx4 rfl) (j68 (cs:=[(.string x4_)]) (e:=9) hS49 (fun _=>by kernel_rfl) ?_))
      intro b8 w25 hS51
      obtain⟨hsm4,hP⟩:=hP
      refine y5y (Ms:=fun v16=>[blk b8 9 [(.string x4_)],vec v13 9 1 left_3.length ((left_3).flatMap Qg),vec v16 9 1 ((out_3++[x4_]).length) ((out_3++[x4_]).flatMap Qg),emap b6 (fun y:Bool=>(Value.bool (y))) F_4,blk b7 60 [(.map (some b6))],blk b3 313 [(.map (some b2))],vec v6 9 1 ((cpt r1_).length) ((cpt r1_).flatMap Qg)]) (k':=(out_3++[x4_]).length) (xs':=(out_3++[x4_]).flatMap Qg) Tryz.underlying70 Tryz.type9 rfl rfl (bytes:=16) rfl rfl (Nat.succ_pos _) hS51 rfl (q:=2) rfl rfl rfl (z0h (hS51.get (i:=0) rfl)) (ones rfl) hsm4 (by omega) (by first|rfl|exact List.length_append.symm|simp) (by simp[Qg]) (fun _=>rfl) ?_
      intro v16 w26 ho12 hS52
      have hS53:=hS52.drop 0 (ms':=[vec v13 9 1 left_3.length ((left_3).flatMap Qg),vec v16 9 1 ((out_3++[x4_]).length) ((out_3++[x4_]).flatMap Qg),emap b6 (fun y:Bool=>(Value.bool (y))) F_4,blk b7 60 [(.map (some b6))],blk b3 313 [(.map (some b2))],vec v6 9 1 ((cpt r1_).length) ((cpt r1_).flatMap Qg)]) rfl
      refine Qw (v:=v16) rfl (wpList_nil (Qp (wp_seq (dr (fun z=>St ⟨w,σ,[]⟩ z σ8 [vec v13 9 1 left_3.length ((left_3).flatMap Qg),vec v16 9 1 ((out_3++[x4_]).length) ((out_3++[x4_]).flatMap Qg),blk b7 60 [(.map (some b6))],blk b3 313 [(.map (some b2))],vec v6 9 1 ((cpt r1_).length) ((cpt r1_).flatMap Qg)]) (by kernel_rfl) rfl ?_))))
      have hS54:=hS53.drew
      refine dt 0 1 (v:=(.map (some b6))) (by kernel_rfl) rfl rfl (fun _ _ _ h=>h) (hS54.sublist (.cons_cons _ (.cons_cons _ (.cons _ (List.Sublist.refl _))))) (fun _ hJ _ hK=>q7p (v:=(.map (some b6))) rfl Tryz.isAgg60 (hJ.cell (i:=2) rfl rfl) ⟨rfl,hK⟩) (dt 1 3 (v:=v13) (by kernel_rfl) rfl rfl (fun _ _ _ h=>h) (hS54.sublist (.cons_cons _ (.cons_cons _ (.cons _ (List.Sublist.refl _))))) (fun _ _ _ hK=>Zc (v:=v13) rfl ⟨rfl,hK⟩) (dt 2 7 (v:=(.int .i64 r_1)) (by kernel_rfl) rfl rfl (fun _ _ _ h=>h) (hS54.sublist (.cons_cons _ (.cons_cons _ (.cons _ (List.Sublist.refl _))))) (fun _ _ _ hK=>Zc (v:=(.int .i64 r_1)) rfl ⟨rfl,hK⟩) ?_))
      obtain⟨j2_,hj2,hP⟩:=hP
      obtain⟨x5_,hx5,hP⟩:=hP
      obtain⟨g3,cp3,hv4⟩:=w4e (hS54.get (i:=0) rfl) (Qi hx5)
      refine dt 3 15 (v:=(.pointer (some ⟨g3,j2_*1,none⟩))) (by kernel_rfl) rfl rfl (fun _ _ _ h=>h) (hS54.sublist (.cons_cons _ (.cons_cons _ (.cons _ (List.Sublist.refl _))))) (fun _ _ _ hK=>Rg (k:=j2_) (a':=⟨g3,j2_*1,none⟩) hv4 rfl hj2 (Qi hx5) Tryz.underlying70 Tryz.sizeOf9 (by simp[Vs]) ⟨rfl,hK⟩) (dt 4 31 (v:=(.string x5_)) (by kernel_rfl) rfl rfl (fun _ _ _ h=>h) (hS54.sublist (.cons_cons _ (.cons_cons _ (.cons _ (List.Sublist.refl _))))) (fun _ hJ _ hK=>q7p (v:=(.string x5_)) rfl Tryz.isAgg9 (j8c q40 (j:=0) hv4 (hJ.get (i:=0) rfl) hx5 rfl) ⟨rfl,hK⟩) (d1 5 63 (by kernel_rfl) rfl (y9g (y0:=true) (i:=2) (ms':=[vec v13 9 1 left_3.length ((left_3).flatMap Qg),vec v16 9 1 ((out_3++[x4_]).length) ((out_3++[x4_]).flatMap Qg),emap b6 (fun y:Bool=>(Value.bool (y))) (put F_4 x5_ true),blk b7 60 [(.map (some b6))],blk b3 313 [(.map (some b2))],vec v6 9 1 ((cpt r1_).length) ((cpt r1_).flatMap Qg)]) hS54 rfl rfl rfl rfl Tryz.underlying60 Tryz.underlying9 rfl ?_)))
      intro w27 hS55
      refine wpList_nil ?_
      refine⟨rfl,(hS55.sublist (.cons_cons _ (.cons_cons _ (.cons _ (List.Sublist.refl _))))),j69 (J':=fun z=>St ⟨w,σ,[]⟩ z σ8 [vec v13 9 1 left_3.length ((left_3).flatMap Qg),vec v16 9 1 ((out_3++[x4_]).length) ((out_3++[x4_]).flatMap Qg),emap b6 (fun y:Bool=>(Value.bool (y))) (put F_4 x5_ true),blk b7 60 [(.map (some b6))],blk b3 313 [(.map (some b2))],vec v6 9 1 ((cpt r1_).length) ((cpt r1_).flatMap Qg)]) (fun w h=>h.sublist (.cons_cons _ (.cons_cons _ (.cons _ (List.Sublist.refl _))))) _ _ _ _ ?_⟩
      refine dz (by kernel_rfl) (Qp (j3m (Zc (v:=v13) rfl (Zc (v:=(.int .i64 r_1)) rfl (Zc (v:=(.int .i64 r_1)) rfl ?_)))))
      obtain⟨hi1,hP⟩:=hP
      refine v4h (r:=(r_1+(1:Int))) rfl rfl (nwi rfl hi1) ?_
      obtain⟨j3_,hj3,hP⟩:=hP
      obtain⟨hd1,hP⟩:=hP
      obtain⟨hd2,hP⟩:=hP
      obtain⟨hsm5,hP⟩:=hP
      have hd3:r_1=((j3_:Nat):Int)/\(r_1+(1:Int))=((j3_+1:Nat):Int):=⟨by omega,by omega⟩
      refine q9b (args:=[v13,(.int .i64 ((j3_:Nat):Int)),(.int .i64 ((j3_+1:Nat):Int))]) (by rw[←hd3.1,←hd3.2];rfl) Tryz.call227 (Calls.mono (v4l (i:=j3_) (j:=(j3_+1)) Tryz.slices_Delete_string hS55.view (hS55.get (i:=0) rfl) (fun b hb=>hS55.off _ (List.mem_of_getElem? (i:=0) rfl) b hb) (by omega) hd2 hd1) ?_)
      rintro _ w28 ⟨v17,rfl,hf2,hg7,ho13⟩
      refine⟨_,rfl,?_⟩
      have ho14:=q0f ho13
      have hS56:=hS55.growV (i:=0) (o':=vec v17 9 1 ((left_3.take j3_++left_3.drop (j3_+1)).length) ((left_3.take j3_++left_3.drop (j3_+1)).flatMap Qg)) rfl hg7 hf2 ho13 (ms':=[vec v17 9 1 ((left_3.take j3_++left_3.drop (j3_+1)).length) ((left_3.take j3_++left_3.drop (j3_+1)).flatMap Qg),vec v16 9 1 ((out_3++[x4_]).length) ((out_3++[x4_]).flatMap Qg),emap b6 (fun y:Bool=>(Value.bool (y))) (put F_4 x5_ true),blk b7 60 [(.map (some b6))],blk b3 313 [(.map (some b2))],vec v6 9 1 ((cpt r1_).length) ((cpt r1_).flatMap Qg)]) rfl
      refine Qw (v:=v17) rfl (wpList_nil (v4i (Qp ?_)))
      exact⟨left_3.take j3_++left_3.drop (j3_+1),out_3++[x4_],put F_4 x5_ true,_,rfl,hP,v17,v16,σ8,_,(Zz rfl (Zz rfl (Zz rfl (Zz rfl rfl)))),hS56,(Sub.trans hsub7 hsub8),ho14,hsm5,ho12,hsm4⟩
   ·
    replace hP:=hP.2 ht4
    refine wp_exit (z8k (z8k (j73 (Qp (Qv (Zc (v:=v14) rfl (Qw (v:=v14) rfl (Qw (v:=(.int .i64 (0:Int))) rfl (wpList_nil (Qp (wp_ret (ret2 rfl (show ev _ _ _=v14 from rfl) (show ev _ _ _=(.int .i64 (0:Int)) from rfl) ?_))))))))))))
    have hS57:=hS45.front 1 rfl (ms':=[vec v14 9 1 out_3.length ((out_3).flatMap Qg),vec v13 9 1 left_3.length ((left_3).flatMap Qg),emap b6 (fun y:Bool=>(Value.bool (y))) F_4,blk b7 60 [(.map (some b6))],blk b3 313 [(.map (some b2))],vec v6 9 1 ((cpt r1_).length) ((cpt r1_).flatMap Qg)]) rfl
    exact⟨out_3,(0:Int),v14,rfl,(St.back (hS57.keep 1 (ms':=[vec v14 9 1 out_3.length ((out_3).flatMap Qg)]) rfl) (Sub.refl _)),hl9,hP⟩
end Go.Proofs.YtkbjibhkaddepaaGreatDoor
end
noncomputable section
set_option maxRecDepth 100000
open Go Go.RowKit Go.Fl Go.Fl.Lk Go.Fx
namespace Go.En
theorem w43{σ:Hv}{w:World}{g:Nat}{T:C}{n:Nat}{l:List (car T)}(hV:View σ w)(hs:SRep D (fun _=>none) σ (.pointer (some ⟨g,0,none⟩)) (.fap T n l)){i j:Nat}{x:car T}{s:FV Sg}(hx:l[i]? =some x)(hj:(D.shape T x)[j]? =some s)(hz:j<D.size T):
  ∃v,w.cell? ⟨g,i*D.size T+j,none⟩=some v/\RepF D σ v s:=by
 generalize hq:Value.pointer (some (⟨g,0,none⟩:Addr))=q at hs
 cases hs with
 |fap ad cs T' N l' hN h hl hr=>
  cases hq
  have hrow:=hr i x hx
  have hlen:=okP.ok.len T x
  have hjl:j<((cs.drop (i*D.size T)).take (D.size T)).length:=by rw[hrow.1,hlen];exact hz
  obtain⟨v,hv⟩: ∃v,((cs.drop (i*D.size T)).take (D.size T))[j]? =some v:=⟨_,List.getElem?_eq_getElem hjl⟩
  refine⟨v,?_,hrow.2 j v s hv hj⟩
  rw[List.getElem?_take,if_pos hz,List.getElem?_drop] at hv
  have:=hV.cell (h _ v hv)
  rw[Vs,Nat.zero_add] at this
  exact this
theorem y29: ∀c,c<256->v3n[c]? =some ((Go.Lib.firstT c:Nat):Int):=by decide
theorem u0a: ∀i,i<16->(j8y[i]?).map (fun a=>(a.lo,a.hi))=some (((Go.Lib.accLo i:Nat):Int),((Go.Lib.accHi i:Nat):Int)):=by decide
theorem tabs{σ:Hv}{w:World}(hV:View σ w)(hG:Glb D σ):Go.Lib.Utf8Tabs (Proofs.Tryz.lays196_ren.g 3) (Proofs.Tryz.lays196_ren.g 4) w:=by
 refine⟨fun c hc=> ?_,fun i hi=> ?_⟩
 ·have h:=hG.known (Proofs.Tryz.lays196_ren.g 3)
  obtain⟨v,h1,h2⟩:=w43 (T:= .u8) (n:=256) (l:=v3n) hV h (i:=c) (j:=0) (s:= .int .u8 ((Go.Lib.firstT c:Nat):Int)) (y29 c hc) rfl (by decide)
  cases h2
  simpa [show D.size C.u8=1 from rfl] using h1
 ·have h:=hG.known (Proofs.Tryz.lays196_ren.g 4)
  have ha:=u0a i hi
  obtain⟨a,e1,e2⟩:=Option.map_eq_some_iff.1 ha
  obtain⟨v,h1,h2⟩:=w43 (T:= .acc) (n:=16) (l:=j8y) hV h (i:=i) (j:=0) (s:= .int .u8 a.lo) e1 rfl (by decide)
  obtain⟨v',h1',h2'⟩:=w43 (T:= .acc) (n:=16) (l:=j8y) hV h (i:=i) (j:=1) (s:= .int .u8 a.hi) e1 rfl (by decide)
  cases h2;cases h2'
  simp only[Prod.mk.injEq] at e2
  rw[e2.1] at h1;rw[e2.2] at h1'
  refine⟨by rw[Nat.mul_comm];simpa [show D.size C.acc=2 from rfl] using h1,by rw[Nat.mul_comm];simpa [show D.size C.acc=2 from rfl] using h1'⟩
theorem v0p{w w':World}(h:Below w.heap.size w w'):Keeps [] w w':=⟨h.os,h.tape,h.output,h.size,fun k hk _=>h.block k hk⟩
theorem q7m{σ:Hv}{w w1:World}{args:List (Tr Sg)}{vals:List Value}{K:List (Tr Sg)->List (Tr Sg)->Prop}{rets outs:List (Tr Sg)}{rv:List Value}(hS:St ⟨w,σ,feet []⟩ w σ [])(hK:K rets outs)(hb:Below w.heap.size w w1)(hL:LayL D σ rets rv [])(hT:LayT D σ args outs vals [] []):
  Back D σ w args vals [] K (.returned (retV rv)) w1:=by
 have hk:=v0p hb
 refine⟨rets,outs,rv,σ,[],[],rfl,hK,hL,hT,?_⟩
 refine⟨hk,fun b o hbo=> ?_,Sub.refl _,fun _ _ _=>rfl,by simp,by simp,by simp,by simp⟩
 have h1:=hS.view b o hbo
 have hlt:b<w.heap.size:=by
  rcases Nat.lt_or_ge b w.heap.size with h|h
  ·exact h
  ·rw[Array.getElem?_eq_none h] at h1;cases h1
 rw[hk.block b hlt (by simp)];exact h1
theorem j13:z08 Proofs.Tryz.prog D 206 (conV ([.v]:LP) ([.str]:LV) ([.bool]:LV) ([.same]:LV) (fun a K=>Vx a.1 (fun q0=>K (q0,()) ((),())))):=by
 intro args K hm w σ vals ins hG hL hS
 obtain⟨a,ha,hm⟩:=Qh hm
 have hargs:=Va ha
 subst hargs
 obtain⟨s,_⟩:=a
 cases hL with
 |cons hp hr=>
 cases hr
 cases hp with
 |f hf=>
 cases hf
 have hm:s.size<=9223372036854775807/\K [.f (.bool (Go.Lib.validD s.data.toList))] [.same]:=hm
 refine Calls.mono (Go.Proofs.Any.utf8_ValidString Proofs.Tryz.lays196 s w hm.1 (tabs hS.view hG)) ?_
 rintro e w' ⟨rfl,hb⟩
 exact q7m (rv:=[.bool (Go.Lib.validD s.data.toList)]) hS hm.2 hb (.cons (ms:=[]) (.f (.bool _)) .nil) (.skip (a0:=[]) .nil)
theorem j14:z08 Proofs.Tryz.prog D 251 (conV ([.v,.v]:LP) ([.str,.str]:LV) ([.bool]:LV) ([.same,.same]:LV) (fun a K=>q15 a.1 a.2.1 (fun q0=>K (q0,()) ((),(),())))):=by
 intro args K hm w σ vals ins hG hL hS
 obtain⟨a,ha,hm⟩:=Qh hm
 have hargs:=Va ha
 subst hargs
 obtain⟨s,t,_⟩:=a
 cases hL with
 |cons hp hr=>
 cases hr with
 |cons hq hr=>
 cases hr
 cases hp with
 |f hf=>
 cases hf
 cases hq with
 |f hf=>
 cases hf
 have hm:s.size<4294967281/\K [.f (.bool (Go.Lib.contains s.data.toList t.data.toList))] [.same,.same]:=hm
 obtain⟨n,hn⟩:=hG.free 6 .i64 rfl
 refine Calls.mono (Proofs.Tryz.strings_Contains s t n w hm.1 (hS.view.cell hn)) ?_
 rintro e w' ⟨rfl,rfl⟩
 exact q7m (rv:=[.bool (Go.Lib.contains s.data.toList t.data.toList)]) hS hm.2 (Below.refl _ _) (.cons (ms:=[]) (.f (.bool _)) .nil) (.skip (a0:=[]) (.skip (a0:=[]) .nil))
theorem w1k:z08 Proofs.Tryz.prog D 318 (conV ([.v]:LP) ([.str]:LV) ([.int .i64,.ifc]:LV) ([.same]:LV) (fun a K=>q4h a.1 (fun q0 q1=>K (q0,q1,()) ((),())))):=by
 intro args K hm w σ vals ins hG hL hS
 obtain⟨a,ha,hm⟩:=Qh hm
 have hargs:=Va ha
 subst hargs
 obtain⟨s,_⟩:=a
 cases hL with
 |cons hp hr=>
 cases hr
 cases hp with
 |f hf=>
 cases hf
 have hm:s.size<=281474976710656/\y28 s (fun n b=>K [.f (.int .i64 n),.f (.ifc b)] [.same]):=hm
 obtain⟨hsz,hm⟩:=hm
 have err: ∀g:Nat,D.glob g= .fptr [.ifc false] 0-> ∃ev,w.cell? ⟨g,0,none⟩=some ev/\(ev= .nilIface∨ ∃te pe,ev= .iface te pe):=by
  intro g hg
  have h:=hG.known g
  rw[hg] at h
  generalize hq:Value.pointer (some (⟨g,0,none⟩:Addr))=q at h
  cases h with
  |fptr ad cs l off hv hr=>
  cases hq
  obtain⟨v,hvl⟩: ∃v,cs=[v]:=List.length_eq_one_iff.1 hr.1
  subst hvl
  have hc:=hS.view.cell (hv 0 v rfl)
  have hR:=hr.2 0 v _ rfl rfl
  refine⟨v,?_,?_⟩
  ·rw[Vs] at hc;exact hc
  ·cases hR with
   |ifcS t p=>exact .inr ⟨t,p,rfl⟩
 unfold y28 at hm
 split at hm
 ·rename_i v hv
  refine Calls.mono (Proofs.Tryz.strconv_Atoi_ok s (by omega) v hv w) ?_
  rintro e w' ⟨rfl,hw⟩
  have hb:Below w.heap.size w w':=by
   rcases hw with rfl|⟨t,rfl⟩
   ·exact Below.refl _ _
   ·exact Go.Lib.bytesWorld_below _ _ _
  exact q7m (rv:=[.int .i64 v,.nilIface]) hS hm hb (.cons (ms:=[]) (.f (.int _ _)) (.cons (ms:=[]) (.f .ifcN) .nil)) (.skip (a0:=[]) .nil)
 ·rename_i hv
  obtain⟨ev,h1,h2⟩:=err 10 rfl
  refine Calls.mono (Proofs.Tryz.strconv_Atoi_range s hsz hv ev w h1 h2) ?_
  rintro e w' ⟨N,rfl,_,_,hb⟩
  exact q7m (rv:=[.int .i64 _,.iface _ _]) hS hm hb (.cons (ms:=[]) (.f (.int _ _)) (.cons (ms:=[]) (.f (.ifcS _ _)) .nil)) (.skip (a0:=[]) .nil)
 ·rename_i hv
  obtain⟨ev,h1,h2⟩:=err 9 rfl
  refine Calls.mono (Proofs.Tryz.strconv_Atoi_syntax s hsz hv ev w h1 h2) ?_
  rintro e w' ⟨N,rfl,_,_,hb⟩
  exact q7m (rv:=[.int .i64 _,.iface _ _]) hS hm hb (.cons (ms:=[]) (.f (.int _ _)) (.cons (ms:=[]) (.f (.ifcS _ _)) .nil)) (.skip (a0:=[]) .nil)
theorem w1l:z08 Proofs.Tryz.prog D 164 (conV ([.v]:LP) ([.int .i64]:LV) ([.str]:LV) ([.same]:LV) (fun a K=>z0s a.1 (fun q0=>K (q0,()) ((),())))):=by
 intro args K hm w σ vals ins hG hL hS
 obtain⟨a,ha,hm⟩:=Qh hm
 have hargs:=Va ha
 subst hargs
 obtain⟨i,_⟩:=a
 cases hL with
 |cons hp hr=>
 cases hr
 cases hp with
 |f hf=>
 cases hf
 have hm:InI i/\K [.f (.str ⟨(Go.Lib.itoa i).toArray⟩)] [.same]:=hm
 obtain⟨t,q,hb⟩:=hG.blk 5 _ rfl
 have htab:Go.Lib.TabIs Proofs.Tryz.prog w "internal/strconv.uint64pow10" .u64 Go.Lib.pow10Tab:=by
  unfold Go.Lib.TabIs World.var?
  rw[show (Proofs.Tryz.prog).globalNamed "internal/strconv.uint64pow10" =some 5 by kernel_rfl,Option.bind_some,hS.view _ _ hb]
  kernel_rfl
 refine Calls.mono (Proofs.Tryz.strconv_Itoa i hm.1.1 hm.1.2 w htab) ?_
 rintro e w' ⟨rfl,k,os,rfl⟩
 exact q7m (rv:=[.string ⟨(Go.Lib.itoa i).toArray⟩]) hS hm.2 (Go.Lib.below_grow _ _ (Nat.le_refl _) _ _) (.cons (ms:=[]) (.f (.str _)) .nil) (.skip (a0:=[]) .nil)
theorem j7n(l:List ByteArray):l.flatMap Qg=l.map Value.string:=by
 induction l with
 |nil=>rfl
 |cons a l ih=>rw[List.flatMap_cons,List.map_cons,ih];rfl
theorem u0b(l:List ByteArray):(cpt l).length<=l.length:=by
 unfold cpt Go.Lib.compact
 rw[List.length_map]
 have h: ∀(d:Array (List UInt8)) (m:Nat),(Go.Lib.compactUpTo d m).length<=m:=by
  intro d m
  unfold Go.Lib.compactUpTo
  rw[List.length_map]
  exact Nat.le_trans (List.length_filter_le _ _) (by simp)
 simpa using h _ _
theorem v86{σ:Hv}{xs:List Value}{l:List ByteArray}(h:Els D σ C.str xs l):xs=l.flatMap Qg:=by
 have h1:xs.length=l.length:=by rw[h.1];exact Nat.mul_one _
 rw[j7n]
 refine List.ext_getElem? fun i=> ?_
 rw[List.getElem?_map]
 rcases Nat.lt_or_ge i l.length with hi|hi
 ·obtain⟨v,hv⟩: ∃v,xs[i]? =some v:=⟨_,List.getElem?_eq_getElem (by omega)⟩
  obtain⟨x,hx⟩: ∃x,l[i]? =some x:=⟨_,List.getElem?_eq_getElem hi⟩
  have hR:=(h.2 i x hx).2 0 v (.str x) (by rw[show D.size C.str=1 from rfl,Nat.mul_one,List.getElem?_take,if_pos (by decide),List.getElem?_drop];exact hv) rfl
  rw[hv,hx]
  cases hR
  rfl
 ·rw[List.getElem?_eq_none (by omega),List.getElem?_eq_none hi];rfl
theorem w44(σ:Hv)(l:List ByteArray):Els D σ C.str (l.flatMap Qg) l:=by
 rw[j7n]
 refine⟨by rw[List.length_map];exact (Nat.mul_one _).symm,fun i x hx=> ?_⟩
 rw[show D.size C.str=1 from rfl,Nat.mul_one]
 have hx:l[i]? =some x:=hx
 have e:((l.map Value.string).drop i).take 1=[.string x]:=by
  rw[←List.map_drop,List.drop_eq_getElem_cons (List.getElem?_eq_some_iff.1 hx).1,(List.getElem?_eq_some_iff.1 hx).2];rfl
 rw[e]
 refine⟨rfl,fun j v s hj hs=> ?_⟩
 cases j with
 |zero=>cases hj;cases hs;exact .str x
 |succ j=>cases hj
theorem q6t:z08 Proofs.Tryz.prog D 137 (conV ([.own 9 C.str]:LP) ([.vec 9 C.str]:LV) ([]:LV) ([.vec 9 C.str]:LV) (fun a K=>Jk a.1 (fun q0=>K () (q0,())))):=by
 intro args K hm w σ vals ins hG hL hS
 obtain⟨a,ha,hm⟩:=Qh hm
 have hargs:=Va ha
 subst hargs
 obtain⟨s,_⟩:=a
 cases hL with
 |cons hp hr=>
 cases hr
 cases hp with
 |vec hE hl h1=>
 have hx:=v86 hE
 subst hx
 have hm:K [] [.vec 9 C.str (srt s)]:=hm
 refine Calls.mono (v2s Proofs.Tryz.slices_Sort_string Proofs.Tryz.slices_Sort_string_none hS.view (hS.get (i:=0) rfl) rfl (fun b hb=>hS.off _ (List.mem_of_getElem? (i:=0) rfl) b hb) (by omega)) ?_
 rintro _ w1 ⟨rfl,hg,ho⟩
 have hS1:=hS.growV (i:=0) (o':=vec _ 9 1 s.length ((srt s).flatMap Qg)) rfl hg rfl ho (ms':=[vec _ 9 1 s.length ((srt s).flatMap Qg)]) rfl
 refine⟨[],_,[],σ,[],[vec _ 9 1 (srt s).length ((srt s).flatMap Qg)],rfl,hm,.nil,.keep (.vec (w44 σ _) (Nat.le_trans (Nat.le_of_eq (Jx _)) hl) h1) .nil,?_⟩
 have e:(srt s).length=s.length:=Jx _
 rw[e];exact hS1
theorem q3v:z08 Proofs.Tryz.prog D 220 (conV ([.own 9 C.str]:LP) ([.vec 9 C.str]:LV) ([.vec 9 C.str]:LV) ([.same]:LV) (fun a K=>J1 a.1 (fun q0=>K (q0,()) ((),())))):=by
 intro args K hm w σ vals ins hG hL hS
 obtain⟨a,ha,hm⟩:=Qh hm
 have hargs:=Va ha
 subst hargs
 obtain⟨s,_⟩:=a
 cases hL with
 |cons hp hr=>
 cases hr
 cases hp with
 |vec hE hl h1=>
 have hx:=v86 hE
 subst hx
 have hm:K [.vec 9 C.str (cpt s)] [.same]:=hm
 refine Calls.mono (j8b Proofs.Tryz.slices_Compact_string Proofs.Tryz.slices_Compact_string_empty hS.view (hS.get (i:=0) rfl) rfl (fun b hb=>hS.off _ (List.mem_of_getElem? (i:=0) rfl) b hb) (by omega)) ?_
 rintro _ w1 ⟨v1,rfl,hf,hg,ho⟩
 have hlc:(cpt s).length<=140737488355328:=Nat.le_trans (u0b _) hl
 have hS1:=hS.growV (i:=0) (o':=vec v1 9 1 (cpt s).length ((cpt s).flatMap Qg)) rfl hg hf ho (ms':=[vec v1 9 1 (cpt s).length ((cpt s).flatMap Qg)]) rfl
 exact⟨[.vec 9 C.str (cpt s)],[.same],[v1],σ,[vec v1 9 1 (cpt s).length ((cpt s).flatMap Qg)],[],rfl,hm,.cons (.vec (w44 σ _) hlc (q0f ho)) .nil,.skip .nil,hS1⟩
theorem y7f{σ:Hv}{v:Value}{l:List ByteArray}(h:RepF D σ v (.sl C.str l)):RSl 1 (REnc Qg) σ v l:=by
 obtain⟨a,cap,e1,e2,e3,e4⟩:=h.toRSl okP.ok
 refine⟨a,cap,e1,e2,e3,fun i x hx=> ?_⟩
 obtain⟨ad,cs,f1,f2,f3,f4⟩:=e4 i x hx
 refine⟨ad,cs,f1,f2,f3,?_⟩
 obtain⟨u,rfl⟩: ∃u,cs=[u]:=List.length_eq_one_iff.1 f2
 have g1:=f4.2 0 u (.str x) rfl rfl
 cases g1
 rfl
theorem y3a{σ:Hv}{v:Value}{l:List Edg}(h:RepF D σ v (.sl C.edge l)):RSl 2 (REnc y9i) σ v (l.map fun e=>(e.1,e.2)):=by
 obtain⟨a,cap,e1,e2,e3,e4⟩:=h.toRSl okP.ok
 have hl:(l.map fun e=>(e.1,e.2)).length=l.length:=List.length_map ..
 refine⟨a,cap,by rw[hl];exact e1,by rw[hl];exact e2,by rw[hl];exact e3,fun i x hx=> ?_⟩
 rw[List.getElem?_map] at hx
 obtain⟨y,hy,rfl⟩:=Option.map_eq_some_iff.1 hx
 obtain⟨ad,cs,f1,f2,f3,f4⟩:=e4 i y hy
 refine⟨ad,cs,f1,f2,f3,?_⟩
 obtain⟨u,v,rfl⟩: ∃u v,cs=[u,v]:=by
  match cs,f2 with
  |[u,v],_=>exact⟨u,v,rfl⟩
 have g1:=f4.2 0 u (.str y.src) rfl rfl
 have g2:=f4.2 1 v (.str y.dst) rfl rfl
 cases g1;cases g2
 rfl
theorem w45:z08 Proofs.Tryz.prog D 178 (conV ([.sl C.str,.sl C.edge]:LP) ([.sl C.str,.sl C.edge]:LV) ([.vec 9 C.str,.int .i64]:LV) ([.same,.same]:LV) (fun a K=>P_graph_Order a.1 a.2.1 (fun q0 q1=>K (q0,q1,()) ((),(),())))):=by
 intro args K hm w σ vals ins hG hL hS
 obtain⟨a,ha,hm⟩:=Qh hm
 have hargs:=Va ha
 subst hargs
 obtain⟨s,t,_⟩:=a
 cases hL with
 | @cons _ _ v1 _ _ _ hp hr=>
 cases hr with
 | @cons _ _ v2 _ _ _ hq hr=>
 cases hr
 cases hp with
 |f hf1=>
 cases hq with
 |f hf2=>
 have hm:Go.Fl.P_graph_Order s (t.map fun e=>(e.1,e.2)) (fun l n=>K [.vec 9 C.str l,.f (.int .i64 n)] [.same,.same]):=hm
 refine Calls.mono (Go.Proofs.YtkbjibhkaddepaaGreatDoor.w_graph_Order s (t.map fun e=>(e.1,e.2)) v1 v2 hS.view (y7f hf1) (y3a hf2) hm) ?_
 rintro e w1 ⟨l,n,v,rfl,hS1,hsm,hK⟩
 have hl:l.length<=140737488355328:=by unfold Sml at hsm;omega
 exact⟨[.vec 9 C.str l,.f (.int .i64 n)],[.same,.same],[v,.int .i64 n],σ,[vec v 9 1 l.length (l.flatMap Qg)],[],rfl,hK,.cons (.vec (w44 σ _) hl (q0f (hS1.get (i:=0) rfl))) (.cons (ms:=[]) (.f (.int _ _)) .nil),.skip (a0:=[]) (.skip (a0:=[]) .nil),hS1⟩
theorem j9b:z08 Proofs.Tryz.prog D 302 (conV ([.v,.v]:LP) ([.str,.str]:LV) ([.vec 9 C.str]:LV) ([.same,.same]:LV) (fun a K=>q8j a.1 a.2.1 (fun q0=>K (q0,()) ((),(),())))):=by
 intro args K hm w σ vals ins hG hL hS
 obtain⟨a,ha,hm⟩:=Qh hm
 have hargs:=Va ha
 subst hargs
 obtain⟨s,t,_⟩:=a
 cases hL with
 |cons hp hr=>
 cases hr with
 |cons hq hr=>
 cases hr
 cases hp with
 |f hf=>
 cases hf
 cases hq with
 |f hf=>
 cases hf
 have hm:t.size=1/\s.size<4294967281/\K [.vec 9 C.str (q0y s t)] [.same,.same]:=hm
 obtain⟨h1,hsz,hm⟩:=hm
 obtain⟨n,hn⟩:=hG.free 6 .i64 rfl
 have hlen:(q0y s t).length=Go.Lib.countB s t+1:=Go.Lib.splitB_all t (by omega) 0 _ s rfl
 have hcnt:=Go.Lib.countB_le t (by omega) s.size s (Nat.le_refl _)
 refine Calls.mono (Proofs.Tryz.strings_Split s t n w hsz (hS.view.cell hn) (by omega)) ?_
 rintro e w' ⟨rfl,rfl⟩
 have ho:(vec (.slice (some ⟨w.heap.size,0,none⟩) (q0y s t).length (q0y s t).length) 9 1 (q0y s t).length ((q0y s t).flatMap Qg)).ok (w.alloc (.cells ((q0y s t).map Value.string).toArray 9)):=by
  refine⟨by rw[j7n];simp,.inr ⟨w.heap.size,_,_,rfl,Nat.zero_le _,heap_alloc_new _ _,Nat.le_refl _,by unfold maxLen;omega,by simp,?_⟩⟩
  rw[j7n,Nat.mul_one]
  exact List.take_of_length_le (by rw[List.length_map];exact Nat.le_refl _)
 have hS1:=hS.add (W9 w _) ho (by rintro k ⟨⟩;exact Nat.le_refl _)
 have hl:(q0y s t).length<=140737488355328:=by omega
 have hr:=(⟨[.vec 9 C.str (q0y s t)],[.same,.same],[_],σ,[_],[],rfl,hm,.cons (.vec (w44 σ _) hl (q0f ho)) .nil,.skip (a0:=[]) (.skip (a0:=[]) .nil),hS1⟩:Back D σ w [.f (.str s),.f (.str t)] [.string s,.string t] [] K (.returned (retV [.slice (some ⟨w.heap.size,0,none⟩) (q0y s t).length (q0y s t).length])) (w.alloc (.cells ((q0y s t).map Value.string).toArray 9)))
 rw[hlen] at hr
 exact hr
end Go.En
end
noncomputable section
set_option maxRecDepth 100000
open Go Go.RowKit Go.Fl Go.Fl.Lk Go.Fx
namespace Go.En
def q5f(X:Wz):Con Sg:=conS [] [.vec 111 C.decl] fun a K=>X (fun q0=>K (q0,()))
theorem q9u:MT 29 (q5f Ux):=mS (l:=[]) trivial []
def v3p(X:j7j):Con Sg:=conV [.ptr 92 [.c,.v]] [.ptr 92 [.sl C.u8,.int .i64]] [.bool] [.ptr 92 [.same,.int .i64]] fun a K=>X a.1.1 a.1.2.1 (fun q0 q1=>K (q0,()) (((),q1,()),()))
theorem y3b:MT 61 (v3p w4s):=mP (rk:=[.v]) (l:=[]) trivial []
def V4(X:Zl):Con Sg:=conV [.ptr 92 [.c,.v],.v] [.ptr 92 [.sl C.u8,.int .i64],.int .i64] [.int .i64] [.ptr 92 [.same,.int .i64],.same] fun a K=>X a.1.1 a.1.2.1 a.2.1 (fun q0 q1=>K (q0,()) (((),q1,()),(),()))
theorem y3c{j7x:j7j}(h:AL [(61,v3p j7x)]):MT 30 (V4 (w4t j7x)):=mP (rk:=[.v]) h []
theorem Hk:MT 30 (V4 We):=y3c ⟨y3b,trivial⟩
def z7t(X:q1b):Con Sg:=conV [.ptr 92 [.c,.v]] [.ptr 92 [.sl C.u8,.int .i64]] [.str] [.ptr 92 [.same,.int .i64]] fun a K=>X a.1.1 a.1.2.1 (fun q0 q1=>K (q0,()) (((),q1,()),()))
theorem y3d{Qb:Zl}(h:AL [(30,V4 Qb)]):MT 31 (z7t (w4u Qb)):=mP (rk:=[.v]) h []
theorem j7o:MT 31 (z7t z2a):=y3d ⟨Hk,trivial⟩
def j15(X:q6d):Con Sg:=conV [.ptr 92 [.c,.v],.v] [.ptr 92 [.sl C.u8,.int .i64],.int .i64] [.int .i64] [.ptr 92 [.same,.int .i64],.same] fun a K=>X a.1.1 a.1.2.1 a.2.1 (fun q0 q1=>K (q0,()) (((),q1,()),(),()))
theorem y3e{Qb:Zl}(h:AL [(30,V4 Qb)]):MT 32 (j15 (w4v Qb)):=mP (rk:=[.v]) h []
theorem w46:MT 32 (j15 z66):=y3e ⟨Hk,trivial⟩
def w47(X:z67):Con Sg:=conS [.int .i64,.vec 9 C.str] [.sl C.str] fun a K=>X a.1 a.2.1 (fun q0=>K (q0,()))
theorem v3q:MT 34 (w47 j7k):=mS (l:=[]) trivial []
def j7p(X:z2b):Con Sg:=conV [.ptr 92 [.c,.v]] [.ptr 92 [.sl C.u8,.int .i64]] [.vec 9 C.str] [.ptr 92 [.same,.int .i64]] fun a K=>X a.1.1 a.1.2.1 (fun q0 q1=>K (q0,()) (((),q1,()),()))
theorem y3f{Qb:Zl}(h:AL [(30,V4 Qb)]):MT 62 (j7p (w4w Qb)):=mP (rk:=[.own 9 C.str]) h [(9,⟨bl 397,[],[(0,(92,2))],[(.slot 4,.own 9 C.str),sI 5,(.cell 0 1,.int .i64)]⟩),(17,⟨bl 8121,[0],[],[sI 6,(.obj 1,.own 9 C.str)]⟩)]
theorem v3r:MT 62 (j7p j1h):=y3f ⟨Hk,trivial⟩
def w48(X:z9j):Con Sg:=conV [.ptr 92 [.c,.v]] [.ptr 92 [.sl C.u8,.int .i64]] [.str] [.ptr 92 [.same,.int .i64]] fun a K=>X a.1.1 a.1.2.1 (fun q0 q1=>K (q0,()) (((),q1,()),()))
theorem y7g{Qb:Zl}(h:AL [(30,V4 Qb)]):MT 70 (w48 (v0m Qb)):=mP (rk:=[.v]) h []
theorem v87:MT 70 (w48 j8z):=y7g ⟨Hk,trivial⟩
def z5s(X:q1c):Con Sg:=conV [.ptr 92 [.c,.v],.v] [.ptr 92 [.sl C.u8,.int .i64],.int .i64] [.el C.val] [.ptr 92 [.same,.int .i64],.same] fun a K=>X a.1.1 a.1.2.1 a.2.1 (fun q0 q1=>K (q0,()) (((),q1,()),(),()))
theorem v88{Qb:Zl}{Wg:q1b}(h:AL [(30,V4 Qb),(31,z7t Wg)]):MT 64 (z5s (j1i Qb Wg)):=mP (rk:=[.el C.val]) h []
theorem j9c:MT 64 (z5s Bi):=v88 ⟨Hk,j7o,trivial⟩
def j7q(X:j1j):Con Sg:=conV [.ptr 92 [.c,.v]] [.ptr 92 [.sl C.u8,.int .i64]] [.el C.ex] [.ptr 92 [.same,.int .i64]] fun a K=>X a.1.1 a.1.2.1 (fun q0 q1=>K (q0,()) (((),q1,()),()))
theorem y3g{Q3:Wz}{Qb:Zl}{z3y:z9j}{Ja:q1c}(h:AL [(29,q5f Q3),(30,V4 Qb),(70,w48 z3y),(64,z5s Ja)]):MT 105 (j7q (w4x Q3 Qb z3y Ja)):=mP (rk:=[.el C.ex]) h [(68,⟨bl 4286840701,[3,2],[(5,(66,5)),(0,(92,2)),(1,(66,5))],[(.cell 5 0,.int .i64),(.cell 5 1,.str),(.cell 5 2,.str),(.cell 5 3,.own 72 C.val),(.cell 5 4,.own 66 C.ex),(.cell 0 1,.int .i64),(.cell 1 0,.int .i64),(.cell 1 1,.str),(.cell 1 2,.str),(.cell 1 3,.own 72 C.val),(.cell 1 4,.own 66 C.ex)]⟩),(60,⟨bl 17163319925,[],[(0,(92,2)),(5,(66,5)),(1,(66,5))],[(.cell 0 1,.int .i64),(.cell 5 0,.int .i64),(.cell 5 1,.str),(.cell 5 2,.str),(.cell 5 3,.own 72 C.val),(.cell 5 4,.own 66 C.ex),(.cell 1 0,.int .i64),(.cell 1 1,.str),(.cell 1 2,.str),(.cell 1 3,.own 72 C.val),(.cell 1 4,.own 66 C.ex)]⟩),(37,⟨bl 1055806024022645,[1],[(5,(66,5)),(0,(92,2))],[sI 7,(.cell 5 3,.own 72 C.val),(.cell 0 1,.int .i64)]⟩)]
theorem y3h:MT 105 (j7q z68):=y3g ⟨q9u,Hk,v87,j9c,trivial⟩
def j7r(X:q4d):Con Sg:=conV [.ptr 92 [.c,.v],.sl C.str,.v] [.ptr 92 [.sl C.u8,.int .i64],.sl C.str,.int .i64] [.el C.ex] [.ptr 92 [.same,.int .i64],.same,.same] fun a K=>X a.1.1 a.1.2.1 a.2.1 a.2.2.1 (fun q0 q1=>K (q0,()) (((),q1,()),(),(),()))
def w73:PT:=Q4 ([(8,⟨bl 24647,[0,1],[],[sI 7]⟩),(28,⟨bl 3298996281543,[0,1],[],[sB 49]⟩),(37,⟨bl 1148984153929181127,[1],[(0,(92,2)),(4,(66,5))],[sI 11,(.cell 0 1,.int .i64),(.cell 4 0,.int .i64),(.cell 4 1,.str),(.cell 4 2,.str),(.cell 4 3,.own 72 C.val),(.cell 4 4,.own 66 C.ex)]⟩),(46,⟨bl 1152917567256169316295,[0,12,11,4],[(13,(66,5))],[(.cell 13 0,.int .i64),(.cell 13 1,.str),(.cell 13 2,.str),(.cell 13 3,.sl C.val),(.cell 13 4,.sl C.ex)]⟩)]:LS)
theorem v44(Qb:Zl)(j29:j1j)(X:q4d)(list:List (Int))(at_:Int)(segments:List (ByteArray))(levels:Int)(K:Ex->Int->Prop):j7l Qb j29 X list at_ segments levels K=fnV (((WL [(30,V4 Qb),(105,j7q j29)]).with 63 (j7r X)).pl w73) 4 63 ([.ptr 92 [.c,.v],.sl C.str,.v]:LP) ([.el C.ex]:LP) ([.ptr 92 [.sl C.u8,.int .i64],.sl C.str,.int .i64]:LV) ([.el C.ex]:LV) ([.ptr 92 [.same,.int .i64],.same,.same]:LV) ((list,at_,()),segments,levels,()) (fun r o=>K r.1 o.1.2.1):=by kernel_rfl
theorem v3s:MT 63 (j7r j1k):=by
 show MT _ (conV ([.ptr 92 [.c,.v],.sl C.str,.v]:LP) ([.ptr 92 [.sl C.u8,.int .i64],.sl C.str,.int .i64]:LV) ([.el C.ex]:LV) ([.ptr 92 [.same,.int .i64],.same,.same]:LV) fun a K=>j1k a.1.1 a.1.2.1 a.2.1 a.2.2.1 (fun q0 q1=>K (q0,()) (((),q1,()),(),(),())))
 refine mR (l:=[(30,V4 We),(105,j7q z68)]) (u:=4) (rk:=[.el C.ex]) (p:=w73) ⟨Hk,y3h,trivial⟩ (by kernel_rfl) fun a K h X hX=> ?_
 exact h (fun list at_ segments levels K=>X ((list,at_,()),segments,levels,()) fun r o=>K r.1 o.1.2.1) (fun list at_ segments levels K hs=>hX ((list,at_,()),segments,levels,()) (fun r o=>K r.1 o.1.2.1) (Eq.mp (v44 We z68 (fun list at_ segments levels K=>X ((list,at_,()),segments,levels,()) fun r o=>K r.1 o.1.2.1) list at_ segments levels K) hs))
def z5t(X:q42):Con Sg:=conV [.ptr 92 [.c,.v],.ptr 46 [.v,.v,.v,.sl C.decl,.own 144 C.seg,.own 34 C.flag,.own 102 C.layer,.own 68 C.exper]] [.ptr 92 [.sl C.u8,.int .i64],.ptr 46 [.str,.str,.int .i64,.sl C.decl,.vec 144 C.seg,.vec 34 C.flag,.vec 102 C.layer,.vec 68 C.exper]] [] [.ptr 92 [.same,.int .i64],.ptr 46 [.str,.str,.int .i64,.sl C.decl,.vec 144 C.seg,.vec 34 C.flag,.vec 102 C.layer,.vec 68 C.exper]] fun a K=>X a.1.1 a.1.2.1 a.2.1.1 a.2.1.2.1 a.2.1.2.2.1 a.2.1.2.2.2.1 a.2.1.2.2.2.2.1 a.2.1.2.2.2.2.2.1 a.2.1.2.2.2.2.2.2.1 a.2.1.2.2.2.2.2.2.2.1 (fun q0 q1 q2 q3 q4 q5 q6 q7 q8=>K () (((),q0,()),(q1,q2,q3,q4,q5,q6,q7,q8,()),()))
theorem w74{Qb:Zl}{q20:z67}{q4o:z2b}{q4p:q4d}(h:AL [(30,V4 Qb),(34,w47 q20),(62,j7p q4o),(63,j7r q4p)]):MT 33 (z5t (z41 Qb q20 q4o q4p)):=mP (rk:=[]) h [(5,⟨bl 1427,[3,4,5],[(0,(92,2)),(1,(46,8))],[sI 5,(.cell 0 1,.int .i64),(.cell 1 4,.own 144 C.seg)]⟩),(14,⟨bl 67010035,[11,10,9,1],[(12,(144,9)),(0,(92,2))],[(.cell 12 1,.str),(.cell 0 1,.int .i64)]⟩),(18,⟨bl 67010035,[11,10,9,1],[(12,(144,9)),(0,(92,2))],[(.cell 12 4,.int .i64),(.cell 12 5,.str),(.cell 12 6,.str),(.cell 12 7,.sl C.val),(.cell 12 8,.sl C.ex),(.cell 0 1,.int .i64)]⟩)]
theorem w75:MT 33 (z5t q9e):=w74 ⟨Hk,v3q,v3r,v3s,trivial⟩
end Go.En
end
noncomputable section
set_option maxRecDepth 100000
open Go Go.RowKit Go.Fl Go.Fl.Lk Go.Fx
namespace Go.En
def z5u(X:q1d):Con Sg:=conS [.el C.env] [.vec 9 C.str] fun a K=>X a.1 (fun q0=>K (q0,()))
theorem j9d:MT 65 (z5u q1e):=mS (l:=[]) trivial [(7,⟨[0,1,2],[0],[],[(.slot 3,.own 9 C.str),sI 4]⟩)]
def j16(X:q7u):Con Sg:=conV [.ptr 92 [.c,.v],.v] [.ptr 92 [.sl C.u8,.int .i64],.int .i64] [.vec 162 C.range] [.ptr 92 [.same,.int .i64],.same] fun a K=>X a.1.1 a.1.2.1 a.2.1 (fun q0 q1=>K (q0,()) (((),q1,()),(),()))
theorem v89{Qb:Zl}{Wt:q6d}(h:AL [(30,V4 Qb),(32,j15 Wt)]):MT 39 (j16 (j80 Qb Wt)):=mP (rk:=[.own 162 C.range]) h [(26,⟨[0,1,4],[],[(0,(92,2))],[(.slot 5,.own 162 C.range),sI 6,sI 7,(.cell 0 1,.int .i64)]⟩),(32,⟨bl 8444249301319923,[0,1],[],[sI 11]⟩),(9,⟨[0,1,4],[],[(0,(92,2))],[(.slot 5,.own 162 C.range),sI 6,sI 7,sI 8,(.cell 0 1,.int .i64)]⟩),(20,⟨bl 2144334835,[0,1],[],[sI 10]⟩)]
theorem w76:MT 39 (j16 z42):=v89 ⟨Hk,w46,trivial⟩
def j17(X:q7v):Con Sg:=conV [.ptr 92 [.c,.v],.v] [.ptr 92 [.sl C.u8,.int .i64],.int .i64] [.el C.serve] [.ptr 92 [.same,.int .i64],.same] fun a K=>X a.1.1 a.1.2.1 a.2.1 (fun q0 q1=>K (q0,()) (((),q1,()),(),()))
theorem v9a{Qb:Zl}{Wg:q1b}{q21:q7u}{Q3:Wz}(h:AL [(30,V4 Qb),(31,z7t Wg),(39,j16 q21),(29,q5f Q3)]):MT 13 (j17 (j81 Qb Wg q21 Q3)):=mP (rk:=[.el C.serve]) h []
theorem w77:MT 13 (j17 z43):=v9a ⟨Hk,j7o,w76,q9u,trivial⟩
def w78(X:j1l):Con Sg:=conV [] [] [.ptr 215 [.vec 289 C.node,.map C.node C.i64,.bool]] [] fun a K=>X (fun q0 q1 q2=>K ((q0,q1,q2,()),()) ())
theorem v9b:MT 106 (w78 w70):=mP (rk:=[.ptr 215 [.own 289 C.node,.map C.node C.i64,.v]]) (l:=[]) trivial []
def q0p(X:Vb):Con Sg:=conS [.int .i64] [.bool] fun a K=>X a.1 (fun q0=>K (q0,()))
theorem z3a:MT 128 (q0p Jy):=mS (l:=[]) trivial []
def w79(X:j1m):Con Sg:=conS [.sl C.str,.sl C.str] [.bool] fun a K=>X a.1 a.2.1 (fun q0=>K (q0,()))
theorem v9c:MT 94 (w79 j1n):=mS (l:=[]) trivial [(9,⟨bl 1987,[],[],[sI 5]⟩)]
def j4e(X:q7h):Con Sg:=conS [.el C.val,.el C.val] [.bool] fun a K=>X a.1 a.2.1 (fun q0=>K (q0,()))
theorem v45{j3b:j1m}(h:AL [(94,w79 j3b)]):MT 53 (j4e (j34 j3b)):=mS h []
theorem v47:MT 53 (j4e q7i):=v45 ⟨v9c,trivial⟩
def q2l(X:Ht):Con Sg:=conS [.sl C.val,.sl C.val] [.bool] fun a K=>X a.1 a.2.1 (fun q0=>K (q0,()))
theorem j9e{q05:q7h}(h:AL [(53,j4e q05)]):MT 256 (q2l (q7w q05)):=mS h [(9,⟨bl 1987,[],[],[sI 5]⟩)]
theorem j9f:MT 256 (q2l Uk):=j9e ⟨v47,trivial⟩
def z3b(X:Vu):Con Sg:=conV [.el C.ex,.el C.ex] [.el C.ex,.el C.ex] [.bool] [.same,.same] fun a K=>X a.1 a.2.1 (fun q0=>K (q0,()) ((),(),()))
def z8t:PT:=Q4 ([(258000009,⟨bl 1987,[],[],[sI 5]⟩)]:LS)
theorem j9g(q22:Ht)(X:Vu)(a:Ex)(b:Ex)(K:Bool->Prop):z2c q22 X a b K=fnV (((WL [(256,q2l q22)]).with 197 (z3b X)).pl z8t) 4 197 ([.el C.ex,.el C.ex]:LP) ([.v]:LP) ([.el C.ex,.el C.ex]:LV) ([.bool]:LV) ([.same,.same]:LV) (a,b,()) (fun r _=>K r.1):=by kernel_rfl
theorem w49:MT 197 (z3b q1f):=by
 show MT _ (conV ([.el C.ex,.el C.ex]:LP) ([.el C.ex,.el C.ex]:LV) ([.bool]:LV) ([.same,.same]:LV) fun a K=>q1f a.1 a.2.1 (fun q0=>K (q0,()) ((),(),())))
 refine mR (l:=[(256,q2l Uk)]) (u:=4) (rk:=[.v]) (p:=z8t) ⟨j9f,trivial⟩ (by kernel_rfl) fun a K h X hX=> ?_
 exact h (fun a b K=>X (a,b,()) fun r _=>K r.1) (fun a b K hs=>hX (a,b,()) (fun r _=>K r.1) (Eq.mp (j9g Uk (fun a b K=>X (a,b,()) fun r _=>K r.1) a b K) hs))
def q3w(X:q0i):Con Sg:=conS [.sl C.ex,.el C.ex] [.int .i64] fun a K=>X a.1 a.2.1 (fun q0=>K (q0,()))
theorem v0q{q60:Vu}(h:AL [(197,z3b q60)]):MT 157 (q3w (z9k q60)):=mS h [(5,⟨[0,1,3],[0],[],[sI 5]⟩)]
theorem j9h:MT 157 (q3w Ua):=v0q ⟨w49,trivial⟩
def z0v(X:W0):Con Sg:=conV [.sl C.ex,.el C.ex] [.sl C.ex,.el C.ex] [.sl C.ex] [.same,.same] fun a K=>X a.1 a.2.1 (fun q0=>K (q0,()) ((),(),()))
def z5v:PT:=Q4 ([(6,⟨[1,3,4],[0],[],[(.slot 0,.sl C.ex)]⟩),(9,⟨[1,3,4],[0],[],[(.slot 0,.sl C.ex),sI 5]⟩)]:LS)
theorem j6b(Uc:q0i)(Q2:Vb)(X:W0)(l:List (Ex))(e:Ex)(K:List (Ex)->Prop):z0j Uc Q2 X l e K=fnV (((WL [(157,q3w Uc),(128,q0p Q2)]).with 154 (z0v X)).pl z5v) 4 154 ([.sl C.ex,.el C.ex]:LP) ([.sl C.ex]:LP) ([.sl C.ex,.el C.ex]:LV) ([.sl C.ex]:LV) ([.same,.same]:LV) (l,e,()) (fun r _=>K r.1):=by kernel_rfl
theorem w1m:MT 154 (z0v q4e):=by
 show MT _ (conV ([.sl C.ex,.el C.ex]:LP) ([.sl C.ex,.el C.ex]:LV) ([.sl C.ex]:LV) ([.same,.same]:LV) fun a K=>q4e a.1 a.2.1 (fun q0=>K (q0,()) ((),(),())))
 refine mR (l:=[(157,q3w Ua),(128,q0p Jy)]) (u:=4) (rk:=[.sl C.ex]) (p:=z5v) ⟨j9h,z3a,trivial⟩ (by kernel_rfl) fun a K h X hX=> ?_
 exact h (fun l e K=>X (l,e,()) fun r _=>K r.1) (fun l e K hs=>hX (l,e,()) (fun r _=>K r.1) (Eq.mp (j6b Ua Jy (fun l e K=>X (l,e,()) fun r _=>K r.1) l e K) hs))
def q8r(X:Hu):Con Sg:=conS [.sl C.rule] [.sl C.ex] fun a K=>X a.1 (fun q0=>K (q0,()))
theorem j9i{q4q:W0}(h:AL [(154,z0v q4q)]):MT 107 (q8r (q7x q4q)):=mS h [(7,⟨[0,2],[],[],[(.slot 3,.sl C.ex),sI 4]⟩)]
theorem j9j:MT 107 (q8r q1g):=j9i ⟨w1m,trivial⟩
end Go.En
end
noncomputable section
set_option maxRecDepth 100000
open Go Go.RowKit Go.Fl Go.Fl.Lk Go.Fx
namespace Go.En
def q2m(X:J7):Con Sg:=conV [.ptr 215 [.own 289 C.node,.map C.node C.i64,.v],.v] [.ptr 215 [.vec 289 C.node,.map C.node C.i64,.bool],.int .i64] [.bool] [.ptr 215 [.vec 289 C.node,.map C.node C.i64,.bool],.same] fun a K=>X a.1.1 a.1.2.1 a.1.2.2.1 a.2.1 (fun q0 q1 q2 q3=>K (q0,()) ((q1,q2,q3,()),(),()))
theorem q6u:MT 198 (q2m U2):=mP (rk:=[.v]) (l:=[]) trivial []
def z4f(X:Bv):Con Sg:=conV [.ptr 215 [.own 289 C.node,.map C.node C.i64,.v],.v] [.ptr 215 [.vec 289 C.node,.map C.node C.i64,.bool],.int .i64] [.map C.i64 C.bool] [.ptr 215 [.vec 289 C.node,.map C.node C.i64,.bool],.same] fun a K=>X a.1.1 a.1.2.1 a.1.2.2.1 a.2.1 (fun q0 q1 q2 q3=>K (q0,()) ((q1,q2,q3,()),(),()))
theorem j6c:MT 258 (z4f Bw):=mP (rk:=[.map C.i64 C.bool]) (l:=[]) trivial [(7,⟨bl 1843,[0,1,2],[],[(.slot 6,.own 3 C.i64),(.obj 3,.map C.i64 C.bool)]⟩)]
def q3x(X:Ul):Con Sg:=conV [.ptr 215 [.own 289 C.node,.map C.node C.i64,.v],.v] [.ptr 215 [.vec 289 C.node,.map C.node C.i64,.bool],.int .i64] [.vec 3 C.i64] [.ptr 215 [.vec 289 C.node,.map C.node C.i64,.bool],.same] fun a K=>X a.1.1 a.1.2.1 a.1.2.2.1 a.2.1 (fun q0 q1 q2 q3=>K (q0,()) ((q1,q2,q3,()),(),()))
theorem j4f{Qz:J7}{B9:Bv}(h:AL [(198,q2m Qz),(258,z4f B9)]):MT 200 (q3x (z1a Qz B9)):=mP (rk:=[.own 3 C.i64]) h [(13,⟨bl 32563,[5,0,4,2],[],[(.slot 6,.own 3 C.i64),sI 7]⟩)]
theorem j4g:MT 200 (q3x Rk):=j4f ⟨q6u,j6c,trivial⟩
def Wp(X:Zg):Con Sg:=conV [.ptr 215 [.own 289 C.node,.map C.node C.i64,.v],.v] [.ptr 215 [.vec 289 C.node,.map C.node C.i64,.bool],.int .i64] [.bool] [.ptr 215 [.vec 289 C.node,.map C.node C.i64,.bool],.same] fun a K=>X a.1.1 a.1.2.1 a.1.2.2.1 a.2.1 (fun q0 q1 q2 q3=>K (q0,()) ((q1,q2,q3,()),(),()))
theorem z8d{Qz:J7}{Rz:Ul}(h:AL [(198,q2m Qz),(200,q3x Rz)]):MT 159 (Wp (q57 Qz Rz)):=mP (rk:=[.v]) h [(11,⟨bl 16291,[5,0,4,2],[],[sI 6]⟩)]
theorem Bc:MT 159 (Wp Jt):=z8d ⟨q6u,j4g,trivial⟩
def Bo(X:W2):Con Sg:=conV [.ptr 215 [.own 289 C.node,.map C.node C.i64,.v],.v] [.ptr 215 [.vec 289 C.node,.map C.node C.i64,.bool],.int .i64] [.int .i64] [.ptr 215 [.vec 289 C.node,.map C.node C.i64,.bool],.same] fun a K=>X a.1.1 a.1.2.1 a.1.2.2.1 a.2.1 (fun q0 q1 q2 q3=>K (q0,()) ((q1,q2,q3,()),(),()))
theorem z0w:MT 199 (Bo J8):=mP (rk:=[.v]) (l:=[]) trivial []
def B4(X:Gu):Con Sg:=conV [.ptr 215 [.own 289 C.node,.map C.node C.i64,.v],.v,.v] [.ptr 215 [.vec 289 C.node,.map C.node C.i64,.bool],.int .i64,.int .i64] [.int .i64,.int .i64] [.ptr 215 [.vec 289 C.node,.map C.node C.i64,.bool],.same,.same] fun a K=>X a.1.1 a.1.2.1 a.1.2.2.1 a.2.1 a.2.2.1 (fun q0 q1 q2 q3 q4=>K (q0,q1,()) ((q2,q3,q4,()),(),(),()))
theorem j6d{Q8:W2}(h:AL [(199,Bo Q8)]):MT 259 (B4 (z4e Q8)):=mP (rk:=[.v,.v]) h []
theorem j6e:MT 259 (B4 Wi):=j6d ⟨z0w,trivial⟩
def Us(X:Vc):Con Sg:=conV [.ptr 215 [.own 289 C.node,.map C.node C.i64,.v],.v,.v,.v] [.ptr 215 [.vec 289 C.node,.map C.node C.i64,.bool],.int .i64,.int .i64,.int .i64] [.int .i64] [.ptr 215 [.vec 289 C.node,.map C.node C.i64,.bool],.same,.same,.same] fun a K=>X a.1.1 a.1.2.1 a.1.2.2.1 a.2.1 a.2.2.1 a.2.2.2.1 (fun q0 q1 q2 q3=>K (q0,()) ((q1,q2,q3,()),(),(),(),()))
theorem j9k{Qz:J7}{Q8:W2}(h:AL [(198,q2m Qz),(199,Bo Q8)]):MT 158 (Us (z44 Qz Q8)):=mP (rk:=[.v]) h []
theorem z5w:MT 158 (Us Z9):=j9k ⟨q6u,z0w,trivial⟩
def q3y(X:Jh):Con Sg:=conV [.ptr 215 [.own 289 C.node,.map C.node C.i64,.v],.v,.v,.v,.map C.a3 C.i64] [.ptr 215 [.vec 289 C.node,.map C.node C.i64,.bool],.int .i64,.int .i64,.int .i64,.map C.a3 C.i64] [.int .i64] [.ptr 215 [.vec 289 C.node,.map C.node C.i64,.bool],.same,.same,.same,.map C.a3 C.i64] fun a K=>X a.1.1 a.1.2.1 a.1.2.2.1 a.2.1 a.2.2.1 a.2.2.2.1 a.2.2.2.2.1 (fun q0 q1 q2 q3 q4=>K (q0,()) ((q1,q2,q3,()),(),(),(),q4,()))
def q9v:PT:=Q4 ([(36,⟨bl 4951760157141239551596952607,[3,4],[(0,(215,3))],[sI 23,(.cell 0 0,.own 289 C.node),(.cell 0 2,.bool),(.obj 2,.map C.node C.i64)]⟩)]:LS)
theorem z92(Q8:W2)(Vq:Gu)(Jq:Vc)(X:Jh)(ns:List (Nd))(ids:(Nd->Option (Int)))(full:Bool)(f:Int)(g:Int)(h:Int)(known:(A3->Option (Int)))(K:Int->List (Nd)->(Nd->Option (Int))->Bool->(A3->Option (Int))->Prop):Um Q8 Vq Jq X ns ids full f g h known K=fnV (((WL [(199,Bo Q8),(259,B4 Vq),(158,Us Jq)]).with 201 (q3y X)).pl q9v) 4 201 ([.ptr 215 [.own 289 C.node,.map C.node C.i64,.v],.v,.v,.v,.map C.a3 C.i64]:LP) ([.v]:LP) ([.ptr 215 [.vec 289 C.node,.map C.node C.i64,.bool],.int .i64,.int .i64,.int .i64,.map C.a3 C.i64]:LV) ([.int .i64]:LV) ([.ptr 215 [.vec 289 C.node,.map C.node C.i64,.bool],.same,.same,.same,.map C.a3 C.i64]:LV) ((ns,ids,full,()),f,g,h,known,()) (fun r o=>K r.1 o.1.1 o.1.2.1 o.1.2.2.1 o.2.2.2.2.1):=by kernel_rfl
theorem j4h:MT 201 (q3y Rl):=by
 show MT _ (conV ([.ptr 215 [.own 289 C.node,.map C.node C.i64,.v],.v,.v,.v,.map C.a3 C.i64]:LP) ([.ptr 215 [.vec 289 C.node,.map C.node C.i64,.bool],.int .i64,.int .i64,.int .i64,.map C.a3 C.i64]:LV) ([.int .i64]:LV) ([.ptr 215 [.vec 289 C.node,.map C.node C.i64,.bool],.same,.same,.same,.map C.a3 C.i64]:LV) fun a K=>Rl a.1.1 a.1.2.1 a.1.2.2.1 a.2.1 a.2.2.1 a.2.2.2.1 a.2.2.2.2.1 (fun q0 q1 q2 q3 q4=>K (q0,()) ((q1,q2,q3,()),(),(),(),q4,())))
 refine mR (l:=[(199,Bo J8),(259,B4 Wi),(158,Us Z9)]) (u:=4) (rk:=[.v]) (p:=q9v) ⟨z0w,j6e,z5w,trivial⟩ (by kernel_rfl) fun a K h X hX=> ?_
 exact h (fun ns ids full f g h known K=>X ((ns,ids,full,()),f,g,h,known,()) fun r o=>K r.1 o.1.1 o.1.2.1 o.1.2.2.1 o.2.2.2.2.1) (fun ns ids full f g h known K hs=>hX ((ns,ids,full,()),f,g,h,known,()) (fun r o=>K r.1 o.1.1 o.1.2.1 o.1.2.2.1 o.2.2.2.2.1) (Eq.mp (z92 J8 Wi Z9 (fun ns ids full f g h known K=>X ((ns,ids,full,()),f,g,h,known,()) fun r o=>K r.1 o.1.1 o.1.2.1 o.1.2.2.1 o.2.2.2.2.1) ns ids full f g h known K) hs))
def Ut(X:Z0):Con Sg:=conV [.ptr 215 [.own 289 C.node,.map C.node C.i64,.v],.v,.v,.v] [.ptr 215 [.vec 289 C.node,.map C.node C.i64,.bool],.int .i64,.int .i64,.int .i64] [.int .i64] [.ptr 215 [.vec 289 C.node,.map C.node C.i64,.bool],.same,.same,.same] fun a K=>X a.1.1 a.1.2.1 a.1.2.2.1 a.2.1 a.2.2.1 a.2.2.2.1 (fun q0 q1 q2 q3=>K (q0,()) ((q1,q2,q3,()),(),(),(),()))
theorem j4i{Qr:Zg}{Qz:J7}{R0:Jh}(h:AL [(159,Wp Qr),(198,q2m Qz),(201,q3y R0)]):MT 160 (Ut (z1b Qr Qz R0)):=mP (rk:=[.v]) h []
theorem q3z:MT 160 (Ut W7):=j4i ⟨Bc,q6u,j4h,trivial⟩
def q4k(X:Bj):Con Sg:=conV [.ptr 215 [.own 289 C.node,.map C.node C.i64,.v],.v] [.ptr 215 [.vec 289 C.node,.map C.node C.i64,.bool],.int .i64] [.int .i64] [.ptr 215 [.vec 289 C.node,.map C.node C.i64,.bool],.same] fun a K=>X a.1.1 a.1.2.1 a.1.2.2.1 a.2.1 (fun q0 q1 q2 q3=>K (q0,()) ((q1,q2,q3,()),(),()))
theorem w1n{Q1:Z0}(h:AL [(160,Ut Q1)]):MT 155 (q4k (z8q Q1)):=mP (rk:=[.v]) h []
theorem w1o:MT 155 (q4k G8):=w1n ⟨q3z,trivial⟩
def q4l(X:Bk):Con Sg:=conV [.ptr 215 [.own 289 C.node,.map C.node C.i64,.v],.v,.v] [.ptr 215 [.vec 289 C.node,.map C.node C.i64,.bool],.int .i64,.int .i64] [.int .i64] [.ptr 215 [.vec 289 C.node,.map C.node C.i64,.bool],.same,.same] fun a K=>X a.1.1 a.1.2.1 a.1.2.2.1 a.2.1 a.2.2.1 (fun q0 q1 q2 q3=>K (q0,()) ((q1,q2,q3,()),(),(),()))
theorem w1p{Qr:Zg}{Q1:Z0}(h:AL [(159,Wp Qr),(160,Ut Q1)]):MT 156 (q4l (z8r Qr Q1)):=mP (rk:=[.v]) h []
theorem w1q:MT 156 (q4l G9):=w1p ⟨Bc,q3z,trivial⟩
def q2n(X:U3):Con Sg:=conV [.ptr 215 [.own 289 C.node,.map C.node C.i64,.v],.v,.v] [.ptr 215 [.vec 289 C.node,.map C.node C.i64,.bool],.int .i64,.int .i64] [.int .i64] [.ptr 215 [.vec 289 C.node,.map C.node C.i64,.bool],.same,.same] fun a K=>X a.1.1 a.1.2.1 a.1.2.2.1 a.2.1 a.2.2.1 (fun q0 q1 q2 q3=>K (q0,()) ((q1,q2,q3,()),(),(),()))
theorem w5a{Qr:Zg}{Q1:Z0}(h:AL [(159,Wp Qr),(160,Ut Q1)]):MT 109 (q2n (j1o Qr Q1)):=mP (rk:=[.v]) h []
theorem j18:MT 109 (q2n U4):=w5a ⟨Bc,q3z,trivial⟩
end Go.En
end
noncomputable section
set_option maxRecDepth 100000
open Go Go.RowKit Go.Fl Go.Fl.Lk Go.Fx
namespace Go.En
def q8s(X:Wc):Con Sg:=conV [.ptr 215 [.own 289 C.node,.map C.node C.i64,.v],.sl C.ex,.el C.ex] [.ptr 215 [.vec 289 C.node,.map C.node C.i64,.bool],.sl C.ex,.el C.ex] [.int .i64] [.ptr 215 [.vec 289 C.node,.map C.node C.i64,.bool],.same,.same] fun a K=>X a.1.1 a.1.2.1 a.1.2.2.1 a.2.1 a.2.2.1 (fun q0 q1 q2 q3=>K (q0,()) ((q1,q2,q3,()),(),(),()))
def z4g:PT:=Q4 ([(16,⟨bl 129127,[3,0,1,2],[],[sB 26]⟩),(21,⟨bl 68249843815,[3],[(0,(215,3))],[sI 7,sI 8,(.cell 0 0,.own 289 C.node),(.cell 0 2,.bool),(.obj 2,.map C.node C.i64)]⟩)]:LS)
theorem j4j(q4r:Bj)(q4s:Bk)(Wu:U3)(Uc:q0i)(Jq:Vc)(X:Wc)(ns:List (Nd))(ids:(Nd->Option (Int)))(full:Bool)(atoms:List (Ex))(e:Ex)(K:Int->List (Nd)->(Nd->Option (Int))->Bool->Prop):q7y q4r q4s Wu Uc Jq X ns ids full atoms e K=fnV (((WL [(155,q4k q4r),(156,q4l q4s),(109,q2n Wu),(157,q3w Uc),(158,Us Jq)]).with 108 (q8s X)).pl z4g) 4 108 ([.ptr 215 [.own 289 C.node,.map C.node C.i64,.v],.sl C.ex,.el C.ex]:LP) ([.v]:LP) ([.ptr 215 [.vec 289 C.node,.map C.node C.i64,.bool],.sl C.ex,.el C.ex]:LV) ([.int .i64]:LV) ([.ptr 215 [.vec 289 C.node,.map C.node C.i64,.bool],.same,.same]:LV) ((ns,ids,full,()),atoms,e,()) (fun r o=>K r.1 o.1.1 o.1.2.1 o.1.2.2.1):=by kernel_rfl
theorem j9l:MT 108 (q8s q1h):=by
 show MT _ (conV ([.ptr 215 [.own 289 C.node,.map C.node C.i64,.v],.sl C.ex,.el C.ex]:LP) ([.ptr 215 [.vec 289 C.node,.map C.node C.i64,.bool],.sl C.ex,.el C.ex]:LV) ([.int .i64]:LV) ([.ptr 215 [.vec 289 C.node,.map C.node C.i64,.bool],.same,.same]:LV) fun a K=>q1h a.1.1 a.1.2.1 a.1.2.2.1 a.2.1 a.2.2.1 (fun q0 q1 q2 q3=>K (q0,()) ((q1,q2,q3,()),(),(),())))
 refine mR (l:=[(155,q4k G8),(156,q4l G9),(109,q2n U4),(157,q3w Ua),(158,Us Z9)]) (u:=4) (rk:=[.v]) (p:=z4g) ⟨w1o,w1q,j18,j9h,z5w,trivial⟩ (by kernel_rfl) fun a K h X hX=> ?_
 exact h (fun ns ids full atoms e K=>X ((ns,ids,full,()),atoms,e,()) fun r o=>K r.1 o.1.1 o.1.2.1 o.1.2.2.1) (fun ns ids full atoms e K hs=>hX ((ns,ids,full,()),atoms,e,()) (fun r o=>K r.1 o.1.1 o.1.2.1 o.1.2.2.1) (Eq.mp (j4j G8 G9 U4 Ua Z9 (fun ns ids full atoms e K=>X ((ns,ids,full,()),atoms,e,()) fun r o=>K r.1 o.1.1 o.1.2.1 o.1.2.2.1) ns ids full atoms e K) hs))
def Rt(X:Jz):Con Sg:=conS [.sl C.rule] [.vec 3 C.i64,.int .i64,.bool] fun a K=>X a.1 (fun q0 q1 q2=>K (q0,q1,q2,()))
theorem j4k{j3c:j1l}{q23:Hu}{q24:Wc}{Wu:U3}(h:AL [(106,w78 j3c),(107,q8r q23),(108,q8s q24),(109,q2n Wu)]):MT 66 (Rt (q3j j3c q23 q24 Wu)):=mS h [(13,⟨bl 28769,[],[(0,(215,3))],[sI 7,(.slot 8,.own 3 C.i64),sI 9,(.cell 0 0,.own 289 C.node),(.cell 0 2,.bool),(.obj 2,.map C.node C.i64)]⟩)]
theorem z1r:MT 66 (Rt Un):=j4k ⟨v9b,j9j,j9l,j18,trivial⟩
def j9m(X:z45):Con Sg:=conV [.ptr 92 [.c,.v],.v] [.ptr 92 [.sl C.u8,.int .i64],.str] [.el C.layer] [.ptr 92 [.same,.int .i64],.same] fun a K=>X a.1.1 a.1.2.1 a.2.1 (fun q0 q1=>K (q0,()) (((),q1,()),(),()))
theorem v9d{Wg:q1b}{Qb:Zl}{Wt:q6d}(h:AL [(31,z7t Wg),(30,V4 Qb),(32,j15 Wt)]):MT 36 (j9m (j82 Wg Qb Wt)):=mP (rk:=[.el C.layer]) h [(8,⟨bl 130099,[1],[(2,(102,6)),(0,(92,2))],[(.cell 2 1,.str),(.cell 0 1,.int .i64)]⟩),(12,⟨bl 130099,[1],[(2,(102,6)),(0,(92,2))],[(.cell 2 3,.int .i64),(.cell 0 1,.int .i64)]⟩),(17,⟨bl 130099,[1],[(2,(102,6)),(0,(92,2))],[sI 6,sI 7,(.cell 2 5,.own 152 C.cool),(.cell 0 1,.int .i64)]⟩)]
theorem v9e:MT 36 (j9m j1p):=v9d ⟨j7o,Hk,w46,trivial⟩
def w3p(X:z69):Con Sg:=conS [.int .i64] [.bool] fun a K=>X a.1 (fun q0=>K (q0,()))
theorem v48:MT 110 (w3p z7a):=mS (l:=[]) trivial []
def q6v(X:Vv):Con Sg:=conS [.el C.env,.str] [.int .i64] fun a K=>X a.1 a.2.1 (fun q0=>K (q0,()))
theorem z3c:MT 96 (q6v q1i):=mS (l:=[]) trivial [(5,⟨[0,1,2],[0],[],[sI 5]⟩)]
def z5x(X:q1j):Con Sg:=conS [.sl C.cool,.int .i64] [.vec 3 C.i64] fun a K=>X a.1 a.2.1 (fun q0=>K (q0,()))
theorem j9n:MT 163 (z5x q1k):=mS (l:=[]) trivial [(7,⟨bl 563,[],[],[sI 6,(.obj 0,.own 3 C.i64)]⟩),(15,⟨bl 15987,[],[],[sI 7,(.obj 0,.own 3 C.i64)]⟩),(21,⟨bl 4243603187,[],[],[sI 8,(.obj 0,.own 3 C.i64)]⟩)]
def q30(X:Wj):Con Sg:=conS [.sl C.bool] [.vec 157 C.span] fun a K=>X a.1 (fun q0=>K (q0,()))
theorem q8t:MT 113 (q30 Hw):=mS (l:=[]) trivial [(7,⟨[0,2],[],[],[(.slot 3,.own 157 C.span),sI 4]⟩)]
def z93(X:q7z):Con Sg:=conS [.sl C.i64,.int .i64] [.vec 157 C.span] fun a K=>X a.1 a.2.1 (fun q0=>K (q0,()))
theorem v0r{Q5:Wj}(h:AL [(113,q30 Q5)]):MT 162 (z93 (z9l Q5)):=mS h [(7,⟨bl 947,[],[],[sI 6,(.obj 0,.own 4 C.bool)]⟩)]
theorem v0s:MT 162 (z93 z2d):=v0r ⟨q8t,trivial⟩
def z5y(X:Bl):Con Sg:=conS [.sl C.span] [.vec 4 C.bool] fun a K=>X a.1 (fun q0=>K (q0,()))
theorem j19:MT 112 (z5y q70):=mS (l:=[]) trivial [(7,⟨bl 77,[],[],[sI 4,(.obj 0,.own 4 C.bool)]⟩),(13,⟨bl 518109,[],[],[sI 5,(.obj 0,.own 4 C.bool)]⟩)]
def z94(X:q71):Con Sg:=conS [.sl C.span,.sl C.span] [.vec 157 C.span] fun a K=>X a.1 a.2.1 (fun q0=>K (q0,()))
theorem v0t{Z5:Bl}{Q5:Wj}(h:AL [(112,z5y Z5),(113,q30 Q5)]):MT 161 (z94 (z9m Z5 Q5)):=mS h [(7,⟨bl 3955,[1],[],[sI 7,(.obj 0,.own 4 C.bool)]⟩)]
theorem v0u:MT 161 (z94 z2e):=v0t ⟨j19,q8t,trivial⟩
def z95(X:q72):Con Sg:=conS [.el C.env,.str,.str,.int .i64] [.vec 157 C.span] fun a K=>X a.1 a.2.1 a.2.2.1 a.2.2.2.1 (fun q0=>K (q0,()))
theorem v0v{Zw:Vv}{q0v:q71}{Rd:q1j}{q39:q7z}(h:AL [(96,q6v Zw),(161,z94 q0v),(163,z5x Rd),(162,z93 q39)]):MT 111 (z95 (z9n Zw q0v Rd q39)):=mS h [(10,⟨bl 254751,[0],[],[(.slot 10,.own 157 C.span)]⟩),(13,⟨bl 254751,[0],[],[(.slot 10,.own 157 C.span),sI 11]⟩)]
theorem v0w:MT 111 (z95 z2f):=v0v ⟨z3c,v0u,j9n,v0s,trivial⟩
def z3d(X:q0j):Con Sg:=conS [.sl C.span,.sl C.span] [.vec 157 C.span] fun a K=>X a.1 a.2.1 (fun q0=>K (q0,()))
theorem v0x{Z5:Bl}{Q5:Wj}(h:AL [(112,z5y Z5),(113,q30 Q5)]):MT 68 (z3d (z9o Z5 Q5)):=mS h [(7,⟨bl 3955,[1],[],[sI 7,(.obj 0,.own 4 C.bool)]⟩)]
theorem j9o:MT 68 (z3d q73):=v0x ⟨j19,q8t,trivial⟩
end Go.En
end
noncomputable section
set_option maxRecDepth 100000
open Go Go.RowKit Go.Fl Go.Fl.Lk Go.Fx
namespace Go.En
def j4l(X:z1c):Con Sg:=conS [.el C.env,.str,.int .i64] [.vec 157 C.span,.int .i64] fun a K=>X a.1 a.2.1 a.2.2.1 (fun q0 q1=>K (q0,q1,()))
theorem v49{z70:z69}{Zw:Vv}{z3z:q72}{Gl:q0j}(h:AL [(110,w3p z70),(96,q6v Zw),(111,z95 z3z),(68,z3d Gl)]):MT 67 (j4l (j35 z70 Zw z3z Gl)):=mS h []
theorem v5a:MT 67 (j4l z7b):=v49 ⟨v48,z3c,v0w,j9o,trivial⟩
def z96(X:q74):Con Sg:=conS [.sl C.span,.int .i64] [.vec 157 C.span] fun a K=>X a.1 a.2.1 (fun q0=>K (q0,()))
theorem v0y{Z5:Bl}{Q5:Wj}(h:AL [(112,z5y Z5),(113,q30 Q5)]):MT 69 (z96 (z9p Z5 Q5)):=mS h [(7,⟨bl 433,[],[],[sI 1,sI 6,(.obj 0,.own 4 C.bool)]⟩)]
theorem v0z:MT 69 (z96 z2g):=v0y ⟨j19,q8t,trivial⟩
def q2o(X:Vw):Con Sg:=conV [.v] [.str] [.bool] [.same] fun a K=>X a.1 (fun q0=>K (q0,()) ((),()))
theorem q9w:MT 206 (q2o Vx):=⟨entB (by kernel_rfl),j13⟩
def Ru(X:Ji):Con Sg:=conS [.str] [.bool] fun a K=>X a.1 (fun q0=>K (q0,()))
theorem v5b{Zx:Vw}(h:AL [(206,q2o Zx)]):MT 169 (Ru (z7c Zx)):=mS h [(9,⟨bl 4081,[],[],[sI 3]⟩)]
theorem q31:MT 169 (Ru Vp):=v5b ⟨q9w,trivial⟩
def w8a(X:j1q):Con Sg:=conS [.str] [.bool] fun a K=>X a.1 (fun q0=>K (q0,()))
theorem v9f:MT 207 (w8a j1r):=mS (l:=[]) trivial [(5,⟨[0],[],[],[sI 3]⟩)]
def j2a(X:q6e):Con Sg:=conS [] [.vec 9 C.str] fun a K=>X (fun q0=>K (q0,()))
theorem w5b:MT 208 (j2a q6f):=mS (l:=[]) trivial []
def Rv(X:Jc):Con Sg:=conS [.str] [.bool] fun a K=>X a.1 (fun q0=>K (q0,()))
theorem y3i{j3d:j1q}{q61:q6e}(h:AL [(207,w8a j3d),(208,j2a q61)]):MT 170 (Rv (w4y j3d q61)):=mS h [(11,⟨bl 16361,[0],[],[sI 4]⟩)]
theorem q2p:MT 170 (Rv Hf):=y3i ⟨v9f,w5b,trivial⟩
def z3e(X:q1l):Con Sg:=conS [.el C.settings] [.int .i64] fun a K=>X a.1 (fun q0=>K (q0,()))
theorem w5c{Qu:Ji}{Ql:Jc}(h:AL [(169,Ru Qu),(170,Rv Ql)]):MT 122 (z3e (z2h Qu Ql)):=mS h []
theorem w5d:MT 122 (z3e q6g):=w5c ⟨q31,q2p,trivial⟩
def z3f(X:q1m):Con Sg:=conS [.sl C.decl] [.int .i64] fun a K=>X a.1 (fun q0=>K (q0,()))
theorem w5e{Ql:Jc}(h:AL [(170,Rv Ql)]):MT 123 (z3f (z2i Ql)):=mS h [(9,⟨bl 113,[],[],[sI 3]⟩)]
theorem w5f:MT 123 (z3f q6h):=w5e ⟨q2p,trivial⟩
def q9x(X:Hx):Con Sg:=conS [.sl C.str] [.int .i64] fun a K=>X a.1 (fun q0=>K (q0,()))
theorem w8b{Qu:Ji}(h:AL [(169,Ru Qu)]):MT 209 (q9x (z47 Qu)):=mS h [(9,⟨bl 113,[],[],[sI 3]⟩)]
theorem j5p:MT 209 (q9x q43):=w8b ⟨q31,trivial⟩
def w8c(X:j1s):Con Sg:=conS [.el C.ex] [.bool] fun a K=>X a.1 (fun q0=>K (q0,()))
theorem v9g:MT 210 (w8c j1t):=mS (l:=[]) trivial []
def z97(X:q75):Con Sg:=conS [.el C.ex] [.bool] fun a K=>X a.1 (fun q0=>K (q0,()))
theorem v00{Q2:Vb}(h:AL [(128,q0p Q2)]):MT 308 (z97 (z9q Q2)):=mS h [(20,⟨bl 16327,[0],[],[sB 3,sB 4]⟩)]
theorem v01:MT 308 (z97 z2j):=v00 ⟨z3a,trivial⟩
end Go.En
end
noncomputable section
set_option maxRecDepth 100000
open Go Go.RowKit Go.Fl Go.Fl.Lk Go.Fx
namespace Go.En
def w3q(X:z7d):Con Sg:=conS [.el C.val] [.bool] fun a K=>X a.1 (fun q0=>K (q0,()))
theorem v5c:MT 253 (w3q q7j):=mS (l:=[]) trivial []
def z4h(X:Bx):Con Sg:=conS [.str] [.int .i64,.int .i64] fun a K=>X a.1 (fun q0 q1=>K (q0,q1,()))
theorem j6f:MT 255 (z4h Wk):=mS (l:=[]) trivial [(8,⟨bl 269,[],[],[(.slot 4,.str)]⟩),(11,⟨[0,4,8],[],[],[sI 5]⟩),(31,⟨bl 562915601547569,[],[],[sI 6,sI 7]⟩)]
def j4m(X:q7k):Con Sg:=conS [.str] [.el C.a3,.bool] fun a K=>X a.1 (fun q0 q1=>K (q0,q1,()))
theorem v5d{G6:Bx}(h:AL [(255,z4h G6)]):MT 195 (j4m (z7e G6)):=mS h [(9,⟨[0,2,4],[],[(1,(283,3)),(0,(283,3))],[sI 5,sI 6,(.cell 1 0,.int .i64),(.cell 1 1,.int .i64),(.cell 1 2,.int .i64),(.cell 0 0,.int .i64),(.cell 0 1,.int .i64),(.cell 0 2,.int .i64)]⟩),(15,⟨bl 19669,[1,0],[],[sI 5]⟩)]
theorem v5e:MT 195 (j4m q3k):=v5d ⟨j6f,trivial⟩
def j9p(X:z48):Con Sg:=conS [.sl C.str] [.int .i64] fun a K=>X a.1 (fun q0=>K (q0,()))
theorem v9h{Qu:Ji}(h:AL [(169,Ru Qu)]):MT 254 (j9p (j1u Qu)):=mS h [(9,⟨bl 225,[],[],[sI 3]⟩),(19,⟨bl 4073,[],[],[sI 4]⟩)]
theorem v9i:MT 254 (j9p z1d):=v9h ⟨q31,trivial⟩
def z7u(X:q0z):Con Sg:=conS [.el C.val] [.int .i64] fun a K=>X a.1 (fun q0=>K (q0,()))
theorem v5f{z71:z7d}{Qu:Ji}{q4a:q7k}{j3e:z48}(h:AL [(253,w3q z71),(169,Ru Qu),(195,j4m q4a),(254,j9p j3e)]):MT 193 (z7u (z7f z71 Qu q4a j3e)):=mS h []
theorem w3r:MT 193 (z7u q00):=v5f ⟨v5c,q31,v5e,v9i,trivial⟩
def j2b(X:z49):Con Sg:=conS [.el C.ex] [.int .i64] fun a K=>X a.1 (fun q0=>K (q0,()))
theorem v9j{z30:q75}{Q2:Vb}{Ql:Jc}{Jj:q0z}(h:AL [(308,z97 z30),(128,q0p Q2),(170,Rv Ql),(193,z7u Jj)]):MT 292 (j2b (j83 z30 Q2 Ql Jj)):=mS h [(17,⟨bl 134217667,[0],[],[sI 3]⟩),(31,⟨bl 9412450882139616968651,[0],[],[sI 4]⟩)]
theorem v9k:MT 292 (j2b z1e):=v9j ⟨v01,z3a,q2p,w3r,trivial⟩
def j9q(X:q44):Con Sg:=conV [.el C.ex,.v,.ptr 3 [.v]] [.el C.ex,.int .i64,.ptr 3 [.int .i64]] [.int .i64] [.same,.same,.ptr 3 [.int .i64]] fun a K=>X a.1 a.2.1 a.2.2.1.1 (fun q0 q1=>K (q0,()) ((),(),(q1,()),()))
def w3s:PT:=Q4 ([(21,⟨bl 33553551,[1],[(0,(3,1))],[sI 8,(.cell 0 0,.int .i64)]⟩)]:LS)
theorem v02(j3f:z49)(X:q44)(e:Ex)(depth:Int)(n:Int)(K:Int->Int->Prop):j84 j3f X e depth n K=fnV (((WL [(292,j2b j3f)]).with 264 (j9q X)).pl w3s) 4 264 ([.el C.ex,.v,.ptr 3 [.v]]:LP) ([.v]:LP) ([.el C.ex,.int .i64,.ptr 3 [.int .i64]]:LV) ([.int .i64]:LV) ([.same,.same,.ptr 3 [.int .i64]]:LV) (e,depth,(n,()),()) (fun r o=>K r.1 o.2.2.1.1):=by kernel_rfl
theorem v9l:MT 264 (j9q j1v):=by
 show MT _ (conV ([.el C.ex,.v,.ptr 3 [.v]]:LP) ([.el C.ex,.int .i64,.ptr 3 [.int .i64]]:LV) ([.int .i64]:LV) ([.same,.same,.ptr 3 [.int .i64]]:LV) fun a K=>j1v a.1 a.2.1 a.2.2.1.1 (fun q0 q1=>K (q0,()) ((),(),(q1,()),())))
 refine mR (l:=[(292,j2b z1e)]) (u:=4) (rk:=[.v]) (p:=w3s) ⟨v9k,trivial⟩ (by kernel_rfl) fun a K h X hX=> ?_
 exact h (fun e depth n K=>X (e,depth,(n,()),()) fun r o=>K r.1 o.2.2.1.1) (fun e depth n K hs=>hX (e,depth,(n,()),()) (fun r o=>K r.1 o.2.2.1.1) (Eq.mp (v02 z1e (fun e depth n K=>X (e,depth,(n,()),()) fun r o=>K r.1 o.2.2.1.1) e depth n K) hs))
def z5z(X:q1n):Con Sg:=conS [.el C.ex] [.int .i64] fun a K=>X a.1 (fun q0=>K (q0,()))
theorem v9m{j3g:q44}(h:AL [(264,j9q j3g)]):MT 211 (z5z (j85 j3g)):=mS h []
theorem j9r:MT 211 (z5z z1f):=v9m ⟨v9l,trivial⟩
def z50(X:q45):Con Sg:=conS [.el C.seg] [.int .i64] fun a K=>X a.1 (fun q0=>K (q0,()))
theorem w8d{Ql:Jc}{W6:Hx}{j3h:j1s}{V5:q1n}(h:AL [(170,Rv Ql),(209,q9x W6),(210,w8c j3h),(211,z5z V5)]):MT 171 (z50 (z5a Ql W6 j3h V5)):=mS h []
theorem w8e:MT 171 (z50 q9f):=w8d ⟨q2p,j5p,v9g,j9r,trivial⟩
def z3g(X:q1o):Con Sg:=conS [.sl C.seg] [.int .i64] fun a K=>X a.1 (fun q0=>K (q0,()))
theorem w5g{q96:q45}(h:AL [(171,z50 q96)]):MT 124 (z3g (z2k q96)):=mS h [(9,⟨bl 225,[],[],[sI 3]⟩)]
theorem w5h:MT 124 (z3g q6i):=w5g ⟨w8e,trivial⟩
def q8u(X:Hy):Con Sg:=conS [.el C.flag] [.int .i64] fun a K=>X a.1 (fun q0=>K (q0,()))
theorem j9s{Jj:q0z}(h:AL [(193,z7u Jj)]):MT 212 (q8u (q76 Jj)):=mS h [(15,⟨bl 8139,[0],[],[sI 4]⟩)]
theorem j9t:MT 212 (q8u q1p):=j9s ⟨w3r,trivial⟩
def q2q(X:Vy):Con Sg:=conS [.sl C.prereq] [.int .i64] fun a K=>X a.1 (fun q0=>K (q0,()))
theorem j2c{Ql:Jc}(h:AL [(170,Rv Ql)]):MT 213 (q2q (q1q Ql)):=mS h [(9,⟨bl 113,[],[],[sI 3]⟩)]
theorem j2d:MT 213 (q2q Hg):=j2c ⟨q2p,trivial⟩
end Go.En
end
noncomputable section
set_option maxRecDepth 100000
open Go Go.RowKit Go.Fl Go.Fl.Lk Go.Fx
namespace Go.En
def z52(X:q46):Con Sg:=conS [.sl C.target,.int .i64] [.int .i64] fun a K=>X a.1 a.2.1 (fun q0=>K (q0,()))
theorem w8f{Ql:Jc}{W6:Hx}(h:AL [(170,Rv Ql),(209,q9x W6)]):MT 214 (z52 (z5b Ql W6)):=mS h [(9,⟨bl 899,[],[],[sI 5]⟩)]
theorem w8g:MT 214 (z52 q9g):=w8f ⟨q2p,j5p,trivial⟩
def j4n(X:q7l):Con Sg:=conS [.sl C.range,.int .i64] [.int .i64] fun a K=>X a.1 a.2.1 (fun q0=>K (q0,()))
theorem w3t:MT 218 (j4n z1g):=mS (l:=[]) trivial [(11,⟨bl 899,[],[],[sI 5,sI 6]⟩)]
def z7v(X:q3l):Con Sg:=conS [.el C.serve,.int .i64] [.int .i64] fun a K=>X a.1 a.2.1 (fun q0=>K (q0,()))
theorem v5g{Ql:Jc}{Qu:Ji}{R2:q7l}(h:AL [(170,Rv Ql),(169,Ru Qu),(218,j4n R2)]):MT 216 (z7v (j36 Ql Qu R2)):=mS h []
theorem w3u:MT 216 (z7v z1h):=v5g ⟨q2p,q31,w3t,trivial⟩
def j4o(X:z1i):Con Sg:=conS [.sl C.rule,.int .i64] [.int .i64] fun a K=>X a.1 a.2.1 (fun q0=>K (q0,()))
theorem v5h{Ql:Jc}{V5:q1n}{R3:q3l}(h:AL [(170,Rv Ql),(211,z5z V5),(216,z7v R3)]):MT 215 (j4o (j37 Ql V5 R3)):=mS h [(9,⟨bl 3587,[],[],[sI 5]⟩),(19,⟨bl 33357347,[],[],[sI 6]⟩)]
theorem v5i:MT 215 (j4o z7g):=v5h ⟨q2p,j9r,w3u,trivial⟩
def j9u(X:z5c):Con Sg:=conS [.el C.flag] [.int .i64] fun a K=>X a.1 (fun q0=>K (q0,()))
theorem v9n{Ql:Jc}{q25:Hy}{Hn:Vy}{q97:q46}{z72:z1i}{R3:q3l}(h:AL [(170,Rv Ql),(212,q8u q25),(213,q2q Hn),(214,z52 q97),(215,j4o z72),(216,z7v R3)]):MT 172 (j9u (j86 Ql q25 Hn q97 z72 R3)):=mS h []
theorem v9o:MT 172 (j9u j1w):=v9n ⟨q2p,j9t,j2d,w8g,v5i,w3u,trivial⟩
def j4p(X:z1j):Con Sg:=conS [.sl C.flag] [.int .i64] fun a K=>X a.1 (fun q0=>K (q0,()))
theorem v5j{j3i:z5c}(h:AL [(172,j9u j3i)]):MT 125 (j4p (j38 j3i)):=mS h [(9,⟨bl 225,[],[],[sI 3]⟩)]
theorem v5k:MT 125 (j4p z7h):=v5j ⟨v9o,trivial⟩
def j4q(X:z1k):Con Sg:=conS [.el C.layer] [.int .i64] fun a K=>X a.1 (fun q0=>K (q0,()))
theorem v5l{Ql:Jc}{Qu:Ji}(h:AL [(170,Rv Ql),(169,Ru Qu)]):MT 173 (j4q (j39 Ql Qu)):=mS h [(21,⟨bl 2199023255523,[0],[],[sI 3]⟩)]
theorem v5m:MT 173 (j4q z7i):=v5l ⟨q2p,q31,trivial⟩
def z98(X:q77):Con Sg:=conS [.sl C.layer] [.int .i64] fun a K=>X a.1 (fun q0=>K (q0,()))
theorem v03{z73:z1k}(h:AL [(173,j4q z73)]):MT 126 (z98 (z9r z73)):=mS h [(9,⟨bl 225,[],[],[sI 3]⟩)]
theorem v04:MT 126 (z98 z2l):=v03 ⟨v5m,trivial⟩
def w3v(X:z7j):Con Sg:=conS [.sl C.span] [.int .i64] fun a K=>X a.1 (fun q0=>K (q0,()))
theorem v5n:MT 217 (w3v z7k):=mS (l:=[]) trivial [(9,⟨bl 113,[],[],[sI 3]⟩)]
def q8v(X:Hz):Con Sg:=conS [.el C.exper] [.int .i64] fun a K=>X a.1 (fun q0=>K (q0,()))
theorem j9v{Ql:Jc}{Qu:Ji}{z74:z7j}{R2:q7l}{V5:q1n}(h:AL [(170,Rv Ql),(169,Ru Qu),(217,w3v z74),(218,j4n R2),(211,z5z V5)]):MT 174 (q8v (q78 Ql Qu z74 R2 V5)):=mS h []
theorem j9w:MT 174 (q8v q1r):=j9v ⟨q2p,q31,v5n,w3t,j9r,trivial⟩
def q5z(X:Gv):Con Sg:=conS [.sl C.exper] [.int .i64] fun a K=>X a.1 (fun q0=>K (q0,()))
theorem j6g{q26:Hz}(h:AL [(174,q8v q26)]):MT 127 (q5z (q5r q26)):=mS h [(9,⟨bl 225,[],[],[sI 3]⟩)]
theorem j6h:MT 127 (q5z By):=j6g ⟨j9w,trivial⟩
def q50(X:Gw):Con Sg:=conS [.el C.env] [.int .i64] fun a K=>X a.1 (fun q0=>K (q0,()))
theorem j6i{q62:q1l}{q63:q1m}{q64:q1o}{z77:z1j}{z32:q77}{q0a:Gv}(h:AL [(122,z3e q62),(123,z3f q63),(124,z3g q64),(125,j4p z77),(126,z98 z32),(127,q5z q0a)]):MT 80 (q50 (q5s q62 q63 q64 z77 z32 q0a)):=mS h []
theorem j6j:MT 80 (q50 Bz):=j6i ⟨w5d,w5f,w5h,v5k,v04,j6h,trivial⟩
end Go.En
end
noncomputable section
set_option maxRecDepth 100000
open Go Go.RowKit Go.Fl Go.Fl.Lk Go.Fx
namespace Go.En
def z7w(X:q01):Con Sg:=conS [.sl C.seg] [.vec 9 C.str] fun a K=>X a.1 (fun q0=>K (q0,()))
theorem j4r:MT 81 (z7w z1l):=mS (l:=[]) trivial [(7,⟨[0,2],[],[],[(.slot 3,.own 9 C.str),sI 4]⟩)]
def z7x(X:B0):Con Sg:=conS [.sl C.str,.str] [.bool] fun a K=>X a.1 a.2.1 (fun q0=>K (q0,()))
theorem j7s:MT 47 (z7x q1s):=mS (l:=[]) trivial [(5,⟨[0,1],[],[],[sI 5]⟩)]
def j2e(X:z1m):Con Sg:=conS [.sl C.decl,.str,.str] [.int .i64] fun a K=>X a.1 a.2.1 a.2.2.1 (fun q0=>K (q0,()))
theorem w8h:MT 129 (j2e q47):=mS (l:=[]) trivial [(5,⟨[0,1,2],[],[],[sI 7]⟩)]
def j9x(X:j1x):Con Sg:=conS [.int .i64,.el C.ex] [.bool] fun a K=>X a.1 a.2.1 (fun q0=>K (q0,()))
theorem v9p:MT 130 (j9x q79):=mS (l:=[]) trivial [(11,⟨bl 8075,[0],[],[sI 5]⟩),(36,⟨bl 8795019288539,[0],[],[sB 46]⟩)]
def z54(X:Gx):Con Sg:=conV [.sl C.decl,.sl C.str,.el C.ex] [.sl C.decl,.sl C.str,.el C.ex] [.int .i64] [.same,.same,.same] fun a K=>X a.1 a.2.1 a.2.2.1 (fun q0=>K (q0,()) ((),(),(),()))
def w3w:PT:=Q4 ([(18,⟨bl 1047591,[0],[],[]⟩),(21,⟨bl 1047591,[0],[],[sI 8]⟩)]:LS)
theorem v05(Jr:B0)(Q2:Vb)(Bq:z1m)(z6v:j1x)(X:Gx)(l:List (Decl))(segments:List (ByteArray))(e:Ex)(K:Int->Prop):j87 Jr Q2 Bq z6v X l segments e K=fnV (((WL [(47,z7x Jr),(128,q0p Q2),(129,j2e Bq),(130,j9x z6v)]).with 82 (z54 X)).pl w3w) 4 82 ([.sl C.decl,.sl C.str,.el C.ex]:LP) ([.v]:LP) ([.sl C.decl,.sl C.str,.el C.ex]:LV) ([.int .i64]:LV) ([.same,.same,.same]:LV) (l,segments,e,()) (fun r _=>K r.1):=by kernel_rfl
theorem j9y:MT 82 (z54 z1n):=by
 show MT _ (conV ([.sl C.decl,.sl C.str,.el C.ex]:LP) ([.sl C.decl,.sl C.str,.el C.ex]:LV) ([.int .i64]:LV) ([.same,.same,.same]:LV) fun a K=>z1n a.1 a.2.1 a.2.2.1 (fun q0=>K (q0,()) ((),(),(),())))
 refine mR (l:=[(47,z7x q1s),(128,q0p Jy),(129,j2e q47),(130,j9x q79)]) (u:=4) (rk:=[.v]) (p:=w3w) ⟨j7s,z3a,w8h,v9p,trivial⟩ (by kernel_rfl) fun a K h X hX=> ?_
 exact h (fun l segments e K=>X (l,segments,e,()) fun r _=>K r.1) (fun l segments e K hs=>hX (l,segments,e,()) (fun r _=>K r.1) (Eq.mp (v05 q1s Jy q47 q79 (fun l segments e K=>X (l,segments,e,()) fun r _=>K r.1) l segments e K) hs))
def j2f(X:q9h):Con Sg:=conS [.sl C.str,.str] [.sl C.str] fun a K=>X a.1 a.2.1 (fun q0=>K (q0,()))
theorem w5i:MT 104 (j2f q9i):=mS (l:=[]) trivial [(5,⟨[0,1,4],[],[],[sI 5]⟩)]
def z55(X:Uy):Con Sg:=conV [.sl C.str,.el C.ex] [.sl C.str,.el C.ex] [.sl C.str] [.same,.same] fun a K=>X a.1 a.2.1 (fun q0=>K (q0,()) ((),(),()))
def j2g:PT:=Q4 ([(6,⟨[1,3,4],[0],[],[(.slot 0,.sl C.str)]⟩),(9,⟨[1,3,4],[0],[],[(.slot 0,.sl C.str),sI 5]⟩)]:LS)
theorem w1r(Ho:q9h)(X:Uy)(l:List (ByteArray))(e:Ex)(K:List (ByteArray)->Prop):z5d Ho X l e K=fnV (((WL [(104,j2f Ho)]).with 176 (z55 X)).pl j2g) 4 176 ([.sl C.str,.el C.ex]:LP) ([.sl C.str]:LP) ([.sl C.str,.el C.ex]:LV) ([.sl C.str]:LV) ([.same,.same]:LV) (l,e,()) (fun r _=>K r.1):=by kernel_rfl
theorem w8i:MT 176 (z55 q9j):=by
 show MT _ (conV ([.sl C.str,.el C.ex]:LP) ([.sl C.str,.el C.ex]:LV) ([.sl C.str]:LV) ([.same,.same]:LV) fun a K=>q9j a.1 a.2.1 (fun q0=>K (q0,()) ((),(),())))
 refine mR (l:=[(104,j2f q9i)]) (u:=4) (rk:=[.sl C.str]) (p:=j2g) ⟨w5i,trivial⟩ (by kernel_rfl) fun a K h X hX=> ?_
 exact h (fun l e K=>X (l,e,()) fun r _=>K r.1) (fun l e K hs=>hX (l,e,()) (fun r _=>K r.1) (Eq.mp (w1r q9i (fun l e K=>X (l,e,()) fun r _=>K r.1) l e K) hs))
def z56(X:q48):Con Sg:=conS [.el C.ex] [.sl C.str] fun a K=>X a.1 (fun q0=>K (q0,()))
theorem w8j{q98:Uy}(h:AL [(176,z55 q98)]):MT 132 (z56 (z5e q98)):=mS h []
theorem w8k:MT 132 (z56 q9k):=w8j ⟨w8i,trivial⟩
def z99(X:q8a):Con Sg:=conS [.sl C.seg] [.vec 238 C.edge] fun a K=>X a.1 (fun q0=>K (q0,()))
theorem v06{q99:q48}(h:AL [(132,z56 q99)]):MT 84 (z99 (z9s q99)):=mS h [(7,⟨[0,2],[],[],[(.slot 3,.own 238 C.edge),sI 4]⟩),(15,⟨bl 518069,[],[],[(.slot 3,.own 238 C.edge),sI 6]⟩)]
theorem v07:MT 84 (z99 z2m):=v06 ⟨w8k,trivial⟩
def j4s(X:z1o):Con Sg:=conS [.sl C.edge,.str] [.sl C.str] fun a K=>X a.1 a.2.1 (fun q0=>K (q0,()))
theorem v5o{Jr:B0}{Ho:q9h}(h:AL [(47,z7x Jr),(104,j2f Ho)]):MT 175 (j4s (j4a Jr Ho)):=mS h [(7,⟨bl 1555,[],[],[(.slot 5,.sl C.str),(.slot 6,.sl C.str)]⟩),(15,⟨bl 522899,[],[],[(.slot 5,.sl C.str),(.slot 6,.sl C.str),sI 8]⟩)]
theorem v5p:MT 175 (j4s z7l):=v5o ⟨j7s,w5i,trivial⟩
def j0a(X:q8b):Con Sg:=conS [.sl C.str,.sl C.edge] [.sl C.str] fun a K=>X a.1 a.2.1 (fun q0=>K (q0,()))
theorem v08{z78:z1o}{Jr:B0}{Ho:q9h}(h:AL [(175,j4s z78),(47,z7x Jr),(104,j2f Ho)]):MT 131 (j0a (z9t z78 Jr Ho)):=mS h [(7,⟨[0,1,4],[],[],[(.slot 5,.sl C.str),sI 6]⟩)]
theorem v09:MT 131 (j0a z2n):=v08 ⟨v5p,j7s,w5i,trivial⟩
def j0b(X:q8c):Con Sg:=conS [.sl C.str,.sl C.edge] [.str,.bool] fun a K=>X a.1 a.2.1 (fun q0 q1=>K (q0,q1,()))
theorem v1a{z33:q8b}(h:AL [(131,j0a z33)]):MT 83 (j0b (z9u z33)):=mS h []
theorem v1b:MT 83 (j0b z2o):=v1a ⟨v09,trivial⟩
end Go.En
end
noncomputable section
set_option maxRecDepth 100000
open Go Go.RowKit Go.Fl Go.Fl.Lk Go.Fx
namespace Go.En
def z57(X:q02):Con Sg:=conS [.el C.env,.str] [.int .i64] fun a K=>X a.1 a.2.1 (fun q0=>K (q0,()))
theorem j5q:MT 56 (z57 q9l):=mS (l:=[]) trivial [(5,⟨[0,1,2],[0],[],[sI 5]⟩)]
def j4t(X:z1p):Con Sg:=conS [.sl C.decl,.el C.serve] [.int .i64] fun a K=>X a.1 a.2.1 (fun q0=>K (q0,()))
theorem v5q{Bq:z1m}(h:AL [(129,j2e Bq)]):MT 133 (j4t (j4b Bq)):=mS h []
theorem v5r:MT 133 (j4t z7m):=v5q ⟨w8h,trivial⟩
def q8w(X:H0):Con Sg:=conS [.el C.env,.el C.flag] [.int .i64] fun a K=>X a.1 a.2.1 (fun q0=>K (q0,()))
theorem j9z{Wh:q01}{V6:q02}{V7:Gx}{z1z:z1p}{Z2:Jz}(h:AL [(81,z7w Wh),(56,z57 V6),(82,z54 V7),(133,j4t z1z),(66,Rt Z2)]):MT 85 (q8w (q8d Wh V6 V7 z1z Z2)):=mS h [(7,⟨bl 229423,[1,0],[],[sI 6,(.obj 2,.own 9 C.str)]⟩),(23,⟨bl 8355951,[1,0],[],[sI 8,(.obj 2,.own 9 C.str)]⟩)]
theorem j90:MT 85 (q8w q1t):=j9z ⟨j4r,j5q,j9y,v5r,z1r,trivial⟩
def z8u(X:q4f):Con Sg:=conS [.el C.env] [.vec 9 C.str] fun a K=>X a.1 (fun q0=>K (q0,()))
theorem w1s:MT 86 (z8u z0k):=mS (l:=[]) trivial [(7,⟨[0,1,2],[0],[],[(.slot 3,.own 9 C.str),sI 4]⟩)]
def z58(X:q1u):Con Sg:=conS [.el C.env] [.vec 238 C.edge] fun a K=>X a.1 (fun q0=>K (q0,()))
theorem j91:MT 87 (z58 q1v):=mS (l:=[]) trivial [(7,⟨[0,1,2],[0],[],[(.slot 3,.own 238 C.edge),sI 4]⟩),(13,⟨bl 2007,[],[],[(.slot 3,.own 238 C.edge),sI 5]⟩)]
def z59(X:q49):Con Sg:=conS [.sl C.span,.sl C.span] [.vec 157 C.span] fun a K=>X a.1 a.2.1 (fun q0=>K (q0,()))
theorem w8l{Z5:Bl}{Q5:Wj}(h:AL [(112,z5y Z5),(113,q30 Q5)]):MT 134 (z59 (z5f Z5 Q5)):=mS h [(7,⟨bl 3955,[1],[],[sI 7,(.obj 0,.own 4 C.bool)]⟩)]
theorem w8m:MT 134 (z59 q9m):=w8l ⟨j19,q8t,trivial⟩
def Ra(X:Wd):Con Sg:=conS [.el C.env,.int .i64] [.int .i64] fun a K=>X a.1 a.2.1 (fun q0=>K (q0,()))
theorem z6a{Zw:Vv}{V6:q02}{Wh:q01}{V7:Gx}{z0a:q49}(h:AL [(96,q6v Zw),(56,z57 V6),(81,z7w Wh),(82,z54 V7),(134,z59 z0a)]):MT 88 (Ra (H1 Zw V6 Wh V7 z0a)):=mS h [(13,⟨bl 17179836647,[1,0],[],[sI 8]⟩),(35,⟨bl 151078797935433964553191,[1,0],[],[(.slot 10,.own 157 C.span),sI 11,(.obj 4,.own 9 C.str)]⟩),(51,⟨bl 159723976762087930960904772882407,[1,0],[],[sI 13,(.obj 9,.own 157 C.span),(.obj 6,.own 157 C.span),(.obj 4,.own 9 C.str)]⟩)]
theorem z6b:MT 88 (Ra Vz):=z6a ⟨z3c,j5q,j4r,j9y,w8m,trivial⟩
def q32(X:Uo):Con Sg:=conS [.el C.env] [.str,.int .i64] fun a K=>X a.1 (fun q0 q1=>K (q0,q1,()))
theorem j4u{q0b:Gw}{Wh:q01}{V7:Gx}{z34:q8a}{q88:q8c}{q27:H0}{q4t:q4f}{q28:q1u}{V8:Wd}(h:AL [(80,q50 q0b),(81,z7w Wh),(82,z54 V7),(84,z99 z34),(83,j0b q88),(85,q8w q27),(86,z8u q4t),(87,z58 q28),(88,Ra V8)]):MT 49 (q32 (q3m q0b Wh V7 z34 q88 q27 q4t q28 V8)):=mS h [(13,⟨bl 15663155,[0],[],[sI 6,(.obj 1,.own 9 C.str)]⟩),(33,⟨bl 294571444427585160051,[0],[],[sI 10,(.obj 1,.own 9 C.str),(.obj 4,.own 238 C.edge)]⟩),(51,⟨bl 10121397798090180814242575234931,[0],[],[sI 14,(.obj 8,.own 9 C.str),(.obj 9,.own 238 C.edge),(.obj 4,.own 238 C.edge),(.obj 1,.own 9 C.str)]⟩)]
theorem j4v:MT 49 (q32 Rm):=j4u ⟨j6j,j4r,j9y,v07,v1b,j90,w1s,j91,z6b,trivial⟩
def j0c(X:q8e):Con Sg:=conS [.el C.env] [.bool] fun a K=>X a.1 (fun q0=>K (q0,()))
theorem v1c{R4:Uo}(h:AL [(49,q32 R4)]):MT 20 (j0c (z9v R4)):=mS h []
theorem v1d:MT 20 (j0c q3n):=v1c ⟨j4v,trivial⟩
def q8x(X:H2):Con Sg:=conV [.ptr 92 [.c,.v],.v] [.ptr 92 [.sl C.u8,.int .i64],.int .i64] [.el C.env] [.ptr 92 [.same,.int .i64],.same] fun a K=>X a.1.1 a.1.2.1 a.2.1 (fun q0 q1=>K (q0,()) (((),q1,()),(),()))
theorem j92{Q3:Wz}{z0b:q42}{Qb:Zl}{q20:z67}{Ja:q1c}{q4o:z2b}{Br:q7v}{Re:q1d}{q4p:q4d}{Z2:Jz}{j3j:z45}{Wg:q1b}{q21:q7u}{z79:z1c}{Wt:q6d}{Gl:q0j}{z35:q74}{q0w:q8e}(h:AL [(29,q5f Q3),(33,z5t z0b),(30,V4 Qb),(34,w47 q20),(64,z5s Ja),(62,j7p q4o),(13,j17 Br),(65,z5u Re),(63,j7r q4p),(66,Rt Z2),(36,j9m j3j),(31,z7t Wg),(39,j16 q21),(67,j4l z79),(32,j15 Wt),(68,z3d Gl),(69,z96 z35),(20,j0c q0w)]):MT 11 (q8x (q8f Q3 z0b Qb q20 Ja q4o Br Re q4p Z2 j3j Wg q21 z79 Wt Gl z35 q0w)):=mP (rk:=[.el C.env]) h [(8,⟨bl 3123,[1],[(3,(46,8)),(0,(92,2))],[(.cell 3 0,.str),(.cell 3 1,.str),(.cell 3 2,.int .i64),(.cell 0 1,.int .i64),(.obj 2,.own 111 C.decl)]⟩),(15,⟨bl 98569331,[2,1],[(0,(92,2)),(3,(46,8))],[sI 7,(.cell 0 1,.int .i64),(.cell 3 5,.own 34 C.flag),(.obj 10,.own 144 C.seg),(.obj 12,.own 102 C.layer),(.obj 13,.own 68 C.exper)]⟩),(36000009,⟨bl 1073218007,[22,21],[(0,(92,2)),(23,(34,13))],[sI 9,(.cell 0 1,.int .i64),(.cell 23 2,.own 72 C.val),(.obj 13,.own 68 C.exper),(.obj 12,.own 102 C.layer),(.obj 17,.own 34 C.flag),(.obj 10,.own 144 C.seg)]⟩),(36000019,⟨bl 545366356788183,[22,21],[(23,(34,13)),(0,(92,2))],[sI 10,(.cell 23 5,.own 62 C.prereq),(.cell 0 1,.int .i64),(.obj 10,.own 144 C.seg),(.obj 17,.own 34 C.flag),(.obj 12,.own 102 C.layer),(.obj 13,.own 68 C.exper),(.obj 27,.own 72 C.val)]⟩),(36000029,⟨bl 17996814912849879,[22,21],[(23,(34,13)),(0,(92,2))],[sI 11,(.cell 23 6,.own 116 C.target),(.cell 0 1,.int .i64),(.obj 27,.own 72 C.val),(.obj 13,.own 68 C.exper),(.obj 12,.own 102 C.layer),(.obj 17,.own 34 C.flag),(.obj 10,.own 144 C.seg),(.obj 34,.own 62 C.prereq)]⟩),(36000038,⟨bl 19688565898261847554177638359,[23],[(51,(116,3)),(0,(92,2))],[(.cell 51 0,.str),(.cell 0 1,.int .i64),(.obj 50,.own 9 C.str),(.obj 34,.own 62 C.prereq),(.obj 10,.own 144 C.seg),(.obj 17,.own 34 C.flag),(.obj 12,.own 102 C.layer),(.obj 13,.own 68 C.exper),(.obj 27,.own 72 C.val),(.obj 42,.own 116 C.target)]⟩),(36000060,⟨bl 324518589926201333218846174621655,[22,21],[(0,(92,2)),(23,(34,13))],[(.cell 0 1,.int .i64),(.cell 23 7,.own 138 C.rule),(.obj 50,.own 9 C.str),(.obj 34,.own 62 C.prereq),(.obj 10,.own 144 C.seg),(.obj 17,.own 34 C.flag),(.obj 12,.own 102 C.layer),(.obj 13,.own 68 C.exper),(.obj 27,.own 72 C.val),(.obj 42,.own 116 C.target)]⟩),(36000047,⟨bl 324518589926201333218846174621655,[],[(0,(92,2)),(23,(34,13))],[sI 14,(.cell 0 1,.int .i64),(.cell 23 7,.own 138 C.rule),(.obj 50,.own 9 C.str),(.obj 34,.own 62 C.prereq),(.obj 10,.own 144 C.seg),(.obj 17,.own 34 C.flag),(.obj 12,.own 102 C.layer),(.obj 13,.own 68 C.exper),(.obj 27,.own 72 C.val),(.obj 42,.own 116 C.target)]⟩),(25,⟨bl 387030204812531,[2,1],[(0,(92,2)),(3,(46,8))],[sI 8,(.cell 0 1,.int .i64),(.cell 3 6,.own 102 C.layer),(.obj 13,.own 68 C.exper),(.obj 10,.own 144 C.seg),(.obj 17,.own 34 C.flag)]⟩),(35,⟨bl 811665570522726403571,[2,1],[(0,(92,2)),(3,(46,8))],[sI 9,(.cell 0 1,.int .i64),(.cell 3 7,.own 68 C.exper),(.obj 17,.own 34 C.flag),(.obj 10,.own 144 C.seg),(.obj 24,.own 102 C.layer)]⟩),(38000010,⟨bl 140737488348975,[37,36,35],[(40,(68,12)),(0,(92,2))],[(.cell 40 4,.int .i64),(.cell 0 1,.int .i64),(.obj 39,.own 162 C.range),(.obj 31,.own 68 C.exper),(.obj 24,.own 102 C.layer),(.obj 17,.own 34 C.flag),(.obj 10,.own 144 C.seg)]⟩),(38000014,⟨bl 140737488348975,[37,36,35],[(40,(68,12)),(0,(92,2))],[(.cell 40 7,.int .i64),(.cell 40 8,.str),(.cell 40 9,.str),(.cell 40 10,.sl C.val),(.cell 40 11,.sl C.ex),(.cell 0 1,.int .i64),(.obj 10,.own 144 C.seg),(.obj 17,.own 34 C.flag),(.obj 24,.own 102 C.layer),(.obj 31,.own 68 C.exper),(.obj 39,.own 162 C.range)]⟩)]
theorem j93:MT 11 (q8x q1w):=j92 ⟨q9u,w75,Hk,v3q,j9c,v3r,w77,j9d,v3s,z1r,v9e,j7o,w76,v5a,w46,j9o,v0z,v1d,trivial⟩
def q6w(X:Rn):Con Sg:=conS [.int .i64] [.bool] fun a K=>X a.1 (fun q0=>K (q0,()))
theorem j2h:MT 245 (q6w U5):=mS (l:=[]) trivial []
def Wn(X:Zb):Con Sg:=conS [.sl C.str,.sl C.str] [.bool] fun a K=>X a.1 a.2.1 (fun q0=>K (q0,()))
theorem G4:MT 279 (Wn Zo):=mS (l:=[]) trivial [(9,⟨bl 8131,[],[],[sI 13]⟩)]
end Go.En
end
noncomputable section
set_option maxRecDepth 100000
open Go Go.RowKit Go.Fl Go.Fl.Lk Go.Fx
namespace Go.En
def q9y(X:q5a):Con Sg:=conS [.el C.val,.el C.val] [.bool] fun a K=>X a.1 a.2.1 (fun q0=>K (q0,()))
theorem w8n{Qq:Zb}(h:AL [(279,Wn Qq)]):MT 310 (q9y (z5g Qq)):=mS h []
theorem w8o:MT 310 (q9y q03):=w8n ⟨G4,trivial⟩
def z3h(X:H3):Con Sg:=conV [.el C.ex,.el C.ex] [.el C.ex,.el C.ex] [.bool] [.same,.same] fun a K=>X a.1 a.2.1 (fun q0=>K (q0,()) ((),(),()))
def j5r:PT:=Q4 ([(310000009,⟨bl 130055,[],[],[sI 17]⟩),(312000009,⟨bl 130055,[],[],[sI 17]⟩)]:LS)
theorem w5j(z0c:q5a)(X:H3)(a:Ex)(b:Ex)(K:Bool->Prop):z9w z0c X a b K=fnV (((WL [(310,q9y z0c)]).with 294 (z3h X)).pl j5r) 4 294 ([.el C.ex,.el C.ex]:LP) ([.v]:LP) ([.el C.ex,.el C.ex]:LV) ([.bool]:LV) ([.same,.same]:LV) (a,b,()) (fun r _=>K r.1):=by kernel_rfl
theorem v1e:MT 294 (z3h q0k):=by
 show MT _ (conV ([.el C.ex,.el C.ex]:LP) ([.el C.ex,.el C.ex]:LV) ([.bool]:LV) ([.same,.same]:LV) fun a K=>q0k a.1 a.2.1 (fun q0=>K (q0,()) ((),(),())))
 refine mR (l:=[(310,q9y q03)]) (u:=4) (rk:=[.v]) (p:=j5r) ⟨w8o,trivial⟩ (by kernel_rfl) fun a K h X hX=> ?_
 exact h (fun a b K=>X (a,b,()) fun r _=>K r.1) (fun a b K hs=>hX (a,b,()) (fun r _=>K r.1) (Eq.mp (w5j q03 (fun a b K=>X (a,b,()) fun r _=>K r.1) a b K) hs))
def z0x(X:W4):Con Sg:=conV [.own 66 C.ex,.el C.ex] [.vec 66 C.ex,.el C.ex] [.vec 66 C.ex] [.same,.same] fun a K=>X a.1 a.2.1 (fun q0=>K (q0,()) ((),(),()))
def z6c:PT:=Q4 ([(6,⟨[1,3,4],[1],[],[(.slot 0,.own 66 C.ex)]⟩),(9,⟨bl 234881050,[1],[],[(.slot 0,.own 66 C.ex),sI 28]⟩),(245000005,⟨bl 195,[0],[],[sI 8]⟩)]:LS)
theorem j6k(Wv:Rn)(q89:H3)(X:W4)(l:List (Ex))(e:Ex)(K:List (Ex)->Prop):z0l Wv q89 X l e K=fnV (((WL [(245,q6w Wv),(294,z3h q89)]).with 266 (z0x X)).pl z6c) 4 266 ([.own 66 C.ex,.el C.ex]:LP) ([.own 66 C.ex]:LP) ([.vec 66 C.ex,.el C.ex]:LV) ([.vec 66 C.ex]:LV) ([.same,.same]:LV) (l,e,()) (fun r _=>K r.1):=by kernel_rfl
theorem w1t:MT 266 (z0x q4g):=by
 show MT _ (conV ([.own 66 C.ex,.el C.ex]:LP) ([.vec 66 C.ex,.el C.ex]:LV) ([.vec 66 C.ex]:LV) ([.same,.same]:LV) fun a K=>q4g a.1 a.2.1 (fun q0=>K (q0,()) ((),(),())))
 refine mR (l:=[(245,q6w U5),(294,z3h q0k)]) (u:=4) (rk:=[.own 66 C.ex]) (p:=z6c) ⟨j2h,v1e,trivial⟩ (by kernel_rfl) fun a K h X hX=> ?_
 exact h (fun l e K=>X (l,e,()) fun r _=>K r.1) (fun l e K hs=>hX (l,e,()) (fun r _=>K r.1) (Eq.mp (j6k U5 q0k (fun l e K=>X (l,e,()) fun r _=>K r.1) l e K) hs))
def Gg(X:J9):Con Sg:=conS [.el C.val] [.el C.val] fun a K=>X a.1 (fun q0=>K (q0,()))
theorem q6x:MT 93 (Gg Jm):=mS (l:=[]) trivial []
def z6d(X:Uz):Con Sg:=conV [.el C.ex] [.el C.ex] [.el C.ex] [.same] fun a K=>X a.1 (fun q0=>K (q0,()) ((),()))
def j2i:PT:=Q4 ([(296000007,⟨bl 7955,[],[],[(.slot 5,.own 72 C.val),sI 13]⟩),(266000007,⟨bl 7955,[],[],[(.slot 5,.own 66 C.ex),sI 13]⟩)]:LS)
theorem w1u(Q6:J9)(X:Uz)(e:Ex)(K:Ex->Prop):z5h Q6 X e K=fnV (((WL [(93,Gg Q6)]).with 267 (z6d X)).pl j2i) 4 267 ([.el C.ex]:LP) ([.el C.ex]:LP) ([.el C.ex]:LV) ([.el C.ex]:LV) ([.same]:LV) (e,()) (fun r _=>K r.1):=by kernel_rfl
theorem w8p:MT 267 (z6d q9n):=by
 show MT _ (conV ([.el C.ex]:LP) ([.el C.ex]:LV) ([.el C.ex]:LV) ([.same]:LV) fun a K=>q9n a.1 (fun q0=>K (q0,()) ((),())))
 refine mR (l:=[(93,Gg Jm)]) (u:=4) (rk:=[.el C.ex]) (p:=j2i) ⟨q6x,trivial⟩ (by kernel_rfl) fun a K h X hX=> ?_
 exact h (fun e K=>X (e,()) fun r _=>K r.1) (fun e K hs=>hX (e,()) (fun r _=>K r.1) (Eq.mp (w1u Jm (fun e K=>X (e,()) fun r _=>K r.1) e K) hs))
def z0y(X:Bm):Con Sg:=conS [.el C.ex] [.vec 66 C.ex] fun a K=>X a.1 (fun q0=>K (q0,()))
theorem w1v{q4u:W4}{z0d:Uz}(h:AL [(266,z0x q4u),(267,z6d z0d)]):MT 219 (z0y (z0m q4u z0d)):=mS h [(266000007,⟨bl 7955,[1],[],[(.slot 5,.own 66 C.ex),sI 13]⟩)]
theorem w1w:MT 219 (z0y z0n):=w1v ⟨w1t,w8p,trivial⟩
def Ws(X:Zv):Con Sg:=conV [.own 9 C.str] [.vec 9 C.str] [] [.vec 9 C.str] fun a K=>X a.1 (fun q0=>K () (q0,()))
theorem Hl:MT 137 (Ws Jk):=⟨entB (by kernel_rfl),q6t⟩
def Uu(X:J0):Con Sg:=conV [.own 9 C.str] [.vec 9 C.str] [.vec 9 C.str] [.same] fun a K=>X a.1 (fun q0=>K (q0,()) ((),()))
theorem q33:MT 220 (Uu J1):=⟨entB (by kernel_rfl),q3v⟩
def q51(X:Gy):Con Sg:=conS [.el C.ex] [.sl C.str] fun a K=>X a.1 (fun q0=>K (q0,()))
theorem j6l{q4v:Bm}{Qt:Zv}{Z3:J0}(h:AL [(219,z0y q4v),(137,Ws Qt),(220,Uu Z3)]):MT 177 (q51 (q5t q4v Qt Z3)):=mS h [(7,⟨bl 455,[1,0],[],[(.slot 3,.own 9 C.str),sI 9]⟩)]
theorem j6m:MT 177 (q51 B1):=j6l ⟨w1w,Hl,q33,trivial⟩
def j2j(X:z2p):Con Sg:=conV [.sl C.str,.sl C.edge] [.sl C.str,.sl C.edge] [.vec 9 C.str,.int .i64] [.same,.same] fun a K=>X a.1 a.2.1 (fun q0 q1=>K (q0,q1,()) ((),(),()))
theorem w5k:MT 178 (j2j P_graph_Order):=⟨entB (by kernel_rfl),w45⟩
def q8y(X:H4):Con Sg:=conS [.sl C.seg] [.vec 9 C.str,.int .i64] fun a K=>X a.1 (fun q0 q1=>K (q0,q1,()))
theorem j94{q0c:Gy}{q66:z2p}(h:AL [(177,q51 q0c),(178,j2j q66)]):MT 135 (q8y (q8g q0c q66)):=mS h [(9,⟨bl 3085,[],[],[(.slot 4,.own 9 C.str),(.slot 5,.own 238 C.edge),sI 12]⟩),(17,⟨bl 33488029,[6,5,3],[],[(.slot 5,.own 238 C.edge),sI 25]⟩)]
theorem j95:MT 135 (q8y q1x):=j94 ⟨j6m,w5k,trivial⟩
def q8z(X:Up):Con Sg:=conS [.el C.subj,.str] [.int .i64] fun a K=>X a.1 a.2.1 (fun q0=>K (q0,()))
theorem z6e:MT 77 (q8z H5):=mS (l:=[]) trivial [(119000005,⟨bl 195,[1],[],[sI 8]⟩)]
end Go.En
end
noncomputable section
set_option maxRecDepth 100000
open Go Go.RowKit Go.Fl Go.Fl.Lk Go.Fx
namespace Go.En
def q34(X:Uq):Con Sg:=conS [.el C.attr] [.el C.attr] fun a K=>X a.1 (fun q0=>K (q0,()))
theorem j4w{Q6:J9}(h:AL [(93,Gg Q6)]):MT 121 (q34 (q3o Q6)):=mS h []
theorem j4x:MT 121 (q34 Rp):=j4w ⟨q6x,trivial⟩
def q80(X:H6):Con Sg:=conS [.el C.ctx] [.el C.ctx] fun a K=>X a.1 (fun q0=>K (q0,()))
theorem j96{R5:Uq}(h:AL [(121,q34 R5)]):MT 78 (q80 (q8h R5)):=mS h [(121000007,⟨bl 7955,[],[],[(.slot 5,.own 160 C.attr),sI 13]⟩)]
theorem j97:MT 78 (q80 q1y):=j96 ⟨j4x,trivial⟩
def Ub(X:Zq):Con Sg:=conS [.el C.subj,.str] [.el C.ctx,.bool] fun a K=>X a.1 a.2.1 (fun q0 q1=>K (q0,q1,()))
theorem w1x{Js:Up}{q29:H6}(h:AL [(77,q8z Js),(78,q80 q29)]):MT 44 (Ub (z0o Js q29)):=mS h []
theorem Bp:MT 44 (Ub W5):=w1x ⟨z6e,j97,trivial⟩
def B5(X:Wl):Con Sg:=conS [.el C.subj,.str,.str] [.el C.val,.bool] fun a K=>X a.1 a.2.1 a.2.2.1 (fun q0 q1=>K (q0,q1,()))
theorem j6n{Js:Up}{Q6:J9}(h:AL [(77,q8z Js),(93,Gg Q6)]):MT 71 (B5 (q5u Js Q6)):=mS h [(17,⟨bl 1912468303,[2,0],[(1,(72,4))],[sI 31,(.cell 1 0,.int .i64),(.cell 1 1,.int .i64),(.cell 1 2,.str),(.cell 1 3,.sl C.str)]⟩)]
theorem z4i:MT 71 (B5 Gz):=j6n ⟨z6e,q6x,trivial⟩
def z3i(X:q1z):Con Sg:=conS [.el C.val,.el C.val] [.bool] fun a K=>X a.1 a.2.1 (fun q0=>K (q0,()))
theorem w5l{Qq:Zb}(h:AL [(279,Wn Qq)]):MT 248 (z3i (z2q Qq)):=mS h []
theorem w5m:MT 248 (z3i q13):=w5l ⟨G4,trivial⟩
def Gh(X:Z1):Con Sg:=conS [.str,.str] [.bool] fun a K=>X a.1 a.2.1 (fun q0=>K (q0,()))
theorem q2r:MT 280 (Gh Jn):=mS (l:=[]) trivial []
def q0q(X:Vd):Con Sg:=conS [.str,.str] [.bool] fun a K=>X a.1 a.2.1 (fun q0=>K (q0,()))
theorem j0d{Q7:Z1}(h:AL [(280,Gh Q7)]):MT 249 (q0q (q0l Q7)):=mS h []
theorem j0e:MT 249 (q0q U6):=j0d ⟨q2r,trivial⟩
def q2s(X:Wr):Con Sg:=conS [.str,.str] [.bool] fun a K=>X a.1 a.2.1 (fun q0=>K (q0,()))
theorem z3j:MT 281 (q2s U7):=mS (l:=[]) trivial []
def q0r(X:Ve):Con Sg:=conS [.str,.str] [.bool] fun a K=>X a.1 a.2.1 (fun q0=>K (q0,()))
theorem j0f{Ww:Wr}(h:AL [(281,q2s Ww)]):MT 250 (q0r (q0m Ww)):=mS h []
theorem j0g:MT 250 (q0r U8):=j0f ⟨z3j,trivial⟩
def q9z(X:q14):Con Sg:=conV [.v,.v] [.str,.str] [.bool] [.same,.same] fun a K=>X a.1 a.2.1 (fun q0=>K (q0,()) ((),(),()))
theorem j2k:MT 251 (q9z q15):=⟨entB (by kernel_rfl),j14⟩
def j2l(X:q6j):Con Sg:=conS [.el C.val] [.bool] fun a K=>X a.1 (fun q0=>K (q0,()))
theorem w5n:MT 299 (j2l q6k):=mS (l:=[]) trivial [(8,⟨bl 31,[0],[],[sB 5]⟩),(14,⟨bl 63,[0],[],[sB 17]⟩)]
def z6f(X:q5b):Con Sg:=conS [.str] [.bool] fun a K=>X a.1 (fun q0=>K (q0,()))
theorem w8q{Zx:Vw}(h:AL [(206,q2o Zx)]):MT 300 (z6f (z5i Zx)):=mS h [(9,⟨bl 32737,[],[],[(.obj 0,.siter)]⟩)]
theorem w8r:MT 300 (z6f q9o):=w8q ⟨q9w,trivial⟩
end Go.En
end
noncomputable section
set_option maxRecDepth 100000
open Go Go.RowKit Go.Fl Go.Fl.Lk Go.Fx
namespace Go.En
def z6g(X:q8i):Con Sg:=conV [.v,.v] [.str,.str] [.vec 9 C.str] [.same,.same] fun a K=>X a.1 a.2.1 (fun q0=>K (q0,()) ((),(),()))
theorem j98:MT 302 (z6g q8j):=⟨entB (by kernel_rfl),j9b⟩
def Gi(X:Jo):Con Sg:=conS [.str,.str] [.str,.bool] fun a K=>X a.1 a.2.1 (fun q0 q1=>K (q0,q1,()))
theorem z3k{Q7:Z1}(h:AL [(280,Gh Q7)]):MT 325 (Gi (U9 Q7)):=mS h []
theorem z3l:MT 325 (Gi Ga):=z3k ⟨q2r,trivial⟩
def q0s(X:Vf):Con Sg:=conS [.str,.str] [.str,.bool] fun a K=>X a.1 a.2.1 (fun q0 q1=>K (q0,q1,()))
theorem j0h{Wx:Jo}(h:AL [(325,Gi Wx)]):MT 317 (q0s (q0n Wx)):=mS h []
theorem j0i:MT 317 (q0s Gb):=j0h ⟨z3l,trivial⟩
def z8v(X:z0p):Con Sg:=conV [.v] [.str] [.int .i64,.ifc] [.same] fun a K=>X a.1 (fun q0 q1=>K (q0,q1,()) ((),()))
theorem w1y:MT 318 (z8v q4h):=⟨entB (by kernel_rfl),w1k⟩
def q2t(X:V0):Con Sg:=conS [.str] [.int .i64,.int .i64] fun a K=>X a.1 (fun q0 q1=>K (q0,q1,()))
theorem j2m{Gn:Vf}{Bt:z0p}(h:AL [(317,q0s Gn),(318,z8v Bt)]):MT 303 (q2t (q16 Gn Bt)):=mS h [(11,⟨bl 4294966321,[],[],[(.obj 0,.siter)]⟩)]
theorem j2n:MT 303 (q2t Hh):=j2m ⟨j0i,w1y,trivial⟩
def q6y(X:Gc):Con Sg:=conS [.str] [.el C.a3,.bool] fun a K=>X a.1 (fun q0 q1=>K (q0,q1,()))
theorem w5o{q3a:q8i}{Hp:V0}(h:AL [(302,z6g q3a),(303,q2t Hp)]):MT 286 (q6y (z2r q3a Hp)):=mS h [(13,⟨bl 228405,[2],[(1,(283,3)),(0,(283,3))],[sI 18,(.cell 1 0,.int .i64),(.cell 1 1,.int .i64),(.cell 1 2,.int .i64),(.cell 0 0,.int .i64),(.cell 0 1,.int .i64),(.cell 0 2,.int .i64)]⟩)]
theorem j2o:MT 286 (q6y q17):=w5o ⟨j98,j2n,trivial⟩
def z3m(X:q18):Con Sg:=conS [.el C.val] [.int .i64] fun a K=>X a.1 (fun q0=>K (q0,()))
theorem w5p{q67:q6j}{q5l:q5b}{Wb:Gc}(h:AL [(299,j2l q67),(300,z6f q5l),(286,q6y Wb)]):MT 283 (z3m (z2s q67 q5l Wb)):=mS h [(47,⟨bl 73643289922748022531,[0],[],[sI 66]⟩),(59,⟨bl 132521265739157328625411,[0],[],[sI 77]⟩)]
theorem w5q:MT 283 (z3m q6l):=w5p ⟨w5n,w8r,j2o,trivial⟩
def q81(X:H7):Con Sg:=conS [.el C.val,.el C.val] [.int .i64,.int .i64] fun a K=>X a.1 a.2.1 (fun q0 q1=>K (q0,q1,()))
theorem j99{q3b:q18}{Wb:Gc}(h:AL [(283,z3m q3b),(286,q6y Wb)]):MT 252 (q81 (q8k q3b Wb)):=mS h [(288000005,⟨bl 1539,[],[],[sI 11]⟩)]
theorem w0a:MT 252 (q81 H8):=j99 ⟨w5q,j2o,trivial⟩
def q6z(X:q19):Con Sg:=conS [.el C.subj,.el C.ex] [.bool] fun a K=>X a.1 a.2.1 (fun q0=>K (q0,()))
theorem w5r{Jf:Wl}{Wv:Rn}{R6:q1z}{Gq:Vd}{Gs:Ve}{Hq:q14}{Rf:H7}(h:AL [(71,B5 Jf),(245,q6w Wv),(248,z3i R6),(249,q0q Gq),(250,q0r Gs),(251,q9z Hq),(252,q81 Rf)]):MT 192 (q6z (z2t Jf Wv R6 Gq Gs Hq Rf)):=mS h [(279000005,⟨bl 195,[2],[],[sI 8]⟩),(80000005,⟨bl 195,[],[],[sI 8]⟩)]
theorem w5s:MT 192 (q6z Rq):=w5r ⟨z4i,j2h,w5m,j0e,j0g,j2k,w0a,trivial⟩
def Rw(X:Jd):Con Sg:=conV [.el C.subj,.sl C.str,.el C.ex] [.el C.subj,.sl C.str,.el C.ex] [.bool] [.same,.same,.same] fun a K=>X a.1 a.2.1 a.2.2.1 (fun q0=>K (q0,()) ((),(),(),()))
def z8w:PT:=Q4 ([(245000005,⟨bl 195,[1,0],[],[sI 8]⟩),(80000005,⟨bl 195,[],[],[sI 8]⟩)]:LS)
theorem w0b(q68:q19)(X:Jd)(s:Subj)(in_:List (ByteArray))(e:Ex)(K:Bool->Prop):z2u q68 X s in_ e K=fnV (((WL [(192,q6z q68)]).with 141 (Rw X)).pl z8w) 4 141 ([.el C.subj,.sl C.str,.el C.ex]:LP) ([.v]:LP) ([.el C.subj,.sl C.str,.el C.ex]:LV) ([.bool]:LV) ([.same,.same,.same]:LV) (s,in_,e,()) (fun r _=>K r.1):=by kernel_rfl
theorem z3n:MT 141 (Rw V1):=by
 show MT _ (conV ([.el C.subj,.sl C.str,.el C.ex]:LP) ([.el C.subj,.sl C.str,.el C.ex]:LV) ([.bool]:LV) ([.same,.same,.same]:LV) fun a K=>V1 a.1 a.2.1 a.2.2.1 (fun q0=>K (q0,()) ((),(),(),())))
 refine mR (l:=[(192,q6z Rq)]) (u:=4) (rk:=[.v]) (p:=z8w) ⟨w5s,trivial⟩ (by kernel_rfl) fun a K h X hX=> ?_
 exact h (fun s in_ e K=>X (s,in_,e,()) fun r _=>K r.1) (fun s in_ e K hs=>hX (s,in_,e,()) (fun r _=>K r.1) (Eq.mp (w0b Rq (fun s in_ e K=>X (s,in_,e,()) fun r _=>K r.1) s in_ e K) hs))
def q2u(X:V2):Con Sg:=conS [.el C.seg,.el C.subj,.sl C.str] [.bool] fun a K=>X a.1 a.2.1 a.2.2.1 (fun q0=>K (q0,()))
theorem j2p{Qn:Zq}{Zd:Jd}(h:AL [(44,Ub Qn),(141,Rw Zd)]):MT 136 (q2u (q2a Qn Zd)):=mS h [(80000005,⟨bl 195,[],[],[sI 8]⟩)]
theorem j2q:MT 136 (q2u Hi):=j2p ⟨Bp,z3n,trivial⟩
def Rx(X:J2):Con Sg:=conS [.sl C.seg,.el C.subj] [.vec 9 C.str] fun a K=>X a.1 a.2.1 (fun q0=>K (q0,()))
theorem j4y{q3c:H4}{Hr:V2}{Qt:Zv}(h:AL [(135,q8y q3c),(136,q2u Hr),(137,Ws Qt)]):MT 89 (Rx (q3p q3c Hr Qt)):=mS h [(13,⟨bl 8380667,[1,0],[],[sI 23,(.obj 2,.map C.str C.seg)]⟩),(25,⟨bl 12918448379,[2,1,0],[],[(.slot 10,.own 9 C.str),sI 34]⟩)]
theorem z1s:MT 89 (Rx W8):=j4y ⟨j95,j2q,Hl,trivial⟩
end Go.En
end
noncomputable section
set_option maxRecDepth 100000
open Go Go.RowKit Go.Fl Go.Fl.Lk Go.Fx
namespace Go.En
def q52(X:G0):Con Sg:=conV [.el C.env,.el C.subj,.sl C.forced] [.el C.env,.el C.subj,.sl C.forced] [.ptr 184 [.str,.str,.int .i64,.sl C.decl,.sl C.seg,.sl C.flag,.sl C.layer,.sl C.exper,.sl C.ctx,.sl C.forced,.sl C.str,.map C.str C.decis,.map C.str C.bool]] [.same,.same,.same] fun a K=>X a.1 a.2.1 a.2.2.1 (fun q0 q1 q2 q3 q4 q5 q6 q7 q8 q9 q10 q11 q12=>K ((q0,q1,q2,q3,q4,q5,q6,q7,q8,q9,q10,q11,q12,()),()) ((),(),(),()))
theorem j6o{Q9:J2}(h:AL [(89,Rx Q9)]):MT 50 (q52 (q5v Q9)):=mP (rk:=[.ptr 184 [.c,.c,.c,.c,.c,.c,.c,.c,.c,.c,.sl C.str,.map C.str C.decis,.map C.str C.bool]]) h []
theorem j6p:MT 50 (q52 B2):=j6o ⟨z1s,trivial⟩
def Hm(X:Wf):Con Sg:=conV [.ptr 184 [.c,.c,.c,.c,.c,.c,.c,.c,.c,.c,.c,.map C.str C.decis,.map C.str C.bool],.v] [.ptr 184 [.str,.str,.int .i64,.sl C.decl,.sl C.seg,.sl C.flag,.sl C.layer,.sl C.exper,.sl C.ctx,.sl C.forced,.sl C.str,.map C.str C.decis,.map C.str C.bool],.str] [.el C.flag,.bool] [.ptr 184 [.same,.same,.same,.same,.same,.same,.same,.same,.same,.same,.same,.map C.str C.decis,.map C.str C.bool],.same] fun a K=>X a.1.1 a.1.2.1 a.1.2.2.1 a.1.2.2.2.1 a.1.2.2.2.2.1 a.1.2.2.2.2.2.1 a.1.2.2.2.2.2.2.1 a.1.2.2.2.2.2.2.2.1 a.1.2.2.2.2.2.2.2.2.1 a.1.2.2.2.2.2.2.2.2.2.1 a.1.2.2.2.2.2.2.2.2.2.2.1 a.1.2.2.2.2.2.2.2.2.2.2.2.1 a.1.2.2.2.2.2.2.2.2.2.2.2.2.1 a.2.1 (fun q0 q1 q2 q3=>K (q0,q1,()) (((),(),(),(),(),(),(),(),(),(),(),q2,q3,()),(),()))
theorem q90:MT 51 (Hm Jp):=mP (rk:=[.el C.flag,.v]) (l:=[]) trivial [(91000005,⟨bl 195,[3],[],[sI 8]⟩)]
def Uv(X:J3):Con Sg:=conS [.el C.flag,.el C.subj] [.int .i64] fun a K=>X a.1 a.2.1 (fun q0=>K (q0,()))
theorem j4z{Qn:Zq}(h:AL [(44,Ub Qn)]):MT 16 (Uv (q3q Qn)):=mS h [(80000005,⟨bl 195,[],[],[sI 8]⟩),(5,⟨bl 3599,[1,0],[],[sI 12]⟩)]
theorem z1t:MT 16 (Uv J4):=j4z ⟨Bp,trivial⟩
def z8x(X:q4i):Con Sg:=conS [.sl C.bytes] [.vec 5 C.u8] fun a K=>X a.1 (fun q0=>K (q0,()))
theorem w1z:MT 166 (z8x q4j):=mS (l:=[]) trivial [(7,⟨bl 389,[],[],[(.slot 3,.own 5 C.u8),sI 9]⟩),(13,⟨bl 8101,[],[],[(.slot 3,.own 5 C.u8),sI 6]⟩)]
def q82(X:Gd):Con Sg:=conS [.int .u64,.int .i64] [.int .u64] fun a K=>X a.1 a.2.1 (fun q0=>K (q0,()))
theorem j0j:MT 261 (q82 Ge):=mS (l:=[]) trivial []
def Uf(X:Z6):Con Sg:=conV [.ptr 294 [.v,.v,.v,.v],.v] [.ptr 294 [.int .u64,.int .u64,.int .u64,.int .u64],.int .i64] [] [.ptr 294 [.int .u64,.int .u64,.int .u64,.int .u64],.same] fun a K=>X a.1.1 a.1.2.1 a.1.2.2.1 a.1.2.2.2.1 a.2.1 (fun q0 q1 q2 q3=>K () ((q0,q1,q2,q3,()),(),()))
theorem z8e{Zm:Gd}(h:AL [(261,q82 Zm)]):MT 204 (Uf (R9 Zm)):=mP (rk:=[]) h [(3,⟨[0,1,4],[],[(0,(294,4))],[sI 5,(.cell 0 0,.int IntKind.u64),(.cell 0 1,.int IntKind.u64),(.cell 0 2,.int IntKind.u64),(.cell 0 3,.int IntKind.u64)]⟩)]
theorem q58:MT 204 (Uf Zs):=z8e ⟨j0j,trivial⟩
def q2v(X:V3):Con Sg:=conV [.ptr 294 [.v,.v,.v,.v],.v] [.ptr 294 [.int .u64,.int .u64,.int .u64,.int .u64],.int .u64] [] [.ptr 294 [.int .u64,.int .u64,.int .u64,.int .u64],.same] fun a K=>X a.1.1 a.1.2.1 a.1.2.2.1 a.1.2.2.2.1 a.2.1 (fun q0 q1 q2 q3=>K () ((q0,q1,q2,q3,()),(),()))
theorem j2r{Zh:Z6}(h:AL [(204,Uf Zh)]):MT 203 (q2v (q2b Zh)):=mP (rk:=[]) h []
theorem j2s:MT 203 (q2v Hj):=j2r ⟨q58,trivial⟩
def z6h(X:q5c):Con Sg:=conS [.int .u64,.int .u64,.sl C.u8] [.int .u64] fun a K=>X a.1 a.2.1 a.2.2.1 (fun q0=>K (q0,()))
theorem w8s{V9:V3}{Zh:Z6}(h:AL [(203,q2v V9),(204,Uf Zh)]):MT 165 (z6h (z5j V9 Zh)):=mS h [(9,⟨bl 67101127,[],[(0,(294,4))],[sI 9,(.cell 0 0,.int IntKind.u64),(.cell 0 1,.int IntKind.u64),(.cell 0 2,.int IntKind.u64),(.cell 0 3,.int IntKind.u64)]⟩),(17,⟨bl 2147476423,[0],[],[(.slot 10,.int IntKind.u64),sI 33]⟩),(29,⟨bl 15762600843272903,[0],[],[(.slot 8,.int IntKind.u64),sI 54]⟩)]
theorem w8t:MT 165 (z6h q9p):=w8s ⟨j2s,q58,trivial⟩
def z3o(X:q2c):Con Sg:=conS [.int .u64,.sl C.bytes] [.int .u64] fun a K=>X a.1 a.2.1 (fun q0=>K (q0,()))
theorem w5t{q4w:q4i}{z0e:q5c}(h:AL [(166,z8x q4w),(165,z6h z0e)]):MT 115 (z3o (z2v q4w z0e)):=mS h []
theorem w5u:MT 115 (z3o q6m):=w5t ⟨w1z,w8t,trivial⟩
def q35(X:Vg):Con Sg:=conS [.str,.str] [.int .i64] fun a K=>X a.1 a.2.1 (fun q0=>K (q0,()))
theorem v1f{q69:q2c}(h:AL [(115,z3o q69)]):MT 73 (q35 (z9x q69)):=mS h []
theorem z3p:MT 73 (q35 Gf):=v1f ⟨w5u,trivial⟩
def z6i(X:q2d):Con Sg:=conS [.sl C.forced,.str] [.el C.forced,.bool] fun a K=>X a.1 a.2.1 (fun q0 q1=>K (q0,q1,()))
theorem w0c:MT 183 (z6i q2e):=mS (l:=[]) trivial [(5,⟨bl 787,[],[(0,(172,3))],[sI 10,(.cell 0 0,.str),(.cell 0 1,.str),(.cell 0 2,.int .i64)]⟩)]
def j2t(X:q6n):Con Sg:=conS [.el C.env,.el C.forced] [.bool] fun a K=>X a.1 a.2.1 (fun q0=>K (q0,()))
theorem w5v:MT 184 (j2t q6o):=mSg 8 (l:=[]) trivial [(277000005,⟨bl 195,[1],[],[sI 8]⟩),(278000005,⟨bl 195,[],[],[sI 8]⟩)]
end Go.En
end
noncomputable section
set_option maxRecDepth 100000
open Go Go.RowKit Go.Fl Go.Fl.Lk Go.Fx
namespace Go.En
def z3q(X:q2f):Con Sg:=conS [.el C.env,.el C.subj] [.bool] fun a K=>X a.1 a.2.1 (fun q0=>K (q0,()))
theorem w5w{Qn:Zq}{Zk:Vg}(h:AL [(44,Ub Qn),(73,q35 Zk)]):MT 185 (z3q (z2w Qn Zk)):=mS h []
theorem w5x:MT 185 (z3q q6p):=w5w ⟨Bp,z3p,trivial⟩
def q36(X:Ur):Con Sg:=conS [.el C.env,.el C.subj,.str] [.bool] fun a K=>X a.1 a.2.1 a.2.2.1 (fun q0=>K (q0,()))
theorem j40{Q9:J2}{Zd:Jd}(h:AL [(89,Rx Q9),(141,Rw Zd)]):MT 188 (q36 (q3r Q9 Zd)):=mS h [(5,⟨bl 3615,[1,0],[],[sI 12]⟩)]
theorem j41:MT 188 (q36 Rr):=j40 ⟨z1s,z3n,trivial⟩
def z3r(X:Rs):Con Sg:=conS [.sl C.range,.int .i64] [.int .i64] fun a K=>X a.1 a.2.1 (fun q0=>K (q0,()))
theorem j2u:MT 41 (z3r q2g):=mS (l:=[]) trivial [(5,⟨bl 387,[],[],[sI 9]⟩)]
def q4m(X:Bn):Con Sg:=conS [.el C.env,.el C.subj,.sl C.forced,.str] [.el C.asg,.int .i64] fun a K=>X a.1 a.2.1 a.2.2.1 a.2.2.2.1 (fun q0 q1=>K (q0,q1,()))
theorem w2a{Qn:Zq}{q3d:q2d}{Zk:Vg}{Wy:Rs}{R7:Ur}{q7a:q2f}{q7b:q6n}(h:AL [(44,Ub Qn),(183,z6i q3d),(73,q35 Zk),(41,z3r Wy),(188,q36 R7),(185,z3q q7a),(184,j2t q7b)]):MT 139 (q4m (z0q Qn q3d Zk Wy R7 q7a q7b)):=mS h [(4,⟨bl 959,[3,2,1,0],[],[sI 10]⟩),(18,⟨bl 2198939402175,[9,5,3,2,1,0],[(7,(134,5))],[(.cell 7 2,.int .i64)]⟩),(22,⟨bl 17735122472271807,[12,7,9,5,3,2,1,0],[],[sB 64]⟩),(30,⟨bl 18464479196181823423,[12,7,9,5,3,2,1,0],[],[sB 87]⟩),(41,⟨bl 73193204841212587949592543167,[12,9,5,3,2,1,0],[(7,(134,5))],[sI 96,(.cell 7 1,.str),(.cell 7 3,.int .i64)]⟩),(46,⟨bl 1261615642555177651852752060351,[19,7],[],[sB 19]⟩),(48,⟨bl 1261615642555177651852752584639,[19,7],[],[sB 122]⟩),(244000005,⟨bl 195,[],[],[sI 8]⟩),(182000005,⟨bl 195,[],[],[sI 8]⟩)]
theorem w2b:MT 139 (q4m Ha):=w2a ⟨Bp,w0c,z3p,j2u,j41,w5x,w5v,trivial⟩
def Ug(X:Wo):Con Sg:=conV [.ptr 184 [.c,.c,.c,.c,.c,.c,.c,.c,.c,.c,.c,.map C.str C.decis,.map C.str C.bool],.el C.exper] [.ptr 184 [.str,.str,.int .i64,.sl C.decl,.sl C.seg,.sl C.flag,.sl C.layer,.sl C.exper,.sl C.ctx,.sl C.forced,.sl C.str,.map C.str C.decis,.map C.str C.bool],.el C.exper] [.int .i64] [.ptr 184 [.same,.same,.same,.same,.same,.same,.same,.same,.same,.same,.same,.map C.str C.decis,.map C.str C.bool],.same] fun a K=>X a.1.1 a.1.2.1 a.1.2.2.1 a.1.2.2.2.1 a.1.2.2.2.2.1 a.1.2.2.2.2.2.1 a.1.2.2.2.2.2.2.1 a.1.2.2.2.2.2.2.2.1 a.1.2.2.2.2.2.2.2.2.1 a.1.2.2.2.2.2.2.2.2.2.1 a.1.2.2.2.2.2.2.2.2.2.2.1 a.1.2.2.2.2.2.2.2.2.2.2.2.1 a.1.2.2.2.2.2.2.2.2.2.2.2.2.1 a.2.1 (fun q0 q1 q2=>K (q0,()) (((),(),(),(),(),(),(),(),(),(),(),q1,q2,()),(),()))
theorem z8f{Qn:Zq}{Zk:Vg}(h:AL [(44,Ub Qn),(73,q35 Zk)]):MT 140 (Ug (Ba Qn Zk)):=mP (rk:=[.v]) h [(5,⟨bl 32267,[3,0,1,2],[],[sI 15]⟩)]
theorem z8g:MT 140 (Ug Ju):=z8f ⟨Bp,z3p,trivial⟩
def z8y(X:z0r):Con Sg:=conV [.v] [.int .i64] [.str] [.same] fun a K=>X a.1 (fun q0=>K (q0,()) ((),()))
theorem w2c:MT 164 (z8y z0s):=⟨entB (by kernel_rfl),w1l⟩
def z3s(X:q2h):Con Sg:=conS [.int .i64] [.str] fun a K=>X a.1 (fun q0=>K (q0,()))
theorem w5y{q4x:z0r}(h:AL [(164,z8y q4x)]):MT 114 (z3s (j1y q4x)):=mS h []
theorem w5z:MT 114 (z3s q6q):=w5y ⟨w2c,trivial⟩
def z6j(X:q5d):Con Sg:=conS [.el C.val] [.str,.bool] fun a K=>X a.1 (fun q0 q1=>K (q0,q1,()))
theorem w8u{q7c:q2h}(h:AL [(114,z3s q7c)]):MT 72 (z6j (z5k q7c)):=mS h [(8,⟨bl 63,[0],[],[sB 6]⟩)]
theorem w8v:MT 72 (z6j q9q):=w8u ⟨w5z,trivial⟩
def q53(X:G1):Con Sg:=conS [.el C.subj,.str,.str,.str] [.int .i64,.bool] fun a K=>X a.1 a.2.1 a.2.2.1 a.2.2.2.1 (fun q0 q1=>K (q0,q1,()))
theorem j6q{Jf:Wl}{z0f:q5d}{Zk:Vg}(h:AL [(71,B5 Jf),(72,z6j z0f),(73,q35 Zk)]):MT 40 (q53 (q5w Jf z0f Zk)):=mS h []
theorem j6r:MT 40 (q53 B3):=j6q ⟨z4i,w8v,z3p,trivial⟩
def B6(X:Wm):Con Sg:=conS [.el C.subj,.el C.serve] [.int .i64,.int .i64,.bool] fun a K=>X a.1 a.2.1 (fun q0 q1 q2=>K (q0,q1,q2,()))
theorem j6s{q0d:G1}{Wy:Rs}(h:AL [(40,q53 q0d),(41,z3r Wy)]):MT 14 (B6 (q5x q0d Wy)):=mS h []
theorem z4j:MT 14 (B6 G2):=j6s ⟨j6r,j2u,trivial⟩
def Gj(X:Vh):Con Sg:=conV [.ptr 184 [.c,.c,.c,.c,.c,.c,.c,.c,.c,.c,.c,.map C.str C.decis,.map C.str C.bool],.el C.flag,.el C.serve,.el C.reason] [.ptr 184 [.str,.str,.int .i64,.sl C.decl,.sl C.seg,.sl C.flag,.sl C.layer,.sl C.exper,.sl C.ctx,.sl C.forced,.sl C.str,.map C.str C.decis,.map C.str C.bool],.el C.flag,.el C.serve,.el C.reason] [.int .i64,.el C.reason] [.ptr 184 [.same,.same,.same,.same,.same,.same,.same,.same,.same,.same,.same,.map C.str C.decis,.map C.str C.bool],.same,.same,.same] fun a K=>X a.1.1 a.1.2.1 a.1.2.2.1 a.1.2.2.2.1 a.1.2.2.2.2.1 a.1.2.2.2.2.2.1 a.1.2.2.2.2.2.2.1 a.1.2.2.2.2.2.2.2.1 a.1.2.2.2.2.2.2.2.2.1 a.1.2.2.2.2.2.2.2.2.2.1 a.1.2.2.2.2.2.2.2.2.2.2.1 a.1.2.2.2.2.2.2.2.2.2.2.2.1 a.1.2.2.2.2.2.2.2.2.2.2.2.2.1 a.2.1 a.2.2.1 a.2.2.2.1 (fun q0 q1 q2 q3=>K (q0,q1,()) (((),(),(),(),(),(),(),(),(),(),(),q2,q3,()),(),(),(),()))
theorem j0k{Jg:Wm}(h:AL [(14,B6 Jg)]):MT 142 (Gj (q0o Jg)):=mP (rk:=[.v,.el C.reason]) h []
theorem j0l:MT 142 (Gj J5):=j0k ⟨z4j,trivial⟩
def Bd(X:Zt):Con Sg:=conV [.ptr 184 [.c,.c,.c,.c,.c,.c,.c,.c,.c,.c,.c,.map C.str C.decis,.map C.str C.bool],.el C.flag] [.ptr 184 [.str,.str,.int .i64,.sl C.decl,.sl C.seg,.sl C.flag,.sl C.layer,.sl C.exper,.sl C.ctx,.sl C.forced,.sl C.str,.map C.str C.decis,.map C.str C.bool],.el C.flag] [.el C.decis] [.ptr 184 [.same,.same,.same,.same,.same,.same,.same,.same,.same,.same,.same,.map C.str C.decis,.map C.str C.bool],.same] fun a K=>X a.1.1 a.1.2.1 a.1.2.2.1 a.1.2.2.2.1 a.1.2.2.2.2.1 a.1.2.2.2.2.2.1 a.1.2.2.2.2.2.2.1 a.1.2.2.2.2.2.2.2.1 a.1.2.2.2.2.2.2.2.2.1 a.1.2.2.2.2.2.2.2.2.2.1 a.1.2.2.2.2.2.2.2.2.2.2.1 a.1.2.2.2.2.2.2.2.2.2.2.2.1 a.1.2.2.2.2.2.2.2.2.2.2.2.2.1 a.2.1 (fun q0 q1 q2=>K (q0,()) (((),(),(),(),(),(),(),(),(),(),(),q1,q2,()),(),()))
def q5g:PT:=Q4 ([(93000009,⟨bl 14909483,[9],[(10,(74,4)),(0,(184,13))],[sI 24,(.cell 10 0,.int .i64),(.cell 10 1,.int .i64),(.cell 10 2,.str),(.cell 10 3,.int .i64),(.obj 2,.map C.str C.bool),(.obj 1,.map C.str C.decis)]⟩),(93000027,⟨bl 2269884306126242091,[9],[(10,(74,4)),(0,(184,13))],[sI 61,(.cell 10 0,.int .i64),(.cell 10 1,.int .i64),(.cell 10 2,.str),(.cell 10 3,.int .i64),(.obj 1,.map C.str C.decis),(.obj 2,.map C.str C.bool)]⟩),(93000043,⟨bl 18173039004871905887270070919594283,[9],[(10,(74,4)),(0,(184,13))],[sI 114,(.cell 10 0,.int .i64),(.cell 10 1,.int .i64),(.cell 10 2,.str),(.cell 10 3,.int .i64),(.obj 2,.map C.str C.bool),(.obj 1,.map C.str C.decis)]⟩),(20,⟨bl 131067,[4,3],[(5,(76,11)),(0,(184,13))],[(.cell 5 0,.str),(.cell 5 1,.int .i64),(.cell 5 2,.int .i64),(.cell 5 3,.int .i64),(.cell 5 4,.str),(.cell 5 5,.sl C.str),(.cell 5 6,.int .i64),(.cell 5 7,.int .i64),(.cell 5 8,.str),(.cell 5 9,.int .i64),(.cell 5 10,.int .i64),(.obj 1,.map C.str C.decis),(.obj 2,.map C.str C.bool)]⟩),(16,⟨bl 68719476731,[10,1,2,0,9],[(5,(76,11))],[(.cell 5 2,.int .i64),(.cell 5 3,.int .i64),(.cell 5 4,.str),(.cell 5 5,.sl C.str)]⟩)]:LS)
theorem z4o(Q6:J9)(Zy:Wf)(Zr:J3)(q4y:Bn)(Uh:Wo)(Zd:Jd)(Vi:Vh)(X:Zt)(salt:ByteArray)(hkind:ByteArray)(hold:Int)(attrs:List (Decl))(segs:List (Seg))(flags:List (Flg))(layers:List (Lay_))(expers:List (Exper))(ctxs:List (Ctxt))(fs:List (Frc))(inn:List (ByteArray))(done:(ByteArray->Option (Dcs)))(opn:(ByteArray->Option (Bool)))(f:Flg)(K:Dcs->(ByteArray->Option (Dcs))->(ByteArray->Option (Bool))->Prop):Bb Q6 Zy Zr q4y Uh Zd Vi X salt hkind hold attrs segs flags layers expers ctxs fs inn done opn f K=fnV (((WL [(93,Gg Q6),(51,Hm Zy),(16,Uv Zr),(139,q4m q4y),(140,Ug Uh),(141,Rw Zd),(142,Gj Vi)]).with 52 (Bd X)).pl q5g) 4 52 ([.ptr 184 [.c,.c,.c,.c,.c,.c,.c,.c,.c,.c,.c,.map C.str C.decis,.map C.str C.bool],.el C.flag]:LP) ([.el C.decis]:LP) ([.ptr 184 [.str,.str,.int .i64,.sl C.decl,.sl C.seg,.sl C.flag,.sl C.layer,.sl C.exper,.sl C.ctx,.sl C.forced,.sl C.str,.map C.str C.decis,.map C.str C.bool],.el C.flag]:LV) ([.el C.decis]:LV) ([.ptr 184 [.same,.same,.same,.same,.same,.same,.same,.same,.same,.same,.same,.map C.str C.decis,.map C.str C.bool],.same]:LV) ((salt,hkind,hold,attrs,segs,flags,layers,expers,ctxs,fs,inn,done,opn,()),f,()) (fun r o=>K r.1 o.1.2.2.2.2.2.2.2.2.2.2.2.1 o.1.2.2.2.2.2.2.2.2.2.2.2.2.1):=by kernel_rfl
theorem z8h:MT 52 (Bd Ue):=by
 show MT _ (conV ([.ptr 184 [.c,.c,.c,.c,.c,.c,.c,.c,.c,.c,.c,.map C.str C.decis,.map C.str C.bool],.el C.flag]:LP) ([.ptr 184 [.str,.str,.int .i64,.sl C.decl,.sl C.seg,.sl C.flag,.sl C.layer,.sl C.exper,.sl C.ctx,.sl C.forced,.sl C.str,.map C.str C.decis,.map C.str C.bool],.el C.flag]:LV) ([.el C.decis]:LV) ([.ptr 184 [.same,.same,.same,.same,.same,.same,.same,.same,.same,.same,.same,.map C.str C.decis,.map C.str C.bool],.same]:LV) fun a K=>Ue a.1.1 a.1.2.1 a.1.2.2.1 a.1.2.2.2.1 a.1.2.2.2.2.1 a.1.2.2.2.2.2.1 a.1.2.2.2.2.2.2.1 a.1.2.2.2.2.2.2.2.1 a.1.2.2.2.2.2.2.2.2.1 a.1.2.2.2.2.2.2.2.2.2.1 a.1.2.2.2.2.2.2.2.2.2.2.1 a.1.2.2.2.2.2.2.2.2.2.2.2.1 a.1.2.2.2.2.2.2.2.2.2.2.2.2.1 a.2.1 (fun q0 q1 q2=>K (q0,()) (((),(),(),(),(),(),(),(),(),(),(),q1,q2,()),(),())))
 refine mR (l:=[(93,Gg Jm),(51,Hm Jp),(16,Uv J4),(139,q4m Ha),(140,Ug Ju),(141,Rw V1),(142,Gj J5)]) (u:=4) (rk:=[.el C.decis]) (p:=q5g) ⟨q6x,q90,z1t,w2b,z8g,z3n,j0l,trivial⟩ (by kernel_rfl) fun _ K h X hX=> ?_
 exact h (fun salt hkind hold attrs segs flags layers expers ctxs fs inn done opn f K=>X ((salt,hkind,hold,attrs,segs,flags,layers,expers,ctxs,fs,inn,done,opn,()),f,()) fun r o=>K r.1 o.1.2.2.2.2.2.2.2.2.2.2.2.1 o.1.2.2.2.2.2.2.2.2.2.2.2.2.1) (fun salt hkind hold attrs segs flags layers expers ctxs fs inn done opn f K hs=>hX ((salt,hkind,hold,attrs,segs,flags,layers,expers,ctxs,fs,inn,done,opn,()),f,()) (fun r o=>K r.1 o.1.2.2.2.2.2.2.2.2.2.2.2.1 o.1.2.2.2.2.2.2.2.2.2.2.2.2.1) (Eq.mp (z4o Jm Jp J4 Ha Ju V1 J5 (fun salt hkind hold attrs segs flags layers expers ctxs fs inn done opn f K=>X ((salt,hkind,hold,attrs,segs,flags,layers,expers,ctxs,fs,inn,done,opn,()),f,()) fun r o=>K r.1 o.1.2.2.2.2.2.2.2.2.2.2.2.1 o.1.2.2.2.2.2.2.2.2.2.2.2.2.1) salt hkind hold attrs segs flags layers expers ctxs fs inn done opn f K) hs))
end Go.En
end
noncomputable section
set_option maxRecDepth 100000
open Go Go.RowKit Go.Fl Go.Fl.Lk Go.Fx
namespace Go.En
def q83(X:H9):Con Sg:=conS [.el C.env,.el C.subj,.sl C.forced,.str] [.el C.decis,.int .i64] fun a K=>X a.1 a.2.1 a.2.2.1 a.2.2.2.1 (fun q0 q1=>K (q0,q1,()))
theorem w0d{q0e:G0}{Zy:Wf}{Ui:Zt}(h:AL [(50,q52 q0e),(51,Hm Zy),(52,Bd Ui)]):MT 21 (q83 (q8l q0e Zy Ui)):=mS h []
theorem w0e:MT 21 (q83 q2i):=w0d ⟨j6p,q90,z8h,trivial⟩
def z3t(X:q2j):Con Sg:=conS [] [.bool] fun a K=>X (fun q0=>K (q0,()))
theorem w50{q3e:H9}(h:AL [(21,q83 q3e)]):MT 9 (z3t (z2x q3e)):=mS h []
theorem w51:MT 9 (z3t q6r):=w50 ⟨w0e,trivial⟩
def v9q(X:w4z):Con Sg:=conV [.sl C.u8,.v] [.sl C.u8,.int .i64] [.ptr 92 [.sl C.u8,.int .i64]] [.same,.same] fun a K=>X a.1 a.2.1 (fun q0 q1=>K ((q0,q1,()),()) ((),(),()))
theorem y7h:MT 10 (v9q w40):=mP (rk:=[.ptr 92 [.c,.v]]) (l:=[]) trivial [(6,⟨[1,4],[],[],[(.slot 0,.sl C.u8)]⟩)]
def j0m(X:q8m):Con Sg:=conV [.ptr 92 [.c,.v],.v] [.ptr 92 [.sl C.u8,.int .i64],.str] [.el C.ctx] [.ptr 92 [.same,.int .i64],.same] fun a K=>X a.1.1 a.1.2.1 a.2.1 (fun q0 q1=>K (q0,()) (((),q1,()),(),()))
theorem v1g{z3y:z9j}{Q3:Wz}{Qb:Zl}{Ja:q1c}(h:AL [(70,w48 z3y),(29,q5f Q3),(30,V4 Qb),(64,z5s Ja)]):MT 38 (j0m (z9y z3y Q3 Qb Ja)):=mP (rk:=[.el C.ctx]) h [(9,⟨bl 8051,[4,1],[(2,(107,3)),(0,(92,2))],[sI 7,(.cell 2 2,.own 160 C.attr),(.cell 0 1,.int .i64)]⟩)]
theorem v1h:MT 38 (j0m q8n):=v1g ⟨v87,q9u,Hk,j9c,trivial⟩
def j0n(X:q8o):Con Sg:=conV [.ptr 92 [.c,.v]] [.ptr 92 [.sl C.u8,.int .i64]] [.el C.subj] [.ptr 92 [.same,.int .i64]] fun a K=>X a.1.1 a.1.2.1 (fun q0 q1=>K (q0,()) (((),q1,()),()))
theorem v1i{Qb:Zl}{q0x:q8m}(h:AL [(30,V4 Qb),(38,j0m q0x)]):MT 12 (j0n (z9z Qb q0x)):=mP (rk:=[.el C.subj]) h [(10,⟨bl 125,[1],[(0,(92,2)),(2,(25,1))],[(.cell 0 1,.int .i64),(.cell 2 0,.own 107 C.ctx)]⟩)]
theorem v1j:MT 12 (j0n z2y):=v1i ⟨Hk,v1h,trivial⟩
def w0f(X:z1q):Con Sg:=conS [.el C.subj,.str] [.el C.ctx,.bool] fun a K=>X a.1 a.2.1 (fun q0 q1=>K (q0,q1,()))
theorem w8w:MT 46 (w0f z5l):=mS (l:=[]) trivial [(5,⟨bl 23,[0],[(1,(107,3))],[sI 6,(.cell 1 0,.str),(.cell 1 1,.str),(.cell 1 2,.sl C.attr)]⟩)]
def j0o(X:q3s):Con Sg:=conS [.el C.subj,.str,.str] [.el C.val,.bool] fun a K=>X a.1 a.2.1 a.2.2.1 (fun q0 q1=>K (q0,q1,()))
theorem v1k{q3f:z1q}(h:AL [(46,w0f q3f)]):MT 74 (j0o (z90 q3f)):=mS h [(15,⟨bl 3668815,[2,0],[(1,(72,4))],[sI 10,(.cell 1 0,.int .i64),(.cell 1 1,.int .i64),(.cell 1 2,.str),(.cell 1 3,.sl C.str)]⟩)]
theorem v1l:MT 74 (j0o q8p):=v1k ⟨w8w,trivial⟩
def w0g(X:z2z):Con Sg:=conS [.int .i64] [.str] fun a K=>X a.1 (fun q0=>K (q0,()))
theorem v1m:MT 116 (w0g z22):=mS (l:=[]) trivial [(9,⟨bl 980,[],[],[sI 0,(.slot 3,.str)]⟩),(16,⟨bl 16349,[],[],[sI 5]⟩)]
def w0h(X:z5m):Con Sg:=conS [.el C.val] [.str,.bool] fun a K=>X a.1 (fun q0 q1=>K (q0,q1,()))
theorem v9r{z38:z2z}(h:AL [(116,w0g z38)]):MT 75 (w0h (j88 z38)):=mS h [(20,⟨bl 6399,[0],[],[sB 16]⟩)]
theorem v9s:MT 75 (w0h j1z):=v9r ⟨v1m,trivial⟩
def w3x(X:z7n):Con Sg:=conS [.sl C.bytes] [.vec 5 C.u8] fun a K=>X a.1 (fun q0=>K (q0,()))
theorem v5s:MT 168 (w3x z7o):=mS (l:=[]) trivial [(7,⟨[0,2],[],[],[(.slot 3,.own 5 C.u8),sI 4]⟩),(15,⟨bl 518069,[],[],[(.slot 3,.own 5 C.u8),sI 6]⟩)]
def w0i(X:z23):Con Sg:=conS [.int .u64,.int .u64] [.int .u64] fun a K=>X a.1 a.2.1 (fun q0=>K (q0,()))
theorem v1n:MT 262 (w0i z25):=mS (l:=[]) trivial []
def q54(X:G3):Con Sg:=conS [.el C.sip,.int .i64] [.el C.sip] fun a K=>X a.1 a.2.1 (fun q0=>K (q0,()))
theorem j6t{Gt:z23}(h:AL [(262,w0i Gt)]):MT 205 (q54 (q5y Gt)):=mS h [(5,⟨bl 23,[1],[(0,(298,4))],[sI 5,(.cell 0 0,.int IntKind.u64),(.cell 0 1,.int IntKind.u64),(.cell 0 2,.int IntKind.u64),(.cell 0 3,.int IntKind.u64)]⟩)]
theorem j6u:MT 205 (q54 Je):=j6t ⟨v1n,trivial⟩
end Go.En
end
noncomputable section
set_option maxRecDepth 100000
open Go Go.RowKit Go.Fl Go.Fl.Lk Go.Fx
namespace Go.En
def w52(X:j10):Con Sg:=conS [.int .u64,.int .u64,.sl C.u8] [.int .u64] fun a K=>X a.1 a.2.1 a.2.2.1 (fun q0=>K (q0,()))
theorem y3j{Vr:G3}(h:AL [(205,q54 Vr)]):MT 167 (w52 (w41 Vr)):=mS h [(7,⟨bl 1046727,[],[(0,(298,4))],[sI 8,(.cell 0 0,.int IntKind.u64),(.cell 0 1,.int IntKind.u64),(.cell 0 2,.int IntKind.u64),(.cell 0 3,.int IntKind.u64)]⟩),(15,⟨bl 33552839,[0],[],[(.slot 9,.int IntKind.u64),sI 10]⟩),(24,⟨bl 274777243079,[0],[],[(.slot 9,.int IntKind.u64)]⟩)]
theorem y3k:MT 167 (w52 j7m):=y3j ⟨j6u,trivial⟩
def w0j(X:z5n):Con Sg:=conS [.int .u64,.sl C.bytes] [.int .u64] fun a K=>X a.1 a.2.1 (fun q0=>K (q0,()))
theorem v9t{z8a:z7n}{j7z:j10}(h:AL [(168,w3x z8a),(167,w52 j7z)]):MT 117 (w0j (j89 z8a j7z)):=mS h []
theorem v9u:MT 117 (w0j j11):=v9t ⟨v5s,y3k,trivial⟩
def w53(X:j12):Con Sg:=conS [.str,.str] [.int .i64] fun a K=>X a.1 a.2.1 (fun q0=>K (q0,()))
theorem y3l{j3k:z5n}(h:AL [(117,w0j j3k)]):MT 76 (w53 (w42 j3k)):=mS h []
theorem y3m:MT 76 (w53 z7p):=y3l ⟨v9u,trivial⟩
def z3u(X:q2k):Con Sg:=conS [.el C.subj,.str,.str,.str] [.int .i64,.bool] fun a K=>X a.1 a.2.1 a.2.2.1 a.2.2.2.1 (fun q0 q1=>K (q0,q1,()))
theorem w54{q4c:q3s}{j3l:z5m}{j70:j12}(h:AL [(74,j0o q4c),(75,w0h j3l),(76,w53 j70)]):MT 42 (z3u (z27 q4c j3l j70)):=mS h []
theorem w55:MT 42 (z3u q6s):=w54 ⟨v1l,v9s,y3m,trivial⟩
def w3y(X:z7q):Con Sg:=conS [.sl C.range,.int .i64] [.int .i64] fun a K=>X a.1 a.2.1 (fun q0=>K (q0,()))
theorem v5t:MT 43 (w3y z7r):=mS (l:=[]) trivial [(5,⟨[0,1],[],[],[sI 5]⟩)]
def j0p(X:q8q):Con Sg:=conS [.el C.subj,.el C.serve] [.int .i64,.int .i64,.bool] fun a K=>X a.1 a.2.1 (fun q0 q1 q2=>K (q0,q1,q2,()))
theorem v1o{q7d:q2k}{z8b:z7q}(h:AL [(42,z3u q7d),(43,w3y z8b)]):MT 15 (j0p (z91 q7d z8b)):=mS h []
theorem v1p:MT 15 (j0p z29):=v1o ⟨w55,v5t,trivial⟩
def z6k(X:q5e):Con Sg:=conS [.el C.flag,.el C.subj] [.int .i64] fun a K=>X a.1 a.2.1 (fun q0=>K (q0,()))
theorem w8x{q3f:z1q}{Jr:B0}(h:AL [(46,w0f q3f),(47,z7x Jr)]):MT 17 (z6k (z5o q3f Jr)):=mS h [(5,⟨bl 15,[1,0],[],[sI 5]⟩)]
theorem w8y:MT 17 (z6k q9r):=w8x ⟨w8w,j7s,trivial⟩
def Vj(X:Hc):Con Sg:=conS [.sl C.u8,.sl C.u8,.el C.subj,.el C.serve,.el C.flag] [.bool] fun a K=>X a.1 a.2.1 a.2.2.1 a.2.2.2.1 a.2.2.2.2.1 (fun q0=>K (q0,()))
theorem z4p{q7e:q2j}{w1e:w4z}{q3g:H2}{z39:q8o}{Br:q7v}{Jg:Wm}{z4a:q8q}{Zr:J3}{q5m:q5e}(h:AL [(9,z3t q7e),(10,v9q w1e),(11,q8x q3g),(12,j0n z39),(13,j17 Br),(14,B6 Jg),(15,j0p z4a),(16,Uv Zr),(17,z6k q5m)]):MT 3 (Vj (Hd q7e w1e q3g z39 Br Jg z4a Zr q5m)):=mS h [(21,⟨bl 144115188008778655,[11,9,3,7,6,4,2,1,0],[],[sI 57]⟩),(27,⟨bl 36857459350333127583,[15,13],[],[sI 65]⟩),(43,⟨bl 147537923792590437279,[15,13],[],[sI 25]⟩)]
theorem z4q:MT 3 (Vj Zu):=z4p ⟨w51,y7h,j93,v1j,w77,z4j,v1p,z1t,w8y,trivial⟩
end Go.En
end
noncomputable section
set_option maxRecDepth 100000
namespace Go.En
open Go Go.Fl Go.Fl.Lk Go.Fx
theorem Cnd.mk{c A B:Prop}(h:c->A)(k: ¬c->B):Cnd c A B:=⟨h,k⟩
structure DS(list:List Int)(at_:Int):Prop where
 len:list.length<=1000
 lo:0<=at_
 hi:at_<=list.length
 byte: ∀x∈list,0<=x/\x<256
theorem getm{α:Type}{l:List α}{k:Nat}{x:α}(h:l[k]? =some x):x∈l:=List.mem_of_getElem? h
theorem j0q(n:Int):(Go.Utf8.encode n).size<=4:=by
 unfold Go.Utf8.encode
 generalize (if Go.Utf8.valid n then n.toNat else Go.Utf8.runeError)=c
 show (if c<0x80 then _ else if c<0x800 then _ else if c<0x10000 then _ else _:ByteArray).size<=4
 have h1: ∀a:UInt8,(ByteArray.mk #[a]).size<=4:=fun _=>(by decide:1<=4)
 have h2: ∀a b:UInt8,(ByteArray.mk #[a,b]).size<=4:=fun _ _=>(by decide:2<=4)
 have h3: ∀a b c:UInt8,(ByteArray.mk #[a,b,c]).size<=4:=fun _ _ _=>(by decide:3<=4)
 have h4: ∀a b c d:UInt8,(ByteArray.mk #[a,b,c,d]).size<=4:=fun _ _ _ _=>(by decide:4<=4)
 split
 ·exact h1 _
 ·split
  ·exact h2 _ _
  ·split
   ·exact h3 _ _ _
   ·exact h4 _ _ _ _
theorem Qj{list:List Int}{at_ n:Int}{K:Int->Int->Prop}(hD:DS list at_)(hn:1<=n)(h: ∀r a,0<=r->r<n->DS list a->K r a):We list at_ n K:=by
 obtain⟨h1,h2,h3,h4⟩:=hD
 unfold We w4t w4s
 refine fun _=>Cnd.mk (fun hl=> ?_) (fun _=>h _ _ (by omega) (by omega) ⟨h1,h2,h3,h4⟩)
 have hl:=of_decide_eq_true hl
 refine⟨by unfold InI;omega,by unfold InI;omega,by omega,fun y hy=>⟨by unfold InI;have:=h4 _ (getm hy);omega,by omega,?_⟩⟩
 obtain⟨a,b⟩:=h4 _ (getm hy)
 exact h _ _ (Int.tmod_nonneg _ a) (by have:=Int.tmod_lt_of_pos y (b:=n) (by omega);omega) ⟨h1,by omega,by omega,h4⟩
theorem q5h{list:List Int}{at_ n:Int}{K:Int->Int->Prop}(hD:DS list at_)(hn:1<=n)(h: ∀r a,0<=r->r<n->DS list a->K r a):z66 list at_ n K:=by
 unfold z66 w4v
 refine Qj hD (by decide) fun r a r0 r1 hD=>⟨by unfold InI;omega,Qj hD (by decide) fun s b s0 s1 hD=>⟨by unfold InI;omega,by omega,?_⟩⟩
 exact h _ _ (Int.tmod_nonneg _ (by omega)) (by have:=Int.tmod_lt_of_pos (256*r+s) (b:=n) (by omega);omega) hD
theorem j2v{n:Int}{l:List ByteArray}{K:List ByteArray->Prop}(h0:0<=n)(h1:n<=l.length)(h:K (l.take n.toNat)):j7k n l K:=⟨⟨h0,h1⟩,h⟩
theorem z1u{list:List Int}{at_:Int}{K:ByteArray->Int->Prop}(hD:DS list at_)(h: ∀r a,r∈j1g->DS list a->K r a):z2a list at_ K:=by
 unfold z2a w4u
 exact Qj hD (by decide) fun r a r0 r1 hD=>⟨⟨r0,r1⟩,fun y hy=>h _ _ (getm hy) hD⟩
theorem sz_k(n:Int):(B8 [107]++Go.Utf8.encode n).size<=5:=by
 rw[ByteArray.size_append];have:=j0q n;show 1+_<=5;omega
theorem v3t{list:List Int}{at_:Int}{K:ByteArray->Int->Prop}(hD:DS list at_)(h: ∀r a,r.size<=5->DS list a->K r a):j8z list at_ K:=by
 unfold j8z v0m
 refine Qj hD (by decide) fun r a r0 r1 hD=>⟨by unfold InI;omega,?_,h _ _ (sz_k _) hD⟩
 have:=j0q (Go.IntKind.i32.wrap (48+r));have e:(B8 [107]).size=1:=rfl;omega
theorem w0k{list:List Int}{at_:Int}{K:List ByteArray->Int->Prop}(hD:DS list at_)(h: ∀r a,r.length<=3->(∀s∈r,s.size<=5)->DS list a->K r a):j1h list at_ K:=by
 unfold j1h w4w
 refine Qj hD (by decide) fun n a n0 n1 hD=> ?_
 refine Lp3.ind (fun l i a=>DS list a/\0<=i/\i<=3/\(l.length:Int)=i/\ ∀s∈l,s.size<=5) (fun _ i _=>(3 - i).toNat) ?_ ⟨hD,by decide,by decide,rfl,by simp⟩
 rintro l i a ⟨hD,i0,i3,hl,hs⟩
 refine Qj hD (by decide) fun r a r0 r1 hD=>Cnd.mk (fun hc=> ?_) (fun hc=> ?_)
 ·have:=j0q (Go.IntKind.i32.wrap ((48:Int)+(n+i).tmod 10));have e:(B8 [107]).size=1:=rfl
  have m0:=Int.tmod_nonneg 10 (show 0<=n+i by omega);have m1:=Int.tmod_lt_of_pos (n+i) (b:=10) (by decide)
  refine⟨by unfold InI;omega,by decide,by unfold InI;omega,by omega,by unfold Sml;simp;omega,by unfold InI;omega,⟨hD,by omega,by omega,by simp;omega,fun s hm=> ?_⟩,by omega⟩
  rcases List.mem_append.1 hm with hm|hm
  ·exact hs s hm
  ·rw[List.mem_singleton.1 hm];exact sz_k _
 ·refine Lp2.ind (fun (i:Int) (m:List ByteArray)=>m=l/\1<=i/\i<=1+l.length) (fun (i:Int) _=>(1+l.length - i).toNat) ?_ ⟨rfl,by decide,by omega⟩
  rintro i m ⟨rfl,i0,i1⟩ _
  refine Cnd.mk (fun hc=>⟨by omega,fun y hy=>⟨by unfold InI;omega,by omega,fun z hz=>Cnd.mk (fun _=>⟨by unfold InI;omega,⟨rfl,by omega,by omega⟩,by omega⟩) (fun _=>⟨by omega,h _ _ (by simp;omega) (fun s hm=>hs s (List.mem_of_mem_take hm)) hD⟩)⟩⟩) (fun _=>h _ _ (by omega) hs hD)
theorem sz0:(ByteArray.mk (Array.mk ([]:List UInt8))).size<=100:=by decide
structure ValS(v:Val):Prop where
 num:InI v.number
 txt:v.text.size<=100
 len:v.list.length<=10
 txs: ∀s∈v.list,s.size<=100
theorem q7n{list:List Int}{at_ kind:Int}{K:Val->Int->Prop}(hD:DS list at_)(h: ∀r a,ValS r->DS list a->K r a):Bi list at_ kind K:=by
 unfold Bi j1i
 have tt: ∀s∈j1g,s.size<=100:=by decide
 have tv: ∀s∈z4z,s.size<=100:=by decide
 have tl: ∀l∈j8x,l.length<=10/\ ∀s∈l,s.size<=100:=by decide
 refine Cnd.mk (fun _=> ?_) fun _=>Cnd.mk (fun _=>fun _=> ?_) fun _=>Cnd.mk (fun _=> ?_) fun _=>Cnd.mk (fun _=> ?_) fun _=> ?_
 ·exact Qj hD (by decide) fun r a r0 r1 hD=>h _ _ ⟨by unfold InI;simp only;omega,sz0,by simp,by simp⟩ hD
 ·refine Qj hD (by decide) fun r a r0 r1 hD=>⟨⟨r0,r1⟩,fun y hy=>h _ _ ⟨?_,sz0,by simp,by simp⟩ hD⟩
  have:=getm hy
  have k: ∀y∈[(0:Int),(1:Int),(17:Int),(18:Int),(19:Int),(-5:Int),(64:Int),(1099511627776:Int),(-1099511627776:Int)], -9223372036854775808<=y/\y<=9223372036854775807:=by decide
  exact k y this
 ·exact z1u hD fun r a hr hD=>h _ _ ⟨by unfold InI;simp,tt _ hr,by simp,by simp⟩ hD
 ·exact Qj hD (by decide) fun r a r0 r1 hD=>⟨⟨r0,r1⟩,fun y hy=>h _ _ ⟨by unfold InI;simp,tv _ (getm hy),by simp,by simp⟩ hD⟩
 ·refine Qj hD (by decide) fun r a r0 r1 hD=>⟨⟨r0,r1⟩,fun y hy=> ?_⟩
  obtain⟨a1,a2⟩:=tl _ (getm hy)
  exact⟨by unfold Sml;simp;omega,h _ _ ⟨by unfold InI;simp,sz0,by simpa using a1,by simpa using a2⟩ hD⟩
structure VsS(l:List Val):Prop where
 len:l.length<=4
 all: ∀v∈l,ValS v
theorem VsS.nil:VsS []:=⟨by simp,by simp⟩
theorem VsS.one{v:Val}(h:ValS v):VsS [v]:=⟨by simp,by simpa using h⟩
def ExS:Nat->Ex->Prop
 |0,e=>VsS e.values/\(e.name.size<=100/\e.kind.size<=100)/\(InI e.op/\(2<=e.op->e.op<=4->e.kids≠[]))/\e.kids=[]
 |n+1,e=>VsS e.values/\(e.name.size<=100/\e.kind.size<=100)/\(InI e.op/\(2<=e.op->e.op<=4->e.kids≠[]))/\e.kids.length<=3/\ ∀k∈e.kids,ExS n k
theorem ExS.up: ∀{n:Nat} {e:Ex},ExS n e->ExS (n+1) e
 |0,e,h=>⟨h.1,h.2.1,h.2.2.1,by rw[h.2.2.2];simp,by rw[h.2.2.2];simp⟩
 |n+1,e,h=>⟨h.1,h.2.1,h.2.2.1,h.2.2.2.1,fun k hk=>(h.2.2.2.2 k hk).up⟩
theorem ExS.le{n m:Nat}{e:Ex}(h:ExS n e)(hm:n<=m):ExS m e:=by
 induction hm with
 |refl=>exact h
 |step _ ih=>exact ih.up
theorem ExS.kids{n:Nat}{e:Ex}(h:ExS n e):e.kids.length<=3:=by
 cases n with
 |zero=>rw[h.2.2.2];simp
 |succ n=>exact h.2.2.2.1
theorem ExS.kid{n:Nat}{e k:Ex}(h:ExS n e)(hk:k∈e.kids): ∃m,m+1=n/\ExS m k:=by
 cases n with
 |zero=>rw[h.2.2.2] at hk;simp at hk
 |succ n=>exact⟨n,rfl,h.2.2.2.2 k hk⟩
theorem ExS.vals{n:Nat}{e:Ex}(h:ExS n e):VsS e.values:=by cases n<;>exact h.1
theorem ExS.nm{n:Nat}{e:Ex}(h:ExS n e):e.name.size<=100:=by cases n<;>exact h.2.1.1
theorem ExS.kd{n:Nat}{e:Ex}(h:ExS n e):e.kind.size<=100:=by cases n<;>exact h.2.1.2
theorem ExS.opK{n:Nat}{e:Ex}(h:ExS n e):2<=e.op->e.op<=4->e.kids≠[]:=by cases n<;>exact h.2.2.1.2
def OpL(op:Int):Prop:=InI op/\ ¬(2<=op/\op<=4)
theorem OpL.ok{op:Int}(h:OpL op){l:List Ex}:InI op/\(2<=op->op<=4->l≠[]):=⟨h.1,fun a b=>absurd ⟨a,b⟩ h.2⟩
theorem opl{op:Int}(h:(6<=op/\op<=100)∨op=0∨op=1∨op=5){l:List Ex}:InI op/\(2<=op->op<=4->l≠[]):=⟨by unfold InI;omega,fun a b=>by omega⟩
theorem q2w{K:List Decl->Prop}(h: ∀l,l.length=8->(∀d∈l,d.kind.size<=100/\d.name.size<=100/\1<=d.type/\d.type<=5)->K l):Ux K:=by
 unfold Ux
 exact h _ rfl (by decide)
theorem w8z{list:List Int}{at_:Int}{K:Ex->Int->Prop}(hD:DS list at_)(h: ∀r a,ExS 0 r->6<=r.op->DS list a->K r a):z68 list at_ K:=by
 unfold z68 w4x
 refine q2w fun l hl hd _=>⟨by unfold InI;omega,Qj hD (by omega) fun r a r0 r1 hD _=>Cnd.mk (fun _=> ?_) fun hc=>⟨by omega,fun y hy=> ?_⟩⟩
 ·exact v3t hD fun s a hs hD=>h _ _ ⟨.one ⟨by unfold InI;simp,by show s.size<=100;omega,by simp,by simp⟩,⟨(by decide:(ByteArray.mk (Array.mk [107,101,121])).size<=100),(by decide:(ByteArray.mk (Array.mk [117,115,101,114])).size<=100)⟩,opl (by simp),rfl⟩ (by simp) hD
 obtain⟨hy0,hy1,hy2,hy3⟩:=hd y (getm hy)
 have one: ∀{op:Int} {v:Val},OpL op->ValS v->ExS 0 (Ex.mk op y.kind y.name [v] []):=fun ho hv=>⟨.one hv,⟨hy1,hy0⟩,ho.ok,rfl⟩
 refine Jn1.mk (fun x=>(∃b,x=(b,y.kind,y.name,([]:List Val),([]:List Ex),x.2.2.2.2.2.1,0,ByteArray.mk (Array.mk []),ByteArray.mk (Array.mk []),[],[],()))/\DS list x.2.2.2.2.2.1) ?_ ?_
 case refine_2=>
  rintro x ⟨⟨b,hx⟩,hD⟩
  refine q7n hD fun v a hv hD=>h _ _ ?_ (by simp) hD
  rw[hx]
  exact one ⟨by unfold InI;simp,by decide⟩ hv
 refine Qj hD (by decide) fun q a q0 q1 hD=> ?_
 refine Jn1.mk (fun x=>(∃b,x=(x.1,b,y.kind,y.name,([]:List Val),([]:List Ex),0,ByteArray.mk (Array.mk []),ByteArray.mk (Array.mk []),[],[],()))/\DS list x.1) ?_ ?_
 case refine_2=>
  rintro x ⟨⟨b,hx⟩,hD⟩
  have cmp:We list x.1 4 fun r a=>InI (12+r)/\Bi list a y.3 fun v a=>K (Ex.mk (12+r) x.2.2.1 x.2.2.2.1 [v] x.2.2.2.2.2.1) a:=by
   refine Qj hD (by decide) fun r a r0 r1 hD=>⟨by unfold InI;omega,q7n hD fun v a hv hD=>h _ _ ?_ (by simp only;omega) hD⟩
   rw[hx]
   exact one ⟨by unfold InI;omega,by omega⟩ hv
  refine Cnd.mk (fun _=>cmp) fun _=>Cnd.mk (fun _=>cmp) fun _=>Cnd.mk (fun _=>cmp) fun _=> ?_
  refine⟨⟨b,?_⟩,hD⟩
  rw[hx]
 have nx: ∀{a:Int},DS list a->(fun x:Int×ByteArray×ByteArray×List Val×List Ex×Int×Int×ByteArray×ByteArray×List Val×List Ex×Unit=>(∃b,x=(b,y.kind,y.name,([]:List Val),([]:List Ex),x.2.2.2.2.2.1,0,ByteArray.mk (Array.mk []),ByteArray.mk (Array.mk []),[],[],()))/\DS list x.2.2.2.2.2.1) ((0:Int),y.1,y.2,[],[],a,(0:Int),ByteArray.mk (Array.mk []),ByteArray.mk (Array.mk []),[],[],()):=fun hD=>⟨⟨0,rfl⟩,hD⟩
 refine Cnd.mk (fun _=>h _ _ ⟨.nil,⟨hy1,hy0⟩,opl (by simp),rfl⟩ (by simp) hD) fun _=>Cnd.mk (fun _=> ?_) fun _=>Cnd.mk (fun _=> ?_) fun _=>Cnd.mk (fun _=> ?_) fun _=>Cnd.mk (fun _=> ?_) fun _=>nx hD
 ·refine Cnd.mk (fun _=>nx hD) fun _=> ?_
  refine Lp3.ind (fun i l a=>DS list a/\0<=i/\i<=3/\(l.length:Int)=i/\ ∀v∈l,ValS v) (fun i _ _=>(3 - i).toNat) ?_ ⟨hD,by decide,by decide,rfl,by simp⟩
  rintro i l a ⟨hD,i0,i3,hl,hv⟩
  refine Qj hD (by decide) fun r a r0 r1 hD=>Cnd.mk (fun hc=>q7n hD fun v a hv' hD=>⟨by unfold Sml;simp;omega,by unfold InI;omega,⟨hD,by omega,by omega,by simp;omega,fun u hu=> ?_⟩,by omega⟩) (fun hc=>h _ _ ⟨⟨by simp only;omega,hv⟩,⟨hy1,hy0⟩,opl (by simp),rfl⟩ (by simp) hD)
  rcases List.mem_append.1 hu with hu|hu
  ·exact hv u hu
  ·rw[List.mem_singleton.1 hu];exact hv'
 ·have c:Bi list a 3 fun v a=>K (Ex.mk 11 y.1 y.2 [v] []) a:=q7n hD fun v a hv hD=>h _ _ (one ⟨by unfold InI;simp,by decide⟩ hv) (by simp) hD
  exact Cnd.mk (fun _=>c) fun _=>Cnd.mk (fun _=>c) fun _=>nx hD
 ·exact Cnd.mk (fun _=>Qj hD (by decide) fun r a r0 r1 hD=>⟨by unfold InI;omega,q7n hD fun v a hv hD=>h _ _ (one ⟨by unfold InI;omega,by omega⟩ hv) (by simp only;omega) hD⟩) fun _=>⟨⟨0,rfl⟩,hD⟩
 ·exact⟨⟨0,rfl⟩,hD⟩
theorem ExS.eta{n:Nat}{e:Ex}(h:ExS n e):ExS n (Ex.mk e.op e.kind e.name e.values e.kids):=by cases e;exact h
theorem u0c{n:Nat}{e:Ex}(h:ExS n e){k m:ByteArray}(hm:m.size<=100)(hk:k.size<=100):ExS (n+1) (Ex.mk 4 k m [] [e]):=⟨.nil,⟨hm,hk⟩,⟨InI.mk (by simp) (by simp),fun _ _=>by simp⟩,by simp,by simpa using h⟩
structure SegS(g:Seg):Prop where
 key:g.key.size<=100
 kind:g.kind.size<=100
 incl:g.incl.length<=3
 excl:g.excl.length<=3
 cond:ExS 4 g.cond
theorem Jw{α:Type}{P:α->Prop}{l:List α}{x:α}(h: ∀y∈l,P y)(hx:P x): ∀y∈l++[x],P y:=fun y hy=>by
 rcases List.mem_append.1 hy with hy|hy
 ·exact h y hy
 ·rw[List.mem_singleton.1 hy];exact hx
theorem z4k{v:Envt}{K:List ByteArray->Prop}(hl:v.segments.length<=1000)(h:K (v.segments.map Seg.key)):q1e v K:=by
 unfold q1e
 refine Lp2.ind (fun (l:List ByteArray) (i:Int)=>0<=i/\i<=v.segments.length/\l=(v.segments.take i.toNat).map Seg.key) (fun _ (i:Int)=>(v.segments.length - i).toNat) ?_ ⟨Int.le_refl 0,by omega,by simp⟩
 rintro l i ⟨i0,i1,rfl⟩ _
 refine Cnd.mk (fun hc=>⟨by omega,fun y hy=>⟨by unfold Sml;simp;omega,by unfold InI;omega,⟨by omega,by omega,?_⟩,by omega⟩⟩) fun hc=> ?_
 ·rw[show (i+1).toNat=i.toNat+1 by omega,List.take_add_one,hy];simp
 ·rw[List.take_of_length_le (by omega)];exact h
def SplS(n:Int)(l:List Rng):Prop:=l.length<=4/\ ∀r∈l,0<=r.lo/\r.hi<=10000/\1<=r.variation/\r.variation<=n
structure SrvS(n:Int)(s:Srv):Prop where
 kind:s.kind.size<=100
 var:0<=s.variation/\s.variation<=n
 split:SplS n s.split
 by_:s.by_.size<=100
 salt:s.salt.size<=100
structure LayS(l:Lay_):Prop where
 key:l.key.size<=100
 kind:l.kind.size<=100
 salt:l.salt.size<=100
 hold:0<=l.holdout/\l.holdout<=10000
 cool:0<=l.cool/\l.cool<=100
theorem v5u{list:List Int}{at_:Int}{key:ByteArray}{K:Lay_->Int->Prop}(hD:DS list at_)(hk:key.size<=100)(h: ∀l a,LayS l->l.key=key->DS list a->K l a):j1p list at_ key K:=by
 unfold j1p j82
 have tt: ∀s∈j1g,s.size<=100:=by decide
 refine z1u hD fun t a ht hD=>Qj hD (by decide) fun c a c0 c1 hD=>⟨by unfold InI;omega,?_⟩
 refine Jn2.mk (fun k a=>k.size<=100/\DS list a) (Qj hD (by decide) fun r a r0 r1 hD=>Cnd.mk (fun _=>⟨by decide,hD⟩) fun _=>⟨by decide,hD⟩) fun kind a hx=> ?_
 obtain⟨hkd,hD⟩:=hx
 refine Jn2.mk (fun x a=>DS list a/\0<=x/\x<=10000) (Qj hD (by decide) fun r a r0 r1 hD=>Cnd.mk (fun _=>q5h hD (by decide) fun w a w0 w1 hD=>⟨hD,by omega,by omega⟩) fun _=>⟨hD,by omega,by omega⟩) fun hold a hx=> ?_
 obtain⟨hD,x0,x1⟩:=hx
 have ok: ∀{cs:List Col},LayS (Lay_.mk key kind t hold (c*50) cs):=⟨hk,hkd,tt _ ht,⟨x0,x1⟩,⟨by simp only;omega,by simp only;omega⟩⟩
 refine Lp4.ind (fun at_ i cs a=>DS list a/\0<=i/\i<=2/\(cs.length:Int)=i/\0<=at_/\at_<=10000/\ ∀c∈cs,0<=c.lo/\c.hi<=10000/\0<=c.until_/\c.until_<=200) (fun _ i _ _=>(2 - i).toNat) ?_ ⟨hD,by omega,by omega,rfl,by omega,by omega,by simp⟩
 rintro at_ i cs a ⟨hD,i0,i1,hl,a0,a1,hc⟩
 refine Qj hD (by decide) fun q a q0 q1 hD=>Cnd.mk (fun _=>q5h hD (by decide) fun w a w0 w1 hD=>⟨by unfold InI;omega,by unfold InI;omega,q5h hD (by decide) fun w' a w0' w1' hD=>⟨by unfold InI;omega,Cnd.mk (fun _=>h _ _ ok rfl hD) fun _=> ?_⟩⟩) fun _=>h _ _ ok rfl hD
 refine Qj hD (by decide) fun u a u0 u1 hD=>⟨by unfold Sml;simp;omega,by unfold InI;omega,⟨hD,by omega,by omega,by simp;omega,by omega,by omega,Jw hc ⟨by simp only;omega,by simp only;omega,by simp only;omega,by simp only;omega⟩⟩,by omega⟩
structure SpsS(l:List Spn):Prop where
 len:l.length<=10000
 all: ∀s∈l,0<=s.lo/\s.lo<s.hi/\s.hi<=10000
structure RulS(n:Int)(r:Rul):Prop where
 name:r.name.size<=100
 cond:ExS 4 r.cond
 serve:SrvS n r.serve
structure FlgS(f:Flg):Prop where
 key:f.key.size<=100
 vlen:1<=f.variations.length/\f.variations.length<=4
 vals: ∀v∈f.variations,ValS v
 nlen:f.needs.length<=4
 needs: ∀q∈f.needs,q.flag.size<=100
 tlen:f.targets.length<=3
 tgts: ∀t∈f.targets,t.kind.size<=100
 rlen:f.rules.length<=4
 rules: ∀r∈f.rules,RulS f.variations.length r
 dflt:SrvS f.variations.length f.dflt
structure ExpS(x:Exper):Prop where
 key:x.key.size<=100
 layer:x.layer.size<=100
 flag:x.flag.size<=100
 claims:SpsS x.claims
 arms:SplS 4 x.arms
 cond:ExS 4 x.cond
structure EnvS(v:Envt):Prop where
 hkind:v.settings.holdoutKind.size<=100
 attrs: ∀d∈v.attributes,d.kind.size<=100/\d.name.size<=100
 slen:v.segments.length<=3
 segs: ∀g∈v.segments,SegS g
 flen:v.flags.length<=4
 flags: ∀f∈v.flags,FlgS f
 llen:v.layers.length<=2
 layers: ∀l∈v.layers,LayS l
 xlen:v.experiments.length<=3
 exps: ∀x∈v.experiments,ExpS x
end Go.En
end
noncomputable section
set_option maxRecDepth 100000
namespace Go.En
open Go Go.Fl Go.Fl.Lk Go.Fx
abbrev S4:=Int×Int×Int×Int
def w64(x:Int):Int:=Go.IntKind.u64.wrap x
def xr(a b:Int):Int:=Go.IntKind.u64.wrap ((BitVec.ofInt 64 a ^^^ BitVec.ofInt 64 b).toNat:Int)
def rot(x n:Int):Int:=Go.IntKind.u64.wrap ((BitVec.ofInt 64 (Go.IntKind.u64.wrap (x*2 ^ Min.min n.toNat 64))|||BitVec.ofInt 64 (x.fdiv (2 ^ Min.min (Go.IntKind.u64.wrap (64 - n)).toNat 64))).toNat:Int)
def rnd(s:S4):S4:=
  (w64 (rot (w64 (s.1+s.2.1)) 32+xr (rot s.2.2.2 16) (w64 (s.2.2.1+s.2.2.2))),
   xr (rot (xr (rot s.2.1 13) (w64 (s.1+s.2.1))) 17) (w64 (w64 (s.2.2.1+s.2.2.2)+xr (rot s.2.1 13) (w64 (s.1+s.2.1)))),
   rot (w64 (w64 (s.2.2.1+s.2.2.2)+xr (rot s.2.1 13) (w64 (s.1+s.2.1)))) 32,
   xr (rot (xr (rot s.2.2.2 16) (w64 (s.2.2.1+s.2.2.2))) 21) (w64 (rot (w64 (s.1+s.2.1)) 32+xr (rot s.2.2.2 16) (w64 (s.2.2.1+s.2.2.2)))))
def rn:Nat->S4->S4
  |0,s=>s
  |k+1,s=>rnd (rn k s)
def tm(y:Int)(k:Nat):BitVec 64:=BitVec.ofInt 64 (Go.IntKind.u64.wrap (Go.IntKind.u64.wrap y*2 ^ Min.min (8*k) 64))
def wv(b:List Int)(o:Nat)(v:BitVec 64):Nat->BitVec 64
  |0=>v
  |k+1=>wv b o v k|||tm (b.getD (o+k) 0) k
def s0(k0 k1:Int):S4:=(xr k0 8317987319222330741,xr k1 7237128888997146477,xr k0 7816392313619706465,xr k1 8387220255154660723)
def topV(n:Nat):BitVec 64:=BitVec.ofInt 64 (Go.IntKind.u64.wrap (Go.IntKind.u64.wrap (n:Int)*2 ^ Min.min (Int.toNat 56) 64))
def y3n(b:List Int):BitVec 64:=wv b (8*(b.length / 8)) 0 (b.length % 8)|||topV b.length
theorem w0l(x:Int):Go.IntKind.u64.wrap x=x % 18446744073709551616:=rfl
theorem y7i(x:Int):Go.IntKind.u64.wrap x=((BitVec.ofInt 64 (Go.IntKind.u64.wrap x)).toNat:Int):=by
  rw[BitVec.toNat_ofInt,w0l]
  omega
theorem j2w{n:Nat}(h:n<18446744073709551616):Go.IntKind.u64.wrap (n:Int)=n:=by
  show (n:Int) % 18446744073709551616=n
  omega
theorem v9v(v:BitVec 64):BitVec.ofInt 64 ((v.toNat:Nat):Int)=v:=by simp
theorem y3o(v t:BitVec 64):Go.IntKind.u64.wrap ((BitVec.ofInt 64 ((v.toNat:Nat):Int)|||t).toNat:Int)=((v|||t).toNat:Int):=by
  rw[v9v];exact j2w (v|||t).isLt
theorem j42{x k:Int}{K:Int->Prop}(hk:k=13∨k=16∨k=17∨k=21∨k=32)(h:K (rot x k)):Ge x k K:=by
  have e:Go.IntKind.u64.wrap (↑(BitVec.ofInt 64 (Go.IntKind.u64.wrap k) &&& BitVec.ofInt 64 63).toNat:Int)=k:=by rcases hk with rfl|rfl|rfl|rfl|rfl<;>decide
  have e2:0<=Go.IntKind.u64.wrap (64 - k):=by rcases hk with rfl|rfl|rfl|rfl|rfl<;>decide
  unfold Ge
  rw[e]
  exact⟨by omega,e2,h⟩
theorem z7y{x k:Int}{K:Int->Prop}(hk:k=13∨k=16∨k=17∨k=21∨k=32)(h:K (rot x k)):z25 x k K:=by
  have e2:0<=Go.IntKind.u64.wrap (64 - k):=by rcases hk with rfl|rfl|rfl|rfl|rfl<;>decide
  unfold z25
  exact⟨by omega,e2,h⟩
theorem v9w(s:S4)(i:Int)(h:0<=i):rnd (rn i.toNat s)=rn (i+1).toNat s:=by
  rw[show (i+1).toNat=i.toNat+1 by omega];rfl
theorem v5v{a b c d n:Int}{q:Nat}{K:Int->Int->Int->Int->Prop}(hn:n=(q:Int))(h1:q<=1000)(h:K (rn q (a,b,c,d)).1 (rn q (a,b,c,d)).2.1 (rn q (a,b,c,d)).2.2.1 (rn q (a,b,c,d)).2.2.2):Zs a b c d n K:=by
  subst hn
  unfold Zs R9
  refine Lp5.ind (fun i a' b' c' d'=>0<=i/\i<=(q:Int)/\(a',b',c',d')=rn i.toNat (a,b,c,d)) (fun i _ _ _ _=>((q:Int) - i).toNat) ?_ ⟨Int.le_refl 0,by omega,rfl⟩
  rintro i a' b' c' d' ⟨i0,i1,hs⟩
  refine Cnd.mk (fun hc=>j42 (by simp) (j42 (by simp) (j42 (by simp) (j42 (by simp) (j42 (by simp) (j42 (by simp) ⟨by unfold InI;omega,⟨by omega,by omega,?_⟩,by omega⟩)))))) fun hc=> ?_
  · rw[←v9w _ _ i0,←hs];simp only[rnd,w64,xr]
  · rw[show q=i.toNat by omega,←hs] at h;exact h
theorem w80{v:Sip}{n:Int}{q:Nat}{K:Sip->Prop}(hn:n=(q:Int))(h1:q<=1000)(h:K (Sip.mk (rn q (v.1,v.2,v.3,v.4)).1 (rn q (v.1,v.2,v.3,v.4)).2.1 (rn q (v.1,v.2,v.3,v.4)).2.2.1 (rn q (v.1,v.2,v.3,v.4)).2.2.2)):Je v n K:=by
  subst hn
  unfold Je q5y
  refine Lp5.ind (fun i a' b' c' d'=>0<=i/\i<=(q:Int)/\(a',b',c',d')=rn i.toNat (v.1,v.2,v.3,v.4)) (fun i _ _ _ _=>((q:Int) - i).toNat) ?_ ⟨Int.le_refl 0,by omega,rfl⟩
  rintro i a' b' c' d' ⟨i0,i1,hs⟩
  refine Cnd.mk (fun hc=>z7y (by simp) (z7y (by simp) (z7y (by simp) (z7y (by simp) (z7y (by simp) (z7y (by simp) ⟨by unfold InI;omega,⟨by omega,by omega,?_⟩,by omega⟩)))))) fun hc=> ?_
  · rw[←v9w _ _ i0,←hs];simp only[rnd,w64,xr]
  · rw[show q=i.toNat by omega,←hs] at h;exact h
theorem exR: ∃R:Nat->S4->S4,(∀(a b c d n:Int) (q:Nat) (K:Int->Int->Int->Int->Prop),n=(q:Int)->q<=1000->K (R q (a,b,c,d)).1 (R q (a,b,c,d)).2.1 (R q (a,b,c,d)).2.2.1 (R q (a,b,c,d)).2.2.2->Zs a b c d n K)/\
    ∀(v:Sip) (n:Int) (q:Nat) (K:Sip->Prop),n=(q:Int)->q<=1000->K (Sip.mk (R q (v.1,v.2,v.3,v.4)).1 (R q (v.1,v.2,v.3,v.4)).2.1 (R q (v.1,v.2,v.3,v.4)).2.2.1 (R q (v.1,v.2,v.3,v.4)).2.2.2)->Je v n K:=
  ⟨rn,fun _ _ _ _ _ _ _ hn hq h=>v5v hn hq h,fun _ _ _ _ hn hq h=>w80 hn hq h⟩
def RR:Nat->S4->S4:=Classical.choose exR
theorem w81{a b c d n:Int}{q:Nat}{K:Int->Int->Int->Int->Prop}(hn:n=(q:Int))(h1:q<=1000)(h:K (RR q (a,b,c,d)).1 (RR q (a,b,c,d)).2.1 (RR q (a,b,c,d)).2.2.1 (RR q (a,b,c,d)).2.2.2):Zs a b c d n K:=(Classical.choose_spec exR).1 a b c d n q K hn h1 h
theorem w0m{v:Sip}{n:Int}{q:Nat}{K:Sip->Prop}(hn:n=(q:Int))(h1:q<=1000)(h:K (Sip.mk (RR q (v.1,v.2,v.3,v.4)).1 (RR q (v.1,v.2,v.3,v.4)).2.1 (RR q (v.1,v.2,v.3,v.4)).2.2.1 (RR q (v.1,v.2,v.3,v.4)).2.2.2)):Je v n K:=(Classical.choose_spec exR).2 v n q K hn h1 h
def wds(s:S4)(m:Int):S4:=(xr (RR 2 (s.1,s.2.1,s.2.2.1,xr s.2.2.2 m)).1 m,(RR 2 (s.1,s.2.1,s.2.2.1,xr s.2.2.2 m)).2)
def blks(b:List Int)(k0 k1:Int):Nat->S4
  |0=>s0 k0 k1
  |i+1=>wds (blks b k0 k1 i) ((wv b (8*i) 0 8).toNat:Int)
def fin4(s:S4):S4:=RR 4 (s.1,s.2.1,xr s.2.2.1 255,s.2.2.2)
def endV(s:S4):Int:=xr (xr (xr (fin4 s).1 (fin4 s).2.1) (fin4 s).2.2.1) (fin4 s).2.2.2
def sumV(k0 k1:Int)(b:List Int):Int:=
  endV (wds (blks b k0 k1 (b.length / 8)) ((y3n b).toNat:Int))
theorem v9x{a b c d m:Int}{K:Int->Int->Int->Int->Prop}(h:K (wds (a,b,c,d) m).1 (wds (a,b,c,d) m).2.1 (wds (a,b,c,d) m).2.2.1 (wds (a,b,c,d) m).2.2.2):Hj a b c d m K:=by
  unfold Hj q2b
  simp only[wds,xr] at h
  exact w81 (q:=2) rfl (by decide) h
theorem y7j{s:S4}{K:Int->Prop}(h:K (endV s)):Zs s.1 s.2.1 (Go.IntKind.u64.wrap (↑(BitVec.ofInt 64 s.2.2.1 ^^^ BitVec.ofInt 64 255).toNat:Int)) s.2.2.2 4 fun Zp q95 w39 w6s=>K (Go.IntKind.u64.wrap (↑(BitVec.ofInt 64 (Go.IntKind.u64.wrap (↑(BitVec.ofInt 64 (Go.IntKind.u64.wrap (↑(BitVec.ofInt 64 Zp ^^^ BitVec.ofInt 64 q95).toNat:Int)) ^^^ BitVec.ofInt 64 w39).toNat:Int)) ^^^ BitVec.ofInt 64 w6s).toNat:Int)):=by
  simp only[endV,fin4,xr] at h
  exact w81 (q:=4) rfl (by decide) h
theorem v9y{s:S4}{K:Int->Prop}(h:K (endV s)):Je (Sip.mk s.1 s.2.1 (Go.IntKind.u64.wrap (↑(BitVec.ofInt 64 s.2.2.1 ^^^ BitVec.ofInt 64 255).toNat:Int)) s.2.2.2) 4 fun x=>K (Go.IntKind.u64.wrap (↑(BitVec.ofInt 64 (Go.IntKind.u64.wrap (↑(BitVec.ofInt 64 (Go.IntKind.u64.wrap (↑(BitVec.ofInt 64 x.1 ^^^ BitVec.ofInt 64 x.2).toNat:Int)) ^^^ BitVec.ofInt 64 x.3).toNat:Int)) ^^^ BitVec.ofInt 64 x.4).toNat:Int)):=by
  simp only[endV,fin4,xr] at h
  exact w0m (q:=4) rfl (by decide) h
theorem v9z{a b c d m:Int}{K:Sip->Prop}(h: ∀x:Sip,(Go.IntKind.u64.wrap (↑(BitVec.ofInt 64 x.1 ^^^ BitVec.ofInt 64 m).toNat:Int),x.2,x.3,x.4)=wds (a,b,c,d) m->K x):Je (Sip.mk a b c (Go.IntKind.u64.wrap (↑(BitVec.ofInt 64 d ^^^ BitVec.ofInt 64 m).toNat:Int))) 2 K:=by
  refine w0m (q:=2) rfl (by decide) (h _ ?_)
  simp only[wds,xr]
theorem u0d(b:List Int)(o:Nat)(v:BitVec 64): ∀k,wv b o v k=wv b o 0 k|||v
  |0=>by simp[wv]
  |k+1=>by
    rw[wv,wv,u0d b o v k,BitVec.or_assoc,BitVec.or_comm v,←BitVec.or_assoc]
theorem v1q{b:List Int}{o k:Nat}{v:BitVec 64}{y:Int}(hy:b[o+k]? =some y):wv b o v (k+1)=wv b o v k|||tm y k:=by
  rw[wv,List.getD_eq_getElem?_getD,hy];rfl
theorem y7k(n:Nat):topV n=BitVec.ofInt 64 (Go.IntKind.u64.wrap (Go.IntKind.u64.wrap ((n:Int).tmod 256)*2 ^ Min.min (Int.toNat 56) 64)):=by
  have e:(2:Int) ^ Min.min (Int.toNat 56) 64=72057594037927936:=by decide
  have h2:Go.IntKind.u64.wrap (Go.IntKind.u64.wrap (n:Int)*72057594037927936)=Go.IntKind.u64.wrap (Go.IntKind.u64.wrap ((n:Int).tmod 256)*72057594037927936):=by
    rw[w0l,w0l,w0l,w0l,Int.tmod_eq_emod_of_nonneg (by omega)]
    omega
  unfold topV
  rw[e,h2]
theorem w56{k0 k1:Int}{b:List Int}{K:Int->Prop}(hb:b.length<=1099511627776)(h:K (sumV k0 k1 b)):q9p k0 k1 b K:=by
  unfold q9p z5j
  refine fun _=>⟨by decide,?_⟩
  refine Lp5.ind (fun i a' b' c' d'=> ∃j:Nat,i=8*(j:Int)/\8*j<=b.length/\(a',b',c',d')=blks b k0 k1 j) (fun i _ _ _ _=>(b.length - i).toNat) ?_ ⟨0,rfl,by omega,rfl⟩
  rintro i a' b' c' d' ⟨j,rfl,hj,hs⟩
  refine⟨by unfold InI;omega,fun _=>Cnd.mk (fun hc=> ?_) fun hc=> ?_⟩
  · refine Lp2.ind (fun v k=> ∃q:Nat,k=(q:Int)/\q<=8/\v=((wv b (8*j) 0 q).toNat:Int)) (fun _ k=>(8 - k).toNat) ?_ ⟨0,rfl,by omega,rfl⟩
    rintro v k ⟨q,rfl,hq,rfl⟩
    refine Cnd.mk (fun hk=>⟨by unfold InI;omega,⟨by omega,by omega⟩,fun y hy=>⟨by unfold InI;omega,by omega,by unfold InI;omega,⟨q+1,by omega,by omega,?_⟩,by omega⟩⟩) fun hk=> ?_
    · rw[show (8*(j:Int)+q).toNat=8*j+q by omega] at hy
      rw[v1q hy,show (8*(q:Int)).toNat=8*q by omega]
      exact y3o _ _
    · refine v9x ⟨by unfold InI;omega,⟨j+1,by omega,by omega,?_⟩,by omega⟩
      rw[hs,show q=8 by omega];rfl
  · refine fun _=>⟨by decide,?_⟩
    have hjl:j=b.length / 8:=by omega
    have hm:((b.length:Nat):Int).tmod 8=((b.length % 8:Nat):Int):=by rw[Int.tmod_eq_emod_of_nonneg (by omega)];omega
    rw[hm]
    refine Lp2.ind (fun v k=> ∃q:Nat,k=(q:Int)/\q<=b.length % 8/\v=((wv b (8*j) (topV b.length) q).toNat:Int)) (fun _ k=>(8 - k).toNat) ?_ ⟨0,rfl,by omega,by unfold wv topV;exact y7i _⟩
    rintro v k ⟨q,rfl,hq,rfl⟩
    refine Cnd.mk (fun hk _ _=>⟨by decide,by unfold InI;omega,by unfold InI;omega,⟨by omega,by omega⟩,fun y hy=>⟨by unfold InI;omega,by omega,by unfold InI;omega,⟨q+1,by omega,by omega,?_⟩,by omega⟩⟩) fun hk=> ?_
    · rw[show ((b.length:Int) - ((b.length % 8:Nat):Int)+q).toNat=8*j+q by omega] at hy
      rw[v1q hy,show (8*(q:Int)).toNat=8*q by omega]
      exact y3o _ _
    · refine v9x (y7j (s:=wds (a',b',c',d') _) ?_)
      rw[hs,show q=b.length % 8 by omega,u0d,hjl]
      exact h
theorem v90{k0 k1:Int}{b:List Int}{K:Int->Prop}(hb:b.length<=1099511627776)(h:K (sumV k0 k1 b)):j7m k0 k1 b K:=by
  unfold j7m w41
  have hd:((b.length:Nat):Int).tdiv 8=((b.length / 8:Nat):Int):=by rw[Int.tdiv_eq_ediv_of_nonneg (by omega)];omega
  rw[hd]
  refine Lp5.ind (fun i a' b' c' d'=> ∃j:Nat,i=(j:Int)/\j<=b.length / 8+1/\(j<=b.length / 8->(a',b',c',d')=blks b k0 k1 j)/\(j=b.length / 8+1->(a',b',c',d')=wds (blks b k0 k1 (b.length / 8)) ((y3n b).toNat:Int))) (fun i _ _ _ _=>(b.length / 8+1 - i).toNat) ?_ ⟨0,rfl,by omega,fun _=>rfl,fun h=>by omega⟩
  rintro i a' b' c' d' ⟨j,rfl,hj,hs,hf⟩
  refine fun _=>⟨by decide,by unfold InI;omega,Cnd.mk (fun hc=> ?_) fun hc=> ?_⟩
  · have hs:=hs (by omega)
    have done: ∀q:Nat,(q=8∨q=b.length % 8/\j=b.length / 8)->q<=8->(j<b.length / 8->q=8)->(j=b.length / 8->q=b.length % 8)->Jn1 (fun Qe=>Je (Sip.mk a' b' c' (Go.IntKind.u64.wrap (↑(BitVec.ofInt 64 d' ^^^ BitVec.ofInt 64 Qe).toNat:Int))) 2 fun Qm=>InI ((j:Int)+1)/\(∃j':Nat,(j:Int)+1=(j':Int)/\j'<=b.length / 8+1/\(j'<=b.length / 8->(Go.IntKind.u64.wrap (↑(BitVec.ofInt 64 Qm.1 ^^^ BitVec.ofInt 64 Qe).toNat:Int),Qm.2,Qm.3,Qm.4)=blks b k0 k1 j')/\(j'=b.length / 8+1->(Go.IntKind.u64.wrap (↑(BitVec.ofInt 64 Qm.1 ^^^ BitVec.ofInt 64 Qe).toNat:Int),Qm.2,Qm.3,Qm.4)=wds (blks b k0 k1 (b.length / 8)) ((y3n b).toNat:Int)))/\((b.length / 8:Nat)+1 - ((j:Int)+1)).toNat<((b.length / 8:Nat)+1 - (j:Int)).toNat) fun y5n=>b.length<=(9223372036854775807:Nat)->(8:Int)≠0/\InI ((b.length / 8:Nat):Int)/\Cnd ((j:Int)=((b.length / 8:Nat):Int)) (b.length<=(9223372036854775807:Nat)->(256:Int)≠0/\(0:Int)<=56/\y5n (Go.IntKind.u64.wrap (↑(BitVec.ofInt 64 ((wv b (8*j) 0 q).toNat:Int)|||BitVec.ofInt 64 (Go.IntKind.u64.wrap (Go.IntKind.u64.wrap ((b.length:Int).tmod 256)*2 ^ Min.min (Int.toNat 56) 64))).toNat:Int))) (y5n ((wv b (8*j) 0 q).toNat:Int)):=fun q _ hq h1 h2=>by
      refine Jn1.mk (fun x=>(j<b.length / 8->x=((wv b (8*j) 0 8).toNat:Int))/\(j=b.length / 8->x=((y3n b).toNat:Int))) (fun _=>⟨by decide,by unfold InI;omega,Cnd.mk (fun he=>fun _=>⟨by decide,by decide,fun _=>by omega,fun hjl=> ?_⟩) fun hne=>⟨fun hl=>by rw[h1 hl],fun he=>by omega⟩⟩) fun x hx=>v9z fun s hsw=>⟨by unfold InI;omega,⟨j+1,by omega,by omega,fun hl=> ?_,fun he=> ?_⟩,by omega⟩
      · rw[←y7k,y3o,h2 hjl,hjl];rfl
      · rw[hsw,hx.1 (by omega),blks,←hs]
      · rw[hsw,hx.2 (by omega),←show j=b.length / 8 by omega,←hs]
    refine Lp2.ind (fun v k=> ∃q:Nat,k=(q:Int)/\q<=8/\(j=b.length / 8->q<=b.length % 8)/\v=((wv b (8*j) 0 q).toNat:Int)) (fun _ k=>(8 - k).toNat) ?_ ⟨0,rfl,by omega,fun _=>by omega,rfl⟩
    rintro v k ⟨q,rfl,hq,hq2,rfl⟩
    refine Cnd.mk (fun hk=>⟨by unfold InI;omega,by unfold InI;omega,fun _=>Cnd.mk (fun hl=>⟨by unfold InI;omega,by unfold InI;omega,⟨by omega,by omega⟩,fun y hy=>⟨by unfold InI;omega,?_,by unfold InI;omega,⟨q+1,by omega,by omega,fun _=>by omega,?_⟩,by omega⟩⟩) fun hl=> ?_⟩) fun hk=> ?_
    · rw[show 8*(q:Int)=((8*q:Nat):Int) by omega,j2w (by omega)];omega
    · rw[show (8*(j:Int)+q).toNat=8*j+q by omega] at hy
      rw[v1q hy,show 8*(q:Int)=((8*q:Nat):Int) by omega,j2w (n:=8*q) (by omega),Int.toNat_natCast]
      exact y3o _ _
    · exact done q (by omega) hq (fun h=>by omega) (fun h=>by omega)
    · exact done q (by omega) hq (fun h=>by omega) (fun h=>by omega)
  · have hf:=hf (by omega)
    unfold sumV at h
    rw[←hf] at h
    exact v9y (s:=(a',b',c',d')) h
def fb(n k:Nat):Int:=Go.IntKind.u8.wrap ((Go.IntKind.u64.wrap (n:Int)).fdiv (2 ^ Min.min (8*k) 64))
def hdr(n:Nat)(j:Nat):List Int:=(List.range j).map fun i=>fb n (7 - i)
def frm(l:List (List Int)):List Int:=l.flatMap fun f=>hdr f.length 8++f
theorem v3u(n j:Nat):hdr n (j+1)=hdr n j++[fb n (7 - j)]:=by simp[hdr,List.range_succ]
theorem j0r(n j:Nat):(hdr n j).length=j:=by simp[hdr]
theorem j7t{l:List (List Int)}{i:Nat}{y:List Int}(hy:l[i]? =some y):frm (l.take (i+1))=frm (l.take i)++(hdr y.length 8++y):=by
  rw[List.take_add_one,hy];simp[frm]
theorem w0n(l:List (List Int))(i:Nat):(frm (l.take i)).length<=(frm l).length:=by
  have h:frm l=frm (l.take i)++frm (l.drop i):=by
    conv=>lhs;rw[←List.take_append_drop i l]
    exact List.flatMap_append
  rw[h,List.length_append];omega
theorem w0o{l:List (List Int)}{K:List Int->Prop}(hl:(frm l).length<=1000000000)(hn:l.length<=1000)(h:K (frm l)):q4j l K:=by
  unfold q4j
  refine fun _=>Lp2.ind (fun o i=> ∃j:Nat,i=(j:Int)/\j<=l.length/\o=frm (l.take j)) (fun _ i=>(l.length - i).toNat) ?_ ⟨0,rfl,by omega,rfl⟩
  rintro o i ⟨j,rfl,hj,rfl⟩
  refine Cnd.mk (fun hc=>⟨by omega,fun y hy=> ?_⟩) fun hc=> ?_
  · have hy:l[j]? =some y:=hy
    have hln:=w0n l (j+1)
    rw[j7t hy] at hln
    simp only[List.length_append,j0r] at hln
    refine Lp2.ind (fun o k=> ∃q:Nat,k=7 - (q:Int)/\q<=8/\o=frm (l.take j)++hdr y.length q) (fun _ k=>(k+1).toNat) ?_ ⟨0,rfl,by omega,by simp[hdr]⟩
    rintro o k ⟨q,rfl,hq,rfl⟩
    refine Cnd.mk (fun hk _=>⟨by unfold InI;omega,by omega,?_,by unfold InI;omega,⟨q+1,by omega,by omega,?_⟩,by omega⟩) fun hk=>⟨?_,by unfold InI;omega,⟨j+1,by omega,by omega,?_⟩,by omega⟩
    · unfold Sml;simp only[List.length_append,j0r,List.length_singleton];omega
    · rw[v3u,←List.append_assoc,show (8*(7 - (q:Int))).toNat=8*(7 - q) by omega];rfl
    · unfold Sml;simp only[List.length_append,j0r];omega
    · rw[j7t hy,show q=8 by omega,List.append_assoc]
  · rw[show j=l.length by omega,List.take_length];exact h
theorem v1r{l:List (List Int)}{K:List Int->Prop}(hl:(frm l).length<=1000000000)(hn:l.length<=1000)(h:K (frm l)):z7o l K:=by
  unfold z7o
  refine Lp2.ind (fun o i=> ∃j:Nat,i=(j:Int)/\j<=l.length/\o=frm (l.take j)) (fun _ i=>(l.length - i).toNat) ?_ ⟨0,rfl,by omega,rfl⟩
  rintro o i ⟨j,rfl,hj,rfl⟩
  refine fun _=>Cnd.mk (fun hc=>⟨by omega,fun y hy _=> ?_⟩) fun hc=> ?_
  · have hy:l[j]? =some y:=hy
    have hln:=w0n l (j+1)
    rw[j7t hy] at hln
    simp only[List.length_append,j0r] at hln
    refine Lp2.ind (fun o k=> ∃q:Nat,k=56 - 8*(q:Int)/\q<=8/\o=frm (l.take j)++hdr y.length q) (fun _ k=>(k+8).toNat) ?_ ⟨0,rfl,by omega,by simp[hdr]⟩
    rintro o k ⟨q,rfl,hq,rfl⟩
    refine Cnd.mk (fun hk=> ?_) fun hk=>⟨by omega,fun z hz=> ?_⟩
    · have e:56 - 8*(q:Int)=((8*(7 - q):Nat):Int):=by omega
      rw[e,j2w (by omega)]
      refine⟨by omega,?_,by unfold InI;omega,⟨q+1,by omega,by omega,?_⟩,by omega⟩
      · unfold Sml;simp only[List.length_append,j0r,List.length_singleton];omega
      · rw[v3u,←List.append_assoc,Int.toNat_natCast];rfl
    · have hz:l[j]? =some z:=hz
      rw[hy] at hz
      cases hz
      refine⟨?_,by unfold InI;omega,⟨j+1,by omega,by omega,?_⟩,by omega⟩
      · unfold Sml;simp only[List.length_append,j0r];omega
      · rw[j7t hy,show q=8 by omega,List.append_assoc]
  · rw[show j=l.length by omega,List.take_length];exact h
theorem v91(a b:Int):0<=xr a b/\xr a b<18446744073709551616:=by
  unfold xr
  rw[j2w (BitVec.isLt _)]
  have:=(BitVec.ofInt 64 a ^^^ BitVec.ofInt 64 b).isLt
  omega
def ofV0(salt key:ByteArray):Int:=(sumV 1 0 (frm [bytesOf salt,bytesOf key])).tmod 10000
theorem w57(salt key:ByteArray):0<=ofV0 salt key/\ofV0 salt key<10000:=by
  have h: ∀s,0<=endV s:=fun s=>(v91 _ _).1
  have h0:0<=sumV 1 0 (frm [bytesOf salt,bytesOf key]):=h _
  exact⟨Int.tmod_nonneg _ h0,Int.tmod_lt_of_pos _ (by decide)⟩
theorem v3v(a b:ByteArray):(frm [bytesOf a,bytesOf b]).length=a.size+b.size+16:=by
  have h: ∀a:ByteArray,(bytesOf a).length=a.size:=fun a=>by simp[bytesOf]
  simp only[frm,List.flatMap_cons,List.flatMap_nil,List.length_append,j0r,h,List.length_nil]
  omega
theorem w58{salt key:ByteArray}{K:Int->Prop}(hs:salt.size<=10000000)(hk:key.size<=10000000)(h:K (ofV0 salt key)):Gf salt key K:=by
  have hl:=v3v salt key
  have hr:=w57 salt key
  unfold Gf z9x
  refine⟨by unfold Sml;omega,by unfold Sml;omega,?_⟩
  show q6m 1 [bytesOf salt,bytesOf key] _
  unfold q6m z2v
  refine w0o (by omega) (by simp) (w56 (by omega) ⟨by decide,?_,h⟩)
  exact InI.mk (Int.le_trans (by decide) hr.1) (Int.le_trans (Int.le_of_lt hr.2) (by decide))
theorem v5w{salt key:ByteArray}{K:Int->Prop}(hs:salt.size<=10000000)(hk:key.size<=10000000)(h:K (ofV0 salt key)):z7p salt key K:=by
  have hl:=v3v salt key
  have hr:=w57 salt key
  unfold z7p w42
  refine⟨by unfold Sml;omega,by unfold Sml;omega,?_⟩
  show j11 1 [bytesOf salt,bytesOf key] _
  unfold j11 j89
  refine v1r (by omega) (by simp) (v90 (by omega) ⟨by decide,?_,h⟩)
  exact InI.mk (Int.le_trans (by decide) hr.1) (Int.le_trans (Int.le_of_lt hr.2) (by decide))
theorem exOf: ∃F:ByteArray->ByteArray->Int,(∀a b,0<=F a b/\F a b<10000)/\(∀(salt key:ByteArray) (K:Int->Prop),salt.size<=10000000->key.size<=10000000->K (F salt key)->Gf salt key K)/\
    ∀(salt key:ByteArray) (K:Int->Prop),salt.size<=10000000->key.size<=10000000->K (F salt key)->z7p salt key K:=
  ⟨ofV0,w57,fun _ _ _ h1 h2 h=>w58 h1 h2 h,fun _ _ _ h1 h2 h=>v5w h1 h2 h⟩
def ofV:ByteArray->ByteArray->Int:=Classical.choose exOf
theorem q5i{salt key:ByteArray}{K:Int->Prop}(hs:salt.size<=10000000)(hk:key.size<=10000000)(h:K (ofV salt key)):Gf salt key K:=(Classical.choose_spec exOf).2.1 salt key K hs hk h
theorem v92{salt key:ByteArray}{K:Int->Prop}(hs:salt.size<=10000000)(hk:key.size<=10000000)(h:K (ofV salt key)):z7p salt key K:=(Classical.choose_spec exOf).2.2 salt key K hs hk h
end Go.En
end
noncomputable section
set_option maxRecDepth 100000
namespace Go.En
open Go Go.Fl Go.Fl.Lk Go.Fx
theorem w3z{α:Type}{a b:List α}(hl:a.length=b.length){F:α->α->(Bool->Prop)->Prop}{K:Bool->Prop}(hF: ∀x∈a,∀y∈b,∀K:Bool->Prop,(∀r,(r=true↔x=y)->K r)->F x y K)(h: ∀r,(r=true↔a=b)->K r):
  Lp1 (fun i Y=>a.length<=9223372036854775807->Cnd (i<(a.length:Int)) ((0<=i/\i<(a.length:Int))/\ ∀x,a[i.toNat]? =some x->(0<=i/\i<(b.length:Int))/\ ∀y,b[i.toNat]? =some y->F x y fun r=>Cnd (r=true) (InI (i+1)/\Y (i+1)) (K false)) (K true)) 0:=by
 refine Lp1.ind (fun (i:Int)=>0<=i/\i<=a.length/\a.take i.toNat=b.take i.toNat) (fun (i:Int)=>(a.length - i).toNat) ?_ ⟨by omega,by omega,by simp⟩
 rintro i ⟨i0,i1,he⟩ _
 refine Cnd.mk (fun hc=>⟨by omega,fun x hx=>⟨by omega,fun y hy=>hF x (getm hx) y (getm hy) _ fun r hr=>Cnd.mk (fun hc=>⟨by unfold InI;omega,⟨by omega,by omega,?_⟩,by omega⟩) fun hc=>h _ ⟨fun h=>(by cases h),fun h=> ?_⟩⟩⟩) fun hc=>h _ ⟨fun _=> ?_,fun _=>rfl⟩
 ·rw[show (i+1).toNat=i.toNat+1 by omega,List.take_add_one,List.take_add_one,he,hx,hy,hr.1 hc]
 ·subst h;rw[hx] at hy;exact absurd (hr.2 (by cases hy;rfl)) hc
 ·rwa [List.take_of_length_le (by omega),List.take_of_length_le (by omega)] at he
theorem v5x{a b:List ByteArray}{K:Bool->Prop}(h: ∀r,(r=true↔a=b)->K r):j1n a b K:=by
 unfold j1n
 intro ha hb
 refine Cnd.mk (fun hl=> ?_) fun hl=>h _ ⟨fun h=>(by cases h),fun e=>by rw[e] at hl;exact absurd rfl hl⟩
 refine Lp1.ind (fun (i:Int)=>0<=i/\i<=a.length/\a.take i.toNat=b.take i.toNat) (fun (i:Int)=>(a.length - i).toNat) ?_ ⟨by omega,by omega,by simp⟩
 rintro i ⟨i0,i1,he⟩ _
 refine Cnd.mk (fun hc=>⟨by omega,fun x hx=>⟨by omega,fun y hy=>Cnd.mk (fun hc=>⟨by unfold InI;omega,⟨by omega,by omega,?_⟩,by omega⟩) fun hc=>h _ ⟨fun h=>(by cases h),fun h=> ?_⟩⟩⟩) fun hc=>h _ ⟨fun _=> ?_,fun _=>rfl⟩
 ·rw[show (i+1).toNat=i.toNat+1 by omega,List.take_add_one,List.take_add_one,he,hx,hy,hc]
 ·subst h;rw[hx] at hy;cases hy;exact absurd rfl hc
 ·rwa [List.take_of_length_le (by omega),List.take_of_length_le (by omega)] at he
theorem z1v{l:List ByteArray}{s:ByteArray}{K:Bool->Prop}(h: ∀r,(r=true↔s∈l)->K r):q1s l s K:=by
 unfold q1s
 refine Lp1.ind (fun (i:Int)=>0<=i/\i<=l.length/\s∉l.take i.toNat) (fun (i:Int)=>(l.length - i).toNat) ?_ ⟨by omega,by omega,by simp⟩
 rintro i ⟨i0,i1,he⟩ _
 refine Cnd.mk (fun hc=>⟨by omega,fun x hx=>Cnd.mk (fun e=>h _ ⟨fun _=>e▸getm hx,fun _=>rfl⟩) fun e=>⟨by unfold InI;omega,⟨by omega,by omega,?_⟩,by omega⟩⟩) fun hc=>h _ ⟨fun h=>(by cases h),fun hm=> ?_⟩
 ·rw[show (i+1).toNat=i.toNat+1 by omega,List.take_add_one,hx];simp[he,Ne.symm e]
 ·rw[List.take_of_length_le (by omega)] at he;exact absurd hm he
theorem j0s{a b:Val}{K:Bool->Prop}(h: ∀r,(r=true↔a=b)->K r):q7i a b K:=by
 unfold q7i j34
 have no:(a≠b)->K false:=fun hn=>h _ ⟨fun h=>(by cases h),fun e=>absurd e hn⟩
 refine Cnd.mk (fun h1=>Cnd.mk (fun h2=>Cnd.mk (fun h3=>v5x fun r hr=>h r (hr.trans ⟨fun h4=> ?_,fun e=>by rw[e]⟩)) fun h=>no fun e=>h (by rw[e])) fun h=>no fun e=>h (by rw[e])) fun h=>no fun e=>h (by rw[e])
 cases a;cases b;simp_all
theorem j6v{a b:List Val}{K:Bool->Prop}(h: ∀r,(r=true↔a=b)->K r):Uk a b K:=by
 unfold Uk q7w
 intro ha hb
 exact Cnd.mk (fun hl=>w3z (by omega) (fun x _ y _ K hK=>j0s hK) h) fun hl=>h _ ⟨fun h=>(by cases h),fun e=>by rw[e] at hl;exact absurd rfl hl⟩
theorem Jl{e:Ex}:Ex.mk e.op e.kind e.name e.values e.kids=e:=by cases e;rfl
theorem w2d: ∀(n:Nat) {a b:Ex} {K:Bool->Prop},ExS n a->(∀r,(r=true↔a=b)->K r)->q1f a b K:=by
 intro n a b K ha h X hX
 induction n using Nat.strongRecOn generalizing a b K with
 |_ n ih=>
 refine hX _ _ _ ?_
 unfold z2c
 have no:(a≠b)->K false:=fun hn=>h _ ⟨fun h=>(by cases h),fun e=>absurd e hn⟩
 refine Cnd.mk (fun h1=>Cnd.mk (fun h2=>Cnd.mk (fun h3=>j6v fun r hr=>Cnd.mk (fun hc _ _=>Cnd.mk (fun hl=> ?_) fun h=>no fun e=>h (by rw[e])) fun hc=>no fun e=>hc (hr.2 (by rw[e]))) fun h=>no fun e=>h (by rw[e])) fun h=>no fun e=>h (by rw[e])) fun h=>no fun e=>h (by rw[e])
 have h4:=hr.1 hc
 refine w3z (by omega) (fun x hx y _ K hK=> ?_) fun r hr=>h r (hr.trans ⟨fun h5=> ?_,fun e=>by rw[e]⟩)
 ·obtain⟨m,hm,hk⟩:=ha.kid hx
  rw[Jl,Jl]
  exact ih m (by omega) hk hK
 ·cases a;cases b;simp_all
theorem w0p(n:Nat){a b:Ex}{K:Bool->Prop}(ha:ExS n a)(h: ∀r,(r=true↔a=b)->K r):q1f (Ex.mk a.1 a.2 a.3 a.4 a.5) (Ex.mk b.1 b.2 b.3 b.4 b.5) K:=by
 rw[Jl,Jl];exact w2d n ha h
theorem j5s{n:Nat}{l:List Ex}{e:Ex}{K:Int->Prop}(hl: ∀x∈l,ExS n x)(h: ∀r:Int,(r= -1/\e∉l)∨(0<=r/\l[r.toNat]? =some e/\e∉l.take r.toNat)->K r):Ua l e K:=by
 unfold Ua z9k
 refine Lp1.ind (fun (i:Int)=>0<=i/\i<=l.length/\e∉l.take i.toNat) (fun (i:Int)=>(l.length - i).toNat) ?_ ⟨by omega,by omega,by simp⟩
 rintro i ⟨i0,i1,he⟩ _
 refine Cnd.mk (fun hc=>⟨by omega,fun x hx=>w0p n (hl x (getm hx)) fun r hr=>Cnd.mk (fun hc=>h _ (.inr ⟨i0,by rw[hx,hr.1 hc],he⟩)) fun hc=>⟨by unfold InI;omega,⟨by omega,by omega,?_⟩,by omega⟩⟩) fun hc=>h _ (.inl ⟨rfl,?_⟩)
 ·rw[show (i+1).toNat=i.toNat+1 by omega,List.take_add_one,hx]
  have:e≠x:=fun e=>hc (hr.2 e.symm)
  simp[he,this]
 ·rwa [List.take_of_length_le (by omega)] at he
theorem q04{op:Int}{K:Bool->Prop}(h: ∀r,(r=true↔6<=op/\op<=15)->K r):Jy op K:=by
 unfold Jy
 exact Cnd.mk (fun h6=>h _ ⟨fun a=>⟨h6,of_decide_eq_true a⟩,fun a=>decide_eq_true a.2⟩) fun h6=>h _ ⟨fun a=>(by cases a),fun a=>absurd a.1 h6⟩
theorem v1s{now:Int}{K:Bool->Prop}(h: ∀r,(r=true↔0<=now/\now<=1099511627776)->K r):z7a now K:=by
 unfold z7a
 exact Cnd.mk (fun h6=>h _ ⟨fun a=>⟨h6,of_decide_eq_true a⟩,fun a=>decide_eq_true a.2⟩) fun h6=>h _ ⟨fun a=>(by cases a),fun a=>absurd a.1 h6⟩
theorem w82{α:Type}{l:List α}{f:α->ByteArray}{key:ByteArray}{K:Int->Prop}(h: ∀r:Int,(r= -1/\ ∀x∈l,f x≠key)∨(0<=r/\r<l.length/\(∃x,l[r.toNat]? =some x/\f x=key)/\ ∀x∈l.take r.toNat,f x≠key)->K r):
  Lp1 (fun i Y=>l.length<=9223372036854775807->Cnd (i<(l.length:Int)) ((0<=i/\i<(l.length:Int))/\ ∀y,l[i.toNat]? =some y->Cnd (f y=key) (K i) (InI (i+1)/\Y (i+1))) (K (-1))) 0:=by
 refine Lp1.ind (fun (i:Int)=>0<=i/\i<=l.length/\ ∀x∈l.take i.toNat,f x≠key) (fun (i:Int)=>(l.length - i).toNat) ?_ ⟨by omega,by omega,by simp⟩
 rintro i ⟨i0,i1,he⟩ _
 refine Cnd.mk (fun hc=>⟨by omega,fun x hx=>Cnd.mk (fun e=>h _ (.inr ⟨i0,hc,⟨x,hx,e⟩,he⟩)) fun e=>⟨by unfold InI;omega,⟨by omega,by omega,?_⟩,by omega⟩⟩) fun hc=>h _ (.inl ⟨rfl,?_⟩)
 ·rw[show (i+1).toNat=i.toNat+1 by omega,List.take_add_one,hx]
  exact Jw he e
 ·rwa [List.take_of_length_le (by omega)] at he
def PlcS{α:Type}(l:List α)(f:α->ByteArray)(key:ByteArray)(r:Int):Prop:=(r= -1/\ ∀x∈l,f x≠key)∨(0<=r/\r<l.length/\(∃x,l[r.toNat]? =some x/\f x=key)/\ ∀x∈l.take r.toNat,f x≠key)
theorem z0z{v:Envt}{key:ByteArray}{K:Int->Prop}(h: ∀r,PlcS v.layers Lay_.key key r->K r):q1i v key K:=w82 h
theorem j2x{v:Envt}{key:ByteArray}{K:Int->Prop}(h: ∀r,PlcS v.flags Flg.key key r->K r):q9l v key K:=w82 h
theorem q37{l:List Spn}{K:List Bool->Prop}(h: ∀b:List Bool,b.length=10000->K b):q70 l K:=by
 unfold q70
 refine⟨⟨by decide,Int.le_refl _,by unfold Sml;decide⟩,Lp2.ind (fun (i:Int) (b:List Bool)=>0<=i/\i<=l.length/\b.length=10000) (fun (i:Int) _=>(l.length - i).toNat) ?_ ⟨by omega,by omega,by rw[List.length_replicate];decide⟩⟩
 rintro i b ⟨i0,i1,hb⟩ _
 refine Cnd.mk (fun hc=>⟨by omega,fun y hy=> ?_⟩) fun _=>h b hb
 refine Lp2.ind (fun (j:Int) (b:List Bool)=>0<=j/\b.length=10000) (fun (j:Int) _=>(10000 - j).toNat) ?_ ⟨by omega,hb⟩
 rintro j b ⟨j0,hb⟩
 refine⟨by omega,fun z hz=>Cnd.mk (fun hc=>⟨by omega,fun u hu=>⟨by unfold InI;omega,⟨by omega,by simpa using hb⟩,by omega⟩⟩) fun _=>⟨by unfold InI;omega,⟨by omega,by omega,hb⟩,by omega⟩⟩
theorem q5j{b:List Bool}{K:List Spn->Prop}(hb:b.length<=10000)(h: ∀l,SpsS l->K l):Hw b K:=by
 unfold Hw
 refine Lp2.ind (fun (l:List Spn) (i:Int)=>0<=i/\i<=b.length/\l.length<=i/\(∀s∈l,0<=s.lo/\s.lo<s.hi/\s.hi<=i)/\(0<i->b[(i - 1).toNat]? =some true->l≠[])) (fun _ (i:Int)=>(b.length - i).toNat) ?_ ⟨by omega,by omega,by simp,by simp,by omega⟩
 rintro l i ⟨i0,i1,hl,hs,hn⟩ _
 refine Cnd.mk (fun hc=>⟨by omega,fun y hy=>Cnd.mk (fun ht=> ?_) fun hf=> ?_⟩) fun _=>h l ⟨by omega,fun s hm=>by have:=hs s hm;omega⟩
 ·have snoc:InI (i+1)/\Sml (l++[Spn.mk i (i+1)]).length/\InI (i+1)/\((0<=i+1/\i+1<=b.length/\((l++[Spn.mk i (i+1)]).length:Int)<=i+1/\(∀s∈l++[Spn.mk i (i+1)],0<=s.lo/\s.lo<s.hi/\s.hi<=i+1)/\(0<i+1->b[(i+1 - 1).toNat]? =some true->l++[Spn.mk i (i+1)]≠[]))/\(b.length - (i+1)).toNat<(b.length - i).toNat):=
   ⟨by unfold InI;omega,by unfold Sml;simp;omega,by unfold InI;omega,⟨by omega,by omega,by simp;omega,Jw (fun s hm=>by have:=hs s hm;omega) ⟨i0,by simp only;omega,by simp⟩,fun _ _=>by simp⟩,by omega⟩
  refine Cnd.mk (fun hp=>⟨by unfold InI;omega,by omega,fun z hz=>Cnd.mk (fun hz1=> ?_) fun _=>snoc⟩) fun _=>snoc
  have hne:=hn hp (by rw[hz,hz1])
  have hpos:0<l.length:=List.length_pos_iff.2 hne
  refine fun _=>⟨by unfold InI;omega,by unfold InI;omega,by omega,fun u hu=>⟨by unfold InI;omega,⟨by omega,by omega,by simp;omega,fun s hm=> ?_,fun _ _ hx=> ?_⟩,by omega⟩⟩
  ·have:=hs u (getm hu)
   rcases List.mem_or_eq_of_mem_set hm with hm|rfl
   ·have:=hs s hm;omega
   ·exact⟨this.1,by simp only;omega,by simp⟩
  ·exact hne (by rw[←List.length_eq_zero_iff] at hx⊢;simpa using hx)
 ·refine⟨by unfold InI;omega,⟨by omega,by omega,by omega,fun s hm=>by have:=hs s hm;omega,fun _ hx=> ?_⟩,by omega⟩
  rw[show (i+1 - 1).toNat=i.toNat by omega,hy] at hx
  cases hx;exact absurd rfl hf
theorem z4l{l:List Col}{now:Int}{K:List Int->Prop}(h: ∀b:List Int,b.length=10000->K b):q1k l now K:=by
 unfold q1k
 refine⟨⟨by decide,Int.le_refl _,by unfold Sml;decide⟩,Lp2.ind (fun (i:Int) (b:List Int)=>0<=i/\i<=10000/\b.length=10000) (fun (i:Int) _=>(10000 - i).toNat) ?_ ⟨by omega,by omega,by rw[List.length_replicate];decide⟩⟩
 rintro i b ⟨i0,i1,hb⟩ _
 refine Cnd.mk (fun hc=>⟨by omega,fun y hy=>⟨by unfold InI;omega,⟨by omega,by omega,by simpa using hb⟩,by omega⟩⟩) fun _=> ?_
 refine Lp2.ind (fun (i:Int) (b:List Int)=>0<=i/\i<=l.length/\b.length=10000) (fun (i:Int) _=>(l.length - i).toNat) ?_ ⟨by omega,by omega,hb⟩
 rintro i b ⟨i0,i1,hb⟩ _
 refine Cnd.mk (fun hc=>⟨by omega,fun y hy=> ?_⟩) fun _=>h b hb
 refine Lp2.ind (fun (j:Int) (b:List Int)=>0<=j/\b.length=10000) (fun (j:Int) _=>(10000 - j).toNat) ?_ ⟨by omega,hb⟩
 rintro j b ⟨j0,hb⟩
 refine⟨by omega,fun z hz=>Cnd.mk (fun hc=>⟨by omega,fun u hu=>⟨by omega,fun w hw=>⟨by omega,fun x hx=>⟨by unfold InI;omega,⟨by omega,by simpa using hb⟩,by omega⟩⟩⟩⟩) fun _=>⟨by unfold InI;omega,⟨by omega,by omega,hb⟩,by omega⟩⟩
theorem z6l{u:List Int}{now:Int}{K:List Spn->Prop}(hu:u.length<=10000)(h: ∀l,SpsS l->K l):z2d u now K:=by
 unfold z2d z9l
 refine fun _=>⟨⟨by omega,Int.le_refl _,by unfold Sml;omega⟩,Lp2.ind (fun (i:Int) (b:List Bool)=>0<=i/\i<=u.length/\b.length=u.length) (fun (i:Int) _=>(u.length - i).toNat) ?_ ⟨by omega,by omega,by simp⟩⟩
 rintro i b ⟨i0,i1,hb⟩ _
 exact Cnd.mk (fun hc=>⟨by omega,fun y hy=>⟨by omega,fun z hz=>⟨by unfold InI;omega,⟨by omega,by omega,by simpa using hb⟩,by omega⟩⟩⟩) fun _=>q5j (by omega) h
theorem q91{a b:List Spn}{K:List Spn->Prop}(h: ∀l,SpsS l->K l):z2e a b K:=by
 unfold z2e z9m
 refine q37 fun x hx=>q37 fun y hy=>Lp2.ind (fun (i:Int) (b:List Bool)=>0<=i/\i<=10000/\b.length=10000) (fun (i:Int) _=>(10000 - i).toNat) ?_ ⟨by omega,by omega,hx⟩
 rintro i b ⟨i0,i1,hb⟩ _
 exact Cnd.mk (fun hc=>⟨by omega,fun y hy=>Cnd.mk (fun _=>⟨by omega,fun _ _=>⟨by unfold InI;omega,⟨by omega,by omega,by simpa using hb⟩,by omega⟩⟩) fun _=>⟨by omega,fun _ _=>⟨by omega,fun _ _=>⟨by unfold InI;omega,⟨by omega,by omega,by simpa using hb⟩,by omega⟩⟩⟩⟩) fun _=>q5j (by omega) h
theorem j5t{a b:List Spn}{K:List Spn->Prop}(h: ∀l,SpsS l->K l):q73 a b K:=by
 unfold q73 z9o
 refine q37 fun x hx=>q37 fun y hy=>Lp2.ind (fun (i:Int) (b:List Bool)=>0<=i/\i<=10000/\b.length=10000) (fun (i:Int) _=>(10000 - i).toNat) ?_ ⟨by omega,by omega,hx⟩
 rintro i b ⟨i0,i1,hb⟩ _
 exact Cnd.mk (fun hc=>⟨by omega,fun y hy=>Cnd.mk (fun _=>⟨by omega,fun _ _=>⟨by omega,fun _ _=>⟨by unfold InI;omega,⟨by omega,by omega,by simpa using hb⟩,by omega⟩⟩⟩) fun _=>⟨by omega,fun _ _=>⟨by unfold InI;omega,⟨by omega,by omega,by simpa using hb⟩,by omega⟩⟩⟩) fun _=>q5j (by omega) h
theorem w59{a b:List Spn}{K:List Spn->Prop}(h: ∀l,SpsS l->K l):q9m a b K:=by
 unfold q9m z5f
 refine q37 fun x hx=>q37 fun y hy=>Lp2.ind (fun (i:Int) (b:List Bool)=>0<=i/\i<=10000/\b.length=10000) (fun (i:Int) _=>(10000 - i).toNat) ?_ ⟨by omega,by omega,hx⟩
 rintro i b ⟨i0,i1,hb⟩ _
 exact Cnd.mk (fun hc=>⟨by omega,fun y hy=>Cnd.mk (fun _=>⟨by omega,fun _ _=>⟨by omega,fun _ _=>⟨by unfold InI;omega,⟨by omega,by omega,by simpa using hb⟩,by omega⟩⟩⟩) fun _=>⟨by omega,fun _ _=>⟨by unfold InI;omega,⟨by omega,by omega,by simpa using hb⟩,by omega⟩⟩⟩) fun _=>q5j (by omega) h
theorem w83{a:List Spn}{n:Int}{K:List Spn->Prop}(hn: -1000000<=n/\n<=1000000)(h: ∀l,SpsS l->K l):z2g a n K:=by
 unfold z2g z9p
 refine q37 fun x hx=>Lp3.ind (fun (m i:Int) (b:List Bool)=>0<=i/\i<=10000/\b.length=10000/\ -1000000 - i<=m/\m<=1000000) (fun _ (i:Int) _=>(10000 - i).toNat) ?_ ⟨by omega,by omega,hx,by omega,by omega⟩
 rintro m i b ⟨i0,i1,hb,m0,m1⟩ _
 refine Cnd.mk (fun hc=>⟨by omega,fun y hy=> ?_⟩) fun _=>q5j (by omega) h
 have step:(0<=i/\i<(b.length:Int))/\ ∀y5,b[i.toNat]? =some y5->Cnd (y5=true) (InI (m - 1)/\InI (i+1)/\((0<=i+1/\i+1<=10000/\b.length=10000/\ -1000000 - (i+1)<=m - 1/\m - 1<=1000000)/\(10000 - (i+1)).toNat<(10000 - i).toNat)) (InI (i+1)/\((0<=i+1/\i+1<=10000/\b.length=10000/\ -1000000 - (i+1)<=m/\m<=1000000)/\(10000 - (i+1)).toNat<(10000 - i).toNat)):=
  ⟨by omega,fun _ _=>Cnd.mk (fun _=>⟨by unfold InI;omega,by unfold InI;omega,by omega,by omega⟩) fun _=>⟨by unfold InI;omega,by omega,by omega⟩⟩
 exact Cnd.mk (fun _=>Cnd.mk (fun _=>⟨by omega,fun _ _=>⟨by unfold InI;omega,⟨by omega,by omega,by simpa using hb,by omega,by omega⟩,by omega⟩⟩) fun _=>step) fun _=>step
theorem y7l(n:Int):0<=Go.IntKind.u8.wrap n/\Go.IntKind.u8.wrap n<=255:=by
 have e:Go.IntKind.u8.wrap n=n % 256:=rfl
 rw[e];omega
theorem v5y{s:ByteArray}{K:Bool->Prop}(hs:s.size<=1000)(h: ∀r,K r):j1r s K:=by
 unfold j1r
 refine Lp1.ind (fun (i:Int)=>0<=i/\i<=s.size) (fun (i:Int)=>(s.size - i).toNat) ?_ ⟨by omega,by omega⟩
 rintro i ⟨i0,i1⟩
 (repeat' (first|exact h _|assumption|(unfold InI;omega)|omega|refine Cnd.mk (fun _=> ?_) fun _=> ?_|refine⟨?_,?_⟩|intro _))
theorem v5z{e:Ex}{K:Bool->Prop}(h: ∀r,K r):j1t e K:=by
 unfold j1t
 (repeat' (first|exact h _|assumption|(unfold InI;omega)|omega|refine Cnd.mk (fun _=> ?_) fun _=> ?_|refine⟨?_,?_⟩|intro _))
theorem w84{e:Ex}{K:Bool->Prop}(h: ∀r:Bool,(r=true->9<=e.op->e.op<=11->e.values≠[])->K r):z2j e K:=by
 unfold z2j z9q
 intro _ _
 refine Jn2.mk (fun _ v=>v=true->9<=e.op->e.op<=11->e.values.length=1) ?_ fun k v hv=> ?_
 ·refine Cnd.mk (fun _ _ _ _ _=>by omega) fun _=>Cnd.mk (fun _ _ _ _ _=>by omega) fun _=>Cnd.mk (fun _ _ _ _ _=>by omega) fun _=>Cnd.mk (fun _ _ _ _ _=>by omega) fun _=>q04 fun r hr=>Cnd.mk (fun _=>Cnd.mk (fun _ _ _ _=>by omega) fun _ _ hd _ _=>by have:=of_decide_eq_true hd;omega) fun hc _ h1 h2=>absurd (hr.2 ⟨by omega,by omega⟩) hc
 ·have no:K false:=h _ fun h=>by cases h
  refine q04 fun r _=>Cnd.mk (fun _=>Cnd.mk (fun hv'=> ?_) fun _=>no) fun _=>no
  have yes: ∀r,K r:=fun r=>h r fun _ h1 h2 hn=>by have:=hv hv' h1 h2;rw[hn] at this;cases this
  (repeat' (first|exact yes _|exact no|assumption|(unfold InI;omega)|omega|refine Cnd.mk (fun _=> ?_) fun _=> ?_|refine⟨?_,?_⟩|intro _))
theorem v1t{v:Val}{K:Bool->Prop}(h: ∀r,K r):q7j v K:=by
 unfold q7j
 (repeat' (first|exact h _|assumption|(unfold InI;omega)|omega|refine Cnd.mk (fun _=> ?_) fun _=> ?_|refine⟨?_,?_⟩|intro _))
theorem w0q{l:List Rng}{n:Int}{K:Int->Prop}(h: ∀r,0<=r->r<=100->K r):z1g l n K:=by
 unfold z1g
 intro _
 refine Cnd.mk (fun _=>h _ (by omega) (by omega)) fun _=> ?_
 refine Lp2.ind (fun _ (i:Int)=>0<=i/\i<=l.length) (fun _ (i:Int)=>(l.length - i).toNat) ?_ ⟨by omega,by omega⟩
 rintro a i ⟨i0,i1⟩
 (repeat' (first|exact h _ (by omega) (by omega)|assumption|(unfold InI;omega)|omega|refine Cnd.mk (fun _=> ?_) fun _=> ?_|refine⟨?_,?_⟩|intro _))
theorem v1u{l:List Spn}{K:Int->Prop}(h: ∀r,0<=r->r<=100->K r):z7k l K:=by
 unfold z7k
 intro _
 refine Cnd.mk (fun _=>h _ (by omega) (by omega)) fun _=> ?_
 refine Lp1.ind (fun (i:Int)=>0<=i/\i<=l.length) (fun (i:Int)=>(l.length - i).toNat) ?_ ⟨by omega,by omega⟩
 rintro i ⟨i0,i1⟩
 (repeat' (first|exact h _ (by omega) (by omega)|assumption|(unfold InI;omega)|omega|refine Cnd.mk (fun _=> ?_) fun _=> ?_|refine⟨?_,?_⟩|intro _))
theorem w85{α:Type}{l:List α}{f:α->ByteArray}{K:List ByteArray->Prop}(hl:l.length<=1000000)(h:K (l.map f)):
  Lp2 (fun (r:List ByteArray) (i:Int) Y=>l.length<=9223372036854775807->Cnd (i<(l.length:Int)) ((0<=i/\i<(l.length:Int))/\ ∀y,l[i.toNat]? =some y->Sml (r++[f y]).length/\InI (i+1)/\Y (r++[f y]) (i+1)) (K r)) [] 0:=by
 refine Lp2.ind (fun (r:List ByteArray) (i:Int)=>0<=i/\i<=l.length/\r=(l.take i.toNat).map f) (fun _ (i:Int)=>(l.length - i).toNat) ?_ ⟨Int.le_refl 0,by omega,by simp⟩
 rintro r i ⟨i0,i1,rfl⟩ _
 refine Cnd.mk (fun hc=>⟨by omega,fun y hy=>⟨by unfold Sml;simp;omega,by unfold InI;omega,⟨by omega,by omega,?_⟩,by omega⟩⟩) fun hc=> ?_
 ·rw[show (i+1).toNat=i.toNat+1 by omega,List.take_add_one,hy];simp
 ·rw[List.take_of_length_le (by omega)];exact h
theorem j0t{l:List Seg}{K:List ByteArray->Prop}(hl:l.length<=1000000)(h:K (l.map Seg.key)):z1l l K:=w85 hl h
theorem y3p{i:Nat}:(29:Int)*10 ^ (i+1)=10*(29*10 ^ i):=by rw[Int.pow_succ];omega
theorem j43{s:ByteArray}{K:Int->Int->Prop}(hs:s.size<=1000)(h: ∀n e,InI n->0<=e->e<=100->K n e):Wk s K:=by
 unfold Wk
 refine Jn1.mk (fun d=>d.size<=1000) ?_ fun d hd=> ?_
 ·(repeat' (first|(show (s.extract _ _).size<=1000;rw[ByteArray.size_extract];omega)|assumption|(unfold InI;omega)|omega|refine Cnd.mk (fun _=> ?_) fun _=> ?_|refine⟨?_,?_⟩|intro _))
 refine Lp1.ind (fun (i:Int)=>0<=i/\i<=d.size) (fun (i:Int)=>(d.size - i).toNat) ?_ ⟨by omega,by omega⟩
 rintro i ⟨i0,i1⟩
 have fin:d.size<=13->Lp2 (fun (Qe Jv:Int) w9s=>Cnd (Jv<(↑d.size:Int)) (InI ((10:Int)*Qe)/\((0:Int)<=Jv/\Jv<(↑d.size:Int))/\ ∀b5,d[Jv.toNat]? =some b5->InI (Go.IntKind.u8.wrap ((↑b5.toNat:Int) - (48:Int)))/\InI ((10:Int)*Qe+Go.IntKind.u8.wrap ((↑b5.toNat:Int) - (48:Int)))/\InI (Jv+(1:Int))/\w9s ((10:Int)*Qe+Go.IntKind.u8.wrap ((↑b5.toNat:Int) - (48:Int))) (Jv+(1:Int))) (Cnd ((1099511627776:Int)<Qe) (K (0:Int) (3:Int)) (Cnd ((↑d.size:Int)<(↑s.size:Int)) (InI ((0:Int) - Qe)/\K ((0:Int) - Qe) (0:Int)) (K Qe (0:Int))))) (0:Int) (0:Int):=fun h13=>by
  refine Lp2.ind (fun (n j:Int)=>0<=j/\j<=d.size/\0<=n/\n+29<=29*10 ^ j.toNat) (fun _ (j:Int)=>(d.size - j).toNat) ?_ ⟨by omega,by omega,by omega,by simp⟩
  rintro n j ⟨j0,j1,n0,n1⟩
  have hp:(10:Int) ^ j.toNat<=10 ^ 13:=by
   have:=Nat.pow_le_pow_right (n:=10) (by decide) (show j.toNat<=13 by omega)
   exact_mod_cast this
  refine Cnd.mk (fun hc=>⟨by unfold InI;omega,by omega,fun b _=> ?_⟩) fun hc=> ?_
  ·obtain⟨w0,w1⟩:=y7l ((b.toNat:Int) - 48)
   refine⟨by unfold InI;omega,by unfold InI;omega,by unfold InI;omega,⟨by omega,by omega,by omega,?_⟩,by omega⟩
   rw[show (j+1).toNat=j.toNat+1 by omega,y3p];omega
  ·exact Cnd.mk (fun _=>h _ _ (by unfold InI;omega) (by omega) (by omega)) fun _=>Cnd.mk (fun _=>⟨by unfold InI;omega,h _ _ (by unfold InI;omega) (by omega) (by omega)⟩) fun _=>h _ _ (by unfold InI;omega) (by omega) (by omega)
 have k1:=h 0 1 (by unfold InI;omega) (by omega) (by omega)
 have k3:=h 0 3 (by unfold InI;omega) (by omega) (by omega)
 refine Cnd.mk (fun hc=>⟨by omega,fun b hb=>Cnd.mk (fun _=>k1) fun _=>⟨by omega,fun b' hb'=>Cnd.mk (fun _=>k1) fun _=>⟨by unfold InI;omega,by omega,by omega⟩⟩⟩) fun _=> ?_
 refine Cnd.mk (fun _=>k1) fun he=>⟨⟨by omega,?_⟩,fun b hb=>Cnd.mk (fun _=>Cnd.mk (fun _=>Cnd.mk (fun _=>k3) fun _=>fin (by omega)) fun _=>k1) fun _=>Cnd.mk (fun _=>k3) fun _=>fin (by omega)⟩
 refine Int.not_le.1 fun hn=>he ?_
 have:d.size=0:=by omega
 exact ByteArray.ext (Array.eq_empty_of_size_eq_zero this)
theorem v50{t:Int}{e:Ex}{K:Bool->Prop}(h: ∀r,K r):q79 t e K:=by
 unfold q79
 refine Cnd.mk (fun _=>h _) fun _=>Cnd.mk (fun _=> ?_) fun _ _=>Cnd.mk (fun _=>h _) fun _=>⟨by omega,fun y hy=>Cnd.mk (fun _=>h _) fun _=>Jn1.mk (fun _=>True) ?_ fun x _=> ?_⟩
 ·refine Lp1.ind (fun (i:Int)=>0<=i/\i<=e.values.length) (fun (i:Int)=>(e.values.length - i).toNat) ?_ ⟨by omega,by omega⟩
  rintro i ⟨i0,i1⟩
  (repeat' (first|exact h _|assumption|(unfold InI;omega)|omega|refine Cnd.mk (fun _=> ?_) fun _=> ?_|refine⟨?_,?_⟩|intro _))
 ·(repeat' (first|exact trivial|assumption|(unfold InI;omega)|omega|refine Cnd.mk (fun _=> ?_) fun _=> ?_|refine⟨?_,?_⟩|intro _))
 ·(repeat' (first|exact h _|assumption|(unfold InI;omega)|omega|refine Cnd.mk (fun _=> ?_) fun _=> ?_|refine⟨?_,?_⟩|intro _))
theorem w0r{v:Envt}{K:List ByteArray->Prop}(hl:v.flags.length<=1000000)(h:K (v.flags.map Flg.key)):z0k v K:=w85 hl h
def z3v(f:Flg):List Edg:=f.needs.map fun q=>Edg.mk f.key q.flag
theorem j6w{v:Envt}{K:List Edg->Prop}(hl:v.flags.length<=1000)(hn: ∀f∈v.flags,f.needs.length<=1000)(h:K (v.flags.flatMap z3v)):q1v v K:=by
 unfold q1v
 have hb: ∀l:List Flg,(∀f∈l,f.needs.length<=1000)->(l.flatMap z3v).length<=1000*l.length:=by
  intro l
  induction l with
  |nil=>simp
  |cons f l ih=>intro hf;have h1:=hf f (by simp);have h2:=ih fun g hg=>hf g (by simp[hg]);simp only[List.flatMap_cons,List.length_append,z3v,List.length_map,List.length_cons] at*;omega
 refine Lp2.ind (fun (r:List Edg) (i:Int)=>0<=i/\i<=v.flags.length/\r=(v.flags.take i.toNat).flatMap z3v) (fun _ (i:Int)=>(v.flags.length - i).toNat) ?_ ⟨Int.le_refl 0,by omega,by simp⟩
 rintro r i ⟨i0,i1,rfl⟩ _
 refine Cnd.mk (fun hc=> ?_) fun hc=> ?_
 ·obtain⟨f,hf⟩: ∃f,v.flags[i.toNat]? =some f:=⟨_,List.getElem?_eq_getElem (by omega)⟩
  have hfn:=hn f (getm hf)
  have hbt:=hb (v.flags.take i.toNat) fun g hg=>hn g (List.mem_of_mem_take hg)
  rw[List.length_take] at hbt
  refine Lp2.ind (fun (r:List Edg) (j:Int)=>0<=j/\j<=f.needs.length/\r=(v.flags.take i.toNat).flatMap z3v++(f.needs.take j.toNat).map fun q=>Edg.mk f.key q.flag) (fun _ (j:Int)=>(f.needs.length - j).toNat) ?_ ⟨by omega,by omega,by simp⟩
  rintro r j ⟨j0,j1,rfl⟩
  refine⟨by omega,fun g hg=> ?_⟩
  rw[hf] at hg;cases hg
  refine fun _=>Cnd.mk (fun hc=>⟨by omega,fun g hg=> ?_⟩) fun hc=>⟨by unfold InI;omega,⟨by omega,by omega,?_⟩,by omega⟩
  ·rw[hf] at hg;cases hg
   refine⟨by omega,fun g hg=> ?_⟩
   rw[hf] at hg;cases hg
   refine⟨by omega,fun q hq=>⟨?_,by unfold InI;omega,⟨by omega,by omega,?_⟩,by omega⟩⟩
   ·unfold Sml;simp only[List.length_append,List.length_map,List.length_take,List.length_cons,List.length_nil];omega
   ·rw[show (j+1).toNat=j.toNat+1 by omega,List.take_add_one,hq];simp
  ·rw[List.take_of_length_le (show f.needs.length<=j.toNat by omega),show (i+1).toNat=i.toNat+1 by omega,List.take_add_one,hf];simp[z3v]
 ·rw[List.take_of_length_le (by omega)];exact h
end Go.En
end
noncomputable section
set_option maxRecDepth 100000
namespace Go.Sg
open Go
abbrev bts(s:ByteArray):List UInt8:=s.data.toList
theorem Gk(s:ByteArray):(bts s).length=s.size:=rfl
theorem q38{s:ByteArray}{i:Nat}{b:UInt8}:s[i]? =some b↔(bts s)[i]? =some b:=by
 rw[show s[i]? =s.data[i]? from by
  by_cases h:i<s.size
  ·rw[getElem?_pos s i h,getElem?_pos s.data i h];rfl
  ·rw[getElem?_neg s i h,getElem?_neg s.data i h]]
 rw[Array.getElem?_toList]
theorem get!_of{s:ByteArray}{i:Nat}(h:i<s.size):(bts s)[i]? =some (s.get! i):=by
 have h':i<s.data.size:=h
 show s.data.toList[i]? =some (s.data[i]!)
 rw[Array.getElem?_toList,Array.getElem?_eq_getElem h',getElem!_pos s.data i h']
theorem v93{s:ByteArray}{i:Nat}(h:(s.get! i).toNat<128):Utf8.decode s i=((s.get! i).toNat,1):=by
 unfold Utf8.decode
 simp only[Nat.add_zero]
 rw[if_pos h]
theorem v94{s:ByteArray}{i:Nat}(h:128<=(s.get! i).toNat):128<=(Utf8.decode s i).1/\1<=(Utf8.decode s i).2/\ ∀k,k<(Utf8.decode s i).2->128<=(s.get! (i+k)).toNat:=by
 have k1: ∀k,k<1->128<=(s.get! (i+k)).toNat:=fun k hk=>by rw[show k=0 by omega];exact h
 have bad:128<=(Utf8.runeError,1).1/\1<=(Utf8.runeError,1).2/\ ∀k,k<(Utf8.runeError,1).2->128<=(s.get! (i+k)).toNat:=⟨by decide,by decide,k1⟩
 unfold Utf8.decode
 simp only[Nat.add_zero]
 rw[if_neg (by omega)]
 split
 ·rename_i hc
  simp only[Bool.and_eq_true,beq_iff_eq,decide_eq_true_eq] at hc
  split
  ·rename_i h2
   refine⟨h2,by simp,fun k hk=> ?_⟩
   have:k=0∨k=1:=by simp only at hk;omega
   rcases this with rfl|rfl
   ·exact h
   ·omega
  ·exact bad
 ·split
  ·rename_i _ hc
   simp only[Bool.and_eq_true,beq_iff_eq,decide_eq_true_eq] at hc
   split
   ·rename_i h2
    simp only[Bool.and_eq_true,decide_eq_true_eq] at h2
    refine⟨by simp only;omega,by simp,fun k hk=> ?_⟩
    have:k=0∨k=1∨k=2:=by simp only at hk;omega
    rcases this with rfl|rfl|rfl
    ·exact h
    ·omega
    ·omega
   ·exact bad
  ·split
   ·rename_i _ _ hc
    simp only[Bool.and_eq_true,beq_iff_eq,decide_eq_true_eq] at hc
    split
    ·rename_i h2
     simp only[Bool.and_eq_true,decide_eq_true_eq] at h2
     refine⟨by simp only;omega,by simp,fun k hk=> ?_⟩
     have:k=0∨k=1∨k=2∨k=3:=by simp only at hk;omega
     rcases this with rfl|rfl|rfl|rfl
     ·exact h
     ·omega
     ·omega
     ·omega
    ·exact bad
   ·exact bad
structure RuneP(p:Nat->Prop):Prop where
 hi: ∀n,128<=n->(p n↔p 128)
def Clr(p:Nat->Prop)(s:ByteArray)(k:Nat):Prop:= ∀i,i<k->i<s.size-> ¬p (s.get! i).toNat
theorem Clr.zero{p:Nat->Prop}{s:ByteArray}:Clr p s 0:=fun _ h=>absurd h (Nat.not_lt_zero _)
theorem v95(s:ByteArray)(k:Nat):1<=(Utf8.decode s k).2:=by
 rcases Nat.lt_or_ge (s.get! k).toNat 128 with h|h
 ·rw[v93 h];exact Nat.le_refl 1
 ·exact (v94 h).2.1
theorem Clr.step{p:Nat->Prop}(hp:RuneP p){s:ByteArray}{k:Nat}(h:Clr p s k)(hk: ¬p (Utf8.decode s k).1):Clr p s (k+(Utf8.decode s k).2):=by
 intro i hi hs
 rcases Nat.lt_or_ge i k with h1|h1
 ·exact h i h1 hs
 rcases Nat.lt_or_ge (s.get! k).toNat 128 with h2|h2
 ·rw[v93 h2] at hk hi
  simp only at hk hi
  rw[show i=k by omega];exact hk
 ·obtain⟨a,_,c⟩:=v94 h2
  have:=c (i - k) (by omega)
  rw[show k+(i - k)=i by omega] at this
  rw[hp.hi _ this,←hp.hi _ a];exact hk
theorem j7u{p:Nat->Prop}(hp:RuneP p){s:ByteArray}{k:Nat}(hk:p (Utf8.decode s k).1):p (s.get! k).toNat:=by
 rcases Nat.lt_or_ge (s.get! k).toNat 128 with h2|h2
 ·rw[v93 h2] at hk;exact hk
 ·rw[hp.hi _ h2,←hp.hi _ (v94 h2).1];exact hk
theorem Clr.all{p:Nat->Prop}{s:ByteArray}{k:Nat}(h:Clr p s k)(hk:s.size<=k): ∀c∈bts s,¬p c.toNat:=by
 intro c hc
 obtain⟨i,hi⟩:=List.mem_iff_getElem?.1 hc
 have hl:i<s.size:=(List.getElem?_eq_some_iff.1 hi).1
 have:=get!_of hl
 rw[hi] at this
 cases this
 exact h i (by omega) hl
theorem j44{s:ByteArray}{k:Nat}(h:k<s.size):s.get! k∈bts s:=List.mem_of_getElem? (get!_of h)
def good(c:UInt8):Bool:=decide (32<=c.toNat) && decide (c.toNat≠127)
def vld(s:ByteArray):Bool:=decide (s.size<=200) && Go.Lib.validD (bts s) && (bts s).all good
def isD(c:UInt8):Bool:=decide (48<=c.toNat) && decide (c.toNat<=57)
def z8i(n:Nat)(c:UInt8):Nat:=10*n+(c.toNat - 48)
def valD(n:Nat)(l:List UInt8):Nat:=l.foldl z8i n
def digs(s:ByteArray):ByteArray:=if s[0]? =some 45 then s.extract 1 s.size else s
def pnum(s:ByteArray):Int×Int:=
 if (bts (digs s)).all isD=false then (0,1)
 else if (digs s).size=0∨((digs s)[0]? =some 48/\s≠ByteArray.mk (Array.mk [48])) then (0,1)
 else if 1099511627776<valD 0 (bts (digs s)) then (0,3)
 else (if (digs s).size<s.size then -(valD 0 (bts (digs s)):Int) else valD 0 (bts (digs s)),0)
theorem v3w(n:Nat):valD n []=n:=rfl
theorem j2y(n:Nat)(c:UInt8)(l:List UInt8):valD n (c::l)=valD (z8i n c) l:=List.foldl_cons ..
theorem v96(n:Nat)(l:List UInt8)(c:UInt8):valD n (l++[c])=z8i (valD n l) c:=by
 unfold valD;rw[List.foldl_append];rfl
theorem v1v: ∀(l:List UInt8) (n:Nat),n*10 ^ l.length<=valD n l
 |[],n=>by simp[valD]
 |c::l,n=>by
  rw[j2y,List.length_cons]
  refine Nat.le_trans ?_ (v1v l (z8i n c))
  rw[Nat.pow_succ,Nat.mul_comm (10 ^ l.length) 10,←Nat.mul_assoc]
  exact Nat.mul_le_mul_right _ (by unfold z8i;omega)
theorem v97: ∀(l:List UInt8) (n:Nat),l.all isD=true->valD n l<(n+1)*10 ^ l.length
 |[],n,_=>by simp[valD]
 |c::l,n,h=>by
  simp only[List.all_cons,Bool.and_eq_true] at h
  rw[j2y,List.length_cons]
  refine Nat.lt_of_lt_of_le (v97 l (z8i n c) h.2) ?_
  have h1:=h.1
  simp only[isD,Bool.and_eq_true,decide_eq_true_eq] at h1
  rw[Nat.pow_succ,Nat.mul_comm (10 ^ l.length) 10,←Nat.mul_assoc]
  exact Nat.mul_le_mul_right _ (by unfold z8i;omega)
theorem v98: ∀(l:List UInt8) (n:Nat),n<=valD n l:=fun l n=>Nat.le_trans (by
 have:0<10 ^ l.length:=Nat.pow_pos (by decide)
 exact Nat.le_mul_of_pos_right n this) (v1v l n)
theorem j5u: ∀(l:List UInt8) (n:Nat),l.all isD=true->Go.Lib.parseUint10 n l=(if valD n l<18446744073709551616/\n<18446744073709551616 then .ok (valD n l) else if l=[] then .ok n else .range)
 |[],n,_=>by
  unfold Go.Lib.parseUint10
  rw[v3w]
  split<;>simp
 |c::l,n,h=>by
  simp only[List.all_cons,Bool.and_eq_true] at h
  have h1:=h.1
  simp only[isD,Bool.and_eq_true,decide_eq_true_eq] at h1
  have ih:=j5u l (z8i n c) h.2
  have hs:=v98 l (z8i n c)
  have es:z8i n c=10*n+(c.toNat - 48):=rfl
  have e:n*10+(c.toNat - 48)=z8i n c:=by omega
  have hne: ¬(c::l=[]):=by simp
  unfold Go.Lib.parseUint10
  rw[if_pos h1,j2y,e,if_neg hne]
  generalize z8i n c=m at ih hs es e⊢
  by_cases h2:1844674407370955162<=n
  ·rw[if_pos h2,if_neg (by omega)]
  ·rw[if_neg h2]
   by_cases h3:18446744073709551616<=m
   ·rw[if_pos h3,if_neg (by omega)]
   ·rw[if_neg h3,ih]
    by_cases h4:valD m l<18446744073709551616
    ·rw[if_pos ⟨h4,by omega⟩,if_pos ⟨h4,by omega⟩]
    ·have: ¬l=[]:=by rintro rfl;rw[v3w] at h4;omega
     rw[if_neg (by omega),if_neg this,if_neg (by omega)]
theorem w86{l:List UInt8}(h:l.all isD=true)(hn:l≠[]):Go.Lib.parseMag l=(if valD 0 l<18446744073709551616 then .ok (valD 0 l) else .range):=by
 unfold Go.Lib.parseMag
 rw[if_neg hn,j5u l 0 h]
 by_cases h4:valD 0 l<18446744073709551616
 ·rw[if_pos ⟨h4,by omega⟩,if_pos h4]
 ·rw[if_neg (by omega),if_neg h4,if_neg hn]
theorem v3x{s:ByteArray}{k:Nat}:bts (s.extract k s.size)=(bts s).drop k:=by
 show (s.extract k s.size).data.toList=_
 rw[ByteArray.data_extract,Array.toList_extract,List.extract_eq_take_drop,List.take_of_length_le]
 rw[List.length_drop]
 exact Nat.le_refl _
theorem j45{s:ByteArray}(h:s[0]? =some 45):bts s=45::bts (digs s)/\(digs s).size+1=s.size:=by
 have h0:0<s.size:=by
  rw[q38] at h;exact (List.getElem?_eq_some_iff.1 h).1
 have e:bts (digs s)=(bts s).drop 1:=by
  unfold digs
  rw[if_pos h,v3x]
 rw[q38] at h
 refine⟨?_,?_⟩
 ·rw[e]
  cases hb:bts s with
  |nil=>rw[hb] at h;simp at h
  |cons c l=>rw[hb] at h;simp at h;simp[h]
 ·rw[←Gk,e,List.length_drop,Gk];omega
theorem q84{s:ByteArray}(h: ¬s[0]? =some 45):digs s=s:=by unfold digs;rw[if_neg h]
theorem v1w{s:ByteArray}(h:(bts (digs s)).all isD=true)(hn:(digs s).size≠0):Go.Lib.atoiAll (bts s)=(if valD 0 (bts (digs s))<=(if s[0]? =some 45 then 9223372036854775808 else 9223372036854775807) then .ok (if s[0]? =some 45 then -(valD 0 (bts (digs s)):Int) else valD 0 (bts (digs s))) else .range):=by
 have hne:bts (digs s)≠[]:=fun e=>hn (by rw[←Gk,e];rfl)
 by_cases hm:s[0]? =some 45
 ·obtain⟨e,_⟩:=j45 hm
  rw[if_pos hm,if_pos hm,e]
  unfold Go.Lib.atoiAll
  simp only[show (45:UInt8).toNat=45 from rfl,or_true,if_true]
  rw[w86 h hne]
  generalize valD 0 (bts (digs s))=v
  by_cases h1:v<18446744073709551616
  ·rw[if_pos h1]
   by_cases h2:v<=9223372036854775808
   ·rw[if_pos h2];simp only[not_true,false_and,if_false,true_and];rw[if_neg (by omega)]
   ·rw[if_neg h2];simp only[not_true,false_and,if_false,true_and];rw[if_pos (by omega)]
  ·rw[if_neg h1,if_neg (by omega)]
 ·rw[if_neg hm,if_neg hm]
  rw[q84 hm] at h hne⊢
  have hp:=w86 h hne
  generalize valD 0 (bts s)=v at hp⊢
  cases hb:bts s with
  |nil=>exact absurd hb hne
  |cons c l=>
   have hc':isD c=true:=by rw[hb] at h;simp only[List.all_cons,Bool.and_eq_true] at h;exact h.1
   simp only[isD,Bool.and_eq_true,decide_eq_true_eq] at hc'
   unfold Go.Lib.atoiAll
   simp only[]
   rw[if_neg (show ¬(c.toNat=43∨c.toNat=45) by omega),←hb,hp]
   by_cases h1:v<18446744073709551616
   ·rw[if_pos h1]
    simp only[]
    by_cases h2:v<=9223372036854775807
    ·rw[if_pos h2,if_neg (by omega),if_neg (by omega),if_neg (by omega)]
    ·rw[if_neg h2,if_pos (by omega)]
   ·rw[if_neg h1,if_neg (by omega)]
def dot(s:ByteArray)(k:Nat):Nat:=k+((bts s).drop k).idxOf 46
theorem v3y{s:ByteArray}{k:Nat}:k<=dot s k:=Nat.le_add_right _ _
theorem y45{s:ByteArray}{k:Nat}(h:k<=s.size):dot s k<=s.size:=by
 have:=List.idxOf_le_length (a:=(46:UInt8)) (l:=(bts s).drop k)
 rw[List.length_drop,Gk] at this
 unfold dot;omega
theorem v99{s:ByteArray}{k:Nat}(h:dot s k<s.size):s[dot s k]? =some 46:=by
 have hl:((bts s).drop k).idxOf 46<((bts s).drop k).length:=by rw[List.length_drop,Gk];unfold dot at h;omega
 have h2:=List.getElem_idxOf hl
 rw[q38]
 unfold dot
 rw[←List.getElem?_drop,List.getElem?_eq_getElem hl,h2]
theorem y0a{s:ByteArray}{k i:Nat}(h0:k<=i)(h1:i<dot s k):s[i]? ≠some 46:=by
 intro e
 rw[q38] at e
 have e2:((bts s).drop k)[i - k]? =some 46:=by rw[List.getElem?_drop,show k+(i - k)=i by omega];exact e
 obtain⟨hl,e3⟩:=List.getElem?_eq_some_iff.1 e2
 have h2:i - k<((bts s).drop k).idxOf 46:=by unfold dot at h1;omega
 have:=List.not_of_lt_findIdx (p:=fun x=>x==(46:UInt8)) (xs:=(bts s).drop k) (i:=i - k) h2
 rw[e3] at this
 simp at this
theorem u0e{s:ByteArray}{k i:Nat}(h0:k<=i)(hs:s[i]? =some 46)(hn: ∀j,k<=j->j<i->s[j]? ≠some 46):dot s k=i:=by
 have hi:i<s.size:=(List.getElem?_eq_some_iff.1 (q38.1 hs)).1
 rcases Nat.lt_trichotomy (dot s k) i with h|h|h
 ·exact absurd (v99 (show dot s k<s.size by omega)) (hn _ v3y h)
 ·exact h
 ·exact absurd hs (y0a h0 h)
theorem y7m{s:ByteArray}{k:Nat}(hk:k<=s.size)(hn: ∀j,k<=j->j<s.size->s[j]? ≠some 46):dot s k=s.size:=by
 rcases Nat.lt_or_ge (dot s k) s.size with h|h
 ·exact absurd (v99 h) (hn _ v3y h)
 ·have:=y45 hk;omega
def okp(p:Int×Int):Bool:=decide (p.2=0) && decide (0<=p.1) && decide (p.1<=999999)
def Hs(s:ByteArray)(k:Nat):Int×Int:=pnum (s.extract k (dot s k))
def w2e(s:ByteArray):Prop:=(dot s 0<s.size/\okp (Hs s 0)=true)/\(dot s (dot s 0+1)<s.size/\okp (Hs s (dot s 0+1))=true)/\ ¬dot s (dot s (dot s 0+1)+1)<s.size/\okp (Hs s (dot s (dot s 0+1)+1))=true
instance (s:ByteArray):Decidable (w2e s):=by unfold w2e;infer_instance
def prt(s:ByteArray):(Int×Int×Int)×Bool:=
 if w2e s then (((Hs s 0).1,(Hs s (dot s 0+1)).1,(Hs s (dot s (dot s 0+1)+1)).1),true) else ((0,0,0),false)
theorem y46{s:ByteArray}(h: ¬w2e s):prt s=((0,0,0),false):=if_neg h
theorem y0b{s:ByteArray}(h:w2e s):prt s=(((Hs s 0).1,(Hs s (dot s 0+1)).1,(Hs s (dot s (dot s 0+1)+1)).1),true):=if_pos h
abbrev dotB:ByteArray:=ByteArray.mk (Array.mk [46])
theorem w87: ∀l:List UInt8,Go.Lib.index l [46]=if l.idxOf 46<l.length then ((l.idxOf 46:Nat):Int) else -1
 |[]=>rfl
 |b::l=>by
  have ih:=w87 l
  unfold Go.Lib.index
  by_cases hb:b=46
  ·subst hb
   rw[if_pos (by simp[List.isPrefixOf]),List.idxOf_cons_self,if_pos (by simp)];rfl
  ·have hx:(b::l).idxOf 46=l.idxOf 46+1:=by rw[List.idxOf_cons,show (b==(46:UInt8))=false by simpa using hb];rfl
   rw[if_neg (by simp[List.isPrefixOf,Ne.symm hb]),hx,ih,List.length_cons]
   by_cases h:l.idxOf 46<l.length
   ·simp only[if_pos h]
    rw[if_neg (by simp only[beq_iff_eq];omega),if_pos (by omega)]
    push_cast;rfl
   ·simp only[if_neg h]
    rw[if_pos (by decide),if_neg (by omega)]
theorem y0c{s:ByteArray}{k:Nat}:(s.extract k s.size).size=s.size - k:=by rw[ByteArray.size_extract];omega
theorem w0s{s:ByteArray}{k:Nat}(hk:k<=s.size):Go.Lib.indexB (s.extract k s.size) dotB=if dot s k<s.size then ((dot s k - k:Nat):Int) else -1:=by
 show Go.Lib.index (bts (s.extract k s.size)) [46]=_
 rw[v3x,w87,List.length_drop,Gk]
 have e:dot s k - k=((bts s).drop k).idxOf 46:=by unfold dot;omega
 rw[e]
 have hg:=v3y (s:=s) (k:=k)
 by_cases h:dot s k<s.size
 ·rw[if_pos h,if_pos (by omega)]
 ·rw[if_neg h,if_neg (by omega)]
def pc(s:ByteArray)(k:Nat):List ByteArray:=Go.Lib.splitB dotB 0 (Go.Lib.countB (s.extract k s.size) dotB) (s.extract k s.size)
theorem ext2{s:ByteArray}{k i:Nat}(h:k+i<=s.size):(s.extract k s.size).extract 0 i=s.extract k (k+i):=by
 apply ByteArray.ext
 have:s.data.size=s.size:=rfl
 simp only[ByteArray.data_extract,Array.extract_extract]
 congr 1
 omega
theorem ext3{s:ByteArray}{k i:Nat}:(s.extract k s.size).extract i (s.extract k s.size).size=s.extract (k+i) s.size:=by
 apply ByteArray.ext
 rw[y0c]
 have:s.data.size=s.size:=rfl
 simp only[ByteArray.data_extract,Array.extract_extract]
 congr 1
 omega
theorem w0t{s:ByteArray}{k:Nat}(hk:k<=s.size)(h: ¬dot s k<s.size):pc s k=[s.extract k s.size]:=by
 unfold pc
 exact Go.Lib.splitB_miss _ _ _ _ (by rw[w0s hk,if_neg h])
theorem w30{s:ByteArray}{k:Nat}(hk:k<=s.size)(h:dot s k<s.size):pc s k=s.extract k (dot s k)::pc s (dot s k+1):=by
 have hi:=w0s hk
 rw[if_pos h] at hi
 have hg:=v3y (s:=s) (k:=k)
 unfold pc
 rw[Go.Lib.countB_hit _ dotB _ (by decide) hi,Nat.add_comm,Go.Lib.splitB_hit _ _ _ _ _ hi]
 have e1:dotB.size=1:=rfl
 rw[Nat.add_zero,e1,ext2 (by omega),ext3,show k+(dot s k - k)=dot s k by omega,show k+(dot s k - k+1)=dot s k+1 by omega]
theorem u2f{p:Nat->Prop}: ∀n,p n-> ∃n,p n/\ ∀k,k<n-> ¬p k:=by
 intro n
 induction n using Nat.strongRecOn with
 |_ n ih=>
  intro h
  by_cases hx: ∃k,k<n/\p k
  ·obtain⟨k,hk,hp⟩:=hx;exact ih k hk hp
  ·exact⟨n,h,fun k hk hp=>hx ⟨k,hk,hp⟩⟩
theorem u0f{s:ByteArray}{k:Nat}(hk:k<=s.size):0<(pc s k).length:=by
 by_cases h:dot s k<s.size
 ·rw[w30 hk h];simp
 ·rw[w0t hk h];simp
theorem w88{s:ByteArray}:Go.En.q0y s dotB=pc s 0:=by
 unfold Go.En.q0y pc
 have e:s.extract 0 s.size=s:=by simp
 rw[e]
theorem w0u{s:ByteArray}:(Go.En.q0y s dotB).length=3↔dot s 0<s.size/\dot s (dot s 0+1)<s.size/\ ¬dot s (dot s (dot s 0+1)+1)<s.size:=by
 rw[w88]
 by_cases h0:dot s 0<s.size
 ·rw[w30 (by omega) h0]
  by_cases h1:dot s (dot s 0+1)<s.size
  ·rw[w30 (by omega) h1]
   by_cases h2:dot s (dot s (dot s 0+1)+1)<s.size
   ·have:=u0f (s:=s) (k:=dot s (dot s (dot s 0+1)+1)+1) (by omega)
    rw[w30 (by omega) h2]
    simp only[List.length_cons]
    exact⟨fun e=>by omega,fun e=>absurd h2 e.2.2⟩
   ·rw[w0t (by omega) h2];simp[h0,h1,h2]
  ·rw[w0t (by omega) h1];simp[h1]
 ·rw[w0t (by omega) h0];simp[h0]
theorem v1x{s:ByteArray}(h:dot s 0<s.size/\dot s (dot s 0+1)<s.size/\ ¬dot s (dot s (dot s 0+1)+1)<s.size):Go.En.q0y s dotB=[s.extract 0 (dot s 0),s.extract (dot s 0+1) (dot s (dot s 0+1)),s.extract (dot s (dot s 0+1)+1) (dot s (dot s (dot s 0+1)+1))]:=by
 obtain⟨h0,h1,h2⟩:=h
 rw[w88,w30 (by omega) h0,w30 (by omega) h1,w0t (by omega) h2]
 have:=y45 (s:=s) (k:=dot s (dot s 0+1)+1) (by omega)
 rw[show dot s (dot s (dot s 0+1)+1)=s.size by omega]
theorem j5v{s t:List UInt8}:Go.Lib.contains s t=true↔ ∃i,i+t.length<=s.length/\(s.drop i).take t.length=t:=by
 have key:Go.Lib.contains s t=true↔ ∃i,i<=s.length/\Go.Lib.occAt s t i=true:=by
  unfold Go.Lib.contains
  constructor
  ·intro h
   have hge:0<=Go.Lib.index s t:=by simpa using h
   by_cases hx: ∃i,i<=s.length/\Go.Lib.occAt s t i=true
   ·exact hx
   ·have:=Go.Lib.index_none (s:=s) (sub:=t) (fun j hj=>by
     cases hb:Go.Lib.occAt s t j with
     |false=>rfl
     |true=>exact absurd ⟨j,hj,hb⟩ hx)
    omega
  ·rintro⟨i,hi,ho⟩
   obtain⟨j,⟨hj,hjo⟩,hmin⟩:=u2f (p:=fun j=>j<=s.length/\Go.Lib.occAt s t j=true) i ⟨hi,ho⟩
   have:=Go.Lib.index_first hj hjo (fun k hk=>by
    cases hb:Go.Lib.occAt s t k with
    |false=>rfl
    |true=>exact absurd ⟨by omega,hb⟩ (hmin k hk))
   rw[this];simp
 rw[key]
 constructor
 ·rintro⟨i,hi,ho⟩
  unfold Go.Lib.occAt at ho
  have hp:=List.isPrefixOf_iff_prefix.1 ho
  have hl:=hp.length_le
  rw[List.length_drop] at hl
  exact⟨i,by omega,(List.prefix_iff_eq_take.1 hp).symm⟩
 ·rintro⟨i,hi,ho⟩
  refine⟨i,by omega,?_⟩
  unfold Go.Lib.occAt
  rw[List.isPrefixOf_iff_prefix,List.prefix_iff_eq_take]
  exact ho.symm
end Go.Sg
end
