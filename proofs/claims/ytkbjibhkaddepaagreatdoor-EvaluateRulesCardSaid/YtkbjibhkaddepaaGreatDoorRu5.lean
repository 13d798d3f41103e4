/- In words: other rules and another default change nothing for a subject that is targeted, in an experiment of the flag, or fails a prerequisite; for every input the law returns true. This is part 5 of 10. Conditions: those in the statements. -/
import Derived.Test.YtkbjibhkaddepaaGreatDoorRu4
import Derived.KernelRfl
import Derived.Lib.AppendIntMem
import Derived.Conc.MuLone
import GoSem.Core.Utf8
import Derived.Lib.ValidU
noncomputable section
set_option maxRecDepth 100000
namespace Go.Proofs.YtkbjibhkaddepaaGreatDoor
open Go Go.Proofs Go.RowKit Go.Fl
set_option maxHeartbeats 2000000 in
theorem q3h{σ:Hv}{w:World}(s_p:(List ByteArray))(v1:Value){K:(List ByteArray)->Prop}(hV:View σ w)(hr1:RSl 1 (REnc Qj) σ v1 s_p)(hP:Zi s_p K):
    Calls Tryz.prog 143 #[v1] w (fun e w1=> ∃(r1:(List ByteArray)) (v2:Value),e= .returned v2/\St ⟨w,σ,[]⟩ w1 σ [vec v2 9 1 r1.length ((r1).flatMap Qj)]/\Sml r1.length/\K r1):=by
 unfold Zi at hP
 obtain⟨a1,cap1,rfl⟩:=hr1.shape
 refine enter Tryz.func143 rfl rfl rfl ?_
 have hS:=St.start hV
 refine Qu (Qv (v:=(.slice none 0 0)) rfl (wpList_nil (Qo (wp_seq (Qu (Zb (v:=(.slice a1 s_p.length cap1)) rfl ?_))))))
 replace hP:=hP a1.isNone (RSl.isNil hr1)
 obtain⟨r1_,hn1⟩: ∃r:Bool,a1.isNone=r:=⟨_,rfl⟩
 rw[hn1] at hP
 refine y0i Tryz.underlying70 rfl hn1 (wpList_nil (Qo ?_))
 refine if_b rfl (fun ht1=> ?_) (fun ht1=> ?_)
 ·
  replace hP:=hP.1 ht1
  refine Qu (Qv (v:=(.slice none 0 0)) rfl (wpList_nil (Qo (wp_ret (R6 (ret1 rfl (show ev _ _ _=(.slice none 0 0) from rfl) ?_))))))
  have hS1:=hS.addNil 9 1
  exact⟨[],(.slice none 0 0),rfl,(St.back hS1 (Sub.refl _)),(by simp[Sml]),hP⟩
 ·
  replace hP:=hP.2 (by first|(rw[ht1];exact Bool.false_ne_true)|simp[ht1])
  refine wp_skip (Qo (Qu (j59 (cs:=[]) (e:=9) hS (fun _=>by kernel_rfl) ?_)))
  intro b1 w1 hS2
  refine Zb (v:=(.slice a1 s_p.length cap1)) rfl ?_
  have hS3:=hS2.asVec (i:=0) (ms':=[vec (.slice (some ⟨b1,0,none⟩) 0 0) 9 1 0 []]) (size:=1) rfl rfl (by unfold maxLen;omega) rfl
  obtain⟨hsm1,hP⟩:=hP
  refine y7u (enc:=Qj) (l:=s_p) (Ms:=fun v3=>[vec v3 9 1 s_p.length ((s_p).flatMap Qj)]) (k':=s_p.length) (xs':=(s_p).flatMap Qj) Tryz.underlying70 Tryz.type9 rfl rfl (bytes:=16) rfl rfl (Nat.succ_pos _) hS3 rfl (q:=0) rfl rfl hr1 hS3.view q4s v5r hsm1 (by omega) (by first|rfl|exact List.length_append.symm|simp) (List.nil_append _) (fun _=>rfl) ?_
  intro v3 w2 ho1 hS4
  refine Qv (v:=v3) rfl (wpList_nil (Qo (wp_ret (ret1 rfl (show ev _ _ _=v3 from rfl) ?_))))
  exact⟨s_p,v3,rfl,(St.back hS4 (Sub.refl _)),hsm1,hP⟩
set_option maxHeartbeats 2000000 in
theorem q3i{σ:Hv}{w:World}(s_p:(List ByteArray))(v_p:ByteArray)(v1:Value){K:Int->Prop}(hV:View σ w)(hr1:RSl 1 (REnc Qj) σ v1 s_p)(hP:Zj s_p v_p K):
    Calls Tryz.prog 79 #[v1,(.string v_p)] w (fun e w1=> ∃(r1:Int),e= .returned (.int .i64 r1)/\Grow [] σ w σ w1/\K r1):=by
 unfold Zj at hP
 obtain⟨a1,cap1,rfl⟩:=hr1.shape
 refine enter Tryz.func79 rfl rfl rfl ?_
 have hS:=St.start hV
 refine Qu (Qv (v:=(.int .i64 (0:Int))) rfl (wpList_nil (Qo (wp_seq (Qu (Zb (v:=(.slice a1 s_p.length cap1)) rfl (z1i rfl Tryz.underlying70 ?_)))))))
 have hlen1:=RSl.len63 hr1
 replace hP:=hP hlen1
 refine Zb (v:=(.int .i64 (0:Int))) rfl (wpList_nil (Qo (wp_block ?_)))
 refine w2t (fun k_2 f z=> ∃(σ1:Hv) (g:Fr),f=(upd (upd (upd (upd g 0 (.slice a1 s_p.length cap1)) 1 (.string v_p)) 7 (.int .i64 ((s_p.length:Nat):Int))) 8 (.int .i64 ((k_2:Nat):Int)))/\St ⟨w,σ,[]⟩ z σ1 []/\Sub σ σ1) hP ⟨σ,_,(Zw rfl (Zw rfl (Zw rfl (Zw rfl rfl)))),hS,(Sub.refl _)⟩ ?_
 clear hP
 rintro k_2 Y1 hP f w1 ⟨σ1,g,rfl,hS1,hsub1⟩
 refine Qu (v5g (r:=(decide (((k_2:Nat):Int)<((s_p.length:Nat):Int)))) rfl rfl rfl (wpList_nil (Qo (wp_seq ?_))))
 refine if_d (((k_2:Nat):Int)<((s_p.length:Nat):Int)) rfl (fun ht1=> ?_) (fun ht1=> ?_)
 ·
  replace hP:=hP.1 ht1
  refine wp_skip (Qo (wp_seq (wp_block (Qu (Zb (v:=(.int .i64 ((k_2:Nat):Int))) rfl (Qv (v:=(.int .i64 ((k_2:Nat):Int))) rfl (wpList_nil (Qo (Qu (Zb (v:=(.string v_p)) rfl (Zb (v:=(.slice a1 s_p.length cap1)) rfl (Zb (v:=(.int .i64 ((k_2:Nat):Int))) rfl ?_))))))))))))
  obtain⟨x1_,hx1⟩:=getq (l:=s_p) (k:=k_2) (by have:=ht1;omega)
  replace hP:=hP x1_ hx1
  obtain⟨ad1,cs1,ha1,hl1,hr2,hR1,hlt1⟩:=RSl.at hr1 hx1
  cases hR1
  refine Rb (k:=k_2) (a':=(ad1.add (k_2*1))) (congrArg (fun z=>Value.slice z _ _) ha1) rfl rfl hlt1 Tryz.underlying70 Tryz.sizeOf9 rfl (q7d (v:=(.string x1_)) rfl Tryz.isAgg9 (hr2.cell (View.of hsub1 hS1.view) 0 rfl rfl) (y7l (r:=(decide (v_p=x1_))) rfl rfl rfl (wpList_nil (Qo ?_))))
  refine if_d (v_p=x1_) rfl (fun ht2=> ?_) (fun ht2=> ?_)
  ·
   replace hP:=hP.1 ht2
   refine Qu (Zb (v:=(.int .i64 ((k_2:Nat):Int))) rfl (Qv (v:=(.int .i64 ((k_2:Nat):Int))) rfl (wpList_nil (Qo (wp_ret (j49 (R6 (R6 (j49 (R6 (ret1 rfl (show ev _ _ _=(.int .i64 ((k_2:Nat):Int)) from rfl) ?_)))))))))))
   exact⟨((k_2:Nat):Int),rfl,hS1.done.forget,hP⟩
  ·
   replace hP:=hP.2 ht2
   refine wp_skip (v2x (Qo (j2k (v2w (r:=((k_2+1:Nat):Int)) rfl rfl (nw (by omega) (by omega) (by have:=hlen1;omega)) (Zb (v:=(.int .i64 ((k_2+1:Nat):Int))) rfl (wpList_nil (Qo ?_)))))))
   exact⟨k_2+1,_,rfl,hP,σ1,_,(Zw rfl (Zw rfl (Zw rfl (Zw rfl rfl)))),hS1,hsub1⟩
 ·
  replace hP:=hP.2 ht1
  refine wp_exit (z7r (z7r (j60 (Qo (Qu (Qv (v:=(.int .i64 (-1:Int))) rfl (wpList_nil (Qo (wp_ret (ret1 rfl (show ev _ _ _=(.int .i64 (-1:Int)) from rfl) ?_))))))))))
  exact⟨(-1:Int),rfl,hS1.done.forget,hP⟩
set_option maxHeartbeats 2000000 in
theorem Vh{σ:Hv}{w:World}(s_p:(List ByteArray))(v_p:ByteArray)(v1:Value){K:Bool->Prop}(hV:View σ w)(hr1:RSl 1 (REnc Qj) σ v1 s_p)(hP:Qy s_p v_p K):
    Calls Tryz.prog 45 #[v1,(.string v_p)] w (fun e w1=> ∃(r1:Bool),e= .returned (.bool (r1))/\Grow [] σ w σ w1/\K r1):=by
 unfold Qy at hP
 obtain⟨a1,cap1,rfl⟩:=hr1.shape
 refine enter Tryz.func45 rfl rfl rfl ?_
 have hS:=St.start hV
 refine Qu (Qv (v:=(.bool false)) rfl (wpList_nil (Qo (Qu (Zb (v:=(.slice a1 s_p.length cap1)) rfl (Zb (v:=(.string v_p)) rfl ?_))))))
 obtain⟨Y1,hK1,hc1⟩:=hP
 refine q8v (args:=[(.slice a1 s_p.length cap1),(.string v_p)]) rfl Tryz.call79 (Calls.mono (q3i s_p v_p (.slice a1 s_p.length cap1) hS.view hr1 hc1) ?_)
 rintro _ w1 ⟨r1_,rfl,hg1,hY1⟩
 refine⟨_,rfl,?_⟩
 have hS1:=hS.grow hg1
 replace hP:=hK1 r1_ hY1
 refine y7k (r:=(decide ((0:Int)<=r1_))) rfl rfl rfl (Qv (v:=(.bool (decide ((0:Int)<=r1_)))) rfl (wpList_nil (Qo (wp_ret (ret1 rfl (show ev _ _ _=(.bool (decide ((0:Int)<=r1_))) from rfl) ?_)))))
 exact⟨(decide ((0:Int)<=r1_)),rfl,hS1.done.forget,hP⟩
set_option maxHeartbeats 2000000 in
theorem w_graph_Order{σ:Hv}{w:World}(nodes_p:(List ByteArray))(edges_p:(List (ByteArray×ByteArray)))(v1:Value)(v2:Value){K:(List ByteArray)->Int->Prop}(hV:View σ w)(hr1:RSl 1 (REnc Qj) σ v1 nodes_p)(hr2:RSl 2 (REnc y7v) σ v2 edges_p)(hP:P_graph_Order nodes_p edges_p K):
    Calls Tryz.prog 178 #[v1,v2] w (fun e w1=> ∃(r1:(List ByteArray)) (r2:Int) (v3:Value),e= .returned (.tuple #[v3,(.int .i64 r2)])/\St ⟨w,σ,[]⟩ w1 σ [vec v3 9 1 r1.length ((r1).flatMap Qj)]/\Sml r1.length/\K r1 r2):=by
 unfold P_graph_Order at hP
 obtain⟨a1,cap1,rfl⟩:=hr1.shape
 obtain⟨a2,cap2,rfl⟩:=hr2.shape
 refine enter Tryz.func178 rfl rfl rfl ?_
 have hS:=St.start hV
 refine Qu (Qv (v:=(.slice none 0 0)) rfl (Qv (v:=(.int .i64 (0:Int))) rfl (wpList_nil (Qo (Qu (Zb (v:=(.slice a1 nodes_p.length cap1)) rfl (q8v (args:=[(.slice a1 nodes_p.length cap1)]) rfl Tryz.call222 ?_)))))))
 refine enter Tryz.func222 rfl rfl rfl ?_
 refine Qu (y9x (cs:=[(.slice a1 nodes_p.length cap1)]) hS rfl rfl ?_)
 intro b1 w1 hS1
 refine Qv (v:= .nilFunc) rfl (wpList_nil (Qo (Qu (j2l (la:=[]) (lb:=[(.pointer (some ⟨b1,0,none⟩))]) rfl rfl (Qv (v:=(.func (.func 269) #[] #[(.pointer (some ⟨b1,0,none⟩))])) rfl (wpList_nil (Qo (wp_ret (ret1 rfl (show ev _ _ _=(.func (.func 269) #[] #[(.pointer (some ⟨b1,0,none⟩))]) from rfl) ?_)))))))))
 refine⟨_,rfl,?_⟩
 refine q8v (args:=[(.func (.func 269) #[] #[(.pointer (some ⟨b1,0,none⟩))])]) rfl Tryz.call221 ?_
 refine enter Tryz.func221 rfl rfl rfl ?_
 refine Qu (Qv (v:=(.slice none 0 0)) rfl (wpList_nil (Qo (Qu (Zb (v:=(.func (.func 269) #[] #[(.pointer (some ⟨b1,0,none⟩))])) rfl (q8v (args:=[(.func (.func 269) #[] #[(.pointer (some ⟨b1,0,none⟩))])]) rfl Tryz.call268 ?_))))))
 refine enter Tryz.func268 rfl rfl rfl ?_
 refine Qu (Qv (v:=(.slice none 0 0)) rfl (wpList_nil (Qo (Qu (Zb (v:=(.func (.func 269) #[] #[(.pointer (some ⟨b1,0,none⟩))])) rfl ?_)))))
 obtain⟨σ1,hS2,hsub1,hfr1⟩:=hS1.freeze' (i:=0) rfl rfl
 have hB1:σ1 b1=some (.cells #[(.slice a1 nodes_p.length cap1)] 70 (0,0)):=(hfr1 _ rfl).trans (hS1.get (i:=0) rfl)
 obtain⟨hsm1,hP⟩:=hP
 refine q8v (args:=[(.slice none 0 0),(.func (.func 269) #[] #[(.pointer (some ⟨b1,0,none⟩))])]) rfl Tryz.call296 (Calls.mono (u0o b1 (.slice a1 nodes_p.length cap1) nodes_p hS2.view hB1 (RSl.menc hsub1 hr1) hsm1) ?_)
 rintro _ w2 ⟨v4,rfl,hg1,ho1⟩
 refine⟨_,rfl,?_⟩
 have hS3:=hS2.growAdd hg1 (o:=vec v4 9 1 nodes_p.length ((nodes_p).flatMap Qj)) ho1
 refine Qv (v:=v4) rfl (wpList_nil (Qo (wp_ret (ret1 rfl (show ev _ _ _=v4 from rfl) ?_))))
 refine⟨_,rfl,?_⟩
 refine Qv (v:=v4) rfl (wpList_nil (Qo (Qu (Zb (v:=v4) rfl ?_))))
 refine q8v (args:=[v4]) rfl Tryz.call137 (Calls.mono (v06 Tryz.slices_Sort_string Tryz.slices_Sort_string_none hS3.view (hS3.get (i:=0) rfl) rfl (fun b hb=>hS3.off _ (List.mem_of_getElem? (i:=0) rfl) b hb) (by have:=hsm1;unfold Sml at this;omega)) ?_)
 rintro _ w3 ⟨rfl,hg2,ho2⟩
 refine⟨_,rfl,?_⟩
 have hS4:=hS3.growV (i:=0) (o':=vec v4 9 1 nodes_p.length ((srt nodes_p).flatMap Qj)) rfl hg2 rfl ho2 (ms':=[vec v4 9 1 nodes_p.length ((srt nodes_p).flatMap Qj)]) rfl
 have hS5:=hS4.re (ms':=[vec v4 9 1 ((srt nodes_p).length) ((srt nodes_p).flatMap Qj)]) (by simp only[Jv])
 refine wpList_nil (Qo (Qu (Zb (v:=v4) rfl (Qv (v:=v4) rfl (wpList_nil (Qo (wp_ret (ret1 rfl (show ev _ _ _=v4 from rfl) ?_))))))))
 refine⟨_,rfl,?_⟩
 refine Qv (v:=v4) rfl (wpList_nil (Qo (wp_seq (Qu (Zb (v:=v4) rfl ?_)))))
 obtain⟨σ2,hS6,hsub2,hr4⟩:=hS5.peek (i:=0) rfl q4s (show Sml (srt nodes_p).length by rw[Jv];exact hsm1)
 obtain⟨Y1,hK1,hc1⟩:=hP
 refine q8v (args:=[v4]) rfl Tryz.call143 (Calls.mono (q3h (srt nodes_p) v4 hS6.view hr4 hc1) ?_)
 rintro _ w4 ⟨r1_,v5,rfl,hg3,hl1,hY1⟩
 refine⟨_,rfl,?_⟩
 have hS7:=St.callM (ins:=[]) (rest:=[vec v4 9 1 ((srt nodes_p).length) ((srt nodes_p).flatMap Qj)]) (ms':=[vec v5 9 1 r1_.length ((r1_).flatMap Qj),vec v4 9 1 ((srt nodes_p).length) ((srt nodes_p).flatMap Qj)]) hS5 (St.back hg3 hsub2) rfl
 replace hP:=hK1 r1_ hY1
 obtain⟨hsm2,hP⟩:=hP
 refine q8v (args:=[v5]) rfl Tryz.call220 (Calls.mono (j68 Tryz.slices_Compact_string Tryz.slices_Compact_string_empty hS7.view (hS7.get (i:=0) rfl) rfl (fun b hb=>hS7.off _ (List.mem_of_getElem? (i:=0) rfl) b hb) (by have:=hl1;unfold Sml at this;omega)) ?_)
 rintro _ w5 ⟨v6,rfl,hf1,hg4,ho3⟩
 refine⟨_,rfl,?_⟩
 have ho4:=q0c ho3
 have hS8:=hS7.growV (i:=0) (o':=vec v6 9 1 ((cpt r1_).length) ((cpt r1_).flatMap Qj)) rfl hg4 hf1 ho3 (ms':=[vec v6 9 1 ((cpt r1_).length) ((cpt r1_).flatMap Qj),vec v4 9 1 ((srt nodes_p).length) ((srt nodes_p).flatMap Qj)]) rfl
 refine z94 hS8 rfl (i:=0) rfl Tryz.underlying70 ?_
 have hlen1:(cpt r1_).length<=9223372036854775807:=by have:=hsm2;unfold Sml at this;omega
 replace hP:=hP hlen1
 refine Zb (v:=v4) rfl (z94 hS8 rfl (i:=1) rfl Tryz.underlying70 ?_)
 have hlen2:(srt nodes_p).length<=9223372036854775807:=by have:=(show Sml (srt nodes_p).length by rw[Jv];exact hsm1);unfold Sml at this;omega
 replace hP:=hP hlen2
 refine y9v (r:=(!decide ((((cpt r1_).length:Nat):Int)=(((srt nodes_p).length:Nat):Int)))) rfl rfl rfl (wpList_nil (Qo ?_))
 refine y7m ((((cpt r1_).length:Nat):Int)=(((srt nodes_p).length:Nat):Int)) rfl (fun ht1=> ?_) (fun ht1=> ?_)
 ·
  replace hP:=hP.2 ht1
  refine Qu (Qv (v:=(.slice none 0 0)) rfl (Qv (v:=(.int .i64 (10:Int))) rfl (wpList_nil (Qo (wp_ret (R6 (ret2 rfl (show ev _ _ _=(.slice none 0 0) from rfl) (show ev _ _ _=(.int .i64 (10:Int)) from rfl) ?_)))))))
  have hS9:=hS8.addNil 9 1
  exact⟨[],(10:Int),(.slice none 0 0),rfl,(St.back (hS9.keep 1 (ms':=[vec (.slice none 0 0) 9 1 0 []]) rfl) (Sub.refl _)),(by simp[Sml]),hP⟩
 ·
  replace hP:=hP.1 ht1
  refine wp_skip (Qo (Qu (v25 9 1 Qj hS8 ?_)))
  intro b2 w6 hS10
  refine w8k (cs:=[(.map none)]) hS10 Tryz.zeroValue313 rfl ?_
  intro b3 w7 hS11
  refine w8j (T:=313) (vs:=[(.map (some b2))]) (cs':=[(.map (some b2))]) (ms':=(blk b3 313 [(.map (some b2))]::smap b2 (asl [])::vec v6 9 1 ((cpt r1_).length) ((cpt r1_).flatMap Qj)::vec v4 9 1 ((srt nodes_p).length) ((srt nodes_p).flatMap Qj)::Hl 9 1 Qj [])) (i:=0) hS11 rfl rfl rfl Tryz.sizeOf313 rfl (ones rfl) rfl (Nat.le_of_ble_eq_true rfl) rfl rfl ?_
  intro w8 hS12
  refine wpList_nil (Qo (wp_seq (Qu (Zb (v:=(.slice a2 edges_p.length cap2)) rfl (z1i rfl Tryz.underlying177 ?_)))))
  have hlen3:=RSl.len63 hr2
  replace hP:=hP hlen3
  refine Zb (v:=(.int .i64 (0:Int))) rfl (wpList_nil (Qo (wp_block ?_)))
  have hS13:=hS12.front 3 rfl (ms':=(vec v4 9 1 ((srt nodes_p).length) ((srt nodes_p).flatMap Qj)::blk b3 313 [(.map (some b2))]::smap b2 (asl [])::vec v6 9 1 ((cpt r1_).length) ((cpt r1_).flatMap Qj)::Hl 9 1 Qj [])) rfl
  have hS14:=hS13.front 3 rfl (ms':=(vec v6 9 1 ((cpt r1_).length) ((cpt r1_).flatMap Qj)::vec v4 9 1 ((srt nodes_p).length) ((srt nodes_p).flatMap Qj)::blk b3 313 [(.map (some b2))]::smap b2 (asl [])::Hl 9 1 Qj [])) rfl
  have hS15:=hS14.front 2 rfl (ms':=(blk b3 313 [(.map (some b2))]::vec v6 9 1 ((cpt r1_).length) ((cpt r1_).flatMap Qj)::vec v4 9 1 ((srt nodes_p).length) ((srt nodes_p).flatMap Qj)::smap b2 (asl [])::Hl 9 1 Qj [])) rfl
  have hS16:=hS15.front 3 rfl (ms':=(smap b2 (asl [])::blk b3 313 [(.map (some b2))]::vec v6 9 1 ((cpt r1_).length) ((cpt r1_).flatMap Qj)::vec v4 9 1 ((srt nodes_p).length) ((srt nodes_p).flatMap Qj)::Hl 9 1 Qj [])) rfl
  refine y0f (fun k_3 F_2 f z=> ∃(es2:EL ByteArray) (σ3:Hv) (g:Fr),f=(upd (upd (upd (upd (upd g 6 v4) 7 (.pointer (some ⟨b3,0,none⟩))) 24 (.slice a2 edges_p.length cap2)) 25 (.int .i64 ((edges_p.length:Nat):Int))) 26 (.int .i64 ((k_3:Nat):Int)))/\St ⟨w,σ,[]⟩ z σ3 (smap b2 (asl es2)::blk b3 313 [(.map (some b2))]::vec v6 9 1 ((cpt r1_).length) ((cpt r1_).flatMap Qj)::vec v4 9 1 ((srt nodes_p).length) ((srt nodes_p).flatMap Qj)::Hl 9 1 Qj es2)/\Sub σ1 σ3/\ELF es2 F_2) hP ⟨[],σ1,_,(Zw rfl (Zw rfl (Zw rfl (Zw rfl (Zw rfl rfl))))),hS16,(Sub.refl _),ELF.nil⟩ ?_
  clear hP
  rintro k_3 F_2 Y2 hP f w9 ⟨es2,σ3,g,rfl,hS17,hsub3,hF2⟩
  refine Qu (v5g (r:=(decide (((k_3:Nat):Int)<((edges_p.length:Nat):Int)))) rfl rfl rfl (wpList_nil (Qo (wp_seq ?_))))
  refine if_d (((k_3:Nat):Int)<((edges_p.length:Nat):Int)) rfl (fun ht2=> ?_) (fun ht2=> ?_)
  ·
   replace hP:=hP.1 ht2
   refine wp_skip (Qo (wp_seq (wp_block (Qu ?_))))
   obtain⟨x1_,hx1⟩:=getq (l:=edges_p) (k:=k_3) (by have:=ht2;omega)
   replace hP:=hP x1_ hx1
   obtain⟨ad1,cs1,ha1,hl2,hr6,hR1,hlt1⟩:=RSl.at hr2 hx1
   cases hR1
   refine Rb (k:=k_3) (a':=(ad1.add (k_3*2))) (congrArg (fun z=>Value.slice z _ _) ha1) rfl rfl hlt1 Tryz.underlying177 Tryz.sizeOf238 rfl (y35 (cs:=[(.string x1_.1),(.string x1_.2)]) rfl Tryz.isAgg238 Tryz.sizeOf238 rfl (hr6.row (View.of (Sub.trans hsub1 hsub3) hS17.view)) (w8k (cs:=[(.string (⟨#[]⟩:ByteArray)),(.string (⟨#[]⟩:ByteArray))]) hS17 Tryz.zeroValue238 rfl ?_))
   intro b4 w10 hS18
   refine w8j (T:=238) (vs:=[(.string x1_.1),(.string x1_.2)]) (cs':=[(.string x1_.1),(.string x1_.2)]) (ms':=(blk b4 238 [(.string x1_.1),(.string x1_.2)]::smap b2 (asl es2)::blk b3 313 [(.map (some b2))]::vec v6 9 1 ((cpt r1_).length) ((cpt r1_).flatMap Qj)::vec v4 9 1 ((srt nodes_p).length) ((srt nodes_p).flatMap Qj)::Hl 9 1 Qj es2)) (i:=0) hS18 rfl rfl rfl Tryz.sizeOf238 rfl (ones rfl) rfl (Nat.le_of_ble_eq_true rfl) rfl rfl ?_
   intro w11 hS19
   refine wpList_nil (Qo (wp_seq (Qu (Zb (v:=v4) rfl (j6x (a':=⟨b4,0,none⟩) rfl Tryz.underlying238 rfl Tryz.sizeOf9 rfl (q7d (v:=(.string x1_.1)) rfl Tryz.isAgg9 (hS19.cell (i:=0) rfl rfl) ?_))))))
   obtain⟨σ4,hS20,hsub4,hr7⟩:=hS19.peek (i:=4) rfl q4s (show Sml (srt nodes_p).length by rw[Jv];exact hsm1)
   obtain⟨Y3,hK2,hc2⟩:=hP
   refine q8v (args:=[v4,(.string x1_.1)]) rfl Tryz.call45 (Calls.mono (Vh (srt nodes_p) x1_.1 v4 hS20.view hr7 hc2) ?_)
   rintro _ w12 ⟨r2_,rfl,hg5,hY2⟩
   refine⟨_,rfl,?_⟩
   have hg5b:=hg5.back hsub4
   have hS21:=hS19.grow hg5b
   replace hP:=hK2 r2_ hY2
   refine v97 (r:=(!r2_)) rfl rfl ?_
   rcases Bool.eq_false_or_eq_true (r2_) with hb1|hb1
   ·
    replace hP:=hP.1 hb1
    refine Zb (v:=(.bool false)) (congrArg Value.bool (congrArg Bool.not hb1)) (o_on rfl rfl (Zb (v:=v4) rfl (o_on rfl rfl (j6x (a':=⟨b4,1,none⟩) rfl Tryz.underlying238 rfl Tryz.sizeOf9 rfl (o_on rfl rfl (q7d (v:=(.string x1_.2)) rfl Tryz.isAgg9 (hS21.cell (i:=0) rfl rfl) (o_on rfl rfl ?_)))))))
    obtain⟨σ5,hS22,hsub5,hr8⟩:=hS21.peek (i:=4) rfl q4s (show Sml (srt nodes_p).length by rw[Jv];exact hsm1)
    obtain⟨Y4,hK3,hc3⟩:=hP
    refine q8v (args:=[v4,(.string x1_.2)]) rfl Tryz.call45 (Calls.mono (Vh (srt nodes_p) x1_.2 v4 hS22.view hr8 hc3) ?_)
    rintro _ w13 ⟨r3_,rfl,hg6,hY3⟩
    refine⟨_,rfl,?_⟩
    have hg6b:=hg6.back hsub5
    have hS23:=hS21.grow hg6b
    replace hP:=hK3 r3_ hY3
    refine o_on rfl rfl (v97 (r:=(!r3_)) rfl rfl (v95 (v:=(.bool (!r3_))) rfl rfl (wpList_nil (Qo ?_))))
    refine y7n rfl (fun ht3=> ?_) (fun ht3=> ?_)
    ·
     replace hP:=hP.2 (by first|(rw[ht3];exact Bool.false_ne_true)|simp[ht3])
     refine Qu (Qv (v:=(.slice none 0 0)) rfl (Qv (v:=(.int .i64 (11:Int))) rfl (wpList_nil (Qo (wp_ret (R6 (j49 (R6 (R6 (j49 (R6 (ret2 rfl (show ev _ _ _=(.slice none 0 0) from rfl) (show ev _ _ _=(.int .i64 (11:Int)) from rfl) ?_))))))))))))
     have hS24:=hS23.addNil 9 1
     exact⟨[],(11:Int),(.slice none 0 0),rfl,(St.back (hS24.keep 1 (ms':=[vec (.slice none 0 0) 9 1 0 []]) rfl) (Sub.refl _)),(by simp[Sml]),hP⟩
    ·
     replace hP:=hP.1 ht3
     refine wp_skip (Qo (dr (fun z=>St ⟨w,σ,[]⟩ z σ3 [blk b4 238 [(.string x1_.1),(.string x1_.2)],blk b3 313 [(.map (some b2))],vec v6 9 1 ((cpt r1_).length) ((cpt r1_).flatMap Qj),vec v4 9 1 ((srt nodes_p).length) ((srt nodes_p).flatMap Qj)]) (by kernel_rfl) rfl ?_))
     have hS25:=hS23.drew
     refine dt 0 1 (v:=(.map (some b2))) (by kernel_rfl) rfl rfl (fun _ _ _ h=>h) (hS25.sublist (.cons_cons _ (.cons _ (.cons_cons _ (.cons_cons _ (.cons_cons _ (List.nil_sublist _))))))) (fun _ hJ _ hK=>q7d (v:=(.map (some b2))) rfl Tryz.isAgg313 (hJ.cell (i:=1) rfl rfl) ⟨rfl,hK⟩) (dt 1 3 (v:=(.pointer (some ⟨b4,0,none⟩))) (by kernel_rfl) rfl rfl (fun _ _ _ h=>h) (hS25.sublist (.cons_cons _ (.cons _ (.cons_cons _ (.cons_cons _ (.cons_cons _ (List.nil_sublist _))))))) (fun _ _ _ hK=>j6x (a':=⟨b4,0,none⟩) rfl Tryz.underlying238 rfl Tryz.sizeOf9 rfl ⟨rfl,hK⟩) (dt 2 7 (v:=(.string x1_.1)) (by kernel_rfl) rfl rfl (fun _ _ _ h=>h) (hS25.sublist (.cons_cons _ (.cons _ (.cons_cons _ (.cons_cons _ (.cons_cons _ (List.nil_sublist _))))))) (fun _ hJ _ hK=>q7d (v:=(.string x1_.1)) rfl Tryz.isAgg9 (hJ.cell (i:=0) rfl rfl) ⟨rfl,hK⟩) (dt 3 15 (v:=(.map (some b2))) (by kernel_rfl) rfl rfl (fun _ _ _ h=>h) (hS25.sublist (.cons_cons _ (.cons _ (.cons_cons _ (.cons_cons _ (.cons_cons _ (List.nil_sublist _))))))) (fun _ hJ _ hK=>q7d (v:=(.map (some b2))) rfl Tryz.isAgg313 (hJ.cell (i:=1) rfl rfl) ⟨rfl,hK⟩) (dt 4 31 (v:=(.pointer (some ⟨b4,0,none⟩))) (by kernel_rfl) rfl rfl (fun _ _ _ h=>h) (hS25.sublist (.cons_cons _ (.cons _ (.cons_cons _ (.cons_cons _ (.cons_cons _ (List.nil_sublist _))))))) (fun _ _ _ hK=>j6x (a':=⟨b4,0,none⟩) rfl Tryz.underlying238 rfl Tryz.sizeOf9 rfl ⟨rfl,hK⟩) (dt 5 63 (v:=(.string x1_.1)) (by kernel_rfl) rfl rfl (fun _ _ _ h=>h) (hS25.sublist (.cons_cons _ (.cons _ (.cons_cons _ (.cons_cons _ (.cons_cons _ (List.nil_sublist _))))))) (fun _ hJ _ hK=>q7d (v:=(.string x1_.1)) rfl Tryz.isAgg9 (hJ.cell (i:=0) rfl rfl) ⟨rfl,hK⟩) (dt 7 191 (v:=(.pointer (some ⟨b4,1,none⟩))) (by kernel_rfl) rfl rfl (fun _ _ _ h=>h) (hS25.sublist (.cons_cons _ (.cons _ (.cons_cons _ (.cons_cons _ (.cons_cons _ (List.nil_sublist _))))))) (fun _ _ _ hK=>j6x (a':=⟨b4,1,none⟩) rfl Tryz.underlying238 rfl Tryz.sizeOf9 rfl ⟨rfl,hK⟩) (dt 8 447 (v:=(.string x1_.2)) (by kernel_rfl) rfl rfl (fun _ _ _ h=>h) (hS25.sublist (.cons_cons _ (.cons _ (.cons_cons _ (.cons_cons _ (.cons_cons _ (List.nil_sublist _))))))) (fun _ hJ _ hK=>q7d (v:=(.string x1_.2)) rfl Tryz.isAgg9 (hJ.cell (i:=0) rfl rfl) ⟨rfl,hK⟩) ?_)))))))
     refine d2 6 9 511 959 (by kernel_rfl) rfl rfl rfl rfl ?_ ?_
     ·
      obtain⟨v7,hv1⟩: ∃v,(asl es2 x1_.1).getD (.slice none 0 0)=v:=⟨_,rfl⟩
      refine v5p (i:=1) (v:=v7) hS25 rfl rfl rfl Tryz.underlying313 Tryz.underlying9 Tryz.zeroValue70 hv1 (wpList_nil ?_)
      refine⟨rfl,(hS25.sublist (.cons_cons _ (.cons _ (.cons_cons _ (.cons_cons _ (.cons_cons _ (List.nil_sublist _))))))),?_⟩
      refine d1 9 1023 (by kernel_rfl) rfl (j59 (cs:=[(.string x1_.2)]) (e:=9) hS25 (fun _=>by kernel_rfl) ?_)
      intro b5 w14 hS26
      refine wpList_nil ?_
      refine⟨rfl,(hS26.sublist (.cons _ (.cons_cons _ (.cons _ (.cons_cons _ (.cons_cons _ (.cons_cons _ (List.nil_sublist _)))))))),?_⟩
      refine d1 10 2047 (by kernel_rfl) rfl ?_
      obtain⟨es3,hS27,hL1,hl3⟩:=St.borrow (ms:=[blk b5 9 [(.string x1_.2)],blk b4 238 [(.string x1_.1),(.string x1_.2)],smap b2 (asl es2),blk b3 313 [(.map (some b2))],vec v6 9 1 ((cpt r1_).length) ((cpt r1_).flatMap Qj),vec v4 9 1 ((srt nodes_p).length) ((srt nodes_p).flatMap Qj)]) hS26 hF2 x1_.1 hv1
      obtain⟨hsm3,hP⟩:=hP
      refine y4d (Ms:=fun v8=>(vec v8 9 1 ((((F_2 x1_.1).getD [])++[x1_.2]).length) ((((F_2 x1_.1).getD [])++[x1_.2]).flatMap Qj)::blk b5 9 [(.string x1_.2)]::blk b4 238 [(.string x1_.1),(.string x1_.2)]::smap b2 (asl es2)::blk b3 313 [(.map (some b2))]::vec v6 9 1 ((cpt r1_).length) ((cpt r1_).flatMap Qj)::vec v4 9 1 ((srt nodes_p).length) ((srt nodes_p).flatMap Qj)::Hl 9 1 Qj es3)) (k':=(((F_2 x1_.1).getD [])++[x1_.2]).length) (xs':=(((F_2 x1_.1).getD [])++[x1_.2]).flatMap Qj) Tryz.underlying70 Tryz.type9 rfl rfl (bytes:=16) rfl rfl (Nat.succ_pos _) hS27 rfl (q:=0) rfl rfl rfl (q90 (hS27.get (i:=1) rfl)) (ones rfl) hsm3 (by omega) (by first|rfl|exact List.length_append.symm|simp) (by simp[Qj]) (fun _=>rfl) ?_
      intro v8 w15 ho5 hS28
      have hS29:=hS28.drop 1 (ms':=(vec v8 9 1 ((((F_2 x1_.1).getD [])++[x1_.2]).length) ((((F_2 x1_.1).getD [])++[x1_.2]).flatMap Qj)::blk b4 238 [(.string x1_.1),(.string x1_.2)]::smap b2 (asl es2)::blk b3 313 [(.map (some b2))]::vec v6 9 1 ((cpt r1_).length) ((cpt r1_).flatMap Qj)::vec v4 9 1 ((srt nodes_p).length) ((srt nodes_p).flatMap Qj)::Hl 9 1 Qj es3)) rfl
      refine wpList_nil ?_
      refine⟨rfl,(hS29.sublist (.cons _ (.cons_cons _ (.cons _ (.cons_cons _ (.cons_cons _ (.cons_cons _ (List.nil_sublist _)))))))),?_⟩
      refine d1 11 4095 (by kernel_rfl) rfl (y4a (v:=v8) (i:=2) (ms':=(vec v8 9 1 ((((F_2 x1_.1).getD [])++[x1_.2]).length) ((((F_2 x1_.1).getD [])++[x1_.2]).flatMap Qj)::blk b4 238 [(.string x1_.1),(.string x1_.2)]::smap b2 (fun k'=>if k'=x1_.1 then some v8 else asl es2 k')::blk b3 313 [(.map (some b2))]::vec v6 9 1 ((cpt r1_).length) ((cpt r1_).flatMap Qj)::vec v4 9 1 ((srt nodes_p).length) ((srt nodes_p).flatMap Qj)::Hl 9 1 Qj es3)) hS29 rfl rfl rfl rfl Tryz.underlying313 Tryz.underlying9 rfl ?_)
      intro w16 hS30
      have hS32:=St.giveback (ms:=[blk b4 238 [(.string x1_.1),(.string x1_.2)],smap b2 (fun k'=>if k'=x1_.1 then some v8 else asl es2 k'),blk b3 313 [(.map (some b2))],vec v6 9 1 ((cpt r1_).length) ((cpt r1_).flatMap Qj),vec v4 9 1 ((srt nodes_p).length) ((srt nodes_p).flatMap Qj)]) (ms':=[blk b4 238 [(.string x1_.1),(.string x1_.2)],smap b2 (asl ((x1_.1,v8,((F_2 x1_.1).getD [])++[x1_.2])::es3)),blk b3 313 [(.map (some b2))],vec v6 9 1 ((cpt r1_).length) ((cpt r1_).flatMap Qj),vec v4 9 1 ((srt nodes_p).length) ((srt nodes_p).flatMap Qj)]) (i:=1) hS30 hL1 rfl rfl
      have hF3:=ELF.put (v:=v8) hF2 hL1 hsm3
      refine wpList_nil ?_
      refine⟨rfl,(hS32.sublist (.cons_cons _ (.cons _ (.cons_cons _ (.cons_cons _ (.cons_cons _ (List.nil_sublist _))))))),j6a (J':=fun z=>St ⟨w,σ,[]⟩ z σ3 (blk b4 238 [(.string x1_.1),(.string x1_.2)]::smap b2 (asl ((x1_.1,v8,((F_2 x1_.1).getD [])++[x1_.2])::es3))::blk b3 313 [(.map (some b2))]::vec v6 9 1 ((cpt r1_).length) ((cpt r1_).flatMap Qj)::vec v4 9 1 ((srt nodes_p).length) ((srt nodes_p).flatMap Qj)::Hl 9 1 Qj ((x1_.1,v8,((F_2 x1_.1).getD [])++[x1_.2])::es3))) (fun w h=>h.sublist (.cons_cons _ (.cons _ (.cons_cons _ (.cons_cons _ (.cons_cons _ (List.nil_sublist _))))))) _ _ _ _ ?_⟩
      refine dz (by kernel_rfl) (v2x (Qo (j2k (v2w (r:=((k_3+1:Nat):Int)) rfl rfl (nw (by omega) (by omega) (by have:=hlen3;omega)) (Zb (v:=(.int .i64 ((k_3+1:Nat):Int))) rfl (wpList_nil (Qo ?_)))))))
      exact⟨k_3+1,(put F_2 x1_.1 (((F_2 x1_.1).getD [])++[x1_.2])),_,rfl,hP,((x1_.1,v8,((F_2 x1_.1).getD [])++[x1_.2])::es3),σ3,_,(Zw rfl (Zw rfl (Zw rfl (Zw rfl (Zw rfl rfl))))),(hS32.sublist (ms':=(smap b2 (asl ((x1_.1,v8,((F_2 x1_.1).getD [])++[x1_.2])::es3))::blk b3 313 [(.map (some b2))]::vec v6 9 1 ((cpt r1_).length) ((cpt r1_).flatMap Qj)::vec v4 9 1 ((srt nodes_p).length) ((srt nodes_p).flatMap Qj)::Hl 9 1 Qj ((x1_.1,v8,((F_2 x1_.1).getD [])++[x1_.2])::es3))) (.cons _ (List.Sublist.refl _))),hsub3,hF3⟩
     ·
      refine j59 (cs:=[(.string x1_.2)]) (e:=9) hS25 (fun _=>by kernel_rfl) ?_
      intro b5 w14 hS26
      refine wpList_nil ?_
      refine⟨rfl,(hS26.sublist (.cons _ (.cons_cons _ (.cons _ (.cons_cons _ (.cons_cons _ (.cons_cons _ (List.nil_sublist _)))))))),?_⟩
      refine d1 6 1023 (by kernel_rfl) rfl ?_
      obtain⟨v7,hv1⟩: ∃v,(asl es2 x1_.1).getD (.slice none 0 0)=v:=⟨_,rfl⟩
      refine v5p (i:=2) (v:=v7) hS26 rfl rfl rfl Tryz.underlying313 Tryz.underlying9 Tryz.zeroValue70 hv1 (wpList_nil ?_)
      refine⟨rfl,(hS26.sublist (.cons _ (.cons_cons _ (.cons _ (.cons_cons _ (.cons_cons _ (.cons_cons _ (List.nil_sublist _)))))))),?_⟩
      refine d1 10 2047 (by kernel_rfl) rfl ?_
      obtain⟨es3,hS27,hL1,hl3⟩:=St.borrow (ms:=[blk b5 9 [(.string x1_.2)],blk b4 238 [(.string x1_.1),(.string x1_.2)],smap b2 (asl es2),blk b3 313 [(.map (some b2))],vec v6 9 1 ((cpt r1_).length) ((cpt r1_).flatMap Qj),vec v4 9 1 ((srt nodes_p).length) ((srt nodes_p).flatMap Qj)]) hS26 hF2 x1_.1 hv1
      obtain⟨hsm3,hP⟩:=hP
      refine y4d (Ms:=fun v8=>(vec v8 9 1 ((((F_2 x1_.1).getD [])++[x1_.2]).length) ((((F_2 x1_.1).getD [])++[x1_.2]).flatMap Qj)::blk b5 9 [(.string x1_.2)]::blk b4 238 [(.string x1_.1),(.string x1_.2)]::smap b2 (asl es2)::blk b3 313 [(.map (some b2))]::vec v6 9 1 ((cpt r1_).length) ((cpt r1_).flatMap Qj)::vec v4 9 1 ((srt nodes_p).length) ((srt nodes_p).flatMap Qj)::Hl 9 1 Qj es3)) (k':=(((F_2 x1_.1).getD [])++[x1_.2]).length) (xs':=(((F_2 x1_.1).getD [])++[x1_.2]).flatMap Qj) Tryz.underlying70 Tryz.type9 rfl rfl (bytes:=16) rfl rfl (Nat.succ_pos _) hS27 rfl (q:=0) rfl rfl rfl (q90 (hS27.get (i:=1) rfl)) (ones rfl) hsm3 (by omega) (by first|rfl|exact List.length_append.symm|simp) (by simp[Qj]) (fun _=>rfl) ?_
      intro v8 w15 ho5 hS28
      have hS29:=hS28.drop 1 (ms':=(vec v8 9 1 ((((F_2 x1_.1).getD [])++[x1_.2]).length) ((((F_2 x1_.1).getD [])++[x1_.2]).flatMap Qj)::blk b4 238 [(.string x1_.1),(.string x1_.2)]::smap b2 (asl es2)::blk b3 313 [(.map (some b2))]::vec v6 9 1 ((cpt r1_).length) ((cpt r1_).flatMap Qj)::vec v4 9 1 ((srt nodes_p).length) ((srt nodes_p).flatMap Qj)::Hl 9 1 Qj es3)) rfl
      refine wpList_nil ?_
      refine⟨rfl,(hS29.sublist (.cons _ (.cons_cons _ (.cons _ (.cons_cons _ (.cons_cons _ (.cons_cons _ (List.nil_sublist _)))))))),?_⟩
      refine d1 11 4095 (by kernel_rfl) rfl (y4a (v:=v8) (i:=2) (ms':=(vec v8 9 1 ((((F_2 x1_.1).getD [])++[x1_.2]).length) ((((F_2 x1_.1).getD [])++[x1_.2]).flatMap Qj)::blk b4 238 [(.string x1_.1),(.string x1_.2)]::smap b2 (fun k'=>if k'=x1_.1 then some v8 else asl es2 k')::blk b3 313 [(.map (some b2))]::vec v6 9 1 ((cpt r1_).length) ((cpt r1_).flatMap Qj)::vec v4 9 1 ((srt nodes_p).length) ((srt nodes_p).flatMap Qj)::Hl 9 1 Qj es3)) hS29 rfl rfl rfl rfl Tryz.underlying313 Tryz.underlying9 rfl ?_)
      intro w16 hS30
      have hS32:=St.giveback (ms:=[blk b4 238 [(.string x1_.1),(.string x1_.2)],smap b2 (fun k'=>if k'=x1_.1 then some v8 else asl es2 k'),blk b3 313 [(.map (some b2))],vec v6 9 1 ((cpt r1_).length) ((cpt r1_).flatMap Qj),vec v4 9 1 ((srt nodes_p).length) ((srt nodes_p).flatMap Qj)]) (ms':=[blk b4 238 [(.string x1_.1),(.string x1_.2)],smap b2 (asl ((x1_.1,v8,((F_2 x1_.1).getD [])++[x1_.2])::es3)),blk b3 313 [(.map (some b2))],vec v6 9 1 ((cpt r1_).length) ((cpt r1_).flatMap Qj),vec v4 9 1 ((srt nodes_p).length) ((srt nodes_p).flatMap Qj)]) (i:=1) hS30 hL1 rfl rfl
      have hF3:=ELF.put (v:=v8) hF2 hL1 hsm3
      refine wpList_nil ?_
      refine⟨rfl,(hS32.sublist (.cons_cons _ (.cons _ (.cons_cons _ (.cons_cons _ (.cons_cons _ (List.nil_sublist _))))))),j6a (J':=fun z=>St ⟨w,σ,[]⟩ z σ3 (blk b4 238 [(.string x1_.1),(.string x1_.2)]::smap b2 (asl ((x1_.1,v8,((F_2 x1_.1).getD [])++[x1_.2])::es3))::blk b3 313 [(.map (some b2))]::vec v6 9 1 ((cpt r1_).length) ((cpt r1_).flatMap Qj)::vec v4 9 1 ((srt nodes_p).length) ((srt nodes_p).flatMap Qj)::Hl 9 1 Qj ((x1_.1,v8,((F_2 x1_.1).getD [])++[x1_.2])::es3))) (fun w h=>h.sublist (.cons_cons _ (.cons _ (.cons_cons _ (.cons_cons _ (.cons_cons _ (List.nil_sublist _))))))) _ _ _ _ ?_⟩
      refine dz (by kernel_rfl) (v2x (Qo (j2k (v2w (r:=((k_3+1:Nat):Int)) rfl rfl (nw (by omega) (by omega) (by have:=hlen3;omega)) (Zb (v:=(.int .i64 ((k_3+1:Nat):Int))) rfl (wpList_nil (Qo ?_)))))))
      exact⟨k_3+1,(put F_2 x1_.1 (((F_2 x1_.1).getD [])++[x1_.2])),_,rfl,hP,((x1_.1,v8,((F_2 x1_.1).getD [])++[x1_.2])::es3),σ3,_,(Zw rfl (Zw rfl (Zw rfl (Zw rfl (Zw rfl rfl))))),(hS32.sublist (ms':=(smap b2 (asl ((x1_.1,v8,((F_2 x1_.1).getD [])++[x1_.2])::es3))::blk b3 313 [(.map (some b2))]::vec v6 9 1 ((cpt r1_).length) ((cpt r1_).flatMap Qj)::vec v4 9 1 ((srt nodes_p).length) ((srt nodes_p).flatMap Qj)::Hl 9 1 Qj ((x1_.1,v8,((F_2 x1_.1).getD [])++[x1_.2])::es3))) (.cons _ (List.Sublist.refl _))),hsub3,hF3⟩
   ·
    replace hP:=hP.2 (by first|(rw[hb1];exact Bool.false_ne_true)|simp[hb1])
    refine Zb (v:=(.bool true)) (congrArg Value.bool (congrArg Bool.not hb1)) (v5f rfl rfl (v5f rfl rfl (v5f rfl rfl (v5f rfl rfl (v5f rfl rfl (v94 (v:=(.bool true)) rfl rfl (wpList_nil (Qo (if_t rfl (Qu (Qv (v:=(.slice none 0 0)) rfl (Qv (v:=(.int .i64 (11:Int))) rfl (wpList_nil (Qo (wp_ret (R6 (j49 (R6 (R6 (j49 (R6 (ret2 rfl (show ev _ _ _=(.slice none 0 0) from rfl) (show ev _ _ _=(.int .i64 (11:Int)) from rfl) ?_))))))))))))))))))))))
    have hS33:=hS21.addNil 9 1
    exact⟨[],(11:Int),(.slice none 0 0),rfl,(St.back (hS33.keep 1 (ms':=[vec (.slice none 0 0) 9 1 0 []]) rfl) (Sub.refl _)),(by simp[Sml]),hP⟩
  ·
   replace hP:=hP.2 ht2
   refine wp_exit (z7r (z7r (j60 (Qo (Qu (Qv (v:=(.slice none 0 0)) rfl (wpList_nil (Qo (Qu (y4b (fun y:Bool=>(Value.bool (y))) hS17 ?_))))))))))
   intro b6 w17 hS34
   refine w8k (cs:=[(.map none)]) hS34 Tryz.zeroValue60 rfl ?_
   intro b7 w18 hS35
   refine w8j (T:=60) (vs:=[(.map (some b6))]) (cs':=[(.map (some b6))]) (ms':=(blk b7 60 [(.map (some b6))]::emap b6 (fun y:Bool=>(Value.bool (y))) (fun _=>none)::smap b2 (asl es2)::blk b3 313 [(.map (some b2))]::vec v6 9 1 ((cpt r1_).length) ((cpt r1_).flatMap Qj)::vec v4 9 1 ((srt nodes_p).length) ((srt nodes_p).flatMap Qj)::Hl 9 1 Qj es2)) (i:=0) hS35 rfl rfl rfl Tryz.sizeOf60 rfl (ones rfl) rfl (Nat.le_of_ble_eq_true rfl) rfl rfl ?_
   intro w19 hS36
   refine wpList_nil (Qo (wp_seq (wp_block ?_)))
   obtain⟨σ6,hS37,hsub6,hr9⟩:=St.freezeL (ms:=[blk b7 60 [(.map (some b6))],emap b6 (fun y:Bool=>(Value.bool (y))) (fun _=>none),smap b2 (asl es2),blk b3 313 [(.map (some b2))],vec v6 9 1 ((cpt r1_).length) ((cpt r1_).flatMap Qj),vec v4 9 1 ((srt nodes_p).length) ((srt nodes_p).flatMap Qj)]) (ms':=[blk b7 60 [(.map (some b6))],emap b6 (fun y:Bool=>(Value.bool (y))) (fun _=>none),blk b3 313 [(.map (some b2))],vec v6 9 1 ((cpt r1_).length) ((cpt r1_).flatMap Qj),vec v4 9 1 ((srt nodes_p).length) ((srt nodes_p).flatMap Qj)]) (i:=2) hS36 hF2 q4s rfl rfl
   have hS38:=hS37.addNil 9 1
   have hS39:=hS38.front 4 rfl (ms':=[vec v6 9 1 ((cpt r1_).length) ((cpt r1_).flatMap Qj),vec (.slice none 0 0) 9 1 0 [],blk b7 60 [(.map (some b6))],emap b6 (fun y:Bool=>(Value.bool (y))) (fun _=>none),blk b3 313 [(.map (some b2))],vec v4 9 1 ((srt nodes_p).length) ((srt nodes_p).flatMap Qj)]) rfl
   have hS40:=hS39.front 4 rfl (ms':=[blk b3 313 [(.map (some b2))],vec v6 9 1 ((cpt r1_).length) ((cpt r1_).flatMap Qj),vec (.slice none 0 0) 9 1 0 [],blk b7 60 [(.map (some b6))],emap b6 (fun y:Bool=>(Value.bool (y))) (fun _=>none),vec v4 9 1 ((srt nodes_p).length) ((srt nodes_p).flatMap Qj)]) rfl
   have hS41:=hS40.front 3 rfl (ms':=[blk b7 60 [(.map (some b6))],blk b3 313 [(.map (some b2))],vec v6 9 1 ((cpt r1_).length) ((cpt r1_).flatMap Qj),vec (.slice none 0 0) 9 1 0 [],emap b6 (fun y:Bool=>(Value.bool (y))) (fun _=>none),vec v4 9 1 ((srt nodes_p).length) ((srt nodes_p).flatMap Qj)]) rfl
   have hS42:=hS41.front 4 rfl (ms':=[emap b6 (fun y:Bool=>(Value.bool (y))) (fun _=>none),blk b7 60 [(.map (some b6))],blk b3 313 [(.map (some b2))],vec v6 9 1 ((cpt r1_).length) ((cpt r1_).flatMap Qj),vec (.slice none 0 0) 9 1 0 [],vec v4 9 1 ((srt nodes_p).length) ((srt nodes_p).flatMap Qj)]) rfl
   have hS43:=hS42.front 4 rfl (ms':=[vec (.slice none 0 0) 9 1 0 [],emap b6 (fun y:Bool=>(Value.bool (y))) (fun _=>none),blk b7 60 [(.map (some b6))],blk b3 313 [(.map (some b2))],vec v6 9 1 ((cpt r1_).length) ((cpt r1_).flatMap Qj),vec v4 9 1 ((srt nodes_p).length) ((srt nodes_p).flatMap Qj)]) rfl
   have hS44:=hS43.front 5 rfl (ms':=[vec v4 9 1 ((srt nodes_p).length) ((srt nodes_p).flatMap Qj),vec (.slice none 0 0) 9 1 0 [],emap b6 (fun y:Bool=>(Value.bool (y))) (fun _=>none),blk b7 60 [(.map (some b6))],blk b3 313 [(.map (some b2))],vec v6 9 1 ((cpt r1_).length) ((cpt r1_).flatMap Qj)]) rfl
   refine y0g (fun left_3 out_3 F_4 f z=> ∃(v13:Value) (v14:Value) (σ7:Hv) (g:Fr),f=(upd (upd (upd (upd g 6 v13) 7 (.pointer (some ⟨b3,0,none⟩))) 10 v14) 11 (.pointer (some ⟨b7,0,none⟩)))/\St ⟨w,σ,[]⟩ z σ7 [vec v13 9 1 left_3.length ((left_3).flatMap Qj),vec v14 9 1 out_3.length ((out_3).flatMap Qj),emap b6 (fun y:Bool=>(Value.bool (y))) F_4,blk b7 60 [(.map (some b6))],blk b3 313 [(.map (some b2))],vec v6 9 1 ((cpt r1_).length) ((cpt r1_).flatMap Qj)]/\Sub σ6 σ7/\v13.oneCell'=true/\Sml left_3.length/\v14.oneCell'=true/\Sml out_3.length) hP ⟨v4,(.slice none 0 0),σ6,_,(Zw rfl (Zw rfl (Zw rfl (Zw rfl rfl)))),hS44,(Sub.refl _),(q0c ho1.1),(show Sml (srt nodes_p).length by rw[Jv];exact hsm1),rfl,(by simp[Sml])⟩ ?_
   clear hP
   rintro left_3 out_3 F_4 Y5 hP f w20 ⟨v13,v14,σ7,g,rfl,hS45,hsub7,ho10,hl8,ho11,hl9⟩
   refine wp_seq (Qu (Zb (v:=v13) rfl (z94 hS45 rfl (i:=0) rfl Tryz.underlying70 ?_)))
   have hlen4:left_3.length<=9223372036854775807:=by have:=hl8;unfold Sml at this;omega
   replace hP:=hP hlen4
   refine y9w (r:=(decide ((0:Int)<((left_3.length:Nat):Int)))) rfl rfl rfl (wpList_nil (Qo ?_))
   refine if_d ((0:Int)<((left_3.length:Nat):Int)) rfl (fun ht4=> ?_) (fun ht4=> ?_)
   ·
    replace hP:=hP.1 ht4
    refine wp_skip (Qo (wp_block (Qu (Zb (v:=v13) rfl (j2l (la:=[]) (lb:=[(.pointer (some ⟨b3,0,none⟩)),(.pointer (some ⟨b7,0,none⟩))]) rfl rfl ?_)))))
    obtain⟨Y6,hK4,hP⟩:=hP
    refine q8v (args:=[v13,(.func (.func 224) #[] #[(.pointer (some ⟨b3,0,none⟩)),(.pointer (some ⟨b7,0,none⟩))])]) rfl Tryz.call223 (Calls.mono (R:=fun e z=> ∃(r_1:Int) (σ8:Hv),e= .returned (.int .i64 r_1)/\Y6 r_1/\St ⟨w,σ,[]⟩ z σ8 [vec v13 9 1 left_3.length ((left_3).flatMap Qj),vec v14 9 1 out_3.length ((out_3).flatMap Qj),emap b6 (fun y:Bool=>(Value.bool (y))) F_4,blk b7 60 [(.map (some b6))],blk b3 313 [(.map (some b2))],vec v6 9 1 ((cpt r1_).length) ((cpt r1_).flatMap Qj)]/\Sub σ7 σ8) ?_ ?_)
    ·
     refine enter Tryz.func223 rfl rfl rfl ?_
     refine Qu (Qv (v:=(.int .i64 (0:Int))) rfl (wpList_nil (Qo (wp_seq (Qu (Zb (v:=v13) rfl (z94 hS45 rfl (i:=0) rfl Tryz.underlying70 (Zb (v:=(.int .i64 (0:Int))) rfl (wpList_nil (Qo (wp_block ?_)))))))))))
     refine w2t (fun k_5 f z=> ∃(σ9:Hv) (g:Fr),f=(upd (upd (upd (upd g 0 v13) 1 (.func (.func 224) #[] #[(.pointer (some ⟨b3,0,none⟩)),(.pointer (some ⟨b7,0,none⟩))])) 7 (.int .i64 ((left_3.length:Nat):Int))) 8 (.int .i64 ((k_5:Nat):Int)))/\St ⟨w,σ,[]⟩ z σ9 [vec v13 9 1 left_3.length ((left_3).flatMap Qj),vec v14 9 1 out_3.length ((out_3).flatMap Qj),emap b6 (fun y:Bool=>(Value.bool (y))) F_4,blk b7 60 [(.map (some b6))],blk b3 313 [(.map (some b2))],vec v6 9 1 ((cpt r1_).length) ((cpt r1_).flatMap Qj)]/\Sub σ7 σ9) hP ⟨σ7,_,(Zw rfl (Zw rfl (Zw rfl (Zw rfl rfl)))),hS45,(Sub.refl _)⟩ ?_
     clear hP
     rintro k_5 Y7 hP f w21 ⟨σ9,g,rfl,hS46,hsub9⟩
     refine Qu (v5g (r:=(decide (((k_5:Nat):Int)<((left_3.length:Nat):Int)))) rfl rfl rfl (wpList_nil (Qo (wp_seq ?_))))
     refine if_d (((k_5:Nat):Int)<((left_3.length:Nat):Int)) rfl (fun ht5=> ?_) (fun ht5=> ?_)
     ·
      replace hP:=hP.1 ht5
      refine wp_skip (Qo (wp_seq (wp_block (Qu (Zb (v:=(.int .i64 ((k_5:Nat):Int))) rfl (Qv (v:=(.int .i64 ((k_5:Nat):Int))) rfl (wpList_nil (Qo (Qu (Zb (v:=(.func (.func 224) #[] #[(.pointer (some ⟨b3,0,none⟩)),(.pointer (some ⟨b7,0,none⟩))])) rfl (Zb (v:=v13) rfl (Zb (v:=(.int .i64 ((k_5:Nat):Int))) rfl ?_))))))))))))
      obtain⟨x2_,hx2⟩:=getq (l:=left_3) (k:=k_5) (by have:=ht5;omega)
      replace hP:=hP x2_ hx2
      obtain⟨g1,cp1,hv2⟩:=w2u (hS46.get (i:=0) rfl) (Qh hx2)
      refine Rb (k:=k_5) (a':=⟨g1,k_5*1,none⟩) hv2 rfl rfl (Qh hx2) Tryz.underlying70 Tryz.sizeOf9 (by simp[V7]) (q7d (v:=(.string x2_)) rfl Tryz.isAgg9 (j69 q4s (j:=0) hv2 (hS46.get (i:=0) rfl) hx2 rfl) (v5j (args:=[(.string x2_),(.pointer (some ⟨b3,0,none⟩)),(.pointer (some ⟨b7,0,none⟩))]) rfl rfl Tryz.call224 ?_))
      refine enter Tryz.func224 rfl rfl rfl ?_
      refine Qu (Qv (v:=(.bool false)) rfl (wpList_nil (Qo (Qu (q7d (v:=(.map (some b2))) rfl Tryz.isAgg313 (hS46.cell (i:=4) rfl rfl) (Zb (v:=(.string x2_)) rfl ?_))))))
      obtain⟨v15,hl10,hz1⟩:=RMp.at (z:= .slice none 0 0) (z0:=[]) RSl.nil hr9 x2_
      obtain⟨a3,cap3,rfl⟩:=hz1.shape
      refine y4e (v:=(.slice a3 ((F_2 x2_).getD []).length cap3)) hl10 (View.of (Sub.trans hsub7 hsub9) hS46.view) rfl rfl Tryz.underlying313 Tryz.underlying9 Tryz.zeroValue70 (j2l (la:=[]) (lb:=[(.pointer (some ⟨b7,0,none⟩))]) rfl rfl (q8v (args:=[(.slice a3 ((F_2 x2_).getD []).length cap3),(.func (.func 226) #[] #[(.pointer (some ⟨b7,0,none⟩))])]) rfl Tryz.call225 ?_))
      refine enter Tryz.func225 rfl rfl rfl ?_
      refine Qu (Qv (v:=(.bool false)) rfl (wpList_nil (Qo (Qu (Zb (v:=(.slice a3 ((F_2 x2_).getD []).length cap3)) rfl (Zb (v:=(.func (.func 226) #[] #[(.pointer (some ⟨b7,0,none⟩))])) rfl ?_))))))
      obtain⟨Y8,hK5,hP⟩:=hP
      refine q8v (args:=[(.slice a3 ((F_2 x2_).getD []).length cap3),(.func (.func 226) #[] #[(.pointer (some ⟨b7,0,none⟩))])]) rfl Tryz.call223 (Calls.mono (R:=fun e z=> ∃(r_2:Int) (σ10:Hv),e= .returned (.int .i64 r_2)/\Y8 r_2/\St ⟨w,σ,[]⟩ z σ10 [vec v13 9 1 left_3.length ((left_3).flatMap Qj),vec v14 9 1 out_3.length ((out_3).flatMap Qj),emap b6 (fun y:Bool=>(Value.bool (y))) F_4,blk b7 60 [(.map (some b6))],blk b3 313 [(.map (some b2))],vec v6 9 1 ((cpt r1_).length) ((cpt r1_).flatMap Qj)]/\Sub σ9 σ10) ?_ ?_)
      ·
       refine enter Tryz.func223 rfl rfl rfl ?_
       refine Qu (Qv (v:=(.int .i64 (0:Int))) rfl (wpList_nil (Qo (wp_seq (Qu (Zb (v:=(.slice a3 ((F_2 x2_).getD []).length cap3)) rfl (z1i rfl Tryz.underlying70 ?_)))))))
       have hlen6:=RSl.len63 hz1
       replace hP:=hP hlen6
       refine Zb (v:=(.int .i64 (0:Int))) rfl (wpList_nil (Qo (wp_block ?_)))
       refine w2t (fun k_7 f z=> ∃(σ11:Hv) (g:Fr),f=(upd (upd (upd (upd g 0 (.slice a3 ((F_2 x2_).getD []).length cap3)) 1 (.func (.func 226) #[] #[(.pointer (some ⟨b7,0,none⟩))])) 7 (.int .i64 ((((F_2 x2_).getD []).length:Nat):Int))) 8 (.int .i64 ((k_7:Nat):Int)))/\St ⟨w,σ,[]⟩ z σ11 [vec v13 9 1 left_3.length ((left_3).flatMap Qj),vec v14 9 1 out_3.length ((out_3).flatMap Qj),emap b6 (fun y:Bool=>(Value.bool (y))) F_4,blk b7 60 [(.map (some b6))],blk b3 313 [(.map (some b2))],vec v6 9 1 ((cpt r1_).length) ((cpt r1_).flatMap Qj)]/\Sub σ9 σ11) hP ⟨σ9,_,(Zw rfl (Zw rfl (Zw rfl (Zw rfl rfl)))),hS46,(Sub.refl _)⟩ ?_
       clear hP
       rintro k_7 Y9 hP f w22 ⟨σ11,g,rfl,hS47,hsub11⟩
       refine Qu (v5g (r:=(decide (((k_7:Nat):Int)<((((F_2 x2_).getD []).length:Nat):Int)))) rfl rfl rfl (wpList_nil (Qo (wp_seq ?_))))
       refine if_d (((k_7:Nat):Int)<((((F_2 x2_).getD []).length:Nat):Int)) rfl (fun ht6=> ?_) (fun ht6=> ?_)
       ·
        replace hP:=hP.1 ht6
        refine wp_skip (Qo (wp_seq (wp_block (Qu (Zb (v:=(.int .i64 ((k_7:Nat):Int))) rfl (Qv (v:=(.int .i64 ((k_7:Nat):Int))) rfl (wpList_nil (Qo (Qu (Zb (v:=(.func (.func 226) #[] #[(.pointer (some ⟨b7,0,none⟩))])) rfl (Zb (v:=(.slice a3 ((F_2 x2_).getD []).length cap3)) rfl (Zb (v:=(.int .i64 ((k_7:Nat):Int))) rfl ?_))))))))))))
        obtain⟨x3_,hx3⟩:=getq (l:=((F_2 x2_).getD [])) (k:=k_7) (by have:=ht6;omega)
        replace hP:=hP x3_ hx3
        obtain⟨ad2,cs2,ha2,hl11,hr10,hR2,hlt2⟩:=RSl.at hz1 hx3
        cases hR2
        refine Rb (k:=k_7) (a':=(ad2.add (k_7*1))) (congrArg (fun z=>Value.slice z _ _) ha2) rfl rfl hlt2 Tryz.underlying70 Tryz.sizeOf9 rfl (q7d (v:=(.string x3_)) rfl Tryz.isAgg9 (hr10.cell (View.of (Sub.trans (Sub.trans hsub7 hsub9) hsub11) hS47.view) 0 rfl rfl) (v5j (args:=[(.string x3_),(.pointer (some ⟨b7,0,none⟩))]) rfl rfl Tryz.call226 ?_))
        refine enter Tryz.func226 rfl rfl rfl ?_
        refine Qu (Qv (v:=(.bool false)) rfl (wpList_nil (Qo (Qu (q7d (v:=(.map (some b6))) rfl Tryz.isAgg60 (hS47.cell (i:=3) rfl rfl) (Zb (v:=(.string x3_)) rfl (y4c (v:=(.bool (((F_4 x3_).getD false)))) (i:=2) hS47 rfl rfl rfl Tryz.underlying60 Tryz.underlying9 Tryz.zeroValue4 (y0h (fun y:Bool=>(Value.bool (y))) _ rfl) (v97 (r:=(!((F_4 x3_).getD false))) rfl rfl (Qv (v:=(.bool (!((F_4 x3_).getD false)))) rfl (wpList_nil (Qo (wp_ret (ret1 rfl (show ev _ _ _=(.bool (!((F_4 x3_).getD false))) from rfl) ?_)))))))))))))
        refine⟨_,rfl,?_⟩
        refine wpList_nil (Qo ?_)
        refine y7n rfl (fun ht7=> ?_) (fun ht7=> ?_)
        ·
         replace hP:=hP.2 (by first|(rw[ht7];exact Bool.false_ne_true)|simp[ht7])
         refine Qu (Zb (v:=(.int .i64 ((k_7:Nat):Int))) rfl (Qv (v:=(.int .i64 ((k_7:Nat):Int))) rfl (wpList_nil (Qo (wp_ret (j49 (R6 (R6 (j49 (R6 (ret1 rfl (show ev _ _ _=(.int .i64 ((k_7:Nat):Int)) from rfl) ?_)))))))))))
         exact⟨((k_7:Nat):Int),σ11,rfl,hP,hS47,hsub11⟩
        ·
         replace hP:=hP.1 ht7
         refine wp_skip (v2x (Qo (j2k (v2w (r:=((k_7+1:Nat):Int)) rfl rfl (nw (by omega) (by omega) (by have:=hlen6;omega)) (Zb (v:=(.int .i64 ((k_7+1:Nat):Int))) rfl (wpList_nil (Qo ?_)))))))
         exact⟨k_7+1,_,rfl,hP,σ11,_,(Zw rfl (Zw rfl (Zw rfl (Zw rfl rfl)))),hS47,hsub11⟩
       ·
        replace hP:=hP.2 ht6
        refine wp_exit (z7r (z7r (j60 (Qo (Qu (Qv (v:=(.int .i64 (-1:Int))) rfl (wpList_nil (Qo (wp_ret (ret1 rfl (show ev _ _ _=(.int .i64 (-1:Int)) from rfl) ?_))))))))))
        exact⟨(-1:Int),σ11,rfl,hP,hS47,hsub11⟩
      ·
       rintro _ w23 ⟨r_2,σ10,rfl,hY4,hS48,hsub10⟩
       refine⟨_,rfl,?_⟩
       replace hP:=hK5 r_2 hY4
       refine y7k (r:=(decide ((0:Int)<=r_2))) rfl rfl rfl (Qv (v:=(.bool (decide ((0:Int)<=r_2)))) rfl (wpList_nil (Qo (wp_ret (ret1 rfl (show ev _ _ _=(.bool (decide ((0:Int)<=r_2))) from rfl) ?_)))))
       refine⟨_,rfl,?_⟩
       refine v97 (r:=(!decide ((0:Int)<=r_2))) rfl rfl (Qv (v:=(.bool (!decide ((0:Int)<=r_2)))) rfl (wpList_nil (Qo (wp_ret (ret1 rfl (show ev _ _ _=(.bool (!decide ((0:Int)<=r_2))) from rfl) ?_)))))
       refine⟨_,rfl,?_⟩
       refine wpList_nil (Qo ?_)
       refine y7m ((0:Int)<=r_2) rfl (fun ht8=> ?_) (fun ht8=> ?_)
       ·
        replace hP:=hP.2 ht8
        refine Qu (Zb (v:=(.int .i64 ((k_5:Nat):Int))) rfl (Qv (v:=(.int .i64 ((k_5:Nat):Int))) rfl (wpList_nil (Qo (wp_ret (j49 (R6 (R6 (j49 (R6 (ret1 rfl (show ev _ _ _=(.int .i64 ((k_5:Nat):Int)) from rfl) ?_)))))))))))
        exact⟨((k_5:Nat):Int),σ10,rfl,hP,hS48,(Sub.trans hsub9 hsub10)⟩
       ·
        replace hP:=hP.1 ht8
        refine wp_skip (v2x (Qo (j2k (v2w (r:=((k_5+1:Nat):Int)) rfl rfl (nw (by omega) (by omega) (by have:=hlen4;omega)) (Zb (v:=(.int .i64 ((k_5+1:Nat):Int))) rfl (wpList_nil (Qo ?_)))))))
        exact⟨k_5+1,_,rfl,hP,σ10,_,(Zw rfl (Zw rfl (Zw rfl (Zw rfl rfl)))),hS48,(Sub.trans hsub9 hsub10)⟩
     ·
      replace hP:=hP.2 ht5
      refine wp_exit (z7r (z7r (j60 (Qo (Qu (Qv (v:=(.int .i64 (-1:Int))) rfl (wpList_nil (Qo (wp_ret (ret1 rfl (show ev _ _ _=(.int .i64 (-1:Int)) from rfl) ?_))))))))))
      exact⟨(-1:Int),σ9,rfl,hP,hS46,hsub9⟩
    ·
     rintro _ w24 ⟨r_1,σ8,rfl,hY5,hS49,hsub8⟩
     refine⟨_,rfl,?_⟩
     replace hP:=hK4 r_1 hY5
     refine Qv (v:=(.int .i64 r_1)) rfl (wpList_nil (Qo (wp_seq (Qu (Zb (v:=(.int .i64 r_1)) rfl (v5g (r:=(decide (r_1<(0:Int)))) rfl rfl rfl (wpList_nil (Qo ?_))))))))
     refine if_d (r_1<(0:Int)) rfl (fun ht9=> ?_) (fun ht9=> ?_)
     ·
      replace hP:=hP.1 ht9
      refine Qu (Qv (v:=(.slice none 0 0)) rfl (Qv (v:=(.int .i64 (12:Int))) rfl (wpList_nil (Qo (wp_ret (R6 (j49 (R6 (j49 (R6 (ret2 rfl (show ev _ _ _=(.slice none 0 0) from rfl) (show ev _ _ _=(.int .i64 (12:Int)) from rfl) ?_)))))))))))
      have hS50:=hS49.addNil 9 1
      exact⟨[],(12:Int),(.slice none 0 0),rfl,(St.back (hS50.keep 1 (ms':=[vec (.slice none 0 0) 9 1 0 []]) rfl) (Sub.refl _)),(by simp[Sml]),hP⟩
     ·
      replace hP:=hP.2 ht9
      refine wp_skip (Qo (Qu (Zb (v:=v14) rfl (Zb (v:=v13) rfl (Zb (v:=(.int .i64 r_1)) rfl ?_)))))
      obtain⟨j1_,hj1,hP⟩:=hP
      obtain⟨x4_,hx4,hP⟩:=hP
      obtain⟨g2,cp2,hv3⟩:=w2u (hS49.get (i:=0) rfl) (Qh hx4)
      refine Rb (k:=j1_) (a':=⟨g2,j1_*1,none⟩) hv3 rfl hj1 (Qh hx4) Tryz.underlying70 Tryz.sizeOf9 (by simp[V7]) (q7d (v:=(.string x4_)) rfl Tryz.isAgg9 (j69 q4s (j:=0) hv3 (hS49.get (i:=0) rfl) hx4 rfl) (j59 (cs:=[(.string x4_)]) (e:=9) hS49 (fun _=>by kernel_rfl) ?_))
      intro b8 w25 hS51
      obtain⟨hsm4,hP⟩:=hP
      refine y4d (Ms:=fun v16=>[blk b8 9 [(.string x4_)],vec v13 9 1 left_3.length ((left_3).flatMap Qj),vec v16 9 1 ((out_3++[x4_]).length) ((out_3++[x4_]).flatMap Qj),emap b6 (fun y:Bool=>(Value.bool (y))) F_4,blk b7 60 [(.map (some b6))],blk b3 313 [(.map (some b2))],vec v6 9 1 ((cpt r1_).length) ((cpt r1_).flatMap Qj)]) (k':=(out_3++[x4_]).length) (xs':=(out_3++[x4_]).flatMap Qj) Tryz.underlying70 Tryz.type9 rfl rfl (bytes:=16) rfl rfl (Nat.succ_pos _) hS51 rfl (q:=2) rfl rfl rfl (q90 (hS51.get (i:=0) rfl)) (ones rfl) hsm4 (by omega) (by first|rfl|exact List.length_append.symm|simp) (by simp[Qj]) (fun _=>rfl) ?_
      intro v16 w26 ho12 hS52
      have hS53:=hS52.drop 0 (ms':=[vec v13 9 1 left_3.length ((left_3).flatMap Qj),vec v16 9 1 ((out_3++[x4_]).length) ((out_3++[x4_]).flatMap Qj),emap b6 (fun y:Bool=>(Value.bool (y))) F_4,blk b7 60 [(.map (some b6))],blk b3 313 [(.map (some b2))],vec v6 9 1 ((cpt r1_).length) ((cpt r1_).flatMap Qj)]) rfl
      refine Qv (v:=v16) rfl (wpList_nil (Qo (wp_seq (dr (fun z=>St ⟨w,σ,[]⟩ z σ8 [vec v13 9 1 left_3.length ((left_3).flatMap Qj),vec v16 9 1 ((out_3++[x4_]).length) ((out_3++[x4_]).flatMap Qj),blk b7 60 [(.map (some b6))],blk b3 313 [(.map (some b2))],vec v6 9 1 ((cpt r1_).length) ((cpt r1_).flatMap Qj)]) (by kernel_rfl) rfl ?_))))
      have hS54:=hS53.drew
      refine dt 0 1 (v:=(.map (some b6))) (by kernel_rfl) rfl rfl (fun _ _ _ h=>h) (hS54.sublist (.cons_cons _ (.cons_cons _ (.cons _ (List.Sublist.refl _))))) (fun _ hJ _ hK=>q7d (v:=(.map (some b6))) rfl Tryz.isAgg60 (hJ.cell (i:=2) rfl rfl) ⟨rfl,hK⟩) (dt 1 3 (v:=v13) (by kernel_rfl) rfl rfl (fun _ _ _ h=>h) (hS54.sublist (.cons_cons _ (.cons_cons _ (.cons _ (List.Sublist.refl _))))) (fun _ _ _ hK=>Zb (v:=v13) rfl ⟨rfl,hK⟩) (dt 2 7 (v:=(.int .i64 r_1)) (by kernel_rfl) rfl rfl (fun _ _ _ h=>h) (hS54.sublist (.cons_cons _ (.cons_cons _ (.cons _ (List.Sublist.refl _))))) (fun _ _ _ hK=>Zb (v:=(.int .i64 r_1)) rfl ⟨rfl,hK⟩) ?_))
      obtain⟨j2_,hj2,hP⟩:=hP
      obtain⟨x5_,hx5,hP⟩:=hP
      obtain⟨g3,cp3,hv4⟩:=w2u (hS54.get (i:=0) rfl) (Qh hx5)
      refine dt 3 15 (v:=(.pointer (some ⟨g3,j2_*1,none⟩))) (by kernel_rfl) rfl rfl (fun _ _ _ h=>h) (hS54.sublist (.cons_cons _ (.cons_cons _ (.cons _ (List.Sublist.refl _))))) (fun _ _ _ hK=>Rb (k:=j2_) (a':=⟨g3,j2_*1,none⟩) hv4 rfl hj2 (Qh hx5) Tryz.underlying70 Tryz.sizeOf9 (by simp[V7]) ⟨rfl,hK⟩) (dt 4 31 (v:=(.string x5_)) (by kernel_rfl) rfl rfl (fun _ _ _ h=>h) (hS54.sublist (.cons_cons _ (.cons_cons _ (.cons _ (List.Sublist.refl _))))) (fun _ hJ _ hK=>q7d (v:=(.string x5_)) rfl Tryz.isAgg9 (j69 q4s (j:=0) hv4 (hJ.get (i:=0) rfl) hx5 rfl) ⟨rfl,hK⟩) (d1 5 63 (by kernel_rfl) rfl (y7t (y0:=true) (i:=2) (ms':=[vec v13 9 1 left_3.length ((left_3).flatMap Qj),vec v16 9 1 ((out_3++[x4_]).length) ((out_3++[x4_]).flatMap Qj),emap b6 (fun y:Bool=>(Value.bool (y))) (put F_4 x5_ true),blk b7 60 [(.map (some b6))],blk b3 313 [(.map (some b2))],vec v6 9 1 ((cpt r1_).length) ((cpt r1_).flatMap Qj)]) hS54 rfl rfl rfl rfl Tryz.underlying60 Tryz.underlying9 rfl ?_)))
      intro w27 hS55
      refine wpList_nil ?_
      refine⟨rfl,(hS55.sublist (.cons_cons _ (.cons_cons _ (.cons _ (List.Sublist.refl _))))),j6a (J':=fun z=>St ⟨w,σ,[]⟩ z σ8 [vec v13 9 1 left_3.length ((left_3).flatMap Qj),vec v16 9 1 ((out_3++[x4_]).length) ((out_3++[x4_]).flatMap Qj),emap b6 (fun y:Bool=>(Value.bool (y))) (put F_4 x5_ true),blk b7 60 [(.map (some b6))],blk b3 313 [(.map (some b2))],vec v6 9 1 ((cpt r1_).length) ((cpt r1_).flatMap Qj)]) (fun w h=>h.sublist (.cons_cons _ (.cons_cons _ (.cons _ (List.Sublist.refl _))))) _ _ _ _ ?_⟩
      refine dz (by kernel_rfl) (Qo (j2k (Zb (v:=v13) rfl (Zb (v:=(.int .i64 r_1)) rfl (Zb (v:=(.int .i64 r_1)) rfl ?_)))))
      obtain⟨hi1,hP⟩:=hP
      refine v2w (r:=(r_1+(1:Int))) rfl rfl (nwi rfl hi1) ?_
      obtain⟨j3_,hj3,hP⟩:=hP
      obtain⟨hd1,hP⟩:=hP
      obtain⟨hd2,hP⟩:=hP
      obtain⟨hsm5,hP⟩:=hP
      have hd3:r_1=((j3_:Nat):Int)/\(r_1+(1:Int))=((j3_+1:Nat):Int):=⟨by omega,by omega⟩
      refine q8v (args:=[v13,(.int .i64 ((j3_:Nat):Int)),(.int .i64 ((j3_+1:Nat):Int))]) (by rw[←hd3.1,←hd3.2];rfl) Tryz.call227 (Calls.mono (v22 (i:=j3_) (j:=(j3_+1)) Tryz.slices_Delete_string hS55.view (hS55.get (i:=0) rfl) (fun b hb=>hS55.off _ (List.mem_of_getElem? (i:=0) rfl) b hb) (by omega) hd2 hd1) ?_)
      rintro _ w28 ⟨v17,rfl,hf2,hg7,ho13⟩
      refine⟨_,rfl,?_⟩
      have ho14:=q0c ho13
      have hS56:=hS55.growV (i:=0) (o':=vec v17 9 1 ((left_3.take j3_++left_3.drop (j3_+1)).length) ((left_3.take j3_++left_3.drop (j3_+1)).flatMap Qj)) rfl hg7 hf2 ho13 (ms':=[vec v17 9 1 ((left_3.take j3_++left_3.drop (j3_+1)).length) ((left_3.take j3_++left_3.drop (j3_+1)).flatMap Qj),vec v16 9 1 ((out_3++[x4_]).length) ((out_3++[x4_]).flatMap Qj),emap b6 (fun y:Bool=>(Value.bool (y))) (put F_4 x5_ true),blk b7 60 [(.map (some b6))],blk b3 313 [(.map (some b2))],vec v6 9 1 ((cpt r1_).length) ((cpt r1_).flatMap Qj)]) rfl
      refine Qv (v:=v17) rfl (wpList_nil (v2x (Qo ?_)))
      exact⟨left_3.take j3_++left_3.drop (j3_+1),out_3++[x4_],put F_4 x5_ true,_,rfl,hP,v17,v16,σ8,_,(Zw rfl (Zw rfl (Zw rfl (Zw rfl rfl)))),hS56,(Sub.trans hsub7 hsub8),ho14,hsm5,ho12,hsm4⟩
   ·
    replace hP:=hP.2 ht4
    refine wp_exit (z7r (z7r (j60 (Qo (Qu (Zb (v:=v14) rfl (Qv (v:=v14) rfl (Qv (v:=(.int .i64 (0:Int))) rfl (wpList_nil (Qo (wp_ret (ret2 rfl (show ev _ _ _=v14 from rfl) (show ev _ _ _=(.int .i64 (0:Int)) from rfl) ?_))))))))))))
    have hS57:=hS45.front 1 rfl (ms':=[vec v14 9 1 out_3.length ((out_3).flatMap Qj),vec v13 9 1 left_3.length ((left_3).flatMap Qj),emap b6 (fun y:Bool=>(Value.bool (y))) F_4,blk b7 60 [(.map (some b6))],blk b3 313 [(.map (some b2))],vec v6 9 1 ((cpt r1_).length) ((cpt r1_).flatMap Qj)]) rfl
    exact⟨out_3,(0:Int),v14,rfl,(St.back (hS57.keep 1 (ms':=[vec v14 9 1 out_3.length ((out_3).flatMap Qj)]) rfl) (Sub.refl _)),hl9,hP⟩
end Go.Proofs.YtkbjibhkaddepaaGreatDoor
end
noncomputable section
set_option maxRecDepth 100000
open Go Go.RowKit Go.Fl Go.Fl.Lk Go.Fx
namespace Go.En
theorem w3x{σ:Hv}{w:World}{g:Nat}{T:C}{n:Nat}{l:List (car T)}(hV:View σ w)(hs:SRep D (fun _=>none) σ (.pointer (some ⟨g,0,none⟩)) (.fap T n l)){i j:Nat}{x:car T}{s:FV Sg}(hx:l[i]? =some x)(hj:(D.shape T x)[j]? =some s)(hz:j<D.size T):
  ∃v,w.cell? ⟨g,i*D.size T+j,none⟩=some v/\RepF D σ v s:=by
 generalize hq:Value.pointer (some (⟨g,0,none⟩:Addr))=q at hs
 cases hs with
 |fap ad cs T' N l' hN h hl hr=>
  cases hq
  have hrow:=hr i x hx
  have hlen:=okP.ok.len T x
  have hjl:j<((cs.drop (i*D.size T)).take (D.size T)).length:=by rw[hrow.1,hlen];exact hz
  obtain⟨v,hv⟩: ∃v,((cs.drop (i*D.size T)).take (D.size T))[j]? =some v:=⟨_,List.getElem?_eq_getElem hjl⟩
  refine⟨v,?_,hrow.2 j v s hv hj⟩
  rw[List.getElem?_take,if_pos hz,List.getElem?_drop] at hv
  have:=hV.cell (h _ v hv)
  rw[V7,Nat.zero_add] at this
  exact this
theorem y1j: ∀c,c<256->v1w[c]? =some ((Go.Lib.firstT c:Nat):Int):=by decide
theorem y8n: ∀i,i<16->(j7u[i]?).map (fun a=>(a.lo,a.hi))=some (((Go.Lib.accLo i:Nat):Int),((Go.Lib.accHi i:Nat):Int)):=by decide
theorem tabs{σ:Hv}{w:World}(hV:View σ w)(hG:Glb D σ):Go.Lib.Utf8Tabs (Proofs.Tryz.lays196_ren.g 3) (Proofs.Tryz.lays196_ren.g 4) w:=by
 refine⟨fun c hc=> ?_,fun i hi=> ?_⟩
 ·have h:=hG.known (Proofs.Tryz.lays196_ren.g 3)
  obtain⟨v,h1,h2⟩:=w3x (T:= .u8) (n:=256) (l:=v1w) hV h (i:=c) (j:=0) (s:= .int .u8 ((Go.Lib.firstT c:Nat):Int)) (y1j c hc) rfl (by decide)
  cases h2
  simpa [show D.size C.u8=1 from rfl] using h1
 ·have h:=hG.known (Proofs.Tryz.lays196_ren.g 4)
  have ha:=y8n i hi
  obtain⟨a,e1,e2⟩:=Option.map_eq_some_iff.1 ha
  obtain⟨v,h1,h2⟩:=w3x (T:= .acc) (n:=16) (l:=j7u) hV h (i:=i) (j:=0) (s:= .int .u8 a.lo) e1 rfl (by decide)
  obtain⟨v',h1',h2'⟩:=w3x (T:= .acc) (n:=16) (l:=j7u) hV h (i:=i) (j:=1) (s:= .int .u8 a.hi) e1 rfl (by decide)
  cases h2;cases h2'
  simp only[Prod.mk.injEq] at e2
  rw[e2.1] at h1;rw[e2.2] at h1'
  refine⟨by rw[Nat.mul_comm];simpa [show D.size C.acc=2 from rfl] using h1,by rw[Nat.mul_comm];simpa [show D.size C.acc=2 from rfl] using h1'⟩
theorem w9e{w w':World}(h:Below w.heap.size w w'):Keeps [] w w':=⟨h.os,h.tape,h.output,h.size,fun k hk _=>h.block k hk⟩
theorem q69{σ:Hv}{w w1:World}{args:List (Tr Sg)}{vals:List Value}{K:List (Tr Sg)->List (Tr Sg)->Prop}{rets outs:List (Tr Sg)}{rv:List Value}(hS:St ⟨w,σ,feet []⟩ w σ [])(hK:K rets outs)(hb:Below w.heap.size w w1)(hL:LayL D σ rets rv [])(hT:LayT D σ args outs vals [] []):
  Back D σ w args vals [] K (.returned (retV rv)) w1:=by
 have hk:=w9e hb
 refine⟨rets,outs,rv,σ,[],[],rfl,hK,hL,hT,?_⟩
 refine⟨hk,fun b o hbo=> ?_,Sub.refl _,fun _ _ _=>rfl,by simp,by simp,by simp,by simp⟩
 have h1:=hS.view b o hbo
 have hlt:b<w.heap.size:=by
  rcases Nat.lt_or_ge b w.heap.size with h|h
  ·exact h
  ·rw[Array.getElem?_eq_none h] at h1;cases h1
 rw[hk.block b hlt (by simp)];exact h1
theorem j02:z0r Proofs.Tryz.prog D 206 (conV ([.v]:LP) ([.str]:LV) ([.bool]:LV) ([.same]:LV) (fun a K=>Vp a.1 (fun q0=>K (q0,()) ((),())))):=by
 intro args K hm w σ vals ins hG hL hS
 obtain⟨a,ha,hm⟩:=Qk hm
 have hargs:=W5 ha
 subst hargs
 obtain⟨s,_⟩:=a
 cases hL with
 |cons hp hr=>
 cases hr
 cases hp with
 |f hf=>
 cases hf
 have hm:s.size<=9223372036854775807/\K [.f (.bool (Go.Lib.validD s.data.toList))] [.same]:=hm
 refine Calls.mono (Go.Proofs.Any.utf8_ValidString Proofs.Tryz.lays196 s w hm.1 (tabs hS.view hG)) ?_
 rintro e w' ⟨rfl,hb⟩
 exact q69 (rv:=[.bool (Go.Lib.validD s.data.toList)]) hS hm.2 hb (.cons (ms:=[]) (.f (.bool _)) .nil) (.skip (a0:=[]) .nil)
theorem j03:z0r Proofs.Tryz.prog D 251 (conV ([.v,.v]:LP) ([.str,.str]:LV) ([.bool]:LV) ([.same,.same]:LV) (fun a K=>q1w a.1 a.2.1 (fun q0=>K (q0,()) ((),(),())))):=by
 intro args K hm w σ vals ins hG hL hS
 obtain⟨a,ha,hm⟩:=Qk hm
 have hargs:=W5 ha
 subst hargs
 obtain⟨s,t,_⟩:=a
 cases hL with
 |cons hp hr=>
 cases hr with
 |cons hq hr=>
 cases hr
 cases hp with
 |f hf=>
 cases hf
 cases hq with
 |f hf=>
 cases hf
 have hm:s.size<4294967281/\K [.f (.bool (Go.Lib.contains s.data.toList t.data.toList))] [.same,.same]:=hm
 obtain⟨n,hn⟩:=hG.free 6 .i64 rfl
 refine Calls.mono (Proofs.Tryz.strings_Contains s t n w hm.1 (hS.view.cell hn)) ?_
 rintro e w' ⟨rfl,rfl⟩
 exact q69 (rv:=[.bool (Go.Lib.contains s.data.toList t.data.toList)]) hS hm.2 (Below.refl _ _) (.cons (ms:=[]) (.f (.bool _)) .nil) (.skip (a0:=[]) (.skip (a0:=[]) .nil))
theorem w0d:z0r Proofs.Tryz.prog D 318 (conV ([.v]:LP) ([.str]:LV) ([.int .i64,.ifc]:LV) ([.same]:LV) (fun a K=>q37 a.1 (fun q0 q1=>K (q0,q1,()) ((),())))):=by
 intro args K hm w σ vals ins hG hL hS
 obtain⟨a,ha,hm⟩:=Qk hm
 have hargs:=W5 ha
 subst hargs
 obtain⟨s,_⟩:=a
 cases hL with
 |cons hp hr=>
 cases hr
 cases hp with
 |f hf=>
 cases hf
 have hm:s.size<=281474976710656/\y1i s (fun n b=>K [.f (.int .i64 n),.f (.ifc b)] [.same]):=hm
 obtain⟨hsz,hm⟩:=hm
 have err: ∀g:Nat,D.glob g= .fptr [.ifc false] 0-> ∃ev,w.cell? ⟨g,0,none⟩=some ev/\(ev= .nilIface∨ ∃te pe,ev= .iface te pe):=by
  intro g hg
  have h:=hG.known g
  rw[hg] at h
  generalize hq:Value.pointer (some (⟨g,0,none⟩:Addr))=q at h
  cases h with
  |fptr ad cs l off hv hr=>
  cases hq
  obtain⟨v,hvl⟩: ∃v,cs=[v]:=List.length_eq_one_iff.1 hr.1
  subst hvl
  have hc:=hS.view.cell (hv 0 v rfl)
  have hR:=hr.2 0 v _ rfl rfl
  refine⟨v,?_,?_⟩
  ·rw[V7] at hc;exact hc
  ·cases hR with
   |ifcS t p=>exact .inr ⟨t,p,rfl⟩
 unfold y1i at hm
 split at hm
 ·rename_i v hv
  refine Calls.mono (Proofs.Tryz.strconv_Atoi_ok s (by omega) v hv w) ?_
  rintro e w' ⟨rfl,hw⟩
  have hb:Below w.heap.size w w':=by
   rcases hw with rfl|⟨t,rfl⟩
   ·exact Below.refl _ _
   ·exact Go.Lib.bytesWorld_below _ _ _
  exact q69 (rv:=[.int .i64 v,.nilIface]) hS hm hb (.cons (ms:=[]) (.f (.int _ _)) (.cons (ms:=[]) (.f .ifcN) .nil)) (.skip (a0:=[]) .nil)
 ·rename_i hv
  obtain⟨ev,h1,h2⟩:=err 10 rfl
  refine Calls.mono (Proofs.Tryz.strconv_Atoi_range s hsz hv ev w h1 h2) ?_
  rintro e w' ⟨N,rfl,_,_,hb⟩
  exact q69 (rv:=[.int .i64 _,.iface _ _]) hS hm hb (.cons (ms:=[]) (.f (.int _ _)) (.cons (ms:=[]) (.f (.ifcS _ _)) .nil)) (.skip (a0:=[]) .nil)
 ·rename_i hv
  obtain⟨ev,h1,h2⟩:=err 9 rfl
  refine Calls.mono (Proofs.Tryz.strconv_Atoi_syntax s hsz hv ev w h1 h2) ?_
  rintro e w' ⟨N,rfl,_,_,hb⟩
  exact q69 (rv:=[.int .i64 _,.iface _ _]) hS hm hb (.cons (ms:=[]) (.f (.int _ _)) (.cons (ms:=[]) (.f (.ifcS _ _)) .nil)) (.skip (a0:=[]) .nil)
theorem w0e:z0r Proofs.Tryz.prog D 164 (conV ([.v]:LP) ([.int .i64]:LV) ([.str]:LV) ([.same]:LV) (fun a K=>z0b a.1 (fun q0=>K (q0,()) ((),())))):=by
 intro args K hm w σ vals ins hG hL hS
 obtain⟨a,ha,hm⟩:=Qk hm
 have hargs:=W5 ha
 subst hargs
 obtain⟨i,_⟩:=a
 cases hL with
 |cons hp hr=>
 cases hr
 cases hp with
 |f hf=>
 cases hf
 have hm:InI i/\K [.f (.str ⟨(Go.Lib.itoa i).toArray⟩)] [.same]:=hm
 obtain⟨t,q,hb⟩:=hG.blk 5 _ rfl
 have htab:Go.Lib.TabIs Proofs.Tryz.prog w "internal/strconv.uint64pow10" .u64 Go.Lib.pow10Tab:=by
  unfold Go.Lib.TabIs World.var?
  rw[show (Proofs.Tryz.prog).globalNamed "internal/strconv.uint64pow10" =some 5 by kernel_rfl,Option.bind_some,hS.view _ _ hb]
  kernel_rfl
 refine Calls.mono (Proofs.Tryz.strconv_Itoa i hm.1.1 hm.1.2 w htab) ?_
 rintro e w' ⟨rfl,k,os,rfl⟩
 exact q69 (rv:=[.string ⟨(Go.Lib.itoa i).toArray⟩]) hS hm.2 (Go.Lib.below_grow _ _ (Nat.le_refl _) _ _) (.cons (ms:=[]) (.f (.str _)) .nil) (.skip (a0:=[]) .nil)
theorem j6m(l:List ByteArray):l.flatMap Qj=l.map Value.string:=by
 induction l with
 |nil=>rfl
 |cons a l ih=>rw[List.flatMap_cons,List.map_cons,ih];rfl
theorem y8o(l:List ByteArray):(cpt l).length<=l.length:=by
 unfold cpt Go.Lib.compact
 rw[List.length_map]
 have h: ∀(d:Array (List UInt8)) (m:Nat),(Go.Lib.compactUpTo d m).length<=m:=by
  intro d m
  unfold Go.Lib.compactUpTo
  rw[List.length_map]
  exact Nat.le_trans (List.length_filter_le _ _) (by simp)
 simpa using h _ _
theorem v7l{σ:Hv}{xs:List Value}{l:List ByteArray}(h:Els D σ C.str xs l):xs=l.flatMap Qj:=by
 have h1:xs.length=l.length:=by rw[h.1];exact Nat.mul_one _
 rw[j6m]
 refine List.ext_getElem? fun i=> ?_
 rw[List.getElem?_map]
 rcases Nat.lt_or_ge i l.length with hi|hi
 ·obtain⟨v,hv⟩: ∃v,xs[i]? =some v:=⟨_,List.getElem?_eq_getElem (by omega)⟩
  obtain⟨x,hx⟩: ∃x,l[i]? =some x:=⟨_,List.getElem?_eq_getElem hi⟩
  have hR:=(h.2 i x hx).2 0 v (.str x) (by rw[show D.size C.str=1 from rfl,Nat.mul_one,List.getElem?_take,if_pos (by decide),List.getElem?_drop];exact hv) rfl
  rw[hv,hx]
  cases hR
  rfl
 ·rw[List.getElem?_eq_none (by omega),List.getElem?_eq_none hi];rfl
theorem w3y(σ:Hv)(l:List ByteArray):Els D σ C.str (l.flatMap Qj) l:=by
 rw[j6m]
 refine⟨by rw[List.length_map];exact (Nat.mul_one _).symm,fun i x hx=> ?_⟩
 rw[show D.size C.str=1 from rfl,Nat.mul_one]
 have hx:l[i]? =some x:=hx
 have e:((l.map Value.string).drop i).take 1=[.string x]:=by
  rw[←List.map_drop,List.drop_eq_getElem_cons (List.getElem?_eq_some_iff.1 hx).1,(List.getElem?_eq_some_iff.1 hx).2];rfl
 rw[e]
 refine⟨rfl,fun j v s hj hs=> ?_⟩
 cases j with
 |zero=>cases hj;cases hs;exact .str x
 |succ j=>cases hj
theorem q6j:z0r Proofs.Tryz.prog D 137 (conV ([.own 9 C.str]:LP) ([.vec 9 C.str]:LV) ([]:LV) ([.vec 9 C.str]:LV) (fun a K=>Jh a.1 (fun q0=>K () (q0,())))):=by
 intro args K hm w σ vals ins hG hL hS
 obtain⟨a,ha,hm⟩:=Qk hm
 have hargs:=W5 ha
 subst hargs
 obtain⟨s,_⟩:=a
 cases hL with
 |cons hp hr=>
 cases hr
 cases hp with
 |vec hE hl h1=>
 have hx:=v7l hE
 subst hx
 have hm:K [] [.vec 9 C.str (srt s)]:=hm
 refine Calls.mono (v06 Proofs.Tryz.slices_Sort_string Proofs.Tryz.slices_Sort_string_none hS.view (hS.get (i:=0) rfl) rfl (fun b hb=>hS.off _ (List.mem_of_getElem? (i:=0) rfl) b hb) (by omega)) ?_
 rintro _ w1 ⟨rfl,hg,ho⟩
 have hS1:=hS.growV (i:=0) (o':=vec _ 9 1 s.length ((srt s).flatMap Qj)) rfl hg rfl ho (ms':=[vec _ 9 1 s.length ((srt s).flatMap Qj)]) rfl
 refine⟨[],_,[],σ,[],[vec _ 9 1 (srt s).length ((srt s).flatMap Qj)],rfl,hm,.nil,.keep (.vec (w3y σ _) (Nat.le_trans (Nat.le_of_eq (Jv _)) hl) h1) .nil,?_⟩
 have e:(srt s).length=s.length:=Jv _
 rw[e];exact hS1
theorem q3j:z0r Proofs.Tryz.prog D 220 (conV ([.own 9 C.str]:LP) ([.vec 9 C.str]:LV) ([.vec 9 C.str]:LV) ([.same]:LV) (fun a K=>Jz a.1 (fun q0=>K (q0,()) ((),())))):=by
 intro args K hm w σ vals ins hG hL hS
 obtain⟨a,ha,hm⟩:=Qk hm
 have hargs:=W5 ha
 subst hargs
 obtain⟨s,_⟩:=a
 cases hL with
 |cons hp hr=>
 cases hr
 cases hp with
 |vec hE hl h1=>
 have hx:=v7l hE
 subst hx
 have hm:K [.vec 9 C.str (cpt s)] [.same]:=hm
 refine Calls.mono (j68 Proofs.Tryz.slices_Compact_string Proofs.Tryz.slices_Compact_string_empty hS.view (hS.get (i:=0) rfl) rfl (fun b hb=>hS.off _ (List.mem_of_getElem? (i:=0) rfl) b hb) (by omega)) ?_
 rintro _ w1 ⟨v1,rfl,hf,hg,ho⟩
 have hlc:(cpt s).length<=140737488355328:=Nat.le_trans (y8o _) hl
 have hS1:=hS.growV (i:=0) (o':=vec v1 9 1 (cpt s).length ((cpt s).flatMap Qj)) rfl hg hf ho (ms':=[vec v1 9 1 (cpt s).length ((cpt s).flatMap Qj)]) rfl
 exact⟨[.vec 9 C.str (cpt s)],[.same],[v1],σ,[vec v1 9 1 (cpt s).length ((cpt s).flatMap Qj)],[],rfl,hm,.cons (.vec (w3y σ _) hlc (q0c ho)) .nil,.skip .nil,hS1⟩
theorem y5v{σ:Hv}{v:Value}{l:List ByteArray}(h:RepF D σ v (.sl C.str l)):RSl 1 (REnc Qj) σ v l:=by
 obtain⟨a,cap,e1,e2,e3,e4⟩:=h.toRSl okP.ok
 refine⟨a,cap,e1,e2,e3,fun i x hx=> ?_⟩
 obtain⟨ad,cs,f1,f2,f3,f4⟩:=e4 i x hx
 refine⟨ad,cs,f1,f2,f3,?_⟩
 obtain⟨u,rfl⟩: ∃u,cs=[u]:=List.length_eq_one_iff.1 f2
 have g1:=f4.2 0 u (.str x) rfl rfl
 cases g1
 rfl
theorem y1k{σ:Hv}{v:Value}{l:List Edg}(h:RepF D σ v (.sl C.edge l)):RSl 2 (REnc y7v) σ v (l.map fun e=>(e.1,e.2)):=by
 obtain⟨a,cap,e1,e2,e3,e4⟩:=h.toRSl okP.ok
 have hl:(l.map fun e=>(e.1,e.2)).length=l.length:=List.length_map ..
 refine⟨a,cap,by rw[hl];exact e1,by rw[hl];exact e2,by rw[hl];exact e3,fun i x hx=> ?_⟩
 rw[List.getElem?_map] at hx
 obtain⟨y,hy,rfl⟩:=Option.map_eq_some_iff.1 hx
 obtain⟨ad,cs,f1,f2,f3,f4⟩:=e4 i y hy
 refine⟨ad,cs,f1,f2,f3,?_⟩
 obtain⟨u,v,rfl⟩: ∃u v,cs=[u,v]:=by
  match cs,f2 with
  |[u,v],_=>exact⟨u,v,rfl⟩
 have g1:=f4.2 0 u (.str y.src) rfl rfl
 have g2:=f4.2 1 v (.str y.dst) rfl rfl
 cases g1;cases g2
 rfl
theorem w3z:z0r Proofs.Tryz.prog D 178 (conV ([.sl C.str,.sl C.edge]:LP) ([.sl C.str,.sl C.edge]:LV) ([.vec 9 C.str,.int .i64]:LV) ([.same,.same]:LV) (fun a K=>P_graph_Order a.1 a.2.1 (fun q0 q1=>K (q0,q1,()) ((),(),())))):=by
 intro args K hm w σ vals ins hG hL hS
 obtain⟨a,ha,hm⟩:=Qk hm
 have hargs:=W5 ha
 subst hargs
 obtain⟨s,t,_⟩:=a
 cases hL with
 | @cons _ _ v1 _ _ _ hp hr=>
 cases hr with
 | @cons _ _ v2 _ _ _ hq hr=>
 cases hr
 cases hp with
 |f hf1=>
 cases hq with
 |f hf2=>
 have hm:Go.Fl.P_graph_Order s (t.map fun e=>(e.1,e.2)) (fun l n=>K [.vec 9 C.str l,.f (.int .i64 n)] [.same,.same]):=hm
 refine Calls.mono (Go.Proofs.YtkbjibhkaddepaaGreatDoor.w_graph_Order s (t.map fun e=>(e.1,e.2)) v1 v2 hS.view (y5v hf1) (y1k hf2) hm) ?_
 rintro e w1 ⟨l,n,v,rfl,hS1,hsm,hK⟩
 have hl:l.length<=140737488355328:=by unfold Sml at hsm;omega
 exact⟨[.vec 9 C.str l,.f (.int .i64 n)],[.same,.same],[v,.int .i64 n],σ,[vec v 9 1 l.length (l.flatMap Qj)],[],rfl,hK,.cons (.vec (w3y σ _) hl (q0c (hS1.get (i:=0) rfl))) (.cons (ms:=[]) (.f (.int _ _)) .nil),.skip (a0:=[]) (.skip (a0:=[]) .nil),hS1⟩
theorem j8a:z0r Proofs.Tryz.prog D 302 (conV ([.v,.v]:LP) ([.str,.str]:LV) ([.vec 9 C.str]:LV) ([.same,.same]:LV) (fun a K=>q78 a.1 a.2.1 (fun q0=>K (q0,()) ((),(),())))):=by
 intro args K hm w σ vals ins hG hL hS
 obtain⟨a,ha,hm⟩:=Qk hm
 have hargs:=W5 ha
 subst hargs
 obtain⟨s,t,_⟩:=a
 cases hL with
 |cons hp hr=>
 cases hr with
 |cons hq hr=>
 cases hr
 cases hp with
 |f hf=>
 cases hf
 cases hq with
 |f hf=>
 cases hf
 have hm:t.size=1/\s.size<4294967281/\K [.vec 9 C.str (q0v s t)] [.same,.same]:=hm
 obtain⟨h1,hsz,hm⟩:=hm
 obtain⟨n,hn⟩:=hG.free 6 .i64 rfl
 have hlen:(q0v s t).length=Go.Lib.countB s t+1:=Go.Lib.splitB_all t (by omega) 0 _ s rfl
 have hcnt:=Go.Lib.countB_le t (by omega) s.size s (Nat.le_refl _)
 refine Calls.mono (Proofs.Tryz.strings_Split s t n w hsz (hS.view.cell hn) (by omega)) ?_
 rintro e w' ⟨rfl,rfl⟩
 have ho:(vec (.slice (some ⟨w.heap.size,0,none⟩) (q0v s t).length (q0v s t).length) 9 1 (q0v s t).length ((q0v s t).flatMap Qj)).ok (w.alloc (.cells ((q0v s t).map Value.string).toArray 9)):=by
  refine⟨by rw[j6m];simp,.inr ⟨w.heap.size,_,_,rfl,Nat.zero_le _,heap_alloc_new _ _,Nat.le_refl _,by unfold maxLen;omega,by simp,?_⟩⟩
  rw[j6m,Nat.mul_one]
  exact List.take_of_length_le (by rw[List.length_map];exact Nat.le_refl _)
 have hS1:=hS.add (W4 w _) ho (by rintro k ⟨⟩;exact Nat.le_refl _)
 have hl:(q0v s t).length<=140737488355328:=by omega
 have hr:=(⟨[.vec 9 C.str (q0v s t)],[.same,.same],[_],σ,[_],[],rfl,hm,.cons (.vec (w3y σ _) hl (q0c ho)) .nil,.skip (a0:=[]) (.skip (a0:=[]) .nil),hS1⟩:Back D σ w [.f (.str s),.f (.str t)] [.string s,.string t] [] K (.returned (retV [.slice (some ⟨w.heap.size,0,none⟩) (q0v s t).length (q0v s t).length])) (w.alloc (.cells ((q0v s t).map Value.string).toArray 9)))
 rw[hlen] at hr
 exact hr
end Go.En
end
noncomputable section
set_option maxRecDepth 100000
open Go Go.RowKit Go.Fl Go.Fl.Lk Go.Fx
namespace Go.En
def q46(X:Ws):Con Sg:=conS [] [.vec 111 C.decl] fun _ K=>X (fun q0=>K (q0,()))
theorem q9e:MT 29 (q46 Us):=mS (l:=[]) trivial []
def v11(X:j6j):Con Sg:=conV [.ptr 92 [.c,.v]] [.ptr 92 [.sl C.u8,.int .i64]] [.bool] [.ptr 92 [.same,.int .i64]] fun a K=>X a.1.1 a.1.2.1 (fun q0 q1=>K (q0,()) (((),q1,()),()))
theorem y1l:MT 61 (v11 w3j):=mP (rk:=[.v]) (l:=[]) trivial []
def Vf(X:Zf):Con Sg:=conV [.ptr 92 [.c,.v],.v] [.ptr 92 [.sl C.u8,.int .i64],.int .i64] [.int .i64] [.ptr 92 [.same,.int .i64],.same] fun a K=>X a.1.1 a.1.2.1 a.2.1 (fun q0 q1=>K (q0,()) (((),q1,()),(),()))
theorem y1m{j6u:j6j}(h:AL [(61,v11 j6u)]):MT 30 (Vf (w3k j6u)):=mP (rk:=[.v]) h []
theorem Gc:MT 30 (Vf J2):=y1m ⟨y1l,trivial⟩
def z61(X:q06):Con Sg:=conV [.ptr 92 [.c,.v]] [.ptr 92 [.sl C.u8,.int .i64]] [.str] [.ptr 92 [.same,.int .i64]] fun a K=>X a.1.1 a.1.2.1 (fun q0 q1=>K (q0,()) (((),q1,()),()))
theorem y1n{Qb:Zf}(h:AL [(30,Vf Qb)]):MT 31 (z61 (w3l Qb)):=mP (rk:=[.v]) h []
theorem j6n:MT 31 (z61 z1o):=y1n ⟨Gc,trivial⟩
def j04(X:q54):Con Sg:=conV [.ptr 92 [.c,.v],.v] [.ptr 92 [.sl C.u8,.int .i64],.int .i64] [.int .i64] [.ptr 92 [.same,.int .i64],.same] fun a K=>X a.1.1 a.1.2.1 a.2.1 (fun q0 q1=>K (q0,()) (((),q1,()),(),()))
theorem y1o{Qb:Zf}(h:AL [(30,Vf Qb)]):MT 32 (j04 (w3m Qb)):=mP (rk:=[.v]) h []
theorem w30:MT 32 (j04 z6h):=y1o ⟨Gc,trivial⟩
def w31(X:z6i):Con Sg:=conS [.int .i64,.vec 9 C.str] [.sl C.str] fun a K=>X a.1 a.2.1 (fun q0=>K (q0,()))
theorem v18:MT 34 (w31 j6k):=mS (l:=[]) trivial []
def j6o(X:z1p):Con Sg:=conV [.ptr 92 [.c,.v]] [.ptr 92 [.sl C.u8,.int .i64]] [.vec 9 C.str] [.ptr 92 [.same,.int .i64]] fun a K=>X a.1.1 a.1.2.1 (fun q0 q1=>K (q0,()) (((),q1,()),()))
theorem y1p{Qb:Zf}(h:AL [(30,Vf Qb)]):MT 62 (j6o (w3n Qb)):=mP (rk:=[.own 9 C.str]) h [(9,⟨bl 397,[],[(0,(92,2))],[(.slot 4,.own 9 C.str),sI 5,(.cell 0 1,.int .i64)]⟩),(17,⟨bl 8121,[0],[],[sI 6,(.obj 1,.own 9 C.str)]⟩)]
theorem v19:MT 62 (j6o j0j):=y1p ⟨Gc,trivial⟩
def w32(X:z8n):Con Sg:=conV [.ptr 92 [.c,.v]] [.ptr 92 [.sl C.u8,.int .i64]] [.str] [.ptr 92 [.same,.int .i64]] fun a K=>X a.1.1 a.1.2.1 (fun q0 q1=>K (q0,()) (((),q1,()),()))
theorem y5w{Qb:Zf}(h:AL [(30,Vf Qb)]):MT 70 (w32 (w9b Qb)):=mP (rk:=[.v]) h []
theorem v7m:MT 70 (w32 j7v):=y5w ⟨Gc,trivial⟩
def z4w(X:q07):Con Sg:=conV [.ptr 92 [.c,.v],.v] [.ptr 92 [.sl C.u8,.int .i64],.int .i64] [.el C.val] [.ptr 92 [.same,.int .i64],.same] fun a K=>X a.1.1 a.1.2.1 a.2.1 (fun q0 q1=>K (q0,()) (((),q1,()),(),()))
theorem v7n{Qb:Zf}{Wa:q06}(h:AL [(30,Vf Qb),(31,z61 Wa)]):MT 64 (z4w (j0k Qb Wa)):=mP (rk:=[.el C.val]) h []
theorem j8b:MT 64 (z4w Bg):=v7n ⟨Gc,j6n,trivial⟩
def j6p(X:j0l):Con Sg:=conV [.ptr 92 [.c,.v]] [.ptr 92 [.sl C.u8,.int .i64]] [.el C.ex] [.ptr 92 [.same,.int .i64]] fun a K=>X a.1.1 a.1.2.1 (fun q0 q1=>K (q0,()) (((),q1,()),()))
theorem y1q{Q2:Ws}{Qb:Zf}{z29:z8n}{Z8:q07}(h:AL [(29,q46 Q2),(30,Vf Qb),(70,w32 z29),(64,z4w Z8)]):MT 105 (j6p (w3o Q2 Qb z29 Z8)):=mP (rk:=[.el C.ex]) h [(68,⟨bl 4286840701,[3,2],[(5,(66,5)),(0,(92,2)),(1,(66,5))],[(.cell 5 0,.int .i64),(.cell 5 1,.str),(.cell 5 2,.str),(.cell 5 3,.own 72 C.val),(.cell 5 4,.own 66 C.ex),(.cell 0 1,.int .i64),(.cell 1 0,.int .i64),(.cell 1 1,.str),(.cell 1 2,.str),(.cell 1 3,.own 72 C.val),(.cell 1 4,.own 66 C.ex)]⟩),(60,⟨bl 17163319925,[],[(0,(92,2)),(5,(66,5)),(1,(66,5))],[(.cell 0 1,.int .i64),(.cell 5 0,.int .i64),(.cell 5 1,.str),(.cell 5 2,.str),(.cell 5 3,.own 72 C.val),(.cell 5 4,.own 66 C.ex),(.cell 1 0,.int .i64),(.cell 1 1,.str),(.cell 1 2,.str),(.cell 1 3,.own 72 C.val),(.cell 1 4,.own 66 C.ex)]⟩),(37,⟨bl 1055806024022645,[1],[(5,(66,5)),(0,(92,2))],[sI 7,(.cell 5 3,.own 72 C.val),(.cell 0 1,.int .i64)]⟩)]
theorem y1r:MT 105 (j6p z6j):=y1q ⟨q9e,Gc,v7m,j8b,trivial⟩
def j6q(X:q31):Con Sg:=conV [.ptr 92 [.c,.v],.sl C.str,.v] [.ptr 92 [.sl C.u8,.int .i64],.sl C.str,.int .i64] [.el C.ex] [.ptr 92 [.same,.int .i64],.same,.same] fun a K=>X a.1.1 a.1.2.1 a.2.1 a.2.2.1 (fun q0 q1=>K (q0,()) (((),q1,()),(),(),()))
def w6v:PT:=Q3 ([(8,⟨bl 24647,[0,1],[],[sI 7]⟩),(28,⟨bl 3298996281543,[0,1],[],[sB 49]⟩),(37,⟨bl 1148984153929181127,[1],[(0,(92,2)),(4,(66,5))],[sI 11,(.cell 0 1,.int .i64),(.cell 4 0,.int .i64),(.cell 4 1,.str),(.cell 4 2,.str),(.cell 4 3,.own 72 C.val),(.cell 4 4,.own 66 C.ex)]⟩),(46,⟨bl 1152917567256169316295,[0,12,11,4],[(13,(66,5))],[(.cell 13 0,.int .i64),(.cell 13 1,.str),(.cell 13 2,.str),(.cell 13 3,.sl C.val),(.cell 13 4,.sl C.ex)]⟩)]:LS)
theorem v3o(Qb:Zf)(j18:j0l)(X:q31)(list:List (Int))(at_:Int)(segments:List (ByteArray))(levels:Int)(K:Ex->Int->Prop):j6l Qb j18 X list at_ segments levels K=fnV (((WL [(30,Vf Qb),(105,j6p j18)]).with 63 (j6q X)).pl w6v) 4 63 ([.ptr 92 [.c,.v],.sl C.str,.v]:LP) ([.el C.ex]:LP) ([.ptr 92 [.sl C.u8,.int .i64],.sl C.str,.int .i64]:LV) ([.el C.ex]:LV) ([.ptr 92 [.same,.int .i64],.same,.same]:LV) ((list,at_,()),segments,levels,()) (fun r o=>K r.1 o.1.2.1):=by kernel_rfl
theorem v2a:MT 63 (j6q j0m):=by
 show MT _ (conV ([.ptr 92 [.c,.v],.sl C.str,.v]:LP) ([.ptr 92 [.sl C.u8,.int .i64],.sl C.str,.int .i64]:LV) ([.el C.ex]:LV) ([.ptr 92 [.same,.int .i64],.same,.same]:LV) fun a K=>j0m a.1.1 a.1.2.1 a.2.1 a.2.2.1 (fun q0 q1=>K (q0,()) (((),q1,()),(),(),())))
 refine mR (l:=[(30,Vf J2),(105,j6p z6j)]) (u:=4) (rk:=[.el C.ex]) (p:=w6v) ⟨Gc,y1r,trivial⟩ (by kernel_rfl) fun a K h X hX=> ?_
 exact h (fun list at_ segments levels K=>X ((list,at_,()),segments,levels,()) fun r o=>K r.1 o.1.2.1) (fun list at_ segments levels K hs=>hX ((list,at_,()),segments,levels,()) (fun r o=>K r.1 o.1.2.1) (Eq.mp (v3o J2 z6j (fun list at_ segments levels K=>X ((list,at_,()),segments,levels,()) fun r o=>K r.1 o.1.2.1) list at_ segments levels K) hs))
def z4x(X:q4u):Con Sg:=conV [.ptr 92 [.c,.v],.ptr 46 [.v,.v,.v,.sl C.decl,.own 144 C.seg,.own 34 C.flag,.own 102 C.layer,.own 68 C.exper]] [.ptr 92 [.sl C.u8,.int .i64],.ptr 46 [.str,.str,.int .i64,.sl C.decl,.vec 144 C.seg,.vec 34 C.flag,.vec 102 C.layer,.vec 68 C.exper]] [] [.ptr 92 [.same,.int .i64],.ptr 46 [.str,.str,.int .i64,.sl C.decl,.vec 144 C.seg,.vec 34 C.flag,.vec 102 C.layer,.vec 68 C.exper]] fun a K=>X a.1.1 a.1.2.1 a.2.1.1 a.2.1.2.1 a.2.1.2.2.1 a.2.1.2.2.2.1 a.2.1.2.2.2.2.1 a.2.1.2.2.2.2.2.1 a.2.1.2.2.2.2.2.2.1 a.2.1.2.2.2.2.2.2.2.1 (fun q0 q1 q2 q3 q4 q5 q6 q7 q8=>K () (((),q0,()),(q1,q2,q3,q4,q5,q6,q7,q8,()),()))
theorem w6w{Qb:Zf}{q2s:z6i}{q4e:z1p}{q4f:q31}(h:AL [(30,Vf Qb),(34,w31 q2s),(62,j6o q4e),(63,j6q q4f)]):MT 33 (z4x (z4a Qb q2s q4e q4f)):=mP (rk:=[]) h [(5,⟨bl 1427,[3,4,5],[(0,(92,2)),(1,(46,8))],[sI 5,(.cell 0 1,.int .i64),(.cell 1 4,.own 144 C.seg)]⟩),(14,⟨bl 67010035,[11,10,9,1],[(12,(144,9)),(0,(92,2))],[(.cell 12 1,.str),(.cell 0 1,.int .i64)]⟩),(18,⟨bl 67010035,[11,10,9,1],[(12,(144,9)),(0,(92,2))],[(.cell 12 4,.int .i64),(.cell 12 5,.str),(.cell 12 6,.str),(.cell 12 7,.sl C.val),(.cell 12 8,.sl C.ex),(.cell 0 1,.int .i64)]⟩)]
theorem w6x:MT 33 (z4x q8z):=w6w ⟨Gc,v18,v19,v2a,trivial⟩
end Go.En
end
noncomputable section
set_option maxRecDepth 100000
open Go Go.RowKit Go.Fl Go.Fl.Lk Go.Fx
namespace Go.En
def z4y(X:q08):Con Sg:=conS [.el C.env] [.vec 9 C.str] fun a K=>X a.1 (fun q0=>K (q0,()))
theorem j8c:MT 65 (z4y q09):=mS (l:=[]) trivial [(7,⟨[0,1,2],[0],[],[(.slot 3,.own 9 C.str),sI 4]⟩)]
def j05(X:q7k):Con Sg:=conV [.ptr 92 [.c,.v],.v] [.ptr 92 [.sl C.u8,.int .i64],.int .i64] [.vec 162 C.range] [.ptr 92 [.same,.int .i64],.same] fun a K=>X a.1.1 a.1.2.1 a.2.1 (fun q0 q1=>K (q0,()) (((),q1,()),(),()))
theorem v7o{Qb:Zf}{Wm:q54}(h:AL [(30,Vf Qb),(32,j04 Wm)]):MT 39 (j05 (j7w Qb Wm)):=mP (rk:=[.own 162 C.range]) h [(26,⟨[0,1,4],[],[(0,(92,2))],[(.slot 5,.own 162 C.range),sI 6,sI 7,(.cell 0 1,.int .i64)]⟩),(32,⟨bl 8444249301319923,[0,1],[],[sI 11]⟩),(9,⟨[0,1,4],[],[(0,(92,2))],[(.slot 5,.own 162 C.range),sI 6,sI 7,sI 8,(.cell 0 1,.int .i64)]⟩),(20,⟨bl 2144334835,[0,1],[],[sI 10]⟩)]
theorem w6y:MT 39 (j05 z4b):=v7o ⟨Gc,w30,trivial⟩
def j8d(X:z4c):Con Sg:=conV [.ptr 92 [.c,.v],.v] [.ptr 92 [.sl C.u8,.int .i64],.int .i64] [.el C.serve] [.ptr 92 [.same,.int .i64],.same] fun a K=>X a.1.1 a.1.2.1 a.2.1 (fun q0 q1=>K (q0,()) (((),q1,()),(),()))
theorem v7p{Qb:Zf}{Wa:q06}{q2t:q7k}{Q2:Ws}(h:AL [(30,Vf Qb),(31,z61 Wa),(39,j05 q2t),(29,q46 Q2)]):MT 13 (j8d (j7x Qb Wa q2t Q2)):=mP (rk:=[.el C.serve]) h []
theorem v7q:MT 13 (j8d j0n):=v7p ⟨Gc,j6n,w6y,q9e,trivial⟩
def w6z(X:j0o):Con Sg:=conV [] [] [.ptr 215 [.vec 289 C.node,.map C.node C.i64,.bool]] [] fun _ K=>X (fun q0 q1 q2=>K ((q0,q1,q2,()),()) ())
theorem v7r:MT 106 (w6z w6r):=mP (rk:=[.ptr 215 [.own 289 C.node,.map C.node C.i64,.v]]) (l:=[]) trivial []
def q0m(X:W6):Con Sg:=conS [.int .i64] [.bool] fun a K=>X a.1 (fun q0=>K (q0,()))
theorem z2f:MT 128 (q0m Jw):=mS (l:=[]) trivial []
def w60(X:j0p):Con Sg:=conS [.sl C.str,.sl C.str] [.bool] fun a K=>X a.1 a.2.1 (fun q0=>K (q0,()))
theorem v7s:MT 94 (w60 j0q):=mS (l:=[]) trivial [(9,⟨bl 1987,[],[],[sI 5]⟩)]
def z62(X:q0w):Con Sg:=conS [.el C.val,.el C.val] [.bool] fun a K=>X a.1 a.2.1 (fun q0=>K (q0,()))
theorem v3p{j2a:j0p}(h:AL [(94,w60 j2a)]):MT 53 (z62 (j21 j2a)):=mS h []
theorem w1z:MT 53 (z62 q28):=v3p ⟨v7s,trivial⟩
def q2f(X:Hm):Con Sg:=conS [.sl C.val,.sl C.val] [.bool] fun a K=>X a.1 a.2.1 (fun q0=>K (q0,()))
theorem j8e{W2:q0w}(h:AL [(53,z62 W2)]):MT 256 (q2f (q7l W2)):=mS h [(9,⟨bl 1987,[],[],[sI 5]⟩)]
theorem j8f:MT 256 (q2f Ue):=j8e ⟨w1z,trivial⟩
def z2g(X:Vm):Con Sg:=conV [.el C.ex,.el C.ex] [.el C.ex,.el C.ex] [.bool] [.same,.same] fun a K=>X a.1 a.2.1 (fun q0=>K (q0,()) ((),(),()))
def z70:PT:=Q3 ([(258000009,⟨bl 1987,[],[],[sI 5]⟩)]:LS)
theorem j8g(q2u:Hm)(X:Vm)(a:Ex)(b:Ex)(K:Bool->Prop):z1q q2u X a b K=fnV (((WL [(256,q2f q2u)]).with 197 (z2g X)).pl z70) 4 197 ([.el C.ex,.el C.ex]:LP) ([.v]:LP) ([.el C.ex,.el C.ex]:LV) ([.bool]:LV) ([.same,.same]:LV) (a,b,()) (fun r _=>K r.1):=by kernel_rfl
theorem w33:MT 197 (z2g q1a):=by
 show MT _ (conV ([.el C.ex,.el C.ex]:LP) ([.el C.ex,.el C.ex]:LV) ([.bool]:LV) ([.same,.same]:LV) fun a K=>q1a a.1 a.2.1 (fun q0=>K (q0,()) ((),(),())))
 refine mR (l:=[(256,q2f Ue)]) (u:=4) (rk:=[.v]) (p:=z70) ⟨j8f,trivial⟩ (by kernel_rfl) fun a K h X hX=> ?_
 exact h (fun a b K=>X (a,b,()) fun r _=>K r.1) (fun a b K hs=>hX (a,b,()) (fun r _=>K r.1) (Eq.mp (j8g Ue (fun a b K=>X (a,b,()) fun r _=>K r.1) a b K) hs))
def q3k(X:q0e):Con Sg:=conS [.sl C.ex,.el C.ex] [.int .i64] fun a K=>X a.1 a.2.1 (fun q0=>K (q0,()))
theorem w9f{q6q:Vm}(h:AL [(197,z2g q6q)]):MT 157 (q3k (z8o q6q)):=mS h [(5,⟨[0,1,3],[0],[],[sI 5]⟩)]
theorem j8h:MT 157 (q3k V2):=w9f ⟨w33,trivial⟩
def z0e(X:Wt):Con Sg:=conV [.sl C.ex,.el C.ex] [.sl C.ex,.el C.ex] [.sl C.ex] [.same,.same] fun a K=>X a.1 a.2.1 (fun q0=>K (q0,()) ((),(),()))
def z4z:PT:=Q3 ([(6,⟨[1,3,4],[0],[],[(.slot 0,.sl C.ex)]⟩),(9,⟨[1,3,4],[0],[],[(.slot 0,.sl C.ex),sI 5]⟩)]:LS)
theorem j5d(V4:q0e)(Q1:W6)(X:Wt)(l:List (Ex))(e:Ex)(K:List (Ex)->Prop):q92 V4 Q1 X l e K=fnV (((WL [(157,q3k V4),(128,q0m Q1)]).with 154 (z0e X)).pl z4z) 4 154 ([.sl C.ex,.el C.ex]:LP) ([.sl C.ex]:LP) ([.sl C.ex,.el C.ex]:LV) ([.sl C.ex]:LV) ([.same,.same]:LV) (l,e,()) (fun r _=>K r.1):=by kernel_rfl
theorem w0f:MT 154 (z0e q32):=by
 show MT _ (conV ([.sl C.ex,.el C.ex]:LP) ([.sl C.ex,.el C.ex]:LV) ([.sl C.ex]:LV) ([.same,.same]:LV) fun a K=>q32 a.1 a.2.1 (fun q0=>K (q0,()) ((),(),())))
 refine mR (l:=[(157,q3k V2),(128,q0m Jw)]) (u:=4) (rk:=[.sl C.ex]) (p:=z4z) ⟨j8h,z2f,trivial⟩ (by kernel_rfl) fun a K h X hX=> ?_
 exact h (fun l e K=>X (l,e,()) fun r _=>K r.1) (fun l e K hs=>hX (l,e,()) (fun r _=>K r.1) (Eq.mp (j5d V2 Jw (fun l e K=>X (l,e,()) fun r _=>K r.1) l e K) hs))
def q8e(X:Hn):Con Sg:=conS [.sl C.rule] [.sl C.ex] fun a K=>X a.1 (fun q0=>K (q0,()))
theorem j8i{q4h:Wt}(h:AL [(154,z0e q4h)]):MT 107 (q8e (q7m q4h)):=mS h [(7,⟨[0,2],[],[],[(.slot 3,.sl C.ex),sI 4]⟩)]
theorem j8j:MT 107 (q8e q1b):=j8i ⟨w0f,trivial⟩
end Go.En
end
noncomputable section
set_option maxRecDepth 100000
open Go Go.RowKit Go.Fl Go.Fl.Lk Go.Fx
namespace Go.En
def q2g(X:J3):Con Sg:=conV [.ptr 215 [.own 289 C.node,.map C.node C.i64,.v],.v] [.ptr 215 [.vec 289 C.node,.map C.node C.i64,.bool],.int .i64] [.bool] [.ptr 215 [.vec 289 C.node,.map C.node C.i64,.bool],.same] fun a K=>X a.1.1 a.1.2.1 a.1.2.2.1 a.2.1 (fun q0 q1 q2 q3=>K (q0,()) ((q1,q2,q3,()),(),()))
theorem q6k:MT 198 (q2g Uy):=mP (rk:=[.v]) (l:=[]) trivial []
def z3n(X:Bt):Con Sg:=conV [.ptr 215 [.own 289 C.node,.map C.node C.i64,.v],.v] [.ptr 215 [.vec 289 C.node,.map C.node C.i64,.bool],.int .i64] [.map C.i64 C.bool] [.ptr 215 [.vec 289 C.node,.map C.node C.i64,.bool],.same] fun a K=>X a.1.1 a.1.2.1 a.1.2.2.1 a.2.1 (fun q0 q1 q2 q3=>K (q0,()) ((q1,q2,q3,()),(),()))
theorem j5e:MT 258 (z3n Bu):=mP (rk:=[.map C.i64 C.bool]) (l:=[]) trivial [(7,⟨bl 1843,[0,1,2],[],[(.slot 6,.own 3 C.i64),(.obj 3,.map C.i64 C.bool)]⟩)]
def q3l(X:Uf):Con Sg:=conV [.ptr 215 [.own 289 C.node,.map C.node C.i64,.v],.v] [.ptr 215 [.vec 289 C.node,.map C.node C.i64,.bool],.int .i64] [.vec 3 C.i64] [.ptr 215 [.vec 289 C.node,.map C.node C.i64,.bool],.same] fun a K=>X a.1.1 a.1.2.1 a.1.2.2.1 a.2.1 (fun q0 q1 q2 q3=>K (q0,()) ((q1,q2,q3,()),(),()))
theorem j3e{Qx:J3}{B5:Bt}(h:AL [(198,q2g Qx),(258,z3n B5)]):MT 200 (q3l (z0t Qx B5)):=mP (rk:=[.own 3 C.i64]) h [(13,⟨bl 32563,[5,0,4,2],[],[(.slot 6,.own 3 C.i64),sI 7]⟩)]
theorem j3f:MT 200 (q3l Rh):=j3e ⟨q6k,j5e,trivial⟩
def Wj(X:Zg):Con Sg:=conV [.ptr 215 [.own 289 C.node,.map C.node C.i64,.v],.v] [.ptr 215 [.vec 289 C.node,.map C.node C.i64,.bool],.int .i64] [.bool] [.ptr 215 [.vec 289 C.node,.map C.node C.i64,.bool],.same] fun a K=>X a.1.1 a.1.2.1 a.1.2.2.1 a.2.1 (fun q0 q1 q2 q3=>K (q0,()) ((q1,q2,q3,()),(),()))
theorem z7j{Qx:J3}{Rw:Uf}(h:AL [(198,q2g Qx),(200,q3l Rw)]):MT 159 (Wj (q5z Qx Rw)):=mP (rk:=[.v]) h [(11,⟨bl 16291,[5,0,4,2],[],[sI 6]⟩)]
theorem Ba:MT 159 (Wj Jp):=z7j ⟨q6k,j3f,trivial⟩
def Bm(X:Wu):Con Sg:=conV [.ptr 215 [.own 289 C.node,.map C.node C.i64,.v],.v] [.ptr 215 [.vec 289 C.node,.map C.node C.i64,.bool],.int .i64] [.int .i64] [.ptr 215 [.vec 289 C.node,.map C.node C.i64,.bool],.same] fun a K=>X a.1.1 a.1.2.1 a.1.2.2.1 a.2.1 (fun q0 q1 q2 q3=>K (q0,()) ((q1,q2,q3,()),(),()))
theorem z0f:MT 199 (Bm J4):=mP (rk:=[.v]) (l:=[]) trivial []
def B2(X:Gn):Con Sg:=conV [.ptr 215 [.own 289 C.node,.map C.node C.i64,.v],.v,.v] [.ptr 215 [.vec 289 C.node,.map C.node C.i64,.bool],.int .i64,.int .i64] [.int .i64,.int .i64] [.ptr 215 [.vec 289 C.node,.map C.node C.i64,.bool],.same,.same] fun a K=>X a.1.1 a.1.2.1 a.1.2.2.1 a.2.1 a.2.2.1 (fun q0 q1 q2 q3 q4=>K (q0,q1,()) ((q2,q3,q4,()),(),(),()))
theorem j5f{Q7:Wu}(h:AL [(199,Bm Q7)]):MT 259 (B2 (z3l Q7)):=mP (rk:=[.v,.v]) h []
theorem j5g:MT 259 (B2 Wd):=j5f ⟨z0f,trivial⟩
def Un(X:W7):Con Sg:=conV [.ptr 215 [.own 289 C.node,.map C.node C.i64,.v],.v,.v,.v] [.ptr 215 [.vec 289 C.node,.map C.node C.i64,.bool],.int .i64,.int .i64,.int .i64] [.int .i64] [.ptr 215 [.vec 289 C.node,.map C.node C.i64,.bool],.same,.same,.same] fun a K=>X a.1.1 a.1.2.1 a.1.2.2.1 a.2.1 a.2.2.1 a.2.2.2.1 (fun q0 q1 q2 q3=>K (q0,()) ((q1,q2,q3,()),(),(),(),()))
theorem j8k{Qx:J3}{Q7:Wu}(h:AL [(198,q2g Qx),(199,Bm Q7)]):MT 158 (Un (z4d Qx Q7)):=mP (rk:=[.v]) h []
theorem z40:MT 158 (Un Z7):=j8k ⟨q6k,z0f,trivial⟩
def q3m(X:Je):Con Sg:=conV [.ptr 215 [.own 289 C.node,.map C.node C.i64,.v],.v,.v,.v,.map C.a3 C.i64] [.ptr 215 [.vec 289 C.node,.map C.node C.i64,.bool],.int .i64,.int .i64,.int .i64,.map C.a3 C.i64] [.int .i64] [.ptr 215 [.vec 289 C.node,.map C.node C.i64,.bool],.same,.same,.same,.map C.a3 C.i64] fun a K=>X a.1.1 a.1.2.1 a.1.2.2.1 a.2.1 a.2.2.1 a.2.2.2.1 a.2.2.2.2.1 (fun q0 q1 q2 q3 q4=>K (q0,()) ((q1,q2,q3,()),(),(),(),q4,()))
def q9f:PT:=Q3 ([(36,⟨bl 4951760157141239551596952607,[3,4],[(0,(215,3))],[sI 23,(.cell 0 0,.own 289 C.node),(.cell 0 2,.bool),(.obj 2,.map C.node C.i64)]⟩)]:LS)
theorem z89(Q7:Wu)(Vk:Gn)(Jn:W7)(X:Je)(ns:List (Nd))(ids:(Nd->Option (Int)))(full:Bool)(f:Int)(g:Int)(h:Int)(known:(A3->Option (Int)))(K:Int->List (Nd)->(Nd->Option (Int))->Bool->(A3->Option (Int))->Prop):Ug Q7 Vk Jn X ns ids full f g h known K=fnV (((WL [(199,Bm Q7),(259,B2 Vk),(158,Un Jn)]).with 201 (q3m X)).pl q9f) 4 201 ([.ptr 215 [.own 289 C.node,.map C.node C.i64,.v],.v,.v,.v,.map C.a3 C.i64]:LP) ([.v]:LP) ([.ptr 215 [.vec 289 C.node,.map C.node C.i64,.bool],.int .i64,.int .i64,.int .i64,.map C.a3 C.i64]:LV) ([.int .i64]:LV) ([.ptr 215 [.vec 289 C.node,.map C.node C.i64,.bool],.same,.same,.same,.map C.a3 C.i64]:LV) ((ns,ids,full,()),f,g,h,known,()) (fun r o=>K r.1 o.1.1 o.1.2.1 o.1.2.2.1 o.2.2.2.2.1):=by kernel_rfl
theorem j3g:MT 201 (q3m Ri):=by
 show MT _ (conV ([.ptr 215 [.own 289 C.node,.map C.node C.i64,.v],.v,.v,.v,.map C.a3 C.i64]:LP) ([.ptr 215 [.vec 289 C.node,.map C.node C.i64,.bool],.int .i64,.int .i64,.int .i64,.map C.a3 C.i64]:LV) ([.int .i64]:LV) ([.ptr 215 [.vec 289 C.node,.map C.node C.i64,.bool],.same,.same,.same,.map C.a3 C.i64]:LV) fun a K=>Ri a.1.1 a.1.2.1 a.1.2.2.1 a.2.1 a.2.2.1 a.2.2.2.1 a.2.2.2.2.1 (fun q0 q1 q2 q3 q4=>K (q0,()) ((q1,q2,q3,()),(),(),(),q4,())))
 refine mR (l:=[(199,Bm J4),(259,B2 Wd),(158,Un Z7)]) (u:=4) (rk:=[.v]) (p:=q9f) ⟨z0f,j5g,z40,trivial⟩ (by kernel_rfl) fun a K h X hX=> ?_
 exact h (fun ns ids full f g h known K=>X ((ns,ids,full,()),f,g,h,known,()) fun r o=>K r.1 o.1.1 o.1.2.1 o.1.2.2.1 o.2.2.2.2.1) (fun ns ids full f g h known K hs=>hX ((ns,ids,full,()),f,g,h,known,()) (fun r o=>K r.1 o.1.1 o.1.2.1 o.1.2.2.1 o.2.2.2.2.1) (Eq.mp (z89 J4 Wd Z7 (fun ns ids full f g h known K=>X ((ns,ids,full,()),f,g,h,known,()) fun r o=>K r.1 o.1.1 o.1.2.1 o.1.2.2.1 o.2.2.2.2.1) ns ids full f g h known K) hs))
def Uo(X:Zy):Con Sg:=conV [.ptr 215 [.own 289 C.node,.map C.node C.i64,.v],.v,.v,.v] [.ptr 215 [.vec 289 C.node,.map C.node C.i64,.bool],.int .i64,.int .i64,.int .i64] [.int .i64] [.ptr 215 [.vec 289 C.node,.map C.node C.i64,.bool],.same,.same,.same] fun a K=>X a.1.1 a.1.2.1 a.1.2.2.1 a.2.1 a.2.2.1 a.2.2.2.1 (fun q0 q1 q2 q3=>K (q0,()) ((q1,q2,q3,()),(),(),(),()))
theorem j3h{Qq:Zg}{Qx:J3}{Rx:Je}(h:AL [(159,Wj Qq),(198,q2g Qx),(201,q3m Rx)]):MT 160 (Uo (z0u Qq Qx Rx)):=mP (rk:=[.v]) h []
theorem q3n:MT 160 (Uo Wy):=j3h ⟨Ba,q6k,j3g,trivial⟩
def q4a(X:Bh):Con Sg:=conV [.ptr 215 [.own 289 C.node,.map C.node C.i64,.v],.v] [.ptr 215 [.vec 289 C.node,.map C.node C.i64,.bool],.int .i64] [.int .i64] [.ptr 215 [.vec 289 C.node,.map C.node C.i64,.bool],.same] fun a K=>X a.1.1 a.1.2.1 a.1.2.2.1 a.2.1 (fun q0 q1 q2 q3=>K (q0,()) ((q1,q2,q3,()),(),()))
theorem w0g{Q0:Zy}(h:AL [(160,Uo Q0)]):MT 155 (q4a (z7x Q0)):=mP (rk:=[.v]) h []
theorem w0h:MT 155 (q4a G3):=w0g ⟨q3n,trivial⟩
def q4b(X:Bi):Con Sg:=conV [.ptr 215 [.own 289 C.node,.map C.node C.i64,.v],.v,.v] [.ptr 215 [.vec 289 C.node,.map C.node C.i64,.bool],.int .i64,.int .i64] [.int .i64] [.ptr 215 [.vec 289 C.node,.map C.node C.i64,.bool],.same,.same] fun a K=>X a.1.1 a.1.2.1 a.1.2.2.1 a.2.1 a.2.2.1 (fun q0 q1 q2 q3=>K (q0,()) ((q1,q2,q3,()),(),(),()))
theorem w0i{Qq:Zg}{Q0:Zy}(h:AL [(159,Wj Qq),(160,Uo Q0)]):MT 156 (q4b (z7y Qq Q0)):=mP (rk:=[.v]) h []
theorem w0j:MT 156 (q4b G4):=w0i ⟨Ba,q3n,trivial⟩
def q2h(X:Uz):Con Sg:=conV [.ptr 215 [.own 289 C.node,.map C.node C.i64,.v],.v,.v] [.ptr 215 [.vec 289 C.node,.map C.node C.i64,.bool],.int .i64,.int .i64] [.int .i64] [.ptr 215 [.vec 289 C.node,.map C.node C.i64,.bool],.same,.same] fun a K=>X a.1.1 a.1.2.1 a.1.2.2.1 a.2.1 a.2.2.1 (fun q0 q1 q2 q3=>K (q0,()) ((q1,q2,q3,()),(),(),()))
theorem w34{Qq:Zg}{Q0:Zy}(h:AL [(159,Wj Qq),(160,Uo Q0)]):MT 109 (q2h (j0r Qq Q0)):=mP (rk:=[.v]) h []
theorem j06:MT 109 (q2h U0):=w34 ⟨Ba,q3n,trivial⟩
end Go.En
end
noncomputable section
set_option maxRecDepth 100000
open Go Go.RowKit Go.Fl Go.Fl.Lk Go.Fx
namespace Go.En
def q8f(X:J7):Con Sg:=conV [.ptr 215 [.own 289 C.node,.map C.node C.i64,.v],.sl C.ex,.el C.ex] [.ptr 215 [.vec 289 C.node,.map C.node C.i64,.bool],.sl C.ex,.el C.ex] [.int .i64] [.ptr 215 [.vec 289 C.node,.map C.node C.i64,.bool],.same,.same] fun a K=>X a.1.1 a.1.2.1 a.1.2.2.1 a.2.1 a.2.2.1 (fun q0 q1 q2 q3=>K (q0,()) ((q1,q2,q3,()),(),(),()))
def z3o:PT:=Q3 ([(16,⟨bl 129127,[3,0,1,2],[],[sB 26]⟩),(21,⟨bl 68249843815,[3],[(0,(215,3))],[sI 7,sI 8,(.cell 0 0,.own 289 C.node),(.cell 0 2,.bool),(.obj 2,.map C.node C.i64)]⟩)]:LS)
theorem j3i(q4i:Bh)(q4j:Bi)(Wn:Uz)(V4:q0e)(Jn:W7)(X:J7)(ns:List (Nd))(ids:(Nd->Option (Int)))(full:Bool)(atoms:List (Ex))(e:Ex)(K:Int->List (Nd)->(Nd->Option (Int))->Bool->Prop):q7n q4i q4j Wn V4 Jn X ns ids full atoms e K=fnV (((WL [(155,q4a q4i),(156,q4b q4j),(109,q2h Wn),(157,q3k V4),(158,Un Jn)]).with 108 (q8f X)).pl z3o) 4 108 ([.ptr 215 [.own 289 C.node,.map C.node C.i64,.v],.sl C.ex,.el C.ex]:LP) ([.v]:LP) ([.ptr 215 [.vec 289 C.node,.map C.node C.i64,.bool],.sl C.ex,.el C.ex]:LV) ([.int .i64]:LV) ([.ptr 215 [.vec 289 C.node,.map C.node C.i64,.bool],.same,.same]:LV) ((ns,ids,full,()),atoms,e,()) (fun r o=>K r.1 o.1.1 o.1.2.1 o.1.2.2.1):=by kernel_rfl
theorem j8l:MT 108 (q8f q1c):=by
 show MT _ (conV ([.ptr 215 [.own 289 C.node,.map C.node C.i64,.v],.sl C.ex,.el C.ex]:LP) ([.ptr 215 [.vec 289 C.node,.map C.node C.i64,.bool],.sl C.ex,.el C.ex]:LV) ([.int .i64]:LV) ([.ptr 215 [.vec 289 C.node,.map C.node C.i64,.bool],.same,.same]:LV) fun a K=>q1c a.1.1 a.1.2.1 a.1.2.2.1 a.2.1 a.2.2.1 (fun q0 q1 q2 q3=>K (q0,()) ((q1,q2,q3,()),(),(),())))
 refine mR (l:=[(155,q4a G3),(156,q4b G4),(109,q2h U0),(157,q3k V2),(158,Un Z7)]) (u:=4) (rk:=[.v]) (p:=z3o) ⟨w0h,w0j,j06,j8h,z40,trivial⟩ (by kernel_rfl) fun a K h X hX=> ?_
 exact h (fun ns ids full atoms e K=>X ((ns,ids,full,()),atoms,e,()) fun r o=>K r.1 o.1.1 o.1.2.1 o.1.2.2.1) (fun ns ids full atoms e K hs=>hX ((ns,ids,full,()),atoms,e,()) (fun r o=>K r.1 o.1.1 o.1.2.1 o.1.2.2.1) (Eq.mp (j3i G3 G4 U0 V2 Z7 (fun ns ids full atoms e K=>X ((ns,ids,full,()),atoms,e,()) fun r o=>K r.1 o.1.1 o.1.2.1 o.1.2.2.1) ns ids full atoms e K) hs))
def Rq(X:Jx):Con Sg:=conS [.sl C.rule] [.vec 3 C.i64,.int .i64,.bool] fun a K=>X a.1 (fun q0 q1 q2=>K (q0,q1,q2,()))
theorem j3j{j2c:j0o}{q2v:Hn}{q2w:J7}{Wn:Uz}(h:AL [(106,w6z j2c),(107,q8e q2v),(108,q8f q2w),(109,q2h Wn)]):MT 66 (Rq (q29 j2c q2v q2w Wn)):=mS h [(13,⟨bl 28769,[],[(0,(215,3))],[sI 7,(.slot 8,.own 3 C.i64),sI 9,(.cell 0 0,.own 289 C.node),(.cell 0 2,.bool),(.obj 2,.map C.node C.i64)]⟩)]
theorem z1b:MT 66 (Rq Uh):=j3j ⟨v7r,j8j,j8l,j06,trivial⟩
def j8m(X:z4e):Con Sg:=conV [.ptr 92 [.c,.v],.v] [.ptr 92 [.sl C.u8,.int .i64],.str] [.el C.layer] [.ptr 92 [.same,.int .i64],.same] fun a K=>X a.1.1 a.1.2.1 a.2.1 (fun q0 q1=>K (q0,()) (((),q1,()),(),()))
theorem v7t{Wa:q06}{Qb:Zf}{Wm:q54}(h:AL [(31,z61 Wa),(30,Vf Qb),(32,j04 Wm)]):MT 36 (j8m (j7y Wa Qb Wm)):=mP (rk:=[.el C.layer]) h [(8,⟨bl 130099,[1],[(2,(102,6)),(0,(92,2))],[(.cell 2 1,.str),(.cell 0 1,.int .i64)]⟩),(12,⟨bl 130099,[1],[(2,(102,6)),(0,(92,2))],[(.cell 2 3,.int .i64),(.cell 0 1,.int .i64)]⟩),(17,⟨bl 130099,[1],[(2,(102,6)),(0,(92,2))],[sI 6,sI 7,(.cell 2 5,.own 152 C.cool),(.cell 0 1,.int .i64)]⟩)]
theorem v7u:MT 36 (j8m j0s):=v7t ⟨j6n,Gc,w30,trivial⟩
def w2a(X:z6k):Con Sg:=conS [.int .i64] [.bool] fun a K=>X a.1 (fun q0=>K (q0,()))
theorem v3q:MT 110 (w2a z6l):=mS (l:=[]) trivial []
def q6l(X:Vn):Con Sg:=conS [.el C.env,.str] [.int .i64] fun a K=>X a.1 a.2.1 (fun q0=>K (q0,()))
theorem z2h:MT 96 (q6l q1d):=mS (l:=[]) trivial [(5,⟨[0,1,2],[0],[],[sI 5]⟩)]
def z41(X:q1e):Con Sg:=conS [.sl C.cool,.int .i64] [.vec 3 C.i64] fun a K=>X a.1 a.2.1 (fun q0=>K (q0,()))
theorem j8n:MT 163 (z41 q1f):=mS (l:=[]) trivial [(7,⟨bl 563,[],[],[sI 6,(.obj 0,.own 3 C.i64)]⟩),(15,⟨bl 15987,[],[],[sI 7,(.obj 0,.own 3 C.i64)]⟩),(21,⟨bl 4243603187,[],[],[sI 8,(.obj 0,.own 3 C.i64)]⟩)]
def q3o(X:We):Con Sg:=conS [.sl C.bool] [.vec 157 C.span] fun a K=>X a.1 (fun q0=>K (q0,()))
theorem q8g:MT 113 (q3o Ho):=mS (l:=[]) trivial [(7,⟨[0,2],[],[],[(.slot 3,.own 157 C.span),sI 4]⟩)]
def z9a(X:q7o):Con Sg:=conS [.sl C.i64,.int .i64] [.vec 157 C.span] fun a K=>X a.1 a.2.1 (fun q0=>K (q0,()))
theorem w9g{Q4:We}(h:AL [(113,q3o Q4)]):MT 162 (z9a (z8p Q4)):=mS h [(7,⟨bl 947,[],[],[sI 6,(.obj 0,.own 4 C.bool)]⟩)]
theorem w9h:MT 162 (z9a z1r):=w9g ⟨q8g,trivial⟩
def z42(X:Bj):Con Sg:=conS [.sl C.span] [.vec 4 C.bool] fun a K=>X a.1 (fun q0=>K (q0,()))
theorem j07:MT 112 (z42 q7p):=mS (l:=[]) trivial [(7,⟨bl 77,[],[],[sI 4,(.obj 0,.own 4 C.bool)]⟩),(13,⟨bl 518109,[],[],[sI 5,(.obj 0,.own 4 C.bool)]⟩)]
def z9b(X:q7q):Con Sg:=conS [.sl C.span,.sl C.span] [.vec 157 C.span] fun a K=>X a.1 a.2.1 (fun q0=>K (q0,()))
theorem w9i{Z3:Bj}{Q4:We}(h:AL [(112,z42 Z3),(113,q3o Q4)]):MT 161 (z9b (z8q Z3 Q4)):=mS h [(7,⟨bl 3955,[1],[],[sI 7,(.obj 0,.own 4 C.bool)]⟩)]
theorem w9j:MT 161 (z9b z1s):=w9i ⟨j07,q8g,trivial⟩
def z9c(X:q7r):Con Sg:=conS [.el C.env,.str,.str,.int .i64] [.vec 157 C.span] fun a K=>X a.1 a.2.1 a.2.2.1 a.2.2.2.1 (fun q0=>K (q0,()))
theorem w9k{Zt:Vn}{q0s:q7q}{H8:q1e}{q3x:q7o}(h:AL [(96,q6l Zt),(161,z9b q0s),(163,z41 H8),(162,z9a q3x)]):MT 111 (z9c (z8r Zt q0s H8 q3x)):=mS h [(10,⟨bl 254751,[0],[],[(.slot 10,.own 157 C.span)]⟩),(13,⟨bl 254751,[0],[],[(.slot 10,.own 157 C.span),sI 11]⟩)]
theorem w9l:MT 111 (z9c z1t):=w9k ⟨z2h,w9j,j8n,w9h,trivial⟩
def z2i(X:q0f):Con Sg:=conS [.sl C.span,.sl C.span] [.vec 157 C.span] fun a K=>X a.1 a.2.1 (fun q0=>K (q0,()))
theorem w9m{Z3:Bj}{Q4:We}(h:AL [(112,z42 Z3),(113,q3o Q4)]):MT 68 (z2i (z8s Z3 Q4)):=mS h [(7,⟨bl 3955,[1],[],[sI 7,(.obj 0,.own 4 C.bool)]⟩)]
theorem j8o:MT 68 (z2i q7s):=w9m ⟨j07,q8g,trivial⟩
end Go.En
end
noncomputable section
set_option maxRecDepth 100000
open Go Go.RowKit Go.Fl Go.Fl.Lk Go.Fx
namespace Go.En
def j3k(X:z0v):Con Sg:=conS [.el C.env,.str,.int .i64] [.vec 157 C.span,.int .i64] fun a K=>X a.1 a.2.1 a.2.2.1 (fun q0 q1=>K (q0,q1,()))
theorem v3r{z68:z6k}{Zt:Vn}{z3a:q7r}{Gi:q0f}(h:AL [(110,w2a z68),(96,q6l Zt),(111,z9c z3a),(68,z2i Gi)]):MT 67 (j3k (j22 z68 Zt z3a Gi)):=mS h []
theorem v3s:MT 67 (j3k z6m):=v3r ⟨v3q,z2h,w9l,j8o,trivial⟩
def z9d(X:q7t):Con Sg:=conS [.sl C.span,.int .i64] [.vec 157 C.span] fun a K=>X a.1 a.2.1 (fun q0=>K (q0,()))
theorem w9n{Z3:Bj}{Q4:We}(h:AL [(112,z42 Z3),(113,q3o Q4)]):MT 69 (z9d (z8t Z3 Q4)):=mS h [(7,⟨bl 433,[],[],[sI 1,sI 6,(.obj 0,.own 4 C.bool)]⟩)]
theorem w9o:MT 69 (z9d z1u):=w9n ⟨j07,q8g,trivial⟩
def q2i(X:Vo):Con Sg:=conV [.v] [.str] [.bool] [.same] fun a K=>X a.1 (fun q0=>K (q0,()) ((),()))
theorem q9g:MT 206 (q2i Vp):=⟨entB (by kernel_rfl),j02⟩
def Rr(X:Jf):Con Sg:=conS [.str] [.bool] fun a K=>X a.1 (fun q0=>K (q0,()))
theorem v3t{Zu:Vo}(h:AL [(206,q2i Zu)]):MT 169 (Rr (z6n Zu)):=mS h [(9,⟨bl 4081,[],[],[sI 3]⟩)]
theorem q3p:MT 169 (Rr Vj):=v3t ⟨q9g,trivial⟩
def w61(X:j0t):Con Sg:=conS [.str] [.bool] fun a K=>X a.1 (fun q0=>K (q0,()))
theorem v7v:MT 207 (w61 j0u):=mS (l:=[]) trivial [(5,⟨[0],[],[],[sI 3]⟩)]
def j08(X:q55):Con Sg:=conS [] [.vec 9 C.str] fun _ K=>X (fun q0=>K (q0,()))
theorem w35:MT 208 (j08 q56):=mS (l:=[]) trivial []
def Rs(X:Jb):Con Sg:=conS [.str] [.bool] fun a K=>X a.1 (fun q0=>K (q0,()))
theorem y1s{j2d:j0t}{q6r:q55}(h:AL [(207,w61 j2d),(208,j08 q6r)]):MT 170 (Rs (w3p j2d q6r)):=mS h [(11,⟨bl 16361,[0],[],[sI 4]⟩)]
theorem q2j:MT 170 (Rs G8):=y1s ⟨v7v,w35,trivial⟩
def z2j(X:q1g):Con Sg:=conS [.el C.settings] [.int .i64] fun a K=>X a.1 (fun q0=>K (q0,()))
theorem w36{Qt:Jf}{Qm:Jb}(h:AL [(169,Rr Qt),(170,Rs Qm)]):MT 122 (z2j (z1v Qt Qm)):=mS h []
theorem w37:MT 122 (z2j q57):=w36 ⟨q3p,q2j,trivial⟩
def z2k(X:q1h):Con Sg:=conS [.sl C.decl] [.int .i64] fun a K=>X a.1 (fun q0=>K (q0,()))
theorem w38{Qm:Jb}(h:AL [(170,Rs Qm)]):MT 123 (z2k (z1w Qm)):=mS h [(9,⟨bl 113,[],[],[sI 3]⟩)]
theorem w39:MT 123 (z2k q58):=w38 ⟨q2j,trivial⟩
def q9h(X:Hp):Con Sg:=conS [.sl C.str] [.int .i64] fun a K=>X a.1 (fun q0=>K (q0,()))
theorem w62{Qt:Jf}(h:AL [(169,Rr Qt)]):MT 209 (q9h (z4f Qt)):=mS h [(9,⟨bl 113,[],[],[sI 3]⟩)]
theorem j4r:MT 209 (q9h q4v):=w62 ⟨q3p,trivial⟩
def w63(X:j0v):Con Sg:=conS [.el C.ex] [.bool] fun a K=>X a.1 (fun q0=>K (q0,()))
theorem v7w:MT 210 (w63 j0w):=mS (l:=[]) trivial []
def z9e(X:q7u):Con Sg:=conS [.el C.ex] [.bool] fun a K=>X a.1 (fun q0=>K (q0,()))
theorem w9p{Q1:W6}(h:AL [(128,q0m Q1)]):MT 308 (z9e (z8u Q1)):=mS h [(20,⟨bl 16327,[0],[],[sB 3,sB 4]⟩)]
theorem w9q:MT 308 (z9e z1x):=w9p ⟨z2f,trivial⟩
end Go.En
end
noncomputable section
set_option maxRecDepth 100000
open Go Go.RowKit Go.Fl Go.Fl.Lk Go.Fx
namespace Go.En
def w2b(X:z6o):Con Sg:=conS [.el C.val] [.bool] fun a K=>X a.1 (fun q0=>K (q0,()))
theorem v3u:MT 253 (w2b q66):=mS (l:=[]) trivial []
def z3p(X:Bv):Con Sg:=conS [.str] [.int .i64,.int .i64] fun a K=>X a.1 (fun q0 q1=>K (q0,q1,()))
theorem j5h:MT 255 (z3p Wf):=mS (l:=[]) trivial [(8,⟨bl 269,[],[],[(.slot 4,.str)]⟩),(11,⟨[0,4,8],[],[],[sI 5]⟩),(31,⟨bl 562915601547569,[],[],[sI 6,sI 7]⟩)]
def j3l(X:q67):Con Sg:=conS [.str] [.el C.a3,.bool] fun a K=>X a.1 (fun q0 q1=>K (q0,q1,()))
theorem v3v{G1:Bv}(h:AL [(255,z3p G1)]):MT 195 (j3l (z6p G1)):=mS h [(9,⟨[0,2,4],[],[(1,(283,3)),(0,(283,3))],[sI 5,sI 6,(.cell 1 0,.int .i64),(.cell 1 1,.int .i64),(.cell 1 2,.int .i64),(.cell 0 0,.int .i64),(.cell 0 1,.int .i64),(.cell 0 2,.int .i64)]⟩),(15,⟨bl 19669,[1,0],[],[sI 5]⟩)]
theorem v3w:MT 195 (j3l q3a):=v3v ⟨j5h,trivial⟩
def j8p(X:z4g):Con Sg:=conS [.sl C.str] [.int .i64] fun a K=>X a.1 (fun q0=>K (q0,()))
theorem v7x{Qt:Jf}(h:AL [(169,Rr Qt)]):MT 254 (j8p (j0x Qt)):=mS h [(9,⟨bl 225,[],[],[sI 3]⟩),(19,⟨bl 4073,[],[],[sI 4]⟩)]
theorem v7y:MT 254 (j8p z0w):=v7x ⟨q3p,trivial⟩
def z63(X:q0x):Con Sg:=conS [.el C.val] [.int .i64] fun a K=>X a.1 (fun q0=>K (q0,()))
theorem v3x{z69:z6o}{Qt:Jf}{q3y:q67}{j2e:z4g}(h:AL [(253,w2b z69),(169,Rr Qt),(195,j3l q3y),(254,j8p j2e)]):MT 193 (z63 (z6q z69 Qt q3y j2e)):=mS h []
theorem w2c:MT 193 (z63 q0y):=v3x ⟨v3u,q3p,v3w,v7y,trivial⟩
def j09(X:z4h):Con Sg:=conS [.el C.ex] [.int .i64] fun a K=>X a.1 (fun q0=>K (q0,()))
theorem v7z{z3b:q7u}{Q1:W6}{Qm:Jb}{Jg:q0x}(h:AL [(308,z9e z3b),(128,q0m Q1),(170,Rs Qm),(193,z63 Jg)]):MT 292 (j09 (j7z z3b Q1 Qm Jg)):=mS h [(17,⟨bl 134217667,[0],[],[sI 3]⟩),(31,⟨bl 9412450882139616968651,[0],[],[sI 4]⟩)]
theorem v70:MT 292 (j09 z0x):=v7z ⟨w9q,z2f,q2j,w2c,trivial⟩
def j8q(X:q4w):Con Sg:=conV [.el C.ex,.v,.ptr 3 [.v]] [.el C.ex,.int .i64,.ptr 3 [.int .i64]] [.int .i64] [.same,.same,.ptr 3 [.int .i64]] fun a K=>X a.1 a.2.1 a.2.2.1.1 (fun q0 q1=>K (q0,()) ((),(),(q1,()),()))
def w2d:PT:=Q3 ([(21,⟨bl 33553551,[1],[(0,(3,1))],[sI 8,(.cell 0 0,.int .i64)]⟩)]:LS)
theorem w9r(j2f:z4h)(X:q4w)(e:Ex)(depth:Int)(n:Int)(K:Int->Int->Prop):j70 j2f X e depth n K=fnV (((WL [(292,j09 j2f)]).with 264 (j8q X)).pl w2d) 4 264 ([.el C.ex,.v,.ptr 3 [.v]]:LP) ([.v]:LP) ([.el C.ex,.int .i64,.ptr 3 [.int .i64]]:LV) ([.int .i64]:LV) ([.same,.same,.ptr 3 [.int .i64]]:LV) (e,depth,(n,()),()) (fun r o=>K r.1 o.2.2.1.1):=by kernel_rfl
theorem v71:MT 264 (j8q j0y):=by
 show MT _ (conV ([.el C.ex,.v,.ptr 3 [.v]]:LP) ([.el C.ex,.int .i64,.ptr 3 [.int .i64]]:LV) ([.int .i64]:LV) ([.same,.same,.ptr 3 [.int .i64]]:LV) fun a K=>j0y a.1 a.2.1 a.2.2.1.1 (fun q0 q1=>K (q0,()) ((),(),(q1,()),())))
 refine mR (l:=[(292,j09 z0x)]) (u:=4) (rk:=[.v]) (p:=w2d) ⟨v70,trivial⟩ (by kernel_rfl) fun a K h X hX=> ?_
 exact h (fun e depth n K=>X (e,depth,(n,()),()) fun r o=>K r.1 o.2.2.1.1) (fun e depth n K hs=>hX (e,depth,(n,()),()) (fun r o=>K r.1 o.2.2.1.1) (Eq.mp (w9r z0x (fun e depth n K=>X (e,depth,(n,()),()) fun r o=>K r.1 o.2.2.1.1) e depth n K) hs))
def z43(X:q1i):Con Sg:=conS [.el C.ex] [.int .i64] fun a K=>X a.1 (fun q0=>K (q0,()))
theorem v72{j2g:q4w}(h:AL [(264,j8q j2g)]):MT 211 (z43 (j71 j2g)):=mS h []
theorem j8r:MT 211 (z43 z0y):=v72 ⟨v71,trivial⟩
def z44(X:q4x):Con Sg:=conS [.el C.seg] [.int .i64] fun a K=>X a.1 (fun q0=>K (q0,()))
theorem w65{Qm:Jb}{Wx:Hp}{j2h:j0v}{Vx:q1i}(h:AL [(170,Rs Qm),(209,q9h Wx),(210,w63 j2h),(211,z43 Vx)]):MT 171 (z44 (z4i Qm Wx j2h Vx)):=mS h []
theorem w66:MT 171 (z44 q80):=w65 ⟨q2j,j4r,v7w,j8r,trivial⟩
def z2l(X:q1j):Con Sg:=conS [.sl C.seg] [.int .i64] fun a K=>X a.1 (fun q0=>K (q0,()))
theorem w4a{q9p:q4x}(h:AL [(171,z44 q9p)]):MT 124 (z2l (z1y q9p)):=mS h [(9,⟨bl 225,[],[],[sI 3]⟩)]
theorem w4b:MT 124 (z2l q59):=w4a ⟨w66,trivial⟩
def q8h(X:Hq):Con Sg:=conS [.el C.flag] [.int .i64] fun a K=>X a.1 (fun q0=>K (q0,()))
theorem j8s{Jg:q0x}(h:AL [(193,z63 Jg)]):MT 212 (q8h (q7v Jg)):=mS h [(15,⟨bl 8139,[0],[],[sI 4]⟩)]
theorem j8t:MT 212 (q8h q1k):=j8s ⟨w2c,trivial⟩
def q2k(X:Vq):Con Sg:=conS [.sl C.prereq] [.int .i64] fun a K=>X a.1 (fun q0=>K (q0,()))
theorem j1a{Qm:Jb}(h:AL [(170,Rs Qm)]):MT 213 (q2k (q1l Qm)):=mS h [(9,⟨bl 113,[],[],[sI 3]⟩)]
theorem j1b:MT 213 (q2k G9):=j1a ⟨q2j,trivial⟩
end Go.En
end
noncomputable section
set_option maxRecDepth 100000
open Go Go.RowKit Go.Fl Go.Fl.Lk Go.Fx
namespace Go.En
def z45(X:q4y):Con Sg:=conS [.sl C.target,.int .i64] [.int .i64] fun a K=>X a.1 a.2.1 (fun q0=>K (q0,()))
theorem w67{Qm:Jb}{Wx:Hp}(h:AL [(170,Rs Qm),(209,q9h Wx)]):MT 214 (z45 (z4j Qm Wx)):=mS h [(9,⟨bl 899,[],[],[sI 5]⟩)]
theorem w68:MT 214 (z45 q81):=w67 ⟨q2j,j4r,trivial⟩
def j3m(X:q68):Con Sg:=conS [.sl C.range,.int .i64] [.int .i64] fun a K=>X a.1 a.2.1 (fun q0=>K (q0,()))
theorem w2e:MT 218 (j3m z0z):=mS (l:=[]) trivial [(11,⟨bl 899,[],[],[sI 5,sI 6]⟩)]
def z64(X:q3b):Con Sg:=conS [.el C.serve,.int .i64] [.int .i64] fun a K=>X a.1 a.2.1 (fun q0=>K (q0,()))
theorem v3y{Qm:Jb}{Qt:Jf}{Rz:q68}(h:AL [(170,Rs Qm),(169,Rr Qt),(218,j3m Rz)]):MT 216 (z64 (j23 Qm Qt Rz)):=mS h []
theorem w2f:MT 216 (z64 z00):=v3y ⟨q2j,q3p,w2e,trivial⟩
def j3n(X:z01):Con Sg:=conS [.sl C.rule,.int .i64] [.int .i64] fun a K=>X a.1 a.2.1 (fun q0=>K (q0,()))
theorem v3z{Qm:Jb}{Vx:q1i}{R0:q3b}(h:AL [(170,Rs Qm),(211,z43 Vx),(216,z64 R0)]):MT 215 (j3n (j24 Qm Vx R0)):=mS h [(9,⟨bl 3587,[],[],[sI 5]⟩),(19,⟨bl 33357347,[],[],[sI 6]⟩)]
theorem v30:MT 215 (j3n z6r):=v3z ⟨q2j,j8r,w2f,trivial⟩
def j8u(X:z4k):Con Sg:=conS [.el C.flag] [.int .i64] fun a K=>X a.1 (fun q0=>K (q0,()))
theorem v73{Qm:Jb}{q2x:Hq}{Hf:Vq}{q9q:q4y}{z7a:z01}{R0:q3b}(h:AL [(170,Rs Qm),(212,q8h q2x),(213,q2k Hf),(214,z45 q9q),(215,j3n z7a),(216,z64 R0)]):MT 172 (j8u (j72 Qm q2x Hf q9q z7a R0)):=mS h []
theorem v74:MT 172 (j8u j0z):=v73 ⟨q2j,j8t,j1b,w68,v30,w2f,trivial⟩
def j3o(X:z02):Con Sg:=conS [.sl C.flag] [.int .i64] fun a K=>X a.1 (fun q0=>K (q0,()))
theorem v32{j2i:z4k}(h:AL [(172,j8u j2i)]):MT 125 (j3o (j25 j2i)):=mS h [(9,⟨bl 225,[],[],[sI 3]⟩)]
theorem v33:MT 125 (j3o z6s):=v32 ⟨v74,trivial⟩
def j3p(X:z03):Con Sg:=conS [.el C.layer] [.int .i64] fun a K=>X a.1 (fun q0=>K (q0,()))
theorem v34{Qm:Jb}{Qt:Jf}(h:AL [(170,Rs Qm),(169,Rr Qt)]):MT 173 (j3p (j26 Qm Qt)):=mS h [(21,⟨bl 2199023255523,[0],[],[sI 3]⟩)]
theorem v35:MT 173 (j3p z6t):=v34 ⟨q2j,q3p,trivial⟩
def z9f(X:q7w):Con Sg:=conS [.sl C.layer] [.int .i64] fun a K=>X a.1 (fun q0=>K (q0,()))
theorem w9s{z7b:z03}(h:AL [(173,j3p z7b)]):MT 126 (z9f (z8v z7b)):=mS h [(9,⟨bl 225,[],[],[sI 3]⟩)]
theorem w9t:MT 126 (z9f z1z):=w9s ⟨v35,trivial⟩
def w2g(X:z6u):Con Sg:=conS [.sl C.span] [.int .i64] fun a K=>X a.1 (fun q0=>K (q0,()))
theorem v36:MT 217 (w2g z6v):=mS (l:=[]) trivial [(9,⟨bl 113,[],[],[sI 3]⟩)]
def q8i(X:Hr):Con Sg:=conS [.el C.exper] [.int .i64] fun a K=>X a.1 (fun q0=>K (q0,()))
theorem j8v{Qm:Jb}{Qt:Jf}{z7c:z6u}{Rz:q68}{Vx:q1i}(h:AL [(170,Rs Qm),(169,Rr Qt),(217,w2g z7c),(218,j3m Rz),(211,z43 Vx)]):MT 174 (q8i (q7x Qm Qt z7c Rz Vx)):=mS h []
theorem j8w:MT 174 (q8i q1m):=j8v ⟨q2j,q3p,v36,w2e,j8r,trivial⟩
def q5p(X:Gq):Con Sg:=conS [.sl C.exper] [.int .i64] fun a K=>X a.1 (fun q0=>K (q0,()))
theorem j5i{q2y:Hr}(h:AL [(174,q8i q2y)]):MT 127 (q5p (q5h q2y)):=mS h [(9,⟨bl 225,[],[],[sI 3]⟩)]
theorem j5j:MT 127 (q5p Bw):=j5i ⟨j8w,trivial⟩
def q5q(X:Gs):Con Sg:=conS [.el C.env] [.int .i64] fun a K=>X a.1 (fun q0=>K (q0,()))
theorem j5k{q6s:q1g}{q6t:q1h}{q6u:q1j}{z7d:z02}{z3c:q7w}{B6:Gq}(h:AL [(122,z2j q6s),(123,z2k q6t),(124,z2l q6u),(125,j3o z7d),(126,z9f z3c),(127,q5p B6)]):MT 80 (q5q (q5i q6s q6t q6u z7d z3c B6)):=mS h []
theorem j5l:MT 80 (q5q Bx):=j5k ⟨w37,w39,w4b,v33,w9t,j5j,trivial⟩
end Go.En
end
noncomputable section
set_option maxRecDepth 100000
open Go Go.RowKit Go.Fl Go.Fl.Lk Go.Fx
namespace Go.En
def z65(X:q0z):Con Sg:=conS [.sl C.seg] [.vec 9 C.str] fun a K=>X a.1 (fun q0=>K (q0,()))
theorem j3q:MT 81 (z65 z04):=mS (l:=[]) trivial [(7,⟨[0,2],[],[],[(.slot 3,.own 9 C.str),sI 4]⟩)]
def j1c(X:q33):Con Sg:=conS [.sl C.str,.str] [.bool] fun a K=>X a.1 a.2.1 (fun q0=>K (q0,()))
theorem w4c:MT 47 (j1c q34):=mS (l:=[]) trivial [(5,⟨[0,1],[],[],[sI 5]⟩)]
def j1d(X:z05):Con Sg:=conS [.sl C.decl,.str,.str] [.int .i64] fun a K=>X a.1 a.2.1 a.2.2.1 (fun q0=>K (q0,()))
theorem w69:MT 129 (j1d q4z):=mS (l:=[]) trivial [(5,⟨[0,1,2],[],[],[sI 7]⟩)]
def j8x(X:j00):Con Sg:=conS [.int .i64,.el C.ex] [.bool] fun a K=>X a.1 a.2.1 (fun q0=>K (q0,()))
theorem v77:MT 130 (j8x q7y):=mS (l:=[]) trivial [(11,⟨bl 8075,[0],[],[sI 5]⟩),(36,⟨bl 8795019288539,[0],[],[sB 46]⟩)]
def z47(X:Gt):Con Sg:=conV [.sl C.decl,.sl C.str,.el C.ex] [.sl C.decl,.sl C.str,.el C.ex] [.int .i64] [.same,.same,.same] fun a K=>X a.1 a.2.1 a.2.2.1 (fun q0=>K (q0,()) ((),(),(),()))
def w2h:PT:=Q3 ([(18,⟨bl 1047591,[0],[],[]⟩),(21,⟨bl 1047591,[0],[],[sI 8]⟩)]:LS)
theorem w9u(Vg:q33)(Q1:W6)(Bp:z05)(z55:j00)(X:Gt)(l:List (Decl))(segments:List (ByteArray))(e:Ex)(K:Int->Prop):j73 Vg Q1 Bp z55 X l segments e K=fnV (((WL [(47,j1c Vg),(128,q0m Q1),(129,j1d Bp),(130,j8x z55)]).with 82 (z47 X)).pl w2h) 4 82 ([.sl C.decl,.sl C.str,.el C.ex]:LP) ([.v]:LP) ([.sl C.decl,.sl C.str,.el C.ex]:LV) ([.int .i64]:LV) ([.same,.same,.same]:LV) (l,segments,e,()) (fun r _=>K r.1):=by kernel_rfl
theorem j8y:MT 82 (z47 z06):=by
 show MT _ (conV ([.sl C.decl,.sl C.str,.el C.ex]:LP) ([.sl C.decl,.sl C.str,.el C.ex]:LV) ([.int .i64]:LV) ([.same,.same,.same]:LV) fun a K=>z06 a.1 a.2.1 a.2.2.1 (fun q0=>K (q0,()) ((),(),(),())))
 refine mR (l:=[(47,j1c q34),(128,q0m Jw),(129,j1d q4z),(130,j8x q7y)]) (u:=4) (rk:=[.v]) (p:=w2h) ⟨w4c,z2f,w69,v77,trivial⟩ (by kernel_rfl) fun a K h X hX=> ?_
 exact h (fun l segments e K=>X (l,segments,e,()) fun r _=>K r.1) (fun l segments e K hs=>hX (l,segments,e,()) (fun r _=>K r.1) (Eq.mp (w9u q34 Jw q4z q7y (fun l segments e K=>X (l,segments,e,()) fun r _=>K r.1) l segments e K) hs))
def j1e(X:q82):Con Sg:=conS [.sl C.str,.str] [.sl C.str] fun a K=>X a.1 a.2.1 (fun q0=>K (q0,()))
theorem w4d:MT 104 (j1e q83):=mS (l:=[]) trivial [(5,⟨[0,1,4],[],[],[sI 5]⟩)]
def z48(X:Ut):Con Sg:=conV [.sl C.str,.el C.ex] [.sl C.str,.el C.ex] [.sl C.str] [.same,.same] fun a K=>X a.1 a.2.1 (fun q0=>K (q0,()) ((),(),()))
def j1f:PT:=Q3 ([(6,⟨[1,3,4],[0],[],[(.slot 0,.sl C.str)]⟩),(9,⟨[1,3,4],[0],[],[(.slot 0,.sl C.str),sI 5]⟩)]:LS)
theorem w0k(Hg:q82)(X:Ut)(l:List (ByteArray))(e:Ex)(K:List (ByteArray)->Prop):z4l Hg X l e K=fnV (((WL [(104,j1e Hg)]).with 176 (z48 X)).pl j1f) 4 176 ([.sl C.str,.el C.ex]:LP) ([.sl C.str]:LP) ([.sl C.str,.el C.ex]:LV) ([.sl C.str]:LV) ([.same,.same]:LV) (l,e,()) (fun r _=>K r.1):=by kernel_rfl
theorem w7a:MT 176 (z48 q84):=by
 show MT _ (conV ([.sl C.str,.el C.ex]:LP) ([.sl C.str,.el C.ex]:LV) ([.sl C.str]:LV) ([.same,.same]:LV) fun a K=>q84 a.1 a.2.1 (fun q0=>K (q0,()) ((),(),())))
 refine mR (l:=[(104,j1e q83)]) (u:=4) (rk:=[.sl C.str]) (p:=j1f) ⟨w4d,trivial⟩ (by kernel_rfl) fun a K h X hX=> ?_
 exact h (fun l e K=>X (l,e,()) fun r _=>K r.1) (fun l e K hs=>hX (l,e,()) (fun r _=>K r.1) (Eq.mp (w0k q83 (fun l e K=>X (l,e,()) fun r _=>K r.1) l e K) hs))
def z49(X:q40):Con Sg:=conS [.el C.ex] [.sl C.str] fun a K=>X a.1 (fun q0=>K (q0,()))
theorem w7b{q9r:Ut}(h:AL [(176,z48 q9r)]):MT 132 (z49 (z4m q9r)):=mS h []
theorem w7c:MT 132 (z49 q85):=w7b ⟨w7a,trivial⟩
def z9g(X:q7z):Con Sg:=conS [.sl C.seg] [.vec 238 C.edge] fun a K=>X a.1 (fun q0=>K (q0,()))
theorem w9v{q9s:q40}(h:AL [(132,z49 q9s)]):MT 84 (z9g (z8w q9s)):=mS h [(7,⟨[0,2],[],[],[(.slot 3,.own 238 C.edge),sI 4]⟩),(15,⟨bl 518069,[],[],[(.slot 3,.own 238 C.edge),sI 6]⟩)]
theorem w9w:MT 84 (z9g z10):=w9v ⟨w7c,trivial⟩
def j3r(X:z07):Con Sg:=conS [.sl C.edge,.str] [.sl C.str] fun a K=>X a.1 a.2.1 (fun q0=>K (q0,()))
theorem v38{Vg:q33}{Hg:q82}(h:AL [(47,j1c Vg),(104,j1e Hg)]):MT 175 (j3r (j27 Vg Hg)):=mS h [(7,⟨bl 1555,[],[],[(.slot 5,.sl C.str),(.slot 6,.sl C.str)]⟩),(15,⟨bl 522899,[],[],[(.slot 5,.sl C.str),(.slot 6,.sl C.str),sI 8]⟩)]
theorem v39:MT 175 (j3r z6w):=v38 ⟨w4c,w4d,trivial⟩
def z9h(X:q70):Con Sg:=conS [.sl C.str,.sl C.edge] [.sl C.str] fun a K=>X a.1 a.2.1 (fun q0=>K (q0,()))
theorem w9x{z7e:z07}{Vg:q33}{Hg:q82}(h:AL [(175,j3r z7e),(47,j1c Vg),(104,j1e Hg)]):MT 131 (z9h (z8x z7e Vg Hg)):=mS h [(7,⟨[0,1,4],[],[],[(.slot 5,.sl C.str),sI 6]⟩)]
theorem w9y:MT 131 (z9h z11):=w9x ⟨v39,w4c,w4d,trivial⟩
def z9i(X:q71):Con Sg:=conS [.sl C.str,.sl C.edge] [.str,.bool] fun a K=>X a.1 a.2.1 (fun q0 q1=>K (q0,q1,()))
theorem w9z{z3d:q70}(h:AL [(131,z9h z3d)]):MT 83 (z9i (z8y z3d)):=mS h []
theorem w90:MT 83 (z9i z13):=w9z ⟨w9y,trivial⟩
end Go.En
end
noncomputable section
set_option maxRecDepth 100000
open Go Go.RowKit Go.Fl Go.Fl.Lk Go.Fx
namespace Go.En
def z5a(X:q00):Con Sg:=conS [.el C.env,.str] [.int .i64] fun a K=>X a.1 a.2.1 (fun q0=>K (q0,()))
theorem j4s:MT 56 (z5a q86):=mS (l:=[]) trivial [(5,⟨[0,1,2],[0],[],[sI 5]⟩)]
def j3s(X:z08):Con Sg:=conS [.sl C.decl,.el C.serve] [.int .i64] fun a K=>X a.1 a.2.1 (fun q0=>K (q0,()))
theorem v4a{Bp:z05}(h:AL [(129,j1d Bp)]):MT 133 (j3s (j28 Bp)):=mS h []
theorem v4b:MT 133 (j3s z6x):=v4a ⟨w69,trivial⟩
def q8j(X:Hs):Con Sg:=conS [.el C.env,.el C.flag] [.int .i64] fun a K=>X a.1 a.2.1 (fun q0=>K (q0,()))
theorem j8z{Wc:q0z}{Vy:q00}{Vz:Gt}{z1g:z08}{Z0:Jx}(h:AL [(81,z65 Wc),(56,z5a Vy),(82,z47 Vz),(133,j3s z1g),(66,Rq Z0)]):MT 85 (q8j (q72 Wc Vy Vz z1g Z0)):=mS h [(7,⟨bl 229423,[1,0],[],[sI 6,(.obj 2,.own 9 C.str)]⟩),(23,⟨bl 8355951,[1,0],[],[sI 8,(.obj 2,.own 9 C.str)]⟩)]
theorem j80:MT 85 (q8j q1n):=j8z ⟨j3q,j4s,j8y,v4b,z1b,trivial⟩
def z71(X:q35):Con Sg:=conS [.el C.env] [.vec 9 C.str] fun a K=>X a.1 (fun q0=>K (q0,()))
theorem w0l:MT 86 (z71 q93):=mS (l:=[]) trivial [(7,⟨[0,1,2],[0],[],[(.slot 3,.own 9 C.str),sI 4]⟩)]
def z5b(X:q1o):Con Sg:=conS [.el C.env] [.vec 238 C.edge] fun a K=>X a.1 (fun q0=>K (q0,()))
theorem j81:MT 87 (z5b q1p):=mS (l:=[]) trivial [(7,⟨[0,1,2],[0],[],[(.slot 3,.own 238 C.edge),sI 4]⟩),(13,⟨bl 2007,[],[],[(.slot 3,.own 238 C.edge),sI 5]⟩)]
def z5c(X:q41):Con Sg:=conS [.sl C.span,.sl C.span] [.vec 157 C.span] fun a K=>X a.1 a.2.1 (fun q0=>K (q0,()))
theorem w7d{Z3:Bj}{Q4:We}(h:AL [(112,z42 Z3),(113,q3o Q4)]):MT 134 (z5c (z4n Z3 Q4)):=mS h [(7,⟨bl 3955,[1],[],[sI 7,(.obj 0,.own 4 C.bool)]⟩)]
theorem w7e:MT 134 (z5c q87):=w7d ⟨j07,q8g,trivial⟩
def H5(X:J8):Con Sg:=conS [.el C.env,.int .i64] [.int .i64] fun a K=>X a.1 a.2.1 (fun q0=>K (q0,()))
theorem z5d{Zt:Vn}{Vy:q00}{Wc:q0z}{Vz:Gt}{q9t:q41}(h:AL [(96,q6l Zt),(56,z5a Vy),(81,z65 Wc),(82,z47 Vz),(134,z5c q9t)]):MT 88 (H5 (Ht Zt Vy Wc Vz q9t)):=mS h [(13,⟨bl 17179836647,[1,0],[],[sI 8]⟩),(35,⟨bl 151078797935433964553191,[1,0],[],[(.slot 10,.own 157 C.span),sI 11,(.obj 4,.own 9 C.str)]⟩),(51,⟨bl 159723976762087930960904772882407,[1,0],[],[sI 13,(.obj 9,.own 157 C.span),(.obj 6,.own 157 C.span),(.obj 4,.own 9 C.str)]⟩)]
theorem z5e:MT 88 (H5 Vr):=z5d ⟨z2h,j4s,j3q,j8y,w7e,trivial⟩
def q3q(X:Ui):Con Sg:=conS [.el C.env] [.str,.int .i64] fun a K=>X a.1 (fun q0 q1=>K (q0,q1,()))
theorem j3t{B7:Gs}{Wc:q0z}{Vz:Gt}{z3e:q7z}{q8t:q71}{q2z:Hs}{q4k:q35}{q20:q1o}{V0:J8}(h:AL [(80,q5q B7),(81,z65 Wc),(82,z47 Vz),(84,z9g z3e),(83,z9i q8t),(85,q8j q2z),(86,z71 q4k),(87,z5b q20),(88,H5 V0)]):MT 49 (q3q (q3c B7 Wc Vz z3e q8t q2z q4k q20 V0)):=mS h [(13,⟨bl 15663155,[0],[],[sI 6,(.obj 1,.own 9 C.str)]⟩),(33,⟨bl 294571444427585160051,[0],[],[sI 10,(.obj 1,.own 9 C.str),(.obj 4,.own 238 C.edge)]⟩),(51,⟨bl 10121397798090180814242575234931,[0],[],[sI 14,(.obj 8,.own 9 C.str),(.obj 9,.own 238 C.edge),(.obj 4,.own 238 C.edge),(.obj 1,.own 9 C.str)]⟩)]
theorem j3u:MT 49 (q3q Rj):=j3t ⟨j5l,j3q,j8y,w9w,w90,j80,w0l,j81,z5e,trivial⟩
def z9j(X:q73):Con Sg:=conS [.el C.env] [.bool] fun a K=>X a.1 (fun q0=>K (q0,()))
theorem w91{R1:Ui}(h:AL [(49,q3q R1)]):MT 20 (z9j (z8z R1)):=mS h []
theorem w92:MT 20 (z9j q0g):=w91 ⟨j3u,trivial⟩
def q8k(X:Hu):Con Sg:=conV [.ptr 92 [.c,.v],.v] [.ptr 92 [.sl C.u8,.int .i64],.int .i64] [.el C.env] [.ptr 92 [.same,.int .i64],.same] fun a K=>X a.1.1 a.1.2.1 a.2.1 (fun q0 q1=>K (q0,()) (((),q1,()),(),()))
theorem j82{Q2:Ws}{q9u:q4u}{Qb:Zf}{q2s:z6i}{Z8:q07}{q4e:z1p}{z56:z4c}{H9:q08}{q4f:q31}{Z0:Jx}{j2j:z4e}{Wa:q06}{q2t:q7k}{z7f:z0v}{Wm:q54}{Gi:q0f}{z3f:q7t}{q0t:q73}(h:AL [(29,q46 Q2),(33,z4x q9u),(30,Vf Qb),(34,w31 q2s),(64,z4w Z8),(62,j6o q4e),(13,j8d z56),(65,z4y H9),(63,j6q q4f),(66,Rq Z0),(36,j8m j2j),(31,z61 Wa),(39,j05 q2t),(67,j3k z7f),(32,j04 Wm),(68,z2i Gi),(69,z9d z3f),(20,z9j q0t)]):MT 11 (q8k (q74 Q2 q9u Qb q2s Z8 q4e z56 H9 q4f Z0 j2j Wa q2t z7f Wm Gi z3f q0t)):=mP (rk:=[.el C.env]) h [(8,⟨bl 3123,[1],[(3,(46,8)),(0,(92,2))],[(.cell 3 0,.str),(.cell 3 1,.str),(.cell 3 2,.int .i64),(.cell 0 1,.int .i64),(.obj 2,.own 111 C.decl)]⟩),(15,⟨bl 98569331,[2,1],[(0,(92,2)),(3,(46,8))],[sI 7,(.cell 0 1,.int .i64),(.cell 3 5,.own 34 C.flag),(.obj 10,.own 144 C.seg),(.obj 12,.own 102 C.layer),(.obj 13,.own 68 C.exper)]⟩),(36000009,⟨bl 1073218007,[22,21],[(0,(92,2)),(23,(34,13))],[sI 9,(.cell 0 1,.int .i64),(.cell 23 2,.own 72 C.val),(.obj 13,.own 68 C.exper),(.obj 12,.own 102 C.layer),(.obj 17,.own 34 C.flag),(.obj 10,.own 144 C.seg)]⟩),(36000019,⟨bl 545366356788183,[22,21],[(23,(34,13)),(0,(92,2))],[sI 10,(.cell 23 5,.own 62 C.prereq),(.cell 0 1,.int .i64),(.obj 10,.own 144 C.seg),(.obj 17,.own 34 C.flag),(.obj 12,.own 102 C.layer),(.obj 13,.own 68 C.exper),(.obj 27,.own 72 C.val)]⟩),(36000029,⟨bl 17996814912849879,[22,21],[(23,(34,13)),(0,(92,2))],[sI 11,(.cell 23 6,.own 116 C.target),(.cell 0 1,.int .i64),(.obj 27,.own 72 C.val),(.obj 13,.own 68 C.exper),(.obj 12,.own 102 C.layer),(.obj 17,.own 34 C.flag),(.obj 10,.own 144 C.seg),(.obj 34,.own 62 C.prereq)]⟩),(36000038,⟨bl 19688565898261847554177638359,[23],[(51,(116,3)),(0,(92,2))],[(.cell 51 0,.str),(.cell 0 1,.int .i64),(.obj 50,.own 9 C.str),(.obj 34,.own 62 C.prereq),(.obj 10,.own 144 C.seg),(.obj 17,.own 34 C.flag),(.obj 12,.own 102 C.layer),(.obj 13,.own 68 C.exper),(.obj 27,.own 72 C.val),(.obj 42,.own 116 C.target)]⟩),(36000060,⟨bl 324518589926201333218846174621655,[22,21],[(0,(92,2)),(23,(34,13))],[(.cell 0 1,.int .i64),(.cell 23 7,.own 138 C.rule),(.obj 50,.own 9 C.str),(.obj 34,.own 62 C.prereq),(.obj 10,.own 144 C.seg),(.obj 17,.own 34 C.flag),(.obj 12,.own 102 C.layer),(.obj 13,.own 68 C.exper),(.obj 27,.own 72 C.val),(.obj 42,.own 116 C.target)]⟩),(36000047,⟨bl 324518589926201333218846174621655,[],[(0,(92,2)),(23,(34,13))],[sI 14,(.cell 0 1,.int .i64),(.cell 23 7,.own 138 C.rule),(.obj 50,.own 9 C.str),(.obj 34,.own 62 C.prereq),(.obj 10,.own 144 C.seg),(.obj 17,.own 34 C.flag),(.obj 12,.own 102 C.layer),(.obj 13,.own 68 C.exper),(.obj 27,.own 72 C.val),(.obj 42,.own 116 C.target)]⟩),(25,⟨bl 387030204812531,[2,1],[(0,(92,2)),(3,(46,8))],[sI 8,(.cell 0 1,.int .i64),(.cell 3 6,.own 102 C.layer),(.obj 13,.own 68 C.exper),(.obj 10,.own 144 C.seg),(.obj 17,.own 34 C.flag)]⟩),(35,⟨bl 811665570522726403571,[2,1],[(0,(92,2)),(3,(46,8))],[sI 9,(.cell 0 1,.int .i64),(.cell 3 7,.own 68 C.exper),(.obj 17,.own 34 C.flag),(.obj 10,.own 144 C.seg),(.obj 24,.own 102 C.layer)]⟩),(38000010,⟨bl 140737488348975,[37,36,35],[(40,(68,12)),(0,(92,2))],[(.cell 40 4,.int .i64),(.cell 0 1,.int .i64),(.obj 39,.own 162 C.range),(.obj 31,.own 68 C.exper),(.obj 24,.own 102 C.layer),(.obj 17,.own 34 C.flag),(.obj 10,.own 144 C.seg)]⟩),(38000014,⟨bl 140737488348975,[37,36,35],[(40,(68,12)),(0,(92,2))],[(.cell 40 7,.int .i64),(.cell 40 8,.str),(.cell 40 9,.str),(.cell 40 10,.sl C.val),(.cell 40 11,.sl C.ex),(.cell 0 1,.int .i64),(.obj 10,.own 144 C.seg),(.obj 17,.own 34 C.flag),(.obj 24,.own 102 C.layer),(.obj 31,.own 68 C.exper),(.obj 39,.own 162 C.range)]⟩)]
theorem j83:MT 11 (q8k q1q):=j82 ⟨q9e,w6x,Gc,v18,j8b,v19,v7q,j8c,v2a,z1b,v7u,j6n,w6y,v3s,w30,j8o,w9o,w92,trivial⟩
def q6m(X:Rk):Con Sg:=conS [.int .i64] [.bool] fun a K=>X a.1 (fun q0=>K (q0,()))
theorem j1g:MT 245 (q6m U1):=mS (l:=[]) trivial []
def Wh(X:Za):Con Sg:=conS [.sl C.str,.sl C.str] [.bool] fun a K=>X a.1 a.2.1 (fun q0=>K (q0,()))
theorem Gz:MT 279 (Wh Zn):=mS (l:=[]) trivial [(9,⟨bl 8131,[],[],[sI 13]⟩)]
end Go.En
end
noncomputable section
set_option maxRecDepth 100000
open Go Go.RowKit Go.Fl Go.Fl.Lk Go.Fx
namespace Go.En
def q9i(X:q42):Con Sg:=conS [.el C.val,.el C.val] [.bool] fun a K=>X a.1 a.2.1 (fun q0=>K (q0,()))
theorem w7f{Qp:Za}(h:AL [(279,Wh Qp)]):MT 310 (q9i (z4o Qp)):=mS h []
theorem w7g:MT 310 (q9i q01):=w7f ⟨Gz,trivial⟩
def z2m(X:Hw):Con Sg:=conV [.el C.ex,.el C.ex] [.el C.ex,.el C.ex] [.bool] [.same,.same] fun a K=>X a.1 a.2.1 (fun q0=>K (q0,()) ((),(),()))
def j4t:PT:=Q3 ([(310000009,⟨bl 130055,[],[],[sI 17]⟩),(312000009,⟨bl 130055,[],[],[sI 17]⟩)]:LS)
theorem w4e(q9v:q42)(X:Hw)(a:Ex)(b:Ex)(K:Bool->Prop):z81 q9v X a b K=fnV (((WL [(310,q9i q9v)]).with 294 (z2m X)).pl j4t) 4 294 ([.el C.ex,.el C.ex]:LP) ([.v]:LP) ([.el C.ex,.el C.ex]:LV) ([.bool]:LV) ([.same,.same]:LV) (a,b,()) (fun r _=>K r.1):=by kernel_rfl
theorem w93:MT 294 (z2m q0h):=by
 show MT _ (conV ([.el C.ex,.el C.ex]:LP) ([.el C.ex,.el C.ex]:LV) ([.bool]:LV) ([.same,.same]:LV) fun a K=>q0h a.1 a.2.1 (fun q0=>K (q0,()) ((),(),())))
 refine mR (l:=[(310,q9i q01)]) (u:=4) (rk:=[.v]) (p:=j4t) ⟨w7g,trivial⟩ (by kernel_rfl) fun a K h X hX=> ?_
 exact h (fun a b K=>X (a,b,()) fun r _=>K r.1) (fun a b K hs=>hX (a,b,()) (fun r _=>K r.1) (Eq.mp (w4e q01 (fun a b K=>X (a,b,()) fun r _=>K r.1) a b K) hs))
def z0g(X:Wv):Con Sg:=conV [.own 66 C.ex,.el C.ex] [.vec 66 C.ex,.el C.ex] [.vec 66 C.ex] [.same,.same] fun a K=>X a.1 a.2.1 (fun q0=>K (q0,()) ((),(),()))
def z5f:PT:=Q3 ([(6,⟨[1,3,4],[1],[],[(.slot 0,.own 66 C.ex)]⟩),(9,⟨bl 234881050,[1],[],[(.slot 0,.own 66 C.ex),sI 28]⟩),(245000005,⟨bl 195,[0],[],[sI 8]⟩)]:LS)
theorem j5m(Wo:Rk)(q8u:Hw)(X:Wv)(l:List (Ex))(e:Ex)(K:List (Ex)->Prop):q94 Wo q8u X l e K=fnV (((WL [(245,q6m Wo),(294,z2m q8u)]).with 266 (z0g X)).pl z5f) 4 266 ([.own 66 C.ex,.el C.ex]:LP) ([.own 66 C.ex]:LP) ([.vec 66 C.ex,.el C.ex]:LV) ([.vec 66 C.ex]:LV) ([.same,.same]:LV) (l,e,()) (fun r _=>K r.1):=by kernel_rfl
theorem w0m:MT 266 (z0g q36):=by
 show MT _ (conV ([.own 66 C.ex,.el C.ex]:LP) ([.vec 66 C.ex,.el C.ex]:LV) ([.vec 66 C.ex]:LV) ([.same,.same]:LV) fun a K=>q36 a.1 a.2.1 (fun q0=>K (q0,()) ((),(),())))
 refine mR (l:=[(245,q6m U1),(294,z2m q0h)]) (u:=4) (rk:=[.own 66 C.ex]) (p:=z5f) ⟨j1g,w93,trivial⟩ (by kernel_rfl) fun a K h X hX=> ?_
 exact h (fun l e K=>X (l,e,()) fun r _=>K r.1) (fun l e K hs=>hX (l,e,()) (fun r _=>K r.1) (Eq.mp (j5m U1 q0h (fun l e K=>X (l,e,()) fun r _=>K r.1) l e K) hs))
def Gd(X:J5):Con Sg:=conS [.el C.val] [.el C.val] fun a K=>X a.1 (fun q0=>K (q0,()))
theorem q6n:MT 93 (Gd Jj):=mS (l:=[]) trivial []
def z5g(X:Uu):Con Sg:=conV [.el C.ex] [.el C.ex] [.el C.ex] [.same] fun a K=>X a.1 (fun q0=>K (q0,()) ((),()))
def j1h:PT:=Q3 ([(296000007,⟨bl 7955,[],[],[(.slot 5,.own 72 C.val),sI 13]⟩),(266000007,⟨bl 7955,[],[],[(.slot 5,.own 66 C.ex),sI 13]⟩)]:LS)
theorem w0n(Q5:J5)(X:Uu)(e:Ex)(K:Ex->Prop):z4p Q5 X e K=fnV (((WL [(93,Gd Q5)]).with 267 (z5g X)).pl j1h) 4 267 ([.el C.ex]:LP) ([.el C.ex]:LP) ([.el C.ex]:LV) ([.el C.ex]:LV) ([.same]:LV) (e,()) (fun r _=>K r.1):=by kernel_rfl
theorem w7h:MT 267 (z5g q88):=by
 show MT _ (conV ([.el C.ex]:LP) ([.el C.ex]:LV) ([.el C.ex]:LV) ([.same]:LV) fun a K=>q88 a.1 (fun q0=>K (q0,()) ((),())))
 refine mR (l:=[(93,Gd Jj)]) (u:=4) (rk:=[.el C.ex]) (p:=j1h) ⟨q6n,trivial⟩ (by kernel_rfl) fun a K h X hX=> ?_
 exact h (fun e K=>X (e,()) fun r _=>K r.1) (fun e K hs=>hX (e,()) (fun r _=>K r.1) (Eq.mp (w0n Jj (fun e K=>X (e,()) fun r _=>K r.1) e K) hs))
def z0h(X:Bk):Con Sg:=conS [.el C.ex] [.vec 66 C.ex] fun a K=>X a.1 (fun q0=>K (q0,()))
theorem w0o{q4l:Wv}{q9w:Uu}(h:AL [(266,z0g q4l),(267,z5g q9w)]):MT 219 (z0h (q95 q4l q9w)):=mS h [(266000007,⟨bl 7955,[1],[],[(.slot 5,.own 66 C.ex),sI 13]⟩)]
theorem w0p:MT 219 (z0h q96):=w0o ⟨w0m,w7h,trivial⟩
def Wl(X:Zs):Con Sg:=conV [.own 9 C.str] [.vec 9 C.str] [] [.vec 9 C.str] fun a K=>X a.1 (fun q0=>K () (q0,()))
theorem Hd:MT 137 (Wl Jh):=⟨entB (by kernel_rfl),q6j⟩
def Up(X:Jy):Con Sg:=conV [.own 9 C.str] [.vec 9 C.str] [.vec 9 C.str] [.same] fun a K=>X a.1 (fun q0=>K (q0,()) ((),()))
theorem q3r:MT 220 (Up Jz):=⟨entB (by kernel_rfl),q3j⟩
def q5r(X:Gu):Con Sg:=conS [.el C.ex] [.sl C.str] fun a K=>X a.1 (fun q0=>K (q0,()))
theorem j5n{q4m:Bk}{Qs:Zs}{Z1:Jy}(h:AL [(219,z0h q4m),(137,Wl Qs),(220,Up Z1)]):MT 177 (q5r (q5j q4m Qs Z1)):=mS h [(7,⟨bl 455,[1,0],[],[(.slot 3,.own 9 C.str),sI 9]⟩)]
theorem j5o:MT 177 (q5r By):=j5n ⟨w0p,Hd,q3r,trivial⟩
def j1i(X:z14):Con Sg:=conV [.sl C.str,.sl C.edge] [.sl C.str,.sl C.edge] [.vec 9 C.str,.int .i64] [.same,.same] fun a K=>X a.1 a.2.1 (fun q0 q1=>K (q0,q1,()) ((),(),()))
theorem w4f:MT 178 (j1i P_graph_Order):=⟨entB (by kernel_rfl),w3z⟩
def q8l(X:Hx):Con Sg:=conS [.sl C.seg] [.vec 9 C.str,.int .i64] fun a K=>X a.1 (fun q0 q1=>K (q0,q1,()))
theorem j84{B8:Gu}{q6v:z14}(h:AL [(177,q5r B8),(178,j1i q6v)]):MT 135 (q8l (q75 B8 q6v)):=mS h [(9,⟨bl 3085,[],[],[(.slot 4,.own 9 C.str),(.slot 5,.own 238 C.edge),sI 12]⟩),(17,⟨bl 33488029,[6,5,3],[],[(.slot 5,.own 238 C.edge),sI 25]⟩)]
theorem j85:MT 135 (q8l q1r):=j84 ⟨j5o,w4f,trivial⟩
def q8m(X:Uj):Con Sg:=conS [.el C.subj,.str] [.int .i64] fun a K=>X a.1 a.2.1 (fun q0=>K (q0,()))
theorem z5h:MT 77 (q8m Hy):=mS (l:=[]) trivial [(119000005,⟨bl 195,[1],[],[sI 8]⟩)]
end Go.En
end
noncomputable section
set_option maxRecDepth 100000
open Go Go.RowKit Go.Fl Go.Fl.Lk Go.Fx
namespace Go.En
def q3s(X:Uk):Con Sg:=conS [.el C.attr] [.el C.attr] fun a K=>X a.1 (fun q0=>K (q0,()))
theorem j3v{Q5:J5}(h:AL [(93,Gd Q5)]):MT 121 (q3s (q3d Q5)):=mS h []
theorem j3w:MT 121 (q3s Rl):=j3v ⟨q6n,trivial⟩
def q8n(X:Hz):Con Sg:=conS [.el C.ctx] [.el C.ctx] fun a K=>X a.1 (fun q0=>K (q0,()))
theorem j86{R2:Uk}(h:AL [(121,q3s R2)]):MT 78 (q8n (q76 R2)):=mS h [(121000007,⟨bl 7955,[],[],[(.slot 5,.own 160 C.attr),sI 13]⟩)]
theorem j87:MT 78 (q8n q1s):=j86 ⟨j3w,trivial⟩
def V3(X:Zo):Con Sg:=conS [.el C.subj,.str] [.el C.ctx,.bool] fun a K=>X a.1 a.2.1 (fun q0 q1=>K (q0,q1,()))
theorem w0q{Jo:Uj}{q21:Hz}(h:AL [(77,q8m Jo),(78,q8n q21)]):MT 44 (V3 (q97 Jo q21)):=mS h []
theorem Bn:MT 44 (V3 Ww):=w0q ⟨z5h,j87,trivial⟩
def B3(X:Wg):Con Sg:=conS [.el C.subj,.str,.str] [.el C.val,.bool] fun a K=>X a.1 a.2.1 a.2.2.1 (fun q0 q1=>K (q0,q1,()))
theorem j5p{Jo:Uj}{Q5:J5}(h:AL [(77,q8m Jo),(93,Gd Q5)]):MT 71 (B3 (q5k Jo Q5)):=mS h [(17,⟨bl 1912468303,[2,0],[(1,(72,4))],[sI 31,(.cell 1 0,.int .i64),(.cell 1 1,.int .i64),(.cell 1 2,.str),(.cell 1 3,.sl C.str)]⟩)]
theorem z3q:MT 71 (B3 Gv):=j5p ⟨z5h,q6n,trivial⟩
def z2n(X:q1t):Con Sg:=conS [.el C.val,.el C.val] [.bool] fun a K=>X a.1 a.2.1 (fun q0=>K (q0,()))
theorem w4g{Qp:Za}(h:AL [(279,Wh Qp)]):MT 248 (z2n (z15 Qp)):=mS h []
theorem w4h:MT 248 (z2n q1u):=w4g ⟨Gz,trivial⟩
def Ge(X:Zz):Con Sg:=conS [.str,.str] [.bool] fun a K=>X a.1 a.2.1 (fun q0=>K (q0,()))
theorem q2l:MT 280 (Ge Jk):=mS (l:=[]) trivial []
def q0n(X:W8):Con Sg:=conS [.str,.str] [.bool] fun a K=>X a.1 a.2.1 (fun q0=>K (q0,()))
theorem z9k{Q6:Zz}(h:AL [(280,Ge Q6)]):MT 249 (q0n (q0i Q6)):=mS h []
theorem z9l:MT 249 (q0n U2):=z9k ⟨q2l,trivial⟩
def q2m(X:Wk):Con Sg:=conS [.str,.str] [.bool] fun a K=>X a.1 a.2.1 (fun q0=>K (q0,()))
theorem z2o:MT 281 (q2m U3):=mS (l:=[]) trivial []
def q0o(X:W9):Con Sg:=conS [.str,.str] [.bool] fun a K=>X a.1 a.2.1 (fun q0=>K (q0,()))
theorem z9m{Wp:Wk}(h:AL [(281,q2m Wp)]):MT 250 (q0o (q0j Wp)):=mS h []
theorem z9n:MT 250 (q0o U4):=z9m ⟨z2o,trivial⟩
def q9j(X:q1v):Con Sg:=conV [.v,.v] [.str,.str] [.bool] [.same,.same] fun a K=>X a.1 a.2.1 (fun q0=>K (q0,()) ((),(),()))
theorem j1j:MT 251 (q9j q1w):=⟨entB (by kernel_rfl),j03⟩
def j1k(X:q6a):Con Sg:=conS [.el C.val] [.bool] fun a K=>X a.1 (fun q0=>K (q0,()))
theorem w4i:MT 299 (j1k q6b):=mS (l:=[]) trivial [(8,⟨bl 31,[0],[],[sB 5]⟩),(14,⟨bl 63,[0],[],[sB 17]⟩)]
def z5i(X:q43):Con Sg:=conS [.str] [.bool] fun a K=>X a.1 (fun q0=>K (q0,()))
theorem w7i{Zu:Vo}(h:AL [(206,q2i Zu)]):MT 300 (z5i (z4q Zu)):=mS h [(9,⟨bl 32737,[],[],[(.obj 0,.siter)]⟩)]
theorem w7j:MT 300 (z5i q89):=w7i ⟨q9g,trivial⟩
end Go.En
end
noncomputable section
set_option maxRecDepth 100000
open Go Go.RowKit Go.Fl Go.Fl.Lk Go.Fx
namespace Go.En
def z5j(X:q77):Con Sg:=conV [.v,.v] [.str,.str] [.vec 9 C.str] [.same,.same] fun a K=>X a.1 a.2.1 (fun q0=>K (q0,()) ((),(),()))
theorem j88:MT 302 (z5j q78):=⟨entB (by kernel_rfl),j8a⟩
def Gf(X:Jl):Con Sg:=conS [.str,.str] [.str,.bool] fun a K=>X a.1 a.2.1 (fun q0 q1=>K (q0,q1,()))
theorem z2p{Q6:Zz}(h:AL [(280,Ge Q6)]):MT 325 (Gf (U5 Q6)):=mS h []
theorem z2q:MT 325 (Gf U6):=z2p ⟨q2l,trivial⟩
def q0p(X:Va):Con Sg:=conS [.str,.str] [.str,.bool] fun a K=>X a.1 a.2.1 (fun q0 q1=>K (q0,q1,()))
theorem z9o{Wq:Jl}(h:AL [(325,Gf Wq)]):MT 317 (q0p (q0k Wq)):=mS h []
theorem z9p:MT 317 (q0p U7):=z9o ⟨z2q,trivial⟩
def z72(X:q98):Con Sg:=conV [.v] [.str] [.int .i64,.ifc] [.same] fun a K=>X a.1 (fun q0 q1=>K (q0,q1,()) ((),()))
theorem w0r:MT 318 (z72 q37):=⟨entB (by kernel_rfl),w0d⟩
def q2n(X:Vs):Con Sg:=conS [.str] [.int .i64,.int .i64] fun a K=>X a.1 (fun q0 q1=>K (q0,q1,()))
theorem j1l{Gj:Va}{Bq:q98}(h:AL [(317,q0p Gj),(318,z72 Bq)]):MT 303 (q2n (q1x Gj Bq)):=mS h [(11,⟨bl 4294966321,[],[],[(.obj 0,.siter)]⟩)]
theorem j1m:MT 303 (q2n Ha):=j1l ⟨z9p,w0r,trivial⟩
def q6o(X:U8):Con Sg:=conS [.str] [.el C.a3,.bool] fun a K=>X a.1 (fun q0 q1=>K (q0,q1,()))
theorem w4j{q22:q77}{Hh:Vs}(h:AL [(302,z5j q22),(303,q2n Hh)]):MT 286 (q6o (z16 q22 Hh)):=mS h [(13,⟨bl 228405,[2],[(1,(283,3)),(0,(283,3))],[sI 18,(.cell 1 0,.int .i64),(.cell 1 1,.int .i64),(.cell 1 2,.int .i64),(.cell 0 0,.int .i64),(.cell 0 1,.int .i64),(.cell 0 2,.int .i64)]⟩)]
theorem j1n:MT 286 (q6o q1y):=w4j ⟨j88,j1m,trivial⟩
def z2r(X:q1z):Con Sg:=conS [.el C.val] [.int .i64] fun a K=>X a.1 (fun q0=>K (q0,()))
theorem w4k{q6w:q6a}{q5d:q43}{J6:U8}(h:AL [(299,j1k q6w),(300,z5i q5d),(286,q6o J6)]):MT 283 (z2r (z17 q6w q5d J6)):=mS h [(47,⟨bl 73643289922748022531,[0],[],[sI 66]⟩),(59,⟨bl 132521265739157328625411,[0],[],[sI 77]⟩)]
theorem w4l:MT 283 (z2r q6c):=w4k ⟨w4i,w7j,j1n,trivial⟩
def q8o(X:H0):Con Sg:=conS [.el C.val,.el C.val] [.int .i64,.int .i64] fun a K=>X a.1 a.2.1 (fun q0 q1=>K (q0,q1,()))
theorem j89{q23:q1z}{J6:U8}(h:AL [(283,z2r q23),(286,q6o J6)]):MT 252 (q8o (q79 q23 J6)):=mS h [(288000005,⟨bl 1539,[],[],[sI 11]⟩)]
theorem j9a:MT 252 (q8o H1):=j89 ⟨w4l,j1n,trivial⟩
def q6p(X:q13):Con Sg:=conS [.el C.subj,.el C.ex] [.bool] fun a K=>X a.1 a.2.1 (fun q0=>K (q0,()))
theorem w4m{Jd:Wg}{Wo:Rk}{R3:q1t}{Gk:W8}{Gl:W9}{Hi:q1v}{Ra:H0}(h:AL [(71,B3 Jd),(245,q6m Wo),(248,z2n R3),(249,q0n Gk),(250,q0o Gl),(251,q9j Hi),(252,q8o Ra)]):MT 192 (q6p (z18 Jd Wo R3 Gk Gl Hi Ra)):=mS h [(279000005,⟨bl 195,[2],[],[sI 8]⟩),(80000005,⟨bl 195,[],[],[sI 8]⟩)]
theorem w4n:MT 192 (q6p Rm):=w4m ⟨z3q,j1g,w4h,z9l,z9n,j1j,j9a,trivial⟩
def Rt(X:Jc):Con Sg:=conV [.el C.subj,.sl C.str,.el C.ex] [.el C.subj,.sl C.str,.el C.ex] [.bool] [.same,.same,.same] fun a K=>X a.1 a.2.1 a.2.2.1 (fun q0=>K (q0,()) ((),(),(),()))
def z73:PT:=Q3 ([(245000005,⟨bl 195,[1,0],[],[sI 8]⟩),(80000005,⟨bl 195,[],[],[sI 8]⟩)]:LS)
theorem j9b(q6x:q13)(X:Jc)(s:Subj)(in_:List (ByteArray))(e:Ex)(K:Bool->Prop):z19 q6x X s in_ e K=fnV (((WL [(192,q6p q6x)]).with 141 (Rt X)).pl z73) 4 141 ([.el C.subj,.sl C.str,.el C.ex]:LP) ([.v]:LP) ([.el C.subj,.sl C.str,.el C.ex]:LV) ([.bool]:LV) ([.same,.same,.same]:LV) (s,in_,e,()) (fun r _=>K r.1):=by kernel_rfl
theorem z2s:MT 141 (Rt Vt):=by
 show MT _ (conV ([.el C.subj,.sl C.str,.el C.ex]:LP) ([.el C.subj,.sl C.str,.el C.ex]:LV) ([.bool]:LV) ([.same,.same,.same]:LV) fun a K=>Vt a.1 a.2.1 a.2.2.1 (fun q0=>K (q0,()) ((),(),(),())))
 refine mR (l:=[(192,q6p Rm)]) (u:=4) (rk:=[.v]) (p:=z73) ⟨w4n,trivial⟩ (by kernel_rfl) fun a K h X hX=> ?_
 exact h (fun s in_ e K=>X (s,in_,e,()) fun r _=>K r.1) (fun s in_ e K hs=>hX (s,in_,e,()) (fun r _=>K r.1) (Eq.mp (j9b Rm (fun s in_ e K=>X (s,in_,e,()) fun r _=>K r.1) s in_ e K) hs))
def q2o(X:Vu):Con Sg:=conS [.el C.seg,.el C.subj,.sl C.str] [.bool] fun a K=>X a.1 a.2.1 a.2.2.1 (fun q0=>K (q0,()))
theorem j1o{Qn:Zo}{Zc:Jc}(h:AL [(44,V3 Qn),(141,Rt Zc)]):MT 136 (q2o (q14 Qn Zc)):=mS h [(80000005,⟨bl 195,[],[],[sI 8]⟩)]
theorem j1p:MT 136 (q2o Hb):=j1o ⟨Bn,z2s,trivial⟩
def Ru(X:J0):Con Sg:=conS [.sl C.seg,.el C.subj] [.vec 9 C.str] fun a K=>X a.1 a.2.1 (fun q0=>K (q0,()))
theorem j3x{q24:Hx}{Hj:Vu}{Qs:Zs}(h:AL [(135,q8l q24),(136,q2o Hj),(137,Wl Qs)]):MT 89 (Ru (q3e q24 Hj Qs)):=mS h [(13,⟨bl 8380667,[1,0],[],[sI 23,(.obj 2,.map C.str C.seg)]⟩),(25,⟨bl 12918448379,[2,1,0],[],[(.slot 10,.own 9 C.str),sI 34]⟩)]
theorem z1c:MT 89 (Ru Wz):=j3x ⟨j85,j1p,Hd,trivial⟩
end Go.En
end
noncomputable section
set_option maxRecDepth 100000
open Go Go.RowKit Go.Fl Go.Fl.Lk Go.Fx
namespace Go.En
def q5s(X:Gw):Con Sg:=conV [.el C.env,.el C.subj,.sl C.forced] [.el C.env,.el C.subj,.sl C.forced] [.ptr 184 [.str,.str,.int .i64,.sl C.decl,.sl C.seg,.sl C.flag,.sl C.layer,.sl C.exper,.sl C.ctx,.sl C.forced,.sl C.str,.map C.str C.decis,.map C.str C.bool]] [.same,.same,.same] fun a K=>X a.1 a.2.1 a.2.2.1 (fun q0 q1 q2 q3 q4 q5 q6 q7 q8 q9 q10 q11 q12=>K ((q0,q1,q2,q3,q4,q5,q6,q7,q8,q9,q10,q11,q12,()),()) ((),(),(),()))
theorem j5q{Q9:J0}(h:AL [(89,Ru Q9)]):MT 50 (q5s (q5l Q9)):=mP (rk:=[.ptr 184 [.c,.c,.c,.c,.c,.c,.c,.c,.c,.c,.sl C.str,.map C.str C.decis,.map C.str C.bool]]) h []
theorem j5r:MT 50 (q5s Bz):=j5q ⟨z1c,trivial⟩
def He(X:J9):Con Sg:=conV [.ptr 184 [.c,.c,.c,.c,.c,.c,.c,.c,.c,.c,.c,.map C.str C.decis,.map C.str C.bool],.v] [.ptr 184 [.str,.str,.int .i64,.sl C.decl,.sl C.seg,.sl C.flag,.sl C.layer,.sl C.exper,.sl C.ctx,.sl C.forced,.sl C.str,.map C.str C.decis,.map C.str C.bool],.str] [.el C.flag,.bool] [.ptr 184 [.same,.same,.same,.same,.same,.same,.same,.same,.same,.same,.same,.map C.str C.decis,.map C.str C.bool],.same] fun a K=>X a.1.1 a.1.2.1 a.1.2.2.1 a.1.2.2.2.1 a.1.2.2.2.2.1 a.1.2.2.2.2.2.1 a.1.2.2.2.2.2.2.1 a.1.2.2.2.2.2.2.2.1 a.1.2.2.2.2.2.2.2.2.1 a.1.2.2.2.2.2.2.2.2.2.1 a.1.2.2.2.2.2.2.2.2.2.2.1 a.1.2.2.2.2.2.2.2.2.2.2.2.1 a.1.2.2.2.2.2.2.2.2.2.2.2.2.1 a.2.1 (fun q0 q1 q2 q3=>K (q0,q1,()) (((),(),(),(),(),(),(),(),(),(),(),q2,q3,()),(),()))
theorem q9k:MT 51 (He Jm):=mP (rk:=[.el C.flag,.v]) (l:=[]) trivial [(91000005,⟨bl 195,[3],[],[sI 8]⟩)]
def Rv(X:Ul):Con Sg:=conS [.el C.flag,.el C.subj] [.int .i64] fun a K=>X a.1 a.2.1 (fun q0=>K (q0,()))
theorem j3y{Qn:Zo}(h:AL [(44,V3 Qn)]):MT 16 (Rv (q3f Qn)):=mS h [(80000005,⟨bl 195,[],[],[sI 8]⟩),(5,⟨bl 3599,[1,0],[],[sI 12]⟩)]
theorem j3z:MT 16 (Rv W0):=j3y ⟨Bn,trivial⟩
def z74(X:q38):Con Sg:=conS [.sl C.bytes] [.vec 5 C.u8] fun a K=>X a.1 (fun q0=>K (q0,()))
theorem w0s:MT 166 (z74 q39):=mS (l:=[]) trivial [(7,⟨bl 389,[],[],[(.slot 3,.own 5 C.u8),sI 9]⟩),(13,⟨bl 8101,[],[],[(.slot 3,.own 5 C.u8),sI 6]⟩)]
def q8p(X:U9):Con Sg:=conS [.int .u64,.int .i64] [.int .u64] fun a K=>X a.1 a.2.1 (fun q0=>K (q0,()))
theorem z9q:MT 261 (q8p Ga):=mS (l:=[]) trivial []
def V9(X:Z6):Con Sg:=conV [.ptr 294 [.v,.v,.v,.v],.v] [.ptr 294 [.int .u64,.int .u64,.int .u64,.int .u64],.int .i64] [] [.ptr 294 [.int .u64,.int .u64,.int .u64,.int .u64],.same] fun a K=>X a.1.1 a.1.2.1 a.1.2.2.1 a.1.2.2.2.1 a.2.1 (fun q0 q1 q2 q3=>K () ((q0,q1,q2,q3,()),(),()))
theorem z7k{Zm:U9}(h:AL [(261,q8p Zm)]):MT 204 (V9 (R7 Zm)):=mP (rk:=[]) h [(3,⟨[0,1,4],[],[(0,(294,4))],[sI 5,(.cell 0 0,.int IntKind.u64),(.cell 0 1,.int IntKind.u64),(.cell 0 2,.int IntKind.u64),(.cell 0 3,.int IntKind.u64)]⟩)]
theorem q50:MT 204 (V9 Zq):=z7k ⟨z9q,trivial⟩
def q2p(X:Vv):Con Sg:=conV [.ptr 294 [.v,.v,.v,.v],.v] [.ptr 294 [.int .u64,.int .u64,.int .u64,.int .u64],.int .u64] [] [.ptr 294 [.int .u64,.int .u64,.int .u64,.int .u64],.same] fun a K=>X a.1.1 a.1.2.1 a.1.2.2.1 a.1.2.2.2.1 a.2.1 (fun q0 q1 q2 q3=>K () ((q0,q1,q2,q3,()),(),()))
theorem j1q{Zh:Z6}(h:AL [(204,V9 Zh)]):MT 203 (q2p (q15 Zh)):=mP (rk:=[]) h []
theorem j1r:MT 203 (q2p Hc):=j1q ⟨q50,trivial⟩
def z5k(X:q44):Con Sg:=conS [.int .u64,.int .u64,.sl C.u8] [.int .u64] fun a K=>X a.1 a.2.1 a.2.2.1 (fun q0=>K (q0,()))
theorem w7k{V1:Vv}{Zh:Z6}(h:AL [(203,q2p V1),(204,V9 Zh)]):MT 165 (z5k (z4r V1 Zh)):=mS h [(9,⟨bl 67101127,[],[(0,(294,4))],[sI 9,(.cell 0 0,.int IntKind.u64),(.cell 0 1,.int IntKind.u64),(.cell 0 2,.int IntKind.u64),(.cell 0 3,.int IntKind.u64)]⟩),(17,⟨bl 2147476423,[0],[],[(.slot 10,.int IntKind.u64),sI 33]⟩),(29,⟨bl 15762600843272903,[0],[],[(.slot 8,.int IntKind.u64),sI 54]⟩)]
theorem w7l:MT 165 (z5k q9a):=w7k ⟨j1r,q50,trivial⟩
def z2t(X:q16):Con Sg:=conS [.int .u64,.sl C.bytes] [.int .u64] fun a K=>X a.1 a.2.1 (fun q0=>K (q0,()))
theorem w4o{q4n:q38}{q9x:q44}(h:AL [(166,z74 q4n),(165,z5k q9x)]):MT 115 (z2t (z2a q4n q9x)):=mS h []
theorem w4p:MT 115 (z2t q6d):=w4o ⟨w0s,w7l,trivial⟩
def q3t(X:Vb):Con Sg:=conS [.str,.str] [.int .i64] fun a K=>X a.1 a.2.1 (fun q0=>K (q0,()))
theorem w94{q6y:q16}(h:AL [(115,z2t q6y)]):MT 73 (q3t (z82 q6y)):=mS h []
theorem z2u:MT 73 (q3t Gb):=w94 ⟨w4p,trivial⟩
def z5l(X:q17):Con Sg:=conS [.sl C.forced,.str] [.el C.forced,.bool] fun a K=>X a.1 a.2.1 (fun q0 q1=>K (q0,q1,()))
theorem j9c:MT 183 (z5l q18):=mS (l:=[]) trivial [(5,⟨bl 787,[],[(0,(172,3))],[sI 10,(.cell 0 0,.str),(.cell 0 1,.str),(.cell 0 2,.int .i64)]⟩)]
def j1s(X:q6e):Con Sg:=conS [.el C.env,.el C.forced] [.bool] fun a K=>X a.1 a.2.1 (fun q0=>K (q0,()))
theorem w4q:MT 184 (j1s q6f):=mSg 8 (l:=[]) trivial [(277000005,⟨bl 195,[1],[],[sI 8]⟩),(278000005,⟨bl 195,[],[],[sI 8]⟩)]
end Go.En
end
noncomputable section
set_option maxRecDepth 100000
open Go Go.RowKit Go.Fl Go.Fl.Lk Go.Fx
namespace Go.En
def z2v(X:q19):Con Sg:=conS [.el C.env,.el C.subj] [.bool] fun a K=>X a.1 a.2.1 (fun q0=>K (q0,()))
theorem w4r{Qn:Zo}{Zk:Vb}(h:AL [(44,V3 Qn),(73,q3t Zk)]):MT 185 (z2v (z2b Qn Zk)):=mS h []
theorem w4s:MT 185 (z2v q6g):=w4r ⟨Bn,z2u,trivial⟩
def q3u(X:Um):Con Sg:=conS [.el C.env,.el C.subj,.str] [.bool] fun a K=>X a.1 a.2.1 a.2.2.1 (fun q0=>K (q0,()))
theorem j30{Q9:J0}{Zc:Jc}(h:AL [(89,Ru Q9),(141,Rt Zc)]):MT 188 (q3u (q3g Q9 Zc)):=mS h [(5,⟨bl 3615,[1,0],[],[sI 12]⟩)]
theorem j31:MT 188 (q3u Rn):=j30 ⟨z1c,z2s,trivial⟩
def z2w(X:Rp):Con Sg:=conS [.sl C.range,.int .i64] [.int .i64] fun a K=>X a.1 a.2.1 (fun q0=>K (q0,()))
theorem j1t:MT 41 (z2w q2a):=mS (l:=[]) trivial [(5,⟨bl 387,[],[],[sI 9]⟩)]
def q4c(X:Bl):Con Sg:=conS [.el C.env,.el C.subj,.sl C.forced,.str] [.el C.asg,.int .i64] fun a K=>X a.1 a.2.1 a.2.2.1 a.2.2.2.1 (fun q0 q1=>K (q0,q1,()))
theorem w0t{Qn:Zo}{q25:q17}{Zk:Vb}{Wr:Rp}{R4:Um}{q6z:q19}{q60:q6e}(h:AL [(44,V3 Qn),(183,z5l q25),(73,q3t Zk),(41,z2w Wr),(188,q3u R4),(185,z2v q6z),(184,j1s q60)]):MT 139 (q4c (q99 Qn q25 Zk Wr R4 q6z q60)):=mS h [(4,⟨bl 959,[3,2,1,0],[],[sI 10]⟩),(18,⟨bl 2198939402175,[9,5,3,2,1,0],[(7,(134,5))],[(.cell 7 2,.int .i64)]⟩),(22,⟨bl 17735122472271807,[12,7,9,5,3,2,1,0],[],[sB 64]⟩),(30,⟨bl 18464479196181823423,[12,7,9,5,3,2,1,0],[],[sB 87]⟩),(41,⟨bl 73193204841212587949592543167,[12,9,5,3,2,1,0],[(7,(134,5))],[sI 96,(.cell 7 1,.str),(.cell 7 3,.int .i64)]⟩),(46,⟨bl 1261615642555177651852752060351,[19,7],[],[sB 19]⟩),(48,⟨bl 1261615642555177651852752584639,[19,7],[],[sB 122]⟩),(244000005,⟨bl 195,[],[],[sI 8]⟩),(182000005,⟨bl 195,[],[],[sI 8]⟩)]
theorem w0u:MT 139 (q4c G5):=w0t ⟨Bn,j9c,z2u,j1t,j31,w4s,w4q,trivial⟩
def Ua(X:Wi):Con Sg:=conV [.ptr 184 [.c,.c,.c,.c,.c,.c,.c,.c,.c,.c,.c,.map C.str C.decis,.map C.str C.bool],.el C.exper] [.ptr 184 [.str,.str,.int .i64,.sl C.decl,.sl C.seg,.sl C.flag,.sl C.layer,.sl C.exper,.sl C.ctx,.sl C.forced,.sl C.str,.map C.str C.decis,.map C.str C.bool],.el C.exper] [.int .i64] [.ptr 184 [.same,.same,.same,.same,.same,.same,.same,.same,.same,.same,.same,.map C.str C.decis,.map C.str C.bool],.same] fun a K=>X a.1.1 a.1.2.1 a.1.2.2.1 a.1.2.2.2.1 a.1.2.2.2.2.1 a.1.2.2.2.2.2.1 a.1.2.2.2.2.2.2.1 a.1.2.2.2.2.2.2.2.1 a.1.2.2.2.2.2.2.2.2.1 a.1.2.2.2.2.2.2.2.2.2.1 a.1.2.2.2.2.2.2.2.2.2.2.1 a.1.2.2.2.2.2.2.2.2.2.2.2.1 a.1.2.2.2.2.2.2.2.2.2.2.2.2.1 a.2.1 (fun q0 q1 q2=>K (q0,()) (((),(),(),(),(),(),(),(),(),(),(),q1,q2,()),(),()))
theorem z7l{Qn:Zo}{Zk:Vb}(h:AL [(44,V3 Qn),(73,q3t Zk)]):MT 140 (Ua (R8 Qn Zk)):=mP (rk:=[.v]) h [(5,⟨bl 32267,[3,0,1,2],[],[sI 15]⟩)]
theorem z7m:MT 140 (Ua Jq):=z7l ⟨Bn,z2u,trivial⟩
def z77(X:z0a):Con Sg:=conV [.v] [.int .i64] [.str] [.same] fun a K=>X a.1 (fun q0=>K (q0,()) ((),()))
theorem w0v:MT 164 (z77 z0b):=⟨entB (by kernel_rfl),w0e⟩
def z2x(X:q2b):Con Sg:=conS [.int .i64] [.str] fun a K=>X a.1 (fun q0=>K (q0,()))
theorem w4t{q4o:z0a}(h:AL [(164,z77 q4o)]):MT 114 (z2x (j01 q4o)):=mS h []
theorem w4u:MT 114 (z2x q6h):=w4t ⟨w0v,trivial⟩
def z5m(X:q45):Con Sg:=conS [.el C.val] [.str,.bool] fun a K=>X a.1 (fun q0 q1=>K (q0,q1,()))
theorem w7m{q61:q2b}(h:AL [(114,z2x q61)]):MT 72 (z5m (z4s q61)):=mS h [(8,⟨bl 63,[0],[],[sB 6]⟩)]
theorem w7n:MT 72 (z5m q9b):=w7m ⟨w4u,trivial⟩
def q5t(X:Gx):Con Sg:=conS [.el C.subj,.str,.str,.str] [.int .i64,.bool] fun a K=>X a.1 a.2.1 a.2.2.1 a.2.2.2.1 (fun q0 q1=>K (q0,q1,()))
theorem j5s{Jd:Wg}{q9y:q45}{Zk:Vb}(h:AL [(71,B3 Jd),(72,z5m q9y),(73,q3t Zk)]):MT 40 (q5t (q5m Jd q9y Zk)):=mS h []
theorem j5t:MT 40 (q5t B0):=j5s ⟨z3q,w7n,z2u,trivial⟩
def q5u(X:Gy):Con Sg:=conS [.el C.subj,.el C.serve] [.int .i64,.int .i64,.bool] fun a K=>X a.1 a.2.1 (fun q0 q1 q2=>K (q0,q1,q2,()))
theorem j5u{B9:Gx}{Wr:Rp}(h:AL [(40,q5t B9),(41,z2w Wr)]):MT 14 (q5u (q5n B9 Wr)):=mS h []
theorem j5v:MT 14 (q5u B1):=j5u ⟨j5t,j1t,trivial⟩
def Gg(X:Vc):Con Sg:=conV [.ptr 184 [.c,.c,.c,.c,.c,.c,.c,.c,.c,.c,.c,.map C.str C.decis,.map C.str C.bool],.el C.flag,.el C.serve,.el C.reason] [.ptr 184 [.str,.str,.int .i64,.sl C.decl,.sl C.seg,.sl C.flag,.sl C.layer,.sl C.exper,.sl C.ctx,.sl C.forced,.sl C.str,.map C.str C.decis,.map C.str C.bool],.el C.flag,.el C.serve,.el C.reason] [.int .i64,.el C.reason] [.ptr 184 [.same,.same,.same,.same,.same,.same,.same,.same,.same,.same,.same,.map C.str C.decis,.map C.str C.bool],.same,.same,.same] fun a K=>X a.1.1 a.1.2.1 a.1.2.2.1 a.1.2.2.2.1 a.1.2.2.2.2.1 a.1.2.2.2.2.2.1 a.1.2.2.2.2.2.2.1 a.1.2.2.2.2.2.2.2.1 a.1.2.2.2.2.2.2.2.2.1 a.1.2.2.2.2.2.2.2.2.2.1 a.1.2.2.2.2.2.2.2.2.2.2.1 a.1.2.2.2.2.2.2.2.2.2.2.2.1 a.1.2.2.2.2.2.2.2.2.2.2.2.2.1 a.2.1 a.2.2.1 a.2.2.2.1 (fun q0 q1 q2 q3=>K (q0,q1,()) (((),(),(),(),(),(),(),(),(),(),(),q2,q3,()),(),(),(),()))
theorem z9r{q0a:Gy}(h:AL [(14,q5u q0a)]):MT 142 (Gg (q0l q0a)):=mP (rk:=[.v,.el C.reason]) h []
theorem z9s:MT 142 (Gg J1):=z9r ⟨j5v,trivial⟩
def Bb(X:Zr):Con Sg:=conV [.ptr 184 [.c,.c,.c,.c,.c,.c,.c,.c,.c,.c,.c,.map C.str C.decis,.map C.str C.bool],.el C.flag] [.ptr 184 [.str,.str,.int .i64,.sl C.decl,.sl C.seg,.sl C.flag,.sl C.layer,.sl C.exper,.sl C.ctx,.sl C.forced,.sl C.str,.map C.str C.decis,.map C.str C.bool],.el C.flag] [.el C.decis] [.ptr 184 [.same,.same,.same,.same,.same,.same,.same,.same,.same,.same,.same,.map C.str C.decis,.map C.str C.bool],.same] fun a K=>X a.1.1 a.1.2.1 a.1.2.2.1 a.1.2.2.2.1 a.1.2.2.2.2.1 a.1.2.2.2.2.2.1 a.1.2.2.2.2.2.2.1 a.1.2.2.2.2.2.2.2.1 a.1.2.2.2.2.2.2.2.2.1 a.1.2.2.2.2.2.2.2.2.2.1 a.1.2.2.2.2.2.2.2.2.2.2.1 a.1.2.2.2.2.2.2.2.2.2.2.2.1 a.1.2.2.2.2.2.2.2.2.2.2.2.2.1 a.2.1 (fun q0 q1 q2=>K (q0,()) (((),(),(),(),(),(),(),(),(),(),(),q1,q2,()),(),()))
def q47:PT:=Q3 ([(93000009,⟨bl 14909483,[9],[(10,(74,4)),(0,(184,13))],[sI 24,(.cell 10 0,.int .i64),(.cell 10 1,.int .i64),(.cell 10 2,.str),(.cell 10 3,.int .i64),(.obj 2,.map C.str C.bool),(.obj 1,.map C.str C.decis)]⟩),(93000027,⟨bl 2269884306126242091,[9],[(10,(74,4)),(0,(184,13))],[sI 61,(.cell 10 0,.int .i64),(.cell 10 1,.int .i64),(.cell 10 2,.str),(.cell 10 3,.int .i64),(.obj 1,.map C.str C.decis),(.obj 2,.map C.str C.bool)]⟩),(93000043,⟨bl 18173039004871905887270070919594283,[9],[(10,(74,4)),(0,(184,13))],[sI 114,(.cell 10 0,.int .i64),(.cell 10 1,.int .i64),(.cell 10 2,.str),(.cell 10 3,.int .i64),(.obj 2,.map C.str C.bool),(.obj 1,.map C.str C.decis)]⟩),(20,⟨bl 131067,[4,3],[(5,(76,11)),(0,(184,13))],[(.cell 5 0,.str),(.cell 5 1,.int .i64),(.cell 5 2,.int .i64),(.cell 5 3,.int .i64),(.cell 5 4,.str),(.cell 5 5,.sl C.str),(.cell 5 6,.int .i64),(.cell 5 7,.int .i64),(.cell 5 8,.str),(.cell 5 9,.int .i64),(.cell 5 10,.int .i64),(.obj 1,.map C.str C.decis),(.obj 2,.map C.str C.bool)]⟩),(16,⟨bl 68719476731,[10,1,2,0,9],[(5,(76,11))],[(.cell 5 2,.int .i64),(.cell 5 3,.int .i64),(.cell 5 4,.str),(.cell 5 5,.sl C.str)]⟩)]:LS)
theorem z3w(Q5:J5)(Zv:J9)(R5:Ul)(q4p:Bl)(Ub:Wi)(Zc:Jc)(Ve:Vc)(X:Zr)(salt:ByteArray)(hkind:ByteArray)(hold:Int)(attrs:List (Decl))(segs:List (Seg))(flags:List (Flg))(layers:List (Lay_))(expers:List (Exper))(ctxs:List (Ctxt))(fs:List (Frc))(inn:List (ByteArray))(done:(ByteArray->Option (Dcs)))(opn:(ByteArray->Option (Bool)))(f:Flg)(K:Dcs->(ByteArray->Option (Dcs))->(ByteArray->Option (Bool))->Prop):R9 Q5 Zv R5 q4p Ub Zc Ve X salt hkind hold attrs segs flags layers expers ctxs fs inn done opn f K=fnV (((WL [(93,Gd Q5),(51,He Zv),(16,Rv R5),(139,q4c q4p),(140,Ua Ub),(141,Rt Zc),(142,Gg Ve)]).with 52 (Bb X)).pl q47) 4 52 ([.ptr 184 [.c,.c,.c,.c,.c,.c,.c,.c,.c,.c,.c,.map C.str C.decis,.map C.str C.bool],.el C.flag]:LP) ([.el C.decis]:LP) ([.ptr 184 [.str,.str,.int .i64,.sl C.decl,.sl C.seg,.sl C.flag,.sl C.layer,.sl C.exper,.sl C.ctx,.sl C.forced,.sl C.str,.map C.str C.decis,.map C.str C.bool],.el C.flag]:LV) ([.el C.decis]:LV) ([.ptr 184 [.same,.same,.same,.same,.same,.same,.same,.same,.same,.same,.same,.map C.str C.decis,.map C.str C.bool],.same]:LV) ((salt,hkind,hold,attrs,segs,flags,layers,expers,ctxs,fs,inn,done,opn,()),f,()) (fun r o=>K r.1 o.1.2.2.2.2.2.2.2.2.2.2.2.1 o.1.2.2.2.2.2.2.2.2.2.2.2.2.1):=by kernel_rfl
theorem z7n:MT 52 (Bb V8):=by
 show MT _ (conV ([.ptr 184 [.c,.c,.c,.c,.c,.c,.c,.c,.c,.c,.c,.map C.str C.decis,.map C.str C.bool],.el C.flag]:LP) ([.ptr 184 [.str,.str,.int .i64,.sl C.decl,.sl C.seg,.sl C.flag,.sl C.layer,.sl C.exper,.sl C.ctx,.sl C.forced,.sl C.str,.map C.str C.decis,.map C.str C.bool],.el C.flag]:LV) ([.el C.decis]:LV) ([.ptr 184 [.same,.same,.same,.same,.same,.same,.same,.same,.same,.same,.same,.map C.str C.decis,.map C.str C.bool],.same]:LV) fun a K=>V8 a.1.1 a.1.2.1 a.1.2.2.1 a.1.2.2.2.1 a.1.2.2.2.2.1 a.1.2.2.2.2.2.1 a.1.2.2.2.2.2.2.1 a.1.2.2.2.2.2.2.2.1 a.1.2.2.2.2.2.2.2.2.1 a.1.2.2.2.2.2.2.2.2.2.1 a.1.2.2.2.2.2.2.2.2.2.2.1 a.1.2.2.2.2.2.2.2.2.2.2.2.1 a.1.2.2.2.2.2.2.2.2.2.2.2.2.1 a.2.1 (fun q0 q1 q2=>K (q0,()) (((),(),(),(),(),(),(),(),(),(),(),q1,q2,()),(),())))
 refine mR (l:=[(93,Gd Jj),(51,He Jm),(16,Rv W0),(139,q4c G5),(140,Ua Jq),(141,Rt Vt),(142,Gg J1)]) (u:=4) (rk:=[.el C.decis]) (p:=q47) ⟨q6n,q9k,j3z,w0u,z7m,z2s,z9s,trivial⟩ (by kernel_rfl) fun _ K h X hX=> ?_
 exact h (fun salt hkind hold attrs segs flags layers expers ctxs fs inn done opn f K=>X ((salt,hkind,hold,attrs,segs,flags,layers,expers,ctxs,fs,inn,done,opn,()),f,()) fun r o=>K r.1 o.1.2.2.2.2.2.2.2.2.2.2.2.1 o.1.2.2.2.2.2.2.2.2.2.2.2.2.1) (fun salt hkind hold attrs segs flags layers expers ctxs fs inn done opn f K hs=>hX ((salt,hkind,hold,attrs,segs,flags,layers,expers,ctxs,fs,inn,done,opn,()),f,()) (fun r o=>K r.1 o.1.2.2.2.2.2.2.2.2.2.2.2.1 o.1.2.2.2.2.2.2.2.2.2.2.2.2.1) (Eq.mp (z3w Jj Jm W0 G5 Jq Vt J1 (fun salt hkind hold attrs segs flags layers expers ctxs fs inn done opn f K=>X ((salt,hkind,hold,attrs,segs,flags,layers,expers,ctxs,fs,inn,done,opn,()),f,()) fun r o=>K r.1 o.1.2.2.2.2.2.2.2.2.2.2.2.1 o.1.2.2.2.2.2.2.2.2.2.2.2.2.1) salt hkind hold attrs segs flags layers expers ctxs fs inn done opn f K) hs))
end Go.En
end
noncomputable section
set_option maxRecDepth 100000
open Go Go.RowKit Go.Fl Go.Fl.Lk Go.Fx
namespace Go.En
def q2q(X:Vd):Con Sg:=conS [.el C.env,.el C.subj,.sl C.forced,.str] [.el C.decis,.int .i64] fun a K=>X a.1 a.2.1 a.2.2.1 a.2.2.2.1 (fun q0 q1=>K (q0,q1,()))
theorem j9d{q0b:Gw}{Zv:J9}{Uc:Zr}(h:AL [(50,q5s q0b),(51,He Zv),(52,Bb Uc)]):MT 21 (q2q (q8a q0b Zv Uc)):=mS h []
theorem z5n:MT 21 (q2q H2):=j9d ⟨j5r,q9k,z7n,trivial⟩
def z2y(X:q2c):Con Sg:=conS [] [.bool] fun _ K=>X (fun q0=>K (q0,()))
theorem w4v{Z9:Vd}(h:AL [(21,q2q Z9)]):MT 9 (z2y (z2c Z9)):=mS h []
theorem w4w:MT 9 (z2y q6i):=w4v ⟨z5n,trivial⟩
def v78(X:w3q):Con Sg:=conV [.sl C.u8,.v] [.sl C.u8,.int .i64] [.ptr 92 [.sl C.u8,.int .i64]] [.same,.same] fun a K=>X a.1 a.2.1 (fun q0 q1=>K ((q0,q1,()),()) ((),(),()))
theorem y5x:MT 10 (v78 w3r):=mP (rk:=[.ptr 92 [.c,.v]]) (l:=[]) trivial [(6,⟨[1,4],[],[],[(.slot 0,.sl C.u8)]⟩)]
def z9t(X:q8b):Con Sg:=conV [.ptr 92 [.c,.v],.v] [.ptr 92 [.sl C.u8,.int .i64],.str] [.el C.ctx] [.ptr 92 [.same,.int .i64],.same] fun a K=>X a.1.1 a.1.2.1 a.2.1 (fun q0 q1=>K (q0,()) (((),q1,()),(),()))
theorem w95{z29:z8n}{Q2:Ws}{Qb:Zf}{Z8:q07}(h:AL [(70,w32 z29),(29,q46 Q2),(30,Vf Qb),(64,z4w Z8)]):MT 38 (z9t (z83 z29 Q2 Qb Z8)):=mP (rk:=[.el C.ctx]) h [(9,⟨bl 8051,[4,1],[(2,(107,3)),(0,(92,2))],[sI 7,(.cell 2 2,.own 160 C.attr),(.cell 0 1,.int .i64)]⟩)]
theorem w96:MT 38 (z9t q8c):=w95 ⟨v7m,q9e,Gc,j8b,trivial⟩
def z9u(X:q8d):Con Sg:=conV [.ptr 92 [.c,.v]] [.ptr 92 [.sl C.u8,.int .i64]] [.el C.subj] [.ptr 92 [.same,.int .i64]] fun a K=>X a.1.1 a.1.2.1 (fun q0 q1=>K (q0,()) (((),q1,()),()))
theorem w97{Qb:Zf}{q0u:q8b}(h:AL [(30,Vf Qb),(38,z9t q0u)]):MT 12 (z9u (z84 Qb q0u)):=mP (rk:=[.el C.subj]) h [(10,⟨bl 125,[1],[(0,(92,2)),(2,(25,1))],[(.cell 0 1,.int .i64),(.cell 2 0,.own 107 C.ctx)]⟩)]
theorem w98:MT 12 (z9u z2d):=w97 ⟨Gc,w96,trivial⟩
end Go.En
end
noncomputable section
set_option maxRecDepth 100000
open Go Go.RowKit Go.Fl Go.Fl.Lk Go.Fx
namespace Go.En
def j32(X:z09):Con Sg:=conV [.ptr 92 [.c,.v],.el C.env] [.ptr 92 [.sl C.u8,.int .i64],.el C.env] [.vec 172 C.forced] [.ptr 92 [.same,.int .i64],.same] fun a K=>X a.1.1 a.1.2.1 a.2.1 (fun q0 q1=>K (q0,()) (((),q1,()),(),()))
theorem v4c{Qb:Zf}(h:AL [(30,Vf Qb)]):MT 48 (j32 (j3a Qb)):=mP (rk:=[.own 172 C.forced]) h [(7,⟨bl 27,[1],[(0,(92,2))],[(.slot 5,.own 172 C.forced),sI 6,(.cell 0 1,.int .i64)]⟩),(16,⟨bl 998651,[2],[(5,(172,3)),(0,(92,2))],[(.cell 5 0,.str),(.cell 0 1,.int .i64)]⟩),(32,⟨bl 998651,[2],[(5,(172,3)),(0,(92,2))],[(.cell 5 0,.str),(.cell 5 1,.str),(.cell 5 2,.int .i64),(.cell 0 1,.int .i64)]⟩),(26,⟨bl 274862128603,[],[(5,(172,3)),(0,(92,2))],[(.cell 5 0,.str),(.cell 0 1,.int .i64)]⟩)]
theorem v4d:MT 48 (j32 z6y):=v4c ⟨Gc,trivial⟩
def z2z(X:q2d):Con Sg:=conS [.sl C.u8,.sl C.u8] [.el C.env,.el C.subj,.sl C.forced] fun a K=>X a.1 a.2.1 (fun q0 q1 q2=>K (q0,q1,q2,()))
theorem w4x{j96:w3q}{q26:Hu}{z3h:q8d}{z7g:z09}(h:AL [(10,v78 j96),(11,q8k q26),(12,z9u z3h),(48,j32 z7g)]):MT 18 (z2z (z2e j96 q26 z3h z7g)):=mS h []
theorem w4y:MT 18 (z2z q2e):=w4x ⟨y5x,j83,w98,v4d,trivial⟩
end Go.En
end
noncomputable section
set_option maxRecDepth 100000
open Go Go.RowKit Go.Fl Go.Fl.Lk Go.Fx
namespace Go.En
def j33(X:z1a):Con Sg:=conS [.el C.decis,.el C.decis] [.bool] fun a K=>X a.1 a.2.1 (fun q0=>K (q0,()))
theorem v4e{W2:q0w}(h:AL [(53,z62 W2)]):MT 22 (j33 (j3d W2)):=mS h []
theorem v4f:MT 22 (j33 z60):=v4e ⟨w1z,trivial⟩
end Go.En
end
noncomputable section
set_option maxRecDepth 100000
open Go Go.RowKit Go.Fl Go.Fl.Lk Go.Fx
namespace Go.En
def v79(X:w3v):Con Sg:=conS [.int .i64,.int .i64] [.int .i64] fun a K=>X a.1 a.2.1 (fun q0=>K (q0,()))
theorem y5y:MT 19 (v79 w3w):=mS (l:=[]) trivial []
def Vw(X:H3):Con Sg:=conS [.sl C.u8,.sl C.u8,.int .i64,.int .i64] [.bool] fun a K=>X a.1 a.2.1 a.2.2.1 a.2.2.2.1 (fun q0=>K (q0,()))
theorem z5o{q62:q2c}{q63:q2d}{j97:w3v}{Z9:Vd}{z7h:z1a}(h:AL [(9,z2y q62),(18,z2z q63),(19,v79 j97),(21,q2q Z9),(22,j33 z7h)]):MT 5 (Vw (H4 q62 q63 j97 Z9 z7h)):=mS h []
theorem z5p:MT 5 (Vw Zx):=z5o ⟨w4w,w4y,y5y,z5n,v4f,trivial⟩
end Go.En
end
noncomputable section
set_option maxRecDepth 100000
namespace Go.En
open Go Go.Fl Go.Fl.Lk Go.Fx
theorem Cnd.mk{c A B:Prop}(h:c->A)(k: ¬c->B):Cnd c A B:=⟨h,k⟩
structure DS(list:List Int)(at_:Int):Prop where
 len:list.length<=1000
 lo:0<=at_
 hi:at_<=list.length
 byte: ∀x∈list,0<=x/\x<256
theorem getm{α:Type}{l:List α}{k:Nat}{x:α}(h:l[k]? =some x):x∈l:=List.mem_of_getElem? h
theorem z9v(n:Int):(Go.Utf8.encode n).size<=4:=by
 unfold Go.Utf8.encode
 generalize (if Go.Utf8.valid n then n.toNat else Go.Utf8.runeError)=c
 show (if c<0x80 then _ else if c<0x800 then _ else if c<0x10000 then _ else _:ByteArray).size<=4
 have h1: ∀a:UInt8,(ByteArray.mk #[a]).size<=4:=fun _=>(by decide:1<=4)
 have h2: ∀a b:UInt8,(ByteArray.mk #[a,b]).size<=4:=fun _ _=>(by decide:2<=4)
 have h3: ∀a b c:UInt8,(ByteArray.mk #[a,b,c]).size<=4:=fun _ _ _=>(by decide:3<=4)
 have h4: ∀a b c d:UInt8,(ByteArray.mk #[a,b,c,d]).size<=4:=fun _ _ _ _=>(by decide:4<=4)
 split
 ·exact h1 _
 ·split
  ·exact h2 _ _
  ·split
   ·exact h3 _ _ _
   ·exact h4 _ _ _ _
theorem Qg{list:List Int}{at_ n:Int}{K:Int->Int->Prop}(hD:DS list at_)(hn:1<=n)(h: ∀r a,0<=r->r<n->DS list a->K r a):J2 list at_ n K:=by
 obtain⟨h1,h2,h3,h4⟩:=hD
 unfold J2 w3k w3j
 refine fun _=>Cnd.mk (fun hl=> ?_) (fun _=>h _ _ (by omega) (by omega) ⟨h1,h2,h3,h4⟩)
 have hl:=of_decide_eq_true hl
 refine⟨by unfold InI;omega,by unfold InI;omega,by omega,fun y hy=>⟨by unfold InI;have:=h4 _ (getm hy);omega,by omega,?_⟩⟩
 obtain⟨a,b⟩:=h4 _ (getm hy)
 exact h _ _ (Int.tmod_nonneg _ a) (by have:=Int.tmod_lt_of_pos y (b:=n) (by omega);omega) ⟨h1,by omega,by omega,h4⟩
theorem q48{list:List Int}{at_ n:Int}{K:Int->Int->Prop}(hD:DS list at_)(hn:1<=n)(h: ∀r a,0<=r->r<n->DS list a->K r a):z6h list at_ n K:=by
 unfold z6h w3m
 refine Qg hD (by decide) fun r a r0 r1 hD=>⟨by unfold InI;omega,Qg hD (by decide) fun s b s0 s1 hD=>⟨by unfold InI;omega,by omega,?_⟩⟩
 exact h _ _ (Int.tmod_nonneg _ (by omega)) (by have:=Int.tmod_lt_of_pos (256*r+s) (b:=n) (by omega);omega) hD
theorem j1u{n:Int}{l:List ByteArray}{K:List ByteArray->Prop}(h0:0<=n)(h1:n<=l.length)(h:K (l.take n.toNat)):j6k n l K:=⟨⟨h0,h1⟩,h⟩
theorem z1d{list:List Int}{at_:Int}{K:ByteArray->Int->Prop}(hD:DS list at_)(h: ∀r a,r∈j0i->DS list a->K r a):z1o list at_ K:=by
 unfold z1o w3l
 exact Qg hD (by decide) fun r a r0 r1 hD=>⟨⟨r0,r1⟩,fun y hy=>h _ _ (getm hy) hD⟩
theorem sz_k(n:Int):(ByteArray.mk (Array.mk [107])++Go.Utf8.encode n).size<=5:=by
 rw[ByteArray.size_append];have:=z9v n;show 1+_<=5;omega
theorem v2b{list:List Int}{at_:Int}{K:ByteArray->Int->Prop}(hD:DS list at_)(h: ∀r a,r.size<=5->DS list a->K r a):j7v list at_ K:=by
 unfold j7v w9b
 refine Qg hD (by decide) fun r a r0 r1 hD=>⟨by unfold InI;omega,?_,h _ _ (sz_k _) hD⟩
 have:=z9v (Go.IntKind.i32.wrap (48+r));have e:(ByteArray.mk (Array.mk [107])).size=1:=rfl;omega
theorem j9e{list:List Int}{at_:Int}{K:List ByteArray->Int->Prop}(hD:DS list at_)(h: ∀r a,r.length<=3->(∀s∈r,s.size<=5)->DS list a->K r a):j0j list at_ K:=by
 unfold j0j w3n
 refine Qg hD (by decide) fun n a n0 n1 hD=> ?_
 refine Lp3.ind (fun l i a=>DS list a/\0<=i/\i<=3/\(l.length:Int)=i/\ ∀s∈l,s.size<=5) (fun _ i _=>(3 - i).toNat) ?_ ⟨hD,by decide,by decide,rfl,by simp⟩
 rintro l i a ⟨hD,i0,i3,hl,hs⟩
 refine Qg hD (by decide) fun r a r0 r1 hD=>Cnd.mk (fun hc=> ?_) (fun hc=> ?_)
 ·have:=z9v (Go.IntKind.i32.wrap ((48:Int)+(n+i).tmod 10));have e:(ByteArray.mk (Array.mk [107])).size=1:=rfl
  have m0:=Int.tmod_nonneg 10 (show 0<=n+i by omega);have m1:=Int.tmod_lt_of_pos (n+i) (b:=10) (by decide)
  refine⟨by unfold InI;omega,by decide,by unfold InI;omega,by omega,by unfold Sml;simp;omega,by unfold InI;omega,⟨hD,by omega,by omega,by simp;omega,fun s hm=> ?_⟩,by omega⟩
  rcases List.mem_append.1 hm with hm|hm
  ·exact hs s hm
  ·rw[List.mem_singleton.1 hm];exact sz_k _
 ·refine Lp2.ind (fun (i:Int) (m:List ByteArray)=>m=l/\1<=i/\i<=1+l.length) (fun (i:Int) _=>(1+l.length - i).toNat) ?_ ⟨rfl,by decide,by omega⟩
  rintro i m ⟨rfl,i0,i1⟩ _
  refine Cnd.mk (fun hc=>⟨by omega,fun y hy=>⟨by unfold InI;omega,by omega,fun z hz=>Cnd.mk (fun _=>⟨by unfold InI;omega,⟨rfl,by omega,by omega⟩,by omega⟩) (fun _=>⟨by omega,h _ _ (by simp;omega) (fun s hm=>hs s (List.mem_of_mem_take hm)) hD⟩)⟩⟩) (fun _=>h _ _ (by omega) hs hD)
theorem sz0:(ByteArray.mk (Array.mk ([]:List UInt8))).size<=100:=by decide
structure ValS(v:Val):Prop where
 num:InI v.number
 txt:v.text.size<=100
 len:v.list.length<=10
 txs: ∀s∈v.list,s.size<=100
theorem q7a{list:List Int}{at_ kind:Int}{K:Val->Int->Prop}(hD:DS list at_)(h: ∀r a,ValS r->DS list a->K r a):Bg list at_ kind K:=by
 unfold Bg j0k
 have tt: ∀s∈j0i,s.size<=100:=by decide
 have tv: ∀s∈z38,s.size<=100:=by decide
 have tl: ∀l∈j7t,l.length<=10/\ ∀s∈l,s.size<=100:=by decide
 refine Cnd.mk (fun _=> ?_) fun _=>Cnd.mk (fun _=>fun _=> ?_) fun _=>Cnd.mk (fun _=> ?_) fun _=>Cnd.mk (fun _=> ?_) fun _=> ?_
 ·exact Qg hD (by decide) fun r a r0 r1 hD=>h _ _ ⟨by unfold InI;simp only;omega,sz0,by simp,by simp⟩ hD
 ·refine Qg hD (by decide) fun r a r0 r1 hD=>⟨⟨r0,r1⟩,fun y hy=>h _ _ ⟨?_,sz0,by simp,by simp⟩ hD⟩
  have:=getm hy
  have k: ∀y∈[(0:Int),(1:Int),(17:Int),(18:Int),(19:Int),(-5:Int),(64:Int),(1099511627776:Int),(-1099511627776:Int)], -9223372036854775808<=y/\y<=9223372036854775807:=by decide
  exact k y this
 ·exact z1d hD fun r a hr hD=>h _ _ ⟨by unfold InI;simp,tt _ hr,by simp,by simp⟩ hD
 ·exact Qg hD (by decide) fun r a r0 r1 hD=>⟨⟨r0,r1⟩,fun y hy=>h _ _ ⟨by unfold InI;simp,tv _ (getm hy),by simp,by simp⟩ hD⟩
 ·refine Qg hD (by decide) fun r a r0 r1 hD=>⟨⟨r0,r1⟩,fun y hy=> ?_⟩
  obtain⟨a1,a2⟩:=tl _ (getm hy)
  exact⟨by unfold Sml;simp;omega,h _ _ ⟨by unfold InI;simp,sz0,by simpa using a1,by simpa using a2⟩ hD⟩
structure VsS(l:List Val):Prop where
 len:l.length<=4
 all: ∀v∈l,ValS v
theorem VsS.nil:VsS []:=⟨by simp,by simp⟩
theorem VsS.one{v:Val}(h:ValS v):VsS [v]:=⟨by simp,by simpa using h⟩
def ExS:Nat->Ex->Prop
 |0,e=>VsS e.values/\(e.name.size<=100/\e.kind.size<=100)/\(InI e.op/\(2<=e.op->e.op<=4->e.kids≠[]))/\e.kids=[]
 |n+1,e=>VsS e.values/\(e.name.size<=100/\e.kind.size<=100)/\(InI e.op/\(2<=e.op->e.op<=4->e.kids≠[]))/\e.kids.length<=3/\ ∀k∈e.kids,ExS n k
theorem ExS.up: ∀{n:Nat} {e:Ex},ExS n e->ExS (n+1) e
 |0,e,h=>⟨h.1,h.2.1,h.2.2.1,by rw[h.2.2.2];simp,by rw[h.2.2.2];simp⟩
 |n+1,e,h=>⟨h.1,h.2.1,h.2.2.1,h.2.2.2.1,fun k hk=>(h.2.2.2.2 k hk).up⟩
theorem ExS.le{n m:Nat}{e:Ex}(h:ExS n e)(hm:n<=m):ExS m e:=by
 induction hm with
 |refl=>exact h
 |step _ ih=>exact ih.up
theorem ExS.kids{n:Nat}{e:Ex}(h:ExS n e):e.kids.length<=3:=by
 cases n with
 |zero=>rw[h.2.2.2];simp
 |succ n=>exact h.2.2.2.1
theorem ExS.kid{n:Nat}{e k:Ex}(h:ExS n e)(hk:k∈e.kids): ∃m,m+1=n/\ExS m k:=by
 cases n with
 |zero=>rw[h.2.2.2] at hk;simp at hk
 |succ n=>exact⟨n,rfl,h.2.2.2.2 k hk⟩
theorem ExS.vals{n:Nat}{e:Ex}(h:ExS n e):VsS e.values:=by cases n<;>exact h.1
theorem ExS.nm{n:Nat}{e:Ex}(h:ExS n e):e.name.size<=100:=by cases n<;>exact h.2.1.1
theorem ExS.kd{n:Nat}{e:Ex}(h:ExS n e):e.kind.size<=100:=by cases n<;>exact h.2.1.2
theorem ExS.opK{n:Nat}{e:Ex}(h:ExS n e):2<=e.op->e.op<=4->e.kids≠[]:=by cases n<;>exact h.2.2.1.2
def OpL(op:Int):Prop:=InI op/\ ¬(2<=op/\op<=4)
theorem OpL.ok{op:Int}(h:OpL op){l:List Ex}:InI op/\(2<=op->op<=4->l≠[]):=⟨h.1,fun a b=>absurd ⟨a,b⟩ h.2⟩
theorem opl{op:Int}(h:(6<=op/\op<=100)∨op=0∨op=1∨op=5){l:List Ex}:InI op/\(2<=op->op<=4->l≠[]):=⟨by unfold InI;omega,fun a b=>by omega⟩
theorem q2r{K:List Decl->Prop}(h: ∀l,l.length=8->(∀d∈l,d.kind.size<=100/\d.name.size<=100/\1<=d.type/\d.type<=5)->K l):Us K:=by
 unfold Us
 exact h _ rfl (by decide)
theorem w7o{list:List Int}{at_:Int}{K:Ex->Int->Prop}(hD:DS list at_)(h: ∀r a,ExS 0 r->6<=r.op->DS list a->K r a):z6j list at_ K:=by
 unfold z6j w3o
 refine q2r fun l hl hd _=>⟨by unfold InI;omega,Qg hD (by omega) fun r a r0 r1 hD _=>Cnd.mk (fun _=> ?_) fun hc=>⟨by omega,fun y hy=> ?_⟩⟩
 ·exact v2b hD fun s a hs hD=>h _ _ ⟨.one ⟨by unfold InI;simp,by show s.size<=100;omega,by simp,by simp⟩,⟨(by decide:(ByteArray.mk (Array.mk [107,101,121])).size<=100),(by decide:(ByteArray.mk (Array.mk [117,115,101,114])).size<=100)⟩,opl (by simp),rfl⟩ (by simp) hD
 obtain⟨hy0,hy1,hy2,hy3⟩:=hd y (getm hy)
 have one: ∀{op:Int} {v:Val},OpL op->ValS v->ExS 0 (Ex.mk op y.kind y.name [v] []):=fun ho hv=>⟨.one hv,⟨hy1,hy0⟩,ho.ok,rfl⟩
 refine Jn1.mk (fun x=>(∃b,x=(b,y.kind,y.name,([]:List Val),([]:List Ex),x.2.2.2.2.2.1,0,ByteArray.mk (Array.mk []),ByteArray.mk (Array.mk []),[],[],()))/\DS list x.2.2.2.2.2.1) ?_ ?_
 case refine_2=>
  rintro x ⟨⟨b,hx⟩,hD⟩
  refine q7a hD fun v a hv hD=>h _ _ ?_ (by simp) hD
  rw[hx]
  exact one ⟨by unfold InI;simp,by decide⟩ hv
 refine Qg hD (by decide) fun q a q0 q1 hD=> ?_
 refine Jn1.mk (fun x=>(∃b,x=(x.1,b,y.kind,y.name,([]:List Val),([]:List Ex),0,ByteArray.mk (Array.mk []),ByteArray.mk (Array.mk []),[],[],()))/\DS list x.1) ?_ ?_
 case refine_2=>
  rintro x ⟨⟨b,hx⟩,hD⟩
  have cmp:J2 list x.1 4 fun r a=>InI (12+r)/\Bg list a y.3 fun v a=>K (Ex.mk (12+r) x.2.2.1 x.2.2.2.1 [v] x.2.2.2.2.2.1) a:=by
   refine Qg hD (by decide) fun r a r0 r1 hD=>⟨by unfold InI;omega,q7a hD fun v a hv hD=>h _ _ ?_ (by simp only;omega) hD⟩
   rw[hx]
   exact one ⟨by unfold InI;omega,by omega⟩ hv
  refine Cnd.mk (fun _=>cmp) fun _=>Cnd.mk (fun _=>cmp) fun _=>Cnd.mk (fun _=>cmp) fun _=> ?_
  refine⟨⟨b,?_⟩,hD⟩
  rw[hx]
 have nx: ∀{a:Int},DS list a->(fun x:Int×ByteArray×ByteArray×List Val×List Ex×Int×Int×ByteArray×ByteArray×List Val×List Ex×Unit=>(∃b,x=(b,y.kind,y.name,([]:List Val),([]:List Ex),x.2.2.2.2.2.1,0,ByteArray.mk (Array.mk []),ByteArray.mk (Array.mk []),[],[],()))/\DS list x.2.2.2.2.2.1) ((0:Int),y.1,y.2,[],[],a,(0:Int),ByteArray.mk (Array.mk []),ByteArray.mk (Array.mk []),[],[],()):=fun hD=>⟨⟨0,rfl⟩,hD⟩
 refine Cnd.mk (fun _=>h _ _ ⟨.nil,⟨hy1,hy0⟩,opl (by simp),rfl⟩ (by simp) hD) fun _=>Cnd.mk (fun _=> ?_) fun _=>Cnd.mk (fun _=> ?_) fun _=>Cnd.mk (fun _=> ?_) fun _=>Cnd.mk (fun _=> ?_) fun _=>nx hD
 ·refine Cnd.mk (fun _=>nx hD) fun _=> ?_
  refine Lp3.ind (fun i l a=>DS list a/\0<=i/\i<=3/\(l.length:Int)=i/\ ∀v∈l,ValS v) (fun i _ _=>(3 - i).toNat) ?_ ⟨hD,by decide,by decide,rfl,by simp⟩
  rintro i l a ⟨hD,i0,i3,hl,hv⟩
  refine Qg hD (by decide) fun r a r0 r1 hD=>Cnd.mk (fun hc=>q7a hD fun v a hv' hD=>⟨by unfold Sml;simp;omega,by unfold InI;omega,⟨hD,by omega,by omega,by simp;omega,fun u hu=> ?_⟩,by omega⟩) (fun hc=>h _ _ ⟨⟨by simp only;omega,hv⟩,⟨hy1,hy0⟩,opl (by simp),rfl⟩ (by simp) hD)
  rcases List.mem_append.1 hu with hu|hu
  ·exact hv u hu
  ·rw[List.mem_singleton.1 hu];exact hv'
 ·have c:Bg list a 3 fun v a=>K (Ex.mk 11 y.1 y.2 [v] []) a:=q7a hD fun v a hv hD=>h _ _ (one ⟨by unfold InI;simp,by decide⟩ hv) (by simp) hD
  exact Cnd.mk (fun _=>c) fun _=>Cnd.mk (fun _=>c) fun _=>nx hD
 ·exact Cnd.mk (fun _=>Qg hD (by decide) fun r a r0 r1 hD=>⟨by unfold InI;omega,q7a hD fun v a hv hD=>h _ _ (one ⟨by unfold InI;omega,by omega⟩ hv) (by simp only;omega) hD⟩) fun _=>⟨⟨0,rfl⟩,hD⟩
 ·exact⟨⟨0,rfl⟩,hD⟩
theorem ExS.eta{n:Nat}{e:Ex}(h:ExS n e):ExS n (Ex.mk e.op e.kind e.name e.values e.kids):=by cases e;exact h
theorem y8p{n:Nat}{e:Ex}(h:ExS n e){k m:ByteArray}(hm:m.size<=100)(hk:k.size<=100):ExS (n+1) (Ex.mk 4 k m [] [e]):=⟨.nil,⟨hm,hk⟩,⟨InI.mk (by simp) (by simp),fun _ _=>by simp⟩,by simp,by simpa using h⟩
structure SegS(g:Seg):Prop where
 key:g.key.size<=100
 kind:g.kind.size<=100
 incl:g.incl.length<=3
 excl:g.excl.length<=3
 cond:ExS 4 g.cond
theorem Ju{α:Type}{P:α->Prop}{l:List α}{x:α}(h: ∀y∈l,P y)(hx:P x): ∀y∈l++[x],P y:=fun y hy=>by
 rcases List.mem_append.1 hy with hy|hy
 ·exact h y hy
 ·rw[List.mem_singleton.1 hy];exact hx
theorem z3r{v:Envt}{K:List ByteArray->Prop}(hl:v.segments.length<=1000)(h:K (v.segments.map Seg.key)):q09 v K:=by
 unfold q09
 refine Lp2.ind (fun (l:List ByteArray) (i:Int)=>0<=i/\i<=v.segments.length/\l=(v.segments.take i.toNat).map Seg.key) (fun _ (i:Int)=>(v.segments.length - i).toNat) ?_ ⟨Int.le_refl 0,by omega,by simp⟩
 rintro l i ⟨i0,i1,rfl⟩ _
 refine Cnd.mk (fun hc=>⟨by omega,fun y hy=>⟨by unfold Sml;simp;omega,by unfold InI;omega,⟨by omega,by omega,?_⟩,by omega⟩⟩) fun hc=> ?_
 ·rw[show (i+1).toNat=i.toNat+1 by omega,List.take_add_one,hy];simp
 ·rw[List.take_of_length_le (by omega)];exact h
def SplS(n:Int)(l:List Rng):Prop:=l.length<=4/\ ∀r∈l,0<=r.lo/\r.hi<=10000/\1<=r.variation/\r.variation<=n
structure SrvS(n:Int)(s:Srv):Prop where
 kind:s.kind.size<=100
 var:0<=s.variation/\s.variation<=n
 split:SplS n s.split
 by_:s.by_.size<=100
 salt:s.salt.size<=100
structure LayS(l:Lay_):Prop where
 key:l.key.size<=100
 kind:l.kind.size<=100
 salt:l.salt.size<=100
 hold:0<=l.holdout/\l.holdout<=10000
 cool:0<=l.cool/\l.cool<=100
theorem v4g{list:List Int}{at_:Int}{key:ByteArray}{K:Lay_->Int->Prop}(hD:DS list at_)(hk:key.size<=100)(h: ∀l a,LayS l->l.key=key->DS list a->K l a):j0s list at_ key K:=by
 unfold j0s j7y
 have tt: ∀s∈j0i,s.size<=100:=by decide
 refine z1d hD fun t a ht hD=>Qg hD (by decide) fun c a c0 c1 hD=>⟨by unfold InI;omega,?_⟩
 refine Jn2.mk (fun k a=>k.size<=100/\DS list a) (Qg hD (by decide) fun r a r0 r1 hD=>Cnd.mk (fun _=>⟨by decide,hD⟩) fun _=>⟨by decide,hD⟩) fun kind a hx=> ?_
 obtain⟨hkd,hD⟩:=hx
 refine Jn2.mk (fun x a=>DS list a/\0<=x/\x<=10000) (Qg hD (by decide) fun r a r0 r1 hD=>Cnd.mk (fun _=>q48 hD (by decide) fun w a w0 w1 hD=>⟨hD,by omega,by omega⟩) fun _=>⟨hD,by omega,by omega⟩) fun hold a hx=> ?_
 obtain⟨hD,x0,x1⟩:=hx
 have ok: ∀{cs:List Col},LayS (Lay_.mk key kind t hold (c*50) cs):=⟨hk,hkd,tt _ ht,⟨x0,x1⟩,⟨by simp only;omega,by simp only;omega⟩⟩
 refine Lp4.ind (fun at_ i cs a=>DS list a/\0<=i/\i<=2/\(cs.length:Int)=i/\0<=at_/\at_<=10000/\ ∀c∈cs,0<=c.lo/\c.hi<=10000/\0<=c.until_/\c.until_<=200) (fun _ i _ _=>(2 - i).toNat) ?_ ⟨hD,by omega,by omega,rfl,by omega,by omega,by simp⟩
 rintro at_ i cs a ⟨hD,i0,i1,hl,a0,a1,hc⟩
 refine Qg hD (by decide) fun q a q0 q1 hD=>Cnd.mk (fun _=>q48 hD (by decide) fun w a w0 w1 hD=>⟨by unfold InI;omega,by unfold InI;omega,q48 hD (by decide) fun w' a w0' w1' hD=>⟨by unfold InI;omega,Cnd.mk (fun _=>h _ _ ok rfl hD) fun _=> ?_⟩⟩) fun _=>h _ _ ok rfl hD
 refine Qg hD (by decide) fun u a u0 u1 hD=>⟨by unfold Sml;simp;omega,by unfold InI;omega,⟨hD,by omega,by omega,by simp;omega,by omega,by omega,Ju hc ⟨by simp only;omega,by simp only;omega,by simp only;omega,by simp only;omega⟩⟩,by omega⟩
structure SpsS(l:List Spn):Prop where
 len:l.length<=10000
 all: ∀s∈l,0<=s.lo/\s.lo<s.hi/\s.hi<=10000
structure RulS(n:Int)(r:Rul):Prop where
 name:r.name.size<=100
 cond:ExS 4 r.cond
 serve:SrvS n r.serve
structure FlgS(f:Flg):Prop where
 key:f.key.size<=100
 vlen:1<=f.variations.length/\f.variations.length<=4
 vals: ∀v∈f.variations,ValS v
 nlen:f.needs.length<=4
 needs: ∀q∈f.needs,q.flag.size<=100
 tlen:f.targets.length<=3
 tgts: ∀t∈f.targets,t.kind.size<=100
 rlen:f.rules.length<=4
 rules: ∀r∈f.rules,RulS f.variations.length r
 dflt:SrvS f.variations.length f.dflt
structure ExpS(x:Exper):Prop where
 key:x.key.size<=100
 layer:x.layer.size<=100
 flag:x.flag.size<=100
 claims:SpsS x.claims
 arms:SplS 4 x.arms
 cond:ExS 4 x.cond
structure EnvS(v:Envt):Prop where
 hkind:v.settings.holdoutKind.size<=100
 attrs: ∀d∈v.attributes,d.kind.size<=100/\d.name.size<=100
 slen:v.segments.length<=3
 segs: ∀g∈v.segments,SegS g
 flen:v.flags.length<=4
 flags: ∀f∈v.flags,FlgS f
 llen:v.layers.length<=2
 layers: ∀l∈v.layers,LayS l
 xlen:v.experiments.length<=3
 exps: ∀x∈v.experiments,ExpS x
end Go.En
end
noncomputable section
set_option maxRecDepth 100000
namespace Go.En
open Go Go.Fl Go.Fl.Lk Go.Fx
abbrev S4:=Int×Int×Int×Int
def w64(x:Int):Int:=Go.IntKind.u64.wrap x
def xr(a b:Int):Int:=Go.IntKind.u64.wrap ((BitVec.ofInt 64 a ^^^ BitVec.ofInt 64 b).toNat:Int)
def rot(x n:Int):Int:=Go.IntKind.u64.wrap ((BitVec.ofInt 64 (Go.IntKind.u64.wrap (x*2 ^ Min.min n.toNat 64))|||BitVec.ofInt 64 (x.fdiv (2 ^ Min.min (Go.IntKind.u64.wrap (64 - n)).toNat 64))).toNat:Int)
def rnd(s:S4):S4:=
  (w64 (rot (w64 (s.1+s.2.1)) 32+xr (rot s.2.2.2 16) (w64 (s.2.2.1+s.2.2.2))),
   xr (rot (xr (rot s.2.1 13) (w64 (s.1+s.2.1))) 17) (w64 (w64 (s.2.2.1+s.2.2.2)+xr (rot s.2.1 13) (w64 (s.1+s.2.1)))),
   rot (w64 (w64 (s.2.2.1+s.2.2.2)+xr (rot s.2.1 13) (w64 (s.1+s.2.1)))) 32,
   xr (rot (xr (rot s.2.2.2 16) (w64 (s.2.2.1+s.2.2.2))) 21) (w64 (rot (w64 (s.1+s.2.1)) 32+xr (rot s.2.2.2 16) (w64 (s.2.2.1+s.2.2.2)))))
def rn:Nat->S4->S4
  |0,s=>s
  |k+1,s=>rnd (rn k s)
def tm(y:Int)(k:Nat):BitVec 64:=BitVec.ofInt 64 (Go.IntKind.u64.wrap (Go.IntKind.u64.wrap y*2 ^ Min.min (8*k) 64))
def wv(b:List Int)(o:Nat)(v:BitVec 64):Nat->BitVec 64
  |0=>v
  |k+1=>wv b o v k|||tm (b.getD (o+k) 0) k
def s0(k0 k1:Int):S4:=(xr k0 8317987319222330741,xr k1 7237128888997146477,xr k0 7816392313619706465,xr k1 8387220255154660723)
def topV(n:Nat):BitVec 64:=BitVec.ofInt 64 (Go.IntKind.u64.wrap (Go.IntKind.u64.wrap (n:Int)*2 ^ Min.min (Int.toNat 56) 64))
def y1t(b:List Int):BitVec 64:=wv b (8*(b.length / 8)) 0 (b.length % 8)|||topV b.length
theorem j9f(x:Int):Go.IntKind.u64.wrap x=x % 18446744073709551616:=rfl
theorem y5z(x:Int):Go.IntKind.u64.wrap x=((BitVec.ofInt 64 (Go.IntKind.u64.wrap x)).toNat:Int):=by
  rw[BitVec.toNat_ofInt,j9f]
  omega
theorem j1v{n:Nat}(h:n<18446744073709551616):Go.IntKind.u64.wrap (n:Int)=n:=by
  show (n:Int) % 18446744073709551616=n
  omega
theorem v8a(v:BitVec 64):BitVec.ofInt 64 ((v.toNat:Nat):Int)=v:=by simp
theorem y1u(v t:BitVec 64):Go.IntKind.u64.wrap ((BitVec.ofInt 64 ((v.toNat:Nat):Int)|||t).toNat:Int)=((v|||t).toNat:Int):=by
  rw[v8a];exact j1v (v|||t).isLt
theorem j34{x k:Int}{K:Int->Prop}(hk:k=13∨k=16∨k=17∨k=21∨k=32)(h:K (rot x k)):Ga x k K:=by
  have e:Go.IntKind.u64.wrap (↑(BitVec.ofInt 64 (Go.IntKind.u64.wrap k) &&& BitVec.ofInt 64 63).toNat:Int)=k:=by rcases hk with rfl|rfl|rfl|rfl|rfl<;>decide
  have e2:0<=Go.IntKind.u64.wrap (64 - k):=by rcases hk with rfl|rfl|rfl|rfl|rfl<;>decide
  unfold Ga
  rw[e]
  exact⟨by omega,e2,h⟩
theorem z66{x k:Int}{K:Int->Prop}(hk:k=13∨k=16∨k=17∨k=21∨k=32)(h:K (rot x k)):z88 x k K:=by
  have e2:0<=Go.IntKind.u64.wrap (64 - k):=by rcases hk with rfl|rfl|rfl|rfl|rfl<;>decide
  unfold z88
  exact⟨by omega,e2,h⟩
theorem v8b(s:S4)(i:Int)(h:0<=i):rnd (rn i.toNat s)=rn (i+1).toNat s:=by
  rw[show (i+1).toNat=i.toNat+1 by omega];rfl
theorem v4h{a b c d n:Int}{q:Nat}{K:Int->Int->Int->Int->Prop}(hn:n=(q:Int))(h1:q<=1000)(h:K (rn q (a,b,c,d)).1 (rn q (a,b,c,d)).2.1 (rn q (a,b,c,d)).2.2.1 (rn q (a,b,c,d)).2.2.2):Zq a b c d n K:=by
  subst hn
  unfold Zq R7
  refine Lp5.ind (fun i a' b' c' d'=>0<=i/\i<=(q:Int)/\(a',b',c',d')=rn i.toNat (a,b,c,d)) (fun i _ _ _ _=>((q:Int) - i).toNat) ?_ ⟨Int.le_refl 0,by omega,rfl⟩
  rintro i a' b' c' d' ⟨i0,i1,hs⟩
  refine Cnd.mk (fun hc=>j34 (by simp) (j34 (by simp) (j34 (by simp) (j34 (by simp) (j34 (by simp) (j34 (by simp) ⟨by unfold InI;omega,⟨by omega,by omega,?_⟩,by omega⟩)))))) fun hc=> ?_
  · rw[←v8b _ _ i0,←hs];simp only[rnd,w64,xr]
  · rw[show q=i.toNat by omega,←hs] at h;exact h
theorem w7p{v:Sip}{n:Int}{q:Nat}{K:Sip->Prop}(hn:n=(q:Int))(h1:q<=1000)(h:K (Sip.mk (rn q (v.1,v.2,v.3,v.4)).1 (rn q (v.1,v.2,v.3,v.4)).2.1 (rn q (v.1,v.2,v.3,v.4)).2.2.1 (rn q (v.1,v.2,v.3,v.4)).2.2.2)):Jt v n K:=by
  subst hn
  unfold Jt z3m
  refine Lp5.ind (fun i a' b' c' d'=>0<=i/\i<=(q:Int)/\(a',b',c',d')=rn i.toNat (v.1,v.2,v.3,v.4)) (fun i _ _ _ _=>((q:Int) - i).toNat) ?_ ⟨Int.le_refl 0,by omega,rfl⟩
  rintro i a' b' c' d' ⟨i0,i1,hs⟩
  refine Cnd.mk (fun hc=>z66 (by simp) (z66 (by simp) (z66 (by simp) (z66 (by simp) (z66 (by simp) (z66 (by simp) ⟨by unfold InI;omega,⟨by omega,by omega,?_⟩,by omega⟩)))))) fun hc=> ?_
  · rw[←v8b _ _ i0,←hs];simp only[rnd,w64,xr]
  · rw[show q=i.toNat by omega,←hs] at h;exact h
theorem exR: ∃R:Nat->S4->S4,(∀(a b c d n:Int) (q:Nat) (K:Int->Int->Int->Int->Prop),n=(q:Int)->q<=1000->K (R q (a,b,c,d)).1 (R q (a,b,c,d)).2.1 (R q (a,b,c,d)).2.2.1 (R q (a,b,c,d)).2.2.2->Zq a b c d n K)/\
    ∀(v:Sip) (n:Int) (q:Nat) (K:Sip->Prop),n=(q:Int)->q<=1000->K (Sip.mk (R q (v.1,v.2,v.3,v.4)).1 (R q (v.1,v.2,v.3,v.4)).2.1 (R q (v.1,v.2,v.3,v.4)).2.2.1 (R q (v.1,v.2,v.3,v.4)).2.2.2)->Jt v n K:=
  ⟨rn,fun _ _ _ _ _ _ _ hn hq h=>v4h hn hq h,fun _ _ _ _ hn hq h=>w7p hn hq h⟩
def RR:Nat->S4->S4:=Classical.choose exR
theorem w7q{a b c d n:Int}{q:Nat}{K:Int->Int->Int->Int->Prop}(hn:n=(q:Int))(h1:q<=1000)(h:K (RR q (a,b,c,d)).1 (RR q (a,b,c,d)).2.1 (RR q (a,b,c,d)).2.2.1 (RR q (a,b,c,d)).2.2.2):Zq a b c d n K:=(Classical.choose_spec exR).1 a b c d n q K hn h1 h
theorem j9g{v:Sip}{n:Int}{q:Nat}{K:Sip->Prop}(hn:n=(q:Int))(h1:q<=1000)(h:K (Sip.mk (RR q (v.1,v.2,v.3,v.4)).1 (RR q (v.1,v.2,v.3,v.4)).2.1 (RR q (v.1,v.2,v.3,v.4)).2.2.1 (RR q (v.1,v.2,v.3,v.4)).2.2.2)):Jt v n K:=(Classical.choose_spec exR).2 v n q K hn h1 h
def wds(s:S4)(m:Int):S4:=(xr (RR 2 (s.1,s.2.1,s.2.2.1,xr s.2.2.2 m)).1 m,(RR 2 (s.1,s.2.1,s.2.2.1,xr s.2.2.2 m)).2)
def blks(b:List Int)(k0 k1:Int):Nat->S4
  |0=>s0 k0 k1
  |i+1=>wds (blks b k0 k1 i) ((wv b (8*i) 0 8).toNat:Int)
def fin4(s:S4):S4:=RR 4 (s.1,s.2.1,xr s.2.2.1 255,s.2.2.2)
def endV(s:S4):Int:=xr (xr (xr (fin4 s).1 (fin4 s).2.1) (fin4 s).2.2.1) (fin4 s).2.2.2
def sumV(k0 k1:Int)(b:List Int):Int:=
  endV (wds (blks b k0 k1 (b.length / 8)) ((y1t b).toNat:Int))
theorem v8c{a b c d m:Int}{K:Int->Int->Int->Int->Prop}(h:K (wds (a,b,c,d) m).1 (wds (a,b,c,d) m).2.1 (wds (a,b,c,d) m).2.2.1 (wds (a,b,c,d) m).2.2.2):Hc a b c d m K:=by
  unfold Hc q15
  simp only[wds,xr] at h
  exact w7q (q:=2) rfl (by decide) h
theorem y50{s:S4}{K:Int->Prop}(h:K (endV s)):Zq s.1 s.2.1 (Go.IntKind.u64.wrap (↑(BitVec.ofInt 64 s.2.2.1 ^^^ BitVec.ofInt 64 255).toNat:Int)) s.2.2.2 4 fun Zp z0m w2q w5l=>K (Go.IntKind.u64.wrap (↑(BitVec.ofInt 64 (Go.IntKind.u64.wrap (↑(BitVec.ofInt 64 (Go.IntKind.u64.wrap (↑(BitVec.ofInt 64 Zp ^^^ BitVec.ofInt 64 z0m).toNat:Int)) ^^^ BitVec.ofInt 64 w2q).toNat:Int)) ^^^ BitVec.ofInt 64 w5l).toNat:Int)):=by
  simp only[endV,fin4,xr] at h
  exact w7q (q:=4) rfl (by decide) h
theorem v8d{s:S4}{K:Int->Prop}(h:K (endV s)):Jt (Sip.mk s.1 s.2.1 (Go.IntKind.u64.wrap (↑(BitVec.ofInt 64 s.2.2.1 ^^^ BitVec.ofInt 64 255).toNat:Int)) s.2.2.2) 4 fun x=>K (Go.IntKind.u64.wrap (↑(BitVec.ofInt 64 (Go.IntKind.u64.wrap (↑(BitVec.ofInt 64 (Go.IntKind.u64.wrap (↑(BitVec.ofInt 64 x.1 ^^^ BitVec.ofInt 64 x.2).toNat:Int)) ^^^ BitVec.ofInt 64 x.3).toNat:Int)) ^^^ BitVec.ofInt 64 x.4).toNat:Int)):=by
  simp only[endV,fin4,xr] at h
  exact j9g (q:=4) rfl (by decide) h
theorem v8e{a b c d m:Int}{K:Sip->Prop}(h: ∀x:Sip,(Go.IntKind.u64.wrap (↑(BitVec.ofInt 64 x.1 ^^^ BitVec.ofInt 64 m).toNat:Int),x.2,x.3,x.4)=wds (a,b,c,d) m->K x):Jt (Sip.mk a b c (Go.IntKind.u64.wrap (↑(BitVec.ofInt 64 d ^^^ BitVec.ofInt 64 m).toNat:Int))) 2 K:=by
  refine j9g (q:=2) rfl (by decide) (h _ ?_)
  simp only[wds,xr]
theorem y8q(b:List Int)(o:Nat)(v:BitVec 64): ∀k,wv b o v k=wv b o 0 k|||v
  |0=>by simp[wv]
  |k+1=>by
    rw[wv,wv,y8q b o v k,BitVec.or_assoc,BitVec.or_comm v,←BitVec.or_assoc]
theorem w99{b:List Int}{o k:Nat}{v:BitVec 64}{y:Int}(hy:b[o+k]? =some y):wv b o v (k+1)=wv b o v k|||tm y k:=by
  rw[wv,List.getD_eq_getElem?_getD,hy];rfl
theorem y51(n:Nat):topV n=BitVec.ofInt 64 (Go.IntKind.u64.wrap (Go.IntKind.u64.wrap ((n:Int).tmod 256)*2 ^ Min.min (Int.toNat 56) 64)):=by
  have e:(2:Int) ^ Min.min (Int.toNat 56) 64=72057594037927936:=by decide
  have h2:Go.IntKind.u64.wrap (Go.IntKind.u64.wrap (n:Int)*72057594037927936)=Go.IntKind.u64.wrap (Go.IntKind.u64.wrap ((n:Int).tmod 256)*72057594037927936):=by
    rw[j9f,j9f,j9f,j9f,Int.tmod_eq_emod_of_nonneg (by omega)]
    omega
  unfold topV
  rw[e,h2]
theorem w4z{k0 k1:Int}{b:List Int}{K:Int->Prop}(hb:b.length<=1099511627776)(h:K (sumV k0 k1 b)):q9a k0 k1 b K:=by
  unfold q9a z4r
  refine fun _=>⟨by decide,?_⟩
  refine Lp5.ind (fun i a' b' c' d'=> ∃j:Nat,i=8*(j:Int)/\8*j<=b.length/\(a',b',c',d')=blks b k0 k1 j) (fun i _ _ _ _=>(b.length - i).toNat) ?_ ⟨0,rfl,by omega,rfl⟩
  rintro i a' b' c' d' ⟨j,rfl,hj,hs⟩
  refine⟨by unfold InI;omega,fun _=>Cnd.mk (fun hc=> ?_) fun hc=> ?_⟩
  · refine Lp2.ind (fun v k=> ∃q:Nat,k=(q:Int)/\q<=8/\v=((wv b (8*j) 0 q).toNat:Int)) (fun _ k=>(8 - k).toNat) ?_ ⟨0,rfl,by omega,rfl⟩
    rintro v k ⟨q,rfl,hq,rfl⟩
    refine Cnd.mk (fun hk=>⟨by unfold InI;omega,⟨by omega,by omega⟩,fun y hy=>⟨by unfold InI;omega,by omega,by unfold InI;omega,⟨q+1,by omega,by omega,?_⟩,by omega⟩⟩) fun hk=> ?_
    · rw[show (8*(j:Int)+q).toNat=8*j+q by omega] at hy
      rw[w99 hy,show (8*(q:Int)).toNat=8*q by omega]
      exact y1u _ _
    · refine v8c ⟨by unfold InI;omega,⟨j+1,by omega,by omega,?_⟩,by omega⟩
      rw[hs,show q=8 by omega];rfl
  · refine fun _=>⟨by decide,?_⟩
    have hjl:j=b.length / 8:=by omega
    have hm:((b.length:Nat):Int).tmod 8=((b.length % 8:Nat):Int):=by rw[Int.tmod_eq_emod_of_nonneg (by omega)];omega
    rw[hm]
    refine Lp2.ind (fun v k=> ∃q:Nat,k=(q:Int)/\q<=b.length % 8/\v=((wv b (8*j) (topV b.length) q).toNat:Int)) (fun _ k=>(8 - k).toNat) ?_ ⟨0,rfl,by omega,by unfold wv topV;exact y5z _⟩
    rintro v k ⟨q,rfl,hq,rfl⟩
    refine Cnd.mk (fun hk _ _=>⟨by decide,by unfold InI;omega,by unfold InI;omega,⟨by omega,by omega⟩,fun y hy=>⟨by unfold InI;omega,by omega,by unfold InI;omega,⟨q+1,by omega,by omega,?_⟩,by omega⟩⟩) fun hk=> ?_
    · rw[show ((b.length:Int) - ((b.length % 8:Nat):Int)+q).toNat=8*j+q by omega] at hy
      rw[w99 hy,show (8*(q:Int)).toNat=8*q by omega]
      exact y1u _ _
    · refine v8c (y50 (s:=wds (a',b',c',d') _) ?_)
      rw[hs,show q=b.length % 8 by omega,y8q,hjl]
      exact h
theorem v8f{k0 k1:Int}{b:List Int}{K:Int->Prop}(hb:b.length<=1099511627776)(h:K (sumV k0 k1 b)):w3t k0 k1 b K:=by
  unfold w3t v1y
  have hd:((b.length:Nat):Int).tdiv 8=((b.length / 8:Nat):Int):=by rw[Int.tdiv_eq_ediv_of_nonneg (by omega)];omega
  rw[hd]
  refine Lp5.ind (fun i a' b' c' d'=> ∃j:Nat,i=(j:Int)/\j<=b.length / 8+1/\(j<=b.length / 8->(a',b',c',d')=blks b k0 k1 j)/\(j=b.length / 8+1->(a',b',c',d')=wds (blks b k0 k1 (b.length / 8)) ((y1t b).toNat:Int))) (fun i _ _ _ _=>(b.length / 8+1 - i).toNat) ?_ ⟨0,rfl,by omega,fun _=>rfl,fun h=>by omega⟩
  rintro i a' b' c' d' ⟨j,rfl,hj,hs,hf⟩
  refine fun _=>⟨by decide,by unfold InI;omega,Cnd.mk (fun hc=> ?_) fun hc=> ?_⟩
  · have hs:=hs (by omega)
    have done: ∀q:Nat,(q=8∨q=b.length % 8/\j=b.length / 8)->q<=8->(j<b.length / 8->q=8)->(j=b.length / 8->q=b.length % 8)->Jn1 (fun Qe=>Jt (Sip.mk a' b' c' (Go.IntKind.u64.wrap (↑(BitVec.ofInt 64 d' ^^^ BitVec.ofInt 64 Qe).toNat:Int))) 2 fun Ql=>InI ((j:Int)+1)/\(∃j':Nat,(j:Int)+1=(j':Int)/\j'<=b.length / 8+1/\(j'<=b.length / 8->(Go.IntKind.u64.wrap (↑(BitVec.ofInt 64 Ql.1 ^^^ BitVec.ofInt 64 Qe).toNat:Int),Ql.2,Ql.3,Ql.4)=blks b k0 k1 j')/\(j'=b.length / 8+1->(Go.IntKind.u64.wrap (↑(BitVec.ofInt 64 Ql.1 ^^^ BitVec.ofInt 64 Qe).toNat:Int),Ql.2,Ql.3,Ql.4)=wds (blks b k0 k1 (b.length / 8)) ((y1t b).toNat:Int)))/\((b.length / 8:Nat)+1 - ((j:Int)+1)).toNat<((b.length / 8:Nat)+1 - (j:Int)).toNat) fun v49=>b.length<=(9223372036854775807:Nat)->(8:Int)≠0/\InI ((b.length / 8:Nat):Int)/\Cnd ((j:Int)=((b.length / 8:Nat):Int)) (b.length<=(9223372036854775807:Nat)->(256:Int)≠0/\(0:Int)<=56/\v49 (Go.IntKind.u64.wrap (↑(BitVec.ofInt 64 ((wv b (8*j) 0 q).toNat:Int)|||BitVec.ofInt 64 (Go.IntKind.u64.wrap (Go.IntKind.u64.wrap ((b.length:Int).tmod 256)*2 ^ Min.min (Int.toNat 56) 64))).toNat:Int))) (v49 ((wv b (8*j) 0 q).toNat:Int)):=fun q _ hq h1 h2=>by
      refine Jn1.mk (fun x=>(j<b.length / 8->x=((wv b (8*j) 0 8).toNat:Int))/\(j=b.length / 8->x=((y1t b).toNat:Int))) (fun _=>⟨by decide,by unfold InI;omega,Cnd.mk (fun he=>fun _=>⟨by decide,by decide,fun _=>by omega,fun hjl=> ?_⟩) fun hne=>⟨fun hl=>by rw[h1 hl],fun he=>by omega⟩⟩) fun x hx=>v8e fun s hsw=>⟨by unfold InI;omega,⟨j+1,by omega,by omega,fun hl=> ?_,fun he=> ?_⟩,by omega⟩
      · rw[←y51,y1u,h2 hjl,hjl];rfl
      · rw[hsw,hx.1 (by omega),blks,←hs]
      · rw[hsw,hx.2 (by omega),←show j=b.length / 8 by omega,←hs]
    refine Lp2.ind (fun v k=> ∃q:Nat,k=(q:Int)/\q<=8/\(j=b.length / 8->q<=b.length % 8)/\v=((wv b (8*j) 0 q).toNat:Int)) (fun _ k=>(8 - k).toNat) ?_ ⟨0,rfl,by omega,fun _=>by omega,rfl⟩
    rintro v k ⟨q,rfl,hq,hq2,rfl⟩
    refine Cnd.mk (fun hk=>⟨by unfold InI;omega,by unfold InI;omega,fun _=>Cnd.mk (fun hl=>⟨by unfold InI;omega,by unfold InI;omega,⟨by omega,by omega⟩,fun y hy=>⟨by unfold InI;omega,?_,by unfold InI;omega,⟨q+1,by omega,by omega,fun _=>by omega,?_⟩,by omega⟩⟩) fun hl=> ?_⟩) fun hk=> ?_
    · rw[show 8*(q:Int)=((8*q:Nat):Int) by omega,j1v (by omega)];omega
    · rw[show (8*(j:Int)+q).toNat=8*j+q by omega] at hy
      rw[w99 hy,show 8*(q:Int)=((8*q:Nat):Int) by omega,j1v (n:=8*q) (by omega),Int.toNat_natCast]
      exact y1u _ _
    · exact done q (by omega) hq (fun h=>by omega) (fun h=>by omega)
    · exact done q (by omega) hq (fun h=>by omega) (fun h=>by omega)
  · have hf:=hf (by omega)
    unfold sumV at h
    rw[←hf] at h
    exact v8d (s:=(a',b',c',d')) h
def fb(n k:Nat):Int:=Go.IntKind.u8.wrap ((Go.IntKind.u64.wrap (n:Int)).fdiv (2 ^ Min.min (8*k) 64))
def hdr(n:Nat)(j:Nat):List Int:=(List.range j).map fun i=>fb n (7 - i)
def frm(l:List (List Int)):List Int:=l.flatMap fun f=>hdr f.length 8++f
theorem v2c(n j:Nat):hdr n (j+1)=hdr n j++[fb n (7 - j)]:=by simp[hdr,List.range_succ]
theorem z9w(n j:Nat):(hdr n j).length=j:=by simp[hdr]
theorem j6r{l:List (List Int)}{i:Nat}{y:List Int}(hy:l[i]? =some y):frm (l.take (i+1))=frm (l.take i)++(hdr y.length 8++y):=by
  rw[List.take_add_one,hy];simp[frm]
theorem j9h(l:List (List Int))(i:Nat):(frm (l.take i)).length<=(frm l).length:=by
  have h:frm l=frm (l.take i)++frm (l.drop i):=by
    conv=>lhs;rw[←List.take_append_drop i l]
    exact List.flatMap_append
  rw[h,List.length_append];omega
theorem j9i{l:List (List Int)}{K:List Int->Prop}(hl:(frm l).length<=1000000000)(hn:l.length<=1000)(h:K (frm l)):q39 l K:=by
  unfold q39
  refine fun _=>Lp2.ind (fun o i=> ∃j:Nat,i=(j:Int)/\j<=l.length/\o=frm (l.take j)) (fun _ i=>(l.length - i).toNat) ?_ ⟨0,rfl,by omega,rfl⟩
  rintro o i ⟨j,rfl,hj,rfl⟩
  refine Cnd.mk (fun hc=>⟨by omega,fun y hy=> ?_⟩) fun hc=> ?_
  · have hy:l[j]? =some y:=hy
    have hln:=j9h l (j+1)
    rw[j6r hy] at hln
    simp only[List.length_append,z9w] at hln
    refine Lp2.ind (fun o k=> ∃q:Nat,k=7 - (q:Int)/\q<=8/\o=frm (l.take j)++hdr y.length q) (fun _ k=>(k+1).toNat) ?_ ⟨0,rfl,by omega,by simp[hdr]⟩
    rintro o k ⟨q,rfl,hq,rfl⟩
    refine Cnd.mk (fun hk _=>⟨by unfold InI;omega,by omega,?_,by unfold InI;omega,⟨q+1,by omega,by omega,?_⟩,by omega⟩) fun hk=>⟨?_,by unfold InI;omega,⟨j+1,by omega,by omega,?_⟩,by omega⟩
    · unfold Sml;simp only[List.length_append,z9w,List.length_singleton];omega
    · rw[v2c,←List.append_assoc,show (8*(7 - (q:Int))).toNat=8*(7 - q) by omega];rfl
    · unfold Sml;simp only[List.length_append,z9w];omega
    · rw[j6r hy,show q=8 by omega,List.append_assoc]
  · rw[show j=l.length by omega,List.take_length];exact h
theorem v0a{l:List (List Int)}{K:List Int->Prop}(hl:(frm l).length<=1000000000)(hn:l.length<=1000)(h:K (frm l)):j29 l K:=by
  unfold j29
  refine Lp2.ind (fun o i=> ∃j:Nat,i=(j:Int)/\j<=l.length/\o=frm (l.take j)) (fun _ i=>(l.length - i).toNat) ?_ ⟨0,rfl,by omega,rfl⟩
  rintro o i ⟨j,rfl,hj,rfl⟩
  refine fun _=>Cnd.mk (fun hc=>⟨by omega,fun y hy _=> ?_⟩) fun hc=> ?_
  · have hy:l[j]? =some y:=hy
    have hln:=j9h l (j+1)
    rw[j6r hy] at hln
    simp only[List.length_append,z9w] at hln
    refine Lp2.ind (fun o k=> ∃q:Nat,k=56 - 8*(q:Int)/\q<=8/\o=frm (l.take j)++hdr y.length q) (fun _ k=>(k+8).toNat) ?_ ⟨0,rfl,by omega,by simp[hdr]⟩
    rintro o k ⟨q,rfl,hq,rfl⟩
    refine Cnd.mk (fun hk=> ?_) fun hk=>⟨by omega,fun z hz=> ?_⟩
    · have e:56 - 8*(q:Int)=((8*(7 - q):Nat):Int):=by omega
      rw[e,j1v (by omega)]
      refine⟨by omega,?_,by unfold InI;omega,⟨q+1,by omega,by omega,?_⟩,by omega⟩
      · unfold Sml;simp only[List.length_append,z9w,List.length_singleton];omega
      · rw[v2c,←List.append_assoc,Int.toNat_natCast];rfl
    · have hz:l[j]? =some z:=hz
      rw[hy] at hz
      cases hz
      refine⟨?_,by unfold InI;omega,⟨j+1,by omega,by omega,?_⟩,by omega⟩
      · unfold Sml;simp only[List.length_append,z9w];omega
      · rw[j6r hy,show q=8 by omega,List.append_assoc]
  · rw[show j=l.length by omega,List.take_length];exact h
theorem v8g(a b:Int):0<=xr a b/\xr a b<18446744073709551616:=by
  unfold xr
  rw[j1v (BitVec.isLt _)]
  have:=(BitVec.ofInt 64 a ^^^ BitVec.ofInt 64 b).isLt
  omega
def ofV0(salt key:ByteArray):Int:=(sumV 1 0 (frm [bytesOf salt,bytesOf key])).tmod 10000
theorem w40(salt key:ByteArray):0<=ofV0 salt key/\ofV0 salt key<10000:=by
  have h: ∀s,0<=endV s:=fun s=>(v8g _ _).1
  have h0:0<=sumV 1 0 (frm [bytesOf salt,bytesOf key]):=h _
  exact⟨Int.tmod_nonneg _ h0,Int.tmod_lt_of_pos _ (by decide)⟩
theorem v2d(a b:ByteArray):(frm [bytesOf a,bytesOf b]).length=a.size+b.size+16:=by
  have h: ∀a:ByteArray,(bytesOf a).length=a.size:=fun a=>by simp[bytesOf]
  simp only[frm,List.flatMap_cons,List.flatMap_nil,List.length_append,z9w,h,List.length_nil]
  omega
theorem w41{salt key:ByteArray}{K:Int->Prop}(hs:salt.size<=10000000)(hk:key.size<=10000000)(h:K (ofV0 salt key)):Gb salt key K:=by
  have hl:=v2d salt key
  have hr:=w40 salt key
  unfold Gb z82
  refine⟨by unfold Sml;omega,by unfold Sml;omega,?_⟩
  show q6d 1 [bytesOf salt,bytesOf key] _
  unfold q6d z2a
  refine j9i (by omega) (by simp) (w4z (by omega) ⟨by decide,?_,h⟩)
  exact InI.mk (Int.le_trans (by decide) hr.1) (Int.le_trans (Int.le_of_lt hr.2) (by decide))
theorem v4i{salt key:ByteArray}{K:Int->Prop}(hs:salt.size<=10000000)(hk:key.size<=10000000)(h:K (ofV0 salt key)):w3u salt key K:=by
  have hl:=v2d salt key
  have hr:=w40 salt key
  unfold w3u v10
  refine⟨by unfold Sml;omega,by unfold Sml;omega,?_⟩
  show j78 1 [bytesOf salt,bytesOf key] _
  unfold j78 w6t
  refine v0a (by omega) (by simp) (v8f (by omega) ⟨by decide,?_,h⟩)
  exact InI.mk (Int.le_trans (by decide) hr.1) (Int.le_trans (Int.le_of_lt hr.2) (by decide))
theorem exOf: ∃F:ByteArray->ByteArray->Int,(∀a b,0<=F a b/\F a b<10000)/\(∀(salt key:ByteArray) (K:Int->Prop),salt.size<=10000000->key.size<=10000000->K (F salt key)->Gb salt key K)/\
    ∀(salt key:ByteArray) (K:Int->Prop),salt.size<=10000000->key.size<=10000000->K (F salt key)->w3u salt key K:=
  ⟨ofV0,w40,fun _ _ _ h1 h2 h=>w41 h1 h2 h,fun _ _ _ h1 h2 h=>v4i h1 h2 h⟩
def ofV:ByteArray->ByteArray->Int:=Classical.choose exOf
theorem q49{salt key:ByteArray}{K:Int->Prop}(hs:salt.size<=10000000)(hk:key.size<=10000000)(h:K (ofV salt key)):Gb salt key K:=(Classical.choose_spec exOf).2.1 salt key K hs hk h
end Go.En
end
noncomputable section
set_option maxRecDepth 100000
namespace Go.En
open Go Go.Fl Go.Fl.Lk Go.Fx
theorem w2i{α:Type}{a b:List α}(hl:a.length=b.length){F:α->α->(Bool->Prop)->Prop}{K:Bool->Prop}(hF: ∀x∈a,∀y∈b,∀K:Bool->Prop,(∀r,(r=true↔x=y)->K r)->F x y K)(h: ∀r,(r=true↔a=b)->K r):
  Lp1 (fun i Y=>a.length<=9223372036854775807->Cnd (i<(a.length:Int)) ((0<=i/\i<(a.length:Int))/\ ∀x,a[i.toNat]? =some x->(0<=i/\i<(b.length:Int))/\ ∀y,b[i.toNat]? =some y->F x y fun r=>Cnd (r=true) (InI (i+1)/\Y (i+1)) (K false)) (K true)) 0:=by
 refine Lp1.ind (fun (i:Int)=>0<=i/\i<=a.length/\a.take i.toNat=b.take i.toNat) (fun (i:Int)=>(a.length - i).toNat) ?_ ⟨by omega,by omega,by simp⟩
 rintro i ⟨i0,i1,he⟩ _
 refine Cnd.mk (fun hc=>⟨by omega,fun x hx=>⟨by omega,fun y hy=>hF x (getm hx) y (getm hy) _ fun r hr=>Cnd.mk (fun hc=>⟨by unfold InI;omega,⟨by omega,by omega,?_⟩,by omega⟩) fun hc=>h _ ⟨fun h=>(by cases h),fun h=> ?_⟩⟩⟩) fun hc=>h _ ⟨fun _=> ?_,fun _=>rfl⟩
 ·rw[show (i+1).toNat=i.toNat+1 by omega,List.take_add_one,List.take_add_one,he,hx,hy,hr.1 hc]
 ·subst h;rw[hx] at hy;exact absurd (hr.2 (by cases hy;rfl)) hc
 ·rwa [List.take_of_length_le (by omega),List.take_of_length_le (by omega)] at he
theorem v4j{a b:List ByteArray}{K:Bool->Prop}(h: ∀r,(r=true↔a=b)->K r):j0q a b K:=by
 unfold j0q
 intro ha hb
 refine Cnd.mk (fun hl=> ?_) fun hl=>h _ ⟨fun h=>(by cases h),fun e=>by rw[e] at hl;exact absurd rfl hl⟩
 refine Lp1.ind (fun (i:Int)=>0<=i/\i<=a.length/\a.take i.toNat=b.take i.toNat) (fun (i:Int)=>(a.length - i).toNat) ?_ ⟨by omega,by omega,by simp⟩
 rintro i ⟨i0,i1,he⟩ _
 refine Cnd.mk (fun hc=>⟨by omega,fun x hx=>⟨by omega,fun y hy=>Cnd.mk (fun hc=>⟨by unfold InI;omega,⟨by omega,by omega,?_⟩,by omega⟩) fun hc=>h _ ⟨fun h=>(by cases h),fun h=> ?_⟩⟩⟩) fun hc=>h _ ⟨fun _=> ?_,fun _=>rfl⟩
 ·rw[show (i+1).toNat=i.toNat+1 by omega,List.take_add_one,List.take_add_one,he,hx,hy,hc]
 ·subst h;rw[hx] at hy;cases hy;exact absurd rfl hc
 ·rwa [List.take_of_length_le (by omega),List.take_of_length_le (by omega)] at he
theorem z5q{l:List ByteArray}{s:ByteArray}{K:Bool->Prop}(h: ∀r,(r=true↔s∈l)->K r):q34 l s K:=by
 unfold q34
 refine Lp1.ind (fun (i:Int)=>0<=i/\i<=l.length/\s∉l.take i.toNat) (fun (i:Int)=>(l.length - i).toNat) ?_ ⟨by omega,by omega,by simp⟩
 rintro i ⟨i0,i1,he⟩ _
 refine Cnd.mk (fun hc=>⟨by omega,fun x hx=>Cnd.mk (fun e=>h _ ⟨fun _=>e▸getm hx,fun _=>rfl⟩) fun e=>⟨by unfold InI;omega,⟨by omega,by omega,?_⟩,by omega⟩⟩) fun hc=>h _ ⟨fun h=>(by cases h),fun hm=> ?_⟩
 ·rw[show (i+1).toNat=i.toNat+1 by omega,List.take_add_one,hx];simp[he,Ne.symm e]
 ·rw[List.take_of_length_le (by omega)] at he;exact absurd hm he
theorem z22{a b:Val}{K:Bool->Prop}(h: ∀r,(r=true↔a=b)->K r):q28 a b K:=by
 unfold q28 j21
 have no:(a≠b)->K false:=fun hn=>h _ ⟨fun h=>(by cases h),fun e=>absurd e hn⟩
 refine Cnd.mk (fun h1=>Cnd.mk (fun h2=>Cnd.mk (fun h3=>v4j fun r hr=>h r (hr.trans ⟨fun h4=> ?_,fun e=>by rw[e]⟩)) fun h=>no fun e=>h (by rw[e])) fun h=>no fun e=>h (by rw[e])) fun h=>no fun e=>h (by rw[e])
 cases a;cases b;simp_all
theorem j5w{a b:List Val}{K:Bool->Prop}(h: ∀r,(r=true↔a=b)->K r):Ue a b K:=by
 unfold Ue q7l
 intro ha hb
 exact Cnd.mk (fun hl=>w2i (by omega) (fun x _ y _ K hK=>z22 hK) h) fun hl=>h _ ⟨fun h=>(by cases h),fun e=>by rw[e] at hl;exact absurd rfl hl⟩
theorem Ji{e:Ex}:Ex.mk e.op e.kind e.name e.values e.kids=e:=by cases e;rfl
theorem w0w: ∀(n:Nat) {a b:Ex} {K:Bool->Prop},ExS n a->(∀r,(r=true↔a=b)->K r)->q1a a b K:=by
 intro n a b K ha h X hX
 induction n using Nat.strongRecOn generalizing a b K with
 |_ n ih=>
 refine hX _ _ _ ?_
 unfold z1q
 have no:(a≠b)->K false:=fun hn=>h _ ⟨fun h=>(by cases h),fun e=>absurd e hn⟩
 refine Cnd.mk (fun h1=>Cnd.mk (fun h2=>Cnd.mk (fun h3=>j5w fun r hr=>Cnd.mk (fun hc _ _=>Cnd.mk (fun hl=> ?_) fun h=>no fun e=>h (by rw[e])) fun hc=>no fun e=>hc (hr.2 (by rw[e]))) fun h=>no fun e=>h (by rw[e])) fun h=>no fun e=>h (by rw[e])) fun h=>no fun e=>h (by rw[e])
 have h4:=hr.1 hc
 refine w2i (by omega) (fun x hx y _ K hK=> ?_) fun r hr=>h r (hr.trans ⟨fun h5=> ?_,fun e=>by rw[e]⟩)
 ·obtain⟨m,hm,hk⟩:=ha.kid hx
  rw[Ji,Ji]
  exact ih m (by omega) hk hK
 ·cases a;cases b;simp_all
theorem j9j(n:Nat){a b:Ex}{K:Bool->Prop}(ha:ExS n a)(h: ∀r,(r=true↔a=b)->K r):q1a (Ex.mk a.1 a.2 a.3 a.4 a.5) (Ex.mk b.1 b.2 b.3 b.4 b.5) K:=by
 rw[Ji,Ji];exact w0w n ha h
theorem j4u{n:Nat}{l:List Ex}{e:Ex}{K:Int->Prop}(hl: ∀x∈l,ExS n x)(h: ∀r:Int,(r= -1/\e∉l)∨(0<=r/\l[r.toNat]? =some e/\e∉l.take r.toNat)->K r):V2 l e K:=by
 unfold V2 z8o
 refine Lp1.ind (fun (i:Int)=>0<=i/\i<=l.length/\e∉l.take i.toNat) (fun (i:Int)=>(l.length - i).toNat) ?_ ⟨by omega,by omega,by simp⟩
 rintro i ⟨i0,i1,he⟩ _
 refine Cnd.mk (fun hc=>⟨by omega,fun x hx=>j9j n (hl x (getm hx)) fun r hr=>Cnd.mk (fun hc=>h _ (.inr ⟨i0,by rw[hx,hr.1 hc],he⟩)) fun hc=>⟨by unfold InI;omega,⟨by omega,by omega,?_⟩,by omega⟩⟩) fun hc=>h _ (.inl ⟨rfl,?_⟩)
 ·rw[show (i+1).toNat=i.toNat+1 by omega,List.take_add_one,hx]
  have:e≠x:=fun e=>hc (hr.2 e.symm)
  simp[he,this]
 ·rwa [List.take_of_length_le (by omega)] at he
theorem q02{op:Int}{K:Bool->Prop}(h: ∀r,(r=true↔6<=op/\op<=15)->K r):Jw op K:=by
 unfold Jw
 exact Cnd.mk (fun h6=>h _ ⟨fun a=>⟨h6,of_decide_eq_true a⟩,fun a=>decide_eq_true a.2⟩) fun h6=>h _ ⟨fun a=>(by cases a),fun a=>absurd a.1 h6⟩
theorem v0b{now:Int}{K:Bool->Prop}(h: ∀r,(r=true↔0<=now/\now<=1099511627776)->K r):z6l now K:=by
 unfold z6l
 exact Cnd.mk (fun h6=>h _ ⟨fun a=>⟨h6,of_decide_eq_true a⟩,fun a=>decide_eq_true a.2⟩) fun h6=>h _ ⟨fun a=>(by cases a),fun a=>absurd a.1 h6⟩
theorem w7r{α:Type}{l:List α}{f:α->ByteArray}{key:ByteArray}{K:Int->Prop}(h: ∀r:Int,(r= -1/\ ∀x∈l,f x≠key)∨(0<=r/\r<l.length/\(∃x,l[r.toNat]? =some x/\f x=key)/\ ∀x∈l.take r.toNat,f x≠key)->K r):
  Lp1 (fun i Y=>l.length<=9223372036854775807->Cnd (i<(l.length:Int)) ((0<=i/\i<(l.length:Int))/\ ∀y,l[i.toNat]? =some y->Cnd (f y=key) (K i) (InI (i+1)/\Y (i+1))) (K (-1))) 0:=by
 refine Lp1.ind (fun (i:Int)=>0<=i/\i<=l.length/\ ∀x∈l.take i.toNat,f x≠key) (fun (i:Int)=>(l.length - i).toNat) ?_ ⟨by omega,by omega,by simp⟩
 rintro i ⟨i0,i1,he⟩ _
 refine Cnd.mk (fun hc=>⟨by omega,fun x hx=>Cnd.mk (fun e=>h _ (.inr ⟨i0,hc,⟨x,hx,e⟩,he⟩)) fun e=>⟨by unfold InI;omega,⟨by omega,by omega,?_⟩,by omega⟩⟩) fun hc=>h _ (.inl ⟨rfl,?_⟩)
 ·rw[show (i+1).toNat=i.toNat+1 by omega,List.take_add_one,hx]
  exact Ju he e
 ·rwa [List.take_of_length_le (by omega)] at he
def PlcS{α:Type}(l:List α)(f:α->ByteArray)(key:ByteArray)(r:Int):Prop:=(r= -1/\ ∀x∈l,f x≠key)∨(0<=r/\r<l.length/\(∃x,l[r.toNat]? =some x/\f x=key)/\ ∀x∈l.take r.toNat,f x≠key)
theorem z0i{v:Envt}{key:ByteArray}{K:Int->Prop}(h: ∀r,PlcS v.layers Lay_.key key r->K r):q1d v key K:=w7r h
theorem j1w{v:Envt}{key:ByteArray}{K:Int->Prop}(h: ∀r,PlcS v.flags Flg.key key r->K r):q86 v key K:=w7r h
theorem q3v{l:List Spn}{K:List Bool->Prop}(h: ∀b:List Bool,b.length=10000->K b):q7p l K:=by
 unfold q7p
 refine⟨⟨by decide,Int.le_refl _,by unfold Sml;decide⟩,Lp2.ind (fun (i:Int) (b:List Bool)=>0<=i/\i<=l.length/\b.length=10000) (fun (i:Int) _=>(l.length - i).toNat) ?_ ⟨by omega,by omega,by rw[List.length_replicate];decide⟩⟩
 rintro i b ⟨i0,i1,hb⟩ _
 refine Cnd.mk (fun hc=>⟨by omega,fun y hy=> ?_⟩) fun _=>h b hb
 refine Lp2.ind (fun (j:Int) (b:List Bool)=>0<=j/\b.length=10000) (fun (j:Int) _=>(10000 - j).toNat) ?_ ⟨by omega,hb⟩
 rintro j b ⟨j0,hb⟩
 refine⟨by omega,fun z hz=>Cnd.mk (fun hc=>⟨by omega,fun u hu=>⟨by unfold InI;omega,⟨by omega,by simpa using hb⟩,by omega⟩⟩) fun _=>⟨by unfold InI;omega,⟨by omega,by omega,hb⟩,by omega⟩⟩
theorem q5a{b:List Bool}{K:List Spn->Prop}(hb:b.length<=10000)(h: ∀l,SpsS l->K l):Ho b K:=by
 unfold Ho
 refine Lp2.ind (fun (l:List Spn) (i:Int)=>0<=i/\i<=b.length/\l.length<=i/\(∀s∈l,0<=s.lo/\s.lo<s.hi/\s.hi<=i)/\(0<i->b[(i - 1).toNat]? =some true->l≠[])) (fun _ (i:Int)=>(b.length - i).toNat) ?_ ⟨by omega,by omega,by simp,by simp,by omega⟩
 rintro l i ⟨i0,i1,hl,hs,hn⟩ _
 refine Cnd.mk (fun hc=>⟨by omega,fun y hy=>Cnd.mk (fun ht=> ?_) fun hf=> ?_⟩) fun _=>h l ⟨by omega,fun s hm=>by have:=hs s hm;omega⟩
 ·have snoc:InI (i+1)/\Sml (l++[Spn.mk i (i+1)]).length/\InI (i+1)/\((0<=i+1/\i+1<=b.length/\((l++[Spn.mk i (i+1)]).length:Int)<=i+1/\(∀s∈l++[Spn.mk i (i+1)],0<=s.lo/\s.lo<s.hi/\s.hi<=i+1)/\(0<i+1->b[(i+1 - 1).toNat]? =some true->l++[Spn.mk i (i+1)]≠[]))/\(b.length - (i+1)).toNat<(b.length - i).toNat):=
   ⟨by unfold InI;omega,by unfold Sml;simp;omega,by unfold InI;omega,⟨by omega,by omega,by simp;omega,Ju (fun s hm=>by have:=hs s hm;omega) ⟨i0,by simp only;omega,by simp⟩,fun _ _=>by simp⟩,by omega⟩
  refine Cnd.mk (fun hp=>⟨by unfold InI;omega,by omega,fun z hz=>Cnd.mk (fun hz1=> ?_) fun _=>snoc⟩) fun _=>snoc
  have hne:=hn hp (by rw[hz,hz1])
  have hpos:0<l.length:=List.length_pos_iff.2 hne
  refine fun _=>⟨by unfold InI;omega,by unfold InI;omega,by omega,fun u hu=>⟨by unfold InI;omega,⟨by omega,by omega,by simp;omega,fun s hm=> ?_,fun _ _ hx=> ?_⟩,by omega⟩⟩
  ·have:=hs u (getm hu)
   rcases List.mem_or_eq_of_mem_set hm with hm|rfl
   ·have:=hs s hm;omega
   ·exact⟨this.1,by simp only;omega,by simp⟩
  ·exact hne (by rw[←List.length_eq_zero_iff] at hx⊢;simpa using hx)
 ·refine⟨by unfold InI;omega,⟨by omega,by omega,by omega,fun s hm=>by have:=hs s hm;omega,fun _ hx=> ?_⟩,by omega⟩
  rw[show (i+1 - 1).toNat=i.toNat by omega,hy] at hx
  cases hx;exact absurd rfl hf
theorem z3s{l:List Col}{now:Int}{K:List Int->Prop}(h: ∀b:List Int,b.length=10000->K b):q1f l now K:=by
 unfold q1f
 refine⟨⟨by decide,Int.le_refl _,by unfold Sml;decide⟩,Lp2.ind (fun (i:Int) (b:List Int)=>0<=i/\i<=10000/\b.length=10000) (fun (i:Int) _=>(10000 - i).toNat) ?_ ⟨by omega,by omega,by rw[List.length_replicate];decide⟩⟩
 rintro i b ⟨i0,i1,hb⟩ _
 refine Cnd.mk (fun hc=>⟨by omega,fun y hy=>⟨by unfold InI;omega,⟨by omega,by omega,by simpa using hb⟩,by omega⟩⟩) fun _=> ?_
 refine Lp2.ind (fun (i:Int) (b:List Int)=>0<=i/\i<=l.length/\b.length=10000) (fun (i:Int) _=>(l.length - i).toNat) ?_ ⟨by omega,by omega,hb⟩
 rintro i b ⟨i0,i1,hb⟩ _
 refine Cnd.mk (fun hc=>⟨by omega,fun y hy=> ?_⟩) fun _=>h b hb
 refine Lp2.ind (fun (j:Int) (b:List Int)=>0<=j/\b.length=10000) (fun (j:Int) _=>(10000 - j).toNat) ?_ ⟨by omega,hb⟩
 rintro j b ⟨j0,hb⟩
 refine⟨by omega,fun z hz=>Cnd.mk (fun hc=>⟨by omega,fun u hu=>⟨by omega,fun w hw=>⟨by omega,fun x hx=>⟨by unfold InI;omega,⟨by omega,by simpa using hb⟩,by omega⟩⟩⟩⟩) fun _=>⟨by unfold InI;omega,⟨by omega,by omega,hb⟩,by omega⟩⟩
theorem z5r{u:List Int}{now:Int}{K:List Spn->Prop}(hu:u.length<=10000)(h: ∀l,SpsS l->K l):z1r u now K:=by
 unfold z1r z8p
 refine fun _=>⟨⟨by omega,Int.le_refl _,by unfold Sml;omega⟩,Lp2.ind (fun (i:Int) (b:List Bool)=>0<=i/\i<=u.length/\b.length=u.length) (fun (i:Int) _=>(u.length - i).toNat) ?_ ⟨by omega,by omega,by simp⟩⟩
 rintro i b ⟨i0,i1,hb⟩ _
 exact Cnd.mk (fun hc=>⟨by omega,fun y hy=>⟨by omega,fun z hz=>⟨by unfold InI;omega,⟨by omega,by omega,by simpa using hb⟩,by omega⟩⟩⟩) fun _=>q5a (by omega) h
theorem q9l{a b:List Spn}{K:List Spn->Prop}(h: ∀l,SpsS l->K l):z1s a b K:=by
 unfold z1s z8q
 refine q3v fun x hx=>q3v fun y hy=>Lp2.ind (fun (i:Int) (b:List Bool)=>0<=i/\i<=10000/\b.length=10000) (fun (i:Int) _=>(10000 - i).toNat) ?_ ⟨by omega,by omega,hx⟩
 rintro i b ⟨i0,i1,hb⟩ _
 exact Cnd.mk (fun hc=>⟨by omega,fun y hy=>Cnd.mk (fun _=>⟨by omega,fun _ _=>⟨by unfold InI;omega,⟨by omega,by omega,by simpa using hb⟩,by omega⟩⟩) fun _=>⟨by omega,fun _ _=>⟨by omega,fun _ _=>⟨by unfold InI;omega,⟨by omega,by omega,by simpa using hb⟩,by omega⟩⟩⟩⟩) fun _=>q5a (by omega) h
theorem j4v{a b:List Spn}{K:List Spn->Prop}(h: ∀l,SpsS l->K l):q7s a b K:=by
 unfold q7s z8s
 refine q3v fun x hx=>q3v fun y hy=>Lp2.ind (fun (i:Int) (b:List Bool)=>0<=i/\i<=10000/\b.length=10000) (fun (i:Int) _=>(10000 - i).toNat) ?_ ⟨by omega,by omega,hx⟩
 rintro i b ⟨i0,i1,hb⟩ _
 exact Cnd.mk (fun hc=>⟨by omega,fun y hy=>Cnd.mk (fun _=>⟨by omega,fun _ _=>⟨by omega,fun _ _=>⟨by unfold InI;omega,⟨by omega,by omega,by simpa using hb⟩,by omega⟩⟩⟩) fun _=>⟨by omega,fun _ _=>⟨by unfold InI;omega,⟨by omega,by omega,by simpa using hb⟩,by omega⟩⟩⟩) fun _=>q5a (by omega) h
theorem w42{a b:List Spn}{K:List Spn->Prop}(h: ∀l,SpsS l->K l):q87 a b K:=by
 unfold q87 z4n
 refine q3v fun x hx=>q3v fun y hy=>Lp2.ind (fun (i:Int) (b:List Bool)=>0<=i/\i<=10000/\b.length=10000) (fun (i:Int) _=>(10000 - i).toNat) ?_ ⟨by omega,by omega,hx⟩
 rintro i b ⟨i0,i1,hb⟩ _
 exact Cnd.mk (fun hc=>⟨by omega,fun y hy=>Cnd.mk (fun _=>⟨by omega,fun _ _=>⟨by omega,fun _ _=>⟨by unfold InI;omega,⟨by omega,by omega,by simpa using hb⟩,by omega⟩⟩⟩) fun _=>⟨by omega,fun _ _=>⟨by unfold InI;omega,⟨by omega,by omega,by simpa using hb⟩,by omega⟩⟩⟩) fun _=>q5a (by omega) h
theorem w7s{a:List Spn}{n:Int}{K:List Spn->Prop}(hn: -1000000<=n/\n<=1000000)(h: ∀l,SpsS l->K l):z1u a n K:=by
 unfold z1u z8t
 refine q3v fun x hx=>Lp3.ind (fun (m i:Int) (b:List Bool)=>0<=i/\i<=10000/\b.length=10000/\ -1000000 - i<=m/\m<=1000000) (fun _ (i:Int) _=>(10000 - i).toNat) ?_ ⟨by omega,by omega,hx,by omega,by omega⟩
 rintro m i b ⟨i0,i1,hb,m0,m1⟩ _
 refine Cnd.mk (fun hc=>⟨by omega,fun y hy=> ?_⟩) fun _=>q5a (by omega) h
 have step:(0<=i/\i<(b.length:Int))/\ ∀y5,b[i.toNat]? =some y5->Cnd (y5=true) (InI (m - 1)/\InI (i+1)/\((0<=i+1/\i+1<=10000/\b.length=10000/\ -1000000 - (i+1)<=m - 1/\m - 1<=1000000)/\(10000 - (i+1)).toNat<(10000 - i).toNat)) (InI (i+1)/\((0<=i+1/\i+1<=10000/\b.length=10000/\ -1000000 - (i+1)<=m/\m<=1000000)/\(10000 - (i+1)).toNat<(10000 - i).toNat)):=
  ⟨by omega,fun _ _=>Cnd.mk (fun _=>⟨by unfold InI;omega,by unfold InI;omega,by omega,by omega⟩) fun _=>⟨by unfold InI;omega,by omega,by omega⟩⟩
 exact Cnd.mk (fun _=>Cnd.mk (fun _=>⟨by omega,fun _ _=>⟨by unfold InI;omega,⟨by omega,by omega,by simpa using hb,by omega,by omega⟩,by omega⟩⟩) fun _=>step) fun _=>step
theorem y52(n:Int):0<=Go.IntKind.u8.wrap n/\Go.IntKind.u8.wrap n<=255:=by
 have e:Go.IntKind.u8.wrap n=n % 256:=rfl
 rw[e];omega
theorem v4k{s:ByteArray}{K:Bool->Prop}(hs:s.size<=1000)(h: ∀r,K r):j0u s K:=by
 unfold j0u
 refine Lp1.ind (fun (i:Int)=>0<=i/\i<=s.size) (fun (i:Int)=>(s.size - i).toNat) ?_ ⟨by omega,by omega⟩
 rintro i ⟨i0,i1⟩
 (repeat' (first|exact h _|assumption|(unfold InI;omega)|omega|refine Cnd.mk (fun _=> ?_) fun _=> ?_|refine⟨?_,?_⟩|intro _))
theorem v4l{e:Ex}{K:Bool->Prop}(h: ∀r,K r):j0w e K:=by
 unfold j0w
 (repeat' (first|exact h _|assumption|(unfold InI;omega)|omega|refine Cnd.mk (fun _=> ?_) fun _=> ?_|refine⟨?_,?_⟩|intro _))
theorem w7t{e:Ex}{K:Bool->Prop}(h: ∀r:Bool,(r=true->9<=e.op->e.op<=11->e.values≠[])->K r):z1x e K:=by
 unfold z1x z8u
 intro _ _
 refine Jn2.mk (fun _ v=>v=true->9<=e.op->e.op<=11->e.values.length=1) ?_ fun k v hv=> ?_
 ·refine Cnd.mk (fun _ _ _ _ _=>by omega) fun _=>Cnd.mk (fun _ _ _ _ _=>by omega) fun _=>Cnd.mk (fun _ _ _ _ _=>by omega) fun _=>Cnd.mk (fun _ _ _ _ _=>by omega) fun _=>q02 fun r hr=>Cnd.mk (fun _=>Cnd.mk (fun _ _ _ _=>by omega) fun _ _ hd _ _=>by have:=of_decide_eq_true hd;omega) fun hc _ h1 h2=>absurd (hr.2 ⟨by omega,by omega⟩) hc
 ·have no:K false:=h _ fun h=>by cases h
  refine q02 fun r _=>Cnd.mk (fun _=>Cnd.mk (fun hv'=> ?_) fun _=>no) fun _=>no
  have yes: ∀r,K r:=fun r=>h r fun _ h1 h2 hn=>by have:=hv hv' h1 h2;rw[hn] at this;cases this
  (repeat' (first|exact yes _|exact no|assumption|(unfold InI;omega)|omega|refine Cnd.mk (fun _=> ?_) fun _=> ?_|refine⟨?_,?_⟩|intro _))
theorem v0c{v:Val}{K:Bool->Prop}(h: ∀r,K r):q66 v K:=by
 unfold q66
 (repeat' (first|exact h _|assumption|(unfold InI;omega)|omega|refine Cnd.mk (fun _=> ?_) fun _=> ?_|refine⟨?_,?_⟩|intro _))
theorem j9k{l:List Rng}{n:Int}{K:Int->Prop}(h: ∀r,0<=r->r<=100->K r):z0z l n K:=by
 unfold z0z
 intro _
 refine Cnd.mk (fun _=>h _ (by omega) (by omega)) fun _=> ?_
 refine Lp2.ind (fun _ (i:Int)=>0<=i/\i<=l.length) (fun _ (i:Int)=>(l.length - i).toNat) ?_ ⟨by omega,by omega⟩
 rintro a i ⟨i0,i1⟩
 (repeat' (first|exact h _ (by omega) (by omega)|assumption|(unfold InI;omega)|omega|refine Cnd.mk (fun _=> ?_) fun _=> ?_|refine⟨?_,?_⟩|intro _))
theorem v0d{l:List Spn}{K:Int->Prop}(h: ∀r,0<=r->r<=100->K r):z6v l K:=by
 unfold z6v
 intro _
 refine Cnd.mk (fun _=>h _ (by omega) (by omega)) fun _=> ?_
 refine Lp1.ind (fun (i:Int)=>0<=i/\i<=l.length) (fun (i:Int)=>(l.length - i).toNat) ?_ ⟨by omega,by omega⟩
 rintro i ⟨i0,i1⟩
 (repeat' (first|exact h _ (by omega) (by omega)|assumption|(unfold InI;omega)|omega|refine Cnd.mk (fun _=> ?_) fun _=> ?_|refine⟨?_,?_⟩|intro _))
theorem w7u{α:Type}{l:List α}{f:α->ByteArray}{K:List ByteArray->Prop}(hl:l.length<=1000000)(h:K (l.map f)):
  Lp2 (fun (r:List ByteArray) (i:Int) Y=>l.length<=9223372036854775807->Cnd (i<(l.length:Int)) ((0<=i/\i<(l.length:Int))/\ ∀y,l[i.toNat]? =some y->Sml (r++[f y]).length/\InI (i+1)/\Y (r++[f y]) (i+1)) (K r)) [] 0:=by
 refine Lp2.ind (fun (r:List ByteArray) (i:Int)=>0<=i/\i<=l.length/\r=(l.take i.toNat).map f) (fun _ (i:Int)=>(l.length - i).toNat) ?_ ⟨Int.le_refl 0,by omega,by simp⟩
 rintro r i ⟨i0,i1,rfl⟩ _
 refine Cnd.mk (fun hc=>⟨by omega,fun y hy=>⟨by unfold Sml;simp;omega,by unfold InI;omega,⟨by omega,by omega,?_⟩,by omega⟩⟩) fun hc=> ?_
 ·rw[show (i+1).toNat=i.toNat+1 by omega,List.take_add_one,hy];simp
 ·rw[List.take_of_length_le (by omega)];exact h
theorem z9x{l:List Seg}{K:List ByteArray->Prop}(hl:l.length<=1000000)(h:K (l.map Seg.key)):z04 l K:=w7u hl h
theorem y1v{i:Nat}:(29:Int)*10 ^ (i+1)=10*(29*10 ^ i):=by rw[Int.pow_succ];omega
theorem j35{s:ByteArray}{K:Int->Int->Prop}(hs:s.size<=1000)(h: ∀n e,InI n->0<=e->e<=100->K n e):Wf s K:=by
 unfold Wf
 refine Jn1.mk (fun d=>d.size<=1000) ?_ fun d hd=> ?_
 ·(repeat' (first|(show (s.extract _ _).size<=1000;rw[ByteArray.size_extract];omega)|assumption|(unfold InI;omega)|omega|refine Cnd.mk (fun _=> ?_) fun _=> ?_|refine⟨?_,?_⟩|intro _))
 refine Lp1.ind (fun (i:Int)=>0<=i/\i<=d.size) (fun (i:Int)=>(d.size - i).toNat) ?_ ⟨by omega,by omega⟩
 rintro i ⟨i0,i1⟩
 have fin:d.size<=13->Lp2 (fun (Qe Jr:Int) w8h=>Cnd (Jr<(↑d.size:Int)) (InI ((10:Int)*Qe)/\((0:Int)<=Jr/\Jr<(↑d.size:Int))/\ ∀b5,d[Jr.toNat]? =some b5->InI (Go.IntKind.u8.wrap ((↑b5.toNat:Int) - (48:Int)))/\InI ((10:Int)*Qe+Go.IntKind.u8.wrap ((↑b5.toNat:Int) - (48:Int)))/\InI (Jr+(1:Int))/\w8h ((10:Int)*Qe+Go.IntKind.u8.wrap ((↑b5.toNat:Int) - (48:Int))) (Jr+(1:Int))) (Cnd ((1099511627776:Int)<Qe) (K (0:Int) (3:Int)) (Cnd ((↑d.size:Int)<(↑s.size:Int)) (InI ((0:Int) - Qe)/\K ((0:Int) - Qe) (0:Int)) (K Qe (0:Int))))) (0:Int) (0:Int):=fun h13=>by
  refine Lp2.ind (fun (n j:Int)=>0<=j/\j<=d.size/\0<=n/\n+29<=29*10 ^ j.toNat) (fun _ (j:Int)=>(d.size - j).toNat) ?_ ⟨by omega,by omega,by omega,by simp⟩
  rintro n j ⟨j0,j1,n0,n1⟩
  have hp:(10:Int) ^ j.toNat<=10 ^ 13:=by
   have:=Nat.pow_le_pow_right (n:=10) (by decide) (show j.toNat<=13 by omega)
   exact_mod_cast this
  refine Cnd.mk (fun hc=>⟨by unfold InI;omega,by omega,fun b _=> ?_⟩) fun hc=> ?_
  ·obtain⟨w0,w1⟩:=y52 ((b.toNat:Int) - 48)
   refine⟨by unfold InI;omega,by unfold InI;omega,by unfold InI;omega,⟨by omega,by omega,by omega,?_⟩,by omega⟩
   rw[show (j+1).toNat=j.toNat+1 by omega,y1v];omega
  ·exact Cnd.mk (fun _=>h _ _ (by unfold InI;omega) (by omega) (by omega)) fun _=>Cnd.mk (fun _=>⟨by unfold InI;omega,h _ _ (by unfold InI;omega) (by omega) (by omega)⟩) fun _=>h _ _ (by unfold InI;omega) (by omega) (by omega)
 have k1:=h 0 1 (by unfold InI;omega) (by omega) (by omega)
 have k3:=h 0 3 (by unfold InI;omega) (by omega) (by omega)
 refine Cnd.mk (fun hc=>⟨by omega,fun b hb=>Cnd.mk (fun _=>k1) fun _=>⟨by omega,fun b' hb'=>Cnd.mk (fun _=>k1) fun _=>⟨by unfold InI;omega,by omega,by omega⟩⟩⟩) fun _=> ?_
 refine Cnd.mk (fun _=>k1) fun he=>⟨⟨by omega,?_⟩,fun b hb=>Cnd.mk (fun _=>Cnd.mk (fun _=>Cnd.mk (fun _=>k3) fun _=>fin (by omega)) fun _=>k1) fun _=>Cnd.mk (fun _=>k3) fun _=>fin (by omega)⟩
 refine Int.not_le.1 fun hn=>he ?_
 have:d.size=0:=by omega
 exact ByteArray.ext (Array.eq_empty_of_size_eq_zero this)
theorem v4m{t:Int}{e:Ex}{K:Bool->Prop}(h: ∀r,K r):q7y t e K:=by
 unfold q7y
 refine Cnd.mk (fun _=>h _) fun _=>Cnd.mk (fun _=> ?_) fun _ _=>Cnd.mk (fun _=>h _) fun _=>⟨by omega,fun y hy=>Cnd.mk (fun _=>h _) fun _=>Jn1.mk (fun _=>True) ?_ fun x _=> ?_⟩
 ·refine Lp1.ind (fun (i:Int)=>0<=i/\i<=e.values.length) (fun (i:Int)=>(e.values.length - i).toNat) ?_ ⟨by omega,by omega⟩
  rintro i ⟨i0,i1⟩
  (repeat' (first|exact h _|assumption|(unfold InI;omega)|omega|refine Cnd.mk (fun _=> ?_) fun _=> ?_|refine⟨?_,?_⟩|intro _))
 ·(repeat' (first|exact trivial|assumption|(unfold InI;omega)|omega|refine Cnd.mk (fun _=> ?_) fun _=> ?_|refine⟨?_,?_⟩|intro _))
 ·(repeat' (first|exact h _|assumption|(unfold InI;omega)|omega|refine Cnd.mk (fun _=> ?_) fun _=> ?_|refine⟨?_,?_⟩|intro _))
theorem j9l{v:Envt}{K:List ByteArray->Prop}(hl:v.flags.length<=1000000)(h:K (v.flags.map Flg.key)):q93 v K:=w7u hl h
def z23(f:Flg):List Edg:=f.needs.map fun q=>Edg.mk f.key q.flag
theorem j5x{v:Envt}{K:List Edg->Prop}(hl:v.flags.length<=1000)(hn: ∀f∈v.flags,f.needs.length<=1000)(h:K (v.flags.flatMap z23)):q1p v K:=by
 unfold q1p
 have hb: ∀l:List Flg,(∀f∈l,f.needs.length<=1000)->(l.flatMap z23).length<=1000*l.length:=by
  intro l
  induction l with
  |nil=>simp
  |cons f l ih=>intro hf;have h1:=hf f (by simp);have h2:=ih fun g hg=>hf g (by simp[hg]);simp only[List.flatMap_cons,List.length_append,z23,List.length_map,List.length_cons] at*;omega
 refine Lp2.ind (fun (r:List Edg) (i:Int)=>0<=i/\i<=v.flags.length/\r=(v.flags.take i.toNat).flatMap z23) (fun _ (i:Int)=>(v.flags.length - i).toNat) ?_ ⟨Int.le_refl 0,by omega,by simp⟩
 rintro r i ⟨i0,i1,rfl⟩ _
 refine Cnd.mk (fun hc=> ?_) fun hc=> ?_
 ·obtain⟨f,hf⟩: ∃f,v.flags[i.toNat]? =some f:=⟨_,List.getElem?_eq_getElem (by omega)⟩
  have hfn:=hn f (getm hf)
  have hbt:=hb (v.flags.take i.toNat) fun g hg=>hn g (List.mem_of_mem_take hg)
  rw[List.length_take] at hbt
  refine Lp2.ind (fun (r:List Edg) (j:Int)=>0<=j/\j<=f.needs.length/\r=(v.flags.take i.toNat).flatMap z23++(f.needs.take j.toNat).map fun q=>Edg.mk f.key q.flag) (fun _ (j:Int)=>(f.needs.length - j).toNat) ?_ ⟨by omega,by omega,by simp⟩
  rintro r j ⟨j0,j1,rfl⟩
  refine⟨by omega,fun g hg=> ?_⟩
  rw[hf] at hg;cases hg
  refine fun _=>Cnd.mk (fun hc=>⟨by omega,fun g hg=> ?_⟩) fun hc=>⟨by unfold InI;omega,⟨by omega,by omega,?_⟩,by omega⟩
  ·rw[hf] at hg;cases hg
   refine⟨by omega,fun g hg=> ?_⟩
   rw[hf] at hg;cases hg
   refine⟨by omega,fun q hq=>⟨?_,by unfold InI;omega,⟨by omega,by omega,?_⟩,by omega⟩⟩
   ·unfold Sml;simp only[List.length_append,List.length_map,List.length_take,List.length_cons,List.length_nil];omega
   ·rw[show (j+1).toNat=j.toNat+1 by omega,List.take_add_one,hq];simp
  ·rw[List.take_of_length_le (show f.needs.length<=j.toNat by omega),show (i+1).toNat=i.toNat+1 by omega,List.take_add_one,hf];simp[z23]
 ·rw[List.take_of_length_le (by omega)];exact h
end Go.En
end
noncomputable section
set_option maxRecDepth 100000
namespace Go.Sg
open Go
abbrev bts(s:ByteArray):List UInt8:=s.data.toList
theorem Gh(s:ByteArray):(bts s).length=s.size:=rfl
theorem q3w{s:ByteArray}{i:Nat}{b:UInt8}:s[i]? =some b↔(bts s)[i]? =some b:=by
 rw[show s[i]? =s.data[i]? from by
  by_cases h:i<s.size
  ·rw[getElem?_pos s i h,getElem?_pos s.data i h];rfl
  ·rw[getElem?_neg s i h,getElem?_neg s.data i h]]
 rw[Array.getElem?_toList]
theorem get!_of{s:ByteArray}{i:Nat}(h:i<s.size):(bts s)[i]? =some (s.get! i):=by
 have h':i<s.data.size:=h
 show s.data.toList[i]? =some (s.data[i]!)
 rw[Array.getElem?_toList,Array.getElem?_eq_getElem h',getElem!_pos s.data i h']
theorem v8h{s:ByteArray}{i:Nat}(h:(s.get! i).toNat<128):Utf8.decode s i=((s.get! i).toNat,1):=by
 unfold Utf8.decode
 simp only[Nat.add_zero]
 rw[if_pos h]
theorem v8i{s:ByteArray}{i:Nat}(h:128<=(s.get! i).toNat):128<=(Utf8.decode s i).1/\1<=(Utf8.decode s i).2/\ ∀k,k<(Utf8.decode s i).2->128<=(s.get! (i+k)).toNat:=by
 have k1: ∀k,k<1->128<=(s.get! (i+k)).toNat:=fun k hk=>by rw[show k=0 by omega];exact h
 have bad:128<=(Utf8.runeError,1).1/\1<=(Utf8.runeError,1).2/\ ∀k,k<(Utf8.runeError,1).2->128<=(s.get! (i+k)).toNat:=⟨by decide,by decide,k1⟩
 unfold Utf8.decode
 simp only[Nat.add_zero]
 rw[if_neg (by omega)]
 split
 ·rename_i hc
  simp only[Bool.and_eq_true,beq_iff_eq,decide_eq_true_eq] at hc
  split
  ·rename_i h2
   refine⟨h2,by simp,fun k hk=> ?_⟩
   have:k=0∨k=1:=by simp only at hk;omega
   rcases this with rfl|rfl
   ·exact h
   ·omega
  ·exact bad
 ·split
  ·rename_i _ hc
   simp only[Bool.and_eq_true,beq_iff_eq,decide_eq_true_eq] at hc
   split
   ·rename_i h2
    simp only[Bool.and_eq_true,decide_eq_true_eq] at h2
    refine⟨by simp only;omega,by simp,fun k hk=> ?_⟩
    have:k=0∨k=1∨k=2:=by simp only at hk;omega
    rcases this with rfl|rfl|rfl
    ·exact h
    ·omega
    ·omega
   ·exact bad
  ·split
   ·rename_i _ _ hc
    simp only[Bool.and_eq_true,beq_iff_eq,decide_eq_true_eq] at hc
    split
    ·rename_i h2
     simp only[Bool.and_eq_true,decide_eq_true_eq] at h2
     refine⟨by simp only;omega,by simp,fun k hk=> ?_⟩
     have:k=0∨k=1∨k=2∨k=3:=by simp only at hk;omega
     rcases this with rfl|rfl|rfl|rfl
     ·exact h
     ·omega
     ·omega
     ·omega
    ·exact bad
   ·exact bad
structure RuneP(p:Nat->Prop):Prop where
 hi: ∀n,128<=n->(p n↔p 128)
def Clr(p:Nat->Prop)(s:ByteArray)(k:Nat):Prop:= ∀i,i<k->i<s.size-> ¬p (s.get! i).toNat
theorem Clr.zero{p:Nat->Prop}{s:ByteArray}:Clr p s 0:=fun _ h=>absurd h (Nat.not_lt_zero _)
theorem v8j(s:ByteArray)(k:Nat):1<=(Utf8.decode s k).2:=by
 rcases Nat.lt_or_ge (s.get! k).toNat 128 with h|h
 ·rw[v8h h];exact Nat.le_refl 1
 ·exact (v8i h).2.1
theorem Clr.step{p:Nat->Prop}(hp:RuneP p){s:ByteArray}{k:Nat}(h:Clr p s k)(hk: ¬p (Utf8.decode s k).1):Clr p s (k+(Utf8.decode s k).2):=by
 intro i hi hs
 rcases Nat.lt_or_ge i k with h1|h1
 ·exact h i h1 hs
 rcases Nat.lt_or_ge (s.get! k).toNat 128 with h2|h2
 ·rw[v8h h2] at hk hi
  simp only at hk hi
  rw[show i=k by omega];exact hk
 ·obtain⟨a,_,c⟩:=v8i h2
  have:=c (i - k) (by omega)
  rw[show k+(i - k)=i by omega] at this
  rw[hp.hi _ this,←hp.hi _ a];exact hk
theorem j6s{p:Nat->Prop}(hp:RuneP p){s:ByteArray}{k:Nat}(hk:p (Utf8.decode s k).1):p (s.get! k).toNat:=by
 rcases Nat.lt_or_ge (s.get! k).toNat 128 with h2|h2
 ·rw[v8h h2] at hk;exact hk
 ·rw[hp.hi _ h2,←hp.hi _ (v8i h2).1];exact hk
theorem Clr.all{p:Nat->Prop}{s:ByteArray}{k:Nat}(h:Clr p s k)(hk:s.size<=k): ∀c∈bts s,¬p c.toNat:=by
 intro c hc
 obtain⟨i,hi⟩:=List.mem_iff_getElem?.1 hc
 have hl:i<s.size:=(List.getElem?_eq_some_iff.1 hi).1
 have:=get!_of hl
 rw[hi] at this
 cases this
 exact h i (by omega) hl
theorem j36{s:ByteArray}{k:Nat}(h:k<s.size):s.get! k∈bts s:=List.mem_of_getElem? (get!_of h)
def good(c:UInt8):Bool:=decide (32<=c.toNat) && decide (c.toNat≠127)
def vld(s:ByteArray):Bool:=decide (s.size<=200) && Go.Lib.validD (bts s) && (bts s).all good
def isD(c:UInt8):Bool:=decide (48<=c.toNat) && decide (c.toNat<=57)
def z7o(n:Nat)(c:UInt8):Nat:=10*n+(c.toNat - 48)
def valD(n:Nat)(l:List UInt8):Nat:=l.foldl z7o n
def digs(s:ByteArray):ByteArray:=if s[0]? =some 45 then s.extract 1 s.size else s
def pnum(s:ByteArray):Int×Int:=
 if (bts (digs s)).all isD=false then (0,1)
 else if (digs s).size=0∨((digs s)[0]? =some 48/\s≠ByteArray.mk (Array.mk [48])) then (0,1)
 else if 1099511627776<valD 0 (bts (digs s)) then (0,3)
 else (if (digs s).size<s.size then -(valD 0 (bts (digs s)):Int) else valD 0 (bts (digs s)),0)
theorem v2e(n:Nat):valD n []=n:=rfl
theorem j1x(n:Nat)(c:UInt8)(l:List UInt8):valD n (c::l)=valD (z7o n c) l:=List.foldl_cons ..
theorem v8k(n:Nat)(l:List UInt8)(c:UInt8):valD n (l++[c])=z7o (valD n l) c:=by
 unfold valD;rw[List.foldl_append];rfl
theorem v0e: ∀(l:List UInt8) (n:Nat),n*10 ^ l.length<=valD n l
 |[],n=>by simp[valD]
 |c::l,n=>by
  rw[j1x,List.length_cons]
  refine Nat.le_trans ?_ (v0e l (z7o n c))
  rw[Nat.pow_succ,Nat.mul_comm (10 ^ l.length) 10,←Nat.mul_assoc]
  exact Nat.mul_le_mul_right _ (by unfold z7o;omega)
theorem v8l: ∀(l:List UInt8) (n:Nat),l.all isD=true->valD n l<(n+1)*10 ^ l.length
 |[],n,_=>by simp[valD]
 |c::l,n,h=>by
  simp only[List.all_cons,Bool.and_eq_true] at h
  rw[j1x,List.length_cons]
  refine Nat.lt_of_lt_of_le (v8l l (z7o n c) h.2) ?_
  have h1:=h.1
  simp only[isD,Bool.and_eq_true,decide_eq_true_eq] at h1
  rw[Nat.pow_succ,Nat.mul_comm (10 ^ l.length) 10,←Nat.mul_assoc]
  exact Nat.mul_le_mul_right _ (by unfold z7o;omega)
theorem v8m: ∀(l:List UInt8) (n:Nat),n<=valD n l:=fun l n=>Nat.le_trans (by
 have:0<10 ^ l.length:=Nat.pow_pos (by decide)
 exact Nat.le_mul_of_pos_right n this) (v0e l n)
theorem j4w: ∀(l:List UInt8) (n:Nat),l.all isD=true->Go.Lib.parseUint10 n l=(if valD n l<18446744073709551616/\n<18446744073709551616 then .ok (valD n l) else if l=[] then .ok n else .range)
 |[],n,_=>by
  unfold Go.Lib.parseUint10
  rw[v2e]
  split<;>simp
 |c::l,n,h=>by
  simp only[List.all_cons,Bool.and_eq_true] at h
  have h1:=h.1
  simp only[isD,Bool.and_eq_true,decide_eq_true_eq] at h1
  have ih:=j4w l (z7o n c) h.2
  have hs:=v8m l (z7o n c)
  have es:z7o n c=10*n+(c.toNat - 48):=rfl
  have e:n*10+(c.toNat - 48)=z7o n c:=by omega
  have hne: ¬(c::l=[]):=by simp
  unfold Go.Lib.parseUint10
  rw[if_pos h1,j1x,e,if_neg hne]
  generalize z7o n c=m at ih hs es e⊢
  by_cases h2:1844674407370955162<=n
  ·rw[if_pos h2,if_neg (by omega)]
  ·rw[if_neg h2]
   by_cases h3:18446744073709551616<=m
   ·rw[if_pos h3,if_neg (by omega)]
   ·rw[if_neg h3,ih]
    by_cases h4:valD m l<18446744073709551616
    ·rw[if_pos ⟨h4,by omega⟩,if_pos ⟨h4,by omega⟩]
    ·have: ¬l=[]:=by rintro rfl;rw[v2e] at h4;omega
     rw[if_neg (by omega),if_neg this,if_neg (by omega)]
theorem w7v{l:List UInt8}(h:l.all isD=true)(hn:l≠[]):Go.Lib.parseMag l=(if valD 0 l<18446744073709551616 then .ok (valD 0 l) else .range):=by
 unfold Go.Lib.parseMag
 rw[if_neg hn,j4w l 0 h]
 by_cases h4:valD 0 l<18446744073709551616
 ·rw[if_pos ⟨h4,by omega⟩,if_pos h4]
 ·rw[if_neg (by omega),if_neg h4,if_neg hn]
theorem v2f{s:ByteArray}{k:Nat}:bts (s.extract k s.size)=(bts s).drop k:=by
 show (s.extract k s.size).data.toList=_
 rw[ByteArray.data_extract,Array.toList_extract,List.extract_eq_take_drop,List.take_of_length_le]
 rw[List.length_drop]
 exact Nat.le_refl _
theorem j37{s:ByteArray}(h:s[0]? =some 45):bts s=45::bts (digs s)/\(digs s).size+1=s.size:=by
 have h0:0<s.size:=by
  rw[q3w] at h;exact (List.getElem?_eq_some_iff.1 h).1
 have e:bts (digs s)=(bts s).drop 1:=by
  unfold digs
  rw[if_pos h,v2f]
 rw[q3w] at h
 refine⟨?_,?_⟩
 ·rw[e]
  cases hb:bts s with
  |nil=>rw[hb] at h;simp at h
  |cons c l=>rw[hb] at h;simp at h;simp[h]
 ·rw[←Gh,e,List.length_drop,Gh];omega
theorem q8q{s:ByteArray}(h: ¬s[0]? =some 45):digs s=s:=by unfold digs;rw[if_neg h]
theorem v0f{s:ByteArray}(h:(bts (digs s)).all isD=true)(hn:(digs s).size≠0):Go.Lib.atoiAll (bts s)=(if valD 0 (bts (digs s))<=(if s[0]? =some 45 then 9223372036854775808 else 9223372036854775807) then .ok (if s[0]? =some 45 then -(valD 0 (bts (digs s)):Int) else valD 0 (bts (digs s))) else .range):=by
 have hne:bts (digs s)≠[]:=fun e=>hn (by rw[←Gh,e];rfl)
 by_cases hm:s[0]? =some 45
 ·obtain⟨e,_⟩:=j37 hm
  rw[if_pos hm,if_pos hm,e]
  unfold Go.Lib.atoiAll
  simp only[show (45:UInt8).toNat=45 from rfl,or_true,if_true]
  rw[w7v h hne]
  generalize valD 0 (bts (digs s))=v
  by_cases h1:v<18446744073709551616
  ·rw[if_pos h1]
   by_cases h2:v<=9223372036854775808
   ·rw[if_pos h2];simp only[not_true,false_and,if_false,true_and];rw[if_neg (by omega)]
   ·rw[if_neg h2];simp only[not_true,false_and,if_false,true_and];rw[if_pos (by omega)]
  ·rw[if_neg h1,if_neg (by omega)]
 ·rw[if_neg hm,if_neg hm]
  rw[q8q hm] at h hne⊢
  have hp:=w7v h hne
  generalize valD 0 (bts s)=v at hp⊢
  cases hb:bts s with
  |nil=>exact absurd hb hne
  |cons c l=>
   have hc':isD c=true:=by rw[hb] at h;simp only[List.all_cons,Bool.and_eq_true] at h;exact h.1
   simp only[isD,Bool.and_eq_true,decide_eq_true_eq] at hc'
   unfold Go.Lib.atoiAll
   simp only[]
   rw[if_neg (show ¬(c.toNat=43∨c.toNat=45) by omega),←hb,hp]
   by_cases h1:v<18446744073709551616
   ·rw[if_pos h1]
    simp only[]
    by_cases h2:v<=9223372036854775807
    ·rw[if_pos h2,if_neg (by omega),if_neg (by omega),if_neg (by omega)]
    ·rw[if_neg h2,if_pos (by omega)]
   ·rw[if_neg h1,if_neg (by omega)]
def dot(s:ByteArray)(k:Nat):Nat:=k+((bts s).drop k).idxOf 46
theorem v2g{s:ByteArray}{k:Nat}:k<=dot s k:=Nat.le_add_right _ _
theorem y3n{s:ByteArray}{k:Nat}(h:k<=s.size):dot s k<=s.size:=by
 have:=List.idxOf_le_length (a:=(46:UInt8)) (l:=(bts s).drop k)
 rw[List.length_drop,Gh] at this
 unfold dot;omega
theorem v8n{s:ByteArray}{k:Nat}(h:dot s k<s.size):s[dot s k]? =some 46:=by
 have hl:((bts s).drop k).idxOf 46<((bts s).drop k).length:=by rw[List.length_drop,Gh];unfold dot at h;omega
 have h2:=List.getElem_idxOf hl
 rw[q3w]
 unfold dot
 rw[←List.getElem?_drop,List.getElem?_eq_getElem hl,h2]
theorem v8o{s:ByteArray}{k i:Nat}(h0:k<=i)(h1:i<dot s k):s[i]? ≠some 46:=by
 intro e
 rw[q3w] at e
 have e2:((bts s).drop k)[i - k]? =some 46:=by rw[List.getElem?_drop,show k+(i - k)=i by omega];exact e
 obtain⟨hl,e3⟩:=List.getElem?_eq_some_iff.1 e2
 have h2:i - k<((bts s).drop k).idxOf 46:=by unfold dot at h1;omega
 have:=List.not_of_lt_findIdx (p:=fun x=>x==(46:UInt8)) (xs:=(bts s).drop k) (i:=i - k) h2
 rw[e3] at this
 simp at this
theorem y8r{s:ByteArray}{k i:Nat}(h0:k<=i)(hs:s[i]? =some 46)(hn: ∀j,k<=j->j<i->s[j]? ≠some 46):dot s k=i:=by
 have hi:i<s.size:=(List.getElem?_eq_some_iff.1 (q3w.1 hs)).1
 rcases Nat.lt_trichotomy (dot s k) i with h|h|h
 ·exact absurd (v8n (show dot s k<s.size by omega)) (hn _ v2g h)
 ·exact h
 ·exact absurd hs (v8o h0 h)
theorem y53{s:ByteArray}{k:Nat}(hk:k<=s.size)(hn: ∀j,k<=j->j<s.size->s[j]? ≠some 46):dot s k=s.size:=by
 rcases Nat.lt_or_ge (dot s k) s.size with h|h
 ·exact absurd (v8n h) (hn _ v2g h)
 ·have:=y3n hk;omega
def okp(p:Int×Int):Bool:=decide (p.2=0) && decide (0<=p.1) && decide (p.1<=999999)
def Hk(s:ByteArray)(k:Nat):Int×Int:=pnum (s.extract k (dot s k))
def w0x(s:ByteArray):Prop:=(dot s 0<s.size/\okp (Hk s 0)=true)/\(dot s (dot s 0+1)<s.size/\okp (Hk s (dot s 0+1))=true)/\ ¬dot s (dot s (dot s 0+1)+1)<s.size/\okp (Hk s (dot s (dot s 0+1)+1))=true
instance (s:ByteArray):Decidable (w0x s):=by unfold w0x;infer_instance
def prt(s:ByteArray):(Int×Int×Int)×Bool:=
 if w0x s then (((Hk s 0).1,(Hk s (dot s 0+1)).1,(Hk s (dot s (dot s 0+1)+1)).1),true) else ((0,0,0),false)
theorem y3o{s:ByteArray}(h: ¬w0x s):prt s=((0,0,0),false):=if_neg h
theorem v8p{s:ByteArray}(h:w0x s):prt s=(((Hk s 0).1,(Hk s (dot s 0+1)).1,(Hk s (dot s (dot s 0+1)+1)).1),true):=if_pos h
abbrev dotB:ByteArray:=ByteArray.mk (Array.mk [46])
theorem w7w: ∀l:List UInt8,Go.Lib.index l [46]=if l.idxOf 46<l.length then ((l.idxOf 46:Nat):Int) else -1
 |[]=>rfl
 |b::l=>by
  have ih:=w7w l
  unfold Go.Lib.index
  by_cases hb:b=46
  ·subst hb
   rw[if_pos (by simp[List.isPrefixOf]),List.idxOf_cons_self,if_pos (by simp)];rfl
  ·have hx:(b::l).idxOf 46=l.idxOf 46+1:=by rw[List.idxOf_cons,show (b==(46:UInt8))=false by simpa using hb];rfl
   rw[if_neg (by simp[List.isPrefixOf,Ne.symm hb]),hx,ih,List.length_cons]
   by_cases h:l.idxOf 46<l.length
   ·simp only[if_pos h]
    rw[if_neg (by simp only[beq_iff_eq];omega),if_pos (by omega)]
    push_cast;rfl
   ·simp only[if_neg h]
    rw[if_pos (by decide),if_neg (by omega)]
theorem v8q{s:ByteArray}{k:Nat}:(s.extract k s.size).size=s.size - k:=by rw[ByteArray.size_extract];omega
theorem j9m{s:ByteArray}{k:Nat}(hk:k<=s.size):Go.Lib.indexB (s.extract k s.size) dotB=if dot s k<s.size then ((dot s k - k:Nat):Int) else -1:=by
 show Go.Lib.index (bts (s.extract k s.size)) [46]=_
 rw[v2f,w7w,List.length_drop,Gh]
 have e:dot s k - k=((bts s).drop k).idxOf 46:=by unfold dot;omega
 rw[e]
 have hg:=v2g (s:=s) (k:=k)
 by_cases h:dot s k<s.size
 ·rw[if_pos h,if_pos (by omega)]
 ·rw[if_neg h,if_neg (by omega)]
def pc(s:ByteArray)(k:Nat):List ByteArray:=Go.Lib.splitB dotB 0 (Go.Lib.countB (s.extract k s.size) dotB) (s.extract k s.size)
theorem ext2{s:ByteArray}{k i:Nat}(h:k+i<=s.size):(s.extract k s.size).extract 0 i=s.extract k (k+i):=by
 apply ByteArray.ext
 have:s.data.size=s.size:=rfl
 simp only[ByteArray.data_extract,Array.extract_extract]
 congr 1
 omega
theorem ext3{s:ByteArray}{k i:Nat}:(s.extract k s.size).extract i (s.extract k s.size).size=s.extract (k+i) s.size:=by
 apply ByteArray.ext
 rw[v8q]
 have:s.data.size=s.size:=rfl
 simp only[ByteArray.data_extract,Array.extract_extract]
 congr 1
 omega
theorem j9n{s:ByteArray}{k:Nat}(hk:k<=s.size)(h: ¬dot s k<s.size):pc s k=[s.extract k s.size]:=by
 unfold pc
 exact Go.Lib.splitB_miss _ _ _ _ (by rw[j9m hk,if_neg h])
theorem w2j{s:ByteArray}{k:Nat}(hk:k<=s.size)(h:dot s k<s.size):pc s k=s.extract k (dot s k)::pc s (dot s k+1):=by
 have hi:=j9m hk
 rw[if_pos h] at hi
 have hg:=v2g (s:=s) (k:=k)
 unfold pc
 rw[Go.Lib.countB_hit _ dotB _ (by decide) hi,Nat.add_comm,Go.Lib.splitB_hit _ _ _ _ _ hi]
 have e1:dotB.size=1:=rfl
 rw[Nat.add_zero,e1,ext2 (by omega),ext3,show k+(dot s k - k)=dot s k by omega,show k+(dot s k - k+1)=dot s k+1 by omega]
theorem u0p{p:Nat->Prop}: ∀n,p n-> ∃n,p n/\ ∀k,k<n-> ¬p k:=by
 intro n
 induction n using Nat.strongRecOn with
 |_ n ih=>
  intro h
  by_cases hx: ∃k,k<n/\p k
  ·obtain⟨k,hk,hp⟩:=hx;exact ih k hk hp
  ·exact⟨n,h,fun k hk hp=>hx ⟨k,hk,hp⟩⟩
theorem y8s{s:ByteArray}{k:Nat}(hk:k<=s.size):0<(pc s k).length:=by
 by_cases h:dot s k<s.size
 ·rw[w2j hk h];simp
 ·rw[j9n hk h];simp
theorem w7x{s:ByteArray}:Go.En.q0v s dotB=pc s 0:=by
 unfold Go.En.q0v pc
 have e:s.extract 0 s.size=s:=by simp
 rw[e]
theorem j9o{s:ByteArray}:(Go.En.q0v s dotB).length=3↔dot s 0<s.size/\dot s (dot s 0+1)<s.size/\ ¬dot s (dot s (dot s 0+1)+1)<s.size:=by
 rw[w7x]
 by_cases h0:dot s 0<s.size
 ·rw[w2j (by omega) h0]
  by_cases h1:dot s (dot s 0+1)<s.size
  ·rw[w2j (by omega) h1]
   by_cases h2:dot s (dot s (dot s 0+1)+1)<s.size
   ·have:=y8s (s:=s) (k:=dot s (dot s (dot s 0+1)+1)+1) (by omega)
    rw[w2j (by omega) h2]
    simp only[List.length_cons]
    exact⟨fun e=>by omega,fun e=>absurd h2 e.2.2⟩
   ·rw[j9n (by omega) h2];simp[h0,h1,h2]
  ·rw[j9n (by omega) h1];simp[h1]
 ·rw[j9n (by omega) h0];simp[h0]
theorem v0g{s:ByteArray}(h:dot s 0<s.size/\dot s (dot s 0+1)<s.size/\ ¬dot s (dot s (dot s 0+1)+1)<s.size):Go.En.q0v s dotB=[s.extract 0 (dot s 0),s.extract (dot s 0+1) (dot s (dot s 0+1)),s.extract (dot s (dot s 0+1)+1) (dot s (dot s (dot s 0+1)+1))]:=by
 obtain⟨h0,h1,h2⟩:=h
 rw[w7x,w2j (by omega) h0,w2j (by omega) h1,j9n (by omega) h2]
 have:=y3n (s:=s) (k:=dot s (dot s 0+1)+1) (by omega)
 rw[show dot s (dot s (dot s 0+1)+1)=s.size by omega]
theorem j4x{s t:List UInt8}:Go.Lib.contains s t=true↔ ∃i,i+t.length<=s.length/\(s.drop i).take t.length=t:=by
 have key:Go.Lib.contains s t=true↔ ∃i,i<=s.length/\Go.Lib.occAt s t i=true:=by
  unfold Go.Lib.contains
  constructor
  ·intro h
   have hge:0<=Go.Lib.index s t:=by simpa using h
   by_cases hx: ∃i,i<=s.length/\Go.Lib.occAt s t i=true
   ·exact hx
   ·have:=Go.Lib.index_none (s:=s) (sub:=t) (fun j hj=>by
     cases hb:Go.Lib.occAt s t j with
     |false=>rfl
     |true=>exact absurd ⟨j,hj,hb⟩ hx)
    omega
  ·rintro⟨i,hi,ho⟩
   obtain⟨j,⟨hj,hjo⟩,hmin⟩:=u0p (p:=fun j=>j<=s.length/\Go.Lib.occAt s t j=true) i ⟨hi,ho⟩
   have:=Go.Lib.index_first hj hjo (fun k hk=>by
    cases hb:Go.Lib.occAt s t k with
    |false=>rfl
    |true=>exact absurd ⟨by omega,hb⟩ (hmin k hk))
   rw[this];simp
 rw[key]
 constructor
 ·rintro⟨i,hi,ho⟩
  unfold Go.Lib.occAt at ho
  have hp:=List.isPrefixOf_iff_prefix.1 ho
  have hl:=hp.length_le
  rw[List.length_drop] at hl
  exact⟨i,by omega,(List.prefix_iff_eq_take.1 hp).symm⟩
 ·rintro⟨i,hi,ho⟩
  refine⟨i,by omega,?_⟩
  unfold Go.Lib.occAt
  rw[List.isPrefixOf_iff_prefix,List.prefix_iff_eq_take]
  exact ho.symm
end Go.Sg
end
noncomputable section
set_option maxRecDepth 100000
namespace Go.En
open Go Go.Fl Go.Fl.Lk Go.Fx Go.Sg
theorem v8r{s:ByteArray}:s=ByteArray.mk (Array.mk [])↔s.size=0:=by
 constructor
 ·rintro rfl;rfl
 ·intro h;exact ByteArray.ext (Array.eq_empty_of_size_eq_zero h)
theorem y3p{s:ByteArray}{i:Int}(h0:0<=i)(h1:i<s.size){b:UInt8}(hb:s[i.toNat]? =some b):b=s.get! i.toNat:=by
 rw[q3w,get!_of (by omega)] at hb
 cases hb;rfl
theorem v8s{s:ByteArray}{K:Bool->Prop}(hs:s.size<=1000)(h:K (Go.Lib.validD (bts s))):Vp s K:=⟨by omega,h⟩
theorem badP:RuneP fun n=>n<32∨n=127:=⟨fun n h=>by omega⟩
theorem j4y{s:ByteArray}(h:200<s.size∨Go.Lib.validD (bts s)=false∨ ∃c∈bts s,c.toNat<32∨c.toNat=127):vld s=false:=by
 unfold vld
 rcases h with h|h|⟨c,hc,h⟩
 ·rw[decide_eq_false (by omega)];rfl
 ·rw[h];simp
 ·have:(bts s).all good=false:=by
   rw[List.all_eq_false]
   refine⟨c,hc,?_⟩
   unfold good
   simp only[Bool.and_eq_true,decide_eq_true_eq]
   omega
  rw[this];simp
theorem v8t{s:ByteArray}(h1: ¬200<s.size)(h2:Go.Lib.validD (bts s)=true)(h3: ∀c∈bts s,¬(c.toNat<32∨c.toNat=127)):vld s=true:=by
 unfold vld
 rw[h2,decide_eq_true (show s.size<=200 by omega)]
 simp only[Bool.and_true,Bool.true_and,List.all_eq_true]
 intro c hc
 have:=h3 c hc
 unfold good
 simp only[Bool.and_eq_true,decide_eq_true_eq]
 omega
theorem j9p{s:ByteArray}{K:Bool->Prop}(h:K (vld s)):Vj s K:=by
 unfold Vj z6n
 refine Cnd.mk (fun h1=>by rwa [j4y (.inl (by omega))] at h) fun h1=>v8s (by omega) (Cnd.mk (fun h2=> ?_) fun h2=>by rwa [j4y (.inr (.inl (by simpa using h2)))] at h)
 refine Lp1.ind (fun (i:Int)=>0<=i/\Clr (fun n=>n<32∨n=127) s i.toNat) (fun (i:Int)=>(s.size - i).toNat) ?_ ⟨by omega,Clr.zero⟩
 rintro i ⟨i0,hc⟩
 refine Cnd.mk (fun h3=>⟨by omega,fun b hb=> ?_⟩) fun h3=>by rwa [v8t (by omega) h2 (hc.all (by omega))] at h
 have e:=y3p i0 (by omega) hb
 have hm:b∈bts s:=e▸j36 (by omega)
 refine Cnd.mk (fun h4=>by rwa [j4y (.inr (.inr ⟨b,hm,.inl (by omega)⟩))] at h) fun h4=>⟨by omega,fun b' hb'=> ?_⟩
 rw[hb] at hb';cases hb'
 refine Cnd.mk (fun h5=>by rwa [j4y (.inr (.inr ⟨b,hm,.inr (by omega)⟩))] at h) fun h5=>⟨by unfold InI;omega,⟨by omega,fun j hj hs=> ?_⟩,by omega⟩
 by_cases hji:j<i.toNat
 ·exact hc j hji hs
 ·rw[show j=i.toNat by omega,←e];omega
theorem v4n{b:UInt8}(h:isD b=true):Go.IntKind.u8.wrap ((b.toNat:Int) - 48)=((b.toNat - 48:Nat):Int):=by
 simp only[isD,Bool.and_eq_true,decide_eq_true_eq] at h
 have:(b.toNat:Int) - 48=((b.toNat - 48:Nat):Int):=by omega
 rw[this]
 show ((b.toNat - 48:Nat):Int) % 256=_
 omega
theorem digP:RuneP fun n=>n<48∨57<n:=⟨fun n h=>by omega⟩
theorem v0h{l:List UInt8}:l.all isD=true↔ ∀c∈l,¬(c.toNat<48∨57<c.toNat):=by
 rw[List.all_eq_true]
 constructor
 ·intro h c hc;have:=h c hc;simp only[isD,Bool.and_eq_true,decide_eq_true_eq] at this;omega
 ·intro h c hc;have:=h c hc;simp only[isD,Bool.and_eq_true,decide_eq_true_eq];omega
theorem z25{l:List UInt8}{c:UInt8}(hc:c∈l)(h:c.toNat<48∨57<c.toNat):l.all isD=false:=by
 rw[Bool.eq_false_iff];intro e;exact v0h.1 e c hc h
theorem take_snoc{l:List UInt8}{i:Nat}{b:UInt8}(h:l[i]? =some b):l.take (i+1)=l.take i++[b]:=by rw[List.take_add_one,h];rfl
theorem j1y{s:ByteArray}(h:(bts (digs s)).all isD=false):pnum s=(0,1):=by unfold pnum;rw[if_pos h]
theorem j1z{s:ByteArray}(h:(bts (digs s)).all isD=true)(h0:(digs s).size=0∨((digs s)[0]? =some 48/\s≠ByteArray.mk (Array.mk [48]))):pnum s=(0,1):=by unfold pnum;rw[if_neg (by simp[h]),if_pos h0]
theorem j6t{s:ByteArray}(h:(bts (digs s)).all isD=true)(h0: ¬((digs s).size=0∨((digs s)[0]? =some 48/\s≠ByteArray.mk (Array.mk [48]))))(h1:1099511627776<valD 0 (bts (digs s))):pnum s=(0,3):=by unfold pnum;rw[if_neg (by simp[h]),if_neg h0,if_pos h1]
theorem v2h{s:ByteArray}(h:(bts (digs s)).all isD=true)(h0: ¬((digs s).size=0∨((digs s)[0]? =some 48/\s≠ByteArray.mk (Array.mk [48]))))(h1: ¬1099511627776<valD 0 (bts (digs s))):pnum s=(if (digs s).size<s.size then -(valD 0 (bts (digs s)):Int) else valD 0 (bts (digs s)),0):=by unfold pnum;rw[if_neg (by simp[h]),if_neg h0,if_neg h1]
theorem j9q{s:ByteArray}(h:(bts (digs s)).all isD=true)(h0: ¬((digs s).size=0∨((digs s)[0]? =some 48/\s≠ByteArray.mk (Array.mk [48]))))(hl:13<(digs s).size):1099511627776<valD 0 (bts (digs s)):=by
 have hs:s≠ByteArray.mk (Array.mk [48]):=by
  rintro rfl
  revert hl;decide
 cases hb:bts (digs s) with
 |nil=>have:=Gh (digs s);rw[hb] at this;simp at this;omega
 |cons c l=>
  have hc:(digs s)[0]? =some c:=by rw[q3w,hb];rfl
  have hc0:c≠48:=fun e=>h0 (.inr ⟨e▸hc,hs⟩)
  have hd:isD c=true:=by rw[hb,List.all_cons,Bool.and_eq_true] at h;exact h.1
  simp only[isD,Bool.and_eq_true,decide_eq_true_eq] at hd
  have hne:c.toNat≠48:=fun e=>hc0 (by rw[←UInt8.toNat_inj];exact e)
  have hlen:13<=l.length:=by have:=Gh (digs s);rw[hb] at this;simp at this;omega
  rw[j1x]
  have h1:=v0e l (z7o 0 c)
  have h2:10 ^ 13<=10 ^ l.length:=Nat.pow_le_pow_right (by decide) hlen
  have h3:1*10 ^ l.length<=z7o 0 c*10 ^ l.length:=Nat.mul_le_mul_right _ (by unfold z7o;omega)
  omega
theorem dsz{s:ByteArray}:(digs s).size<=s.size:=by
 unfold digs
 split
 ·rw[ByteArray.size_extract];omega
 ·omega
theorem j38{s:ByteArray}{K:Int->Int->Prop}(hs:s.size<=1000000000)(h:K (pnum s).1 (pnum s).2):Wf s K:=by
 unfold Wf
 refine Jn1.mk (fun d=>d=digs s) ?_ fun d hd=> ?_
 ·refine Cnd.mk (fun h0=>⟨by omega,fun b hb=>Cnd.mk (fun h1=>⟨by omega,?_⟩) fun h1=> ?_⟩) fun h0=> ?_
  ·have:b=45:=by rw[←UInt8.toNat_inj];show b.toNat=45;omega
   unfold digs;rw[if_pos (by rw[←this];exact hb)];congr 1
  ·rw[q8q];intro e;rw[show Int.toNat 0=0 from rfl] at hb;rw[hb] at e;cases e;exact h1 rfl
  ·rw[q8q];intro e;have:=(List.getElem?_eq_some_iff.1 (q3w.1 e)).1;rw[Gh] at this;omega
 subst hd
 generalize hd:digs s=d at*
 have hz:d.size<=s.size:=hd▸dsz
 refine Lp1.ind (fun (i:Int)=>0<=i/\i<=d.size/\Clr (fun n=>n<48∨57<n) d i.toNat) (fun (i:Int)=>(d.size - i).toNat) ?_ ⟨by omega,by omega,Clr.zero⟩
 rintro i ⟨i0,i1,hc⟩
 refine Cnd.mk (fun h3=>⟨by omega,fun b hb=> ?_⟩) fun h3=> ?_
 ·have e:=y3p i0 (by omega) hb
  have hm:b∈bts d:=e▸j36 (by omega)
  refine Cnd.mk (fun h4=> ?_) fun h4=>⟨by omega,fun b' hb'=> ?_⟩
  ·rwa [j1y (by rw[hd];exact z25 hm (.inl (by omega)))] at h
  rw[hb] at hb';cases hb'
  refine Cnd.mk (fun h5=> ?_) fun h5=>⟨by unfold InI;omega,⟨by omega,by omega,fun j hj hs=> ?_⟩,by omega⟩
  ·rwa [j1y (by rw[hd];exact z25 hm (.inr (by omega)))] at h
  by_cases hji:j<i.toNat
  ·exact hc j hji hs
  ·rw[show j=i.toNat by omega,←e];omega
 have hall:(bts d).all isD=true:=v0h.2 (hc.all (by omega))
 have hall':(bts (digs s)).all isD=true:=by rw[hd];exact hall
 have fin: ¬((digs s).size=0∨((digs s)[0]? =some 48/\s≠ByteArray.mk (Array.mk [48])))-> ¬13<d.size->Lp2 (fun (Qe Jr:Int) w8h=>Cnd (Jr<(↑d.size:Int)) (InI ((10:Int)*Qe)/\((0:Int)<=Jr/\Jr<(↑d.size:Int))/\ ∀b5,d[Jr.toNat]? =some b5->InI (Go.IntKind.u8.wrap ((↑b5.toNat:Int) - (48:Int)))/\InI ((10:Int)*Qe+Go.IntKind.u8.wrap ((↑b5.toNat:Int) - (48:Int)))/\InI (Jr+(1:Int))/\w8h ((10:Int)*Qe+Go.IntKind.u8.wrap ((↑b5.toNat:Int) - (48:Int))) (Jr+(1:Int))) (Cnd ((1099511627776:Int)<Qe) (K (0:Int) (3:Int)) (Cnd ((↑d.size:Int)<(↑s.size:Int)) (InI ((0:Int) - Qe)/\K ((0:Int) - Qe) (0:Int)) (K Qe (0:Int))))) (0:Int) (0:Int):=fun hg h13=>by
  refine Lp2.ind (fun (n j:Int)=>0<=j/\j<=d.size/\n=(valD 0 ((bts d).take j.toNat):Int)) (fun _ (j:Int)=>(d.size - j).toNat) ?_ ⟨by omega,by omega,by simp[valD]⟩
  rintro n j ⟨j0,j1,rfl⟩
  have hb1:valD 0 ((bts d).take j.toNat)<1*10 ^ 13:=by
   have h1:=v8l ((bts d).take j.toNat) 0 (by rw[List.all_eq_true] at hall⊢;exact fun c hc=>hall c (List.mem_of_mem_take hc))
   have h2:((bts d).take j.toNat).length<=13:=by rw[List.length_take,Gh];omega
   have h3:10 ^ ((bts d).take j.toNat).length<=10 ^ 13:=Nat.pow_le_pow_right (by decide) h2
   omega
  refine Cnd.mk (fun hc=>⟨by unfold InI;omega,by omega,fun b hb=> ?_⟩) fun hc=> ?_
  ·have hm:b∈bts d:=List.mem_of_getElem? (q3w.1 hb)
   have hdg:isD b=true:=by rw[List.all_eq_true] at hall;exact hall b hm
   have hdg':=hdg
   simp only[isD,Bool.and_eq_true,decide_eq_true_eq] at hdg'
   rw[v4n hdg]
   refine⟨by unfold InI;omega,by unfold InI;omega,by unfold InI;omega,⟨by omega,by omega,?_⟩,by omega⟩
   rw[show (j+1).toNat=j.toNat+1 by omega,take_snoc (q3w.1 hb),v8k]
   unfold z7o;push_cast;omega
  ·have ht:(bts d).take j.toNat=bts d:=List.take_of_length_le (by rw[Gh];omega)
   rw[ht] at hb1⊢
   refine Cnd.mk (fun h1=> ?_) fun h1=> ?_
   ·rwa [j6t hall' hg (by rw[hd];omega)] at h
   ·rw[v2h hall' hg (by rw[hd];omega),hd] at h
    refine Cnd.mk (fun h2=>⟨by unfold InI;omega,?_⟩) fun h2=> ?_
    ·rw[if_pos (by omega)] at h;rwa [Int.zero_sub]
    ·rwa [if_neg (by omega)] at h
 have gone: ∀{b:UInt8},d[0]? =some b->(b≠48∨s=ByteArray.mk (Array.mk [48]))->d.size≠0-> ¬((digs s).size=0∨((digs s)[0]? =some 48/\s≠ByteArray.mk (Array.mk [48]))):=by
  rw[hd]
  rintro b hb h1 h2 (h3|⟨h3,h4⟩)
  ·exact h2 h3
  ·rw[hb] at h3;cases h3;rcases h1 with h1|h1
   ·exact h1 rfl
   ·exact h4 h1
 refine Cnd.mk (fun h4=> ?_) fun h4=> ?_
 ·rwa [j1z hall' (.inl (by rw[hd];exact v8r.1 h4))] at h
 have h5:d.size≠0:=fun e=>h4 (v8r.2 e)
 refine⟨by omega,fun b hb=> ?_⟩
 have hb:d[0]? =some b:=hb
 refine Cnd.mk (fun h6=> ?_) fun h6=> ?_
 ·have h6:b=48:=by rw[←UInt8.toNat_inj];show b.toNat=48;omega
  refine Cnd.mk (fun h7=> ?_) fun h7=> ?_
  ·refine Cnd.mk (fun h8=> ?_) fun h8=>fin (gone hb (.inr h7) h5) (by omega)
   rwa [j6t hall' (gone hb (.inr h7) h5) (j9q hall' (gone hb (.inr h7) h5) (by rw[hd];omega))] at h
  ·rwa [j1z hall' (.inr ⟨by rw[hd,hb,h6],h7⟩)] at h
 ·have hg:=gone hb (.inl fun e=>h6 (by rw[e];rfl)) h5
  refine Cnd.mk (fun h8=> ?_) fun h8=>fin hg (by omega)
  rwa [j6t hall' hg (j9q hall' hg (by rw[hd];omega))] at h
inductive PtS(s:ByteArray):Int->Int->Int->Int->Int->Prop
 |s0 {o0 o1 o2:Int}:PtS s 0 0 o0 o1 o2
 |s1 {o1 o2:Int} (h0:dot s 0<s.size/\okp (Hk s 0)=true):PtS s ((dot s 0+1:Nat):Int) 1 (Hk s 0).1 o1 o2
 |s2 {o2:Int} (h0:dot s 0<s.size/\okp (Hk s 0)=true) (h1:dot s (dot s 0+1)<s.size/\okp (Hk s (dot s 0+1))=true):PtS s ((dot s (dot s 0+1)+1:Nat):Int) 2 (Hk s 0).1 (Hk s (dot s 0+1)).1 o2
 |s3 {a:Int} (h:w0x s):PtS s a 3 (Hk s 0).1 (Hk s (dot s 0+1)).1 (Hk s (dot s (dot s 0+1)+1)).1
theorem z3t{p:Int×Int}(h: ¬p.2=0∨p.1<0∨999999<p.1):okp p=false:=by
 unfold okp
 rw[Bool.eq_false_iff]
 simp only[ne_eq,Bool.and_eq_true,decide_eq_true_eq]
 omega
theorem w43{p:Int×Int}(h0:p.2=0)(h1: ¬p.1<0)(h2: ¬999999<p.1):okp p=true:=by
 unfold okp
 simp only[Bool.and_eq_true,decide_eq_true_eq]
 omega
theorem PtS.le{s:ByteArray}{a i o0 o1 o2:Int}(h:PtS s a i o0 o1 o2)(hi:i<3):0<=a/\a<=s.size:=by
 cases h with
 |s0=>omega
 |s1 h0=>omega
 |s2 h0 h1=>omega
 |s3=>omega
theorem PtS.no{s:ByteArray}{a i o0 o1 o2:Int}(h:PtS s a i o0 o1 o2)(hi:i<3)(hb:okp (Hk s a.toNat)=false∨(i<2/\ ¬dot s a.toNat<s.size)∨(i=2/\dot s a.toNat<s.size)): ¬w0x s:=by
 rintro⟨⟨v1,v2⟩,⟨v3,v4⟩,v5,v6⟩
 cases h with
 |s0=>
  simp only[Int.toNat_zero] at hb
  rcases hb with hb|hb|hb
  ·rw[hb] at v2;cases v2
  ·exact hb.2 v1
  ·omega
 |s1 h0=>
  simp only[Int.toNat_natCast] at hb
  rcases hb with hb|hb|hb
  ·rw[hb] at v4;cases v4
  ·exact hb.2 v3
  ·omega
 |s2 h0 h1=>
  simp only[Int.toNat_natCast] at hb
  rcases hb with hb|hb|hb
  ·rw[hb] at v6;cases v6
  ·omega
  ·exact v5 hb.2
 |s3=>omega
theorem z9y{s:ByteArray}{K:A3->Bool->Prop}(hs:s.size<=1000000000)(h:K (prt s).1 (prt s).2):q3a s K:=by
 unfold q3a z6p
 have no: ¬w0x s->K (0,0,0) false:=fun hn=>by rwa [y3o hn] at h
 refine LpH.ind (fun x=>PtS s x.1 x.2.1 x.2.2.1 x.2.2.2.1 x.2.2.2.2.1) (fun x=>(3 - x.2.1).toNat) ?_ .s0
 rintro⟨a,i,o0,o1,o2,x⟩ hp
 simp only at hp⊢
 refine Cnd.mk (fun hc=> ?_) fun hc=> ?_
 ·obtain⟨a0,a1⟩:=hp.le hc
  refine Lp1.ind (fun (j:Int)=>a<=j/\j<=s.size/\ ∀m:Nat,a.toNat<=m->(m:Int)<j->s[m]? ≠some 46) (fun (j:Int)=>(s.size - j).toNat) ?_ ⟨by omega,by omega,fun m h1 h2=>by omega⟩
  rintro j ⟨j0,j1,jn⟩
  have stop: ∀hj:dot s a.toNat=j.toNat,(0<=a/\a<=j/\j<=(s.size:Int))/\Wf (s.extract a.toNat j.toNat) fun Qf Zl=>Cnd (Zl=0) (Cnd (Qf<0) (K (0,0,0) false) (Cnd (999999<Qf) (K (0,0,0) false) (Cnd (decide (i<2)=decide (j<(s.size:Int))) ((0<=i/\i<((3:Nat):Int))/\((True/\(i=0->InI (j+1)/\InI (i+1)/\(PtS s (j+1) (i+1) Qf o1 o2/\(3 - (i+1)).toNat<(3 - i).toNat)))/\(i=1->InI (j+1)/\InI (i+1)/\(PtS s (j+1) (i+1) o0 Qf o2/\(3 - (i+1)).toNat<(3 - i).toNat)))/\(i=2->InI (j+1)/\InI (i+1)/\(PtS s (j+1) (i+1) o0 o1 Qf/\(3 - (i+1)).toNat<(3 - i).toNat))) (K (0,0,0) false)))) (K (0,0,0) false):=fun hj=>by
   refine⟨by omega,j38 (by rw[ByteArray.size_extract];omega) ?_⟩
   have ev:Hk s a.toNat=pnum (s.extract a.toNat j.toNat):=by unfold Hk;rw[hj]
   rw[←ev]
   refine Cnd.mk (fun h1=>Cnd.mk (fun h2=>no (hp.no hc (.inl (z3t (by omega))))) fun h2=>Cnd.mk (fun h3=>no (hp.no hc (.inl (z3t (by omega))))) fun h3=>Cnd.mk (fun h4=> ?_) fun h4=>no (hp.no hc ?_)) fun h1=>no (hp.no hc (.inl (z3t (by omega))))
   ·have ok:=w43 h1 h2 h3
    have h4:i<2↔j<(s.size:Int):=by simpa using h4
    have ej:j+1=((dot s a.toNat+1:Nat):Int):=by omega
    have hin:InI (j+1):=by unfold InI;omega
    have i0:0<=i:=by cases hp<;>omega
    have hin2:InI (i+1):=by unfold InI;omega
    cases hp with
    |s0=>
     refine⟨by omega,⟨⟨trivial,fun _=>⟨hin,hin2,?_,by omega⟩⟩,fun e=>by omega⟩,fun e=>by omega⟩
     rw[ej];exact .s1 ⟨by simp only[Int.toNat_zero] at hj⊢;omega,ok⟩
    |s1 h0=>
     refine⟨by omega,⟨⟨trivial,fun e=>by omega⟩,fun _=>⟨hin,hin2,?_,by omega⟩⟩,fun e=>by omega⟩
     rw[ej];simp only[Int.toNat_natCast] at hj ok⊢;exact .s2 h0 ⟨by omega,ok⟩
    |s2 h0 h1'=>
     refine⟨by omega,⟨⟨trivial,fun e=>by omega⟩,fun e=>by omega⟩,fun _=>⟨hin,hin2,?_,by omega⟩⟩
     simp only[Int.toNat_natCast] at hj ok⊢;exact .s3 ⟨h0,h1',by omega,ok⟩
    |s3=>omega
   ·have h4: ¬(i<2↔j<(s.size:Int)):=by simpa using h4
    have i0:0<=i:=by cases hp<;>omega
    rw[hj]
    by_cases h5:i<2
    ·exact .inr (.inl ⟨h5,fun h6=>h4 ⟨fun _=>by omega,fun _=>h5⟩⟩)
    ·refine .inr (.inr ⟨by omega,?_⟩)
     by_cases h6:j.toNat<s.size
     ·exact h6
     ·exact absurd ⟨fun h7=>absurd h7 h5,fun h7=>by omega⟩ h4
  refine Cnd.mk (fun hl=>⟨by omega,fun b hb=>Cnd.mk (fun hd=> ?_) fun hd=>⟨by unfold InI;omega,⟨by omega,by omega,fun m h1 h2=> ?_⟩,by omega⟩⟩) fun hl=> ?_
  ·have hb46:b=46:=by rw[←UInt8.toNat_inj];show b.toNat=46;omega
   exact stop (y8r (by omega) (hb46▸hb) fun m h1 h2=>jn m h1 (by omega))
  ·by_cases hm:(m:Int)<j
   ·exact jn m h1 hm
   ·rw[show m=j.toNat by omega,hb];intro e;cases e;exact hd rfl
  ·exact stop ((y53 (by omega) fun m h1 h2=>jn m h1 (by omega)).trans (by omega))
 ·cases hp with
  |s0=>omega
  |s1=>omega
  |s2=>omega
  |s3 hv=>rwa [v8p hv] at h
end Go.En
end
