/- In words: each decision has a value of its type, and its reason is true; for every input the law returns true. This is part 5 of 11. Conditions: those in the statements. -/
import Derived.Test.YtkbjibhkaddepaaGreatDoorRe4
import Derived.KernelRfl
import Derived.Lib.AppendIntMem
import Derived.Conc.MuLone
import GoSem.Core.Utf8
import Derived.Lib.ValidU
noncomputable section
set_option maxRecDepth 100000
namespace Go.Proofs.YtkbjibhkaddepaaGreatDoor
open Go Go.Proofs Go.RowKit Go.Fl
set_option maxHeartbeats 2000000 in
theorem q4h{σ:Hv}{w:World}(s_p:(List ByteArray))(v1:Value){K:(List ByteArray)->Prop}(hV:View σ w)(hr1:RSl 1 (REnc Qj) σ v1 s_p)(hP:Zo s_p K):
    Calls Tryz.prog 143 #[v1] w (fun e w1=> ∃(r1:(List ByteArray)) (v2:Value),e= .returned v2/\St ⟨w,σ,[]⟩ w1 σ [vec v2 9 1 r1.length ((r1).flatMap Qj)]/\Sml r1.length/\K r1):=by
 unfold Zo at hP
 obtain⟨a1,cap1,rfl⟩:=hr1.shape
 refine enter Tryz.func143 rfl rfl rfl ?_
 have hS:=St.start hV
 refine Qu (Qw (v:=(.slice none 0 0)) rfl (wpList_nil (Qo (wp_seq (Qu (Zg (v:=(.slice a1 s_p.length cap1)) rfl ?_))))))
 replace hP:=hP a1.isNone (RSl.isNil hr1)
 obtain⟨r1_,hn1⟩: ∃r:Bool,a1.isNone=r:=⟨_,rfl⟩
 rw[hn1] at hP
 refine y5i Tryz.underlying70 rfl hn1 (wpList_nil (Qo ?_))
 refine if_b rfl (fun ht1=> ?_) (fun ht1=> ?_)
 ·
  replace hP:=hP.1 ht1
  refine Qu (Qw (v:=(.slice none 0 0)) rfl (wpList_nil (Qo (wp_ret (By (ret1 rfl (show ev _ _ _=(.slice none 0 0) from rfl) ?_))))))
  have hS1:=hS.addNil 9 1
  exact⟨[],(.slice none 0 0),rfl,(St.back hS1 (Sub.refl _)),(by simp[Sml]),hP⟩
 ·
  replace hP:=hP.2 (by first|(rw[ht1];exact Bool.false_ne_true)|simp[ht1])
  refine wp_skip (Qo (Qu (j9l (cs:=[]) (e:=9) hS (fun _=>by kernel_rfl) ?_)))
  intro b1 w1 hS2
  refine Zg (v:=(.slice a1 s_p.length cap1)) rfl ?_
  have hS3:=hS2.asVec (i:=0) (ms':=[vec (.slice (some ⟨b1,0,none⟩) 0 0) 9 1 0 []]) (size:=1) rfl rfl (by unfold maxLen;omega) rfl
  obtain⟨hsm1,hP⟩:=hP
  refine u2n (enc:=Qj) (l:=s_p) (Ms:=fun v3=>[vec v3 9 1 s_p.length ((s_p).flatMap Qj)]) (k':=s_p.length) (xs':=(s_p).flatMap Qj) Tryz.underlying70 Tryz.type9 rfl rfl (bytes:=16) rfl rfl (Nat.succ_pos _) hS3 rfl (q:=0) rfl rfl hr1 hS3.view q5w y0j hsm1 (by omega) (by first|rfl|exact List.length_append.symm|simp) (List.nil_append _) (fun _=>rfl) ?_
  intro v3 w2 ho1 hS4
  refine Qw (v:=v3) rfl (wpList_nil (Qo (wp_ret (ret1 rfl (show ev _ _ _=v3 from rfl) ?_))))
  exact⟨s_p,v3,rfl,(St.back hS4 (Sub.refl _)),hsm1,hP⟩
set_option maxHeartbeats 2000000 in
theorem q4i{σ:Hv}{w:World}(s_p:(List ByteArray))(v_p:ByteArray)(v1:Value){K:Int->Prop}(hV:View σ w)(hr1:RSl 1 (REnc Qj) σ v1 s_p)(hP:Zp s_p v_p K):
    Calls Tryz.prog 79 #[v1,(.string v_p)] w (fun e w1=> ∃(r1:Int),e= .returned (.int .i64 r1)/\Grow [] σ w σ w1/\K r1):=by
 unfold Zp at hP
 obtain⟨a1,cap1,rfl⟩:=hr1.shape
 refine enter Tryz.func79 rfl rfl rfl ?_
 have hS:=St.start hV
 refine Qu (Qw (v:=(.int .i64 (0:Int))) rfl (wpList_nil (Qo (wp_seq (Qu (Zg (v:=(.slice a1 s_p.length cap1)) rfl (z3w rfl Tryz.underlying70 ?_)))))))
 have hlen1:=RSl.len63 hr1
 replace hP:=hP hlen1
 refine Zg (v:=(.int .i64 (0:Int))) rfl (wpList_nil (Qo (wp_block ?_)))
 refine w6q (fun k_2 f z=> ∃(σ1:Hv) (g:Fr),f=(upd (upd (upd (upd g 0 (.slice a1 s_p.length cap1)) 1 (.string v_p)) 7 (.int .i64 ((s_p.length:Nat):Int))) 8 (.int .i64 ((k_2:Nat):Int)))/\St ⟨w,σ,[]⟩ z σ1 []/\Sub σ σ1) hP ⟨σ,_,(Z5 rfl (Z5 rfl (Z5 rfl (Z5 rfl rfl)))),hS,(Sub.refl _)⟩ ?_
 clear hP
 rintro k_2 Y1 hP f w1 ⟨σ1,g,rfl,hS1,hsub1⟩
 refine Qu (v98 (r:=(decide (((k_2:Nat):Int)<((s_p.length:Nat):Int)))) rfl rfl rfl (wpList_nil (Qo (wp_seq ?_))))
 refine if_d (((k_2:Nat):Int)<((s_p.length:Nat):Int)) rfl (fun ht1=> ?_) (fun ht1=> ?_)
 ·
  replace hP:=hP.1 ht1
  refine wp_skip (Qo (wp_seq (wp_block (Qu (Zg (v:=(.int .i64 ((k_2:Nat):Int))) rfl (Qw (v:=(.int .i64 ((k_2:Nat):Int))) rfl (wpList_nil (Qo (Qu (Zg (v:=(.string v_p)) rfl (Zg (v:=(.slice a1 s_p.length cap1)) rfl (Zg (v:=(.int .i64 ((k_2:Nat):Int))) rfl ?_))))))))))))
  obtain⟨x1_,hx1⟩:=getq (l:=s_p) (k:=k_2) (by have:=ht1;omega)
  replace hP:=hP x1_ hx1
  obtain⟨ad1,cs1,ha1,hl1,hr2,hR1,hlt1⟩:=RSl.at hr1 hx1
  cases hR1
  refine R4 (k:=k_2) (a':=(ad1.add (k_2*1))) (congrArg (fun z=>Value.slice z _ _) ha1) rfl rfl hlt1 Tryz.underlying70 Tryz.sizeOf9 rfl (q8u (v:=(.string x1_)) rfl Tryz.isAgg9 (hr2.cell (View.of hsub1 hS1.view) 0 rfl rfl) (u2e (r:=(decide (v_p=x1_))) rfl rfl rfl (wpList_nil (Qo ?_))))
  refine if_d (v_p=x1_) rfl (fun ht2=> ?_) (fun ht2=> ?_)
  ·
   replace hP:=hP.1 ht2
   refine Qu (Zg (v:=(.int .i64 ((k_2:Nat):Int))) rfl (Qw (v:=(.int .i64 ((k_2:Nat):Int))) rfl (wpList_nil (Qo (wp_ret (j8k (By (By (j8k (By (ret1 rfl (show ev _ _ _=(.int .i64 ((k_2:Nat):Int)) from rfl) ?_)))))))))))
   exact⟨((k_2:Nat):Int),rfl,hS1.done.forget,hP⟩
  ·
   replace hP:=hP.2 ht2
   refine wp_skip (v7p (Qo (j5r (v7o (r:=((k_2+1:Nat):Int)) rfl rfl (nw (by omega) (by omega) (by have:=hlen1;omega)) (Zg (v:=(.int .i64 ((k_2+1:Nat):Int))) rfl (wpList_nil (Qo ?_)))))))
   exact⟨k_2+1,_,rfl,hP,σ1,_,(Z5 rfl (Z5 rfl (Z5 rfl (Z5 rfl rfl)))),hS1,hsub1⟩
 ·
  replace hP:=hP.2 ht1
  refine wp_exit (j0u (j0u (w0i (Qo (Qu (Qw (v:=(.int .i64 (-1:Int))) rfl (wpList_nil (Qo (wp_ret (ret1 rfl (show ev _ _ _=(.int .i64 (-1:Int)) from rfl) ?_))))))))))
  exact⟨(-1:Int),rfl,hS1.done.forget,hP⟩
set_option maxHeartbeats 2000000 in
theorem Vz{σ:Hv}{w:World}(s_p:(List ByteArray))(v_p:ByteArray)(v1:Value){K:Bool->Prop}(hV:View σ w)(hr1:RSl 1 (REnc Qj) σ v1 s_p)(hP:Q3 s_p v_p K):
    Calls Tryz.prog 45 #[v1,(.string v_p)] w (fun e w1=> ∃(r1:Bool),e= .returned (.bool (r1))/\Grow [] σ w σ w1/\K r1):=by
 unfold Q3 at hP
 obtain⟨a1,cap1,rfl⟩:=hr1.shape
 refine enter Tryz.func45 rfl rfl rfl ?_
 have hS:=St.start hV
 refine Qu (Qw (v:=(.bool false)) rfl (wpList_nil (Qo (Qu (Zg (v:=(.slice a1 s_p.length cap1)) rfl (Zg (v:=(.string v_p)) rfl ?_))))))
 obtain⟨Y1,hK1,hc1⟩:=hP
 refine z0g (args:=[(.slice a1 s_p.length cap1),(.string v_p)]) rfl Tryz.call79 (Calls.mono (q4i s_p v_p (.slice a1 s_p.length cap1) hS.view hr1 hc1) ?_)
 rintro _ w1 ⟨r1_,rfl,hg1,hY1⟩
 refine⟨_,rfl,?_⟩
 have hS1:=hS.grow hg1
 replace hP:=hK1 r1_ hY1
 refine u2d (r:=(decide ((0:Int)<=r1_))) rfl rfl rfl (Qw (v:=(.bool (decide ((0:Int)<=r1_)))) rfl (wpList_nil (Qo (wp_ret (ret1 rfl (show ev _ _ _=(.bool (decide ((0:Int)<=r1_))) from rfl) ?_)))))
 exact⟨(decide ((0:Int)<=r1_)),rfl,hS1.done.forget,hP⟩
set_option maxHeartbeats 2000000 in
theorem w_graph_Order{σ:Hv}{w:World}(nodes_p:(List ByteArray))(edges_p:(List (ByteArray×ByteArray)))(v1:Value)(v2:Value){K:(List ByteArray)->Int->Prop}(hV:View σ w)(hr1:RSl 1 (REnc Qj) σ v1 nodes_p)(hr2:RSl 2 (REnc u2o) σ v2 edges_p)(hP:P_graph_Order nodes_p edges_p K):
    Calls Tryz.prog 178 #[v1,v2] w (fun e w1=> ∃(r1:(List ByteArray)) (r2:Int) (v3:Value),e= .returned (.tuple #[v3,(.int .i64 r2)])/\St ⟨w,σ,[]⟩ w1 σ [vec v3 9 1 r1.length ((r1).flatMap Qj)]/\Sml r1.length/\K r1 r2):=by
 unfold P_graph_Order at hP
 obtain⟨a1,cap1,rfl⟩:=hr1.shape
 obtain⟨a2,cap2,rfl⟩:=hr2.shape
 refine enter Tryz.func178 rfl rfl rfl ?_
 have hS:=St.start hV
 refine Qu (Qw (v:=(.slice none 0 0)) rfl (Qw (v:=(.int .i64 (0:Int))) rfl (wpList_nil (Qo (Qu (Zg (v:=(.slice a1 nodes_p.length cap1)) rfl (z0g (args:=[(.slice a1 nodes_p.length cap1)]) rfl Tryz.call222 ?_)))))))
 refine enter Tryz.func222 rfl rfl rfl ?_
 refine Qu (u4r (cs:=[(.slice a1 nodes_p.length cap1)]) hS rfl rfl ?_)
 intro b1 w1 hS1
 refine Qw (v:= .nilFunc) rfl (wpList_nil (Qo (Qu (j5s (la:=[]) (lb:=[(.pointer (some ⟨b1,0,none⟩))]) rfl rfl (Qw (v:=(.func (.func 269) #[] #[(.pointer (some ⟨b1,0,none⟩))])) rfl (wpList_nil (Qo (wp_ret (ret1 rfl (show ev _ _ _=(.func (.func 269) #[] #[(.pointer (some ⟨b1,0,none⟩))]) from rfl) ?_)))))))))
 refine⟨_,rfl,?_⟩
 refine z0g (args:=[(.func (.func 269) #[] #[(.pointer (some ⟨b1,0,none⟩))])]) rfl Tryz.call221 ?_
 refine enter Tryz.func221 rfl rfl rfl ?_
 refine Qu (Qw (v:=(.slice none 0 0)) rfl (wpList_nil (Qo (Qu (Zg (v:=(.func (.func 269) #[] #[(.pointer (some ⟨b1,0,none⟩))])) rfl (z0g (args:=[(.func (.func 269) #[] #[(.pointer (some ⟨b1,0,none⟩))])]) rfl Tryz.call268 ?_))))))
 refine enter Tryz.func268 rfl rfl rfl ?_
 refine Qu (Qw (v:=(.slice none 0 0)) rfl (wpList_nil (Qo (Qu (Zg (v:=(.func (.func 269) #[] #[(.pointer (some ⟨b1,0,none⟩))])) rfl ?_)))))
 obtain⟨σ1,hS2,hsub1,hfr1⟩:=hS1.freeze' (i:=0) rfl rfl
 have hB1:σ1 b1=some (.cells #[(.slice a1 nodes_p.length cap1)] 70 (0,0)):=(hfr1 _ rfl).trans (hS1.get (i:=0) rfl)
 obtain⟨hsm1,hP⟩:=hP
 refine z0g (args:=[(.slice none 0 0),(.func (.func 269) #[] #[(.pointer (some ⟨b1,0,none⟩))])]) rfl Tryz.call296 (Calls.mono (u5i b1 (.slice a1 nodes_p.length cap1) nodes_p hS2.view hB1 (RSl.menc hsub1 hr1) hsm1) ?_)
 rintro _ w2 ⟨v4,rfl,hg1,ho1⟩
 refine⟨_,rfl,?_⟩
 have hS3:=hS2.growAdd hg1 (o:=vec v4 9 1 nodes_p.length ((nodes_p).flatMap Qj)) ho1
 refine Qw (v:=v4) rfl (wpList_nil (Qo (wp_ret (ret1 rfl (show ev _ _ _=v4 from rfl) ?_))))
 refine⟨_,rfl,?_⟩
 refine Qw (v:=v4) rfl (wpList_nil (Qo (Qu (Zg (v:=v4) rfl ?_))))
 refine z0g (args:=[v4]) rfl Tryz.call137 (Calls.mono (v50 Tryz.slices_Sort_string Tryz.slices_Sort_string_none hS3.view (hS3.get (i:=0) rfl) rfl (fun b hb=>hS3.off _ (List.mem_of_getElem? (i:=0) rfl) b hb) (by have:=hsm1;unfold Sml at this;omega)) ?_)
 rintro _ w3 ⟨rfl,hg2,ho2⟩
 refine⟨_,rfl,?_⟩
 have hS4:=hS3.growV (i:=0) (o':=vec v4 9 1 nodes_p.length ((srt nodes_p).flatMap Qj)) rfl hg2 rfl ho2 (ms':=[vec v4 9 1 nodes_p.length ((srt nodes_p).flatMap Qj)]) rfl
 have hS5:=hS4.re (ms':=[vec v4 9 1 ((srt nodes_p).length) ((srt nodes_p).flatMap Qj)]) (by simp only[J4])
 refine wpList_nil (Qo (Qu (Zg (v:=v4) rfl (Qw (v:=v4) rfl (wpList_nil (Qo (wp_ret (ret1 rfl (show ev _ _ _=v4 from rfl) ?_))))))))
 refine⟨_,rfl,?_⟩
 refine Qw (v:=v4) rfl (wpList_nil (Qo (wp_seq (Qu (Zg (v:=v4) rfl ?_)))))
 obtain⟨σ2,hS6,hsub2,hr4⟩:=hS5.peek (i:=0) rfl q5w (show Sml (srt nodes_p).length by rw[J4];exact hsm1)
 obtain⟨Y1,hK1,hc1⟩:=hP
 refine z0g (args:=[v4]) rfl Tryz.call143 (Calls.mono (q4h (srt nodes_p) v4 hS6.view hr4 hc1) ?_)
 rintro _ w4 ⟨r1_,v5,rfl,hg3,hl1,hY1⟩
 refine⟨_,rfl,?_⟩
 have hS7:=St.callM (ins:=[]) (rest:=[vec v4 9 1 ((srt nodes_p).length) ((srt nodes_p).flatMap Qj)]) (ms':=[vec v5 9 1 r1_.length ((r1_).flatMap Qj),vec v4 9 1 ((srt nodes_p).length) ((srt nodes_p).flatMap Qj)]) hS5 (St.back hg3 hsub2) rfl
 replace hP:=hK1 r1_ hY1
 obtain⟨hsm2,hP⟩:=hP
 refine z0g (args:=[v5]) rfl Tryz.call220 (Calls.mono (w0m Tryz.slices_Compact_string Tryz.slices_Compact_string_empty hS7.view (hS7.get (i:=0) rfl) rfl (fun b hb=>hS7.off _ (List.mem_of_getElem? (i:=0) rfl) b hb) (by have:=hl1;unfold Sml at this;omega)) ?_)
 rintro _ w5 ⟨v6,rfl,hf1,hg4,ho3⟩
 refine⟨_,rfl,?_⟩
 have ho4:=q07 ho3
 have hS8:=hS7.growV (i:=0) (o':=vec v6 9 1 ((cpt r1_).length) ((cpt r1_).flatMap Qj)) rfl hg4 hf1 ho3 (ms':=[vec v6 9 1 ((cpt r1_).length) ((cpt r1_).flatMap Qj),vec v4 9 1 ((srt nodes_p).length) ((srt nodes_p).flatMap Qj)]) rfl
 refine j25 hS8 rfl (i:=0) rfl Tryz.underlying70 ?_
 have hlen1:(cpt r1_).length<=9223372036854775807:=by have:=hsm2;unfold Sml at this;omega
 replace hP:=hP hlen1
 refine Zg (v:=v4) rfl (j25 hS8 rfl (i:=1) rfl Tryz.underlying70 ?_)
 have hlen2:(srt nodes_p).length<=9223372036854775807:=by have:=(show Sml (srt nodes_p).length by rw[J4];exact hsm1);unfold Sml at this;omega
 replace hP:=hP hlen2
 refine u4p (r:=(!decide ((((cpt r1_).length:Nat):Int)=(((srt nodes_p).length:Nat):Int)))) rfl rfl rfl (wpList_nil (Qo ?_))
 refine u2f ((((cpt r1_).length:Nat):Int)=(((srt nodes_p).length:Nat):Int)) rfl (fun ht1=> ?_) (fun ht1=> ?_)
 ·
  replace hP:=hP.2 ht1
  refine Qu (Qw (v:=(.slice none 0 0)) rfl (Qw (v:=(.int .i64 (10:Int))) rfl (wpList_nil (Qo (wp_ret (By (ret2 rfl (show ev _ _ _=(.slice none 0 0) from rfl) (show ev _ _ _=(.int .i64 (10:Int)) from rfl) ?_)))))))
  have hS9:=hS8.addNil 9 1
  exact⟨[],(10:Int),(.slice none 0 0),rfl,(St.back (hS9.keep 1 (ms':=[vec (.slice none 0 0) 9 1 0 []]) rfl) (Sub.refl _)),(by simp[Sml]),hP⟩
 ·
  replace hP:=hP.1 ht1
  refine wp_skip (Qo (Qu (v7u 9 1 Qj hS8 ?_)))
  intro b2 w6 hS10
  refine v2w (cs:=[(.map none)]) hS10 Tryz.zeroValue313 rfl ?_
  intro b3 w7 hS11
  refine v2v (T:=313) (vs:=[(.map (some b2))]) (cs':=[(.map (some b2))]) (ms':=(blk b3 313 [(.map (some b2))]::smap b2 (asl [])::vec v6 9 1 ((cpt r1_).length) ((cpt r1_).flatMap Qj)::vec v4 9 1 ((srt nodes_p).length) ((srt nodes_p).flatMap Qj)::Rf 9 1 Qj [])) (i:=0) hS11 rfl rfl rfl Tryz.sizeOf313 rfl (ones rfl) rfl (Nat.le_of_ble_eq_true rfl) rfl rfl ?_
  intro w8 hS12
  refine wpList_nil (Qo (wp_seq (Qu (Zg (v:=(.slice a2 edges_p.length cap2)) rfl (z3w rfl Tryz.underlying177 ?_)))))
  have hlen3:=RSl.len63 hr2
  replace hP:=hP hlen3
  refine Zg (v:=(.int .i64 (0:Int))) rfl (wpList_nil (Qo (wp_block ?_)))
  have hS13:=hS12.front 3 rfl (ms':=(vec v4 9 1 ((srt nodes_p).length) ((srt nodes_p).flatMap Qj)::blk b3 313 [(.map (some b2))]::smap b2 (asl [])::vec v6 9 1 ((cpt r1_).length) ((cpt r1_).flatMap Qj)::Rf 9 1 Qj [])) rfl
  have hS14:=hS13.front 3 rfl (ms':=(vec v6 9 1 ((cpt r1_).length) ((cpt r1_).flatMap Qj)::vec v4 9 1 ((srt nodes_p).length) ((srt nodes_p).flatMap Qj)::blk b3 313 [(.map (some b2))]::smap b2 (asl [])::Rf 9 1 Qj [])) rfl
  have hS15:=hS14.front 2 rfl (ms':=(blk b3 313 [(.map (some b2))]::vec v6 9 1 ((cpt r1_).length) ((cpt r1_).flatMap Qj)::vec v4 9 1 ((srt nodes_p).length) ((srt nodes_p).flatMap Qj)::smap b2 (asl [])::Rf 9 1 Qj [])) rfl
  have hS16:=hS15.front 3 rfl (ms':=(smap b2 (asl [])::blk b3 313 [(.map (some b2))]::vec v6 9 1 ((cpt r1_).length) ((cpt r1_).flatMap Qj)::vec v4 9 1 ((srt nodes_p).length) ((srt nodes_p).flatMap Qj)::Rf 9 1 Qj [])) rfl
  refine y5f (fun k_3 F_2 f z=> ∃(es2:EL ByteArray) (σ3:Hv) (g:Fr),f=(upd (upd (upd (upd (upd g 6 v4) 7 (.pointer (some ⟨b3,0,none⟩))) 24 (.slice a2 edges_p.length cap2)) 25 (.int .i64 ((edges_p.length:Nat):Int))) 26 (.int .i64 ((k_3:Nat):Int)))/\St ⟨w,σ,[]⟩ z σ3 (smap b2 (asl es2)::blk b3 313 [(.map (some b2))]::vec v6 9 1 ((cpt r1_).length) ((cpt r1_).flatMap Qj)::vec v4 9 1 ((srt nodes_p).length) ((srt nodes_p).flatMap Qj)::Rf 9 1 Qj es2)/\Sub σ1 σ3/\ELF es2 F_2) hP ⟨[],σ1,_,(Z5 rfl (Z5 rfl (Z5 rfl (Z5 rfl (Z5 rfl rfl))))),hS16,(Sub.refl _),ELF.nil⟩ ?_
  clear hP
  rintro k_3 F_2 Y2 hP f w9 ⟨es2,σ3,g,rfl,hS17,hsub3,hF2⟩
  refine Qu (v98 (r:=(decide (((k_3:Nat):Int)<((edges_p.length:Nat):Int)))) rfl rfl rfl (wpList_nil (Qo (wp_seq ?_))))
  refine if_d (((k_3:Nat):Int)<((edges_p.length:Nat):Int)) rfl (fun ht2=> ?_) (fun ht2=> ?_)
  ·
   replace hP:=hP.1 ht2
   refine wp_skip (Qo (wp_seq (wp_block (Qu ?_))))
   obtain⟨x1_,hx1⟩:=getq (l:=edges_p) (k:=k_3) (by have:=ht2;omega)
   replace hP:=hP x1_ hx1
   obtain⟨ad1,cs1,ha1,hl2,hr6,hR1,hlt1⟩:=RSl.at hr2 hx1
   cases hR1
   refine R4 (k:=k_3) (a':=(ad1.add (k_3*2))) (congrArg (fun z=>Value.slice z _ _) ha1) rfl rfl hlt1 Tryz.underlying177 Tryz.sizeOf238 rfl (y8v (cs:=[(.string x1_.1),(.string x1_.2)]) rfl Tryz.isAgg238 Tryz.sizeOf238 rfl (hr6.row (View.of (Sub.trans hsub1 hsub3) hS17.view)) (v2w (cs:=[(.string (⟨#[]⟩:ByteArray)),(.string (⟨#[]⟩:ByteArray))]) hS17 Tryz.zeroValue238 rfl ?_))
   intro b4 w10 hS18
   refine v2v (T:=238) (vs:=[(.string x1_.1),(.string x1_.2)]) (cs':=[(.string x1_.1),(.string x1_.2)]) (ms':=(blk b4 238 [(.string x1_.1),(.string x1_.2)]::smap b2 (asl es2)::blk b3 313 [(.map (some b2))]::vec v6 9 1 ((cpt r1_).length) ((cpt r1_).flatMap Qj)::vec v4 9 1 ((srt nodes_p).length) ((srt nodes_p).flatMap Qj)::Rf 9 1 Qj es2)) (i:=0) hS18 rfl rfl rfl Tryz.sizeOf238 rfl (ones rfl) rfl (Nat.le_of_ble_eq_true rfl) rfl rfl ?_
   intro w11 hS19
   refine wpList_nil (Qo (wp_seq (Qu (Zg (v:=v4) rfl (w0f (a':=⟨b4,0,none⟩) rfl Tryz.underlying238 rfl Tryz.sizeOf9 rfl (q8u (v:=(.string x1_.1)) rfl Tryz.isAgg9 (hS19.cell (i:=0) rfl rfl) ?_))))))
   obtain⟨σ4,hS20,hsub4,hr7⟩:=hS19.peek (i:=4) rfl q5w (show Sml (srt nodes_p).length by rw[J4];exact hsm1)
   obtain⟨Y3,hK2,hc2⟩:=hP
   refine z0g (args:=[v4,(.string x1_.1)]) rfl Tryz.call45 (Calls.mono (Vz (srt nodes_p) x1_.1 v4 hS20.view hr7 hc2) ?_)
   rintro _ w12 ⟨r2_,rfl,hg5,hY2⟩
   refine⟨_,rfl,?_⟩
   have hg5b:=hg5.back hsub4
   have hS21:=hS19.grow hg5b
   replace hP:=hK2 r2_ hY2
   refine y47 (r:=(!r2_)) rfl rfl ?_
   rcases Bool.eq_false_or_eq_true (r2_) with hb1|hb1
   ·
    replace hP:=hP.1 hb1
    refine Zg (v:=(.bool false)) (congrArg Value.bool (congrArg Bool.not hb1)) (o_on rfl rfl (Zg (v:=v4) rfl (o_on rfl rfl (w0f (a':=⟨b4,1,none⟩) rfl Tryz.underlying238 rfl Tryz.sizeOf9 rfl (o_on rfl rfl (q8u (v:=(.string x1_.2)) rfl Tryz.isAgg9 (hS21.cell (i:=0) rfl rfl) (o_on rfl rfl ?_)))))))
    obtain⟨σ5,hS22,hsub5,hr8⟩:=hS21.peek (i:=4) rfl q5w (show Sml (srt nodes_p).length by rw[J4];exact hsm1)
    obtain⟨Y4,hK3,hc3⟩:=hP
    refine z0g (args:=[v4,(.string x1_.2)]) rfl Tryz.call45 (Calls.mono (Vz (srt nodes_p) x1_.2 v4 hS22.view hr8 hc3) ?_)
    rintro _ w13 ⟨r3_,rfl,hg6,hY3⟩
    refine⟨_,rfl,?_⟩
    have hg6b:=hg6.back hsub5
    have hS23:=hS21.grow hg6b
    replace hP:=hK3 r3_ hY3
    refine o_on rfl rfl (y47 (r:=(!r3_)) rfl rfl (y45 (v:=(.bool (!r3_))) rfl rfl (wpList_nil (Qo ?_))))
    refine u2g rfl (fun ht3=> ?_) (fun ht3=> ?_)
    ·
     replace hP:=hP.2 (by first|(rw[ht3];exact Bool.false_ne_true)|simp[ht3])
     refine Qu (Qw (v:=(.slice none 0 0)) rfl (Qw (v:=(.int .i64 (11:Int))) rfl (wpList_nil (Qo (wp_ret (By (j8k (By (By (j8k (By (ret2 rfl (show ev _ _ _=(.slice none 0 0) from rfl) (show ev _ _ _=(.int .i64 (11:Int)) from rfl) ?_))))))))))))
     have hS24:=hS23.addNil 9 1
     exact⟨[],(11:Int),(.slice none 0 0),rfl,(St.back (hS24.keep 1 (ms':=[vec (.slice none 0 0) 9 1 0 []]) rfl) (Sub.refl _)),(by simp[Sml]),hP⟩
    ·
     replace hP:=hP.1 ht3
     refine wp_skip (Qo (dr (fun z=>St ⟨w,σ,[]⟩ z σ3 [blk b4 238 [(.string x1_.1),(.string x1_.2)],blk b3 313 [(.map (some b2))],vec v6 9 1 ((cpt r1_).length) ((cpt r1_).flatMap Qj),vec v4 9 1 ((srt nodes_p).length) ((srt nodes_p).flatMap Qj)]) (by kernel_rfl) rfl ?_))
     have hS25:=hS23.drew
     refine dt 0 1 (v:=(.map (some b2))) (by kernel_rfl) rfl rfl (fun _ _ _ h=>h) (hS25.sublist (.cons_cons _ (.cons _ (.cons_cons _ (.cons_cons _ (.cons_cons _ (List.nil_sublist _))))))) (fun _ hJ _ hK=>q8u (v:=(.map (some b2))) rfl Tryz.isAgg313 (hJ.cell (i:=1) rfl rfl) ⟨rfl,hK⟩) (dt 1 3 (v:=(.pointer (some ⟨b4,0,none⟩))) (by kernel_rfl) rfl rfl (fun _ _ _ h=>h) (hS25.sublist (.cons_cons _ (.cons _ (.cons_cons _ (.cons_cons _ (.cons_cons _ (List.nil_sublist _))))))) (fun _ _ _ hK=>w0f (a':=⟨b4,0,none⟩) rfl Tryz.underlying238 rfl Tryz.sizeOf9 rfl ⟨rfl,hK⟩) (dt 2 7 (v:=(.string x1_.1)) (by kernel_rfl) rfl rfl (fun _ _ _ h=>h) (hS25.sublist (.cons_cons _ (.cons _ (.cons_cons _ (.cons_cons _ (.cons_cons _ (List.nil_sublist _))))))) (fun _ hJ _ hK=>q8u (v:=(.string x1_.1)) rfl Tryz.isAgg9 (hJ.cell (i:=0) rfl rfl) ⟨rfl,hK⟩) (dt 3 15 (v:=(.map (some b2))) (by kernel_rfl) rfl rfl (fun _ _ _ h=>h) (hS25.sublist (.cons_cons _ (.cons _ (.cons_cons _ (.cons_cons _ (.cons_cons _ (List.nil_sublist _))))))) (fun _ hJ _ hK=>q8u (v:=(.map (some b2))) rfl Tryz.isAgg313 (hJ.cell (i:=1) rfl rfl) ⟨rfl,hK⟩) (dt 4 31 (v:=(.pointer (some ⟨b4,0,none⟩))) (by kernel_rfl) rfl rfl (fun _ _ _ h=>h) (hS25.sublist (.cons_cons _ (.cons _ (.cons_cons _ (.cons_cons _ (.cons_cons _ (List.nil_sublist _))))))) (fun _ _ _ hK=>w0f (a':=⟨b4,0,none⟩) rfl Tryz.underlying238 rfl Tryz.sizeOf9 rfl ⟨rfl,hK⟩) (dt 5 63 (v:=(.string x1_.1)) (by kernel_rfl) rfl rfl (fun _ _ _ h=>h) (hS25.sublist (.cons_cons _ (.cons _ (.cons_cons _ (.cons_cons _ (.cons_cons _ (List.nil_sublist _))))))) (fun _ hJ _ hK=>q8u (v:=(.string x1_.1)) rfl Tryz.isAgg9 (hJ.cell (i:=0) rfl rfl) ⟨rfl,hK⟩) (dt 7 191 (v:=(.pointer (some ⟨b4,1,none⟩))) (by kernel_rfl) rfl rfl (fun _ _ _ h=>h) (hS25.sublist (.cons_cons _ (.cons _ (.cons_cons _ (.cons_cons _ (.cons_cons _ (List.nil_sublist _))))))) (fun _ _ _ hK=>w0f (a':=⟨b4,1,none⟩) rfl Tryz.underlying238 rfl Tryz.sizeOf9 rfl ⟨rfl,hK⟩) (dt 8 447 (v:=(.string x1_.2)) (by kernel_rfl) rfl rfl (fun _ _ _ h=>h) (hS25.sublist (.cons_cons _ (.cons _ (.cons_cons _ (.cons_cons _ (.cons_cons _ (List.nil_sublist _))))))) (fun _ hJ _ hK=>q8u (v:=(.string x1_.2)) rfl Tryz.isAgg9 (hJ.cell (i:=0) rfl rfl) ⟨rfl,hK⟩) ?_)))))))
     refine d2 6 9 511 959 (by kernel_rfl) rfl rfl rfl rfl ?_ ?_
     ·
      obtain⟨v7,hv1⟩: ∃v,(asl es2 x1_.1).getD (.slice none 0 0)=v:=⟨_,rfl⟩
      refine y0h (i:=1) (v:=v7) hS25 rfl rfl rfl Tryz.underlying313 Tryz.underlying9 Tryz.zeroValue70 hv1 (wpList_nil ?_)
      refine⟨rfl,(hS25.sublist (.cons_cons _ (.cons _ (.cons_cons _ (.cons_cons _ (.cons_cons _ (List.nil_sublist _))))))),?_⟩
      refine d1 9 1023 (by kernel_rfl) rfl (j9l (cs:=[(.string x1_.2)]) (e:=9) hS25 (fun _=>by kernel_rfl) ?_)
      intro b5 w14 hS26
      refine wpList_nil ?_
      refine⟨rfl,(hS26.sublist (.cons _ (.cons_cons _ (.cons _ (.cons_cons _ (.cons_cons _ (.cons_cons _ (List.nil_sublist _)))))))),?_⟩
      refine d1 10 2047 (by kernel_rfl) rfl ?_
      obtain⟨es3,hS27,hL1,hl3⟩:=St.borrow (ms:=[blk b5 9 [(.string x1_.2)],blk b4 238 [(.string x1_.1),(.string x1_.2)],smap b2 (asl es2),blk b3 313 [(.map (some b2))],vec v6 9 1 ((cpt r1_).length) ((cpt r1_).flatMap Qj),vec v4 9 1 ((srt nodes_p).length) ((srt nodes_p).flatMap Qj)]) hS26 hF2 x1_.1 hv1
      obtain⟨hsm3,hP⟩:=hP
      refine y83 (Ms:=fun v8=>(vec v8 9 1 ((((F_2 x1_.1).getD [])++[x1_.2]).length) ((((F_2 x1_.1).getD [])++[x1_.2]).flatMap Qj)::blk b5 9 [(.string x1_.2)]::blk b4 238 [(.string x1_.1),(.string x1_.2)]::smap b2 (asl es2)::blk b3 313 [(.map (some b2))]::vec v6 9 1 ((cpt r1_).length) ((cpt r1_).flatMap Qj)::vec v4 9 1 ((srt nodes_p).length) ((srt nodes_p).flatMap Qj)::Rf 9 1 Qj es3)) (k':=(((F_2 x1_.1).getD [])++[x1_.2]).length) (xs':=(((F_2 x1_.1).getD [])++[x1_.2]).flatMap Qj) Tryz.underlying70 Tryz.type9 rfl rfl (bytes:=16) rfl rfl (Nat.succ_pos _) hS27 rfl (q:=0) rfl rfl rfl (z1s (hS27.get (i:=1) rfl)) (ones rfl) hsm3 (by omega) (by first|rfl|exact List.length_append.symm|simp) (by simp[Qj]) (fun _=>rfl) ?_
      intro v8 w15 ho5 hS28
      have hS29:=hS28.drop 1 (ms':=(vec v8 9 1 ((((F_2 x1_.1).getD [])++[x1_.2]).length) ((((F_2 x1_.1).getD [])++[x1_.2]).flatMap Qj)::blk b4 238 [(.string x1_.1),(.string x1_.2)]::smap b2 (asl es2)::blk b3 313 [(.map (some b2))]::vec v6 9 1 ((cpt r1_).length) ((cpt r1_).flatMap Qj)::vec v4 9 1 ((srt nodes_p).length) ((srt nodes_p).flatMap Qj)::Rf 9 1 Qj es3)) rfl
      refine wpList_nil ?_
      refine⟨rfl,(hS29.sublist (.cons _ (.cons_cons _ (.cons _ (.cons_cons _ (.cons_cons _ (.cons_cons _ (List.nil_sublist _)))))))),?_⟩
      refine d1 11 4095 (by kernel_rfl) rfl (y80 (v:=v8) (i:=2) (ms':=(vec v8 9 1 ((((F_2 x1_.1).getD [])++[x1_.2]).length) ((((F_2 x1_.1).getD [])++[x1_.2]).flatMap Qj)::blk b4 238 [(.string x1_.1),(.string x1_.2)]::smap b2 (fun k'=>if k'=x1_.1 then some v8 else asl es2 k')::blk b3 313 [(.map (some b2))]::vec v6 9 1 ((cpt r1_).length) ((cpt r1_).flatMap Qj)::vec v4 9 1 ((srt nodes_p).length) ((srt nodes_p).flatMap Qj)::Rf 9 1 Qj es3)) hS29 rfl rfl rfl rfl Tryz.underlying313 Tryz.underlying9 rfl ?_)
      intro w16 hS30
      have hS32:=St.giveback (ms:=[blk b4 238 [(.string x1_.1),(.string x1_.2)],smap b2 (fun k'=>if k'=x1_.1 then some v8 else asl es2 k'),blk b3 313 [(.map (some b2))],vec v6 9 1 ((cpt r1_).length) ((cpt r1_).flatMap Qj),vec v4 9 1 ((srt nodes_p).length) ((srt nodes_p).flatMap Qj)]) (ms':=[blk b4 238 [(.string x1_.1),(.string x1_.2)],smap b2 (asl ((x1_.1,v8,((F_2 x1_.1).getD [])++[x1_.2])::es3)),blk b3 313 [(.map (some b2))],vec v6 9 1 ((cpt r1_).length) ((cpt r1_).flatMap Qj),vec v4 9 1 ((srt nodes_p).length) ((srt nodes_p).flatMap Qj)]) (i:=1) hS30 hL1 rfl rfl
      have hF3:=ELF.put (v:=v8) hF2 hL1 hsm3
      refine wpList_nil ?_
      refine⟨rfl,(hS32.sublist (.cons_cons _ (.cons _ (.cons_cons _ (.cons_cons _ (.cons_cons _ (List.nil_sublist _))))))),j9m (J':=fun z=>St ⟨w,σ,[]⟩ z σ3 (blk b4 238 [(.string x1_.1),(.string x1_.2)]::smap b2 (asl ((x1_.1,v8,((F_2 x1_.1).getD [])++[x1_.2])::es3))::blk b3 313 [(.map (some b2))]::vec v6 9 1 ((cpt r1_).length) ((cpt r1_).flatMap Qj)::vec v4 9 1 ((srt nodes_p).length) ((srt nodes_p).flatMap Qj)::Rf 9 1 Qj ((x1_.1,v8,((F_2 x1_.1).getD [])++[x1_.2])::es3))) (fun w h=>h.sublist (.cons_cons _ (.cons _ (.cons_cons _ (.cons_cons _ (.cons_cons _ (List.nil_sublist _))))))) _ _ _ _ ?_⟩
      refine dz (by kernel_rfl) (v7p (Qo (j5r (v7o (r:=((k_3+1:Nat):Int)) rfl rfl (nw (by omega) (by omega) (by have:=hlen3;omega)) (Zg (v:=(.int .i64 ((k_3+1:Nat):Int))) rfl (wpList_nil (Qo ?_)))))))
      exact⟨k_3+1,(put F_2 x1_.1 (((F_2 x1_.1).getD [])++[x1_.2])),_,rfl,hP,((x1_.1,v8,((F_2 x1_.1).getD [])++[x1_.2])::es3),σ3,_,(Z5 rfl (Z5 rfl (Z5 rfl (Z5 rfl (Z5 rfl rfl))))),(hS32.sublist (ms':=(smap b2 (asl ((x1_.1,v8,((F_2 x1_.1).getD [])++[x1_.2])::es3))::blk b3 313 [(.map (some b2))]::vec v6 9 1 ((cpt r1_).length) ((cpt r1_).flatMap Qj)::vec v4 9 1 ((srt nodes_p).length) ((srt nodes_p).flatMap Qj)::Rf 9 1 Qj ((x1_.1,v8,((F_2 x1_.1).getD [])++[x1_.2])::es3))) (.cons _ (List.Sublist.refl _))),hsub3,hF3⟩
     ·
      refine j9l (cs:=[(.string x1_.2)]) (e:=9) hS25 (fun _=>by kernel_rfl) ?_
      intro b5 w14 hS26
      refine wpList_nil ?_
      refine⟨rfl,(hS26.sublist (.cons _ (.cons_cons _ (.cons _ (.cons_cons _ (.cons_cons _ (.cons_cons _ (List.nil_sublist _)))))))),?_⟩
      refine d1 6 1023 (by kernel_rfl) rfl ?_
      obtain⟨v7,hv1⟩: ∃v,(asl es2 x1_.1).getD (.slice none 0 0)=v:=⟨_,rfl⟩
      refine y0h (i:=2) (v:=v7) hS26 rfl rfl rfl Tryz.underlying313 Tryz.underlying9 Tryz.zeroValue70 hv1 (wpList_nil ?_)
      refine⟨rfl,(hS26.sublist (.cons _ (.cons_cons _ (.cons _ (.cons_cons _ (.cons_cons _ (.cons_cons _ (List.nil_sublist _)))))))),?_⟩
      refine d1 10 2047 (by kernel_rfl) rfl ?_
      obtain⟨es3,hS27,hL1,hl3⟩:=St.borrow (ms:=[blk b5 9 [(.string x1_.2)],blk b4 238 [(.string x1_.1),(.string x1_.2)],smap b2 (asl es2),blk b3 313 [(.map (some b2))],vec v6 9 1 ((cpt r1_).length) ((cpt r1_).flatMap Qj),vec v4 9 1 ((srt nodes_p).length) ((srt nodes_p).flatMap Qj)]) hS26 hF2 x1_.1 hv1
      obtain⟨hsm3,hP⟩:=hP
      refine y83 (Ms:=fun v8=>(vec v8 9 1 ((((F_2 x1_.1).getD [])++[x1_.2]).length) ((((F_2 x1_.1).getD [])++[x1_.2]).flatMap Qj)::blk b5 9 [(.string x1_.2)]::blk b4 238 [(.string x1_.1),(.string x1_.2)]::smap b2 (asl es2)::blk b3 313 [(.map (some b2))]::vec v6 9 1 ((cpt r1_).length) ((cpt r1_).flatMap Qj)::vec v4 9 1 ((srt nodes_p).length) ((srt nodes_p).flatMap Qj)::Rf 9 1 Qj es3)) (k':=(((F_2 x1_.1).getD [])++[x1_.2]).length) (xs':=(((F_2 x1_.1).getD [])++[x1_.2]).flatMap Qj) Tryz.underlying70 Tryz.type9 rfl rfl (bytes:=16) rfl rfl (Nat.succ_pos _) hS27 rfl (q:=0) rfl rfl rfl (z1s (hS27.get (i:=1) rfl)) (ones rfl) hsm3 (by omega) (by first|rfl|exact List.length_append.symm|simp) (by simp[Qj]) (fun _=>rfl) ?_
      intro v8 w15 ho5 hS28
      have hS29:=hS28.drop 1 (ms':=(vec v8 9 1 ((((F_2 x1_.1).getD [])++[x1_.2]).length) ((((F_2 x1_.1).getD [])++[x1_.2]).flatMap Qj)::blk b4 238 [(.string x1_.1),(.string x1_.2)]::smap b2 (asl es2)::blk b3 313 [(.map (some b2))]::vec v6 9 1 ((cpt r1_).length) ((cpt r1_).flatMap Qj)::vec v4 9 1 ((srt nodes_p).length) ((srt nodes_p).flatMap Qj)::Rf 9 1 Qj es3)) rfl
      refine wpList_nil ?_
      refine⟨rfl,(hS29.sublist (.cons _ (.cons_cons _ (.cons _ (.cons_cons _ (.cons_cons _ (.cons_cons _ (List.nil_sublist _)))))))),?_⟩
      refine d1 11 4095 (by kernel_rfl) rfl (y80 (v:=v8) (i:=2) (ms':=(vec v8 9 1 ((((F_2 x1_.1).getD [])++[x1_.2]).length) ((((F_2 x1_.1).getD [])++[x1_.2]).flatMap Qj)::blk b4 238 [(.string x1_.1),(.string x1_.2)]::smap b2 (fun k'=>if k'=x1_.1 then some v8 else asl es2 k')::blk b3 313 [(.map (some b2))]::vec v6 9 1 ((cpt r1_).length) ((cpt r1_).flatMap Qj)::vec v4 9 1 ((srt nodes_p).length) ((srt nodes_p).flatMap Qj)::Rf 9 1 Qj es3)) hS29 rfl rfl rfl rfl Tryz.underlying313 Tryz.underlying9 rfl ?_)
      intro w16 hS30
      have hS32:=St.giveback (ms:=[blk b4 238 [(.string x1_.1),(.string x1_.2)],smap b2 (fun k'=>if k'=x1_.1 then some v8 else asl es2 k'),blk b3 313 [(.map (some b2))],vec v6 9 1 ((cpt r1_).length) ((cpt r1_).flatMap Qj),vec v4 9 1 ((srt nodes_p).length) ((srt nodes_p).flatMap Qj)]) (ms':=[blk b4 238 [(.string x1_.1),(.string x1_.2)],smap b2 (asl ((x1_.1,v8,((F_2 x1_.1).getD [])++[x1_.2])::es3)),blk b3 313 [(.map (some b2))],vec v6 9 1 ((cpt r1_).length) ((cpt r1_).flatMap Qj),vec v4 9 1 ((srt nodes_p).length) ((srt nodes_p).flatMap Qj)]) (i:=1) hS30 hL1 rfl rfl
      have hF3:=ELF.put (v:=v8) hF2 hL1 hsm3
      refine wpList_nil ?_
      refine⟨rfl,(hS32.sublist (.cons_cons _ (.cons _ (.cons_cons _ (.cons_cons _ (.cons_cons _ (List.nil_sublist _))))))),j9m (J':=fun z=>St ⟨w,σ,[]⟩ z σ3 (blk b4 238 [(.string x1_.1),(.string x1_.2)]::smap b2 (asl ((x1_.1,v8,((F_2 x1_.1).getD [])++[x1_.2])::es3))::blk b3 313 [(.map (some b2))]::vec v6 9 1 ((cpt r1_).length) ((cpt r1_).flatMap Qj)::vec v4 9 1 ((srt nodes_p).length) ((srt nodes_p).flatMap Qj)::Rf 9 1 Qj ((x1_.1,v8,((F_2 x1_.1).getD [])++[x1_.2])::es3))) (fun w h=>h.sublist (.cons_cons _ (.cons _ (.cons_cons _ (.cons_cons _ (.cons_cons _ (List.nil_sublist _))))))) _ _ _ _ ?_⟩
      refine dz (by kernel_rfl) (v7p (Qo (j5r (v7o (r:=((k_3+1:Nat):Int)) rfl rfl (nw (by omega) (by omega) (by have:=hlen3;omega)) (Zg (v:=(.int .i64 ((k_3+1:Nat):Int))) rfl (wpList_nil (Qo ?_)))))))
      exact⟨k_3+1,(put F_2 x1_.1 (((F_2 x1_.1).getD [])++[x1_.2])),_,rfl,hP,((x1_.1,v8,((F_2 x1_.1).getD [])++[x1_.2])::es3),σ3,_,(Z5 rfl (Z5 rfl (Z5 rfl (Z5 rfl (Z5 rfl rfl))))),(hS32.sublist (ms':=(smap b2 (asl ((x1_.1,v8,((F_2 x1_.1).getD [])++[x1_.2])::es3))::blk b3 313 [(.map (some b2))]::vec v6 9 1 ((cpt r1_).length) ((cpt r1_).flatMap Qj)::vec v4 9 1 ((srt nodes_p).length) ((srt nodes_p).flatMap Qj)::Rf 9 1 Qj ((x1_.1,v8,((F_2 x1_.1).getD [])++[x1_.2])::es3))) (.cons _ (List.Sublist.refl _))),hsub3,hF3⟩
   ·
    replace hP:=hP.2 (by first|(rw[hb1];exact Bool.false_ne_true)|simp[hb1])
    refine Zg (v:=(.bool true)) (congrArg Value.bool (congrArg Bool.not hb1)) (v97 rfl rfl (v97 rfl rfl (v97 rfl rfl (v97 rfl rfl (v97 rfl rfl (y44 (v:=(.bool true)) rfl rfl (wpList_nil (Qo (if_t rfl (Qu (Qw (v:=(.slice none 0 0)) rfl (Qw (v:=(.int .i64 (11:Int))) rfl (wpList_nil (Qo (wp_ret (By (j8k (By (By (j8k (By (ret2 rfl (show ev _ _ _=(.slice none 0 0) from rfl) (show ev _ _ _=(.int .i64 (11:Int)) from rfl) ?_))))))))))))))))))))))
    have hS33:=hS21.addNil 9 1
    exact⟨[],(11:Int),(.slice none 0 0),rfl,(St.back (hS33.keep 1 (ms':=[vec (.slice none 0 0) 9 1 0 []]) rfl) (Sub.refl _)),(by simp[Sml]),hP⟩
  ·
   replace hP:=hP.2 ht2
   refine wp_exit (j0u (j0u (w0i (Qo (Qu (Qw (v:=(.slice none 0 0)) rfl (wpList_nil (Qo (Qu (y81 (fun y:Bool=>(Value.bool (y))) hS17 ?_))))))))))
   intro b6 w17 hS34
   refine v2w (cs:=[(.map none)]) hS34 Tryz.zeroValue60 rfl ?_
   intro b7 w18 hS35
   refine v2v (T:=60) (vs:=[(.map (some b6))]) (cs':=[(.map (some b6))]) (ms':=(blk b7 60 [(.map (some b6))]::emap b6 (fun y:Bool=>(Value.bool (y))) (fun _=>none)::smap b2 (asl es2)::blk b3 313 [(.map (some b2))]::vec v6 9 1 ((cpt r1_).length) ((cpt r1_).flatMap Qj)::vec v4 9 1 ((srt nodes_p).length) ((srt nodes_p).flatMap Qj)::Rf 9 1 Qj es2)) (i:=0) hS35 rfl rfl rfl Tryz.sizeOf60 rfl (ones rfl) rfl (Nat.le_of_ble_eq_true rfl) rfl rfl ?_
   intro w19 hS36
   refine wpList_nil (Qo (wp_seq (wp_block ?_)))
   obtain⟨σ6,hS37,hsub6,hr9⟩:=St.freezeL (ms:=[blk b7 60 [(.map (some b6))],emap b6 (fun y:Bool=>(Value.bool (y))) (fun _=>none),smap b2 (asl es2),blk b3 313 [(.map (some b2))],vec v6 9 1 ((cpt r1_).length) ((cpt r1_).flatMap Qj),vec v4 9 1 ((srt nodes_p).length) ((srt nodes_p).flatMap Qj)]) (ms':=[blk b7 60 [(.map (some b6))],emap b6 (fun y:Bool=>(Value.bool (y))) (fun _=>none),blk b3 313 [(.map (some b2))],vec v6 9 1 ((cpt r1_).length) ((cpt r1_).flatMap Qj),vec v4 9 1 ((srt nodes_p).length) ((srt nodes_p).flatMap Qj)]) (i:=2) hS36 hF2 q5w rfl rfl
   have hS38:=hS37.addNil 9 1
   have hS39:=hS38.front 4 rfl (ms':=[vec v6 9 1 ((cpt r1_).length) ((cpt r1_).flatMap Qj),vec (.slice none 0 0) 9 1 0 [],blk b7 60 [(.map (some b6))],emap b6 (fun y:Bool=>(Value.bool (y))) (fun _=>none),blk b3 313 [(.map (some b2))],vec v4 9 1 ((srt nodes_p).length) ((srt nodes_p).flatMap Qj)]) rfl
   have hS40:=hS39.front 4 rfl (ms':=[blk b3 313 [(.map (some b2))],vec v6 9 1 ((cpt r1_).length) ((cpt r1_).flatMap Qj),vec (.slice none 0 0) 9 1 0 [],blk b7 60 [(.map (some b6))],emap b6 (fun y:Bool=>(Value.bool (y))) (fun _=>none),vec v4 9 1 ((srt nodes_p).length) ((srt nodes_p).flatMap Qj)]) rfl
   have hS41:=hS40.front 3 rfl (ms':=[blk b7 60 [(.map (some b6))],blk b3 313 [(.map (some b2))],vec v6 9 1 ((cpt r1_).length) ((cpt r1_).flatMap Qj),vec (.slice none 0 0) 9 1 0 [],emap b6 (fun y:Bool=>(Value.bool (y))) (fun _=>none),vec v4 9 1 ((srt nodes_p).length) ((srt nodes_p).flatMap Qj)]) rfl
   have hS42:=hS41.front 4 rfl (ms':=[emap b6 (fun y:Bool=>(Value.bool (y))) (fun _=>none),blk b7 60 [(.map (some b6))],blk b3 313 [(.map (some b2))],vec v6 9 1 ((cpt r1_).length) ((cpt r1_).flatMap Qj),vec (.slice none 0 0) 9 1 0 [],vec v4 9 1 ((srt nodes_p).length) ((srt nodes_p).flatMap Qj)]) rfl
   have hS43:=hS42.front 4 rfl (ms':=[vec (.slice none 0 0) 9 1 0 [],emap b6 (fun y:Bool=>(Value.bool (y))) (fun _=>none),blk b7 60 [(.map (some b6))],blk b3 313 [(.map (some b2))],vec v6 9 1 ((cpt r1_).length) ((cpt r1_).flatMap Qj),vec v4 9 1 ((srt nodes_p).length) ((srt nodes_p).flatMap Qj)]) rfl
   have hS44:=hS43.front 5 rfl (ms':=[vec v4 9 1 ((srt nodes_p).length) ((srt nodes_p).flatMap Qj),vec (.slice none 0 0) 9 1 0 [],emap b6 (fun y:Bool=>(Value.bool (y))) (fun _=>none),blk b7 60 [(.map (some b6))],blk b3 313 [(.map (some b2))],vec v6 9 1 ((cpt r1_).length) ((cpt r1_).flatMap Qj)]) rfl
   refine y5g (fun left_3 out_3 F_4 f z=> ∃(v13:Value) (v14:Value) (σ7:Hv) (g:Fr),f=(upd (upd (upd (upd g 6 v13) 7 (.pointer (some ⟨b3,0,none⟩))) 10 v14) 11 (.pointer (some ⟨b7,0,none⟩)))/\St ⟨w,σ,[]⟩ z σ7 [vec v13 9 1 left_3.length ((left_3).flatMap Qj),vec v14 9 1 out_3.length ((out_3).flatMap Qj),emap b6 (fun y:Bool=>(Value.bool (y))) F_4,blk b7 60 [(.map (some b6))],blk b3 313 [(.map (some b2))],vec v6 9 1 ((cpt r1_).length) ((cpt r1_).flatMap Qj)]/\Sub σ6 σ7/\v13.oneCell'=true/\Sml left_3.length/\v14.oneCell'=true/\Sml out_3.length) hP ⟨v4,(.slice none 0 0),σ6,_,(Z5 rfl (Z5 rfl (Z5 rfl (Z5 rfl rfl)))),hS44,(Sub.refl _),(q07 ho1.1),(show Sml (srt nodes_p).length by rw[J4];exact hsm1),rfl,(by simp[Sml])⟩ ?_
   clear hP
   rintro left_3 out_3 F_4 Y5 hP f w20 ⟨v13,v14,σ7,g,rfl,hS45,hsub7,ho10,hl8,ho11,hl9⟩
   refine wp_seq (Qu (Zg (v:=v13) rfl (j25 hS45 rfl (i:=0) rfl Tryz.underlying70 ?_)))
   have hlen4:left_3.length<=9223372036854775807:=by have:=hl8;unfold Sml at this;omega
   replace hP:=hP hlen4
   refine u4q (r:=(decide ((0:Int)<((left_3.length:Nat):Int)))) rfl rfl rfl (wpList_nil (Qo ?_))
   refine if_d ((0:Int)<((left_3.length:Nat):Int)) rfl (fun ht4=> ?_) (fun ht4=> ?_)
   ·
    replace hP:=hP.1 ht4
    refine wp_skip (Qo (wp_block (Qu (Zg (v:=v13) rfl (j5s (la:=[]) (lb:=[(.pointer (some ⟨b3,0,none⟩)),(.pointer (some ⟨b7,0,none⟩))]) rfl rfl ?_)))))
    obtain⟨Y6,hK4,hP⟩:=hP
    refine z0g (args:=[v13,(.func (.func 224) #[] #[(.pointer (some ⟨b3,0,none⟩)),(.pointer (some ⟨b7,0,none⟩))])]) rfl Tryz.call223 (Calls.mono (R:=fun e z=> ∃(r_1:Int) (σ8:Hv),e= .returned (.int .i64 r_1)/\Y6 r_1/\St ⟨w,σ,[]⟩ z σ8 [vec v13 9 1 left_3.length ((left_3).flatMap Qj),vec v14 9 1 out_3.length ((out_3).flatMap Qj),emap b6 (fun y:Bool=>(Value.bool (y))) F_4,blk b7 60 [(.map (some b6))],blk b3 313 [(.map (some b2))],vec v6 9 1 ((cpt r1_).length) ((cpt r1_).flatMap Qj)]/\Sub σ7 σ8) ?_ ?_)
    ·
     refine enter Tryz.func223 rfl rfl rfl ?_
     refine Qu (Qw (v:=(.int .i64 (0:Int))) rfl (wpList_nil (Qo (wp_seq (Qu (Zg (v:=v13) rfl (j25 hS45 rfl (i:=0) rfl Tryz.underlying70 (Zg (v:=(.int .i64 (0:Int))) rfl (wpList_nil (Qo (wp_block ?_)))))))))))
     refine w6q (fun k_5 f z=> ∃(σ9:Hv) (g:Fr),f=(upd (upd (upd (upd g 0 v13) 1 (.func (.func 224) #[] #[(.pointer (some ⟨b3,0,none⟩)),(.pointer (some ⟨b7,0,none⟩))])) 7 (.int .i64 ((left_3.length:Nat):Int))) 8 (.int .i64 ((k_5:Nat):Int)))/\St ⟨w,σ,[]⟩ z σ9 [vec v13 9 1 left_3.length ((left_3).flatMap Qj),vec v14 9 1 out_3.length ((out_3).flatMap Qj),emap b6 (fun y:Bool=>(Value.bool (y))) F_4,blk b7 60 [(.map (some b6))],blk b3 313 [(.map (some b2))],vec v6 9 1 ((cpt r1_).length) ((cpt r1_).flatMap Qj)]/\Sub σ7 σ9) hP ⟨σ7,_,(Z5 rfl (Z5 rfl (Z5 rfl (Z5 rfl rfl)))),hS45,(Sub.refl _)⟩ ?_
     clear hP
     rintro k_5 Y7 hP f w21 ⟨σ9,g,rfl,hS46,hsub9⟩
     refine Qu (v98 (r:=(decide (((k_5:Nat):Int)<((left_3.length:Nat):Int)))) rfl rfl rfl (wpList_nil (Qo (wp_seq ?_))))
     refine if_d (((k_5:Nat):Int)<((left_3.length:Nat):Int)) rfl (fun ht5=> ?_) (fun ht5=> ?_)
     ·
      replace hP:=hP.1 ht5
      refine wp_skip (Qo (wp_seq (wp_block (Qu (Zg (v:=(.int .i64 ((k_5:Nat):Int))) rfl (Qw (v:=(.int .i64 ((k_5:Nat):Int))) rfl (wpList_nil (Qo (Qu (Zg (v:=(.func (.func 224) #[] #[(.pointer (some ⟨b3,0,none⟩)),(.pointer (some ⟨b7,0,none⟩))])) rfl (Zg (v:=v13) rfl (Zg (v:=(.int .i64 ((k_5:Nat):Int))) rfl ?_))))))))))))
      obtain⟨x2_,hx2⟩:=getq (l:=left_3) (k:=k_5) (by have:=ht5;omega)
      replace hP:=hP x2_ hx2
      obtain⟨g1,cp1,hv2⟩:=w6r (hS46.get (i:=0) rfl) (Qg hx2)
      refine R4 (k:=k_5) (a':=⟨g1,k_5*1,none⟩) hv2 rfl rfl (Qg hx2) Tryz.underlying70 Tryz.sizeOf9 (by simp[Uo]) (q8u (v:=(.string x2_)) rfl Tryz.isAgg9 (w0n q5w (j:=0) hv2 (hS46.get (i:=0) rfl) hx2 rfl) (y0b (args:=[(.string x2_),(.pointer (some ⟨b3,0,none⟩)),(.pointer (some ⟨b7,0,none⟩))]) rfl rfl Tryz.call224 ?_))
      refine enter Tryz.func224 rfl rfl rfl ?_
      refine Qu (Qw (v:=(.bool false)) rfl (wpList_nil (Qo (Qu (q8u (v:=(.map (some b2))) rfl Tryz.isAgg313 (hS46.cell (i:=4) rfl rfl) (Zg (v:=(.string x2_)) rfl ?_))))))
      obtain⟨v15,hl10,hz1⟩:=RMp.at (z:= .slice none 0 0) (z0:=[]) RSl.nil hr9 x2_
      obtain⟨a3,cap3,rfl⟩:=hz1.shape
      refine y84 (v:=(.slice a3 ((F_2 x2_).getD []).length cap3)) hl10 (View.of (Sub.trans hsub7 hsub9) hS46.view) rfl rfl Tryz.underlying313 Tryz.underlying9 Tryz.zeroValue70 (j5s (la:=[]) (lb:=[(.pointer (some ⟨b7,0,none⟩))]) rfl rfl (z0g (args:=[(.slice a3 ((F_2 x2_).getD []).length cap3),(.func (.func 226) #[] #[(.pointer (some ⟨b7,0,none⟩))])]) rfl Tryz.call225 ?_))
      refine enter Tryz.func225 rfl rfl rfl ?_
      refine Qu (Qw (v:=(.bool false)) rfl (wpList_nil (Qo (Qu (Zg (v:=(.slice a3 ((F_2 x2_).getD []).length cap3)) rfl (Zg (v:=(.func (.func 226) #[] #[(.pointer (some ⟨b7,0,none⟩))])) rfl ?_))))))
      obtain⟨Y8,hK5,hP⟩:=hP
      refine z0g (args:=[(.slice a3 ((F_2 x2_).getD []).length cap3),(.func (.func 226) #[] #[(.pointer (some ⟨b7,0,none⟩))])]) rfl Tryz.call223 (Calls.mono (R:=fun e z=> ∃(r_2:Int) (σ10:Hv),e= .returned (.int .i64 r_2)/\Y8 r_2/\St ⟨w,σ,[]⟩ z σ10 [vec v13 9 1 left_3.length ((left_3).flatMap Qj),vec v14 9 1 out_3.length ((out_3).flatMap Qj),emap b6 (fun y:Bool=>(Value.bool (y))) F_4,blk b7 60 [(.map (some b6))],blk b3 313 [(.map (some b2))],vec v6 9 1 ((cpt r1_).length) ((cpt r1_).flatMap Qj)]/\Sub σ9 σ10) ?_ ?_)
      ·
       refine enter Tryz.func223 rfl rfl rfl ?_
       refine Qu (Qw (v:=(.int .i64 (0:Int))) rfl (wpList_nil (Qo (wp_seq (Qu (Zg (v:=(.slice a3 ((F_2 x2_).getD []).length cap3)) rfl (z3w rfl Tryz.underlying70 ?_)))))))
       have hlen6:=RSl.len63 hz1
       replace hP:=hP hlen6
       refine Zg (v:=(.int .i64 (0:Int))) rfl (wpList_nil (Qo (wp_block ?_)))
       refine w6q (fun k_7 f z=> ∃(σ11:Hv) (g:Fr),f=(upd (upd (upd (upd g 0 (.slice a3 ((F_2 x2_).getD []).length cap3)) 1 (.func (.func 226) #[] #[(.pointer (some ⟨b7,0,none⟩))])) 7 (.int .i64 ((((F_2 x2_).getD []).length:Nat):Int))) 8 (.int .i64 ((k_7:Nat):Int)))/\St ⟨w,σ,[]⟩ z σ11 [vec v13 9 1 left_3.length ((left_3).flatMap Qj),vec v14 9 1 out_3.length ((out_3).flatMap Qj),emap b6 (fun y:Bool=>(Value.bool (y))) F_4,blk b7 60 [(.map (some b6))],blk b3 313 [(.map (some b2))],vec v6 9 1 ((cpt r1_).length) ((cpt r1_).flatMap Qj)]/\Sub σ9 σ11) hP ⟨σ9,_,(Z5 rfl (Z5 rfl (Z5 rfl (Z5 rfl rfl)))),hS46,(Sub.refl _)⟩ ?_
       clear hP
       rintro k_7 Y9 hP f w22 ⟨σ11,g,rfl,hS47,hsub11⟩
       refine Qu (v98 (r:=(decide (((k_7:Nat):Int)<((((F_2 x2_).getD []).length:Nat):Int)))) rfl rfl rfl (wpList_nil (Qo (wp_seq ?_))))
       refine if_d (((k_7:Nat):Int)<((((F_2 x2_).getD []).length:Nat):Int)) rfl (fun ht6=> ?_) (fun ht6=> ?_)
       ·
        replace hP:=hP.1 ht6
        refine wp_skip (Qo (wp_seq (wp_block (Qu (Zg (v:=(.int .i64 ((k_7:Nat):Int))) rfl (Qw (v:=(.int .i64 ((k_7:Nat):Int))) rfl (wpList_nil (Qo (Qu (Zg (v:=(.func (.func 226) #[] #[(.pointer (some ⟨b7,0,none⟩))])) rfl (Zg (v:=(.slice a3 ((F_2 x2_).getD []).length cap3)) rfl (Zg (v:=(.int .i64 ((k_7:Nat):Int))) rfl ?_))))))))))))
        obtain⟨x3_,hx3⟩:=getq (l:=((F_2 x2_).getD [])) (k:=k_7) (by have:=ht6;omega)
        replace hP:=hP x3_ hx3
        obtain⟨ad2,cs2,ha2,hl11,hr10,hR2,hlt2⟩:=RSl.at hz1 hx3
        cases hR2
        refine R4 (k:=k_7) (a':=(ad2.add (k_7*1))) (congrArg (fun z=>Value.slice z _ _) ha2) rfl rfl hlt2 Tryz.underlying70 Tryz.sizeOf9 rfl (q8u (v:=(.string x3_)) rfl Tryz.isAgg9 (hr10.cell (View.of (Sub.trans (Sub.trans hsub7 hsub9) hsub11) hS47.view) 0 rfl rfl) (y0b (args:=[(.string x3_),(.pointer (some ⟨b7,0,none⟩))]) rfl rfl Tryz.call226 ?_))
        refine enter Tryz.func226 rfl rfl rfl ?_
        refine Qu (Qw (v:=(.bool false)) rfl (wpList_nil (Qo (Qu (q8u (v:=(.map (some b6))) rfl Tryz.isAgg60 (hS47.cell (i:=3) rfl rfl) (Zg (v:=(.string x3_)) rfl (y82 (v:=(.bool (((F_4 x3_).getD false)))) (i:=2) hS47 rfl rfl rfl Tryz.underlying60 Tryz.underlying9 Tryz.zeroValue4 (y5h (fun y:Bool=>(Value.bool (y))) _ rfl) (y47 (r:=(!((F_4 x3_).getD false))) rfl rfl (Qw (v:=(.bool (!((F_4 x3_).getD false)))) rfl (wpList_nil (Qo (wp_ret (ret1 rfl (show ev _ _ _=(.bool (!((F_4 x3_).getD false))) from rfl) ?_)))))))))))))
        refine⟨_,rfl,?_⟩
        refine wpList_nil (Qo ?_)
        refine u2g rfl (fun ht7=> ?_) (fun ht7=> ?_)
        ·
         replace hP:=hP.2 (by first|(rw[ht7];exact Bool.false_ne_true)|simp[ht7])
         refine Qu (Zg (v:=(.int .i64 ((k_7:Nat):Int))) rfl (Qw (v:=(.int .i64 ((k_7:Nat):Int))) rfl (wpList_nil (Qo (wp_ret (j8k (By (By (j8k (By (ret1 rfl (show ev _ _ _=(.int .i64 ((k_7:Nat):Int)) from rfl) ?_)))))))))))
         exact⟨((k_7:Nat):Int),σ11,rfl,hP,hS47,hsub11⟩
        ·
         replace hP:=hP.1 ht7
         refine wp_skip (v7p (Qo (j5r (v7o (r:=((k_7+1:Nat):Int)) rfl rfl (nw (by omega) (by omega) (by have:=hlen6;omega)) (Zg (v:=(.int .i64 ((k_7+1:Nat):Int))) rfl (wpList_nil (Qo ?_)))))))
         exact⟨k_7+1,_,rfl,hP,σ11,_,(Z5 rfl (Z5 rfl (Z5 rfl (Z5 rfl rfl)))),hS47,hsub11⟩
       ·
        replace hP:=hP.2 ht6
        refine wp_exit (j0u (j0u (w0i (Qo (Qu (Qw (v:=(.int .i64 (-1:Int))) rfl (wpList_nil (Qo (wp_ret (ret1 rfl (show ev _ _ _=(.int .i64 (-1:Int)) from rfl) ?_))))))))))
        exact⟨(-1:Int),σ11,rfl,hP,hS47,hsub11⟩
      ·
       rintro _ w23 ⟨r_2,σ10,rfl,hY4,hS48,hsub10⟩
       refine⟨_,rfl,?_⟩
       replace hP:=hK5 r_2 hY4
       refine u2d (r:=(decide ((0:Int)<=r_2))) rfl rfl rfl (Qw (v:=(.bool (decide ((0:Int)<=r_2)))) rfl (wpList_nil (Qo (wp_ret (ret1 rfl (show ev _ _ _=(.bool (decide ((0:Int)<=r_2))) from rfl) ?_)))))
       refine⟨_,rfl,?_⟩
       refine y47 (r:=(!decide ((0:Int)<=r_2))) rfl rfl (Qw (v:=(.bool (!decide ((0:Int)<=r_2)))) rfl (wpList_nil (Qo (wp_ret (ret1 rfl (show ev _ _ _=(.bool (!decide ((0:Int)<=r_2))) from rfl) ?_)))))
       refine⟨_,rfl,?_⟩
       refine wpList_nil (Qo ?_)
       refine u2f ((0:Int)<=r_2) rfl (fun ht8=> ?_) (fun ht8=> ?_)
       ·
        replace hP:=hP.2 ht8
        refine Qu (Zg (v:=(.int .i64 ((k_5:Nat):Int))) rfl (Qw (v:=(.int .i64 ((k_5:Nat):Int))) rfl (wpList_nil (Qo (wp_ret (j8k (By (By (j8k (By (ret1 rfl (show ev _ _ _=(.int .i64 ((k_5:Nat):Int)) from rfl) ?_)))))))))))
        exact⟨((k_5:Nat):Int),σ10,rfl,hP,hS48,(Sub.trans hsub9 hsub10)⟩
       ·
        replace hP:=hP.1 ht8
        refine wp_skip (v7p (Qo (j5r (v7o (r:=((k_5+1:Nat):Int)) rfl rfl (nw (by omega) (by omega) (by have:=hlen4;omega)) (Zg (v:=(.int .i64 ((k_5+1:Nat):Int))) rfl (wpList_nil (Qo ?_)))))))
        exact⟨k_5+1,_,rfl,hP,σ10,_,(Z5 rfl (Z5 rfl (Z5 rfl (Z5 rfl rfl)))),hS48,(Sub.trans hsub9 hsub10)⟩
     ·
      replace hP:=hP.2 ht5
      refine wp_exit (j0u (j0u (w0i (Qo (Qu (Qw (v:=(.int .i64 (-1:Int))) rfl (wpList_nil (Qo (wp_ret (ret1 rfl (show ev _ _ _=(.int .i64 (-1:Int)) from rfl) ?_))))))))))
      exact⟨(-1:Int),σ9,rfl,hP,hS46,hsub9⟩
    ·
     rintro _ w24 ⟨r_1,σ8,rfl,hY5,hS49,hsub8⟩
     refine⟨_,rfl,?_⟩
     replace hP:=hK4 r_1 hY5
     refine Qw (v:=(.int .i64 r_1)) rfl (wpList_nil (Qo (wp_seq (Qu (Zg (v:=(.int .i64 r_1)) rfl (v98 (r:=(decide (r_1<(0:Int)))) rfl rfl rfl (wpList_nil (Qo ?_))))))))
     refine if_d (r_1<(0:Int)) rfl (fun ht9=> ?_) (fun ht9=> ?_)
     ·
      replace hP:=hP.1 ht9
      refine Qu (Qw (v:=(.slice none 0 0)) rfl (Qw (v:=(.int .i64 (12:Int))) rfl (wpList_nil (Qo (wp_ret (By (j8k (By (j8k (By (ret2 rfl (show ev _ _ _=(.slice none 0 0) from rfl) (show ev _ _ _=(.int .i64 (12:Int)) from rfl) ?_)))))))))))
      have hS50:=hS49.addNil 9 1
      exact⟨[],(12:Int),(.slice none 0 0),rfl,(St.back (hS50.keep 1 (ms':=[vec (.slice none 0 0) 9 1 0 []]) rfl) (Sub.refl _)),(by simp[Sml]),hP⟩
     ·
      replace hP:=hP.2 ht9
      refine wp_skip (Qo (Qu (Zg (v:=v14) rfl (Zg (v:=v13) rfl (Zg (v:=(.int .i64 r_1)) rfl ?_)))))
      obtain⟨j1_,hj1,hP⟩:=hP
      obtain⟨x4_,hx4,hP⟩:=hP
      obtain⟨g2,cp2,hv3⟩:=w6r (hS49.get (i:=0) rfl) (Qg hx4)
      refine R4 (k:=j1_) (a':=⟨g2,j1_*1,none⟩) hv3 rfl hj1 (Qg hx4) Tryz.underlying70 Tryz.sizeOf9 (by simp[Uo]) (q8u (v:=(.string x4_)) rfl Tryz.isAgg9 (w0n q5w (j:=0) hv3 (hS49.get (i:=0) rfl) hx4 rfl) (j9l (cs:=[(.string x4_)]) (e:=9) hS49 (fun _=>by kernel_rfl) ?_))
      intro b8 w25 hS51
      obtain⟨hsm4,hP⟩:=hP
      refine y83 (Ms:=fun v16=>[blk b8 9 [(.string x4_)],vec v13 9 1 left_3.length ((left_3).flatMap Qj),vec v16 9 1 ((out_3++[x4_]).length) ((out_3++[x4_]).flatMap Qj),emap b6 (fun y:Bool=>(Value.bool (y))) F_4,blk b7 60 [(.map (some b6))],blk b3 313 [(.map (some b2))],vec v6 9 1 ((cpt r1_).length) ((cpt r1_).flatMap Qj)]) (k':=(out_3++[x4_]).length) (xs':=(out_3++[x4_]).flatMap Qj) Tryz.underlying70 Tryz.type9 rfl rfl (bytes:=16) rfl rfl (Nat.succ_pos _) hS51 rfl (q:=2) rfl rfl rfl (z1s (hS51.get (i:=0) rfl)) (ones rfl) hsm4 (by omega) (by first|rfl|exact List.length_append.symm|simp) (by simp[Qj]) (fun _=>rfl) ?_
      intro v16 w26 ho12 hS52
      have hS53:=hS52.drop 0 (ms':=[vec v13 9 1 left_3.length ((left_3).flatMap Qj),vec v16 9 1 ((out_3++[x4_]).length) ((out_3++[x4_]).flatMap Qj),emap b6 (fun y:Bool=>(Value.bool (y))) F_4,blk b7 60 [(.map (some b6))],blk b3 313 [(.map (some b2))],vec v6 9 1 ((cpt r1_).length) ((cpt r1_).flatMap Qj)]) rfl
      refine Qw (v:=v16) rfl (wpList_nil (Qo (wp_seq (dr (fun z=>St ⟨w,σ,[]⟩ z σ8 [vec v13 9 1 left_3.length ((left_3).flatMap Qj),vec v16 9 1 ((out_3++[x4_]).length) ((out_3++[x4_]).flatMap Qj),blk b7 60 [(.map (some b6))],blk b3 313 [(.map (some b2))],vec v6 9 1 ((cpt r1_).length) ((cpt r1_).flatMap Qj)]) (by kernel_rfl) rfl ?_))))
      have hS54:=hS53.drew
      refine dt 0 1 (v:=(.map (some b6))) (by kernel_rfl) rfl rfl (fun _ _ _ h=>h) (hS54.sublist (.cons_cons _ (.cons_cons _ (.cons _ (List.Sublist.refl _))))) (fun _ hJ _ hK=>q8u (v:=(.map (some b6))) rfl Tryz.isAgg60 (hJ.cell (i:=2) rfl rfl) ⟨rfl,hK⟩) (dt 1 3 (v:=v13) (by kernel_rfl) rfl rfl (fun _ _ _ h=>h) (hS54.sublist (.cons_cons _ (.cons_cons _ (.cons _ (List.Sublist.refl _))))) (fun _ _ _ hK=>Zg (v:=v13) rfl ⟨rfl,hK⟩) (dt 2 7 (v:=(.int .i64 r_1)) (by kernel_rfl) rfl rfl (fun _ _ _ h=>h) (hS54.sublist (.cons_cons _ (.cons_cons _ (.cons _ (List.Sublist.refl _))))) (fun _ _ _ hK=>Zg (v:=(.int .i64 r_1)) rfl ⟨rfl,hK⟩) ?_))
      obtain⟨j2_,hj2,hP⟩:=hP
      obtain⟨x5_,hx5,hP⟩:=hP
      obtain⟨g3,cp3,hv4⟩:=w6r (hS54.get (i:=0) rfl) (Qg hx5)
      refine dt 3 15 (v:=(.pointer (some ⟨g3,j2_*1,none⟩))) (by kernel_rfl) rfl rfl (fun _ _ _ h=>h) (hS54.sublist (.cons_cons _ (.cons_cons _ (.cons _ (List.Sublist.refl _))))) (fun _ _ _ hK=>R4 (k:=j2_) (a':=⟨g3,j2_*1,none⟩) hv4 rfl hj2 (Qg hx5) Tryz.underlying70 Tryz.sizeOf9 (by simp[Uo]) ⟨rfl,hK⟩) (dt 4 31 (v:=(.string x5_)) (by kernel_rfl) rfl rfl (fun _ _ _ h=>h) (hS54.sublist (.cons_cons _ (.cons_cons _ (.cons _ (List.Sublist.refl _))))) (fun _ hJ _ hK=>q8u (v:=(.string x5_)) rfl Tryz.isAgg9 (w0n q5w (j:=0) hv4 (hJ.get (i:=0) rfl) hx5 rfl) ⟨rfl,hK⟩) (d1 5 63 (by kernel_rfl) rfl (u2m (y0:=true) (i:=2) (ms':=[vec v13 9 1 left_3.length ((left_3).flatMap Qj),vec v16 9 1 ((out_3++[x4_]).length) ((out_3++[x4_]).flatMap Qj),emap b6 (fun y:Bool=>(Value.bool (y))) (put F_4 x5_ true),blk b7 60 [(.map (some b6))],blk b3 313 [(.map (some b2))],vec v6 9 1 ((cpt r1_).length) ((cpt r1_).flatMap Qj)]) hS54 rfl rfl rfl rfl Tryz.underlying60 Tryz.underlying9 rfl ?_)))
      intro w27 hS55
      refine wpList_nil ?_
      refine⟨rfl,(hS55.sublist (.cons_cons _ (.cons_cons _ (.cons _ (List.Sublist.refl _))))),j9m (J':=fun z=>St ⟨w,σ,[]⟩ z σ8 [vec v13 9 1 left_3.length ((left_3).flatMap Qj),vec v16 9 1 ((out_3++[x4_]).length) ((out_3++[x4_]).flatMap Qj),emap b6 (fun y:Bool=>(Value.bool (y))) (put F_4 x5_ true),blk b7 60 [(.map (some b6))],blk b3 313 [(.map (some b2))],vec v6 9 1 ((cpt r1_).length) ((cpt r1_).flatMap Qj)]) (fun w h=>h.sublist (.cons_cons _ (.cons_cons _ (.cons _ (List.Sublist.refl _))))) _ _ _ _ ?_⟩
      refine dz (by kernel_rfl) (Qo (j5r (Zg (v:=v13) rfl (Zg (v:=(.int .i64 r_1)) rfl (Zg (v:=(.int .i64 r_1)) rfl ?_)))))
      obtain⟨hi1,hP⟩:=hP
      refine v7o (r:=(r_1+(1:Int))) rfl rfl (nwi rfl hi1) ?_
      obtain⟨j3_,hj3,hP⟩:=hP
      obtain⟨hd1,hP⟩:=hP
      obtain⟨hd2,hP⟩:=hP
      obtain⟨hsm5,hP⟩:=hP
      have hd3:r_1=((j3_:Nat):Int)/\(r_1+(1:Int))=((j3_+1:Nat):Int):=⟨by omega,by omega⟩
      refine z0g (args:=[v13,(.int .i64 ((j3_:Nat):Int)),(.int .i64 ((j3_+1:Nat):Int))]) (by rw[←hd3.1,←hd3.2];rfl) Tryz.call227 (Calls.mono (v7s (i:=j3_) (j:=(j3_+1)) Tryz.slices_Delete_string hS55.view (hS55.get (i:=0) rfl) (fun b hb=>hS55.off _ (List.mem_of_getElem? (i:=0) rfl) b hb) (by omega) hd2 hd1) ?_)
      rintro _ w28 ⟨v17,rfl,hf2,hg7,ho13⟩
      refine⟨_,rfl,?_⟩
      have ho14:=q07 ho13
      have hS56:=hS55.growV (i:=0) (o':=vec v17 9 1 ((left_3.take j3_++left_3.drop (j3_+1)).length) ((left_3.take j3_++left_3.drop (j3_+1)).flatMap Qj)) rfl hg7 hf2 ho13 (ms':=[vec v17 9 1 ((left_3.take j3_++left_3.drop (j3_+1)).length) ((left_3.take j3_++left_3.drop (j3_+1)).flatMap Qj),vec v16 9 1 ((out_3++[x4_]).length) ((out_3++[x4_]).flatMap Qj),emap b6 (fun y:Bool=>(Value.bool (y))) (put F_4 x5_ true),blk b7 60 [(.map (some b6))],blk b3 313 [(.map (some b2))],vec v6 9 1 ((cpt r1_).length) ((cpt r1_).flatMap Qj)]) rfl
      refine Qw (v:=v17) rfl (wpList_nil (v7p (Qo ?_)))
      exact⟨left_3.take j3_++left_3.drop (j3_+1),out_3++[x4_],put F_4 x5_ true,_,rfl,hP,v17,v16,σ8,_,(Z5 rfl (Z5 rfl (Z5 rfl (Z5 rfl rfl)))),hS56,(Sub.trans hsub7 hsub8),ho14,hsm5,ho12,hsm4⟩
   ·
    replace hP:=hP.2 ht4
    refine wp_exit (j0u (j0u (w0i (Qo (Qu (Zg (v:=v14) rfl (Qw (v:=v14) rfl (Qw (v:=(.int .i64 (0:Int))) rfl (wpList_nil (Qo (wp_ret (ret2 rfl (show ev _ _ _=v14 from rfl) (show ev _ _ _=(.int .i64 (0:Int)) from rfl) ?_))))))))))))
    have hS57:=hS45.front 1 rfl (ms':=[vec v14 9 1 out_3.length ((out_3).flatMap Qj),vec v13 9 1 left_3.length ((left_3).flatMap Qj),emap b6 (fun y:Bool=>(Value.bool (y))) F_4,blk b7 60 [(.map (some b6))],blk b3 313 [(.map (some b2))],vec v6 9 1 ((cpt r1_).length) ((cpt r1_).flatMap Qj)]) rfl
    exact⟨out_3,(0:Int),v14,rfl,(St.back (hS57.keep 1 (ms':=[vec v14 9 1 out_3.length ((out_3).flatMap Qj)]) rfl) (Sub.refl _)),hl9,hP⟩
end Go.Proofs.YtkbjibhkaddepaaGreatDoor
end
noncomputable section
set_option maxRecDepth 100000
open Go Go.RowKit Go.Fl Go.Fl.Lk Go.Fx
namespace Go.En
theorem w7j{σ:Hv}{w:World}{g:Nat}{T:C}{n:Nat}{l:List (car T)}(hV:View σ w)(hs:SRep D (fun _=>none) σ (.pointer (some ⟨g,0,none⟩)) (.fap T n l)){i j:Nat}{x:car T}{s:FV Sg}(hx:l[i]? =some x)(hj:(D.shape T x)[j]? =some s)(hz:j<D.size T):
  ∃v,w.cell? ⟨g,i*D.size T+j,none⟩=some v/\RepF D σ v s:=by
 generalize hq:Value.pointer (some (⟨g,0,none⟩:Addr))=q at hs
 cases hs with
 |fap ad cs T' N l' hN h hl hr=>
  cases hq
  have hrow:=hr i x hx
  have hlen:=okP.ok.len T x
  have hjl:j<((cs.drop (i*D.size T)).take (D.size T)).length:=by rw[hrow.1,hlen];exact hz
  obtain⟨v,hv⟩: ∃v,((cs.drop (i*D.size T)).take (D.size T))[j]? =some v:=⟨_,List.getElem?_eq_getElem hjl⟩
  refine⟨v,?_,hrow.2 j v s hv hj⟩
  rw[List.getElem?_take,if_pos hz,List.getElem?_drop] at hv
  have:=hV.cell (h _ v hv)
  rw[Uo,Nat.zero_add] at this
  exact this
theorem y6j: ∀c,c<256->v6s[c]? =some ((Go.Lib.firstT c:Nat):Int):=by decide
theorem u3i: ∀i,i<16->(w08[i]?).map (fun a=>(a.lo,a.hi))=some (((Go.Lib.accLo i:Nat):Int),((Go.Lib.accHi i:Nat):Int)):=by decide
theorem tabs{σ:Hv}{w:World}(hV:View σ w)(hG:Glb D σ):Go.Lib.Utf8Tabs (Proofs.Tryz.lays196_ren.g 3) (Proofs.Tryz.lays196_ren.g 4) w:=by
 refine⟨fun c hc=> ?_,fun i hi=> ?_⟩
 ·have h:=hG.known (Proofs.Tryz.lays196_ren.g 3)
  obtain⟨v,h1,h2⟩:=w7j (T:= .u8) (n:=256) (l:=v6s) hV h (i:=c) (j:=0) (s:= .int .u8 ((Go.Lib.firstT c:Nat):Int)) (y6j c hc) rfl (by decide)
  cases h2
  simpa [show D.size C.u8=1 from rfl] using h1
 ·have h:=hG.known (Proofs.Tryz.lays196_ren.g 4)
  have ha:=u3i i hi
  obtain⟨a,e1,e2⟩:=Option.map_eq_some_iff.1 ha
  obtain⟨v,h1,h2⟩:=w7j (T:= .acc) (n:=16) (l:=w08) hV h (i:=i) (j:=0) (s:= .int .u8 a.lo) e1 rfl (by decide)
  obtain⟨v',h1',h2'⟩:=w7j (T:= .acc) (n:=16) (l:=w08) hV h (i:=i) (j:=1) (s:= .int .u8 a.hi) e1 rfl (by decide)
  cases h2;cases h2'
  simp only[Prod.mk.injEq] at e2
  rw[e2.1] at h1;rw[e2.2] at h1'
  refine⟨by rw[Nat.mul_comm];simpa [show D.size C.acc=2 from rfl] using h1,by rw[Nat.mul_comm];simpa [show D.size C.acc=2 from rfl] using h1'⟩
theorem v3v{w w':World}(h:Below w.heap.size w w'):Keeps [] w w':=⟨h.os,h.tape,h.output,h.size,fun k hk _=>h.block k hk⟩
theorem q8s{σ:Hv}{w w1:World}{args:List (Tr Sg)}{vals:List Value}{K:List (Tr Sg)->List (Tr Sg)->Prop}{rets outs:List (Tr Sg)}{rv:List Value}(hS:St ⟨w,σ,feet []⟩ w σ [])(hK:K rets outs)(hb:Below w.heap.size w w1)(hL:LayL D σ rets rv [])(hT:LayT D σ args outs vals [] []):
  Back D σ w args vals [] K (.returned (retV rv)) w1:=by
 have hk:=v3v hb
 refine⟨rets,outs,rv,σ,[],[],rfl,hK,hL,hT,?_⟩
 refine⟨hk,fun b o hbo=> ?_,Sub.refl _,fun _ _ _=>rfl,by simp,by simp,by simp,by simp⟩
 have h1:=hS.view b o hbo
 have hlt:b<w.heap.size:=by
  rcases Nat.lt_or_ge b w.heap.size with h|h
  ·exact h
  ·rw[Array.getElem?_eq_none h] at h1;cases h1
 rw[hk.block b hlt (by simp)];exact h1
theorem j39:z2q Proofs.Tryz.prog D 206 (conV ([.v]:LP) ([.str]:LV) ([.bool]:LV) ([.same]:LV) (fun a K=>V9 a.1 (fun q0=>K (q0,()) ((),())))):=by
 intro args K hm w σ vals ins hG hL hS
 obtain⟨a,ha,hm⟩:=Qk hm
 have hargs:=Vn ha
 subst hargs
 obtain⟨s,_⟩:=a
 cases hL with
 |cons hp hr=>
 cases hr
 cases hp with
 |f hf=>
 cases hf
 have hm:s.size<=9223372036854775807/\K [.f (.bool (Go.Lib.validD s.data.toList))] [.same]:=hm
 refine Calls.mono (Go.Proofs.Any.utf8_ValidString Proofs.Tryz.lays196 s w hm.1 (tabs hS.view hG)) ?_
 rintro e w' ⟨rfl,hb⟩
 exact q8s (rv:=[.bool (Go.Lib.validD s.data.toList)]) hS hm.2 hb (.cons (ms:=[]) (.f (.bool _)) .nil) (.skip (a0:=[]) .nil)
theorem j4a:z2q Proofs.Tryz.prog D 251 (conV ([.v,.v]:LP) ([.str,.str]:LV) ([.bool]:LV) ([.same,.same]:LV) (fun a K=>q2t a.1 a.2.1 (fun q0=>K (q0,()) ((),(),())))):=by
 intro args K hm w σ vals ins hG hL hS
 obtain⟨a,ha,hm⟩:=Qk hm
 have hargs:=Vn ha
 subst hargs
 obtain⟨s,t,_⟩:=a
 cases hL with
 |cons hp hr=>
 cases hr with
 |cons hq hr=>
 cases hr
 cases hp with
 |f hf=>
 cases hf
 cases hq with
 |f hf=>
 cases hf
 have hm:s.size<4294967281/\K [.f (.bool (Go.Lib.contains s.data.toList t.data.toList))] [.same,.same]:=hm
 obtain⟨n,hn⟩:=hG.free 6 .i64 rfl
 refine Calls.mono (Proofs.Tryz.strings_Contains s t n w hm.1 (hS.view.cell hn)) ?_
 rintro e w' ⟨rfl,rfl⟩
 exact q8s (rv:=[.bool (Go.Lib.contains s.data.toList t.data.toList)]) hS hm.2 (Below.refl _ _) (.cons (ms:=[]) (.f (.bool _)) .nil) (.skip (a0:=[]) (.skip (a0:=[]) .nil))
theorem w4f:z2q Proofs.Tryz.prog D 318 (conV ([.v]:LP) ([.str]:LV) ([.int .i64,.ifc]:LV) ([.same]:LV) (fun a K=>q45 a.1 (fun q0 q1=>K (q0,q1,()) ((),())))):=by
 intro args K hm w σ vals ins hG hL hS
 obtain⟨a,ha,hm⟩:=Qk hm
 have hargs:=Vn ha
 subst hargs
 obtain⟨s,_⟩:=a
 cases hL with
 |cons hp hr=>
 cases hr
 cases hp with
 |f hf=>
 cases hf
 have hm:s.size<=281474976710656/\y6i s (fun n b=>K [.f (.int .i64 n),.f (.ifc b)] [.same]):=hm
 obtain⟨hsz,hm⟩:=hm
 have err: ∀g:Nat,D.glob g= .fptr [.ifc false] 0-> ∃ev,w.cell? ⟨g,0,none⟩=some ev/\(ev= .nilIface∨ ∃te pe,ev= .iface te pe):=by
  intro g hg
  have h:=hG.known g
  rw[hg] at h
  generalize hq:Value.pointer (some (⟨g,0,none⟩:Addr))=q at h
  cases h with
  |fptr ad cs l off hv hr=>
  cases hq
  obtain⟨v,hvl⟩: ∃v,cs=[v]:=List.length_eq_one_iff.1 hr.1
  subst hvl
  have hc:=hS.view.cell (hv 0 v rfl)
  have hR:=hr.2 0 v _ rfl rfl
  refine⟨v,?_,?_⟩
  ·rw[Uo] at hc;exact hc
  ·cases hR with
   |ifcS t p=>exact .inr ⟨t,p,rfl⟩
 unfold y6i at hm
 split at hm
 ·rename_i v hv
  refine Calls.mono (Proofs.Tryz.strconv_Atoi_ok s (by omega) v hv w) ?_
  rintro e w' ⟨rfl,hw⟩
  have hb:Below w.heap.size w w':=by
   rcases hw with rfl|⟨t,rfl⟩
   ·exact Below.refl _ _
   ·exact Go.Lib.bytesWorld_below _ _ _
  exact q8s (rv:=[.int .i64 v,.nilIface]) hS hm hb (.cons (ms:=[]) (.f (.int _ _)) (.cons (ms:=[]) (.f .ifcN) .nil)) (.skip (a0:=[]) .nil)
 ·rename_i hv
  obtain⟨ev,h1,h2⟩:=err 10 rfl
  refine Calls.mono (Proofs.Tryz.strconv_Atoi_range s hsz hv ev w h1 h2) ?_
  rintro e w' ⟨N,rfl,_,_,hb⟩
  exact q8s (rv:=[.int .i64 _,.iface _ _]) hS hm hb (.cons (ms:=[]) (.f (.int _ _)) (.cons (ms:=[]) (.f (.ifcS _ _)) .nil)) (.skip (a0:=[]) .nil)
 ·rename_i hv
  obtain⟨ev,h1,h2⟩:=err 9 rfl
  refine Calls.mono (Proofs.Tryz.strconv_Atoi_syntax s hsz hv ev w h1 h2) ?_
  rintro e w' ⟨N,rfl,_,_,hb⟩
  exact q8s (rv:=[.int .i64 _,.iface _ _]) hS hm hb (.cons (ms:=[]) (.f (.int _ _)) (.cons (ms:=[]) (.f (.ifcS _ _)) .nil)) (.skip (a0:=[]) .nil)
theorem w4g:z2q Proofs.Tryz.prog D 164 (conV ([.v]:LP) ([.int .i64]:LV) ([.str]:LV) ([.same]:LV) (fun a K=>z14 a.1 (fun q0=>K (q0,()) ((),())))):=by
 intro args K hm w σ vals ins hG hL hS
 obtain⟨a,ha,hm⟩:=Qk hm
 have hargs:=Vn ha
 subst hargs
 obtain⟨i,_⟩:=a
 cases hL with
 |cons hp hr=>
 cases hr
 cases hp with
 |f hf=>
 cases hf
 have hm:InI i/\K [.f (.str ⟨(Go.Lib.itoa i).toArray⟩)] [.same]:=hm
 obtain⟨t,q,hb⟩:=hG.blk 5 _ rfl
 have htab:Go.Lib.TabIs Proofs.Tryz.prog w "internal/strconv.uint64pow10" .u64 Go.Lib.pow10Tab:=by
  unfold Go.Lib.TabIs World.var?
  rw[show (Proofs.Tryz.prog).globalNamed "internal/strconv.uint64pow10" =some 5 by kernel_rfl,Option.bind_some,hS.view _ _ hb]
  kernel_rfl
 refine Calls.mono (Proofs.Tryz.strconv_Itoa i hm.1.1 hm.1.2 w htab) ?_
 rintro e w' ⟨rfl,k,os,rfl⟩
 exact q8s (rv:=[.string ⟨(Go.Lib.itoa i).toArray⟩]) hS hm.2 (Go.Lib.below_grow _ _ (Nat.le_refl _) _ _) (.cons (ms:=[]) (.f (.str _)) .nil) (.skip (a0:=[]) .nil)
theorem j9z(l:List ByteArray):l.flatMap Qj=l.map Value.string:=by
 induction l with
 |nil=>rfl
 |cons a l ih=>rw[List.flatMap_cons,List.map_cons,ih];rfl
theorem u3j(l:List ByteArray):(cpt l).length<=l.length:=by
 unfold cpt Go.Lib.compact
 rw[List.length_map]
 have h: ∀(d:Array (List UInt8)) (m:Nat),(Go.Lib.compactUpTo d m).length<=m:=by
  intro d m
  unfold Go.Lib.compactUpTo
  rw[List.length_map]
  exact Nat.le_trans (List.length_filter_le _ _) (by simp)
 simpa using h _ _
theorem y2k{σ:Hv}{xs:List Value}{l:List ByteArray}(h:Els D σ C.str xs l):xs=l.flatMap Qj:=by
 have h1:xs.length=l.length:=by rw[h.1];exact Nat.mul_one _
 rw[j9z]
 refine List.ext_getElem? fun i=> ?_
 rw[List.getElem?_map]
 rcases Nat.lt_or_ge i l.length with hi|hi
 ·obtain⟨v,hv⟩: ∃v,xs[i]? =some v:=⟨_,List.getElem?_eq_getElem (by omega)⟩
  obtain⟨x,hx⟩: ∃x,l[i]? =some x:=⟨_,List.getElem?_eq_getElem hi⟩
  have hR:=(h.2 i x hx).2 0 v (.str x) (by rw[show D.size C.str=1 from rfl,Nat.mul_one,List.getElem?_take,if_pos (by decide),List.getElem?_drop];exact hv) rfl
  rw[hv,hx]
  cases hR
  rfl
 ·rw[List.getElem?_eq_none (by omega),List.getElem?_eq_none hi];rfl
theorem w7k(σ:Hv)(l:List ByteArray):Els D σ C.str (l.flatMap Qj) l:=by
 rw[j9z]
 refine⟨by rw[List.length_map];exact (Nat.mul_one _).symm,fun i x hx=> ?_⟩
 rw[show D.size C.str=1 from rfl,Nat.mul_one]
 have hx:l[i]? =some x:=hx
 have e:((l.map Value.string).drop i).take 1=[.string x]:=by
  rw[←List.map_drop,List.drop_eq_getElem_cons (List.getElem?_eq_some_iff.1 hx).1,(List.getElem?_eq_some_iff.1 hx).2];rfl
 rw[e]
 refine⟨rfl,fun j v s hj hs=> ?_⟩
 cases j with
 |zero=>cases hj;cases hs;exact .str x
 |succ j=>cases hj
theorem q7x:z2q Proofs.Tryz.prog D 137 (conV ([.own 9 C.str]:LP) ([.vec 9 C.str]:LV) ([]:LV) ([.vec 9 C.str]:LV) (fun a K=>Jt a.1 (fun q0=>K () (q0,())))):=by
 intro args K hm w σ vals ins hG hL hS
 obtain⟨a,ha,hm⟩:=Qk hm
 have hargs:=Vn ha
 subst hargs
 obtain⟨s,_⟩:=a
 cases hL with
 |cons hp hr=>
 cases hr
 cases hp with
 |vec hE hl h1=>
 have hx:=y2k hE
 subst hx
 have hm:K [] [.vec 9 C.str (srt s)]:=hm
 refine Calls.mono (v50 Proofs.Tryz.slices_Sort_string Proofs.Tryz.slices_Sort_string_none hS.view (hS.get (i:=0) rfl) rfl (fun b hb=>hS.off _ (List.mem_of_getElem? (i:=0) rfl) b hb) (by omega)) ?_
 rintro _ w1 ⟨rfl,hg,ho⟩
 have hS1:=hS.growV (i:=0) (o':=vec _ 9 1 s.length ((srt s).flatMap Qj)) rfl hg rfl ho (ms':=[vec _ 9 1 s.length ((srt s).flatMap Qj)]) rfl
 refine⟨[],_,[],σ,[],[vec _ 9 1 (srt s).length ((srt s).flatMap Qj)],rfl,hm,.nil,.keep (.vec (w7k σ _) (Nat.le_trans (Nat.le_of_eq (J4 _)) hl) h1) .nil,?_⟩
 have e:(srt s).length=s.length:=J4 _
 rw[e];exact hS1
theorem q4j:z2q Proofs.Tryz.prog D 220 (conV ([.own 9 C.str]:LP) ([.vec 9 C.str]:LV) ([.vec 9 C.str]:LV) ([.same]:LV) (fun a K=>J8 a.1 (fun q0=>K (q0,()) ((),())))):=by
 intro args K hm w σ vals ins hG hL hS
 obtain⟨a,ha,hm⟩:=Qk hm
 have hargs:=Vn ha
 subst hargs
 obtain⟨s,_⟩:=a
 cases hL with
 |cons hp hr=>
 cases hr
 cases hp with
 |vec hE hl h1=>
 have hx:=y2k hE
 subst hx
 have hm:K [.vec 9 C.str (cpt s)] [.same]:=hm
 refine Calls.mono (w0m Proofs.Tryz.slices_Compact_string Proofs.Tryz.slices_Compact_string_empty hS.view (hS.get (i:=0) rfl) rfl (fun b hb=>hS.off _ (List.mem_of_getElem? (i:=0) rfl) b hb) (by omega)) ?_
 rintro _ w1 ⟨v1,rfl,hf,hg,ho⟩
 have hlc:(cpt s).length<=140737488355328:=Nat.le_trans (u3j _) hl
 have hS1:=hS.growV (i:=0) (o':=vec v1 9 1 (cpt s).length ((cpt s).flatMap Qj)) rfl hg hf ho (ms':=[vec v1 9 1 (cpt s).length ((cpt s).flatMap Qj)]) rfl
 exact⟨[.vec 9 C.str (cpt s)],[.same],[v1],σ,[vec v1 9 1 (cpt s).length ((cpt s).flatMap Qj)],[],rfl,hm,.cons (.vec (w7k σ _) hlc (q07 ho)) .nil,.skip .nil,hS1⟩
theorem u0l{σ:Hv}{v:Value}{l:List ByteArray}(h:RepF D σ v (.sl C.str l)):RSl 1 (REnc Qj) σ v l:=by
 obtain⟨a,cap,e1,e2,e3,e4⟩:=h.toRSl okP.ok
 refine⟨a,cap,e1,e2,e3,fun i x hx=> ?_⟩
 obtain⟨ad,cs,f1,f2,f3,f4⟩:=e4 i x hx
 refine⟨ad,cs,f1,f2,f3,?_⟩
 obtain⟨u,rfl⟩: ∃u,cs=[u]:=List.length_eq_one_iff.1 f2
 have g1:=f4.2 0 u (.str x) rfl rfl
 cases g1
 rfl
theorem y6k{σ:Hv}{v:Value}{l:List Edg}(h:RepF D σ v (.sl C.edge l)):RSl 2 (REnc u2o) σ v (l.map fun e=>(e.1,e.2)):=by
 obtain⟨a,cap,e1,e2,e3,e4⟩:=h.toRSl okP.ok
 have hl:(l.map fun e=>(e.1,e.2)).length=l.length:=List.length_map ..
 refine⟨a,cap,by rw[hl];exact e1,by rw[hl];exact e2,by rw[hl];exact e3,fun i x hx=> ?_⟩
 rw[List.getElem?_map] at hx
 obtain⟨y,hy,rfl⟩:=Option.map_eq_some_iff.1 hx
 obtain⟨ad,cs,f1,f2,f3,f4⟩:=e4 i y hy
 refine⟨ad,cs,f1,f2,f3,?_⟩
 obtain⟨u,v,rfl⟩: ∃u v,cs=[u,v]:=by
  match cs,f2 with
  |[u,v],_=>exact⟨u,v,rfl⟩
 have g1:=f4.2 0 u (.str y.src) rfl rfl
 have g2:=f4.2 1 v (.str y.dst) rfl rfl
 cases g1;cases g2
 rfl
theorem w7l:z2q Proofs.Tryz.prog D 178 (conV ([.sl C.str,.sl C.edge]:LP) ([.sl C.str,.sl C.edge]:LV) ([.vec 9 C.str,.int .i64]:LV) ([.same,.same]:LV) (fun a K=>P_graph_Order a.1 a.2.1 (fun q0 q1=>K (q0,q1,()) ((),(),())))):=by
 intro args K hm w σ vals ins hG hL hS
 obtain⟨a,ha,hm⟩:=Qk hm
 have hargs:=Vn ha
 subst hargs
 obtain⟨s,t,_⟩:=a
 cases hL with
 | @cons _ _ v1 _ _ _ hp hr=>
 cases hr with
 | @cons _ _ v2 _ _ _ hq hr=>
 cases hr
 cases hp with
 |f hf1=>
 cases hq with
 |f hf2=>
 have hm:Go.Fl.P_graph_Order s (t.map fun e=>(e.1,e.2)) (fun l n=>K [.vec 9 C.str l,.f (.int .i64 n)] [.same,.same]):=hm
 refine Calls.mono (Go.Proofs.YtkbjibhkaddepaaGreatDoor.w_graph_Order s (t.map fun e=>(e.1,e.2)) v1 v2 hS.view (u0l hf1) (y6k hf2) hm) ?_
 rintro e w1 ⟨l,n,v,rfl,hS1,hsm,hK⟩
 have hl:l.length<=140737488355328:=by unfold Sml at hsm;omega
 exact⟨[.vec 9 C.str l,.f (.int .i64 n)],[.same,.same],[v,.int .i64 n],σ,[vec v 9 1 l.length (l.flatMap Qj)],[],rfl,hK,.cons (.vec (w7k σ _) hl (q07 (hS1.get (i:=0) rfl))) (.cons (ms:=[]) (.f (.int _ _)) .nil),.skip (a0:=[]) (.skip (a0:=[]) .nil),hS1⟩
theorem w1k:z2q Proofs.Tryz.prog D 302 (conV ([.v,.v]:LP) ([.str,.str]:LV) ([.vec 9 C.str]:LV) ([.same,.same]:LV) (fun a K=>q9o a.1 a.2.1 (fun q0=>K (q0,()) ((),(),())))):=by
 intro args K hm w σ vals ins hG hL hS
 obtain⟨a,ha,hm⟩:=Qk hm
 have hargs:=Vn ha
 subst hargs
 obtain⟨s,t,_⟩:=a
 cases hL with
 |cons hp hr=>
 cases hr with
 |cons hq hr=>
 cases hr
 cases hp with
 |f hf=>
 cases hf
 cases hq with
 |f hf=>
 cases hf
 have hm:t.size=1/\s.size<4294967281/\K [.vec 9 C.str (q1s s t)] [.same,.same]:=hm
 obtain⟨h1,hsz,hm⟩:=hm
 obtain⟨n,hn⟩:=hG.free 6 .i64 rfl
 have hlen:(q1s s t).length=Go.Lib.countB s t+1:=Go.Lib.splitB_all t (by omega) 0 _ s rfl
 have hcnt:=Go.Lib.countB_le t (by omega) s.size s (Nat.le_refl _)
 refine Calls.mono (Proofs.Tryz.strings_Split s t n w hsz (hS.view.cell hn) (by omega)) ?_
 rintro e w' ⟨rfl,rfl⟩
 have ho:(vec (.slice (some ⟨w.heap.size,0,none⟩) (q1s s t).length (q1s s t).length) 9 1 (q1s s t).length ((q1s s t).flatMap Qj)).ok (w.alloc (.cells ((q1s s t).map Value.string).toArray 9)):=by
  refine⟨by rw[j9z];simp,.inr ⟨w.heap.size,_,_,rfl,Nat.zero_le _,heap_alloc_new _ _,Nat.le_refl _,by unfold maxLen;omega,by simp,?_⟩⟩
  rw[j9z,Nat.mul_one]
  exact List.take_of_length_le (by rw[List.length_map];exact Nat.le_refl _)
 have hS1:=hS.add (Vm w _) ho (by rintro k ⟨⟩;exact Nat.le_refl _)
 have hl:(q1s s t).length<=140737488355328:=by omega
 have hr:=(⟨[.vec 9 C.str (q1s s t)],[.same,.same],[_],σ,[_],[],rfl,hm,.cons (.vec (w7k σ _) hl (q07 ho)) .nil,.skip (a0:=[]) (.skip (a0:=[]) .nil),hS1⟩:Back D σ w [.f (.str s),.f (.str t)] [.string s,.string t] [] K (.returned (retV [.slice (some ⟨w.heap.size,0,none⟩) (q1s s t).length (q1s s t).length])) (w.alloc (.cells ((q1s s t).map Value.string).toArray 9)))
 rw[hlen] at hr
 exact hr
end Go.En
end
noncomputable section
set_option maxRecDepth 100000
open Go Go.RowKit Go.Fl Go.Fl.Lk Go.Fx
namespace Go.En
def q6h(X:Vc):Con Sg:=conS [] [.vec 111 C.decl] fun _ K=>X (fun q0=>K (q0,()))
theorem z01:MT 29 (q6h U9):=mS (l:=[]) trivial []
def v6u(X:j9v):Con Sg:=conV [.ptr 92 [.c,.v]] [.ptr 92 [.sl C.u8,.int .i64]] [.bool] [.ptr 92 [.same,.int .i64]] fun a K=>X a.1.1 a.1.2.1 (fun q0 q1=>K (q0,()) (((),q1,()),()))
theorem y6l:MT 61 (v6u w68):=mP (rk:=[.v]) (l:=[]) trivial []
def Vy(X:Zk):Con Sg:=conV [.ptr 92 [.c,.v],.v] [.ptr 92 [.sl C.u8,.int .i64],.int .i64] [.int .i64] [.ptr 92 [.same,.int .i64],.same] fun a K=>X a.1.1 a.1.2.1 a.2.1 (fun q0 q1=>K (q0,()) (((),q1,()),(),()))
theorem y6m{w0a:j9v}(h:AL [(61,v6u w0a)]):MT 30 (Vy (w69 w0a)):=mP (rk:=[.v]) h []
theorem G1:MT 30 (Vy Wb):=y6m ⟨y6l,trivial⟩
def z91(X:q14):Con Sg:=conV [.ptr 92 [.c,.v]] [.ptr 92 [.sl C.u8,.int .i64]] [.str] [.ptr 92 [.same,.int .i64]] fun a K=>X a.1.1 a.1.2.1 (fun q0 q1=>K (q0,()) (((),q1,()),()))
theorem y6n{Qb:Zk}(h:AL [(30,Vy Qb)]):MT 31 (z91 (w7a Qb)):=mP (rk:=[.v]) h []
theorem j90:MT 31 (z91 z33):=y6n ⟨G1,trivial⟩
def j4b(X:q7h):Con Sg:=conV [.ptr 92 [.c,.v],.v] [.ptr 92 [.sl C.u8,.int .i64],.int .i64] [.int .i64] [.ptr 92 [.same,.int .i64],.same] fun a K=>X a.1.1 a.1.2.1 a.2.1 (fun q0 q1=>K (q0,()) (((),q1,()),(),()))
theorem y6o{Qb:Zk}(h:AL [(30,Vy Qb)]):MT 32 (j4b (w7b Qb)):=mP (rk:=[.v]) h []
theorem w7m:MT 32 (j4b z9c):=y6o ⟨G1,trivial⟩
def w7n(X:z9d):Con Sg:=conS [.int .i64,.vec 9 C.str] [.sl C.str] fun a K=>X a.1 a.2.1 (fun q0=>K (q0,()))
theorem v6v:MT 34 (w7n j9w):=mS (l:=[]) trivial []
def j91(X:z34):Con Sg:=conV [.ptr 92 [.c,.v]] [.ptr 92 [.sl C.u8,.int .i64]] [.vec 9 C.str] [.ptr 92 [.same,.int .i64]] fun a K=>X a.1.1 a.1.2.1 (fun q0 q1=>K (q0,()) (((),q1,()),()))
theorem y6p{Qb:Zk}(h:AL [(30,Vy Qb)]):MT 62 (j91 (w7c Qb)):=mP (rk:=[.own 9 C.str]) h [(9,⟨bl 397,[],[(0,(92,2))],[(.slot 4,.own 9 C.str),sI 5,(.cell 0 1,.int .i64)]⟩),(17,⟨bl 8121,[0],[],[sI 6,(.obj 1,.own 9 C.str)]⟩)]
theorem v6w:MT 62 (j91 j3n):=y6p ⟨G1,trivial⟩
def w7o(X:j1k):Con Sg:=conV [.ptr 92 [.c,.v]] [.ptr 92 [.sl C.u8,.int .i64]] [.str] [.ptr 92 [.same,.int .i64]] fun a K=>X a.1.1 a.1.2.1 (fun q0 q1=>K (q0,()) (((),q1,()),()))
theorem u0m{Qb:Zk}(h:AL [(30,Vy Qb)]):MT 70 (w7o (v3s Qb)):=mP (rk:=[.v]) h []
theorem y2l:MT 70 (w7o w09):=u0m ⟨G1,trivial⟩
def z7o(X:q15):Con Sg:=conV [.ptr 92 [.c,.v],.v] [.ptr 92 [.sl C.u8,.int .i64],.int .i64] [.el C.val] [.ptr 92 [.same,.int .i64],.same] fun a K=>X a.1.1 a.1.2.1 a.2.1 (fun q0 q1=>K (q0,()) (((),q1,()),(),()))
theorem y2m{Qb:Zk}{Wl:q14}(h:AL [(30,Vy Qb),(31,z91 Wl)]):MT 64 (z7o (j3o Qb Wl)):=mP (rk:=[.el C.val]) h []
theorem w1l:MT 64 (z7o B7):=y2m ⟨G1,j90,trivial⟩
def j92(X:j3p):Con Sg:=conV [.ptr 92 [.c,.v]] [.ptr 92 [.sl C.u8,.int .i64]] [.el C.ex] [.ptr 92 [.same,.int .i64]] fun a K=>X a.1.1 a.1.2.1 (fun q0 q1=>K (q0,()) (((),q1,()),()))
theorem y6q{Q5:Vc}{Qb:Zk}{z5w:j1k}{Jj:q15}(h:AL [(29,q6h Q5),(30,Vy Qb),(70,w7o z5w),(64,z7o Jj)]):MT 105 (j92 (w7d Q5 Qb z5w Jj)):=mP (rk:=[.el C.ex]) h [(68,⟨bl 4286840701,[3,2],[(5,(66,5)),(0,(92,2)),(1,(66,5))],[(.cell 5 0,.int .i64),(.cell 5 1,.str),(.cell 5 2,.str),(.cell 5 3,.own 72 C.val),(.cell 5 4,.own 66 C.ex),(.cell 0 1,.int .i64),(.cell 1 0,.int .i64),(.cell 1 1,.str),(.cell 1 2,.str),(.cell 1 3,.own 72 C.val),(.cell 1 4,.own 66 C.ex)]⟩),(60,⟨bl 17163319925,[],[(0,(92,2)),(5,(66,5)),(1,(66,5))],[(.cell 0 1,.int .i64),(.cell 5 0,.int .i64),(.cell 5 1,.str),(.cell 5 2,.str),(.cell 5 3,.own 72 C.val),(.cell 5 4,.own 66 C.ex),(.cell 1 0,.int .i64),(.cell 1 1,.str),(.cell 1 2,.str),(.cell 1 3,.own 72 C.val),(.cell 1 4,.own 66 C.ex)]⟩),(37,⟨bl 1055806024022645,[1],[(5,(66,5)),(0,(92,2))],[sI 7,(.cell 5 3,.own 72 C.val),(.cell 0 1,.int .i64)]⟩)]
theorem y6r:MT 105 (j92 z9e):=y6q ⟨z01,G1,y2l,w1l,trivial⟩
def j93(X:q40):Con Sg:=conV [.ptr 92 [.c,.v],.sl C.str,.v] [.ptr 92 [.sl C.u8,.int .i64],.sl C.str,.int .i64] [.el C.ex] [.ptr 92 [.same,.int .i64],.same,.same] fun a K=>X a.1.1 a.1.2.1 a.2.1 a.2.2.1 (fun q0 q1=>K (q0,()) (((),q1,()),(),(),()))
def v0m:PT:=Q6 ([(8,⟨bl 24647,[0,1],[],[sI 7]⟩),(28,⟨bl 3298996281543,[0,1],[],[sB 49]⟩),(37,⟨bl 1148984153929181127,[1],[(0,(92,2)),(4,(66,5))],[sI 11,(.cell 0 1,.int .i64),(.cell 4 0,.int .i64),(.cell 4 1,.str),(.cell 4 2,.str),(.cell 4 3,.own 72 C.val),(.cell 4 4,.own 66 C.ex)]⟩),(46,⟨bl 1152917567256169316295,[0,12,11,4],[(13,(66,5))],[(.cell 13 0,.int .i64),(.cell 13 1,.str),(.cell 13 2,.str),(.cell 13 3,.sl C.val),(.cell 13 4,.sl C.ex)]⟩)]:LS)
theorem v8c(Qb:Zk)(j5e:j3p)(X:q40)(list:List (Int))(at_:Int)(segments:List (ByteArray))(levels:Int)(K:Ex->Int->Prop):j9x Qb j5e X list at_ segments levels K=fnV (((WL [(30,Vy Qb),(105,j92 j5e)]).with 63 (j93 X)).pl v0m) 4 63 ([.ptr 92 [.c,.v],.sl C.str,.v]:LP) ([.el C.ex]:LP) ([.ptr 92 [.sl C.u8,.int .i64],.sl C.str,.int .i64]:LV) ([.el C.ex]:LV) ([.ptr 92 [.same,.int .i64],.same,.same]:LV) ((list,at_,()),segments,levels,()) (fun r o=>K r.1 o.1.2.1):=by kernel_rfl
theorem v6x:MT 63 (j93 j3q):=by
 show MT _ (conV ([.ptr 92 [.c,.v],.sl C.str,.v]:LP) ([.ptr 92 [.sl C.u8,.int .i64],.sl C.str,.int .i64]:LV) ([.el C.ex]:LV) ([.ptr 92 [.same,.int .i64],.same,.same]:LV) fun a K=>j3q a.1.1 a.1.2.1 a.2.1 a.2.2.1 (fun q0 q1=>K (q0,()) (((),q1,()),(),(),())))
 refine mR (l:=[(30,Vy Wb),(105,j92 z9e)]) (u:=4) (rk:=[.el C.ex]) (p:=v0m) ⟨G1,y6r,trivial⟩ (by kernel_rfl) fun a K h X hX=> ?_
 exact h (fun list at_ segments levels K=>X ((list,at_,()),segments,levels,()) fun r o=>K r.1 o.1.2.1) (fun list at_ segments levels K hs=>hX ((list,at_,()),segments,levels,()) (fun r o=>K r.1 o.1.2.1) (Eq.mp (v8c Wb z9e (fun list at_ segments levels K=>X ((list,at_,()),segments,levels,()) fun r o=>K r.1 o.1.2.1) list at_ segments levels K) hs))
def z7p(X:q5y):Con Sg:=conV [.ptr 92 [.c,.v],.ptr 46 [.v,.v,.v,.sl C.decl,.own 144 C.seg,.own 34 C.flag,.own 102 C.layer,.own 68 C.exper]] [.ptr 92 [.sl C.u8,.int .i64],.ptr 46 [.str,.str,.int .i64,.sl C.decl,.vec 144 C.seg,.vec 34 C.flag,.vec 102 C.layer,.vec 68 C.exper]] [] [.ptr 92 [.same,.int .i64],.ptr 46 [.str,.str,.int .i64,.sl C.decl,.vec 144 C.seg,.vec 34 C.flag,.vec 102 C.layer,.vec 68 C.exper]] fun a K=>X a.1.1 a.1.2.1 a.2.1.1 a.2.1.2.1 a.2.1.2.2.1 a.2.1.2.2.2.1 a.2.1.2.2.2.2.1 a.2.1.2.2.2.2.2.1 a.2.1.2.2.2.2.2.2.1 a.2.1.2.2.2.2.2.2.2.1 (fun q0 q1 q2 q3 q4 q5 q6 q7 q8=>K () (((),q0,()),(q1,q2,q3,q4,q5,q6,q7,q8,()),()))
theorem v0n{Qb:Zk}{q3q:z9d}{q5g:z34}{q5h:q40}(h:AL [(30,Vy Qb),(34,w7n q3q),(62,j91 q5g),(63,j93 q5h)]):MT 33 (z7p (z64 Qb q3q q5g q5h)):=mP (rk:=[]) h [(5,⟨bl 1427,[3,4,5],[(0,(92,2)),(1,(46,8))],[sI 5,(.cell 0 1,.int .i64),(.cell 1 4,.own 144 C.seg)]⟩),(14,⟨bl 67010035,[11,10,9,1],[(12,(144,9)),(0,(92,2))],[(.cell 12 1,.str),(.cell 0 1,.int .i64)]⟩),(18,⟨bl 67010035,[11,10,9,1],[(12,(144,9)),(0,(92,2))],[(.cell 12 4,.int .i64),(.cell 12 5,.str),(.cell 12 6,.str),(.cell 12 7,.sl C.val),(.cell 12 8,.sl C.ex),(.cell 0 1,.int .i64)]⟩)]
theorem v0o:MT 33 (z7p z0k):=v0n ⟨G1,v6v,v6w,v6x,trivial⟩
end Go.En
end
noncomputable section
set_option maxRecDepth 100000
open Go Go.RowKit Go.Fl Go.Fl.Lk Go.Fx
namespace Go.En
def z7q(X:q16):Con Sg:=conS [.el C.env] [.vec 9 C.str] fun a K=>X a.1 (fun q0=>K (q0,()))
theorem w1m:MT 65 (z7q q17):=mS (l:=[]) trivial [(7,⟨[0,1,2],[0],[],[(.slot 3,.own 9 C.str),sI 4]⟩)]
def j4c(X:q81):Con Sg:=conV [.ptr 92 [.c,.v],.v] [.ptr 92 [.sl C.u8,.int .i64],.int .i64] [.vec 162 C.range] [.ptr 92 [.same,.int .i64],.same] fun a K=>X a.1.1 a.1.2.1 a.2.1 (fun q0 q1=>K (q0,()) (((),q1,()),(),()))
theorem y2n{Qb:Zk}{W2:q7h}(h:AL [(30,Vy Qb),(32,j4b W2)]):MT 39 (j4c (w1a Qb W2)):=mP (rk:=[.own 162 C.range]) h [(26,⟨[0,1,4],[],[(0,(92,2))],[(.slot 5,.own 162 C.range),sI 6,sI 7,(.cell 0 1,.int .i64)]⟩),(32,⟨bl 8444249301319923,[0,1],[],[sI 11]⟩),(9,⟨[0,1,4],[],[(0,(92,2))],[(.slot 5,.own 162 C.range),sI 6,sI 7,sI 8,(.cell 0 1,.int .i64)]⟩),(20,⟨bl 2144334835,[0,1],[],[sI 10]⟩)]
theorem v0p:MT 39 (j4c z65):=y2n ⟨G1,w7m,trivial⟩
def w1n(X:z66):Con Sg:=conV [.ptr 92 [.c,.v],.v] [.ptr 92 [.sl C.u8,.int .i64],.int .i64] [.el C.serve] [.ptr 92 [.same,.int .i64],.same] fun a K=>X a.1.1 a.1.2.1 a.2.1 (fun q0 q1=>K (q0,()) (((),q1,()),(),()))
theorem y2o{Qb:Zk}{Wl:q14}{q3r:q81}{Q5:Vc}(h:AL [(30,Vy Qb),(31,z91 Wl),(39,j4c q3r),(29,q6h Q5)]):MT 13 (w1n (w1b Qb Wl q3r Q5)):=mP (rk:=[.el C.serve]) h []
theorem y2p:MT 13 (w1n j3r):=y2o ⟨G1,j90,v0p,z01,trivial⟩
def v0q(X:j3s):Con Sg:=conV [] [] [.ptr 215 [.vec 289 C.node,.map C.node C.i64,.bool]] [] fun _ K=>X (fun q0 q1 q2=>K ((q0,q1,q2,()),()) ())
theorem y2q:MT 106 (v0q v0l):=mP (rk:=[.ptr 215 [.own 289 C.node,.map C.node C.i64,.v]]) (l:=[]) trivial []
def Rx(X:Wn):Con Sg:=conS [.int .i64] [.bool] fun a K=>X a.1 (fun q0=>K (q0,()))
theorem q9y:MT 128 (Rx J5):=mS (l:=[]) trivial []
def v0r(X:j3t):Con Sg:=conS [.sl C.str,.sl C.str] [.bool] fun a K=>X a.1 a.2.1 (fun q0=>K (q0,()))
theorem y2r:MT 94 (v0r j3u):=mS (l:=[]) trivial [(9,⟨bl 1987,[],[],[sI 5]⟩)]
def z92(X:q37):Con Sg:=conS [.el C.val,.el C.val] [.bool] fun a K=>X a.1 a.2.1 (fun q0=>K (q0,()))
theorem v8d{j5g:j3t}(h:AL [(94,v0r j5g)]):MT 53 (z92 (j6a j5g)):=mS h []
theorem w54:MT 53 (z92 q8m):=v8d ⟨y2r,trivial⟩
def q3a(X:Rg):Con Sg:=conS [.sl C.val,.sl C.val] [.bool] fun a K=>X a.1 a.2.1 (fun q0=>K (q0,()))
theorem w1o{U8:q37}(h:AL [(53,z92 U8)]):MT 256 (q3a (q82 U8)):=mS h [(9,⟨bl 1987,[],[],[sI 5]⟩)]
theorem w1p:MT 256 (q3a Uv):=w1o ⟨w54,trivial⟩
def z43(X:V6):Con Sg:=conV [.el C.ex,.el C.ex] [.el C.ex,.el C.ex] [.bool] [.same,.same] fun a K=>X a.1 a.2.1 (fun q0=>K (q0,()) ((),(),()))
def j02:PT:=Q6 ([(258000009,⟨bl 1987,[],[],[sI 5]⟩)]:LS)
theorem w1q(q3s:Rg)(X:V6)(a:Ex)(b:Ex)(K:Bool->Prop):z35 q3s X a b K=fnV (((WL [(256,q3a q3s)]).with 197 (z43 X)).pl j02) 4 197 ([.el C.ex,.el C.ex]:LP) ([.v]:LP) ([.el C.ex,.el C.ex]:LV) ([.bool]:LV) ([.same,.same]:LV) (a,b,()) (fun r _=>K r.1):=by kernel_rfl
theorem w7p:MT 197 (z43 q18):=by
 show MT _ (conV ([.el C.ex,.el C.ex]:LP) ([.el C.ex,.el C.ex]:LV) ([.bool]:LV) ([.same,.same]:LV) fun a K=>q18 a.1 a.2.1 (fun q0=>K (q0,()) ((),(),())))
 refine mR (l:=[(256,q3a Uv)]) (u:=4) (rk:=[.v]) (p:=j02) ⟨w1p,trivial⟩ (by kernel_rfl) fun a K h X hX=> ?_
 exact h (fun a b K=>X (a,b,()) fun r _=>K r.1) (fun a b K hs=>hX (a,b,()) (fun r _=>K r.1) (Eq.mp (w1q Uv (fun a b K=>X (a,b,()) fun r _=>K r.1) a b K) hs))
def q4k(X:q09):Con Sg:=conS [.sl C.ex,.el C.ex] [.int .i64] fun a K=>X a.1 a.2.1 (fun q0=>K (q0,()))
theorem v3w{q76:V6}(h:AL [(197,z43 q76)]):MT 157 (q4k (j1l q76)):=mS h [(5,⟨[0,1,3],[0],[],[sI 5]⟩)]
theorem w1r:MT 157 (q4k Uk):=v3w ⟨w7p,trivial⟩
def z19(X:Vd):Con Sg:=conV [.sl C.ex,.el C.ex] [.sl C.ex,.el C.ex] [.sl C.ex] [.same,.same] fun a K=>X a.1 a.2.1 (fun q0=>K (q0,()) ((),(),()))
def z7r:PT:=Q6 ([(6,⟨[1,3,4],[0],[],[(.slot 0,.sl C.ex)]⟩),(9,⟨[1,3,4],[0],[],[(.slot 0,.sl C.ex),sI 5]⟩)]:LS)
theorem j8o(Un:q09)(Qx:Wn)(X:Vd)(l:List (Ex))(e:Ex)(K:List (Ex)->Prop):z1u Un Qx X l e K=fnV (((WL [(157,q4k Un),(128,Rx Qx)]).with 154 (z19 X)).pl z7r) 4 154 ([.sl C.ex,.el C.ex]:LP) ([.sl C.ex]:LP) ([.sl C.ex,.el C.ex]:LV) ([.sl C.ex]:LV) ([.same,.same]:LV) (l,e,()) (fun r _=>K r.1):=by kernel_rfl
theorem w4h:MT 154 (z19 q41):=by
 show MT _ (conV ([.sl C.ex,.el C.ex]:LP) ([.sl C.ex,.el C.ex]:LV) ([.sl C.ex]:LV) ([.same,.same]:LV) fun a K=>q41 a.1 a.2.1 (fun q0=>K (q0,()) ((),(),())))
 refine mR (l:=[(157,q4k Uk),(128,Rx J5)]) (u:=4) (rk:=[.sl C.ex]) (p:=z7r) ⟨w1r,q9y,trivial⟩ (by kernel_rfl) fun a K h X hX=> ?_
 exact h (fun l e K=>X (l,e,()) fun r _=>K r.1) (fun l e K hs=>hX (l,e,()) (fun r _=>K r.1) (Eq.mp (j8o Uk J5 (fun l e K=>X (l,e,()) fun r _=>K r.1) l e K) hs))
def q9z(X:Rh):Con Sg:=conS [.sl C.rule] [.sl C.ex] fun a K=>X a.1 (fun q0=>K (q0,()))
theorem w1s{q5j:Vd}(h:AL [(154,z19 q5j)]):MT 107 (q9z (q83 q5j)):=mS h [(7,⟨[0,2],[],[],[(.slot 3,.sl C.ex),sI 4]⟩)]
theorem w1t:MT 107 (q9z q19):=w1s ⟨w4h,trivial⟩
end Go.En
end
noncomputable section
set_option maxRecDepth 100000
open Go Go.RowKit Go.Fl Go.Fl.Lk Go.Fx
namespace Go.En
def q3b(X:Wc):Con Sg:=conV [.ptr 215 [.own 289 C.node,.map C.node C.i64,.v],.v] [.ptr 215 [.vec 289 C.node,.map C.node C.i64,.bool],.int .i64] [.bool] [.ptr 215 [.vec 289 C.node,.map C.node C.i64,.bool],.same] fun a K=>X a.1.1 a.1.2.1 a.1.2.2.1 a.2.1 (fun q0 q1 q2 q3=>K (q0,()) ((q1,q2,q3,()),(),()))
theorem q7y:MT 198 (q3b Gg):=mP (rk:=[.v]) (l:=[]) trivial []
def z6e(X:q0p):Con Sg:=conV [.ptr 215 [.own 289 C.node,.map C.node C.i64,.v],.v] [.ptr 215 [.vec 289 C.node,.map C.node C.i64,.bool],.int .i64] [.map C.i64 C.bool] [.ptr 215 [.vec 289 C.node,.map C.node C.i64,.bool],.same] fun a K=>X a.1.1 a.1.2.1 a.1.2.2.1 a.2.1 (fun q0 q1 q2 q3=>K (q0,()) ((q1,q2,q3,()),(),()))
theorem j8p:MT 258 (z6e q0q):=mP (rk:=[.map C.i64 C.bool]) (l:=[]) trivial [(7,⟨bl 1843,[0,1,2],[],[(.slot 6,.own 3 C.i64),(.obj 3,.map C.i64 C.bool)]⟩)]
def q4l(X:Uw):Con Sg:=conV [.ptr 215 [.own 289 C.node,.map C.node C.i64,.v],.v] [.ptr 215 [.vec 289 C.node,.map C.node C.i64,.bool],.int .i64] [.vec 3 C.i64] [.ptr 215 [.vec 289 C.node,.map C.node C.i64,.bool],.same] fun a K=>X a.1.1 a.1.2.1 a.1.2.2.1 a.2.1 (fun q0 q1 q2 q3=>K (q0,()) ((q1,q2,q3,()),(),()))
theorem j6o{Q1:Wc}{q01:q0p}(h:AL [(198,q3b Q1),(258,z6e q01)]):MT 200 (q4l (z2s Q1 q01)):=mP (rk:=[.own 3 C.i64]) h [(13,⟨bl 32563,[5,0,4,2],[],[(.slot 6,.own 3 C.i64),sI 7]⟩)]
theorem j6p:MT 200 (q4l R8):=j6o ⟨q7y,j8p,trivial⟩
def Ww(X:Zl):Con Sg:=conV [.ptr 215 [.own 289 C.node,.map C.node C.i64,.v],.v] [.ptr 215 [.vec 289 C.node,.map C.node C.i64,.bool],.int .i64] [.bool] [.ptr 215 [.vec 289 C.node,.map C.node C.i64,.bool],.same] fun a K=>X a.1.1 a.1.2.1 a.1.2.2.1 a.2.1 (fun q0 q1 q2 q3=>K (q0,()) ((q1,q2,q3,()),(),()))
theorem j0p{Q1:Wc}{Bn:Uw}(h:AL [(198,q3b Q1),(200,q4l Bn)]):MT 159 (Ww (q69 Q1 Bn)):=mP (rk:=[.v]) h [(11,⟨bl 16291,[5,0,4,2],[],[sI 6]⟩)]
theorem B2:MT 159 (Ww J2):=j0p ⟨q7y,j6p,trivial⟩
def q0h(X:Ve):Con Sg:=conV [.ptr 215 [.own 289 C.node,.map C.node C.i64,.v],.v] [.ptr 215 [.vec 289 C.node,.map C.node C.i64,.bool],.int .i64] [.int .i64] [.ptr 215 [.vec 289 C.node,.map C.node C.i64,.bool],.same] fun a K=>X a.1.1 a.1.2.1 a.1.2.2.1 a.2.1 (fun q0 q1 q2 q3=>K (q0,()) ((q1,q2,q3,()),(),()))
theorem z2a:MT 199 (q0h Wd):=mP (rk:=[.v]) (l:=[]) trivial []
def q0x(X:He):Con Sg:=conV [.ptr 215 [.own 289 C.node,.map C.node C.i64,.v],.v,.v] [.ptr 215 [.vec 289 C.node,.map C.node C.i64,.bool],.int .i64,.int .i64] [.int .i64,.int .i64] [.ptr 215 [.vec 289 C.node,.map C.node C.i64,.bool],.same,.same] fun a K=>X a.1.1 a.1.2.1 a.1.2.2.1 a.2.1 a.2.2.1 (fun q0 q1 q2 q3 q4=>K (q0,q1,()) ((q2,q3,q4,()),(),(),()))
theorem j8q{Zb:Ve}(h:AL [(199,q0h Zb)]):MT 259 (q0x (z6d Zb)):=mP (rk:=[.v,.v]) h []
theorem j8r:MT 259 (q0x Wo):=j8q ⟨z2a,trivial⟩
def U4(X:Vo):Con Sg:=conV [.ptr 215 [.own 289 C.node,.map C.node C.i64,.v],.v,.v,.v] [.ptr 215 [.vec 289 C.node,.map C.node C.i64,.bool],.int .i64,.int .i64,.int .i64] [.int .i64] [.ptr 215 [.vec 289 C.node,.map C.node C.i64,.bool],.same,.same,.same] fun a K=>X a.1.1 a.1.2.1 a.1.2.2.1 a.2.1 a.2.2.1 a.2.2.2.1 (fun q0 q1 q2 q3=>K (q0,()) ((q1,q2,q3,()),(),(),(),()))
theorem w1u{Q1:Wc}{Zb:Ve}(h:AL [(198,q3b Q1),(199,q0h Zb)]):MT 158 (U4 (z67 Q1 Zb)):=mP (rk:=[.v]) h []
theorem z7s:MT 158 (U4 Ji):=w1u ⟨q7y,z2a,trivial⟩
def q4m(X:Jq):Con Sg:=conV [.ptr 215 [.own 289 C.node,.map C.node C.i64,.v],.v,.v,.v,.map C.a3 C.i64] [.ptr 215 [.vec 289 C.node,.map C.node C.i64,.bool],.int .i64,.int .i64,.int .i64,.map C.a3 C.i64] [.int .i64] [.ptr 215 [.vec 289 C.node,.map C.node C.i64,.bool],.same,.same,.same,.map C.a3 C.i64] fun a K=>X a.1.1 a.1.2.1 a.1.2.2.1 a.2.1 a.2.2.1 a.2.2.2.1 a.2.2.2.2.1 (fun q0 q1 q2 q3 q4=>K (q0,()) ((q1,q2,q3,()),(),(),(),q4,()))
def z02:PT:=Q6 ([(36,⟨bl 4951760157141239551596952607,[3,4],[(0,(215,3))],[sI 23,(.cell 0 0,.own 289 C.node),(.cell 0 2,.bool),(.obj 2,.map C.node C.i64)]⟩)]:LS)
theorem j14(Zb:Ve)(V3:He)(Jz:Vo)(X:Jq)(ns:List (Nd))(ids:(Nd->Option (Int)))(full:Bool)(f:Int)(g:Int)(h:Int)(known:(A3->Option (Int)))(K:Int->List (Nd)->(Nd->Option (Int))->Bool->(A3->Option (Int))->Prop):Ux Zb V3 Jz X ns ids full f g h known K=fnV (((WL [(199,q0h Zb),(259,q0x V3),(158,U4 Jz)]).with 201 (q4m X)).pl z02) 4 201 ([.ptr 215 [.own 289 C.node,.map C.node C.i64,.v],.v,.v,.v,.map C.a3 C.i64]:LP) ([.v]:LP) ([.ptr 215 [.vec 289 C.node,.map C.node C.i64,.bool],.int .i64,.int .i64,.int .i64,.map C.a3 C.i64]:LV) ([.int .i64]:LV) ([.ptr 215 [.vec 289 C.node,.map C.node C.i64,.bool],.same,.same,.same,.map C.a3 C.i64]:LV) ((ns,ids,full,()),f,g,h,known,()) (fun r o=>K r.1 o.1.1 o.1.2.1 o.1.2.2.1 o.2.2.2.2.1):=by kernel_rfl
theorem j6q:MT 201 (q4m R9):=by
 show MT _ (conV ([.ptr 215 [.own 289 C.node,.map C.node C.i64,.v],.v,.v,.v,.map C.a3 C.i64]:LP) ([.ptr 215 [.vec 289 C.node,.map C.node C.i64,.bool],.int .i64,.int .i64,.int .i64,.map C.a3 C.i64]:LV) ([.int .i64]:LV) ([.ptr 215 [.vec 289 C.node,.map C.node C.i64,.bool],.same,.same,.same,.map C.a3 C.i64]:LV) fun a K=>R9 a.1.1 a.1.2.1 a.1.2.2.1 a.2.1 a.2.2.1 a.2.2.2.1 a.2.2.2.2.1 (fun q0 q1 q2 q3 q4=>K (q0,()) ((q1,q2,q3,()),(),(),(),q4,())))
 refine mR (l:=[(199,q0h Wd),(259,q0x Wo),(158,U4 Ji)]) (u:=4) (rk:=[.v]) (p:=z02) ⟨z2a,j8r,z7s,trivial⟩ (by kernel_rfl) fun a K h X hX=> ?_
 exact h (fun ns ids full f g h known K=>X ((ns,ids,full,()),f,g,h,known,()) fun r o=>K r.1 o.1.1 o.1.2.1 o.1.2.2.1 o.2.2.2.2.1) (fun ns ids full f g h known K hs=>hX ((ns,ids,full,()),f,g,h,known,()) (fun r o=>K r.1 o.1.1 o.1.2.1 o.1.2.2.1 o.2.2.2.2.1) (Eq.mp (j14 Wd Wo Ji (fun ns ids full f g h known K=>X ((ns,ids,full,()),f,g,h,known,()) fun r o=>K r.1 o.1.1 o.1.2.1 o.1.2.2.1 o.2.2.2.2.1) ns ids full f g h known K) hs))
def U5(X:Z7):Con Sg:=conV [.ptr 215 [.own 289 C.node,.map C.node C.i64,.v],.v,.v,.v] [.ptr 215 [.vec 289 C.node,.map C.node C.i64,.bool],.int .i64,.int .i64,.int .i64] [.int .i64] [.ptr 215 [.vec 289 C.node,.map C.node C.i64,.bool],.same,.same,.same] fun a K=>X a.1.1 a.1.2.1 a.1.2.2.1 a.2.1 a.2.2.1 a.2.2.2.1 (fun q0 q1 q2 q3=>K (q0,()) ((q1,q2,q3,()),(),(),(),()))
theorem j6r{Qr:Zl}{Q1:Wc}{Bo:Jq}(h:AL [(159,Ww Qr),(198,q3b Q1),(201,q4m Bo)]):MT 160 (U5 (z2t Qr Q1 Bo)):=mP (rk:=[.v]) h []
theorem q4n:MT 160 (U5 Vj):=j6r ⟨B2,q7y,j6q,trivial⟩
def q5c(X:B8):Con Sg:=conV [.ptr 215 [.own 289 C.node,.map C.node C.i64,.v],.v] [.ptr 215 [.vec 289 C.node,.map C.node C.i64,.bool],.int .i64] [.int .i64] [.ptr 215 [.vec 289 C.node,.map C.node C.i64,.bool],.same] fun a K=>X a.1.1 a.1.2.1 a.1.2.2.1 a.2.1 (fun q0 q1 q2 q3=>K (q0,()) ((q1,q2,q3,()),(),()))
theorem w4i{Q4:Z7}(h:AL [(160,U5 Q4)]):MT 155 (q5c (j00 Q4)):=mP (rk:=[.v]) h []
theorem w4j:MT 155 (q5c Hu):=w4i ⟨q4n,trivial⟩
def q5d(X:B9):Con Sg:=conV [.ptr 215 [.own 289 C.node,.map C.node C.i64,.v],.v,.v] [.ptr 215 [.vec 289 C.node,.map C.node C.i64,.bool],.int .i64,.int .i64] [.int .i64] [.ptr 215 [.vec 289 C.node,.map C.node C.i64,.bool],.same,.same] fun a K=>X a.1.1 a.1.2.1 a.1.2.2.1 a.2.1 a.2.2.1 (fun q0 q1 q2 q3=>K (q0,()) ((q1,q2,q3,()),(),(),()))
theorem w4k{Qr:Zl}{Q4:Z7}(h:AL [(159,Ww Qr),(160,U5 Q4)]):MT 156 (q5d (j01 Qr Q4)):=mP (rk:=[.v]) h []
theorem w4l:MT 156 (q5d Hw):=w4k ⟨B2,q4n,trivial⟩
def q3c(X:Gh):Con Sg:=conV [.ptr 215 [.own 289 C.node,.map C.node C.i64,.v],.v,.v] [.ptr 215 [.vec 289 C.node,.map C.node C.i64,.bool],.int .i64,.int .i64] [.int .i64] [.ptr 215 [.vec 289 C.node,.map C.node C.i64,.bool],.same,.same] fun a K=>X a.1.1 a.1.2.1 a.1.2.2.1 a.2.1 a.2.2.1 (fun q0 q1 q2 q3=>K (q0,()) ((q1,q2,q3,()),(),(),()))
theorem w7q{Qr:Zl}{Q4:Z7}(h:AL [(159,Ww Qr),(160,U5 Q4)]):MT 109 (q3c (j3v Qr Q4)):=mP (rk:=[.v]) h []
theorem j4d:MT 109 (q3c Gi):=w7q ⟨B2,q4n,trivial⟩
end Go.En
end
noncomputable section
set_option maxRecDepth 100000
open Go Go.RowKit Go.Fl Go.Fl.Lk Go.Fx
namespace Go.En
def q90(X:Wh):Con Sg:=conV [.ptr 215 [.own 289 C.node,.map C.node C.i64,.v],.sl C.ex,.el C.ex] [.ptr 215 [.vec 289 C.node,.map C.node C.i64,.bool],.sl C.ex,.el C.ex] [.int .i64] [.ptr 215 [.vec 289 C.node,.map C.node C.i64,.bool],.same,.same] fun a K=>X a.1.1 a.1.2.1 a.1.2.2.1 a.2.1 a.2.2.1 (fun q0 q1 q2 q3=>K (q0,()) ((q1,q2,q3,()),(),(),()))
def z6f:PT:=Q6 ([(16,⟨bl 129127,[3,0,1,2],[],[sB 26]⟩),(21,⟨bl 68249843815,[3],[(0,(215,3))],[sI 7,sI 8,(.cell 0 0,.own 289 C.node),(.cell 0 2,.bool),(.obj 2,.map C.node C.i64)]⟩)]:LS)
theorem j6s(q5k:B8)(q5l:B9)(W4:Gh)(Un:q09)(Jz:Vo)(X:Wh)(ns:List (Nd))(ids:(Nd->Option (Int)))(full:Bool)(atoms:List (Ex))(e:Ex)(K:Int->List (Nd)->(Nd->Option (Int))->Bool->Prop):q84 q5k q5l W4 Un Jz X ns ids full atoms e K=fnV (((WL [(155,q5c q5k),(156,q5d q5l),(109,q3c W4),(157,q4k Un),(158,U4 Jz)]).with 108 (q90 X)).pl z6f) 4 108 ([.ptr 215 [.own 289 C.node,.map C.node C.i64,.v],.sl C.ex,.el C.ex]:LP) ([.v]:LP) ([.ptr 215 [.vec 289 C.node,.map C.node C.i64,.bool],.sl C.ex,.el C.ex]:LV) ([.int .i64]:LV) ([.ptr 215 [.vec 289 C.node,.map C.node C.i64,.bool],.same,.same]:LV) ((ns,ids,full,()),atoms,e,()) (fun r o=>K r.1 o.1.1 o.1.2.1 o.1.2.2.1):=by kernel_rfl
theorem w1v:MT 108 (q90 q2a):=by
 show MT _ (conV ([.ptr 215 [.own 289 C.node,.map C.node C.i64,.v],.sl C.ex,.el C.ex]:LP) ([.ptr 215 [.vec 289 C.node,.map C.node C.i64,.bool],.sl C.ex,.el C.ex]:LV) ([.int .i64]:LV) ([.ptr 215 [.vec 289 C.node,.map C.node C.i64,.bool],.same,.same]:LV) fun a K=>q2a a.1.1 a.1.2.1 a.1.2.2.1 a.2.1 a.2.2.1 (fun q0 q1 q2 q3=>K (q0,()) ((q1,q2,q3,()),(),(),())))
 refine mR (l:=[(155,q5c Hu),(156,q5d Hw),(109,q3c Gi),(157,q4k Uk),(158,U4 Ji)]) (u:=4) (rk:=[.v]) (p:=z6f) ⟨w4j,w4l,j4d,w1r,z7s,trivial⟩ (by kernel_rfl) fun a K h X hX=> ?_
 exact h (fun ns ids full atoms e K=>X ((ns,ids,full,()),atoms,e,()) fun r o=>K r.1 o.1.1 o.1.2.1 o.1.2.2.1) (fun ns ids full atoms e K hs=>hX ((ns,ids,full,()),atoms,e,()) (fun r o=>K r.1 o.1.1 o.1.2.1 o.1.2.2.1) (Eq.mp (j6s Hu Hw Gi Uk Ji (fun ns ids full atoms e K=>X ((ns,ids,full,()),atoms,e,()) fun r o=>K r.1 o.1.1 o.1.2.1 o.1.2.2.1) ns ids full atoms e K) hs))
def Bh(X:J6):Con Sg:=conS [.sl C.rule] [.vec 3 C.i64,.int .i64,.bool] fun a K=>X a.1 (fun q0 q1 q2=>K (q0,q1,q2,()))
theorem j6t{j5i:j3s}{q3t:Rh}{q3u:Wh}{W4:Gh}(h:AL [(106,v0q j5i),(107,q9z q3t),(108,q90 q3u),(109,q3c W4)]):MT 66 (Bh (q38 j5i q3t q3u W4)):=mS h [(13,⟨bl 28769,[],[(0,(215,3))],[sI 7,(.slot 8,.own 3 C.i64),sI 9,(.cell 0 0,.own 289 C.node),(.cell 0 2,.bool),(.obj 2,.map C.node C.i64)]⟩)]
theorem z3i:MT 66 (Bh Uy):=j6t ⟨y2q,w1t,w1v,j4d,trivial⟩
def w1w(X:z68):Con Sg:=conV [.ptr 92 [.c,.v],.v] [.ptr 92 [.sl C.u8,.int .i64],.str] [.el C.layer] [.ptr 92 [.same,.int .i64],.same] fun a K=>X a.1.1 a.1.2.1 a.2.1 (fun q0 q1=>K (q0,()) (((),q1,()),(),()))
theorem y2s{Wl:q14}{Qb:Zk}{W2:q7h}(h:AL [(31,z91 Wl),(30,Vy Qb),(32,j4b W2)]):MT 36 (w1w (w1c Wl Qb W2)):=mP (rk:=[.el C.layer]) h [(8,⟨bl 130099,[1],[(2,(102,6)),(0,(92,2))],[(.cell 2 1,.str),(.cell 0 1,.int .i64)]⟩),(12,⟨bl 130099,[1],[(2,(102,6)),(0,(92,2))],[(.cell 2 3,.int .i64),(.cell 0 1,.int .i64)]⟩),(17,⟨bl 130099,[1],[(2,(102,6)),(0,(92,2))],[sI 6,sI 7,(.cell 2 5,.own 152 C.cool),(.cell 0 1,.int .i64)]⟩)]
theorem y2t:MT 36 (w1w j3w):=y2s ⟨j90,G1,w7m,trivial⟩
def w55(X:z9f):Con Sg:=conS [.int .i64] [.bool] fun a K=>X a.1 (fun q0=>K (q0,()))
theorem v8e:MT 110 (w55 z9g):=mS (l:=[]) trivial []
def q3d(X:We):Con Sg:=conS [.el C.env,.str] [.int .i64] fun a K=>X a.1 a.2.1 (fun q0=>K (q0,()))
theorem q7z:MT 96 (q3d V7):=mS (l:=[]) trivial [(5,⟨[0,1,2],[0],[],[sI 5]⟩)]
def z7t(X:q2b):Con Sg:=conS [.sl C.cool,.int .i64] [.vec 3 C.i64] fun a K=>X a.1 a.2.1 (fun q0=>K (q0,()))
theorem w1x:MT 163 (z7t q2c):=mS (l:=[]) trivial [(7,⟨bl 563,[],[],[sI 6,(.obj 0,.own 3 C.i64)]⟩),(15,⟨bl 15987,[],[],[sI 7,(.obj 0,.own 3 C.i64)]⟩),(21,⟨bl 4243603187,[],[],[sI 8,(.obj 0,.own 3 C.i64)]⟩)]
def q4o(X:Wp):Con Sg:=conS [.sl C.bool] [.vec 157 C.span] fun a K=>X a.1 (fun q0=>K (q0,()))
theorem q91:MT 113 (q4o Ri):=mS (l:=[]) trivial [(7,⟨[0,2],[],[],[(.slot 3,.own 157 C.span),sI 4]⟩)]
def j15(X:q85):Con Sg:=conS [.sl C.i64,.int .i64] [.vec 157 C.span] fun a K=>X a.1 a.2.1 (fun q0=>K (q0,()))
theorem v3x{Q7:Wp}(h:AL [(113,q4o Q7)]):MT 162 (j15 (j1m Q7)):=mS h [(7,⟨bl 947,[],[],[sI 6,(.obj 0,.own 4 C.bool)]⟩)]
theorem v3y:MT 162 (j15 z36):=v3x ⟨q91,trivial⟩
def z7u(X:q0a):Con Sg:=conS [.sl C.span] [.vec 4 C.bool] fun a K=>X a.1 (fun q0=>K (q0,()))
theorem j4e:MT 112 (z7u q86):=mS (l:=[]) trivial [(7,⟨bl 77,[],[],[sI 4,(.obj 0,.own 4 C.bool)]⟩),(13,⟨bl 518109,[],[],[sI 5,(.obj 0,.own 4 C.bool)]⟩)]
def j16(X:q87):Con Sg:=conS [.sl C.span,.sl C.span] [.vec 157 C.span] fun a K=>X a.1 a.2.1 (fun q0=>K (q0,()))
theorem v3z{Jd:q0a}{Q7:Wp}(h:AL [(112,z7u Jd),(113,q4o Q7)]):MT 161 (j16 (j1n Jd Q7)):=mS h [(7,⟨bl 3955,[1],[],[sI 7,(.obj 0,.own 4 C.bool)]⟩)]
theorem v30:MT 161 (j16 z38):=v3z ⟨j4e,q91,trivial⟩
def j17(X:q88):Con Sg:=conS [.el C.env,.str,.str,.int .i64] [.vec 157 C.span] fun a K=>X a.1 a.2.1 a.2.2.1 a.2.2.2.1 (fun q0=>K (q0,()))
theorem v32{Q8:We}{q1p:q87}{R0:q2b}{q4y:q85}(h:AL [(96,q3d Q8),(161,j16 q1p),(163,z7t R0),(162,j15 q4y)]):MT 111 (j17 (j1o Q8 q1p R0 q4y)):=mS h [(10,⟨bl 254751,[0],[],[(.slot 10,.own 157 C.span)]⟩),(13,⟨bl 254751,[0],[],[(.slot 10,.own 157 C.span),sI 11]⟩)]
theorem v33:MT 111 (j17 z39):=v32 ⟨q7z,v30,w1x,v3y,trivial⟩
def z44(X:q1a):Con Sg:=conS [.sl C.span,.sl C.span] [.vec 157 C.span] fun a K=>X a.1 a.2.1 (fun q0=>K (q0,()))
theorem v34{Jd:q0a}{Q7:Wp}(h:AL [(112,z7u Jd),(113,q4o Q7)]):MT 68 (z44 (j1p Jd Q7)):=mS h [(7,⟨bl 3955,[1],[],[sI 7,(.obj 0,.own 4 C.bool)]⟩)]
theorem w1y:MT 68 (z44 q89):=v34 ⟨j4e,q91,trivial⟩
end Go.En
end
noncomputable section
set_option maxRecDepth 100000
open Go Go.RowKit Go.Fl Go.Fl.Lk Go.Fx
namespace Go.En
def j6u(X:z2u):Con Sg:=conS [.el C.env,.str,.int .i64] [.vec 157 C.span,.int .i64] fun a K=>X a.1 a.2.1 a.2.2.1 (fun q0 q1=>K (q0,q1,()))
theorem v8f{j0a:z9f}{Q8:We}{z5x:q88}{G7:q1a}(h:AL [(110,w55 j0a),(96,q3d Q8),(111,j17 z5x),(68,z44 G7)]):MT 67 (j6u (j6b j0a Q8 z5x G7)):=mS h []
theorem v8g:MT 67 (j6u z9h):=v8f ⟨v8e,q7z,v33,w1y,trivial⟩
def j18(X:q9a):Con Sg:=conS [.sl C.span,.int .i64] [.vec 157 C.span] fun a K=>X a.1 a.2.1 (fun q0=>K (q0,()))
theorem v35{Jd:q0a}{Q7:Wp}(h:AL [(112,z7u Jd),(113,q4o Q7)]):MT 69 (j18 (j1q Jd Q7)):=mS h [(7,⟨bl 433,[],[],[sI 1,sI 6,(.obj 0,.own 4 C.bool)]⟩)]
theorem v36:MT 69 (j18 z4a):=v35 ⟨j4e,q91,trivial⟩
def q3e(X:V8):Con Sg:=conV [.v] [.str] [.bool] [.same] fun a K=>X a.1 (fun q0=>K (q0,()) ((),()))
theorem z03:MT 206 (q3e V9):=⟨entB (by kernel_rfl),j39⟩
def Bi(X:Jr):Con Sg:=conS [.str] [.bool] fun a K=>X a.1 (fun q0=>K (q0,()))
theorem v8h{Z0:V8}(h:AL [(206,q3e Z0)]):MT 169 (Bi (z9i Z0)):=mS h [(9,⟨bl 4081,[],[],[sI 3]⟩)]
theorem q4p:MT 169 (Bi V1):=v8h ⟨z03,trivial⟩
def v0s(X:j3x):Con Sg:=conS [.str] [.bool] fun a K=>X a.1 (fun q0=>K (q0,()))
theorem y2u:MT 207 (v0s j3y):=mS (l:=[]) trivial [(5,⟨[0],[],[],[sI 3]⟩)]
def j4f(X:q7i):Con Sg:=conS [] [.vec 9 C.str] fun _ K=>X (fun q0=>K (q0,()))
theorem w7r:MT 208 (j4f q7j):=mS (l:=[]) trivial []
def Bj(X:Jl):Con Sg:=conS [.str] [.bool] fun a K=>X a.1 (fun q0=>K (q0,()))
theorem y6s{j5j:j3x}{q77:q7i}(h:AL [(207,v0s j5j),(208,j4f q77)]):MT 170 (Bj (w7e j5j q77)):=mS h [(11,⟨bl 16361,[0],[],[sI 4]⟩)]
theorem q3f:MT 170 (Bj H1):=y6s ⟨y2u,w7r,trivial⟩
def z45(X:q2d):Con Sg:=conS [.el C.settings] [.int .i64] fun a K=>X a.1 (fun q0=>K (q0,()))
theorem w7s{Qt:Jr}{Qm:Jl}(h:AL [(169,Bi Qt),(170,Bj Qm)]):MT 122 (z45 (z4b Qt Qm)):=mS h []
theorem w7t:MT 122 (z45 q7k):=w7s ⟨q4p,q3f,trivial⟩
def z47(X:q2e):Con Sg:=conS [.sl C.decl] [.int .i64] fun a K=>X a.1 (fun q0=>K (q0,()))
theorem w7u{Qm:Jl}(h:AL [(170,Bj Qm)]):MT 123 (z47 (z4c Qm)):=mS h [(9,⟨bl 113,[],[],[sI 3]⟩)]
theorem w7v:MT 123 (z47 q7l):=w7u ⟨q3f,trivial⟩
def z04(X:Rj):Con Sg:=conS [.sl C.str] [.int .i64] fun a K=>X a.1 (fun q0=>K (q0,()))
theorem v0t{Qt:Jr}(h:AL [(169,Bi Qt)]):MT 209 (z04 (z69 Qt)):=mS h [(9,⟨bl 113,[],[],[sI 3]⟩)]
theorem j70:MT 209 (z04 q5z):=v0t ⟨q4p,trivial⟩
def v0u(X:j3z):Con Sg:=conS [.el C.ex] [.bool] fun a K=>X a.1 (fun q0=>K (q0,()))
theorem y2v:MT 210 (v0u j30):=mS (l:=[]) trivial []
def j19(X:q9b):Con Sg:=conS [.el C.ex] [.bool] fun a K=>X a.1 (fun q0=>K (q0,()))
theorem v38{Qx:Wn}(h:AL [(128,Rx Qx)]):MT 308 (j19 (j1r Qx)):=mS h [(20,⟨bl 16327,[0],[],[sB 3,sB 4]⟩)]
theorem v39:MT 308 (j19 z4d):=v38 ⟨q9y,trivial⟩
end Go.En
end
noncomputable section
set_option maxRecDepth 100000
open Go Go.RowKit Go.Fl Go.Fl.Lk Go.Fx
namespace Go.En
def w56(X:z9j):Con Sg:=conS [.el C.val] [.bool] fun a K=>X a.1 (fun q0=>K (q0,()))
theorem v8i:MT 253 (w56 q8n):=mS (l:=[]) trivial []
def z6g(X:q0r):Con Sg:=conS [.str] [.int .i64,.int .i64] fun a K=>X a.1 (fun q0 q1=>K (q0,q1,()))
theorem j8s:MT 255 (z6g Wq):=mS (l:=[]) trivial [(8,⟨bl 269,[],[],[(.slot 4,.str)]⟩),(11,⟨[0,4,8],[],[],[sI 5]⟩),(31,⟨bl 562915601547569,[],[],[sI 6,sI 7]⟩)]
def z93(X:q39):Con Sg:=conS [.str] [.el C.a3,.bool] fun a K=>X a.1 (fun q0 q1=>K (q0,q1,()))
theorem v8j{Hs:q0r}(h:AL [(255,z6g Hs)]):MT 195 (z93 (z9k Hs)):=mS h [(9,⟨[0,2,4],[],[(1,(283,3)),(0,(283,3))],[sI 5,sI 6,(.cell 1 0,.int .i64),(.cell 1 1,.int .i64),(.cell 1 2,.int .i64),(.cell 0 0,.int .i64),(.cell 0 1,.int .i64),(.cell 0 2,.int .i64)]⟩),(15,⟨bl 19669,[1,0],[],[sI 5]⟩)]
theorem w57:MT 195 (z93 q4a):=v8j ⟨j8s,trivial⟩
def w1z(X:z7a):Con Sg:=conS [.sl C.str] [.int .i64] fun a K=>X a.1 (fun q0=>K (q0,()))
theorem y2w{Qt:Jr}(h:AL [(169,Bi Qt)]):MT 254 (w1z (j31 Qt)):=mS h [(9,⟨bl 225,[],[],[sI 3]⟩),(19,⟨bl 4073,[],[],[sI 4]⟩)]
theorem y2x:MT 254 (w1z z2v):=y2w ⟨q4p,trivial⟩
def z3j(X:Ba):Con Sg:=conS [.el C.val] [.int .i64] fun a K=>X a.1 (fun q0=>K (q0,()))
theorem v8k{j0b:z9j}{Qt:Jr}{Hz:q39}{j5k:z7a}(h:AL [(253,w56 j0b),(169,Bi Qt),(195,z93 Hz),(254,w1z j5k)]):MT 193 (z3j (z9l j0b Qt Hz j5k)):=mS h []
theorem j6v:MT 193 (z3j q1t):=v8k ⟨v8i,q4p,w57,y2x,trivial⟩
def j4g(X:z7b):Con Sg:=conS [.el C.ex] [.int .i64] fun a K=>X a.1 (fun q0=>K (q0,()))
theorem y2y{z5y:q9b}{Qx:Wn}{Qm:Jl}{Z3:Ba}(h:AL [(308,j19 z5y),(128,Rx Qx),(170,Bj Qm),(193,z3j Z3)]):MT 292 (j4g (w1d z5y Qx Qm Z3)):=mS h [(17,⟨bl 134217667,[0],[],[sI 3]⟩),(31,⟨bl 9412450882139616968651,[0],[],[sI 4]⟩)]
theorem y2z:MT 292 (j4g z2w):=y2y ⟨v39,q9y,q3f,j6v,trivial⟩
def w2a(X:q50):Con Sg:=conV [.el C.ex,.v,.ptr 3 [.v]] [.el C.ex,.int .i64,.ptr 3 [.int .i64]] [.int .i64] [.same,.same,.ptr 3 [.int .i64]] fun a K=>X a.1 a.2.1 a.2.2.1.1 (fun q0 q1=>K (q0,()) ((),(),(q1,()),()))
def w58:PT:=Q6 ([(21,⟨bl 33553551,[1],[(0,(3,1))],[sI 8,(.cell 0 0,.int .i64)]⟩)]:LS)
theorem v4a(j5l:z7b)(X:q50)(e:Ex)(depth:Int)(n:Int)(K:Int->Int->Prop):w1e j5l X e depth n K=fnV (((WL [(292,j4g j5l)]).with 264 (w2a X)).pl w58) 4 264 ([.el C.ex,.v,.ptr 3 [.v]]:LP) ([.v]:LP) ([.el C.ex,.int .i64,.ptr 3 [.int .i64]]:LV) ([.int .i64]:LV) ([.same,.same,.ptr 3 [.int .i64]]:LV) (e,depth,(n,()),()) (fun r o=>K r.1 o.2.2.1.1):=by kernel_rfl
theorem y20:MT 264 (w2a j32):=by
 show MT _ (conV ([.el C.ex,.v,.ptr 3 [.v]]:LP) ([.el C.ex,.int .i64,.ptr 3 [.int .i64]]:LV) ([.int .i64]:LV) ([.same,.same,.ptr 3 [.int .i64]]:LV) fun a K=>j32 a.1 a.2.1 a.2.2.1.1 (fun q0 q1=>K (q0,()) ((),(),(q1,()),())))
 refine mR (l:=[(292,j4g z2w)]) (u:=4) (rk:=[.v]) (p:=w58) ⟨y2z,trivial⟩ (by kernel_rfl) fun a K h X hX=> ?_
 exact h (fun e depth n K=>X (e,depth,(n,()),()) fun r o=>K r.1 o.2.2.1.1) (fun e depth n K hs=>hX (e,depth,(n,()),()) (fun r o=>K r.1 o.2.2.1.1) (Eq.mp (v4a z2w (fun e depth n K=>X (e,depth,(n,()),()) fun r o=>K r.1 o.2.2.1.1) e depth n K) hs))
def z7v(X:q2f):Con Sg:=conS [.el C.ex] [.int .i64] fun a K=>X a.1 (fun q0=>K (q0,()))
theorem y22{j5m:q50}(h:AL [(264,w2a j5m)]):MT 211 (z7v (w1f j5m)):=mS h []
theorem w2b:MT 211 (z7v z2x):=y22 ⟨y20,trivial⟩
def z7w(X:q51):Con Sg:=conS [.el C.seg] [.int .i64] fun a K=>X a.1 (fun q0=>K (q0,()))
theorem v0v{Qm:Jl}{Vh:Rj}{j5n:j3z}{Ug:q2f}(h:AL [(170,Bj Qm),(209,z04 Vh),(210,v0u j5n),(211,z7v Ug)]):MT 171 (z7w (z7c Qm Vh j5n Ug)):=mS h []
theorem v0w:MT 171 (z7w z0l):=v0v ⟨q3f,j70,y2v,w2b,trivial⟩
def z48(X:q2g):Con Sg:=conS [.sl C.seg] [.int .i64] fun a K=>X a.1 (fun q0=>K (q0,()))
theorem w7w{z1f:q51}(h:AL [(171,z7w z1f)]):MT 124 (z48 (z4e z1f)):=mS h [(9,⟨bl 225,[],[],[sI 3]⟩)]
theorem w7x:MT 124 (z48 q7m):=w7w ⟨v0w,trivial⟩
def q92(X:Rk):Con Sg:=conS [.el C.flag] [.int .i64] fun a K=>X a.1 (fun q0=>K (q0,()))
theorem w2c{Z3:Ba}(h:AL [(193,z3j Z3)]):MT 212 (q92 (q9c Z3)):=mS h [(15,⟨bl 8139,[0],[],[sI 4]⟩)]
theorem w2d:MT 212 (q92 q2h):=w2c ⟨j6v,trivial⟩
def q3g(X:Ua):Con Sg:=conS [.sl C.prereq] [.int .i64] fun a K=>X a.1 (fun q0=>K (q0,()))
theorem j4h{Qm:Jl}(h:AL [(170,Bj Qm)]):MT 213 (q3g (q2i Qm)):=mS h [(9,⟨bl 113,[],[],[sI 3]⟩)]
theorem j4i:MT 213 (q3g H2):=j4h ⟨q3f,trivial⟩
end Go.En
end
noncomputable section
set_option maxRecDepth 100000
open Go Go.RowKit Go.Fl Go.Fl.Lk Go.Fx
namespace Go.En
def z7x(X:q52):Con Sg:=conS [.sl C.target,.int .i64] [.int .i64] fun a K=>X a.1 a.2.1 (fun q0=>K (q0,()))
theorem v0x{Qm:Jl}{Vh:Rj}(h:AL [(170,Bj Qm),(209,z04 Vh)]):MT 214 (z7x (z7d Qm Vh)):=mS h [(9,⟨bl 899,[],[],[sI 5]⟩)]
theorem v0y:MT 214 (z7x z0m):=v0x ⟨q3f,j70,trivial⟩
def j6w(X:q8o):Con Sg:=conS [.sl C.range,.int .i64] [.int .i64] fun a K=>X a.1 a.2.1 (fun q0=>K (q0,()))
theorem w59:MT 218 (j6w z2y):=mS (l:=[]) trivial [(11,⟨bl 899,[],[],[sI 5,sI 6]⟩)]
def z94(X:q4b):Con Sg:=conS [.el C.serve,.int .i64] [.int .i64] fun a K=>X a.1 a.2.1 (fun q0=>K (q0,()))
theorem v8l{Qm:Jl}{Qt:Jr}{Bq:q8o}(h:AL [(170,Bj Qm),(169,Bi Qt),(218,j6w Bq)]):MT 216 (z94 (j6c Qm Qt Bq)):=mS h []
theorem w6a:MT 216 (z94 z2z):=v8l ⟨q3f,q4p,w59,trivial⟩
def j6x(X:z22):Con Sg:=conS [.sl C.rule,.int .i64] [.int .i64] fun a K=>X a.1 a.2.1 (fun q0=>K (q0,()))
theorem v8m{Qm:Jl}{Ug:q2f}{Br:q4b}(h:AL [(170,Bj Qm),(211,z7v Ug),(216,z94 Br)]):MT 215 (j6x (j6d Qm Ug Br)):=mS h [(9,⟨bl 3587,[],[],[sI 5]⟩),(19,⟨bl 33357347,[],[],[sI 6]⟩)]
theorem v8n:MT 215 (j6x z9m):=v8m ⟨q3f,w2b,w6a,trivial⟩
def w2e(X:z7e):Con Sg:=conS [.el C.flag] [.int .i64] fun a K=>X a.1 (fun q0=>K (q0,()))
theorem y24{Qm:Jl}{q3v:Rk}{H9:Ua}{z1g:q52}{j0c:z22}{Br:q4b}(h:AL [(170,Bj Qm),(212,q92 q3v),(213,q3g H9),(214,z7x z1g),(215,j6x j0c),(216,z94 Br)]):MT 172 (w2e (w1g Qm q3v H9 z1g j0c Br)):=mS h []
theorem y27:MT 172 (w2e j33):=y24 ⟨q3f,w2d,j4i,v0y,v8n,w6a,trivial⟩
def j6y(X:z23):Con Sg:=conS [.sl C.flag] [.int .i64] fun a K=>X a.1 (fun q0=>K (q0,()))
theorem v8o{j5o:z7e}(h:AL [(172,w2e j5o)]):MT 125 (j6y (j6e j5o)):=mS h [(9,⟨bl 225,[],[],[sI 3]⟩)]
theorem v8p:MT 125 (j6y z9n):=v8o ⟨y27,trivial⟩
def j6z(X:z25):Con Sg:=conS [.el C.layer] [.int .i64] fun a K=>X a.1 (fun q0=>K (q0,()))
theorem v8q{Qm:Jl}{Qt:Jr}(h:AL [(170,Bj Qm),(169,Bi Qt)]):MT 173 (j6z (j6f Qm Qt)):=mS h [(21,⟨bl 2199023255523,[0],[],[sI 3]⟩)]
theorem v8r:MT 173 (j6z z9o):=v8q ⟨q3f,q4p,trivial⟩
def j2a(X:q9d):Con Sg:=conS [.sl C.layer] [.int .i64] fun a K=>X a.1 (fun q0=>K (q0,()))
theorem v4b{j0d:z25}(h:AL [(173,j6z j0d)]):MT 126 (j2a (j1s j0d)):=mS h [(9,⟨bl 225,[],[],[sI 3]⟩)]
theorem v4c:MT 126 (j2a z4f):=v4b ⟨v8r,trivial⟩
def w6b(X:z9p):Con Sg:=conS [.sl C.span] [.int .i64] fun a K=>X a.1 (fun q0=>K (q0,()))
theorem v8s:MT 217 (w6b z9q):=mS (l:=[]) trivial [(9,⟨bl 113,[],[],[sI 3]⟩)]
def q93(X:Rl):Con Sg:=conS [.el C.exper] [.int .i64] fun a K=>X a.1 (fun q0=>K (q0,()))
theorem w2f{Qm:Jl}{Qt:Jr}{j0e:z9p}{Bq:q8o}{Ug:q2f}(h:AL [(170,Bj Qm),(169,Bi Qt),(217,w6b j0e),(218,j6w Bq),(211,z7v Ug)]):MT 174 (q93 (q9e Qm Qt j0e Bq Ug)):=mS h []
theorem w2g:MT 174 (q93 q2j):=w2f ⟨q3f,q4p,v8s,w59,w2b,trivial⟩
def q62(X:Hf):Con Sg:=conS [.sl C.exper] [.int .i64] fun a K=>X a.1 (fun q0=>K (q0,()))
theorem j8t{q3w:Rl}(h:AL [(174,q93 q3w)]):MT 127 (q62 (q6u q3w)):=mS h [(9,⟨bl 225,[],[],[sI 3]⟩)]
theorem j8u:MT 127 (q62 q0s):=j8t ⟨w2g,trivial⟩
def q63(X:Hg):Con Sg:=conS [.el C.env] [.int .i64] fun a K=>X a.1 (fun q0=>K (q0,()))
theorem j8v{q78:q2d}{q79:q2e}{q8a:q2g}{j0f:z23}{z5z:q9d}{q02:Hf}(h:AL [(122,z45 q78),(123,z47 q79),(124,z48 q8a),(125,j6y j0f),(126,j2a z5z),(127,q62 q02)]):MT 80 (q63 (q6v q78 q79 q8a j0f z5z q02)):=mS h []
theorem j8w:MT 80 (q63 q0t):=j8v ⟨w7t,w7v,w7x,v8p,v4c,j8u,trivial⟩
end Go.En
end
noncomputable section
set_option maxRecDepth 100000
open Go Go.RowKit Go.Fl Go.Fl.Lk Go.Fx
namespace Go.En
def z3k(X:Hx):Con Sg:=conS [.sl C.seg] [.vec 9 C.str] fun a K=>X a.1 (fun q0=>K (q0,()))
theorem z95:MT 81 (z3k q8p):=mS (l:=[]) trivial [(7,⟨[0,2],[],[],[(.slot 3,.own 9 C.str),sI 4]⟩)]
def q3h(X:Vx):Con Sg:=conS [.sl C.str,.str] [.bool] fun a K=>X a.1 a.2.1 (fun q0=>K (q0,()))
theorem z05:MT 47 (q3h Gj):=mS (l:=[]) trivial [(5,⟨[0,1],[],[],[sI 5]⟩)]
def j4j(X:z27):Con Sg:=conS [.sl C.decl,.str,.str] [.int .i64] fun a K=>X a.1 a.2.1 a.2.2.1 (fun q0=>K (q0,()))
theorem v0z:MT 129 (j4j q53):=mS (l:=[]) trivial [(5,⟨[0,1,2],[],[],[sI 7]⟩)]
def w2h(X:j34):Con Sg:=conS [.int .i64,.el C.ex] [.bool] fun a K=>X a.1 a.2.1 (fun q0=>K (q0,()))
theorem y28:MT 130 (w2h q9f):=mS (l:=[]) trivial [(11,⟨bl 8075,[0],[],[sI 5]⟩),(36,⟨bl 8795019288539,[0],[],[sB 46]⟩)]
def z7y(X:Hh):Con Sg:=conV [.sl C.decl,.sl C.str,.el C.ex] [.sl C.decl,.sl C.str,.el C.ex] [.int .i64] [.same,.same,.same] fun a K=>X a.1 a.2.1 a.2.2.1 (fun q0=>K (q0,()) ((),(),(),()))
def w6c:PT:=Q6 ([(18,⟨bl 1047591,[0],[],[]⟩),(21,⟨bl 1047591,[0],[],[sI 8]⟩)]:LS)
theorem v4d(Q2:Vx)(Qx:Wn)(q0k:z27)(z8y:j34)(X:Hh)(l:List (Decl))(segments:List (ByteArray))(e:Ex)(K:Int->Prop):w1h Q2 Qx q0k z8y X l segments e K=fnV (((WL [(47,q3h Q2),(128,Rx Qx),(129,j4j q0k),(130,w2h z8y)]).with 82 (z7y X)).pl w6c) 4 82 ([.sl C.decl,.sl C.str,.el C.ex]:LP) ([.v]:LP) ([.sl C.decl,.sl C.str,.el C.ex]:LV) ([.int .i64]:LV) ([.same,.same,.same]:LV) (l,segments,e,()) (fun r _=>K r.1):=by kernel_rfl
theorem w2i:MT 82 (z7y z29):=by
 show MT _ (conV ([.sl C.decl,.sl C.str,.el C.ex]:LP) ([.sl C.decl,.sl C.str,.el C.ex]:LV) ([.int .i64]:LV) ([.same,.same,.same]:LV) fun a K=>z29 a.1 a.2.1 a.2.2.1 (fun q0=>K (q0,()) ((),(),(),())))
 refine mR (l:=[(47,q3h Gj),(128,Rx J5),(129,j4j q53),(130,w2h q9f)]) (u:=4) (rk:=[.v]) (p:=w6c) ⟨z05,q9y,v0z,y28,trivial⟩ (by kernel_rfl) fun a K h X hX=> ?_
 exact h (fun l segments e K=>X (l,segments,e,()) fun r _=>K r.1) (fun l segments e K hs=>hX (l,segments,e,()) (fun r _=>K r.1) (Eq.mp (v4d Gj J5 q53 q9f (fun l segments e K=>X (l,segments,e,()) fun r _=>K r.1) l segments e K) hs))
def z96(X:q42):Con Sg:=conS [.sl C.str,.str] [.sl C.str] fun a K=>X a.1 a.2.1 (fun q0=>K (q0,()))
theorem j94:MT 104 (z96 q7n):=mS (l:=[]) trivial [(5,⟨[0,1,4],[],[],[sI 5]⟩)]
def z7z(X:Ga):Con Sg:=conV [.sl C.str,.el C.ex] [.sl C.str,.el C.ex] [.sl C.str] [.same,.same] fun a K=>X a.1 a.2.1 (fun q0=>K (q0,()) ((),(),()))
def j4k:PT:=Q6 ([(6,⟨[1,3,4],[0],[],[(.slot 0,.sl C.str)]⟩),(9,⟨[1,3,4],[0],[],[(.slot 0,.sl C.str),sI 5]⟩)]:LS)
theorem w4m(W5:q42)(X:Ga)(l:List (ByteArray))(e:Ex)(K:List (ByteArray)->Prop):z0n W5 X l e K=fnV (((WL [(104,z96 W5)]).with 176 (z7z X)).pl j4k) 4 176 ([.sl C.str,.el C.ex]:LP) ([.sl C.str]:LP) ([.sl C.str,.el C.ex]:LV) ([.sl C.str]:LV) ([.same,.same]:LV) (l,e,()) (fun r _=>K r.1):=by kernel_rfl
theorem v00:MT 176 (z7z q54):=by
 show MT _ (conV ([.sl C.str,.el C.ex]:LP) ([.sl C.str,.el C.ex]:LV) ([.sl C.str]:LV) ([.same,.same]:LV) fun a K=>q54 a.1 a.2.1 (fun q0=>K (q0,()) ((),(),())))
 refine mR (l:=[(104,z96 q7n)]) (u:=4) (rk:=[.sl C.str]) (p:=j4k) ⟨j94,trivial⟩ (by kernel_rfl) fun a K h X hX=> ?_
 exact h (fun l e K=>X (l,e,()) fun r _=>K r.1) (fun l e K hs=>hX (l,e,()) (fun r _=>K r.1) (Eq.mp (w4m q7n (fun l e K=>X (l,e,()) fun r _=>K r.1) l e K) hs))
def z70(X:q55):Con Sg:=conS [.el C.ex] [.sl C.str] fun a K=>X a.1 (fun q0=>K (q0,()))
theorem v01{z1h:Ga}(h:AL [(176,z7z z1h)]):MT 132 (z70 (z0o z1h)):=mS h []
theorem v02:MT 132 (z70 q1u):=v01 ⟨v00,trivial⟩
def z49(X:q1b):Con Sg:=conS [.sl C.seg] [.vec 238 C.edge] fun a K=>X a.1 (fun q0=>K (q0,()))
theorem v4e{z1i:q55}(h:AL [(132,z70 z1i)]):MT 84 (z49 (z4g z1i)):=mS h [(7,⟨[0,2],[],[],[(.slot 3,.own 238 C.edge),sI 4]⟩),(15,⟨bl 518069,[],[],[(.slot 3,.own 238 C.edge),sI 6]⟩)]
theorem w2j:MT 84 (z49 q1c):=v4e ⟨v02,trivial⟩
def j60(X:z3a):Con Sg:=conS [.sl C.edge,.str] [.sl C.str] fun a K=>X a.1 a.2.1 (fun q0=>K (q0,()))
theorem v8t{Q2:Vx}{W5:q42}(h:AL [(47,q3h Q2),(104,z96 W5)]):MT 175 (j60 (j6g Q2 W5)):=mS h [(7,⟨bl 1555,[],[],[(.slot 5,.sl C.str),(.slot 6,.sl C.str)]⟩),(15,⟨bl 522899,[],[],[(.slot 5,.sl C.str),(.slot 6,.sl C.str),sI 8]⟩)]
theorem v8u:MT 175 (j60 z9r):=v8t ⟨z05,j94,trivial⟩
def j2b(X:q9g):Con Sg:=conS [.sl C.str,.sl C.edge] [.sl C.str] fun a K=>X a.1 a.2.1 (fun q0=>K (q0,()))
theorem v4f{j0g:z3a}{Q2:Vx}{W5:q42}(h:AL [(175,j60 j0g),(47,q3h Q2),(104,z96 W5)]):MT 131 (j2b (j1t j0g Q2 W5)):=mS h [(7,⟨[0,1,4],[],[],[(.slot 5,.sl C.str),sI 6]⟩)]
theorem v4g:MT 131 (j2b z4h):=v4f ⟨v8u,z05,j94,trivial⟩
def j2c(X:q9h):Con Sg:=conS [.sl C.str,.sl C.edge] [.str,.bool] fun a K=>X a.1 a.2.1 (fun q0 q1=>K (q0,q1,()))
theorem v4h{z50:q9g}(h:AL [(131,j2b z50)]):MT 83 (j2c (j1u z50)):=mS h []
theorem v4i:MT 83 (j2c z4i):=v4h ⟨v4g,trivial⟩
end Go.En
end
noncomputable section
set_option maxRecDepth 100000
open Go Go.RowKit Go.Fl Go.Fl.Lk Go.Fx
namespace Go.En
def z06(X:Gb):Con Sg:=conS [.el C.env,.str] [.int .i64] fun a K=>X a.1 a.2.1 (fun q0=>K (q0,()))
theorem z71:MT 56 (z06 q56):=mS (l:=[]) trivial [(5,⟨[0,1,2],[0],[],[sI 5]⟩)]
def j61(X:z3b):Con Sg:=conS [.sl C.decl,.el C.serve] [.int .i64] fun a K=>X a.1 a.2.1 (fun q0=>K (q0,()))
theorem v8v{q0k:z27}(h:AL [(129,j4j q0k)]):MT 133 (j61 (j6h q0k)):=mS h []
theorem v8w:MT 133 (j61 z9s):=v8v ⟨v0z,trivial⟩
def q94(X:Rm):Con Sg:=conS [.el C.env,.el C.flag] [.int .i64] fun a K=>X a.1 a.2.1 (fun q0=>K (q0,()))
theorem w2k{Z9:Hx}{Jg:Gb}{Uh:Hh}{z3s:z3b}{Ja:J6}(h:AL [(81,z3k Z9),(56,z06 Jg),(82,z7y Uh),(133,j61 z3s),(66,Bh Ja)]):MT 85 (q94 (q9i Z9 Jg Uh z3s Ja)):=mS h [(7,⟨bl 229423,[1,0],[],[sI 6,(.obj 2,.own 9 C.str)]⟩),(23,⟨bl 8355951,[1,0],[],[sI 8,(.obj 2,.own 9 C.str)]⟩)]
theorem w2l:MT 85 (q94 q2k):=w2k ⟨z95,z71,w2i,v8w,z3i,trivial⟩
def j03(X:q43):Con Sg:=conS [.el C.env] [.vec 9 C.str] fun a K=>X a.1 (fun q0=>K (q0,()))
theorem w4n:MT 86 (j03 z1v):=mS (l:=[]) trivial [(7,⟨[0,1,2],[0],[],[(.slot 3,.own 9 C.str),sI 4]⟩)]
def z72(X:q2l):Con Sg:=conS [.el C.env] [.vec 238 C.edge] fun a K=>X a.1 (fun q0=>K (q0,()))
theorem w2m:MT 87 (z72 q2m):=mS (l:=[]) trivial [(7,⟨[0,1,2],[0],[],[(.slot 3,.own 238 C.edge),sI 4]⟩),(13,⟨bl 2007,[],[],[(.slot 3,.own 238 C.edge),sI 5]⟩)]
def z73(X:q57):Con Sg:=conS [.sl C.span,.sl C.span] [.vec 157 C.span] fun a K=>X a.1 a.2.1 (fun q0=>K (q0,()))
theorem v03{Jd:q0a}{Q7:Wp}(h:AL [(112,z7u Jd),(113,q4o Q7)]):MT 134 (z73 (z7f Jd Q7)):=mS h [(7,⟨bl 3955,[1],[],[sI 7,(.obj 0,.own 4 C.bool)]⟩)]
theorem v04:MT 134 (z73 z0p):=v03 ⟨j4e,q91,trivial⟩
def Ry(X:Wi):Con Sg:=conS [.el C.env,.int .i64] [.int .i64] fun a K=>X a.1 a.2.1 (fun q0=>K (q0,()))
theorem z74{Q8:We}{Jg:Gb}{Z9:Hx}{Uh:Hh}{z1j:q57}(h:AL [(96,q3d Q8),(56,z06 Jg),(81,z3k Z9),(82,z7y Uh),(134,z73 z1j)]):MT 88 (Ry (Rn Q8 Jg Z9 Uh z1j)):=mS h [(13,⟨bl 17179836647,[1,0],[],[sI 8]⟩),(35,⟨bl 151078797935433964553191,[1,0],[],[(.slot 10,.own 157 C.span),sI 11,(.obj 4,.own 9 C.str)]⟩),(51,⟨bl 159723976762087930960904772882407,[1,0],[],[sI 13,(.obj 9,.own 157 C.span),(.obj 6,.own 157 C.span),(.obj 4,.own 9 C.str)]⟩)]
theorem z77:MT 88 (Ry Ub):=z74 ⟨q7z,z71,z95,w2i,v04,trivial⟩
def q4q(X:Uz):Con Sg:=conS [.el C.env] [.str,.int .i64] fun a K=>X a.1 (fun q0 q1=>K (q0,q1,()))
theorem j62{q03:Hg}{Z9:Hx}{Uh:Hh}{G8:q1b}{z0e:q9h}{q3x:Rm}{q5m:q43}{q3y:q2l}{Ui:Wi}(h:AL [(80,q63 q03),(81,z3k Z9),(82,z7y Uh),(84,z49 G8),(83,j2c z0e),(85,q94 q3x),(86,j03 q5m),(87,z72 q3y),(88,Ry Ui)]):MT 49 (q4q (q4c q03 Z9 Uh G8 z0e q3x q5m q3y Ui)):=mS h [(13,⟨bl 15663155,[0],[],[sI 6,(.obj 1,.own 9 C.str)]⟩),(33,⟨bl 294571444427585160051,[0],[],[sI 10,(.obj 1,.own 9 C.str),(.obj 4,.own 238 C.edge)]⟩),(51,⟨bl 10121397798090180814242575234931,[0],[],[sI 14,(.obj 8,.own 9 C.str),(.obj 9,.own 238 C.edge),(.obj 4,.own 238 C.edge),(.obj 1,.own 9 C.str)]⟩)]
theorem j63:MT 49 (q4q Bb):=j62 ⟨j8w,z95,w2i,w2j,v4i,w2l,w4n,w2m,z77,trivial⟩
def j2d(X:q9j):Con Sg:=conS [.el C.env] [.bool] fun a K=>X a.1 (fun q0=>K (q0,()))
theorem v4j{Bt:Uz}(h:AL [(49,q4q Bt)]):MT 20 (j2d (j1v Bt)):=mS h []
theorem v4k:MT 20 (j2d q1d):=v4j ⟨j63,trivial⟩
def q95(X:Rp):Con Sg:=conV [.ptr 92 [.c,.v],.v] [.ptr 92 [.sl C.u8,.int .i64],.int .i64] [.el C.env] [.ptr 92 [.same,.int .i64],.same] fun a K=>X a.1.1 a.1.2.1 a.2.1 (fun q0 q1=>K (q0,()) (((),q1,()),(),()))
theorem w2n{Q5:Vc}{z1k:q5y}{Qb:Zk}{q3q:z9d}{Jj:q15}{q5g:z34}{z8z:z66}{R1:q16}{q5h:q40}{Ja:J6}{j5p:z68}{Wl:q14}{q3r:q81}{j0h:z2u}{W2:q7h}{G7:q1a}{z52:q9a}{q1q:q9j}(h:AL [(29,q6h Q5),(33,z7p z1k),(30,Vy Qb),(34,w7n q3q),(64,z7o Jj),(62,j91 q5g),(13,w1n z8z),(65,z7q R1),(63,j93 q5h),(66,Bh Ja),(36,w1w j5p),(31,z91 Wl),(39,j4c q3r),(67,j6u j0h),(32,j4b W2),(68,z44 G7),(69,j18 z52),(20,j2d q1q)]):MT 11 (q95 (q9k Q5 z1k Qb q3q Jj q5g z8z R1 q5h Ja j5p Wl q3r j0h W2 G7 z52 q1q)):=mP (rk:=[.el C.env]) h [(8,⟨bl 3123,[1],[(3,(46,8)),(0,(92,2))],[(.cell 3 0,.str),(.cell 3 1,.str),(.cell 3 2,.int .i64),(.cell 0 1,.int .i64),(.obj 2,.own 111 C.decl)]⟩),(15,⟨bl 98569331,[2,1],[(0,(92,2)),(3,(46,8))],[sI 7,(.cell 0 1,.int .i64),(.cell 3 5,.own 34 C.flag),(.obj 10,.own 144 C.seg),(.obj 12,.own 102 C.layer),(.obj 13,.own 68 C.exper)]⟩),(36000009,⟨bl 1073218007,[22,21],[(0,(92,2)),(23,(34,13))],[sI 9,(.cell 0 1,.int .i64),(.cell 23 2,.own 72 C.val),(.obj 13,.own 68 C.exper),(.obj 12,.own 102 C.layer),(.obj 17,.own 34 C.flag),(.obj 10,.own 144 C.seg)]⟩),(36000019,⟨bl 545366356788183,[22,21],[(23,(34,13)),(0,(92,2))],[sI 10,(.cell 23 5,.own 62 C.prereq),(.cell 0 1,.int .i64),(.obj 10,.own 144 C.seg),(.obj 17,.own 34 C.flag),(.obj 12,.own 102 C.layer),(.obj 13,.own 68 C.exper),(.obj 27,.own 72 C.val)]⟩),(36000029,⟨bl 17996814912849879,[22,21],[(23,(34,13)),(0,(92,2))],[sI 11,(.cell 23 6,.own 116 C.target),(.cell 0 1,.int .i64),(.obj 27,.own 72 C.val),(.obj 13,.own 68 C.exper),(.obj 12,.own 102 C.layer),(.obj 17,.own 34 C.flag),(.obj 10,.own 144 C.seg),(.obj 34,.own 62 C.prereq)]⟩),(36000038,⟨bl 19688565898261847554177638359,[23],[(51,(116,3)),(0,(92,2))],[(.cell 51 0,.str),(.cell 0 1,.int .i64),(.obj 50,.own 9 C.str),(.obj 34,.own 62 C.prereq),(.obj 10,.own 144 C.seg),(.obj 17,.own 34 C.flag),(.obj 12,.own 102 C.layer),(.obj 13,.own 68 C.exper),(.obj 27,.own 72 C.val),(.obj 42,.own 116 C.target)]⟩),(36000060,⟨bl 324518589926201333218846174621655,[22,21],[(0,(92,2)),(23,(34,13))],[(.cell 0 1,.int .i64),(.cell 23 7,.own 138 C.rule),(.obj 50,.own 9 C.str),(.obj 34,.own 62 C.prereq),(.obj 10,.own 144 C.seg),(.obj 17,.own 34 C.flag),(.obj 12,.own 102 C.layer),(.obj 13,.own 68 C.exper),(.obj 27,.own 72 C.val),(.obj 42,.own 116 C.target)]⟩),(36000047,⟨bl 324518589926201333218846174621655,[],[(0,(92,2)),(23,(34,13))],[sI 14,(.cell 0 1,.int .i64),(.cell 23 7,.own 138 C.rule),(.obj 50,.own 9 C.str),(.obj 34,.own 62 C.prereq),(.obj 10,.own 144 C.seg),(.obj 17,.own 34 C.flag),(.obj 12,.own 102 C.layer),(.obj 13,.own 68 C.exper),(.obj 27,.own 72 C.val),(.obj 42,.own 116 C.target)]⟩),(25,⟨bl 387030204812531,[2,1],[(0,(92,2)),(3,(46,8))],[sI 8,(.cell 0 1,.int .i64),(.cell 3 6,.own 102 C.layer),(.obj 13,.own 68 C.exper),(.obj 10,.own 144 C.seg),(.obj 17,.own 34 C.flag)]⟩),(35,⟨bl 811665570522726403571,[2,1],[(0,(92,2)),(3,(46,8))],[sI 9,(.cell 0 1,.int .i64),(.cell 3 7,.own 68 C.exper),(.obj 17,.own 34 C.flag),(.obj 10,.own 144 C.seg),(.obj 24,.own 102 C.layer)]⟩),(38000010,⟨bl 140737488348975,[37,36,35],[(40,(68,12)),(0,(92,2))],[(.cell 40 4,.int .i64),(.cell 0 1,.int .i64),(.obj 39,.own 162 C.range),(.obj 31,.own 68 C.exper),(.obj 24,.own 102 C.layer),(.obj 17,.own 34 C.flag),(.obj 10,.own 144 C.seg)]⟩),(38000014,⟨bl 140737488348975,[37,36,35],[(40,(68,12)),(0,(92,2))],[(.cell 40 7,.int .i64),(.cell 40 8,.str),(.cell 40 9,.str),(.cell 40 10,.sl C.val),(.cell 40 11,.sl C.ex),(.cell 0 1,.int .i64),(.obj 10,.own 144 C.seg),(.obj 17,.own 34 C.flag),(.obj 24,.own 102 C.layer),(.obj 31,.own 68 C.exper),(.obj 39,.own 162 C.range)]⟩)]
theorem w2o:MT 11 (q95 q2n):=w2n ⟨z01,v0o,G1,v6v,w1l,v6w,y2p,w1m,v6x,z3i,y2t,j90,v0p,v8g,w7m,w1y,v36,v4k,trivial⟩
def q70(X:Bc):Con Sg:=conS [.int .i64] [.bool] fun a K=>X a.1 (fun q0=>K (q0,()))
theorem j4l:MT 245 (q70 Gk):=mS (l:=[]) trivial []
def Wt(X:Zf):Con Sg:=conS [.sl C.str,.sl C.str] [.bool] fun a K=>X a.1 a.2.1 (fun q0=>K (q0,()))
theorem Hp:MT 279 (Wt Zv):=mS (l:=[]) trivial [(9,⟨bl 8131,[],[],[sI 13]⟩)]
end Go.En
end
noncomputable section
set_option maxRecDepth 100000
open Go Go.RowKit Go.Fl Go.Fl.Lk Go.Fx
namespace Go.En
def z07(X:q58):Con Sg:=conS [.el C.val,.el C.val] [.bool] fun a K=>X a.1 a.2.1 (fun q0=>K (q0,()))
theorem v05{Qp:Zf}(h:AL [(279,Wt Qp)]):MT 310 (z07 (z7g Qp)):=mS h []
theorem v06:MT 310 (z07 q1v):=v05 ⟨Hp,trivial⟩
def z5a(X:Rq):Con Sg:=conV [.el C.ex,.el C.ex] [.el C.ex,.el C.ex] [.bool] [.same,.same] fun a K=>X a.1 a.2.1 (fun q0=>K (q0,()) ((),(),()))
def j71:PT:=Q6 ([(310000009,⟨bl 130055,[],[],[sI 17]⟩),(312000009,⟨bl 130055,[],[],[sI 17]⟩)]:LS)
theorem w7y(z1l:q58)(X:Rq)(a:Ex)(b:Ex)(K:Bool->Prop):j1w z1l X a b K=fnV (((WL [(310,z07 z1l)]).with 294 (z5a X)).pl j71) 4 294 ([.el C.ex,.el C.ex]:LP) ([.v]:LP) ([.el C.ex,.el C.ex]:LV) ([.bool]:LV) ([.same,.same]:LV) (a,b,()) (fun r _=>K r.1):=by kernel_rfl
theorem v4l:MT 294 (z5a q1e):=by
 show MT _ (conV ([.el C.ex,.el C.ex]:LP) ([.el C.ex,.el C.ex]:LV) ([.bool]:LV) ([.same,.same]:LV) fun a K=>q1e a.1 a.2.1 (fun q0=>K (q0,()) ((),(),())))
 refine mR (l:=[(310,z07 q1v)]) (u:=4) (rk:=[.v]) (p:=j71) ⟨v06,trivial⟩ (by kernel_rfl) fun a K h X hX=> ?_
 exact h (fun a b K=>X (a,b,()) fun r _=>K r.1) (fun a b K hs=>hX (a,b,()) (fun r _=>K r.1) (Eq.mp (w7y q1v (fun a b K=>X (a,b,()) fun r _=>K r.1) a b K) hs))
def z2b(X:Vf):Con Sg:=conV [.own 66 C.ex,.el C.ex] [.vec 66 C.ex,.el C.ex] [.vec 66 C.ex] [.same,.same] fun a K=>X a.1 a.2.1 (fun q0=>K (q0,()) ((),(),()))
def z78:PT:=Q6 ([(6,⟨[1,3,4],[1],[],[(.slot 0,.own 66 C.ex)]⟩),(9,⟨bl 234881050,[1],[],[(.slot 0,.own 66 C.ex),sI 28]⟩),(245000005,⟨bl 195,[0],[],[sI 8]⟩)]:LS)
theorem j8x(W7:Bc)(z0f:Rq)(X:Vf)(l:List (Ex))(e:Ex)(K:List (Ex)->Prop):z1w W7 z0f X l e K=fnV (((WL [(245,q70 W7),(294,z5a z0f)]).with 266 (z2b X)).pl z78) 4 266 ([.own 66 C.ex,.el C.ex]:LP) ([.own 66 C.ex]:LP) ([.vec 66 C.ex,.el C.ex]:LV) ([.vec 66 C.ex]:LV) ([.same,.same]:LV) (l,e,()) (fun r _=>K r.1):=by kernel_rfl
theorem w4o:MT 266 (z2b q44):=by
 show MT _ (conV ([.own 66 C.ex,.el C.ex]:LP) ([.vec 66 C.ex,.el C.ex]:LV) ([.vec 66 C.ex]:LV) ([.same,.same]:LV) fun a K=>q44 a.1 a.2.1 (fun q0=>K (q0,()) ((),(),())))
 refine mR (l:=[(245,q70 Gk),(294,z5a q1e)]) (u:=4) (rk:=[.own 66 C.ex]) (p:=z78) ⟨j4l,v4l,trivial⟩ (by kernel_rfl) fun a K h X hX=> ?_
 exact h (fun l e K=>X (l,e,()) fun r _=>K r.1) (fun l e K hs=>hX (l,e,()) (fun r _=>K r.1) (Eq.mp (j8x Gk q1e (fun l e K=>X (l,e,()) fun r _=>K r.1) l e K) hs))
def G2(X:Wf):Con Sg:=conS [.el C.val] [.el C.val] fun a K=>X a.1 (fun q0=>K (q0,()))
theorem q71:MT 93 (G2 Ju):=mS (l:=[]) trivial []
def z79(X:Gc):Con Sg:=conV [.el C.ex] [.el C.ex] [.el C.ex] [.same] fun a K=>X a.1 (fun q0=>K (q0,()) ((),()))
def j4m:PT:=Q6 ([(296000007,⟨bl 7955,[],[],[(.slot 5,.own 72 C.val),sI 13]⟩),(266000007,⟨bl 7955,[],[],[(.slot 5,.own 66 C.ex),sI 13]⟩)]:LS)
theorem w4p(Q9:Wf)(X:Gc)(e:Ex)(K:Ex->Prop):z7h Q9 X e K=fnV (((WL [(93,G2 Q9)]).with 267 (z79 X)).pl j4m) 4 267 ([.el C.ex]:LP) ([.el C.ex]:LP) ([.el C.ex]:LV) ([.el C.ex]:LV) ([.same]:LV) (e,()) (fun r _=>K r.1):=by kernel_rfl
theorem v07:MT 267 (z79 z0q):=by
 show MT _ (conV ([.el C.ex]:LP) ([.el C.ex]:LV) ([.el C.ex]:LV) ([.same]:LV) fun a K=>z0q a.1 (fun q0=>K (q0,()) ((),())))
 refine mR (l:=[(93,G2 Ju)]) (u:=4) (rk:=[.el C.ex]) (p:=j4m) ⟨q71,trivial⟩ (by kernel_rfl) fun a K h X hX=> ?_
 exact h (fun e K=>X (e,()) fun r _=>K r.1) (fun e K hs=>hX (e,()) (fun r _=>K r.1) (Eq.mp (w4p Ju (fun e K=>X (e,()) fun r _=>K r.1) e K) hs))
def z2c(X:q0b):Con Sg:=conS [.el C.ex] [.vec 66 C.ex] fun a K=>X a.1 (fun q0=>K (q0,()))
theorem w4q{q5n:Vf}{z1m:Gc}(h:AL [(266,z2b q5n),(267,z79 z1m)]):MT 219 (z2c (z1x q5n z1m)):=mS h [(266000007,⟨bl 7955,[1],[],[(.slot 5,.own 66 C.ex),sI 13]⟩)]
theorem w4r:MT 219 (z2c z1y):=w4q ⟨w4o,v07,trivial⟩
def Wz(X:Zz):Con Sg:=conV [.own 9 C.str] [.vec 9 C.str] [] [.vec 9 C.str] fun a K=>X a.1 (fun q0=>K () (q0,()))
theorem H6:MT 137 (Wz Jt):=⟨entB (by kernel_rfl),q7x⟩
def U6(X:J7):Con Sg:=conV [.own 9 C.str] [.vec 9 C.str] [.vec 9 C.str] [.same] fun a K=>X a.1 (fun q0=>K (q0,()) ((),()))
theorem q4r:MT 220 (U6 J8):=⟨entB (by kernel_rfl),q4j⟩
def q64(X:Hi):Con Sg:=conS [.el C.ex] [.sl C.str] fun a K=>X a.1 (fun q0=>K (q0,()))
theorem j8y{q5o:q0b}{Qs:Zz}{Jb:J7}(h:AL [(219,z2c q5o),(137,Wz Qs),(220,U6 Jb)]):MT 177 (q64 (q6w q5o Qs Jb)):=mS h [(7,⟨bl 455,[1,0],[],[(.slot 3,.own 9 C.str),sI 9]⟩)]
theorem j8z:MT 177 (q64 q0u):=j8y ⟨w4r,H6,q4r,trivial⟩
def j4n(X:z4j):Con Sg:=conV [.sl C.str,.sl C.edge] [.sl C.str,.sl C.edge] [.vec 9 C.str,.int .i64] [.same,.same] fun a K=>X a.1 a.2.1 (fun q0 q1=>K (q0,q1,()) ((),(),()))
theorem w7z:MT 178 (j4n P_graph_Order):=⟨entB (by kernel_rfl),w7l⟩
def q96(X:Rr):Con Sg:=conS [.sl C.seg] [.vec 9 C.str,.int .i64] fun a K=>X a.1 (fun q0 q1=>K (q0,q1,()))
theorem w2p{q04:Hi}{q8b:z4j}(h:AL [(177,q64 q04),(178,j4n q8b)]):MT 135 (q96 (q9l q04 q8b)):=mS h [(9,⟨bl 3085,[],[],[(.slot 4,.own 9 C.str),(.slot 5,.own 238 C.edge),sI 12]⟩),(17,⟨bl 33488029,[6,5,3],[],[(.slot 5,.own 238 C.edge),sI 25]⟩)]
theorem w2q:MT 135 (q96 q2o):=w2p ⟨j8z,w7z,trivial⟩
def q97(X:U0):Con Sg:=conS [.el C.subj,.str] [.int .i64] fun a K=>X a.1 a.2.1 (fun q0=>K (q0,()))
theorem z8a:MT 77 (q97 Rs):=mS (l:=[]) trivial [(119000005,⟨bl 195,[1],[],[sI 8]⟩)]
end Go.En
end
noncomputable section
set_option maxRecDepth 100000
open Go Go.RowKit Go.Fl Go.Fl.Lk Go.Fx
namespace Go.En
def q4s(X:U1):Con Sg:=conS [.el C.attr] [.el C.attr] fun a K=>X a.1 (fun q0=>K (q0,()))
theorem j64{Q9:Wf}(h:AL [(93,G2 Q9)]):MT 121 (q4s (q4d Q9)):=mS h []
theorem j65:MT 121 (q4s Bd):=j64 ⟨q71,trivial⟩
def q98(X:Rt):Con Sg:=conS [.el C.ctx] [.el C.ctx] fun a K=>X a.1 (fun q0=>K (q0,()))
theorem w2r{Bu:U1}(h:AL [(121,q4s Bu)]):MT 78 (q98 (q9m Bu)):=mS h [(121000007,⟨bl 7955,[],[],[(.slot 5,.own 160 C.attr),sI 13]⟩)]
theorem w2s:MT 78 (q98 q2p):=w2r ⟨j65,trivial⟩
def Ul(X:Zx):Con Sg:=conS [.el C.subj,.str] [.el C.ctx,.bool] fun a K=>X a.1 a.2.1 (fun q0 q1=>K (q0,q1,()))
theorem w4s{J0:U0}{q3z:Rt}(h:AL [(77,q97 J0),(78,q98 q3z)]):MT 44 (Ul (z1z J0 q3z)):=mS h []
theorem q0i:MT 44 (Ul Vg):=w4s ⟨z8a,w2s,trivial⟩
def q0y(X:Wr):Con Sg:=conS [.el C.subj,.str,.str] [.el C.val,.bool] fun a K=>X a.1 a.2.1 a.2.2.1 (fun q0 q1=>K (q0,q1,()))
theorem j80{J0:U0}{Q9:Wf}(h:AL [(77,q97 J0),(93,G2 Q9)]):MT 71 (q0y (q6x J0 Q9)):=mS h [(17,⟨bl 1912468303,[2,0],[(1,(72,4))],[sI 31,(.cell 1 0,.int .i64),(.cell 1 1,.int .i64),(.cell 1 2,.str),(.cell 1 3,.sl C.str)]⟩)]
theorem z6h:MT 71 (q0y Hj):=j80 ⟨z8a,q71,trivial⟩
def z5b(X:q2q):Con Sg:=conS [.el C.val,.el C.val] [.bool] fun a K=>X a.1 a.2.1 (fun q0=>K (q0,()))
theorem w70{Qp:Zf}(h:AL [(279,Wt Qp)]):MT 248 (z5b (z4k Qp)):=mS h []
theorem w71:MT 248 (z5b q2r):=w70 ⟨Hp,trivial⟩
def G3(X:Z8):Con Sg:=conS [.str,.str] [.bool] fun a K=>X a.1 a.2.1 (fun q0=>K (q0,()))
theorem q3i:MT 280 (G3 Jv):=mS (l:=[]) trivial []
def q1j(X:Vp):Con Sg:=conS [.str,.str] [.bool] fun a K=>X a.1 a.2.1 (fun q0=>K (q0,()))
theorem j2e{Za:Z8}(h:AL [(280,G3 Za)]):MT 249 (q1j (q1f Za)):=mS h []
theorem j2f:MT 249 (q1j Gl):=j2e ⟨q3i,trivial⟩
def q3j(X:Wy):Con Sg:=conS [.str,.str] [.bool] fun a K=>X a.1 a.2.1 (fun q0=>K (q0,()))
theorem z5c:MT 281 (q3j Gm):=mS (l:=[]) trivial []
def q1k(X:Vq):Con Sg:=conS [.str,.str] [.bool] fun a K=>X a.1 a.2.1 (fun q0=>K (q0,()))
theorem j2g{W8:Wy}(h:AL [(281,q3j W8)]):MT 250 (q1k (q1g W8)):=mS h []
theorem j2h:MT 250 (q1k Gn):=j2g ⟨z5c,trivial⟩
def z08(X:q2s):Con Sg:=conV [.v,.v] [.str,.str] [.bool] [.same,.same] fun a K=>X a.1 a.2.1 (fun q0=>K (q0,()) ((),(),()))
theorem j4o:MT 251 (z08 q2t):=⟨entB (by kernel_rfl),j4a⟩
def j4p(X:q7o):Con Sg:=conS [.el C.val] [.bool] fun a K=>X a.1 (fun q0=>K (q0,()))
theorem w72:MT 299 (j4p q7p):=mS (l:=[]) trivial [(8,⟨bl 31,[0],[],[sB 5]⟩),(14,⟨bl 63,[0],[],[sB 17]⟩)]
def z8b(X:q59):Con Sg:=conS [.str] [.bool] fun a K=>X a.1 (fun q0=>K (q0,()))
theorem v08{Z0:V8}(h:AL [(206,q3e Z0)]):MT 300 (z8b (z7i Z0)):=mS h [(9,⟨bl 32737,[],[],[(.obj 0,.siter)]⟩)]
theorem v09:MT 300 (z8b z0r):=v08 ⟨z03,trivial⟩
end Go.En
end
noncomputable section
set_option maxRecDepth 100000
open Go Go.RowKit Go.Fl Go.Fl.Lk Go.Fx
namespace Go.En
def z8c(X:q9n):Con Sg:=conV [.v,.v] [.str,.str] [.vec 9 C.str] [.same,.same] fun a K=>X a.1 a.2.1 (fun q0=>K (q0,()) ((),(),()))
theorem w2t:MT 302 (z8c q9o):=⟨entB (by kernel_rfl),w1k⟩
def G4(X:Jw):Con Sg:=conS [.str,.str] [.str,.bool] fun a K=>X a.1 a.2.1 (fun q0 q1=>K (q0,q1,()))
theorem z5d{Za:Z8}(h:AL [(280,G3 Za)]):MT 325 (G4 (Gq Za)):=mS h []
theorem z5e:MT 325 (G4 Gs):=z5d ⟨q3i,trivial⟩
def q1l(X:Vr):Con Sg:=conS [.str,.str] [.str,.bool] fun a K=>X a.1 a.2.1 (fun q0 q1=>K (q0,q1,()))
theorem j2i{W9:Jw}(h:AL [(325,G4 W9)]):MT 317 (q1l (q1h W9)):=mS h []
theorem j2j:MT 317 (q1l Gt):=j2i ⟨z5e,trivial⟩
def j04(X:z10):Con Sg:=conV [.v] [.str] [.int .i64,.ifc] [.same] fun a K=>X a.1 (fun q0 q1=>K (q0,q1,()) ((),()))
theorem w4t:MT 318 (j04 q45):=⟨entB (by kernel_rfl),w4f⟩
def q3k(X:Uc):Con Sg:=conS [.str] [.int .i64,.int .i64] fun a K=>X a.1 (fun q0 q1=>K (q0,q1,()))
theorem j4q{G9:Vr}{q0l:z10}(h:AL [(317,q1l G9),(318,j04 q0l)]):MT 303 (q3k (q2u G9 q0l)):=mS h [(11,⟨bl 4294966321,[],[],[(.obj 0,.siter)]⟩)]
theorem j4r:MT 303 (q3k H3):=j4q ⟨j2j,w4t,trivial⟩
def q72(X:Gu):Con Sg:=conS [.str] [.el C.a3,.bool] fun a K=>X a.1 (fun q0 q1=>K (q0,q1,()))
theorem w73{q30:q9n}{Ra:Uc}(h:AL [(302,z8c q30),(303,q3k Ra)]):MT 286 (q72 (z4l q30 Ra)):=mS h [(13,⟨bl 228405,[2],[(1,(283,3)),(0,(283,3))],[sI 18,(.cell 1 0,.int .i64),(.cell 1 1,.int .i64),(.cell 1 2,.int .i64),(.cell 0 0,.int .i64),(.cell 0 1,.int .i64),(.cell 0 2,.int .i64)]⟩)]
theorem j4s:MT 286 (q72 q2v):=w73 ⟨w2t,j4r,trivial⟩
def z5f(X:q2w):Con Sg:=conS [.el C.val] [.int .i64] fun a K=>X a.1 (fun q0=>K (q0,()))
theorem w74{q8c:q7o}{q6o:q59}{Wg:Gu}(h:AL [(299,j4p q8c),(300,z8b q6o),(286,q72 Wg)]):MT 283 (z5f (z4m q8c q6o Wg)):=mS h [(47,⟨bl 73643289922748022531,[0],[],[sI 66]⟩),(59,⟨bl 132521265739157328625411,[0],[],[sI 77]⟩)]
theorem w75:MT 283 (z5f q7q):=w74 ⟨w72,v09,j4s,trivial⟩
def q99(X:Ru):Con Sg:=conS [.el C.val,.el C.val] [.int .i64,.int .i64] fun a K=>X a.1 a.2.1 (fun q0 q1=>K (q0,q1,()))
theorem w2u{q31:q2w}{Wg:Gu}(h:AL [(283,z5f q31),(286,q72 Wg)]):MT 252 (q99 (q9p q31 Wg)):=mS h [(288000005,⟨bl 1539,[],[],[sI 11]⟩)]
theorem w2v:MT 252 (q99 Rv):=w2u ⟨w75,j4s,trivial⟩
def q73(X:q2x):Con Sg:=conS [.el C.subj,.el C.ex] [.bool] fun a K=>X a.1 a.2.1 (fun q0=>K (q0,()))
theorem w76{Jo:Wr}{W7:Bc}{Bv:q2q}{Ha:Vp}{Hb:Vq}{Rb:q2s}{R2:Ru}(h:AL [(71,q0y Jo),(245,q70 W7),(248,z5b Bv),(249,q1j Ha),(250,q1k Hb),(251,z08 Rb),(252,q99 R2)]):MT 192 (q73 (z4n Jo W7 Bv Ha Hb Rb R2)):=mS h [(279000005,⟨bl 195,[2],[],[sI 8]⟩),(80000005,⟨bl 195,[],[],[sI 8]⟩)]
theorem w77:MT 192 (q73 Be):=w76 ⟨z6h,j4l,w71,j2f,j2h,j4o,w2v,trivial⟩
def Bk(X:Jm):Con Sg:=conV [.el C.subj,.sl C.str,.el C.ex] [.el C.subj,.sl C.str,.el C.ex] [.bool] [.same,.same,.same] fun a K=>X a.1 a.2.1 a.2.2.1 (fun q0=>K (q0,()) ((),(),(),()))
def j05:PT:=Q6 ([(245000005,⟨bl 195,[1,0],[],[sI 8]⟩),(80000005,⟨bl 195,[],[],[sI 8]⟩)]:LS)
theorem w2w(q8d:q2x)(X:Jm)(s:Subj)(in_:List (ByteArray))(e:Ex)(K:Bool->Prop):z4o q8d X s in_ e K=fnV (((WL [(192,q73 q8d)]).with 141 (Bk X)).pl j05) 4 141 ([.el C.subj,.sl C.str,.el C.ex]:LP) ([.v]:LP) ([.el C.subj,.sl C.str,.el C.ex]:LV) ([.bool]:LV) ([.same,.same,.same]:LV) (s,in_,e,()) (fun r _=>K r.1):=by kernel_rfl
theorem z5g:MT 141 (Bk Ud):=by
 show MT _ (conV ([.el C.subj,.sl C.str,.el C.ex]:LP) ([.el C.subj,.sl C.str,.el C.ex]:LV) ([.bool]:LV) ([.same,.same,.same]:LV) fun a K=>Ud a.1 a.2.1 a.2.2.1 (fun q0=>K (q0,()) ((),(),(),())))
 refine mR (l:=[(192,q73 Be)]) (u:=4) (rk:=[.v]) (p:=j05) ⟨w77,trivial⟩ (by kernel_rfl) fun a K h X hX=> ?_
 exact h (fun s in_ e K=>X (s,in_,e,()) fun r _=>K r.1) (fun s in_ e K hs=>hX (s,in_,e,()) (fun r _=>K r.1) (Eq.mp (w2w Be (fun s in_ e K=>X (s,in_,e,()) fun r _=>K r.1) s in_ e K) hs))
def q3l(X:Ue):Con Sg:=conS [.el C.seg,.el C.subj,.sl C.str] [.bool] fun a K=>X a.1 a.2.1 a.2.2.1 (fun q0=>K (q0,()))
theorem j4t{Qn:Zx}{Zh:Jm}(h:AL [(44,Ul Qn),(141,Bk Zh)]):MT 136 (q3l (q2y Qn Zh)):=mS h [(80000005,⟨bl 195,[],[],[sI 8]⟩)]
theorem j4u:MT 136 (q3l H4):=j4t ⟨q0i,z5g,trivial⟩
def Bl(X:J9):Con Sg:=conS [.sl C.seg,.el C.subj] [.vec 9 C.str] fun a K=>X a.1 a.2.1 (fun q0=>K (q0,()))
theorem j66{q32:Rr}{Rd:Ue}{Qs:Zz}(h:AL [(135,q96 q32),(136,q3l Rd),(137,Wz Qs)]):MT 89 (Bl (q4e q32 Rd Qs)):=mS h [(13,⟨bl 8380667,[1,0],[],[sI 23,(.obj 2,.map C.str C.seg)]⟩),(25,⟨bl 12918448379,[2,1,0],[],[(.slot 10,.own 9 C.str),sI 34]⟩)]
theorem z3l:MT 89 (Bl Vk):=j66 ⟨w2q,j4u,H6,trivial⟩
end Go.En
end
noncomputable section
set_option maxRecDepth 100000
open Go Go.RowKit Go.Fl Go.Fl.Lk Go.Fx
namespace Go.En
def q0z(X:Ws):Con Sg:=conV [.el C.env,.el C.subj,.sl C.forced] [.el C.env,.el C.subj,.sl C.forced] [.ptr 184 [.str,.str,.int .i64,.sl C.decl,.sl C.seg,.sl C.flag,.sl C.layer,.sl C.exper,.sl C.ctx,.sl C.forced,.sl C.str,.map C.str C.decis,.map C.str C.bool]] [.same,.same,.same] fun a K=>X a.1 a.2.1 a.2.2.1 (fun q0 q1 q2 q3 q4 q5 q6 q7 q8 q9 q10 q11 q12=>K ((q0,q1,q2,q3,q4,q5,q6,q7,q8,q9,q10,q11,q12,()),()) ((),(),(),()))
theorem j81{Zc:J9}(h:AL [(89,Bl Zc)]):MT 50 (q0z (q6y Zc)):=mP (rk:=[.ptr 184 [.c,.c,.c,.c,.c,.c,.c,.c,.c,.c,.sl C.str,.map C.str C.decis,.map C.str C.bool]]) h []
theorem z6i:MT 50 (q0z Hk):=j81 ⟨z3l,trivial⟩
def H7(X:Wk):Con Sg:=conV [.ptr 184 [.c,.c,.c,.c,.c,.c,.c,.c,.c,.c,.c,.map C.str C.decis,.map C.str C.bool],.v] [.ptr 184 [.str,.str,.int .i64,.sl C.decl,.sl C.seg,.sl C.flag,.sl C.layer,.sl C.exper,.sl C.ctx,.sl C.forced,.sl C.str,.map C.str C.decis,.map C.str C.bool],.str] [.el C.flag,.bool] [.ptr 184 [.same,.same,.same,.same,.same,.same,.same,.same,.same,.same,.same,.map C.str C.decis,.map C.str C.bool],.same] fun a K=>X a.1.1 a.1.2.1 a.1.2.2.1 a.1.2.2.2.1 a.1.2.2.2.2.1 a.1.2.2.2.2.2.1 a.1.2.2.2.2.2.2.1 a.1.2.2.2.2.2.2.2.1 a.1.2.2.2.2.2.2.2.2.1 a.1.2.2.2.2.2.2.2.2.2.1 a.1.2.2.2.2.2.2.2.2.2.2.1 a.1.2.2.2.2.2.2.2.2.2.2.2.1 a.1.2.2.2.2.2.2.2.2.2.2.2.2.1 a.2.1 (fun q0 q1 q2 q3=>K (q0,q1,()) (((),(),(),(),(),(),(),(),(),(),(),q2,q3,()),(),()))
theorem z09:MT 51 (H7 Jx):=mP (rk:=[.el C.flag,.v]) (l:=[]) trivial [(91000005,⟨bl 195,[3],[],[sI 8]⟩)]
def Bm(X:U2):Con Sg:=conS [.el C.flag,.el C.subj] [.int .i64] fun a K=>X a.1 a.2.1 (fun q0=>K (q0,()))
theorem j67{Qn:Zx}(h:AL [(44,Ul Qn)]):MT 16 (Bm (q4f Qn)):=mS h [(80000005,⟨bl 195,[],[],[sI 8]⟩),(5,⟨bl 3599,[1,0],[],[sI 12]⟩)]
theorem j68:MT 16 (Bm Vl):=j67 ⟨q0i,trivial⟩
def j06(X:q46):Con Sg:=conS [.sl C.bytes] [.vec 5 C.u8] fun a K=>X a.1 (fun q0=>K (q0,()))
theorem w4u:MT 166 (j06 q47):=mS (l:=[]) trivial [(7,⟨bl 389,[],[],[(.slot 3,.own 5 C.u8),sI 9]⟩),(13,⟨bl 8101,[],[],[(.slot 3,.own 5 C.u8),sI 6]⟩)]
def z0a(X:Gv):Con Sg:=conS [.int .u64,.int .i64] [.int .u64] fun a K=>X a.1 a.2.1 (fun q0=>K (q0,()))
theorem j2k:MT 261 (z0a Gw):=mS (l:=[]) trivial []
def Up(X:Je):Con Sg:=conV [.ptr 294 [.v,.v,.v,.v],.v] [.ptr 294 [.int .u64,.int .u64,.int .u64,.int .u64],.int .i64] [] [.ptr 294 [.int .u64,.int .u64,.int .u64,.int .u64],.same] fun a K=>X a.1.1 a.1.2.1 a.1.2.2.1 a.1.2.2.2.1 a.2.1 (fun q0 q1 q2 q3=>K () ((q0,q1,q2,q3,()),(),()))
theorem j0q{Zu:Gv}(h:AL [(261,z0a Zu)]):MT 204 (Up (Bz Zu)):=mP (rk:=[]) h [(3,⟨[0,1,4],[],[(0,(294,4))],[sI 5,(.cell 0 0,.int IntKind.u64),(.cell 0 1,.int IntKind.u64),(.cell 0 2,.int IntKind.u64),(.cell 0 3,.int IntKind.u64)]⟩)]
theorem q7a:MT 204 (Up Zy):=j0q ⟨j2k,trivial⟩
def q3m(X:Uf):Con Sg:=conV [.ptr 294 [.v,.v,.v,.v],.v] [.ptr 294 [.int .u64,.int .u64,.int .u64,.int .u64],.int .u64] [] [.ptr 294 [.int .u64,.int .u64,.int .u64,.int .u64],.same] fun a K=>X a.1.1 a.1.2.1 a.1.2.2.1 a.1.2.2.2.1 a.2.1 (fun q0 q1 q2 q3=>K () ((q0,q1,q2,q3,()),(),()))
theorem j4v{Zm:Je}(h:AL [(204,Up Zm)]):MT 203 (q3m (q2z Zm)):=mP (rk:=[]) h []
theorem j4w:MT 203 (q3m H5):=j4v ⟨q7a,trivial⟩
def z8d(X:q6a):Con Sg:=conS [.int .u64,.int .u64,.sl C.u8] [.int .u64] fun a K=>X a.1 a.2.1 a.2.2.1 (fun q0=>K (q0,()))
theorem v1a{Uj:Uf}{Zm:Je}(h:AL [(203,q3m Uj),(204,Up Zm)]):MT 165 (z8d (z7j Uj Zm)):=mS h [(9,⟨bl 67101127,[],[(0,(294,4))],[sI 9,(.cell 0 0,.int IntKind.u64),(.cell 0 1,.int IntKind.u64),(.cell 0 2,.int IntKind.u64),(.cell 0 3,.int IntKind.u64)]⟩),(17,⟨bl 2147476423,[0],[],[(.slot 10,.int IntKind.u64),sI 33]⟩),(29,⟨bl 15762600843272903,[0],[],[(.slot 8,.int IntKind.u64),sI 54]⟩)]
theorem v1b:MT 165 (z8d z0s):=v1a ⟨j4w,q7a,trivial⟩
def z5h(X:q20):Con Sg:=conS [.int .u64,.sl C.bytes] [.int .u64] fun a K=>X a.1 a.2.1 (fun q0=>K (q0,()))
theorem w78{q5p:q46}{z1n:q6a}(h:AL [(166,j06 q5p),(165,z8d z1n)]):MT 115 (z5h (z4p q5p z1n)):=mS h []
theorem w79:MT 115 (z5h q7r):=w78 ⟨w4u,v1b,trivial⟩
def q4t(X:Vs):Con Sg:=conS [.str,.str] [.int .i64] fun a K=>X a.1 a.2.1 (fun q0=>K (q0,()))
theorem v4m{q8e:q20}(h:AL [(115,z5h q8e)]):MT 73 (q4t (j1x q8e)):=mS h []
theorem z5i:MT 73 (q4t Gx):=v4m ⟨w79,trivial⟩
def z8e(X:q21):Con Sg:=conS [.sl C.forced,.str] [.el C.forced,.bool] fun a K=>X a.1 a.2.1 (fun q0 q1=>K (q0,q1,()))
theorem w2x:MT 183 (z8e q22):=mS (l:=[]) trivial [(5,⟨bl 787,[],[(0,(172,3))],[sI 10,(.cell 0 0,.str),(.cell 0 1,.str),(.cell 0 2,.int .i64)]⟩)]
def j4x(X:q7s):Con Sg:=conS [.el C.env,.el C.forced] [.bool] fun a K=>X a.1 a.2.1 (fun q0=>K (q0,()))
theorem w8a:MT 184 (j4x q7t):=mSg 8 (l:=[]) trivial [(277000005,⟨bl 195,[1],[],[sI 8]⟩),(278000005,⟨bl 195,[],[],[sI 8]⟩)]
end Go.En
end
noncomputable section
set_option maxRecDepth 100000
open Go Go.RowKit Go.Fl Go.Fl.Lk Go.Fx
namespace Go.En
def z5j(X:q23):Con Sg:=conS [.el C.env,.el C.subj] [.bool] fun a K=>X a.1 a.2.1 (fun q0=>K (q0,()))
theorem w8b{Qn:Zx}{Zr:Vs}(h:AL [(44,Ul Qn),(73,q4t Zr)]):MT 185 (z5j (z4q Qn Zr)):=mS h []
theorem w8c:MT 185 (z5j q7u):=w8b ⟨q0i,z5i,trivial⟩
def q4u(X:U3):Con Sg:=conS [.el C.env,.el C.subj,.str] [.bool] fun a K=>X a.1 a.2.1 a.2.2.1 (fun q0=>K (q0,()))
theorem j69{Zc:J9}{Zh:Jm}(h:AL [(89,Bl Zc),(141,Bk Zh)]):MT 188 (q4u (q4g Zc Zh)):=mS h [(5,⟨bl 3615,[1,0],[],[sI 12]⟩)]
theorem j7a:MT 188 (q4u Bf):=j69 ⟨z3l,z5g,trivial⟩
def z5k(X:Bg):Con Sg:=conS [.sl C.range,.int .i64] [.int .i64] fun a K=>X a.1 a.2.1 (fun q0=>K (q0,()))
theorem j4y:MT 41 (z5k q24):=mS (l:=[]) trivial [(5,⟨bl 387,[],[],[sI 9]⟩)]
def q5e(X:q0c):Con Sg:=conS [.el C.env,.el C.subj,.sl C.forced,.str] [.el C.asg,.int .i64] fun a K=>X a.1 a.2.1 a.2.2.1 a.2.2.2.1 (fun q0 q1=>K (q0,q1,()))
theorem w4v{Qn:Zx}{q33:q21}{Zr:Vs}{Va:Bg}{Bw:U3}{q8f:q23}{q8g:q7s}(h:AL [(44,Ul Qn),(183,z8e q33),(73,q4t Zr),(41,z5k Va),(188,q4u Bw),(185,z5j q8f),(184,j4x q8g)]):MT 139 (q5e (z11 Qn q33 Zr Va Bw q8f q8g)):=mS h [(4,⟨bl 959,[3,2,1,0],[],[sI 10]⟩),(18,⟨bl 2198939402175,[9,5,3,2,1,0],[(7,(134,5))],[(.cell 7 2,.int .i64)]⟩),(22,⟨bl 17735122472271807,[12,7,9,5,3,2,1,0],[],[sB 64]⟩),(30,⟨bl 18464479196181823423,[12,7,9,5,3,2,1,0],[],[sB 87]⟩),(41,⟨bl 73193204841212587949592543167,[12,9,5,3,2,1,0],[(7,(134,5))],[sI 96,(.cell 7 1,.str),(.cell 7 3,.int .i64)]⟩),(46,⟨bl 1261615642555177651852752060351,[19,7],[],[sB 19]⟩),(48,⟨bl 1261615642555177651852752584639,[19,7],[],[sB 122]⟩),(244000005,⟨bl 195,[],[],[sI 8]⟩),(182000005,⟨bl 195,[],[],[sI 8]⟩)]
theorem w4w:MT 139 (q5e Hy):=w4v ⟨q0i,w2x,z5i,j4y,j7a,w8c,w8a,trivial⟩
def Uq(X:Wu):Con Sg:=conV [.ptr 184 [.c,.c,.c,.c,.c,.c,.c,.c,.c,.c,.c,.map C.str C.decis,.map C.str C.bool],.el C.exper] [.ptr 184 [.str,.str,.int .i64,.sl C.decl,.sl C.seg,.sl C.flag,.sl C.layer,.sl C.exper,.sl C.ctx,.sl C.forced,.sl C.str,.map C.str C.decis,.map C.str C.bool],.el C.exper] [.int .i64] [.ptr 184 [.same,.same,.same,.same,.same,.same,.same,.same,.same,.same,.same,.map C.str C.decis,.map C.str C.bool],.same] fun a K=>X a.1.1 a.1.2.1 a.1.2.2.1 a.1.2.2.2.1 a.1.2.2.2.2.1 a.1.2.2.2.2.2.1 a.1.2.2.2.2.2.2.1 a.1.2.2.2.2.2.2.2.1 a.1.2.2.2.2.2.2.2.2.1 a.1.2.2.2.2.2.2.2.2.2.1 a.1.2.2.2.2.2.2.2.2.2.2.1 a.1.2.2.2.2.2.2.2.2.2.2.2.1 a.1.2.2.2.2.2.2.2.2.2.2.2.2.1 a.2.1 (fun q0 q1 q2=>K (q0,()) (((),(),(),(),(),(),(),(),(),(),(),q1,q2,()),(),()))
theorem j0r{Qn:Zx}{Zr:Vs}(h:AL [(44,Ul Qn),(73,q4t Zr)]):MT 140 (Uq (B0 Qn Zr)):=mP (rk:=[.v]) h [(5,⟨bl 32267,[3,0,1,2],[],[sI 15]⟩)]
theorem j0s:MT 140 (Uq J3):=j0r ⟨q0i,z5i,trivial⟩
def j07(X:z13):Con Sg:=conV [.v] [.int .i64] [.str] [.same] fun a K=>X a.1 (fun q0=>K (q0,()) ((),()))
theorem w4x:MT 164 (j07 z14):=⟨entB (by kernel_rfl),w4g⟩
def z5l(X:q25):Con Sg:=conS [.int .i64] [.str] fun a K=>X a.1 (fun q0=>K (q0,()))
theorem w8d{q5q:z13}(h:AL [(164,j07 q5q)]):MT 114 (z5l (j35 q5q)):=mS h []
theorem w8e:MT 114 (z5l q7v):=w8d ⟨w4x,trivial⟩
def z8f(X:q6b):Con Sg:=conS [.el C.val] [.str,.bool] fun a K=>X a.1 (fun q0 q1=>K (q0,q1,()))
theorem v1c{q8h:q25}(h:AL [(114,z5l q8h)]):MT 72 (z8f (z7k q8h)):=mS h [(8,⟨bl 63,[0],[],[sB 6]⟩)]
theorem v1d:MT 72 (z8f z0t):=v1c ⟨w8e,trivial⟩
def q65(X:Hl):Con Sg:=conS [.el C.subj,.str,.str,.str] [.int .i64,.bool] fun a K=>X a.1 a.2.1 a.2.2.1 a.2.2.2.1 (fun q0 q1=>K (q0,q1,()))
theorem j82{Jo:Wr}{z1o:q6b}{Zr:Vs}(h:AL [(71,q0y Jo),(72,z8f z1o),(73,q4t Zr)]):MT 40 (q65 (q6z Jo z1o Zr)):=mS h []
theorem j83:MT 40 (q65 q0v):=j82 ⟨z6h,v1d,z5i,trivial⟩
def q66(X:Hm):Con Sg:=conS [.el C.subj,.el C.serve] [.int .i64,.int .i64,.bool] fun a K=>X a.1 a.2.1 (fun q0 q1 q2=>K (q0,q1,q2,()))
theorem j84{q05:Hl}{Va:Bg}(h:AL [(40,q65 q05),(41,z5k Va)]):MT 14 (q66 (q60 q05 Va)):=mS h []
theorem j85:MT 14 (q66 q0w):=j84 ⟨j83,j4y,trivial⟩
def G5(X:Vt):Con Sg:=conV [.ptr 184 [.c,.c,.c,.c,.c,.c,.c,.c,.c,.c,.c,.map C.str C.decis,.map C.str C.bool],.el C.flag,.el C.serve,.el C.reason] [.ptr 184 [.str,.str,.int .i64,.sl C.decl,.sl C.seg,.sl C.flag,.sl C.layer,.sl C.exper,.sl C.ctx,.sl C.forced,.sl C.str,.map C.str C.decis,.map C.str C.bool],.el C.flag,.el C.serve,.el C.reason] [.int .i64,.el C.reason] [.ptr 184 [.same,.same,.same,.same,.same,.same,.same,.same,.same,.same,.same,.map C.str C.decis,.map C.str C.bool],.same,.same,.same] fun a K=>X a.1.1 a.1.2.1 a.1.2.2.1 a.1.2.2.2.1 a.1.2.2.2.2.1 a.1.2.2.2.2.2.1 a.1.2.2.2.2.2.2.1 a.1.2.2.2.2.2.2.2.1 a.1.2.2.2.2.2.2.2.2.1 a.1.2.2.2.2.2.2.2.2.2.1 a.1.2.2.2.2.2.2.2.2.2.2.1 a.1.2.2.2.2.2.2.2.2.2.2.2.1 a.1.2.2.2.2.2.2.2.2.2.2.2.2.1 a.2.1 a.2.2.1 a.2.2.2.1 (fun q0 q1 q2 q3=>K (q0,q1,()) (((),(),(),(),(),(),(),(),(),(),(),q2,q3,()),(),(),(),()))
theorem j2l{q06:Hm}(h:AL [(14,q66 q06)]):MT 142 (G5 (q1i q06)):=mP (rk:=[.v,.el C.reason]) h []
theorem j2m:MT 142 (G5 Wa):=j2l ⟨j85,trivial⟩
def Ur(X:Ze):Con Sg:=conV [.ptr 184 [.c,.c,.c,.c,.c,.c,.c,.c,.c,.c,.c,.map C.str C.decis,.map C.str C.bool],.el C.flag] [.ptr 184 [.str,.str,.int .i64,.sl C.decl,.sl C.seg,.sl C.flag,.sl C.layer,.sl C.exper,.sl C.ctx,.sl C.forced,.sl C.str,.map C.str C.decis,.map C.str C.bool],.el C.flag] [.el C.decis] [.ptr 184 [.same,.same,.same,.same,.same,.same,.same,.same,.same,.same,.same,.map C.str C.decis,.map C.str C.bool],.same] fun a K=>X a.1.1 a.1.2.1 a.1.2.2.1 a.1.2.2.2.1 a.1.2.2.2.2.1 a.1.2.2.2.2.2.1 a.1.2.2.2.2.2.2.1 a.1.2.2.2.2.2.2.2.1 a.1.2.2.2.2.2.2.2.2.1 a.1.2.2.2.2.2.2.2.2.2.1 a.1.2.2.2.2.2.2.2.2.2.2.1 a.1.2.2.2.2.2.2.2.2.2.2.2.1 a.1.2.2.2.2.2.2.2.2.2.2.2.2.1 a.2.1 (fun q0 q1 q2=>K (q0,()) (((),(),(),(),(),(),(),(),(),(),(),q1,q2,()),(),()))
def q6i:PT:=Q6 ([(93000009,⟨bl 14909483,[9],[(10,(74,4)),(0,(184,13))],[sI 24,(.cell 10 0,.int .i64),(.cell 10 1,.int .i64),(.cell 10 2,.str),(.cell 10 3,.int .i64),(.obj 2,.map C.str C.bool),(.obj 1,.map C.str C.decis)]⟩),(93000027,⟨bl 2269884306126242091,[9],[(10,(74,4)),(0,(184,13))],[sI 61,(.cell 10 0,.int .i64),(.cell 10 1,.int .i64),(.cell 10 2,.str),(.cell 10 3,.int .i64),(.obj 1,.map C.str C.decis),(.obj 2,.map C.str C.bool)]⟩),(93000043,⟨bl 18173039004871905887270070919594283,[9],[(10,(74,4)),(0,(184,13))],[sI 114,(.cell 10 0,.int .i64),(.cell 10 1,.int .i64),(.cell 10 2,.str),(.cell 10 3,.int .i64),(.obj 2,.map C.str C.bool),(.obj 1,.map C.str C.decis)]⟩),(20,⟨bl 131067,[4,3],[(5,(76,11)),(0,(184,13))],[(.cell 5 0,.str),(.cell 5 1,.int .i64),(.cell 5 2,.int .i64),(.cell 5 3,.int .i64),(.cell 5 4,.str),(.cell 5 5,.sl C.str),(.cell 5 6,.int .i64),(.cell 5 7,.int .i64),(.cell 5 8,.str),(.cell 5 9,.int .i64),(.cell 5 10,.int .i64),(.obj 1,.map C.str C.decis),(.obj 2,.map C.str C.bool)]⟩),(16,⟨bl 68719476731,[10,1,2,0,9],[(5,(76,11))],[(.cell 5 2,.int .i64),(.cell 5 3,.int .i64),(.cell 5 4,.str),(.cell 5 5,.sl C.str)]⟩)]:LS)
theorem z6q(Q9:Wf)(Z1:Wk)(Bx:U2)(q5r:q0c)(Us:Wu)(Zh:Jm)(Vw:Vt)(X:Ze)(salt:ByteArray)(hkind:ByteArray)(hold:Int)(attrs:List (Decl))(segs:List (Seg))(flags:List (Flg))(layers:List (Lay_))(expers:List (Exper))(ctxs:List (Ctxt))(fs:List (Frc))(inn:List (ByteArray))(done:(ByteArray->Option (Dcs)))(opn:(ByteArray->Option (Bool)))(f:Flg)(K:Dcs->(ByteArray->Option (Dcs))->(ByteArray->Option (Bool))->Prop):B1 Q9 Z1 Bx q5r Us Zh Vw X salt hkind hold attrs segs flags layers expers ctxs fs inn done opn f K=fnV (((WL [(93,G2 Q9),(51,H7 Z1),(16,Bm Bx),(139,q5e q5r),(140,Uq Us),(141,Bk Zh),(142,G5 Vw)]).with 52 (Ur X)).pl q6i) 4 52 ([.ptr 184 [.c,.c,.c,.c,.c,.c,.c,.c,.c,.c,.c,.map C.str C.decis,.map C.str C.bool],.el C.flag]:LP) ([.el C.decis]:LP) ([.ptr 184 [.str,.str,.int .i64,.sl C.decl,.sl C.seg,.sl C.flag,.sl C.layer,.sl C.exper,.sl C.ctx,.sl C.forced,.sl C.str,.map C.str C.decis,.map C.str C.bool],.el C.flag]:LV) ([.el C.decis]:LV) ([.ptr 184 [.same,.same,.same,.same,.same,.same,.same,.same,.same,.same,.same,.map C.str C.decis,.map C.str C.bool],.same]:LV) ((salt,hkind,hold,attrs,segs,flags,layers,expers,ctxs,fs,inn,done,opn,()),f,()) (fun r o=>K r.1 o.1.2.2.2.2.2.2.2.2.2.2.2.1 o.1.2.2.2.2.2.2.2.2.2.2.2.2.1):=by kernel_rfl
theorem q7b:MT 52 (Ur Wv):=by
 show MT _ (conV ([.ptr 184 [.c,.c,.c,.c,.c,.c,.c,.c,.c,.c,.c,.map C.str C.decis,.map C.str C.bool],.el C.flag]:LP) ([.ptr 184 [.str,.str,.int .i64,.sl C.decl,.sl C.seg,.sl C.flag,.sl C.layer,.sl C.exper,.sl C.ctx,.sl C.forced,.sl C.str,.map C.str C.decis,.map C.str C.bool],.el C.flag]:LV) ([.el C.decis]:LV) ([.ptr 184 [.same,.same,.same,.same,.same,.same,.same,.same,.same,.same,.same,.map C.str C.decis,.map C.str C.bool],.same]:LV) fun a K=>Wv a.1.1 a.1.2.1 a.1.2.2.1 a.1.2.2.2.1 a.1.2.2.2.2.1 a.1.2.2.2.2.2.1 a.1.2.2.2.2.2.2.1 a.1.2.2.2.2.2.2.2.1 a.1.2.2.2.2.2.2.2.2.1 a.1.2.2.2.2.2.2.2.2.2.1 a.1.2.2.2.2.2.2.2.2.2.2.1 a.1.2.2.2.2.2.2.2.2.2.2.2.1 a.1.2.2.2.2.2.2.2.2.2.2.2.2.1 a.2.1 (fun q0 q1 q2=>K (q0,()) (((),(),(),(),(),(),(),(),(),(),(),q1,q2,()),(),())))
 refine mR (l:=[(93,G2 Ju),(51,H7 Jx),(16,Bm Vl),(139,q5e Hy),(140,Uq J3),(141,Bk Ud),(142,G5 Wa)]) (u:=4) (rk:=[.el C.decis]) (p:=q6i) ⟨q71,z09,j68,w4w,j0s,z5g,j2m,trivial⟩ (by kernel_rfl) fun _ K h X hX=> ?_
 exact h (fun salt hkind hold attrs segs flags layers expers ctxs fs inn done opn f K=>X ((salt,hkind,hold,attrs,segs,flags,layers,expers,ctxs,fs,inn,done,opn,()),f,()) fun r o=>K r.1 o.1.2.2.2.2.2.2.2.2.2.2.2.1 o.1.2.2.2.2.2.2.2.2.2.2.2.2.1) (fun salt hkind hold attrs segs flags layers expers ctxs fs inn done opn f K hs=>hX ((salt,hkind,hold,attrs,segs,flags,layers,expers,ctxs,fs,inn,done,opn,()),f,()) (fun r o=>K r.1 o.1.2.2.2.2.2.2.2.2.2.2.2.1 o.1.2.2.2.2.2.2.2.2.2.2.2.2.1) (Eq.mp (z6q Ju Jx Vl Hy J3 Ud Wa (fun salt hkind hold attrs segs flags layers expers ctxs fs inn done opn f K=>X ((salt,hkind,hold,attrs,segs,flags,layers,expers,ctxs,fs,inn,done,opn,()),f,()) fun r o=>K r.1 o.1.2.2.2.2.2.2.2.2.2.2.2.1 o.1.2.2.2.2.2.2.2.2.2.2.2.2.1) salt hkind hold attrs segs flags layers expers ctxs fs inn done opn f K) hs))
end Go.En
end
noncomputable section
set_option maxRecDepth 100000
open Go Go.RowKit Go.Fl Go.Fl.Lk Go.Fx
namespace Go.En
def q3n(X:Vu):Con Sg:=conS [.el C.env,.el C.subj,.sl C.forced,.str] [.el C.decis,.int .i64] fun a K=>X a.1 a.2.1 a.2.2.1 a.2.2.2.1 (fun q0 q1=>K (q0,q1,()))
theorem w2y{Jp:Ws}{Z1:Wk}{Zn:Ze}(h:AL [(50,q0z Jp),(51,H7 Z1),(52,Ur Zn)]):MT 21 (q3n (q9q Jp Z1 Zn)):=mS h []
theorem z8g:MT 21 (q3n Rw):=w2y ⟨z6i,z09,q7b,trivial⟩
def z5m(X:q26):Con Sg:=conS [] [.bool] fun _ K=>X (fun q0=>K (q0,()))
theorem w8f{J1:Vu}(h:AL [(21,q3n J1)]):MT 9 (z5m (z4r J1)):=mS h []
theorem w8g:MT 9 (z5m q7w):=w8f ⟨z8g,trivial⟩
def y29(X:w7f):Con Sg:=conV [.sl C.u8,.v] [.sl C.u8,.int .i64] [.ptr 92 [.sl C.u8,.int .i64]] [.same,.same] fun a K=>X a.1 a.2.1 (fun q0 q1=>K ((q0,q1,()),()) ((),(),()))
theorem u0n:MT 10 (y29 w7g):=mP (rk:=[.ptr 92 [.c,.v]]) (l:=[]) trivial [(6,⟨[1,4],[],[],[(.slot 0,.sl C.u8)]⟩)]
def j2n(X:q9r):Con Sg:=conV [.ptr 92 [.c,.v],.v] [.ptr 92 [.sl C.u8,.int .i64],.str] [.el C.ctx] [.ptr 92 [.same,.int .i64],.same] fun a K=>X a.1.1 a.1.2.1 a.2.1 (fun q0 q1=>K (q0,()) (((),q1,()),(),()))
theorem v4n{z5w:j1k}{Q5:Vc}{Qb:Zk}{Jj:q15}(h:AL [(70,w7o z5w),(29,q6h Q5),(30,Vy Qb),(64,z7o Jj)]):MT 38 (j2n (j1y z5w Q5 Qb Jj)):=mP (rk:=[.el C.ctx]) h [(9,⟨bl 8051,[4,1],[(2,(107,3)),(0,(92,2))],[sI 7,(.cell 2 2,.own 160 C.attr),(.cell 0 1,.int .i64)]⟩)]
theorem v4o:MT 38 (j2n q9s):=v4n ⟨y2l,z01,G1,w1l,trivial⟩
def j2o(X:q9t):Con Sg:=conV [.ptr 92 [.c,.v]] [.ptr 92 [.sl C.u8,.int .i64]] [.el C.subj] [.ptr 92 [.same,.int .i64]] fun a K=>X a.1.1 a.1.2.1 (fun q0 q1=>K (q0,()) (((),q1,()),()))
theorem v4p{Qb:Zk}{q1r:q9r}(h:AL [(30,Vy Qb),(38,j2n q1r)]):MT 12 (j2o (j1z Qb q1r)):=mP (rk:=[.el C.subj]) h [(10,⟨bl 125,[1],[(0,(92,2)),(2,(25,1))],[(.cell 0 1,.int .i64),(.cell 2 0,.own 107 C.ctx)]⟩)]
theorem v4q:MT 12 (j2o z4s):=v4p ⟨G1,v4o,trivial⟩
def z3m(X:Hn):Con Sg:=conS [.el C.subj,.str] [.el C.ctx,.bool] fun a K=>X a.1 a.2.1 (fun q0 q1=>K (q0,q1,()))
theorem z8h:MT 46 (z3m q6c):=mS (l:=[]) trivial [(5,⟨bl 23,[0],[(1,(107,3))],[sI 6,(.cell 1 0,.str),(.cell 1 1,.str),(.cell 1 2,.sl C.attr)]⟩)]
def j2p(X:q9u):Con Sg:=conS [.el C.subj,.str,.str] [.el C.val,.bool] fun a K=>X a.1 a.2.1 a.2.2.1 (fun q0 q1=>K (q0,q1,()))
theorem v4r{Z2:Hn}(h:AL [(46,z3m Z2)]):MT 74 (j2p (j10 Z2)):=mS h [(15,⟨bl 3668815,[2,0],[(1,(72,4))],[sI 10,(.cell 1 0,.int .i64),(.cell 1 1,.int .i64),(.cell 1 2,.str),(.cell 1 3,.sl C.str)]⟩)]
theorem v4s:MT 74 (j2p z4t):=v4r ⟨z8h,trivial⟩
def w6d(X:z9t):Con Sg:=conS [.sl C.bytes] [.vec 5 C.u8] fun a K=>X a.1 (fun q0=>K (q0,()))
theorem v8x:MT 168 (w6d z9u):=mS (l:=[]) trivial [(7,⟨[0,2],[],[],[(.slot 3,.own 5 C.u8),sI 4]⟩),(15,⟨bl 518069,[],[],[(.slot 3,.own 5 C.u8),sI 6]⟩)]
def w2z(X:z4u):Con Sg:=conS [.int .u64,.int .u64] [.int .u64] fun a K=>X a.1 a.2.1 (fun q0=>K (q0,()))
theorem v4t:MT 262 (w2z z4v):=mS (l:=[]) trivial []
def q67(X:Ho):Con Sg:=conS [.el C.sip,.int .i64] [.el C.sip] fun a K=>X a.1 a.2.1 (fun q0=>K (q0,()))
theorem j86{Hc:z4u}(h:AL [(262,w2z Hc)]):MT 205 (q67 (q61 Hc)):=mS h [(5,⟨bl 23,[1],[(0,(298,4))],[sI 5,(.cell 0 0,.int IntKind.u64),(.cell 0 1,.int IntKind.u64),(.cell 0 2,.int IntKind.u64),(.cell 0 3,.int IntKind.u64)]⟩)]
theorem j87:MT 205 (q67 Jn):=j86 ⟨v4t,trivial⟩
end Go.En
end
noncomputable section
set_option maxRecDepth 100000
open Go Go.RowKit Go.Fl Go.Fl.Lk Go.Fx
namespace Go.En
def w8h(X:j36):Con Sg:=conS [.int .u64,.int .u64,.sl C.u8] [.int .u64] fun a K=>X a.1 a.2.1 a.2.2.1 (fun q0=>K (q0,()))
theorem y6t{V4:Ho}(h:AL [(205,q67 V4)]):MT 167 (w8h (w7h V4)):=mS h [(7,⟨bl 1046727,[],[(0,(298,4))],[sI 8,(.cell 0 0,.int IntKind.u64),(.cell 0 1,.int IntKind.u64),(.cell 0 2,.int IntKind.u64),(.cell 0 3,.int IntKind.u64)]⟩),(15,⟨bl 33552839,[0],[],[(.slot 9,.int IntKind.u64),sI 10]⟩),(24,⟨bl 274777243079,[0],[],[(.slot 9,.int IntKind.u64)]⟩)]
theorem y6u:MT 167 (w8h j9y):=y6t ⟨j87,trivial⟩
def w29(X:z7l):Con Sg:=conS [.int .u64,.sl C.bytes] [.int .u64] fun a K=>X a.1 a.2.1 (fun q0=>K (q0,()))
theorem y3a{j0i:z9t}{w0e:j36}(h:AL [(168,w6d j0i),(167,w8h w0e)]):MT 117 (w29 (w1i j0i w0e)):=mS h []
theorem y3b:MT 117 (w29 j37):=y3a ⟨v8x,y6u,trivial⟩
def j95(X:z4w):Con Sg:=conS [.str,.str] [.int .i64] fun a K=>X a.1 a.2.1 (fun q0=>K (q0,()))
theorem y6v{j5q:z7l}(h:AL [(117,w29 j5q)]):MT 76 (j95 (w7i j5q)):=mS h []
theorem v6y:MT 76 (j95 z4x):=y6v ⟨y3b,trivial⟩
def w6e(X:z9v):Con Sg:=conS [.sl C.range,.int .i64] [.int .i64] fun a K=>X a.1 a.2.1 (fun q0=>K (q0,()))
theorem v8y:MT 43 (w6e z9w):=mS (l:=[]) trivial [(5,⟨[0,1],[],[],[sI 5]⟩)]
def j7b(X:z3c):Con Sg:=conV [.ptr 92 [.c,.v],.el C.env] [.ptr 92 [.sl C.u8,.int .i64],.el C.env] [.vec 172 C.forced] [.ptr 92 [.same,.int .i64],.same] fun a K=>X a.1.1 a.1.2.1 a.2.1 (fun q0 q1=>K (q0,()) (((),q1,()),(),()))
theorem v8z{Qb:Zk}(h:AL [(30,Vy Qb)]):MT 48 (j7b (j6i Qb)):=mP (rk:=[.own 172 C.forced]) h [(7,⟨bl 27,[1],[(0,(92,2))],[(.slot 5,.own 172 C.forced),sI 6,(.cell 0 1,.int .i64)]⟩),(16,⟨bl 998651,[2],[(5,(172,3)),(0,(92,2))],[(.cell 5 0,.str),(.cell 0 1,.int .i64)]⟩),(32,⟨bl 998651,[2],[(5,(172,3)),(0,(92,2))],[(.cell 5 0,.str),(.cell 5 1,.str),(.cell 5 2,.int .i64),(.cell 0 1,.int .i64)]⟩),(26,⟨bl 274862128603,[],[(5,(172,3)),(0,(92,2))],[(.cell 5 0,.str),(.cell 0 1,.int .i64)]⟩)]
theorem v81:MT 48 (j7b z9x):=v8z ⟨G1,trivial⟩
def z5n(X:q27):Con Sg:=conS [.sl C.u8,.sl C.u8] [.el C.env,.el C.subj,.sl C.forced] fun a K=>X a.1 a.2.1 (fun q0 q1 q2=>K (q0,q1,q2,()))
theorem w8i{w4a:w7f}{q34:Rp}{z55:q9t}{j0j:z3c}(h:AL [(10,y29 w4a),(11,q95 q34),(12,j2o z55),(48,j7b j0j)]):MT 18 (z5n (z4y w4a q34 z55 j0j)):=mS h []
theorem w8j:MT 18 (z5n q28):=w8i ⟨u0n,w2o,v4q,v81,trivial⟩
def z2d(X:q0d):Con Sg:=conS [.el C.env,.el C.subj,.sl C.forced] [.vec 76 C.decis] fun a K=>X a.1 a.2.1 a.2.2.1 (fun q0=>K (q0,()))
theorem w4y{Jp:Ws}{Zn:Ze}(h:AL [(50,q0z Jp),(52,Ur Zn)]):MT 25 (z2d (z15 Jp Zn)):=mS h [(9,⟨bl 260319,[1,0],[(2,(184,13))],[(.slot 8,.own 76 C.decis),sI 18,(.obj 3,.map C.str C.decis),(.obj 4,.map C.str C.bool)]⟩)]
theorem w4z:MT 25 (z2d q48):=w4y ⟨z6i,q7b,trivial⟩
def j7c(X:z3d):Con Sg:=conS [.sl C.str,.sl C.edge,.str] [.bool] fun a K=>X a.1 a.2.1 a.2.2.1 (fun q0=>K (q0,()))
theorem v82{Q2:Vx}(h:AL [(47,q3h Q2)]):MT 196 (j7c (j6j Q2)):=mS h [(5,⟨[0,1,2],[],[],[sI 7]⟩)]
theorem v83:MT 196 (j7c z9y):=v82 ⟨z05,trivial⟩
end Go.En
end
noncomputable section
set_option maxRecDepth 100000
open Go Go.RowKit Go.Fl Go.Fl.Lk Go.Fx
namespace Go.En
def j7d(X:z3e):Con Sg:=conS [.sl C.str,.sl C.edge] [.vec 9 C.str,.int .i64] fun a K=>X a.1 a.2.1 (fun q0 q1=>K (q0,q1,()))
theorem v84{Q2:Vx}{j0k:z3d}(h:AL [(47,q3h Q2),(196,j7c j0k)]):MT 153 (j7d (j6k Q2 j0k)):=mS h [(5,⟨[0,1],[],[],[sI 6]⟩),(15,⟨bl 61507,[],[],[sI 7]⟩),(25,⟨bl 1006694595,[],[],[(.slot 8,.own 9 C.str)]⟩),(31,⟨bl 34902898118816195,[],[],[(.slot 9,.str),sB 10,sI 11,(.obj 2,.own 9 C.str)]⟩)]
theorem v86:MT 153 (j7d z9z):=v84 ⟨z05,v83,trivial⟩
def j2q(X:q9v):Con Sg:=conS [.sl C.seg] [.vec 9 C.str,.int .i64] fun a K=>X a.1 (fun q0 q1=>K (q0,q1,()))
theorem v4u{Z9:Hx}{G8:q1b}{j0l:z3e}(h:AL [(81,z3k Z9),(84,z49 G8),(153,j7d j0l)]):MT 102 (j2q (j11 Z9 G8 j0l)):=mS h []
theorem v4v:MT 102 (j2q z4z):=v4u ⟨z95,w2j,v86,trivial⟩
def z8i(X:q1w):Con Sg:=conS [.str,.str,.int .i64] [.bool] fun a K=>X a.1 a.2.1 a.2.2.1 (fun q0=>K (q0,()))
theorem j72:MT 150 (z8i q6d):=mS (l:=[]) trivial []
def z2e(X:q0e):Con Sg:=conS [.el C.val,.el C.val] [.bool] fun a K=>X a.1 a.2.1 (fun q0=>K (q0,()))
theorem w40{Q2:Vx}{Vi:q1w}(h:AL [(47,q3h Q2),(150,z8i Vi)]):MT 151 (z2e (z16 Q2 Vi)):=mS h [(13,⟨bl 4047,[1,0],[],[sI 5]⟩)]
theorem w41:MT 151 (z2e q49):=w40 ⟨z05,j72,trivial⟩
def v1e(X:j38):Con Sg:=conS [.bool,.bool] [.int .i64] fun a K=>X a.1 a.2.1 (fun q0=>K (q0,()))
theorem y3c:MT 194 (v1e z3f):=mS (l:=[]) trivial []
def z8j(X:q6e):Con Sg:=conS [.el C.val,.el C.val] [.int .i64,.int .i64] fun a K=>X a.1 a.2.1 (fun q0 q1=>K (q0,q1,()))
theorem v1f{Z3:Ba}{Qd:j38}{Hz:q39}(h:AL [(193,z3j Z3),(194,v1e Qd),(195,z93 Hz)]):MT 152 (z8j (z7m Z3 Qd Hz)):=mS h [(35,⟨bl 302157694953358261874639,[4,2,1,0],[],[sI 12]⟩)]
theorem v1g:MT 152 (z8j q6f):=v1f ⟨j6v,y3c,w57,trivial⟩
def z97(X:z3g):Con Sg:=conS [.el C.subj,.el C.ex] [.bool] fun a K=>X a.1 a.2.1 (fun q0=>K (q0,()))
theorem v87{z56:q9u}{Qx:Wn}{U8:q37}{Vi:q1w}{q0m:q0e}{q6p:q6e}(h:AL [(74,j2p z56),(128,Rx Qx),(53,z92 U8),(150,z8i Vi),(151,z2e q0m),(152,z8j q6p)]):MT 101 (z97 (j6l z56 Qx U8 Vi q0m q6p)):=mS h [(17,⟨bl 34359734383,[2,1,0],[],[sI 7]⟩)]
theorem v88:MT 101 (z97 q8q):=v87 ⟨v4s,q9y,w54,j72,w41,v1g,trivial⟩
def z3n(X:V2):Con Sg:=conV [.el C.subj,.sl C.str,.el C.ex] [.el C.subj,.sl C.str,.el C.ex] [.bool] [.same,.same,.same] fun a K=>X a.1 a.2.1 a.2.2.1 (fun q0=>K (q0,()) ((),(),(),()))
def w3a:PT:=Q6 ([(13,⟨bl 32303,[1,0],[],[sI 7]⟩),(27,⟨bl 6442483247,[1,0],[],[sI 8]⟩)]:LS)
theorem v1h(Q2:Vx)(j0m:z3g)(X:V2)(s:Subj)(in_:List (ByteArray))(e:Ex)(K:Bool->Prop):j6m Q2 j0m X s in_ e K=fnV (((WL [(47,q3h Q2),(101,z97 j0m)]).with 59 (z3n X)).pl w3a) 4 59 ([.el C.subj,.sl C.str,.el C.ex]:LP) ([.v]:LP) ([.el C.subj,.sl C.str,.el C.ex]:LV) ([.bool]:LV) ([.same,.same,.same]:LV) (s,in_,e,()) (fun r _=>K r.1):=by kernel_rfl
theorem j7e:MT 59 (z3n q8r):=by
 show MT _ (conV ([.el C.subj,.sl C.str,.el C.ex]:LP) ([.el C.subj,.sl C.str,.el C.ex]:LV) ([.bool]:LV) ([.same,.same,.same]:LV) fun a K=>q8r a.1 a.2.1 a.2.2.1 (fun q0=>K (q0,()) ((),(),(),())))
 refine mR (l:=[(47,q3h Gj),(101,z97 q8q)]) (u:=4) (rk:=[.v]) (p:=w3a) ⟨z05,v88,trivial⟩ (by kernel_rfl) fun a K h X hX=> ?_
 exact h (fun s in_ e K=>X (s,in_,e,()) fun r _=>K r.1) (fun s in_ e K hs=>hX (s,in_,e,()) (fun r _=>K r.1) (Eq.mp (v1h Gj q8q (fun s in_ e K=>X (s,in_,e,()) fun r _=>K r.1) s in_ e K) hs))
def z8k(X:q6g):Con Sg:=conS [.el C.seg,.el C.subj,.sl C.str] [.bool] fun a K=>X a.1 a.2.1 a.2.2.1 (fun q0=>K (q0,()))
theorem v1i{Z2:Hn}{Q2:Vx}{Wm:V2}(h:AL [(46,z3m Z2),(47,q3h Q2),(59,z3n Wm)]):MT 103 (z8k (z7n Z2 Q2 Wm)):=mS h []
theorem v1j:MT 103 (z8k z0u):=v1i ⟨z8h,z05,j7e,trivial⟩
def q74(X:Gy):Con Sg:=conS [.sl C.seg,.el C.subj] [.sl C.str] fun a K=>X a.1 a.2.1 (fun q0=>K (q0,()))
theorem w8k{z57:q9v}{z1p:q6g}{W5:q42}(h:AL [(102,j2q z57),(103,z8k z1p),(104,z96 W5)]):MT 60 (q74 (z40 z57 z1p W5)):=mS h [(9,⟨bl 31867,[1,0],[],[(.slot 7,.sl C.str),sI 8]⟩),(15,⟨bl 449883,[],[],[(.slot 7,.sl C.str),sI 9]⟩)]
theorem j4z:MT 60 (q74 q29):=w8k ⟨v4v,v1j,j94,trivial⟩
end Go.En
end
noncomputable section
set_option maxRecDepth 100000
open Go Go.RowKit Go.Fl Go.Fl.Lk Go.Fx
namespace Go.En
def j73(X:z0v):Con Sg:=conS [.sl C.forced,.str] [.el C.forced,.bool] fun a K=>X a.1 a.2.1 (fun q0 q1=>K (q0,q1,()))
theorem v1k:MT 148 (j73 z0w):=mS (l:=[]) trivial [(5,⟨[0,1,4],[],[(0,(172,3))],[sI 6,(.cell 0 0,.str),(.cell 0 1,.str),(.cell 0 2,.int .i64)]⟩)]
def H8(X:Jf):Con Sg:=conS [.el C.env,.str] [.int .i64] fun a K=>X a.1 a.2.1 (fun q0=>K (q0,()))
theorem q3o:MT 57 (H8 Jy):=mS (l:=[]) trivial [(5,⟨[0,1,2],[0],[],[sI 5]⟩)]
def j74(X:z0x):Con Sg:=conS [.sl C.range,.int .i64] [.bool] fun a K=>X a.1 a.2.1 (fun q0=>K (q0,()))
theorem v1l:MT 149 (j74 z0y):=mS (l:=[]) trivial [(5,⟨[0,1],[],[],[sI 5]⟩)]
def j2r(X:q9w):Con Sg:=conS [.el C.env,.sl C.forced,.el C.asg] [.el C.asg,.bool] fun a K=>X a.1 a.2.1 a.2.2.1 (fun q0 q1=>K (q0,q1,()))
theorem v4w{z1q:z0v}{Qz:Jf}{z1r:z0x}(h:AL [(148,j73 z1q),(57,H8 Qz),(149,j74 z1r)]):MT 97 (j2r (j12 z1q Qz z1r)):=mS h []
theorem v4x:MT 97 (j2r z41):=v4w ⟨v1k,q3o,v1l,trivial⟩
def j7f(X:z3h):Con Sg:=conS [.el C.env,.el C.subj] [.bool] fun a K=>X a.1 a.2.1 (fun q0=>K (q0,()))
theorem v89{Z2:Hn}{q35:z4w}(h:AL [(46,z3m Z2),(76,j95 q35)]):MT 98 (j7f (j6n Z2 q35)):=mS h []
theorem v9a:MT 98 (j7f z90):=v89 ⟨z8h,v6y,trivial⟩
def j75(X:z0z):Con Sg:=conS [.sl C.span,.int .i64] [.bool] fun a K=>X a.1 a.2.1 (fun q0=>K (q0,()))
theorem v1m:MT 99 (j75 z00):=mS (l:=[]) trivial [(5,⟨[0,1],[],[],[sI 5]⟩)]
def z2f(X:q0f):Con Sg:=conS [.el C.env,.el C.subj,.str] [.bool] fun a K=>X a.1 a.2.1 a.2.2.1 (fun q0=>K (q0,()))
theorem w42{Qz:Jf}{Vb:Gy}{Wm:V2}(h:AL [(57,H8 Qz),(60,q74 Vb),(59,z3n Wm)]):MT 100 (z2f (z17 Qz Vb Wm)):=mS h []
theorem w43:MT 100 (z2f q5a):=w42 ⟨q3o,j4z,j7e,trivial⟩
def j2s(X:q9x):Con Sg:=conS [.el C.env,.el C.subj,.sl C.forced,.str] [.el C.asg,.int .i64] fun a K=>X a.1 a.2.1 a.2.2.1 a.2.2.2.1 (fun q0 q1=>K (q0,q1,()))
theorem v4y{Q8:We}{Z2:Hn}{z58:q9w}{j0n:z3h}{q6q:z0z}{q0n:q0f}{q35:z4w}{z3u:z9v}(h:AL [(96,q3d Q8),(46,z3m Z2),(97,j2r z58),(98,j7f j0n),(99,j75 q6q),(100,z2f q0n),(76,j95 q35),(43,w6e z3u)]):MT 58 (j2s (j13 Q8 Z2 z58 j0n q6q q0n q35 z3u)):=mS h [(18,⟨bl 549738544959,[7,3,2,1,0],[(5,(134,5))],[(.cell 5 2,.int .i64)]⟩),(33,⟨bl 295129820961837808959,[10,7,3,1,0],[(5,(134,5)),(2,(134,5))],[sI 17,(.cell 5 0,.str),(.cell 5 1,.str),(.cell 5 2,.int .i64),(.cell 5 3,.int .i64),(.cell 5 4,.bool),(.cell 2 0,.str),(.cell 2 1,.str),(.cell 2 2,.int .i64),(.cell 2 3,.int .i64),(.cell 2 4,.bool)]⟩)]
theorem v4z:MT 58 (j2s z42):=v4y ⟨q7z,z8h,v4x,v9a,v1m,w43,v6y,v8y,trivial⟩
end Go.En
end
noncomputable section
set_option maxRecDepth 100000
open Go Go.RowKit Go.Fl Go.Fl.Lk Go.Fx
namespace Go.En
def z2g(X:q0g):Con Sg:=conS [.el C.env,.el C.subj,.sl C.forced,.el C.flag,.el C.decis] [.bool] fun a K=>X a.1 a.2.1 a.2.2.1 a.2.2.2.1 a.2.2.2.2.1 (fun q0=>K (q0,()))
theorem w44{Jg:Gb}{J1:Vu}{Z2:Hn}{Qz:Jf}{z59:q9x}{Vb:Gy}{Wm:V2}(h:AL [(56,z06 Jg),(21,q3n J1),(46,z3m Z2),(57,H8 Qz),(58,j2s z59),(60,q74 Vb),(59,z3n Wm)]):MT 28 (z2g (z18 Jg J1 Z2 Qz z59 Vb Wm)):=mS h [(13,⟨bl 3299575071615,[3,2,1,0],[],[sI 11]⟩),(43,⟨bl 21267647615646003909403565889885243263,[4,3,2,1,0],[],[sB 19,sI 20]⟩)]
theorem w45:MT 28 (z2g q5b):=w44 ⟨z71,z8g,z8h,q3o,v4z,j4z,j7e,trivial⟩
def W0(X:Gz):Con Sg:=conS [.sl C.u8,.sl C.u8] [.bool] fun a K=>X a.1 a.2.1 (fun q0=>K (q0,()))
theorem z5o{q8i:q26}{q8j:q27}{q5s:q0d}{q5t:q0g}(h:AL [(9,z5m q8i),(18,z5n q8j),(25,z2d q5s),(28,z2g q5t)]):MT 7 (W0 (G0 q8i q8j q5s q5t)):=mS h [(17,⟨bl 8589930979,[4,1,0],[],[sI 33]⟩)]
theorem z5p:MT 7 (W0 Zt):=z5o ⟨w8g,w8j,w4z,w45,trivial⟩
end Go.En
end
noncomputable section
set_option maxRecDepth 100000
namespace Go.En
open Go Go.Fl Go.Fl.Lk Go.Fx
theorem Cnd.mk{c A B:Prop}(h:c->A)(k: ¬c->B):Cnd c A B:=⟨h,k⟩
structure DS(list:List Int)(at_:Int):Prop where
 len:list.length<=1000
 lo:0<=at_
 hi:at_<=list.length
 byte: ∀x∈list,0<=x/\x<256
theorem getm{α:Type}{l:List α}{k:Nat}{x:α}(h:l[k]? =some x):x∈l:=List.mem_of_getElem? h
theorem j2t(n:Int):(Go.Utf8.encode n).size<=4:=by
 unfold Go.Utf8.encode
 generalize (if Go.Utf8.valid n then n.toNat else Go.Utf8.runeError)=c
 show (if c<0x80 then _ else if c<0x800 then _ else if c<0x10000 then _ else _:ByteArray).size<=4
 have h1: ∀a:UInt8,(ByteArray.mk #[a]).size<=4:=fun _=>(by decide:1<=4)
 have h2: ∀a b:UInt8,(ByteArray.mk #[a,b]).size<=4:=fun _ _=>(by decide:2<=4)
 have h3: ∀a b c:UInt8,(ByteArray.mk #[a,b,c]).size<=4:=fun _ _ _=>(by decide:3<=4)
 have h4: ∀a b c d:UInt8,(ByteArray.mk #[a,b,c,d]).size<=4:=fun _ _ _ _=>(by decide:4<=4)
 split
 ·exact h1 _
 ·split
  ·exact h2 _ _
  ·split
   ·exact h3 _ _ _
   ·exact h4 _ _ _ _
theorem Qh{list:List Int}{at_ n:Int}{K:Int->Int->Prop}(hD:DS list at_)(hn:1<=n)(h: ∀r a,0<=r->r<n->DS list a->K r a):Wb list at_ n K:=by
 obtain⟨h1,h2,h3,h4⟩:=hD
 unfold Wb w69 w68
 refine fun _=>Cnd.mk (fun hl=> ?_) (fun _=>h _ _ (by omega) (by omega) ⟨h1,h2,h3,h4⟩)
 have hl:=of_decide_eq_true hl
 refine⟨by unfold InI;omega,by unfold InI;omega,by omega,fun y hy=>⟨by unfold InI;have:=h4 _ (getm hy);omega,by omega,?_⟩⟩
 obtain⟨a,b⟩:=h4 _ (getm hy)
 exact h _ _ (Int.tmod_nonneg _ a) (by have:=Int.tmod_lt_of_pos y (b:=n) (by omega);omega) ⟨h1,by omega,by omega,h4⟩
theorem q6j{list:List Int}{at_ n:Int}{K:Int->Int->Prop}(hD:DS list at_)(hn:1<=n)(h: ∀r a,0<=r->r<n->DS list a->K r a):z9c list at_ n K:=by
 unfold z9c w7b
 refine Qh hD (by decide) fun r a r0 r1 hD=>⟨by unfold InI;omega,Qh hD (by decide) fun s b s0 s1 hD=>⟨by unfold InI;omega,by omega,?_⟩⟩
 exact h _ _ (Int.tmod_nonneg _ (by omega)) (by have:=Int.tmod_lt_of_pos (256*r+s) (b:=n) (by omega);omega) hD
theorem j40{n:Int}{l:List ByteArray}{K:List ByteArray->Prop}(h0:0<=n)(h1:n<=l.length)(h:K (l.take n.toNat)):j9w n l K:=⟨⟨h0,h1⟩,h⟩
theorem z3o{list:List Int}{at_:Int}{K:ByteArray->Int->Prop}(hD:DS list at_)(h: ∀r a,r∈j3m->DS list a->K r a):z33 list at_ K:=by
 unfold z33 w7a
 exact Qh hD (by decide) fun r a r0 r1 hD=>⟨⟨r0,r1⟩,fun y hy=>h _ _ (getm hy) hD⟩
theorem sz_k(n:Int):(ByteArray.mk (Array.mk [107])++Go.Utf8.encode n).size<=5:=by
 rw[ByteArray.size_append];have:=j2t n;show 1+_<=5;omega
theorem v6z{list:List Int}{at_:Int}{K:ByteArray->Int->Prop}(hD:DS list at_)(h: ∀r a,r.size<=5->DS list a->K r a):w09 list at_ K:=by
 unfold w09 v3s
 refine Qh hD (by decide) fun r a r0 r1 hD=>⟨by unfold InI;omega,?_,h _ _ (sz_k _) hD⟩
 have:=j2t (Go.IntKind.i32.wrap (48+r));have e:(ByteArray.mk (Array.mk [107])).size=1:=rfl;omega
theorem w3b{list:List Int}{at_:Int}{K:List ByteArray->Int->Prop}(hD:DS list at_)(h: ∀r a,r.length<=3->(∀s∈r,s.size<=5)->DS list a->K r a):j3n list at_ K:=by
 unfold j3n w7c
 refine Qh hD (by decide) fun n a n0 n1 hD=> ?_
 refine Lp3.ind (fun l i a=>DS list a/\0<=i/\i<=3/\(l.length:Int)=i/\ ∀s∈l,s.size<=5) (fun _ i _=>(3 - i).toNat) ?_ ⟨hD,by decide,by decide,rfl,by simp⟩
 rintro l i a ⟨hD,i0,i3,hl,hs⟩
 refine Qh hD (by decide) fun r a r0 r1 hD=>Cnd.mk (fun hc=> ?_) (fun hc=> ?_)
 ·have:=j2t (Go.IntKind.i32.wrap ((48:Int)+(n+i).tmod 10));have e:(ByteArray.mk (Array.mk [107])).size=1:=rfl
  have m0:=Int.tmod_nonneg 10 (show 0<=n+i by omega);have m1:=Int.tmod_lt_of_pos (n+i) (b:=10) (by decide)
  refine⟨by unfold InI;omega,by decide,by unfold InI;omega,by omega,by unfold Sml;simp;omega,by unfold InI;omega,⟨hD,by omega,by omega,by simp;omega,fun s hm=> ?_⟩,by omega⟩
  rcases List.mem_append.1 hm with hm|hm
  ·exact hs s hm
  ·rw[List.mem_singleton.1 hm];exact sz_k _
 ·refine Lp2.ind (fun (i:Int) (m:List ByteArray)=>m=l/\1<=i/\i<=1+l.length) (fun (i:Int) _=>(1+l.length - i).toNat) ?_ ⟨rfl,by decide,by omega⟩
  rintro i m ⟨rfl,i0,i1⟩ _
  refine Cnd.mk (fun hc=>⟨by omega,fun y hy=>⟨by unfold InI;omega,by omega,fun z hz=>Cnd.mk (fun _=>⟨by unfold InI;omega,⟨rfl,by omega,by omega⟩,by omega⟩) (fun _=>⟨by omega,h _ _ (by simp;omega) (fun s hm=>hs s (List.mem_of_mem_take hm)) hD⟩)⟩⟩) (fun _=>h _ _ (by omega) hs hD)
theorem sz0:(ByteArray.mk (Array.mk ([]:List UInt8))).size<=100:=by decide
structure ValS(v:Val):Prop where
 num:InI v.number
 txt:v.text.size<=100
 len:v.list.length<=10
 txs: ∀s∈v.list,s.size<=100
theorem q8t{list:List Int}{at_ kind:Int}{K:Val->Int->Prop}(hD:DS list at_)(h: ∀r a,ValS r->DS list a->K r a):B7 list at_ kind K:=by
 unfold B7 j3o
 have tt: ∀s∈j3m,s.size<=100:=by decide
 have tv: ∀s∈z62,s.size<=100:=by decide
 have tl: ∀l∈w07,l.length<=10/\ ∀s∈l,s.size<=100:=by decide
 refine Cnd.mk (fun _=> ?_) fun _=>Cnd.mk (fun _=>fun _=> ?_) fun _=>Cnd.mk (fun _=> ?_) fun _=>Cnd.mk (fun _=> ?_) fun _=> ?_
 ·exact Qh hD (by decide) fun r a r0 r1 hD=>h _ _ ⟨by unfold InI;simp only;omega,sz0,by simp,by simp⟩ hD
 ·refine Qh hD (by decide) fun r a r0 r1 hD=>⟨⟨r0,r1⟩,fun y hy=>h _ _ ⟨?_,sz0,by simp,by simp⟩ hD⟩
  have:=getm hy
  have k: ∀y∈[(0:Int),(1:Int),(17:Int),(18:Int),(19:Int),(-5:Int),(64:Int),(1099511627776:Int),(-1099511627776:Int)], -9223372036854775808<=y/\y<=9223372036854775807:=by decide
  exact k y this
 ·exact z3o hD fun r a hr hD=>h _ _ ⟨by unfold InI;simp,tt _ hr,by simp,by simp⟩ hD
 ·exact Qh hD (by decide) fun r a r0 r1 hD=>⟨⟨r0,r1⟩,fun y hy=>h _ _ ⟨by unfold InI;simp,tv _ (getm hy),by simp,by simp⟩ hD⟩
 ·refine Qh hD (by decide) fun r a r0 r1 hD=>⟨⟨r0,r1⟩,fun y hy=> ?_⟩
  obtain⟨a1,a2⟩:=tl _ (getm hy)
  exact⟨by unfold Sml;simp;omega,h _ _ ⟨by unfold InI;simp,sz0,by simpa using a1,by simpa using a2⟩ hD⟩
structure VsS(l:List Val):Prop where
 len:l.length<=4
 all: ∀v∈l,ValS v
theorem VsS.nil:VsS []:=⟨by simp,by simp⟩
theorem VsS.one{v:Val}(h:ValS v):VsS [v]:=⟨by simp,by simpa using h⟩
def ExS:Nat->Ex->Prop
 |0,e=>VsS e.values/\(e.name.size<=100/\e.kind.size<=100)/\(InI e.op/\(2<=e.op->e.op<=4->e.kids≠[]))/\e.kids=[]
 |n+1,e=>VsS e.values/\(e.name.size<=100/\e.kind.size<=100)/\(InI e.op/\(2<=e.op->e.op<=4->e.kids≠[]))/\e.kids.length<=3/\ ∀k∈e.kids,ExS n k
theorem ExS.up: ∀{n:Nat} {e:Ex},ExS n e->ExS (n+1) e
 |0,e,h=>⟨h.1,h.2.1,h.2.2.1,by rw[h.2.2.2];simp,by rw[h.2.2.2];simp⟩
 |n+1,e,h=>⟨h.1,h.2.1,h.2.2.1,h.2.2.2.1,fun k hk=>(h.2.2.2.2 k hk).up⟩
theorem ExS.le{n m:Nat}{e:Ex}(h:ExS n e)(hm:n<=m):ExS m e:=by
 induction hm with
 |refl=>exact h
 |step _ ih=>exact ih.up
theorem ExS.kids{n:Nat}{e:Ex}(h:ExS n e):e.kids.length<=3:=by
 cases n with
 |zero=>rw[h.2.2.2];simp
 |succ n=>exact h.2.2.2.1
theorem ExS.kid{n:Nat}{e k:Ex}(h:ExS n e)(hk:k∈e.kids): ∃m,m+1=n/\ExS m k:=by
 cases n with
 |zero=>rw[h.2.2.2] at hk;simp at hk
 |succ n=>exact⟨n,rfl,h.2.2.2.2 k hk⟩
theorem ExS.vals{n:Nat}{e:Ex}(h:ExS n e):VsS e.values:=by cases n<;>exact h.1
theorem ExS.nm{n:Nat}{e:Ex}(h:ExS n e):e.name.size<=100:=by cases n<;>exact h.2.1.1
theorem ExS.kd{n:Nat}{e:Ex}(h:ExS n e):e.kind.size<=100:=by cases n<;>exact h.2.1.2
theorem ExS.opK{n:Nat}{e:Ex}(h:ExS n e):2<=e.op->e.op<=4->e.kids≠[]:=by cases n<;>exact h.2.2.1.2
def OpL(op:Int):Prop:=InI op/\ ¬(2<=op/\op<=4)
theorem OpL.ok{op:Int}(h:OpL op){l:List Ex}:InI op/\(2<=op->op<=4->l≠[]):=⟨h.1,fun a b=>absurd ⟨a,b⟩ h.2⟩
theorem opl{op:Int}(h:(6<=op/\op<=100)∨op=0∨op=1∨op=5){l:List Ex}:InI op/\(2<=op->op<=4->l≠[]):=⟨by unfold InI;omega,fun a b=>by omega⟩
theorem q3p{K:List Decl->Prop}(h: ∀l,l.length=8->(∀d∈l,d.kind.size<=100/\d.name.size<=100/\1<=d.type/\d.type<=5)->K l):U9 K:=by
 unfold U9
 exact h _ rfl (by decide)
theorem v1n{list:List Int}{at_:Int}{K:Ex->Int->Prop}(hD:DS list at_)(h: ∀r a,ExS 0 r->6<=r.op->DS list a->K r a):z9e list at_ K:=by
 unfold z9e w7d
 refine q3p fun l hl hd _=>⟨by unfold InI;omega,Qh hD (by omega) fun r a r0 r1 hD _=>Cnd.mk (fun _=> ?_) fun hc=>⟨by omega,fun y hy=> ?_⟩⟩
 ·exact v6z hD fun s a hs hD=>h _ _ ⟨.one ⟨by unfold InI;simp,by show s.size<=100;omega,by simp,by simp⟩,⟨(by decide:(ByteArray.mk (Array.mk [107,101,121])).size<=100),(by decide:(ByteArray.mk (Array.mk [117,115,101,114])).size<=100)⟩,opl (by simp),rfl⟩ (by simp) hD
 obtain⟨hy0,hy1,hy2,hy3⟩:=hd y (getm hy)
 have one: ∀{op:Int} {v:Val},OpL op->ValS v->ExS 0 (Ex.mk op y.kind y.name [v] []):=fun ho hv=>⟨.one hv,⟨hy1,hy0⟩,ho.ok,rfl⟩
 refine Jn1.mk (fun x=>(∃b,x=(b,y.kind,y.name,([]:List Val),([]:List Ex),x.2.2.2.2.2.1,0,ByteArray.mk (Array.mk []),ByteArray.mk (Array.mk []),[],[],()))/\DS list x.2.2.2.2.2.1) ?_ ?_
 case refine_2=>
  rintro x ⟨⟨b,hx⟩,hD⟩
  refine q8t hD fun v a hv hD=>h _ _ ?_ (by simp) hD
  rw[hx]
  exact one ⟨by unfold InI;simp,by decide⟩ hv
 refine Qh hD (by decide) fun q a q0 q1 hD=> ?_
 refine Jn1.mk (fun x=>(∃b,x=(x.1,b,y.kind,y.name,([]:List Val),([]:List Ex),0,ByteArray.mk (Array.mk []),ByteArray.mk (Array.mk []),[],[],()))/\DS list x.1) ?_ ?_
 case refine_2=>
  rintro x ⟨⟨b,hx⟩,hD⟩
  have cmp:Wb list x.1 4 fun r a=>InI (12+r)/\B7 list a y.3 fun v a=>K (Ex.mk (12+r) x.2.2.1 x.2.2.2.1 [v] x.2.2.2.2.2.1) a:=by
   refine Qh hD (by decide) fun r a r0 r1 hD=>⟨by unfold InI;omega,q8t hD fun v a hv hD=>h _ _ ?_ (by simp only;omega) hD⟩
   rw[hx]
   exact one ⟨by unfold InI;omega,by omega⟩ hv
  refine Cnd.mk (fun _=>cmp) fun _=>Cnd.mk (fun _=>cmp) fun _=>Cnd.mk (fun _=>cmp) fun _=> ?_
  refine⟨⟨b,?_⟩,hD⟩
  rw[hx]
 have nx: ∀{a:Int},DS list a->(fun x:Int×ByteArray×ByteArray×List Val×List Ex×Int×Int×ByteArray×ByteArray×List Val×List Ex×Unit=>(∃b,x=(b,y.kind,y.name,([]:List Val),([]:List Ex),x.2.2.2.2.2.1,0,ByteArray.mk (Array.mk []),ByteArray.mk (Array.mk []),[],[],()))/\DS list x.2.2.2.2.2.1) ((0:Int),y.1,y.2,[],[],a,(0:Int),ByteArray.mk (Array.mk []),ByteArray.mk (Array.mk []),[],[],()):=fun hD=>⟨⟨0,rfl⟩,hD⟩
 refine Cnd.mk (fun _=>h _ _ ⟨.nil,⟨hy1,hy0⟩,opl (by simp),rfl⟩ (by simp) hD) fun _=>Cnd.mk (fun _=> ?_) fun _=>Cnd.mk (fun _=> ?_) fun _=>Cnd.mk (fun _=> ?_) fun _=>Cnd.mk (fun _=> ?_) fun _=>nx hD
 ·refine Cnd.mk (fun _=>nx hD) fun _=> ?_
  refine Lp3.ind (fun i l a=>DS list a/\0<=i/\i<=3/\(l.length:Int)=i/\ ∀v∈l,ValS v) (fun i _ _=>(3 - i).toNat) ?_ ⟨hD,by decide,by decide,rfl,by simp⟩
  rintro i l a ⟨hD,i0,i3,hl,hv⟩
  refine Qh hD (by decide) fun r a r0 r1 hD=>Cnd.mk (fun hc=>q8t hD fun v a hv' hD=>⟨by unfold Sml;simp;omega,by unfold InI;omega,⟨hD,by omega,by omega,by simp;omega,fun u hu=> ?_⟩,by omega⟩) (fun hc=>h _ _ ⟨⟨by simp only;omega,hv⟩,⟨hy1,hy0⟩,opl (by simp),rfl⟩ (by simp) hD)
  rcases List.mem_append.1 hu with hu|hu
  ·exact hv u hu
  ·rw[List.mem_singleton.1 hu];exact hv'
 ·have c:B7 list a 3 fun v a=>K (Ex.mk 11 y.1 y.2 [v] []) a:=q8t hD fun v a hv hD=>h _ _ (one ⟨by unfold InI;simp,by decide⟩ hv) (by simp) hD
  exact Cnd.mk (fun _=>c) fun _=>Cnd.mk (fun _=>c) fun _=>nx hD
 ·exact Cnd.mk (fun _=>Qh hD (by decide) fun r a r0 r1 hD=>⟨by unfold InI;omega,q8t hD fun v a hv hD=>h _ _ (one ⟨by unfold InI;omega,by omega⟩ hv) (by simp only;omega) hD⟩) fun _=>⟨⟨0,rfl⟩,hD⟩
 ·exact⟨⟨0,rfl⟩,hD⟩
theorem ExS.eta{n:Nat}{e:Ex}(h:ExS n e):ExS n (Ex.mk e.op e.kind e.name e.values e.kids):=by cases e;exact h
theorem u3k{n:Nat}{e:Ex}(h:ExS n e){k m:ByteArray}(hm:m.size<=100)(hk:k.size<=100):ExS (n+1) (Ex.mk 4 k m [] [e]):=⟨.nil,⟨hm,hk⟩,⟨InI.mk (by simp) (by simp),fun _ _=>by simp⟩,by simp,by simpa using h⟩
structure SegS(g:Seg):Prop where
 key:g.key.size<=100
 kind:g.kind.size<=100
 incl:g.incl.length<=3
 excl:g.excl.length<=3
 cond:ExS 4 g.cond
theorem Zw{α:Type}{P:α->Prop}{l:List α}{x:α}(h: ∀y∈l,P y)(hx:P x): ∀y∈l++[x],P y:=fun y hy=>by
 rcases List.mem_append.1 hy with hy|hy
 ·exact h y hy
 ·rw[List.mem_singleton.1 hy];exact hx
theorem z6j{v:Envt}{K:List ByteArray->Prop}(hl:v.segments.length<=1000)(h:K (v.segments.map Seg.key)):q17 v K:=by
 unfold q17
 refine Lp2.ind (fun (l:List ByteArray) (i:Int)=>0<=i/\i<=v.segments.length/\l=(v.segments.take i.toNat).map Seg.key) (fun _ (i:Int)=>(v.segments.length - i).toNat) ?_ ⟨Int.le_refl 0,by omega,by simp⟩
 rintro l i ⟨i0,i1,rfl⟩ _
 refine Cnd.mk (fun hc=>⟨by omega,fun y hy=>⟨by unfold Sml;simp;omega,by unfold InI;omega,⟨by omega,by omega,?_⟩,by omega⟩⟩) fun hc=> ?_
 ·rw[show (i+1).toNat=i.toNat+1 by omega,List.take_add_one,hy];simp
 ·rw[List.take_of_length_le (by omega)];exact h
def SplS(n:Int)(l:List Rng):Prop:=l.length<=4/\ ∀r∈l,0<=r.lo/\r.hi<=10000/\1<=r.variation/\r.variation<=n
structure SrvS(n:Int)(s:Srv):Prop where
 kind:s.kind.size<=100
 var:0<=s.variation/\s.variation<=n
 split:SplS n s.split
 by_:s.by_.size<=100
 salt:s.salt.size<=100
structure LayS(l:Lay_):Prop where
 key:l.key.size<=100
 kind:l.kind.size<=100
 salt:l.salt.size<=100
 hold:0<=l.holdout/\l.holdout<=10000
 cool:0<=l.cool/\l.cool<=100
theorem v9b{list:List Int}{at_:Int}{key:ByteArray}{K:Lay_->Int->Prop}(hD:DS list at_)(hk:key.size<=100)(h: ∀l a,LayS l->l.key=key->DS list a->K l a):j3w list at_ key K:=by
 unfold j3w w1c
 have tt: ∀s∈j3m,s.size<=100:=by decide
 refine z3o hD fun t a ht hD=>Qh hD (by decide) fun c a c0 c1 hD=>⟨by unfold InI;omega,?_⟩
 refine Jn2.mk (fun k a=>k.size<=100/\DS list a) (Qh hD (by decide) fun r a r0 r1 hD=>Cnd.mk (fun _=>⟨by decide,hD⟩) fun _=>⟨by decide,hD⟩) fun kind a hx=> ?_
 obtain⟨hkd,hD⟩:=hx
 refine Jn2.mk (fun x a=>DS list a/\0<=x/\x<=10000) (Qh hD (by decide) fun r a r0 r1 hD=>Cnd.mk (fun _=>q6j hD (by decide) fun w a w0 w1 hD=>⟨hD,by omega,by omega⟩) fun _=>⟨hD,by omega,by omega⟩) fun hold a hx=> ?_
 obtain⟨hD,x0,x1⟩:=hx
 have ok: ∀{cs:List Col},LayS (Lay_.mk key kind t hold (c*50) cs):=⟨hk,hkd,tt _ ht,⟨x0,x1⟩,⟨by simp only;omega,by simp only;omega⟩⟩
 refine Lp4.ind (fun at_ i cs a=>DS list a/\0<=i/\i<=2/\(cs.length:Int)=i/\0<=at_/\at_<=10000/\ ∀c∈cs,0<=c.lo/\c.hi<=10000/\0<=c.until_/\c.until_<=200) (fun _ i _ _=>(2 - i).toNat) ?_ ⟨hD,by omega,by omega,rfl,by omega,by omega,by simp⟩
 rintro at_ i cs a ⟨hD,i0,i1,hl,a0,a1,hc⟩
 refine Qh hD (by decide) fun q a q0 q1 hD=>Cnd.mk (fun _=>q6j hD (by decide) fun w a w0 w1 hD=>⟨by unfold InI;omega,by unfold InI;omega,q6j hD (by decide) fun w' a w0' w1' hD=>⟨by unfold InI;omega,Cnd.mk (fun _=>h _ _ ok rfl hD) fun _=> ?_⟩⟩) fun _=>h _ _ ok rfl hD
 refine Qh hD (by decide) fun u a u0 u1 hD=>⟨by unfold Sml;simp;omega,by unfold InI;omega,⟨hD,by omega,by omega,by simp;omega,by omega,by omega,Zw hc ⟨by simp only;omega,by simp only;omega,by simp only;omega,by simp only;omega⟩⟩,by omega⟩
structure SpsS(l:List Spn):Prop where
 len:l.length<=10000
 all: ∀s∈l,0<=s.lo/\s.lo<s.hi/\s.hi<=10000
structure RulS(n:Int)(r:Rul):Prop where
 name:r.name.size<=100
 cond:ExS 4 r.cond
 serve:SrvS n r.serve
structure FlgS(f:Flg):Prop where
 key:f.key.size<=100
 vlen:1<=f.variations.length/\f.variations.length<=4
 vals: ∀v∈f.variations,ValS v
 nlen:f.needs.length<=4
 needs: ∀q∈f.needs,q.flag.size<=100
 tlen:f.targets.length<=3
 tgts: ∀t∈f.targets,t.kind.size<=100
 rlen:f.rules.length<=4
 rules: ∀r∈f.rules,RulS f.variations.length r
 dflt:SrvS f.variations.length f.dflt
structure ExpS(x:Exper):Prop where
 key:x.key.size<=100
 layer:x.layer.size<=100
 flag:x.flag.size<=100
 claims:SpsS x.claims
 arms:SplS 4 x.arms
 cond:ExS 4 x.cond
structure EnvS(v:Envt):Prop where
 hkind:v.settings.holdoutKind.size<=100
 attrs: ∀d∈v.attributes,d.kind.size<=100/\d.name.size<=100
 slen:v.segments.length<=3
 segs: ∀g∈v.segments,SegS g
 flen:v.flags.length<=4
 flags: ∀f∈v.flags,FlgS f
 llen:v.layers.length<=2
 layers: ∀l∈v.layers,LayS l
 xlen:v.experiments.length<=3
 exps: ∀x∈v.experiments,ExpS x
end Go.En
end
noncomputable section
set_option maxRecDepth 100000
namespace Go.En
open Go Go.Fl Go.Fl.Lk Go.Fx
abbrev S4:=Int×Int×Int×Int
def w64(x:Int):Int:=Go.IntKind.u64.wrap x
def xr(a b:Int):Int:=Go.IntKind.u64.wrap ((BitVec.ofInt 64 a ^^^ BitVec.ofInt 64 b).toNat:Int)
def rot(x n:Int):Int:=Go.IntKind.u64.wrap ((BitVec.ofInt 64 (Go.IntKind.u64.wrap (x*2 ^ Min.min n.toNat 64))|||BitVec.ofInt 64 (x.fdiv (2 ^ Min.min (Go.IntKind.u64.wrap (64 - n)).toNat 64))).toNat:Int)
def rnd(s:S4):S4:=
  (w64 (rot (w64 (s.1+s.2.1)) 32+xr (rot s.2.2.2 16) (w64 (s.2.2.1+s.2.2.2))),
   xr (rot (xr (rot s.2.1 13) (w64 (s.1+s.2.1))) 17) (w64 (w64 (s.2.2.1+s.2.2.2)+xr (rot s.2.1 13) (w64 (s.1+s.2.1)))),
   rot (w64 (w64 (s.2.2.1+s.2.2.2)+xr (rot s.2.1 13) (w64 (s.1+s.2.1)))) 32,
   xr (rot (xr (rot s.2.2.2 16) (w64 (s.2.2.1+s.2.2.2))) 21) (w64 (rot (w64 (s.1+s.2.1)) 32+xr (rot s.2.2.2 16) (w64 (s.2.2.1+s.2.2.2)))))
def rn:Nat->S4->S4
  |0,s=>s
  |k+1,s=>rnd (rn k s)
def tm(y:Int)(k:Nat):BitVec 64:=BitVec.ofInt 64 (Go.IntKind.u64.wrap (Go.IntKind.u64.wrap y*2 ^ Min.min (8*k) 64))
def wv(b:List Int)(o:Nat)(v:BitVec 64):Nat->BitVec 64
  |0=>v
  |k+1=>wv b o v k|||tm (b.getD (o+k) 0) k
def s0(k0 k1:Int):S4:=(xr k0 8317987319222330741,xr k1 7237128888997146477,xr k0 7816392313619706465,xr k1 8387220255154660723)
def topV(n:Nat):BitVec 64:=BitVec.ofInt 64 (Go.IntKind.u64.wrap (Go.IntKind.u64.wrap (n:Int)*2 ^ Min.min (Int.toNat 56) 64))
def y6w(b:List Int):BitVec 64:=wv b (8*(b.length / 8)) 0 (b.length % 8)|||topV b.length
theorem w3c(x:Int):Go.IntKind.u64.wrap x=x % 18446744073709551616:=rfl
theorem u0o(x:Int):Go.IntKind.u64.wrap x=((BitVec.ofInt 64 (Go.IntKind.u64.wrap x)).toNat:Int):=by
  rw[BitVec.toNat_ofInt,w3c]
  omega
theorem j41{n:Nat}(h:n<18446744073709551616):Go.IntKind.u64.wrap (n:Int)=n:=by
  show (n:Int) % 18446744073709551616=n
  omega
theorem y3d(v:BitVec 64):BitVec.ofInt 64 ((v.toNat:Nat):Int)=v:=by simp
theorem y6x(v t:BitVec 64):Go.IntKind.u64.wrap ((BitVec.ofInt 64 ((v.toNat:Nat):Int)|||t).toNat:Int)=((v|||t).toNat:Int):=by
  rw[y3d];exact j41 (v|||t).isLt
theorem j7g{x k:Int}{K:Int->Prop}(hk:k=13∨k=16∨k=17∨k=21∨k=32)(h:K (rot x k)):Gw x k K:=by
  have e:Go.IntKind.u64.wrap (↑(BitVec.ofInt 64 (Go.IntKind.u64.wrap k) &&& BitVec.ofInt 64 63).toNat:Int)=k:=by rcases hk with rfl|rfl|rfl|rfl|rfl<;>decide
  have e2:0<=Go.IntKind.u64.wrap (64 - k):=by rcases hk with rfl|rfl|rfl|rfl|rfl<;>decide
  unfold Gw
  rw[e]
  exact⟨by omega,e2,h⟩
theorem z98{x k:Int}{K:Int->Prop}(hk:k=13∨k=16∨k=17∨k=21∨k=32)(h:K (rot x k)):z4v x k K:=by
  have e2:0<=Go.IntKind.u64.wrap (64 - k):=by rcases hk with rfl|rfl|rfl|rfl|rfl<;>decide
  unfold z4v
  exact⟨by omega,e2,h⟩
theorem y3e(s:S4)(i:Int)(h:0<=i):rnd (rn i.toNat s)=rn (i+1).toNat s:=by
  rw[show (i+1).toNat=i.toNat+1 by omega];rfl
theorem v9c{a b c d n:Int}{q:Nat}{K:Int->Int->Int->Int->Prop}(hn:n=(q:Int))(h1:q<=1000)(h:K (rn q (a,b,c,d)).1 (rn q (a,b,c,d)).2.1 (rn q (a,b,c,d)).2.2.1 (rn q (a,b,c,d)).2.2.2):Zy a b c d n K:=by
  subst hn
  unfold Zy Bz
  refine Lp5.ind (fun i a' b' c' d'=>0<=i/\i<=(q:Int)/\(a',b',c',d')=rn i.toNat (a,b,c,d)) (fun i _ _ _ _=>((q:Int) - i).toNat) ?_ ⟨Int.le_refl 0,by omega,rfl⟩
  rintro i a' b' c' d' ⟨i0,i1,hs⟩
  refine Cnd.mk (fun hc=>j7g (by simp) (j7g (by simp) (j7g (by simp) (j7g (by simp) (j7g (by simp) (j7g (by simp) ⟨by unfold InI;omega,⟨by omega,by omega,?_⟩,by omega⟩)))))) fun hc=> ?_
  · rw[←y3e _ _ i0,←hs];simp only[rnd,w64,xr]
  · rw[show q=i.toNat by omega,←hs] at h;exact h
theorem v1o{v:Sip}{n:Int}{q:Nat}{K:Sip->Prop}(hn:n=(q:Int))(h1:q<=1000)(h:K (Sip.mk (rn q (v.1,v.2,v.3,v.4)).1 (rn q (v.1,v.2,v.3,v.4)).2.1 (rn q (v.1,v.2,v.3,v.4)).2.2.1 (rn q (v.1,v.2,v.3,v.4)).2.2.2)):Jn v n K:=by
  subst hn
  unfold Jn q61
  refine Lp5.ind (fun i a' b' c' d'=>0<=i/\i<=(q:Int)/\(a',b',c',d')=rn i.toNat (v.1,v.2,v.3,v.4)) (fun i _ _ _ _=>((q:Int) - i).toNat) ?_ ⟨Int.le_refl 0,by omega,rfl⟩
  rintro i a' b' c' d' ⟨i0,i1,hs⟩
  refine Cnd.mk (fun hc=>z98 (by simp) (z98 (by simp) (z98 (by simp) (z98 (by simp) (z98 (by simp) (z98 (by simp) ⟨by unfold InI;omega,⟨by omega,by omega,?_⟩,by omega⟩)))))) fun hc=> ?_
  · rw[←y3e _ _ i0,←hs];simp only[rnd,w64,xr]
  · rw[show q=i.toNat by omega,←hs] at h;exact h
theorem exR: ∃R:Nat->S4->S4,(∀(a b c d n:Int) (q:Nat) (K:Int->Int->Int->Int->Prop),n=(q:Int)->q<=1000->K (R q (a,b,c,d)).1 (R q (a,b,c,d)).2.1 (R q (a,b,c,d)).2.2.1 (R q (a,b,c,d)).2.2.2->Zy a b c d n K)/\
    ∀(v:Sip) (n:Int) (q:Nat) (K:Sip->Prop),n=(q:Int)->q<=1000->K (Sip.mk (R q (v.1,v.2,v.3,v.4)).1 (R q (v.1,v.2,v.3,v.4)).2.1 (R q (v.1,v.2,v.3,v.4)).2.2.1 (R q (v.1,v.2,v.3,v.4)).2.2.2)->Jn v n K:=
  ⟨rn,fun _ _ _ _ _ _ _ hn hq h=>v9c hn hq h,fun _ _ _ _ hn hq h=>v1o hn hq h⟩
def RR:Nat->S4->S4:=Classical.choose exR
theorem v1p{a b c d n:Int}{q:Nat}{K:Int->Int->Int->Int->Prop}(hn:n=(q:Int))(h1:q<=1000)(h:K (RR q (a,b,c,d)).1 (RR q (a,b,c,d)).2.1 (RR q (a,b,c,d)).2.2.1 (RR q (a,b,c,d)).2.2.2):Zy a b c d n K:=(Classical.choose_spec exR).1 a b c d n q K hn h1 h
theorem w3d{v:Sip}{n:Int}{q:Nat}{K:Sip->Prop}(hn:n=(q:Int))(h1:q<=1000)(h:K (Sip.mk (RR q (v.1,v.2,v.3,v.4)).1 (RR q (v.1,v.2,v.3,v.4)).2.1 (RR q (v.1,v.2,v.3,v.4)).2.2.1 (RR q (v.1,v.2,v.3,v.4)).2.2.2)):Jn v n K:=(Classical.choose_spec exR).2 v n q K hn h1 h
def wds(s:S4)(m:Int):S4:=(xr (RR 2 (s.1,s.2.1,s.2.2.1,xr s.2.2.2 m)).1 m,(RR 2 (s.1,s.2.1,s.2.2.1,xr s.2.2.2 m)).2)
def blks(b:List Int)(k0 k1:Int):Nat->S4
  |0=>s0 k0 k1
  |i+1=>wds (blks b k0 k1 i) ((wv b (8*i) 0 8).toNat:Int)
def fin4(s:S4):S4:=RR 4 (s.1,s.2.1,xr s.2.2.1 255,s.2.2.2)
def endV(s:S4):Int:=xr (xr (xr (fin4 s).1 (fin4 s).2.1) (fin4 s).2.2.1) (fin4 s).2.2.2
def sumV(k0 k1:Int)(b:List Int):Int:=
  endV (wds (blks b k0 k1 (b.length / 8)) ((y6w b).toNat:Int))
theorem y3f{a b c d m:Int}{K:Int->Int->Int->Int->Prop}(h:K (wds (a,b,c,d) m).1 (wds (a,b,c,d) m).2.1 (wds (a,b,c,d) m).2.2.1 (wds (a,b,c,d) m).2.2.2):H5 a b c d m K:=by
  unfold H5 q2z
  simp only[wds,xr] at h
  exact v1p (q:=2) rfl (by decide) h
theorem u0p{s:S4}{K:Int->Prop}(h:K (endV s)):Zy s.1 s.2.1 (Go.IntKind.u64.wrap (↑(BitVec.ofInt 64 s.2.2.1 ^^^ BitVec.ofInt 64 255).toNat:Int)) s.2.2.2 4 fun Zq z2l w6n w9c=>K (Go.IntKind.u64.wrap (↑(BitVec.ofInt 64 (Go.IntKind.u64.wrap (↑(BitVec.ofInt 64 (Go.IntKind.u64.wrap (↑(BitVec.ofInt 64 Zq ^^^ BitVec.ofInt 64 z2l).toNat:Int)) ^^^ BitVec.ofInt 64 w6n).toNat:Int)) ^^^ BitVec.ofInt 64 w9c).toNat:Int)):=by
  simp only[endV,fin4,xr] at h
  exact v1p (q:=4) rfl (by decide) h
theorem y3g{s:S4}{K:Int->Prop}(h:K (endV s)):Jn (Sip.mk s.1 s.2.1 (Go.IntKind.u64.wrap (↑(BitVec.ofInt 64 s.2.2.1 ^^^ BitVec.ofInt 64 255).toNat:Int)) s.2.2.2) 4 fun x=>K (Go.IntKind.u64.wrap (↑(BitVec.ofInt 64 (Go.IntKind.u64.wrap (↑(BitVec.ofInt 64 (Go.IntKind.u64.wrap (↑(BitVec.ofInt 64 x.1 ^^^ BitVec.ofInt 64 x.2).toNat:Int)) ^^^ BitVec.ofInt 64 x.3).toNat:Int)) ^^^ BitVec.ofInt 64 x.4).toNat:Int)):=by
  simp only[endV,fin4,xr] at h
  exact w3d (q:=4) rfl (by decide) h
theorem y3h{a b c d m:Int}{K:Sip->Prop}(h: ∀x:Sip,(Go.IntKind.u64.wrap (↑(BitVec.ofInt 64 x.1 ^^^ BitVec.ofInt 64 m).toNat:Int),x.2,x.3,x.4)=wds (a,b,c,d) m->K x):Jn (Sip.mk a b c (Go.IntKind.u64.wrap (↑(BitVec.ofInt 64 d ^^^ BitVec.ofInt 64 m).toNat:Int))) 2 K:=by
  refine w3d (q:=2) rfl (by decide) (h _ ?_)
  simp only[wds,xr]
theorem u3l(b:List Int)(o:Nat)(v:BitVec 64): ∀k,wv b o v k=wv b o 0 k|||v
  |0=>by simp[wv]
  |k+1=>by
    rw[wv,wv,u3l b o v k,BitVec.or_assoc,BitVec.or_comm v,←BitVec.or_assoc]
theorem v40{b:List Int}{o k:Nat}{v:BitVec 64}{y:Int}(hy:b[o+k]? =some y):wv b o v (k+1)=wv b o v k|||tm y k:=by
  rw[wv,List.getD_eq_getElem?_getD,hy];rfl
theorem u0q(n:Nat):topV n=BitVec.ofInt 64 (Go.IntKind.u64.wrap (Go.IntKind.u64.wrap ((n:Int).tmod 256)*2 ^ Min.min (Int.toNat 56) 64)):=by
  have e:(2:Int) ^ Min.min (Int.toNat 56) 64=72057594037927936:=by decide
  have h2:Go.IntKind.u64.wrap (Go.IntKind.u64.wrap (n:Int)*72057594037927936)=Go.IntKind.u64.wrap (Go.IntKind.u64.wrap ((n:Int).tmod 256)*72057594037927936):=by
    rw[w3c,w3c,w3c,w3c,Int.tmod_eq_emod_of_nonneg (by omega)]
    omega
  unfold topV
  rw[e,h2]
theorem w8l{k0 k1:Int}{b:List Int}{K:Int->Prop}(hb:b.length<=1099511627776)(h:K (sumV k0 k1 b)):z0s k0 k1 b K:=by
  unfold z0s z7j
  refine fun _=>⟨by decide,?_⟩
  refine Lp5.ind (fun i a' b' c' d'=> ∃j:Nat,i=8*(j:Int)/\8*j<=b.length/\(a',b',c',d')=blks b k0 k1 j) (fun i _ _ _ _=>(b.length - i).toNat) ?_ ⟨0,rfl,by omega,rfl⟩
  rintro i a' b' c' d' ⟨j,rfl,hj,hs⟩
  refine⟨by unfold InI;omega,fun _=>Cnd.mk (fun hc=> ?_) fun hc=> ?_⟩
  · refine Lp2.ind (fun v k=> ∃q:Nat,k=(q:Int)/\q<=8/\v=((wv b (8*j) 0 q).toNat:Int)) (fun _ k=>(8 - k).toNat) ?_ ⟨0,rfl,by omega,rfl⟩
    rintro v k ⟨q,rfl,hq,rfl⟩
    refine Cnd.mk (fun hk=>⟨by unfold InI;omega,⟨by omega,by omega⟩,fun y hy=>⟨by unfold InI;omega,by omega,by unfold InI;omega,⟨q+1,by omega,by omega,?_⟩,by omega⟩⟩) fun hk=> ?_
    · rw[show (8*(j:Int)+q).toNat=8*j+q by omega] at hy
      rw[v40 hy,show (8*(q:Int)).toNat=8*q by omega]
      exact y6x _ _
    · refine y3f ⟨by unfold InI;omega,⟨j+1,by omega,by omega,?_⟩,by omega⟩
      rw[hs,show q=8 by omega];rfl
  · refine fun _=>⟨by decide,?_⟩
    have hjl:j=b.length / 8:=by omega
    have hm:((b.length:Nat):Int).tmod 8=((b.length % 8:Nat):Int):=by rw[Int.tmod_eq_emod_of_nonneg (by omega)];omega
    rw[hm]
    refine Lp2.ind (fun v k=> ∃q:Nat,k=(q:Int)/\q<=b.length % 8/\v=((wv b (8*j) (topV b.length) q).toNat:Int)) (fun _ k=>(8 - k).toNat) ?_ ⟨0,rfl,by omega,by unfold wv topV;exact u0o _⟩
    rintro v k ⟨q,rfl,hq,rfl⟩
    refine Cnd.mk (fun hk _ _=>⟨by decide,by unfold InI;omega,by unfold InI;omega,⟨by omega,by omega⟩,fun y hy=>⟨by unfold InI;omega,by omega,by unfold InI;omega,⟨q+1,by omega,by omega,?_⟩,by omega⟩⟩) fun hk=> ?_
    · rw[show ((b.length:Int) - ((b.length % 8:Nat):Int)+q).toNat=8*j+q by omega] at hy
      rw[v40 hy,show (8*(q:Int)).toNat=8*q by omega]
      exact y6x _ _
    · refine y3f (u0p (s:=wds (a',b',c',d') _) ?_)
      rw[hs,show q=b.length % 8 by omega,u3l,hjl]
      exact h
theorem y3i{k0 k1:Int}{b:List Int}{K:Int->Prop}(hb:b.length<=1099511627776)(h:K (sumV k0 k1 b)):j9y k0 k1 b K:=by
  unfold j9y w7h
  have hd:((b.length:Nat):Int).tdiv 8=((b.length / 8:Nat):Int):=by rw[Int.tdiv_eq_ediv_of_nonneg (by omega)];omega
  rw[hd]
  refine Lp5.ind (fun i a' b' c' d'=> ∃j:Nat,i=(j:Int)/\j<=b.length / 8+1/\(j<=b.length / 8->(a',b',c',d')=blks b k0 k1 j)/\(j=b.length / 8+1->(a',b',c',d')=wds (blks b k0 k1 (b.length / 8)) ((y6w b).toNat:Int))) (fun i _ _ _ _=>(b.length / 8+1 - i).toNat) ?_ ⟨0,rfl,by omega,fun _=>rfl,fun h=>by omega⟩
  rintro i a' b' c' d' ⟨j,rfl,hj,hs,hf⟩
  refine fun _=>⟨by decide,by unfold InI;omega,Cnd.mk (fun hc=> ?_) fun hc=> ?_⟩
  · have hs:=hs (by omega)
    have done: ∀q:Nat,(q=8∨q=b.length % 8/\j=b.length / 8)->q<=8->(j<b.length / 8->q=8)->(j=b.length / 8->q=b.length % 8)->Jn1 (fun Qe=>Jn (Sip.mk a' b' c' (Go.IntKind.u64.wrap (↑(BitVec.ofInt 64 d' ^^^ BitVec.ofInt 64 Qe).toNat:Int))) 2 fun Ql=>InI ((j:Int)+1)/\(∃j':Nat,(j:Int)+1=(j':Int)/\j'<=b.length / 8+1/\(j'<=b.length / 8->(Go.IntKind.u64.wrap (↑(BitVec.ofInt 64 Ql.1 ^^^ BitVec.ofInt 64 Qe).toNat:Int),Ql.2,Ql.3,Ql.4)=blks b k0 k1 j')/\(j'=b.length / 8+1->(Go.IntKind.u64.wrap (↑(BitVec.ofInt 64 Ql.1 ^^^ BitVec.ofInt 64 Qe).toNat:Int),Ql.2,Ql.3,Ql.4)=wds (blks b k0 k1 (b.length / 8)) ((y6w b).toNat:Int)))/\((b.length / 8:Nat)+1 - ((j:Int)+1)).toNat<((b.length / 8:Nat)+1 - (j:Int)).toNat) fun v2u=>b.length<=(9223372036854775807:Nat)->(8:Int)≠0/\InI ((b.length / 8:Nat):Int)/\Cnd ((j:Int)=((b.length / 8:Nat):Int)) (b.length<=(9223372036854775807:Nat)->(256:Int)≠0/\(0:Int)<=56/\v2u (Go.IntKind.u64.wrap (↑(BitVec.ofInt 64 ((wv b (8*j) 0 q).toNat:Int)|||BitVec.ofInt 64 (Go.IntKind.u64.wrap (Go.IntKind.u64.wrap ((b.length:Int).tmod 256)*2 ^ Min.min (Int.toNat 56) 64))).toNat:Int))) (v2u ((wv b (8*j) 0 q).toNat:Int)):=fun q _ hq h1 h2=>by
      refine Jn1.mk (fun x=>(j<b.length / 8->x=((wv b (8*j) 0 8).toNat:Int))/\(j=b.length / 8->x=((y6w b).toNat:Int))) (fun _=>⟨by decide,by unfold InI;omega,Cnd.mk (fun he=>fun _=>⟨by decide,by decide,fun _=>by omega,fun hjl=> ?_⟩) fun hne=>⟨fun hl=>by rw[h1 hl],fun he=>by omega⟩⟩) fun x hx=>y3h fun s hsw=>⟨by unfold InI;omega,⟨j+1,by omega,by omega,fun hl=> ?_,fun he=> ?_⟩,by omega⟩
      · rw[←u0q,y6x,h2 hjl,hjl];rfl
      · rw[hsw,hx.1 (by omega),blks,←hs]
      · rw[hsw,hx.2 (by omega),←show j=b.length / 8 by omega,←hs]
    refine Lp2.ind (fun v k=> ∃q:Nat,k=(q:Int)/\q<=8/\(j=b.length / 8->q<=b.length % 8)/\v=((wv b (8*j) 0 q).toNat:Int)) (fun _ k=>(8 - k).toNat) ?_ ⟨0,rfl,by omega,fun _=>by omega,rfl⟩
    rintro v k ⟨q,rfl,hq,hq2,rfl⟩
    refine Cnd.mk (fun hk=>⟨by unfold InI;omega,by unfold InI;omega,fun _=>Cnd.mk (fun hl=>⟨by unfold InI;omega,by unfold InI;omega,⟨by omega,by omega⟩,fun y hy=>⟨by unfold InI;omega,?_,by unfold InI;omega,⟨q+1,by omega,by omega,fun _=>by omega,?_⟩,by omega⟩⟩) fun hl=> ?_⟩) fun hk=> ?_
    · rw[show 8*(q:Int)=((8*q:Nat):Int) by omega,j41 (by omega)];omega
    · rw[show (8*(j:Int)+q).toNat=8*j+q by omega] at hy
      rw[v40 hy,show 8*(q:Int)=((8*q:Nat):Int) by omega,j41 (n:=8*q) (by omega),Int.toNat_natCast]
      exact y6x _ _
    · exact done q (by omega) hq (fun h=>by omega) (fun h=>by omega)
    · exact done q (by omega) hq (fun h=>by omega) (fun h=>by omega)
  · have hf:=hf (by omega)
    unfold sumV at h
    rw[←hf] at h
    exact y3g (s:=(a',b',c',d')) h
def fb(n k:Nat):Int:=Go.IntKind.u8.wrap ((Go.IntKind.u64.wrap (n:Int)).fdiv (2 ^ Min.min (8*k) 64))
def hdr(n:Nat)(j:Nat):List Int:=(List.range j).map fun i=>fb n (7 - i)
def frm(l:List (List Int)):List Int:=l.flatMap fun f=>hdr f.length 8++f
theorem v60(n j:Nat):hdr n (j+1)=hdr n j++[fb n (7 - j)]:=by simp[hdr,List.range_succ]
theorem j2u(n j:Nat):(hdr n j).length=j:=by simp[hdr]
theorem j96{l:List (List Int)}{i:Nat}{y:List Int}(hy:l[i]? =some y):frm (l.take (i+1))=frm (l.take i)++(hdr y.length 8++y):=by
  rw[List.take_add_one,hy];simp[frm]
theorem w3e(l:List (List Int))(i:Nat):(frm (l.take i)).length<=(frm l).length:=by
  have h:frm l=frm (l.take i)++frm (l.drop i):=by
    conv=>lhs;rw[←List.take_append_drop i l]
    exact List.flatMap_append
  rw[h,List.length_append];omega
theorem w3f{l:List (List Int)}{K:List Int->Prop}(hl:(frm l).length<=1000000000)(hn:l.length<=1000)(h:K (frm l)):q47 l K:=by
  unfold q47
  refine fun _=>Lp2.ind (fun o i=> ∃j:Nat,i=(j:Int)/\j<=l.length/\o=frm (l.take j)) (fun _ i=>(l.length - i).toNat) ?_ ⟨0,rfl,by omega,rfl⟩
  rintro o i ⟨j,rfl,hj,rfl⟩
  refine Cnd.mk (fun hc=>⟨by omega,fun y hy=> ?_⟩) fun hc=> ?_
  · have hy:l[j]? =some y:=hy
    have hln:=w3e l (j+1)
    rw[j96 hy] at hln
    simp only[List.length_append,j2u] at hln
    refine Lp2.ind (fun o k=> ∃q:Nat,k=7 - (q:Int)/\q<=8/\o=frm (l.take j)++hdr y.length q) (fun _ k=>(k+1).toNat) ?_ ⟨0,rfl,by omega,by simp[hdr]⟩
    rintro o k ⟨q,rfl,hq,rfl⟩
    refine Cnd.mk (fun hk _=>⟨by unfold InI;omega,by omega,?_,by unfold InI;omega,⟨q+1,by omega,by omega,?_⟩,by omega⟩) fun hk=>⟨?_,by unfold InI;omega,⟨j+1,by omega,by omega,?_⟩,by omega⟩
    · unfold Sml;simp only[List.length_append,j2u,List.length_singleton];omega
    · rw[v60,←List.append_assoc,show (8*(7 - (q:Int))).toNat=8*(7 - q) by omega];rfl
    · unfold Sml;simp only[List.length_append,j2u];omega
    · rw[j96 hy,show q=8 by omega,List.append_assoc]
  · rw[show j=l.length by omega,List.take_length];exact h
theorem v41{l:List (List Int)}{K:List Int->Prop}(hl:(frm l).length<=1000000000)(hn:l.length<=1000)(h:K (frm l)):z9u l K:=by
  unfold z9u
  refine Lp2.ind (fun o i=> ∃j:Nat,i=(j:Int)/\j<=l.length/\o=frm (l.take j)) (fun _ i=>(l.length - i).toNat) ?_ ⟨0,rfl,by omega,rfl⟩
  rintro o i ⟨j,rfl,hj,rfl⟩
  refine fun _=>Cnd.mk (fun hc=>⟨by omega,fun y hy _=> ?_⟩) fun hc=> ?_
  · have hy:l[j]? =some y:=hy
    have hln:=w3e l (j+1)
    rw[j96 hy] at hln
    simp only[List.length_append,j2u] at hln
    refine Lp2.ind (fun o k=> ∃q:Nat,k=56 - 8*(q:Int)/\q<=8/\o=frm (l.take j)++hdr y.length q) (fun _ k=>(k+8).toNat) ?_ ⟨0,rfl,by omega,by simp[hdr]⟩
    rintro o k ⟨q,rfl,hq,rfl⟩
    refine Cnd.mk (fun hk=> ?_) fun hk=>⟨by omega,fun z hz=> ?_⟩
    · have e:56 - 8*(q:Int)=((8*(7 - q):Nat):Int):=by omega
      rw[e,j41 (by omega)]
      refine⟨by omega,?_,by unfold InI;omega,⟨q+1,by omega,by omega,?_⟩,by omega⟩
      · unfold Sml;simp only[List.length_append,j2u,List.length_singleton];omega
      · rw[v60,←List.append_assoc,Int.toNat_natCast];rfl
    · have hz:l[j]? =some z:=hz
      rw[hy] at hz
      cases hz
      refine⟨?_,by unfold InI;omega,⟨j+1,by omega,by omega,?_⟩,by omega⟩
      · unfold Sml;simp only[List.length_append,j2u];omega
      · rw[j96 hy,show q=8 by omega,List.append_assoc]
  · rw[show j=l.length by omega,List.take_length];exact h
theorem y3j(a b:Int):0<=xr a b/\xr a b<18446744073709551616:=by
  unfold xr
  rw[j41 (BitVec.isLt _)]
  have:=(BitVec.ofInt 64 a ^^^ BitVec.ofInt 64 b).isLt
  omega
def ofV0(salt key:ByteArray):Int:=(sumV 1 0 (frm [bytesOf salt,bytesOf key])).tmod 10000
theorem w8m(salt key:ByteArray):0<=ofV0 salt key/\ofV0 salt key<10000:=by
  have h: ∀s,0<=endV s:=fun s=>(y3j _ _).1
  have h0:0<=sumV 1 0 (frm [bytesOf salt,bytesOf key]):=h _
  exact⟨Int.tmod_nonneg _ h0,Int.tmod_lt_of_pos _ (by decide)⟩
theorem v61(a b:ByteArray):(frm [bytesOf a,bytesOf b]).length=a.size+b.size+16:=by
  have h: ∀a:ByteArray,(bytesOf a).length=a.size:=fun a=>by simp[bytesOf]
  simp only[frm,List.flatMap_cons,List.flatMap_nil,List.length_append,j2u,h,List.length_nil]
  omega
theorem w8n{salt key:ByteArray}{K:Int->Prop}(hs:salt.size<=10000000)(hk:key.size<=10000000)(h:K (ofV0 salt key)):Gx salt key K:=by
  have hl:=v61 salt key
  have hr:=w8m salt key
  unfold Gx j1x
  refine⟨by unfold Sml;omega,by unfold Sml;omega,?_⟩
  show q7r 1 [bytesOf salt,bytesOf key] _
  unfold q7r z4p
  refine w3f (by omega) (by simp) (w8l (by omega) ⟨by decide,?_,h⟩)
  exact InI.mk (Int.le_trans (by decide) hr.1) (Int.le_trans (Int.le_of_lt hr.2) (by decide))
theorem v9d{salt key:ByteArray}{K:Int->Prop}(hs:salt.size<=10000000)(hk:key.size<=10000000)(h:K (ofV0 salt key)):z4x salt key K:=by
  have hl:=v61 salt key
  have hr:=w8m salt key
  unfold z4x w7i
  refine⟨by unfold Sml;omega,by unfold Sml;omega,?_⟩
  show j37 1 [bytesOf salt,bytesOf key] _
  unfold j37 w1i
  refine v41 (by omega) (by simp) (y3i (by omega) ⟨by decide,?_,h⟩)
  exact InI.mk (Int.le_trans (by decide) hr.1) (Int.le_trans (Int.le_of_lt hr.2) (by decide))
theorem exOf: ∃F:ByteArray->ByteArray->Int,(∀a b,0<=F a b/\F a b<10000)/\(∀(salt key:ByteArray) (K:Int->Prop),salt.size<=10000000->key.size<=10000000->K (F salt key)->Gx salt key K)/\
    ∀(salt key:ByteArray) (K:Int->Prop),salt.size<=10000000->key.size<=10000000->K (F salt key)->z4x salt key K:=
  ⟨ofV0,w8m,fun _ _ _ h1 h2 h=>w8n h1 h2 h,fun _ _ _ h1 h2 h=>v9d h1 h2 h⟩
def ofV:ByteArray->ByteArray->Int:=Classical.choose exOf
theorem y3k(salt key:ByteArray):0<=ofV salt key/\ofV salt key<10000:=(Classical.choose_spec exOf).1 salt key
theorem q6k{salt key:ByteArray}{K:Int->Prop}(hs:salt.size<=10000000)(hk:key.size<=10000000)(h:K (ofV salt key)):Gx salt key K:=(Classical.choose_spec exOf).2.1 salt key K hs hk h
theorem w3g{salt key:ByteArray}{K:Int->Prop}(hs:salt.size<=10000000)(hk:key.size<=10000000)(h:K (ofV salt key)):z4x salt key K:=(Classical.choose_spec exOf).2.2 salt key K hs hk h
end Go.En
end
noncomputable section
set_option maxRecDepth 100000
namespace Go.En
open Go Go.Fl Go.Fl.Lk Go.Fx
theorem w6f{α:Type}{a b:List α}(hl:a.length=b.length){F:α->α->(Bool->Prop)->Prop}{K:Bool->Prop}(hF: ∀x∈a,∀y∈b,∀K:Bool->Prop,(∀r,(r=true↔x=y)->K r)->F x y K)(h: ∀r,(r=true↔a=b)->K r):
  Lp1 (fun i Y=>a.length<=9223372036854775807->Cnd (i<(a.length:Int)) ((0<=i/\i<(a.length:Int))/\ ∀x,a[i.toNat]? =some x->(0<=i/\i<(b.length:Int))/\ ∀y,b[i.toNat]? =some y->F x y fun r=>Cnd (r=true) (InI (i+1)/\Y (i+1)) (K false)) (K true)) 0:=by
 refine Lp1.ind (fun (i:Int)=>0<=i/\i<=a.length/\a.take i.toNat=b.take i.toNat) (fun (i:Int)=>(a.length - i).toNat) ?_ ⟨by omega,by omega,by simp⟩
 rintro i ⟨i0,i1,he⟩ _
 refine Cnd.mk (fun hc=>⟨by omega,fun x hx=>⟨by omega,fun y hy=>hF x (getm hx) y (getm hy) _ fun r hr=>Cnd.mk (fun hc=>⟨by unfold InI;omega,⟨by omega,by omega,?_⟩,by omega⟩) fun hc=>h _ ⟨fun h=>(by cases h),fun h=> ?_⟩⟩⟩) fun hc=>h _ ⟨fun _=> ?_,fun _=>rfl⟩
 ·rw[show (i+1).toNat=i.toNat+1 by omega,List.take_add_one,List.take_add_one,he,hx,hy,hr.1 hc]
 ·subst h;rw[hx] at hy;exact absurd (hr.2 (by cases hy;rfl)) hc
 ·rwa [List.take_of_length_le (by omega),List.take_of_length_le (by omega)] at he
theorem v9e{a b:List ByteArray}{K:Bool->Prop}(h: ∀r,(r=true↔a=b)->K r):j3u a b K:=by
 unfold j3u
 intro ha hb
 refine Cnd.mk (fun hl=> ?_) fun hl=>h _ ⟨fun h=>(by cases h),fun e=>by rw[e] at hl;exact absurd rfl hl⟩
 refine Lp1.ind (fun (i:Int)=>0<=i/\i<=a.length/\a.take i.toNat=b.take i.toNat) (fun (i:Int)=>(a.length - i).toNat) ?_ ⟨by omega,by omega,by simp⟩
 rintro i ⟨i0,i1,he⟩ _
 refine Cnd.mk (fun hc=>⟨by omega,fun x hx=>⟨by omega,fun y hy=>Cnd.mk (fun hc=>⟨by unfold InI;omega,⟨by omega,by omega,?_⟩,by omega⟩) fun hc=>h _ ⟨fun h=>(by cases h),fun h=> ?_⟩⟩⟩) fun hc=>h _ ⟨fun _=> ?_,fun _=>rfl⟩
 ·rw[show (i+1).toNat=i.toNat+1 by omega,List.take_add_one,List.take_add_one,he,hx,hy,hc]
 ·subst h;rw[hx] at hy;cases hy;exact absurd rfl hc
 ·rwa [List.take_of_length_le (by omega),List.take_of_length_le (by omega)] at he
theorem Hq{l:List ByteArray}{s:ByteArray}{K:Bool->Prop}(h: ∀r,(r=true↔s∈l)->K r):Gj l s K:=by
 unfold Gj
 refine Lp1.ind (fun (i:Int)=>0<=i/\i<=l.length/\s∉l.take i.toNat) (fun (i:Int)=>(l.length - i).toNat) ?_ ⟨by omega,by omega,by simp⟩
 rintro i ⟨i0,i1,he⟩ _
 refine Cnd.mk (fun hc=>⟨by omega,fun x hx=>Cnd.mk (fun e=>h _ ⟨fun _=>e▸getm hx,fun _=>rfl⟩) fun e=>⟨by unfold InI;omega,⟨by omega,by omega,?_⟩,by omega⟩⟩) fun hc=>h _ ⟨fun h=>(by cases h),fun hm=> ?_⟩
 ·rw[show (i+1).toNat=i.toNat+1 by omega,List.take_add_one,hx];simp[he,Ne.symm e]
 ·rw[List.take_of_length_le (by omega)] at he;exact absurd hm he
theorem j2v{a b:Val}{K:Bool->Prop}(h: ∀r,(r=true↔a=b)->K r):q8m a b K:=by
 unfold q8m j6a
 have no:(a≠b)->K false:=fun hn=>h _ ⟨fun h=>(by cases h),fun e=>absurd e hn⟩
 refine Cnd.mk (fun h1=>Cnd.mk (fun h2=>Cnd.mk (fun h3=>v9e fun r hr=>h r (hr.trans ⟨fun h4=> ?_,fun e=>by rw[e]⟩)) fun h=>no fun e=>h (by rw[e])) fun h=>no fun e=>h (by rw[e])) fun h=>no fun e=>h (by rw[e])
 cases a;cases b;simp_all
theorem j88{a b:List Val}{K:Bool->Prop}(h: ∀r,(r=true↔a=b)->K r):Uv a b K:=by
 unfold Uv q82
 intro ha hb
 exact Cnd.mk (fun hl=>w6f (by omega) (fun x _ y _ K hK=>j2v hK) h) fun hl=>h _ ⟨fun h=>(by cases h),fun e=>by rw[e] at hl;exact absurd rfl hl⟩
theorem Z4{e:Ex}:Ex.mk e.op e.kind e.name e.values e.kids=e:=by cases e;rfl
theorem w46: ∀(n:Nat) {a b:Ex} {K:Bool->Prop},ExS n a->(∀r,(r=true↔a=b)->K r)->q18 a b K:=by
 intro n a b K ha h X hX
 induction n using Nat.strongRecOn generalizing a b K with
 |_ n ih=>
 refine hX _ _ _ ?_
 unfold z35
 have no:(a≠b)->K false:=fun hn=>h _ ⟨fun h=>(by cases h),fun e=>absurd e hn⟩
 refine Cnd.mk (fun h1=>Cnd.mk (fun h2=>Cnd.mk (fun h3=>j88 fun r hr=>Cnd.mk (fun hc _ _=>Cnd.mk (fun hl=> ?_) fun h=>no fun e=>h (by rw[e])) fun hc=>no fun e=>hc (hr.2 (by rw[e]))) fun h=>no fun e=>h (by rw[e])) fun h=>no fun e=>h (by rw[e])) fun h=>no fun e=>h (by rw[e])
 have h4:=hr.1 hc
 refine w6f (by omega) (fun x hx y _ K hK=> ?_) fun r hr=>h r (hr.trans ⟨fun h5=> ?_,fun e=>by rw[e]⟩)
 ·obtain⟨m,hm,hk⟩:=ha.kid hx
  rw[Z4,Z4]
  exact ih m (by omega) hk hK
 ·cases a;cases b;simp_all
theorem w3h(n:Nat){a b:Ex}{K:Bool->Prop}(ha:ExS n a)(h: ∀r,(r=true↔a=b)->K r):q18 (Ex.mk a.1 a.2 a.3 a.4 a.5) (Ex.mk b.1 b.2 b.3 b.4 b.5) K:=by
 rw[Z4,Z4];exact w46 n ha h
theorem j76{n:Nat}{l:List Ex}{e:Ex}{K:Int->Prop}(hl: ∀x∈l,ExS n x)(h: ∀r:Int,(r= -1/\e∉l)∨(0<=r/\l[r.toNat]? =some e/\e∉l.take r.toNat)->K r):Uk l e K:=by
 unfold Uk j1l
 refine Lp1.ind (fun (i:Int)=>0<=i/\i<=l.length/\e∉l.take i.toNat) (fun (i:Int)=>(l.length - i).toNat) ?_ ⟨by omega,by omega,by simp⟩
 rintro i ⟨i0,i1,he⟩ _
 refine Cnd.mk (fun hc=>⟨by omega,fun x hx=>w3h n (hl x (getm hx)) fun r hr=>Cnd.mk (fun hc=>h _ (.inr ⟨i0,by rw[hx,hr.1 hc],he⟩)) fun hc=>⟨by unfold InI;omega,⟨by omega,by omega,?_⟩,by omega⟩⟩) fun hc=>h _ (.inl ⟨rfl,?_⟩)
 ·rw[show (i+1).toNat=i.toNat+1 by omega,List.take_add_one,hx]
  have:e≠x:=fun e=>hc (hr.2 e.symm)
  simp[he,this]
 ·rwa [List.take_of_length_le (by omega)] at he
theorem q1x{op:Int}{K:Bool->Prop}(h: ∀r,(r=true↔6<=op/\op<=15)->K r):J5 op K:=by
 unfold J5
 exact Cnd.mk (fun h6=>h _ ⟨fun a=>⟨h6,of_decide_eq_true a⟩,fun a=>decide_eq_true a.2⟩) fun h6=>h _ ⟨fun a=>(by cases a),fun a=>absurd a.1 h6⟩
theorem v42{now:Int}{K:Bool->Prop}(h: ∀r,(r=true↔0<=now/\now<=1099511627776)->K r):z9g now K:=by
 unfold z9g
 exact Cnd.mk (fun h6=>h _ ⟨fun a=>⟨h6,of_decide_eq_true a⟩,fun a=>decide_eq_true a.2⟩) fun h6=>h _ ⟨fun a=>(by cases a),fun a=>absurd a.1 h6⟩
theorem v1q{α:Type}{l:List α}{f:α->ByteArray}{key:ByteArray}{K:Int->Prop}(h: ∀r:Int,(r= -1/\ ∀x∈l,f x≠key)∨(0<=r/\r<l.length/\(∃x,l[r.toNat]? =some x/\f x=key)/\ ∀x∈l.take r.toNat,f x≠key)->K r):
  Lp1 (fun i Y=>l.length<=9223372036854775807->Cnd (i<(l.length:Int)) ((0<=i/\i<(l.length:Int))/\ ∀y,l[i.toNat]? =some y->Cnd (f y=key) (K i) (InI (i+1)/\Y (i+1))) (K (-1))) 0:=by
 refine Lp1.ind (fun (i:Int)=>0<=i/\i<=l.length/\ ∀x∈l.take i.toNat,f x≠key) (fun (i:Int)=>(l.length - i).toNat) ?_ ⟨by omega,by omega,by simp⟩
 rintro i ⟨i0,i1,he⟩ _
 refine Cnd.mk (fun hc=>⟨by omega,fun x hx=>Cnd.mk (fun e=>h _ (.inr ⟨i0,hc,⟨x,hx,e⟩,he⟩)) fun e=>⟨by unfold InI;omega,⟨by omega,by omega,?_⟩,by omega⟩⟩) fun hc=>h _ (.inl ⟨rfl,?_⟩)
 ·rw[show (i+1).toNat=i.toNat+1 by omega,List.take_add_one,hx]
  exact Zw he e
 ·rwa [List.take_of_length_le (by omega)] at he
def PlcS{α:Type}(l:List α)(f:α->ByteArray)(key:ByteArray)(r:Int):Prop:=(r= -1/\ ∀x∈l,f x≠key)∨(0<=r/\r<l.length/\(∃x,l[r.toNat]? =some x/\f x=key)/\ ∀x∈l.take r.toNat,f x≠key)
theorem z2h{v:Envt}{key:ByteArray}{K:Int->Prop}(h: ∀r,PlcS v.layers Lay_.key key r->K r):V7 v key K:=v1q h
theorem z5q{v:Envt}{key:ByteArray}{K:Int->Prop}(h: ∀r,PlcS v.flags Flg.key key r->K r):q56 v key K:=v1q h
theorem q4v{l:List Spn}{K:List Bool->Prop}(h: ∀b:List Bool,b.length=10000->K b):q86 l K:=by
 unfold q86
 refine⟨⟨by decide,Int.le_refl _,by unfold Sml;decide⟩,Lp2.ind (fun (i:Int) (b:List Bool)=>0<=i/\i<=l.length/\b.length=10000) (fun (i:Int) _=>(l.length - i).toNat) ?_ ⟨by omega,by omega,by rw[List.length_replicate];decide⟩⟩
 rintro i b ⟨i0,i1,hb⟩ _
 refine Cnd.mk (fun hc=>⟨by omega,fun y hy=> ?_⟩) fun _=>h b hb
 refine Lp2.ind (fun (j:Int) (b:List Bool)=>0<=j/\b.length=10000) (fun (j:Int) _=>(10000 - j).toNat) ?_ ⟨by omega,hb⟩
 rintro j b ⟨j0,hb⟩
 refine⟨by omega,fun z hz=>Cnd.mk (fun hc=>⟨by omega,fun u hu=>⟨by unfold InI;omega,⟨by omega,by simpa using hb⟩,by omega⟩⟩) fun _=>⟨by unfold InI;omega,⟨by omega,by omega,hb⟩,by omega⟩⟩
theorem q6l{b:List Bool}{K:List Spn->Prop}(hb:b.length<=10000)(h: ∀l,SpsS l->K l):Ri b K:=by
 unfold Ri
 refine Lp2.ind (fun (l:List Spn) (i:Int)=>0<=i/\i<=b.length/\l.length<=i/\(∀s∈l,0<=s.lo/\s.lo<s.hi/\s.hi<=i)/\(0<i->b[(i - 1).toNat]? =some true->l≠[])) (fun _ (i:Int)=>(b.length - i).toNat) ?_ ⟨by omega,by omega,by simp,by simp,by omega⟩
 rintro l i ⟨i0,i1,hl,hs,hn⟩ _
 refine Cnd.mk (fun hc=>⟨by omega,fun y hy=>Cnd.mk (fun ht=> ?_) fun hf=> ?_⟩) fun _=>h l ⟨by omega,fun s hm=>by have:=hs s hm;omega⟩
 ·have snoc:InI (i+1)/\Sml (l++[Spn.mk i (i+1)]).length/\InI (i+1)/\((0<=i+1/\i+1<=b.length/\((l++[Spn.mk i (i+1)]).length:Int)<=i+1/\(∀s∈l++[Spn.mk i (i+1)],0<=s.lo/\s.lo<s.hi/\s.hi<=i+1)/\(0<i+1->b[(i+1 - 1).toNat]? =some true->l++[Spn.mk i (i+1)]≠[]))/\(b.length - (i+1)).toNat<(b.length - i).toNat):=
   ⟨by unfold InI;omega,by unfold Sml;simp;omega,by unfold InI;omega,⟨by omega,by omega,by simp;omega,Zw (fun s hm=>by have:=hs s hm;omega) ⟨i0,by simp only;omega,by simp⟩,fun _ _=>by simp⟩,by omega⟩
  refine Cnd.mk (fun hp=>⟨by unfold InI;omega,by omega,fun z hz=>Cnd.mk (fun hz1=> ?_) fun _=>snoc⟩) fun _=>snoc
  have hne:=hn hp (by rw[hz,hz1])
  have hpos:0<l.length:=List.length_pos_iff.2 hne
  refine fun _=>⟨by unfold InI;omega,by unfold InI;omega,by omega,fun u hu=>⟨by unfold InI;omega,⟨by omega,by omega,by simp;omega,fun s hm=> ?_,fun _ _ hx=> ?_⟩,by omega⟩⟩
  ·have:=hs u (getm hu)
   rcases List.mem_or_eq_of_mem_set hm with hm|rfl
   ·have:=hs s hm;omega
   ·exact⟨this.1,by simp only;omega,by simp⟩
  ·exact hne (by rw[←List.length_eq_zero_iff] at hx⊢;simpa using hx)
 ·refine⟨by unfold InI;omega,⟨by omega,by omega,by omega,fun s hm=>by have:=hs s hm;omega,fun _ hx=> ?_⟩,by omega⟩
  rw[show (i+1 - 1).toNat=i.toNat by omega,hy] at hx
  cases hx;exact absurd rfl hf
theorem z6k{l:List Col}{now:Int}{K:List Int->Prop}(h: ∀b:List Int,b.length=10000->K b):q2c l now K:=by
 unfold q2c
 refine⟨⟨by decide,Int.le_refl _,by unfold Sml;decide⟩,Lp2.ind (fun (i:Int) (b:List Int)=>0<=i/\i<=10000/\b.length=10000) (fun (i:Int) _=>(10000 - i).toNat) ?_ ⟨by omega,by omega,by rw[List.length_replicate];decide⟩⟩
 rintro i b ⟨i0,i1,hb⟩ _
 refine Cnd.mk (fun hc=>⟨by omega,fun y hy=>⟨by unfold InI;omega,⟨by omega,by omega,by simpa using hb⟩,by omega⟩⟩) fun _=> ?_
 refine Lp2.ind (fun (i:Int) (b:List Int)=>0<=i/\i<=l.length/\b.length=10000) (fun (i:Int) _=>(l.length - i).toNat) ?_ ⟨by omega,by omega,hb⟩
 rintro i b ⟨i0,i1,hb⟩ _
 refine Cnd.mk (fun hc=>⟨by omega,fun y hy=> ?_⟩) fun _=>h b hb
 refine Lp2.ind (fun (j:Int) (b:List Int)=>0<=j/\b.length=10000) (fun (j:Int) _=>(10000 - j).toNat) ?_ ⟨by omega,hb⟩
 rintro j b ⟨j0,hb⟩
 refine⟨by omega,fun z hz=>Cnd.mk (fun hc=>⟨by omega,fun u hu=>⟨by omega,fun w hw=>⟨by omega,fun x hx=>⟨by unfold InI;omega,⟨by omega,by simpa using hb⟩,by omega⟩⟩⟩⟩) fun _=>⟨by unfold InI;omega,⟨by omega,by omega,hb⟩,by omega⟩⟩
theorem z8l{u:List Int}{now:Int}{K:List Spn->Prop}(hu:u.length<=10000)(h: ∀l,SpsS l->K l):z36 u now K:=by
 unfold z36 j1m
 refine fun _=>⟨⟨by omega,Int.le_refl _,by unfold Sml;omega⟩,Lp2.ind (fun (i:Int) (b:List Bool)=>0<=i/\i<=u.length/\b.length=u.length) (fun (i:Int) _=>(u.length - i).toNat) ?_ ⟨by omega,by omega,by simp⟩⟩
 rintro i b ⟨i0,i1,hb⟩ _
 exact Cnd.mk (fun hc=>⟨by omega,fun y hy=>⟨by omega,fun z hz=>⟨by unfold InI;omega,⟨by omega,by omega,by simpa using hb⟩,by omega⟩⟩⟩) fun _=>q6l (by omega) h
theorem z1a{a b:List Spn}{K:List Spn->Prop}(h: ∀l,SpsS l->K l):z38 a b K:=by
 unfold z38 j1n
 refine q4v fun x hx=>q4v fun y hy=>Lp2.ind (fun (i:Int) (b:List Bool)=>0<=i/\i<=10000/\b.length=10000) (fun (i:Int) _=>(10000 - i).toNat) ?_ ⟨by omega,by omega,hx⟩
 rintro i b ⟨i0,i1,hb⟩ _
 exact Cnd.mk (fun hc=>⟨by omega,fun y hy=>Cnd.mk (fun _=>⟨by omega,fun _ _=>⟨by unfold InI;omega,⟨by omega,by omega,by simpa using hb⟩,by omega⟩⟩) fun _=>⟨by omega,fun _ _=>⟨by omega,fun _ _=>⟨by unfold InI;omega,⟨by omega,by omega,by simpa using hb⟩,by omega⟩⟩⟩⟩) fun _=>q6l (by omega) h
theorem j77{a b:List Spn}{K:List Spn->Prop}(h: ∀l,SpsS l->K l):q89 a b K:=by
 unfold q89 j1p
 refine q4v fun x hx=>q4v fun y hy=>Lp2.ind (fun (i:Int) (b:List Bool)=>0<=i/\i<=10000/\b.length=10000) (fun (i:Int) _=>(10000 - i).toNat) ?_ ⟨by omega,by omega,hx⟩
 rintro i b ⟨i0,i1,hb⟩ _
 exact Cnd.mk (fun hc=>⟨by omega,fun y hy=>Cnd.mk (fun _=>⟨by omega,fun _ _=>⟨by omega,fun _ _=>⟨by unfold InI;omega,⟨by omega,by omega,by simpa using hb⟩,by omega⟩⟩⟩) fun _=>⟨by omega,fun _ _=>⟨by unfold InI;omega,⟨by omega,by omega,by simpa using hb⟩,by omega⟩⟩⟩) fun _=>q6l (by omega) h
theorem w8o{a b:List Spn}{K:List Spn->Prop}(h: ∀l,SpsS l->K l):z0p a b K:=by
 unfold z0p z7f
 refine q4v fun x hx=>q4v fun y hy=>Lp2.ind (fun (i:Int) (b:List Bool)=>0<=i/\i<=10000/\b.length=10000) (fun (i:Int) _=>(10000 - i).toNat) ?_ ⟨by omega,by omega,hx⟩
 rintro i b ⟨i0,i1,hb⟩ _
 exact Cnd.mk (fun hc=>⟨by omega,fun y hy=>Cnd.mk (fun _=>⟨by omega,fun _ _=>⟨by omega,fun _ _=>⟨by unfold InI;omega,⟨by omega,by omega,by simpa using hb⟩,by omega⟩⟩⟩) fun _=>⟨by omega,fun _ _=>⟨by unfold InI;omega,⟨by omega,by omega,by simpa using hb⟩,by omega⟩⟩⟩) fun _=>q6l (by omega) h
theorem v1r{a:List Spn}{n:Int}{K:List Spn->Prop}(hn: -1000000<=n/\n<=1000000)(h: ∀l,SpsS l->K l):z4a a n K:=by
 unfold z4a j1q
 refine q4v fun x hx=>Lp3.ind (fun (m i:Int) (b:List Bool)=>0<=i/\i<=10000/\b.length=10000/\ -1000000 - i<=m/\m<=1000000) (fun _ (i:Int) _=>(10000 - i).toNat) ?_ ⟨by omega,by omega,hx,by omega,by omega⟩
 rintro m i b ⟨i0,i1,hb,m0,m1⟩ _
 refine Cnd.mk (fun hc=>⟨by omega,fun y hy=> ?_⟩) fun _=>q6l (by omega) h
 have step:(0<=i/\i<(b.length:Int))/\ ∀y5,b[i.toNat]? =some y5->Cnd (y5=true) (InI (m - 1)/\InI (i+1)/\((0<=i+1/\i+1<=10000/\b.length=10000/\ -1000000 - (i+1)<=m - 1/\m - 1<=1000000)/\(10000 - (i+1)).toNat<(10000 - i).toNat)) (InI (i+1)/\((0<=i+1/\i+1<=10000/\b.length=10000/\ -1000000 - (i+1)<=m/\m<=1000000)/\(10000 - (i+1)).toNat<(10000 - i).toNat)):=
  ⟨by omega,fun _ _=>Cnd.mk (fun _=>⟨by unfold InI;omega,by unfold InI;omega,by omega,by omega⟩) fun _=>⟨by unfold InI;omega,by omega,by omega⟩⟩
 exact Cnd.mk (fun _=>Cnd.mk (fun _=>⟨by omega,fun _ _=>⟨by unfold InI;omega,⟨by omega,by omega,by simpa using hb,by omega,by omega⟩,by omega⟩⟩) fun _=>step) fun _=>step
theorem u0r(n:Int):0<=Go.IntKind.u8.wrap n/\Go.IntKind.u8.wrap n<=255:=by
 have e:Go.IntKind.u8.wrap n=n % 256:=rfl
 rw[e];omega
theorem v9f{s:ByteArray}{K:Bool->Prop}(hs:s.size<=1000)(h: ∀r,K r):j3y s K:=by
 unfold j3y
 refine Lp1.ind (fun (i:Int)=>0<=i/\i<=s.size) (fun (i:Int)=>(s.size - i).toNat) ?_ ⟨by omega,by omega⟩
 rintro i ⟨i0,i1⟩
 (repeat' (first|exact h _|assumption|(unfold InI;omega)|omega|refine Cnd.mk (fun _=> ?_) fun _=> ?_|refine⟨?_,?_⟩|intro _))
theorem v9g{e:Ex}{K:Bool->Prop}(h: ∀r,K r):j30 e K:=by
 unfold j30
 (repeat' (first|exact h _|assumption|(unfold InI;omega)|omega|refine Cnd.mk (fun _=> ?_) fun _=> ?_|refine⟨?_,?_⟩|intro _))
theorem v1s{e:Ex}{K:Bool->Prop}(h: ∀r:Bool,(r=true->9<=e.op->e.op<=11->e.values≠[])->K r):z4d e K:=by
 unfold z4d j1r
 intro _ _
 refine Jn2.mk (fun _ v=>v=true->9<=e.op->e.op<=11->e.values.length=1) ?_ fun k v hv=> ?_
 ·refine Cnd.mk (fun _ _ _ _ _=>by omega) fun _=>Cnd.mk (fun _ _ _ _ _=>by omega) fun _=>Cnd.mk (fun _ _ _ _ _=>by omega) fun _=>Cnd.mk (fun _ _ _ _ _=>by omega) fun _=>q1x fun r hr=>Cnd.mk (fun _=>Cnd.mk (fun _ _ _ _=>by omega) fun _ _ hd _ _=>by have:=of_decide_eq_true hd;omega) fun hc _ h1 h2=>absurd (hr.2 ⟨by omega,by omega⟩) hc
 ·have no:K false:=h _ fun h=>by cases h
  refine q1x fun r _=>Cnd.mk (fun _=>Cnd.mk (fun hv'=> ?_) fun _=>no) fun _=>no
  have yes: ∀r,K r:=fun r=>h r fun _ h1 h2 hn=>by have:=hv hv' h1 h2;rw[hn] at this;cases this
  (repeat' (first|exact yes _|exact no|assumption|(unfold InI;omega)|omega|refine Cnd.mk (fun _=> ?_) fun _=> ?_|refine⟨?_,?_⟩|intro _))
theorem v43{v:Val}{K:Bool->Prop}(h: ∀r,K r):q8n v K:=by
 unfold q8n
 (repeat' (first|exact h _|assumption|(unfold InI;omega)|omega|refine Cnd.mk (fun _=> ?_) fun _=> ?_|refine⟨?_,?_⟩|intro _))
theorem w3i{l:List Rng}{n:Int}{K:Int->Prop}(h: ∀r,0<=r->r<=100->K r):z2y l n K:=by
 unfold z2y
 intro _
 refine Cnd.mk (fun _=>h _ (by omega) (by omega)) fun _=> ?_
 refine Lp2.ind (fun _ (i:Int)=>0<=i/\i<=l.length) (fun _ (i:Int)=>(l.length - i).toNat) ?_ ⟨by omega,by omega⟩
 rintro a i ⟨i0,i1⟩
 (repeat' (first|exact h _ (by omega) (by omega)|assumption|(unfold InI;omega)|omega|refine Cnd.mk (fun _=> ?_) fun _=> ?_|refine⟨?_,?_⟩|intro _))
theorem v44{l:List Spn}{K:Int->Prop}(h: ∀r,0<=r->r<=100->K r):z9q l K:=by
 unfold z9q
 intro _
 refine Cnd.mk (fun _=>h _ (by omega) (by omega)) fun _=> ?_
 refine Lp1.ind (fun (i:Int)=>0<=i/\i<=l.length) (fun (i:Int)=>(l.length - i).toNat) ?_ ⟨by omega,by omega⟩
 rintro i ⟨i0,i1⟩
 (repeat' (first|exact h _ (by omega) (by omega)|assumption|(unfold InI;omega)|omega|refine Cnd.mk (fun _=> ?_) fun _=> ?_|refine⟨?_,?_⟩|intro _))
theorem v1t{α:Type}{l:List α}{f:α->ByteArray}{K:List ByteArray->Prop}(hl:l.length<=1000000)(h:K (l.map f)):
  Lp2 (fun (r:List ByteArray) (i:Int) Y=>l.length<=9223372036854775807->Cnd (i<(l.length:Int)) ((0<=i/\i<(l.length:Int))/\ ∀y,l[i.toNat]? =some y->Sml (r++[f y]).length/\InI (i+1)/\Y (r++[f y]) (i+1)) (K r)) [] 0:=by
 refine Lp2.ind (fun (r:List ByteArray) (i:Int)=>0<=i/\i<=l.length/\r=(l.take i.toNat).map f) (fun _ (i:Int)=>(l.length - i).toNat) ?_ ⟨Int.le_refl 0,by omega,by simp⟩
 rintro r i ⟨i0,i1,rfl⟩ _
 refine Cnd.mk (fun hc=>⟨by omega,fun y hy=>⟨by unfold Sml;simp;omega,by unfold InI;omega,⟨by omega,by omega,?_⟩,by omega⟩⟩) fun hc=> ?_
 ·rw[show (i+1).toNat=i.toNat+1 by omega,List.take_add_one,hy];simp
 ·rw[List.take_of_length_le (by omega)];exact h
theorem z5r{l:List Seg}{K:List ByteArray->Prop}(hl:l.length<=1000000)(h:K (l.map Seg.key)):q8p l K:=v1t hl h
theorem y6y{i:Nat}:(29:Int)*10 ^ (i+1)=10*(29*10 ^ i):=by rw[Int.pow_succ];omega
theorem j7h{s:ByteArray}{K:Int->Int->Prop}(hs:s.size<=1000)(h: ∀n e,InI n->0<=e->e<=100->K n e):Wq s K:=by
 unfold Wq
 refine Jn1.mk (fun d=>d.size<=1000) ?_ fun d hd=> ?_
 ·(repeat' (first|(show (s.extract _ _).size<=1000;rw[ByteArray.size_extract];omega)|assumption|(unfold InI;omega)|omega|refine Cnd.mk (fun _=> ?_) fun _=> ?_|refine⟨?_,?_⟩|intro _))
 refine Lp1.ind (fun (i:Int)=>0<=i/\i<=d.size) (fun (i:Int)=>(d.size - i).toNat) ?_ ⟨by omega,by omega⟩
 rintro i ⟨i0,i1⟩
 have fin:d.size<=13->Lp2 (fun (Qe Js:Int) w9d=>Cnd (Js<(↑d.size:Int)) (InI ((10:Int)*Qe)/\((0:Int)<=Js/\Js<(↑d.size:Int))/\ ∀b5,d[Js.toNat]? =some b5->InI (Go.IntKind.u8.wrap ((↑b5.toNat:Int) - (48:Int)))/\InI ((10:Int)*Qe+Go.IntKind.u8.wrap ((↑b5.toNat:Int) - (48:Int)))/\InI (Js+(1:Int))/\w9d ((10:Int)*Qe+Go.IntKind.u8.wrap ((↑b5.toNat:Int) - (48:Int))) (Js+(1:Int))) (Cnd ((1099511627776:Int)<Qe) (K (0:Int) (3:Int)) (Cnd ((↑d.size:Int)<(↑s.size:Int)) (InI ((0:Int) - Qe)/\K ((0:Int) - Qe) (0:Int)) (K Qe (0:Int))))) (0:Int) (0:Int):=fun h13=>by
  refine Lp2.ind (fun (n j:Int)=>0<=j/\j<=d.size/\0<=n/\n+29<=29*10 ^ j.toNat) (fun _ (j:Int)=>(d.size - j).toNat) ?_ ⟨by omega,by omega,by omega,by simp⟩
  rintro n j ⟨j0,j1,n0,n1⟩
  have hp:(10:Int) ^ j.toNat<=10 ^ 13:=by
   have:=Nat.pow_le_pow_right (n:=10) (by decide) (show j.toNat<=13 by omega)
   exact_mod_cast this
  refine Cnd.mk (fun hc=>⟨by unfold InI;omega,by omega,fun b _=> ?_⟩) fun hc=> ?_
  ·obtain⟨w0,w1⟩:=u0r ((b.toNat:Int) - 48)
   refine⟨by unfold InI;omega,by unfold InI;omega,by unfold InI;omega,⟨by omega,by omega,by omega,?_⟩,by omega⟩
   rw[show (j+1).toNat=j.toNat+1 by omega,y6y];omega
  ·exact Cnd.mk (fun _=>h _ _ (by unfold InI;omega) (by omega) (by omega)) fun _=>Cnd.mk (fun _=>⟨by unfold InI;omega,h _ _ (by unfold InI;omega) (by omega) (by omega)⟩) fun _=>h _ _ (by unfold InI;omega) (by omega) (by omega)
 have k1:=h 0 1 (by unfold InI;omega) (by omega) (by omega)
 have k3:=h 0 3 (by unfold InI;omega) (by omega) (by omega)
 refine Cnd.mk (fun hc=>⟨by omega,fun b hb=>Cnd.mk (fun _=>k1) fun _=>⟨by omega,fun b' hb'=>Cnd.mk (fun _=>k1) fun _=>⟨by unfold InI;omega,by omega,by omega⟩⟩⟩) fun _=> ?_
 refine Cnd.mk (fun _=>k1) fun he=>⟨⟨by omega,?_⟩,fun b hb=>Cnd.mk (fun _=>Cnd.mk (fun _=>Cnd.mk (fun _=>k3) fun _=>fin (by omega)) fun _=>k1) fun _=>Cnd.mk (fun _=>k3) fun _=>fin (by omega)⟩
 refine Int.not_le.1 fun hn=>he ?_
 have:d.size=0:=by omega
 exact ByteArray.ext (Array.eq_empty_of_size_eq_zero this)
theorem v9h{t:Int}{e:Ex}{K:Bool->Prop}(h: ∀r,K r):q9f t e K:=by
 unfold q9f
 refine Cnd.mk (fun _=>h _) fun _=>Cnd.mk (fun _=> ?_) fun _ _=>Cnd.mk (fun _=>h _) fun _=>⟨by omega,fun y hy=>Cnd.mk (fun _=>h _) fun _=>Jn1.mk (fun _=>True) ?_ fun x _=> ?_⟩
 ·refine Lp1.ind (fun (i:Int)=>0<=i/\i<=e.values.length) (fun (i:Int)=>(e.values.length - i).toNat) ?_ ⟨by omega,by omega⟩
  rintro i ⟨i0,i1⟩
  (repeat' (first|exact h _|assumption|(unfold InI;omega)|omega|refine Cnd.mk (fun _=> ?_) fun _=> ?_|refine⟨?_,?_⟩|intro _))
 ·(repeat' (first|exact trivial|assumption|(unfold InI;omega)|omega|refine Cnd.mk (fun _=> ?_) fun _=> ?_|refine⟨?_,?_⟩|intro _))
 ·(repeat' (first|exact h _|assumption|(unfold InI;omega)|omega|refine Cnd.mk (fun _=> ?_) fun _=> ?_|refine⟨?_,?_⟩|intro _))
theorem w3j{v:Envt}{K:List ByteArray->Prop}(hl:v.flags.length<=1000000)(h:K (v.flags.map Flg.key)):z1v v K:=v1t hl h
def z5s(f:Flg):List Edg:=f.needs.map fun q=>Edg.mk f.key q.flag
theorem j89{v:Envt}{K:List Edg->Prop}(hl:v.flags.length<=1000)(hn: ∀f∈v.flags,f.needs.length<=1000)(h:K (v.flags.flatMap z5s)):q2m v K:=by
 unfold q2m
 have hb: ∀l:List Flg,(∀f∈l,f.needs.length<=1000)->(l.flatMap z5s).length<=1000*l.length:=by
  intro l
  induction l with
  |nil=>simp
  |cons f l ih=>intro hf;have h1:=hf f (by simp);have h2:=ih fun g hg=>hf g (by simp[hg]);simp only[List.flatMap_cons,List.length_append,z5s,List.length_map,List.length_cons] at*;omega
 refine Lp2.ind (fun (r:List Edg) (i:Int)=>0<=i/\i<=v.flags.length/\r=(v.flags.take i.toNat).flatMap z5s) (fun _ (i:Int)=>(v.flags.length - i).toNat) ?_ ⟨Int.le_refl 0,by omega,by simp⟩
 rintro r i ⟨i0,i1,rfl⟩ _
 refine Cnd.mk (fun hc=> ?_) fun hc=> ?_
 ·obtain⟨f,hf⟩: ∃f,v.flags[i.toNat]? =some f:=⟨_,List.getElem?_eq_getElem (by omega)⟩
  have hfn:=hn f (getm hf)
  have hbt:=hb (v.flags.take i.toNat) fun g hg=>hn g (List.mem_of_mem_take hg)
  rw[List.length_take] at hbt
  refine Lp2.ind (fun (r:List Edg) (j:Int)=>0<=j/\j<=f.needs.length/\r=(v.flags.take i.toNat).flatMap z5s++(f.needs.take j.toNat).map fun q=>Edg.mk f.key q.flag) (fun _ (j:Int)=>(f.needs.length - j).toNat) ?_ ⟨by omega,by omega,by simp⟩
  rintro r j ⟨j0,j1,rfl⟩
  refine⟨by omega,fun g hg=> ?_⟩
  rw[hf] at hg;cases hg
  refine fun _=>Cnd.mk (fun hc=>⟨by omega,fun g hg=> ?_⟩) fun hc=>⟨by unfold InI;omega,⟨by omega,by omega,?_⟩,by omega⟩
  ·rw[hf] at hg;cases hg
   refine⟨by omega,fun g hg=> ?_⟩
   rw[hf] at hg;cases hg
   refine⟨by omega,fun q hq=>⟨?_,by unfold InI;omega,⟨by omega,by omega,?_⟩,by omega⟩⟩
   ·unfold Sml;simp only[List.length_append,List.length_map,List.length_take,List.length_cons,List.length_nil];omega
   ·rw[show (j+1).toNat=j.toNat+1 by omega,List.take_add_one,hq];simp
  ·rw[List.take_of_length_le (show f.needs.length<=j.toNat by omega),show (i+1).toNat=i.toNat+1 by omega,List.take_add_one,hf];simp[z5s]
 ·rw[List.take_of_length_le (by omega)];exact h
end Go.En
end
noncomputable section
set_option maxRecDepth 100000
namespace Go.Sg
open Go
abbrev bts(s:ByteArray):List UInt8:=s.data.toList
theorem G6(s:ByteArray):(bts s).length=s.size:=rfl
theorem q4w{s:ByteArray}{i:Nat}{b:UInt8}:s[i]? =some b↔(bts s)[i]? =some b:=by
 rw[show s[i]? =s.data[i]? from by
  by_cases h:i<s.size
  ·rw[getElem?_pos s i h,getElem?_pos s.data i h];rfl
  ·rw[getElem?_neg s i h,getElem?_neg s.data i h]]
 rw[Array.getElem?_toList]
theorem get!_of{s:ByteArray}{i:Nat}(h:i<s.size):(bts s)[i]? =some (s.get! i):=by
 have h':i<s.data.size:=h
 show s.data.toList[i]? =some (s.data[i]!)
 rw[Array.getElem?_toList,Array.getElem?_eq_getElem h',getElem!_pos s.data i h']
theorem y3l{s:ByteArray}{i:Nat}(h:(s.get! i).toNat<128):Utf8.decode s i=((s.get! i).toNat,1):=by
 unfold Utf8.decode
 simp only[Nat.add_zero]
 rw[if_pos h]
theorem y3m{s:ByteArray}{i:Nat}(h:128<=(s.get! i).toNat):128<=(Utf8.decode s i).1/\1<=(Utf8.decode s i).2/\ ∀k,k<(Utf8.decode s i).2->128<=(s.get! (i+k)).toNat:=by
 have k1: ∀k,k<1->128<=(s.get! (i+k)).toNat:=fun k hk=>by rw[show k=0 by omega];exact h
 have bad:128<=(Utf8.runeError,1).1/\1<=(Utf8.runeError,1).2/\ ∀k,k<(Utf8.runeError,1).2->128<=(s.get! (i+k)).toNat:=⟨by decide,by decide,k1⟩
 unfold Utf8.decode
 simp only[Nat.add_zero]
 rw[if_neg (by omega)]
 split
 ·rename_i hc
  simp only[Bool.and_eq_true,beq_iff_eq,decide_eq_true_eq] at hc
  split
  ·rename_i h2
   refine⟨h2,by simp,fun k hk=> ?_⟩
   have:k=0∨k=1:=by simp only at hk;omega
   rcases this with rfl|rfl
   ·exact h
   ·omega
  ·exact bad
 ·split
  ·rename_i _ hc
   simp only[Bool.and_eq_true,beq_iff_eq,decide_eq_true_eq] at hc
   split
   ·rename_i h2
    simp only[Bool.and_eq_true,decide_eq_true_eq] at h2
    refine⟨by simp only;omega,by simp,fun k hk=> ?_⟩
    have:k=0∨k=1∨k=2:=by simp only at hk;omega
    rcases this with rfl|rfl|rfl
    ·exact h
    ·omega
    ·omega
   ·exact bad
  ·split
   ·rename_i _ _ hc
    simp only[Bool.and_eq_true,beq_iff_eq,decide_eq_true_eq] at hc
    split
    ·rename_i h2
     simp only[Bool.and_eq_true,decide_eq_true_eq] at h2
     refine⟨by simp only;omega,by simp,fun k hk=> ?_⟩
     have:k=0∨k=1∨k=2∨k=3:=by simp only at hk;omega
     rcases this with rfl|rfl|rfl|rfl
     ·exact h
     ·omega
     ·omega
     ·omega
    ·exact bad
   ·exact bad
structure RuneP(p:Nat->Prop):Prop where
 hi: ∀n,128<=n->(p n↔p 128)
def Clr(p:Nat->Prop)(s:ByteArray)(k:Nat):Prop:= ∀i,i<k->i<s.size-> ¬p (s.get! i).toNat
theorem Clr.zero{p:Nat->Prop}{s:ByteArray}:Clr p s 0:=fun _ h=>absurd h (Nat.not_lt_zero _)
theorem y3n(s:ByteArray)(k:Nat):1<=(Utf8.decode s k).2:=by
 rcases Nat.lt_or_ge (s.get! k).toNat 128 with h|h
 ·rw[y3l h];exact Nat.le_refl 1
 ·exact (y3m h).2.1
theorem Clr.step{p:Nat->Prop}(hp:RuneP p){s:ByteArray}{k:Nat}(h:Clr p s k)(hk: ¬p (Utf8.decode s k).1):Clr p s (k+(Utf8.decode s k).2):=by
 intro i hi hs
 rcases Nat.lt_or_ge i k with h1|h1
 ·exact h i h1 hs
 rcases Nat.lt_or_ge (s.get! k).toNat 128 with h2|h2
 ·rw[y3l h2] at hk hi
  simp only at hk hi
  rw[show i=k by omega];exact hk
 ·obtain⟨a,_,c⟩:=y3m h2
  have:=c (i - k) (by omega)
  rw[show k+(i - k)=i by omega] at this
  rw[hp.hi _ this,←hp.hi _ a];exact hk
theorem j97{p:Nat->Prop}(hp:RuneP p){s:ByteArray}{k:Nat}(hk:p (Utf8.decode s k).1):p (s.get! k).toNat:=by
 rcases Nat.lt_or_ge (s.get! k).toNat 128 with h2|h2
 ·rw[y3l h2] at hk;exact hk
 ·rw[hp.hi _ h2,←hp.hi _ (y3m h2).1];exact hk
theorem Clr.all{p:Nat->Prop}{s:ByteArray}{k:Nat}(h:Clr p s k)(hk:s.size<=k): ∀c∈bts s,¬p c.toNat:=by
 intro c hc
 obtain⟨i,hi⟩:=List.mem_iff_getElem?.1 hc
 have hl:i<s.size:=(List.getElem?_eq_some_iff.1 hi).1
 have:=get!_of hl
 rw[hi] at this
 cases this
 exact h i (by omega) hl
theorem j7i{s:ByteArray}{k:Nat}(h:k<s.size):s.get! k∈bts s:=List.mem_of_getElem? (get!_of h)
def good(c:UInt8):Bool:=decide (32<=c.toNat) && decide (c.toNat≠127)
def vld(s:ByteArray):Bool:=decide (s.size<=200) && Go.Lib.validD (bts s) && (bts s).all good
def isD(c:UInt8):Bool:=decide (48<=c.toNat) && decide (c.toNat<=57)
def j0t(n:Nat)(c:UInt8):Nat:=10*n+(c.toNat - 48)
def valD(n:Nat)(l:List UInt8):Nat:=l.foldl j0t n
def digs(s:ByteArray):ByteArray:=if s[0]? =some 45 then s.extract 1 s.size else s
def pnum(s:ByteArray):Int×Int:=
 if (bts (digs s)).all isD=false then (0,1)
 else if (digs s).size=0∨((digs s)[0]? =some 48/\s≠ByteArray.mk (Array.mk [48])) then (0,1)
 else if 1099511627776<valD 0 (bts (digs s)) then (0,3)
 else (if (digs s).size<s.size then -(valD 0 (bts (digs s)):Int) else valD 0 (bts (digs s)),0)
theorem v62(n:Nat):valD n []=n:=rfl
theorem j42(n:Nat)(c:UInt8)(l:List UInt8):valD n (c::l)=valD (j0t n c) l:=List.foldl_cons ..
theorem y3o(n:Nat)(l:List UInt8)(c:UInt8):valD n (l++[c])=j0t (valD n l) c:=by
 unfold valD;rw[List.foldl_append];rfl
theorem v45: ∀(l:List UInt8) (n:Nat),n*10 ^ l.length<=valD n l
 |[],n=>by simp[valD]
 |c::l,n=>by
  rw[j42,List.length_cons]
  refine Nat.le_trans ?_ (v45 l (j0t n c))
  rw[Nat.pow_succ,Nat.mul_comm (10 ^ l.length) 10,←Nat.mul_assoc]
  exact Nat.mul_le_mul_right _ (by unfold j0t;omega)
theorem y3p: ∀(l:List UInt8) (n:Nat),l.all isD=true->valD n l<(n+1)*10 ^ l.length
 |[],n,_=>by simp[valD]
 |c::l,n,h=>by
  simp only[List.all_cons,Bool.and_eq_true] at h
  rw[j42,List.length_cons]
  refine Nat.lt_of_lt_of_le (y3p l (j0t n c) h.2) ?_
  have h1:=h.1
  simp only[isD,Bool.and_eq_true,decide_eq_true_eq] at h1
  rw[Nat.pow_succ,Nat.mul_comm (10 ^ l.length) 10,←Nat.mul_assoc]
  exact Nat.mul_le_mul_right _ (by unfold j0t;omega)
theorem y3q: ∀(l:List UInt8) (n:Nat),n<=valD n l:=fun l n=>Nat.le_trans (by
 have:0<10 ^ l.length:=Nat.pow_pos (by decide)
 exact Nat.le_mul_of_pos_right n this) (v45 l n)
theorem j78: ∀(l:List UInt8) (n:Nat),l.all isD=true->Go.Lib.parseUint10 n l=(if valD n l<18446744073709551616/\n<18446744073709551616 then .ok (valD n l) else if l=[] then .ok n else .range)
 |[],n,_=>by
  unfold Go.Lib.parseUint10
  rw[v62]
  split<;>simp
 |c::l,n,h=>by
  simp only[List.all_cons,Bool.and_eq_true] at h
  have h1:=h.1
  simp only[isD,Bool.and_eq_true,decide_eq_true_eq] at h1
  have ih:=j78 l (j0t n c) h.2
  have hs:=y3q l (j0t n c)
  have es:j0t n c=10*n+(c.toNat - 48):=rfl
  have e:n*10+(c.toNat - 48)=j0t n c:=by omega
  have hne: ¬(c::l=[]):=by simp
  unfold Go.Lib.parseUint10
  rw[if_pos h1,j42,e,if_neg hne]
  generalize j0t n c=m at ih hs es e⊢
  by_cases h2:1844674407370955162<=n
  ·rw[if_pos h2,if_neg (by omega)]
  ·rw[if_neg h2]
   by_cases h3:18446744073709551616<=m
   ·rw[if_pos h3,if_neg (by omega)]
   ·rw[if_neg h3,ih]
    by_cases h4:valD m l<18446744073709551616
    ·rw[if_pos ⟨h4,by omega⟩,if_pos ⟨h4,by omega⟩]
    ·have: ¬l=[]:=by rintro rfl;rw[v62] at h4;omega
     rw[if_neg (by omega),if_neg this,if_neg (by omega)]
theorem v1u{l:List UInt8}(h:l.all isD=true)(hn:l≠[]):Go.Lib.parseMag l=(if valD 0 l<18446744073709551616 then .ok (valD 0 l) else .range):=by
 unfold Go.Lib.parseMag
 rw[if_neg hn,j78 l 0 h]
 by_cases h4:valD 0 l<18446744073709551616
 ·rw[if_pos ⟨h4,by omega⟩,if_pos h4]
 ·rw[if_neg (by omega),if_neg h4,if_neg hn]
theorem v63{s:ByteArray}{k:Nat}:bts (s.extract k s.size)=(bts s).drop k:=by
 show (s.extract k s.size).data.toList=_
 rw[ByteArray.data_extract,Array.toList_extract,List.extract_eq_take_drop,List.take_of_length_le]
 rw[List.length_drop]
 exact Nat.le_refl _
theorem j7j{s:ByteArray}(h:s[0]? =some 45):bts s=45::bts (digs s)/\(digs s).size+1=s.size:=by
 have h0:0<s.size:=by
  rw[q4w] at h;exact (List.getElem?_eq_some_iff.1 h).1
 have e:bts (digs s)=(bts s).drop 1:=by
  unfold digs
  rw[if_pos h,v63]
 rw[q4w] at h
 refine⟨?_,?_⟩
 ·rw[e]
  cases hb:bts s with
  |nil=>rw[hb] at h;simp at h
  |cons c l=>rw[hb] at h;simp at h;simp[h]
 ·rw[←G6,e,List.length_drop,G6];omega
theorem z0b{s:ByteArray}(h: ¬s[0]? =some 45):digs s=s:=by unfold digs;rw[if_neg h]
theorem v47{s:ByteArray}(h:(bts (digs s)).all isD=true)(hn:(digs s).size≠0):Go.Lib.atoiAll (bts s)=(if valD 0 (bts (digs s))<=(if s[0]? =some 45 then 9223372036854775808 else 9223372036854775807) then .ok (if s[0]? =some 45 then -(valD 0 (bts (digs s)):Int) else valD 0 (bts (digs s))) else .range):=by
 have hne:bts (digs s)≠[]:=fun e=>hn (by rw[←G6,e];rfl)
 by_cases hm:s[0]? =some 45
 ·obtain⟨e,_⟩:=j7j hm
  rw[if_pos hm,if_pos hm,e]
  unfold Go.Lib.atoiAll
  simp only[show (45:UInt8).toNat=45 from rfl,or_true,if_true]
  rw[v1u h hne]
  generalize valD 0 (bts (digs s))=v
  by_cases h1:v<18446744073709551616
  ·rw[if_pos h1]
   by_cases h2:v<=9223372036854775808
   ·rw[if_pos h2];simp only[not_true,false_and,if_false,true_and];rw[if_neg (by omega)]
   ·rw[if_neg h2];simp only[not_true,false_and,if_false,true_and];rw[if_pos (by omega)]
  ·rw[if_neg h1,if_neg (by omega)]
 ·rw[if_neg hm,if_neg hm]
  rw[z0b hm] at h hne⊢
  have hp:=v1u h hne
  generalize valD 0 (bts s)=v at hp⊢
  cases hb:bts s with
  |nil=>exact absurd hb hne
  |cons c l=>
   have hc':isD c=true:=by rw[hb] at h;simp only[List.all_cons,Bool.and_eq_true] at h;exact h.1
   simp only[isD,Bool.and_eq_true,decide_eq_true_eq] at hc'
   unfold Go.Lib.atoiAll
   simp only[]
   rw[if_neg (show ¬(c.toNat=43∨c.toNat=45) by omega),←hb,hp]
   by_cases h1:v<18446744073709551616
   ·rw[if_pos h1]
    simp only[]
    by_cases h2:v<=9223372036854775807
    ·rw[if_pos h2,if_neg (by omega),if_neg (by omega),if_neg (by omega)]
    ·rw[if_neg h2,if_pos (by omega)]
   ·rw[if_neg h1,if_neg (by omega)]
def dot(s:ByteArray)(k:Nat):Nat:=k+((bts s).drop k).idxOf 46
theorem v64{s:ByteArray}{k:Nat}:k<=dot s k:=Nat.le_add_right _ _
theorem y8b{s:ByteArray}{k:Nat}(h:k<=s.size):dot s k<=s.size:=by
 have:=List.idxOf_le_length (a:=(46:UInt8)) (l:=(bts s).drop k)
 rw[List.length_drop,G6] at this
 unfold dot;omega
theorem y3r{s:ByteArray}{k:Nat}(h:dot s k<s.size):s[dot s k]? =some 46:=by
 have hl:((bts s).drop k).idxOf 46<((bts s).drop k).length:=by rw[List.length_drop,G6];unfold dot at h;omega
 have h2:=List.getElem_idxOf hl
 rw[q4w]
 unfold dot
 rw[←List.getElem?_drop,List.getElem?_eq_getElem hl,h2]
theorem y3s{s:ByteArray}{k i:Nat}(h0:k<=i)(h1:i<dot s k):s[i]? ≠some 46:=by
 intro e
 rw[q4w] at e
 have e2:((bts s).drop k)[i - k]? =some 46:=by rw[List.getElem?_drop,show k+(i - k)=i by omega];exact e
 obtain⟨hl,e3⟩:=List.getElem?_eq_some_iff.1 e2
 have h2:i - k<((bts s).drop k).idxOf 46:=by unfold dot at h1;omega
 have:=List.not_of_lt_findIdx (p:=fun x=>x==(46:UInt8)) (xs:=(bts s).drop k) (i:=i - k) h2
 rw[e3] at this
 simp at this
theorem u3m{s:ByteArray}{k i:Nat}(h0:k<=i)(hs:s[i]? =some 46)(hn: ∀j,k<=j->j<i->s[j]? ≠some 46):dot s k=i:=by
 have hi:i<s.size:=(List.getElem?_eq_some_iff.1 (q4w.1 hs)).1
 rcases Nat.lt_trichotomy (dot s k) i with h|h|h
 ·exact absurd (y3r (show dot s k<s.size by omega)) (hn _ v64 h)
 ·exact h
 ·exact absurd hs (y3s h0 h)
theorem u0s{s:ByteArray}{k:Nat}(hk:k<=s.size)(hn: ∀j,k<=j->j<s.size->s[j]? ≠some 46):dot s k=s.size:=by
 rcases Nat.lt_or_ge (dot s k) s.size with h|h
 ·exact absurd (y3r h) (hn _ v64 h)
 ·have:=y8b hk;omega
def okp(p:Int×Int):Bool:=decide (p.2=0) && decide (0<=p.1) && decide (p.1<=999999)
def Re(s:ByteArray)(k:Nat):Int×Int:=pnum (s.extract k (dot s k))
def w47(s:ByteArray):Prop:=(dot s 0<s.size/\okp (Re s 0)=true)/\(dot s (dot s 0+1)<s.size/\okp (Re s (dot s 0+1))=true)/\ ¬dot s (dot s (dot s 0+1)+1)<s.size/\okp (Re s (dot s (dot s 0+1)+1))=true
instance (s:ByteArray):Decidable (w47 s):=by unfold w47;infer_instance
def prt(s:ByteArray):(Int×Int×Int)×Bool:=
 if w47 s then (((Re s 0).1,(Re s (dot s 0+1)).1,(Re s (dot s (dot s 0+1)+1)).1),true) else ((0,0,0),false)
theorem y8c{s:ByteArray}(h: ¬w47 s):prt s=((0,0,0),false):=if_neg h
theorem y3t{s:ByteArray}(h:w47 s):prt s=(((Re s 0).1,(Re s (dot s 0+1)).1,(Re s (dot s (dot s 0+1)+1)).1),true):=if_pos h
abbrev dotB:ByteArray:=ByteArray.mk (Array.mk [46])
theorem v1v: ∀l:List UInt8,Go.Lib.index l [46]=if l.idxOf 46<l.length then ((l.idxOf 46:Nat):Int) else -1
 |[]=>rfl
 |b::l=>by
  have ih:=v1v l
  unfold Go.Lib.index
  by_cases hb:b=46
  ·subst hb
   rw[if_pos (by simp[List.isPrefixOf]),List.idxOf_cons_self,if_pos (by simp)];rfl
  ·have hx:(b::l).idxOf 46=l.idxOf 46+1:=by rw[List.idxOf_cons,show (b==(46:UInt8))=false by simpa using hb];rfl
   rw[if_neg (by simp[List.isPrefixOf,Ne.symm hb]),hx,ih,List.length_cons]
   by_cases h:l.idxOf 46<l.length
   ·simp only[if_pos h]
    rw[if_neg (by simp only[beq_iff_eq];omega),if_pos (by omega)]
    push_cast;rfl
   ·simp only[if_neg h]
    rw[if_pos (by decide),if_neg (by omega)]
theorem y3u{s:ByteArray}{k:Nat}:(s.extract k s.size).size=s.size - k:=by rw[ByteArray.size_extract];omega
theorem w3k{s:ByteArray}{k:Nat}(hk:k<=s.size):Go.Lib.indexB (s.extract k s.size) dotB=if dot s k<s.size then ((dot s k - k:Nat):Int) else -1:=by
 show Go.Lib.index (bts (s.extract k s.size)) [46]=_
 rw[v63,v1v,List.length_drop,G6]
 have e:dot s k - k=((bts s).drop k).idxOf 46:=by unfold dot;omega
 rw[e]
 have hg:=v64 (s:=s) (k:=k)
 by_cases h:dot s k<s.size
 ·rw[if_pos h,if_pos (by omega)]
 ·rw[if_neg h,if_neg (by omega)]
def pc(s:ByteArray)(k:Nat):List ByteArray:=Go.Lib.splitB dotB 0 (Go.Lib.countB (s.extract k s.size) dotB) (s.extract k s.size)
theorem ext2{s:ByteArray}{k i:Nat}(h:k+i<=s.size):(s.extract k s.size).extract 0 i=s.extract k (k+i):=by
 apply ByteArray.ext
 have:s.data.size=s.size:=rfl
 simp only[ByteArray.data_extract,Array.extract_extract]
 congr 1
 omega
theorem ext3{s:ByteArray}{k i:Nat}:(s.extract k s.size).extract i (s.extract k s.size).size=s.extract (k+i) s.size:=by
 apply ByteArray.ext
 rw[y3u]
 have:s.data.size=s.size:=rfl
 simp only[ByteArray.data_extract,Array.extract_extract]
 congr 1
 omega
theorem w3l{s:ByteArray}{k:Nat}(hk:k<=s.size)(h: ¬dot s k<s.size):pc s k=[s.extract k s.size]:=by
 unfold pc
 exact Go.Lib.splitB_miss _ _ _ _ (by rw[w3k hk,if_neg h])
theorem w6g{s:ByteArray}{k:Nat}(hk:k<=s.size)(h:dot s k<s.size):pc s k=s.extract k (dot s k)::pc s (dot s k+1):=by
 have hi:=w3k hk
 rw[if_pos h] at hi
 have hg:=v64 (s:=s) (k:=k)
 unfold pc
 rw[Go.Lib.countB_hit _ dotB _ (by decide) hi,Nat.add_comm,Go.Lib.splitB_hit _ _ _ _ _ hi]
 have e1:dotB.size=1:=rfl
 rw[Nat.add_zero,e1,ext2 (by omega),ext3,show k+(dot s k - k)=dot s k by omega,show k+(dot s k - k+1)=dot s k+1 by omega]
theorem y3v{p:Nat->Prop}: ∀n,p n-> ∃n,p n/\ ∀k,k<n-> ¬p k:=by
 intro n
 induction n using Nat.strongRecOn with
 |_ n ih=>
  intro h
  by_cases hx: ∃k,k<n/\p k
  ·obtain⟨k,hk,hp⟩:=hx;exact ih k hk hp
  ·exact⟨n,h,fun k hk hp=>hx ⟨k,hk,hp⟩⟩
theorem u3n{s:ByteArray}{k:Nat}(hk:k<=s.size):0<(pc s k).length:=by
 by_cases h:dot s k<s.size
 ·rw[w6g hk h];simp
 ·rw[w3l hk h];simp
theorem v1w{s:ByteArray}:Go.En.q1s s dotB=pc s 0:=by
 unfold Go.En.q1s pc
 have e:s.extract 0 s.size=s:=by simp
 rw[e]
theorem w3m{s:ByteArray}:(Go.En.q1s s dotB).length=3↔dot s 0<s.size/\dot s (dot s 0+1)<s.size/\ ¬dot s (dot s (dot s 0+1)+1)<s.size:=by
 rw[v1w]
 by_cases h0:dot s 0<s.size
 ·rw[w6g (by omega) h0]
  by_cases h1:dot s (dot s 0+1)<s.size
  ·rw[w6g (by omega) h1]
   by_cases h2:dot s (dot s (dot s 0+1)+1)<s.size
   ·have:=u3n (s:=s) (k:=dot s (dot s (dot s 0+1)+1)+1) (by omega)
    rw[w6g (by omega) h2]
    simp only[List.length_cons]
    exact⟨fun e=>by omega,fun e=>absurd h2 e.2.2⟩
   ·rw[w3l (by omega) h2];simp[h0,h1,h2]
  ·rw[w3l (by omega) h1];simp[h1]
 ·rw[w3l (by omega) h0];simp[h0]
theorem v48{s:ByteArray}(h:dot s 0<s.size/\dot s (dot s 0+1)<s.size/\ ¬dot s (dot s (dot s 0+1)+1)<s.size):Go.En.q1s s dotB=[s.extract 0 (dot s 0),s.extract (dot s 0+1) (dot s (dot s 0+1)),s.extract (dot s (dot s 0+1)+1) (dot s (dot s (dot s 0+1)+1))]:=by
 obtain⟨h0,h1,h2⟩:=h
 rw[v1w,w6g (by omega) h0,w6g (by omega) h1,w3l (by omega) h2]
 have:=y8b (s:=s) (k:=dot s (dot s 0+1)+1) (by omega)
 rw[show dot s (dot s (dot s 0+1)+1)=s.size by omega]
theorem j79{s t:List UInt8}:Go.Lib.contains s t=true↔ ∃i,i+t.length<=s.length/\(s.drop i).take t.length=t:=by
 have key:Go.Lib.contains s t=true↔ ∃i,i<=s.length/\Go.Lib.occAt s t i=true:=by
  unfold Go.Lib.contains
  constructor
  ·intro h
   have hge:0<=Go.Lib.index s t:=by simpa using h
   by_cases hx: ∃i,i<=s.length/\Go.Lib.occAt s t i=true
   ·exact hx
   ·have:=Go.Lib.index_none (s:=s) (sub:=t) (fun j hj=>by
     cases hb:Go.Lib.occAt s t j with
     |false=>rfl
     |true=>exact absurd ⟨j,hj,hb⟩ hx)
    omega
  ·rintro⟨i,hi,ho⟩
   obtain⟨j,⟨hj,hjo⟩,hmin⟩:=y3v (p:=fun j=>j<=s.length/\Go.Lib.occAt s t j=true) i ⟨hi,ho⟩
   have:=Go.Lib.index_first hj hjo (fun k hk=>by
    cases hb:Go.Lib.occAt s t k with
    |false=>rfl
    |true=>exact absurd ⟨by omega,hb⟩ (hmin k hk))
   rw[this];simp
 rw[key]
 constructor
 ·rintro⟨i,hi,ho⟩
  unfold Go.Lib.occAt at ho
  have hp:=List.isPrefixOf_iff_prefix.1 ho
  have hl:=hp.length_le
  rw[List.length_drop] at hl
  exact⟨i,by omega,(List.prefix_iff_eq_take.1 hp).symm⟩
 ·rintro⟨i,hi,ho⟩
  refine⟨i,by omega,?_⟩
  unfold Go.Lib.occAt
  rw[List.isPrefixOf_iff_prefix,List.prefix_iff_eq_take]
  exact ho.symm
end Go.Sg
end
