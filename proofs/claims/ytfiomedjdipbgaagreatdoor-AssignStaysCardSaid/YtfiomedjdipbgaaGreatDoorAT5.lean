/- A forced assignment outlasts every change. This is part 5 of 7. Conditions: those in the statements. -/
import Derived.Test.YtfiomedjdipbgaaGreatDoorAT4
import Derived.KernelRfl
import Derived.Conc.MuLone
import GoSem.Core.Utf8
import Derived.Lib.ValidU
noncomputable section
set_option maxRecDepth 100000
namespace Go.Proofs.YtfiomedjdipbgaaGreatDoor
open Go Go.Proofs Go.RowKit Go.Fl
set_option maxHeartbeats 2000000 in
theorem q3r {σ:Hv} {w:World} (s_p:(List ByteArray)) (v1:Value) {K:(List ByteArray)->Prop} (hV:View σ w) (hr1:RSl 1 (REnc Qj) σ v1 s_p) (hP:Zl s_p K):
    Calls Tryz.prog 187 #[v1] w (fun e w1=> ∃(r1:(List ByteArray)) (v2:Value),e= .returned v2/\St ⟨w,σ,[]⟩ w1 σ [vec v2 9 1 r1.length ((r1).flatMap Qj)]/\Sml r1.length/\K r1):=by
 unfold Zl at hP
 obtain ⟨a1,cap1,rfl⟩:=hr1.shape
 refine enter Tryz.func187 rfl rfl rfl ?_
 have hS:=St.start hV
 refine Qu (Qv (v:=(.slice none 0 0)) rfl (wpList_nil (Qo (wp_seq (Qu (Zc (v:=(.slice a1 s_p.length cap1)) rfl ?_))))))
 replace hP:=hP a1.isNone (RSl.isNil hr1)
 obtain ⟨r1_,hn1⟩: ∃r:Bool,a1.isNone=r:=⟨_,rfl⟩
 rw [hn1] at hP
 refine y1x Tryz.underlying44 rfl hn1 (wpList_nil (Qo ?_))
 refine if_b rfl (fun ht1=> ?_) (fun ht1=> ?_)
 ·
  replace hP:=hP.1 ht1
  refine Qu (Qv (v:=(.slice none 0 0)) rfl (wpList_nil (Qo (wp_ret (Bp (ret1 rfl (show ev _ _ _=(.slice none 0 0) from rfl) ?_))))))
  have hS1:=hS.addNil 9 1
  exact ⟨[],(.slice none 0 0),rfl,(St.back hS1 (Sub.refl _)),(by simp [Sml]),hP⟩
 ·
  replace hP:=hP.2 (by first|(rw [ht1];exact Bool.false_ne_true)|simp [ht1])
  refine wp_skip (Qo (Qu (j5m (cs:=[]) (e:=9) hS (fun _=>by kernel_rfl) ?_)))
  intro b1 w1 hS2
  refine Zc (v:=(.slice a1 s_p.length cap1)) rfl ?_
  have hS3:=hS2.asVec (i:=0) (ms':=[vec (.slice (some ⟨b1,0,none⟩) 0 0) 9 1 0 []]) (size:=1) rfl rfl (by unfold maxLen;omega) rfl
  obtain ⟨hsm1,hP⟩:=hP
  refine y84 (enc:=Qj) (l:=s_p) (Ms:=fun v3=>[vec v3 9 1 s_p.length ((s_p).flatMap Qj)]) (k':=s_p.length) (xs':=(s_p).flatMap Qj) Tryz.underlying44 Tryz.type9 rfl rfl (bytes:=16) rfl rfl (Nat.succ_pos _) hS3 rfl (q:=0) rfl rfl hr1 hS3.view q4t v6p hsm1 (by omega) (by first|rfl|exact List.length_append.symm|simp) (List.nil_append _) (fun _=>rfl) ?_
  intro v3 w2 ho1 hS4
  refine Qv (v:=v3) rfl (wpList_nil (Qo (wp_ret (ret1 rfl (show ev _ _ _=v3 from rfl) ?_))))
  exact ⟨s_p,v3,rfl,(St.back hS4 (Sub.refl _)),hsm1,hP⟩
set_option maxHeartbeats 2000000 in
theorem q3s {σ:Hv} {w:World} (s_p:(List ByteArray)) (v_p:ByteArray) (v1:Value) {K:Int->Prop} (hV:View σ w) (hr1:RSl 1 (REnc Qj) σ v1 s_p) (hP:Zm s_p v_p K):
    Calls Tryz.prog 128 #[v1,(.string v_p)] w (fun e w1=> ∃(r1:Int),e= .returned (.int .i64 r1)/\Grow [] σ w σ w1/\K r1):=by
 unfold Zm at hP
 obtain ⟨a1,cap1,rfl⟩:=hr1.shape
 refine enter Tryz.func128 rfl rfl rfl ?_
 have hS:=St.start hV
 refine Qu (Qv (v:=(.int .i64 (0:Int))) rfl (wpList_nil (Qo (wp_seq (Qu (Zc (v:=(.slice a1 s_p.length cap1)) rfl (z00 rfl Tryz.underlying44 ?_)))))))
 have hlen1:=RSl.len63 hr1
 replace hP:=hP hlen1
 refine Zc (v:=(.int .i64 (0:Int))) rfl (wpList_nil (Qo (wp_block ?_)))
 refine w2j (fun k_2 f z=> ∃(σ1:Hv) (g:Fr),f=(upd (upd (upd (upd g 0 (.slice a1 s_p.length cap1)) 1 (.string v_p)) 7 (.int .i64 ((s_p.length:Nat):Int))) 8 (.int .i64 ((k_2:Nat):Int)))/\St ⟨w,σ,[]⟩ z σ1 []/\Sub σ σ1) hP ⟨σ,_,(Z0 rfl (Z0 rfl (Z0 rfl (Z0 rfl rfl)))),hS,(Sub.refl _)⟩ ?_
 clear hP
 rintro k_2 Y1 hP f w1 ⟨σ1,g,rfl,hS1,hsub1⟩
 refine Qu (v6e (r:=(decide (((k_2:Nat):Int)<((s_p.length:Nat):Int)))) rfl rfl rfl (wpList_nil (Qo (wp_seq ?_))))
 refine if_d (((k_2:Nat):Int)<((s_p.length:Nat):Int)) rfl (fun ht1=> ?_) (fun ht1=> ?_)
 ·
  replace hP:=hP.1 ht1
  refine wp_skip (Qo (wp_seq (wp_block (Qu (Zc (v:=(.int .i64 ((k_2:Nat):Int))) rfl (Qv (v:=(.int .i64 ((k_2:Nat):Int))) rfl (wpList_nil (Qo (Qu (Zc (v:=(.string v_p)) rfl (Zc (v:=(.slice a1 s_p.length cap1)) rfl (Zc (v:=(.int .i64 ((k_2:Nat):Int))) rfl ?_))))))))))))
  obtain ⟨x1_,hx1⟩:=getq (l:=s_p) (k:=k_2) (by have:=ht1;omega)
  replace hP:=hP x1_ hx1
  obtain ⟨ad1,cs1,ha1,hl1,hr2,hR1,hlt1⟩:=RSl.at hr1 hx1
  cases hR1
  refine Rv (k:=k_2) (a':=(ad1.add (k_2*1))) (congrArg (fun z=>Value.slice z _ _) ha1) rfl rfl hlt1 Tryz.underlying44 Tryz.sizeOf9 rfl (q6x (v:=(.string x1_)) rfl Tryz.isAgg9 (hr2.cell (View.of hsub1 hS1.view) 0 rfl rfl) (y8v (r:=(decide (v_p=x1_))) rfl rfl rfl (wpList_nil (Qo ?_))))
  refine if_d (v_p=x1_) rfl (fun ht2=> ?_) (fun ht2=> ?_)
  ·
   replace hP:=hP.1 ht2
   refine Qu (Zc (v:=(.int .i64 ((k_2:Nat):Int))) rfl (Qv (v:=(.int .i64 ((k_2:Nat):Int))) rfl (wpList_nil (Qo (wp_ret (j4q (Bp (Bp (j4q (Bp (ret1 rfl (show ev _ _ _=(.int .i64 ((k_2:Nat):Int)) from rfl) ?_)))))))))))
   exact ⟨((k_2:Nat):Int),rfl,hS1.done.forget,hP⟩
  ·
   replace hP:=hP.2 ht2
   refine wp_skip (v3p (Qo (j1t (v3o (r:=((k_2+1:Nat):Int)) rfl rfl (nw (by omega) (by omega) (by have:=hlen1;omega)) (Zc (v:=(.int .i64 ((k_2+1:Nat):Int))) rfl (wpList_nil (Qo ?_)))))))
   exact ⟨k_2+1,_,rfl,hP,σ1,_,(Z0 rfl (Z0 rfl (Z0 rfl (Z0 rfl rfl)))),hS1,hsub1⟩
 ·
  replace hP:=hP.2 ht1
  refine wp_exit (z6u (z6u (j6h (Qo (Qu (Qv (v:=(.int .i64 (-1:Int))) rfl (wpList_nil (Qo (wp_ret (ret1 rfl (show ev _ _ _=(.int .i64 (-1:Int)) from rfl) ?_))))))))))
  exact ⟨(-1:Int),rfl,hS1.done.forget,hP⟩
set_option maxHeartbeats 2000000 in
theorem Vm {σ:Hv} {w:World} (s_p:(List ByteArray)) (v_p:ByteArray) (v1:Value) {K:Bool->Prop} (hV:View σ w) (hr1:RSl 1 (REnc Qj) σ v1 s_p) (hP:Qx s_p v_p K):
    Calls Tryz.prog 76 #[v1,(.string v_p)] w (fun e w1=> ∃(r1:Bool),e= .returned (.bool (r1))/\Grow [] σ w σ w1/\K r1):=by
 unfold Qx at hP
 obtain ⟨a1,cap1,rfl⟩:=hr1.shape
 refine enter Tryz.func76 rfl rfl rfl ?_
 have hS:=St.start hV
 refine Qu (Qv (v:=(.bool false)) rfl (wpList_nil (Qo (Qu (Zc (v:=(.slice a1 s_p.length cap1)) rfl (Zc (v:=(.string v_p)) rfl ?_))))))
 obtain ⟨Y1,hK1,hc1⟩:=hP
 refine q8l (args:=[(.slice a1 s_p.length cap1),(.string v_p)]) rfl Tryz.call128 (Calls.mono (q3s s_p v_p (.slice a1 s_p.length cap1) hS.view hr1 hc1) ?_)
 rintro _ w1 ⟨r1_,rfl,hg1,hY1⟩
 refine ⟨_,rfl,?_⟩
 have hS1:=hS.grow hg1
 replace hP:=hK1 r1_ hY1
 refine y8u (r:=(decide ((0:Int)<=r1_))) rfl rfl rfl (Qv (v:=(.bool (decide ((0:Int)<=r1_)))) rfl (wpList_nil (Qo (wp_ret (ret1 rfl (show ev _ _ _=(.bool (decide ((0:Int)<=r1_))) from rfl) ?_)))))
 exact ⟨(decide ((0:Int)<=r1_)),rfl,hS1.done.forget,hP⟩
set_option maxHeartbeats 2000000 in
theorem w_graph_Order {σ:Hv} {w:World} (nodes_p:(List ByteArray)) (edges_p:(List (ByteArray×ByteArray))) (v1:Value) (v2:Value) {K:(List ByteArray)->Int->Prop} (hV:View σ w) (hr1:RSl 1 (REnc Qj) σ v1 nodes_p) (hr2:RSl 2 (REnc y85) σ v2 edges_p) (hP:P_graph_Order nodes_p edges_p K):
    Calls Tryz.prog 139 #[v1,v2] w (fun e w1=> ∃(r1:(List ByteArray)) (r2:Int) (v3:Value),e= .returned (.tuple #[v3,(.int .i64 r2)])/\St ⟨w,σ,[]⟩ w1 σ [vec v3 9 1 r1.length ((r1).flatMap Qj)]/\Sml r1.length/\K r1 r2):=by
 unfold P_graph_Order at hP
 obtain ⟨a1,cap1,rfl⟩:=hr1.shape
 obtain ⟨a2,cap2,rfl⟩:=hr2.shape
 refine enter Tryz.func139 rfl rfl rfl ?_
 have hS:=St.start hV
 refine Qu (Qv (v:=(.slice none 0 0)) rfl (Qv (v:=(.int .i64 (0:Int))) rfl (wpList_nil (Qo (Qu (Zc (v:=(.slice a1 nodes_p.length cap1)) rfl (q8l (args:=[(.slice a1 nodes_p.length cap1)]) rfl Tryz.call186 ?_)))))))
 refine enter Tryz.func186 rfl rfl rfl ?_
 refine Qu (u01 (cs:=[(.slice a1 nodes_p.length cap1)]) hS rfl rfl ?_)
 intro b1 w1 hS1
 refine Qv (v:= .nilFunc) rfl (wpList_nil (Qo (Qu (j1u (la:=[]) (lb:=[(.pointer (some ⟨b1,0,none⟩))]) rfl rfl (Qv (v:=(.func (.func 237) #[] #[(.pointer (some ⟨b1,0,none⟩))])) rfl (wpList_nil (Qo (wp_ret (ret1 rfl (show ev _ _ _=(.func (.func 237) #[] #[(.pointer (some ⟨b1,0,none⟩))]) from rfl) ?_)))))))))
 refine ⟨_,rfl,?_⟩
 refine q8l (args:=[(.func (.func 237) #[] #[(.pointer (some ⟨b1,0,none⟩))])]) rfl Tryz.call185 ?_
 refine enter Tryz.func185 rfl rfl rfl ?_
 refine Qu (Qv (v:=(.slice none 0 0)) rfl (wpList_nil (Qo (Qu (Zc (v:=(.func (.func 237) #[] #[(.pointer (some ⟨b1,0,none⟩))])) rfl (q8l (args:=[(.func (.func 237) #[] #[(.pointer (some ⟨b1,0,none⟩))])]) rfl Tryz.call236 ?_))))))
 refine enter Tryz.func236 rfl rfl rfl ?_
 refine Qu (Qv (v:=(.slice none 0 0)) rfl (wpList_nil (Qo (Qu (Zc (v:=(.func (.func 237) #[] #[(.pointer (some ⟨b1,0,none⟩))])) rfl ?_)))))
 obtain ⟨σ1,hS2,hsub1,hfr1⟩:=hS1.freeze' (i:=0) rfl rfl
 have hB1:σ1 b1=some (.cells #[(.slice a1 nodes_p.length cap1)] 44 (0,0)):=(hfr1 _ rfl).trans (hS1.get (i:=0) rfl)
 obtain ⟨hsm1,hP⟩:=hP
 refine q8l (args:=[(.slice none 0 0),(.func (.func 237) #[] #[(.pointer (some ⟨b1,0,none⟩))])]) rfl Tryz.call274 (Calls.mono (u1r b1 (.slice a1 nodes_p.length cap1) nodes_p hS2.view hB1 (RSl.menc hsub1 hr1) hsm1) ?_)
 rintro _ w2 ⟨v4,rfl,hg1,ho1⟩
 refine ⟨_,rfl,?_⟩
 have hS3:=hS2.growAdd hg1 (o:=vec v4 9 1 nodes_p.length ((nodes_p).flatMap Qj)) ho1
 refine Qv (v:=v4) rfl (wpList_nil (Qo (wp_ret (ret1 rfl (show ev _ _ _=v4 from rfl) ?_))))
 refine ⟨_,rfl,?_⟩
 refine Qv (v:=v4) rfl (wpList_nil (Qo (Qu (Zc (v:=v4) rfl ?_))))
 refine q8l (args:=[v4]) rfl Tryz.call80 (Calls.mono (v1v Tryz.slices_Sort_string Tryz.slices_Sort_string_none hS3.view (hS3.get (i:=0) rfl) rfl (fun b hb=>hS3.off _ (List.mem_of_getElem? (i:=0) rfl) b hb) (by have:=hsm1;unfold Sml at this;omega)) ?_)
 rintro _ w3 ⟨rfl,hg2,ho2⟩
 refine ⟨_,rfl,?_⟩
 have hS4:=hS3.growV (i:=0) (o':=vec v4 9 1 nodes_p.length ((srt nodes_p).flatMap Qj)) rfl hg2 rfl ho2 (ms':=[vec v4 9 1 nodes_p.length ((srt nodes_p).flatMap Qj)]) rfl
 have hS5:=hS4.re (ms':=[vec v4 9 1 ((srt nodes_p).length) ((srt nodes_p).flatMap Qj)]) (by simp only [J2])
 refine wpList_nil (Qo (Qu (Zc (v:=v4) rfl (Qv (v:=v4) rfl (wpList_nil (Qo (wp_ret (ret1 rfl (show ev _ _ _=v4 from rfl) ?_))))))))
 refine ⟨_,rfl,?_⟩
 refine Qv (v:=v4) rfl (wpList_nil (Qo (wp_seq (Qu (Zc (v:=v4) rfl ?_)))))
 obtain ⟨σ2,hS6,hsub2,hr4⟩:=hS5.peek (i:=0) rfl q4t (show Sml (srt nodes_p).length by rw [J2];exact hsm1)
 obtain ⟨Y1,hK1,hc1⟩:=hP
 refine q8l (args:=[v4]) rfl Tryz.call187 (Calls.mono (q3r (srt nodes_p) v4 hS6.view hr4 hc1) ?_)
 rintro _ w4 ⟨r1_,v5,rfl,hg3,hl1,hY1⟩
 refine ⟨_,rfl,?_⟩
 have hS7:=St.callM (ins:=[]) (rest:=[vec v4 9 1 ((srt nodes_p).length) ((srt nodes_p).flatMap Qj)]) (ms':=[vec v5 9 1 r1_.length ((r1_).flatMap Qj),vec v4 9 1 ((srt nodes_p).length) ((srt nodes_p).flatMap Qj)]) hS5 (St.back hg3 hsub2) rfl
 replace hP:=hK1 r1_ hY1
 obtain ⟨hsm2,hP⟩:=hP
 refine q8l (args:=[v5]) rfl Tryz.call184 (Calls.mono (j6l Tryz.slices_Compact_string Tryz.slices_Compact_string_empty hS7.view (hS7.get (i:=0) rfl) rfl (fun b hb=>hS7.off _ (List.mem_of_getElem? (i:=0) rfl) b hb) (by have:=hl1;unfold Sml at this;omega)) ?_)
 rintro _ w5 ⟨v6,rfl,hf1,hg4,ho3⟩
 refine ⟨_,rfl,?_⟩
 have ho4:=q1h ho3
 have hS8:=hS7.growV (i:=0) (o':=vec v6 9 1 ((cpt r1_).length) ((cpt r1_).flatMap Qj)) rfl hg4 hf1 ho3 (ms':=[vec v6 9 1 ((cpt r1_).length) ((cpt r1_).flatMap Qj),vec v4 9 1 ((srt nodes_p).length) ((srt nodes_p).flatMap Qj)]) rfl
 refine z9d hS8 rfl (i:=0) rfl Tryz.underlying44 ?_
 have hlen1:(cpt r1_).length<=9223372036854775807:=by have:=hsm2;unfold Sml at this;omega
 replace hP:=hP hlen1
 refine Zc (v:=v4) rfl (z9d hS8 rfl (i:=1) rfl Tryz.underlying44 ?_)
 have hlen2:(srt nodes_p).length<=9223372036854775807:=by have:=(show Sml (srt nodes_p).length by rw [J2];exact hsm1);unfold Sml at this;omega
 replace hP:=hP hlen2
 refine u0z (r:=(!decide ((((cpt r1_).length:Nat):Int)=(((srt nodes_p).length:Nat):Int)))) rfl rfl rfl (wpList_nil (Qo ?_))
 refine y8w ((((cpt r1_).length:Nat):Int)=(((srt nodes_p).length:Nat):Int)) rfl (fun ht1=> ?_) (fun ht1=> ?_)
 ·
  replace hP:=hP.2 ht1
  refine Qu (Qv (v:=(.slice none 0 0)) rfl (Qv (v:=(.int .i64 (10:Int))) rfl (wpList_nil (Qo (wp_ret (Bp (ret2 rfl (show ev _ _ _=(.slice none 0 0) from rfl) (show ev _ _ _=(.int .i64 (10:Int)) from rfl) ?_)))))))
  have hS9:=hS8.addNil 9 1
  exact ⟨[],(10:Int),(.slice none 0 0),rfl,(St.back (hS9.keep 1 (ms':=[vec (.slice none 0 0) 9 1 0 []]) rfl) (Sub.refl _)),(by simp [Sml]),hP⟩
 ·
  replace hP:=hP.1 ht1
  refine wp_skip (Qo (Qu (v3u 9 1 Qj hS8 ?_)))
  intro b2 w6 hS10
  refine w8m (cs:=[(.map none)]) hS10 Tryz.zeroValue267 rfl ?_
  intro b3 w7 hS11
  refine w8l (T:=267) (vs:=[(.map (some b2))]) (cs':=[(.map (some b2))]) (ms':=(blk b3 267 [(.map (some b2))]::smap b2 (asl [])::vec v6 9 1 ((cpt r1_).length) ((cpt r1_).flatMap Qj)::vec v4 9 1 ((srt nodes_p).length) ((srt nodes_p).flatMap Qj)::Hs 9 1 Qj [])) (i:=0) hS11 rfl rfl rfl Tryz.sizeOf267 rfl (ones rfl) rfl (Nat.le_of_ble_eq_true rfl) rfl rfl ?_
  intro w8 hS12
  refine wpList_nil (Qo (wp_seq (Qu (Zc (v:=(.slice a2 edges_p.length cap2)) rfl (z00 rfl Tryz.underlying170 ?_)))))
  have hlen3:=RSl.len63 hr2
  replace hP:=hP hlen3
  refine Zc (v:=(.int .i64 (0:Int))) rfl (wpList_nil (Qo (wp_block ?_)))
  have hS13:=hS12.front 3 rfl (ms':=(vec v4 9 1 ((srt nodes_p).length) ((srt nodes_p).flatMap Qj)::blk b3 267 [(.map (some b2))]::smap b2 (asl [])::vec v6 9 1 ((cpt r1_).length) ((cpt r1_).flatMap Qj)::Hs 9 1 Qj [])) rfl
  have hS14:=hS13.front 3 rfl (ms':=(vec v6 9 1 ((cpt r1_).length) ((cpt r1_).flatMap Qj)::vec v4 9 1 ((srt nodes_p).length) ((srt nodes_p).flatMap Qj)::blk b3 267 [(.map (some b2))]::smap b2 (asl [])::Hs 9 1 Qj [])) rfl
  have hS15:=hS14.front 2 rfl (ms':=(blk b3 267 [(.map (some b2))]::vec v6 9 1 ((cpt r1_).length) ((cpt r1_).flatMap Qj)::vec v4 9 1 ((srt nodes_p).length) ((srt nodes_p).flatMap Qj)::smap b2 (asl [])::Hs 9 1 Qj [])) rfl
  have hS16:=hS15.front 3 rfl (ms':=(smap b2 (asl [])::blk b3 267 [(.map (some b2))]::vec v6 9 1 ((cpt r1_).length) ((cpt r1_).flatMap Qj)::vec v4 9 1 ((srt nodes_p).length) ((srt nodes_p).flatMap Qj)::Hs 9 1 Qj [])) rfl
  refine y1u (fun k_3 F_2 f z=> ∃(es2:EL ByteArray) (σ3:Hv) (g:Fr),f=(upd (upd (upd (upd (upd g 6 v4) 7 (.pointer (some ⟨b3,0,none⟩))) 24 (.slice a2 edges_p.length cap2)) 25 (.int .i64 ((edges_p.length:Nat):Int))) 26 (.int .i64 ((k_3:Nat):Int)))/\St ⟨w,σ,[]⟩ z σ3 (smap b2 (asl es2)::blk b3 267 [(.map (some b2))]::vec v6 9 1 ((cpt r1_).length) ((cpt r1_).flatMap Qj)::vec v4 9 1 ((srt nodes_p).length) ((srt nodes_p).flatMap Qj)::Hs 9 1 Qj es2)/\Sub σ1 σ3/\ELF es2 F_2) hP ⟨[],σ1,_,(Z0 rfl (Z0 rfl (Z0 rfl (Z0 rfl (Z0 rfl rfl))))),hS16,(Sub.refl _),ELF.nil⟩ ?_
  clear hP
  rintro k_3 F_2 Y2 hP f w9 ⟨es2,σ3,g,rfl,hS17,hsub3,hF2⟩
  refine Qu (v6e (r:=(decide (((k_3:Nat):Int)<((edges_p.length:Nat):Int)))) rfl rfl rfl (wpList_nil (Qo (wp_seq ?_))))
  refine if_d (((k_3:Nat):Int)<((edges_p.length:Nat):Int)) rfl (fun ht2=> ?_) (fun ht2=> ?_)
  ·
   replace hP:=hP.1 ht2
   refine wp_skip (Qo (wp_seq (wp_block (Qu ?_))))
   obtain ⟨x1_,hx1⟩:=getq (l:=edges_p) (k:=k_3) (by have:=ht2;omega)
   replace hP:=hP x1_ hx1
   obtain ⟨ad1,cs1,ha1,hl2,hr6,hR1,hlt1⟩:=RSl.at hr2 hx1
   cases hR1
   refine Rv (k:=k_3) (a':=(ad1.add (k_3*2))) (congrArg (fun z=>Value.slice z _ _) ha1) rfl rfl hlt1 Tryz.underlying170 Tryz.sizeOf217 rfl (y5j (cs:=[(.string x1_.1),(.string x1_.2)]) rfl Tryz.isAgg217 Tryz.sizeOf217 rfl (hr6.row (View.of (Sub.trans hsub1 hsub3) hS17.view)) (w8m (cs:=[(.string (⟨#[]⟩:ByteArray)),(.string (⟨#[]⟩:ByteArray))]) hS17 Tryz.zeroValue217 rfl ?_))
   intro b4 w10 hS18
   refine w8l (T:=217) (vs:=[(.string x1_.1),(.string x1_.2)]) (cs':=[(.string x1_.1),(.string x1_.2)]) (ms':=(blk b4 217 [(.string x1_.1),(.string x1_.2)]::smap b2 (asl es2)::blk b3 267 [(.map (some b2))]::vec v6 9 1 ((cpt r1_).length) ((cpt r1_).flatMap Qj)::vec v4 9 1 ((srt nodes_p).length) ((srt nodes_p).flatMap Qj)::Hs 9 1 Qj es2)) (i:=0) hS18 rfl rfl rfl Tryz.sizeOf217 rfl (ones rfl) rfl (Nat.le_of_ble_eq_true rfl) rfl rfl ?_
   intro w11 hS19
   refine wpList_nil (Qo (wp_seq (Qu (Zc (v:=v4) rfl (j6f (a':=⟨b4,0,none⟩) rfl Tryz.underlying217 rfl Tryz.sizeOf9 rfl (q6x (v:=(.string x1_.1)) rfl Tryz.isAgg9 (hS19.cell (i:=0) rfl rfl) ?_))))))
   obtain ⟨σ4,hS20,hsub4,hr7⟩:=hS19.peek (i:=4) rfl q4t (show Sml (srt nodes_p).length by rw [J2];exact hsm1)
   obtain ⟨Y3,hK2,hc2⟩:=hP
   refine q8l (args:=[v4,(.string x1_.1)]) rfl Tryz.call76 (Calls.mono (Vm (srt nodes_p) x1_.1 v4 hS20.view hr7 hc2) ?_)
   rintro _ w12 ⟨r2_,rfl,hg5,hY2⟩
   refine ⟨_,rfl,?_⟩
   have hg5b:=hg5.back hsub4
   have hS21:=hS19.grow hg5b
   replace hP:=hK2 r2_ hY2
   refine y1m (r:=(!r2_)) rfl rfl ?_
   rcases Bool.eq_false_or_eq_true (r2_) with hb1|hb1
   ·
    replace hP:=hP.1 hb1
    refine Zc (v:=(.bool false)) (congrArg Value.bool (congrArg Bool.not hb1)) (o_on rfl rfl (Zc (v:=v4) rfl (o_on rfl rfl (j6f (a':=⟨b4,1,none⟩) rfl Tryz.underlying217 rfl Tryz.sizeOf9 rfl (o_on rfl rfl (q6x (v:=(.string x1_.2)) rfl Tryz.isAgg9 (hS21.cell (i:=0) rfl rfl) (o_on rfl rfl ?_)))))))
    obtain ⟨σ5,hS22,hsub5,hr8⟩:=hS21.peek (i:=4) rfl q4t (show Sml (srt nodes_p).length by rw [J2];exact hsm1)
    obtain ⟨Y4,hK3,hc3⟩:=hP
    refine q8l (args:=[v4,(.string x1_.2)]) rfl Tryz.call76 (Calls.mono (Vm (srt nodes_p) x1_.2 v4 hS22.view hr8 hc3) ?_)
    rintro _ w13 ⟨r3_,rfl,hg6,hY3⟩
    refine ⟨_,rfl,?_⟩
    have hg6b:=hg6.back hsub5
    have hS23:=hS21.grow hg6b
    replace hP:=hK3 r3_ hY3
    refine o_on rfl rfl (y1m (r:=(!r3_)) rfl rfl (y1k (v:=(.bool (!r3_))) rfl rfl (wpList_nil (Qo ?_))))
    refine y8x rfl (fun ht3=> ?_) (fun ht3=> ?_)
    ·
     replace hP:=hP.2 (by first|(rw [ht3];exact Bool.false_ne_true)|simp [ht3])
     refine Qu (Qv (v:=(.slice none 0 0)) rfl (Qv (v:=(.int .i64 (11:Int))) rfl (wpList_nil (Qo (wp_ret (Bp (j4q (Bp (Bp (j4q (Bp (ret2 rfl (show ev _ _ _=(.slice none 0 0) from rfl) (show ev _ _ _=(.int .i64 (11:Int)) from rfl) ?_))))))))))))
     have hS24:=hS23.addNil 9 1
     exact ⟨[],(11:Int),(.slice none 0 0),rfl,(St.back (hS24.keep 1 (ms':=[vec (.slice none 0 0) 9 1 0 []]) rfl) (Sub.refl _)),(by simp [Sml]),hP⟩
    ·
     replace hP:=hP.1 ht3
     refine wp_skip (Qo (dr (fun z=>St ⟨w,σ,[]⟩ z σ3 [blk b4 217 [(.string x1_.1),(.string x1_.2)],blk b3 267 [(.map (some b2))],vec v6 9 1 ((cpt r1_).length) ((cpt r1_).flatMap Qj),vec v4 9 1 ((srt nodes_p).length) ((srt nodes_p).flatMap Qj)]) (by kernel_rfl) rfl ?_))
     have hS25:=hS23.drew
     refine dt 0 1 (v:=(.map (some b2))) (by kernel_rfl) rfl rfl (fun _ _ _ h=>h) (hS25.sublist (.cons_cons _ (.cons _ (.cons_cons _ (.cons_cons _ (.cons_cons _ (List.nil_sublist _))))))) (fun _ hJ _ hK=>q6x (v:=(.map (some b2))) rfl Tryz.isAgg267 (hJ.cell (i:=1) rfl rfl) ⟨rfl,hK⟩) (dt 1 3 (v:=(.pointer (some ⟨b4,0,none⟩))) (by kernel_rfl) rfl rfl (fun _ _ _ h=>h) (hS25.sublist (.cons_cons _ (.cons _ (.cons_cons _ (.cons_cons _ (.cons_cons _ (List.nil_sublist _))))))) (fun _ _ _ hK=>j6f (a':=⟨b4,0,none⟩) rfl Tryz.underlying217 rfl Tryz.sizeOf9 rfl ⟨rfl,hK⟩) (dt 2 7 (v:=(.string x1_.1)) (by kernel_rfl) rfl rfl (fun _ _ _ h=>h) (hS25.sublist (.cons_cons _ (.cons _ (.cons_cons _ (.cons_cons _ (.cons_cons _ (List.nil_sublist _))))))) (fun _ hJ _ hK=>q6x (v:=(.string x1_.1)) rfl Tryz.isAgg9 (hJ.cell (i:=0) rfl rfl) ⟨rfl,hK⟩) (dt 3 15 (v:=(.map (some b2))) (by kernel_rfl) rfl rfl (fun _ _ _ h=>h) (hS25.sublist (.cons_cons _ (.cons _ (.cons_cons _ (.cons_cons _ (.cons_cons _ (List.nil_sublist _))))))) (fun _ hJ _ hK=>q6x (v:=(.map (some b2))) rfl Tryz.isAgg267 (hJ.cell (i:=1) rfl rfl) ⟨rfl,hK⟩) (dt 4 31 (v:=(.pointer (some ⟨b4,0,none⟩))) (by kernel_rfl) rfl rfl (fun _ _ _ h=>h) (hS25.sublist (.cons_cons _ (.cons _ (.cons_cons _ (.cons_cons _ (.cons_cons _ (List.nil_sublist _))))))) (fun _ _ _ hK=>j6f (a':=⟨b4,0,none⟩) rfl Tryz.underlying217 rfl Tryz.sizeOf9 rfl ⟨rfl,hK⟩) (dt 5 63 (v:=(.string x1_.1)) (by kernel_rfl) rfl rfl (fun _ _ _ h=>h) (hS25.sublist (.cons_cons _ (.cons _ (.cons_cons _ (.cons_cons _ (.cons_cons _ (List.nil_sublist _))))))) (fun _ hJ _ hK=>q6x (v:=(.string x1_.1)) rfl Tryz.isAgg9 (hJ.cell (i:=0) rfl rfl) ⟨rfl,hK⟩) (dt 7 191 (v:=(.pointer (some ⟨b4,1,none⟩))) (by kernel_rfl) rfl rfl (fun _ _ _ h=>h) (hS25.sublist (.cons_cons _ (.cons _ (.cons_cons _ (.cons_cons _ (.cons_cons _ (List.nil_sublist _))))))) (fun _ _ _ hK=>j6f (a':=⟨b4,1,none⟩) rfl Tryz.underlying217 rfl Tryz.sizeOf9 rfl ⟨rfl,hK⟩) (dt 8 447 (v:=(.string x1_.2)) (by kernel_rfl) rfl rfl (fun _ _ _ h=>h) (hS25.sublist (.cons_cons _ (.cons _ (.cons_cons _ (.cons_cons _ (.cons_cons _ (List.nil_sublist _))))))) (fun _ hJ _ hK=>q6x (v:=(.string x1_.2)) rfl Tryz.isAgg9 (hJ.cell (i:=0) rfl rfl) ⟨rfl,hK⟩) ?_)))))))
     refine d2 6 9 511 959 (by kernel_rfl) rfl rfl rfl rfl ?_ ?_
     ·
      obtain ⟨v7,hv1⟩: ∃v,(asl es2 x1_.1).getD (.slice none 0 0)=v:=⟨_,rfl⟩
      refine v6n (i:=1) (v:=v7) hS25 rfl rfl rfl Tryz.underlying267 Tryz.underlying9 Tryz.zeroValue44 hv1 (wpList_nil ?_)
      refine ⟨rfl,(hS25.sublist (.cons_cons _ (.cons _ (.cons_cons _ (.cons_cons _ (.cons_cons _ (List.nil_sublist _))))))),?_⟩
      refine d1 9 1023 (by kernel_rfl) rfl (j5m (cs:=[(.string x1_.2)]) (e:=9) hS25 (fun _=>by kernel_rfl) ?_)
      intro b5 w14 hS26
      refine wpList_nil ?_
      refine ⟨rfl,(hS26.sublist (.cons _ (.cons_cons _ (.cons _ (.cons_cons _ (.cons_cons _ (.cons_cons _ (List.nil_sublist _)))))))),?_⟩
      refine d1 10 2047 (by kernel_rfl) rfl ?_
      obtain ⟨es3,hS27,hL1,hl3⟩:=St.borrow (ms:=[blk b5 9 [(.string x1_.2)],blk b4 217 [(.string x1_.1),(.string x1_.2)],smap b2 (asl es2),blk b3 267 [(.map (some b2))],vec v6 9 1 ((cpt r1_).length) ((cpt r1_).flatMap Qj),vec v4 9 1 ((srt nodes_p).length) ((srt nodes_p).flatMap Qj)]) hS26 hF2 x1_.1 hv1
      obtain ⟨hsm3,hP⟩:=hP
      refine y5r (Ms:=fun v8=>(vec v8 9 1 ((((F_2 x1_.1).getD [])++[x1_.2]).length) ((((F_2 x1_.1).getD [])++[x1_.2]).flatMap Qj)::blk b5 9 [(.string x1_.2)]::blk b4 217 [(.string x1_.1),(.string x1_.2)]::smap b2 (asl es2)::blk b3 267 [(.map (some b2))]::vec v6 9 1 ((cpt r1_).length) ((cpt r1_).flatMap Qj)::vec v4 9 1 ((srt nodes_p).length) ((srt nodes_p).flatMap Qj)::Hs 9 1 Qj es3)) (k':=(((F_2 x1_.1).getD [])++[x1_.2]).length) (xs':=(((F_2 x1_.1).getD [])++[x1_.2]).flatMap Qj) Tryz.underlying44 Tryz.type9 rfl rfl (bytes:=16) rfl rfl (Nat.succ_pos _) hS27 rfl (q:=0) rfl rfl rfl (q9e (hS27.get (i:=1) rfl)) (ones rfl) hsm3 (by omega) (by first|rfl|exact List.length_append.symm|simp) (by simp [Qj]) (fun _=>rfl) ?_
      intro v8 w15 ho5 hS28
      have hS29:=hS28.drop 1 (ms':=(vec v8 9 1 ((((F_2 x1_.1).getD [])++[x1_.2]).length) ((((F_2 x1_.1).getD [])++[x1_.2]).flatMap Qj)::blk b4 217 [(.string x1_.1),(.string x1_.2)]::smap b2 (asl es2)::blk b3 267 [(.map (some b2))]::vec v6 9 1 ((cpt r1_).length) ((cpt r1_).flatMap Qj)::vec v4 9 1 ((srt nodes_p).length) ((srt nodes_p).flatMap Qj)::Hs 9 1 Qj es3)) rfl
      refine wpList_nil ?_
      refine ⟨rfl,(hS29.sublist (.cons _ (.cons_cons _ (.cons _ (.cons_cons _ (.cons_cons _ (.cons_cons _ (List.nil_sublist _)))))))),?_⟩
      refine d1 11 4095 (by kernel_rfl) rfl (y5o (v:=v8) (i:=2) (ms':=(vec v8 9 1 ((((F_2 x1_.1).getD [])++[x1_.2]).length) ((((F_2 x1_.1).getD [])++[x1_.2]).flatMap Qj)::blk b4 217 [(.string x1_.1),(.string x1_.2)]::smap b2 (fun k'=>if k'=x1_.1 then some v8 else asl es2 k')::blk b3 267 [(.map (some b2))]::vec v6 9 1 ((cpt r1_).length) ((cpt r1_).flatMap Qj)::vec v4 9 1 ((srt nodes_p).length) ((srt nodes_p).flatMap Qj)::Hs 9 1 Qj es3)) hS29 rfl rfl rfl rfl Tryz.underlying267 Tryz.underlying9 rfl ?_)
      intro w16 hS30
      have hS32:=St.giveback (ms:=[blk b4 217 [(.string x1_.1),(.string x1_.2)],smap b2 (fun k'=>if k'=x1_.1 then some v8 else asl es2 k'),blk b3 267 [(.map (some b2))],vec v6 9 1 ((cpt r1_).length) ((cpt r1_).flatMap Qj),vec v4 9 1 ((srt nodes_p).length) ((srt nodes_p).flatMap Qj)]) (ms':=[blk b4 217 [(.string x1_.1),(.string x1_.2)],smap b2 (asl ((x1_.1,v8,((F_2 x1_.1).getD [])++[x1_.2])::es3)),blk b3 267 [(.map (some b2))],vec v6 9 1 ((cpt r1_).length) ((cpt r1_).flatMap Qj),vec v4 9 1 ((srt nodes_p).length) ((srt nodes_p).flatMap Qj)]) (i:=1) hS30 hL1 rfl rfl
      have hF3:=ELF.put (v:=v8) hF2 hL1 hsm3
      refine wpList_nil ?_
      refine ⟨rfl,(hS32.sublist (.cons_cons _ (.cons _ (.cons_cons _ (.cons_cons _ (.cons_cons _ (List.nil_sublist _))))))),j5n (J':=fun z=>St ⟨w,σ,[]⟩ z σ3 (blk b4 217 [(.string x1_.1),(.string x1_.2)]::smap b2 (asl ((x1_.1,v8,((F_2 x1_.1).getD [])++[x1_.2])::es3))::blk b3 267 [(.map (some b2))]::vec v6 9 1 ((cpt r1_).length) ((cpt r1_).flatMap Qj)::vec v4 9 1 ((srt nodes_p).length) ((srt nodes_p).flatMap Qj)::Hs 9 1 Qj ((x1_.1,v8,((F_2 x1_.1).getD [])++[x1_.2])::es3))) (fun w h=>h.sublist (.cons_cons _ (.cons _ (.cons_cons _ (.cons_cons _ (.cons_cons _ (List.nil_sublist _))))))) _ _ _ _ ?_⟩
      refine dz (by kernel_rfl) (v3p (Qo (j1t (v3o (r:=((k_3+1:Nat):Int)) rfl rfl (nw (by omega) (by omega) (by have:=hlen3;omega)) (Zc (v:=(.int .i64 ((k_3+1:Nat):Int))) rfl (wpList_nil (Qo ?_)))))))
      exact ⟨k_3+1,(put F_2 x1_.1 (((F_2 x1_.1).getD [])++[x1_.2])),_,rfl,hP,((x1_.1,v8,((F_2 x1_.1).getD [])++[x1_.2])::es3),σ3,_,(Z0 rfl (Z0 rfl (Z0 rfl (Z0 rfl (Z0 rfl rfl))))),(hS32.sublist (ms':=(smap b2 (asl ((x1_.1,v8,((F_2 x1_.1).getD [])++[x1_.2])::es3))::blk b3 267 [(.map (some b2))]::vec v6 9 1 ((cpt r1_).length) ((cpt r1_).flatMap Qj)::vec v4 9 1 ((srt nodes_p).length) ((srt nodes_p).flatMap Qj)::Hs 9 1 Qj ((x1_.1,v8,((F_2 x1_.1).getD [])++[x1_.2])::es3))) (.cons _ (List.Sublist.refl _))),hsub3,hF3⟩
     ·
      refine j5m (cs:=[(.string x1_.2)]) (e:=9) hS25 (fun _=>by kernel_rfl) ?_
      intro b5 w14 hS26
      refine wpList_nil ?_
      refine ⟨rfl,(hS26.sublist (.cons _ (.cons_cons _ (.cons _ (.cons_cons _ (.cons_cons _ (.cons_cons _ (List.nil_sublist _)))))))),?_⟩
      refine d1 6 1023 (by kernel_rfl) rfl ?_
      obtain ⟨v7,hv1⟩: ∃v,(asl es2 x1_.1).getD (.slice none 0 0)=v:=⟨_,rfl⟩
      refine v6n (i:=2) (v:=v7) hS26 rfl rfl rfl Tryz.underlying267 Tryz.underlying9 Tryz.zeroValue44 hv1 (wpList_nil ?_)
      refine ⟨rfl,(hS26.sublist (.cons _ (.cons_cons _ (.cons _ (.cons_cons _ (.cons_cons _ (.cons_cons _ (List.nil_sublist _)))))))),?_⟩
      refine d1 10 2047 (by kernel_rfl) rfl ?_
      obtain ⟨es3,hS27,hL1,hl3⟩:=St.borrow (ms:=[blk b5 9 [(.string x1_.2)],blk b4 217 [(.string x1_.1),(.string x1_.2)],smap b2 (asl es2),blk b3 267 [(.map (some b2))],vec v6 9 1 ((cpt r1_).length) ((cpt r1_).flatMap Qj),vec v4 9 1 ((srt nodes_p).length) ((srt nodes_p).flatMap Qj)]) hS26 hF2 x1_.1 hv1
      obtain ⟨hsm3,hP⟩:=hP
      refine y5r (Ms:=fun v8=>(vec v8 9 1 ((((F_2 x1_.1).getD [])++[x1_.2]).length) ((((F_2 x1_.1).getD [])++[x1_.2]).flatMap Qj)::blk b5 9 [(.string x1_.2)]::blk b4 217 [(.string x1_.1),(.string x1_.2)]::smap b2 (asl es2)::blk b3 267 [(.map (some b2))]::vec v6 9 1 ((cpt r1_).length) ((cpt r1_).flatMap Qj)::vec v4 9 1 ((srt nodes_p).length) ((srt nodes_p).flatMap Qj)::Hs 9 1 Qj es3)) (k':=(((F_2 x1_.1).getD [])++[x1_.2]).length) (xs':=(((F_2 x1_.1).getD [])++[x1_.2]).flatMap Qj) Tryz.underlying44 Tryz.type9 rfl rfl (bytes:=16) rfl rfl (Nat.succ_pos _) hS27 rfl (q:=0) rfl rfl rfl (q9e (hS27.get (i:=1) rfl)) (ones rfl) hsm3 (by omega) (by first|rfl|exact List.length_append.symm|simp) (by simp [Qj]) (fun _=>rfl) ?_
      intro v8 w15 ho5 hS28
      have hS29:=hS28.drop 1 (ms':=(vec v8 9 1 ((((F_2 x1_.1).getD [])++[x1_.2]).length) ((((F_2 x1_.1).getD [])++[x1_.2]).flatMap Qj)::blk b4 217 [(.string x1_.1),(.string x1_.2)]::smap b2 (asl es2)::blk b3 267 [(.map (some b2))]::vec v6 9 1 ((cpt r1_).length) ((cpt r1_).flatMap Qj)::vec v4 9 1 ((srt nodes_p).length) ((srt nodes_p).flatMap Qj)::Hs 9 1 Qj es3)) rfl
      refine wpList_nil ?_
      refine ⟨rfl,(hS29.sublist (.cons _ (.cons_cons _ (.cons _ (.cons_cons _ (.cons_cons _ (.cons_cons _ (List.nil_sublist _)))))))),?_⟩
      refine d1 11 4095 (by kernel_rfl) rfl (y5o (v:=v8) (i:=2) (ms':=(vec v8 9 1 ((((F_2 x1_.1).getD [])++[x1_.2]).length) ((((F_2 x1_.1).getD [])++[x1_.2]).flatMap Qj)::blk b4 217 [(.string x1_.1),(.string x1_.2)]::smap b2 (fun k'=>if k'=x1_.1 then some v8 else asl es2 k')::blk b3 267 [(.map (some b2))]::vec v6 9 1 ((cpt r1_).length) ((cpt r1_).flatMap Qj)::vec v4 9 1 ((srt nodes_p).length) ((srt nodes_p).flatMap Qj)::Hs 9 1 Qj es3)) hS29 rfl rfl rfl rfl Tryz.underlying267 Tryz.underlying9 rfl ?_)
      intro w16 hS30
      have hS32:=St.giveback (ms:=[blk b4 217 [(.string x1_.1),(.string x1_.2)],smap b2 (fun k'=>if k'=x1_.1 then some v8 else asl es2 k'),blk b3 267 [(.map (some b2))],vec v6 9 1 ((cpt r1_).length) ((cpt r1_).flatMap Qj),vec v4 9 1 ((srt nodes_p).length) ((srt nodes_p).flatMap Qj)]) (ms':=[blk b4 217 [(.string x1_.1),(.string x1_.2)],smap b2 (asl ((x1_.1,v8,((F_2 x1_.1).getD [])++[x1_.2])::es3)),blk b3 267 [(.map (some b2))],vec v6 9 1 ((cpt r1_).length) ((cpt r1_).flatMap Qj),vec v4 9 1 ((srt nodes_p).length) ((srt nodes_p).flatMap Qj)]) (i:=1) hS30 hL1 rfl rfl
      have hF3:=ELF.put (v:=v8) hF2 hL1 hsm3
      refine wpList_nil ?_
      refine ⟨rfl,(hS32.sublist (.cons_cons _ (.cons _ (.cons_cons _ (.cons_cons _ (.cons_cons _ (List.nil_sublist _))))))),j5n (J':=fun z=>St ⟨w,σ,[]⟩ z σ3 (blk b4 217 [(.string x1_.1),(.string x1_.2)]::smap b2 (asl ((x1_.1,v8,((F_2 x1_.1).getD [])++[x1_.2])::es3))::blk b3 267 [(.map (some b2))]::vec v6 9 1 ((cpt r1_).length) ((cpt r1_).flatMap Qj)::vec v4 9 1 ((srt nodes_p).length) ((srt nodes_p).flatMap Qj)::Hs 9 1 Qj ((x1_.1,v8,((F_2 x1_.1).getD [])++[x1_.2])::es3))) (fun w h=>h.sublist (.cons_cons _ (.cons _ (.cons_cons _ (.cons_cons _ (.cons_cons _ (List.nil_sublist _))))))) _ _ _ _ ?_⟩
      refine dz (by kernel_rfl) (v3p (Qo (j1t (v3o (r:=((k_3+1:Nat):Int)) rfl rfl (nw (by omega) (by omega) (by have:=hlen3;omega)) (Zc (v:=(.int .i64 ((k_3+1:Nat):Int))) rfl (wpList_nil (Qo ?_)))))))
      exact ⟨k_3+1,(put F_2 x1_.1 (((F_2 x1_.1).getD [])++[x1_.2])),_,rfl,hP,((x1_.1,v8,((F_2 x1_.1).getD [])++[x1_.2])::es3),σ3,_,(Z0 rfl (Z0 rfl (Z0 rfl (Z0 rfl (Z0 rfl rfl))))),(hS32.sublist (ms':=(smap b2 (asl ((x1_.1,v8,((F_2 x1_.1).getD [])++[x1_.2])::es3))::blk b3 267 [(.map (some b2))]::vec v6 9 1 ((cpt r1_).length) ((cpt r1_).flatMap Qj)::vec v4 9 1 ((srt nodes_p).length) ((srt nodes_p).flatMap Qj)::Hs 9 1 Qj ((x1_.1,v8,((F_2 x1_.1).getD [])++[x1_.2])::es3))) (.cons _ (List.Sublist.refl _))),hsub3,hF3⟩
   ·
    replace hP:=hP.2 (by first|(rw [hb1];exact Bool.false_ne_true)|simp [hb1])
    refine Zc (v:=(.bool true)) (congrArg Value.bool (congrArg Bool.not hb1)) (v6d rfl rfl (v6d rfl rfl (v6d rfl rfl (v6d rfl rfl (v6d rfl rfl (y1j (v:=(.bool true)) rfl rfl (wpList_nil (Qo (if_t rfl (Qu (Qv (v:=(.slice none 0 0)) rfl (Qv (v:=(.int .i64 (11:Int))) rfl (wpList_nil (Qo (wp_ret (Bp (j4q (Bp (Bp (j4q (Bp (ret2 rfl (show ev _ _ _=(.slice none 0 0) from rfl) (show ev _ _ _=(.int .i64 (11:Int)) from rfl) ?_))))))))))))))))))))))
    have hS33:=hS21.addNil 9 1
    exact ⟨[],(11:Int),(.slice none 0 0),rfl,(St.back (hS33.keep 1 (ms':=[vec (.slice none 0 0) 9 1 0 []]) rfl) (Sub.refl _)),(by simp [Sml]),hP⟩
  ·
   replace hP:=hP.2 ht2
   refine wp_exit (z6u (z6u (j6h (Qo (Qu (Qv (v:=(.slice none 0 0)) rfl (wpList_nil (Qo (Qu (y5p (fun y:Bool=>(Value.bool (y))) hS17 ?_))))))))))
   intro b6 w17 hS34
   refine w8m (cs:=[(.map none)]) hS34 Tryz.zeroValue268 rfl ?_
   intro b7 w18 hS35
   refine w8l (T:=268) (vs:=[(.map (some b6))]) (cs':=[(.map (some b6))]) (ms':=(blk b7 268 [(.map (some b6))]::emap b6 (fun y:Bool=>(Value.bool (y))) (fun _=>none)::smap b2 (asl es2)::blk b3 267 [(.map (some b2))]::vec v6 9 1 ((cpt r1_).length) ((cpt r1_).flatMap Qj)::vec v4 9 1 ((srt nodes_p).length) ((srt nodes_p).flatMap Qj)::Hs 9 1 Qj es2)) (i:=0) hS35 rfl rfl rfl Tryz.sizeOf268 rfl (ones rfl) rfl (Nat.le_of_ble_eq_true rfl) rfl rfl ?_
   intro w19 hS36
   refine wpList_nil (Qo (wp_seq (wp_block ?_)))
   obtain ⟨σ6,hS37,hsub6,hr9⟩:=St.freezeL (ms:=[blk b7 268 [(.map (some b6))],emap b6 (fun y:Bool=>(Value.bool (y))) (fun _=>none),smap b2 (asl es2),blk b3 267 [(.map (some b2))],vec v6 9 1 ((cpt r1_).length) ((cpt r1_).flatMap Qj),vec v4 9 1 ((srt nodes_p).length) ((srt nodes_p).flatMap Qj)]) (ms':=[blk b7 268 [(.map (some b6))],emap b6 (fun y:Bool=>(Value.bool (y))) (fun _=>none),blk b3 267 [(.map (some b2))],vec v6 9 1 ((cpt r1_).length) ((cpt r1_).flatMap Qj),vec v4 9 1 ((srt nodes_p).length) ((srt nodes_p).flatMap Qj)]) (i:=2) hS36 hF2 q4t rfl rfl
   have hS38:=hS37.addNil 9 1
   have hS39:=hS38.front 4 rfl (ms':=[vec v6 9 1 ((cpt r1_).length) ((cpt r1_).flatMap Qj),vec (.slice none 0 0) 9 1 0 [],blk b7 268 [(.map (some b6))],emap b6 (fun y:Bool=>(Value.bool (y))) (fun _=>none),blk b3 267 [(.map (some b2))],vec v4 9 1 ((srt nodes_p).length) ((srt nodes_p).flatMap Qj)]) rfl
   have hS40:=hS39.front 4 rfl (ms':=[blk b3 267 [(.map (some b2))],vec v6 9 1 ((cpt r1_).length) ((cpt r1_).flatMap Qj),vec (.slice none 0 0) 9 1 0 [],blk b7 268 [(.map (some b6))],emap b6 (fun y:Bool=>(Value.bool (y))) (fun _=>none),vec v4 9 1 ((srt nodes_p).length) ((srt nodes_p).flatMap Qj)]) rfl
   have hS41:=hS40.front 3 rfl (ms':=[blk b7 268 [(.map (some b6))],blk b3 267 [(.map (some b2))],vec v6 9 1 ((cpt r1_).length) ((cpt r1_).flatMap Qj),vec (.slice none 0 0) 9 1 0 [],emap b6 (fun y:Bool=>(Value.bool (y))) (fun _=>none),vec v4 9 1 ((srt nodes_p).length) ((srt nodes_p).flatMap Qj)]) rfl
   have hS42:=hS41.front 4 rfl (ms':=[emap b6 (fun y:Bool=>(Value.bool (y))) (fun _=>none),blk b7 268 [(.map (some b6))],blk b3 267 [(.map (some b2))],vec v6 9 1 ((cpt r1_).length) ((cpt r1_).flatMap Qj),vec (.slice none 0 0) 9 1 0 [],vec v4 9 1 ((srt nodes_p).length) ((srt nodes_p).flatMap Qj)]) rfl
   have hS43:=hS42.front 4 rfl (ms':=[vec (.slice none 0 0) 9 1 0 [],emap b6 (fun y:Bool=>(Value.bool (y))) (fun _=>none),blk b7 268 [(.map (some b6))],blk b3 267 [(.map (some b2))],vec v6 9 1 ((cpt r1_).length) ((cpt r1_).flatMap Qj),vec v4 9 1 ((srt nodes_p).length) ((srt nodes_p).flatMap Qj)]) rfl
   have hS44:=hS43.front 5 rfl (ms':=[vec v4 9 1 ((srt nodes_p).length) ((srt nodes_p).flatMap Qj),vec (.slice none 0 0) 9 1 0 [],emap b6 (fun y:Bool=>(Value.bool (y))) (fun _=>none),blk b7 268 [(.map (some b6))],blk b3 267 [(.map (some b2))],vec v6 9 1 ((cpt r1_).length) ((cpt r1_).flatMap Qj)]) rfl
   refine y1v (fun left_3 out_3 F_4 f z=> ∃(v13:Value) (v14:Value) (σ7:Hv) (g:Fr),f=(upd (upd (upd (upd g 6 v13) 7 (.pointer (some ⟨b3,0,none⟩))) 10 v14) 11 (.pointer (some ⟨b7,0,none⟩)))/\St ⟨w,σ,[]⟩ z σ7 [vec v13 9 1 left_3.length ((left_3).flatMap Qj),vec v14 9 1 out_3.length ((out_3).flatMap Qj),emap b6 (fun y:Bool=>(Value.bool (y))) F_4,blk b7 268 [(.map (some b6))],blk b3 267 [(.map (some b2))],vec v6 9 1 ((cpt r1_).length) ((cpt r1_).flatMap Qj)]/\Sub σ6 σ7/\v13.oneCell'=true/\Sml left_3.length/\v14.oneCell'=true/\Sml out_3.length) hP ⟨v4,(.slice none 0 0),σ6,_,(Z0 rfl (Z0 rfl (Z0 rfl (Z0 rfl rfl)))),hS44,(Sub.refl _),(q1h ho1.1),(show Sml (srt nodes_p).length by rw [J2];exact hsm1),rfl,(by simp [Sml])⟩ ?_
   clear hP
   rintro left_3 out_3 F_4 Y5 hP f w20 ⟨v13,v14,σ7,g,rfl,hS45,hsub7,ho10,hl8,ho11,hl9⟩
   refine wp_seq (Qu (Zc (v:=v13) rfl (z9d hS45 rfl (i:=0) rfl Tryz.underlying44 ?_)))
   have hlen4:left_3.length<=9223372036854775807:=by have:=hl8;unfold Sml at this;omega
   replace hP:=hP hlen4
   refine u00 (r:=(decide ((0:Int)<((left_3.length:Nat):Int)))) rfl rfl rfl (wpList_nil (Qo ?_))
   refine if_d ((0:Int)<((left_3.length:Nat):Int)) rfl (fun ht4=> ?_) (fun ht4=> ?_)
   ·
    replace hP:=hP.1 ht4
    refine wp_skip (Qo (wp_block (Qu (Zc (v:=v13) rfl (j1u (la:=[]) (lb:=[(.pointer (some ⟨b3,0,none⟩)),(.pointer (some ⟨b7,0,none⟩))]) rfl rfl ?_)))))
    obtain ⟨Y6,hK4,hP⟩:=hP
    refine q8l (args:=[v13,(.func (.func 189) #[] #[(.pointer (some ⟨b3,0,none⟩)),(.pointer (some ⟨b7,0,none⟩))])]) rfl Tryz.call188 (Calls.mono (R:=fun e z=> ∃(r_1:Int) (σ8:Hv),e= .returned (.int .i64 r_1)/\Y6 r_1/\St ⟨w,σ,[]⟩ z σ8 [vec v13 9 1 left_3.length ((left_3).flatMap Qj),vec v14 9 1 out_3.length ((out_3).flatMap Qj),emap b6 (fun y:Bool=>(Value.bool (y))) F_4,blk b7 268 [(.map (some b6))],blk b3 267 [(.map (some b2))],vec v6 9 1 ((cpt r1_).length) ((cpt r1_).flatMap Qj)]/\Sub σ7 σ8) ?_ ?_)
    ·
     refine enter Tryz.func188 rfl rfl rfl ?_
     refine Qu (Qv (v:=(.int .i64 (0:Int))) rfl (wpList_nil (Qo (wp_seq (Qu (Zc (v:=v13) rfl (z9d hS45 rfl (i:=0) rfl Tryz.underlying44 (Zc (v:=(.int .i64 (0:Int))) rfl (wpList_nil (Qo (wp_block ?_)))))))))))
     refine w2j (fun k_5 f z=> ∃(σ9:Hv) (g:Fr),f=(upd (upd (upd (upd g 0 v13) 1 (.func (.func 189) #[] #[(.pointer (some ⟨b3,0,none⟩)),(.pointer (some ⟨b7,0,none⟩))])) 7 (.int .i64 ((left_3.length:Nat):Int))) 8 (.int .i64 ((k_5:Nat):Int)))/\St ⟨w,σ,[]⟩ z σ9 [vec v13 9 1 left_3.length ((left_3).flatMap Qj),vec v14 9 1 out_3.length ((out_3).flatMap Qj),emap b6 (fun y:Bool=>(Value.bool (y))) F_4,blk b7 268 [(.map (some b6))],blk b3 267 [(.map (some b2))],vec v6 9 1 ((cpt r1_).length) ((cpt r1_).flatMap Qj)]/\Sub σ7 σ9) hP ⟨σ7,_,(Z0 rfl (Z0 rfl (Z0 rfl (Z0 rfl rfl)))),hS45,(Sub.refl _)⟩ ?_
     clear hP
     rintro k_5 Y7 hP f w21 ⟨σ9,g,rfl,hS46,hsub9⟩
     refine Qu (v6e (r:=(decide (((k_5:Nat):Int)<((left_3.length:Nat):Int)))) rfl rfl rfl (wpList_nil (Qo (wp_seq ?_))))
     refine if_d (((k_5:Nat):Int)<((left_3.length:Nat):Int)) rfl (fun ht5=> ?_) (fun ht5=> ?_)
     ·
      replace hP:=hP.1 ht5
      refine wp_skip (Qo (wp_seq (wp_block (Qu (Zc (v:=(.int .i64 ((k_5:Nat):Int))) rfl (Qv (v:=(.int .i64 ((k_5:Nat):Int))) rfl (wpList_nil (Qo (Qu (Zc (v:=(.func (.func 189) #[] #[(.pointer (some ⟨b3,0,none⟩)),(.pointer (some ⟨b7,0,none⟩))])) rfl (Zc (v:=v13) rfl (Zc (v:=(.int .i64 ((k_5:Nat):Int))) rfl ?_))))))))))))
      obtain ⟨x2_,hx2⟩:=getq (l:=left_3) (k:=k_5) (by have:=ht5;omega)
      replace hP:=hP x2_ hx2
      obtain ⟨g1,cp1,hv2⟩:=w2k (hS46.get (i:=0) rfl) (Qm hx2)
      refine Rv (k:=k_5) (a':=⟨g1,k_5*1,none⟩) hv2 rfl rfl (Qm hx2) Tryz.underlying44 Tryz.sizeOf9 (by simp [Ui]) (q6x (v:=(.string x2_)) rfl Tryz.isAgg9 (j6m q4t (j:=0) hv2 (hS46.get (i:=0) rfl) hx2 rfl) (v6h (args:=[(.string x2_),(.pointer (some ⟨b3,0,none⟩)),(.pointer (some ⟨b7,0,none⟩))]) rfl rfl Tryz.call189 ?_))
      refine enter Tryz.func189 rfl rfl rfl ?_
      refine Qu (Qv (v:=(.bool false)) rfl (wpList_nil (Qo (Qu (q6x (v:=(.map (some b2))) rfl Tryz.isAgg267 (hS46.cell (i:=4) rfl rfl) (Zc (v:=(.string x2_)) rfl ?_))))))
      obtain ⟨v15,hl10,hz1⟩:=RMp.at (z:= .slice none 0 0) (z0:=[]) RSl.nil hr9 x2_
      obtain ⟨a3,cap3,rfl⟩:=hz1.shape
      refine y5s (v:=(.slice a3 ((F_2 x2_).getD []).length cap3)) hl10 (View.of (Sub.trans hsub7 hsub9) hS46.view) rfl rfl Tryz.underlying267 Tryz.underlying9 Tryz.zeroValue44 (j1u (la:=[]) (lb:=[(.pointer (some ⟨b7,0,none⟩))]) rfl rfl (q8l (args:=[(.slice a3 ((F_2 x2_).getD []).length cap3),(.func (.func 191) #[] #[(.pointer (some ⟨b7,0,none⟩))])]) rfl Tryz.call190 ?_))
      refine enter Tryz.func190 rfl rfl rfl ?_
      refine Qu (Qv (v:=(.bool false)) rfl (wpList_nil (Qo (Qu (Zc (v:=(.slice a3 ((F_2 x2_).getD []).length cap3)) rfl (Zc (v:=(.func (.func 191) #[] #[(.pointer (some ⟨b7,0,none⟩))])) rfl ?_))))))
      obtain ⟨Y8,hK5,hP⟩:=hP
      refine q8l (args:=[(.slice a3 ((F_2 x2_).getD []).length cap3),(.func (.func 191) #[] #[(.pointer (some ⟨b7,0,none⟩))])]) rfl Tryz.call188 (Calls.mono (R:=fun e z=> ∃(r_2:Int) (σ10:Hv),e= .returned (.int .i64 r_2)/\Y8 r_2/\St ⟨w,σ,[]⟩ z σ10 [vec v13 9 1 left_3.length ((left_3).flatMap Qj),vec v14 9 1 out_3.length ((out_3).flatMap Qj),emap b6 (fun y:Bool=>(Value.bool (y))) F_4,blk b7 268 [(.map (some b6))],blk b3 267 [(.map (some b2))],vec v6 9 1 ((cpt r1_).length) ((cpt r1_).flatMap Qj)]/\Sub σ9 σ10) ?_ ?_)
      ·
       refine enter Tryz.func188 rfl rfl rfl ?_
       refine Qu (Qv (v:=(.int .i64 (0:Int))) rfl (wpList_nil (Qo (wp_seq (Qu (Zc (v:=(.slice a3 ((F_2 x2_).getD []).length cap3)) rfl (z00 rfl Tryz.underlying44 ?_)))))))
       have hlen6:=RSl.len63 hz1
       replace hP:=hP hlen6
       refine Zc (v:=(.int .i64 (0:Int))) rfl (wpList_nil (Qo (wp_block ?_)))
       refine w2j (fun k_7 f z=> ∃(σ11:Hv) (g:Fr),f=(upd (upd (upd (upd g 0 (.slice a3 ((F_2 x2_).getD []).length cap3)) 1 (.func (.func 191) #[] #[(.pointer (some ⟨b7,0,none⟩))])) 7 (.int .i64 ((((F_2 x2_).getD []).length:Nat):Int))) 8 (.int .i64 ((k_7:Nat):Int)))/\St ⟨w,σ,[]⟩ z σ11 [vec v13 9 1 left_3.length ((left_3).flatMap Qj),vec v14 9 1 out_3.length ((out_3).flatMap Qj),emap b6 (fun y:Bool=>(Value.bool (y))) F_4,blk b7 268 [(.map (some b6))],blk b3 267 [(.map (some b2))],vec v6 9 1 ((cpt r1_).length) ((cpt r1_).flatMap Qj)]/\Sub σ9 σ11) hP ⟨σ9,_,(Z0 rfl (Z0 rfl (Z0 rfl (Z0 rfl rfl)))),hS46,(Sub.refl _)⟩ ?_
       clear hP
       rintro k_7 Y9 hP f w22 ⟨σ11,g,rfl,hS47,hsub11⟩
       refine Qu (v6e (r:=(decide (((k_7:Nat):Int)<((((F_2 x2_).getD []).length:Nat):Int)))) rfl rfl rfl (wpList_nil (Qo (wp_seq ?_))))
       refine if_d (((k_7:Nat):Int)<((((F_2 x2_).getD []).length:Nat):Int)) rfl (fun ht6=> ?_) (fun ht6=> ?_)
       ·
        replace hP:=hP.1 ht6
        refine wp_skip (Qo (wp_seq (wp_block (Qu (Zc (v:=(.int .i64 ((k_7:Nat):Int))) rfl (Qv (v:=(.int .i64 ((k_7:Nat):Int))) rfl (wpList_nil (Qo (Qu (Zc (v:=(.func (.func 191) #[] #[(.pointer (some ⟨b7,0,none⟩))])) rfl (Zc (v:=(.slice a3 ((F_2 x2_).getD []).length cap3)) rfl (Zc (v:=(.int .i64 ((k_7:Nat):Int))) rfl ?_))))))))))))
        obtain ⟨x3_,hx3⟩:=getq (l:=((F_2 x2_).getD [])) (k:=k_7) (by have:=ht6;omega)
        replace hP:=hP x3_ hx3
        obtain ⟨ad2,cs2,ha2,hl11,hr10,hR2,hlt2⟩:=RSl.at hz1 hx3
        cases hR2
        refine Rv (k:=k_7) (a':=(ad2.add (k_7*1))) (congrArg (fun z=>Value.slice z _ _) ha2) rfl rfl hlt2 Tryz.underlying44 Tryz.sizeOf9 rfl (q6x (v:=(.string x3_)) rfl Tryz.isAgg9 (hr10.cell (View.of (Sub.trans (Sub.trans hsub7 hsub9) hsub11) hS47.view) 0 rfl rfl) (v6h (args:=[(.string x3_),(.pointer (some ⟨b7,0,none⟩))]) rfl rfl Tryz.call191 ?_))
        refine enter Tryz.func191 rfl rfl rfl ?_
        refine Qu (Qv (v:=(.bool false)) rfl (wpList_nil (Qo (Qu (q6x (v:=(.map (some b6))) rfl Tryz.isAgg268 (hS47.cell (i:=3) rfl rfl) (Zc (v:=(.string x3_)) rfl (y5q (v:=(.bool (((F_4 x3_).getD false)))) (i:=2) hS47 rfl rfl rfl Tryz.underlying268 Tryz.underlying9 Tryz.zeroValue4 (y1w (fun y:Bool=>(Value.bool (y))) _ rfl) (y1m (r:=(!((F_4 x3_).getD false))) rfl rfl (Qv (v:=(.bool (!((F_4 x3_).getD false)))) rfl (wpList_nil (Qo (wp_ret (ret1 rfl (show ev _ _ _=(.bool (!((F_4 x3_).getD false))) from rfl) ?_)))))))))))))
        refine ⟨_,rfl,?_⟩
        refine wpList_nil (Qo ?_)
        refine y8x rfl (fun ht7=> ?_) (fun ht7=> ?_)
        ·
         replace hP:=hP.2 (by first|(rw [ht7];exact Bool.false_ne_true)|simp [ht7])
         refine Qu (Zc (v:=(.int .i64 ((k_7:Nat):Int))) rfl (Qv (v:=(.int .i64 ((k_7:Nat):Int))) rfl (wpList_nil (Qo (wp_ret (j4q (Bp (Bp (j4q (Bp (ret1 rfl (show ev _ _ _=(.int .i64 ((k_7:Nat):Int)) from rfl) ?_)))))))))))
         exact ⟨((k_7:Nat):Int),σ11,rfl,hP,hS47,hsub11⟩
        ·
         replace hP:=hP.1 ht7
         refine wp_skip (v3p (Qo (j1t (v3o (r:=((k_7+1:Nat):Int)) rfl rfl (nw (by omega) (by omega) (by have:=hlen6;omega)) (Zc (v:=(.int .i64 ((k_7+1:Nat):Int))) rfl (wpList_nil (Qo ?_)))))))
         exact ⟨k_7+1,_,rfl,hP,σ11,_,(Z0 rfl (Z0 rfl (Z0 rfl (Z0 rfl rfl)))),hS47,hsub11⟩
       ·
        replace hP:=hP.2 ht6
        refine wp_exit (z6u (z6u (j6h (Qo (Qu (Qv (v:=(.int .i64 (-1:Int))) rfl (wpList_nil (Qo (wp_ret (ret1 rfl (show ev _ _ _=(.int .i64 (-1:Int)) from rfl) ?_))))))))))
        exact ⟨(-1:Int),σ11,rfl,hP,hS47,hsub11⟩
      ·
       rintro _ w23 ⟨r_2,σ10,rfl,hY4,hS48,hsub10⟩
       refine ⟨_,rfl,?_⟩
       replace hP:=hK5 r_2 hY4
       refine y8u (r:=(decide ((0:Int)<=r_2))) rfl rfl rfl (Qv (v:=(.bool (decide ((0:Int)<=r_2)))) rfl (wpList_nil (Qo (wp_ret (ret1 rfl (show ev _ _ _=(.bool (decide ((0:Int)<=r_2))) from rfl) ?_)))))
       refine ⟨_,rfl,?_⟩
       refine y1m (r:=(!decide ((0:Int)<=r_2))) rfl rfl (Qv (v:=(.bool (!decide ((0:Int)<=r_2)))) rfl (wpList_nil (Qo (wp_ret (ret1 rfl (show ev _ _ _=(.bool (!decide ((0:Int)<=r_2))) from rfl) ?_)))))
       refine ⟨_,rfl,?_⟩
       refine wpList_nil (Qo ?_)
       refine y8w ((0:Int)<=r_2) rfl (fun ht8=> ?_) (fun ht8=> ?_)
       ·
        replace hP:=hP.2 ht8
        refine Qu (Zc (v:=(.int .i64 ((k_5:Nat):Int))) rfl (Qv (v:=(.int .i64 ((k_5:Nat):Int))) rfl (wpList_nil (Qo (wp_ret (j4q (Bp (Bp (j4q (Bp (ret1 rfl (show ev _ _ _=(.int .i64 ((k_5:Nat):Int)) from rfl) ?_)))))))))))
        exact ⟨((k_5:Nat):Int),σ10,rfl,hP,hS48,(Sub.trans hsub9 hsub10)⟩
       ·
        replace hP:=hP.1 ht8
        refine wp_skip (v3p (Qo (j1t (v3o (r:=((k_5+1:Nat):Int)) rfl rfl (nw (by omega) (by omega) (by have:=hlen4;omega)) (Zc (v:=(.int .i64 ((k_5+1:Nat):Int))) rfl (wpList_nil (Qo ?_)))))))
        exact ⟨k_5+1,_,rfl,hP,σ10,_,(Z0 rfl (Z0 rfl (Z0 rfl (Z0 rfl rfl)))),hS48,(Sub.trans hsub9 hsub10)⟩
     ·
      replace hP:=hP.2 ht5
      refine wp_exit (z6u (z6u (j6h (Qo (Qu (Qv (v:=(.int .i64 (-1:Int))) rfl (wpList_nil (Qo (wp_ret (ret1 rfl (show ev _ _ _=(.int .i64 (-1:Int)) from rfl) ?_))))))))))
      exact ⟨(-1:Int),σ9,rfl,hP,hS46,hsub9⟩
    ·
     rintro _ w24 ⟨r_1,σ8,rfl,hY5,hS49,hsub8⟩
     refine ⟨_,rfl,?_⟩
     replace hP:=hK4 r_1 hY5
     refine Qv (v:=(.int .i64 r_1)) rfl (wpList_nil (Qo (wp_seq (Qu (Zc (v:=(.int .i64 r_1)) rfl (v6e (r:=(decide (r_1<(0:Int)))) rfl rfl rfl (wpList_nil (Qo ?_))))))))
     refine if_d (r_1<(0:Int)) rfl (fun ht9=> ?_) (fun ht9=> ?_)
     ·
      replace hP:=hP.1 ht9
      refine Qu (Qv (v:=(.slice none 0 0)) rfl (Qv (v:=(.int .i64 (12:Int))) rfl (wpList_nil (Qo (wp_ret (Bp (j4q (Bp (j4q (Bp (ret2 rfl (show ev _ _ _=(.slice none 0 0) from rfl) (show ev _ _ _=(.int .i64 (12:Int)) from rfl) ?_)))))))))))
      have hS50:=hS49.addNil 9 1
      exact ⟨[],(12:Int),(.slice none 0 0),rfl,(St.back (hS50.keep 1 (ms':=[vec (.slice none 0 0) 9 1 0 []]) rfl) (Sub.refl _)),(by simp [Sml]),hP⟩
     ·
      replace hP:=hP.2 ht9
      refine wp_skip (Qo (Qu (Zc (v:=v14) rfl (Zc (v:=v13) rfl (Zc (v:=(.int .i64 r_1)) rfl ?_)))))
      obtain ⟨j1_,hj1,hP⟩:=hP
      obtain ⟨x4_,hx4,hP⟩:=hP
      obtain ⟨g2,cp2,hv3⟩:=w2k (hS49.get (i:=0) rfl) (Qm hx4)
      refine Rv (k:=j1_) (a':=⟨g2,j1_*1,none⟩) hv3 rfl hj1 (Qm hx4) Tryz.underlying44 Tryz.sizeOf9 (by simp [Ui]) (q6x (v:=(.string x4_)) rfl Tryz.isAgg9 (j6m q4t (j:=0) hv3 (hS49.get (i:=0) rfl) hx4 rfl) (j5m (cs:=[(.string x4_)]) (e:=9) hS49 (fun _=>by kernel_rfl) ?_))
      intro b8 w25 hS51
      obtain ⟨hsm4,hP⟩:=hP
      refine y5r (Ms:=fun v16=>[blk b8 9 [(.string x4_)],vec v13 9 1 left_3.length ((left_3).flatMap Qj),vec v16 9 1 ((out_3++[x4_]).length) ((out_3++[x4_]).flatMap Qj),emap b6 (fun y:Bool=>(Value.bool (y))) F_4,blk b7 268 [(.map (some b6))],blk b3 267 [(.map (some b2))],vec v6 9 1 ((cpt r1_).length) ((cpt r1_).flatMap Qj)]) (k':=(out_3++[x4_]).length) (xs':=(out_3++[x4_]).flatMap Qj) Tryz.underlying44 Tryz.type9 rfl rfl (bytes:=16) rfl rfl (Nat.succ_pos _) hS51 rfl (q:=2) rfl rfl rfl (q9e (hS51.get (i:=0) rfl)) (ones rfl) hsm4 (by omega) (by first|rfl|exact List.length_append.symm|simp) (by simp [Qj]) (fun _=>rfl) ?_
      intro v16 w26 ho12 hS52
      have hS53:=hS52.drop 0 (ms':=[vec v13 9 1 left_3.length ((left_3).flatMap Qj),vec v16 9 1 ((out_3++[x4_]).length) ((out_3++[x4_]).flatMap Qj),emap b6 (fun y:Bool=>(Value.bool (y))) F_4,blk b7 268 [(.map (some b6))],blk b3 267 [(.map (some b2))],vec v6 9 1 ((cpt r1_).length) ((cpt r1_).flatMap Qj)]) rfl
      refine Qv (v:=v16) rfl (wpList_nil (Qo (wp_seq (dr (fun z=>St ⟨w,σ,[]⟩ z σ8 [vec v13 9 1 left_3.length ((left_3).flatMap Qj),vec v16 9 1 ((out_3++[x4_]).length) ((out_3++[x4_]).flatMap Qj),blk b7 268 [(.map (some b6))],blk b3 267 [(.map (some b2))],vec v6 9 1 ((cpt r1_).length) ((cpt r1_).flatMap Qj)]) (by kernel_rfl) rfl ?_))))
      have hS54:=hS53.drew
      refine dt 0 1 (v:=(.map (some b6))) (by kernel_rfl) rfl rfl (fun _ _ _ h=>h) (hS54.sublist (.cons_cons _ (.cons_cons _ (.cons _ (List.Sublist.refl _))))) (fun _ hJ _ hK=>q6x (v:=(.map (some b6))) rfl Tryz.isAgg268 (hJ.cell (i:=2) rfl rfl) ⟨rfl,hK⟩) (dt 1 3 (v:=v13) (by kernel_rfl) rfl rfl (fun _ _ _ h=>h) (hS54.sublist (.cons_cons _ (.cons_cons _ (.cons _ (List.Sublist.refl _))))) (fun _ _ _ hK=>Zc (v:=v13) rfl ⟨rfl,hK⟩) (dt 2 7 (v:=(.int .i64 r_1)) (by kernel_rfl) rfl rfl (fun _ _ _ h=>h) (hS54.sublist (.cons_cons _ (.cons_cons _ (.cons _ (List.Sublist.refl _))))) (fun _ _ _ hK=>Zc (v:=(.int .i64 r_1)) rfl ⟨rfl,hK⟩) ?_))
      obtain ⟨j2_,hj2,hP⟩:=hP
      obtain ⟨x5_,hx5,hP⟩:=hP
      obtain ⟨g3,cp3,hv4⟩:=w2k (hS54.get (i:=0) rfl) (Qm hx5)
      refine dt 3 15 (v:=(.pointer (some ⟨g3,j2_*1,none⟩))) (by kernel_rfl) rfl rfl (fun _ _ _ h=>h) (hS54.sublist (.cons_cons _ (.cons_cons _ (.cons _ (List.Sublist.refl _))))) (fun _ _ _ hK=>Rv (k:=j2_) (a':=⟨g3,j2_*1,none⟩) hv4 rfl hj2 (Qm hx5) Tryz.underlying44 Tryz.sizeOf9 (by simp [Ui]) ⟨rfl,hK⟩) (dt 4 31 (v:=(.string x5_)) (by kernel_rfl) rfl rfl (fun _ _ _ h=>h) (hS54.sublist (.cons_cons _ (.cons_cons _ (.cons _ (List.Sublist.refl _))))) (fun _ hJ _ hK=>q6x (v:=(.string x5_)) rfl Tryz.isAgg9 (j6m q4t (j:=0) hv4 (hJ.get (i:=0) rfl) hx5 rfl) ⟨rfl,hK⟩) (d1 5 63 (by kernel_rfl) rfl (y83 (y0:=true) (i:=2) (ms':=[vec v13 9 1 left_3.length ((left_3).flatMap Qj),vec v16 9 1 ((out_3++[x4_]).length) ((out_3++[x4_]).flatMap Qj),emap b6 (fun y:Bool=>(Value.bool (y))) (put F_4 x5_ true),blk b7 268 [(.map (some b6))],blk b3 267 [(.map (some b2))],vec v6 9 1 ((cpt r1_).length) ((cpt r1_).flatMap Qj)]) hS54 rfl rfl rfl rfl Tryz.underlying268 Tryz.underlying9 rfl ?_)))
      intro w27 hS55
      refine wpList_nil ?_
      refine ⟨rfl,(hS55.sublist (.cons_cons _ (.cons_cons _ (.cons _ (List.Sublist.refl _))))),j5n (J':=fun z=>St ⟨w,σ,[]⟩ z σ8 [vec v13 9 1 left_3.length ((left_3).flatMap Qj),vec v16 9 1 ((out_3++[x4_]).length) ((out_3++[x4_]).flatMap Qj),emap b6 (fun y:Bool=>(Value.bool (y))) (put F_4 x5_ true),blk b7 268 [(.map (some b6))],blk b3 267 [(.map (some b2))],vec v6 9 1 ((cpt r1_).length) ((cpt r1_).flatMap Qj)]) (fun w h=>h.sublist (.cons_cons _ (.cons_cons _ (.cons _ (List.Sublist.refl _))))) _ _ _ _ ?_⟩
      refine dz (by kernel_rfl) (Qo (j1t (Zc (v:=v13) rfl (Zc (v:=(.int .i64 r_1)) rfl (Zc (v:=(.int .i64 r_1)) rfl ?_)))))
      obtain ⟨hi1,hP⟩:=hP
      refine v3o (r:=(r_1+(1:Int))) rfl rfl (nwi rfl hi1) ?_
      obtain ⟨j3_,hj3,hP⟩:=hP
      obtain ⟨hd1,hP⟩:=hP
      obtain ⟨hd2,hP⟩:=hP
      obtain ⟨hsm5,hP⟩:=hP
      have hd3:r_1=((j3_:Nat):Int)/\(r_1+(1:Int))=((j3_+1:Nat):Int):=⟨by omega,by omega⟩
      refine q8l (args:=[v13,(.int .i64 ((j3_:Nat):Int)),(.int .i64 ((j3_+1:Nat):Int))]) (by rw [←hd3.1,←hd3.2];rfl) Tryz.call192 (Calls.mono (v3s (i:=j3_) (j:=(j3_+1)) Tryz.slices_Delete_string hS55.view (hS55.get (i:=0) rfl) (fun b hb=>hS55.off _ (List.mem_of_getElem? (i:=0) rfl) b hb) (by omega) hd2 hd1) ?_)
      rintro _ w28 ⟨v17,rfl,hf2,hg7,ho13⟩
      refine ⟨_,rfl,?_⟩
      have ho14:=q1h ho13
      have hS56:=hS55.growV (i:=0) (o':=vec v17 9 1 ((left_3.take j3_++left_3.drop (j3_+1)).length) ((left_3.take j3_++left_3.drop (j3_+1)).flatMap Qj)) rfl hg7 hf2 ho13 (ms':=[vec v17 9 1 ((left_3.take j3_++left_3.drop (j3_+1)).length) ((left_3.take j3_++left_3.drop (j3_+1)).flatMap Qj),vec v16 9 1 ((out_3++[x4_]).length) ((out_3++[x4_]).flatMap Qj),emap b6 (fun y:Bool=>(Value.bool (y))) (put F_4 x5_ true),blk b7 268 [(.map (some b6))],blk b3 267 [(.map (some b2))],vec v6 9 1 ((cpt r1_).length) ((cpt r1_).flatMap Qj)]) rfl
      refine Qv (v:=v17) rfl (wpList_nil (v3p (Qo ?_)))
      exact ⟨left_3.take j3_++left_3.drop (j3_+1),out_3++[x4_],put F_4 x5_ true,_,rfl,hP,v17,v16,σ8,_,(Z0 rfl (Z0 rfl (Z0 rfl (Z0 rfl rfl)))),hS56,(Sub.trans hsub7 hsub8),ho14,hsm5,ho12,hsm4⟩
   ·
    replace hP:=hP.2 ht4
    refine wp_exit (z6u (z6u (j6h (Qo (Qu (Zc (v:=v14) rfl (Qv (v:=v14) rfl (Qv (v:=(.int .i64 (0:Int))) rfl (wpList_nil (Qo (wp_ret (ret2 rfl (show ev _ _ _=v14 from rfl) (show ev _ _ _=(.int .i64 (0:Int)) from rfl) ?_))))))))))))
    have hS57:=hS45.front 1 rfl (ms':=[vec v14 9 1 out_3.length ((out_3).flatMap Qj),vec v13 9 1 left_3.length ((left_3).flatMap Qj),emap b6 (fun y:Bool=>(Value.bool (y))) F_4,blk b7 268 [(.map (some b6))],blk b3 267 [(.map (some b2))],vec v6 9 1 ((cpt r1_).length) ((cpt r1_).flatMap Qj)]) rfl
    exact ⟨out_3,(0:Int),v14,rfl,(St.back (hS57.keep 1 (ms':=[vec v14 9 1 out_3.length ((out_3).flatMap Qj)]) rfl) (Sub.refl _)),hl9,hP⟩
end Go.Proofs.YtfiomedjdipbgaaGreatDoor
end
noncomputable section
set_option maxRecDepth 100000
open Go Go.RowKit Go.Fl Go.Fl.Lk Go.Fx
namespace Go.En
theorem w3q {σ:Hv} {w:World} {g:Nat} {T:C} {n:Nat} {l:List (car T)} (hV:View σ w) (hs:SRep D (fun _=>none) σ (.pointer (some ⟨g,0,none⟩)) (.fap T n l)) {i j:Nat} {x:car T} {s:FV Sg} (hx:l[i]? =some x) (hj:(D.shape T x)[j]? =some s) (hz:j<D.size T):
  ∃v,w.cell? ⟨g,i*D.size T+j,none⟩=some v/\RepF D σ v s:=by
 generalize hq:Value.pointer (some (⟨g,0,none⟩:Addr))=q at hs
 cases hs with
 |fap ad cs T' N l' hN h hl hr=>
  cases hq
  have hrow:=hr i x hx
  have hlen:=okP.ok.len T x
  have hjl:j<((cs.drop (i*D.size T)).take (D.size T)).length:=by rw [hrow.1,hlen];exact hz
  obtain ⟨v,hv⟩: ∃v,((cs.drop (i*D.size T)).take (D.size T))[j]? =some v:=⟨_,List.getElem?_eq_getElem hjl⟩
  refine ⟨v,?_,hrow.2 j v s hv hj⟩
  rw [List.getElem?_take,if_pos hz,List.getElem?_drop] at hv
  have:=hV.cell (h _ v hv)
  rw [Ui,Nat.zero_add] at this
  exact this
theorem y3j: ∀c,c<256->v2r[c]? =some ((Go.Lib.firstT c:Nat):Int):=by decide
theorem y9u: ∀i,i<16->(j7f[i]?).map (fun a=>(a.lo,a.hi))=some (((Go.Lib.accLo i:Nat):Int),((Go.Lib.accHi i:Nat):Int)):=by decide
theorem tabs {σ:Hv} {w:World} (hV:View σ w) (hG:Glb D σ):Go.Lib.Utf8Tabs (Proofs.Tryz.lays196_ren.g 3) (Proofs.Tryz.lays196_ren.g 4) w:=by
 refine ⟨fun c hc=> ?_,fun i hi=> ?_⟩
 ·have h:=hG.known (Proofs.Tryz.lays196_ren.g 3)
  obtain ⟨v,h1,h2⟩:=w3q (T:= .u8) (n:=256) (l:=v2r) hV h (i:=c) (j:=0) (y3j c hc) rfl (by decide)
  cases h2
  simpa [show D.size C.u8=1 from rfl] using h1
 ·have h:=hG.known (Proofs.Tryz.lays196_ren.g 4)
  have ha:=y9u i hi
  obtain ⟨a,e1,e2⟩:=Option.map_eq_some_iff.1 ha
  obtain ⟨v,h1,h2⟩:=w3q (T:= .acc) (n:=16) (l:=j7f) hV h (i:=i) (j:=0) e1 rfl (by decide)
  obtain ⟨v',h1',h2'⟩:=w3q (T:= .acc) (n:=16) (l:=j7f) hV h (i:=i) (j:=1) e1 rfl (by decide)
  cases h2;cases h2'
  simp only [Prod.mk.injEq] at e2
  rw [e2.1] at h1;rw [e2.2] at h1'
  refine ⟨by rw [Nat.mul_comm];simpa [show D.size C.acc=2 from rfl] using h1,by rw [Nat.mul_comm];simpa [show D.size C.acc=2 from rfl] using h1'⟩
theorem w91 {w w':World} (h:Below w.heap.size w w'):Keeps [] w w':=⟨h.os,h.tape,h.output,h.size,fun k hk _=>h.block k hk⟩
theorem z0t {σ:Hv} {w w1:World} {args:List (Tr Sg)} {vals:List Value} {K:List (Tr Sg)->List (Tr Sg)->Prop} {rets outs:List (Tr Sg)} {rv:List Value} (hS:St ⟨w,σ,feet []⟩ w σ []) (hK:K rets outs) (hb:Below w.heap.size w w1) (hL:LayL D σ rets rv []) (hT:LayT D σ args outs vals [] []):
  Back D σ w args vals [] K (.returned (retV rv)) w1:=by
 have hk:=w91 hb
 refine ⟨rets,outs,rv,σ,[],[],rfl,hK,hL,hT,?_⟩
 refine ⟨hk,fun b o hbo=> ?_,Sub.refl _,fun _ _ _=>rfl,by simp,by simp,by simp,by simp⟩
 have h1:=hS.view b o hbo
 have hlt:b<w.heap.size:=by
  rcases Nat.lt_or_ge b w.heap.size with h|h
  ·exact h
  ·rw [Array.getElem?_eq_none h] at h1;cases h1
 rw [hk.block b hlt (by simp)];exact h1
theorem z96:z05 Proofs.Tryz.prog D 246 (conV ([.v]:LP) ([.str]:LV) ([.bool]:LV) ([.same]:LV) (fun a K=>Jt a.1 (fun q0=>K (q0,()) ((),())))):=by
 intro args K hm w σ vals ins hG hL hS
 obtain ⟨a,ha,hm⟩:=Qk hm
 have hargs:=Vq ha
 subst hargs
 obtain ⟨s,_⟩:=a
 cases hL with
 |cons hp hr=>
 cases hr
 cases hp with
 |f hf=>
 cases hf
 have hm:s.size<=9223372036854775807/\K [.f (.bool (Go.Lib.validD s.data.toList))] [.same]:=hm
 refine Calls.mono (Go.Proofs.Any.utf8_ValidString Proofs.Tryz.lays196 s w hm.1 (tabs hS.view hG)) ?_
 rintro e w' ⟨rfl,hb⟩
 exact z0t (rv:=[.bool (Go.Lib.validD s.data.toList)]) hS hm.2 hb (.cons (ms:=[]) (.f (.bool _)) .nil) (.skip (a0:=[]) .nil)
theorem z97:z05 Proofs.Tryz.prog D 136 (conV ([.v,.v]:LP) ([.str,.str]:LV) ([.bool]:LV) ([.same,.same]:LV) (fun a K=>Hj a.1 a.2.1 (fun q0=>K (q0,()) ((),(),())))):=by
 intro args K hm w σ vals ins hG hL hS
 obtain ⟨a,ha,hm⟩:=Qk hm
 have hargs:=Vq ha
 subst hargs
 obtain ⟨s,t,_⟩:=a
 cases hL with
 |cons hp hr=>
 cases hr with
 |cons hq hr=>
 cases hr
 cases hp with
 |f hf=>
 cases hf
 cases hq with
 |f hf=>
 cases hf
 have hm:s.size<4294967281/\K [.f (.bool (Go.Lib.contains s.data.toList t.data.toList))] [.same,.same]:=hm
 obtain ⟨n,hn⟩:=hG.free 3 .i64 rfl
 refine Calls.mono (Proofs.Tryz.strings_Contains s t n w hm.1 (hS.view.cell hn)) ?_
 rintro e w' ⟨rfl,rfl⟩
 exact z0t (rv:=[.bool (Go.Lib.contains s.data.toList t.data.toList)]) hS hm.2 (Below.refl _ _) (.cons (ms:=[]) (.f (.bool _)) .nil) (.skip (a0:=[]) (.skip (a0:=[]) .nil))
theorem j94:z05 Proofs.Tryz.prog D 270 (conV ([.v]:LP) ([.str]:LV) ([.int .i64,.ifc]:LV) ([.same]:LV) (fun a K=>B2 a.1 (fun q0 q1=>K (q0,q1,()) ((),())))):=by
 intro args K hm w σ vals ins hG hL hS
 obtain ⟨a,ha,hm⟩:=Qk hm
 have hargs:=Vq ha
 subst hargs
 obtain ⟨s,_⟩:=a
 cases hL with
 |cons hp hr=>
 cases hr
 cases hp with
 |f hf=>
 cases hf
 have hm:s.size<=281474976710656/\y3i s (fun n b=>K [.f (.int .i64 n),.f (.ifc b)] [.same]):=hm
 obtain ⟨hsz,hm⟩:=hm
 have err: ∀g:Nat,D.glob g= .fptr [.ifc false] 0-> ∃ev,w.cell? ⟨g,0,none⟩=some ev/\(ev= .nilIface∨ ∃te pe,ev= .iface te pe):=by
  intro g hg
  have h:=hG.known g
  rw [hg] at h
  generalize hq:Value.pointer (some (⟨g,0,none⟩:Addr))=q at h
  cases h with
  |fptr ad cs l off hv hr=>
  cases hq
  obtain ⟨v,hvl⟩: ∃v,cs=[v]:=List.length_eq_one_iff.1 hr.1
  subst hvl
  have hc:=hS.view.cell (hv 0 v rfl)
  have hR:=hr.2 0 v _ rfl rfl
  refine ⟨v,?_,?_⟩
  ·rw [Ui] at hc;exact hc
  ·cases hR with
   |ifcS t p=>exact .inr ⟨t,p,rfl⟩
 unfold y3i at hm
 split at hm
 ·rename_i v hv
  refine Calls.mono (Proofs.Tryz.strconv_Atoi_ok s (by omega) v hv w) ?_
  rintro e w' ⟨rfl,hw⟩
  have hb:Below w.heap.size w w':=by
   rcases hw with rfl|⟨t,rfl⟩
   ·exact Below.refl _ _
   ·exact Go.Lib.bytesWorld_below _ _ _
  exact z0t (rv:=[.int .i64 v,.nilIface]) hS hm hb (.cons (ms:=[]) (.f (.int _ _)) (.cons (ms:=[]) (.f .ifcN) .nil)) (.skip (a0:=[]) .nil)
 ·rename_i hv
  obtain ⟨ev,h1,h2⟩:=err 7 rfl
  refine Calls.mono (Proofs.Tryz.strconv_Atoi_range s hsz hv ev w h1 h2) ?_
  rintro e w' ⟨N,rfl,_,_,hb⟩
  exact z0t (rv:=[.int .i64 _,.iface _ _]) hS hm hb (.cons (ms:=[]) (.f (.int _ _)) (.cons (ms:=[]) (.f (.ifcS _ _)) .nil)) (.skip (a0:=[]) .nil)
 ·rename_i hv
  obtain ⟨ev,h1,h2⟩:=err 6 rfl
  refine Calls.mono (Proofs.Tryz.strconv_Atoi_syntax s hsz hv ev w h1 h2) ?_
  rintro e w' ⟨N,rfl,_,_,hb⟩
  exact z0t (rv:=[.int .i64 _,.iface _ _]) hS hm hb (.cons (ms:=[]) (.f (.int _ _)) (.cons (ms:=[]) (.f (.ifcS _ _)) .nil)) (.skip (a0:=[]) .nil)
theorem j52 (l:List ByteArray):l.flatMap Qj=l.map Value.string:=by
 induction l with
 |nil=>rfl
 |cons a l ih=>rw [List.flatMap_cons,List.map_cons,ih];rfl
theorem y9v (l:List ByteArray):(cpt l).length<=l.length:=by
 unfold cpt Go.Lib.compact
 rw [List.length_map]
 have h: ∀(d:Array (List UInt8)) (m:Nat),(Go.Lib.compactUpTo d m).length<=m:=by
  intro d m
  unfold Go.Lib.compactUpTo
  rw [List.length_map]
  exact Nat.le_trans (List.length_filter_le _ _) (by simp)
 simpa using h _ _
theorem v87 {σ:Hv} {xs:List Value} {l:List ByteArray} (h:Els D σ C.str xs l):xs=l.flatMap Qj:=by
 have h1:xs.length=l.length:=by rw [h.1];exact Nat.mul_one _
 rw [j52]
 refine List.ext_getElem? fun i=> ?_
 rw [List.getElem?_map]
 rcases Nat.lt_or_ge i l.length with hi|hi
 ·obtain ⟨v,hv⟩: ∃v,xs[i]? =some v:=⟨_,List.getElem?_eq_getElem (by omega)⟩
  obtain ⟨x,hx⟩: ∃x,l[i]? =some x:=⟨_,List.getElem?_eq_getElem hi⟩
  have hR:=(h.2 i x hx).2 0 v (.str x) (by rw [show D.size C.str=1 from rfl,Nat.mul_one,List.getElem?_take,if_pos (by decide),List.getElem?_drop];exact hv) rfl
  rw [hv,hx]
  cases hR
  rfl
 ·rw [List.getElem?_eq_none (by omega),List.getElem?_eq_none hi];rfl
theorem w3r (σ:Hv) (l:List ByteArray):Els D σ C.str (l.flatMap Qj) l:=by
 rw [j52]
 refine ⟨by rw [List.length_map];exact (Nat.mul_one _).symm,fun i x hx=> ?_⟩
 rw [show D.size C.str=1 from rfl,Nat.mul_one]
 have hx:l[i]? =some x:=hx
 have e:((l.map Value.string).drop i).take 1=[.string x]:=by
  rw [←List.map_drop,List.drop_eq_getElem_cons (List.getElem?_eq_some_iff.1 hx).1,(List.getElem?_eq_some_iff.1 hx).2];rfl
 rw [e]
 refine ⟨rfl,fun j v s hj hs=> ?_⟩
 cases j with
 |zero=>cases hj;cases hs;exact .str x
 |succ j=>cases hj
theorem q58:z05 Proofs.Tryz.prog D 80 (conV ([.own 9 C.str]:LP) ([.vec 9 C.str]:LV) ([]:LV) ([.vec 9 C.str]:LV) (fun a K=>Ze a.1 (fun q0=>K () (q0,())))):=by
 intro args K hm w σ vals ins hG hL hS
 obtain ⟨a,ha,hm⟩:=Qk hm
 have hargs:=Vq ha
 subst hargs
 obtain ⟨s,_⟩:=a
 cases hL with
 |cons hp hr=>
 cases hr
 cases hp with
 |vec hE hl h1=>
 have hx:=v87 hE
 subst hx
 have hm:K [] [.vec 9 C.str (srt s)]:=hm
 refine Calls.mono (v1v Proofs.Tryz.slices_Sort_string Proofs.Tryz.slices_Sort_string_none hS.view (hS.get (i:=0) rfl) rfl (fun b hb=>hS.off _ (List.mem_of_getElem? (i:=0) rfl) b hb) (by omega)) ?_
 rintro _ w1 ⟨rfl,hg,ho⟩
 have hS1:=hS.growV (i:=0) (o':=vec _ 9 1 s.length ((srt s).flatMap Qj)) rfl hg rfl ho (ms':=[vec _ 9 1 s.length ((srt s).flatMap Qj)]) rfl
 refine ⟨[],_,[],σ,[],[vec _ 9 1 (srt s).length ((srt s).flatMap Qj)],rfl,hm,.nil,.keep (.vec (w3r σ _) (Nat.le_trans (Nat.le_of_eq (J2 _)) hl) h1) .nil,?_⟩
 have e:(srt s).length=s.length:=J2 _
 rw [e];exact hS1
theorem q3t:z05 Proofs.Tryz.prog D 184 (conV ([.own 9 C.str]:LP) ([.vec 9 C.str]:LV) ([.vec 9 C.str]:LV) ([.same]:LV) (fun a K=>Z7 a.1 (fun q0=>K (q0,()) ((),())))):=by
 intro args K hm w σ vals ins hG hL hS
 obtain ⟨a,ha,hm⟩:=Qk hm
 have hargs:=Vq ha
 subst hargs
 obtain ⟨s,_⟩:=a
 cases hL with
 |cons hp hr=>
 cases hr
 cases hp with
 |vec hE hl h1=>
 have hx:=v87 hE
 subst hx
 have hm:K [.vec 9 C.str (cpt s)] [.same]:=hm
 refine Calls.mono (j6l Proofs.Tryz.slices_Compact_string Proofs.Tryz.slices_Compact_string_empty hS.view (hS.get (i:=0) rfl) rfl (fun b hb=>hS.off _ (List.mem_of_getElem? (i:=0) rfl) b hb) (by omega)) ?_
 rintro _ w1 ⟨v1,rfl,hf,hg,ho⟩
 have hlc:(cpt s).length<=140737488355328:=Nat.le_trans (y9v _) hl
 have hS1:=hS.growV (i:=0) (o':=vec v1 9 1 (cpt s).length ((cpt s).flatMap Qj)) rfl hg hf ho (ms':=[vec v1 9 1 (cpt s).length ((cpt s).flatMap Qj)]) rfl
 exact ⟨[.vec 9 C.str (cpt s)],[.same],[v1],σ,[vec v1 9 1 (cpt s).length ((cpt s).flatMap Qj)],[],rfl,hm,.cons (.vec (w3r σ _) hlc (q1h ho)) .nil,.skip .nil,hS1⟩
theorem y7b {σ:Hv} {v:Value} {l:List ByteArray} (h:RepF D σ v (.sl C.str l)):RSl 1 (REnc Qj) σ v l:=by
 obtain ⟨a,cap,e1,e2,e3,e4⟩:=h.toRSl okP.ok
 refine ⟨a,cap,e1,e2,e3,fun i x hx=> ?_⟩
 obtain ⟨ad,cs,f1,f2,f3,f4⟩:=e4 i x hx
 refine ⟨ad,cs,f1,f2,f3,?_⟩
 obtain ⟨u,rfl⟩: ∃u,cs=[u]:=List.length_eq_one_iff.1 f2
 have g1:=f4.2 0 u (.str x) rfl rfl
 cases g1
 rfl
theorem y3k {σ:Hv} {v:Value} {l:List Edg} (h:RepF D σ v (.sl C.edge l)):RSl 2 (REnc y85) σ v (l.map fun e=>(e.1,e.2)):=by
 obtain ⟨a,cap,e1,e2,e3,e4⟩:=h.toRSl okP.ok
 have hl:(l.map fun e=>(e.1,e.2)).length=l.length:=List.length_map ..
 refine ⟨a,cap,by rw [hl];exact e1,by rw [hl];exact e2,by rw [hl];exact e3,fun i x hx=> ?_⟩
 rw [List.getElem?_map] at hx
 obtain ⟨y,hy,rfl⟩:=Option.map_eq_some_iff.1 hx
 obtain ⟨ad,cs,f1,f2,f3,f4⟩:=e4 i y hy
 refine ⟨ad,cs,f1,f2,f3,?_⟩
 obtain ⟨u,v,rfl⟩: ∃u v,cs=[u,v]:=by
  match cs,f2 with
  |[u,v],_=>exact ⟨u,v,rfl⟩
 have g1:=f4.2 0 u (.str y.src) rfl rfl
 have g2:=f4.2 1 v (.str y.dst) rfl rfl
 cases g1;cases g2
 rfl
theorem w3s:z05 Proofs.Tryz.prog D 139 (conV ([.sl C.str,.sl C.edge]:LP) ([.sl C.str,.sl C.edge]:LV) ([.vec 9 C.str,.int .i64]:LV) ([.same,.same]:LV) (fun a K=>P_graph_Order a.1 a.2.1 (fun q0 q1=>K (q0,q1,()) ((),(),())))):=by
 intro args K hm w σ vals ins hG hL hS
 obtain ⟨a,ha,hm⟩:=Qk hm
 have hargs:=Vq ha
 subst hargs
 obtain ⟨s,t,_⟩:=a
 cases hL with
 | @cons _ _ v1 _ _ _ hp hr=>
 cases hr with
 | @cons _ _ v2 _ _ _ hq hr=>
 cases hr
 cases hp with
 |f hf1=>
 cases hq with
 |f hf2=>
 have hm:Go.Fl.P_graph_Order s (t.map fun e=>(e.1,e.2)) (fun l n=>K [.vec 9 C.str l,.f (.int .i64 n)] [.same,.same]):=hm
 refine Calls.mono (Go.Proofs.YtfiomedjdipbgaaGreatDoor.w_graph_Order s (t.map fun e=>(e.1,e.2)) v1 v2 hS.view (y7b hf1) (y3k hf2) hm) ?_
 rintro e w1 ⟨l,n,v,rfl,hS1,hsm,hK⟩
 have hl:l.length<=140737488355328:=by unfold Sml at hsm;omega
 exact ⟨[.vec 9 C.str l,.f (.int .i64 n)],[.same,.same],[v,.int .i64 n],σ,[vec v 9 1 l.length (l.flatMap Qj)],[],rfl,hK,.cons (.vec (w3r σ _) hl (q1h (hS1.get (i:=0) rfl))) (.cons (ms:=[]) (.f (.int _ _)) .nil),.skip (a0:=[]) (.skip (a0:=[]) .nil),hS1⟩
theorem j7u:z05 Proofs.Tryz.prog D 231 (conV ([.v,.v]:LP) ([.str,.str]:LV) ([.vec 9 C.str]:LV) ([.same,.same]:LV) (fun a K=>q2b a.1 a.2.1 (fun q0=>K (q0,()) ((),(),())))):=by
 intro args K hm w σ vals ins hG hL hS
 obtain ⟨a,ha,hm⟩:=Qk hm
 have hargs:=Vq ha
 subst hargs
 obtain ⟨s,t,_⟩:=a
 cases hL with
 |cons hp hr=>
 cases hr with
 |cons hq hr=>
 cases hr
 cases hp with
 |f hf=>
 cases hf
 cases hq with
 |f hf=>
 cases hf
 have hm:t.size=1/\s.size<4294967281/\K [.vec 9 C.str (q04 s t)] [.same,.same]:=hm
 obtain ⟨h1,hsz,hm⟩:=hm
 obtain ⟨n,hn⟩:=hG.free 3 .i64 rfl
 have hlen:(q04 s t).length=Go.Lib.countB s t+1:=Go.Lib.splitB_all t (by omega) 0 _ s rfl
 have hcnt:=Go.Lib.countB_le t (by omega) s.size s (Nat.le_refl _)
 refine Calls.mono (Proofs.Tryz.strings_Split s t n w hsz (hS.view.cell hn) (by omega)) ?_
 rintro e w' ⟨rfl,rfl⟩
 have ho:(vec (.slice (some ⟨w.heap.size,0,none⟩) (q04 s t).length (q04 s t).length) 9 1 (q04 s t).length ((q04 s t).flatMap Qj)).ok (w.alloc (.cells ((q04 s t).map Value.string).toArray 9)):=by
  refine ⟨by rw [j52];simp,.inr ⟨w.heap.size,_,_,rfl,Nat.zero_le _,heap_alloc_new _ _,Nat.le_refl _,by unfold maxLen;omega,by simp,?_⟩⟩
  rw [j52,Nat.mul_one]
  exact List.take_of_length_le (by rw [List.length_map];exact Nat.le_refl _)
 have hS1:=hS.add (Va w _) ho (by rintro k ⟨⟩;exact Nat.le_refl _)
 have hl:(q04 s t).length<=140737488355328:=by omega
 have hr:=(⟨[.vec 9 C.str (q04 s t)],[.same,.same],[_],σ,[_],[],rfl,hm,.cons (.vec (w3r σ _) hl (q1h ho)) .nil,.skip (a0:=[]) (.skip (a0:=[]) .nil),hS1⟩:Back D σ w [.f (.str s),.f (.str t)] [.string s,.string t] [] K (.returned (retV [.slice (some ⟨w.heap.size,0,none⟩) (q04 s t).length (q04 s t).length])) (w.alloc (.cells ((q04 s t).map Value.string).toArray 9)))
 rw [hlen] at hr
 exact hr
end Go.En
end
noncomputable section
set_option maxRecDepth 100000
open Go Go.RowKit Go.Fl Go.Fl.Lk Go.Fx
namespace Go.En
def q5d (X:Wz):Con Sg:=conS [] [.vec 177 C.decl] fun _ K=>X (fun q0=>K (q0,()))
theorem q8u:MT 57 (q5d Jz):=mS (l:=[]) trivial (by kernel_rfl) [] fun a K=>by kernel_rfl
def v2t (X:j5z):Con Sg:=conV [.ptr 104 [.c,.v]] [.ptr 104 [.sl C.u8,.int .i64]] [.bool] [.ptr 104 [.same,.int .i64]] fun a K=>X a.1.1 a.1.2.1 (fun q0 q1=>K (q0,()) (((),q1,()),()))
theorem y3l:MT 86 (v2t j50):=mP (rk:=[.v]) (l:=[]) trivial (by kernel_rfl) [] fun a K=>by kernel_rfl
def Vl (X:Zh):Con Sg:=conV [.ptr 104 [.c,.v],.v] [.ptr 104 [.sl C.u8,.int .i64],.int .i64] [.int .i64] [.ptr 104 [.same,.int .i64],.same] fun a K=>X a.1.1 a.1.2.1 a.2.1 (fun q0 q1=>K (q0,()) (((),q1,()),(),()))
theorem y3m (j6c:j5z) (h:AL [(86,v2t j6c)]):MT 49 (Vl (w3h j6c)):=mP (rk:=[.v]) h (by kernel_rfl) [] fun a K=>by kernel_rfl
theorem Gj:MT 49 (Vl Zd):=y3m j50 ⟨y3l,trivial⟩
def z59 (X:q1l):Con Sg:=conV [.ptr 104 [.c,.v]] [.ptr 104 [.sl C.u8,.int .i64]] [.str] [.ptr 104 [.same,.int .i64]] fun a K=>X a.1.1 a.1.2.1 (fun q0 q1=>K (q0,()) (((),q1,()),()))
theorem y3n (Qc:Zh) (h:AL [(49,Vl Qc)]):MT 58 (z59 (w3i Qc)):=mP (rk:=[.v]) h (by kernel_rfl) [] fun a K=>by kernel_rfl
theorem j53:MT 58 (z59 q1m):=y3n Zd ⟨Gj,trivial⟩
def z98 (X:q51):Con Sg:=conV [.ptr 104 [.c,.v],.v] [.ptr 104 [.sl C.u8,.int .i64],.int .i64] [.int .i64] [.ptr 104 [.same,.int .i64],.same] fun a K=>X a.1.1 a.1.2.1 a.2.1 (fun q0 q1=>K (q0,()) (((),q1,()),(),()))
theorem y3o (Qc:Zh) (h:AL [(49,Vl Qc)]):MT 51 (z98 (w3j Qc)):=mP (rk:=[.v]) h (by kernel_rfl) [] fun a K=>by kernel_rfl
theorem w3t:MT 51 (z98 q52):=y3o Zd ⟨Gj,trivial⟩
def w3u (X:z5w):Con Sg:=conS [.int .i64,.vec 9 C.str] [.sl C.str] fun a K=>X a.1 a.2.1 (fun q0=>K (q0,()))
theorem v2u:MT 60 (w3u z5x):=mS (l:=[]) trivial (by kernel_rfl) [] fun a K=>by kernel_rfl
def j54 (X:z07):Con Sg:=conV [.ptr 104 [.c,.v]] [.ptr 104 [.sl C.u8,.int .i64]] [.vec 9 C.str] [.ptr 104 [.same,.int .i64]] fun a K=>X a.1.1 a.1.2.1 (fun q0 q1=>K (q0,()) (((),q1,()),()))
theorem y3p (Qc:Zh) (h:AL [(49,Vl Qc)]):MT 112 (j54 (w3k Qc)):=mP (rk:=[.own 9 C.str]) h (by kernel_rfl) [(9,⟨bl 397,[],[(0,(104,2))],[(.slot 4,.own 9 C.str),sI 5,(.cell 0 1,.int .i64)]⟩),(17,⟨bl 8121,[0],[],[sI 6,(.obj 1,.own 9 C.str)]⟩)] fun a K=>by kernel_rfl
theorem v2v:MT 112 (j54 z08):=y3p Zd ⟨Gj,trivial⟩
def w3v (X:z7q):Con Sg:=conV [.ptr 104 [.c,.v]] [.ptr 104 [.sl C.u8,.int .i64]] [.str] [.ptr 104 [.same,.int .i64]] fun a K=>X a.1.1 a.1.2.1 (fun q0 q1=>K (q0,()) (((),q1,()),()))
theorem y7c (Qc:Zh) (h:AL [(49,Vl Qc)]):MT 108 (w3v (w9y Qc)):=mP (rk:=[.v]) h (by kernel_rfl) [] fun a K=>by kernel_rfl
theorem v88:MT 108 (w3v z7r):=y7c Zd ⟨Gj,trivial⟩
def z4e (X:q1n):Con Sg:=conV [.ptr 104 [.c,.v],.v] [.ptr 104 [.sl C.u8,.int .i64],.int .i64] [.el C.val] [.ptr 104 [.same,.int .i64],.same] fun a K=>X a.1.1 a.1.2.1 a.2.1 (fun q0 q1=>K (q0,()) (((),q1,()),(),()))
theorem v89 (Qc:Zh) (Wk:q1l) (h:AL [(49,Vl Qc),(58,z59 Wk)]):MT 109 (z4e (z9t Qc Wk)):=mP (rk:=[.el C.val]) h (by kernel_rfl) [] fun a K=>by kernel_rfl
theorem j7v:MT 109 (z4e Un):=v89 Zd q1m ⟨Gj,j53,trivial⟩
def j55 (X:z9u):Con Sg:=conV [.ptr 104 [.c,.v]] [.ptr 104 [.sl C.u8,.int .i64]] [.el C.ex] [.ptr 104 [.same,.int .i64]] fun a K=>X a.1.1 a.1.2.1 (fun q0 q1=>K (q0,()) (((),q1,()),()))
theorem y3q (Q3:Wz) (Qc:Zh) (z2i:z7q) (Ji:q1n) (h:AL [(57,q5d Q3),(49,Vl Qc),(108,w3v z2i),(109,z4e Ji)]):MT 165 (j55 (w3l Q3 Qc z2i Ji)):=mP (rk:=[.el C.ex]) h (by kernel_rfl) [(68,⟨bl 4286840701,[3,2],[(5,(66,5)),(0,(104,2)),(1,(66,5))],[(.cell 5 0,.int .i64),(.cell 5 1,.str),(.cell 5 2,.str),(.cell 5 3,.own 115 C.val),(.cell 5 4,.own 66 C.ex),(.cell 0 1,.int .i64),(.cell 1 0,.int .i64),(.cell 1 1,.str),(.cell 1 2,.str),(.cell 1 3,.own 115 C.val),(.cell 1 4,.own 66 C.ex)]⟩),(60,⟨bl 17163319925,[],[(0,(104,2)),(5,(66,5)),(1,(66,5))],[(.cell 0 1,.int .i64),(.cell 5 0,.int .i64),(.cell 5 1,.str),(.cell 5 2,.str),(.cell 5 3,.own 115 C.val),(.cell 5 4,.own 66 C.ex),(.cell 1 0,.int .i64),(.cell 1 1,.str),(.cell 1 2,.str),(.cell 1 3,.own 115 C.val),(.cell 1 4,.own 66 C.ex)]⟩),(37,⟨bl 1055806024022645,[1],[(5,(66,5)),(0,(104,2))],[sI 7,(.cell 5 3,.own 115 C.val),(.cell 0 1,.int .i64)]⟩)] fun a K=>by kernel_rfl
theorem y3r:MT 165 (j55 z5y):=y3q Jz Zd z7r Un ⟨q8u,Gj,v88,j7v,trivial⟩
def j56 (X:q4a):Con Sg:=conV [.ptr 104 [.c,.v],.sl C.str,.v] [.ptr 104 [.sl C.u8,.int .i64],.sl C.str,.int .i64] [.el C.ex] [.ptr 104 [.same,.int .i64],.same,.same] fun a K=>X a.1.1 a.1.2.1 a.2.1 a.2.2.1 (fun q0 q1=>K (q0,()) (((),q1,()),(),(),()))
def w6s:PT:=Q4 ([(8,⟨bl 24647,[0,1],[],[sI 7]⟩),(28,⟨bl 3298996281543,[0,1],[],[sB 49]⟩),(37,⟨bl 1148984153929181127,[1],[(0,(104,2)),(4,(66,5))],[sI 11,(.cell 0 1,.int .i64),(.cell 4 0,.int .i64),(.cell 4 1,.str),(.cell 4 2,.str),(.cell 4 3,.own 115 C.val),(.cell 4 4,.own 66 C.ex)]⟩),(46,⟨bl 1152917567256169316295,[0,12,11,4],[(13,(66,5))],[(.cell 13 0,.int .i64),(.cell 13 1,.str),(.cell 13 2,.str),(.cell 13 3,.sl C.val),(.cell 13 4,.sl C.ex)]⟩)]:LS)
theorem v4r (Qc:Zh) (j1d:z9u) (X:q4a) (list:List (Int)) (at_:Int) (segments:List (ByteArray)) (levels:Int) (K:Ex->Int->Prop):j51 Qc j1d X list at_ segments levels K=fnV (((WL [(49,Vl Qc),(165,j55 j1d)]).with 113 (j56 X)).pl w6s) 4 113 ([.ptr 104 [.c,.v],.sl C.str,.v]:LP) ([.el C.ex]:LP) ([.ptr 104 [.sl C.u8,.int .i64],.sl C.str,.int .i64]:LV) ([.el C.ex]:LV) ([.ptr 104 [.same,.int .i64],.same,.same]:LV) ((list,at_,()),segments,levels,()) (fun r o=>K r.1 o.1.2.1):=by kernel_rfl
theorem v2w:MT 113 (j56 z09):=by
 show MT _ (conV ([.ptr 104 [.c,.v],.sl C.str,.v]:LP) ([.ptr 104 [.sl C.u8,.int .i64],.sl C.str,.int .i64]:LV) ([.el C.ex]:LV) ([.ptr 104 [.same,.int .i64],.same,.same]:LV) fun a K=>z09 a.1.1 a.1.2.1 a.2.1 a.2.2.1 (fun q0 q1=>K (q0,()) (((),q1,()),(),(),())))
 refine mR (l:=[(49,Vl Zd),(165,j55 z5y)]) (u:=4) (rk:=[.el C.ex]) (p:=w6s) ⟨Gj,y3r,trivial⟩ (by kernel_rfl) fun a K h X hX=> ?_
 exact h (fun list at_ segments levels K=>X ((list,at_,()),segments,levels,()) fun r o=>K r.1 o.1.2.1) (fun list at_ segments levels K hs=>hX ((list,at_,()),segments,levels,()) (fun r o=>K r.1 o.1.2.1) (Eq.mp (v4r Zd z5y (fun list at_ segments levels K=>X ((list,at_,()),segments,levels,()) fun r o=>K r.1 o.1.2.1) list at_ segments levels K) hs))
def z4f (X:q4v):Con Sg:=conV [.ptr 104 [.c,.v],.ptr 36 [.v,.v,.v,.sl C.decl,.own 147 C.seg,.own 122 C.flag,.own 59 C.layer,.own 68 C.exper]] [.ptr 104 [.sl C.u8,.int .i64],.ptr 36 [.str,.str,.int .i64,.sl C.decl,.vec 147 C.seg,.vec 122 C.flag,.vec 59 C.layer,.vec 68 C.exper]] [] [.ptr 104 [.same,.int .i64],.ptr 36 [.str,.str,.int .i64,.sl C.decl,.vec 147 C.seg,.vec 122 C.flag,.vec 59 C.layer,.vec 68 C.exper]] fun a K=>X a.1.1 a.1.2.1 a.2.1.1 a.2.1.2.1 a.2.1.2.2.1 a.2.1.2.2.2.1 a.2.1.2.2.2.2.1 a.2.1.2.2.2.2.2.1 a.2.1.2.2.2.2.2.2.1 a.2.1.2.2.2.2.2.2.2.1 (fun q0 q1 q2 q3 q4 q5 q6 q7 q8=>K () (((),q0,()),(q1,q2,q3,q4,q5,q6,q7,q8,()),()))
theorem w6t (Qc:Zh) (q20:z5w) (q4j:z07) (q4k:q4a) (h:AL [(49,Vl Qc),(60,w3u q20),(112,j54 q4j),(113,j56 q4k)]):MT 59 (z4f (z3g Qc q20 q4j q4k)):=mP (rk:=[]) h (by kernel_rfl) [(5,⟨bl 1427,[3,4,5],[(0,(104,2)),(1,(36,8))],[sI 5,(.cell 0 1,.int .i64),(.cell 1 4,.own 147 C.seg)]⟩),(14,⟨bl 67010035,[11,10,9,1],[(12,(147,9)),(0,(104,2))],[(.cell 12 1,.str),(.cell 0 1,.int .i64)]⟩),(18,⟨bl 67010035,[11,10,9,1],[(12,(147,9)),(0,(104,2))],[(.cell 12 4,.int .i64),(.cell 12 5,.str),(.cell 12 6,.str),(.cell 12 7,.sl C.val),(.cell 12 8,.sl C.ex),(.cell 0 1,.int .i64)]⟩)] fun a K=>by kernel_rfl
theorem w6u:MT 59 (z4f q4w):=w6t Zd z5x z08 z09 ⟨Gj,v2u,v2v,v2w,trivial⟩
def z4g (X:q1o):Con Sg:=conS [.el C.env] [.vec 9 C.str] fun a K=>X a.1 (fun q0=>K (q0,()))
theorem j7w:MT 114 (z4g Hu):=mS (l:=[]) trivial (by kernel_rfl) [(7,⟨[0,1,2],[0],[],[(.slot 3,.own 9 C.str),sI 4]⟩)] fun a K=>by kernel_rfl
def z99 (X:q65):Con Sg:=conV [.ptr 104 [.c,.v],.v] [.ptr 104 [.sl C.u8,.int .i64],.int .i64] [.vec 70 C.range] [.ptr 104 [.same,.int .i64],.same] fun a K=>X a.1.1 a.1.2.1 a.2.1 (fun q0 q1=>K (q0,()) (((),q1,()),(),()))
theorem v9a (Qc:Zh) (Wu:q51) (h:AL [(49,Vl Qc),(51,z98 Wu)]):MT 117 (z99 (j7h Qc Wu)):=mP (rk:=[.own 70 C.range]) h (by kernel_rfl) [(26,⟨[0,1,4],[],[(0,(104,2))],[(.slot 5,.own 70 C.range),sI 6,sI 7,(.cell 0 1,.int .i64)]⟩),(32,⟨bl 8444249301319923,[0,1],[],[sI 11]⟩),(9,⟨[0,1,4],[],[(0,(104,2))],[(.slot 5,.own 70 C.range),sI 6,sI 7,sI 8,(.cell 0 1,.int .i64)]⟩),(20,⟨bl 2144334835,[0,1],[],[sI 10]⟩)] fun _ _=>by kernel_rfl
theorem w6v:MT 117 (z99 q66):=v9a Zd q52 ⟨Gj,w3t,trivial⟩
end Go.En
end
noncomputable section
set_option maxRecDepth 100000
open Go Go.RowKit Go.Fl Go.Fl.Lk Go.Fx
namespace Go.En
def j7x (X:z3h):Con Sg:=conV [.ptr 104 [.c,.v],.v] [.ptr 104 [.sl C.u8,.int .i64],.int .i64] [.el C.serve] [.ptr 104 [.same,.int .i64],.same] fun a K=>X a.1.1 a.1.2.1 a.2.1 (fun q0 q1=>K (q0,()) (((),q1,()),(),()))
theorem v9b (Qc:Zh) (Wk:q1l) (q21:q65) (Q3:Wz) (h:AL [(49,Vl Qc),(58,z59 Wk),(117,z99 q21),(57,q5d Q3)]):MT 115 (j7x (j7i Qc Wk q21 Q3)):=mP (rk:=[.el C.serve]) h (by kernel_rfl) [] fun a K=>by kernel_rfl
theorem v9c:MT 115 (j7x z3i):=v9b Zd q1m q66 Jz ⟨Gj,j53,w6v,q8u,trivial⟩
def w6w (X:z9v):Con Sg:=conV [] [] [.ptr 248 [.vec 318 C.node,.map C.node C.i64,.bool]] [] fun _ K=>X (fun q0 q1 q2=>K ((q0,q1,q2,()),()) ())
theorem v9d:MT 166 (w6w j7j):=mP (rk:=[.ptr 248 [.own 318 C.node,.map C.node C.i64,.v]]) (l:=[]) trivial (by kernel_rfl) [] fun a K=>by kernel_rfl
def q0v (X:Vb):Con Sg:=conS [.int .i64] [.bool] fun a K=>X a.1 (fun q0=>K (q0,()))
theorem z1s:MT 143 (q0v Jm):=mS (l:=[]) trivial (by kernel_rfl) [] fun a K=>by kernel_rfl
def w6x (X:z9w):Con Sg:=conS [.sl C.str,.sl C.str] [.bool] fun a K=>X a.1 a.2.1 (fun q0=>K (q0,()))
theorem v9e:MT 204 (w6x z3j):=mS (l:=[]) trivial (by kernel_rfl) [(9,⟨bl 1987,[],[],[sI 5]⟩)] fun a K=>by kernel_rfl
def j2x (X:q6r):Con Sg:=conS [.el C.val,.el C.val] [.bool] fun a K=>X a.1 a.2.1 (fun q0=>K (q0,()))
theorem v4s (j1g:z9w) (h:AL [(204,w6x j1g)]):MT 144 (j2x (j2e j1g)):=mS h (by kernel_rfl) [] fun a K=>by kernel_rfl
theorem v4t:MT 144 (j2x q3f):=v4s z3j ⟨v9e,trivial⟩
def q2m (X:Hw):Con Sg:=conS [.sl C.val,.sl C.val] [.bool] fun a K=>X a.1 a.2.1 (fun q0=>K (q0,()))
theorem j7y (q1c:q6r) (h:AL [(144,j2x q1c)]):MT 278 (q2m (q67 q1c)):=mS h (by kernel_rfl) [(9,⟨bl 1987,[],[],[sI 5]⟩)] fun a K=>by kernel_rfl
theorem j7z:MT 278 (q2m Uo):=j7y q3f ⟨v4t,trivial⟩
def z1t (X:Vr):Con Sg:=conV [.el C.ex,.el C.ex] [.el C.ex,.el C.ex] [.bool] [.same,.same] fun a K=>X a.1 a.2.1 (fun q0=>K (q0,()) ((),(),()))
def z64:PT:=Q4 ([(280000009,⟨bl 1987,[],[],[sI 5]⟩)]:LS)
theorem j70 (q22:Hw) (X:Vr) (a:Ex) (b:Ex) (K:Bool->Prop):z1a q22 X a b K=fnV (((WL [(278,q2m q22)]).with 259 (z1t X)).pl z64) 4 259 ([.el C.ex,.el C.ex]:LP) ([.v]:LP) ([.el C.ex,.el C.ex]:LV) ([.bool]:LV) ([.same,.same]:LV) (a,b,()) (fun r _=>K r.1):=by kernel_rfl
theorem w3w:MT 259 (z1t Rz):=by
 show MT _ (conV ([.el C.ex,.el C.ex]:LP) ([.el C.ex,.el C.ex]:LV) ([.bool]:LV) ([.same,.same]:LV) fun a K=>Rz a.1 a.2.1 (fun q0=>K (q0,()) ((),(),())))
 refine mR (l:=[(278,q2m Uo)]) (u:=4) (rk:=[.v]) (p:=z64) ⟨j7z,trivial⟩ (by kernel_rfl) fun a K h X hX=> ?_
 exact h (fun a b K=>X (a,b,()) fun r _=>K r.1) (fun a b K hs=>hX (a,b,()) (fun r _=>K r.1) (Eq.mp (j70 Uo (fun a b K=>X (a,b,()) fun r _=>K r.1) a b K) hs))
def q3u (X:q0j):Con Sg:=conS [.sl C.ex,.el C.ex] [.int .i64] fun a K=>X a.1 a.2.1 (fun q0=>K (q0,()))
theorem w92 (q6f:Vr) (h:AL [(259,z1t q6f)]):MT 221 (q3u (z7s q6f)):=mS h (by kernel_rfl) [(5,⟨[0,1,3],[0],[],[sI 5]⟩)] fun a K=>by kernel_rfl
theorem j71:MT 221 (q3u Uc):=w92 Rz ⟨w3w,trivial⟩
def q9r (X:W0):Con Sg:=conV [.sl C.ex,.el C.ex] [.sl C.ex,.el C.ex] [.sl C.ex] [.same,.same] fun a K=>X a.1 a.2.1 (fun q0=>K (q0,()) ((),(),()))
def z4h:PT:=Q4 ([(6,⟨[1,3,4],[0],[],[(.slot 0,.sl C.ex)]⟩),(9,⟨[1,3,4],[0],[],[(.slot 0,.sl C.ex),sI 5]⟩)]:LS)
theorem j4u (Ug:q0j) (Q2:Vb) (X:W0) (l:List (Ex)) (e:Ex) (K:List (Ex)->Prop):q9h Ug Q2 X l e K=fnV (((WL [(221,q3u Ug),(143,q0v Q2)]).with 218 (q9r X)).pl z4h) 4 218 ([.sl C.ex,.el C.ex]:LP) ([.sl C.ex]:LP) ([.sl C.ex,.el C.ex]:LV) ([.sl C.ex]:LV) ([.same,.same]:LV) (l,e,()) (fun r _=>K r.1):=by kernel_rfl
theorem j95:MT 218 (q9r Bv):=by
 show MT _ (conV ([.sl C.ex,.el C.ex]:LP) ([.sl C.ex,.el C.ex]:LV) ([.sl C.ex]:LV) ([.same,.same]:LV) fun a K=>Bv a.1 a.2.1 (fun q0=>K (q0,()) ((),(),())))
 refine mR (l:=[(221,q3u Uc),(143,q0v Jm)]) (u:=4) (rk:=[.sl C.ex]) (p:=z4h) ⟨j71,z1s,trivial⟩ (by kernel_rfl) fun a K h X hX=> ?_
 exact h (fun l e K=>X (l,e,()) fun r _=>K r.1) (fun l e K hs=>hX (l,e,()) (fun r _=>K r.1) (Eq.mp (j4u Uc Jm (fun l e K=>X (l,e,()) fun r _=>K r.1) l e K) hs))
def q72 (X:Hx):Con Sg:=conS [.sl C.rule] [.sl C.ex] fun a K=>X a.1 (fun q0=>K (q0,()))
theorem j72 (q4l:W0) (h:AL [(218,q9r q4l)]):MT 167 (q72 (q68 q4l)):=mS h (by kernel_rfl) [(7,⟨[0,2],[],[],[(.slot 3,.sl C.ex),sI 4]⟩)] fun a K=>by kernel_rfl
theorem j73:MT 167 (q72 Hy):=j72 Bv ⟨j95,trivial⟩
def q2n (X:J9):Con Sg:=conV [.ptr 248 [.own 318 C.node,.map C.node C.i64,.v],.v] [.ptr 248 [.vec 318 C.node,.map C.node C.i64,.bool],.int .i64] [.bool] [.ptr 248 [.vec 318 C.node,.map C.node C.i64,.bool],.same] fun a K=>X a.1.1 a.1.2.1 a.1.2.2.1 a.2.1 (fun q0 q1 q2 q3=>K (q0,()) ((q1,q2,q3,()),(),()))
theorem q59:MT 260 (q2n Js):=mP (rk:=[.v]) (l:=[]) trivial (by kernel_rfl) [] fun a K=>by kernel_rfl
def z2t (X:B9):Con Sg:=conV [.ptr 248 [.own 318 C.node,.map C.node C.i64,.v],.v] [.ptr 248 [.vec 318 C.node,.map C.node C.i64,.bool],.int .i64] [.map C.i64 C.bool] [.ptr 248 [.vec 318 C.node,.map C.node C.i64,.bool],.same] fun a K=>X a.1.1 a.1.2.1 a.1.2.2.1 a.2.1 (fun q0 q1 q2 q3=>K (q0,()) ((q1,q2,q3,()),(),()))
theorem j4v:MT 280 (z2t Gx):=mP (rk:=[.map C.i64 C.bool]) (l:=[]) trivial (by kernel_rfl) [(7,⟨bl 1843,[0,1,2],[],[(.slot 6,.own 3 C.i64),(.obj 3,.map C.i64 C.bool)]⟩)] fun a K=>by kernel_rfl
def q3v (X:Up):Con Sg:=conV [.ptr 248 [.own 318 C.node,.map C.node C.i64,.v],.v] [.ptr 248 [.vec 318 C.node,.map C.node C.i64,.bool],.int .i64] [.vec 3 C.i64] [.ptr 248 [.vec 318 C.node,.map C.node C.i64,.bool],.same] fun a K=>X a.1.1 a.1.2.1 a.1.2.2.1 a.2.1 (fun q0 q1 q2 q3=>K (q0,()) ((q1,q2,q3,()),(),()))
theorem j2y (Qw:J9) (q0d:B9) (h:AL [(260,q2n Qw),(280,z2t q0d)]):MT 262 (q3v (q98 Qw q0d)):=mP (rk:=[.own 3 C.i64]) h (by kernel_rfl) [(13,⟨bl 32563,[5,0,4,2],[],[(.slot 6,.own 3 C.i64),sI 7]⟩)] fun a K=>by kernel_rfl
theorem j2z:MT 262 (q3v Uq):=j2y Js Gx ⟨q59,j4v,trivial⟩
def Wp (X:Zi):Con Sg:=conV [.ptr 248 [.own 318 C.node,.map C.node C.i64,.v],.v] [.ptr 248 [.vec 318 C.node,.map C.node C.i64,.bool],.int .i64] [.bool] [.ptr 248 [.vec 318 C.node,.map C.node C.i64,.bool],.same] fun a K=>X a.1.1 a.1.2.1 a.1.2.2.1 a.2.1 (fun q0 q1 q2 q3=>K (q0,()) ((q1,q2,q3,()),(),()))
theorem z6q (Qw:J9) (Be:Up) (h:AL [(260,q2n Qw),(262,q3v Be)]):MT 223 (Wp (q5v Qw Be)):=mP (rk:=[.v]) h (by kernel_rfl) [(11,⟨bl 16291,[5,0,4,2],[],[sI 6]⟩)] fun _ _=>by kernel_rfl
theorem Br:MT 223 (Wp Zj):=z6q Js Uq ⟨q59,j2z,trivial⟩
end Go.En
end
noncomputable section
set_option maxRecDepth 100000
open Go Go.RowKit Go.Fl Go.Fl.Lk Go.Fx
namespace Go.En
def B3 (X:W2):Con Sg:=conV [.ptr 248 [.own 318 C.node,.map C.node C.i64,.v],.v] [.ptr 248 [.vec 318 C.node,.map C.node C.i64,.bool],.int .i64] [.int .i64] [.ptr 248 [.vec 318 C.node,.map C.node C.i64,.bool],.same] fun a K=>X a.1.1 a.1.2.1 a.1.2.2.1 a.2.1 (fun q0 q1 q2 q3=>K (q0,()) ((q1,q2,q3,()),(),()))
theorem q9s:MT 261 (B3 Jg):=mP (rk:=[.v]) (l:=[]) trivial (by kernel_rfl) [] fun a K=>by kernel_rfl
def q0b (X:Gy):Con Sg:=conV [.ptr 248 [.own 318 C.node,.map C.node C.i64,.v],.v,.v] [.ptr 248 [.vec 318 C.node,.map C.node C.i64,.bool],.int .i64,.int .i64] [.int .i64,.int .i64] [.ptr 248 [.vec 318 C.node,.map C.node C.i64,.bool],.same,.same] fun a K=>X a.1.1 a.1.2.1 a.1.2.2.1 a.2.1 a.2.2.1 (fun q0 q1 q2 q3 q4=>K (q0,q1,()) ((q2,q3,q4,()),(),(),()))
theorem j4w (Q7:W2) (h:AL [(261,B3 Q7)]):MT 281 (q0b (z2s Q7)):=mP (rk:=[.v,.v]) h (by kernel_rfl) [] fun a K=>by kernel_rfl
theorem j4x:MT 281 (q0b Wl):=j4w Jg ⟨q9s,trivial⟩
def U2 (X:Vc):Con Sg:=conV [.ptr 248 [.own 318 C.node,.map C.node C.i64,.v],.v,.v,.v] [.ptr 248 [.vec 318 C.node,.map C.node C.i64,.bool],.int .i64,.int .i64,.int .i64] [.int .i64] [.ptr 248 [.vec 318 C.node,.map C.node C.i64,.bool],.same,.same,.same] fun a K=>X a.1.1 a.1.2.1 a.1.2.2.1 a.2.1 a.2.2.1 a.2.2.2.1 (fun q0 q1 q2 q3=>K (q0,()) ((q1,q2,q3,()),(),(),(),()))
theorem j74 (Qw:J9) (Q7:W2) (h:AL [(260,q2n Qw),(261,B3 Q7)]):MT 222 (U2 (z3k Qw Q7)):=mP (rk:=[.v]) h (by kernel_rfl) [] fun a K=>by kernel_rfl
theorem z4i:MT 222 (U2 Jh):=j74 Js Jg ⟨q59,q9s,trivial⟩
def q3w (X:Jp):Con Sg:=conV [.ptr 248 [.own 318 C.node,.map C.node C.i64,.v],.v,.v,.v,.map C.a3 C.i64] [.ptr 248 [.vec 318 C.node,.map C.node C.i64,.bool],.int .i64,.int .i64,.int .i64,.map C.a3 C.i64] [.int .i64] [.ptr 248 [.vec 318 C.node,.map C.node C.i64,.bool],.same,.same,.same,.map C.a3 C.i64] fun a K=>X a.1.1 a.1.2.1 a.1.2.2.1 a.2.1 a.2.2.1 a.2.2.2.1 a.2.2.2.2.1 (fun q0 q1 q2 q3 q4=>K (q0,()) ((q1,q2,q3,()),(),(),(),q4,()))
def q8v:PT:=Q4 ([(36,⟨bl 4951760157141239551596952607,[3,4],[(0,(248,3))],[sI 23,(.cell 0 0,.own 318 C.node),(.cell 0 2,.bool),(.obj 2,.map C.node C.i64)]⟩)]:LS)
theorem z8f (Q7:W2) (Vn:Gy) (Jv:Vc) (X:Jp) (ns:List (Nd)) (ids:(Nd->Option (Int))) (full:Bool) (f:Int) (g:Int) (h:Int) (known:(A3->Option (Int))) (K:Int->List (Nd)->(Nd->Option (Int))->Bool->(A3->Option (Int))->Prop):Ur Q7 Vn Jv X ns ids full f g h known K=fnV (((WL [(261,B3 Q7),(281,q0b Vn),(222,U2 Jv)]).with 263 (q3w X)).pl q8v) 4 263 ([.ptr 248 [.own 318 C.node,.map C.node C.i64,.v],.v,.v,.v,.map C.a3 C.i64]:LP) ([.v]:LP) ([.ptr 248 [.vec 318 C.node,.map C.node C.i64,.bool],.int .i64,.int .i64,.int .i64,.map C.a3 C.i64]:LV) ([.int .i64]:LV) ([.ptr 248 [.vec 318 C.node,.map C.node C.i64,.bool],.same,.same,.same,.map C.a3 C.i64]:LV) ((ns,ids,full,()),f,g,h,known,()) (fun r o=>K r.1 o.1.1 o.1.2.1 o.1.2.2.1 o.2.2.2.2.1):=by kernel_rfl
theorem j20:MT 263 (q3w Us):=by
 show MT _ (conV ([.ptr 248 [.own 318 C.node,.map C.node C.i64,.v],.v,.v,.v,.map C.a3 C.i64]:LP) ([.ptr 248 [.vec 318 C.node,.map C.node C.i64,.bool],.int .i64,.int .i64,.int .i64,.map C.a3 C.i64]:LV) ([.int .i64]:LV) ([.ptr 248 [.vec 318 C.node,.map C.node C.i64,.bool],.same,.same,.same,.map C.a3 C.i64]:LV) fun a K=>Us a.1.1 a.1.2.1 a.1.2.2.1 a.2.1 a.2.2.1 a.2.2.2.1 a.2.2.2.2.1 (fun q0 q1 q2 q3 q4=>K (q0,()) ((q1,q2,q3,()),(),(),(),q4,())))
 refine mR (l:=[(261,B3 Jg),(281,q0b Wl),(222,U2 Jh)]) (u:=4) (rk:=[.v]) (p:=q8v) ⟨q9s,j4x,z4i,trivial⟩ (by kernel_rfl) fun a K h X hX=> ?_
 exact h (fun ns ids full f g h known K=>X ((ns,ids,full,()),f,g,h,known,()) fun r o=>K r.1 o.1.1 o.1.2.1 o.1.2.2.1 o.2.2.2.2.1) (fun ns ids full f g h known K hs=>hX ((ns,ids,full,()),f,g,h,known,()) (fun r o=>K r.1 o.1.1 o.1.2.1 o.1.2.2.1 o.2.2.2.2.1) (Eq.mp (z8f Jg Wl Jh (fun ns ids full f g h known K=>X ((ns,ids,full,()),f,g,h,known,()) fun r o=>K r.1 o.1.1 o.1.2.1 o.1.2.2.1 o.2.2.2.2.1) ns ids full f g h known K) hs))
def U3 (X:Z4):Con Sg:=conV [.ptr 248 [.own 318 C.node,.map C.node C.i64,.v],.v,.v,.v] [.ptr 248 [.vec 318 C.node,.map C.node C.i64,.bool],.int .i64,.int .i64,.int .i64] [.int .i64] [.ptr 248 [.vec 318 C.node,.map C.node C.i64,.bool],.same,.same,.same] fun a K=>X a.1.1 a.1.2.1 a.1.2.2.1 a.2.1 a.2.2.1 a.2.2.2.1 (fun q0 q1 q2 q3=>K (q0,()) ((q1,q2,q3,()),(),(),(),()))
theorem j21 (Qq:Zi) (Qw:J9) (Bf:Jp) (h:AL [(223,Wp Qq),(260,q2n Qw),(263,q3w Bf)]):MT 224 (U3 (q99 Qq Qw Bf)):=mP (rk:=[.v]) h (by kernel_rfl) [] fun a K=>by kernel_rfl
theorem q3x:MT 224 (U3 Z5):=j21 Zj Js Us ⟨Br,q59,j20,trivial⟩
def q4h (X:Bw):Con Sg:=conV [.ptr 248 [.own 318 C.node,.map C.node C.i64,.v],.v] [.ptr 248 [.vec 318 C.node,.map C.node C.i64,.bool],.int .i64] [.int .i64] [.ptr 248 [.vec 318 C.node,.map C.node C.i64,.bool],.same] fun a K=>X a.1.1 a.1.2.1 a.1.2.2.1 a.2.1 (fun q0 q1 q2 q3=>K (q0,()) ((q1,q2,q3,()),(),()))
theorem j96 (Q0:Z4) (h:AL [(224,U3 Q0)]):MT 219 (q4h (z60 Q0)):=mP (rk:=[.v]) h (by kernel_rfl) [] fun a K=>by kernel_rfl
theorem j97:MT 219 (q4h Hf):=j96 Z5 ⟨q3x,trivial⟩
def q4i (X:Bx):Con Sg:=conV [.ptr 248 [.own 318 C.node,.map C.node C.i64,.v],.v,.v] [.ptr 248 [.vec 318 C.node,.map C.node C.i64,.bool],.int .i64,.int .i64] [.int .i64] [.ptr 248 [.vec 318 C.node,.map C.node C.i64,.bool],.same,.same] fun a K=>X a.1.1 a.1.2.1 a.1.2.2.1 a.2.1 a.2.2.1 (fun q0 q1 q2 q3=>K (q0,()) ((q1,q2,q3,()),(),(),()))
theorem j98 (Qq:Zi) (Q0:Z4) (h:AL [(223,Wp Qq),(224,U3 Q0)]):MT 220 (q4i (z61 Qq Q0)):=mP (rk:=[.v]) h (by kernel_rfl) [] fun a K=>by kernel_rfl
theorem j99:MT 220 (q4i Hg):=j98 Zj Z5 ⟨Br,q3x,trivial⟩
def q2o (X:Ga):Con Sg:=conV [.ptr 248 [.own 318 C.node,.map C.node C.i64,.v],.v,.v] [.ptr 248 [.vec 318 C.node,.map C.node C.i64,.bool],.int .i64,.int .i64] [.int .i64] [.ptr 248 [.vec 318 C.node,.map C.node C.i64,.bool],.same,.same] fun a K=>X a.1.1 a.1.2.1 a.1.2.2.1 a.2.1 a.2.2.1 (fun q0 q1 q2 q3=>K (q0,()) ((q1,q2,q3,()),(),(),()))
theorem w3x (Qq:Zi) (Q0:Z4) (h:AL [(223,Wp Qq),(224,U3 Q0)]):MT 169 (q2o (z9x Qq Q0)):=mP (rk:=[.v]) h (by kernel_rfl) [] fun a K=>by kernel_rfl
theorem j0a:MT 169 (q2o Vs):=w3x Zj Z5 ⟨Br,q3x,trivial⟩
def q73 (X:Wh):Con Sg:=conV [.ptr 248 [.own 318 C.node,.map C.node C.i64,.v],.sl C.ex,.el C.ex] [.ptr 248 [.vec 318 C.node,.map C.node C.i64,.bool],.sl C.ex,.el C.ex] [.int .i64] [.ptr 248 [.vec 318 C.node,.map C.node C.i64,.bool],.same,.same] fun a K=>X a.1.1 a.1.2.1 a.1.2.2.1 a.2.1 a.2.2.1 (fun q0 q1 q2 q3=>K (q0,()) ((q1,q2,q3,()),(),(),()))
def z2u:PT:=Q4 ([(16,⟨bl 129127,[3,0,1,2],[],[sB 26]⟩),(21,⟨bl 68249843815,[3],[(0,(248,3))],[sI 7,sI 8,(.cell 0 0,.own 318 C.node),(.cell 0 2,.bool),(.obj 2,.map C.node C.i64)]⟩)]:LS)
theorem j22 (q4m:Bw) (q4n:Bx) (Wv:Ga) (Ug:q0j) (Jv:Vc) (X:Wh) (ns:List (Nd)) (ids:(Nd->Option (Int))) (full:Bool) (atoms:List (Ex)) (e:Ex) (K:Int->List (Nd)->(Nd->Option (Int))->Bool->Prop):q69 q4m q4n Wv Ug Jv X ns ids full atoms e K=fnV (((WL [(219,q4h q4m),(220,q4i q4n),(169,q2o Wv),(221,q3u Ug),(222,U2 Jv)]).with 168 (q73 X)).pl z2u) 4 168 ([.ptr 248 [.own 318 C.node,.map C.node C.i64,.v],.sl C.ex,.el C.ex]:LP) ([.v]:LP) ([.ptr 248 [.vec 318 C.node,.map C.node C.i64,.bool],.sl C.ex,.el C.ex]:LV) ([.int .i64]:LV) ([.ptr 248 [.vec 318 C.node,.map C.node C.i64,.bool],.same,.same]:LV) ((ns,ids,full,()),atoms,e,()) (fun r o=>K r.1 o.1.1 o.1.2.1 o.1.2.2.1):=by kernel_rfl
theorem j75:MT 168 (q73 Hz):=by
 show MT _ (conV ([.ptr 248 [.own 318 C.node,.map C.node C.i64,.v],.sl C.ex,.el C.ex]:LP) ([.ptr 248 [.vec 318 C.node,.map C.node C.i64,.bool],.sl C.ex,.el C.ex]:LV) ([.int .i64]:LV) ([.ptr 248 [.vec 318 C.node,.map C.node C.i64,.bool],.same,.same]:LV) fun a K=>Hz a.1.1 a.1.2.1 a.1.2.2.1 a.2.1 a.2.2.1 (fun q0 q1 q2 q3=>K (q0,()) ((q1,q2,q3,()),(),(),())))
 refine mR (l:=[(219,q4h Hf),(220,q4i Hg),(169,q2o Vs),(221,q3u Uc),(222,U2 Jh)]) (u:=4) (rk:=[.v]) (p:=z2u) ⟨j97,j99,j0a,j71,z4i,trivial⟩ (by kernel_rfl) fun a K h X hX=> ?_
 exact h (fun ns ids full atoms e K=>X ((ns,ids,full,()),atoms,e,()) fun r o=>K r.1 o.1.1 o.1.2.1 o.1.2.2.1) (fun ns ids full atoms e K hs=>hX ((ns,ids,full,()),atoms,e,()) (fun r o=>K r.1 o.1.1 o.1.2.1 o.1.2.2.1) (Eq.mp (j22 Hf Hg Vs Uc Jh (fun ns ids full atoms e K=>X ((ns,ids,full,()),atoms,e,()) fun r o=>K r.1 o.1.1 o.1.2.1 o.1.2.2.1) ns ids full atoms e K) hs))
def Bb (X:J3):Con Sg:=conS [.sl C.rule] [.vec 3 C.i64,.int .i64,.bool] fun a K=>X a.1 (fun q0 q1 q2=>K (q0,q1,q2,()))
theorem j23 (j1i:z9v) (q23:Hx) (q24:Wh) (Wv:Ga) (h:AL [(166,w6w j1i),(167,q72 q23),(168,q73 q24),(169,q2o Wv)]):MT 116 (Bb (q3g j1i q23 q24 Wv)):=mS h (by kernel_rfl) [(13,⟨bl 28769,[],[(0,(248,3))],[sI 7,(.slot 8,.own 3 C.i64),sI 9,(.cell 0 0,.own 318 C.node),(.cell 0 2,.bool),(.obj 2,.map C.node C.i64)]⟩)] fun a K=>by kernel_rfl
theorem z0u:MT 116 (Bb J4):=j23 j7j Hy Hz Vs ⟨v9d,j73,j75,j0a,trivial⟩
def j76 (X:z3l):Con Sg:=conV [.ptr 104 [.c,.v],.v] [.ptr 104 [.sl C.u8,.int .i64],.str] [.el C.layer] [.ptr 104 [.same,.int .i64],.same] fun a K=>X a.1.1 a.1.2.1 a.2.1 (fun q0 q1=>K (q0,()) (((),q1,()),(),()))
theorem v9f (Wk:q1l) (Qc:Zh) (Wu:q51) (h:AL [(58,z59 Wk),(49,Vl Qc),(51,z98 Wu)]):MT 62 (j76 (j7k Wk Qc Wu)):=mP (rk:=[.el C.layer]) h (by kernel_rfl) [(8,⟨bl 130099,[1],[(2,(59,6)),(0,(104,2))],[(.cell 2 1,.str),(.cell 0 1,.int .i64)]⟩),(12,⟨bl 130099,[1],[(2,(59,6)),(0,(104,2))],[(.cell 2 3,.int .i64),(.cell 0 1,.int .i64)]⟩),(17,⟨bl 130099,[1],[(2,(59,6)),(0,(104,2))],[sI 6,sI 7,(.cell 2 5,.own 197 C.cool),(.cell 0 1,.int .i64)]⟩)] fun a K=>by kernel_rfl
theorem v9g:MT 62 (j76 z3m):=v9f q1m Zd q52 ⟨j53,Gj,w3t,trivial⟩
def w1o (X:z5z):Con Sg:=conS [.int .i64] [.bool] fun a K=>X a.1 (fun q0=>K (q0,()))
theorem v4u:MT 149 (w1o z0a):=mS (l:=[]) trivial (by kernel_rfl) [] fun a K=>by kernel_rfl
def q6a (X:Vt):Con Sg:=conS [.el C.env,.str] [.int .i64] fun a K=>X a.1 a.2.1 (fun q0=>K (q0,()))
theorem z1u:MT 41 (q6a Vu):=mS (l:=[]) trivial (by kernel_rfl) [(5,⟨[0,1,2],[0],[],[sI 5]⟩)] fun a K=>by kernel_rfl
def z4j (X:q1p):Con Sg:=conS [.sl C.cool,.int .i64] [.vec 3 C.i64] fun a K=>X a.1 a.2.1 (fun q0=>K (q0,()))
theorem j77:MT 95 (z4j H0):=mS (l:=[]) trivial (by kernel_rfl) [(7,⟨bl 563,[],[],[sI 6,(.obj 0,.own 3 C.i64)]⟩),(15,⟨bl 15987,[],[],[sI 7,(.obj 0,.own 3 C.i64)]⟩),(21,⟨bl 4243603187,[],[],[sI 8,(.obj 0,.own 3 C.i64)]⟩)] fun _ _=>by kernel_rfl
end Go.En
end
noncomputable section
set_option maxRecDepth 100000
open Go Go.RowKit Go.Fl Go.Fl.Lk Go.Fx
namespace Go.En
def q3y (X:Wm):Con Sg:=conS [.sl C.bool] [.vec 95 C.span] fun a K=>X a.1 (fun q0=>K (q0,()))
theorem q74:MT 150 (q3y J5):=mS (l:=[]) trivial (by kernel_rfl) [(7,⟨[0,2],[],[],[(.slot 3,.own 95 C.span),sI 4]⟩)] fun a K=>by kernel_rfl
def z8g (X:q7a):Con Sg:=conS [.sl C.i64,.int .i64] [.vec 95 C.span] fun a K=>X a.1 a.2.1 (fun q0=>K (q0,()))
theorem w93 (Q5:Wm) (h:AL [(150,q3y Q5)]):MT 151 (z8g (z7t Q5)):=mS h (by kernel_rfl) [(7,⟨bl 947,[],[],[sI 6,(.obj 0,.own 4 C.bool)]⟩)] fun a K=>by kernel_rfl
theorem w94:MT 151 (z8g q7b):=w93 J5 ⟨q74,trivial⟩
def z4k (X:By):Con Sg:=conS [.sl C.span] [.vec 4 C.bool] fun a K=>X a.1 (fun q0=>K (q0,()))
theorem j0b:MT 96 (z4k H1):=mS (l:=[]) trivial (by kernel_rfl) [(7,⟨bl 77,[],[],[sI 4,(.obj 0,.own 4 C.bool)]⟩),(13,⟨bl 518109,[],[],[sI 5,(.obj 0,.own 4 C.bool)]⟩)] fun a K=>by kernel_rfl
def z8h (X:q7c):Con Sg:=conS [.sl C.span,.sl C.span] [.vec 95 C.span] fun a K=>X a.1 a.2.1 (fun q0=>K (q0,()))
theorem w95 (Jd:By) (Q5:Wm) (h:AL [(96,z4k Jd),(150,q3y Q5)]):MT 90 (z8h (z7u Jd Q5)):=mS h (by kernel_rfl) [(7,⟨bl 3955,[1],[],[sI 7,(.obj 0,.own 4 C.bool)]⟩)] fun a K=>by kernel_rfl
theorem w96:MT 90 (z8h q7d):=w95 H1 J5 ⟨j0b,q74,trivial⟩
def z8i (X:q7e):Con Sg:=conS [.el C.env,.str,.str,.int .i64] [.vec 95 C.span] fun a K=>X a.1 a.2.1 a.2.2.1 a.2.2.2.1 (fun q0=>K (q0,()))
theorem w97 (Zw:Vt) (q01:q7c) (Rs:q1p) (q37:q7a) (h:AL [(41,q6a Zw),(90,z8h q01),(95,z4j Rs),(151,z8g q37)]):MT 94 (z8i (z7v Zw q01 Rs q37)):=mS h (by kernel_rfl) [(10,⟨bl 254751,[0],[],[(.slot 10,.own 95 C.span)]⟩),(13,⟨bl 254751,[0],[],[(.slot 10,.own 95 C.span),sI 11]⟩)] fun a K=>by kernel_rfl
theorem w98:MT 94 (z8i q7f):=w97 Vu q7d H0 q7b ⟨z1u,w96,j77,w94,trivial⟩
def z1v (X:q0k):Con Sg:=conS [.sl C.span,.sl C.span] [.vec 95 C.span] fun a K=>X a.1 a.2.1 (fun q0=>K (q0,()))
theorem w99 (Jd:By) (Q5:Wm) (h:AL [(96,z4k Jd),(150,q3y Q5)]):MT 118 (z1v (z7w Jd Q5)):=mS h (by kernel_rfl) [(7,⟨bl 3955,[1],[],[sI 7,(.obj 0,.own 4 C.bool)]⟩)] fun a K=>by kernel_rfl
theorem j78:MT 118 (z1v q0l):=w99 H1 J5 ⟨j0b,q74,trivial⟩
def j24 (X:z0b):Con Sg:=conS [.el C.env,.str,.int .i64] [.vec 95 C.span,.int .i64] fun a K=>X a.1 a.2.1 a.2.2.1 (fun q0 q1=>K (q0,q1,()))
theorem v4v (z6e:z5z) (Zw:Vt) (z2j:q7e) (Gq:q0k) (h:AL [(149,w1o z6e),(41,q6a Zw),(94,z8i z2j),(118,z1v Gq)]):MT 88 (j24 (j2f z6e Zw z2j Gq)):=mS h (by kernel_rfl) [] fun a K=>by kernel_rfl
theorem v4w:MT 88 (j24 z0c):=v4v z0a Vu q7f q0l ⟨v4u,z1u,w98,j78,trivial⟩
def z8j (X:q7g):Con Sg:=conS [.sl C.span,.int .i64] [.vec 95 C.span] fun a K=>X a.1 a.2.1 (fun q0=>K (q0,()))
theorem v0a (Jd:By) (Q5:Wm) (h:AL [(96,z4k Jd),(150,q3y Q5)]):MT 91 (z8j (z7x Jd Q5)):=mS h (by kernel_rfl) [(7,⟨bl 433,[],[],[sI 1,sI 6,(.obj 0,.own 4 C.bool)]⟩)] fun a K=>by kernel_rfl
theorem v0b:MT 91 (z8j q7h):=v0a H1 J5 ⟨j0b,q74,trivial⟩
def q2p (X:Vv):Con Sg:=conV [.v] [.str] [.bool] [.same] fun a K=>X a.1 (fun q0=>K (q0,()) ((),()))
theorem q8w:MT 246 (q2p Jt):=⟨entB (by kernel_rfl),z96⟩
def Bc (X:Jq):Con Sg:=conS [.str] [.bool] fun a K=>X a.1 (fun q0=>K (q0,()))
theorem v4x (Zx:Vv) (h:AL [(246,q2p Zx)]):MT 209 (Bc (z50 Zx)):=mS h (by kernel_rfl) [(9,⟨bl 4081,[],[],[sI 3]⟩)] fun a K=>by kernel_rfl
theorem q3z:MT 209 (Bc Z6):=v4x Jt ⟨q8w,trivial⟩
def w6y (X:z9y):Con Sg:=conS [.str] [.bool] fun a K=>X a.1 (fun q0=>K (q0,()))
theorem v9h:MT 247 (w6y z3n):=mS (l:=[]) trivial (by kernel_rfl) [(5,⟨[0],[],[],[sI 3]⟩)] fun a K=>by kernel_rfl
def j0c (X:q53):Con Sg:=conS [] [.vec 9 C.str] fun _ K=>X (fun q0=>K (q0,()))
theorem w3y:MT 248 (j0c q1q):=mS (l:=[]) trivial (by kernel_rfl) [] fun a K=>by kernel_rfl
def Bd (X:Jj):Con Sg:=conS [.str] [.bool] fun a K=>X a.1 (fun q0=>K (q0,()))
theorem y3s (j1j:z9y) (q6g:q53) (h:AL [(247,w6y j1j),(248,j0c q6g)]):MT 210 (Bd (w3m j1j q6g)):=mS h (by kernel_rfl) [(11,⟨bl 16361,[0],[],[sI 4]⟩)] fun a K=>by kernel_rfl
theorem q2q:MT 210 (Bd Jk):=y3s z3n q1q ⟨v9h,w3y,trivial⟩
def z1w (X:q1r):Con Sg:=conS [.el C.settings] [.int .i64] fun a K=>X a.1 (fun q0=>K (q0,()))
theorem w3z (Qt:Jq) (Ql:Jj) (h:AL [(209,Bc Qt),(210,Bd Ql)]):MT 152 (z1w (z1b Qt Ql)):=mS h (by kernel_rfl) [] fun _ _=>by kernel_rfl
theorem w30:MT 152 (z1w q1s):=w3z Z6 Jk ⟨q3z,q2q,trivial⟩
end Go.En
end
noncomputable section
set_option maxRecDepth 100000
open Go Go.RowKit Go.Fl Go.Fl.Lk Go.Fx
namespace Go.En
def z1x (X:q1t):Con Sg:=conS [.sl C.decl] [.int .i64] fun a K=>X a.1 (fun q0=>K (q0,()))
theorem w31 (Ql:Jj) (h:AL [(210,Bd Ql)]):MT 153 (z1x (z1c Ql)):=mS h (by kernel_rfl) [(9,⟨bl 113,[],[],[sI 3]⟩)] fun a K=>by kernel_rfl
theorem w32:MT 153 (z1x q1u):=w31 Jk ⟨q2q,trivial⟩
def q8x (X:H2):Con Sg:=conS [.sl C.str] [.int .i64] fun a K=>X a.1 (fun q0=>K (q0,()))
theorem w6z (Qt:Jq) (h:AL [(209,Bc Qt)]):MT 249 (q8x (z3o Qt)):=mS h (by kernel_rfl) [(9,⟨bl 113,[],[],[sI 3]⟩)] fun a K=>by kernel_rfl
theorem j4b:MT 249 (q8x H3):=w6z Z6 ⟨q3z,trivial⟩
def w60 (X:z9z):Con Sg:=conS [.el C.ex] [.bool] fun a K=>X a.1 (fun q0=>K (q0,()))
theorem v9i:MT 250 (w60 z3p):=mS (l:=[]) trivial (by kernel_rfl) [] fun a K=>by kernel_rfl
def z8k (X:q7i):Con Sg:=conS [.el C.ex] [.bool] fun a K=>X a.1 (fun q0=>K (q0,()))
theorem v0c (Q2:Vb) (h:AL [(143,q0v Q2)]):MT 301 (z8k (z7y Q2)):=mS h (by kernel_rfl) [(20,⟨bl 16327,[0],[],[sB 3,sB 4]⟩)] fun a K=>by kernel_rfl
theorem v0d:MT 301 (z8k q7j):=v0c Jm ⟨z1s,trivial⟩
def w1p (X:z52):Con Sg:=conS [.el C.val] [.bool] fun a K=>X a.1 (fun q0=>K (q0,()))
theorem v4y:MT 243 (w1p q3h):=mS (l:=[]) trivial (by kernel_rfl) [] fun a K=>by kernel_rfl
def z2v (X:q0a):Con Sg:=conS [.str] [.int .i64,.int .i64] fun a K=>X a.1 (fun q0 q1=>K (q0,q1,()))
theorem j4y:MT 245 (z2v J0):=mS (l:=[]) trivial (by kernel_rfl) [(8,⟨bl 269,[],[],[(.slot 4,.str)]⟩),(11,⟨[0,4,8],[],[],[sI 5]⟩),(31,⟨bl 562915601547569,[],[],[sI 6,sI 7]⟩)] fun a K=>by kernel_rfl
def j25 (X:q6s):Con Sg:=conS [.str] [.el C.a3,.bool] fun a K=>X a.1 (fun q0 q1=>K (q0,q1,()))
theorem v4z (Hc:q0a) (h:AL [(245,z2v Hc)]):MT 207 (j25 (z54 Hc)):=mS h (by kernel_rfl) [(9,⟨[0,2,4],[],[(1,(257,3)),(0,(257,3))],[sI 5,sI 6,(.cell 1 0,.int .i64),(.cell 1 1,.int .i64),(.cell 1 2,.int .i64),(.cell 0 0,.int .i64),(.cell 0 1,.int .i64),(.cell 0 2,.int .i64)]⟩),(15,⟨bl 19669,[1,0],[],[sI 5]⟩)] fun a K=>by kernel_rfl
theorem v40:MT 207 (j25 q05):=v4z J0 ⟨j4y,trivial⟩
def j79 (X:z3q):Con Sg:=conS [.sl C.str] [.int .i64] fun a K=>X a.1 (fun q0=>K (q0,()))
theorem v9j (Qt:Jq) (h:AL [(209,Bc Qt)]):MT 244 (j79 (z90 Qt)):=mS h (by kernel_rfl) [(9,⟨bl 225,[],[],[sI 3]⟩),(19,⟨bl 4073,[],[],[sI 4]⟩)] fun a K=>by kernel_rfl
theorem v9k:MT 244 (j79 q7k):=v9j Z6 ⟨q3z,trivial⟩
def z6a (X:q06):Con Sg:=conS [.el C.val] [.int .i64] fun a K=>X a.1 (fun q0=>K (q0,()))
theorem v41 (z6f:z52) (Qt:Jq) (q38:q6s) (j1k:z3q) (h:AL [(243,w1p z6f),(209,Bc Qt),(207,j25 q38),(244,j79 j1k)]):MT 205 (z6a (z55 z6f Qt q38 j1k)):=mS h (by kernel_rfl) [] fun a K=>by kernel_rfl
theorem w1q:MT 205 (z6a Hh):=v41 q3h Z6 q05 q7k ⟨v4y,q3z,v40,v9k,trivial⟩
def j0d (X:z3r):Con Sg:=conS [.el C.ex] [.int .i64] fun a K=>X a.1 (fun q0=>K (q0,()))
theorem v9l (z2k:q7i) (Q2:Vb) (Ql:Jj) (Jr:q06) (h:AL [(301,z8k z2k),(143,q0v Q2),(210,Bd Ql),(205,z6a Jr)]):MT 292 (j0d (j7l z2k Q2 Ql Jr)):=mS h (by kernel_rfl) [(17,⟨bl 134217667,[0],[],[sI 3]⟩),(31,⟨bl 9412450882139616968651,[0],[],[sI 4]⟩)] fun a K=>by kernel_rfl
theorem v9m:MT 292 (j0d z0d):=v9l q7j Jm Jk Hh ⟨v0d,z1s,q2q,w1q,trivial⟩
def j8a (X:q4x):Con Sg:=conV [.el C.ex,.v,.ptr 3 [.v]] [.el C.ex,.int .i64,.ptr 3 [.int .i64]] [.int .i64] [.same,.same,.ptr 3 [.int .i64]] fun a K=>X a.1 a.2.1 a.2.2.1.1 (fun q0 q1=>K (q0,()) ((),(),(q1,()),()))
def w1r:PT:=Q4 ([(21,⟨bl 33553551,[1],[(0,(3,1))],[sI 8,(.cell 0 0,.int .i64)]⟩)]:LS)
theorem v0e (j1l:z3r) (X:q4x) (e:Ex) (depth:Int) (n:Int) (K:Int->Int->Prop):j7m j1l X e depth n K=fnV (((WL [(292,j0d j1l)]).with 277 (j8a X)).pl w1r) 4 277 ([.el C.ex,.v,.ptr 3 [.v]]:LP) ([.v]:LP) ([.el C.ex,.int .i64,.ptr 3 [.int .i64]]:LV) ([.int .i64]:LV) ([.same,.same,.ptr 3 [.int .i64]]:LV) (e,depth,(n,()),()) (fun r o=>K r.1 o.2.2.1.1):=by kernel_rfl
theorem v9n:MT 277 (j8a z3s):=by
 show MT _ (conV ([.el C.ex,.v,.ptr 3 [.v]]:LP) ([.el C.ex,.int .i64,.ptr 3 [.int .i64]]:LV) ([.int .i64]:LV) ([.same,.same,.ptr 3 [.int .i64]]:LV) fun a K=>z3s a.1 a.2.1 a.2.2.1.1 (fun q0 q1=>K (q0,()) ((),(),(q1,()),())))
 refine mR (l:=[(292,j0d z0d)]) (u:=4) (rk:=[.v]) (p:=w1r) ⟨v9m,trivial⟩ (by kernel_rfl) fun a K h X hX=> ?_
 exact h (fun e depth n K=>X (e,depth,(n,()),()) fun r o=>K r.1 o.2.2.1.1) (fun e depth n K hs=>hX (e,depth,(n,()),()) (fun r o=>K r.1 o.2.2.1.1) (Eq.mp (v0e z0d (fun e depth n K=>X (e,depth,(n,()),()) fun r o=>K r.1 o.2.2.1.1) e depth n K) hs))
def z4l (X:q1v):Con Sg:=conS [.el C.ex] [.int .i64] fun a K=>X a.1 (fun q0=>K (q0,()))
theorem v9o (j1m:q4x) (h:AL [(277,j8a j1m)]):MT 251 (z4l (j7n j1m)):=mS h (by kernel_rfl) [] fun a K=>by kernel_rfl
theorem j8b:MT 251 (z4l q1w):=v9o z3s ⟨v9n,trivial⟩
def z4m (X:q4y):Con Sg:=conS [.el C.seg] [.int .i64] fun a K=>X a.1 (fun q0=>K (q0,()))
theorem w61 (Ql:Jj) (W6:H2) (j1n:z9z) (V6:q1v) (h:AL [(210,Bd Ql),(249,q8x W6),(250,w60 j1n),(251,z4l V6)]):MT 211 (z4m (z3t Ql W6 j1n V6)):=mS h (by kernel_rfl) [] fun a K=>by kernel_rfl
theorem w62:MT 211 (z4m q4z):=w61 Jk H3 z3p q1w ⟨q2q,j4b,v9i,j8b,trivial⟩
def z1y (X:q1x):Con Sg:=conS [.sl C.seg] [.int .i64] fun a K=>X a.1 (fun q0=>K (q0,()))
theorem w33 (q83:q4y) (h:AL [(211,z4m q83)]):MT 154 (z1y (z1d q83)):=mS h (by kernel_rfl) [(9,⟨bl 225,[],[],[sI 3]⟩)] fun _ _=>by kernel_rfl
theorem w34:MT 154 (z1y q1y):=w33 q4z ⟨w62,trivial⟩
end Go.En
end
noncomputable section
set_option maxRecDepth 100000
open Go Go.RowKit Go.Fl Go.Fl.Lk Go.Fx
namespace Go.En
def q75 (X:H4):Con Sg:=conS [.el C.flag] [.int .i64] fun a K=>X a.1 (fun q0=>K (q0,()))
theorem j8c (Jr:q06) (h:AL [(205,z6a Jr)]):MT 252 (q75 (q7l Jr)):=mS h (by kernel_rfl) [(15,⟨bl 8139,[0],[],[sI 4]⟩)] fun a K=>by kernel_rfl
theorem j8d:MT 252 (q75 H5):=j8c Hh ⟨w1q,trivial⟩
def q2r (X:Vw):Con Sg:=conS [.sl C.prereq] [.int .i64] fun a K=>X a.1 (fun q0=>K (q0,()))
theorem j0e (Ql:Jj) (h:AL [(210,Bd Ql)]):MT 253 (q2r (q1z Ql)):=mS h (by kernel_rfl) [(9,⟨bl 113,[],[],[sI 3]⟩)] fun a K=>by kernel_rfl
theorem j0f:MT 253 (q2r Vx):=j0e Jk ⟨q2q,trivial⟩
def z4n (X:q40):Con Sg:=conS [.sl C.target,.int .i64] [.int .i64] fun a K=>X a.1 a.2.1 (fun q0=>K (q0,()))
theorem w63 (Ql:Jj) (W6:H2) (h:AL [(210,Bd Ql),(249,q8x W6)]):MT 254 (z4n (z3u Ql W6)):=mS h (by kernel_rfl) [(9,⟨bl 899,[],[],[sI 5]⟩)] fun a K=>by kernel_rfl
theorem w65:MT 254 (z4n q41):=w63 Jk H3 ⟨q2q,j4b,trivial⟩
def j26 (X:q6t):Con Sg:=conS [.sl C.range,.int .i64] [.int .i64] fun a K=>X a.1 a.2.1 (fun q0=>K (q0,()))
theorem w1s:MT 258 (j26 q3i):=mS (l:=[]) trivial (by kernel_rfl) [(11,⟨bl 899,[],[],[sI 5,sI 6]⟩)] fun a K=>by kernel_rfl
def z6b (X:q3j):Con Sg:=conS [.el C.serve,.int .i64] [.int .i64] fun a K=>X a.1 a.2.1 (fun q0=>K (q0,()))
theorem v42 (Ql:Jj) (Qt:Jq) (Bg:q6t) (h:AL [(210,Bd Ql),(209,Bc Qt),(258,j26 Bg)]):MT 256 (z6b (j2g Ql Qt Bg)):=mS h (by kernel_rfl) [] fun a K=>by kernel_rfl
theorem w1t:MT 256 (z6b q3k):=v42 Jk Z6 q3i ⟨q2q,q3z,w1s,trivial⟩
def j27 (X:z0e):Con Sg:=conS [.sl C.rule,.int .i64] [.int .i64] fun a K=>X a.1 a.2.1 (fun q0=>K (q0,()))
theorem v43 (Ql:Jj) (V6:q1v) (Bh:q3j) (h:AL [(210,Bd Ql),(251,z4l V6),(256,z6b Bh)]):MT 255 (j27 (j2h Ql V6 Bh)):=mS h (by kernel_rfl) [(9,⟨bl 3587,[],[],[sI 5]⟩),(19,⟨bl 33357347,[],[],[sI 6]⟩)] fun a K=>by kernel_rfl
theorem v44:MT 255 (j27 z0f):=v43 Jk q1w q3k ⟨q2q,j8b,w1t,trivial⟩
def j8e (X:z3v):Con Sg:=conS [.el C.flag] [.int .i64] fun a K=>X a.1 (fun q0=>K (q0,()))
theorem v9p (Ql:Jj) (q25:H4) (Hl:Vw) (q84:q40) (z6g:z0e) (Bh:q3j) (h:AL [(210,Bd Ql),(252,q75 q25),(253,q2r Hl),(254,z4n q84),(255,j27 z6g),(256,z6b Bh)]):MT 212 (j8e (j7o Ql q25 Hl q84 z6g Bh)):=mS h (by kernel_rfl) [] fun a K=>by kernel_rfl
theorem v9q:MT 212 (j8e z3w):=v9p Jk H5 Vx q41 z0f q3k ⟨q2q,j8d,j0f,w65,v44,w1t,trivial⟩
def j28 (X:z0g):Con Sg:=conS [.sl C.flag] [.int .i64] fun a K=>X a.1 (fun q0=>K (q0,()))
theorem v45 (j1p:z3v) (h:AL [(212,j8e j1p)]):MT 155 (j28 (j2i j1p)):=mS h (by kernel_rfl) [(9,⟨bl 225,[],[],[sI 3]⟩)] fun a K=>by kernel_rfl
theorem v47:MT 155 (j28 z0h):=v45 z3w ⟨v9q,trivial⟩
def j29 (X:z0i):Con Sg:=conS [.el C.layer] [.int .i64] fun a K=>X a.1 (fun q0=>K (q0,()))
theorem v48 (Ql:Jj) (Qt:Jq) (h:AL [(210,Bd Ql),(209,Bc Qt)]):MT 213 (j29 (j2j Ql Qt)):=mS h (by kernel_rfl) [(21,⟨bl 2199023255523,[0],[],[sI 3]⟩)] fun a K=>by kernel_rfl
theorem v49:MT 213 (j29 z0j):=v48 Jk Z6 ⟨q2q,q3z,trivial⟩
def z8l (X:q7m):Con Sg:=conS [.sl C.layer] [.int .i64] fun a K=>X a.1 (fun q0=>K (q0,()))
theorem v0f (z6h:z0i) (h:AL [(213,j29 z6h)]):MT 156 (z8l (z7z z6h)):=mS h (by kernel_rfl) [(9,⟨bl 225,[],[],[sI 3]⟩)] fun a K=>by kernel_rfl
theorem v0g:MT 156 (z8l q7n):=v0f z0j ⟨v49,trivial⟩
def w1u (X:z56):Con Sg:=conS [.sl C.span] [.int .i64] fun a K=>X a.1 (fun q0=>K (q0,()))
theorem v5a:MT 257 (w1u z0k):=mS (l:=[]) trivial (by kernel_rfl) [(9,⟨bl 113,[],[],[sI 3]⟩)] fun a K=>by kernel_rfl
def q76 (X:H6):Con Sg:=conS [.el C.exper] [.int .i64] fun a K=>X a.1 (fun q0=>K (q0,()))
theorem j8f (Ql:Jj) (Qt:Jq) (z6i:z56) (Bg:q6t) (V6:q1v) (h:AL [(210,Bd Ql),(209,Bc Qt),(257,w1u z6i),(258,j26 Bg),(251,z4l V6)]):MT 214 (q76 (q7o Ql Qt z6i Bg V6)):=mS h (by kernel_rfl) [] fun a K=>by kernel_rfl
theorem j8g:MT 214 (q76 H7):=j8f Jk Z6 z0k q3i q1w ⟨q2q,q3z,v5a,w1s,j8b,trivial⟩
def q5p (X:Gz):Con Sg:=conS [.sl C.exper] [.int .i64] fun a K=>X a.1 (fun q0=>K (q0,()))
theorem j4z (q26:H6) (h:AL [(214,q76 q26)]):MT 157 (q5p (q5k q26)):=mS h (by kernel_rfl) [(9,⟨bl 225,[],[],[sI 3]⟩)] fun a K=>by kernel_rfl
theorem j40:MT 157 (q5p G0):=j4z H7 ⟨j8g,trivial⟩
def q5q (X:G1):Con Sg:=conS [.el C.env] [.int .i64] fun a K=>X a.1 (fun q0=>K (q0,()))
theorem j41 (q6h:q1r) (q6i:q1t) (q6j:q1x) (z6j:z0g) (z2l:q7m) (q0e:Gz) (h:AL [(152,z1w q6h),(153,z1x q6i),(154,z1y q6j),(155,j28 z6j),(156,z8l z2l),(157,q5p q0e)]):MT 99 (q5q (q5l q6h q6i q6j z6j z2l q0e)):=mS h (by kernel_rfl) [] fun _ _=>by kernel_rfl
theorem j42:MT 99 (q5q G2):=j41 q1s q1u q1y z0h q7n G0 ⟨w30,w32,w34,v47,v0g,j40,trivial⟩
end Go.En
end
noncomputable section
set_option maxRecDepth 100000
open Go Go.RowKit Go.Fl Go.Fl.Lk Go.Fx
namespace Go.En
def z6c (X:R0):Con Sg:=conS [.sl C.seg] [.vec 9 C.str] fun a K=>X a.1 (fun q0=>K (q0,()))
theorem j3a:MT 100 (z6c R1):=mS (l:=[]) trivial (by kernel_rfl) [(7,⟨[0,2],[],[],[(.slot 3,.own 9 C.str),sI 4]⟩)] fun a K=>by kernel_rfl
def j0g (X:R2):Con Sg:=conS [.sl C.str,.str] [.bool] fun a K=>X a.1 a.2.1 (fun q0=>K (q0,()))
theorem w35:MT 81 (j0g Gb):=mS (l:=[]) trivial (by kernel_rfl) [(5,⟨[0,1],[],[],[sI 5]⟩)] fun a K=>by kernel_rfl
def j0h (X:z0l):Con Sg:=conS [.sl C.decl,.str,.str] [.int .i64] fun a K=>X a.1 a.2.1 a.2.2.1 (fun q0=>K (q0,()))
theorem w66:MT 158 (j0h q10):=mS (l:=[]) trivial (by kernel_rfl) [(5,⟨[0,1,2],[],[],[sI 7]⟩)] fun a K=>by kernel_rfl
def j8h (X:z91):Con Sg:=conS [.int .i64,.el C.ex] [.bool] fun a K=>X a.1 a.2.1 (fun q0=>K (q0,()))
theorem v9r:MT 159 (j8h q7p):=mS (l:=[]) trivial (by kernel_rfl) [(11,⟨bl 8075,[0],[],[sI 5]⟩),(36,⟨bl 8795019288539,[0],[],[sB 46]⟩)] fun a K=>by kernel_rfl
def z4o (X:G3):Con Sg:=conV [.sl C.decl,.sl C.str,.el C.ex] [.sl C.decl,.sl C.str,.el C.ex] [.int .i64] [.same,.same,.same] fun a K=>X a.1 a.2.1 a.2.2.1 (fun q0=>K (q0,()) ((),(),(),()))
def w1v:PT:=Q4 ([(18,⟨bl 1047591,[0],[],[]⟩),(21,⟨bl 1047591,[0],[],[sI 8]⟩)]:LS)
theorem v0h (Zz:R2) (Q2:Vb) (B6:z0l) (z5j:z91) (X:G3) (l:List (Decl)) (segments:List (ByteArray)) (e:Ex) (K:Int->Prop):j7p Zz Q2 B6 z5j X l segments e K=fnV (((WL [(81,j0g Zz),(143,q0v Q2),(158,j0h B6),(159,j8h z5j)]).with 101 (z4o X)).pl w1v) 4 101 ([.sl C.decl,.sl C.str,.el C.ex]:LP) ([.v]:LP) ([.sl C.decl,.sl C.str,.el C.ex]:LV) ([.int .i64]:LV) ([.same,.same,.same]:LV) (l,segments,e,()) (fun r _=>K r.1):=by kernel_rfl
theorem j8i:MT 101 (z4o q11):=by
 show MT _ (conV ([.sl C.decl,.sl C.str,.el C.ex]:LP) ([.sl C.decl,.sl C.str,.el C.ex]:LV) ([.int .i64]:LV) ([.same,.same,.same]:LV) fun a K=>q11 a.1 a.2.1 a.2.2.1 (fun q0=>K (q0,()) ((),(),(),())))
 refine mR (l:=[(81,j0g Gb),(143,q0v Jm),(158,j0h q10),(159,j8h q7p)]) (u:=4) (rk:=[.v]) (p:=w1v) ⟨w35,z1s,w66,v9r,trivial⟩ (by kernel_rfl) fun a K h X hX=> ?_
 exact h (fun l segments e K=>X (l,segments,e,()) fun r _=>K r.1) (fun l segments e K hs=>hX (l,segments,e,()) (fun r _=>K r.1) (Eq.mp (v0h Gb Jm q10 q7p (fun l segments e K=>X (l,segments,e,()) fun r _=>K r.1) l segments e K) hs))
def j0i (X:q54):Con Sg:=conS [.sl C.str,.str] [.sl C.str] fun a K=>X a.1 a.2.1 (fun q0=>K (q0,()))
theorem w36:MT 85 (j0i q12):=mS (l:=[]) trivial (by kernel_rfl) [(5,⟨[0,1,4],[],[],[sI 5]⟩)] fun a K=>by kernel_rfl
def z4p (X:U7):Con Sg:=conV [.sl C.str,.el C.ex] [.sl C.str,.el C.ex] [.sl C.str] [.same,.same] fun a K=>X a.1 a.2.1 (fun q0=>K (q0,()) ((),(),()))
def j0j:PT:=Q4 ([(6,⟨[1,3,4],[0],[],[(.slot 0,.sl C.str)]⟩),(9,⟨[1,3,4],[0],[],[(.slot 0,.sl C.str),sI 5]⟩)]:LS)
theorem w0a (Uk:q54) (X:U7) (l:List (ByteArray)) (e:Ex) (K:List (ByteArray)->Prop):q8o Uk X l e K=fnV (((WL [(85,j0i Uk)]).with 216 (z4p X)).pl j0j) 4 216 ([.sl C.str,.el C.ex]:LP) ([.sl C.str]:LP) ([.sl C.str,.el C.ex]:LV) ([.sl C.str]:LV) ([.same,.same]:LV) (l,e,()) (fun r _=>K r.1):=by kernel_rfl
theorem w67:MT 216 (z4p q07):=by
 show MT _ (conV ([.sl C.str,.el C.ex]:LP) ([.sl C.str,.el C.ex]:LV) ([.sl C.str]:LV) ([.same,.same]:LV) fun a K=>q07 a.1 a.2.1 (fun q0=>K (q0,()) ((),(),())))
 refine mR (l:=[(85,j0i q12)]) (u:=4) (rk:=[.sl C.str]) (p:=j0j) ⟨w36,trivial⟩ (by kernel_rfl) fun a K h X hX=> ?_
 exact h (fun l e K=>X (l,e,()) fun r _=>K r.1) (fun l e K hs=>hX (l,e,()) (fun r _=>K r.1) (Eq.mp (w0a q12 (fun l e K=>X (l,e,()) fun r _=>K r.1) l e K) hs))
def z4q (X:q42):Con Sg:=conS [.el C.ex] [.sl C.str] fun a K=>X a.1 (fun q0=>K (q0,()))
theorem w68 (q85:U7) (h:AL [(216,z4p q85)]):MT 161 (z4q (q8p q85)):=mS h (by kernel_rfl) [] fun a K=>by kernel_rfl
theorem w69:MT 161 (z4q H8):=w68 q07 ⟨w67,trivial⟩
def z8m (X:q3l):Con Sg:=conS [.sl C.seg] [.vec 217 C.edge] fun a K=>X a.1 (fun q0=>K (q0,()))
theorem v0i (q86:q42) (h:AL [(161,z4q q86)]):MT 103 (z8m (z1e q86)):=mS h (by kernel_rfl) [(7,⟨[0,2],[],[],[(.slot 3,.own 217 C.edge),sI 4]⟩),(15,⟨bl 518069,[],[],[(.slot 3,.own 217 C.edge),sI 6]⟩)] fun a K=>by kernel_rfl
theorem v0j:MT 103 (z8m H9):=v0i H8 ⟨w69,trivial⟩
def j3b (X:z0m):Con Sg:=conS [.sl C.edge,.str] [.sl C.str] fun a K=>X a.1 a.2.1 (fun q0=>K (q0,()))
theorem v5b (Zz:R2) (Uk:q54) (h:AL [(81,j0g Zz),(85,j0i Uk)]):MT 215 (j3b (j2k Zz Uk)):=mS h (by kernel_rfl) [(7,⟨bl 1555,[],[],[(.slot 5,.sl C.str),(.slot 6,.sl C.str)]⟩),(15,⟨bl 522899,[],[],[(.slot 5,.sl C.str),(.slot 6,.sl C.str),sI 8]⟩)] fun a K=>by kernel_rfl
theorem v5c:MT 215 (j3b z0n):=v5b Gb q12 ⟨w35,w36,trivial⟩
def z8n (X:q7q):Con Sg:=conS [.sl C.str,.sl C.edge] [.sl C.str] fun a K=>X a.1 a.2.1 (fun q0=>K (q0,()))
theorem v0k (z6k:z0m) (Zz:R2) (Uk:q54) (h:AL [(215,j3b z6k),(81,j0g Zz),(85,j0i Uk)]):MT 160 (z8n (z70 z6k Zz Uk)):=mS h (by kernel_rfl) [(7,⟨[0,1,4],[],[],[(.slot 5,.sl C.str),sI 6]⟩)] fun a K=>by kernel_rfl
theorem v0l:MT 160 (z8n q7r):=v0k z0n Gb q12 ⟨v5c,w35,w36,trivial⟩
def z8o (X:q7s):Con Sg:=conS [.sl C.str,.sl C.edge] [.str,.bool] fun a K=>X a.1 a.2.1 (fun q0 q1=>K (q0,q1,()))
theorem v0m (z2m:q7q) (h:AL [(160,z8n z2m)]):MT 102 (z8o (z71 z2m)):=mS h (by kernel_rfl) [] fun a K=>by kernel_rfl
theorem v0n:MT 102 (z8o q7t):=v0m q7r ⟨v0l,trivial⟩
def z4r (X:q08):Con Sg:=conS [.el C.env,.str] [.int .i64] fun a K=>X a.1 a.2.1 (fun q0=>K (q0,()))
theorem j4c:MT 162 (z4r q09):=mS (l:=[]) trivial (by kernel_rfl) [(5,⟨[0,1,2],[0],[],[sI 5]⟩)] fun a K=>by kernel_rfl
def j3c (X:z0o):Con Sg:=conS [.sl C.decl,.el C.serve] [.int .i64] fun a K=>X a.1 a.2.1 (fun q0=>K (q0,()))
theorem v5d (B6:z0l) (h:AL [(158,j0h B6)]):MT 163 (j3c (j2l B6)):=mS h (by kernel_rfl) [] fun _ _=>by kernel_rfl
theorem v5e:MT 163 (j3c z0p):=v5d q10 ⟨w66,trivial⟩
end Go.En
end
noncomputable section
set_option maxRecDepth 100000
open Go Go.RowKit Go.Fl Go.Fl.Lk Go.Fx
namespace Go.En
def q77 (X:Ra):Con Sg:=conS [.el C.env,.el C.flag] [.int .i64] fun a K=>X a.1 a.2.1 (fun q0=>K (q0,()))
theorem j8j (Jx:R0) (V7:q08) (V8:G3) (z0w:z0o) (Z9:J3) (h:AL [(100,z6c Jx),(162,z4r V7),(101,z4o V8),(163,j3c z0w),(116,Bb Z9)]):MT 104 (q77 (q7u Jx V7 V8 z0w Z9)):=mS h (by kernel_rfl) [(7,⟨bl 229423,[1,0],[],[sI 6,(.obj 2,.own 9 C.str)]⟩),(23,⟨bl 8355951,[1,0],[],[sI 8,(.obj 2,.own 9 C.str)]⟩)] fun a K=>by kernel_rfl
theorem j8k:MT 104 (q77 Rb):=j8j R1 q09 q11 z0p J4 ⟨j3a,j4c,j8i,v5e,z0u,trivial⟩
def z65 (X:q4b):Con Sg:=conS [.el C.env] [.vec 9 C.str] fun a K=>X a.1 (fun q0=>K (q0,()))
theorem w0b:MT 105 (z65 q4c):=mS (l:=[]) trivial (by kernel_rfl) [(7,⟨[0,1,2],[0],[],[(.slot 3,.own 9 C.str),sI 4]⟩)] fun a K=>by kernel_rfl
def z4s (X:q13):Con Sg:=conS [.el C.env] [.vec 217 C.edge] fun a K=>X a.1 (fun q0=>K (q0,()))
theorem j8l:MT 106 (z4s Rd):=mS (l:=[]) trivial (by kernel_rfl) [(7,⟨[0,1,2],[0],[],[(.slot 3,.own 217 C.edge),sI 4]⟩),(13,⟨bl 2007,[],[],[(.slot 3,.own 217 C.edge),sI 5]⟩)] fun a K=>by kernel_rfl
def z4t (X:q43):Con Sg:=conS [.sl C.span,.sl C.span] [.vec 95 C.span] fun a K=>X a.1 a.2.1 (fun q0=>K (q0,()))
theorem w7a (Jd:By) (Q5:Wm) (h:AL [(96,z4k Jd),(150,q3y Q5)]):MT 93 (z4t (z3x Jd Q5)):=mS h (by kernel_rfl) [(7,⟨bl 3955,[1],[],[sI 7,(.obj 0,.own 4 C.bool)]⟩)] fun a K=>by kernel_rfl
theorem w7b:MT 93 (z4t q44):=w7a H1 J5 ⟨j0b,q74,trivial⟩
def Rq (X:Wi):Con Sg:=conS [.el C.env,.int .i64] [.int .i64] fun a K=>X a.1 a.2.1 (fun q0=>K (q0,()))
theorem z4u (Zw:Vt) (V7:q08) (Jx:R0) (V8:G3) (q87:q43) (h:AL [(41,q6a Zw),(162,z4r V7),(100,z6c Jx),(101,z4o V8),(93,z4t q87)]):MT 107 (Rq (Re Zw V7 Jx V8 q87)):=mS h (by kernel_rfl) [(13,⟨bl 17179836647,[1,0],[],[sI 8]⟩),(35,⟨bl 151078797935433964553191,[1,0],[],[(.slot 10,.own 95 C.span),sI 11,(.obj 4,.own 9 C.str)]⟩),(51,⟨bl 159723976762087930960904772882407,[1,0],[],[sI 13,(.obj 9,.own 95 C.span),(.obj 6,.own 95 C.span),(.obj 4,.own 9 C.str)]⟩)] fun a K=>by kernel_rfl
theorem z4v:MT 107 (Rq Wj):=z4u Vu q09 R1 q11 q44 ⟨z1u,j4c,j3a,j8i,w7b,trivial⟩
def q30 (X:Ut):Con Sg:=conS [.el C.env] [.str,.int .i64] fun a K=>X a.1 (fun q0 q1=>K (q0,q1,()))
theorem j3d (q0f:G1) (Jx:R0) (V8:G3) (q39:q3l) (q8i:q7s) (q27:Ra) (q4o:q4b) (q28:q13) (V9:Wi) (h:AL [(99,q5q q0f),(100,z6c Jx),(101,z4o V8),(103,z8m q39),(102,z8o q8i),(104,q77 q27),(105,z65 q4o),(106,z4s q28),(107,Rq V9)]):MT 54 (q30 (q3m q0f Jx V8 q39 q8i q27 q4o q28 V9)):=mS h (by kernel_rfl) [(13,⟨bl 15663155,[0],[],[sI 6,(.obj 1,.own 9 C.str)]⟩),(33,⟨bl 294571444427585160051,[0],[],[sI 10,(.obj 1,.own 9 C.str),(.obj 4,.own 217 C.edge)]⟩),(51,⟨bl 10121397798090180814242575234931,[0],[],[sI 14,(.obj 8,.own 9 C.str),(.obj 9,.own 217 C.edge),(.obj 4,.own 217 C.edge),(.obj 1,.own 9 C.str)]⟩)] fun a K=>by kernel_rfl
theorem j3e:MT 54 (q30 Uu):=j3d G2 R1 q11 H9 q7t Rb q4c Rd Wj ⟨j42,j3a,j8i,v0j,v0n,j8k,w0b,j8l,z4v,trivial⟩
def z1z (X:q0m):Con Sg:=conS [.el C.env] [.bool] fun a K=>X a.1 (fun q0=>K (q0,()))
theorem v0o (Bi:Ut) (h:AL [(54,q30 Bi)]):MT 26 (z1z (z72 Bi)):=mS h (by kernel_rfl) [] fun a K=>by kernel_rfl
theorem j8m:MT 26 (z1z Ud):=v0o Uu ⟨j3e,trivial⟩
def q78 (X:Rf):Con Sg:=conV [.ptr 104 [.c,.v],.v] [.ptr 104 [.sl C.u8,.int .i64],.int .i64] [.el C.env] [.ptr 104 [.same,.int .i64],.same] fun a K=>X a.1.1 a.1.2.1 a.2.1 (fun q0 q1=>K (q0,()) (((),q1,()),(),()))
theorem j8n (Q3:Wz) (q88:q4v) (Qc:Zh) (q20:z5w) (Ji:q1n) (q4j:z07) (z5k:z3h) (Rt:q1o) (q4k:q4a) (Z9:J3) (j1q:z3l) (Wk:q1l) (q21:q65) (z6l:z0b) (Wu:q51) (Gq:q0k) (z2n:q7g) (Wo:q0m) (h:AL [(57,q5d Q3),(59,z4f q88),(49,Vl Qc),(60,w3u q20),(109,z4e Ji),(112,j54 q4j),(115,j7x z5k),(114,z4g Rt),(113,j56 q4k),(116,Bb Z9),(62,j76 j1q),(58,z59 Wk),(117,z99 q21),(88,j24 z6l),(51,z98 Wu),(118,z1v Gq),(91,z8j z2n),(26,z1z Wo)]):MT 31 (q78 (q7v Q3 q88 Qc q20 Ji q4j z5k Rt q4k Z9 j1q Wk q21 z6l Wu Gq z2n Wo)):=mP (rk:=[.el C.env]) h (by kernel_rfl) [(8,⟨bl 3123,[1],[(3,(36,8)),(0,(104,2))],[(.cell 3 0,.str),(.cell 3 1,.str),(.cell 3 2,.int .i64),(.cell 0 1,.int .i64),(.obj 2,.own 177 C.decl)]⟩),(15,⟨bl 98569331,[2,1],[(0,(104,2)),(3,(36,8))],[sI 7,(.cell 0 1,.int .i64),(.cell 3 5,.own 122 C.flag),(.obj 10,.own 147 C.seg),(.obj 12,.own 59 C.layer),(.obj 13,.own 68 C.exper)]⟩),(62000009,⟨bl 1073218007,[22,21],[(0,(104,2)),(23,(122,13))],[sI 9,(.cell 0 1,.int .i64),(.cell 23 2,.own 115 C.val),(.obj 13,.own 68 C.exper),(.obj 12,.own 59 C.layer),(.obj 17,.own 122 C.flag),(.obj 10,.own 147 C.seg)]⟩),(62000019,⟨bl 545366356788183,[22,21],[(23,(122,13)),(0,(104,2))],[sI 10,(.cell 23 5,.own 188 C.prereq),(.cell 0 1,.int .i64),(.obj 10,.own 147 C.seg),(.obj 17,.own 122 C.flag),(.obj 12,.own 59 C.layer),(.obj 13,.own 68 C.exper),(.obj 27,.own 115 C.val)]⟩),(62000029,⟨bl 17996814912849879,[22,21],[(23,(122,13)),(0,(104,2))],[sI 11,(.cell 23 6,.own 190 C.target),(.cell 0 1,.int .i64),(.obj 27,.own 115 C.val),(.obj 13,.own 68 C.exper),(.obj 12,.own 59 C.layer),(.obj 17,.own 122 C.flag),(.obj 10,.own 147 C.seg),(.obj 34,.own 188 C.prereq)]⟩),(62000038,⟨bl 19688565898261847554177638359,[23],[(51,(190,3)),(0,(104,2))],[(.cell 51 0,.str),(.cell 0 1,.int .i64),(.obj 50,.own 9 C.str),(.obj 34,.own 188 C.prereq),(.obj 10,.own 147 C.seg),(.obj 17,.own 122 C.flag),(.obj 12,.own 59 C.layer),(.obj 13,.own 68 C.exper),(.obj 27,.own 115 C.val),(.obj 42,.own 190 C.target)]⟩),(62000060,⟨bl 324518589926201333218846174621655,[22,21],[(0,(104,2)),(23,(122,13))],[(.cell 0 1,.int .i64),(.cell 23 7,.own 193 C.rule),(.obj 50,.own 9 C.str),(.obj 34,.own 188 C.prereq),(.obj 10,.own 147 C.seg),(.obj 17,.own 122 C.flag),(.obj 12,.own 59 C.layer),(.obj 13,.own 68 C.exper),(.obj 27,.own 115 C.val),(.obj 42,.own 190 C.target)]⟩),(62000047,⟨bl 324518589926201333218846174621655,[],[(0,(104,2)),(23,(122,13))],[sI 14,(.cell 0 1,.int .i64),(.cell 23 7,.own 193 C.rule),(.obj 50,.own 9 C.str),(.obj 34,.own 188 C.prereq),(.obj 10,.own 147 C.seg),(.obj 17,.own 122 C.flag),(.obj 12,.own 59 C.layer),(.obj 13,.own 68 C.exper),(.obj 27,.own 115 C.val),(.obj 42,.own 190 C.target)]⟩),(25,⟨bl 387030204812531,[2,1],[(0,(104,2)),(3,(36,8))],[sI 8,(.cell 0 1,.int .i64),(.cell 3 6,.own 59 C.layer),(.obj 13,.own 68 C.exper),(.obj 10,.own 147 C.seg),(.obj 17,.own 122 C.flag)]⟩),(35,⟨bl 811665570522726403571,[2,1],[(0,(104,2)),(3,(36,8))],[sI 9,(.cell 0 1,.int .i64),(.cell 3 7,.own 68 C.exper),(.obj 17,.own 122 C.flag),(.obj 10,.own 147 C.seg),(.obj 24,.own 59 C.layer)]⟩),(64000010,⟨bl 140737488348975,[37,36,35],[(40,(68,12)),(0,(104,2))],[(.cell 40 4,.int .i64),(.cell 0 1,.int .i64),(.obj 39,.own 70 C.range),(.obj 31,.own 68 C.exper),(.obj 24,.own 59 C.layer),(.obj 17,.own 122 C.flag),(.obj 10,.own 147 C.seg)]⟩),(64000014,⟨bl 140737488348975,[37,36,35],[(40,(68,12)),(0,(104,2))],[(.cell 40 7,.int .i64),(.cell 40 8,.str),(.cell 40 9,.str),(.cell 40 10,.sl C.val),(.cell 40 11,.sl C.ex),(.cell 0 1,.int .i64),(.obj 10,.own 147 C.seg),(.obj 17,.own 122 C.flag),(.obj 24,.own 59 C.layer),(.obj 31,.own 68 C.exper),(.obj 39,.own 70 C.range)]⟩)] fun a K=>by kernel_rfl
theorem j8o:MT 31 (q78 Rg):=j8n Jz q4w Zd z5x Un z08 z3i Hu z09 J4 z3m q1m q66 z0c q52 q0l q7h Ud ⟨q8u,w6u,Gj,v2u,j7v,v2v,v9c,j7w,v2w,z0u,v9g,j53,w6v,v4w,w3t,j78,v0b,j8m,trivial⟩
def z66 (X:q4d):Con Sg:=conS [] [.el C.env] fun _ K=>X (fun q0=>K (q0,()))
theorem w0c:MT 30 (z66 q4e):=mS (l:=[]) trivial (by kernel_rfl) [] fun a K=>by kernel_rfl
def q79 (X:Uv):Con Sg:=conS [.el C.subj,.str] [.int .i64] fun a K=>X a.1 a.2.1 (fun q0=>K (q0,()))
theorem z4w:MT 64 (q79 Vd):=mS (l:=[]) trivial (by kernel_rfl) [(120000005,⟨bl 195,[1],[],[sI 8]⟩)] fun a K=>by kernel_rfl
def q2s (X:Vy):Con Sg:=conS [.el C.val] [.el C.val] fun a K=>X a.1 (fun q0=>K (q0,()))
theorem z10:MT 170 (q2s Wa):=mS (l:=[]) trivial (by kernel_rfl) [] fun a K=>by kernel_rfl
def q31 (X:Uw):Con Sg:=conS [.el C.attr] [.el C.attr] fun a K=>X a.1 (fun q0=>K (q0,()))
theorem j3f (Zy:Vy) (h:AL [(170,q2s Zy)]):MT 122 (q31 (q3n Zy)):=mS h (by kernel_rfl) [] fun a K=>by kernel_rfl
theorem j3g:MT 122 (q31 Ux):=j3f Wa ⟨z10,trivial⟩
def q8a (X:Rh):Con Sg:=conS [.el C.ctx] [.el C.ctx] fun a K=>X a.1 (fun q0=>K (q0,()))
theorem j8p (Bj:Uw) (h:AL [(122,q31 Bj)]):MT 65 (q8a (q7w Bj)):=mS h (by kernel_rfl) [(122000007,⟨bl 7955,[],[],[(.slot 5,.own 180 C.attr),sI 13]⟩)] fun a K=>by kernel_rfl
theorem j8q:MT 65 (q8a Ri):=j8p Ux ⟨j3g,trivial⟩
def B4 (X:Wb):Con Sg:=conS [.el C.subj,.str] [.el C.ctx,.bool] fun a K=>X a.1 a.2.1 (fun q0 q1=>K (q0,q1,()))
theorem w0d (Jw:Uv) (q29:Rh) (h:AL [(64,q79 Jw),(65,q8a q29)]):MT 35 (B4 (q9i Jw q29)):=mS h (by kernel_rfl) [] fun _ _=>by kernel_rfl
theorem q9t:MT 35 (B4 Wc):=w0d Vd Ri ⟨z4w,j8q,trivial⟩
end Go.En
end
noncomputable section
set_option maxRecDepth 100000
open Go Go.RowKit Go.Fl Go.Fl.Lk Go.Fx
namespace Go.En
def z67 (X:q4f):Con Sg:=conS [.sl C.bytes] [.vec 5 C.u8] fun a K=>X a.1 (fun q0=>K (q0,()))
theorem w0e:MT 124 (z67 Bz):=mS (l:=[]) trivial (by kernel_rfl) [(7,⟨bl 389,[],[],[(.slot 3,.own 5 C.u8),sI 9]⟩),(13,⟨bl 8101,[],[],[(.slot 3,.own 5 C.u8),sI 6]⟩)] fun a K=>by kernel_rfl
def q8b (X:Gc):Con Sg:=conS [.int .u64,.int .i64] [.int .u64] fun a K=>X a.1 a.2.1 (fun q0=>K (q0,()))
theorem z8p:MT 225 (q8b Ve):=mS (l:=[]) trivial (by kernel_rfl) [] fun a K=>by kernel_rfl
def Uj (X:Je):Con Sg:=conV [.ptr 251 [.v,.v,.v,.v],.v] [.ptr 251 [.int .u64,.int .u64,.int .u64,.int .u64],.int .i64] [] [.ptr 251 [.int .u64,.int .u64,.int .u64,.int .u64],.same] fun a K=>X a.1.1 a.1.2.1 a.1.2.2.1 a.1.2.2.2.1 a.2.1 (fun q0 q1 q2 q3=>K () ((q0,q1,q2,q3,()),(),()))
theorem z6r (Zr:Gc) (h:AL [(225,q8b Zr)]):MT 172 (Uj (Bq Zr)):=mP (rk:=[]) h (by kernel_rfl) [(3,⟨[0,1,4],[],[(0,(251,4))],[sI 5,(.cell 0 0,.int IntKind.u64),(.cell 0 1,.int IntKind.u64),(.cell 0 2,.int IntKind.u64),(.cell 0 3,.int IntKind.u64)]⟩)] fun a K=>by kernel_rfl
theorem q5w:MT 172 (Uj Q9):=z6r Ve ⟨z8p,trivial⟩
def q2t (X:Vz):Con Sg:=conV [.ptr 251 [.v,.v,.v,.v],.v] [.ptr 251 [.int .u64,.int .u64,.int .u64,.int .u64],.int .u64] [] [.ptr 251 [.int .u64,.int .u64,.int .u64,.int .u64],.same] fun a K=>X a.1.1 a.1.2.1 a.1.2.2.1 a.1.2.2.2.1 a.2.1 (fun q0 q1 q2 q3=>K () ((q0,q1,q2,q3,()),(),()))
theorem j0k (Zk:Je) (h:AL [(172,Uj Zk)]):MT 171 (q2t (q14 Zk)):=mP (rk:=[]) h (by kernel_rfl) [] fun a K=>by kernel_rfl
theorem j0l:MT 171 (q2t V0):=j0k Q9 ⟨q5w,trivial⟩
def z4x (X:q45):Con Sg:=conS [.int .u64,.int .u64,.sl C.u8] [.int .u64] fun a K=>X a.1 a.2.1 a.2.2.1 (fun q0=>K (q0,()))
theorem w7c (Ua:Vz) (Zk:Je) (h:AL [(171,q2t Ua),(172,Uj Zk)]):MT 123 (z4x (z3y Ua Zk)):=mS h (by kernel_rfl) [(9,⟨bl 67101127,[],[(0,(251,4))],[sI 9,(.cell 0 0,.int IntKind.u64),(.cell 0 1,.int IntKind.u64),(.cell 0 2,.int IntKind.u64),(.cell 0 3,.int IntKind.u64)]⟩),(17,⟨bl 2147476423,[0],[],[(.slot 10,.int IntKind.u64),sI 33]⟩),(29,⟨bl 15762600843272903,[0],[],[(.slot 8,.int IntKind.u64),sI 54]⟩)] fun a K=>by kernel_rfl
theorem w7d:MT 123 (z4x q46):=w7c V0 Q9 ⟨j0l,q5w,trivial⟩
def z11 (X:q15):Con Sg:=conS [.int .u64,.sl C.bytes] [.int .u64] fun a K=>X a.1 a.2.1 (fun q0=>K (q0,()))
theorem w37 (q4p:q4f) (q89:q45) (h:AL [(124,z67 q4p),(123,z4x q89)]):MT 66 (z11 (z1f q4p q89)):=mS h (by kernel_rfl) [] fun a K=>by kernel_rfl
theorem w38:MT 66 (z11 q16):=w37 Bz q46 ⟨w0e,w7d,trivial⟩
def z13 (X:q0n):Con Sg:=conS [.str,.str] [.int .i64] fun a K=>X a.1 a.2.1 (fun q0=>K (q0,()))
theorem v0p (q6k:q15) (h:AL [(66,z11 q6k)]):MT 36 (z13 (z73 q6k)):=mS h (by kernel_rfl) [] fun a K=>by kernel_rfl
theorem j8r:MT 36 (z13 Gd):=v0p q16 ⟨w38,trivial⟩
def z4y (X:Rj):Con Sg:=conS [.sl C.forced,.str] [.el C.forced,.bool] fun a K=>X a.1 a.2.1 (fun q0 q1=>K (q0,q1,()))
theorem j8s:MT 20 (z4y Uy):=mS (l:=[]) trivial (by kernel_rfl) [(5,⟨bl 787,[],[(0,(54,3))],[sI 10,(.cell 0 0,.str),(.cell 0 1,.str),(.cell 0 2,.int .i64)]⟩)] fun a K=>by kernel_rfl
def j0m (X:q55):Con Sg:=conS [.el C.env,.el C.forced] [.bool] fun a K=>X a.1 a.2.1 (fun q0=>K (q0,()))
theorem w39:MT 37 (j0m q17):=mSg 8 (l:=[]) trivial (by kernel_rfl) [(126000005,⟨bl 195,[1],[],[sI 8]⟩),(127000005,⟨bl 195,[],[],[sI 8]⟩)] fun a K=>by kernel_rfl
def z14 (X:R3):Con Sg:=conS [.el C.env,.el C.subj] [.bool] fun a K=>X a.1 a.2.1 (fun q0=>K (q0,()))
theorem w4a (Zn:Wb) (Uh:q0n) (h:AL [(35,B4 Zn),(36,z13 Uh)]):MT 16 (z14 (z1g Zn Uh)):=mS h (by kernel_rfl) [] fun a K=>by kernel_rfl
theorem w4b:MT 16 (z14 R4):=w4a Wc Gd ⟨q9t,j8r,trivial⟩
def q6b (X:R5):Con Sg:=conS [.int .i64] [.bool] fun a K=>X a.1 (fun q0=>K (q0,()))
theorem j0n:MT 130 (q6b V1):=mS (l:=[]) trivial (by kernel_rfl) [] fun a K=>by kernel_rfl
def Wn (X:Zb):Con Sg:=conS [.sl C.str,.sl C.str] [.bool] fun a K=>X a.1 a.2.1 (fun q0=>K (q0,()))
theorem G9:MT 174 (Wn Q1):=mS (l:=[]) trivial (by kernel_rfl) [(9,⟨bl 8131,[],[],[sI 13]⟩)] fun a K=>by kernel_rfl
def q8y (X:q47):Con Sg:=conS [.el C.val,.el C.val] [.bool] fun a K=>X a.1 a.2.1 (fun q0=>K (q0,()))
theorem w7e (Qp:Zb) (h:AL [(174,Wn Qp)]):MT 290 (q8y (z3z Qp)):=mS h (by kernel_rfl) [] fun a K=>by kernel_rfl
theorem w7f:MT 290 (q8y q1a):=w7e Q1 ⟨G9,trivial⟩
def z15 (X:Rk):Con Sg:=conV [.el C.ex,.el C.ex] [.el C.ex,.el C.ex] [.bool] [.same,.same] fun a K=>X a.1 a.2.1 (fun q0=>K (q0,()) ((),(),()))
def j4d:PT:=Q4 ([(290000009,⟨bl 130055,[],[],[sI 17]⟩),(292000009,⟨bl 130055,[],[],[sI 17]⟩)]:LS)
theorem w4c (q9a:q47) (X:Rk) (a:Ex) (b:Ex) (K:Bool->Prop):z74 q9a X a b K=fnV (((WL [(290,q8y q9a)]).with 272 (z15 X)).pl j4d) 4 272 ([.el C.ex,.el C.ex]:LP) ([.v]:LP) ([.el C.ex,.el C.ex]:LV) ([.bool]:LV) ([.same,.same]:LV) (a,b,()) (fun r _=>K r.1):=by kernel_rfl
theorem v0q:MT 272 (z15 q0o):=by
 show MT _ (conV ([.el C.ex,.el C.ex]:LP) ([.el C.ex,.el C.ex]:LV) ([.bool]:LV) ([.same,.same]:LV) fun a K=>q0o a.1 a.2.1 (fun q0=>K (q0,()) ((),(),())))
 refine mR (l:=[(290,q8y q1a)]) (u:=4) (rk:=[.v]) (p:=j4d) ⟨w7f,trivial⟩ (by kernel_rfl) fun a K h X hX=> ?_
 exact h (fun a b K=>X (a,b,()) fun r _=>K r.1) (fun a b K hs=>hX (a,b,()) (fun r _=>K r.1) (Eq.mp (w4c q1a (fun a b K=>X (a,b,()) fun r _=>K r.1) a b K) hs))
end Go.En
end
noncomputable section
set_option maxRecDepth 100000
open Go Go.RowKit Go.Fl Go.Fl.Lk Go.Fx
namespace Go.En
def q9u (X:W4):Con Sg:=conV [.own 66 C.ex,.el C.ex] [.vec 66 C.ex,.el C.ex] [.vec 66 C.ex] [.same,.same] fun a K=>X a.1 a.2.1 (fun q0=>K (q0,()) ((),(),()))
def z4z:PT:=Q4 ([(6,⟨[1,3,4],[1],[],[(.slot 0,.own 66 C.ex)]⟩),(9,⟨bl 234881050,[1],[],[(.slot 0,.own 66 C.ex),sI 28]⟩),(128000005,⟨bl 195,[0],[],[sI 8]⟩)]:LS)
theorem j43 (Ww:R5) (q8j:Rk) (X:W4) (l:List (Ex)) (e:Ex) (K:List (Ex)->Prop):q9j Ww q8j X l e K=fnV (((WL [(130,q6b Ww),(272,z15 q8j)]).with 234 (q9u X)).pl z4z) 4 234 ([.own 66 C.ex,.el C.ex]:LP) ([.own 66 C.ex]:LP) ([.vec 66 C.ex,.el C.ex]:LV) ([.vec 66 C.ex]:LV) ([.same,.same]:LV) (l,e,()) (fun r _=>K r.1):=by kernel_rfl
theorem w0f:MT 234 (q9u B0):=by
 show MT _ (conV ([.own 66 C.ex,.el C.ex]:LP) ([.vec 66 C.ex,.el C.ex]:LV) ([.vec 66 C.ex]:LV) ([.same,.same]:LV) fun a K=>B0 a.1 a.2.1 (fun q0=>K (q0,()) ((),(),())))
 refine mR (l:=[(130,q6b V1),(272,z15 q0o)]) (u:=4) (rk:=[.own 66 C.ex]) (p:=z4z) ⟨j0n,v0q,trivial⟩ (by kernel_rfl) fun a K h X hX=> ?_
 exact h (fun l e K=>X (l,e,()) fun r _=>K r.1) (fun l e K hs=>hX (l,e,()) (fun r _=>K r.1) (Eq.mp (j43 V1 q0o (fun l e K=>X (l,e,()) fun r _=>K r.1) l e K) hs))
def z40 (X:U8):Con Sg:=conV [.el C.ex] [.el C.ex] [.el C.ex] [.same] fun a K=>X a.1 (fun q0=>K (q0,()) ((),()))
def j0o:PT:=Q4 ([(274000007,⟨bl 7955,[],[],[(.slot 5,.own 115 C.val),sI 13]⟩),(234000007,⟨bl 7955,[],[],[(.slot 5,.own 66 C.ex),sI 13]⟩)]:LS)
theorem w0g (Zy:Vy) (X:U8) (e:Ex) (K:Ex->Prop):z30 Zy X e K=fnV (((WL [(170,q2s Zy)]).with 235 (z40 X)).pl j0o) 4 235 ([.el C.ex]:LP) ([.el C.ex]:LP) ([.el C.ex]:LV) ([.el C.ex]:LV) ([.same]:LV) (e,()) (fun r _=>K r.1):=by kernel_rfl
theorem w7g:MT 235 (z40 q48):=by
 show MT _ (conV ([.el C.ex]:LP) ([.el C.ex]:LV) ([.el C.ex]:LV) ([.same]:LV) fun a K=>q48 a.1 (fun q0=>K (q0,()) ((),())))
 refine mR (l:=[(170,q2s Wa)]) (u:=4) (rk:=[.el C.ex]) (p:=j0o) ⟨z10,trivial⟩ (by kernel_rfl) fun a K h X hX=> ?_
 exact h (fun e K=>X (e,()) fun r _=>K r.1) (fun e K hs=>hX (e,()) (fun r _=>K r.1) (Eq.mp (w0g Wa (fun e K=>X (e,()) fun r _=>K r.1) e K) hs))
def q9v (X:B1):Con Sg:=conS [.el C.ex] [.vec 66 C.ex] fun a K=>X a.1 (fun q0=>K (q0,()))
theorem w0h (q4q:W4) (q9b:U8) (h:AL [(234,q9u q4q),(235,z40 q9b)]):MT 183 (q9v (q9k q4q q9b)):=mS h (by kernel_rfl) [(234000007,⟨bl 7955,[1],[],[(.slot 5,.own 66 C.ex),sI 13]⟩)] fun a K=>by kernel_rfl
theorem w0i:MT 183 (q9v q4g):=w0h B0 q48 ⟨w0f,w7g,trivial⟩
def Wt (X:Zv):Con Sg:=conV [.own 9 C.str] [.vec 9 C.str] [] [.vec 9 C.str] fun a K=>X a.1 (fun q0=>K () (q0,()))
theorem Hk:MT 80 (Wt Ze):=⟨entB (by kernel_rfl),q58⟩
def U4 (X:J6):Con Sg:=conV [.own 9 C.str] [.vec 9 C.str] [.vec 9 C.str] [.same] fun a K=>X a.1 (fun q0=>K (q0,()) ((),()))
theorem q32:MT 184 (U4 Z7):=⟨entB (by kernel_rfl),q3t⟩
def q5r (X:G4):Con Sg:=conS [.el C.ex] [.sl C.str] fun a K=>X a.1 (fun q0=>K (q0,()))
theorem j44 (q4r:B1) (Qs:Zv) (Ja:J6) (h:AL [(183,q9v q4r),(80,Wt Qs),(184,U4 Ja)]):MT 138 (q5r (q5m q4r Qs Ja)):=mS h (by kernel_rfl) [(7,⟨bl 455,[1,0],[],[(.slot 3,.own 9 C.str),sI 9]⟩)] fun a K=>by kernel_rfl
theorem j45:MT 138 (q5r G5):=j44 q4g Ze Z7 ⟨w0i,Hk,q32,trivial⟩
def j0p (X:z1h):Con Sg:=conV [.sl C.str,.sl C.edge] [.sl C.str,.sl C.edge] [.vec 9 C.str,.int .i64] [.same,.same] fun a K=>X a.1 a.2.1 (fun q0 q1=>K (q0,q1,()) ((),(),()))
theorem w4d:MT 139 (j0p P_graph_Order):=⟨entB (by kernel_rfl),w3s⟩
def q8c (X:Rl):Con Sg:=conS [.sl C.seg] [.vec 9 C.str,.int .i64] fun a K=>X a.1 (fun q0 q1=>K (q0,q1,()))
theorem j8t (q0g:G4) (q6l:z1h) (h:AL [(138,q5r q0g),(139,j0p q6l)]):MT 78 (q8c (q7x q0g q6l)):=mS h (by kernel_rfl) [(9,⟨bl 3085,[],[],[(.slot 4,.own 9 C.str),(.slot 5,.own 217 C.edge),sI 12]⟩),(17,⟨bl 33488029,[6,5,3],[],[(.slot 5,.own 217 C.edge),sI 25]⟩)] fun a K=>by kernel_rfl
theorem j8u:MT 78 (q8c Rm):=j8t G5 P_graph_Order ⟨j45,w4d,trivial⟩
def q5s (X:G6):Con Sg:=conS [.el C.subj,.str,.str] [.el C.val,.bool] fun a K=>X a.1 a.2.1 a.2.2.1 (fun q0 q1=>K (q0,q1,()))
theorem j46 (Jw:Uv) (Zy:Vy) (h:AL [(64,q79 Jw),(170,q2s Zy)]):MT 129 (q5s (q5n Jw Zy)):=mS h (by kernel_rfl) [(17,⟨bl 1912468303,[2,0],[(1,(115,4))],[sI 31,(.cell 1 0,.int .i64),(.cell 1 1,.int .i64),(.cell 1 2,.str),(.cell 1 3,.sl C.str)]⟩)] fun a K=>by kernel_rfl
theorem j47:MT 129 (q5s G7):=j46 Vd Wa ⟨z4w,z10,trivial⟩
def z16 (X:q18):Con Sg:=conS [.el C.val,.el C.val] [.bool] fun a K=>X a.1 a.2.1 (fun q0=>K (q0,()))
theorem w4e (Qp:Zb) (h:AL [(174,Wn Qp)]):MT 133 (z16 (z1i Qp)):=mS h (by kernel_rfl) [] fun a K=>by kernel_rfl
theorem w4f:MT 133 (z16 R6):=w4e Q1 ⟨G9,trivial⟩
def Gk (X:Z8):Con Sg:=conS [.str,.str] [.bool] fun a K=>X a.1 a.2.1 (fun q0=>K (q0,()))
theorem q2u:MT 175 (Gk Zq):=mS (l:=[]) trivial (by kernel_rfl) [] fun a K=>by kernel_rfl
def q0w (X:Vf):Con Sg:=conS [.str,.str] [.bool] fun a K=>X a.1 a.2.1 (fun q0=>K (q0,()))
theorem z8q (Q6:Z8) (h:AL [(175,Gk Q6)]):MT 134 (q0w (q0p Q6)):=mS h (by kernel_rfl) [] fun a K=>by kernel_rfl
theorem z8r:MT 134 (q0w Vg):=z8q Zq ⟨q2u,trivial⟩
def q2v (X:Wq):Con Sg:=conS [.str,.str] [.bool] fun a K=>X a.1 a.2.1 (fun q0=>K (q0,()))
theorem z17:MT 176 (q2v Wr):=mS (l:=[]) trivial (by kernel_rfl) [] fun a K=>by kernel_rfl
def q0x (X:Vh):Con Sg:=conS [.str,.str] [.bool] fun a K=>X a.1 a.2.1 (fun q0=>K (q0,()))
theorem z8s (Wx:Wq) (h:AL [(176,q2v Wx)]):MT 135 (q0x (q0q Wx)):=mS h (by kernel_rfl) [] fun _ _=>by kernel_rfl
theorem z8t:MT 135 (q0x Vi):=z8s Wr ⟨z17,trivial⟩
end Go.En
end
noncomputable section
set_option maxRecDepth 100000
open Go Go.RowKit Go.Fl Go.Fl.Lk Go.Fx
namespace Go.En
def q8z (X:q19):Con Sg:=conV [.v,.v] [.str,.str] [.bool] [.same,.same] fun a K=>X a.1 a.2.1 (fun q0=>K (q0,()) ((),(),()))
theorem j0q:MT 136 (q8z Hj):=⟨entB (by kernel_rfl),z97⟩
def j0r (X:q56):Con Sg:=conS [.el C.val] [.bool] fun a K=>X a.1 (fun q0=>K (q0,()))
theorem w4g:MT 227 (j0r q2a):=mS (l:=[]) trivial (by kernel_rfl) [(8,⟨bl 31,[0],[],[sB 5]⟩),(14,⟨bl 63,[0],[],[sB 17]⟩)] fun a K=>by kernel_rfl
def z41 (X:q49):Con Sg:=conS [.str] [.bool] fun a K=>X a.1 (fun q0=>K (q0,()))
theorem w7h (Zx:Vv) (h:AL [(246,q2p Zx)]):MT 228 (z41 (z32 Zx)):=mS h (by kernel_rfl) [(9,⟨bl 32737,[],[],[(.obj 0,.siter)]⟩)] fun a K=>by kernel_rfl
theorem w7i:MT 228 (z41 q5a):=w7h Jt ⟨q8w,trivial⟩
def z42 (X:q7y):Con Sg:=conV [.v,.v] [.str,.str] [.vec 9 C.str] [.same,.same] fun a K=>X a.1 a.2.1 (fun q0=>K (q0,()) ((),(),()))
theorem j8v:MT 231 (z42 q2b):=⟨entB (by kernel_rfl),j7u⟩
def Gl (X:Ju):Con Sg:=conS [.str,.str] [.str,.bool] fun a K=>X a.1 a.2.1 (fun q0 q1=>K (q0,q1,()))
theorem z18 (Q6:Z8) (h:AL [(175,Gk Q6)]):MT 286 (Gl (Ge Q6)):=mS h (by kernel_rfl) [] fun a K=>by kernel_rfl
theorem z19:MT 286 (Gl Ws):=z18 Zq ⟨q2u,trivial⟩
def q0y (X:Vj):Con Sg:=conS [.str,.str] [.str,.bool] fun a K=>X a.1 a.2.1 (fun q0 q1=>K (q0,q1,()))
theorem z8u (Wy:Ju) (h:AL [(286,Gl Wy)]):MT 269 (q0y (q0r Wy)):=mS h (by kernel_rfl) [] fun a K=>by kernel_rfl
theorem z8v:MT 269 (q0y Vk):=z8u Ws ⟨z19,trivial⟩
def z68 (X:q9l):Con Sg:=conV [.v] [.str] [.int .i64,.ifc] [.same] fun a K=>X a.1 (fun q0 q1=>K (q0,q1,()) ((),()))
theorem w0j:MT 270 (z68 B2):=⟨entB (by kernel_rfl),j94⟩
def q2w (X:V2):Con Sg:=conS [.str] [.int .i64,.int .i64] fun a K=>X a.1 (fun q0 q1=>K (q0,q1,()))
theorem j0s (Gs:Vj) (B7:q9l) (h:AL [(269,q0y Gs),(270,z68 B7)]):MT 232 (q2w (q2c Gs B7)):=mS h (by kernel_rfl) [(11,⟨bl 4294966321,[],[],[(.obj 0,.siter)]⟩)] fun a K=>by kernel_rfl
theorem j0t:MT 232 (q2w V3):=j0s Vk B2 ⟨z8v,w0j,trivial⟩
def q6c (X:Gf):Con Sg:=conS [.str] [.el C.a3,.bool] fun a K=>X a.1 (fun q0 q1=>K (q0,q1,()))
theorem w4h (q3a:q7y) (Hm:V2) (h:AL [(231,z42 q3a),(232,q2w Hm)]):MT 181 (q6c (z1j q3a Hm)):=mS h (by kernel_rfl) [(13,⟨bl 228405,[2],[(1,(257,3)),(0,(257,3))],[sI 18,(.cell 1 0,.int .i64),(.cell 1 1,.int .i64),(.cell 1 2,.int .i64),(.cell 0 0,.int .i64),(.cell 0 1,.int .i64),(.cell 0 2,.int .i64)]⟩)] fun a K=>by kernel_rfl
theorem j0u:MT 181 (q6c Gg):=w4h q2b V3 ⟨j8v,j0t,trivial⟩
def z2a (X:q2d):Con Sg:=conS [.el C.val] [.int .i64] fun a K=>X a.1 (fun q0=>K (q0,()))
theorem w4i (q6m:q56) (q5h:q49) (Wg:Gf) (h:AL [(227,j0r q6m),(228,z41 q5h),(181,q6c Wg)]):MT 178 (z2a (z1k q6m q5h Wg)):=mS h (by kernel_rfl) [(47,⟨bl 73643289922748022531,[0],[],[sI 66]⟩),(59,⟨bl 132521265739157328625411,[0],[],[sI 77]⟩)] fun a K=>by kernel_rfl
theorem w4j:MT 178 (z2a q2e):=w4i q2a q5a Gg ⟨w4g,w7i,j0u,trivial⟩
def q8d (X:Rn):Con Sg:=conS [.el C.val,.el C.val] [.int .i64,.int .i64] fun a K=>X a.1 a.2.1 (fun q0 q1=>K (q0,q1,()))
theorem j8w (q3b:q2d) (Wg:Gf) (h:AL [(178,z2a q3b),(181,q6c Wg)]):MT 137 (q8d (q7z q3b Wg)):=mS h (by kernel_rfl) [(183000005,⟨bl 1539,[],[],[sI 11]⟩)] fun a K=>by kernel_rfl
theorem j8x:MT 137 (q8d Uz):=j8w q2e Gg ⟨w4j,j0u,trivial⟩
def q6d (X:q2f):Con Sg:=conS [.el C.subj,.el C.ex] [.bool] fun a K=>X a.1 a.2.1 (fun q0=>K (q0,()))
theorem w4k (q0h:G6) (Ww:R5) (Bk:q18) (Gt:Vf) (Gu:Vh) (Hn:q19) (Ru:Rn) (h:AL [(129,q5s q0h),(130,q6b Ww),(133,z16 Bk),(134,q0w Gt),(135,q0x Gu),(136,q8z Hn),(137,q8d Ru)]):MT 77 (q6d (z1l q0h Ww Bk Gt Gu Hn Ru)):=mS h (by kernel_rfl) [(174000005,⟨bl 195,[2],[],[sI 8]⟩),(129000005,⟨bl 195,[],[],[sI 8]⟩)] fun a K=>by kernel_rfl
theorem w4l:MT 77 (q6d R7):=w4k G7 V1 R6 Vg Vi Hj Uz ⟨j47,j0n,w4f,z8r,z8t,j0q,j8x,trivial⟩
def q6e (X:Wd):Con Sg:=conV [.el C.subj,.sl C.str,.el C.ex] [.el C.subj,.sl C.str,.el C.ex] [.bool] [.same,.same,.same] fun a K=>X a.1 a.2.1 a.2.2.1 (fun q0=>K (q0,()) ((),(),(),()))
def z69:PT:=Q4 ([(128000005,⟨bl 195,[1,0],[],[sI 8]⟩),(129000005,⟨bl 195,[],[],[sI 8]⟩)]:LS)
theorem j8y (q6n:q2f) (X:Wd) (s:Subj) (in_:List (ByteArray)) (e:Ex) (K:Bool->Prop):z1m q6n X s in_ e K=fnV (((WL [(77,q6d q6n)]).with 45 (q6e X)).pl z69) 4 45 ([.el C.subj,.sl C.str,.el C.ex]:LP) ([.v]:LP) ([.el C.subj,.sl C.str,.el C.ex]:LV) ([.bool]:LV) ([.same,.same,.same]:LV) (s,in_,e,()) (fun r _=>K r.1):=by kernel_rfl
theorem j0v:MT 45 (q6e Gh):=by
 show MT _ (conV ([.el C.subj,.sl C.str,.el C.ex]:LP) ([.el C.subj,.sl C.str,.el C.ex]:LV) ([.bool]:LV) ([.same,.same,.same]:LV) fun a K=>Gh a.1 a.2.1 a.2.2.1 (fun q0=>K (q0,()) ((),(),(),())))
 refine mR (l:=[(77,q6d R7)]) (u:=4) (rk:=[.v]) (p:=z69) ⟨w4l,trivial⟩ (by kernel_rfl) fun a K h X hX=> ?_
 exact h (fun s in_ e K=>X (s,in_,e,()) fun r _=>K r.1) (fun s in_ e K hs=>hX (s,in_,e,()) (fun r _=>K r.1) (Eq.mp (j8y R7 (fun s in_ e K=>X (s,in_,e,()) fun r _=>K r.1) s in_ e K) hs))
def q2x (X:V4):Con Sg:=conS [.el C.seg,.el C.subj,.sl C.str] [.bool] fun a K=>X a.1 a.2.1 a.2.2.1 (fun q0=>K (q0,()))
theorem j0w (Zn:Wb) (Jl:Wd) (h:AL [(35,B4 Zn),(45,q6e Jl)]):MT 79 (q2x (q2g Zn Jl)):=mS h (by kernel_rfl) [(129000005,⟨bl 195,[],[],[sI 8]⟩)] fun _ _=>by kernel_rfl
theorem j0x:MT 79 (q2x V5):=j0w Wc Gh ⟨q9t,j0v,trivial⟩
end Go.En
end
noncomputable section
set_option maxRecDepth 100000
open Go Go.RowKit Go.Fl Go.Fl.Lk Go.Fx
namespace Go.En
def q33 (X:U0):Con Sg:=conS [.sl C.seg,.el C.subj] [.vec 9 C.str] fun a K=>X a.1 a.2.1 (fun q0=>K (q0,()))
theorem j3h (q3c:Rl) (Ho:V4) (Qs:Zv) (h:AL [(78,q8c q3c),(79,q2x Ho),(80,Wt Qs)]):MT 46 (q33 (q3o q3c Ho Qs)):=mS h (by kernel_rfl) [(13,⟨bl 8380667,[1,0],[],[sI 23,(.obj 2,.map C.str C.seg)]⟩),(25,⟨bl 12918448379,[2,1,0],[],[(.slot 10,.own 9 C.str),sI 34]⟩)] fun a K=>by kernel_rfl
theorem j3i:MT 46 (q33 U1):=j3h Rm V5 Ze ⟨j8u,j0x,Hk,trivial⟩
def q34 (X:W7):Con Sg:=conS [.el C.env,.el C.subj,.str] [.bool] fun a K=>X a.1 a.2.1 a.2.2.1 (fun q0=>K (q0,()))
theorem j3j (Bl:U0) (Jl:Wd) (h:AL [(46,q33 Bl),(45,q6e Jl)]):MT 18 (q34 (q3p Bl Jl)):=mS h (by kernel_rfl) [(5,⟨bl 3615,[1,0],[],[sI 12]⟩)] fun a K=>by kernel_rfl
theorem j3k:MT 18 (q34 W8):=j3j U1 Gh ⟨j3i,j0v,trivial⟩
def j0y (X:q57):Con Sg:=conS [.sl C.range,.int .i64] [.int .i64] fun a K=>X a.1 a.2.1 (fun q0=>K (q0,()))
theorem w4m:MT 40 (j0y q2h):=mS (l:=[]) trivial (by kernel_rfl) [(5,⟨bl 387,[],[],[sI 9]⟩)] fun a K=>by kernel_rfl
def B5 (X:We):Con Sg:=conS [.el C.env,.el C.subj,.sl C.forced,.str] [.el C.asg,.int .i64] fun a K=>X a.1 a.2.1 a.2.2.1 a.2.2.2.1 (fun q0 q1=>K (q0,q1,()))
theorem w0k (Zn:Wb) (U5:Rj) (Uh:q0n) (q6o:q57) (W9:W7) (Bm:R3) (q6p:q55) (h:AL [(35,B4 Zn),(20,z4y U5),(36,z13 Uh),(40,j0y q6o),(18,q34 W9),(16,z14 Bm),(37,j0m q6p)]):MT 14 (B5 (q9m Zn U5 Uh q6o W9 Bm q6p)):=mS h (by kernel_rfl) [(4,⟨bl 959,[3,2,1,0],[],[sI 10]⟩),(18,⟨bl 2198939402175,[9,5,3,2,1,0],[(7,(46,5))],[(.cell 7 2,.int .i64)]⟩),(22,⟨bl 17735122472271807,[12,7,9,5,3,2,1,0],[],[sB 64]⟩),(30,⟨bl 18464479196181823423,[12,7,9,5,3,2,1,0],[],[sB 87]⟩),(41,⟨bl 73193204841212587949592543167,[12,9,5,3,2,1,0],[(7,(46,5))],[sI 96,(.cell 7 1,.str),(.cell 7 3,.int .i64)]⟩),(46,⟨bl 1261615642555177651852752060351,[19,7],[],[sB 19]⟩),(48,⟨bl 1261615642555177651852752584639,[19,7],[],[sB 122]⟩),(72000005,⟨bl 195,[],[],[sI 8]⟩),(34000005,⟨bl 195,[],[],[sI 8]⟩)] fun a K=>by kernel_rfl
theorem q9w:MT 14 (B5 Wf):=w0k Wc Uy Gd q2h W8 R4 q17 ⟨q9t,j8s,j8r,w4m,j3k,w4b,w39,trivial⟩
def w1w (X:z57):Con Sg:=conS [.sl C.bytes] [.vec 5 C.u8] fun a K=>X a.1 (fun q0=>K (q0,()))
theorem v5f:MT 111 (w1w z0q):=mS (l:=[]) trivial (by kernel_rfl) [(7,⟨[0,2],[],[],[(.slot 3,.own 5 C.u8),sI 4]⟩),(15,⟨bl 518069,[],[],[(.slot 3,.own 5 C.u8),sI 6]⟩)] fun a K=>by kernel_rfl
def j8z (X:z1n):Con Sg:=conS [.int .u64,.int .u64] [.int .u64] fun a K=>X a.1 a.2.1 (fun q0=>K (q0,()))
theorem v0r:MT 217 (j8z q70):=mS (l:=[]) trivial (by kernel_rfl) [] fun a K=>by kernel_rfl
def q5t (X:G8):Con Sg:=conS [.el C.sip,.int .i64] [.el C.sip] fun a K=>X a.1 a.2.1 (fun q0=>K (q0,()))
theorem j48 (Gv:z1n) (h:AL [(217,j8z Gv)]):MT 164 (q5t (q5o Gv)):=mS h (by kernel_rfl) [(5,⟨bl 23,[1],[(0,(238,4))],[sI 5,(.cell 0 0,.int IntKind.u64),(.cell 0 1,.int IntKind.u64),(.cell 0 2,.int IntKind.u64),(.cell 0 3,.int IntKind.u64)]⟩)] fun a K=>by kernel_rfl
theorem j49:MT 164 (q5t Z1):=j48 q70 ⟨v0r,trivial⟩
def w4n (X:z92):Con Sg:=conS [.int .u64,.int .u64,.sl C.u8] [.int .u64] fun a K=>X a.1 a.2.1 a.2.2.1 (fun q0=>K (q0,()))
theorem y3t (Vo:G8) (h:AL [(164,q5t Vo)]):MT 110 (w4n (w3n Vo)):=mS h (by kernel_rfl) [(7,⟨bl 1046727,[],[(0,(238,4))],[sI 8,(.cell 0 0,.int IntKind.u64),(.cell 0 1,.int IntKind.u64),(.cell 0 2,.int IntKind.u64),(.cell 0 3,.int IntKind.u64)]⟩),(15,⟨bl 33552839,[0],[],[(.slot 9,.int IntKind.u64),sI 10]⟩),(24,⟨bl 274777243079,[0],[],[(.slot 9,.int IntKind.u64)]⟩)] fun a K=>by kernel_rfl
theorem y3u:MT 110 (w4n z93):=y3t Z1 ⟨j49,trivial⟩
def j80 (X:z33):Con Sg:=conS [.int .u64,.sl C.bytes] [.int .u64] fun a K=>X a.1 a.2.1 (fun q0=>K (q0,()))
theorem v9s (z6m:z57) (j6e:z92) (h:AL [(111,w1w z6m),(110,w4n j6e)]):MT 56 (j80 (j7q z6m j6e)):=mS h (by kernel_rfl) [] fun a K=>by kernel_rfl
theorem v9t:MT 56 (j80 z34):=v9s z0q z93 ⟨v5f,y3u,trivial⟩
def w4o (X:z58):Con Sg:=conS [.str,.str] [.int .i64] fun a K=>X a.1 a.2.1 (fun q0=>K (q0,()))
theorem y3v (j1r:z33) (h:AL [(56,j80 j1r)]):MT 29 (w4o (w3o j1r)):=mS h (by kernel_rfl) [] fun a K=>by kernel_rfl
theorem y3w:MT 29 (w4o q8q):=y3v z34 ⟨v9t,trivial⟩
def z43 (X:q5b):Con Sg:=conS [.el C.env,.el C.subj,.sl C.forced] [.vec 46 C.asg] fun a K=>X a.1 a.2.1 a.2.2.1 (fun q0=>K (q0,()))
theorem w7j (Za:We) (h:AL [(14,B5 Za)]):MT 12 (z43 (z35 Za)):=mS h (by kernel_rfl) [(7,⟨bl 28767,[1,0],[],[(.slot 7,.own 46 C.asg),sI 15]⟩)] fun a K=>by kernel_rfl
theorem w7k:MT 12 (z43 q5c):=w7j Wf ⟨q9w,trivial⟩
def z2b (X:R8):Con Sg:=conS [] [.bool] fun _ K=>X (fun q0=>K (q0,()))
theorem w4p (B8:q4d) (Za:We) (z6n:z58) (q9c:q5b) (h:AL [(30,z66 B8),(14,B5 Za),(29,w4o z6n),(12,z43 q9c)]):MT 9 (z2b (z1o B8 Za z6n q9c)):=mS h (by kernel_rfl) [] fun a K=>by kernel_rfl
theorem w4q:MT 9 (z2b R9):=w4p q4e Wf q8q q5c ⟨w0c,q9w,y3w,w7k,trivial⟩
def v0s (X:j2m):Con Sg:=conV [.sl C.u8,.v] [.sl C.u8,.int .i64] [.ptr 104 [.sl C.u8,.int .i64]] [.same,.same] fun a K=>X a.1 a.2.1 (fun q0 q1=>K ((q0,q1,()),()) ((),(),()))
theorem v9u:MT 23 (v0s z77):=mP (rk:=[.ptr 104 [.c,.v]]) (l:=[]) trivial (by kernel_rfl) [(6,⟨[1,4],[],[],[(.slot 0,.sl C.u8)]⟩)] fun a K=>by kernel_rfl
def z8w (X:q71):Con Sg:=conV [.ptr 104 [.c,.v],.v] [.ptr 104 [.sl C.u8,.int .i64],.str] [.el C.ctx] [.ptr 104 [.same,.int .i64],.same] fun a K=>X a.1.1 a.1.2.1 a.2.1 (fun q0 q1=>K (q0,()) (((),q1,()),(),()))
theorem v0t (z2i:z7q) (Q3:Wz) (Qc:Zh) (Ji:q1n) (h:AL [(108,w3v z2i),(57,q5d Q3),(49,Vl Qc),(109,z4e Ji)]):MT 55 (z8w (z78 z2i Q3 Qc Ji)):=mP (rk:=[.el C.ctx]) h (by kernel_rfl) [(9,⟨bl 8051,[4,1],[(2,(82,3)),(0,(104,2))],[sI 7,(.cell 2 2,.own 180 C.attr),(.cell 0 1,.int .i64)]⟩)] fun _ _=>by kernel_rfl
theorem v0u:MT 55 (z8w q3q):=v0t z7r Jz Zd Un ⟨v88,q8u,Gj,j7v,trivial⟩
end Go.En
end
noncomputable section
set_option maxRecDepth 100000
open Go Go.RowKit Go.Fl Go.Fl.Lk Go.Fx
namespace Go.En
def z2c (X:q0s):Con Sg:=conV [.ptr 104 [.c,.v]] [.ptr 104 [.sl C.u8,.int .i64]] [.el C.subj] [.ptr 104 [.same,.int .i64]] fun a K=>X a.1.1 a.1.2.1 (fun q0 q1=>K (q0,()) (((),q1,()),()))
theorem v0v (Qc:Zh) (q03:q71) (h:AL [(49,Vl Qc),(55,z8w q03)]):MT 27 (z2c (z79 Qc q03)):=mP (rk:=[.el C.subj]) h (by kernel_rfl) [(10,⟨bl 125,[1],[(0,(104,2)),(2,(25,1))],[(.cell 0 1,.int .i64),(.cell 2 0,.own 82 C.ctx)]⟩)] fun a K=>by kernel_rfl
theorem j81:MT 27 (z2c Rp):=v0v Zd q3q ⟨Gj,v0u,trivial⟩
def j3l (X:z0r):Con Sg:=conV [.ptr 104 [.c,.v],.el C.env] [.ptr 104 [.sl C.u8,.int .i64],.el C.env] [.vec 54 C.forced] [.ptr 104 [.same,.int .i64],.same] fun a K=>X a.1.1 a.1.2.1 a.2.1 (fun q0 q1=>K (q0,()) (((),q1,()),(),()))
theorem v5g (Qc:Zh) (h:AL [(49,Vl Qc)]):MT 32 (j3l (j2n Qc)):=mP (rk:=[.own 54 C.forced]) h (by kernel_rfl) [(7,⟨bl 27,[1],[(0,(104,2))],[(.slot 5,.own 54 C.forced),sI 6,(.cell 0 1,.int .i64)]⟩),(16,⟨bl 998651,[2],[(5,(54,3)),(0,(104,2))],[(.cell 5 0,.str),(.cell 0 1,.int .i64)]⟩),(32,⟨bl 998651,[2],[(5,(54,3)),(0,(104,2))],[(.cell 5 0,.str),(.cell 5 1,.str),(.cell 5 2,.int .i64),(.cell 0 1,.int .i64)]⟩),(26,⟨bl 274862128603,[],[(5,(54,3)),(0,(104,2))],[(.cell 5 0,.str),(.cell 0 1,.int .i64)]⟩)] fun a K=>by kernel_rfl
theorem v5h:MT 32 (j3l z0s):=v5g Zd ⟨Gj,trivial⟩
def z2d (X:Ba):Con Sg:=conS [.sl C.u8,.sl C.u8] [.el C.env,.el C.subj,.sl C.forced] fun a K=>X a.1 a.2.1 (fun q0 q1 q2=>K (q0,q1,q2,()))
theorem w4r (q91:j2m) (q3d:Rf) (Gw:q0s) (z6o:z0r) (h:AL [(23,v0s q91),(31,q78 q3d),(27,z2c Gw),(32,j3l z6o)]):MT 10 (z2d (z1p q91 q3d Gw z6o)):=mS h (by kernel_rfl) [] fun a K=>by kernel_rfl
theorem w4s:MT 10 (z2d Gi):=w4r z77 Rg Rp z0s ⟨v9u,j8o,j81,v5h,trivial⟩
end Go.En
end
noncomputable section
set_option maxRecDepth 100000
open Go Go.RowKit Go.Fl Go.Fl.Lk Go.Fx
namespace Go.En
def v9v (X:w3p):Con Sg:=conS [.int .i64,.int .i64] [.int .i64] fun a K=>X a.1 a.2.1 (fun q0=>K (q0,()))
theorem y7d:MT 25 (v9v z8e):=mS (l:=[]) trivial (by kernel_rfl) [] fun a K=>by kernel_rfl
def Gm (X:q0t):Con Sg:=conS [.sl C.u8,.sl C.u8,.sl C.u8,.int .i64,.int .i64] [.bool] fun a K=>X a.1 a.2.1 a.2.2.1 a.2.2.2.1 a.2.2.2.2.1 (fun q0=>K (q0,()))
theorem z8x (Bn:R8) (Bo:Ba) (j9y:w3p) (Wo:q0m) (q91:j2m) (Gw:q0s) (Za:We) (h:AL [(9,z2b Bn),(10,z2d Bo),(25,v9v j9y),(26,z1z Wo),(23,v0s q91),(27,z2c Gw),(14,B5 Za)]):MT 7 (Gm (q0u Bn Bo j9y Wo q91 Gw Za)):=mS h (by kernel_rfl) [(29,⟨bl 154742504910672534345873439,[9,0,4,1],[],[sI 87,(.obj 10,.own 25 C.subj),(.obj 7,.own 54 C.forced),(.obj 6,.own 54 C.forced)]⟩)] fun a K=>by kernel_rfl
theorem z8y:MT 7 (Gm Jn):=z8x R9 Gi z8e Ud z77 Rp Wf ⟨w4q,w4s,y7d,j8m,v9u,j81,q9w,trivial⟩
end Go.En
end
noncomputable section
set_option maxRecDepth 100000
namespace Go.En
open Go Go.Fl Go.Fl.Lk Go.Fx
theorem Cnd.mk {c A B:Prop} (h:c->A) (k: ¬c->B):Cnd c A B:=⟨h,k⟩
structure DS (list:List Int) (at_:Int):Prop where
 len:list.length<=1000
 lo:0<=at_
 hi:at_<=list.length
 byte: ∀x∈list,0<=x/\x<256
theorem getm {α:Type} {l:List α} {k:Nat} {x:α} (h:l[k]? =some x):x∈l:=List.mem_of_getElem? h
theorem z8z (n:Int):(Go.Utf8.encode n).size<=4:=by
 unfold Go.Utf8.encode
 generalize (if Go.Utf8.valid n then n.toNat else Go.Utf8.runeError)=c
 show (if c<0x80 then _ else if c<0x800 then _ else if c<0x10000 then _ else _:ByteArray).size<=4
 have h1: ∀a:UInt8,(ByteArray.mk #[a]).size<=4:=fun _=>(by decide:1<=4)
 have h2: ∀a b:UInt8,(ByteArray.mk #[a,b]).size<=4:=fun _ _=>(by decide:2<=4)
 have h3: ∀a b c:UInt8,(ByteArray.mk #[a,b,c]).size<=4:=fun _ _ _=>(by decide:3<=4)
 have h4: ∀a b c d:UInt8,(ByteArray.mk #[a,b,c,d]).size<=4:=fun _ _ _ _=>(by decide:4<=4)
 split
 ·exact h1 _
 ·split
  ·exact h2 _ _
  ·split
   ·exact h3 _ _ _
   ·exact h4 _ _ _ _
theorem Qi {list:List Int} {at_ n:Int} {K:Int->Int->Prop} (hD:DS list at_) (hn:1<=n) (h: ∀r a,0<=r->r<n->DS list a->K r a):Zd list at_ n K:=by
 obtain ⟨h1,h2,h3,h4⟩:=hD
 unfold Zd w3h j50
 refine fun _=>Cnd.mk (fun hl=> ?_) (fun _=>h _ _ (by omega) (by omega) ⟨h1,h2,h3,h4⟩)
 have hl:=of_decide_eq_true hl
 refine ⟨by unfold InI;omega,by unfold InI;omega,by omega,fun y hy=>⟨by unfold InI;have:=h4 _ (getm hy);omega,by omega,?_⟩⟩
 obtain ⟨a,b⟩:=h4 _ (getm hy)
 exact h _ _ (Int.tmod_nonneg _ a) (by have:=Int.tmod_lt_of_pos y (b:=n) (by omega);omega) ⟨h1,by omega,by omega,h4⟩
theorem q5e {list:List Int} {at_ n:Int} {K:Int->Int->Prop} (hD:DS list at_) (hn:1<=n) (h: ∀r a,0<=r->r<n->DS list a->K r a):q52 list at_ n K:=by
 unfold q52 w3j
 refine Qi hD (by decide) fun r a r0 r1 hD=>⟨by unfold InI;omega,Qi hD (by decide) fun s b s0 s1 hD=>⟨by unfold InI;omega,by omega,?_⟩⟩
 exact h _ _ (Int.tmod_nonneg _ (by omega)) (by have:=Int.tmod_lt_of_pos (256*r+s) (b:=n) (by omega);omega) hD
theorem j0z {n:Int} {l:List ByteArray} {K:List ByteArray->Prop} (h0:0<=n) (h1:n<=l.length) (h:K (l.take n.toNat)):z5x n l K:=⟨⟨h0,h1⟩,h⟩
theorem z0v {list:List Int} {at_:Int} {K:ByteArray->Int->Prop} (hD:DS list at_) (h: ∀r a,r∈z9r->DS list a->K r a):q1m list at_ K:=by
 unfold q1m w3i
 exact Qi hD (by decide) fun r a r0 r1 hD=>⟨⟨r0,r1⟩,fun y hy=>h _ _ (getm hy) hD⟩
theorem sz_k (n:Int):(ByteArray.mk (Array.mk [107])++Go.Utf8.encode n).size<=5:=by
 rw [ByteArray.size_append];have:=z8z n;show 1+_<=5;omega
theorem v2x {list:List Int} {at_:Int} {K:ByteArray->Int->Prop} (hD:DS list at_) (h: ∀r a,r.size<=5->DS list a->K r a):z7r list at_ K:=by
 unfold z7r w9y
 refine Qi hD (by decide) fun r a r0 r1 hD=>⟨by unfold InI;omega,?_,h _ _ (sz_k _) hD⟩
 have:=z8z (Go.IntKind.i32.wrap (48+r));have e:(ByteArray.mk (Array.mk [107])).size=1:=rfl;omega
theorem j82 {list:List Int} {at_:Int} {K:List ByteArray->Int->Prop} (hD:DS list at_) (h: ∀r a,r.length<=3->(∀s∈r,s.size<=5)->DS list a->K r a):z08 list at_ K:=by
 unfold z08 w3k
 refine Qi hD (by decide) fun n a n0 n1 hD=> ?_
 refine Lp3.ind (fun l i a=>DS list a/\0<=i/\i<=3/\(l.length:Int)=i/\ ∀s∈l,s.size<=5) (fun _ i _=>(3 - i).toNat) ?_ ⟨hD,by decide,by decide,rfl,by simp⟩
 rintro l i a ⟨hD,i0,i3,hl,hs⟩
 refine Qi hD (by decide) fun r a r0 r1 hD=>Cnd.mk (fun hc=> ?_) (fun hc=> ?_)
 ·have:=z8z (Go.IntKind.i32.wrap ((48:Int)+(n+i).tmod 10));have e:(ByteArray.mk (Array.mk [107])).size=1:=rfl
  have m0:=Int.tmod_nonneg 10 (show 0<=n+i by omega);have m1:=Int.tmod_lt_of_pos (n+i) (b:=10) (by decide)
  refine ⟨by unfold InI;omega,by decide,by unfold InI;omega,by omega,by unfold Sml;simp;omega,by unfold InI;omega,⟨hD,by omega,by omega,by simp;omega,fun s hm=> ?_⟩,by omega⟩
  rcases List.mem_append.1 hm with hm|hm
  ·exact hs s hm
  ·rw [List.mem_singleton.1 hm];exact sz_k _
 ·refine Lp2.ind (fun (i:Int) (m:List ByteArray)=>m=l/\1<=i/\i<=1+l.length) (fun (i:Int) _=>(1+l.length - i).toNat) ?_ ⟨rfl,by decide,by omega⟩
  rintro i m ⟨rfl,i0,i1⟩ _
  refine Cnd.mk (fun hc=>⟨by omega,fun y hy=>⟨by unfold InI;omega,by omega,fun z hz=>Cnd.mk (fun _=>⟨by unfold InI;omega,⟨rfl,by omega,by omega⟩,by omega⟩) (fun _=>⟨by omega,h _ _ (by simp;omega) (fun s hm=>hs s (List.mem_of_mem_take hm)) hD⟩)⟩⟩) (fun _=>h _ _ (by omega) hs hD)
theorem sz0:(ByteArray.mk (Array.mk ([]:List UInt8))).size<=100:=by decide
structure ValS (v:Val):Prop where
 num:InI v.number
 txt:v.text.size<=100
 len:v.list.length<=10
 txs: ∀s∈v.list,s.size<=100
theorem q6v {list:List Int} {at_ kind:Int} {K:Val->Int->Prop} (hD:DS list at_) (h: ∀r a,ValS r->DS list a->K r a):Un list at_ kind K:=by
 unfold Un z9t
 have tt: ∀s∈z9r,s.size<=100:=by decide
 have tv: ∀s∈z3f,s.size<=100:=by decide
 have tl: ∀l∈j7e,l.length<=10/\ ∀s∈l,s.size<=100:=by decide
 refine Cnd.mk (fun _=> ?_) fun _=>Cnd.mk (fun _=>fun _=> ?_) fun _=>Cnd.mk (fun _=> ?_) fun _=>Cnd.mk (fun _=> ?_) fun _=> ?_
 ·exact Qi hD (by decide) fun r a r0 r1 hD=>h _ _ ⟨by unfold InI;simp only;omega,sz0,by simp,by simp⟩ hD
 ·refine Qi hD (by decide) fun r a r0 r1 hD=>⟨⟨r0,r1⟩,fun y hy=>h _ _ ⟨?_,sz0,by simp,by simp⟩ hD⟩
  have:=getm hy
  have k: ∀y∈[(0:Int),(1:Int),(17:Int),(18:Int),(19:Int),(-5:Int),(64:Int),(1099511627776:Int),(-1099511627776:Int)], -9223372036854775808<=y/\y<=9223372036854775807:=by decide
  exact k y this
 ·exact z0v hD fun r a hr hD=>h _ _ ⟨by unfold InI;simp,tt _ hr,by simp,by simp⟩ hD
 ·exact Qi hD (by decide) fun r a r0 r1 hD=>⟨⟨r0,r1⟩,fun y hy=>h _ _ ⟨by unfold InI;simp,tv _ (getm hy),by simp,by simp⟩ hD⟩
 ·refine Qi hD (by decide) fun r a r0 r1 hD=>⟨⟨r0,r1⟩,fun y hy=> ?_⟩
  obtain ⟨a1,a2⟩:=tl _ (getm hy)
  exact ⟨by unfold Sml;simp;omega,h _ _ ⟨by unfold InI;simp,sz0,by simpa using a1,by simpa using a2⟩ hD⟩
structure VsS (l:List Val):Prop where
 len:l.length<=4
 all: ∀v∈l,ValS v
theorem VsS.nil:VsS []:=⟨by simp,by simp⟩
theorem VsS.one {v:Val} (h:ValS v):VsS [v]:=⟨by simp,by simpa using h⟩
def ExS:Nat->Ex->Prop
 |0,e=>VsS e.values/\(e.name.size<=100/\e.kind.size<=100)/\(InI e.op/\(2<=e.op->e.op<=4->e.kids≠[]))/\e.kids=[]
 |n+1,e=>VsS e.values/\(e.name.size<=100/\e.kind.size<=100)/\(InI e.op/\(2<=e.op->e.op<=4->e.kids≠[]))/\e.kids.length<=3/\ ∀k∈e.kids,ExS n k
theorem ExS.up: ∀{n:Nat} {e:Ex},ExS n e->ExS (n+1) e
 |0,e,h=>⟨h.1,h.2.1,h.2.2.1,by rw [h.2.2.2];simp,by rw [h.2.2.2];simp⟩
 |n+1,e,h=>⟨h.1,h.2.1,h.2.2.1,h.2.2.2.1,fun k hk=>(h.2.2.2.2 k hk).up⟩
theorem ExS.le {n m:Nat} {e:Ex} (h:ExS n e) (hm:n<=m):ExS m e:=by
 induction hm with
 |refl=>exact h
 |step _ ih=>exact ih.up
theorem ExS.kids {n:Nat} {e:Ex} (h:ExS n e):e.kids.length<=3:=by
 cases n with
 |zero=>rw [h.2.2.2];simp
 |succ n=>exact h.2.2.2.1
theorem ExS.kid {n:Nat} {e k:Ex} (h:ExS n e) (hk:k∈e.kids): ∃m,m+1=n/\ExS m k:=by
 cases n with
 |zero=>rw [h.2.2.2] at hk;simp at hk
 |succ n=>exact ⟨n,rfl,h.2.2.2.2 k hk⟩
theorem ExS.vals {n:Nat} {e:Ex} (h:ExS n e):VsS e.values:=by cases n<;>exact h.1
theorem ExS.nm {n:Nat} {e:Ex} (h:ExS n e):e.name.size<=100:=by cases n<;>exact h.2.1.1
theorem ExS.kd {n:Nat} {e:Ex} (h:ExS n e):e.kind.size<=100:=by cases n<;>exact h.2.1.2
theorem ExS.opK {n:Nat} {e:Ex} (h:ExS n e):2<=e.op->e.op<=4->e.kids≠[]:=by cases n<;>exact h.2.2.1.2
def OpL (op:Int):Prop:=InI op/\ ¬(2<=op/\op<=4)
theorem OpL.ok {op:Int} (h:OpL op) {l:List Ex}:InI op/\(2<=op->op<=4->l≠[]):=⟨h.1,fun a b=>absurd ⟨a,b⟩ h.2⟩
theorem opl {op:Int} (h:(6<=op/\op<=100)∨op=0∨op=1∨op=5) {l:List Ex}:InI op/\(2<=op->op<=4->l≠[]):=⟨by unfold InI;omega,fun a b=>by omega⟩
theorem q2y {K:List Decl->Prop} (h: ∀l,l.length=8->(∀d∈l,d.kind.size<=100/\d.name.size<=100/\1<=d.type/\d.type<=5)->K l):Jz K:=by
 unfold Jz
 exact h _ rfl (by decide)
theorem w7l {list:List Int} {at_:Int} {K:Ex->Int->Prop} (hD:DS list at_) (h: ∀r a,ExS 0 r->6<=r.op->DS list a->K r a):z5y list at_ K:=by
 unfold z5y w3l
 refine q2y fun l hl hd _=>⟨by unfold InI;omega,Qi hD (by omega) fun r a r0 r1 hD _=>Cnd.mk (fun _=> ?_) fun hc=>⟨by omega,fun y hy=> ?_⟩⟩
 ·exact v2x hD fun s a hs hD=>h _ _ ⟨.one ⟨by unfold InI;simp,by show s.size<=100;omega,by simp,by simp⟩,⟨(by decide:(ByteArray.mk (Array.mk [107,101,121])).size<=100),(by decide:(ByteArray.mk (Array.mk [117,115,101,114])).size<=100)⟩,opl (by simp),rfl⟩ (by simp) hD
 obtain ⟨hy0,hy1,hy2,hy3⟩:=hd y (getm hy)
 have one: ∀{op:Int} {v:Val},OpL op->ValS v->ExS 0 (Ex.mk op y.kind y.name [v] []):=fun ho hv=>⟨.one hv,⟨hy1,hy0⟩,ho.ok,rfl⟩
 refine Jn1.mk (fun x=>(∃b,x=(b,y.kind,y.name,([]:List Val),([]:List Ex),x.2.2.2.2.2.1,0,ByteArray.mk (Array.mk []),ByteArray.mk (Array.mk []),[],[],()))/\DS list x.2.2.2.2.2.1) ?_ ?_
 case refine_2=>
  rintro x ⟨⟨b,hx⟩,hD⟩
  refine q6v hD fun v a hv hD=>h _ _ ?_ (by simp) hD
  rw [hx]
  exact one ⟨by unfold InI;simp,by decide⟩ hv
 refine Qi hD (by decide) fun q a q0 q1 hD=> ?_
 refine Jn1.mk (fun x=>(∃b,x=(x.1,b,y.kind,y.name,([]:List Val),([]:List Ex),0,ByteArray.mk (Array.mk []),ByteArray.mk (Array.mk []),[],[],()))/\DS list x.1) ?_ ?_
 case refine_2=>
  rintro x ⟨⟨b,hx⟩,hD⟩
  have cmp:Zd list x.1 4 fun r a=>InI (12+r)/\Un list a y.3 fun v a=>K (Ex.mk (12+r) x.2.2.1 x.2.2.2.1 [v] x.2.2.2.2.2.1) a:=by
   refine Qi hD (by decide) fun r a r0 r1 hD=>⟨by unfold InI;omega,q6v hD fun v a hv hD=>h _ _ ?_ (by simp only;omega) hD⟩
   rw [hx]
   exact one ⟨by unfold InI;omega,by omega⟩ hv
  refine Cnd.mk (fun _=>cmp) fun _=>Cnd.mk (fun _=>cmp) fun _=>Cnd.mk (fun _=>cmp) fun _=> ?_
  refine ⟨⟨b,?_⟩,hD⟩
  rw [hx]
 have nx: ∀{a:Int},DS list a->(fun x:Int×ByteArray×ByteArray×List Val×List Ex×Int×Int×ByteArray×ByteArray×List Val×List Ex×Unit=>(∃b,x=(b,y.kind,y.name,([]:List Val),([]:List Ex),x.2.2.2.2.2.1,0,ByteArray.mk (Array.mk []),ByteArray.mk (Array.mk []),[],[],()))/\DS list x.2.2.2.2.2.1) ((0:Int),y.1,y.2,[],[],a,(0:Int),ByteArray.mk (Array.mk []),ByteArray.mk (Array.mk []),[],[],()):=fun hD=>⟨⟨0,rfl⟩,hD⟩
 refine Cnd.mk (fun _=>h _ _ ⟨.nil,⟨hy1,hy0⟩,opl (by simp),rfl⟩ (by simp) hD) fun _=>Cnd.mk (fun _=> ?_) fun _=>Cnd.mk (fun _=> ?_) fun _=>Cnd.mk (fun _=> ?_) fun _=>Cnd.mk (fun _=> ?_) fun _=>nx hD
 ·refine Cnd.mk (fun _=>nx hD) fun _=> ?_
  refine Lp3.ind (fun i l a=>DS list a/\0<=i/\i<=3/\(l.length:Int)=i/\ ∀v∈l,ValS v) (fun i _ _=>(3 - i).toNat) ?_ ⟨hD,by decide,by decide,rfl,by simp⟩
  rintro i l a ⟨hD,i0,i3,hl,hv⟩
  refine Qi hD (by decide) fun r a r0 r1 hD=>Cnd.mk (fun hc=>q6v hD fun v a hv' hD=>⟨by unfold Sml;simp;omega,by unfold InI;omega,⟨hD,by omega,by omega,by simp;omega,fun u hu=> ?_⟩,by omega⟩) (fun hc=>h _ _ ⟨⟨by simp only;omega,hv⟩,⟨hy1,hy0⟩,opl (by simp),rfl⟩ (by simp) hD)
  rcases List.mem_append.1 hu with hu|hu
  ·exact hv u hu
  ·rw [List.mem_singleton.1 hu];exact hv'
 ·have c:Un list a 3 fun v a=>K (Ex.mk 11 y.1 y.2 [v] []) a:=q6v hD fun v a hv hD=>h _ _ (one ⟨by unfold InI;simp,by decide⟩ hv) (by simp) hD
  exact Cnd.mk (fun _=>c) fun _=>Cnd.mk (fun _=>c) fun _=>nx hD
 ·exact Cnd.mk (fun _=>Qi hD (by decide) fun r a r0 r1 hD=>⟨by unfold InI;omega,q6v hD fun v a hv hD=>h _ _ (one ⟨by unfold InI;omega,by omega⟩ hv) (by simp only;omega) hD⟩) fun _=>⟨⟨0,rfl⟩,hD⟩
 ·exact ⟨⟨0,rfl⟩,hD⟩
theorem ExS.eta {n:Nat} {e:Ex} (h:ExS n e):ExS n (Ex.mk e.op e.kind e.name e.values e.kids):=by cases e;exact h
theorem y9w {n:Nat} {e:Ex} (h:ExS n e) {k m:ByteArray} (hm:m.size<=100) (hk:k.size<=100):ExS (n+1) (Ex.mk 4 k m [] [e]):=⟨.nil,⟨hm,hk⟩,⟨InI.mk (by simp) (by simp),fun _ _=>by simp⟩,by simp,by simpa using h⟩
structure SegS (g:Seg):Prop where
 key:g.key.size<=100
 kind:g.kind.size<=100
 incl:g.incl.length<=3
 excl:g.excl.length<=3
 cond:ExS 4 g.cond
theorem Zu {α:Type} {P:α->Prop} {l:List α} {x:α} (h: ∀y∈l,P y) (hx:P x): ∀y∈l++[x],P y:=fun y hy=>by
 rcases List.mem_append.1 hy with hy|hy
 ·exact h y hy
 ·rw [List.mem_singleton.1 hy];exact hx
theorem z2w {v:Envt} {K:List ByteArray->Prop} (hl:v.segments.length<=1000) (h:K (v.segments.map Seg.key)):Hu v K:=by
 unfold Hu
 refine Lp2.ind (fun (l:List ByteArray) (i:Int)=>0<=i/\i<=v.segments.length/\l=(v.segments.take i.toNat).map Seg.key) (fun _ (i:Int)=>(v.segments.length - i).toNat) ?_ ⟨Int.le_refl 0,by omega,by simp⟩
 rintro l i ⟨i0,i1,rfl⟩ _
 refine Cnd.mk (fun hc=>⟨by omega,fun y hy=>⟨by unfold Sml;simp;omega,by unfold InI;omega,⟨by omega,by omega,?_⟩,by omega⟩⟩) fun hc=> ?_
 ·rw [show (i+1).toNat=i.toNat+1 by omega,List.take_add_one,hy];simp
 ·rw [List.take_of_length_le (by omega)];exact h
def SplS (n:Int) (l:List Rng):Prop:=l.length<=4/\ ∀r∈l,0<=r.lo/\r.hi<=10000/\1<=r.variation/\r.variation<=n
structure SrvS (n:Int) (s:Srv):Prop where
 kind:s.kind.size<=100
 var:0<=s.variation/\s.variation<=n
 split:SplS n s.split
 by_:s.by_.size<=100
 salt:s.salt.size<=100
structure LayS (l:Lay_):Prop where
 key:l.key.size<=100
 kind:l.kind.size<=100
 salt:l.salt.size<=100
 hold:0<=l.holdout/\l.holdout<=10000
 cool:0<=l.cool/\l.cool<=100
theorem v5i {list:List Int} {at_:Int} {key:ByteArray} {K:Lay_->Int->Prop} (hD:DS list at_) (hk:key.size<=100) (h: ∀l a,LayS l->l.key=key->DS list a->K l a):z3m list at_ key K:=by
 unfold z3m j7k
 have tt: ∀s∈z9r,s.size<=100:=by decide
 refine z0v hD fun t a ht hD=>Qi hD (by decide) fun c a c0 c1 hD=>⟨by unfold InI;omega,?_⟩
 refine Jn2.mk (fun k a=>k.size<=100/\DS list a) (Qi hD (by decide) fun r a r0 r1 hD=>Cnd.mk (fun _=>⟨by decide,hD⟩) fun _=>⟨by decide,hD⟩) fun kind a hx=> ?_
 obtain ⟨hkd,hD⟩:=hx
 refine Jn2.mk (fun x a=>DS list a/\0<=x/\x<=10000) (Qi hD (by decide) fun r a r0 r1 hD=>Cnd.mk (fun _=>q5e hD (by decide) fun w a w0 w1 hD=>⟨hD,by omega,by omega⟩) fun _=>⟨hD,by omega,by omega⟩) fun hold a hx=> ?_
 obtain ⟨hD,x0,x1⟩:=hx
 have ok: ∀{cs:List Col},LayS (Lay_.mk key kind t hold (c*50) cs):=⟨hk,hkd,tt _ ht,⟨x0,x1⟩,⟨by simp only;omega,by simp only;omega⟩⟩
 refine Lp4.ind (fun at_ i cs a=>DS list a/\0<=i/\i<=2/\(cs.length:Int)=i/\0<=at_/\at_<=10000/\ ∀c∈cs,0<=c.lo/\c.hi<=10000/\0<=c.until_/\c.until_<=200) (fun _ i _ _=>(2 - i).toNat) ?_ ⟨hD,by omega,by omega,rfl,by omega,by omega,by simp⟩
 rintro at_ i cs a ⟨hD,i0,i1,hl,a0,a1,hc⟩
 refine Qi hD (by decide) fun q a q0 q1 hD=>Cnd.mk (fun _=>q5e hD (by decide) fun w a w0 w1 hD=>⟨by unfold InI;omega,by unfold InI;omega,q5e hD (by decide) fun w' a w0' w1' hD=>⟨by unfold InI;omega,Cnd.mk (fun _=>h _ _ ok rfl hD) fun _=> ?_⟩⟩) fun _=>h _ _ ok rfl hD
 refine Qi hD (by decide) fun u a u0 u1 hD=>⟨by unfold Sml;simp;omega,by unfold InI;omega,⟨hD,by omega,by omega,by simp;omega,by omega,by omega,Zu hc ⟨by simp only;omega,by simp only;omega,by simp only;omega,by simp only;omega⟩⟩,by omega⟩
structure SpsS (l:List Spn):Prop where
 len:l.length<=10000
 all: ∀s∈l,0<=s.lo/\s.lo<s.hi/\s.hi<=10000
structure RulS (n:Int) (r:Rul):Prop where
 name:r.name.size<=100
 cond:ExS 4 r.cond
 serve:SrvS n r.serve
structure FlgS (f:Flg):Prop where
 key:f.key.size<=100
 vlen:1<=f.variations.length/\f.variations.length<=4
 vals: ∀v∈f.variations,ValS v
 nlen:f.needs.length<=4
 needs: ∀q∈f.needs,q.flag.size<=100
 tlen:f.targets.length<=3
 tgts: ∀t∈f.targets,t.kind.size<=100
 rlen:f.rules.length<=4
 rules: ∀r∈f.rules,RulS f.variations.length r
 dflt:SrvS f.variations.length f.dflt
structure ExpS (x:Exper):Prop where
 key:x.key.size<=100
 layer:x.layer.size<=100
 flag:x.flag.size<=100
 claims:SpsS x.claims
 arms:SplS 4 x.arms
 cond:ExS 4 x.cond
structure EnvS (v:Envt):Prop where
 hkind:v.settings.holdoutKind.size<=100
 attrs: ∀d∈v.attributes,d.kind.size<=100/\d.name.size<=100
 slen:v.segments.length<=3
 segs: ∀g∈v.segments,SegS g
 flen:v.flags.length<=4
 flags: ∀f∈v.flags,FlgS f
 llen:v.layers.length<=2
 layers: ∀l∈v.layers,LayS l
 xlen:v.experiments.length<=3
 exps: ∀x∈v.experiments,ExpS x
end Go.En
end
noncomputable section
set_option maxRecDepth 100000
namespace Go.En
open Go Go.Fl Go.Fl.Lk Go.Fx
abbrev S4:=Int×Int×Int×Int
def w64 (x:Int):Int:=Go.IntKind.u64.wrap x
def xr (a b:Int):Int:=Go.IntKind.u64.wrap ((BitVec.ofInt 64 a ^^^ BitVec.ofInt 64 b).toNat:Int)
def rot (x n:Int):Int:=Go.IntKind.u64.wrap ((BitVec.ofInt 64 (Go.IntKind.u64.wrap (x*2 ^ Min.min n.toNat 64))|||BitVec.ofInt 64 (x.fdiv (2 ^ Min.min (Go.IntKind.u64.wrap (64 - n)).toNat 64))).toNat:Int)
def rnd (s:S4):S4:=
  (w64 (rot (w64 (s.1+s.2.1)) 32+xr (rot s.2.2.2 16) (w64 (s.2.2.1+s.2.2.2))),
   xr (rot (xr (rot s.2.1 13) (w64 (s.1+s.2.1))) 17) (w64 (w64 (s.2.2.1+s.2.2.2)+xr (rot s.2.1 13) (w64 (s.1+s.2.1)))),
   rot (w64 (w64 (s.2.2.1+s.2.2.2)+xr (rot s.2.1 13) (w64 (s.1+s.2.1)))) 32,
   xr (rot (xr (rot s.2.2.2 16) (w64 (s.2.2.1+s.2.2.2))) 21) (w64 (rot (w64 (s.1+s.2.1)) 32+xr (rot s.2.2.2 16) (w64 (s.2.2.1+s.2.2.2)))))
def rn:Nat->S4->S4
  |0,s=>s
  |k+1,s=>rnd (rn k s)
def tm (y:Int) (k:Nat):BitVec 64:=BitVec.ofInt 64 (Go.IntKind.u64.wrap (Go.IntKind.u64.wrap y*2 ^ Min.min (8*k) 64))
def wv (b:List Int) (o:Nat) (v:BitVec 64):Nat->BitVec 64
  |0=>v
  |k+1=>wv b o v k|||tm (b.getD (o+k) 0) k
def s0 (k0 k1:Int):S4:=(xr k0 8317987319222330741,xr k1 7237128888997146477,xr k0 7816392313619706465,xr k1 8387220255154660723)
def topV (n:Nat):BitVec 64:=BitVec.ofInt 64 (Go.IntKind.u64.wrap (Go.IntKind.u64.wrap (n:Int)*2 ^ Min.min (Int.toNat 56) 64))
def y3x (b:List Int):BitVec 64:=wv b (8*(b.length / 8)) 0 (b.length % 8)|||topV b.length
theorem j83 (x:Int):Go.IntKind.u64.wrap x=x % 18446744073709551616:=rfl
theorem y7e (x:Int):Go.IntKind.u64.wrap x=((BitVec.ofInt 64 (Go.IntKind.u64.wrap x)).toNat:Int):=by
  rw [BitVec.toNat_ofInt,j83]
  omega
theorem j00 {n:Nat} (h:n<18446744073709551616):Go.IntKind.u64.wrap (n:Int)=n:=by
  show (n:Int) % 18446744073709551616=n
  omega
theorem v9w (v:BitVec 64):BitVec.ofInt 64 ((v.toNat:Nat):Int)=v:=by simp
theorem y3y (v t:BitVec 64):Go.IntKind.u64.wrap ((BitVec.ofInt 64 ((v.toNat:Nat):Int)|||t).toNat:Int)=((v|||t).toNat:Int):=by
  rw [v9w];exact j00 (v|||t).isLt
theorem j3m {x k:Int} {K:Int->Prop} (hk:k=13∨k=16∨k=17∨k=21∨k=32) (h:K (rot x k)):Ve x k K:=by
  have e:Go.IntKind.u64.wrap (↑(BitVec.ofInt 64 (Go.IntKind.u64.wrap k) &&& BitVec.ofInt 64 63).toNat:Int)=k:=by rcases hk with rfl|rfl|rfl|rfl|rfl<;>decide
  have e2:0<=Go.IntKind.u64.wrap (64 - k):=by rcases hk with rfl|rfl|rfl|rfl|rfl<;>decide
  unfold Ve
  rw [e]
  exact ⟨by omega,e2,h⟩
theorem z6d {x k:Int} {K:Int->Prop} (hk:k=13∨k=16∨k=17∨k=21∨k=32) (h:K (rot x k)):q70 x k K:=by
  have e2:0<=Go.IntKind.u64.wrap (64 - k):=by rcases hk with rfl|rfl|rfl|rfl|rfl<;>decide
  unfold q70
  exact ⟨by omega,e2,h⟩
theorem v9x (s:S4) (i:Int) (h:0<=i):rnd (rn i.toNat s)=rn (i+1).toNat s:=by
  rw [show (i+1).toNat=i.toNat+1 by omega];rfl
theorem v5j {a b c d n:Int} {q:Nat} {K:Int->Int->Int->Int->Prop} (hn:n=(q:Int)) (h1:q<=1000) (h:K (rn q (a,b,c,d)).1 (rn q (a,b,c,d)).2.1 (rn q (a,b,c,d)).2.2.1 (rn q (a,b,c,d)).2.2.2):Q9 a b c d n K:=by
  subst hn
  unfold Q9 Bq
  refine Lp5.ind (fun i a' b' c' d'=>0<=i/\i<=(q:Int)/\(a',b',c',d')=rn i.toNat (a,b,c,d)) (fun i _ _ _ _=>((q:Int) - i).toNat) ?_ ⟨Int.le_refl 0,by omega,rfl⟩
  rintro i a' b' c' d' ⟨i0,i1,hs⟩
  refine Cnd.mk (fun hc=>j3m (by simp) (j3m (by simp) (j3m (by simp) (j3m (by simp) (j3m (by simp) (j3m (by simp) ⟨by unfold InI;omega,⟨by omega,by omega,?_⟩,by omega⟩)))))) fun hc=> ?_
  · rw [←v9x _ _ i0,←hs];simp only [rnd,w64,xr]
  · rw [show q=i.toNat by omega,←hs] at h;exact h
theorem w7m {v:Sip} {n:Int} {q:Nat} {K:Sip->Prop} (hn:n=(q:Int)) (h1:q<=1000) (h:K (Sip.mk (rn q (v.1,v.2,v.3,v.4)).1 (rn q (v.1,v.2,v.3,v.4)).2.1 (rn q (v.1,v.2,v.3,v.4)).2.2.1 (rn q (v.1,v.2,v.3,v.4)).2.2.2)):Z1 v n K:=by
  subst hn
  unfold Z1 q5o
  refine Lp5.ind (fun i a' b' c' d'=>0<=i/\i<=(q:Int)/\(a',b',c',d')=rn i.toNat (v.1,v.2,v.3,v.4)) (fun i _ _ _ _=>((q:Int) - i).toNat) ?_ ⟨Int.le_refl 0,by omega,rfl⟩
  rintro i a' b' c' d' ⟨i0,i1,hs⟩
  refine Cnd.mk (fun hc=>z6d (by simp) (z6d (by simp) (z6d (by simp) (z6d (by simp) (z6d (by simp) (z6d (by simp) ⟨by unfold InI;omega,⟨by omega,by omega,?_⟩,by omega⟩)))))) fun hc=> ?_
  · rw [←v9x _ _ i0,←hs];simp only [rnd,w64,xr]
  · rw [show q=i.toNat by omega,←hs] at h;exact h
theorem exR: ∃R:Nat->S4->S4,(∀(a b c d n:Int) (q:Nat) (K:Int->Int->Int->Int->Prop),n=(q:Int)->q<=1000->K (R q (a,b,c,d)).1 (R q (a,b,c,d)).2.1 (R q (a,b,c,d)).2.2.1 (R q (a,b,c,d)).2.2.2->Q9 a b c d n K)/\
    ∀(v:Sip) (n:Int) (q:Nat) (K:Sip->Prop),n=(q:Int)->q<=1000->K (Sip.mk (R q (v.1,v.2,v.3,v.4)).1 (R q (v.1,v.2,v.3,v.4)).2.1 (R q (v.1,v.2,v.3,v.4)).2.2.1 (R q (v.1,v.2,v.3,v.4)).2.2.2)->Z1 v n K:=
  ⟨rn,fun _ _ _ _ _ _ _ hn hq h=>v5j hn hq h,fun _ _ _ _ hn hq h=>w7m hn hq h⟩
def RR:Nat->S4->S4:=Classical.choose exR
theorem w7n {a b c d n:Int} {q:Nat} {K:Int->Int->Int->Int->Prop} (hn:n=(q:Int)) (h1:q<=1000) (h:K (RR q (a,b,c,d)).1 (RR q (a,b,c,d)).2.1 (RR q (a,b,c,d)).2.2.1 (RR q (a,b,c,d)).2.2.2):Q9 a b c d n K:=(Classical.choose_spec exR).1 a b c d n q K hn h1 h
theorem j84 {v:Sip} {n:Int} {q:Nat} {K:Sip->Prop} (hn:n=(q:Int)) (h1:q<=1000) (h:K (Sip.mk (RR q (v.1,v.2,v.3,v.4)).1 (RR q (v.1,v.2,v.3,v.4)).2.1 (RR q (v.1,v.2,v.3,v.4)).2.2.1 (RR q (v.1,v.2,v.3,v.4)).2.2.2)):Z1 v n K:=(Classical.choose_spec exR).2 v n q K hn h1 h
def wds (s:S4) (m:Int):S4:=(xr (RR 2 (s.1,s.2.1,s.2.2.1,xr s.2.2.2 m)).1 m,(RR 2 (s.1,s.2.1,s.2.2.1,xr s.2.2.2 m)).2)
def blks (b:List Int) (k0 k1:Int):Nat->S4
  |0=>s0 k0 k1
  |i+1=>wds (blks b k0 k1 i) ((wv b (8*i) 0 8).toNat:Int)
def fin4 (s:S4):S4:=RR 4 (s.1,s.2.1,xr s.2.2.1 255,s.2.2.2)
def endV (s:S4):Int:=xr (xr (xr (fin4 s).1 (fin4 s).2.1) (fin4 s).2.2.1) (fin4 s).2.2.2
def sumV (k0 k1:Int) (b:List Int):Int:=
  endV (wds (blks b k0 k1 (b.length / 8)) ((y3x b).toNat:Int))
theorem v9y {a b c d m:Int} {K:Int->Int->Int->Int->Prop} (h:K (wds (a,b,c,d) m).1 (wds (a,b,c,d) m).2.1 (wds (a,b,c,d) m).2.2.1 (wds (a,b,c,d) m).2.2.2):V0 a b c d m K:=by
  unfold V0 q14
  simp only [wds,xr] at h
  exact w7n (q:=2) rfl (by decide) h
theorem y7f {s:S4} {K:Int->Prop} (h:K (endV s)):Q9 s.1 s.2.1 (Go.IntKind.u64.wrap (↑(BitVec.ofInt 64 s.2.2.1 ^^^ BitVec.ofInt 64 255).toNat:Int)) s.2.2.2 4 fun Jb z9a y5g y76=>K (Go.IntKind.u64.wrap (↑(BitVec.ofInt 64 (Go.IntKind.u64.wrap (↑(BitVec.ofInt 64 (Go.IntKind.u64.wrap (↑(BitVec.ofInt 64 Jb ^^^ BitVec.ofInt 64 z9a).toNat:Int)) ^^^ BitVec.ofInt 64 y5g).toNat:Int)) ^^^ BitVec.ofInt 64 y76).toNat:Int)):=by
  simp only [endV,fin4,xr] at h
  exact w7n (q:=4) rfl (by decide) h
theorem v9z {s:S4} {K:Int->Prop} (h:K (endV s)):Z1 (Sip.mk s.1 s.2.1 (Go.IntKind.u64.wrap (↑(BitVec.ofInt 64 s.2.2.1 ^^^ BitVec.ofInt 64 255).toNat:Int)) s.2.2.2) 4 fun x=>K (Go.IntKind.u64.wrap (↑(BitVec.ofInt 64 (Go.IntKind.u64.wrap (↑(BitVec.ofInt 64 (Go.IntKind.u64.wrap (↑(BitVec.ofInt 64 x.1 ^^^ BitVec.ofInt 64 x.2).toNat:Int)) ^^^ BitVec.ofInt 64 x.3).toNat:Int)) ^^^ BitVec.ofInt 64 x.4).toNat:Int)):=by
  simp only [endV,fin4,xr] at h
  exact j84 (q:=4) rfl (by decide) h
theorem v90 {a b c d m:Int} {K:Sip->Prop} (h: ∀x:Sip,(Go.IntKind.u64.wrap (↑(BitVec.ofInt 64 x.1 ^^^ BitVec.ofInt 64 m).toNat:Int),x.2,x.3,x.4)=wds (a,b,c,d) m->K x):Z1 (Sip.mk a b c (Go.IntKind.u64.wrap (↑(BitVec.ofInt 64 d ^^^ BitVec.ofInt 64 m).toNat:Int))) 2 K:=by
  refine j84 (q:=2) rfl (by decide) (h _ ?_)
  simp only [wds,xr]
theorem y9x (b:List Int) (o:Nat) (v:BitVec 64): ∀k,wv b o v k=wv b o 0 k|||v
  |0=>by simp [wv]
  |k+1=>by
    rw [wv,wv,y9x b o v k,BitVec.or_assoc,BitVec.or_comm v,←BitVec.or_assoc]
theorem v0w {b:List Int} {o k:Nat} {v:BitVec 64} {y:Int} (hy:b[o+k]? =some y):wv b o v (k+1)=wv b o v k|||tm y k:=by
  rw [wv,List.getD_eq_getElem?_getD,hy];rfl
theorem y7g (n:Nat):topV n=BitVec.ofInt 64 (Go.IntKind.u64.wrap (Go.IntKind.u64.wrap ((n:Int).tmod 256)*2 ^ Min.min (Int.toNat 56) 64)):=by
  have e:(2:Int) ^ Min.min (Int.toNat 56) 64=72057594037927936:=by decide
  have h2:Go.IntKind.u64.wrap (Go.IntKind.u64.wrap (n:Int)*72057594037927936)=Go.IntKind.u64.wrap (Go.IntKind.u64.wrap ((n:Int).tmod 256)*72057594037927936):=by
    rw [j83,j83,j83,j83,Int.tmod_eq_emod_of_nonneg (by omega)]
    omega
  unfold topV
  rw [e,h2]
theorem w4t {k0 k1:Int} {b:List Int} {K:Int->Prop} (hb:b.length<=1099511627776) (h:K (sumV k0 k1 b)):q46 k0 k1 b K:=by
  unfold q46 z3y
  refine fun _=>⟨by decide,?_⟩
  refine Lp5.ind (fun i a' b' c' d'=> ∃j:Nat,i=8*(j:Int)/\8*j<=b.length/\(a',b',c',d')=blks b k0 k1 j) (fun i _ _ _ _=>(b.length - i).toNat) ?_ ⟨0,rfl,by omega,rfl⟩
  rintro i a' b' c' d' ⟨j,rfl,hj,hs⟩
  refine ⟨by unfold InI;omega,fun _=>Cnd.mk (fun hc=> ?_) fun hc=> ?_⟩
  · refine Lp2.ind (fun v k=> ∃q:Nat,k=(q:Int)/\q<=8/\v=((wv b (8*j) 0 q).toNat:Int)) (fun _ k=>(8 - k).toNat) ?_ ⟨0,rfl,by omega,rfl⟩
    rintro v k ⟨q,rfl,hq,rfl⟩
    refine Cnd.mk (fun hk=>⟨by unfold InI;omega,⟨by omega,by omega⟩,fun y hy=>⟨by unfold InI;omega,by omega,by unfold InI;omega,⟨q+1,by omega,by omega,?_⟩,by omega⟩⟩) fun hk=> ?_
    · rw [show (8*(j:Int)+q).toNat=8*j+q by omega] at hy
      rw [v0w hy,show (8*(q:Int)).toNat=8*q by omega]
      exact y3y _ _
    · refine v9y ⟨by unfold InI;omega,⟨j+1,by omega,by omega,?_⟩,by omega⟩
      rw [hs,show q=8 by omega];rfl
  · refine fun _=>⟨by decide,?_⟩
    have hjl:j=b.length / 8:=by omega
    have hm:((b.length:Nat):Int).tmod 8=((b.length % 8:Nat):Int):=by rw [Int.tmod_eq_emod_of_nonneg (by omega)];omega
    rw [hm]
    refine Lp2.ind (fun v k=> ∃q:Nat,k=(q:Int)/\q<=b.length % 8/\v=((wv b (8*j) (topV b.length) q).toNat:Int)) (fun _ k=>(8 - k).toNat) ?_ ⟨0,rfl,by omega,by unfold wv topV;exact y7e _⟩
    rintro v k ⟨q,rfl,hq,rfl⟩
    refine Cnd.mk (fun hk _ _=>⟨by decide,by unfold InI;omega,by unfold InI;omega,⟨by omega,by omega⟩,fun y hy=>⟨by unfold InI;omega,by omega,by unfold InI;omega,⟨q+1,by omega,by omega,?_⟩,by omega⟩⟩) fun hk=> ?_
    · rw [show ((b.length:Int) - ((b.length % 8:Nat):Int)+q).toNat=8*j+q by omega] at hy
      rw [v0w hy,show (8*(q:Int)).toNat=8*q by omega]
      exact y3y _ _
    · refine v9y (y7f (s:=wds (a',b',c',d') _) ?_)
      rw [hs,show q=b.length % 8 by omega,y9x,hjl]
      exact h
theorem v91 {k0 k1:Int} {b:List Int} {K:Int->Prop} (hb:b.length<=1099511627776) (h:K (sumV k0 k1 b)):z93 k0 k1 b K:=by
  unfold z93 w3n
  have hd:((b.length:Nat):Int).tdiv 8=((b.length / 8:Nat):Int):=by rw [Int.tdiv_eq_ediv_of_nonneg (by omega)];omega
  rw [hd]
  refine Lp5.ind (fun i a' b' c' d'=> ∃j:Nat,i=(j:Int)/\j<=b.length / 8+1/\(j<=b.length / 8->(a',b',c',d')=blks b k0 k1 j)/\(j=b.length / 8+1->(a',b',c',d')=wds (blks b k0 k1 (b.length / 8)) ((y3x b).toNat:Int))) (fun i _ _ _ _=>(b.length / 8+1 - i).toNat) ?_ ⟨0,rfl,by omega,fun _=>rfl,fun h=>by omega⟩
  rintro i a' b' c' d' ⟨j,rfl,hj,hs,hf⟩
  refine fun _=>⟨by decide,by unfold InI;omega,Cnd.mk (fun hc=> ?_) fun hc=> ?_⟩
  · have hs:=hs (by omega)
    have done: ∀q:Nat,(q=8∨q=b.length % 8/\j=b.length / 8)->q<=8->(j<b.length / 8->q=8)->(j=b.length / 8->q=b.length % 8)->Jn1 (fun Qf=>Z1 (Sip.mk a' b' c' (Go.IntKind.u64.wrap (↑(BitVec.ofInt 64 d' ^^^ BitVec.ofInt 64 Qf).toNat:Int))) 2 fun Qn=>InI ((j:Int)+1)/\(∃j':Nat,(j:Int)+1=(j':Int)/\j'<=b.length / 8+1/\(j'<=b.length / 8->(Go.IntKind.u64.wrap (↑(BitVec.ofInt 64 Qn.1 ^^^ BitVec.ofInt 64 Qf).toNat:Int),Qn.2,Qn.3,Qn.4)=blks b k0 k1 j')/\(j'=b.length / 8+1->(Go.IntKind.u64.wrap (↑(BitVec.ofInt 64 Qn.1 ^^^ BitVec.ofInt 64 Qf).toNat:Int),Qn.2,Qn.3,Qn.4)=wds (blks b k0 k1 (b.length / 8)) ((y3x b).toNat:Int)))/\((b.length / 8:Nat)+1 - ((j:Int)+1)).toNat<((b.length / 8:Nat)+1 - (j:Int)).toNat) fun v56=>b.length<=(9223372036854775807:Nat)->(8:Int)≠0/\InI ((b.length / 8:Nat):Int)/\Cnd ((j:Int)=((b.length / 8:Nat):Int)) (b.length<=(9223372036854775807:Nat)->(256:Int)≠0/\(0:Int)<=56/\v56 (Go.IntKind.u64.wrap (↑(BitVec.ofInt 64 ((wv b (8*j) 0 q).toNat:Int)|||BitVec.ofInt 64 (Go.IntKind.u64.wrap (Go.IntKind.u64.wrap ((b.length:Int).tmod 256)*2 ^ Min.min (Int.toNat 56) 64))).toNat:Int))) (v56 ((wv b (8*j) 0 q).toNat:Int)):=fun q _ hq h1 h2=>by
      refine Jn1.mk (fun x=>(j<b.length / 8->x=((wv b (8*j) 0 8).toNat:Int))/\(j=b.length / 8->x=((y3x b).toNat:Int))) (fun _=>⟨by decide,by unfold InI;omega,Cnd.mk (fun he=>fun _=>⟨by decide,by decide,fun _=>by omega,fun hjl=> ?_⟩) fun hne=>⟨fun hl=>by rw [h1 hl],fun he=>by omega⟩⟩) fun x hx=>v90 fun s hsw=>⟨by unfold InI;omega,⟨j+1,by omega,by omega,fun hl=> ?_,fun he=> ?_⟩,by omega⟩
      · rw [←y7g,y3y,h2 hjl,hjl];rfl
      · rw [hsw,hx.1 (by omega),blks,←hs]
      · rw [hsw,hx.2 (by omega),←show j=b.length / 8 by omega,←hs]
    refine Lp2.ind (fun v k=> ∃q:Nat,k=(q:Int)/\q<=8/\(j=b.length / 8->q<=b.length % 8)/\v=((wv b (8*j) 0 q).toNat:Int)) (fun _ k=>(8 - k).toNat) ?_ ⟨0,rfl,by omega,fun _=>by omega,rfl⟩
    rintro v k ⟨q,rfl,hq,hq2,rfl⟩
    refine Cnd.mk (fun hk=>⟨by unfold InI;omega,by unfold InI;omega,fun _=>Cnd.mk (fun hl=>⟨by unfold InI;omega,by unfold InI;omega,⟨by omega,by omega⟩,fun y hy=>⟨by unfold InI;omega,?_,by unfold InI;omega,⟨q+1,by omega,by omega,fun _=>by omega,?_⟩,by omega⟩⟩) fun hl=> ?_⟩) fun hk=> ?_
    · rw [show 8*(q:Int)=((8*q:Nat):Int) by omega,j00 (by omega)];omega
    · rw [show (8*(j:Int)+q).toNat=8*j+q by omega] at hy
      rw [v0w hy,show 8*(q:Int)=((8*q:Nat):Int) by omega,j00 (n:=8*q) (by omega),Int.toNat_natCast]
      exact y3y _ _
    · exact done q (by omega) hq (fun h=>by omega) (fun h=>by omega)
    · exact done q (by omega) hq (fun h=>by omega) (fun h=>by omega)
  · have hf:=hf (by omega)
    unfold sumV at h
    rw [←hf] at h
    exact v9z (s:=(a',b',c',d')) h
def fb (n k:Nat):Int:=Go.IntKind.u8.wrap ((Go.IntKind.u64.wrap (n:Int)).fdiv (2 ^ Min.min (8*k) 64))
def hdr (n:Nat) (j:Nat):List Int:=(List.range j).map fun i=>fb n (7 - i)
def frm (l:List (List Int)):List Int:=l.flatMap fun f=>hdr f.length 8++f
theorem v2y (n j:Nat):hdr n (j+1)=hdr n j++[fb n (7 - j)]:=by simp [hdr,List.range_succ]
theorem z81 (n j:Nat):(hdr n j).length=j:=by simp [hdr]
theorem j57 {l:List (List Int)} {i:Nat} {y:List Int} (hy:l[i]? =some y):frm (l.take (i+1))=frm (l.take i)++(hdr y.length 8++y):=by
  rw [List.take_add_one,hy];simp [frm]
theorem j85 (l:List (List Int)) (i:Nat):(frm (l.take i)).length<=(frm l).length:=by
  have h:frm l=frm (l.take i)++frm (l.drop i):=by
    conv=>lhs;rw [←List.take_append_drop i l]
    exact List.flatMap_append
  rw [h,List.length_append];omega
theorem j86 {l:List (List Int)} {K:List Int->Prop} (hl:(frm l).length<=1000000000) (hn:l.length<=1000) (h:K (frm l)):Bz l K:=by
  unfold Bz
  refine fun _=>Lp2.ind (fun o i=> ∃j:Nat,i=(j:Int)/\j<=l.length/\o=frm (l.take j)) (fun _ i=>(l.length - i).toNat) ?_ ⟨0,rfl,by omega,rfl⟩
  rintro o i ⟨j,rfl,hj,rfl⟩
  refine Cnd.mk (fun hc=>⟨by omega,fun y hy=> ?_⟩) fun hc=> ?_
  · have hy:l[j]? =some y:=hy
    have hln:=j85 l (j+1)
    rw [j57 hy] at hln
    simp only [List.length_append,z81] at hln
    refine Lp2.ind (fun o k=> ∃q:Nat,k=7 - (q:Int)/\q<=8/\o=frm (l.take j)++hdr y.length q) (fun _ k=>(k+1).toNat) ?_ ⟨0,rfl,by omega,by simp [hdr]⟩
    rintro o k ⟨q,rfl,hq,rfl⟩
    refine Cnd.mk (fun hk _=>⟨by unfold InI;omega,by omega,?_,by unfold InI;omega,⟨q+1,by omega,by omega,?_⟩,by omega⟩) fun hk=>⟨?_,by unfold InI;omega,⟨j+1,by omega,by omega,?_⟩,by omega⟩
    · unfold Sml;simp only [List.length_append,z81,List.length_singleton];omega
    · rw [v2y,←List.append_assoc,show (8*(7 - (q:Int))).toNat=8*(7 - q) by omega];rfl
    · unfold Sml;simp only [List.length_append,z81];omega
    · rw [j57 hy,show q=8 by omega,List.append_assoc]
  · rw [show j=l.length by omega,List.take_length];exact h
theorem v0x {l:List (List Int)} {K:List Int->Prop} (hl:(frm l).length<=1000000000) (hn:l.length<=1000) (h:K (frm l)):z0q l K:=by
  unfold z0q
  refine Lp2.ind (fun o i=> ∃j:Nat,i=(j:Int)/\j<=l.length/\o=frm (l.take j)) (fun _ i=>(l.length - i).toNat) ?_ ⟨0,rfl,by omega,rfl⟩
  rintro o i ⟨j,rfl,hj,rfl⟩
  refine fun _=>Cnd.mk (fun hc=>⟨by omega,fun y hy _=> ?_⟩) fun hc=> ?_
  · have hy:l[j]? =some y:=hy
    have hln:=j85 l (j+1)
    rw [j57 hy] at hln
    simp only [List.length_append,z81] at hln
    refine Lp2.ind (fun o k=> ∃q:Nat,k=56 - 8*(q:Int)/\q<=8/\o=frm (l.take j)++hdr y.length q) (fun _ k=>(k+8).toNat) ?_ ⟨0,rfl,by omega,by simp [hdr]⟩
    rintro o k ⟨q,rfl,hq,rfl⟩
    refine Cnd.mk (fun hk=> ?_) fun hk=>⟨by omega,fun z hz=> ?_⟩
    · have e:56 - 8*(q:Int)=((8*(7 - q):Nat):Int):=by omega
      rw [e,j00 (by omega)]
      refine ⟨by omega,?_,by unfold InI;omega,⟨q+1,by omega,by omega,?_⟩,by omega⟩
      · unfold Sml;simp only [List.length_append,z81,List.length_singleton];omega
      · rw [v2y,←List.append_assoc,Int.toNat_natCast];rfl
    · have hz:l[j]? =some z:=hz
      rw [hy] at hz
      cases hz
      refine ⟨?_,by unfold InI;omega,⟨j+1,by omega,by omega,?_⟩,by omega⟩
      · unfold Sml;simp only [List.length_append,z81];omega
      · rw [j57 hy,show q=8 by omega,List.append_assoc]
  · rw [show j=l.length by omega,List.take_length];exact h
theorem v92 (a b:Int):0<=xr a b/\xr a b<18446744073709551616:=by
  unfold xr
  rw [j00 (BitVec.isLt _)]
  have:=(BitVec.ofInt 64 a ^^^ BitVec.ofInt 64 b).isLt
  omega
def ofV0 (salt key:ByteArray):Int:=(sumV 1 0 (frm [bytesOf salt,bytesOf key])).tmod 10000
theorem w4u (salt key:ByteArray):0<=ofV0 salt key/\ofV0 salt key<10000:=by
  have h: ∀s,0<=endV s:=fun s=>(v92 _ _).1
  have h0:0<=sumV 1 0 (frm [bytesOf salt,bytesOf key]):=h _
  exact ⟨Int.tmod_nonneg _ h0,Int.tmod_lt_of_pos _ (by decide)⟩
theorem v2z (a b:ByteArray):(frm [bytesOf a,bytesOf b]).length=a.size+b.size+16:=by
  have h: ∀a:ByteArray,(bytesOf a).length=a.size:=fun a=>by simp [bytesOf]
  simp only [frm,List.flatMap_cons,List.flatMap_nil,List.length_append,z81,h,List.length_nil]
  omega
theorem w4v {salt key:ByteArray} {K:Int->Prop} (hs:salt.size<=10000000) (hk:key.size<=10000000) (h:K (ofV0 salt key)):Gd salt key K:=by
  have hl:=v2z salt key
  have hr:=w4u salt key
  unfold Gd z73
  refine ⟨by unfold Sml;omega,by unfold Sml;omega,?_⟩
  show q16 1 [bytesOf salt,bytesOf key] _
  unfold q16 z1f
  refine j86 (by omega) (by simp) (w4t (by omega) ⟨by decide,?_,h⟩)
  exact InI.mk (Int.le_trans (by decide) hr.1) (Int.le_trans (Int.le_of_lt hr.2) (by decide))
theorem v5k {salt key:ByteArray} {K:Int->Prop} (hs:salt.size<=10000000) (hk:key.size<=10000000) (h:K (ofV0 salt key)):q8q salt key K:=by
  have hl:=v2z salt key
  have hr:=w4u salt key
  unfold q8q w3o
  refine ⟨by unfold Sml;omega,by unfold Sml;omega,?_⟩
  show z34 1 [bytesOf salt,bytesOf key] _
  unfold z34 j7q
  refine v0x (by omega) (by simp) (v91 (by omega) ⟨by decide,?_,h⟩)
  exact InI.mk (Int.le_trans (by decide) hr.1) (Int.le_trans (Int.le_of_lt hr.2) (by decide))
theorem exOf: ∃F:ByteArray->ByteArray->Int,(∀a b,0<=F a b/\F a b<10000)/\(∀(salt key:ByteArray) (K:Int->Prop),salt.size<=10000000->key.size<=10000000->K (F salt key)->Gd salt key K)/\
    ∀(salt key:ByteArray) (K:Int->Prop),salt.size<=10000000->key.size<=10000000->K (F salt key)->q8q salt key K:=
  ⟨ofV0,w4u,fun _ _ _ h1 h2 h=>w4v h1 h2 h,fun _ _ _ h1 h2 h=>v5k h1 h2 h⟩
def ofV:ByteArray->ByteArray->Int:=Classical.choose exOf
theorem v93 (salt key:ByteArray):0<=ofV salt key/\ofV salt key<10000:=(Classical.choose_spec exOf).1 salt key
theorem z44 {salt key:ByteArray} {K:Int->Prop} (hs:salt.size<=10000000) (hk:key.size<=10000000) (h:K (ofV salt key)):Gd salt key K:=(Classical.choose_spec exOf).2.1 salt key K hs hk h
theorem w7o {salt key:ByteArray} {K:Int->Prop} (hs:salt.size<=10000000) (hk:key.size<=10000000) (h:K (ofV salt key)):q8q salt key K:=(Classical.choose_spec exOf).2.2 salt key K hs hk h
end Go.En
end
noncomputable section
set_option maxRecDepth 100000
namespace Go.En
open Go Go.Fl Go.Fl.Lk Go.Fx
theorem w1x {α:Type} {a b:List α} (hl:a.length=b.length) {F:α->α->(Bool->Prop)->Prop} {K:Bool->Prop} (hF: ∀x∈a,∀y∈b,∀K:Bool->Prop,(∀r,(r=true↔x=y)->K r)->F x y K) (h: ∀r,(r=true↔a=b)->K r):
  Lp1 (fun i Y=>a.length<=9223372036854775807->Cnd (i<(a.length:Int)) ((0<=i/\i<(a.length:Int))/\ ∀x,a[i.toNat]? =some x->(0<=i/\i<(b.length:Int))/\ ∀y,b[i.toNat]? =some y->F x y fun r=>Cnd (r=true) (InI (i+1)/\Y (i+1)) (K false)) (K true)) 0:=by
 refine Lp1.ind (fun (i:Int)=>0<=i/\i<=a.length/\a.take i.toNat=b.take i.toNat) (fun (i:Int)=>(a.length - i).toNat) ?_ ⟨by omega,by omega,by simp⟩
 rintro i ⟨i0,i1,he⟩ _
 refine Cnd.mk (fun hc=>⟨by omega,fun x hx=>⟨by omega,fun y hy=>hF x (getm hx) y (getm hy) _ fun r hr=>Cnd.mk (fun hc=>⟨by unfold InI;omega,⟨by omega,by omega,?_⟩,by omega⟩) fun hc=>h _ ⟨fun h=>(by cases h),fun h=> ?_⟩⟩⟩) fun hc=>h _ ⟨fun _=> ?_,fun _=>rfl⟩
 ·rw [show (i+1).toNat=i.toNat+1 by omega,List.take_add_one,List.take_add_one,he,hx,hy,hr.1 hc]
 ·subst h;rw [hx] at hy;exact absurd (hr.2 (by cases hy;rfl)) hc
 ·rwa [List.take_of_length_le (by omega),List.take_of_length_le (by omega)] at he
theorem v5l {a b:List ByteArray} {K:Bool->Prop} (h: ∀r,(r=true↔a=b)->K r):z3j a b K:=by
 unfold z3j
 intro ha hb
 refine Cnd.mk (fun hl=> ?_) fun hl=>h _ ⟨fun h=>(by cases h),fun e=>by rw [e] at hl;exact absurd rfl hl⟩
 refine Lp1.ind (fun (i:Int)=>0<=i/\i<=a.length/\a.take i.toNat=b.take i.toNat) (fun (i:Int)=>(a.length - i).toNat) ?_ ⟨by omega,by omega,by simp⟩
 rintro i ⟨i0,i1,he⟩ _
 refine Cnd.mk (fun hc=>⟨by omega,fun x hx=>⟨by omega,fun y hy=>Cnd.mk (fun hc=>⟨by unfold InI;omega,⟨by omega,by omega,?_⟩,by omega⟩) fun hc=>h _ ⟨fun h=>(by cases h),fun h=> ?_⟩⟩⟩) fun hc=>h _ ⟨fun _=> ?_,fun _=>rfl⟩
 ·rw [show (i+1).toNat=i.toNat+1 by omega,List.take_add_one,List.take_add_one,he,hx,hy,hc]
 ·subst h;rw [hx] at hy;cases hy;exact absurd rfl hc
 ·rwa [List.take_of_length_le (by omega),List.take_of_length_le (by omega)] at he
theorem Ha {l:List ByteArray} {s:ByteArray} {K:Bool->Prop} (h: ∀r,(r=true↔s∈l)->K r):Gb l s K:=by
 unfold Gb
 refine Lp1.ind (fun (i:Int)=>0<=i/\i<=l.length/\s∉l.take i.toNat) (fun (i:Int)=>(l.length - i).toNat) ?_ ⟨by omega,by omega,by simp⟩
 rintro i ⟨i0,i1,he⟩ _
 refine Cnd.mk (fun hc=>⟨by omega,fun x hx=>Cnd.mk (fun e=>h _ ⟨fun _=>e▸getm hx,fun _=>rfl⟩) fun e=>⟨by unfold InI;omega,⟨by omega,by omega,?_⟩,by omega⟩⟩) fun hc=>h _ ⟨fun h=>(by cases h),fun hm=> ?_⟩
 ·rw [show (i+1).toNat=i.toNat+1 by omega,List.take_add_one,hx];simp [he,Ne.symm e]
 ·rw [List.take_of_length_le (by omega)] at he;exact absurd hm he
theorem z82 {a b:Val} {K:Bool->Prop} (h: ∀r,(r=true↔a=b)->K r):q3f a b K:=by
 unfold q3f j2e
 have no:(a≠b)->K false:=fun hn=>h _ ⟨fun h=>(by cases h),fun e=>absurd e hn⟩
 refine Cnd.mk (fun h1=>Cnd.mk (fun h2=>Cnd.mk (fun h3=>v5l fun r hr=>h r (hr.trans ⟨fun h4=> ?_,fun e=>by rw [e]⟩)) fun h=>no fun e=>h (by rw [e])) fun h=>no fun e=>h (by rw [e])) fun h=>no fun e=>h (by rw [e])
 cases a;cases b;simp_all
theorem j5a {a b:List Val} {K:Bool->Prop} (h: ∀r,(r=true↔a=b)->K r):Uo a b K:=by
 unfold Uo q67
 intro ha hb
 exact Cnd.mk (fun hl=>w1x (by omega) (fun x _ y _ K hK=>z82 hK) h) fun hl=>h _ ⟨fun h=>(by cases h),fun e=>by rw [e] at hl;exact absurd rfl hl⟩
theorem Jf {e:Ex}:Ex.mk e.op e.kind e.name e.values e.kids=e:=by cases e;rfl
theorem w0l: ∀(n:Nat) {a b:Ex} {K:Bool->Prop},ExS n a->(∀r,(r=true↔a=b)->K r)->Rz a b K:=by
 intro n a b K ha h X hX
 induction n using Nat.strongRecOn generalizing a b K with
 |_ n ih=>
 refine hX _ _ _ ?_
 unfold z1a
 have no:(a≠b)->K false:=fun hn=>h _ ⟨fun h=>(by cases h),fun e=>absurd e hn⟩
 refine Cnd.mk (fun h1=>Cnd.mk (fun h2=>Cnd.mk (fun h3=>j5a fun r hr=>Cnd.mk (fun hc _ _=>Cnd.mk (fun hl=> ?_) fun h=>no fun e=>h (by rw [e])) fun hc=>no fun e=>hc (hr.2 (by rw [e]))) fun h=>no fun e=>h (by rw [e])) fun h=>no fun e=>h (by rw [e])) fun h=>no fun e=>h (by rw [e])
 have h4:=hr.1 hc
 refine w1x (by omega) (fun x hx y _ K hK=> ?_) fun r hr=>h r (hr.trans ⟨fun h5=> ?_,fun e=>by rw [e]⟩)
 ·obtain ⟨m,hm,hk⟩:=ha.kid hx
  rw [Jf,Jf]
  exact ih m (by omega) hk hK
 ·cases a;cases b;simp_all
theorem j87 (n:Nat) {a b:Ex} {K:Bool->Prop} (ha:ExS n a) (h: ∀r,(r=true↔a=b)->K r):Rz (Ex.mk a.1 a.2 a.3 a.4 a.5) (Ex.mk b.1 b.2 b.3 b.4 b.5) K:=by
 rw [Jf,Jf];exact w0l n ha h
theorem j4e {n:Nat} {l:List Ex} {e:Ex} {K:Int->Prop} (hl: ∀x∈l,ExS n x) (h: ∀r:Int,(r= -1/\e∉l)∨(0<=r/\l[r.toNat]? =some e/\e∉l.take r.toNat)->K r):Uc l e K:=by
 unfold Uc z7s
 refine Lp1.ind (fun (i:Int)=>0<=i/\i<=l.length/\e∉l.take i.toNat) (fun (i:Int)=>(l.length - i).toNat) ?_ ⟨by omega,by omega,by simp⟩
 rintro i ⟨i0,i1,he⟩ _
 refine Cnd.mk (fun hc=>⟨by omega,fun x hx=>j87 n (hl x (getm hx)) fun r hr=>Cnd.mk (fun hc=>h _ (.inr ⟨i0,by rw [hx,hr.1 hc],he⟩)) fun hc=>⟨by unfold InI;omega,⟨by omega,by omega,?_⟩,by omega⟩⟩) fun hc=>h _ (.inl ⟨rfl,?_⟩)
 ·rw [show (i+1).toNat=i.toNat+1 by omega,List.take_add_one,hx]
  have:e≠x:=fun e=>hc (hr.2 e.symm)
  simp [he,this]
 ·rwa [List.take_of_length_le (by omega)] at he
theorem q1b {op:Int} {K:Bool->Prop} (h: ∀r,(r=true↔6<=op/\op<=15)->K r):Jm op K:=by
 unfold Jm
 exact Cnd.mk (fun h6=>h _ ⟨fun a=>⟨h6,of_decide_eq_true a⟩,fun a=>decide_eq_true a.2⟩) fun h6=>h _ ⟨fun a=>(by cases a),fun a=>absurd a.1 h6⟩
theorem v0y {now:Int} {K:Bool->Prop} (h: ∀r,(r=true↔0<=now/\now<=1099511627776)->K r):z0a now K:=by
 unfold z0a
 exact Cnd.mk (fun h6=>h _ ⟨fun a=>⟨h6,of_decide_eq_true a⟩,fun a=>decide_eq_true a.2⟩) fun h6=>h _ ⟨fun a=>(by cases a),fun a=>absurd a.1 h6⟩
theorem w7p {α:Type} {l:List α} {f:α->ByteArray} {key:ByteArray} {K:Int->Prop} (h: ∀r:Int,(r= -1/\ ∀x∈l,f x≠key)∨(0<=r/\r<l.length/\(∃x,l[r.toNat]? =some x/\f x=key)/\ ∀x∈l.take r.toNat,f x≠key)->K r):
  Lp1 (fun i Y=>l.length<=9223372036854775807->Cnd (i<(l.length:Int)) ((0<=i/\i<(l.length:Int))/\ ∀y,l[i.toNat]? =some y->Cnd (f y=key) (K i) (InI (i+1)/\Y (i+1))) (K (-1))) 0:=by
 refine Lp1.ind (fun (i:Int)=>0<=i/\i<=l.length/\ ∀x∈l.take i.toNat,f x≠key) (fun (i:Int)=>(l.length - i).toNat) ?_ ⟨by omega,by omega,by simp⟩
 rintro i ⟨i0,i1,he⟩ _
 refine Cnd.mk (fun hc=>⟨by omega,fun x hx=>Cnd.mk (fun e=>h _ (.inr ⟨i0,hc,⟨x,hx,e⟩,he⟩)) fun e=>⟨by unfold InI;omega,⟨by omega,by omega,?_⟩,by omega⟩⟩) fun hc=>h _ (.inl ⟨rfl,?_⟩)
 ·rw [show (i+1).toNat=i.toNat+1 by omega,List.take_add_one,hx]
  exact Zu he e
 ·rwa [List.take_of_length_le (by omega)] at he
def PlcS {α:Type} (l:List α) (f:α->ByteArray) (key:ByteArray) (r:Int):Prop:=(r= -1/\ ∀x∈l,f x≠key)∨(0<=r/\r<l.length/\(∃x,l[r.toNat]? =some x/\f x=key)/\ ∀x∈l.take r.toNat,f x≠key)
theorem q9x {v:Envt} {key:ByteArray} {K:Int->Prop} (h: ∀r,PlcS v.layers Lay_.key key r->K r):Vu v key K:=w7p h
theorem j01 {v:Envt} {key:ByteArray} {K:Int->Prop} (h: ∀r,PlcS v.flags Flg.key key r->K r):q09 v key K:=w7p h
theorem q35 {l:List Spn} {K:List Bool->Prop} (h: ∀b:List Bool,b.length=10000->K b):H1 l K:=by
 unfold H1
 refine ⟨⟨by decide,Int.le_refl _,by unfold Sml;decide⟩,Lp2.ind (fun (i:Int) (b:List Bool)=>0<=i/\i<=l.length/\b.length=10000) (fun (i:Int) _=>(l.length - i).toNat) ?_ ⟨by omega,by omega,by rw [List.length_replicate];decide⟩⟩
 rintro i b ⟨i0,i1,hb⟩ _
 refine Cnd.mk (fun hc=>⟨by omega,fun y hy=> ?_⟩) fun _=>h b hb
 refine Lp2.ind (fun (j:Int) (b:List Bool)=>0<=j/\b.length=10000) (fun (j:Int) _=>(10000 - j).toNat) ?_ ⟨by omega,hb⟩
 rintro j b ⟨j0,hb⟩
 refine ⟨by omega,fun z hz=>Cnd.mk (fun hc=>⟨by omega,fun u hu=>⟨by unfold InI;omega,⟨by omega,by simpa using hb⟩,by omega⟩⟩) fun _=>⟨by unfold InI;omega,⟨by omega,by omega,hb⟩,by omega⟩⟩
theorem q5f {b:List Bool} {K:List Spn->Prop} (hb:b.length<=10000) (h: ∀l,SpsS l->K l):J5 b K:=by
 unfold J5
 refine Lp2.ind (fun (l:List Spn) (i:Int)=>0<=i/\i<=b.length/\l.length<=i/\(∀s∈l,0<=s.lo/\s.lo<s.hi/\s.hi<=i)/\(0<i->b[(i - 1).toNat]? =some true->l≠[])) (fun _ (i:Int)=>(b.length - i).toNat) ?_ ⟨by omega,by omega,by simp,by simp,by omega⟩
 rintro l i ⟨i0,i1,hl,hs,hn⟩ _
 refine Cnd.mk (fun hc=>⟨by omega,fun y hy=>Cnd.mk (fun ht=> ?_) fun hf=> ?_⟩) fun _=>h l ⟨by omega,fun s hm=>by have:=hs s hm;omega⟩
 ·have snoc:InI (i+1)/\Sml (l++[Spn.mk i (i+1)]).length/\InI (i+1)/\((0<=i+1/\i+1<=b.length/\((l++[Spn.mk i (i+1)]).length:Int)<=i+1/\(∀s∈l++[Spn.mk i (i+1)],0<=s.lo/\s.lo<s.hi/\s.hi<=i+1)/\(0<i+1->b[(i+1 - 1).toNat]? =some true->l++[Spn.mk i (i+1)]≠[]))/\(b.length - (i+1)).toNat<(b.length - i).toNat):=
   ⟨by unfold InI;omega,by unfold Sml;simp;omega,by unfold InI;omega,⟨by omega,by omega,by simp;omega,Zu (fun s hm=>by have:=hs s hm;omega) ⟨i0,by simp only;omega,by simp⟩,fun _ _=>by simp⟩,by omega⟩
  refine Cnd.mk (fun hp=>⟨by unfold InI;omega,by omega,fun z hz=>Cnd.mk (fun hz1=> ?_) fun _=>snoc⟩) fun _=>snoc
  have hne:=hn hp (by rw [hz,hz1])
  have hpos:0<l.length:=List.length_pos_iff.2 hne
  refine fun _=>⟨by unfold InI;omega,by unfold InI;omega,by omega,fun u hu=>⟨by unfold InI;omega,⟨by omega,by omega,by simp;omega,fun s hm=> ?_,fun _ _ hx=> ?_⟩,by omega⟩⟩
  ·have:=hs u (getm hu)
   rcases List.mem_or_eq_of_mem_set hm with hm|rfl
   ·have:=hs s hm;omega
   ·exact ⟨this.1,by simp only;omega,by simp⟩
  ·exact hne (by rw [←List.length_eq_zero_iff] at hx⊢;simpa using hx)
 ·refine ⟨by unfold InI;omega,⟨by omega,by omega,by omega,fun s hm=>by have:=hs s hm;omega,fun _ hx=> ?_⟩,by omega⟩
  rw [show (i+1 - 1).toNat=i.toNat by omega,hy] at hx
  cases hx;exact absurd rfl hf
theorem z2x {l:List Col} {now:Int} {K:List Int->Prop} (h: ∀b:List Int,b.length=10000->K b):H0 l now K:=by
 unfold H0
 refine ⟨⟨by decide,Int.le_refl _,by unfold Sml;decide⟩,Lp2.ind (fun (i:Int) (b:List Int)=>0<=i/\i<=10000/\b.length=10000) (fun (i:Int) _=>(10000 - i).toNat) ?_ ⟨by omega,by omega,by rw [List.length_replicate];decide⟩⟩
 rintro i b ⟨i0,i1,hb⟩ _
 refine Cnd.mk (fun hc=>⟨by omega,fun y hy=>⟨by unfold InI;omega,⟨by omega,by omega,by simpa using hb⟩,by omega⟩⟩) fun _=> ?_
 refine Lp2.ind (fun (i:Int) (b:List Int)=>0<=i/\i<=l.length/\b.length=10000) (fun (i:Int) _=>(l.length - i).toNat) ?_ ⟨by omega,by omega,hb⟩
 rintro i b ⟨i0,i1,hb⟩ _
 refine Cnd.mk (fun hc=>⟨by omega,fun y hy=> ?_⟩) fun _=>h b hb
 refine Lp2.ind (fun (j:Int) (b:List Int)=>0<=j/\b.length=10000) (fun (j:Int) _=>(10000 - j).toNat) ?_ ⟨by omega,hb⟩
 rintro j b ⟨j0,hb⟩
 refine ⟨by omega,fun z hz=>Cnd.mk (fun hc=>⟨by omega,fun u hu=>⟨by omega,fun w hw=>⟨by omega,fun x hx=>⟨by unfold InI;omega,⟨by omega,by simpa using hb⟩,by omega⟩⟩⟩⟩) fun _=>⟨by unfold InI;omega,⟨by omega,by omega,hb⟩,by omega⟩⟩
theorem z45 {u:List Int} {now:Int} {K:List Spn->Prop} (hu:u.length<=10000) (h: ∀l,SpsS l->K l):q7b u now K:=by
 unfold q7b z7t
 refine fun _=>⟨⟨by omega,Int.le_refl _,by unfold Sml;omega⟩,Lp2.ind (fun (i:Int) (b:List Bool)=>0<=i/\i<=u.length/\b.length=u.length) (fun (i:Int) _=>(u.length - i).toNat) ?_ ⟨by omega,by omega,by simp⟩⟩
 rintro i b ⟨i0,i1,hb⟩ _
 exact Cnd.mk (fun hc=>⟨by omega,fun y hy=>⟨by omega,fun z hz=>⟨by unfold InI;omega,⟨by omega,by omega,by simpa using hb⟩,by omega⟩⟩⟩) fun _=>q5f (by omega) h
theorem q80 {a b:List Spn} {K:List Spn->Prop} (h: ∀l,SpsS l->K l):q7d a b K:=by
 unfold q7d z7u
 refine q35 fun x hx=>q35 fun y hy=>Lp2.ind (fun (i:Int) (b:List Bool)=>0<=i/\i<=10000/\b.length=10000) (fun (i:Int) _=>(10000 - i).toNat) ?_ ⟨by omega,by omega,hx⟩
 rintro i b ⟨i0,i1,hb⟩ _
 exact Cnd.mk (fun hc=>⟨by omega,fun y hy=>Cnd.mk (fun _=>⟨by omega,fun _ _=>⟨by unfold InI;omega,⟨by omega,by omega,by simpa using hb⟩,by omega⟩⟩) fun _=>⟨by omega,fun _ _=>⟨by omega,fun _ _=>⟨by unfold InI;omega,⟨by omega,by omega,by simpa using hb⟩,by omega⟩⟩⟩⟩) fun _=>q5f (by omega) h
theorem j4f {a b:List Spn} {K:List Spn->Prop} (h: ∀l,SpsS l->K l):q0l a b K:=by
 unfold q0l z7w
 refine q35 fun x hx=>q35 fun y hy=>Lp2.ind (fun (i:Int) (b:List Bool)=>0<=i/\i<=10000/\b.length=10000) (fun (i:Int) _=>(10000 - i).toNat) ?_ ⟨by omega,by omega,hx⟩
 rintro i b ⟨i0,i1,hb⟩ _
 exact Cnd.mk (fun hc=>⟨by omega,fun y hy=>Cnd.mk (fun _=>⟨by omega,fun _ _=>⟨by omega,fun _ _=>⟨by unfold InI;omega,⟨by omega,by omega,by simpa using hb⟩,by omega⟩⟩⟩) fun _=>⟨by omega,fun _ _=>⟨by unfold InI;omega,⟨by omega,by omega,by simpa using hb⟩,by omega⟩⟩⟩) fun _=>q5f (by omega) h
theorem w4w {a b:List Spn} {K:List Spn->Prop} (h: ∀l,SpsS l->K l):q44 a b K:=by
 unfold q44 z3x
 refine q35 fun x hx=>q35 fun y hy=>Lp2.ind (fun (i:Int) (b:List Bool)=>0<=i/\i<=10000/\b.length=10000) (fun (i:Int) _=>(10000 - i).toNat) ?_ ⟨by omega,by omega,hx⟩
 rintro i b ⟨i0,i1,hb⟩ _
 exact Cnd.mk (fun hc=>⟨by omega,fun y hy=>Cnd.mk (fun _=>⟨by omega,fun _ _=>⟨by omega,fun _ _=>⟨by unfold InI;omega,⟨by omega,by omega,by simpa using hb⟩,by omega⟩⟩⟩) fun _=>⟨by omega,fun _ _=>⟨by unfold InI;omega,⟨by omega,by omega,by simpa using hb⟩,by omega⟩⟩⟩) fun _=>q5f (by omega) h
theorem w7q {a:List Spn} {n:Int} {K:List Spn->Prop} (hn: -1000000<=n/\n<=1000000) (h: ∀l,SpsS l->K l):q7h a n K:=by
 unfold q7h z7x
 refine q35 fun x hx=>Lp3.ind (fun (m i:Int) (b:List Bool)=>0<=i/\i<=10000/\b.length=10000/\ -1000000 - i<=m/\m<=1000000) (fun _ (i:Int) _=>(10000 - i).toNat) ?_ ⟨by omega,by omega,hx,by omega,by omega⟩
 rintro m i b ⟨i0,i1,hb,m0,m1⟩ _
 refine Cnd.mk (fun hc=>⟨by omega,fun y hy=> ?_⟩) fun _=>q5f (by omega) h
 have step:(0<=i/\i<(b.length:Int))/\ ∀y5,b[i.toNat]? =some y5->Cnd (y5=true) (InI (m - 1)/\InI (i+1)/\((0<=i+1/\i+1<=10000/\b.length=10000/\ -1000000 - (i+1)<=m - 1/\m - 1<=1000000)/\(10000 - (i+1)).toNat<(10000 - i).toNat)) (InI (i+1)/\((0<=i+1/\i+1<=10000/\b.length=10000/\ -1000000 - (i+1)<=m/\m<=1000000)/\(10000 - (i+1)).toNat<(10000 - i).toNat)):=
  ⟨by omega,fun _ _=>Cnd.mk (fun _=>⟨by unfold InI;omega,by unfold InI;omega,by omega,by omega⟩) fun _=>⟨by unfold InI;omega,by omega,by omega⟩⟩
 exact Cnd.mk (fun _=>Cnd.mk (fun _=>⟨by omega,fun _ _=>⟨by unfold InI;omega,⟨by omega,by omega,by simpa using hb,by omega,by omega⟩,by omega⟩⟩) fun _=>step) fun _=>step
theorem y7h (n:Int):0<=Go.IntKind.u8.wrap n/\Go.IntKind.u8.wrap n<=255:=by
 have e:Go.IntKind.u8.wrap n=n % 256:=rfl
 rw [e];omega
theorem v5m {s:ByteArray} {K:Bool->Prop} (hs:s.size<=1000) (h: ∀r,K r):z3n s K:=by
 unfold z3n
 refine Lp1.ind (fun (i:Int)=>0<=i/\i<=s.size) (fun (i:Int)=>(s.size - i).toNat) ?_ ⟨by omega,by omega⟩
 rintro i ⟨i0,i1⟩
 (repeat' (first|exact h _|assumption|(unfold InI;omega)|omega|refine Cnd.mk (fun _=> ?_) fun _=> ?_|refine ⟨?_,?_⟩|intro _))
theorem v5n {e:Ex} {K:Bool->Prop} (h: ∀r,K r):z3p e K:=by
 unfold z3p
 (repeat' (first|exact h _|assumption|(unfold InI;omega)|omega|refine Cnd.mk (fun _=> ?_) fun _=> ?_|refine ⟨?_,?_⟩|intro _))
theorem w7r {e:Ex} {K:Bool->Prop} (h: ∀r:Bool,(r=true->9<=e.op->e.op<=11->e.values≠[])->K r):q7j e K:=by
 unfold q7j z7y
 intro _ _
 refine Jn2.mk (fun _ v=>v=true->9<=e.op->e.op<=11->e.values.length=1) ?_ fun k v hv=> ?_
 ·refine Cnd.mk (fun _ _ _ _ _=>by omega) fun _=>Cnd.mk (fun _ _ _ _ _=>by omega) fun _=>Cnd.mk (fun _ _ _ _ _=>by omega) fun _=>Cnd.mk (fun _ _ _ _ _=>by omega) fun _=>q1b fun r hr=>Cnd.mk (fun _=>Cnd.mk (fun _ _ _ _=>by omega) fun _ _ hd _ _=>by have:=of_decide_eq_true hd;omega) fun hc _ h1 h2=>absurd (hr.2 ⟨by omega,by omega⟩) hc
 ·have no:K false:=h _ fun h=>by cases h
  refine q1b fun r _=>Cnd.mk (fun _=>Cnd.mk (fun hv'=> ?_) fun _=>no) fun _=>no
  have yes: ∀r,K r:=fun r=>h r fun _ h1 h2 hn=>by have:=hv hv' h1 h2;rw [hn] at this;cases this
  (repeat' (first|exact yes _|exact no|assumption|(unfold InI;omega)|omega|refine Cnd.mk (fun _=> ?_) fun _=> ?_|refine ⟨?_,?_⟩|intro _))
theorem v0z {v:Val} {K:Bool->Prop} (h: ∀r,K r):q3h v K:=by
 unfold q3h
 (repeat' (first|exact h _|assumption|(unfold InI;omega)|omega|refine Cnd.mk (fun _=> ?_) fun _=> ?_|refine ⟨?_,?_⟩|intro _))
theorem j88 {l:List Rng} {n:Int} {K:Int->Prop} (h: ∀r,0<=r->r<=100->K r):q3i l n K:=by
 unfold q3i
 intro _
 refine Cnd.mk (fun _=>h _ (by omega) (by omega)) fun _=> ?_
 refine Lp2.ind (fun _ (i:Int)=>0<=i/\i<=l.length) (fun _ (i:Int)=>(l.length - i).toNat) ?_ ⟨by omega,by omega⟩
 rintro a i ⟨i0,i1⟩
 (repeat' (first|exact h _ (by omega) (by omega)|assumption|(unfold InI;omega)|omega|refine Cnd.mk (fun _=> ?_) fun _=> ?_|refine ⟨?_,?_⟩|intro _))
theorem v00 {l:List Spn} {K:Int->Prop} (h: ∀r,0<=r->r<=100->K r):z0k l K:=by
 unfold z0k
 intro _
 refine Cnd.mk (fun _=>h _ (by omega) (by omega)) fun _=> ?_
 refine Lp1.ind (fun (i:Int)=>0<=i/\i<=l.length) (fun (i:Int)=>(l.length - i).toNat) ?_ ⟨by omega,by omega⟩
 rintro i ⟨i0,i1⟩
 (repeat' (first|exact h _ (by omega) (by omega)|assumption|(unfold InI;omega)|omega|refine Cnd.mk (fun _=> ?_) fun _=> ?_|refine ⟨?_,?_⟩|intro _))
theorem w7s {α:Type} {l:List α} {f:α->ByteArray} {K:List ByteArray->Prop} (hl:l.length<=1000000) (h:K (l.map f)):
  Lp2 (fun (r:List ByteArray) (i:Int) Y=>l.length<=9223372036854775807->Cnd (i<(l.length:Int)) ((0<=i/\i<(l.length:Int))/\ ∀y,l[i.toNat]? =some y->Sml (r++[f y]).length/\InI (i+1)/\Y (r++[f y]) (i+1)) (K r)) [] 0:=by
 refine Lp2.ind (fun (r:List ByteArray) (i:Int)=>0<=i/\i<=l.length/\r=(l.take i.toNat).map f) (fun _ (i:Int)=>(l.length - i).toNat) ?_ ⟨Int.le_refl 0,by omega,by simp⟩
 rintro r i ⟨i0,i1,rfl⟩ _
 refine Cnd.mk (fun hc=>⟨by omega,fun y hy=>⟨by unfold Sml;simp;omega,by unfold InI;omega,⟨by omega,by omega,?_⟩,by omega⟩⟩) fun hc=> ?_
 ·rw [show (i+1).toNat=i.toNat+1 by omega,List.take_add_one,hy];simp
 ·rw [List.take_of_length_le (by omega)];exact h
theorem z2e {l:List Seg} {K:List ByteArray->Prop} (hl:l.length<=1000000) (h:K (l.map Seg.key)):R1 l K:=w7s hl h
theorem y3z {i:Nat}:(29:Int)*10 ^ (i+1)=10*(29*10 ^ i):=by rw [Int.pow_succ];omega
theorem j3n {s:ByteArray} {K:Int->Int->Prop} (hs:s.size<=1000) (h: ∀n e,InI n->0<=e->e<=100->K n e):J0 s K:=by
 unfold J0
 refine Jn1.mk (fun d=>d.size<=1000) ?_ fun d hd=> ?_
 ·(repeat' (first|(show (s.extract _ _).size<=1000;rw [ByteArray.size_extract];omega)|assumption|(unfold InI;omega)|omega|refine Cnd.mk (fun _=> ?_) fun _=> ?_|refine ⟨?_,?_⟩|intro _))
 refine Lp1.ind (fun (i:Int)=>0<=i/\i<=d.size) (fun (i:Int)=>(d.size - i).toNat) ?_ ⟨by omega,by omega⟩
 rintro i ⟨i0,i1⟩
 have fin:d.size<=13->Lp2 (fun (Qf J1:Int) w8k=>Cnd (J1<(↑d.size:Int)) (InI ((10:Int)*Qf)/\((0:Int)<=J1/\J1<(↑d.size:Int))/\ ∀b5,d[J1.toNat]? =some b5->InI (Go.IntKind.u8.wrap ((↑b5.toNat:Int) - (48:Int)))/\InI ((10:Int)*Qf+Go.IntKind.u8.wrap ((↑b5.toNat:Int) - (48:Int)))/\InI (J1+(1:Int))/\w8k ((10:Int)*Qf+Go.IntKind.u8.wrap ((↑b5.toNat:Int) - (48:Int))) (J1+(1:Int))) (Cnd ((1099511627776:Int)<Qf) (K (0:Int) (3:Int)) (Cnd ((↑d.size:Int)<(↑s.size:Int)) (InI ((0:Int) - Qf)/\K ((0:Int) - Qf) (0:Int)) (K Qf (0:Int))))) (0:Int) (0:Int):=fun h13=>by
  refine Lp2.ind (fun (n j:Int)=>0<=j/\j<=d.size/\0<=n/\n+29<=29*10 ^ j.toNat) (fun _ (j:Int)=>(d.size - j).toNat) ?_ ⟨by omega,by omega,by omega,by simp⟩
  rintro n j ⟨j0,j1,n0,n1⟩
  have hp:(10:Int) ^ j.toNat<=10 ^ 13:=by
   have:=Nat.pow_le_pow_right (n:=10) (by decide) (show j.toNat<=13 by omega)
   exact_mod_cast this
  refine Cnd.mk (fun hc=>⟨by unfold InI;omega,by omega,fun b _=> ?_⟩) fun hc=> ?_
  ·obtain ⟨w0,w1⟩:=y7h ((b.toNat:Int) - 48)
   refine ⟨by unfold InI;omega,by unfold InI;omega,by unfold InI;omega,⟨by omega,by omega,by omega,?_⟩,by omega⟩
   rw [show (j+1).toNat=j.toNat+1 by omega,y3z];omega
  ·exact Cnd.mk (fun _=>h _ _ (by unfold InI;omega) (by omega) (by omega)) fun _=>Cnd.mk (fun _=>⟨by unfold InI;omega,h _ _ (by unfold InI;omega) (by omega) (by omega)⟩) fun _=>h _ _ (by unfold InI;omega) (by omega) (by omega)
 have k1:=h 0 1 (by unfold InI;omega) (by omega) (by omega)
 have k3:=h 0 3 (by unfold InI;omega) (by omega) (by omega)
 refine Cnd.mk (fun hc=>⟨by omega,fun b hb=>Cnd.mk (fun _=>k1) fun _=>⟨by omega,fun b' hb'=>Cnd.mk (fun _=>k1) fun _=>⟨by unfold InI;omega,by omega,by omega⟩⟩⟩) fun _=> ?_
 refine Cnd.mk (fun _=>k1) fun he=>⟨⟨by omega,?_⟩,fun b hb=>Cnd.mk (fun _=>Cnd.mk (fun _=>Cnd.mk (fun _=>k3) fun _=>fin (by omega)) fun _=>k1) fun _=>Cnd.mk (fun _=>k3) fun _=>fin (by omega)⟩
 refine Int.not_le.1 fun hn=>he ?_
 have:d.size=0:=by omega
 exact ByteArray.ext (Array.eq_empty_of_size_eq_zero this)
theorem v5o {t:Int} {e:Ex} {K:Bool->Prop} (h: ∀r,K r):q7p t e K:=by
 unfold q7p
 refine Cnd.mk (fun _=>h _) fun _=>Cnd.mk (fun _=> ?_) fun _ _=>Cnd.mk (fun _=>h _) fun _=>⟨by omega,fun y hy=>Cnd.mk (fun _=>h _) fun _=>Jn1.mk (fun _=>True) ?_ fun x _=> ?_⟩
 ·refine Lp1.ind (fun (i:Int)=>0<=i/\i<=e.values.length) (fun (i:Int)=>(e.values.length - i).toNat) ?_ ⟨by omega,by omega⟩
  rintro i ⟨i0,i1⟩
  (repeat' (first|exact h _|assumption|(unfold InI;omega)|omega|refine Cnd.mk (fun _=> ?_) fun _=> ?_|refine ⟨?_,?_⟩|intro _))
 ·(repeat' (first|exact trivial|assumption|(unfold InI;omega)|omega|refine Cnd.mk (fun _=> ?_) fun _=> ?_|refine ⟨?_,?_⟩|intro _))
 ·(repeat' (first|exact h _|assumption|(unfold InI;omega)|omega|refine Cnd.mk (fun _=> ?_) fun _=> ?_|refine ⟨?_,?_⟩|intro _))
theorem j89 {v:Envt} {K:List ByteArray->Prop} (hl:v.flags.length<=1000000) (h:K (v.flags.map Flg.key)):q4c v K:=w7s hl h
def z2f (f:Flg):List Edg:=f.needs.map fun q=>Edg.mk f.key q.flag
theorem j5b {v:Envt} {K:List Edg->Prop} (hl:v.flags.length<=1000) (hn: ∀f∈v.flags,f.needs.length<=1000) (h:K (v.flags.flatMap z2f)):Rd v K:=by
 unfold Rd
 have hb: ∀l:List Flg,(∀f∈l,f.needs.length<=1000)->(l.flatMap z2f).length<=1000*l.length:=by
  intro l
  induction l with
  |nil=>simp
  |cons f l ih=>intro hf;have h1:=hf f (by simp);have h2:=ih fun g hg=>hf g (by simp [hg]);simp only [List.flatMap_cons,List.length_append,z2f,List.length_map,List.length_cons] at*;omega
 refine Lp2.ind (fun (r:List Edg) (i:Int)=>0<=i/\i<=v.flags.length/\r=(v.flags.take i.toNat).flatMap z2f) (fun _ (i:Int)=>(v.flags.length - i).toNat) ?_ ⟨Int.le_refl 0,by omega,by simp⟩
 rintro r i ⟨i0,i1,rfl⟩ _
 refine Cnd.mk (fun hc=> ?_) fun hc=> ?_
 ·obtain ⟨f,hf⟩: ∃f,v.flags[i.toNat]? =some f:=⟨_,List.getElem?_eq_getElem (by omega)⟩
  have hfn:=hn f (getm hf)
  have hbt:=hb (v.flags.take i.toNat) fun g hg=>hn g (List.mem_of_mem_take hg)
  rw [List.length_take] at hbt
  refine Lp2.ind (fun (r:List Edg) (j:Int)=>0<=j/\j<=f.needs.length/\r=(v.flags.take i.toNat).flatMap z2f++(f.needs.take j.toNat).map fun q=>Edg.mk f.key q.flag) (fun _ (j:Int)=>(f.needs.length - j).toNat) ?_ ⟨by omega,by omega,by simp⟩
  rintro r j ⟨j0,j1,rfl⟩
  refine ⟨by omega,fun g hg=> ?_⟩
  rw [hf] at hg;cases hg
  refine fun _=>Cnd.mk (fun hc=>⟨by omega,fun g hg=> ?_⟩) fun hc=>⟨by unfold InI;omega,⟨by omega,by omega,?_⟩,by omega⟩
  ·rw [hf] at hg;cases hg
   refine ⟨by omega,fun g hg=> ?_⟩
   rw [hf] at hg;cases hg
   refine ⟨by omega,fun q hq=>⟨?_,by unfold InI;omega,⟨by omega,by omega,?_⟩,by omega⟩⟩
   ·unfold Sml;simp only [List.length_append,List.length_map,List.length_take,List.length_cons,List.length_nil];omega
   ·rw [show (j+1).toNat=j.toNat+1 by omega,List.take_add_one,hq];simp
  ·rw [List.take_of_length_le (show f.needs.length<=j.toNat by omega),show (i+1).toNat=i.toNat+1 by omega,List.take_add_one,hf];simp [z2f]
 ·rw [List.take_of_length_le (by omega)];exact h
end Go.En
end
noncomputable section
set_option maxRecDepth 100000
namespace Go.Sg
open Go
abbrev bts (s:ByteArray):List UInt8:=s.data.toList
theorem Gn (s:ByteArray):(bts s).length=s.size:=rfl
theorem q36 {s:ByteArray} {i:Nat} {b:UInt8}:s[i]? =some b↔(bts s)[i]? =some b:=by
 rw [show s[i]? =s.data[i]? from by
  by_cases h:i<s.size
  ·rw [getElem?_pos s i h,getElem?_pos s.data i h];rfl
  ·rw [getElem?_neg s i h,getElem?_neg s.data i h]]
 rw [Array.getElem?_toList]
theorem get!_of {s:ByteArray} {i:Nat} (h:i<s.size):(bts s)[i]? =some (s.get! i):=by
 have h':i<s.data.size:=h
 show s.data.toList[i]? =some (s.data[i]!)
 rw [Array.getElem?_toList,Array.getElem?_eq_getElem h',getElem!_pos s.data i h']
theorem v94 {s:ByteArray} {i:Nat} (h:(s.get! i).toNat<128):Utf8.decode s i=((s.get! i).toNat,1):=by
 unfold Utf8.decode
 simp only [Nat.add_zero]
 rw [if_pos h]
theorem v95 {s:ByteArray} {i:Nat} (h:128<=(s.get! i).toNat):128<=(Utf8.decode s i).1/\1<=(Utf8.decode s i).2/\ ∀k,k<(Utf8.decode s i).2->128<=(s.get! (i+k)).toNat:=by
 have k1: ∀k,k<1->128<=(s.get! (i+k)).toNat:=fun k hk=>by rw [show k=0 by omega];exact h
 have bad:128<=(Utf8.runeError,1).1/\1<=(Utf8.runeError,1).2/\ ∀k,k<(Utf8.runeError,1).2->128<=(s.get! (i+k)).toNat:=⟨by decide,by decide,k1⟩
 unfold Utf8.decode
 simp only [Nat.add_zero]
 rw [if_neg (by omega)]
 split
 ·rename_i hc
  simp only [Bool.and_eq_true,beq_iff_eq,decide_eq_true_eq] at hc
  split
  ·rename_i h2
   refine ⟨h2,by simp,fun k hk=> ?_⟩
   have:k=0∨k=1:=by simp only at hk;omega
   rcases this with rfl|rfl
   ·exact h
   ·omega
  ·exact bad
 ·split
  ·rename_i _ hc
   simp only [Bool.and_eq_true,beq_iff_eq,decide_eq_true_eq] at hc
   split
   ·rename_i h2
    simp only [Bool.and_eq_true,decide_eq_true_eq] at h2
    refine ⟨by simp only;omega,by simp,fun k hk=> ?_⟩
    have:k=0∨k=1∨k=2:=by simp only at hk;omega
    rcases this with rfl|rfl|rfl
    ·exact h
    ·omega
    ·omega
   ·exact bad
  ·split
   ·rename_i _ _ hc
    simp only [Bool.and_eq_true,beq_iff_eq,decide_eq_true_eq] at hc
    split
    ·rename_i h2
     simp only [Bool.and_eq_true,decide_eq_true_eq] at h2
     refine ⟨by simp only;omega,by simp,fun k hk=> ?_⟩
     have:k=0∨k=1∨k=2∨k=3:=by simp only at hk;omega
     rcases this with rfl|rfl|rfl|rfl
     ·exact h
     ·omega
     ·omega
     ·omega
    ·exact bad
   ·exact bad
structure RuneP (p:Nat->Prop):Prop where
 hi: ∀n,128<=n->(p n↔p 128)
def Clr (p:Nat->Prop) (s:ByteArray) (k:Nat):Prop:= ∀i,i<k->i<s.size-> ¬p (s.get! i).toNat
theorem Clr.zero {p:Nat->Prop} {s:ByteArray}:Clr p s 0:=fun _ h=>absurd h (Nat.not_lt_zero _)
theorem v96 (s:ByteArray) (k:Nat):1<=(Utf8.decode s k).2:=by
 rcases Nat.lt_or_ge (s.get! k).toNat 128 with h|h
 ·rw [v94 h];exact Nat.le_refl 1
 ·exact (v95 h).2.1
theorem Clr.step {p:Nat->Prop} (hp:RuneP p) {s:ByteArray} {k:Nat} (h:Clr p s k) (hk: ¬p (Utf8.decode s k).1):Clr p s (k+(Utf8.decode s k).2):=by
 intro i hi hs
 rcases Nat.lt_or_ge i k with h1|h1
 ·exact h i h1 hs
 rcases Nat.lt_or_ge (s.get! k).toNat 128 with h2|h2
 ·rw [v94 h2] at hk hi
  simp only at hk hi
  rw [show i=k by omega];exact hk
 ·obtain ⟨a,_,c⟩:=v95 h2
  have:=c (i - k) (by omega)
  rw [show k+(i - k)=i by omega] at this
  rw [hp.hi _ this,←hp.hi _ a];exact hk
theorem j58 {p:Nat->Prop} (hp:RuneP p) {s:ByteArray} {k:Nat} (hk:p (Utf8.decode s k).1):p (s.get! k).toNat:=by
 rcases Nat.lt_or_ge (s.get! k).toNat 128 with h2|h2
 ·rw [v94 h2] at hk;exact hk
 ·rw [hp.hi _ h2,←hp.hi _ (v95 h2).1];exact hk
theorem Clr.all {p:Nat->Prop} {s:ByteArray} {k:Nat} (h:Clr p s k) (hk:s.size<=k): ∀c∈bts s,¬p c.toNat:=by
 intro c hc
 obtain ⟨i,hi⟩:=List.mem_iff_getElem?.1 hc
 have hl:i<s.size:=(List.getElem?_eq_some_iff.1 hi).1
 have:=get!_of hl
 rw [hi] at this
 cases this
 exact h i (by omega) hl
theorem j3o {s:ByteArray} {k:Nat} (h:k<s.size):s.get! k∈bts s:=List.mem_of_getElem? (get!_of h)
def good (c:UInt8):Bool:=decide (32<=c.toNat) && decide (c.toNat≠127)
def vld (s:ByteArray):Bool:=decide (s.size<=200) && Go.Lib.validD (bts s) && (bts s).all good
def isD (c:UInt8):Bool:=decide (48<=c.toNat) && decide (c.toNat<=57)
def z6s (n:Nat) (c:UInt8):Nat:=10*n+(c.toNat - 48)
def valD (n:Nat) (l:List UInt8):Nat:=l.foldl z6s n
def digs (s:ByteArray):ByteArray:=if s[0]? =some 45 then s.extract 1 s.size else s
def pnum (s:ByteArray):Int×Int:=
 if (bts (digs s)).all isD=false then (0,1)
 else if (digs s).size=0∨((digs s)[0]? =some 48/\s≠ByteArray.mk (Array.mk [48])) then (0,1)
 else if 1099511627776<valD 0 (bts (digs s)) then (0,3)
 else (if (digs s).size<s.size then -(valD 0 (bts (digs s)):Int) else valD 0 (bts (digs s)),0)
theorem v22 (n:Nat):valD n []=n:=rfl
theorem j02 (n:Nat) (c:UInt8) (l:List UInt8):valD n (c::l)=valD (z6s n c) l:=List.foldl_cons ..
theorem v97 (n:Nat) (l:List UInt8) (c:UInt8):valD n (l++[c])=z6s (valD n l) c:=by
 unfold valD;rw [List.foldl_append];rfl
theorem v01: ∀(l:List UInt8) (n:Nat),n*10 ^ l.length<=valD n l
 |[],n=>by simp [valD]
 |c::l,n=>by
  rw [j02,List.length_cons]
  refine Nat.le_trans ?_ (v01 l (z6s n c))
  rw [Nat.pow_succ,Nat.mul_comm (10 ^ l.length) 10,←Nat.mul_assoc]
  exact Nat.mul_le_mul_right _ (by unfold z6s;omega)
theorem v98: ∀(l:List UInt8) (n:Nat),l.all isD=true->valD n l<(n+1)*10 ^ l.length
 |[],n,_=>by simp [valD]
 |c::l,n,h=>by
  simp only [List.all_cons,Bool.and_eq_true] at h
  rw [j02,List.length_cons]
  refine Nat.lt_of_lt_of_le (v98 l (z6s n c) h.2) ?_
  have h1:=h.1
  simp only [isD,Bool.and_eq_true,decide_eq_true_eq] at h1
  rw [Nat.pow_succ,Nat.mul_comm (10 ^ l.length) 10,←Nat.mul_assoc]
  exact Nat.mul_le_mul_right _ (by unfold z6s;omega)
theorem v99: ∀(l:List UInt8) (n:Nat),n<=valD n l:=fun l n=>Nat.le_trans (by
 have:0<10 ^ l.length:=Nat.pow_pos (by decide)
 exact Nat.le_mul_of_pos_right n this) (v01 l n)
theorem j4g: ∀(l:List UInt8) (n:Nat),l.all isD=true->Go.Lib.parseUint10 n l=(if valD n l<18446744073709551616/\n<18446744073709551616 then .ok (valD n l) else if l=[] then .ok n else .range)
 |[],n,_=>by
  unfold Go.Lib.parseUint10
  rw [v22]
  split<;>simp
 |c::l,n,h=>by
  simp only [List.all_cons,Bool.and_eq_true] at h
  have h1:=h.1
  simp only [isD,Bool.and_eq_true,decide_eq_true_eq] at h1
  have ih:=j4g l (z6s n c) h.2
  have hs:=v99 l (z6s n c)
  have es:z6s n c=10*n+(c.toNat - 48):=rfl
  have e:n*10+(c.toNat - 48)=z6s n c:=by omega
  have hne: ¬(c::l=[]):=by simp
  unfold Go.Lib.parseUint10
  rw [if_pos h1,j02,e,if_neg hne]
  generalize z6s n c=m at ih hs es e⊢
  by_cases h2:1844674407370955162<=n
  ·rw [if_pos h2,if_neg (by omega)]
  ·rw [if_neg h2]
   by_cases h3:18446744073709551616<=m
   ·rw [if_pos h3,if_neg (by omega)]
   ·rw [if_neg h3,ih]
    by_cases h4:valD m l<18446744073709551616
    ·rw [if_pos ⟨h4,by omega⟩,if_pos ⟨h4,by omega⟩]
    ·have: ¬l=[]:=by rintro rfl;rw [v22] at h4;omega
     rw [if_neg (by omega),if_neg this,if_neg (by omega)]
theorem w7t {l:List UInt8} (h:l.all isD=true) (hn:l≠[]):Go.Lib.parseMag l=(if valD 0 l<18446744073709551616 then .ok (valD 0 l) else .range):=by
 unfold Go.Lib.parseMag
 rw [if_neg hn,j4g l 0 h]
 by_cases h4:valD 0 l<18446744073709551616
 ·rw [if_pos ⟨h4,by omega⟩,if_pos h4]
 ·rw [if_neg (by omega),if_neg h4,if_neg hn]
theorem v23 {s:ByteArray} {k:Nat}:bts (s.extract k s.size)=(bts s).drop k:=by
 show (s.extract k s.size).data.toList=_
 rw [ByteArray.data_extract,Array.toList_extract,List.extract_eq_take_drop,List.take_of_length_le]
 rw [List.length_drop]
 exact Nat.le_refl _
theorem j3p {s:ByteArray} (h:s[0]? =some 45):bts s=45::bts (digs s)/\(digs s).size+1=s.size:=by
 have h0:0<s.size:=by
  rw [q36] at h;exact (List.getElem?_eq_some_iff.1 h).1
 have e:bts (digs s)=(bts s).drop 1:=by
  unfold digs
  rw [if_pos h,v23]
 rw [q36] at h
 refine ⟨?_,?_⟩
 ·rw [e]
  cases hb:bts s with
  |nil=>rw [hb] at h;simp at h
  |cons c l=>rw [hb] at h;simp at h;simp [h]
 ·rw [←Gn,e,List.length_drop,Gn];omega
theorem q8e {s:ByteArray} (h: ¬s[0]? =some 45):digs s=s:=by unfold digs;rw [if_neg h]
theorem v02 {s:ByteArray} (h:(bts (digs s)).all isD=true) (hn:(digs s).size≠0):Go.Lib.atoiAll (bts s)=(if valD 0 (bts (digs s))<=(if s[0]? =some 45 then 9223372036854775808 else 9223372036854775807) then .ok (if s[0]? =some 45 then -(valD 0 (bts (digs s)):Int) else valD 0 (bts (digs s))) else .range):=by
 have hne:bts (digs s)≠[]:=fun e=>hn (by rw [←Gn,e];rfl)
 by_cases hm:s[0]? =some 45
 ·obtain ⟨e,_⟩:=j3p hm
  rw [if_pos hm,if_pos hm,e]
  unfold Go.Lib.atoiAll
  simp only [show (45:UInt8).toNat=45 from rfl,or_true,if_true]
  rw [w7t h hne]
  generalize valD 0 (bts (digs s))=v
  by_cases h1:v<18446744073709551616
  ·rw [if_pos h1]
   by_cases h2:v<=9223372036854775808
   ·rw [if_pos h2];simp only [not_true,false_and,if_false,true_and];rw [if_neg (by omega)]
   ·rw [if_neg h2];simp only [not_true,false_and,if_false,true_and];rw [if_pos (by omega)]
  ·rw [if_neg h1,if_neg (by omega)]
 ·rw [if_neg hm,if_neg hm]
  rw [q8e hm] at h hne⊢
  have hp:=w7t h hne
  generalize valD 0 (bts s)=v at hp⊢
  cases hb:bts s with
  |nil=>exact absurd hb hne
  |cons c l=>
   have hc':isD c=true:=by rw [hb] at h;simp only [List.all_cons,Bool.and_eq_true] at h;exact h.1
   simp only [isD,Bool.and_eq_true,decide_eq_true_eq] at hc'
   unfold Go.Lib.atoiAll
   simp only []
   rw [if_neg (show ¬(c.toNat=43∨c.toNat=45) by omega),←hb,hp]
   by_cases h1:v<18446744073709551616
   ·rw [if_pos h1]
    simp only []
    by_cases h2:v<=9223372036854775807
    ·rw [if_pos h2,if_neg (by omega),if_neg (by omega),if_neg (by omega)]
    ·rw [if_neg h2,if_pos (by omega)]
   ·rw [if_neg h1,if_neg (by omega)]
def dot (s:ByteArray) (k:Nat):Nat:=k+((bts s).drop k).idxOf 46
theorem v25 {s:ByteArray} {k:Nat}:k<=dot s k:=Nat.le_add_right _ _
theorem y4z {s:ByteArray} {k:Nat} (h:k<=s.size):dot s k<=s.size:=by
 have:=List.idxOf_le_length (a:=(46:UInt8)) (l:=(bts s).drop k)
 rw [List.length_drop,Gn] at this
 unfold dot;omega
theorem y0a {s:ByteArray} {k:Nat} (h:dot s k<s.size):s[dot s k]? =some 46:=by
 have hl:((bts s).drop k).idxOf 46<((bts s).drop k).length:=by rw [List.length_drop,Gn];unfold dot at h;omega
 have h2:=List.getElem_idxOf hl
 rw [q36]
 unfold dot
 rw [←List.getElem?_drop,List.getElem?_eq_getElem hl,h2]
theorem y0b {s:ByteArray} {k i:Nat} (h0:k<=i) (h1:i<dot s k):s[i]? ≠some 46:=by
 intro e
 rw [q36] at e
 have e2:((bts s).drop k)[i - k]? =some 46:=by rw [List.getElem?_drop,show k+(i - k)=i by omega];exact e
 obtain ⟨hl,e3⟩:=List.getElem?_eq_some_iff.1 e2
 have h2:i - k<((bts s).drop k).idxOf 46:=by unfold dot at h1;omega
 have:=List.not_of_lt_findIdx (p:=fun x=>x==(46:UInt8)) (xs:=(bts s).drop k) (i:=i - k) h2
 rw [e3] at this
 simp at this
theorem y9y {s:ByteArray} {k i:Nat} (h0:k<=i) (hs:s[i]? =some 46) (hn: ∀j,k<=j->j<i->s[j]? ≠some 46):dot s k=i:=by
 have hi:i<s.size:=(List.getElem?_eq_some_iff.1 (q36.1 hs)).1
 rcases Nat.lt_trichotomy (dot s k) i with h|h|h
 ·exact absurd (y0a (show dot s k<s.size by omega)) (hn _ v25 h)
 ·exact h
 ·exact absurd hs (y0b h0 h)
theorem y7i {s:ByteArray} {k:Nat} (hk:k<=s.size) (hn: ∀j,k<=j->j<s.size->s[j]? ≠some 46):dot s k=s.size:=by
 rcases Nat.lt_or_ge (dot s k) s.size with h|h
 ·exact absurd (y0a h) (hn _ v25 h)
 ·have:=y4z hk;omega
def okp (p:Int×Int):Bool:=decide (p.2=0) && decide (0<=p.1) && decide (p.1<=999999)
def Hq (s:ByteArray) (k:Nat):Int×Int:=pnum (s.extract k (dot s k))
def w0m (s:ByteArray):Prop:=(dot s 0<s.size/\okp (Hq s 0)=true)/\(dot s (dot s 0+1)<s.size/\okp (Hq s (dot s 0+1))=true)/\ ¬dot s (dot s (dot s 0+1)+1)<s.size/\okp (Hq s (dot s (dot s 0+1)+1))=true
instance (s:ByteArray):Decidable (w0m s):=by unfold w0m;infer_instance
def prt (s:ByteArray):(Int×Int×Int)×Bool:=
 if w0m s then (((Hq s 0).1,(Hq s (dot s 0+1)).1,(Hq s (dot s (dot s 0+1)+1)).1),true) else ((0,0,0),false)
theorem y40 {s:ByteArray} (h: ¬w0m s):prt s=((0,0,0),false):=if_neg h
theorem y0c {s:ByteArray} (h:w0m s):prt s=(((Hq s 0).1,(Hq s (dot s 0+1)).1,(Hq s (dot s (dot s 0+1)+1)).1),true):=if_pos h
abbrev dotB:ByteArray:=ByteArray.mk (Array.mk [46])
theorem w7u: ∀l:List UInt8,Go.Lib.index l [46]=if l.idxOf 46<l.length then ((l.idxOf 46:Nat):Int) else -1
 |[]=>rfl
 |b::l=>by
  have ih:=w7u l
  unfold Go.Lib.index
  by_cases hb:b=46
  ·subst hb
   rw [if_pos (by simp [List.isPrefixOf]),List.idxOf_cons_self,if_pos (by simp)];rfl
  ·have hx:(b::l).idxOf 46=l.idxOf 46+1:=by rw [List.idxOf_cons,show (b==(46:UInt8))=false by simpa using hb];rfl
   rw [if_neg (by simp [List.isPrefixOf,Ne.symm hb]),hx,ih,List.length_cons]
   by_cases h:l.idxOf 46<l.length
   ·simp only [if_pos h]
    rw [if_neg (by simp only [beq_iff_eq];omega),if_pos (by omega)]
    push_cast;rfl
   ·simp only [if_neg h]
    rw [if_pos (by decide),if_neg (by omega)]
theorem y0d {s:ByteArray} {k:Nat}:(s.extract k s.size).size=s.size - k:=by rw [ByteArray.size_extract];omega
theorem j9a {s:ByteArray} {k:Nat} (hk:k<=s.size):Go.Lib.indexB (s.extract k s.size) dotB=if dot s k<s.size then ((dot s k - k:Nat):Int) else -1:=by
 show Go.Lib.index (bts (s.extract k s.size)) [46]=_
 rw [v23,w7u,List.length_drop,Gn]
 have e:dot s k - k=((bts s).drop k).idxOf 46:=by unfold dot;omega
 rw [e]
 have hg:=v25 (s:=s) (k:=k)
 by_cases h:dot s k<s.size
 ·rw [if_pos h,if_pos (by omega)]
 ·rw [if_neg h,if_neg (by omega)]
def pc (s:ByteArray) (k:Nat):List ByteArray:=Go.Lib.splitB dotB 0 (Go.Lib.countB (s.extract k s.size) dotB) (s.extract k s.size)
theorem ext2 {s:ByteArray} {k i:Nat} (h:k+i<=s.size):(s.extract k s.size).extract 0 i=s.extract k (k+i):=by
 apply ByteArray.ext
 have:s.data.size=s.size:=rfl
 simp only [ByteArray.data_extract,Array.extract_extract]
 congr 1
 omega
theorem ext3 {s:ByteArray} {k i:Nat}:(s.extract k s.size).extract i (s.extract k s.size).size=s.extract (k+i) s.size:=by
 apply ByteArray.ext
 rw [y0d]
 have:s.data.size=s.size:=rfl
 simp only [ByteArray.data_extract,Array.extract_extract]
 congr 1
 omega
theorem j9b {s:ByteArray} {k:Nat} (hk:k<=s.size) (h: ¬dot s k<s.size):pc s k=[s.extract k s.size]:=by
 unfold pc
 exact Go.Lib.splitB_miss _ _ _ _ (by rw [j9a hk,if_neg h])
theorem w1y {s:ByteArray} {k:Nat} (hk:k<=s.size) (h:dot s k<s.size):pc s k=s.extract k (dot s k)::pc s (dot s k+1):=by
 have hi:=j9a hk
 rw [if_pos h] at hi
 have hg:=v25 (s:=s) (k:=k)
 unfold pc
 rw [Go.Lib.countB_hit _ dotB _ (by decide) hi,Nat.add_comm,Go.Lib.splitB_hit _ _ _ _ _ hi]
 have e1:dotB.size=1:=rfl
 rw [Nat.add_zero,e1,ext2 (by omega),ext3,show k+(dot s k - k)=dot s k by omega,show k+(dot s k - k+1)=dot s k+1 by omega]
theorem y0e {p:Nat->Prop}: ∀n,p n-> ∃n,p n/\ ∀k,k<n-> ¬p k:=by
 intro n
 induction n using Nat.strongRecOn with
 |_ n ih=>
  intro h
  by_cases hx: ∃k,k<n/\p k
  ·obtain ⟨k,hk,hp⟩:=hx;exact ih k hk hp
  ·exact ⟨n,h,fun k hk hp=>hx ⟨k,hk,hp⟩⟩
theorem y9z {s:ByteArray} {k:Nat} (hk:k<=s.size):0<(pc s k).length:=by
 by_cases h:dot s k<s.size
 ·rw [w1y hk h];simp
 ·rw [j9b hk h];simp
theorem w7v {s:ByteArray}:Go.En.q04 s dotB=pc s 0:=by
 unfold Go.En.q04 pc
 have e:s.extract 0 s.size=s:=by simp
 rw [e]
theorem j9c {s:ByteArray}:(Go.En.q04 s dotB).length=3↔dot s 0<s.size/\dot s (dot s 0+1)<s.size/\ ¬dot s (dot s (dot s 0+1)+1)<s.size:=by
 rw [w7v]
 by_cases h0:dot s 0<s.size
 ·rw [w1y (by omega) h0]
  by_cases h1:dot s (dot s 0+1)<s.size
  ·rw [w1y (by omega) h1]
   by_cases h2:dot s (dot s (dot s 0+1)+1)<s.size
   ·have:=y9z (s:=s) (k:=dot s (dot s (dot s 0+1)+1)+1) (by omega)
    rw [w1y (by omega) h2]
    simp only [List.length_cons]
    exact ⟨fun e=>by omega,fun e=>absurd h2 e.2.2⟩
   ·rw [j9b (by omega) h2];simp [h0,h1,h2]
  ·rw [j9b (by omega) h1];simp [h1]
 ·rw [j9b (by omega) h0];simp [h0]
theorem v03 {s:ByteArray} (h:dot s 0<s.size/\dot s (dot s 0+1)<s.size/\ ¬dot s (dot s (dot s 0+1)+1)<s.size):Go.En.q04 s dotB=[s.extract 0 (dot s 0),s.extract (dot s 0+1) (dot s (dot s 0+1)),s.extract (dot s (dot s 0+1)+1) (dot s (dot s (dot s 0+1)+1))]:=by
 obtain ⟨h0,h1,h2⟩:=h
 rw [w7v,w1y (by omega) h0,w1y (by omega) h1,j9b (by omega) h2]
 have:=y4z (s:=s) (k:=dot s (dot s 0+1)+1) (by omega)
 rw [show dot s (dot s (dot s 0+1)+1)=s.size by omega]
theorem j4h {s t:List UInt8}:Go.Lib.contains s t=true↔ ∃i,i+t.length<=s.length/\(s.drop i).take t.length=t:=by
 have key:Go.Lib.contains s t=true↔ ∃i,i<=s.length/\Go.Lib.occAt s t i=true:=by
  unfold Go.Lib.contains
  constructor
  ·intro h
   have hge:0<=Go.Lib.index s t:=by simpa using h
   by_cases hx: ∃i,i<=s.length/\Go.Lib.occAt s t i=true
   ·exact hx
   ·have:=Go.Lib.index_none (s:=s) (sub:=t) (fun j hj=>by
     cases hb:Go.Lib.occAt s t j with
     |false=>rfl
     |true=>exact absurd ⟨j,hj,hb⟩ hx)
    omega
  ·rintro ⟨i,hi,ho⟩
   obtain ⟨j,⟨hj,hjo⟩,hmin⟩:=y0e (p:=fun j=>j<=s.length/\Go.Lib.occAt s t j=true) i ⟨hi,ho⟩
   have:=Go.Lib.index_first hj hjo (fun k hk=>by
    cases hb:Go.Lib.occAt s t k with
    |false=>rfl
    |true=>exact absurd ⟨by omega,hb⟩ (hmin k hk))
   rw [this];simp
 rw [key]
 constructor
 ·rintro ⟨i,hi,ho⟩
  unfold Go.Lib.occAt at ho
  have hp:=List.isPrefixOf_iff_prefix.1 ho
  have hl:=hp.length_le
  rw [List.length_drop] at hl
  exact ⟨i,by omega,(List.prefix_iff_eq_take.1 hp).symm⟩
 ·rintro ⟨i,hi,ho⟩
  refine ⟨i,by omega,?_⟩
  unfold Go.Lib.occAt
  rw [List.isPrefixOf_iff_prefix,List.prefix_iff_eq_take]
  exact ho.symm
end Go.Sg
end
noncomputable section
set_option maxRecDepth 100000
namespace Go.En
open Go Go.Fl Go.Fl.Lk Go.Fx Go.Sg
theorem y0f {s:ByteArray}:s=ByteArray.mk (Array.mk [])↔s.size=0:=by
 constructor
 ·rintro rfl;rfl
 ·intro h;exact ByteArray.ext (Array.eq_empty_of_size_eq_zero h)
theorem y41 {s:ByteArray} {i:Int} (h0:0<=i) (h1:i<s.size) {b:UInt8} (hb:s[i.toNat]? =some b):b=s.get! i.toNat:=by
 rw [q36,get!_of (by omega)] at hb
 cases hb;rfl
theorem y0g {s:ByteArray} {K:Bool->Prop} (hs:s.size<=1000) (h:K (Go.Lib.validD (bts s))):Jt s K:=⟨by omega,h⟩
theorem badP:RuneP fun n=>n<32∨n=127:=⟨fun n h=>by omega⟩
theorem j4i {s:ByteArray} (h:200<s.size∨Go.Lib.validD (bts s)=false∨ ∃c∈bts s,c.toNat<32∨c.toNat=127):vld s=false:=by
 unfold vld
 rcases h with h|h|⟨c,hc,h⟩
 ·rw [decide_eq_false (by omega)];rfl
 ·rw [h];simp
 ·have:(bts s).all good=false:=by
   rw [List.all_eq_false]
   refine ⟨c,hc,?_⟩
   unfold good
   simp only [Bool.and_eq_true,decide_eq_true_eq]
   omega
  rw [this];simp
theorem y0h {s:ByteArray} (h1: ¬200<s.size) (h2:Go.Lib.validD (bts s)=true) (h3: ∀c∈bts s,¬(c.toNat<32∨c.toNat=127)):vld s=true:=by
 unfold vld
 rw [h2,decide_eq_true (show s.size<=200 by omega)]
 simp only [Bool.and_true,Bool.true_and,List.all_eq_true]
 intro c hc
 have:=h3 c hc
 unfold good
 simp only [Bool.and_eq_true,decide_eq_true_eq]
 omega
theorem j9d {s:ByteArray} {K:Bool->Prop} (h:K (vld s)):Z6 s K:=by
 unfold Z6 z50
 refine Cnd.mk (fun h1=>by rwa [j4i (.inl (by omega))] at h) fun h1=>y0g (by omega) (Cnd.mk (fun h2=> ?_) fun h2=>by rwa [j4i (.inr (.inl (by simpa using h2)))] at h)
 refine Lp1.ind (fun (i:Int)=>0<=i/\Clr (fun n=>n<32∨n=127) s i.toNat) (fun (i:Int)=>(s.size - i).toNat) ?_ ⟨by omega,Clr.zero⟩
 rintro i ⟨i0,hc⟩
 refine Cnd.mk (fun h3=>⟨by omega,fun b hb=> ?_⟩) fun h3=>by rwa [y0h (by omega) h2 (hc.all (by omega))] at h
 have e:=y41 i0 (by omega) hb
 have hm:b∈bts s:=e▸j3o (by omega)
 refine Cnd.mk (fun h4=>by rwa [j4i (.inr (.inr ⟨b,hm,.inl (by omega)⟩))] at h) fun h4=>⟨by omega,fun b' hb'=> ?_⟩
 rw [hb] at hb';cases hb'
 refine Cnd.mk (fun h5=>by rwa [j4i (.inr (.inr ⟨b,hm,.inr (by omega)⟩))] at h) fun h5=>⟨by unfold InI;omega,⟨by omega,fun j hj hs=> ?_⟩,by omega⟩
 by_cases hji:j<i.toNat
 ·exact hc j hji hs
 ·rw [show j=i.toNat by omega,←e];omega
theorem v5p {b:UInt8} (h:isD b=true):Go.IntKind.u8.wrap ((b.toNat:Int) - 48)=((b.toNat - 48:Nat):Int):=by
 simp only [isD,Bool.and_eq_true,decide_eq_true_eq] at h
 have:(b.toNat:Int) - 48=((b.toNat - 48:Nat):Int):=by omega
 rw [this]
 show ((b.toNat - 48:Nat):Int) % 256=_
 omega
theorem digP:RuneP fun n=>n<48∨57<n:=⟨fun n h=>by omega⟩
theorem v04 {l:List UInt8}:l.all isD=true↔ ∀c∈l,¬(c.toNat<48∨57<c.toNat):=by
 rw [List.all_eq_true]
 constructor
 ·intro h c hc;have:=h c hc;simp only [isD,Bool.and_eq_true,decide_eq_true_eq] at this;omega
 ·intro h c hc;have:=h c hc;simp only [isD,Bool.and_eq_true,decide_eq_true_eq];omega
theorem z2g {l:List UInt8} {c:UInt8} (hc:c∈l) (h:c.toNat<48∨57<c.toNat):l.all isD=false:=by
 rw [Bool.eq_false_iff];intro e;exact v04.1 e c hc h
theorem take_snoc {l:List UInt8} {i:Nat} {b:UInt8} (h:l[i]? =some b):l.take (i+1)=l.take i++[b]:=by rw [List.take_add_one,h];rfl
theorem j03 {s:ByteArray} (h:(bts (digs s)).all isD=false):pnum s=(0,1):=by unfold pnum;rw [if_pos h]
theorem j04 {s:ByteArray} (h:(bts (digs s)).all isD=true) (h0:(digs s).size=0∨((digs s)[0]? =some 48/\s≠ByteArray.mk (Array.mk [48]))):pnum s=(0,1):=by unfold pnum;rw [if_neg (by simp [h]),if_pos h0]
theorem j59 {s:ByteArray} (h:(bts (digs s)).all isD=true) (h0: ¬((digs s).size=0∨((digs s)[0]? =some 48/\s≠ByteArray.mk (Array.mk [48])))) (h1:1099511627776<valD 0 (bts (digs s))):pnum s=(0,3):=by unfold pnum;rw [if_neg (by simp [h]),if_neg h0,if_pos h1]
theorem v27 {s:ByteArray} (h:(bts (digs s)).all isD=true) (h0: ¬((digs s).size=0∨((digs s)[0]? =some 48/\s≠ByteArray.mk (Array.mk [48])))) (h1: ¬1099511627776<valD 0 (bts (digs s))):pnum s=(if (digs s).size<s.size then -(valD 0 (bts (digs s)):Int) else valD 0 (bts (digs s)),0):=by unfold pnum;rw [if_neg (by simp [h]),if_neg h0,if_neg h1]
theorem j9e {s:ByteArray} (h:(bts (digs s)).all isD=true) (h0: ¬((digs s).size=0∨((digs s)[0]? =some 48/\s≠ByteArray.mk (Array.mk [48])))) (hl:13<(digs s).size):1099511627776<valD 0 (bts (digs s)):=by
 have hs:s≠ByteArray.mk (Array.mk [48]):=by
  rintro rfl
  revert hl;decide
 cases hb:bts (digs s) with
 |nil=>have:=Gn (digs s);rw [hb] at this;simp at this;omega
 |cons c l=>
  have hc:(digs s)[0]? =some c:=by rw [q36,hb];rfl
  have hc0:c≠48:=fun e=>h0 (.inr ⟨e▸hc,hs⟩)
  have hd:isD c=true:=by rw [hb,List.all_cons,Bool.and_eq_true] at h;exact h.1
  simp only [isD,Bool.and_eq_true,decide_eq_true_eq] at hd
  have hne:c.toNat≠48:=fun e=>hc0 (by rw [←UInt8.toNat_inj];exact e)
  have hlen:13<=l.length:=by have:=Gn (digs s);rw [hb] at this;simp at this;omega
  rw [j02]
  have h1:=v01 l (z6s 0 c)
  have h2:10 ^ 13<=10 ^ l.length:=Nat.pow_le_pow_right (by decide) hlen
  have h3:1*10 ^ l.length<=z6s 0 c*10 ^ l.length:=Nat.mul_le_mul_right _ (by unfold z6s;omega)
  omega
theorem dsz {s:ByteArray}:(digs s).size<=s.size:=by
 unfold digs
 split
 ·rw [ByteArray.size_extract];omega
 ·omega
theorem j3q {s:ByteArray} {K:Int->Int->Prop} (hs:s.size<=1000000000) (h:K (pnum s).1 (pnum s).2):J0 s K:=by
 unfold J0
 refine Jn1.mk (fun d=>d=digs s) ?_ fun d hd=> ?_
 ·refine Cnd.mk (fun h0=>⟨by omega,fun b hb=>Cnd.mk (fun h1=>⟨by omega,?_⟩) fun h1=> ?_⟩) fun h0=> ?_
  ·have:b=45:=by rw [←UInt8.toNat_inj];show b.toNat=45;omega
   unfold digs;rw [if_pos (by rw [←this];exact hb)];congr 1
  ·rw [q8e];intro e;rw [show Int.toNat 0=0 from rfl] at hb;rw [hb] at e;cases e;exact h1 rfl
  ·rw [q8e];intro e;have:=(List.getElem?_eq_some_iff.1 (q36.1 e)).1;rw [Gn] at this;omega
 subst hd
 generalize hd:digs s=d at*
 have hz:d.size<=s.size:=hd▸dsz
 refine Lp1.ind (fun (i:Int)=>0<=i/\i<=d.size/\Clr (fun n=>n<48∨57<n) d i.toNat) (fun (i:Int)=>(d.size - i).toNat) ?_ ⟨by omega,by omega,Clr.zero⟩
 rintro i ⟨i0,i1,hc⟩
 refine Cnd.mk (fun h3=>⟨by omega,fun b hb=> ?_⟩) fun h3=> ?_
 ·have e:=y41 i0 (by omega) hb
  have hm:b∈bts d:=e▸j3o (by omega)
  refine Cnd.mk (fun h4=> ?_) fun h4=>⟨by omega,fun b' hb'=> ?_⟩
  ·rwa [j03 (by rw [hd];exact z2g hm (.inl (by omega)))] at h
  rw [hb] at hb';cases hb'
  refine Cnd.mk (fun h5=> ?_) fun h5=>⟨by unfold InI;omega,⟨by omega,by omega,fun j hj hs=> ?_⟩,by omega⟩
  ·rwa [j03 (by rw [hd];exact z2g hm (.inr (by omega)))] at h
  by_cases hji:j<i.toNat
  ·exact hc j hji hs
  ·rw [show j=i.toNat by omega,←e];omega
 have hall:(bts d).all isD=true:=v04.2 (hc.all (by omega))
 have hall':(bts (digs s)).all isD=true:=by rw [hd];exact hall
 have fin: ¬((digs s).size=0∨((digs s)[0]? =some 48/\s≠ByteArray.mk (Array.mk [48])))-> ¬13<d.size->Lp2 (fun (Qf J1:Int) w8k=>Cnd (J1<(↑d.size:Int)) (InI ((10:Int)*Qf)/\((0:Int)<=J1/\J1<(↑d.size:Int))/\ ∀b5,d[J1.toNat]? =some b5->InI (Go.IntKind.u8.wrap ((↑b5.toNat:Int) - (48:Int)))/\InI ((10:Int)*Qf+Go.IntKind.u8.wrap ((↑b5.toNat:Int) - (48:Int)))/\InI (J1+(1:Int))/\w8k ((10:Int)*Qf+Go.IntKind.u8.wrap ((↑b5.toNat:Int) - (48:Int))) (J1+(1:Int))) (Cnd ((1099511627776:Int)<Qf) (K (0:Int) (3:Int)) (Cnd ((↑d.size:Int)<(↑s.size:Int)) (InI ((0:Int) - Qf)/\K ((0:Int) - Qf) (0:Int)) (K Qf (0:Int))))) (0:Int) (0:Int):=fun hg h13=>by
  refine Lp2.ind (fun (n j:Int)=>0<=j/\j<=d.size/\n=(valD 0 ((bts d).take j.toNat):Int)) (fun _ (j:Int)=>(d.size - j).toNat) ?_ ⟨by omega,by omega,by simp [valD]⟩
  rintro n j ⟨j0,j1,rfl⟩
  have hb1:valD 0 ((bts d).take j.toNat)<1*10 ^ 13:=by
   have h1:=v98 ((bts d).take j.toNat) 0 (by rw [List.all_eq_true] at hall⊢;exact fun c hc=>hall c (List.mem_of_mem_take hc))
   have h2:((bts d).take j.toNat).length<=13:=by rw [List.length_take,Gn];omega
   have h3:10 ^ ((bts d).take j.toNat).length<=10 ^ 13:=Nat.pow_le_pow_right (by decide) h2
   omega
  refine Cnd.mk (fun hc=>⟨by unfold InI;omega,by omega,fun b hb=> ?_⟩) fun hc=> ?_
  ·have hm:b∈bts d:=List.mem_of_getElem? (q36.1 hb)
   have hdg:isD b=true:=by rw [List.all_eq_true] at hall;exact hall b hm
   have hdg':=hdg
   simp only [isD,Bool.and_eq_true,decide_eq_true_eq] at hdg'
   rw [v5p hdg]
   refine ⟨by unfold InI;omega,by unfold InI;omega,by unfold InI;omega,⟨by omega,by omega,?_⟩,by omega⟩
   rw [show (j+1).toNat=j.toNat+1 by omega,take_snoc (q36.1 hb),v97]
   unfold z6s;push_cast;omega
  ·have ht:(bts d).take j.toNat=bts d:=List.take_of_length_le (by rw [Gn];omega)
   rw [ht] at hb1⊢
   refine Cnd.mk (fun h1=> ?_) fun h1=> ?_
   ·rwa [j59 hall' hg (by rw [hd];omega)] at h
   ·rw [v27 hall' hg (by rw [hd];omega),hd] at h
    refine Cnd.mk (fun h2=>⟨by unfold InI;omega,?_⟩) fun h2=> ?_
    ·rw [if_pos (by omega)] at h;rwa [Int.zero_sub]
    ·rwa [if_neg (by omega)] at h
 have gone: ∀{b:UInt8},d[0]? =some b->(b≠48∨s=ByteArray.mk (Array.mk [48]))->d.size≠0-> ¬((digs s).size=0∨((digs s)[0]? =some 48/\s≠ByteArray.mk (Array.mk [48]))):=by
  rw [hd]
  rintro b hb h1 h2 (h3|⟨h3,h4⟩)
  ·exact h2 h3
  ·rw [hb] at h3;cases h3;rcases h1 with h1|h1
   ·exact h1 rfl
   ·exact h4 h1
 refine Cnd.mk (fun h4=> ?_) fun h4=> ?_
 ·rwa [j04 hall' (.inl (by rw [hd];exact y0f.1 h4))] at h
 have h5:d.size≠0:=fun e=>h4 (y0f.2 e)
 refine ⟨by omega,fun b hb=> ?_⟩
 have hb:d[0]? =some b:=hb
 refine Cnd.mk (fun h6=> ?_) fun h6=> ?_
 ·have h6:b=48:=by rw [←UInt8.toNat_inj];show b.toNat=48;omega
  refine Cnd.mk (fun h7=> ?_) fun h7=> ?_
  ·refine Cnd.mk (fun h8=> ?_) fun h8=>fin (gone hb (.inr h7) h5) (by omega)
   rwa [j59 hall' (gone hb (.inr h7) h5) (j9e hall' (gone hb (.inr h7) h5) (by rw [hd];omega))] at h
  ·rwa [j04 hall' (.inr ⟨by rw [hd,hb,h6],h7⟩)] at h
 ·have hg:=gone hb (.inl fun e=>h6 (by rw [e];rfl)) h5
  refine Cnd.mk (fun h8=> ?_) fun h8=>fin hg (by omega)
  rwa [j59 hall' hg (j9e hall' hg (by rw [hd];omega))] at h
inductive PtS (s:ByteArray):Int->Int->Int->Int->Int->Prop
 |s0 {o0 o1 o2:Int}:PtS s 0 0 o0 o1 o2
 |s1 {o1 o2:Int} (h0:dot s 0<s.size/\okp (Hq s 0)=true):PtS s ((dot s 0+1:Nat):Int) 1 (Hq s 0).1 o1 o2
 |s2 {o2:Int} (h0:dot s 0<s.size/\okp (Hq s 0)=true) (h1:dot s (dot s 0+1)<s.size/\okp (Hq s (dot s 0+1))=true):PtS s ((dot s (dot s 0+1)+1:Nat):Int) 2 (Hq s 0).1 (Hq s (dot s 0+1)).1 o2
 |s3 {a:Int} (h:w0m s):PtS s a 3 (Hq s 0).1 (Hq s (dot s 0+1)).1 (Hq s (dot s (dot s 0+1)+1)).1
theorem z2y {p:Int×Int} (h: ¬p.2=0∨p.1<0∨999999<p.1):okp p=false:=by
 unfold okp
 rw [Bool.eq_false_iff]
 simp only [ne_eq,Bool.and_eq_true,decide_eq_true_eq]
 omega
theorem w4x {p:Int×Int} (h0:p.2=0) (h1: ¬p.1<0) (h2: ¬999999<p.1):okp p=true:=by
 unfold okp
 simp only [Bool.and_eq_true,decide_eq_true_eq]
 omega
theorem PtS.le {s:ByteArray} {a i o0 o1 o2:Int} (h:PtS s a i o0 o1 o2) (hi:i<3):0<=a/\a<=s.size:=by
 cases h with
 |s0=>omega
 |s1 h0=>omega
 |s2 h0 h1=>omega
 |s3=>omega
theorem PtS.no {s:ByteArray} {a i o0 o1 o2:Int} (h:PtS s a i o0 o1 o2) (hi:i<3) (hb:okp (Hq s a.toNat)=false∨(i<2/\ ¬dot s a.toNat<s.size)∨(i=2/\dot s a.toNat<s.size)): ¬w0m s:=by
 rintro ⟨⟨v1,v2⟩,⟨v3,v4⟩,v5,v6⟩
 cases h with
 |s0=>
  simp only [Int.toNat_zero] at hb
  rcases hb with hb|hb|hb
  ·rw [hb] at v2;cases v2
  ·exact hb.2 v1
  ·omega
 |s1 h0=>
  simp only [Int.toNat_natCast] at hb
  rcases hb with hb|hb|hb
  ·rw [hb] at v4;cases v4
  ·exact hb.2 v3
  ·omega
 |s2 h0 h1=>
  simp only [Int.toNat_natCast] at hb
  rcases hb with hb|hb|hb
  ·rw [hb] at v6;cases v6
  ·omega
  ·exact v5 hb.2
 |s3=>omega
theorem z83 {s:ByteArray} {K:A3->Bool->Prop} (hs:s.size<=1000000000) (h:K (prt s).1 (prt s).2):q05 s K:=by
 unfold q05 z54
 have no: ¬w0m s->K (0,0,0) false:=fun hn=>by rwa [y40 hn] at h
 refine LpH.ind (fun x=>PtS s x.1 x.2.1 x.2.2.1 x.2.2.2.1 x.2.2.2.2.1) (fun x=>(3 - x.2.1).toNat) ?_ .s0
 rintro ⟨a,i,o0,o1,o2,x⟩ hp
 simp only at hp⊢
 refine Cnd.mk (fun hc=> ?_) fun hc=> ?_
 ·obtain ⟨a0,a1⟩:=hp.le hc
  refine Lp1.ind (fun (j:Int)=>a<=j/\j<=s.size/\ ∀m:Nat,a.toNat<=m->(m:Int)<j->s[m]? ≠some 46) (fun (j:Int)=>(s.size - j).toNat) ?_ ⟨by omega,by omega,fun m h1 h2=>by omega⟩
  rintro j ⟨j0,j1,jn⟩
  have stop: ∀hj:dot s a.toNat=j.toNat,(0<=a/\a<=j/\j<=(s.size:Int))/\J0 (s.extract a.toNat j.toNat) fun Qg Zo=>Cnd (Zo=0) (Cnd (Qg<0) (K (0,0,0) false) (Cnd (999999<Qg) (K (0,0,0) false) (Cnd (decide (i<2)=decide (j<(s.size:Int))) ((0<=i/\i<((3:Nat):Int))/\((True/\(i=0->InI (j+1)/\InI (i+1)/\(PtS s (j+1) (i+1) Qg o1 o2/\(3 - (i+1)).toNat<(3 - i).toNat)))/\(i=1->InI (j+1)/\InI (i+1)/\(PtS s (j+1) (i+1) o0 Qg o2/\(3 - (i+1)).toNat<(3 - i).toNat)))/\(i=2->InI (j+1)/\InI (i+1)/\(PtS s (j+1) (i+1) o0 o1 Qg/\(3 - (i+1)).toNat<(3 - i).toNat))) (K (0,0,0) false)))) (K (0,0,0) false):=fun hj=>by
   refine ⟨by omega,j3q (by rw [ByteArray.size_extract];omega) ?_⟩
   have ev:Hq s a.toNat=pnum (s.extract a.toNat j.toNat):=by unfold Hq;rw [hj]
   rw [←ev]
   refine Cnd.mk (fun h1=>Cnd.mk (fun h2=>no (hp.no hc (.inl (z2y (by omega))))) fun h2=>Cnd.mk (fun h3=>no (hp.no hc (.inl (z2y (by omega))))) fun h3=>Cnd.mk (fun h4=> ?_) fun h4=>no (hp.no hc ?_)) fun h1=>no (hp.no hc (.inl (z2y (by omega))))
   ·have ok:=w4x h1 h2 h3
    have h4:i<2↔j<(s.size:Int):=by simpa using h4
    have ej:j+1=((dot s a.toNat+1:Nat):Int):=by omega
    have hin:InI (j+1):=by unfold InI;omega
    have i0:0<=i:=by cases hp<;>omega
    have hin2:InI (i+1):=by unfold InI;omega
    cases hp with
    |s0=>
     refine ⟨by omega,⟨⟨trivial,fun _=>⟨hin,hin2,?_,by omega⟩⟩,fun e=>by omega⟩,fun e=>by omega⟩
     rw [ej];exact .s1 ⟨by simp only [Int.toNat_zero] at hj⊢;omega,ok⟩
    |s1 h0=>
     refine ⟨by omega,⟨⟨trivial,fun e=>by omega⟩,fun _=>⟨hin,hin2,?_,by omega⟩⟩,fun e=>by omega⟩
     rw [ej];simp only [Int.toNat_natCast] at hj ok⊢;exact .s2 h0 ⟨by omega,ok⟩
    |s2 h0 h1'=>
     refine ⟨by omega,⟨⟨trivial,fun e=>by omega⟩,fun e=>by omega⟩,fun _=>⟨hin,hin2,?_,by omega⟩⟩
     simp only [Int.toNat_natCast] at hj ok⊢;exact .s3 ⟨h0,h1',by omega,ok⟩
    |s3=>omega
   ·have h4: ¬(i<2↔j<(s.size:Int)):=by simpa using h4
    have i0:0<=i:=by cases hp<;>omega
    rw [hj]
    by_cases h5:i<2
    ·exact .inr (.inl ⟨h5,fun h6=>h4 ⟨fun _=>by omega,fun _=>h5⟩⟩)
    ·refine .inr (.inr ⟨by omega,?_⟩)
     by_cases h6:j.toNat<s.size
     ·exact h6
     ·exact absurd ⟨fun h7=>absurd h7 h5,fun h7=>by omega⟩ h4
  refine Cnd.mk (fun hl=>⟨by omega,fun b hb=>Cnd.mk (fun hd=> ?_) fun hd=>⟨by unfold InI;omega,⟨by omega,by omega,fun m h1 h2=> ?_⟩,by omega⟩⟩) fun hl=> ?_
  ·have hb46:b=46:=by rw [←UInt8.toNat_inj];show b.toNat=46;omega
   exact stop (y9y (by omega) (hb46▸hb) fun m h1 h2=>jn m h1 (by omega))
  ·by_cases hm:(m:Int)<j
   ·exact jn m h1 hm
   ·rw [show m=j.toNat by omega,hb];intro e;cases e;exact hd rfl
  ·exact stop ((y7i (by omega) fun m h1 h2=>jn m h1 (by omega)).trans (by omega))
 ·cases hp with
  |s0=>omega
  |s1=>omega
  |s2=>omega
  |s3 hv=>rwa [y0c hv] at h
end Go.En
end
