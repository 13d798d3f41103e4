/- SegmentOrders: for every input the law returns true and leaves its arguments as they were. This is part 5 of 7. Conditions: those in the statements. -/
import Derived.Test.YthpeboomdlgfaaaGreatDoorO4
import Derived.KernelRfl
import Derived.Conc.MuLone
noncomputable section
set_option maxRecDepth 100000
namespace Go.Proofs.YthpeboomdlgfaaaGreatDoor
open Go Go.Proofs Go.RowKit Go.Fl
set_option maxHeartbeats 2000000 in
theorem q9f {σ:Hv} {w:World} (s_p:(List ByteArray)) (v1:Value) {K:(List ByteArray)→Prop} (hV:View σ w) (hr1:RSl 1 (REnc q0g) σ v1 s_p) (hP:q05 s_p K):
    Calls Tryz.prog 61 #[v1] w (fun e w1=> ∃(r1:(List ByteArray)) (v2:Value),e= .returned v2∧St ⟨w,σ,[]⟩ w1 σ [vec v2 9 1 r1.length ((r1).flatMap q0g)]∧Sml r1.length∧K r1):=by
 unfold q05 at hP
 obtain ⟨a1,cap1,rfl⟩:=hr1.shape
 refine enter Tryz.func61 rfl rfl rfl ?_
 have hS:=St.start hV
 refine q0m (q0n (v:=(.slice none 0 0)) rfl (wpList_nil (q0l (wp_seq (q0m (q02 (v:=(.slice a1 s_p.length cap1)) rfl ?_))))))
 replace hP:=hP a1.isNone (RSl.isNil hr1)
 obtain ⟨r1_,hn1⟩: ∃r:Bool,a1.isNone=r:=⟨_,rfl⟩
 rw [hn1] at hP
 refine u1r Tryz.underlying30 rfl hn1 (wpList_nil (q0l ?_))
 refine if_b rfl (fun ht1=> ?_) (fun ht1=> ?_)
 ·
  replace hP:=hP.1 ht1
  refine q0m (q0n (v:=(.slice none 0 0)) rfl (wpList_nil (q0l (wp_ret (q6i (ret1 rfl (show ev _ _ _=(.slice none 0 0) from rfl) ?_))))))
  have hS1:=hS.addNil 9 1
  exact ⟨[],(.slice none 0 0),rfl,(St.back hS1 (Sub.refl _)),(by simp [Sml]),hP⟩
 ·
  replace hP:=hP.2 (by first|(rw [ht1];exact Bool.false_ne_true)|simp [ht1])
  refine wp_skip (q0l (q0m (w1y (cs:=[]) (e:=9) hS (fun _=>by kernel_rfl) ?_)))
  intro b1 w1 hS2
  refine q02 (v:=(.slice a1 s_p.length cap1)) rfl ?_
  have hS3:=hS2.asVec (i:=0) (ms':=[vec (.slice (some ⟨b1,0,none⟩) 0 0) 9 1 0 []]) (size:=1) rfl rfl (by unfold maxLen;omega) rfl
  obtain ⟨hsm1,hP⟩:=hP
  refine u66 (enc:=q0g) (l:=s_p) (Ms:=fun v3=>[vec v3 9 1 s_p.length ((s_p).flatMap q0g)]) (k':=s_p.length) (xs':=(s_p).flatMap q0g) Tryz.underlying30 Tryz.type9 rfl rfl (bytes:=16) rfl rfl (Nat.succ_pos _) hS3 rfl (q:=0) rfl rfl hr1 hS3.view q94 y7a hsm1 (by omega) (by first|rfl|exact List.length_append.symm|simp) (List.nil_append _) (fun _=>rfl) ?_
  intro v3 w2 ho1 hS4
  refine q0n (v:=v3) rfl (wpList_nil (q0l (wp_ret (ret1 rfl (show ev _ _ _=v3 from rfl) ?_))))
  exact ⟨s_p,v3,rfl,(St.back hS4 (Sub.refl _)),hsm1,hP⟩
set_option maxHeartbeats 2000000 in
theorem q9g {σ:Hv} {w:World} (s_p:(List ByteArray)) (v_p:ByteArray) (v1:Value) {K:Int→Prop} (hV:View σ w) (hr1:RSl 1 (REnc q0g) σ v1 s_p) (hP:q06 s_p v_p K):
    Calls Tryz.prog 79 #[v1,(.string v_p)] w (fun e w1=> ∃(r1:Int),e= .returned (.int .i64 r1)∧Grow [] σ w σ w1∧K r1):=by
 unfold q06 at hP
 obtain ⟨a1,cap1,rfl⟩:=hr1.shape
 refine enter Tryz.func79 rfl rfl rfl ?_
 have hS:=St.start hV
 refine q0m (q0n (v:=(.int .i64 (0:Int))) rfl (wpList_nil (q0l (wp_seq (q0m (q02 (v:=(.slice a1 s_p.length cap1)) rfl (z49 rfl Tryz.underlying30 ?_)))))))
 have hlen1:=RSl.len63 hr1
 replace hP:=hP hlen1
 refine q02 (v:=(.int .i64 (0:Int))) rfl (wpList_nil (q0l (wp_block ?_)))
 refine v05 (fun k_2 f z=> ∃(σ1:Hv) (g:Fr),f=(upd (upd (upd (upd g 0 (.slice a1 s_p.length cap1)) 1 (.string v_p)) 7 (.int .i64 ((s_p.length:Nat):Int))) 8 (.int .i64 ((k_2:Nat):Int)))∧St ⟨w,σ,[]⟩ z σ1 []∧Sub σ σ1) hP ⟨σ,_,(q1h rfl (q1h rfl (q1h rfl (q1h rfl rfl)))),hS,(Sub.refl _)⟩ ?_
 clear hP
 rintro k_2 Y1 hP f w1 ⟨σ1,g,rfl,hS1,hsub1⟩
 refine q0m (y60 (r:=(decide (((k_2:Nat):Int)<((s_p.length:Nat):Int)))) rfl rfl rfl (wpList_nil (q0l (wp_seq ?_))))
 refine if_d (((k_2:Nat):Int)<((s_p.length:Nat):Int)) rfl (fun ht1=> ?_) (fun ht1=> ?_)
 ·
  replace hP:=hP.1 ht1
  refine wp_skip (q0l (wp_seq (wp_block (q0m (q02 (v:=(.int .i64 ((k_2:Nat):Int))) rfl (q0n (v:=(.int .i64 ((k_2:Nat):Int))) rfl (wpList_nil (q0l (q0m (q02 (v:=(.string v_p)) rfl (q02 (v:=(.slice a1 s_p.length cap1)) rfl (q02 (v:=(.int .i64 ((k_2:Nat):Int))) rfl ?_))))))))))))
  obtain ⟨x1_,hx1⟩:=getq (l:=s_p) (k:=k_2) (by have:=ht1;omega)
  replace hP:=hP x1_ hx1
  obtain ⟨ad1,cs1,ha1,hl1,hr2,hR1,hlt1⟩:=RSl.at hr1 hx1
  cases hR1
  refine q5v (k:=k_2) (a':=(ad1.add (k_2*1))) (congrArg (fun z=>Value.slice z _ _) ha1) rfl rfl hlt1 Tryz.underlying30 Tryz.sizeOf9 rfl (z1i (v:=(.string x1_)) rfl Tryz.isAgg9 (hr2.cell (View.of hsub1 hS1.view) 0 rfl rfl) (u6x (r:=(decide (v_p=x1_))) rfl rfl rfl (wpList_nil (q0l ?_))))
  refine if_d (v_p=x1_) rfl (fun ht2=> ?_) (fun ht2=> ?_)
  ·
   replace hP:=hP.1 ht2
   refine q0m (q02 (v:=(.int .i64 ((k_2:Nat):Int))) rfl (q0n (v:=(.int .i64 ((k_2:Nat):Int))) rfl (wpList_nil (q0l (wp_ret (w0j (q6i (q6i (w0j (q6i (ret1 rfl (show ev _ _ _=(.int .i64 ((k_2:Nat):Int)) from rfl) ?_)))))))))))
   exact ⟨((k_2:Nat):Int),rfl,hS1.done.forget,hP⟩
  ·
   replace hP:=hP.2 ht2
   refine wp_skip (y4d (q0l (j6u (y4c (r:=((k_2+1:Nat):Int)) rfl rfl (nw (by omega) (by omega) (by have:=hlen1;omega)) (q02 (v:=(.int .i64 ((k_2+1:Nat):Int))) rfl (wpList_nil (q0l ?_)))))))
   exact ⟨k_2+1,_,rfl,hP,σ1,_,(q1h rfl (q1h rfl (q1h rfl (q1h rfl rfl)))),hS1,hsub1⟩
 ·
  replace hP:=hP.2 ht1
  refine wp_exit (j1b (j1b (w2w (q0l (q0m (q0n (v:=(.int .i64 (-1:Int))) rfl (wpList_nil (q0l (wp_ret (ret1 rfl (show ev _ _ _=(.int .i64 (-1:Int)) from rfl) ?_))))))))))
  exact ⟨(-1:Int),rfl,hS1.done.forget,hP⟩
set_option maxHeartbeats 2000000 in
theorem q25 {σ:Hv} {w:World} (s_p:(List ByteArray)) (v_p:ByteArray) (v1:Value) {K:Bool→Prop} (hV:View σ w) (hr1:RSl 1 (REnc q0g) σ v1 s_p) (hP:q0t s_p v_p K):
    Calls Tryz.prog 50 #[v1,(.string v_p)] w (fun e w1=> ∃(r1:Bool),e= .returned (.bool (r1))∧Grow [] σ w σ w1∧K r1):=by
 unfold q0t at hP
 obtain ⟨a1,cap1,rfl⟩:=hr1.shape
 refine enter Tryz.func50 rfl rfl rfl ?_
 have hS:=St.start hV
 refine q0m (q0n (v:=(.bool false)) rfl (wpList_nil (q0l (q0m (q02 (v:=(.slice a1 s_p.length cap1)) rfl (q02 (v:=(.string v_p)) rfl ?_))))))
 obtain ⟨Y1,hK1,hc1⟩:=hP
 refine z2q (args:=[(.slice a1 s_p.length cap1),(.string v_p)]) rfl Tryz.call79 (Calls.mono (q9g s_p v_p (.slice a1 s_p.length cap1) hS.view hr1 hc1) ?_)
 rintro _ w1 ⟨r1_,rfl,hg1,hY1⟩
 refine ⟨_,rfl,?_⟩
 have hS1:=hS.grow hg1
 replace hP:=hK1 r1_ hY1
 refine u6w (r:=(decide ((0:Int)≤r1_))) rfl rfl rfl (q0n (v:=(.bool (decide ((0:Int)≤r1_)))) rfl (wpList_nil (q0l (wp_ret (ret1 rfl (show ev _ _ _=(.bool (decide ((0:Int)≤r1_))) from rfl) ?_)))))
 exact ⟨(decide ((0:Int)≤r1_)),rfl,hS1.done.forget,hP⟩
set_option maxHeartbeats 2000000 in
theorem w_graph_Order {σ:Hv} {w:World} (nodes_p:(List ByteArray)) (edges_p:(List (ByteArray×ByteArray))) (v1:Value) (v2:Value) {K:(List ByteArray)→Int→Prop} (hV:View σ w) (hr1:RSl 1 (REnc q0g) σ v1 nodes_p) (hr2:RSl 2 (REnc u67) σ v2 edges_p) (hP:P_graph_Order nodes_p edges_p K):
    Calls Tryz.prog 33 #[v1,v2] w (fun e w1=> ∃(r1:(List ByteArray)) (r2:Int) (v3:Value),e= .returned (.tuple #[v3,(.int .i64 r2)])∧St ⟨w,σ,[]⟩ w1 σ [vec v3 9 1 r1.length ((r1).flatMap q0g)]∧Sml r1.length∧K r1 r2):=by
 unfold P_graph_Order at hP
 obtain ⟨a1,cap1,rfl⟩:=hr1.shape
 obtain ⟨a2,cap2,rfl⟩:=hr2.shape
 refine enter Tryz.func33 rfl rfl rfl ?_
 have hS:=St.start hV
 refine q0m (q0n (v:=(.slice none 0 0)) rfl (q0n (v:=(.int .i64 (0:Int))) rfl (wpList_nil (q0l (q0m (q02 (v:=(.slice a1 nodes_p.length cap1)) rfl (z2q (args:=[(.slice a1 nodes_p.length cap1)]) rfl Tryz.call60 ?_)))))))
 refine enter Tryz.func60 rfl rfl rfl ?_
 refine q0m (u8f (cs:=[(.slice a1 nodes_p.length cap1)]) hS rfl rfl ?_)
 intro b1 w1 hS1
 refine q0n (v:= .nilFunc) rfl (wpList_nil (q0l (q0m (j6v (la:=[]) (lb:=[(.pointer (some ⟨b1,0,none⟩))]) rfl rfl (q0n (v:=(.func (.func 104) #[] #[(.pointer (some ⟨b1,0,none⟩))])) rfl (wpList_nil (q0l (wp_ret (ret1 rfl (show ev _ _ _=(.func (.func 104) #[] #[(.pointer (some ⟨b1,0,none⟩))]) from rfl) ?_)))))))))
 refine ⟨_,rfl,?_⟩
 refine z2q (args:=[(.func (.func 104) #[] #[(.pointer (some ⟨b1,0,none⟩))])]) rfl Tryz.call59 ?_
 refine enter Tryz.func59 rfl rfl rfl ?_
 refine q0m (q0n (v:=(.slice none 0 0)) rfl (wpList_nil (q0l (q0m (q02 (v:=(.func (.func 104) #[] #[(.pointer (some ⟨b1,0,none⟩))])) rfl (z2q (args:=[(.func (.func 104) #[] #[(.pointer (some ⟨b1,0,none⟩))])]) rfl Tryz.call103 ?_))))))
 refine enter Tryz.func103 rfl rfl rfl ?_
 refine q0m (q0n (v:=(.slice none 0 0)) rfl (wpList_nil (q0l (q0m (q02 (v:=(.func (.func 104) #[] #[(.pointer (some ⟨b1,0,none⟩))])) rfl ?_)))))
 obtain ⟨σ1,hS2,hsub1,hfr1⟩:=hS1.freeze' (i:=0) rfl rfl
 have hB1:σ1 b1=some (.cells #[(.slice a1 nodes_p.length cap1)] 30 (0,0)):=(hfr1 _ rfl).trans (hS1.get (i:=0) rfl)
 obtain ⟨hsm1,hP⟩:=hP
 refine z2q (args:=[(.slice none 0 0),(.func (.func 104) #[] #[(.pointer (some ⟨b1,0,none⟩))])]) rfl Tryz.call139 (Calls.mono (u85 b1 (.slice a1 nodes_p.length cap1) nodes_p hS2.view hB1 (RSl.menc hsub1 hr1) hsm1) ?_)
 rintro _ w2 ⟨v4,rfl,hg1,ho1⟩
 refine ⟨_,rfl,?_⟩
 have hS3:=hS2.growAdd hg1 (o:=vec v4 9 1 nodes_p.length ((nodes_p).flatMap q0g)) ho1
 refine q0n (v:=v4) rfl (wpList_nil (q0l (wp_ret (ret1 rfl (show ev _ _ _=v4 from rfl) ?_))))
 refine ⟨_,rfl,?_⟩
 refine q0n (v:=v4) rfl (wpList_nil (q0l (q0m (q02 (v:=v4) rfl ?_))))
 refine z2q (args:=[v4]) rfl Tryz.call30 (Calls.mono (y2o Tryz.slices_Sort_string Tryz.slices_Sort_string_none hS3.view (hS3.get (i:=0) rfl) rfl (fun b hb=>hS3.off _ (List.mem_of_getElem? (i:=0) rfl) b hb) (by have:=hsm1;unfold Sml at this;omega)) ?_)
 rintro _ w3 ⟨rfl,hg2,ho2⟩
 refine ⟨_,rfl,?_⟩
 have hS4:=hS3.growV (i:=0) (o':=vec v4 9 1 nodes_p.length ((srt nodes_p).flatMap q0g)) rfl hg2 rfl ho2 (ms':=[vec v4 9 1 nodes_p.length ((srt nodes_p).flatMap q0g)]) rfl
 have hS5:=hS4.re (ms':=[vec v4 9 1 ((srt nodes_p).length) ((srt nodes_p).flatMap q0g)]) (by simp only [q15])
 refine wpList_nil (q0l (q0m (q02 (v:=v4) rfl (q0n (v:=v4) rfl (wpList_nil (q0l (wp_ret (ret1 rfl (show ev _ _ _=v4 from rfl) ?_))))))))
 refine ⟨_,rfl,?_⟩
 refine q0n (v:=v4) rfl (wpList_nil (q0l (wp_seq (q0m (q02 (v:=v4) rfl ?_)))))
 obtain ⟨σ2,hS6,hsub2,hr4⟩:=hS5.peek (i:=0) rfl q94 (show Sml (srt nodes_p).length by rw [q15];exact hsm1)
 obtain ⟨Y1,hK1,hc1⟩:=hP
 refine z2q (args:=[v4]) rfl Tryz.call61 (Calls.mono (q9f (srt nodes_p) v4 hS6.view hr4 hc1) ?_)
 rintro _ w4 ⟨r1_,v5,rfl,hg3,hl1,hY1⟩
 refine ⟨_,rfl,?_⟩
 have hS7:=St.callM (ins:=[]) (rest:=[vec v4 9 1 ((srt nodes_p).length) ((srt nodes_p).flatMap q0g)]) (ms':=[vec v5 9 1 r1_.length ((r1_).flatMap q0g),vec v4 9 1 ((srt nodes_p).length) ((srt nodes_p).flatMap q0g)]) hS5 (St.back hg3 hsub2) rfl
 replace hP:=hK1 r1_ hY1
 obtain ⟨hsm2,hP⟩:=hP
 refine z2q (args:=[v5]) rfl Tryz.call31 (Calls.mono (w3a Tryz.slices_Compact_string Tryz.slices_Compact_string_empty hS7.view (hS7.get (i:=0) rfl) rfl (fun b hb=>hS7.off _ (List.mem_of_getElem? (i:=0) rfl) b hb) (by have:=hl1;unfold Sml at this;omega)) ?_)
 rintro _ w5 ⟨v6,rfl,hf1,hg4,ho3⟩
 refine ⟨_,rfl,?_⟩
 have ho4:=q7z ho3
 have hS8:=hS7.growV (i:=0) (o':=vec v6 9 1 ((cpt r1_).length) ((cpt r1_).flatMap q0g)) rfl hg4 hf1 ho3 (ms':=[vec v6 9 1 ((cpt r1_).length) ((cpt r1_).flatMap q0g),vec v4 9 1 ((srt nodes_p).length) ((srt nodes_p).flatMap q0g)]) rfl
 refine j32 hS8 rfl (i:=0) rfl Tryz.underlying30 ?_
 have hlen1:(cpt r1_).length≤9223372036854775807:=by have:=hsm2;unfold Sml at this;omega
 replace hP:=hP hlen1
 refine q02 (v:=v4) rfl (j32 hS8 rfl (i:=1) rfl Tryz.underlying30 ?_)
 have hlen2:(srt nodes_p).length≤9223372036854775807:=by have:=(show Sml (srt nodes_p).length by rw [q15];exact hsm1);unfold Sml at this;omega
 replace hP:=hP hlen2
 refine u8d (r:=(!decide ((((cpt r1_).length:Nat):Int)=(((srt nodes_p).length:Nat):Int)))) rfl rfl rfl (wpList_nil (q0l ?_))
 refine u6y ((((cpt r1_).length:Nat):Int)=(((srt nodes_p).length:Nat):Int)) rfl (fun ht1=> ?_) (fun ht1=> ?_)
 ·
  replace hP:=hP.2 ht1
  refine q0m (q0n (v:=(.slice none 0 0)) rfl (q0n (v:=(.int .i64 (10:Int))) rfl (wpList_nil (q0l (wp_ret (q6i (ret2 rfl (show ev _ _ _=(.slice none 0 0) from rfl) (show ev _ _ _=(.int .i64 (10:Int)) from rfl) ?_)))))))
  have hS9:=hS8.addNil 9 1
  exact ⟨[],(10:Int),(.slice none 0 0),rfl,(St.back (hS9.keep 1 (ms':=[vec (.slice none 0 0) 9 1 0 []]) rfl) (Sub.refl _)),(by simp [Sml]),hP⟩
 ·
  replace hP:=hP.1 ht1
  refine wp_skip (q0l (q0m (y4i 9 1 q0g hS8 ?_)))
  intro b2 w6 hS10
  refine v8o (cs:=[(.map none)]) hS10 Tryz.zeroValue126 rfl ?_
  intro b3 w7 hS11
  refine v8n (T:=126) (vs:=[(.map (some b2))]) (cs':=[(.map (some b2))]) (ms':=(blk b3 126 [(.map (some b2))]::smap b2 (asl [])::vec v6 9 1 ((cpt r1_).length) ((cpt r1_).flatMap q0g)::vec v4 9 1 ((srt nodes_p).length) ((srt nodes_p).flatMap q0g)::q5j 9 1 q0g [])) (i:=0) hS11 rfl rfl rfl Tryz.sizeOf126 rfl (ones rfl) rfl (Nat.le_of_ble_eq_true rfl) rfl rfl ?_
  intro w8 hS12
  refine wpList_nil (q0l (wp_seq (q0m (q02 (v:=(.slice a2 edges_p.length cap2)) rfl (z49 rfl Tryz.underlying77 ?_)))))
  have hlen3:=RSl.len63 hr2
  replace hP:=hP hlen3
  refine q02 (v:=(.int .i64 (0:Int))) rfl (wpList_nil (q0l (wp_block ?_)))
  have hS13:=hS12.front 3 rfl (ms':=(vec v4 9 1 ((srt nodes_p).length) ((srt nodes_p).flatMap q0g)::blk b3 126 [(.map (some b2))]::smap b2 (asl [])::vec v6 9 1 ((cpt r1_).length) ((cpt r1_).flatMap q0g)::q5j 9 1 q0g [])) rfl
  have hS14:=hS13.front 3 rfl (ms':=(vec v6 9 1 ((cpt r1_).length) ((cpt r1_).flatMap q0g)::vec v4 9 1 ((srt nodes_p).length) ((srt nodes_p).flatMap q0g)::blk b3 126 [(.map (some b2))]::smap b2 (asl [])::q5j 9 1 q0g [])) rfl
  have hS15:=hS14.front 2 rfl (ms':=(blk b3 126 [(.map (some b2))]::vec v6 9 1 ((cpt r1_).length) ((cpt r1_).flatMap q0g)::vec v4 9 1 ((srt nodes_p).length) ((srt nodes_p).flatMap q0g)::smap b2 (asl [])::q5j 9 1 q0g [])) rfl
  have hS16:=hS15.front 3 rfl (ms':=(smap b2 (asl [])::blk b3 126 [(.map (some b2))]::vec v6 9 1 ((cpt r1_).length) ((cpt r1_).flatMap q0g)::vec v4 9 1 ((srt nodes_p).length) ((srt nodes_p).flatMap q0g)::q5j 9 1 q0g [])) rfl
  refine u1o (fun k_3 F_2 f z=> ∃(es2:EL ByteArray) (σ3:Hv) (g:Fr),f=(upd (upd (upd (upd (upd g 6 v4) 7 (.pointer (some ⟨b3,0,none⟩))) 24 (.slice a2 edges_p.length cap2)) 25 (.int .i64 ((edges_p.length:Nat):Int))) 26 (.int .i64 ((k_3:Nat):Int)))∧St ⟨w,σ,[]⟩ z σ3 (smap b2 (asl es2)::blk b3 126 [(.map (some b2))]::vec v6 9 1 ((cpt r1_).length) ((cpt r1_).flatMap q0g)::vec v4 9 1 ((srt nodes_p).length) ((srt nodes_p).flatMap q0g)::q5j 9 1 q0g es2)∧Sub σ1 σ3∧ELF es2 F_2) hP ⟨[],σ1,_,(q1h rfl (q1h rfl (q1h rfl (q1h rfl (q1h rfl rfl))))),hS16,(Sub.refl _),ELF.nil⟩ ?_
  clear hP
  rintro k_3 F_2 Y2 hP f w9 ⟨es2,σ3,g,rfl,hS17,hsub3,hF2⟩
  refine q0m (y60 (r:=(decide (((k_3:Nat):Int)<((edges_p.length:Nat):Int)))) rfl rfl rfl (wpList_nil (q0l (wp_seq ?_))))
  refine if_d (((k_3:Nat):Int)<((edges_p.length:Nat):Int)) rfl (fun ht2=> ?_) (fun ht2=> ?_)
  ·
   replace hP:=hP.1 ht2
   refine wp_skip (q0l (wp_seq (wp_block (q0m ?_))))
   obtain ⟨x1_,hx1⟩:=getq (l:=edges_p) (k:=k_3) (by have:=ht2;omega)
   replace hP:=hP x1_ hx1
   obtain ⟨ad1,cs1,ha1,hl2,hr6,hR1,hlt1⟩:=RSl.at hr2 hx1
   cases hR1
   refine q5v (k:=k_3) (a':=(ad1.add (k_3*2))) (congrArg (fun z=>Value.slice z _ _) ha1) rfl rfl hlt1 Tryz.underlying77 Tryz.sizeOf79 rfl (u4h (cs:=[(.string x1_.1),(.string x1_.2)]) rfl Tryz.isAgg79 Tryz.sizeOf79 rfl (hr6.row (View.of (Sub.trans hsub1 hsub3) hS17.view)) (v8o (cs:=[(.string (⟨#[]⟩:ByteArray)),(.string (⟨#[]⟩:ByteArray))]) hS17 Tryz.zeroValue79 rfl ?_))
   intro b4 w10 hS18
   refine v8n (T:=79) (vs:=[(.string x1_.1),(.string x1_.2)]) (cs':=[(.string x1_.1),(.string x1_.2)]) (ms':=(blk b4 79 [(.string x1_.1),(.string x1_.2)]::smap b2 (asl es2)::blk b3 126 [(.map (some b2))]::vec v6 9 1 ((cpt r1_).length) ((cpt r1_).flatMap q0g)::vec v4 9 1 ((srt nodes_p).length) ((srt nodes_p).flatMap q0g)::q5j 9 1 q0g es2)) (i:=0) hS18 rfl rfl rfl Tryz.sizeOf79 rfl (ones rfl) rfl (Nat.le_of_ble_eq_true rfl) rfl rfl ?_
   intro w11 hS19
   refine wpList_nil (q0l (wp_seq (q0m (q02 (v:=v4) rfl (w2u (a':=⟨b4,0,none⟩) rfl Tryz.underlying79 rfl Tryz.sizeOf9 rfl (z1i (v:=(.string x1_.1)) rfl Tryz.isAgg9 (hS19.cell (i:=0) rfl rfl) ?_))))))
   obtain ⟨σ4,hS20,hsub4,hr7⟩:=hS19.peek (i:=4) rfl q94 (show Sml (srt nodes_p).length by rw [q15];exact hsm1)
   obtain ⟨Y3,hK2,hc2⟩:=hP
   refine z2q (args:=[v4,(.string x1_.1)]) rfl Tryz.call50 (Calls.mono (q25 (srt nodes_p) x1_.1 v4 hS20.view hr7 hc2) ?_)
   rintro _ w12 ⟨r2_,rfl,hg5,hY2⟩
   refine ⟨_,rfl,?_⟩
   have hg5b:=hg5.back hsub4
   have hS21:=hS19.grow hg5b
   replace hP:=hK2 r2_ hY2
   refine u1g (r:=(!r2_)) rfl rfl ?_
   rcases Bool.eq_false_or_eq_true (r2_) with hb1|hb1
   ·
    replace hP:=hP.1 hb1
    refine q02 (v:=(.bool false)) (congrArg Value.bool (congrArg Bool.not hb1)) (o_on rfl rfl (q02 (v:=v4) rfl (o_on rfl rfl (w2u (a':=⟨b4,1,none⟩) rfl Tryz.underlying79 rfl Tryz.sizeOf9 rfl (o_on rfl rfl (z1i (v:=(.string x1_.2)) rfl Tryz.isAgg9 (hS21.cell (i:=0) rfl rfl) (o_on rfl rfl ?_)))))))
    obtain ⟨σ5,hS22,hsub5,hr8⟩:=hS21.peek (i:=4) rfl q94 (show Sml (srt nodes_p).length by rw [q15];exact hsm1)
    obtain ⟨Y4,hK3,hc3⟩:=hP
    refine z2q (args:=[v4,(.string x1_.2)]) rfl Tryz.call50 (Calls.mono (q25 (srt nodes_p) x1_.2 v4 hS22.view hr8 hc3) ?_)
    rintro _ w13 ⟨r3_,rfl,hg6,hY3⟩
    refine ⟨_,rfl,?_⟩
    have hg6b:=hg6.back hsub5
    have hS23:=hS21.grow hg6b
    replace hP:=hK3 r3_ hY3
    refine o_on rfl rfl (u1g (r:=(!r3_)) rfl rfl (u1e (v:=(.bool (!r3_))) rfl rfl (wpList_nil (q0l ?_))))
    refine u6z rfl (fun ht3=> ?_) (fun ht3=> ?_)
    ·
     replace hP:=hP.2 (by first|(rw [ht3];exact Bool.false_ne_true)|simp [ht3])
     refine q0m (q0n (v:=(.slice none 0 0)) rfl (q0n (v:=(.int .i64 (11:Int))) rfl (wpList_nil (q0l (wp_ret (q6i (w0j (q6i (q6i (w0j (q6i (ret2 rfl (show ev _ _ _=(.slice none 0 0) from rfl) (show ev _ _ _=(.int .i64 (11:Int)) from rfl) ?_))))))))))))
     have hS24:=hS23.addNil 9 1
     exact ⟨[],(11:Int),(.slice none 0 0),rfl,(St.back (hS24.keep 1 (ms':=[vec (.slice none 0 0) 9 1 0 []]) rfl) (Sub.refl _)),(by simp [Sml]),hP⟩
    ·
     replace hP:=hP.1 ht3
     refine wp_skip (q0l (dr (fun z=>St ⟨w,σ,[]⟩ z σ3 [blk b4 79 [(.string x1_.1),(.string x1_.2)],blk b3 126 [(.map (some b2))],vec v6 9 1 ((cpt r1_).length) ((cpt r1_).flatMap q0g),vec v4 9 1 ((srt nodes_p).length) ((srt nodes_p).flatMap q0g)]) (by kernel_rfl) rfl ?_))
     have hS25:=hS23.drew
     refine dt 0 1 (v:=(.map (some b2))) (by kernel_rfl) rfl rfl (fun _ _ _ h=>h) (hS25.sublist (.cons_cons _ (.cons _ (.cons_cons _ (.cons_cons _ (.cons_cons _ (List.nil_sublist _))))))) (fun _ hJ _ hK=>z1i (v:=(.map (some b2))) rfl Tryz.isAgg126 (hJ.cell (i:=1) rfl rfl) ⟨rfl,hK⟩) (dt 1 3 (v:=(.pointer (some ⟨b4,0,none⟩))) (by kernel_rfl) rfl rfl (fun _ _ _ h=>h) (hS25.sublist (.cons_cons _ (.cons _ (.cons_cons _ (.cons_cons _ (.cons_cons _ (List.nil_sublist _))))))) (fun _ _ _ hK=>w2u (a':=⟨b4,0,none⟩) rfl Tryz.underlying79 rfl Tryz.sizeOf9 rfl ⟨rfl,hK⟩) (dt 2 7 (v:=(.string x1_.1)) (by kernel_rfl) rfl rfl (fun _ _ _ h=>h) (hS25.sublist (.cons_cons _ (.cons _ (.cons_cons _ (.cons_cons _ (.cons_cons _ (List.nil_sublist _))))))) (fun _ hJ _ hK=>z1i (v:=(.string x1_.1)) rfl Tryz.isAgg9 (hJ.cell (i:=0) rfl rfl) ⟨rfl,hK⟩) (dt 3 15 (v:=(.map (some b2))) (by kernel_rfl) rfl rfl (fun _ _ _ h=>h) (hS25.sublist (.cons_cons _ (.cons _ (.cons_cons _ (.cons_cons _ (.cons_cons _ (List.nil_sublist _))))))) (fun _ hJ _ hK=>z1i (v:=(.map (some b2))) rfl Tryz.isAgg126 (hJ.cell (i:=1) rfl rfl) ⟨rfl,hK⟩) (dt 4 31 (v:=(.pointer (some ⟨b4,0,none⟩))) (by kernel_rfl) rfl rfl (fun _ _ _ h=>h) (hS25.sublist (.cons_cons _ (.cons _ (.cons_cons _ (.cons_cons _ (.cons_cons _ (List.nil_sublist _))))))) (fun _ _ _ hK=>w2u (a':=⟨b4,0,none⟩) rfl Tryz.underlying79 rfl Tryz.sizeOf9 rfl ⟨rfl,hK⟩) (dt 5 63 (v:=(.string x1_.1)) (by kernel_rfl) rfl rfl (fun _ _ _ h=>h) (hS25.sublist (.cons_cons _ (.cons _ (.cons_cons _ (.cons_cons _ (.cons_cons _ (List.nil_sublist _))))))) (fun _ hJ _ hK=>z1i (v:=(.string x1_.1)) rfl Tryz.isAgg9 (hJ.cell (i:=0) rfl rfl) ⟨rfl,hK⟩) (dt 7 191 (v:=(.pointer (some ⟨b4,1,none⟩))) (by kernel_rfl) rfl rfl (fun _ _ _ h=>h) (hS25.sublist (.cons_cons _ (.cons _ (.cons_cons _ (.cons_cons _ (.cons_cons _ (List.nil_sublist _))))))) (fun _ _ _ hK=>w2u (a':=⟨b4,1,none⟩) rfl Tryz.underlying79 rfl Tryz.sizeOf9 rfl ⟨rfl,hK⟩) (dt 8 447 (v:=(.string x1_.2)) (by kernel_rfl) rfl rfl (fun _ _ _ h=>h) (hS25.sublist (.cons_cons _ (.cons _ (.cons_cons _ (.cons_cons _ (.cons_cons _ (List.nil_sublist _))))))) (fun _ hJ _ hK=>z1i (v:=(.string x1_.2)) rfl Tryz.isAgg9 (hJ.cell (i:=0) rfl rfl) ⟨rfl,hK⟩) ?_)))))))
     refine d2 6 9 511 959 (by kernel_rfl) rfl rfl rfl rfl ?_ ?_
     ·
      obtain ⟨v7,hv1⟩: ∃v,(asl es2 x1_.1).getD (.slice none 0 0)=v:=⟨_,rfl⟩
      refine y68 (i:=1) (v:=v7) hS25 rfl rfl rfl Tryz.underlying126 Tryz.underlying9 Tryz.zeroValue30 hv1 (wpList_nil ?_)
      refine ⟨rfl,(hS25.sublist (.cons_cons _ (.cons _ (.cons_cons _ (.cons_cons _ (.cons_cons _ (List.nil_sublist _))))))),?_⟩
      refine d1 9 1023 (by kernel_rfl) rfl (w1y (cs:=[(.string x1_.2)]) (e:=9) hS25 (fun _=>by kernel_rfl) ?_)
      intro b5 w14 hS26
      refine wpList_nil ?_
      refine ⟨rfl,(hS26.sublist (.cons _ (.cons_cons _ (.cons _ (.cons_cons _ (.cons_cons _ (.cons_cons _ (List.nil_sublist _)))))))),?_⟩
      refine d1 10 2047 (by kernel_rfl) rfl ?_
      obtain ⟨es3,hS27,hL1,hl3⟩:=St.borrow (ms:=[blk b5 9 [(.string x1_.2)],blk b4 79 [(.string x1_.1),(.string x1_.2)],smap b2 (asl es2),blk b3 126 [(.map (some b2))],vec v6 9 1 ((cpt r1_).length) ((cpt r1_).flatMap q0g),vec v4 9 1 ((srt nodes_p).length) ((srt nodes_p).flatMap q0g)]) hS26 hF2 x1_.1 hv1
      obtain ⟨hsm3,hP⟩:=hP
      refine u4p (Ms:=fun v8=>(vec v8 9 1 ((((F_2 x1_.1).getD [])++[x1_.2]).length) ((((F_2 x1_.1).getD [])++[x1_.2]).flatMap q0g)::blk b5 9 [(.string x1_.2)]::blk b4 79 [(.string x1_.1),(.string x1_.2)]::smap b2 (asl es2)::blk b3 126 [(.map (some b2))]::vec v6 9 1 ((cpt r1_).length) ((cpt r1_).flatMap q0g)::vec v4 9 1 ((srt nodes_p).length) ((srt nodes_p).flatMap q0g)::q5j 9 1 q0g es3)) (k':=(((F_2 x1_.1).getD [])++[x1_.2]).length) (xs':=(((F_2 x1_.1).getD [])++[x1_.2]).flatMap q0g) Tryz.underlying30 Tryz.type9 rfl rfl (bytes:=16) rfl rfl (Nat.succ_pos _) hS27 rfl (q:=0) rfl rfl rfl (z3o (hS27.get (i:=1) rfl)) (ones rfl) hsm3 (by omega) (by first|rfl|exact List.length_append.symm|simp) (by simp [q0g]) (fun _=>rfl) ?_
      intro v8 w15 ho5 hS28
      have hS29:=hS28.drop 1 (ms':=(vec v8 9 1 ((((F_2 x1_.1).getD [])++[x1_.2]).length) ((((F_2 x1_.1).getD [])++[x1_.2]).flatMap q0g)::blk b4 79 [(.string x1_.1),(.string x1_.2)]::smap b2 (asl es2)::blk b3 126 [(.map (some b2))]::vec v6 9 1 ((cpt r1_).length) ((cpt r1_).flatMap q0g)::vec v4 9 1 ((srt nodes_p).length) ((srt nodes_p).flatMap q0g)::q5j 9 1 q0g es3)) rfl
      refine wpList_nil ?_
      refine ⟨rfl,(hS29.sublist (.cons _ (.cons_cons _ (.cons _ (.cons_cons _ (.cons_cons _ (.cons_cons _ (List.nil_sublist _)))))))),?_⟩
      refine d1 11 4095 (by kernel_rfl) rfl (u4m (v:=v8) (i:=2) (ms':=(vec v8 9 1 ((((F_2 x1_.1).getD [])++[x1_.2]).length) ((((F_2 x1_.1).getD [])++[x1_.2]).flatMap q0g)::blk b4 79 [(.string x1_.1),(.string x1_.2)]::smap b2 (fun k'=>if k'=x1_.1 then some v8 else asl es2 k')::blk b3 126 [(.map (some b2))]::vec v6 9 1 ((cpt r1_).length) ((cpt r1_).flatMap q0g)::vec v4 9 1 ((srt nodes_p).length) ((srt nodes_p).flatMap q0g)::q5j 9 1 q0g es3)) hS29 rfl rfl rfl rfl Tryz.underlying126 Tryz.underlying9 rfl ?_)
      intro w16 hS30
      have hS32:=St.giveback (ms:=[blk b4 79 [(.string x1_.1),(.string x1_.2)],smap b2 (fun k'=>if k'=x1_.1 then some v8 else asl es2 k'),blk b3 126 [(.map (some b2))],vec v6 9 1 ((cpt r1_).length) ((cpt r1_).flatMap q0g),vec v4 9 1 ((srt nodes_p).length) ((srt nodes_p).flatMap q0g)]) (ms':=[blk b4 79 [(.string x1_.1),(.string x1_.2)],smap b2 (asl ((x1_.1,v8,((F_2 x1_.1).getD [])++[x1_.2])::es3)),blk b3 126 [(.map (some b2))],vec v6 9 1 ((cpt r1_).length) ((cpt r1_).flatMap q0g),vec v4 9 1 ((srt nodes_p).length) ((srt nodes_p).flatMap q0g)]) (i:=1) hS30 hL1 rfl rfl
      have hF3:=ELF.put (v:=v8) hF2 hL1 hsm3
      refine wpList_nil ?_
      refine ⟨rfl,(hS32.sublist (.cons_cons _ (.cons _ (.cons_cons _ (.cons_cons _ (.cons_cons _ (List.nil_sublist _))))))),w1z (J':=fun z=>St ⟨w,σ,[]⟩ z σ3 (blk b4 79 [(.string x1_.1),(.string x1_.2)]::smap b2 (asl ((x1_.1,v8,((F_2 x1_.1).getD [])++[x1_.2])::es3))::blk b3 126 [(.map (some b2))]::vec v6 9 1 ((cpt r1_).length) ((cpt r1_).flatMap q0g)::vec v4 9 1 ((srt nodes_p).length) ((srt nodes_p).flatMap q0g)::q5j 9 1 q0g ((x1_.1,v8,((F_2 x1_.1).getD [])++[x1_.2])::es3))) (fun w h=>h.sublist (.cons_cons _ (.cons _ (.cons_cons _ (.cons_cons _ (.cons_cons _ (List.nil_sublist _))))))) _ _ _ _ ?_⟩
      refine dz (by kernel_rfl) (y4d (q0l (j6u (y4c (r:=((k_3+1:Nat):Int)) rfl rfl (nw (by omega) (by omega) (by have:=hlen3;omega)) (q02 (v:=(.int .i64 ((k_3+1:Nat):Int))) rfl (wpList_nil (q0l ?_)))))))
      exact ⟨k_3+1,(put F_2 x1_.1 (((F_2 x1_.1).getD [])++[x1_.2])),_,rfl,hP,((x1_.1,v8,((F_2 x1_.1).getD [])++[x1_.2])::es3),σ3,_,(q1h rfl (q1h rfl (q1h rfl (q1h rfl (q1h rfl rfl))))),(hS32.sublist (ms':=(smap b2 (asl ((x1_.1,v8,((F_2 x1_.1).getD [])++[x1_.2])::es3))::blk b3 126 [(.map (some b2))]::vec v6 9 1 ((cpt r1_).length) ((cpt r1_).flatMap q0g)::vec v4 9 1 ((srt nodes_p).length) ((srt nodes_p).flatMap q0g)::q5j 9 1 q0g ((x1_.1,v8,((F_2 x1_.1).getD [])++[x1_.2])::es3))) (.cons _ (List.Sublist.refl _))),hsub3,hF3⟩
     ·
      refine w1y (cs:=[(.string x1_.2)]) (e:=9) hS25 (fun _=>by kernel_rfl) ?_
      intro b5 w14 hS26
      refine wpList_nil ?_
      refine ⟨rfl,(hS26.sublist (.cons _ (.cons_cons _ (.cons _ (.cons_cons _ (.cons_cons _ (.cons_cons _ (List.nil_sublist _)))))))),?_⟩
      refine d1 6 1023 (by kernel_rfl) rfl ?_
      obtain ⟨v7,hv1⟩: ∃v,(asl es2 x1_.1).getD (.slice none 0 0)=v:=⟨_,rfl⟩
      refine y68 (i:=2) (v:=v7) hS26 rfl rfl rfl Tryz.underlying126 Tryz.underlying9 Tryz.zeroValue30 hv1 (wpList_nil ?_)
      refine ⟨rfl,(hS26.sublist (.cons _ (.cons_cons _ (.cons _ (.cons_cons _ (.cons_cons _ (.cons_cons _ (List.nil_sublist _)))))))),?_⟩
      refine d1 10 2047 (by kernel_rfl) rfl ?_
      obtain ⟨es3,hS27,hL1,hl3⟩:=St.borrow (ms:=[blk b5 9 [(.string x1_.2)],blk b4 79 [(.string x1_.1),(.string x1_.2)],smap b2 (asl es2),blk b3 126 [(.map (some b2))],vec v6 9 1 ((cpt r1_).length) ((cpt r1_).flatMap q0g),vec v4 9 1 ((srt nodes_p).length) ((srt nodes_p).flatMap q0g)]) hS26 hF2 x1_.1 hv1
      obtain ⟨hsm3,hP⟩:=hP
      refine u4p (Ms:=fun v8=>(vec v8 9 1 ((((F_2 x1_.1).getD [])++[x1_.2]).length) ((((F_2 x1_.1).getD [])++[x1_.2]).flatMap q0g)::blk b5 9 [(.string x1_.2)]::blk b4 79 [(.string x1_.1),(.string x1_.2)]::smap b2 (asl es2)::blk b3 126 [(.map (some b2))]::vec v6 9 1 ((cpt r1_).length) ((cpt r1_).flatMap q0g)::vec v4 9 1 ((srt nodes_p).length) ((srt nodes_p).flatMap q0g)::q5j 9 1 q0g es3)) (k':=(((F_2 x1_.1).getD [])++[x1_.2]).length) (xs':=(((F_2 x1_.1).getD [])++[x1_.2]).flatMap q0g) Tryz.underlying30 Tryz.type9 rfl rfl (bytes:=16) rfl rfl (Nat.succ_pos _) hS27 rfl (q:=0) rfl rfl rfl (z3o (hS27.get (i:=1) rfl)) (ones rfl) hsm3 (by omega) (by first|rfl|exact List.length_append.symm|simp) (by simp [q0g]) (fun _=>rfl) ?_
      intro v8 w15 ho5 hS28
      have hS29:=hS28.drop 1 (ms':=(vec v8 9 1 ((((F_2 x1_.1).getD [])++[x1_.2]).length) ((((F_2 x1_.1).getD [])++[x1_.2]).flatMap q0g)::blk b4 79 [(.string x1_.1),(.string x1_.2)]::smap b2 (asl es2)::blk b3 126 [(.map (some b2))]::vec v6 9 1 ((cpt r1_).length) ((cpt r1_).flatMap q0g)::vec v4 9 1 ((srt nodes_p).length) ((srt nodes_p).flatMap q0g)::q5j 9 1 q0g es3)) rfl
      refine wpList_nil ?_
      refine ⟨rfl,(hS29.sublist (.cons _ (.cons_cons _ (.cons _ (.cons_cons _ (.cons_cons _ (.cons_cons _ (List.nil_sublist _)))))))),?_⟩
      refine d1 11 4095 (by kernel_rfl) rfl (u4m (v:=v8) (i:=2) (ms':=(vec v8 9 1 ((((F_2 x1_.1).getD [])++[x1_.2]).length) ((((F_2 x1_.1).getD [])++[x1_.2]).flatMap q0g)::blk b4 79 [(.string x1_.1),(.string x1_.2)]::smap b2 (fun k'=>if k'=x1_.1 then some v8 else asl es2 k')::blk b3 126 [(.map (some b2))]::vec v6 9 1 ((cpt r1_).length) ((cpt r1_).flatMap q0g)::vec v4 9 1 ((srt nodes_p).length) ((srt nodes_p).flatMap q0g)::q5j 9 1 q0g es3)) hS29 rfl rfl rfl rfl Tryz.underlying126 Tryz.underlying9 rfl ?_)
      intro w16 hS30
      have hS32:=St.giveback (ms:=[blk b4 79 [(.string x1_.1),(.string x1_.2)],smap b2 (fun k'=>if k'=x1_.1 then some v8 else asl es2 k'),blk b3 126 [(.map (some b2))],vec v6 9 1 ((cpt r1_).length) ((cpt r1_).flatMap q0g),vec v4 9 1 ((srt nodes_p).length) ((srt nodes_p).flatMap q0g)]) (ms':=[blk b4 79 [(.string x1_.1),(.string x1_.2)],smap b2 (asl ((x1_.1,v8,((F_2 x1_.1).getD [])++[x1_.2])::es3)),blk b3 126 [(.map (some b2))],vec v6 9 1 ((cpt r1_).length) ((cpt r1_).flatMap q0g),vec v4 9 1 ((srt nodes_p).length) ((srt nodes_p).flatMap q0g)]) (i:=1) hS30 hL1 rfl rfl
      have hF3:=ELF.put (v:=v8) hF2 hL1 hsm3
      refine wpList_nil ?_
      refine ⟨rfl,(hS32.sublist (.cons_cons _ (.cons _ (.cons_cons _ (.cons_cons _ (.cons_cons _ (List.nil_sublist _))))))),w1z (J':=fun z=>St ⟨w,σ,[]⟩ z σ3 (blk b4 79 [(.string x1_.1),(.string x1_.2)]::smap b2 (asl ((x1_.1,v8,((F_2 x1_.1).getD [])++[x1_.2])::es3))::blk b3 126 [(.map (some b2))]::vec v6 9 1 ((cpt r1_).length) ((cpt r1_).flatMap q0g)::vec v4 9 1 ((srt nodes_p).length) ((srt nodes_p).flatMap q0g)::q5j 9 1 q0g ((x1_.1,v8,((F_2 x1_.1).getD [])++[x1_.2])::es3))) (fun w h=>h.sublist (.cons_cons _ (.cons _ (.cons_cons _ (.cons_cons _ (.cons_cons _ (List.nil_sublist _))))))) _ _ _ _ ?_⟩
      refine dz (by kernel_rfl) (y4d (q0l (j6u (y4c (r:=((k_3+1:Nat):Int)) rfl rfl (nw (by omega) (by omega) (by have:=hlen3;omega)) (q02 (v:=(.int .i64 ((k_3+1:Nat):Int))) rfl (wpList_nil (q0l ?_)))))))
      exact ⟨k_3+1,(put F_2 x1_.1 (((F_2 x1_.1).getD [])++[x1_.2])),_,rfl,hP,((x1_.1,v8,((F_2 x1_.1).getD [])++[x1_.2])::es3),σ3,_,(q1h rfl (q1h rfl (q1h rfl (q1h rfl (q1h rfl rfl))))),(hS32.sublist (ms':=(smap b2 (asl ((x1_.1,v8,((F_2 x1_.1).getD [])++[x1_.2])::es3))::blk b3 126 [(.map (some b2))]::vec v6 9 1 ((cpt r1_).length) ((cpt r1_).flatMap q0g)::vec v4 9 1 ((srt nodes_p).length) ((srt nodes_p).flatMap q0g)::q5j 9 1 q0g ((x1_.1,v8,((F_2 x1_.1).getD [])++[x1_.2])::es3))) (.cons _ (List.Sublist.refl _))),hsub3,hF3⟩
   ·
    replace hP:=hP.2 (by first|(rw [hb1];exact Bool.false_ne_true)|simp [hb1])
    refine q02 (v:=(.bool true)) (congrArg Value.bool (congrArg Bool.not hb1)) (y6z rfl rfl (y6z rfl rfl (y6z rfl rfl (y6z rfl rfl (y6z rfl rfl (u1d (v:=(.bool true)) rfl rfl (wpList_nil (q0l (if_t rfl (q0m (q0n (v:=(.slice none 0 0)) rfl (q0n (v:=(.int .i64 (11:Int))) rfl (wpList_nil (q0l (wp_ret (q6i (w0j (q6i (q6i (w0j (q6i (ret2 rfl (show ev _ _ _=(.slice none 0 0) from rfl) (show ev _ _ _=(.int .i64 (11:Int)) from rfl) ?_))))))))))))))))))))))
    have hS33:=hS21.addNil 9 1
    exact ⟨[],(11:Int),(.slice none 0 0),rfl,(St.back (hS33.keep 1 (ms':=[vec (.slice none 0 0) 9 1 0 []]) rfl) (Sub.refl _)),(by simp [Sml]),hP⟩
  ·
   replace hP:=hP.2 ht2
   refine wp_exit (j1b (j1b (w2w (q0l (q0m (q0n (v:=(.slice none 0 0)) rfl (wpList_nil (q0l (q0m (u4n (fun y:Bool=>(Value.bool (y))) hS17 ?_))))))))))
   intro b6 w17 hS34
   refine v8o (cs:=[(.map none)]) hS34 Tryz.zeroValue127 rfl ?_
   intro b7 w18 hS35
   refine v8n (T:=127) (vs:=[(.map (some b6))]) (cs':=[(.map (some b6))]) (ms':=(blk b7 127 [(.map (some b6))]::emap b6 (fun y:Bool=>(Value.bool (y))) (fun _=>none)::smap b2 (asl es2)::blk b3 126 [(.map (some b2))]::vec v6 9 1 ((cpt r1_).length) ((cpt r1_).flatMap q0g)::vec v4 9 1 ((srt nodes_p).length) ((srt nodes_p).flatMap q0g)::q5j 9 1 q0g es2)) (i:=0) hS35 rfl rfl rfl Tryz.sizeOf127 rfl (ones rfl) rfl (Nat.le_of_ble_eq_true rfl) rfl rfl ?_
   intro w19 hS36
   refine wpList_nil (q0l (wp_seq (wp_block ?_)))
   obtain ⟨σ6,hS37,hsub6,hr9⟩:=St.freezeL (ms:=[blk b7 127 [(.map (some b6))],emap b6 (fun y:Bool=>(Value.bool (y))) (fun _=>none),smap b2 (asl es2),blk b3 126 [(.map (some b2))],vec v6 9 1 ((cpt r1_).length) ((cpt r1_).flatMap q0g),vec v4 9 1 ((srt nodes_p).length) ((srt nodes_p).flatMap q0g)]) (ms':=[blk b7 127 [(.map (some b6))],emap b6 (fun y:Bool=>(Value.bool (y))) (fun _=>none),blk b3 126 [(.map (some b2))],vec v6 9 1 ((cpt r1_).length) ((cpt r1_).flatMap q0g),vec v4 9 1 ((srt nodes_p).length) ((srt nodes_p).flatMap q0g)]) (i:=2) hS36 hF2 q94 rfl rfl
   have hS38:=hS37.addNil 9 1
   have hS39:=hS38.front 4 rfl (ms':=[vec v6 9 1 ((cpt r1_).length) ((cpt r1_).flatMap q0g),vec (.slice none 0 0) 9 1 0 [],blk b7 127 [(.map (some b6))],emap b6 (fun y:Bool=>(Value.bool (y))) (fun _=>none),blk b3 126 [(.map (some b2))],vec v4 9 1 ((srt nodes_p).length) ((srt nodes_p).flatMap q0g)]) rfl
   have hS40:=hS39.front 4 rfl (ms':=[blk b3 126 [(.map (some b2))],vec v6 9 1 ((cpt r1_).length) ((cpt r1_).flatMap q0g),vec (.slice none 0 0) 9 1 0 [],blk b7 127 [(.map (some b6))],emap b6 (fun y:Bool=>(Value.bool (y))) (fun _=>none),vec v4 9 1 ((srt nodes_p).length) ((srt nodes_p).flatMap q0g)]) rfl
   have hS41:=hS40.front 3 rfl (ms':=[blk b7 127 [(.map (some b6))],blk b3 126 [(.map (some b2))],vec v6 9 1 ((cpt r1_).length) ((cpt r1_).flatMap q0g),vec (.slice none 0 0) 9 1 0 [],emap b6 (fun y:Bool=>(Value.bool (y))) (fun _=>none),vec v4 9 1 ((srt nodes_p).length) ((srt nodes_p).flatMap q0g)]) rfl
   have hS42:=hS41.front 4 rfl (ms':=[emap b6 (fun y:Bool=>(Value.bool (y))) (fun _=>none),blk b7 127 [(.map (some b6))],blk b3 126 [(.map (some b2))],vec v6 9 1 ((cpt r1_).length) ((cpt r1_).flatMap q0g),vec (.slice none 0 0) 9 1 0 [],vec v4 9 1 ((srt nodes_p).length) ((srt nodes_p).flatMap q0g)]) rfl
   have hS43:=hS42.front 4 rfl (ms':=[vec (.slice none 0 0) 9 1 0 [],emap b6 (fun y:Bool=>(Value.bool (y))) (fun _=>none),blk b7 127 [(.map (some b6))],blk b3 126 [(.map (some b2))],vec v6 9 1 ((cpt r1_).length) ((cpt r1_).flatMap q0g),vec v4 9 1 ((srt nodes_p).length) ((srt nodes_p).flatMap q0g)]) rfl
   have hS44:=hS43.front 5 rfl (ms':=[vec v4 9 1 ((srt nodes_p).length) ((srt nodes_p).flatMap q0g),vec (.slice none 0 0) 9 1 0 [],emap b6 (fun y:Bool=>(Value.bool (y))) (fun _=>none),blk b7 127 [(.map (some b6))],blk b3 126 [(.map (some b2))],vec v6 9 1 ((cpt r1_).length) ((cpt r1_).flatMap q0g)]) rfl
   refine u1p (fun left_3 out_3 F_4 f z=> ∃(v13:Value) (v14:Value) (σ7:Hv) (g:Fr),f=(upd (upd (upd (upd g 6 v13) 7 (.pointer (some ⟨b3,0,none⟩))) 10 v14) 11 (.pointer (some ⟨b7,0,none⟩)))∧St ⟨w,σ,[]⟩ z σ7 [vec v13 9 1 left_3.length ((left_3).flatMap q0g),vec v14 9 1 out_3.length ((out_3).flatMap q0g),emap b6 (fun y:Bool=>(Value.bool (y))) F_4,blk b7 127 [(.map (some b6))],blk b3 126 [(.map (some b2))],vec v6 9 1 ((cpt r1_).length) ((cpt r1_).flatMap q0g)]∧Sub σ6 σ7∧v13.oneCell'=true∧Sml left_3.length∧v14.oneCell'=true∧Sml out_3.length) hP ⟨v4,(.slice none 0 0),σ6,_,(q1h rfl (q1h rfl (q1h rfl (q1h rfl rfl)))),hS44,(Sub.refl _),(q7z ho1.1),(show Sml (srt nodes_p).length by rw [q15];exact hsm1),rfl,(by simp [Sml])⟩ ?_
   clear hP
   rintro left_3 out_3 F_4 Y5 hP f w20 ⟨v13,v14,σ7,g,rfl,hS45,hsub7,ho10,hl8,ho11,hl9⟩
   refine wp_seq (q0m (q02 (v:=v13) rfl (j32 hS45 rfl (i:=0) rfl Tryz.underlying30 ?_)))
   have hlen4:left_3.length≤9223372036854775807:=by have:=hl8;unfold Sml at this;omega
   replace hP:=hP hlen4
   refine u8e (r:=(decide ((0:Int)<((left_3.length:Nat):Int)))) rfl rfl rfl (wpList_nil (q0l ?_))
   refine if_d ((0:Int)<((left_3.length:Nat):Int)) rfl (fun ht4=> ?_) (fun ht4=> ?_)
   ·
    replace hP:=hP.1 ht4
    refine wp_skip (q0l (wp_block (q0m (q02 (v:=v13) rfl (j6v (la:=[]) (lb:=[(.pointer (some ⟨b3,0,none⟩)),(.pointer (some ⟨b7,0,none⟩))]) rfl rfl ?_)))))
    obtain ⟨Y6,hK4,hP⟩:=hP
    refine z2q (args:=[v13,(.func (.func 63) #[] #[(.pointer (some ⟨b3,0,none⟩)),(.pointer (some ⟨b7,0,none⟩))])]) rfl Tryz.call62 (Calls.mono (R:=fun e z=> ∃(r_1:Int) (σ8:Hv),e= .returned (.int .i64 r_1)∧Y6 r_1∧St ⟨w,σ,[]⟩ z σ8 [vec v13 9 1 left_3.length ((left_3).flatMap q0g),vec v14 9 1 out_3.length ((out_3).flatMap q0g),emap b6 (fun y:Bool=>(Value.bool (y))) F_4,blk b7 127 [(.map (some b6))],blk b3 126 [(.map (some b2))],vec v6 9 1 ((cpt r1_).length) ((cpt r1_).flatMap q0g)]∧Sub σ7 σ8) ?_ ?_)
    ·
     refine enter Tryz.func62 rfl rfl rfl ?_
     refine q0m (q0n (v:=(.int .i64 (0:Int))) rfl (wpList_nil (q0l (wp_seq (q0m (q02 (v:=v13) rfl (j32 hS45 rfl (i:=0) rfl Tryz.underlying30 (q02 (v:=(.int .i64 (0:Int))) rfl (wpList_nil (q0l (wp_block ?_)))))))))))
     refine v05 (fun k_5 f z=> ∃(σ9:Hv) (g:Fr),f=(upd (upd (upd (upd g 0 v13) 1 (.func (.func 63) #[] #[(.pointer (some ⟨b3,0,none⟩)),(.pointer (some ⟨b7,0,none⟩))])) 7 (.int .i64 ((left_3.length:Nat):Int))) 8 (.int .i64 ((k_5:Nat):Int)))∧St ⟨w,σ,[]⟩ z σ9 [vec v13 9 1 left_3.length ((left_3).flatMap q0g),vec v14 9 1 out_3.length ((out_3).flatMap q0g),emap b6 (fun y:Bool=>(Value.bool (y))) F_4,blk b7 127 [(.map (some b6))],blk b3 126 [(.map (some b2))],vec v6 9 1 ((cpt r1_).length) ((cpt r1_).flatMap q0g)]∧Sub σ7 σ9) hP ⟨σ7,_,(q1h rfl (q1h rfl (q1h rfl (q1h rfl rfl)))),hS45,(Sub.refl _)⟩ ?_
     clear hP
     rintro k_5 Y7 hP f w21 ⟨σ9,g,rfl,hS46,hsub9⟩
     refine q0m (y60 (r:=(decide (((k_5:Nat):Int)<((left_3.length:Nat):Int)))) rfl rfl rfl (wpList_nil (q0l (wp_seq ?_))))
     refine if_d (((k_5:Nat):Int)<((left_3.length:Nat):Int)) rfl (fun ht5=> ?_) (fun ht5=> ?_)
     ·
      replace hP:=hP.1 ht5
      refine wp_skip (q0l (wp_seq (wp_block (q0m (q02 (v:=(.int .i64 ((k_5:Nat):Int))) rfl (q0n (v:=(.int .i64 ((k_5:Nat):Int))) rfl (wpList_nil (q0l (q0m (q02 (v:=(.func (.func 63) #[] #[(.pointer (some ⟨b3,0,none⟩)),(.pointer (some ⟨b7,0,none⟩))])) rfl (q02 (v:=v13) rfl (q02 (v:=(.int .i64 ((k_5:Nat):Int))) rfl ?_))))))))))))
      obtain ⟨x2_,hx2⟩:=getq (l:=left_3) (k:=k_5) (by have:=ht5;omega)
      replace hP:=hP x2_ hx2
      obtain ⟨g1,cp1,hv2⟩:=v06 (hS46.get (i:=0) rfl) (q0j hx2)
      refine q5v (k:=k_5) (a':=⟨g1,k_5*1,none⟩) hv2 rfl rfl (q0j hx2) Tryz.underlying30 Tryz.sizeOf9 (by simp [q39]) (z1i (v:=(.string x2_)) rfl Tryz.isAgg9 (w3b q94 (j:=0) hv2 (hS46.get (i:=0) rfl) hx2 rfl) (y63 (args:=[(.string x2_),(.pointer (some ⟨b3,0,none⟩)),(.pointer (some ⟨b7,0,none⟩))]) rfl rfl Tryz.call63 ?_))
      refine enter Tryz.func63 rfl rfl rfl ?_
      refine q0m (q0n (v:=(.bool false)) rfl (wpList_nil (q0l (q0m (z1i (v:=(.map (some b2))) rfl Tryz.isAgg126 (hS46.cell (i:=4) rfl rfl) (q02 (v:=(.string x2_)) rfl ?_))))))
      obtain ⟨v15,hl10,hz1⟩:=RMp.at (z:= .slice none 0 0) (z0:=[]) RSl.nil hr9 x2_
      obtain ⟨a3,cap3,rfl⟩:=hz1.shape
      refine u4q (v:=(.slice a3 ((F_2 x2_).getD []).length cap3)) hl10 (View.of (Sub.trans hsub7 hsub9) hS46.view) rfl rfl Tryz.underlying126 Tryz.underlying9 Tryz.zeroValue30 (j6v (la:=[]) (lb:=[(.pointer (some ⟨b7,0,none⟩))]) rfl rfl (z2q (args:=[(.slice a3 ((F_2 x2_).getD []).length cap3),(.func (.func 65) #[] #[(.pointer (some ⟨b7,0,none⟩))])]) rfl Tryz.call64 ?_))
      refine enter Tryz.func64 rfl rfl rfl ?_
      refine q0m (q0n (v:=(.bool false)) rfl (wpList_nil (q0l (q0m (q02 (v:=(.slice a3 ((F_2 x2_).getD []).length cap3)) rfl (q02 (v:=(.func (.func 65) #[] #[(.pointer (some ⟨b7,0,none⟩))])) rfl ?_))))))
      obtain ⟨Y8,hK5,hP⟩:=hP
      refine z2q (args:=[(.slice a3 ((F_2 x2_).getD []).length cap3),(.func (.func 65) #[] #[(.pointer (some ⟨b7,0,none⟩))])]) rfl Tryz.call62 (Calls.mono (R:=fun e z=> ∃(r_2:Int) (σ10:Hv),e= .returned (.int .i64 r_2)∧Y8 r_2∧St ⟨w,σ,[]⟩ z σ10 [vec v13 9 1 left_3.length ((left_3).flatMap q0g),vec v14 9 1 out_3.length ((out_3).flatMap q0g),emap b6 (fun y:Bool=>(Value.bool (y))) F_4,blk b7 127 [(.map (some b6))],blk b3 126 [(.map (some b2))],vec v6 9 1 ((cpt r1_).length) ((cpt r1_).flatMap q0g)]∧Sub σ9 σ10) ?_ ?_)
      ·
       refine enter Tryz.func62 rfl rfl rfl ?_
       refine q0m (q0n (v:=(.int .i64 (0:Int))) rfl (wpList_nil (q0l (wp_seq (q0m (q02 (v:=(.slice a3 ((F_2 x2_).getD []).length cap3)) rfl (z49 rfl Tryz.underlying30 ?_)))))))
       have hlen6:=RSl.len63 hz1
       replace hP:=hP hlen6
       refine q02 (v:=(.int .i64 (0:Int))) rfl (wpList_nil (q0l (wp_block ?_)))
       refine v05 (fun k_7 f z=> ∃(σ11:Hv) (g:Fr),f=(upd (upd (upd (upd g 0 (.slice a3 ((F_2 x2_).getD []).length cap3)) 1 (.func (.func 65) #[] #[(.pointer (some ⟨b7,0,none⟩))])) 7 (.int .i64 ((((F_2 x2_).getD []).length:Nat):Int))) 8 (.int .i64 ((k_7:Nat):Int)))∧St ⟨w,σ,[]⟩ z σ11 [vec v13 9 1 left_3.length ((left_3).flatMap q0g),vec v14 9 1 out_3.length ((out_3).flatMap q0g),emap b6 (fun y:Bool=>(Value.bool (y))) F_4,blk b7 127 [(.map (some b6))],blk b3 126 [(.map (some b2))],vec v6 9 1 ((cpt r1_).length) ((cpt r1_).flatMap q0g)]∧Sub σ9 σ11) hP ⟨σ9,_,(q1h rfl (q1h rfl (q1h rfl (q1h rfl rfl)))),hS46,(Sub.refl _)⟩ ?_
       clear hP
       rintro k_7 Y9 hP f w22 ⟨σ11,g,rfl,hS47,hsub11⟩
       refine q0m (y60 (r:=(decide (((k_7:Nat):Int)<((((F_2 x2_).getD []).length:Nat):Int)))) rfl rfl rfl (wpList_nil (q0l (wp_seq ?_))))
       refine if_d (((k_7:Nat):Int)<((((F_2 x2_).getD []).length:Nat):Int)) rfl (fun ht6=> ?_) (fun ht6=> ?_)
       ·
        replace hP:=hP.1 ht6
        refine wp_skip (q0l (wp_seq (wp_block (q0m (q02 (v:=(.int .i64 ((k_7:Nat):Int))) rfl (q0n (v:=(.int .i64 ((k_7:Nat):Int))) rfl (wpList_nil (q0l (q0m (q02 (v:=(.func (.func 65) #[] #[(.pointer (some ⟨b7,0,none⟩))])) rfl (q02 (v:=(.slice a3 ((F_2 x2_).getD []).length cap3)) rfl (q02 (v:=(.int .i64 ((k_7:Nat):Int))) rfl ?_))))))))))))
        obtain ⟨x3_,hx3⟩:=getq (l:=((F_2 x2_).getD [])) (k:=k_7) (by have:=ht6;omega)
        replace hP:=hP x3_ hx3
        obtain ⟨ad2,cs2,ha2,hl11,hr10,hR2,hlt2⟩:=RSl.at hz1 hx3
        cases hR2
        refine q5v (k:=k_7) (a':=(ad2.add (k_7*1))) (congrArg (fun z=>Value.slice z _ _) ha2) rfl rfl hlt2 Tryz.underlying30 Tryz.sizeOf9 rfl (z1i (v:=(.string x3_)) rfl Tryz.isAgg9 (hr10.cell (View.of (Sub.trans (Sub.trans hsub7 hsub9) hsub11) hS47.view) 0 rfl rfl) (y63 (args:=[(.string x3_),(.pointer (some ⟨b7,0,none⟩))]) rfl rfl Tryz.call65 ?_))
        refine enter Tryz.func65 rfl rfl rfl ?_
        refine q0m (q0n (v:=(.bool false)) rfl (wpList_nil (q0l (q0m (z1i (v:=(.map (some b6))) rfl Tryz.isAgg127 (hS47.cell (i:=3) rfl rfl) (q02 (v:=(.string x3_)) rfl (u4o (v:=(.bool (((F_4 x3_).getD false)))) (i:=2) hS47 rfl rfl rfl Tryz.underlying127 Tryz.underlying9 Tryz.zeroValue4 (u1q (fun y:Bool=>(Value.bool (y))) _ rfl) (u1g (r:=(!((F_4 x3_).getD false))) rfl rfl (q0n (v:=(.bool (!((F_4 x3_).getD false)))) rfl (wpList_nil (q0l (wp_ret (ret1 rfl (show ev _ _ _=(.bool (!((F_4 x3_).getD false))) from rfl) ?_)))))))))))))
        refine ⟨_,rfl,?_⟩
        refine wpList_nil (q0l ?_)
        refine u6z rfl (fun ht7=> ?_) (fun ht7=> ?_)
        ·
         replace hP:=hP.2 (by first|(rw [ht7];exact Bool.false_ne_true)|simp [ht7])
         refine q0m (q02 (v:=(.int .i64 ((k_7:Nat):Int))) rfl (q0n (v:=(.int .i64 ((k_7:Nat):Int))) rfl (wpList_nil (q0l (wp_ret (w0j (q6i (q6i (w0j (q6i (ret1 rfl (show ev _ _ _=(.int .i64 ((k_7:Nat):Int)) from rfl) ?_)))))))))))
         exact ⟨((k_7:Nat):Int),σ11,rfl,hP,hS47,hsub11⟩
        ·
         replace hP:=hP.1 ht7
         refine wp_skip (y4d (q0l (j6u (y4c (r:=((k_7+1:Nat):Int)) rfl rfl (nw (by omega) (by omega) (by have:=hlen6;omega)) (q02 (v:=(.int .i64 ((k_7+1:Nat):Int))) rfl (wpList_nil (q0l ?_)))))))
         exact ⟨k_7+1,_,rfl,hP,σ11,_,(q1h rfl (q1h rfl (q1h rfl (q1h rfl rfl)))),hS47,hsub11⟩
       ·
        replace hP:=hP.2 ht6
        refine wp_exit (j1b (j1b (w2w (q0l (q0m (q0n (v:=(.int .i64 (-1:Int))) rfl (wpList_nil (q0l (wp_ret (ret1 rfl (show ev _ _ _=(.int .i64 (-1:Int)) from rfl) ?_))))))))))
        exact ⟨(-1:Int),σ11,rfl,hP,hS47,hsub11⟩
      ·
       rintro _ w23 ⟨r_2,σ10,rfl,hY4,hS48,hsub10⟩
       refine ⟨_,rfl,?_⟩
       replace hP:=hK5 r_2 hY4
       refine u6w (r:=(decide ((0:Int)≤r_2))) rfl rfl rfl (q0n (v:=(.bool (decide ((0:Int)≤r_2)))) rfl (wpList_nil (q0l (wp_ret (ret1 rfl (show ev _ _ _=(.bool (decide ((0:Int)≤r_2))) from rfl) ?_)))))
       refine ⟨_,rfl,?_⟩
       refine u1g (r:=(!decide ((0:Int)≤r_2))) rfl rfl (q0n (v:=(.bool (!decide ((0:Int)≤r_2)))) rfl (wpList_nil (q0l (wp_ret (ret1 rfl (show ev _ _ _=(.bool (!decide ((0:Int)≤r_2))) from rfl) ?_)))))
       refine ⟨_,rfl,?_⟩
       refine wpList_nil (q0l ?_)
       refine u6y ((0:Int)≤r_2) rfl (fun ht8=> ?_) (fun ht8=> ?_)
       ·
        replace hP:=hP.2 ht8
        refine q0m (q02 (v:=(.int .i64 ((k_5:Nat):Int))) rfl (q0n (v:=(.int .i64 ((k_5:Nat):Int))) rfl (wpList_nil (q0l (wp_ret (w0j (q6i (q6i (w0j (q6i (ret1 rfl (show ev _ _ _=(.int .i64 ((k_5:Nat):Int)) from rfl) ?_)))))))))))
        exact ⟨((k_5:Nat):Int),σ10,rfl,hP,hS48,(Sub.trans hsub9 hsub10)⟩
       ·
        replace hP:=hP.1 ht8
        refine wp_skip (y4d (q0l (j6u (y4c (r:=((k_5+1:Nat):Int)) rfl rfl (nw (by omega) (by omega) (by have:=hlen4;omega)) (q02 (v:=(.int .i64 ((k_5+1:Nat):Int))) rfl (wpList_nil (q0l ?_)))))))
        exact ⟨k_5+1,_,rfl,hP,σ10,_,(q1h rfl (q1h rfl (q1h rfl (q1h rfl rfl)))),hS48,(Sub.trans hsub9 hsub10)⟩
     ·
      replace hP:=hP.2 ht5
      refine wp_exit (j1b (j1b (w2w (q0l (q0m (q0n (v:=(.int .i64 (-1:Int))) rfl (wpList_nil (q0l (wp_ret (ret1 rfl (show ev _ _ _=(.int .i64 (-1:Int)) from rfl) ?_))))))))))
      exact ⟨(-1:Int),σ9,rfl,hP,hS46,hsub9⟩
    ·
     rintro _ w24 ⟨r_1,σ8,rfl,hY5,hS49,hsub8⟩
     refine ⟨_,rfl,?_⟩
     replace hP:=hK4 r_1 hY5
     refine q0n (v:=(.int .i64 r_1)) rfl (wpList_nil (q0l (wp_seq (q0m (q02 (v:=(.int .i64 r_1)) rfl (y60 (r:=(decide (r_1<(0:Int)))) rfl rfl rfl (wpList_nil (q0l ?_))))))))
     refine if_d (r_1<(0:Int)) rfl (fun ht9=> ?_) (fun ht9=> ?_)
     ·
      replace hP:=hP.1 ht9
      refine q0m (q0n (v:=(.slice none 0 0)) rfl (q0n (v:=(.int .i64 (12:Int))) rfl (wpList_nil (q0l (wp_ret (q6i (w0j (q6i (w0j (q6i (ret2 rfl (show ev _ _ _=(.slice none 0 0) from rfl) (show ev _ _ _=(.int .i64 (12:Int)) from rfl) ?_)))))))))))
      have hS50:=hS49.addNil 9 1
      exact ⟨[],(12:Int),(.slice none 0 0),rfl,(St.back (hS50.keep 1 (ms':=[vec (.slice none 0 0) 9 1 0 []]) rfl) (Sub.refl _)),(by simp [Sml]),hP⟩
     ·
      replace hP:=hP.2 ht9
      refine wp_skip (q0l (q0m (q02 (v:=v14) rfl (q02 (v:=v13) rfl (q02 (v:=(.int .i64 r_1)) rfl ?_)))))
      obtain ⟨j1_,hj1,hP⟩:=hP
      obtain ⟨x4_,hx4,hP⟩:=hP
      obtain ⟨g2,cp2,hv3⟩:=v06 (hS49.get (i:=0) rfl) (q0j hx4)
      refine q5v (k:=j1_) (a':=⟨g2,j1_*1,none⟩) hv3 rfl hj1 (q0j hx4) Tryz.underlying30 Tryz.sizeOf9 (by simp [q39]) (z1i (v:=(.string x4_)) rfl Tryz.isAgg9 (w3b q94 (j:=0) hv3 (hS49.get (i:=0) rfl) hx4 rfl) (w1y (cs:=[(.string x4_)]) (e:=9) hS49 (fun _=>by kernel_rfl) ?_))
      intro b8 w25 hS51
      obtain ⟨hsm4,hP⟩:=hP
      refine u4p (Ms:=fun v16=>[blk b8 9 [(.string x4_)],vec v13 9 1 left_3.length ((left_3).flatMap q0g),vec v16 9 1 ((out_3++[x4_]).length) ((out_3++[x4_]).flatMap q0g),emap b6 (fun y:Bool=>(Value.bool (y))) F_4,blk b7 127 [(.map (some b6))],blk b3 126 [(.map (some b2))],vec v6 9 1 ((cpt r1_).length) ((cpt r1_).flatMap q0g)]) (k':=(out_3++[x4_]).length) (xs':=(out_3++[x4_]).flatMap q0g) Tryz.underlying30 Tryz.type9 rfl rfl (bytes:=16) rfl rfl (Nat.succ_pos _) hS51 rfl (q:=2) rfl rfl rfl (z3o (hS51.get (i:=0) rfl)) (ones rfl) hsm4 (by omega) (by first|rfl|exact List.length_append.symm|simp) (by simp [q0g]) (fun _=>rfl) ?_
      intro v16 w26 ho12 hS52
      have hS53:=hS52.drop 0 (ms':=[vec v13 9 1 left_3.length ((left_3).flatMap q0g),vec v16 9 1 ((out_3++[x4_]).length) ((out_3++[x4_]).flatMap q0g),emap b6 (fun y:Bool=>(Value.bool (y))) F_4,blk b7 127 [(.map (some b6))],blk b3 126 [(.map (some b2))],vec v6 9 1 ((cpt r1_).length) ((cpt r1_).flatMap q0g)]) rfl
      refine q0n (v:=v16) rfl (wpList_nil (q0l (wp_seq (dr (fun z=>St ⟨w,σ,[]⟩ z σ8 [vec v13 9 1 left_3.length ((left_3).flatMap q0g),vec v16 9 1 ((out_3++[x4_]).length) ((out_3++[x4_]).flatMap q0g),blk b7 127 [(.map (some b6))],blk b3 126 [(.map (some b2))],vec v6 9 1 ((cpt r1_).length) ((cpt r1_).flatMap q0g)]) (by kernel_rfl) rfl ?_))))
      have hS54:=hS53.drew
      refine dt 0 1 (v:=(.map (some b6))) (by kernel_rfl) rfl rfl (fun _ _ _ h=>h) (hS54.sublist (.cons_cons _ (.cons_cons _ (.cons _ (List.Sublist.refl _))))) (fun _ hJ _ hK=>z1i (v:=(.map (some b6))) rfl Tryz.isAgg127 (hJ.cell (i:=2) rfl rfl) ⟨rfl,hK⟩) (dt 1 3 (v:=v13) (by kernel_rfl) rfl rfl (fun _ _ _ h=>h) (hS54.sublist (.cons_cons _ (.cons_cons _ (.cons _ (List.Sublist.refl _))))) (fun _ _ _ hK=>q02 (v:=v13) rfl ⟨rfl,hK⟩) (dt 2 7 (v:=(.int .i64 r_1)) (by kernel_rfl) rfl rfl (fun _ _ _ h=>h) (hS54.sublist (.cons_cons _ (.cons_cons _ (.cons _ (List.Sublist.refl _))))) (fun _ _ _ hK=>q02 (v:=(.int .i64 r_1)) rfl ⟨rfl,hK⟩) ?_))
      obtain ⟨j2_,hj2,hP⟩:=hP
      obtain ⟨x5_,hx5,hP⟩:=hP
      obtain ⟨g3,cp3,hv4⟩:=v06 (hS54.get (i:=0) rfl) (q0j hx5)
      refine dt 3 15 (v:=(.pointer (some ⟨g3,j2_*1,none⟩))) (by kernel_rfl) rfl rfl (fun _ _ _ h=>h) (hS54.sublist (.cons_cons _ (.cons_cons _ (.cons _ (List.Sublist.refl _))))) (fun _ _ _ hK=>q5v (k:=j2_) (a':=⟨g3,j2_*1,none⟩) hv4 rfl hj2 (q0j hx5) Tryz.underlying30 Tryz.sizeOf9 (by simp [q39]) ⟨rfl,hK⟩) (dt 4 31 (v:=(.string x5_)) (by kernel_rfl) rfl rfl (fun _ _ _ h=>h) (hS54.sublist (.cons_cons _ (.cons_cons _ (.cons _ (List.Sublist.refl _))))) (fun _ hJ _ hK=>z1i (v:=(.string x5_)) rfl Tryz.isAgg9 (w3b q94 (j:=0) hv4 (hJ.get (i:=0) rfl) hx5 rfl) ⟨rfl,hK⟩) (d1 5 63 (by kernel_rfl) rfl (u65 (y0:=true) (i:=2) (ms':=[vec v13 9 1 left_3.length ((left_3).flatMap q0g),vec v16 9 1 ((out_3++[x4_]).length) ((out_3++[x4_]).flatMap q0g),emap b6 (fun y:Bool=>(Value.bool (y))) (put F_4 x5_ true),blk b7 127 [(.map (some b6))],blk b3 126 [(.map (some b2))],vec v6 9 1 ((cpt r1_).length) ((cpt r1_).flatMap q0g)]) hS54 rfl rfl rfl rfl Tryz.underlying127 Tryz.underlying9 rfl ?_)))
      intro w27 hS55
      refine wpList_nil ?_
      refine ⟨rfl,(hS55.sublist (.cons_cons _ (.cons_cons _ (.cons _ (List.Sublist.refl _))))),w1z (J':=fun z=>St ⟨w,σ,[]⟩ z σ8 [vec v13 9 1 left_3.length ((left_3).flatMap q0g),vec v16 9 1 ((out_3++[x4_]).length) ((out_3++[x4_]).flatMap q0g),emap b6 (fun y:Bool=>(Value.bool (y))) (put F_4 x5_ true),blk b7 127 [(.map (some b6))],blk b3 126 [(.map (some b2))],vec v6 9 1 ((cpt r1_).length) ((cpt r1_).flatMap q0g)]) (fun w h=>h.sublist (.cons_cons _ (.cons_cons _ (.cons _ (List.Sublist.refl _))))) _ _ _ _ ?_⟩
      refine dz (by kernel_rfl) (q0l (j6u (q02 (v:=v13) rfl (q02 (v:=(.int .i64 r_1)) rfl (q02 (v:=(.int .i64 r_1)) rfl ?_)))))
      obtain ⟨hi1,hP⟩:=hP
      refine y4c (r:=(r_1+(1:Int))) rfl rfl (nwi rfl hi1) ?_
      obtain ⟨j3_,hj3,hP⟩:=hP
      obtain ⟨hd1,hP⟩:=hP
      obtain ⟨hd2,hP⟩:=hP
      obtain ⟨hsm5,hP⟩:=hP
      have hd3:r_1=((j3_:Nat):Int)∧(r_1+(1:Int))=((j3_+1:Nat):Int):=⟨by omega,by omega⟩
      refine z2q (args:=[v13,(.int .i64 ((j3_:Nat):Int)),(.int .i64 ((j3_+1:Nat):Int))]) (by rw [←hd3.1,←hd3.2];rfl) Tryz.call66 (Calls.mono (y4g (i:=j3_) (j:=(j3_+1)) Tryz.slices_Delete_string hS55.view (hS55.get (i:=0) rfl) (fun b hb=>hS55.off _ (List.mem_of_getElem? (i:=0) rfl) b hb) (by omega) hd2 hd1) ?_)
      rintro _ w28 ⟨v17,rfl,hf2,hg7,ho13⟩
      refine ⟨_,rfl,?_⟩
      have ho14:=q7z ho13
      have hS56:=hS55.growV (i:=0) (o':=vec v17 9 1 ((left_3.take j3_++left_3.drop (j3_+1)).length) ((left_3.take j3_++left_3.drop (j3_+1)).flatMap q0g)) rfl hg7 hf2 ho13 (ms':=[vec v17 9 1 ((left_3.take j3_++left_3.drop (j3_+1)).length) ((left_3.take j3_++left_3.drop (j3_+1)).flatMap q0g),vec v16 9 1 ((out_3++[x4_]).length) ((out_3++[x4_]).flatMap q0g),emap b6 (fun y:Bool=>(Value.bool (y))) (put F_4 x5_ true),blk b7 127 [(.map (some b6))],blk b3 126 [(.map (some b2))],vec v6 9 1 ((cpt r1_).length) ((cpt r1_).flatMap q0g)]) rfl
      refine q0n (v:=v17) rfl (wpList_nil (y4d (q0l ?_)))
      exact ⟨left_3.take j3_++left_3.drop (j3_+1),out_3++[x4_],put F_4 x5_ true,_,rfl,hP,v17,v16,σ8,_,(q1h rfl (q1h rfl (q1h rfl (q1h rfl rfl)))),hS56,(Sub.trans hsub7 hsub8),ho14,hsm5,ho12,hsm4⟩
   ·
    replace hP:=hP.2 ht4
    refine wp_exit (j1b (j1b (w2w (q0l (q0m (q02 (v:=v14) rfl (q0n (v:=v14) rfl (q0n (v:=(.int .i64 (0:Int))) rfl (wpList_nil (q0l (wp_ret (ret2 rfl (show ev _ _ _=v14 from rfl) (show ev _ _ _=(.int .i64 (0:Int)) from rfl) ?_))))))))))))
    have hS57:=hS45.front 1 rfl (ms':=[vec v14 9 1 out_3.length ((out_3).flatMap q0g),vec v13 9 1 left_3.length ((left_3).flatMap q0g),emap b6 (fun y:Bool=>(Value.bool (y))) F_4,blk b7 127 [(.map (some b6))],blk b3 126 [(.map (some b2))],vec v6 9 1 ((cpt r1_).length) ((cpt r1_).flatMap q0g)]) rfl
    exact ⟨out_3,(0:Int),v14,rfl,(St.back (hS57.keep 1 (ms':=[vec v14 9 1 out_3.length ((out_3).flatMap q0g)]) rfl) (Sub.refl _)),hl9,hP⟩
end Go.Proofs.YthpeboomdlgfaaaGreatDoor
end
noncomputable section
set_option maxRecDepth 100000
open Go Go.RowKit Go.Fl Go.Fl.Lk Go.Fx
namespace Go.En
theorem v1z {σ:Hv} {w:World} {g:Nat} {T:C} {n:Nat} {l:List (car T)} (hV:View σ w) (hs:SRep D (fun _=>none) σ (.pointer (some ⟨g,0,none⟩)) (.fap T n l)) {i j:Nat} {x:car T} {s:FV Sg} (hx:l[i]? =some x) (hj:(D.shape T x)[j]? =some s) (hz:j<D.size T):
  ∃v,w.cell? ⟨g,i*D.size T+j,none⟩=some v∧RepF D σ v s:=by
 generalize hq:Value.pointer (some (⟨g,0,none⟩:Addr))=q at hs
 cases hs with
 |fap ad cs T' N l' hN h hl hr=>
  cases hq
  have hrow:=hr i x hx
  have hlen:=okP.ok.len T x
  have hjl:j<((cs.drop (i*D.size T)).take (D.size T)).length:=by rw [hrow.1,hlen];exact hz
  obtain ⟨v,hv⟩: ∃v,((cs.drop (i*D.size T)).take (D.size T))[j]? =some v:=⟨_,List.getElem?_eq_getElem hjl⟩
  refine ⟨v,?_,hrow.2 j v s hv hj⟩
  rw [List.getElem?_take,if_pos hz,List.getElem?_drop] at hv
  have:=hV.cell (h _ v hv)
  rw [q39,Nat.zero_add] at this
  exact this
theorem u20: ∀c,c<256→y3i[c]? =some ((Go.Lib.firstT c:Nat):Int):=by decide
theorem u7u: ∀i,i<16→(w31[i]?).map (fun a=>(a.lo,a.hi))=some (((Go.Lib.accLo i:Nat):Int),((Go.Lib.accHi i:Nat):Int)):=by decide
theorem tabs {σ:Hv} {w:World} (hV:View σ w) (hG:Glb D σ):Go.Lib.Utf8Tabs (Go.Proofs.Tryz.lays196_ren.g 3) (Go.Proofs.Tryz.lays196_ren.g 4) w:=by
 refine ⟨fun c hc=> ?_,fun i hi=> ?_⟩
 ·have h:=hG.known (Go.Proofs.Tryz.lays196_ren.g 3)
  obtain ⟨v,h1,h2⟩:=v1z (T:= .u8) (n:=256) (l:=y3i) hV h (i:=c) (j:=0) (u20 c hc) rfl (by decide)
  cases h2
  simpa [show D.size C.u8=1 from rfl] using h1
 ·have h:=hG.known (Go.Proofs.Tryz.lays196_ren.g 4)
  have ha:=u7u i hi
  obtain ⟨a,e1,e2⟩:=Option.map_eq_some_iff.1 ha
  obtain ⟨v,h1,h2⟩:=v1z (T:= .acc) (n:=16) (l:=w31) hV h (i:=i) (j:=0) e1 rfl (by decide)
  obtain ⟨v',h1',h2'⟩:=v1z (T:= .acc) (n:=16) (l:=w31) hV h (i:=i) (j:=1) e1 rfl (by decide)
  cases h2;cases h2'
  simp only [Prod.mk.injEq] at e2
  rw [e2.1] at h1;rw [e2.2] at h1'
  refine ⟨by rw [Nat.mul_comm];simpa [show D.size C.acc=2 from rfl] using h1,by rw [Nat.mul_comm];simpa [show D.size C.acc=2 from rfl] using h1'⟩
theorem v95 {w w':World} (h:Below w.heap.size w w'):Keeps [] w w':=⟨h.os,h.tape,h.output,h.size,fun k hk _=>h.block k hk⟩
theorem z4p {σ:Hv} {w w1:World} {args:List (Tr Sg)} {vals:List Value} {K:List (Tr Sg)→List (Tr Sg)→Prop} {rets outs:List (Tr Sg)} {rv:List Value} (hS:St ⟨w,σ,feet []⟩ w σ []) (hK:K rets outs) (hb:Below w.heap.size w w1) (hL:LayL D σ rets rv []) (hT:LayT D σ args outs vals [] []):
  Back D σ w args vals [] K (.returned (retV rv)) w1:=by
 have hk:=v95 hb
 refine ⟨rets,outs,rv,σ,[],[],rfl,hK,hL,hT,?_⟩
 refine ⟨hk,fun b o hbo=> ?_,Sub.refl _,fun _ _ _=>rfl,by simp,by simp,by simp,by simp⟩
 have h1:=hS.view b o hbo
 have hlt:b<w.heap.size:=by
  rcases Nat.lt_or_ge b w.heap.size with h|h
  ·exact h
  ·rw [Array.getElem?_eq_none h] at h1;cases h1
 rw [hk.block b hlt (by simp)];exact h1
theorem j4t:q0h Go.Proofs.Tryz.prog D 200 (conV ([.v]:LP) ([.str]:LV) ([.bool]:LV) ([.same]:LV) (fun a K=>q1g a.1 (fun q0=>K (q0,()) ((),())))):=by
 intro args K hm w σ vals ins hG hL hS
 obtain ⟨a,ha,hm⟩:=q0i hm
 have hargs:=q3e ha
 subst hargs
 obtain ⟨s,_⟩:=a
 cases hL with
 |cons hp hr=>
 cases hr
 cases hp with
 |f hf=>
 cases hf
 have hm:s.size≤9223372036854775807∧K [.f (.bool (Go.Lib.validD s.data.toList))] [.same]:=hm
 refine Calls.mono (Go.Proofs.Any.utf8_ValidString Go.Proofs.Tryz.lays196 s w hm.1 (tabs hS.view hG)) ?_
 rintro e w' ⟨rfl,hb⟩
 exact z4p (rv:=[.bool (Go.Lib.validD s.data.toList)]) hS hm.2 hb (.cons (ms:=[]) (.f (.bool _)) .nil) (.skip (a0:=[]) .nil)
theorem j4u:q0h Go.Proofs.Tryz.prog D 172 (conV ([.v,.v]:LP) ([.str,.str]:LV) ([.bool]:LV) ([.same,.same]:LV) (fun a K=>q3j a.1 a.2.1 (fun q0=>K (q0,()) ((),(),())))):=by
 intro args K hm w σ vals ins hG hL hS
 obtain ⟨a,ha,hm⟩:=q0i hm
 have hargs:=q3e ha
 subst hargs
 obtain ⟨s,t,_⟩:=a
 cases hL with
 |cons hp hr=>
 cases hr with
 |cons hq hr=>
 cases hr
 cases hp with
 |f hf=>
 cases hf
 cases hq with
 |f hf=>
 cases hf
 have hm:s.size<4294967281∧K [.f (.bool (Go.Lib.contains s.data.toList t.data.toList))] [.same,.same]:=hm
 obtain ⟨n,hn⟩:=hG.free 5 .i64 rfl
 refine Calls.mono (Go.Proofs.Tryz.strings_Contains s t n w hm.1 (hS.view.cell hn)) ?_
 rintro e w' ⟨rfl,rfl⟩
 exact z4p (rv:=[.bool (Go.Lib.contains s.data.toList t.data.toList)]) hS hm.2 (Below.refl _ _) (.cons (ms:=[]) (.f (.bool _)) .nil) (.skip (a0:=[]) (.skip (a0:=[]) .nil))
theorem w7q:q0h Go.Proofs.Tryz.prog D 231 (conV ([.v]:LP) ([.str]:LV) ([.int .i64,.ifc]:LV) ([.same]:LV) (fun a K=>q47 a.1 (fun q0 q1=>K (q0,q1,()) ((),())))):=by
 intro args K hm w σ vals ins hG hL hS
 obtain ⟨a,ha,hm⟩:=q0i hm
 have hargs:=q3e ha
 subst hargs
 obtain ⟨s,_⟩:=a
 cases hL with
 |cons hp hr=>
 cases hr
 cases hp with
 |f hf=>
 cases hf
 have hm:s.size≤281474976710656∧u2z s (fun n b=>K [.f (.int .i64 n),.f (.ifc b)] [.same]):=hm
 obtain ⟨hsz,hm⟩:=hm
 have err: ∀g:Nat,D.glob g= .fptr [.ifc false] 0→ ∃ev,w.cell? ⟨g,0,none⟩=some ev∧(ev= .nilIface∨ ∃te pe,ev= .iface te pe):=by
  intro g hg
  have h:=hG.known g
  rw [hg] at h
  generalize hq:Value.pointer (some (⟨g,0,none⟩:Addr))=q at h
  cases h with
  |fptr ad cs l off hv hr=>
  cases hq
  obtain ⟨v,hvl⟩: ∃v,cs=[v]:=List.length_eq_one_iff.1 hr.1
  subst hvl
  have hc:=hS.view.cell (hv 0 v rfl)
  have hR:=hr.2 0 v _ rfl rfl
  refine ⟨v,?_,?_⟩
  ·rw [q39] at hc;exact hc
  ·cases hR with
   |ifcS t p=>exact .inr ⟨t,p,rfl⟩
 unfold u2z at hm
 split at hm
 ·rename_i v hv
  refine Calls.mono (Go.Proofs.Tryz.strconv_Atoi_ok s (by omega) v hv w) ?_
  rintro e w' ⟨rfl,hw⟩
  have hb:Below w.heap.size w w':=by
   rcases hw with rfl|⟨t,rfl⟩
   ·exact Below.refl _ _
   ·exact Go.Lib.bytesWorld_below _ _ _
  exact z4p (rv:=[.int .i64 v,.nilIface]) hS hm hb (.cons (ms:=[]) (.f (.int _ _)) (.cons (ms:=[]) (.f .ifcN) .nil)) (.skip (a0:=[]) .nil)
 ·rename_i hv
  obtain ⟨ev,h1,h2⟩:=err 7 rfl
  refine Calls.mono (Go.Proofs.Tryz.strconv_Atoi_range s hsz hv ev w h1 h2) ?_
  rintro e w' ⟨N,rfl,_,_,hb⟩
  exact z4p (rv:=[.int .i64 _,.iface _ _]) hS hm hb (.cons (ms:=[]) (.f (.int _ _)) (.cons (ms:=[]) (.f (.ifcS _ _)) .nil)) (.skip (a0:=[]) .nil)
 ·rename_i hv
  obtain ⟨ev,h1,h2⟩:=err 6 rfl
  refine Calls.mono (Go.Proofs.Tryz.strconv_Atoi_syntax s hsz hv ev w h1 h2) ?_
  rintro e w' ⟨N,rfl,_,_,hb⟩
  exact z4p (rv:=[.int .i64 _,.iface _ _]) hS hm hb (.cons (ms:=[]) (.f (.int _ _)) (.cons (ms:=[]) (.f (.ifcS _ _)) .nil)) (.skip (a0:=[]) .nil)
theorem w2n (l:List ByteArray):l.flatMap q0g=l.map Value.string:=by
 induction l with
 |nil=>rfl
 |cons a l ih=>rw [List.flatMap_cons,List.map_cons,ih];rfl
theorem u7v (l:List ByteArray):(cpt l).length≤l.length:=by
 unfold cpt Go.Lib.compact
 rw [List.length_map]
 have h: ∀(d:Array (List UInt8)) (m:Nat),(Go.Lib.compactUpTo d m).length≤m:=by
  intro d m
  unfold Go.Lib.compactUpTo
  rw [List.length_map]
  exact Nat.le_trans (List.length_filter_le _ _) (by simp)
 simpa using h _ _
theorem y9j {σ:Hv} {xs:List Value} {l:List ByteArray} (h:Els D σ C.str xs l):xs=l.flatMap q0g:=by
 have h1:xs.length=l.length:=by rw [h.1];exact Nat.mul_one _
 rw [w2n]
 refine List.ext_getElem? fun i=> ?_
 rw [List.getElem?_map]
 rcases Nat.lt_or_ge i l.length with hi|hi
 ·obtain ⟨v,hv⟩: ∃v,xs[i]? =some v:=⟨_,List.getElem?_eq_getElem (by omega)⟩
  obtain ⟨x,hx⟩: ∃x,l[i]? =some x:=⟨_,List.getElem?_eq_getElem hi⟩
  have hR:=(h.2 i x hx).2 0 v (.str x) (by rw [show D.size C.str=1 from rfl,Nat.mul_one,List.getElem?_take,if_pos (by decide),List.getElem?_drop];exact hv) rfl
  rw [hv,hx]
  cases hR
  rfl
 ·rw [List.getElem?_eq_none (by omega),List.getElem?_eq_none hi];rfl
theorem v10 (σ:Hv) (l:List ByteArray):Els D σ C.str (l.flatMap q0g) l:=by
 rw [w2n]
 refine ⟨by rw [List.length_map];exact (Nat.mul_one _).symm,fun i x hx=> ?_⟩
 rw [show D.size C.str=1 from rfl,Nat.mul_one]
 have hx:l[i]? =some x:=hx
 have e:((l.map Value.string).drop i).take 1=[.string x]:=by
  rw [←List.map_drop,List.drop_eq_getElem_cons (List.getElem?_eq_some_iff.1 hx).1,(List.getElem?_eq_some_iff.1 hx).2];rfl
 rw [e]
 refine ⟨rfl,fun j v s hj hs=> ?_⟩
 cases j with
 |zero=>cases hj;cases hs;exact .str x
 |succ j=>cases hj
theorem z06:q0h Go.Proofs.Tryz.prog D 30 (conV ([.own 9 C.str]:LP) ([.vec 9 C.str]:LV) ([]:LV) ([.vec 9 C.str]:LV) (fun a K=>q0p a.1 (fun q0=>K () (q0,())))):=by
 intro args K hm w σ vals ins hG hL hS
 obtain ⟨a,ha,hm⟩:=q0i hm
 have hargs:=q3e ha
 subst hargs
 obtain ⟨s,_⟩:=a
 cases hL with
 |cons hp hr=>
 cases hr
 cases hp with
 |vec hE hl h1=>
 have hx:=y9j hE
 subst hx
 have hm:K [] [.vec 9 C.str (srt s)]:=hm
 refine Calls.mono (y2o Go.Proofs.Tryz.slices_Sort_string Go.Proofs.Tryz.slices_Sort_string_none hS.view (hS.get (i:=0) rfl) rfl (fun b hb=>hS.off _ (List.mem_of_getElem? (i:=0) rfl) b hb) (by omega)) ?_
 rintro _ w1 ⟨rfl,hg,ho⟩
 have hS1:=hS.growV (i:=0) (o':=vec _ 9 1 s.length ((srt s).flatMap q0g)) rfl hg rfl ho (ms':=[vec _ 9 1 s.length ((srt s).flatMap q0g)]) rfl
 refine ⟨[],_,[],σ,[],[vec _ 9 1 (srt s).length ((srt s).flatMap q0g)],rfl,hm,.nil,.keep (.vec (v10 σ _) (Nat.le_trans (Nat.le_of_eq (q15 _)) hl) h1) .nil,?_⟩
 have e:(srt s).length=s.length:=q15 _
 rw [e];exact hS1
theorem q9h:q0h Go.Proofs.Tryz.prog D 31 (conV ([.own 9 C.str]:LP) ([.vec 9 C.str]:LV) ([.vec 9 C.str]:LV) ([.same]:LV) (fun a K=>q07 a.1 (fun q0=>K (q0,()) ((),())))):=by
 intro args K hm w σ vals ins hG hL hS
 obtain ⟨a,ha,hm⟩:=q0i hm
 have hargs:=q3e ha
 subst hargs
 obtain ⟨s,_⟩:=a
 cases hL with
 |cons hp hr=>
 cases hr
 cases hp with
 |vec hE hl h1=>
 have hx:=y9j hE
 subst hx
 have hm:K [.vec 9 C.str (cpt s)] [.same]:=hm
 refine Calls.mono (w3a Go.Proofs.Tryz.slices_Compact_string Go.Proofs.Tryz.slices_Compact_string_empty hS.view (hS.get (i:=0) rfl) rfl (fun b hb=>hS.off _ (List.mem_of_getElem? (i:=0) rfl) b hb) (by omega)) ?_
 rintro _ w1 ⟨v1,rfl,hf,hg,ho⟩
 have hlc:(cpt s).length≤140737488355328:=Nat.le_trans (u7v _) hl
 have hS1:=hS.growV (i:=0) (o':=vec v1 9 1 (cpt s).length ((cpt s).flatMap q0g)) rfl hg hf ho (ms':=[vec v1 9 1 (cpt s).length ((cpt s).flatMap q0g)]) rfl
 exact ⟨[.vec 9 C.str (cpt s)],[.same],[v1],σ,[vec v1 9 1 (cpt s).length ((cpt s).flatMap q0g)],[],rfl,hm,.cons (.vec (v10 σ _) hlc (q7z ho)) .nil,.skip .nil,hS1⟩
theorem u57 {σ:Hv} {v:Value} {l:List ByteArray} (h:RepF D σ v (.sl C.str l)):RSl 1 (REnc q0g) σ v l:=by
 obtain ⟨a,cap,e1,e2,e3,e4⟩:=h.toRSl okP.ok
 refine ⟨a,cap,e1,e2,e3,fun i x hx=> ?_⟩
 obtain ⟨ad,cs,f1,f2,f3,f4⟩:=e4 i x hx
 refine ⟨ad,cs,f1,f2,f3,?_⟩
 obtain ⟨u,rfl⟩: ∃u,cs=[u]:=List.length_eq_one_iff.1 f2
 have g1:=f4.2 0 u (.str x) rfl rfl
 cases g1
 rfl
theorem u21 {σ:Hv} {v:Value} {l:List Edg} (h:RepF D σ v (.sl C.edge l)):RSl 2 (REnc u67) σ v (l.map fun e=>(e.1,e.2)):=by
 obtain ⟨a,cap,e1,e2,e3,e4⟩:=h.toRSl okP.ok
 have hl:(l.map fun e=>(e.1,e.2)).length=l.length:=List.length_map ..
 refine ⟨a,cap,by rw [hl];exact e1,by rw [hl];exact e2,by rw [hl];exact e3,fun i x hx=> ?_⟩
 rw [List.getElem?_map] at hx
 obtain ⟨y,hy,rfl⟩:=Option.map_eq_some_iff.1 hx
 obtain ⟨ad,cs,f1,f2,f3,f4⟩:=e4 i y hy
 refine ⟨ad,cs,f1,f2,f3,?_⟩
 obtain ⟨u,v,rfl⟩: ∃u v,cs=[u,v]:=by
  match cs,f2 with
  |[u,v],_=>exact ⟨u,v,rfl⟩
 have g1:=f4.2 0 u (.str y.src) rfl rfl
 have g2:=f4.2 1 v (.str y.dst) rfl rfl
 cases g1;cases g2
 rfl
theorem v11:q0h Go.Proofs.Tryz.prog D 33 (conV ([.sl C.str,.sl C.edge]:LP) ([.sl C.str,.sl C.edge]:LV) ([.vec 9 C.str,.int .i64]:LV) ([.same,.same]:LV) (fun a K=>P_graph_Order a.1 a.2.1 (fun q0 q1=>K (q0,q1,()) ((),(),())))):=by
 intro args K hm w σ vals ins hG hL hS
 obtain ⟨a,ha,hm⟩:=q0i hm
 have hargs:=q3e ha
 subst hargs
 obtain ⟨s,t,_⟩:=a
 cases hL with
 | @cons _ _ v1 _ _ _ hp hr=>
 cases hr with
 | @cons _ _ v2 _ _ _ hq hr=>
 cases hr
 cases hp with
 |f hf1=>
 cases hq with
 |f hf2=>
 have hm:Go.Fl.P_graph_Order s (t.map fun e=>(e.1,e.2)) (fun l n=>K [.vec 9 C.str l,.f (.int .i64 n)] [.same,.same]):=hm
 refine Calls.mono (Go.Proofs.YthpeboomdlgfaaaGreatDoor.w_graph_Order s (t.map fun e=>(e.1,e.2)) v1 v2 hS.view (u57 hf1) (u21 hf2) hm) ?_
 rintro e w1 ⟨l,n,v,rfl,hS1,hsm,hK⟩
 have hl:l.length≤140737488355328:=by unfold Sml at hsm;omega
 exact ⟨[.vec 9 C.str l,.f (.int .i64 n)],[.same,.same],[v,.int .i64 n],σ,[vec v 9 1 l.length (l.flatMap q0g)],[],rfl,hK,.cons (.vec (v10 σ _) hl (q7z (hS1.get (i:=0) rfl))) (.cons (ms:=[]) (.f (.int _ _)) .nil),.skip (a0:=[]) (.skip (a0:=[]) .nil),hS1⟩
theorem w4f:q0h Go.Proofs.Tryz.prog D 221 (conV ([.v,.v]:LP) ([.str,.str]:LV) ([.vec 9 C.str]:LV) ([.same,.same]:LV) (fun a K=>q5r a.1 a.2.1 (fun q0=>K (q0,()) ((),(),())))):=by
 intro args K hm w σ vals ins hG hL hS
 obtain ⟨a,ha,hm⟩:=q0i hm
 have hargs:=q3e ha
 subst hargs
 obtain ⟨s,t,_⟩:=a
 cases hL with
 |cons hp hr=>
 cases hr with
 |cons hq hr=>
 cases hr
 cases hp with
 |f hf=>
 cases hf
 cases hq with
 |f hf=>
 cases hf
 have hm:t.size=1∧s.size<4294967281∧K [.vec 9 C.str (q7g s t)] [.same,.same]:=hm
 obtain ⟨h1,hsz,hm⟩:=hm
 obtain ⟨n,hn⟩:=hG.free 5 .i64 rfl
 have hlen:(q7g s t).length=Go.Lib.countB s t+1:=Go.Lib.splitB_all t (by omega) 0 _ s rfl
 have hcnt:=Go.Lib.countB_le t (by omega) s.size s (Nat.le_refl _)
 refine Calls.mono (Go.Proofs.Tryz.strings_Split s t n w hsz (hS.view.cell hn) (by omega)) ?_
 rintro e w' ⟨rfl,rfl⟩
 have ho:(vec (.slice (some ⟨w.heap.size,0,none⟩) (q7g s t).length (q7g s t).length) 9 1 (q7g s t).length ((q7g s t).flatMap q0g)).ok (w.alloc (.cells ((q7g s t).map Value.string).toArray 9)):=by
  refine ⟨by rw [w2n];simp,.inr ⟨w.heap.size,_,_,rfl,Nat.zero_le _,heap_alloc_new _ _,Nat.le_refl _,by unfold maxLen;omega,by simp,?_⟩⟩
  rw [w2n,Nat.mul_one]
  exact List.take_of_length_le (by rw [List.length_map];exact Nat.le_refl _)
 have hS1:=hS.add (q2x w _) ho (by rintro k ⟨⟩;exact Nat.le_refl _)
 have hl:(q7g s t).length≤140737488355328:=by omega
 have hr:=(⟨[.vec 9 C.str (q7g s t)],[.same,.same],[_],σ,[_],[],rfl,hm,.cons (.vec (v10 σ _) hl (q7z ho)) .nil,.skip (a0:=[]) (.skip (a0:=[]) .nil),hS1⟩:Back D σ w [.f (.str s),.f (.str t)] [.string s,.string t] [] K (.returned (retV [.slice (some ⟨w.heap.size,0,none⟩) (q7g s t).length (q7g s t).length])) (w.alloc (.cells ((q7g s t).map Value.string).toArray 9)))
 rw [hlen] at hr
 exact hr
end Go.En
end
noncomputable section
set_option maxRecDepth 100000
open Go Go.RowKit Go.Fl Go.Fl.Lk Go.Fx
namespace Go.En
theorem q91:Ent Go.Proofs.Tryz.prog 37:=q0d (by kernel_rfl) (by kernel_rfl) (by kernel_rfl)
def q98 (X:q1x):Con Sg:=conV ([]:LP) ([]:LV) ([.vec 114 C.decl]:LV) ([]:LV) (fun _ K=>X (fun q0=>K (q0,()) ()))
def v18:Nat→Option (Fx.Spec Sg):=q0c ([]:LS)
def j4v:Ev Sg:=E0
theorem w7r (K:List (Decl)→Prop):q09 K=fnV ((j4v).pl v18) 4 37 ([]:LP) ([.own 114 C.decl]:LP) ([]:LV) ([.vec 114 C.decl]:LV) ([]:LV) () (fun r _=>K r.1):=by kernel_rfl
theorem z25:q0h Go.Proofs.Tryz.prog D 37 (q98 q09):=q0e (E:=j4v) h_E0 fun _ K=>w7r (fun q0=>K (q0,()) ())
theorem y5e:Ent Go.Proofs.Tryz.prog 27:=q0d (by kernel_rfl) (by kernel_rfl) (by kernel_rfl)
def y3l (X:w2l):Con Sg:=conV ([.ptr 71 [.c,.v]]:LP) ([.ptr 71 [.sl C.u8,.int .i64]]:LV) ([.bool]:LV) ([.ptr 71 [.same,.int .i64]]:LV) (fun a K=>X a.1.1 a.1.2.1 (fun q0 q1=>K (q0,()) (((),q1,()),())))
def y9k:Nat→Option (Fx.Spec Sg):=q0c ([]:LS)
def v5p:Ev Sg:=E0
theorem y5f (list:List (Int)) (at_:Int) (K:Bool→Int→Prop):j0e list at_ K=fnV ((v5p).pl y9k) 4 27 ([.ptr 71 [.c,.v]]:LP) ([.v]:LP) ([.ptr 71 [.sl C.u8,.int .i64]]:LV) ([.bool]:LV) ([.ptr 71 [.same,.int .i64]]:LV) ((list,at_,()),()) (fun r o=>K r.1 o.1.2.1):=by kernel_rfl
theorem u22:q0h Go.Proofs.Tryz.prog D 27 (y3l j0e):=q0e (E:=v5p) h_E0 fun a K=>y5f a.1.1 a.1.2.1 (fun q0 q1=>K (q0,()) (((),q1,()),()))
theorem q2j:Ent Go.Proofs.Tryz.prog 10:=q0d (by kernel_rfl) (by kernel_rfl) (by kernel_rfl)
def q4r (X:q0r):Con Sg:=conV ([.ptr 71 [.c,.v],.v]:LP) ([.ptr 71 [.sl C.u8,.int .i64],.int .i64]:LV) ([.int .i64]:LV) ([.ptr 71 [.same,.int .i64],.same]:LV) (fun a K=>X a.1.1 a.1.2.1 a.2.1 (fun q0 q1=>K (q0,()) (((),q1,()),(),())))
def y9l:Nat→Option (Fx.Spec Sg):=q0c ([]:LS)
def v5q (X_d_Left:w2l):Ev Sg:=(E0.with 27 (y3l X_d_Left))
theorem y5g (X_d_Left:w2l) (list:List (Int)) (at_:Int) (n:Int) (K:Int→Int→Prop):v1r X_d_Left list at_ n K=fnV ((v5q X_d_Left).pl y9l) 4 10 ([.ptr 71 [.c,.v],.v]:LP) ([.v]:LP) ([.ptr 71 [.sl C.u8,.int .i64],.int .i64]:LV) ([.int .i64]:LV) ([.ptr 71 [.same,.int .i64],.same]:LV) ((list,at_,()),n,()) (fun r o=>K r.1 o.1.2.1):=by kernel_rfl
theorem q5g:q0h Go.Proofs.Tryz.prog D 10 (q4r q0o):=q0e (E:=v5q j0e) (q0b h_E0 y5e u22) fun a K=>y5g j0e a.1.1 a.1.2.1 a.2.1 (fun q0 q1=>K (q0,()) (((),q1,()),(),()))
theorem j0t:Ent Go.Proofs.Tryz.prog 38:=q0d (by kernel_rfl) (by kernel_rfl) (by kernel_rfl)
def j4w (X:q50):Con Sg:=conV ([.ptr 71 [.c,.v]]:LP) ([.ptr 71 [.sl C.u8,.int .i64]]:LV) ([.str]:LV) ([.ptr 71 [.same,.int .i64]]:LV) (fun a K=>X a.1.1 a.1.2.1 (fun q0 q1=>K (q0,()) (((),q1,()),())))
def y9m:Nat→Option (Fx.Spec Sg):=q0c ([]:LS)
def v5r (X_d_Next:q0r):Ev Sg:=(E0.with 10 (q4r X_d_Next))
theorem y5h (X_d_Next:q0r) (list:List (Int)) (at_:Int) (K:ByteArray→Int→Prop):v1s X_d_Next list at_ K=fnV ((v5r X_d_Next).pl y9m) 4 38 ([.ptr 71 [.c,.v]]:LP) ([.v]:LP) ([.ptr 71 [.sl C.u8,.int .i64]]:LV) ([.str]:LV) ([.ptr 71 [.same,.int .i64]]:LV) ((list,at_,()),()) (fun r o=>K r.1 o.1.2.1):=by kernel_rfl
theorem w2o:q0h Go.Proofs.Tryz.prog D 38 (j4w q4b):=q0e (E:=v5r q0o) (q0b h_E0 q2j q5g) fun a K=>y5h q0o a.1.1 a.1.2.1 (fun q0 q1=>K (q0,()) (((),q1,()),()))
theorem j7l:Ent Go.Proofs.Tryz.prog 39:=q0d (by kernel_rfl) (by kernel_rfl) (by kernel_rfl)
def w2p (X:q9t):Con Sg:=conV ([.ptr 71 [.c,.v],.v]:LP) ([.ptr 71 [.sl C.u8,.int .i64],.int .i64]:LV) ([.int .i64]:LV) ([.ptr 71 [.same,.int .i64],.same]:LV) (fun a K=>X a.1.1 a.1.2.1 a.2.1 (fun q0 q1=>K (q0,()) (((),q1,()),(),())))
def y9n:Nat→Option (Fx.Spec Sg):=q0c ([]:LS)
def v5s (X_d_Next:q0r):Ev Sg:=(E0.with 10 (q4r X_d_Next))
theorem y5i (X_d_Next:q0r) (list:List (Int)) (at_:Int) (n:Int) (K:Int→Int→Prop):v1t X_d_Next list at_ n K=fnV ((v5s X_d_Next).pl y9n) 4 39 ([.ptr 71 [.c,.v],.v]:LP) ([.v]:LP) ([.ptr 71 [.sl C.u8,.int .i64],.int .i64]:LV) ([.int .i64]:LV) ([.ptr 71 [.same,.int .i64],.same]:LV) ((list,at_,()),n,()) (fun r o=>K r.1 o.1.2.1):=by kernel_rfl
theorem v19:q0h Go.Proofs.Tryz.prog D 39 (w2p q6r):=q0e (E:=v5s q0o) (q0b h_E0 q2j q5g) fun a K=>y5i q0o a.1.1 a.1.2.1 a.2.1 (fun q0 q1=>K (q0,()) (((),q1,()),(),()))
theorem w9t:Ent Go.Proofs.Tryz.prog 41:=q0d (by kernel_rfl) (by kernel_rfl) (by kernel_rfl)
def v2a (X:z5g):Con Sg:=conV ([.v,.own 9 C.str]:LP) ([.int .i64,.vec 9 C.str]:LV) ([.sl C.str]:LV) ([.same,.same]:LV) (fun a K=>X a.1 a.2.1 (fun q0=>K (q0,()) ((),(),())))
def y9o:Nat→Option (Fx.Spec Sg):=q0c ([]:LS)
def v5t:Ev Sg:=E0
theorem y5j (n:Int) (l:List (ByteArray)) (K:List (ByteArray)→Prop):z0u n l K=fnV ((v5t).pl y9o) 4 41 ([.v,.own 9 C.str]:LP) ([.sl C.str]:LP) ([.int .i64,.vec 9 C.str]:LV) ([.sl C.str]:LV) ([.same,.same]:LV) (n,l,()) (fun r _=>K r.1):=by kernel_rfl
theorem y3m:q0h Go.Proofs.Tryz.prog D 41 (v2a z0u):=q0e (E:=v5t) h_E0 fun a K=>y5j a.1 a.2.1 (fun q0=>K (q0,()) ((),(),()))
theorem w9u:Ent Go.Proofs.Tryz.prog 23:=q0d (by kernel_rfl) (by kernel_rfl) (by kernel_rfl)
def v2b (X:z5h):Con Sg:=conV ([.ptr 71 [.c,.v]]:LP) ([.ptr 71 [.sl C.u8,.int .i64]]:LV) ([.vec 9 C.str]:LV) ([.ptr 71 [.same,.int .i64]]:LV) (fun a K=>X a.1.1 a.1.2.1 (fun q0 q1=>K (q0,()) (((),q1,()),())))
def y9p:Nat→Option (Fx.Spec Sg):=q0c ([(9,⟨[0,2,3,7,8],[],[(0,(71,2))],[(.slot 4,.own 9 C.str),(.slot 5,.int IntKind.i64),(.cell 0 1,.int IntKind.i64)]⟩),(17,⟨[0,3,4,5,7,8,9,10,11,12],[0],[],[(.slot 6,.int IntKind.i64),(.obj 1,.own 9 C.str)]⟩)]:LS)
def v5u (X_d_Next:q0r):Ev Sg:=(E0.with 10 (q4r X_d_Next))
theorem y5k (X_d_Next:q0r) (list:List (Int)) (at_:Int) (K:List (ByteArray)→Int→Prop):v1u X_d_Next list at_ K=fnV ((v5u X_d_Next).pl y9p) 4 23 ([.ptr 71 [.c,.v]]:LP) ([.own 9 C.str]:LP) ([.ptr 71 [.sl C.u8,.int .i64]]:LV) ([.vec 9 C.str]:LV) ([.ptr 71 [.same,.int .i64]]:LV) ((list,at_,()),()) (fun r o=>K r.1 o.1.2.1):=by kernel_rfl
theorem y3n:q0h Go.Proofs.Tryz.prog D 23 (v2b z0v):=q0e (E:=v5u q0o) (q0b h_E0 q2j q5g) fun a K=>y5k q0o a.1.1 a.1.2.1 (fun q0 q1=>K (q0,()) (((),q1,()),()))
theorem v5v:Ent Go.Proofs.Tryz.prog 52:=q0d (by kernel_rfl) (by kernel_rfl) (by kernel_rfl)
def v96 (X:j2p):Con Sg:=conV ([.ptr 71 [.c,.v]]:LP) ([.ptr 71 [.sl C.u8,.int .i64]]:LV) ([.str]:LV) ([.ptr 71 [.same,.int .i64]]:LV) (fun a K=>X a.1.1 a.1.2.1 (fun q0 q1=>K (q0,()) (((),q1,()),())))
def u23:Nat→Option (Fx.Spec Sg):=q0c ([]:LS)
def y3o (X_d_Next:q0r):Ev Sg:=(E0.with 10 (q4r X_d_Next))
theorem y9q (X_d_Next:q0r) (list:List (Int)) (at_:Int) (K:ByteArray→Int→Prop):v91 X_d_Next list at_ K=fnV ((y3o X_d_Next).pl u23) 4 52 ([.ptr 71 [.c,.v]]:LP) ([.v]:LP) ([.ptr 71 [.sl C.u8,.int .i64]]:LV) ([.str]:LV) ([.ptr 71 [.same,.int .i64]]:LV) ((list,at_,()),()) (fun r o=>K r.1 o.1.2.1):=by kernel_rfl
theorem y9r:q0h Go.Proofs.Tryz.prog D 52 (v96 z5i):=q0e (E:=y3o q0o) (q0b h_E0 q2j q5g) fun a K=>y9q q0o a.1.1 a.1.2.1 (fun q0 q1=>K (q0,()) (((),q1,()),()))
theorem j28:Ent Go.Proofs.Tryz.prog 53:=q0d (by kernel_rfl) (by kernel_rfl) (by kernel_rfl)
def j4x (X:q6m):Con Sg:=conV ([.ptr 71 [.c,.v],.v]:LP) ([.ptr 71 [.sl C.u8,.int .i64],.int .i64]:LV) ([.el C.val]:LV) ([.ptr 71 [.same,.int .i64],.same]:LV) (fun a K=>X a.1.1 a.1.2.1 a.2.1 (fun q0 q1=>K (q0,()) (((),q1,()),(),())))
def y5l:Nat→Option (Fx.Spec Sg):=q0c ([]:LS)
def w9v (X_d_Next:q0r) (X_d_Text:q50):Ev Sg:=((E0.with 10 (q4r X_d_Next)).with 38 (j4w X_d_Text))
theorem v97 (X_d_Next:q0r) (X_d_Text:q50) (list:List (Int)) (at_:Int) (kind:Int) (K:Val→Int→Prop):w33 X_d_Next X_d_Text list at_ kind K=fnV ((w9v X_d_Next X_d_Text).pl y5l) 4 53 ([.ptr 71 [.c,.v],.v]:LP) ([.el C.val]:LP) ([.ptr 71 [.sl C.u8,.int .i64],.int .i64]:LV) ([.el C.val]:LV) ([.ptr 71 [.same,.int .i64],.same]:LV) ((list,at_,()),kind,()) (fun r o=>K r.1 o.1.2.1):=by kernel_rfl
theorem w4g:q0h Go.Proofs.Tryz.prog D 53 (j4x q3f):=q0e (E:=w9v q0o q4b) (q0b (q0b h_E0 q2j q5g) j0t w2o) fun a K=>v97 q0o q4b a.1.1 a.1.2.1 a.2.1 (fun q0 q1=>K (q0,()) (((),q1,()),(),()))
theorem y5m:Ent Go.Proofs.Tryz.prog 28:=q0d (by kernel_rfl) (by kernel_rfl) (by kernel_rfl)
def y3p (X:w2m):Con Sg:=conV ([.ptr 71 [.c,.v]]:LP) ([.ptr 71 [.sl C.u8,.int .i64]]:LV) ([.el C.ex]:LV) ([.ptr 71 [.same,.int .i64]]:LV) (fun a K=>X a.1.1 a.1.2.1 (fun q0 q1=>K (q0,()) (((),q1,()),())))
def y9s:Nat→Option (Fx.Spec Sg):=q0c ([(68,⟨[0,2,3,4,5,6,8,9,10,11,12,13,14,15,16,17,23,24,25,26,27,28,29,30,31],[3,2],[(5,(26,5)),(0,(71,2)),(1,(26,5))],[(.cell 5 0,.int IntKind.i64),(.cell 5 1,.str),(.cell 5 2,.str),(.cell 5 3,.own 112 C.val),(.cell 5 4,.own 26 C.ex),(.cell 0 1,.int IntKind.i64),(.cell 1 0,.int IntKind.i64),(.cell 1 1,.str),(.cell 1 2,.str),(.cell 1 3,.own 112 C.val),(.cell 1 4,.own 26 C.ex)]⟩),(60,⟨[0,2,4,5,6,9,11,12,13,14,16,17,24,25,26,27,28,29,30,31,32,33],[],[(0,(71,2)),(5,(26,5)),(1,(26,5))],[(.cell 0 1,.int IntKind.i64),(.cell 5 0,.int IntKind.i64),(.cell 5 1,.str),(.cell 5 2,.str),(.cell 5 3,.own 112 C.val),(.cell 5 4,.own 26 C.ex),(.cell 1 0,.int IntKind.i64),(.cell 1 1,.str),(.cell 1 2,.str),(.cell 1 3,.own 112 C.val),(.cell 1 4,.own 26 C.ex)]⟩),(37,⟨[0,2,4,5,6,9,11,12,13,14,16,17,24,25,26,27,28,29,30,31,32,33,34,35,36,37,46,47,48,49],[1],[(5,(26,5)),(0,(71,2))],[(.slot 7,.int IntKind.i64),(.cell 5 3,.own 112 C.val),(.cell 0 1,.int IntKind.i64)]⟩)]:LS)
def v5w (X_d_Declared:q1x) (X_d_Next:q0r) (X_d_Key:j2p) (X_d_Value:q6m):Ev Sg:=((((E0.with 37 (q98 X_d_Declared)).with 10 (q4r X_d_Next)).with 52 (v96 X_d_Key)).with 53 (j4x X_d_Value))
theorem y5n (X_d_Declared:q1x) (X_d_Next:q0r) (X_d_Key:j2p) (X_d_Value:q6m) (list:List (Int)) (at_:Int) (K:Ex→Int→Prop):v1v X_d_Declared X_d_Next X_d_Key X_d_Value list at_ K=fnV ((v5w X_d_Declared X_d_Next X_d_Key X_d_Value).pl y9s) 4 28 ([.ptr 71 [.c,.v]]:LP) ([.el C.ex]:LP) ([.ptr 71 [.sl C.u8,.int .i64]]:LV) ([.el C.ex]:LV) ([.ptr 71 [.same,.int .i64]]:LV) ((list,at_,()),()) (fun r o=>K r.1 o.1.2.1):=by kernel_rfl
theorem u25:q0h Go.Proofs.Tryz.prog D 28 (y3p j0f):=q0e (E:=v5w q09 q0o z5i q3f) (q0b (q0b (q0b (q0b h_E0 q91 z25) q2j q5g) v5v y9r) j28 w4g) fun a K=>y5n q09 q0o z5i q3f a.1.1 a.1.2.1 (fun q0 q1=>K (q0,()) (((),q1,()),()))
theorem j0u:Ent Go.Proofs.Tryz.prog 11:=q0d (by kernel_rfl) (by kernel_rfl) (by kernel_rfl)
def j4y (X:q51):Con Sg:=conV ([.ptr 71 [.c,.v],.sl C.str,.v]:LP) ([.ptr 71 [.sl C.u8,.int .i64],.sl C.str,.int .i64]:LV) ([.el C.ex]:LV) ([.ptr 71 [.same,.int .i64],.same,.same]:LV) (fun a K=>X a.1.1 a.1.2.1 a.2.1 a.2.2.1 (fun q0 q1=>K (q0,()) (((),q1,()),(),(),())))
def v5x:Nat→Option (Fx.Spec Sg):=q0c ([(8,⟨[0,1,2,6,13,14],[0,1],[],[(.slot 7,.int IntKind.i64)]⟩),(28,⟨[0,1,2,6,7,13,14,23,24,25,27,28,40,41],[0,1],[],[(.slot 49,.bool)]⟩),(37,⟨[0,1,2,6,7,8,9,10,13,14,23,24,25,27,28,40,41,49,52,53,54,55,56,57,58,59],[1],[(0,(71,2)),(4,(26,5))],[(.slot 11,.int IntKind.i64),(.cell 0 1,.int IntKind.i64),(.cell 4 0,.int IntKind.i64),(.cell 4 1,.str),(.cell 4 2,.str),(.cell 4 3,.own 112 C.val),(.cell 4 4,.own 26 C.ex)]⟩),(46,⟨[0,1,2,6,7,8,9,10,11,12,13,14,23,24,25,27,28,40,41,49,52,53,54,55,56,57,58,59,60,61,62,65,66,67,68,69],[0,12,11,4],[(13,(26,5))],[(.cell 13 0,.int IntKind.i64),(.cell 13 1,.str),(.cell 13 2,.str),(.cell 13 3,.sl C.val),(.cell 13 4,.sl C.ex)]⟩)]:LS)
def v5y (X_d_Next:q0r) (X_d_Test:w2m):Ev Sg:=((E0.with 10 (q4r X_d_Next)).with 28 (y3p X_d_Test))
theorem y5o (X_d_Next:q0r) (X_d_Test:w2m) (X:q51) (list:List (Int)) (at_:Int) (segments:List (ByteArray)) (levels:Int) (K:Ex→Int→Prop):j0g X_d_Next X_d_Test X list at_ segments levels K=fnV (((v5y X_d_Next X_d_Test).with 11 (j4y X)).pl v5x) 4 11 ([.ptr 71 [.c,.v],.sl C.str,.v]:LP) ([.el C.ex]:LP) ([.ptr 71 [.sl C.u8,.int .i64],.sl C.str,.int .i64]:LV) ([.el C.ex]:LV) ([.ptr 71 [.same,.int .i64],.same,.same]:LV) ((list,at_,()),segments,levels,()) (fun r o=>K r.1 o.1.2.1):=by kernel_rfl
theorem v2c:q0h Go.Proofs.Tryz.prog D 11 (j4y q5a):=by
 show q0h _ _ _ (conV ([.ptr 71 [.c,.v],.sl C.str,.v]:LP) ([.ptr 71 [.sl C.u8,.int .i64],.sl C.str,.int .i64]:LV) ([.el C.ex]:LV) ([.ptr 71 [.same,.int .i64],.same,.same]:LV) fun a K=>q5a a.1.1 a.1.2.1 a.2.1 a.2.2.1 (fun q0 q1=>K (q0,()) (((),q1,()),(),(),())))
 refine z6s (E:=v5y q0o j0f) (fuel:=4) (rk:=[.el C.ex]) (p:=v5x) (q0b (q0b h_E0 q2j q5g) y5m u25) j0u fun a K h X hX=> ?_
 exact h (fun list at_ segments levels K=>X ((list,at_,()),segments,levels,()) fun r o=>K r.1 o.1.2.1) (fun list at_ segments levels K hs=>hX ((list,at_,()),segments,levels,()) (fun r o=>K r.1 o.1.2.1) (Eq.mp (y5o q0o j0f (fun list at_ segments levels K=>X ((list,at_,()),segments,levels,()) fun r o=>K r.1 o.1.2.1) list at_ segments levels K) hs))
theorem w7s:Ent Go.Proofs.Tryz.prog 40:=q0d (by kernel_rfl) (by kernel_rfl) (by kernel_rfl)
def j9e (X:z2t):Con Sg:=conV ([.ptr 71 [.c,.v],.ptr 52 [.v,.v,.v,.sl C.decl,.own 33 C.seg,.own 95 C.flag,.own 99 C.layer,.own 103 C.exper]]:LP) ([.ptr 71 [.sl C.u8,.int .i64],.ptr 52 [.str,.str,.int .i64,.sl C.decl,.vec 33 C.seg,.vec 95 C.flag,.vec 99 C.layer,.vec 103 C.exper]]:LV) ([]:LV) ([.ptr 71 [.same,.int .i64],.ptr 52 [.str,.str,.int .i64,.sl C.decl,.vec 33 C.seg,.vec 95 C.flag,.vec 99 C.layer,.vec 103 C.exper]]:LV) (fun a K=>X a.1.1 a.1.2.1 a.2.1.1 a.2.1.2.1 a.2.1.2.2.1 a.2.1.2.2.2.1 a.2.1.2.2.2.2.1 a.2.1.2.2.2.2.2.1 a.2.1.2.2.2.2.2.2.1 a.2.1.2.2.2.2.2.2.2.1 (fun q0 q1 q2 q3 q4 q5 q6 q7 q8=>K () (((),q0,()),(q1,q2,q3,q4,q5,q6,q7,q8,()),())))
def v2d:Nat→Option (Fx.Spec Sg):=q0c ([(5,⟨[0,1,4,7,8,10],[3,4,5],[(0,(71,2)),(1,(52,8))],[(.slot 5,.int IntKind.i64),(.cell 0 1,.int IntKind.i64),(.cell 1 4,.own 33 C.seg)]⟩),(14,⟨[0,1,4,5,6,7,8,10,11,12,13,14,17,18,19,20,21,22,23,24,25],[11,10,9,1],[(12,(33,9)),(0,(71,2))],[(.cell 12 1,.str),(.cell 0 1,.int IntKind.i64)]⟩),(18,⟨[0,1,4,5,6,7,8,10,11,12,13,14,17,18,19,20,21,22,23,24,25],[11,10,9,1],[(12,(33,9)),(0,(71,2))],[(.cell 12 4,.int IntKind.i64),(.cell 12 5,.str),(.cell 12 6,.str),(.cell 12 7,.sl C.val),(.cell 12 8,.sl C.ex),(.cell 0 1,.int IntKind.i64)]⟩)]:LS)
def j4z (X_d_Next:q0r) (X_d_keys:z5g) (X_d_Keys:z5h) (X_d_Expr:q51):Ev Sg:=((((E0.with 10 (q4r X_d_Next)).with 41 (v2a X_d_keys)).with 23 (v2b X_d_Keys)).with 11 (j4y X_d_Expr))
theorem w7t (X_d_Next:q0r) (X_d_keys:z5g) (X_d_Keys:z5h) (X_d_Expr:q51) (list:List (Int)) (at_:Int) (salt:ByteArray) (hkind:ByteArray) (hold:Int) (attrs:List (Decl)) (segs:List (Seg)) (flags:List (Flg)) (layers:List (Lay_)) (expers:List (Exper)) (K:Int→ByteArray→ByteArray→Int→List (Decl)→List (Seg)→List (Flg)→List (Lay_)→List (Exper)→Prop):z7y X_d_Next X_d_keys X_d_Keys X_d_Expr list at_ salt hkind hold attrs segs flags layers expers K=fnV ((j4z X_d_Next X_d_keys X_d_Keys X_d_Expr).pl v2d) 4 40 ([.ptr 71 [.c,.v],.ptr 52 [.v,.v,.v,.sl C.decl,.own 33 C.seg,.own 95 C.flag,.own 99 C.layer,.own 103 C.exper]]:LP) ([]:LP) ([.ptr 71 [.sl C.u8,.int .i64],.ptr 52 [.str,.str,.int .i64,.sl C.decl,.vec 33 C.seg,.vec 95 C.flag,.vec 99 C.layer,.vec 103 C.exper]]:LV) ([]:LV) ([.ptr 71 [.same,.int .i64],.ptr 52 [.str,.str,.int .i64,.sl C.decl,.vec 33 C.seg,.vec 95 C.flag,.vec 99 C.layer,.vec 103 C.exper]]:LV) ((list,at_,()),(salt,hkind,hold,attrs,segs,flags,layers,expers,()),()) (fun _ o=>K o.1.2.1 o.2.1.1 o.2.1.2.1 o.2.1.2.2.1 o.2.1.2.2.2.1 o.2.1.2.2.2.2.1 o.2.1.2.2.2.2.2.1 o.2.1.2.2.2.2.2.2.1 o.2.1.2.2.2.2.2.2.2.1):=by kernel_rfl
theorem v5z:q0h Go.Proofs.Tryz.prog D 40 (j9e q7h):=q0e (E:=j4z q0o z0u z0v q5a) (q0b (q0b (q0b (q0b h_E0 q2j q5g) w9t y3m) w9u y3n) j0u v2c) fun a K=>w7t q0o z0u z0v q5a a.1.1 a.1.2.1 a.2.1.1 a.2.1.2.1 a.2.1.2.2.1 a.2.1.2.2.2.1 a.2.1.2.2.2.2.1 a.2.1.2.2.2.2.2.1 a.2.1.2.2.2.2.2.2.1 a.2.1.2.2.2.2.2.2.2.1 (fun q0 q1 q2 q3 q4 q5 q6 q7 q8=>K () (((),q0,()),(q1,q2,q3,q4,q5,q6,q7,q8,()),()))
end Go.En
end
noncomputable section
set_option maxRecDepth 100000
open Go Go.RowKit Go.Fl Go.Fl.Lk Go.Fx
namespace Go.En
theorem j7m:Ent Go.Proofs.Tryz.prog 68:=q0d (by kernel_rfl) (by kernel_rfl) (by kernel_rfl)
def z8e (X:q73):Con Sg:=conV ([.el C.env]:LP) ([.el C.env]:LV) ([.vec 9 C.str]:LV) ([.same]:LV) (fun a K=>X a.1 (fun q0=>K (q0,()) ((),())))
def w0n:Nat→Option (Fx.Spec Sg):=q0c ([(7,⟨[0,1,2],[0],[],[(.slot 3,.own 9 C.str),(.slot 4,.int IntKind.i64)]⟩)]:LS)
def z6u:Ev Sg:=E0
theorem j7n (v:Envt) (K:List (ByteArray)→Prop):q2y v K=fnV ((z6u).pl w0n) 4 68 ([.el C.env]:LP) ([.own 9 C.str]:LP) ([.el C.env]:LV) ([.vec 9 C.str]:LV) ([.same]:LV) (v,()) (fun r _=>K r.1):=by kernel_rfl
theorem w4h:q0h Go.Proofs.Tryz.prog D 68 (z8e q2y):=q0e (E:=z6u) h_E0 fun a K=>j7n a.1 (fun q0=>K (q0,()) ((),()))
theorem w4i:Ent Go.Proofs.Tryz.prog 71:=q0d (by kernel_rfl) (by kernel_rfl) (by kernel_rfl)
def w4j (X:z1p):Con Sg:=conV ([.ptr 71 [.c,.v],.v]:LP) ([.ptr 71 [.sl C.u8,.int .i64],.int .i64]:LV) ([.vec 197 C.range]:LV) ([.ptr 71 [.same,.int .i64],.same]:LV) (fun a K=>X a.1.1 a.1.2.1 a.2.1 (fun q0 q1=>K (q0,()) (((),q1,()),(),())))
def y5p:Nat→Option (Fx.Spec Sg):=q0c ([(26,⟨[0,1,4],[],[(0,(71,2))],[(.slot 5,.own 197 C.range),(.slot 6,.int IntKind.i64),(.slot 7,.int IntKind.i64),(.cell 0 1,.int IntKind.i64)]⟩),(32,⟨[0,1,4,5,6,7,49,50,51,52],[0,1],[],[(.slot 11,.int IntKind.i64)]⟩),(9,⟨[0,1,4],[],[(0,(71,2))],[(.slot 5,.own 197 C.range),(.slot 6,.int IntKind.i64),(.slot 7,.int IntKind.i64),(.slot 8,.int IntKind.i64),(.cell 0 1,.int IntKind.i64)]⟩),(20,⟨[0,1,4,5,6,7,8,9,12,13,14,15,16,17,18,19,22,23,24,25,26,27,28,29,30],[0,1],[],[(.slot 10,.int IntKind.i64)]⟩)]:LS)
def w9w (X_d_Next:q0r) (X_d_Wide:q9t):Ev Sg:=((E0.with 10 (q4r X_d_Next)).with 39 (w2p X_d_Wide))
theorem v98 (X_d_Next:q0r) (X_d_Wide:q9t) (list:List (Int)) (at_:Int) (n:Int) (K:List (Rng)→Int→Prop):w34 X_d_Next X_d_Wide list at_ n K=fnV ((w9w X_d_Next X_d_Wide).pl y5p) 4 71 ([.ptr 71 [.c,.v],.v]:LP) ([.own 197 C.range]:LP) ([.ptr 71 [.sl C.u8,.int .i64],.int .i64]:LV) ([.vec 197 C.range]:LV) ([.ptr 71 [.same,.int .i64],.same]:LV) ((list,at_,()),n,()) (fun r o=>K r.1 o.1.2.1):=by kernel_rfl
theorem v50:q0h Go.Proofs.Tryz.prog D 71 (w4j q74):=q0e (E:=w9w q0o q6r) (q0b (q0b h_E0 q2j q5g) j7l v19) fun a K=>v98 q0o q6r a.1.1 a.1.2.1 a.2.1 (fun q0 q1=>K (q0,()) (((),q1,()),(),()))
theorem v99:Ent Go.Proofs.Tryz.prog 69:=q0d (by kernel_rfl) (by kernel_rfl) (by kernel_rfl)
def v52 (X:j4i):Con Sg:=conV ([.ptr 71 [.c,.v],.v]:LP) ([.ptr 71 [.sl C.u8,.int .i64],.int .i64]:LV) ([.el C.serve]:LV) ([.ptr 71 [.same,.int .i64],.same]:LV) (fun a K=>X a.1.1 a.1.2.1 a.2.1 (fun q0 q1=>K (q0,()) (((),q1,()),(),())))
def y5q:Nat→Option (Fx.Spec Sg):=q0c ([]:LS)
def w9x (X_d_Next:q0r) (X_d_Text:q50) (X_d_Split:z1p) (X_d_Declared:q1x):Ev Sg:=((((E0.with 10 (q4r X_d_Next)).with 38 (j4w X_d_Text)).with 71 (w4j X_d_Split)).with 37 (q98 X_d_Declared))
theorem y0a (X_d_Next:q0r) (X_d_Text:q50) (X_d_Split:z1p) (X_d_Declared:q1x) (list:List (Int)) (at_:Int) (n:Int) (K:Srv→Int→Prop):w35 X_d_Next X_d_Text X_d_Split X_d_Declared list at_ n K=fnV ((w9x X_d_Next X_d_Text X_d_Split X_d_Declared).pl y5q) 4 69 ([.ptr 71 [.c,.v],.v]:LP) ([.el C.serve]:LP) ([.ptr 71 [.sl C.u8,.int .i64],.int .i64]:LV) ([.el C.serve]:LV) ([.ptr 71 [.same,.int .i64],.same]:LV) ((list,at_,()),n,()) (fun r o=>K r.1 o.1.2.1):=by kernel_rfl
theorem y9t:q0h Go.Proofs.Tryz.prog D 69 (v52 z4g):=q0e (E:=w9x q0o q4b q74 q09) (q0b (q0b (q0b (q0b h_E0 q2j q5g) j0t w2o) w4i v50) q91 z25) fun a K=>y0a q0o q4b q74 q09 a.1.1 a.1.2.1 a.2.1 (fun q0 q1=>K (q0,()) (((),q1,()),(),()))
theorem y0b:Ent Go.Proofs.Tryz.prog 105:=q0d (by kernel_rfl) (by kernel_rfl) (by kernel_rfl)
def v54 (X:j4j):Con Sg:=conV ([]:LP) ([]:LV) ([.ptr 195 [.vec 253 C.node,.map C.node C.i64,.bool]]:LV) ([]:LV) (fun _ K=>X (fun q0 q1 q2=>K ((q0,q1,q2,()),()) ()))
def y5r:Nat→Option (Fx.Spec Sg):=q0c ([]:LS)
def w9y:Ev Sg:=E0
theorem y0c (K:List (Nd)→(Nd→Option (Int))→Bool→Prop):z7z K=fnV ((w9y).pl y5r) 4 105 ([]:LP) ([.ptr 195 [.own 253 C.node,.map C.node C.i64,.v]]:LP) ([]:LV) ([.ptr 195 [.vec 253 C.node,.map C.node C.i64,.bool]]:LV) ([]:LV) () (fun r _=>K r.1.1 r.1.2.1 r.1.2.2.1):=by kernel_rfl
theorem y9u:q0h Go.Proofs.Tryz.prog D 105 (v54 z7z):=q0e (E:=w9y) h_E0 fun _ K=>y0c (fun q0 q1 q2=>K ((q0,q1,q2,()),()) ())
theorem z07:Ent Go.Proofs.Tryz.prog 81:=q0d (by kernel_rfl) (by kernel_rfl) (by kernel_rfl)
def z16 (X:q11):Con Sg:=conV ([.v]:LP) ([.int .i64]:LV) ([.bool]:LV) ([.same]:LV) (fun a K=>X a.1 (fun q0=>K (q0,()) ((),())))
def v55:Nat→Option (Fx.Spec Sg):=q0c ([]:LS)
def j9f:Ev Sg:=E0
theorem v2e (op:Int) (K:Bool→Prop):q1f op K=fnV ((j9f).pl v55) 4 81 ([.v]:LP) ([.v]:LP) ([.int .i64]:LV) ([.bool]:LV) ([.same]:LV) (op,()) (fun r _=>K r.1):=by kernel_rfl
theorem z57:q0h Go.Proofs.Tryz.prog D 81 (z16 q1f):=q0e (E:=j9f) h_E0 fun a K=>v2e a.1 (fun q0=>K (q0,()) ((),()))
theorem w4k:Ent Go.Proofs.Tryz.prog 12:=q0d (by kernel_rfl) (by kernel_rfl) (by kernel_rfl)
def w4l (X:z1q):Con Sg:=conV ([.sl C.str,.sl C.str]:LP) ([.sl C.str,.sl C.str]:LV) ([.bool]:LV) ([.same,.same]:LV) (fun a K=>X a.1 a.2.1 (fun q0=>K (q0,()) ((),(),())))
def y5s:Nat→Option (Fx.Spec Sg):=q0c ([(9,⟨[0,1,6,7,8,9,10],[],[],[(.slot 5,.int IntKind.i64)]⟩)]:LS)
def w9z:Ev Sg:=E0
theorem y0d (a:List (ByteArray)) (b:List (ByteArray)) (K:Bool→Prop):q6n a b K=fnV ((w9z).pl y5s) 4 12 ([.sl C.str,.sl C.str]:LP) ([.v]:LP) ([.sl C.str,.sl C.str]:LV) ([.bool]:LV) ([.same,.same]:LV) (a,b,()) (fun r _=>K r.1):=by kernel_rfl
theorem v56:q0h Go.Proofs.Tryz.prog D 12 (w4l q6n):=q0e (E:=w9z) h_E0 fun a K=>y0d a.1 a.2.1 (fun q0=>K (q0,()) ((),(),()))
theorem v57:Ent Go.Proofs.Tryz.prog 82:=q0d (by kernel_rfl) (by kernel_rfl) (by kernel_rfl)
def w90 (X:z4h):Con Sg:=conV ([.el C.val,.el C.val]:LP) ([.el C.val,.el C.val]:LV) ([.bool]:LV) ([.same,.same]:LV) (fun a K=>X a.1 a.2.1 (fun q0=>K (q0,()) ((),(),())))
def y0e:Nat→Option (Fx.Spec Sg):=q0c ([]:LS)
def w4m (X_r1_Same:z1q):Ev Sg:=(E0.with 12 (w4l X_r1_Same))
theorem v58 (X_r1_Same:z1q) (a:Val) (b:Val) (K:Bool→Prop):j7c X_r1_Same a b K=fnV ((w4m X_r1_Same).pl y0e) 4 82 ([.el C.val,.el C.val]:LP) ([.v]:LP) ([.el C.val,.el C.val]:LV) ([.bool]:LV) ([.same,.same]:LV) (a,b,()) (fun r _=>K r.1):=by kernel_rfl
theorem y5t:q0h Go.Proofs.Tryz.prog D 82 (w90 q7i):=q0e (E:=w4m q6n) (q0b h_E0 w4k v56) fun a K=>v58 q6n a.1 a.2.1 (fun q0=>K (q0,()) ((),(),()))
theorem j7o:Ent Go.Proofs.Tryz.prog 201:=q0d (by kernel_rfl) (by kernel_rfl) (by kernel_rfl)
def z8f (X:q75):Con Sg:=conV ([.sl C.val,.sl C.val]:LP) ([.sl C.val,.sl C.val]:LV) ([.bool]:LV) ([.same,.same]:LV) (fun a K=>X a.1 a.2.1 (fun q0=>K (q0,()) ((),(),())))
def w0o:Nat→Option (Fx.Spec Sg):=q0c ([(9,⟨[0,1,6,7,8,9,10],[],[],[(.slot 5,.int IntKind.i64)]⟩)]:LS)
def z6v (X_r3_Equal:z4h):Ev Sg:=(E0.with 82 (w90 X_r3_Equal))
theorem j7p (X_r3_Equal:z4h) (a:List (Val)) (b:List (Val)) (K:Bool→Prop):z1r X_r3_Equal a b K=fnV ((z6v X_r3_Equal).pl w0o) 4 201 ([.sl C.val,.sl C.val]:LP) ([.v]:LP) ([.sl C.val,.sl C.val]:LV) ([.bool]:LV) ([.same,.same]:LV) (a,b,()) (fun r _=>K r.1):=by kernel_rfl
theorem w4n:q0h Go.Proofs.Tryz.prog D 201 (z8f q3s):=q0e (E:=z6v q7i) (q0b h_E0 v57 y5t) fun a K=>j7p q7i a.1 a.2.1 (fun q0=>K (q0,()) ((),(),()))
theorem z8g:Ent Go.Proofs.Tryz.prog 180:=q0d (by kernel_rfl) (by kernel_rfl) (by kernel_rfl)
def z58 (X:q4c):Con Sg:=conV ([.el C.ex,.el C.ex]:LP) ([.el C.ex,.el C.ex]:LV) ([.bool]:LV) ([.same,.same]:LV) (fun a K=>X a.1 a.2.1 (fun q0=>K (q0,()) ((),(),())))
def j1k:Nat→Option (Fx.Spec Sg):=q0c ([(203000009,⟨[0,1,6,7,8,9,10],[],[],[(.slot 5,.int IntKind.i64)]⟩)]:LS)
def j1l (X_r6_SameValues:q75):Ev Sg:=(E0.with 201 (z8f X_r6_SameValues))
theorem w4o (X_r6_SameValues:q75) (X:q4c) (a:Ex) (b:Ex) (K:Bool→Prop):z5j X_r6_SameValues X a b K=fnV (((j1l X_r6_SameValues).with 180 (z58 X)).pl j1k) 4 180 ([.el C.ex,.el C.ex]:LP) ([.v]:LP) ([.el C.ex,.el C.ex]:LV) ([.bool]:LV) ([.same,.same]:LV) (a,b,()) (fun r _=>K r.1):=by kernel_rfl
theorem v2f:q0h Go.Proofs.Tryz.prog D 180 (z58 q4d):=by
 show q0h _ _ _ (conV ([.el C.ex,.el C.ex]:LP) ([.el C.ex,.el C.ex]:LV) ([.bool]:LV) ([.same,.same]:LV) fun a K=>q4d a.1 a.2.1 (fun q0=>K (q0,()) ((),(),())))
 refine z6s (E:=j1l q3s) (fuel:=4) (rk:=[.v]) (p:=j1k) (q0b h_E0 j7o w4n) z8g fun a K h X hX=> ?_
 exact h (fun a b K=>X (a,b,()) fun r _=>K r.1) (fun a b K hs=>hX (a,b,()) (fun r _=>K r.1) (Eq.mp (w4o q3s (fun a b K=>X (a,b,()) fun r _=>K r.1) a b K) hs))
theorem j40:Ent Go.Proofs.Tryz.prog 143:=q0d (by kernel_rfl) (by kernel_rfl) (by kernel_rfl)
def j29 (X:q63):Con Sg:=conV ([.sl C.ex,.el C.ex]:LP) ([.sl C.ex,.el C.ex]:LV) ([.int .i64]:LV) ([.same,.same]:LV) (fun a K=>X a.1 a.2.1 (fun q0=>K (q0,()) ((),(),())))
def v59:Nat→Option (Fx.Spec Sg):=q0c ([(5,⟨[0,1,3],[0],[],[(.slot 5,.int IntKind.i64)]⟩)]:LS)
def j9g (X_r6_SameExpr:q4c):Ev Sg:=(E0.with 180 (z58 X_r6_SameExpr))
theorem v2g (X_r6_SameExpr:q4c) (l:List (Ex)) (e:Ex) (K:Int→Prop):j2q X_r6_SameExpr l e K=fnV ((j9g X_r6_SameExpr).pl v59) 4 143 ([.sl C.ex,.el C.ex]:LP) ([.v]:LP) ([.sl C.ex,.el C.ex]:LV) ([.int .i64]:LV) ([.same,.same]:LV) (l,e,()) (fun r _=>K r.1):=by kernel_rfl
theorem w4p:q0h Go.Proofs.Tryz.prog D 143 (j29 q3m):=q0e (E:=j9g q4d) (q0b h_E0 z8g v2f) fun a K=>v2g q4d a.1 a.2.1 (fun q0=>K (q0,()) ((),(),()))
theorem z6w:Ent Go.Proofs.Tryz.prog 140:=q0d (by kernel_rfl) (by kernel_rfl) (by kernel_rfl)
def z3w (X:q3n):Con Sg:=conV ([.sl C.ex,.el C.ex]:LP) ([.sl C.ex,.el C.ex]:LV) ([.sl C.ex]:LV) ([.same,.same]:LV) (fun a K=>X a.1 a.2.1 (fun q0=>K (q0,()) ((),(),())))
def z8h:Nat→Option (Fx.Spec Sg):=q0c ([(6,⟨[1,3,4],[0],[],[(.slot 0,.sl C.ex)]⟩),(9,⟨[1,3,4],[0],[],[(.slot 0,.sl C.ex),(.slot 5,.int IntKind.i64)]⟩)]:LS)
def z8i (X_r11_Index:q63) (X_r6_IsTest:q11):Ev Sg:=((E0.with 143 (j29 X_r11_Index)).with 81 (z16 X_r6_IsTest))
theorem w0p (X_r11_Index:q63) (X_r6_IsTest:q11) (X:q3n) (l:List (Ex)) (e:Ex) (K:List (Ex)→Prop):z3r X_r11_Index X_r6_IsTest X l e K=fnV (((z8i X_r11_Index X_r6_IsTest).with 140 (z3w X)).pl z8h) 4 140 ([.sl C.ex,.el C.ex]:LP) ([.sl C.ex]:LP) ([.sl C.ex,.el C.ex]:LV) ([.sl C.ex]:LV) ([.same,.same]:LV) (l,e,()) (fun r _=>K r.1):=by kernel_rfl
theorem w7u:q0h Go.Proofs.Tryz.prog D 140 (z3w q4z):=by
 show q0h _ _ _ (conV ([.sl C.ex,.el C.ex]:LP) ([.sl C.ex,.el C.ex]:LV) ([.sl C.ex]:LV) ([.same,.same]:LV) fun a K=>q4z a.1 a.2.1 (fun q0=>K (q0,()) ((),(),())))
 refine z6s (E:=z8i q3m q1f) (fuel:=4) (rk:=[.sl C.ex]) (p:=z8h) (q0b (q0b h_E0 j40 w4p) z07 z57) z6w fun a K h X hX=> ?_
 exact h (fun l e K=>X (l,e,()) fun r _=>K r.1) (fun l e K hs=>hX (l,e,()) (fun r _=>K r.1) (Eq.mp (w0p q3m q1f (fun l e K=>X (l,e,()) fun r _=>K r.1) l e K) hs))
theorem j7q:Ent Go.Proofs.Tryz.prog 106:=q0d (by kernel_rfl) (by kernel_rfl) (by kernel_rfl)
def z8j (X:q76):Con Sg:=conV ([.sl C.rule]:LP) ([.sl C.rule]:LV) ([.sl C.ex]:LV) ([.same]:LV) (fun a K=>X a.1 (fun q0=>K (q0,()) ((),())))
def w0q:Nat→Option (Fx.Spec Sg):=q0c ([(7,⟨[0,2],[],[],[(.slot 3,.sl C.ex),(.slot 4,.int IntKind.i64)]⟩)]:LS)
def z6x (X_r11_AddAtoms:q3n):Ev Sg:=(E0.with 140 (z3w X_r11_AddAtoms))
theorem j7r (X_r11_AddAtoms:q3n) (l:List (Rul)) (K:List (Ex)→Prop):z1s X_r11_AddAtoms l K=fnV ((z6x X_r11_AddAtoms).pl w0q) 4 106 ([.sl C.rule]:LP) ([.sl C.ex]:LP) ([.sl C.rule]:LV) ([.sl C.ex]:LV) ([.same]:LV) (l,()) (fun r _=>K r.1):=by kernel_rfl
theorem w4q:q0h Go.Proofs.Tryz.prog D 106 (z8j q3t):=q0e (E:=z6x q4z) (q0b h_E0 z6w w7u) fun a K=>j7r q4z a.1 (fun q0=>K (q0,()) ((),()))
end Go.En
end
noncomputable section
set_option maxRecDepth 100000
open Go Go.RowKit Go.Fl Go.Fl.Lk Go.Fx
namespace Go.En
theorem q8l:Ent Go.Proofs.Tryz.prog 181:=q0d (by kernel_rfl) (by kernel_rfl) (by kernel_rfl)
def q8m (X:q1l):Con Sg:=conV ([.ptr 195 [.own 253 C.node,.map C.node C.i64,.v],.v]:LP) ([.ptr 195 [.vec 253 C.node,.map C.node C.i64,.bool],.int .i64]:LV) ([.bool]:LV) ([.ptr 195 [.vec 253 C.node,.map C.node C.i64,.bool],.same]:LV) (fun a K=>X a.1.1 a.1.2.1 a.1.2.2.1 a.2.1 (fun q0 q1 q2 q3=>K (q0,()) ((q1,q2,q3,()),(),())))
def w7v:Nat→Option (Fx.Spec Sg):=q0c ([]:LS)
def j1m:Ev Sg:=E0
theorem w4r (ns:List (Nd)) (ids:(Nd→Option (Int))) (full:Bool) (id:Int) (K:Bool→List (Nd)→(Nd→Option (Int))→Bool→Prop):q04 ns ids full id K=fnV ((j1m).pl w7v) 4 181 ([.ptr 195 [.own 253 C.node,.map C.node C.i64,.v],.v]:LP) ([.v]:LP) ([.ptr 195 [.vec 253 C.node,.map C.node C.i64,.bool],.int .i64]:LV) ([.bool]:LV) ([.ptr 195 [.vec 253 C.node,.map C.node C.i64,.bool],.same]:LV) ((ns,ids,full,()),id,()) (fun r o=>K r.1 o.1.1 o.1.2.1 o.1.2.2.1):=by kernel_rfl
theorem z08:q0h Go.Proofs.Tryz.prog D 181 (q8m q04):=q0e (E:=j1m) h_E0 fun a K=>w4r a.1.1 a.1.2.1 a.1.2.2.1 a.2.1 (fun q0 q1 q2 q3=>K (q0,()) ((q1,q2,q3,()),(),()))
theorem j41:Ent Go.Proofs.Tryz.prog 203:=q0d (by kernel_rfl) (by kernel_rfl) (by kernel_rfl)
def z6y (X:q6s):Con Sg:=conV ([.ptr 195 [.own 253 C.node,.map C.node C.i64,.v],.v]:LP) ([.ptr 195 [.vec 253 C.node,.map C.node C.i64,.bool],.int .i64]:LV) ([.map C.i64 C.bool]:LV) ([.ptr 195 [.vec 253 C.node,.map C.node C.i64,.bool],.same]:LV) (fun a K=>X a.1.1 a.1.2.1 a.1.2.2.1 a.2.1 (fun q0 q1 q2 q3=>K (q0,()) ((q1,q2,q3,()),(),())))
def j7s:Nat→Option (Fx.Spec Sg):=q0c ([(7,⟨[0,1,4,5,8,9,10],[0,1,2],[],[(.slot 6,.own 3 C.i64),(.obj 3,.map C.i64 C.bool)]⟩)]:LS)
def z4q:Ev Sg:=E0
theorem j42 (ns:List (Nd)) (ids:(Nd→Option (Int))) (full:Bool) (id:Int) (K:(Int→Option (Bool))→List (Nd)→(Nd→Option (Int))→Bool→Prop):q2k ns ids full id K=fnV ((z4q).pl j7s) 4 203 ([.ptr 195 [.own 253 C.node,.map C.node C.i64,.v],.v]:LP) ([.map C.i64 C.bool]:LP) ([.ptr 195 [.vec 253 C.node,.map C.node C.i64,.bool],.int .i64]:LV) ([.map C.i64 C.bool]:LV) ([.ptr 195 [.vec 253 C.node,.map C.node C.i64,.bool],.same]:LV) ((ns,ids,full,()),id,()) (fun r o=>K r.1 o.1.1 o.1.2.1 o.1.2.2.1):=by kernel_rfl
theorem w0r:q0h Go.Proofs.Tryz.prog D 203 (z6y q2k):=q0e (E:=z4q) h_E0 fun a K=>j42 a.1.1 a.1.2.1 a.1.2.2.1 a.2.1 (fun q0 q1 q2 q3=>K (q0,()) ((q1,q2,q3,()),(),()))
theorem j3a:Ent Go.Proofs.Tryz.prog 183:=q0d (by kernel_rfl) (by kernel_rfl) (by kernel_rfl)
def z4r (X:q52):Con Sg:=conV ([.ptr 195 [.own 253 C.node,.map C.node C.i64,.v],.v]:LP) ([.ptr 195 [.vec 253 C.node,.map C.node C.i64,.bool],.int .i64]:LV) ([.vec 3 C.i64]:LV) ([.ptr 195 [.vec 253 C.node,.map C.node C.i64,.bool],.same]:LV) (fun a K=>X a.1.1 a.1.2.1 a.1.2.2.1 a.2.1 (fun q0 q1 q2 q3=>K (q0,()) ((q1,q2,q3,()),(),())))
def j43:Nat→Option (Fx.Spec Sg):=q0c ([(13,⟨[0,1,4,5,8,9,10,11,12,13,14],[5,0,4,2],[],[(.slot 6,.own 3 C.i64),(.slot 7,.int IntKind.i64)]⟩)]:LS)
def z27 (X_r17Store_is:q1l) (X_r17Store_reach:q6s):Ev Sg:=((E0.with 181 (q8m X_r17Store_is)).with 203 (z6y X_r17Store_reach))
theorem j3b (X_r17Store_is:q1l) (X_r17Store_reach:q6s) (ns:List (Nd)) (ids:(Nd→Option (Int))) (full:Bool) (id:Int) (K:List (Int)→List (Nd)→(Nd→Option (Int))→Bool→Prop):z4i X_r17Store_is X_r17Store_reach ns ids full id K=fnV ((z27 X_r17Store_is X_r17Store_reach).pl j43) 4 183 ([.ptr 195 [.own 253 C.node,.map C.node C.i64,.v],.v]:LP) ([.own 3 C.i64]:LP) ([.ptr 195 [.vec 253 C.node,.map C.node C.i64,.bool],.int .i64]:LV) ([.vec 3 C.i64]:LV) ([.ptr 195 [.vec 253 C.node,.map C.node C.i64,.bool],.same]:LV) ((ns,ids,full,()),id,()) (fun r o=>K r.1 o.1.1 o.1.2.1 o.1.2.2.1):=by kernel_rfl
theorem j7t:q0h Go.Proofs.Tryz.prog D 183 (z4r q2t):=q0e (E:=z27 q04 q2k) (q0b (q0b h_E0 q8l z08) j41 w0r) fun a K=>j3b q04 q2k a.1.1 a.1.2.1 a.1.2.2.1 a.2.1 (fun q0 q1 q2 q3=>K (q0,()) ((q1,q2,q3,()),(),()))
theorem q49:Ent Go.Proofs.Tryz.prog 145:=q0d (by kernel_rfl) (by kernel_rfl) (by kernel_rfl)
def q3p (X:q0y):Con Sg:=conV ([.ptr 195 [.own 253 C.node,.map C.node C.i64,.v],.v]:LP) ([.ptr 195 [.vec 253 C.node,.map C.node C.i64,.bool],.int .i64]:LV) ([.bool]:LV) ([.ptr 195 [.vec 253 C.node,.map C.node C.i64,.bool],.same]:LV) (fun a K=>X a.1.1 a.1.2.1 a.1.2.2.1 a.2.1 (fun q0 q1 q2 q3=>K (q0,()) ((q1,q2,q3,()),(),())))
def z8k:Nat→Option (Fx.Spec Sg):=q0c ([(11,⟨[0,1,5,7,8,9,10,11,12,13],[5,0,4,2],[],[(.slot 6,.int IntKind.i64)]⟩)]:LS)
def q99 (X_r17Store_is:q1l) (X_r17Store_Leaves:q52):Ev Sg:=((E0.with 181 (q8m X_r17Store_is)).with 183 (z4r X_r17Store_Leaves))
theorem z7n (X_r17Store_is:q1l) (X_r17Store_Leaves:q52) (ns:List (Nd)) (ids:(Nd→Option (Int))) (full:Bool) (id:Int) (K:Bool→List (Nd)→(Nd→Option (Int))→Bool→Prop):z0m X_r17Store_is X_r17Store_Leaves ns ids full id K=fnV ((q99 X_r17Store_is X_r17Store_Leaves).pl z8k) 4 145 ([.ptr 195 [.own 253 C.node,.map C.node C.i64,.v],.v]:LP) ([.v]:LP) ([.ptr 195 [.vec 253 C.node,.map C.node C.i64,.bool],.int .i64]:LV) ([.bool]:LV) ([.ptr 195 [.vec 253 C.node,.map C.node C.i64,.bool],.same]:LV) ((ns,ids,full,()),id,()) (fun r o=>K r.1 o.1.1 o.1.2.1 o.1.2.2.1):=by kernel_rfl
theorem q6j:q0h Go.Proofs.Tryz.prog D 145 (q3p q0q):=q0e (E:=q99 q04 q2t) (q0b (q0b h_E0 q8l z08) j3a j7t) fun a K=>z7n q04 q2t a.1.1 a.1.2.1 a.1.2.2.1 a.2.1 (fun q0 q1 q2 q3=>K (q0,()) ((q1,q2,q3,()),(),()))
theorem z0l:Ent Go.Proofs.Tryz.prog 182:=q0d (by kernel_rfl) (by kernel_rfl) (by kernel_rfl)
def q92 (X:q10):Con Sg:=conV ([.ptr 195 [.own 253 C.node,.map C.node C.i64,.v],.v]:LP) ([.ptr 195 [.vec 253 C.node,.map C.node C.i64,.bool],.int .i64]:LV) ([.int .i64]:LV) ([.ptr 195 [.vec 253 C.node,.map C.node C.i64,.bool],.same]:LV) (fun a K=>X a.1.1 a.1.2.1 a.1.2.2.1 a.2.1 (fun q0 q1 q2 q3=>K (q0,()) ((q1,q2,q3,()),(),())))
def w4s:Nat→Option (Fx.Spec Sg):=q0c ([]:LS)
def z8l:Ev Sg:=E0
theorem w0s (ns:List (Nd)) (ids:(Nd→Option (Int))) (full:Bool) (id:Int) (K:Int→List (Nd)→(Nd→Option (Int))→Bool→Prop):q08 ns ids full id K=fnV ((z8l).pl w4s) 4 182 ([.ptr 195 [.own 253 C.node,.map C.node C.i64,.v],.v]:LP) ([.v]:LP) ([.ptr 195 [.vec 253 C.node,.map C.node C.i64,.bool],.int .i64]:LV) ([.int .i64]:LV) ([.ptr 195 [.vec 253 C.node,.map C.node C.i64,.bool],.same]:LV) ((ns,ids,full,()),id,()) (fun r o=>K r.1 o.1.1 o.1.2.1 o.1.2.2.1):=by kernel_rfl
theorem z3x:q0h Go.Proofs.Tryz.prog D 182 (q92 q08):=q0e (E:=z8l) h_E0 fun a K=>w0s a.1.1 a.1.2.1 a.1.2.2.1 a.2.1 (fun q0 q1 q2 q3=>K (q0,()) ((q1,q2,q3,()),(),()))
theorem j44:Ent Go.Proofs.Tryz.prog 204:=q0d (by kernel_rfl) (by kernel_rfl) (by kernel_rfl)
def z6z (X:q6t):Con Sg:=conV ([.ptr 195 [.own 253 C.node,.map C.node C.i64,.v],.v,.v]:LP) ([.ptr 195 [.vec 253 C.node,.map C.node C.i64,.bool],.int .i64,.int .i64]:LV) ([.int .i64,.int .i64]:LV) ([.ptr 195 [.vec 253 C.node,.map C.node C.i64,.bool],.same,.same]:LV) (fun a K=>X a.1.1 a.1.2.1 a.1.2.2.1 a.2.1 a.2.2.1 (fun q0 q1 q2 q3 q4=>K (q0,q1,()) ((q2,q3,q4,()),(),(),())))
def j7u:Nat→Option (Fx.Spec Sg):=q0c ([]:LS)
def z4s (X_r17Store_top:q10):Ev Sg:=(E0.with 182 (q92 X_r17Store_top))
theorem j45 (X_r17Store_top:q10) (ns:List (Nd)) (ids:(Nd→Option (Int))) (full:Bool) (id:Int) (test:Int) (K:Int→Int→List (Nd)→(Nd→Option (Int))→Bool→Prop):z6t X_r17Store_top ns ids full id test K=fnV ((z4s X_r17Store_top).pl j7u) 4 204 ([.ptr 195 [.own 253 C.node,.map C.node C.i64,.v],.v,.v]:LP) ([.v,.v]:LP) ([.ptr 195 [.vec 253 C.node,.map C.node C.i64,.bool],.int .i64,.int .i64]:LV) ([.int .i64,.int .i64]:LV) ([.ptr 195 [.vec 253 C.node,.map C.node C.i64,.bool],.same,.same]:LV) ((ns,ids,full,()),id,test,()) (fun r o=>K r.1 r.2.1 o.1.1 o.1.2.1 o.1.2.2.1):=by kernel_rfl
theorem w0t:q0h Go.Proofs.Tryz.prog D 204 (z6z q2l):=q0e (E:=z4s q08) (q0b h_E0 z0l z3x) fun a K=>j45 q08 a.1.1 a.1.2.1 a.1.2.2.1 a.2.1 a.2.2.1 (fun q0 q1 q2 q3 q4=>K (q0,q1,()) ((q2,q3,q4,()),(),(),()))
theorem z4t:Ent Go.Proofs.Tryz.prog 144:=q0d (by kernel_rfl) (by kernel_rfl) (by kernel_rfl)
def z17 (X:q2z):Con Sg:=conV ([.ptr 195 [.own 253 C.node,.map C.node C.i64,.v],.v,.v,.v]:LP) ([.ptr 195 [.vec 253 C.node,.map C.node C.i64,.bool],.int .i64,.int .i64,.int .i64]:LV) ([.int .i64]:LV) ([.ptr 195 [.vec 253 C.node,.map C.node C.i64,.bool],.same,.same,.same]:LV) (fun a K=>X a.1.1 a.1.2.1 a.1.2.2.1 a.2.1 a.2.2.1 a.2.2.2.1 (fun q0 q1 q2 q3=>K (q0,()) ((q1,q2,q3,()),(),(),(),())))
def w0u:Nat→Option (Fx.Spec Sg):=q0c ([]:LS)
def z60 (X_r17Store_is:q1l) (X_r17Store_top:q10):Ev Sg:=((E0.with 181 (q8m X_r17Store_is)).with 182 (q92 X_r17Store_top))
theorem j7v (X_r17Store_is:q1l) (X_r17Store_top:q10) (ns:List (Nd)) (ids:(Nd→Option (Int))) (full:Bool) (test:Int) (yes:Int) (no:Int) (K:Int→List (Nd)→(Nd→Option (Int))→Bool→Prop):z70 X_r17Store_is X_r17Store_top ns ids full test yes no K=fnV ((z60 X_r17Store_is X_r17Store_top).pl w0u) 4 144 ([.ptr 195 [.own 253 C.node,.map C.node C.i64,.v],.v,.v,.v]:LP) ([.v]:LP) ([.ptr 195 [.vec 253 C.node,.map C.node C.i64,.bool],.int .i64,.int .i64,.int .i64]:LV) ([.int .i64]:LV) ([.ptr 195 [.vec 253 C.node,.map C.node C.i64,.bool],.same,.same,.same]:LV) ((ns,ids,full,()),test,yes,no,()) (fun r o=>K r.1 o.1.1 o.1.2.1 o.1.2.2.1):=by kernel_rfl
theorem z8m:q0h Go.Proofs.Tryz.prog D 144 (z17 q1t):=q0e (E:=z60 q04 q08) (q0b (q0b h_E0 q8l z08) z0l z3x) fun a K=>j7v q04 q08 a.1.1 a.1.2.1 a.1.2.2.1 a.2.1 a.2.2.1 a.2.2.2.1 (fun q0 q1 q2 q3=>K (q0,()) ((q1,q2,q3,()),(),(),(),()))
theorem z18:Ent Go.Proofs.Tryz.prog 184:=q0d (by kernel_rfl) (by kernel_rfl) (by kernel_rfl)
def q9i (X:q16):Con Sg:=conV ([.ptr 195 [.own 253 C.node,.map C.node C.i64,.v],.v,.v,.v,.map C.a3 C.i64]:LP) ([.ptr 195 [.vec 253 C.node,.map C.node C.i64,.bool],.int .i64,.int .i64,.int .i64,.map C.a3 C.i64]:LV) ([.int .i64]:LV) ([.ptr 195 [.vec 253 C.node,.map C.node C.i64,.bool],.same,.same,.same,.map C.a3 C.i64]:LV) (fun a K=>X a.1.1 a.1.2.1 a.1.2.2.1 a.2.1 a.2.2.1 a.2.2.2.1 a.2.2.2.2.1 (fun q0 q1 q2 q3 q4=>K (q0,()) ((q1,q2,q3,()),(),(),(),q4,())))
def z29:Nat→Option (Fx.Spec Sg):=q0c ([(36,⟨[0,1,2,3,4,10,11,12,13,14,15,16,17,18,19,20,21,22,24,25,26,27,28,29,30,31,33,34,35,37,38,39,40,41,42,43,44,45,46,47,49,50,51,52,53,54,55,56,57,58,59,60,61,62,63,64,65,66,67,68,69,70,71,72,73,74,75,76,77,78,79,80,81,82,83,84,85,86,87,88,89,90,91],[3,4],[(0,(195,3))],[(.slot 23,.int IntKind.i64),(.cell 0 0,.own 253 C.node),(.cell 0 2,.bool),(.obj 2,.map C.node C.i64)]⟩)]:LS)
def z3a (X_r17Store_top:q10) (X_r17Store_sides:q6t) (X_r17Store_Node:q2z):Ev Sg:=(((E0.with 182 (q92 X_r17Store_top)).with 204 (z6z X_r17Store_sides)).with 144 (z17 X_r17Store_Node))
theorem j3c (X_r17Store_top:q10) (X_r17Store_sides:q6t) (X_r17Store_Node:q2z) (X:q16) (ns:List (Nd)) (ids:(Nd→Option (Int))) (full:Bool) (f:Int) (g:Int) (h:Int) (known:(A3→Option (Int))) (K:Int→List (Nd)→(Nd→Option (Int))→Bool→(A3→Option (Int))→Prop):q3u X_r17Store_top X_r17Store_sides X_r17Store_Node X ns ids full f g h known K=fnV (((z3a X_r17Store_top X_r17Store_sides X_r17Store_Node).with 184 (q9i X)).pl z29) 4 184 ([.ptr 195 [.own 253 C.node,.map C.node C.i64,.v],.v,.v,.v,.map C.a3 C.i64]:LP) ([.v]:LP) ([.ptr 195 [.vec 253 C.node,.map C.node C.i64,.bool],.int .i64,.int .i64,.int .i64,.map C.a3 C.i64]:LV) ([.int .i64]:LV) ([.ptr 195 [.vec 253 C.node,.map C.node C.i64,.bool],.same,.same,.same,.map C.a3 C.i64]:LV) ((ns,ids,full,()),f,g,h,known,()) (fun r o=>K r.1 o.1.1 o.1.2.1 o.1.2.2.1 o.2.2.2.2.1):=by kernel_rfl
theorem j7w:q0h Go.Proofs.Tryz.prog D 184 (q9i q2u):=by
 show q0h _ _ _ (conV ([.ptr 195 [.own 253 C.node,.map C.node C.i64,.v],.v,.v,.v,.map C.a3 C.i64]:LP) ([.ptr 195 [.vec 253 C.node,.map C.node C.i64,.bool],.int .i64,.int .i64,.int .i64,.map C.a3 C.i64]:LV) ([.int .i64]:LV) ([.ptr 195 [.vec 253 C.node,.map C.node C.i64,.bool],.same,.same,.same,.map C.a3 C.i64]:LV) fun a K=>q2u a.1.1 a.1.2.1 a.1.2.2.1 a.2.1 a.2.2.1 a.2.2.2.1 a.2.2.2.2.1 (fun q0 q1 q2 q3 q4=>K (q0,()) ((q1,q2,q3,()),(),(),(),q4,())))
 refine z6s (E:=z3a q08 q2l q1t) (fuel:=4) (rk:=[.v]) (p:=z29) (q0b (q0b (q0b h_E0 z0l z3x) j44 w0t) z4t z8m) z18 fun a K h X hX=> ?_
 exact h (fun ns ids full f g h known K=>X ((ns,ids,full,()),f,g,h,known,()) fun r o=>K r.1 o.1.1 o.1.2.1 o.1.2.2.1 o.2.2.2.2.1) (fun ns ids full f g h known K hs=>hX ((ns,ids,full,()),f,g,h,known,()) (fun r o=>K r.1 o.1.1 o.1.2.1 o.1.2.2.1 o.2.2.2.2.1) (Eq.mp (j3c q08 q2l q1t (fun ns ids full f g h known K=>X ((ns,ids,full,()),f,g,h,known,()) fun r o=>K r.1 o.1.1 o.1.2.1 o.1.2.2.1 o.2.2.2.2.1) ns ids full f g h known K) hs))
theorem q7c:Ent Go.Proofs.Tryz.prog 146:=q0d (by kernel_rfl) (by kernel_rfl) (by kernel_rfl)
def q6g (X:q1d):Con Sg:=conV ([.ptr 195 [.own 253 C.node,.map C.node C.i64,.v],.v,.v,.v]:LP) ([.ptr 195 [.vec 253 C.node,.map C.node C.i64,.bool],.int .i64,.int .i64,.int .i64]:LV) ([.int .i64]:LV) ([.ptr 195 [.vec 253 C.node,.map C.node C.i64,.bool],.same,.same,.same]:LV) (fun a K=>X a.1.1 a.1.2.1 a.1.2.2.1 a.2.1 a.2.2.1 a.2.2.2.1 (fun q0 q1 q2 q3=>K (q0,()) ((q1,q2,q3,()),(),(),(),())))
def j46:Nat→Option (Fx.Spec Sg):=q0c ([]:LS)
def z3b (X_r17Store_condition:q0y) (X_r17Store_is:q1l) (X_r17Store_choose:q16):Ev Sg:=(((E0.with 145 (q3p X_r17Store_condition)).with 181 (q8m X_r17Store_is)).with 184 (q9i X_r17Store_choose))
theorem j3d (X_r17Store_condition:q0y) (X_r17Store_is:q1l) (X_r17Store_choose:q16) (ns:List (Nd)) (ids:(Nd→Option (Int))) (full:Bool) (f:Int) (g:Int) (h:Int) (K:Int→List (Nd)→(Nd→Option (Int))→Bool→Prop):z4j X_r17Store_condition X_r17Store_is X_r17Store_choose ns ids full f g h K=fnV ((z3b X_r17Store_condition X_r17Store_is X_r17Store_choose).pl j46) 4 146 ([.ptr 195 [.own 253 C.node,.map C.node C.i64,.v],.v,.v,.v]:LP) ([.v]:LP) ([.ptr 195 [.vec 253 C.node,.map C.node C.i64,.bool],.int .i64,.int .i64,.int .i64]:LV) ([.int .i64]:LV) ([.ptr 195 [.vec 253 C.node,.map C.node C.i64,.bool],.same,.same,.same]:LV) ((ns,ids,full,()),f,g,h,()) (fun r o=>K r.1 o.1.1 o.1.2.1 o.1.2.2.1):=by kernel_rfl
theorem q9j:q0h Go.Proofs.Tryz.prog D 146 (q6g q00):=q0e (E:=z3b q0q q04 q2u) (q0b (q0b (q0b h_E0 q49 q6j) q8l z08) z18 j7w) fun a K=>j3d q0q q04 q2u a.1.1 a.1.2.1 a.1.2.2.1 a.2.1 a.2.2.1 a.2.2.2.1 (fun q0 q1 q2 q3=>K (q0,()) ((q1,q2,q3,()),(),(),(),()))
theorem w0v:Ent Go.Proofs.Tryz.prog 141:=q0d (by kernel_rfl) (by kernel_rfl) (by kernel_rfl)
def j1n (X:q9u):Con Sg:=conV ([.ptr 195 [.own 253 C.node,.map C.node C.i64,.v],.v]:LP) ([.ptr 195 [.vec 253 C.node,.map C.node C.i64,.bool],.int .i64]:LV) ([.int .i64]:LV) ([.ptr 195 [.vec 253 C.node,.map C.node C.i64,.bool],.same]:LV) (fun a K=>X a.1.1 a.1.2.1 a.1.2.2.1 a.2.1 (fun q0 q1 q2 q3=>K (q0,()) ((q1,q2,q3,()),(),())))
def w4t:Nat→Option (Fx.Spec Sg):=q0c ([]:LS)
def z8n (X_r17Store_Choose:q1d):Ev Sg:=(E0.with 146 (q6g X_r17Store_Choose))
theorem w0w (X_r17Store_Choose:q1d) (ns:List (Nd)) (ids:(Nd→Option (Int))) (full:Bool) (f:Int) (K:Int→List (Nd)→(Nd→Option (Int))→Bool→Prop):j1h X_r17Store_Choose ns ids full f K=fnV ((z8n X_r17Store_Choose).pl w4t) 4 141 ([.ptr 195 [.own 253 C.node,.map C.node C.i64,.v],.v]:LP) ([.v]:LP) ([.ptr 195 [.vec 253 C.node,.map C.node C.i64,.bool],.int .i64]:LV) ([.int .i64]:LV) ([.ptr 195 [.vec 253 C.node,.map C.node C.i64,.bool],.same]:LV) ((ns,ids,full,()),f,()) (fun r o=>K r.1 o.1.1 o.1.2.1 o.1.2.2.1):=by kernel_rfl
theorem w7w:q0h Go.Proofs.Tryz.prog D 141 (j1n q40):=q0e (E:=z8n q00) (q0b h_E0 q7c q9j) fun a K=>w0w q00 a.1.1 a.1.2.1 a.1.2.2.1 a.2.1 (fun q0 q1 q2 q3=>K (q0,()) ((q1,q2,q3,()),(),()))
theorem w0x:Ent Go.Proofs.Tryz.prog 142:=q0d (by kernel_rfl) (by kernel_rfl) (by kernel_rfl)
def j1o (X:q9v):Con Sg:=conV ([.ptr 195 [.own 253 C.node,.map C.node C.i64,.v],.v,.v]:LP) ([.ptr 195 [.vec 253 C.node,.map C.node C.i64,.bool],.int .i64,.int .i64]:LV) ([.int .i64]:LV) ([.ptr 195 [.vec 253 C.node,.map C.node C.i64,.bool],.same,.same]:LV) (fun a K=>X a.1.1 a.1.2.1 a.1.2.2.1 a.2.1 a.2.2.1 (fun q0 q1 q2 q3=>K (q0,()) ((q1,q2,q3,()),(),(),())))
def w4u:Nat→Option (Fx.Spec Sg):=q0c ([]:LS)
def z8o (X_r17Store_condition:q0y) (X_r17Store_Choose:q1d):Ev Sg:=((E0.with 145 (q3p X_r17Store_condition)).with 146 (q6g X_r17Store_Choose))
theorem w0y (X_r17Store_condition:q0y) (X_r17Store_Choose:q1d) (ns:List (Nd)) (ids:(Nd→Option (Int))) (full:Bool) (f:Int) (g:Int) (K:Int→List (Nd)→(Nd→Option (Int))→Bool→Prop):j1i X_r17Store_condition X_r17Store_Choose ns ids full f g K=fnV ((z8o X_r17Store_condition X_r17Store_Choose).pl w4u) 4 142 ([.ptr 195 [.own 253 C.node,.map C.node C.i64,.v],.v,.v]:LP) ([.v]:LP) ([.ptr 195 [.vec 253 C.node,.map C.node C.i64,.bool],.int .i64,.int .i64]:LV) ([.int .i64]:LV) ([.ptr 195 [.vec 253 C.node,.map C.node C.i64,.bool],.same,.same]:LV) ((ns,ids,full,()),f,g,()) (fun r o=>K r.1 o.1.1 o.1.2.1 o.1.2.2.1):=by kernel_rfl
theorem w7x:q0h Go.Proofs.Tryz.prog D 142 (j1o q41):=q0e (E:=z8o q0q q00) (q0b (q0b h_E0 q49 q6j) q7c q9j) fun a K=>w0y q0q q00 a.1.1 a.1.2.1 a.1.2.2.1 a.2.1 a.2.2.1 (fun q0 q1 q2 q3=>K (q0,()) ((q1,q2,q3,()),(),(),()))
theorem z8p:Ent Go.Proofs.Tryz.prog 108:=q0d (by kernel_rfl) (by kernel_rfl) (by kernel_rfl)
def z59 (X:q4e):Con Sg:=conV ([.ptr 195 [.own 253 C.node,.map C.node C.i64,.v],.v,.v]:LP) ([.ptr 195 [.vec 253 C.node,.map C.node C.i64,.bool],.int .i64,.int .i64]:LV) ([.int .i64]:LV) ([.ptr 195 [.vec 253 C.node,.map C.node C.i64,.bool],.same,.same]:LV) (fun a K=>X a.1.1 a.1.2.1 a.1.2.2.1 a.2.1 a.2.2.1 (fun q0 q1 q2 q3=>K (q0,()) ((q1,q2,q3,()),(),(),())))
def w7y:Nat→Option (Fx.Spec Sg):=q0c ([]:LS)
def j1p (X_r17Store_condition:q0y) (X_r17Store_Choose:q1d):Ev Sg:=((E0.with 145 (q3p X_r17Store_condition)).with 146 (q6g X_r17Store_Choose))
theorem w4v (X_r17Store_condition:q0y) (X_r17Store_Choose:q1d) (ns:List (Nd)) (ids:(Nd→Option (Int))) (full:Bool) (f:Int) (g:Int) (K:Int→List (Nd)→(Nd→Option (Int))→Bool→Prop):j4k X_r17Store_condition X_r17Store_Choose ns ids full f g K=fnV ((j1p X_r17Store_condition X_r17Store_Choose).pl w7y) 4 108 ([.ptr 195 [.own 253 C.node,.map C.node C.i64,.v],.v,.v]:LP) ([.v]:LP) ([.ptr 195 [.vec 253 C.node,.map C.node C.i64,.bool],.int .i64,.int .i64]:LV) ([.int .i64]:LV) ([.ptr 195 [.vec 253 C.node,.map C.node C.i64,.bool],.same,.same]:LV) ((ns,ids,full,()),f,g,()) (fun r o=>K r.1 o.1.1 o.1.2.1 o.1.2.2.1):=by kernel_rfl
theorem j47:q0h Go.Proofs.Tryz.prog D 108 (z59 q2o):=q0e (E:=j1p q0q q00) (q0b (q0b h_E0 q49 q6j) q7c q9j) fun a K=>w4v q0q q00 a.1.1 a.1.2.1 a.1.2.2.1 a.2.1 a.2.2.1 (fun q0 q1 q2 q3=>K (q0,()) ((q1,q2,q3,()),(),(),()))
end Go.En
end
noncomputable section
set_option maxRecDepth 100000
open Go Go.RowKit Go.Fl Go.Fl.Lk Go.Fx
namespace Go.En
theorem z4u:Ent Go.Proofs.Tryz.prog 107:=q0d (by kernel_rfl) (by kernel_rfl) (by kernel_rfl)
def z19 (X:q20):Con Sg:=conV ([.ptr 195 [.own 253 C.node,.map C.node C.i64,.v],.sl C.ex,.el C.ex]:LP) ([.ptr 195 [.vec 253 C.node,.map C.node C.i64,.bool],.sl C.ex,.el C.ex]:LV) ([.int .i64]:LV) ([.ptr 195 [.vec 253 C.node,.map C.node C.i64,.bool],.same,.same]:LV) (fun a K=>X a.1.1 a.1.2.1 a.1.2.2.1 a.2.1 a.2.2.1 (fun q0 q1 q2 q3=>K (q0,()) ((q1,q2,q3,()),(),(),())))
def z61:Nat→Option (Fx.Spec Sg):=q0c ([(16,⟨[0,1,2,5,6,11,12,13,14,15,16],[3,0,1,2],[],[(.slot 26,.bool)]⟩),(21,⟨[0,1,2,5,6,11,12,13,14,15,16,26,29,30,31,32,33,34,35],[3],[(0,(195,3))],[(.slot 7,.int IntKind.i64),(.slot 8,.int IntKind.i64),(.cell 0 0,.own 253 C.node),(.cell 0 2,.bool),(.obj 2,.map C.node C.i64)]⟩)]:LS)
def z62 (X_r17Store_Not:q9u) (X_r17Store_And:q9v) (X_r17Store_Or:q4e) (X_r11_Index:q63) (X_r17Store_Node:q2z):Ev Sg:=(((((E0.with 141 (j1n X_r17Store_Not)).with 142 (j1o X_r17Store_And)).with 108 (z59 X_r17Store_Or)).with 143 (j29 X_r11_Index)).with 144 (z17 X_r17Store_Node))
theorem j7x (X_r17Store_Not:q9u) (X_r17Store_And:q9v) (X_r17Store_Or:q4e) (X_r11_Index:q63) (X_r17Store_Node:q2z) (X:q20) (ns:List (Nd)) (ids:(Nd→Option (Int))) (full:Bool) (atoms:List (Ex)) (e:Ex) (K:Int→List (Nd)→(Nd→Option (Int))→Bool→Prop):z1t X_r17Store_Not X_r17Store_And X_r17Store_Or X_r11_Index X_r17Store_Node X ns ids full atoms e K=fnV (((z62 X_r17Store_Not X_r17Store_And X_r17Store_Or X_r11_Index X_r17Store_Node).with 107 (z19 X)).pl z61) 4 107 ([.ptr 195 [.own 253 C.node,.map C.node C.i64,.v],.sl C.ex,.el C.ex]:LP) ([.v]:LP) ([.ptr 195 [.vec 253 C.node,.map C.node C.i64,.bool],.sl C.ex,.el C.ex]:LV) ([.int .i64]:LV) ([.ptr 195 [.vec 253 C.node,.map C.node C.i64,.bool],.same,.same]:LV) ((ns,ids,full,()),atoms,e,()) (fun r o=>K r.1 o.1.1 o.1.2.1 o.1.2.2.1):=by kernel_rfl
theorem w4w:q0h Go.Proofs.Tryz.prog D 107 (z19 q3v):=by
 show q0h _ _ _ (conV ([.ptr 195 [.own 253 C.node,.map C.node C.i64,.v],.sl C.ex,.el C.ex]:LP) ([.ptr 195 [.vec 253 C.node,.map C.node C.i64,.bool],.sl C.ex,.el C.ex]:LV) ([.int .i64]:LV) ([.ptr 195 [.vec 253 C.node,.map C.node C.i64,.bool],.same,.same]:LV) fun a K=>q3v a.1.1 a.1.2.1 a.1.2.2.1 a.2.1 a.2.2.1 (fun q0 q1 q2 q3=>K (q0,()) ((q1,q2,q3,()),(),(),())))
 refine z6s (E:=z62 q40 q41 q2o q3m q1t) (fuel:=4) (rk:=[.v]) (p:=z61) (q0b (q0b (q0b (q0b (q0b h_E0 w0v w7w) w0x w7x) z8p j47) j40 w4p) z4t z8m) z4u fun a K h X hX=> ?_
 exact h (fun ns ids full atoms e K=>X ((ns,ids,full,()),atoms,e,()) fun r o=>K r.1 o.1.1 o.1.2.1 o.1.2.2.1) (fun ns ids full atoms e K hs=>hX ((ns,ids,full,()),atoms,e,()) (fun r o=>K r.1 o.1.1 o.1.2.1 o.1.2.2.1) (Eq.mp (j7x q40 q41 q2o q3m q1t (fun ns ids full atoms e K=>X ((ns,ids,full,()),atoms,e,()) fun r o=>K r.1 o.1.1 o.1.2.1 o.1.2.2.1) ns ids full atoms e K) hs))
theorem z2a:Ent Go.Proofs.Tryz.prog 70:=q0d (by kernel_rfl) (by kernel_rfl) (by kernel_rfl)
def q9k (X:q17):Con Sg:=conV ([.sl C.rule]:LP) ([.sl C.rule]:LV) ([.vec 3 C.i64,.int .i64,.bool]:LV) ([.same]:LV) (fun a K=>X a.1 (fun q0 q1 q2=>K (q0,q1,q2,()) ((),())))
def j48:Nat→Option (Fx.Spec Sg):=q0c ([(13,⟨[0,5,6,12,13,14],[],[(0,(195,3))],[(.slot 7,.int IntKind.i64),(.slot 8,.own 3 C.i64),(.slot 9,.int IntKind.i64),(.cell 0 0,.own 253 C.node),(.cell 0 2,.bool),(.obj 2,.map C.node C.i64)]⟩)]:LS)
def z3c (X_r17_New:j4j) (X_r17_RuleAtoms:q76) (X_r17_Condition:q20) (X_r17Store_Or:q4e):Ev Sg:=((((E0.with 105 (v54 X_r17_New)).with 106 (z8j X_r17_RuleAtoms)).with 107 (z19 X_r17_Condition)).with 108 (z59 X_r17Store_Or))
theorem j3e (X_r17_New:j4j) (X_r17_RuleAtoms:q76) (X_r17_Condition:q20) (X_r17Store_Or:q4e) (l:List (Rul)) (K:List (Int)→Int→Bool→Prop):q8x X_r17_New X_r17_RuleAtoms X_r17_Condition X_r17Store_Or l K=fnV ((z3c X_r17_New X_r17_RuleAtoms X_r17_Condition X_r17Store_Or).pl j48) 4 70 ([.sl C.rule]:LP) ([.own 3 C.i64,.v,.v]:LP) ([.sl C.rule]:LV) ([.vec 3 C.i64,.int .i64,.bool]:LV) ([.same]:LV) (l,()) (fun r _=>K r.1 r.2.1 r.2.2.1):=by kernel_rfl
theorem z4v:q0h Go.Proofs.Tryz.prog D 70 (q9k q1m):=q0e (E:=z3c z7z q3t q3v q2o) (q0b (q0b (q0b (q0b h_E0 y0b y9u) j7q w4q) z4u w4w) z8p j47) fun a K=>j3e z7z q3t q3v q2o a.1 (fun q0 q1 q2=>K (q0,q1,q2,()) ((),()))
theorem y0f:Ent Go.Proofs.Tryz.prog 43:=q0d (by kernel_rfl) (by kernel_rfl) (by kernel_rfl)
def v6a (X:j4l):Con Sg:=conV ([.ptr 71 [.c,.v],.v]:LP) ([.ptr 71 [.sl C.u8,.int .i64],.str]:LV) ([.el C.layer]:LV) ([.ptr 71 [.same,.int .i64],.same]:LV) (fun a K=>X a.1.1 a.1.2.1 a.2.1 (fun q0 q1=>K (q0,()) (((),q1,()),(),())))
def y5u:Nat→Option (Fx.Spec Sg):=q0c ([(8,⟨[0,1,4,5,10,11,12,13,14,15,16],[1],[(2,(99,6)),(0,(71,2))],[(.cell 2 1,.str),(.cell 0 1,.int IntKind.i64)]⟩),(12,⟨[0,1,4,5,10,11,12,13,14,15,16],[1],[(2,(99,6)),(0,(71,2))],[(.cell 2 3,.int IntKind.i64),(.cell 0 1,.int IntKind.i64)]⟩),(17,⟨[0,1,4,5,10,11,12,13,14,15,16],[1],[(2,(99,6)),(0,(71,2))],[(.slot 6,.int IntKind.i64),(.slot 7,.int IntKind.i64),(.cell 2 5,.own 146 C.cool),(.cell 0 1,.int IntKind.i64)]⟩)]:LS)
def w91 (X_d_Text:q50) (X_d_Next:q0r) (X_d_Wide:q9t):Ev Sg:=(((E0.with 38 (j4w X_d_Text)).with 10 (q4r X_d_Next)).with 39 (w2p X_d_Wide))
theorem y0g (X_d_Text:q50) (X_d_Next:q0r) (X_d_Wide:q9t) (list:List (Int)) (at_:Int) (key:ByteArray) (K:Lay_→Int→Prop):w36 X_d_Text X_d_Next X_d_Wide list at_ key K=fnV ((w91 X_d_Text X_d_Next X_d_Wide).pl y5u) 4 43 ([.ptr 71 [.c,.v],.v]:LP) ([.el C.layer]:LP) ([.ptr 71 [.sl C.u8,.int .i64],.str]:LV) ([.el C.layer]:LV) ([.ptr 71 [.same,.int .i64],.same]:LV) ((list,at_,()),key,()) (fun r o=>K r.1 o.1.2.1):=by kernel_rfl
theorem y9v:q0h Go.Proofs.Tryz.prog D 43 (v6a z4k):=q0e (E:=w91 q4b q0o q6r) (q0b (q0b (q0b h_E0 j0t w2o) q2j q5g) j7l v19) fun a K=>y0g q4b q0o q6r a.1.1 a.1.2.1 a.2.1 (fun q0 q1=>K (q0,()) (((),q1,()),(),()))
theorem v6b:Ent Go.Proofs.Tryz.prog 109:=q0d (by kernel_rfl) (by kernel_rfl) (by kernel_rfl)
def w92 (X:j0h):Con Sg:=conV ([.v]:LP) ([.int .i64]:LV) ([.bool]:LV) ([.same]:LV) (fun a K=>X a.1 (fun q0=>K (q0,()) ((),())))
def y0h:Nat→Option (Fx.Spec Sg):=q0c ([]:LS)
def w4x:Ev Sg:=E0
theorem v6c (now:Int) (K:Bool→Prop):q8y now K=fnV ((w4x).pl y0h) 4 109 ([.v]:LP) ([.v]:LP) ([.int .i64]:LV) ([.bool]:LV) ([.same]:LV) (now,()) (fun r _=>K r.1):=by kernel_rfl
theorem y5v:q0h Go.Proofs.Tryz.prog D 109 (w92 q8y):=q0e (E:=w4x) h_E0 fun a K=>v6c a.1 (fun q0=>K (q0,()) ((),()))
theorem z2b:Ent Go.Proofs.Tryz.prog 110:=q0d (by kernel_rfl) (by kernel_rfl) (by kernel_rfl)
def z09 (X:q2b):Con Sg:=conV ([.el C.env,.v]:LP) ([.el C.env,.str]:LV) ([.int .i64]:LV) ([.same,.same]:LV) (fun a K=>X a.1 a.2.1 (fun q0=>K (q0,()) ((),(),())))
def w7z:Nat→Option (Fx.Spec Sg):=q0c ([(5,⟨[0,1,2],[0],[],[(.slot 5,.int IntKind.i64)]⟩)]:LS)
def j1q:Ev Sg:=E0
theorem w4y (v:Envt) (key:ByteArray) (K:Int→Prop):q1v v key K=fnV ((j1q).pl w7z) 4 110 ([.el C.env,.v]:LP) ([.v]:LP) ([.el C.env,.str]:LV) ([.int .i64]:LV) ([.same,.same]:LV) (v,key,()) (fun r _=>K r.1):=by kernel_rfl
theorem z6a:q0h Go.Proofs.Tryz.prog D 110 (z09 q1v):=q0e (E:=j1q) h_E0 fun a K=>w4y a.1 a.2.1 (fun q0=>K (q0,()) ((),(),()))
theorem j7y:Ent Go.Proofs.Tryz.prog 149:=q0d (by kernel_rfl) (by kernel_rfl) (by kernel_rfl)
def z8q (X:q77):Con Sg:=conV ([.sl C.cool,.v]:LP) ([.sl C.cool,.int .i64]:LV) ([.vec 3 C.i64]:LV) ([.same,.same]:LV) (fun a K=>X a.1 a.2.1 (fun q0=>K (q0,()) ((),(),())))
def w0z:Nat→Option (Fx.Spec Sg):=q0c ([(7,⟨[0,1,4,5,9],[],[],[(.slot 6,.int IntKind.i64),(.obj 0,.own 3 C.i64)]⟩),(15,⟨[0,1,4,5,6,9,10,11,12,13],[],[],[(.slot 7,.int IntKind.i64),(.obj 0,.own 3 C.i64)]⟩),(21,⟨[0,1,4,5,6,7,9,10,11,12,13,20,21,22,23,26,27,28,29,30,31],[],[],[(.slot 8,.int IntKind.i64),(.obj 0,.own 3 C.i64)]⟩)]:LS)
def z63:Ev Sg:=E0
theorem j7z (l:List (Col)) (now:Int) (K:List (Int)→Prop):q21 l now K=fnV ((z63).pl w0z) 4 149 ([.sl C.cool,.v]:LP) ([.own 3 C.i64]:LP) ([.sl C.cool,.int .i64]:LV) ([.vec 3 C.i64]:LV) ([.same,.same]:LV) (l,now,()) (fun r _=>K r.1):=by kernel_rfl
theorem w4z:q0h Go.Proofs.Tryz.prog D 149 (z8q q21):=q0e (E:=z63) h_E0 fun a K=>j7z a.1 a.2.1 (fun q0=>K (q0,()) ((),(),()))
theorem q8n:Ent Go.Proofs.Tryz.prog 113:=q0d (by kernel_rfl) (by kernel_rfl) (by kernel_rfl)
def q9l (X:q1s):Con Sg:=conV ([.sl C.bool]:LP) ([.sl C.bool]:LV) ([.vec 152 C.span]:LV) ([.same]:LV) (fun a K=>X a.1 (fun q0=>K (q0,()) ((),())))
def v6d:Nat→Option (Fx.Spec Sg):=q0c ([(7,⟨[0,2],[],[],[(.slot 3,.own 152 C.span),(.slot 4,.int IntKind.i64)]⟩)]:LS)
def j9h:Ev Sg:=E0
theorem v2h (set_:List (Bool)) (K:List (Spn)→Prop):q1b set_ K=fnV ((j9h).pl v6d) 4 113 ([.sl C.bool]:LP) ([.own 152 C.span]:LP) ([.sl C.bool]:LV) ([.vec 152 C.span]:LV) ([.same]:LV) (set_,()) (fun r _=>K r.1):=by kernel_rfl
theorem z2c:q0h Go.Proofs.Tryz.prog D 113 (q9l q1b):=q0e (E:=j9h) h_E0 fun a K=>v2h a.1 (fun q0=>K (q0,()) ((),()))
theorem v2i:Ent Go.Proofs.Tryz.prog 148:=q0d (by kernel_rfl) (by kernel_rfl) (by kernel_rfl)
def w40 (X:z5k):Con Sg:=conV ([.sl C.i64,.v]:LP) ([.sl C.i64,.int .i64]:LV) ([.vec 152 C.span]:LV) ([.same,.same]:LV) (fun a K=>X a.1 a.2.1 (fun q0=>K (q0,()) ((),(),())))
def v6e:Nat→Option (Fx.Spec Sg):=q0c ([(7,⟨[0,1,4,5,7,8,9],[],[],[(.slot 6,.int IntKind.i64),(.obj 0,.own 4 C.bool)]⟩)]:LS)
def j9i (X_r14_Spans:q1s):Ev Sg:=(E0.with 113 (q9l X_r14_Spans))
theorem v2j (X_r14_Spans:q1s) (until_:List (Int)) (now:Int) (K:List (Spn)→Prop):j2r X_r14_Spans until_ now K=fnV ((j9i X_r14_Spans).pl v6e) 4 148 ([.sl C.i64,.v]:LP) ([.own 152 C.span]:LP) ([.sl C.i64,.int .i64]:LV) ([.vec 152 C.span]:LV) ([.same,.same]:LV) (until_,now,()) (fun r _=>K r.1):=by kernel_rfl
theorem y0i:q0h Go.Proofs.Tryz.prog D 148 (w40 q8z):=q0e (E:=j9i q1b) (q0b h_E0 q8n z2c) fun a K=>v2j q1b a.1 a.2.1 (fun q0=>K (q0,()) ((),(),()))
theorem z6b:Ent Go.Proofs.Tryz.prog 112:=q0d (by kernel_rfl) (by kernel_rfl) (by kernel_rfl)
def z8r (X:q3w):Con Sg:=conV ([.sl C.span]:LP) ([.sl C.span]:LV) ([.vec 4 C.bool]:LV) ([.same]:LV) (fun a K=>X a.1 (fun q0=>K (q0,()) ((),())))
def y5w:Nat→Option (Fx.Spec Sg):=q0c ([(7,⟨[0,2,3,6],[],[],[(.slot 4,.int IntKind.i64),(.obj 0,.own 4 C.bool)]⟩),(13,⟨[0,2,3,4,6,7,8,9,10,13,14,15,16,17,18],[],[],[(.slot 5,.int IntKind.i64),(.obj 0,.own 4 C.bool)]⟩)]:LS)
def w93:Ev Sg:=E0
theorem y0j (l:List (Spn)) (K:List (Bool)→Prop):q2n l K=fnV ((w93).pl y5w) 4 112 ([.sl C.span]:LP) ([.own 4 C.bool]:LP) ([.sl C.span]:LV) ([.vec 4 C.bool]:LV) ([.same]:LV) (l,()) (fun r _=>K r.1):=by kernel_rfl
theorem j49:q0h Go.Proofs.Tryz.prog D 112 (z8r q2n):=q0e (E:=w93) h_E0 fun a K=>y0j a.1 (fun q0=>K (q0,()) ((),()))
theorem v2k:Ent Go.Proofs.Tryz.prog 147:=q0d (by kernel_rfl) (by kernel_rfl) (by kernel_rfl)
def w41 (X:z5l):Con Sg:=conV ([.sl C.span,.sl C.span]:LP) ([.sl C.span,.sl C.span]:LV) ([.vec 152 C.span]:LV) ([.same,.same]:LV) (fun a K=>X a.1 a.2.1 (fun q0=>K (q0,()) ((),(),())))
def v6f:Nat→Option (Fx.Spec Sg):=q0c ([(7,⟨[0,1,4,5,6,8,9,10,11],[1],[],[(.slot 7,.int IntKind.i64),(.obj 0,.own 4 C.bool)]⟩)]:LS)
def j9j (X_r14_Set:q3w) (X_r14_Spans:q1s):Ev Sg:=((E0.with 112 (z8r X_r14_Set)).with 113 (q9l X_r14_Spans))
theorem v2l (X_r14_Set:q3w) (X_r14_Spans:q1s) (a:List (Spn)) (b:List (Spn)) (K:List (Spn)→Prop):j2s X_r14_Set X_r14_Spans a b K=fnV ((j9j X_r14_Set X_r14_Spans).pl v6f) 4 147 ([.sl C.span,.sl C.span]:LP) ([.own 152 C.span]:LP) ([.sl C.span,.sl C.span]:LV) ([.vec 152 C.span]:LV) ([.same,.same]:LV) (a,b,()) (fun r _=>K r.1):=by kernel_rfl
theorem y0k:q0h Go.Proofs.Tryz.prog D 147 (w41 q80):=q0e (E:=j9j q2n q1b) (q0b (q0b h_E0 z6b j49) q8n z2c) fun a K=>v2l q2n q1b a.1 a.2.1 (fun q0=>K (q0,()) ((),(),()))
theorem v2m:Ent Go.Proofs.Tryz.prog 111:=q0d (by kernel_rfl) (by kernel_rfl) (by kernel_rfl)
def w42 (X:z5m):Con Sg:=conV ([.el C.env,.v,.v,.v]:LP) ([.el C.env,.str,.str,.int .i64]:LV) ([.vec 152 C.span]:LV) ([.same,.same,.same,.same]:LV) (fun a K=>X a.1 a.2.1 a.2.2.1 a.2.2.2.1 (fun q0=>K (q0,()) ((),(),(),(),())))
def v6g:Nat→Option (Fx.Spec Sg):=q0c ([(10,⟨[0,1,2,3,4,8,9,13,14,15,16,17],[0],[],[(.slot 10,.own 152 C.span)]⟩),(13,⟨[0,1,2,3,4,8,9,13,14,15,16,17],[0],[],[(.slot 10,.own 152 C.span),(.slot 11,.int IntKind.i64)]⟩)]:LS)
def j9k (X_r14_LayerOf:q2b) (X_r14_Union:z5l) (X_r14_Protected:q77) (X_r14_later:z5k):Ev Sg:=((((E0.with 110 (z09 X_r14_LayerOf)).with 147 (w41 X_r14_Union)).with 149 (z8q X_r14_Protected)).with 148 (w40 X_r14_later))
theorem v2n (X_r14_LayerOf:q2b) (X_r14_Union:z5l) (X_r14_Protected:q77) (X_r14_later:z5k) (v:Envt) (layer:ByteArray) (but:ByteArray) (now:Int) (K:List (Spn)→Prop):j2t X_r14_LayerOf X_r14_Union X_r14_Protected X_r14_later v layer but now K=fnV ((j9k X_r14_LayerOf X_r14_Union X_r14_Protected X_r14_later).pl v6g) 4 111 ([.el C.env,.v,.v,.v]:LP) ([.own 152 C.span]:LP) ([.el C.env,.str,.str,.int .i64]:LV) ([.vec 152 C.span]:LV) ([.same,.same,.same,.same]:LV) (v,layer,but,now,()) (fun r _=>K r.1):=by kernel_rfl
theorem y0l:q0h Go.Proofs.Tryz.prog D 111 (w42 q81):=q0e (E:=j9k q1v q80 q21 q8z) (q0b (q0b (q0b (q0b h_E0 z2b z6a) v2k y0k) j7y w4z) v2i y0i) fun a K=>v2n q1v q80 q21 q8z a.1 a.2.1 a.2.2.1 a.2.2.2.1 (fun q0=>K (q0,()) ((),(),(),(),()))
theorem j5a:Ent Go.Proofs.Tryz.prog 73:=q0d (by kernel_rfl) (by kernel_rfl) (by kernel_rfl)
def j3f (X:q64):Con Sg:=conV ([.sl C.span,.sl C.span]:LP) ([.sl C.span,.sl C.span]:LV) ([.vec 152 C.span]:LV) ([.same,.same]:LV) (fun a K=>X a.1 a.2.1 (fun q0=>K (q0,()) ((),(),())))
def v6h:Nat→Option (Fx.Spec Sg):=q0c ([(7,⟨[0,1,4,5,6,8,9,10,11],[1],[],[(.slot 7,.int IntKind.i64),(.obj 0,.own 4 C.bool)]⟩)]:LS)
def j9l (X_r14_Set:q3w) (X_r14_Spans:q1s):Ev Sg:=((E0.with 112 (z8r X_r14_Set)).with 113 (q9l X_r14_Spans))
theorem v2o (X_r14_Set:q3w) (X_r14_Spans:q1s) (a:List (Spn)) (b:List (Spn)) (K:List (Spn)→Prop):j2u X_r14_Set X_r14_Spans a b K=fnV ((j9l X_r14_Set X_r14_Spans).pl v6h) 4 73 ([.sl C.span,.sl C.span]:LP) ([.own 152 C.span]:LP) ([.sl C.span,.sl C.span]:LV) ([.vec 152 C.span]:LV) ([.same,.same]:LV) (a,b,()) (fun r _=>K r.1):=by kernel_rfl
theorem w43:q0h Go.Proofs.Tryz.prog D 73 (j3f q4f):=q0e (E:=j9l q2n q1b) (q0b (q0b h_E0 z6b j49) q8n z2c) fun a K=>v2o q2n q1b a.1 a.2.1 (fun q0=>K (q0,()) ((),(),()))
end Go.En
end
noncomputable section
set_option maxRecDepth 100000
open Go Go.RowKit Go.Fl Go.Fl.Lk Go.Fx
namespace Go.En
theorem v6i:Ent Go.Proofs.Tryz.prog 72:=q0d (by kernel_rfl) (by kernel_rfl) (by kernel_rfl)
def w94 (X:j0i):Con Sg:=conV ([.el C.env,.v,.v]:LP) ([.el C.env,.str,.int .i64]:LV) ([.vec 152 C.span,.int .i64]:LV) ([.same,.same,.same]:LV) (fun a K=>X a.1 a.2.1 a.2.2.1 (fun q0 q1=>K (q0,q1,()) ((),(),(),())))
def y0m:Nat→Option (Fx.Spec Sg):=q0c ([]:LS)
def w44 (X_r14_time:j0h) (X_r14_LayerOf:q2b) (X_r14_Taken:z5m) (X_r14_Minus:q64):Ev Sg:=((((E0.with 109 (w92 X_r14_time)).with 110 (z09 X_r14_LayerOf)).with 111 (w42 X_r14_Taken)).with 73 (j3f X_r14_Minus))
theorem v6j (X_r14_time:j0h) (X_r14_LayerOf:q2b) (X_r14_Taken:z5m) (X_r14_Minus:q64) (v:Envt) (layer:ByteArray) (now:Int) (K:List (Spn)→Int→Prop):j7d X_r14_time X_r14_LayerOf X_r14_Taken X_r14_Minus v layer now K=fnV ((w44 X_r14_time X_r14_LayerOf X_r14_Taken X_r14_Minus).pl y0m) 4 72 ([.el C.env,.v,.v]:LP) ([.own 152 C.span,.v]:LP) ([.el C.env,.str,.int .i64]:LV) ([.vec 152 C.span,.int .i64]:LV) ([.same,.same,.same]:LV) (v,layer,now,()) (fun r _=>K r.1 r.2.1):=by kernel_rfl
theorem y5x:q0h Go.Proofs.Tryz.prog D 72 (w94 z1c):=q0e (E:=w44 q8y q1v q81 q4f) (q0b (q0b (q0b (q0b h_E0 v6b y5v) z2b z6a) v2m y0l) j5a w43) fun a K=>v6j q8y q1v q81 q4f a.1 a.2.1 a.2.2.1 (fun q0 q1=>K (q0,q1,()) ((),(),(),()))
theorem v2p:Ent Go.Proofs.Tryz.prog 74:=q0d (by kernel_rfl) (by kernel_rfl) (by kernel_rfl)
def w45 (X:z5n):Con Sg:=conV ([.sl C.span,.v]:LP) ([.sl C.span,.int .i64]:LV) ([.vec 152 C.span]:LV) ([.same,.same]:LV) (fun a K=>X a.1 a.2.1 (fun q0=>K (q0,()) ((),(),())))
def v6k:Nat→Option (Fx.Spec Sg):=q0c ([(7,⟨[0,4,5,7,8],[],[],[(.slot 1,.int IntKind.i64),(.slot 6,.int IntKind.i64),(.obj 0,.own 4 C.bool)]⟩)]:LS)
def j9m (X_r14_Set:q3w) (X_r14_Spans:q1s):Ev Sg:=((E0.with 112 (z8r X_r14_Set)).with 113 (q9l X_r14_Spans))
theorem v2q (X_r14_Set:q3w) (X_r14_Spans:q1s) (l:List (Spn)) (n:Int) (K:List (Spn)→Prop):j2v X_r14_Set X_r14_Spans l n K=fnV ((j9m X_r14_Set X_r14_Spans).pl v6k) 4 74 ([.sl C.span,.v]:LP) ([.own 152 C.span]:LP) ([.sl C.span,.int .i64]:LV) ([.vec 152 C.span]:LV) ([.same,.same]:LV) (l,n,()) (fun r _=>K r.1):=by kernel_rfl
theorem y0n:q0h Go.Proofs.Tryz.prog D 74 (w45 q82):=q0e (E:=j9m q2n q1b) (q0b (q0b h_E0 z6b j49) q8n z2c) fun a K=>v2q q2n q1b a.1 a.2.1 (fun q0=>K (q0,()) ((),(),()))
theorem z0n:Ent Go.Proofs.Tryz.prog 200:=q0d (by kernel_rfl) (by kernel_rfl) (by kernel_rfl)
def q8o (X:q12):Con Sg:=conV ([.v]:LP) ([.str]:LV) ([.bool]:LV) ([.same]:LV) (fun a K=>X a.1 (fun q0=>K (q0,()) ((),())))
theorem z3d:q0h Go.Proofs.Tryz.prog D 200 (q8o q1g):=j4t
theorem q5t:Ent Go.Proofs.Tryz.prog 175:=q0d (by kernel_rfl) (by kernel_rfl) (by kernel_rfl)
def q7s (X:q1a):Con Sg:=conV ([.v]:LP) ([.str]:LV) ([.bool]:LV) ([.same]:LV) (fun a K=>X a.1 (fun q0=>K (q0,()) ((),())))
def y0o:Nat→Option (Fx.Spec Sg):=q0c ([(9,⟨[0,4,5,6,7,8,9,10,11],[],[],[(.slot 3,.int IntKind.i64)]⟩)]:LS)
def w46 (X_utf8_ValidString:q12):Ev Sg:=(E0.with 200 (q8o X_utf8_ValidString))
theorem v6l (X_utf8_ValidString:q12) (s:ByteArray) (K:Bool→Prop):j0j X_utf8_ValidString s K=fnV ((w46 X_utf8_ValidString).pl y0o) 4 175 ([.v]:LP) ([.v]:LP) ([.str]:LV) ([.bool]:LV) ([.same]:LV) (s,()) (fun r _=>K r.1):=by kernel_rfl
theorem q9m:q0h Go.Proofs.Tryz.prog D 175 (q7s q0x):=q0e (E:=w46 q1g) (q0b h_E0 z0n z3d) fun a K=>v6l q1g a.1 (fun q0=>K (q0,()) ((),()))
theorem y0p:Ent Go.Proofs.Tryz.prog 205:=q0d (by kernel_rfl) (by kernel_rfl) (by kernel_rfl)
def v6m (X:j4m):Con Sg:=conV ([.v]:LP) ([.str]:LV) ([.bool]:LV) ([.same]:LV) (fun a K=>X a.1 (fun q0=>K (q0,()) ((),())))
def y5y:Nat→Option (Fx.Spec Sg):=q0c ([(5,⟨[0],[],[],[(.slot 3,.int IntKind.i64)]⟩)]:LS)
def w95:Ev Sg:=E0
theorem y0q (s:ByteArray) (K:Bool→Prop):z1u s K=fnV ((w95).pl y5y) 4 205 ([.v]:LP) ([.v]:LP) ([.str]:LV) ([.bool]:LV) ([.same]:LV) (s,()) (fun r _=>K r.1):=by kernel_rfl
theorem y9w:q0h Go.Proofs.Tryz.prog D 205 (v6m z1u):=q0e (E:=w95) h_E0 fun a K=>y0q a.1 (fun q0=>K (q0,()) ((),()))
theorem w47:Ent Go.Proofs.Tryz.prog 206:=q0d (by kernel_rfl) (by kernel_rfl) (by kernel_rfl)
def j5b (X:z0w):Con Sg:=conV ([]:LP) ([]:LV) ([.vec 9 C.str]:LV) ([]:LV) (fun _ K=>X (fun q0=>K (q0,()) ()))
def w70:Nat→Option (Fx.Spec Sg):=q0c ([]:LS)
def j1r:Ev Sg:=E0
theorem w48 (K:List (ByteArray)→Prop):q4g K=fnV ((j1r).pl w70) 4 206 ([]:LP) ([.own 9 C.str]:LP) ([]:LV) ([.vec 9 C.str]:LV) ([]:LV) () (fun r _=>K r.1):=by kernel_rfl
theorem v2r:q0h Go.Proofs.Tryz.prog D 206 (j5b q4g):=q0e (E:=j1r) h_E0 fun _ K=>w48 (fun q0=>K (q0,()) ())
theorem q34:Ent Go.Proofs.Tryz.prog 185:=q0d (by kernel_rfl) (by kernel_rfl) (by kernel_rfl)
def q60 (X:q03):Con Sg:=conV ([.v]:LP) ([.str]:LV) ([.bool]:LV) ([.same]:LV) (fun a K=>X a.1 (fun q0=>K (q0,()) ((),())))
def y9x:Nat→Option (Fx.Spec Sg):=q0c ([(11,⟨[0,3,5,6,7,8,9,10,11,12,13],[0],[],[(.slot 4,.int IntKind.i64)]⟩)]:LS)
def v6n (X_r1_Word:j4m) (X_r1_Reserved:z0w):Ev Sg:=((E0.with 205 (v6m X_r1_Word)).with 206 (j5b X_r1_Reserved))
theorem y5z (X_r1_Word:j4m) (X_r1_Reserved:z0w) (s:ByteArray) (K:Bool→Prop):v1w X_r1_Word X_r1_Reserved s K=fnV ((v6n X_r1_Word X_r1_Reserved).pl y9x) 4 185 ([.v]:LP) ([.v]:LP) ([.str]:LV) ([.bool]:LV) ([.same]:LV) (s,()) (fun r _=>K r.1):=by kernel_rfl
theorem q8p:q0h Go.Proofs.Tryz.prog D 185 (q60 q0z):=q0e (E:=v6n z1u q4g) (q0b (q0b h_E0 y0p y9w) w47 v2r) fun a K=>y5z z1u q4g a.1 (fun q0=>K (q0,()) ((),()))
theorem w49:Ent Go.Proofs.Tryz.prog 150:=q0d (by kernel_rfl) (by kernel_rfl) (by kernel_rfl)
def j5c (X:z0x):Con Sg:=conV ([.el C.settings]:LP) ([.el C.settings]:LV) ([.int .i64]:LV) ([.same]:LV) (fun a K=>X a.1 (fun q0=>K (q0,()) ((),())))
def w71:Nat→Option (Fx.Spec Sg):=q0c ([]:LS)
def j1s (X_r1_Valid:q1a) (X_r1_Key:q03):Ev Sg:=((E0.with 175 (q7s X_r1_Valid)).with 185 (q60 X_r1_Key))
theorem w5a (X_r1_Valid:q1a) (X_r1_Key:q03) (s:Sett) (K:Int→Prop):z5o X_r1_Valid X_r1_Key s K=fnV ((j1s X_r1_Valid X_r1_Key).pl w71) 4 150 ([.el C.settings]:LP) ([.v]:LP) ([.el C.settings]:LV) ([.int .i64]:LV) ([.same]:LV) (s,()) (fun r _=>K r.1):=by kernel_rfl
theorem v2s:q0h Go.Proofs.Tryz.prog D 150 (j5c q53):=q0e (E:=j1s q0x q0z) (q0b (q0b h_E0 q5t q9m) q34 q8p) fun a K=>w5a q0x q0z a.1 (fun q0=>K (q0,()) ((),()))
theorem w5b:Ent Go.Proofs.Tryz.prog 151:=q0d (by kernel_rfl) (by kernel_rfl) (by kernel_rfl)
def j5d (X:z0y):Con Sg:=conV ([.sl C.decl]:LP) ([.sl C.decl]:LV) ([.int .i64]:LV) ([.same]:LV) (fun a K=>X a.1 (fun q0=>K (q0,()) ((),())))
def w72:Nat→Option (Fx.Spec Sg):=q0c ([(9,⟨[0,4,5,6],[],[],[(.slot 3,.int IntKind.i64)]⟩)]:LS)
def j1t (X_r1_Key:q03):Ev Sg:=(E0.with 185 (q60 X_r1_Key))
theorem w5c (X_r1_Key:q03) (l:List (Decl)) (K:Int→Prop):z5p X_r1_Key l K=fnV ((j1t X_r1_Key).pl w72) 4 151 ([.sl C.decl]:LP) ([.v]:LP) ([.sl C.decl]:LV) ([.int .i64]:LV) ([.same]:LV) (l,()) (fun r _=>K r.1):=by kernel_rfl
theorem v2t:q0h Go.Proofs.Tryz.prog D 151 (j5d q54):=q0e (E:=j1t q0z) (q0b h_E0 q34 q8p) fun a K=>w5c q0z a.1 (fun q0=>K (q0,()) ((),()))
theorem j1u:Ent Go.Proofs.Tryz.prog 207:=q0d (by kernel_rfl) (by kernel_rfl) (by kernel_rfl)
def z8s (X:q5l):Con Sg:=conV ([.sl C.str]:LP) ([.sl C.str]:LV) ([.int .i64]:LV) ([.same]:LV) (fun a K=>X a.1 (fun q0=>K (q0,()) ((),())))
def v2u:Nat→Option (Fx.Spec Sg):=q0c ([(9,⟨[0,4,5,6],[],[],[(.slot 3,.int IntKind.i64)]⟩)]:LS)
def j5e (X_r1_Valid:q1a):Ev Sg:=(E0.with 175 (q7s X_r1_Valid))
theorem w73 (X_r1_Valid:q1a) (l:List (ByteArray)) (K:Int→Prop):z71 X_r1_Valid l K=fnV ((j5e X_r1_Valid).pl v2u) 4 207 ([.sl C.str]:LP) ([.v]:LP) ([.sl C.str]:LV) ([.int .i64]:LV) ([.same]:LV) (l,()) (fun r _=>K r.1):=by kernel_rfl
theorem j9n:q0h Go.Proofs.Tryz.prog D 207 (z8s q3g):=q0e (E:=j5e q0x) (q0b h_E0 q5t q9m) fun a K=>w73 q0x a.1 (fun q0=>K (q0,()) ((),()))
theorem y0r:Ent Go.Proofs.Tryz.prog 208:=q0d (by kernel_rfl) (by kernel_rfl) (by kernel_rfl)
def v6o (X:j4n):Con Sg:=conV ([.el C.ex]:LP) ([.el C.ex]:LV) ([.bool]:LV) ([.same]:LV) (fun a K=>X a.1 (fun q0=>K (q0,()) ((),())))
def y50:Nat→Option (Fx.Spec Sg):=q0c ([]:LS)
def w96:Ev Sg:=E0
theorem y0s (e:Ex) (K:Bool→Prop):z1v e K=fnV ((w96).pl y50) 4 208 ([.el C.ex]:LP) ([.v]:LP) ([.el C.ex]:LV) ([.bool]:LV) ([.same]:LV) (e,()) (fun r _=>K r.1):=by kernel_rfl
theorem y9y:q0h Go.Proofs.Tryz.prog D 208 (v6o z1v):=q0e (E:=w96) h_E0 fun a K=>y0s a.1 (fun q0=>K (q0,()) ((),()))
theorem v2v:Ent Go.Proofs.Tryz.prog 240:=q0d (by kernel_rfl) (by kernel_rfl) (by kernel_rfl)
def w5d (X:z5q):Con Sg:=conV ([.el C.ex]:LP) ([.el C.ex]:LV) ([.bool]:LV) ([.same]:LV) (fun a K=>X a.1 (fun q0=>K (q0,()) ((),())))
def v6p:Nat→Option (Fx.Spec Sg):=q0c ([(20,⟨[0,1,2,6,7,8,9,10,11,12,13],[0],[],[(.slot 3,.bool),(.slot 4,.bool)]⟩)]:LS)
def j9o (X_r6_IsTest:q11):Ev Sg:=(E0.with 81 (z16 X_r6_IsTest))
theorem v2w (X_r6_IsTest:q11) (e:Ex) (K:Bool→Prop):j2w X_r6_IsTest e K=fnV ((j9o X_r6_IsTest).pl v6p) 4 240 ([.el C.ex]:LP) ([.v]:LP) ([.el C.ex]:LV) ([.bool]:LV) ([.same]:LV) (e,()) (fun r _=>K r.1):=by kernel_rfl
theorem y0t:q0h Go.Proofs.Tryz.prog D 240 (w5d q83):=q0e (E:=j9o q1f) (q0b h_E0 z07 z57) fun a K=>v2w q1f a.1 (fun q0=>K (q0,()) ((),()))
end Go.En
end
noncomputable section
set_option maxRecDepth 100000
open Go Go.RowKit Go.Fl Go.Fl.Lk Go.Fx
namespace Go.En
theorem v6q:Ent Go.Proofs.Tryz.prog 174:=q0d (by kernel_rfl) (by kernel_rfl) (by kernel_rfl)
def w97 (X:j0k):Con Sg:=conV ([.el C.val]:LP) ([.el C.val]:LV) ([.bool]:LV) ([.same]:LV) (fun a K=>X a.1 (fun q0=>K (q0,()) ((),())))
def y0u:Nat→Option (Fx.Spec Sg):=q0c ([]:LS)
def w5e:Ev Sg:=E0
theorem v6r (v:Val) (K:Bool→Prop):q55 v K=fnV ((w5e).pl y0u) 4 174 ([.el C.val]:LP) ([.v]:LP) ([.el C.val]:LV) ([.bool]:LV) ([.same]:LV) (v,()) (fun r _=>K r.1):=by kernel_rfl
theorem y51:q0h Go.Proofs.Tryz.prog D 174 (w97 q55):=q0e (E:=w5e) h_E0 fun a K=>v6r a.1 (fun q0=>K (q0,()) ((),()))
theorem j5f:Ent Go.Proofs.Tryz.prog 177:=q0d (by kernel_rfl) (by kernel_rfl) (by kernel_rfl)
def z64 (X:q6u):Con Sg:=conV ([.v]:LP) ([.str]:LV) ([.int .i64,.int .i64]:LV) ([.same]:LV) (fun a K=>X a.1 (fun q0 q1=>K (q0,q1,()) ((),())))
def j70:Nat→Option (Fx.Spec Sg):=q0c ([(8,⟨[0,2,3,8],[],[],[(.slot 4,.str)]⟩),(11,⟨[0,4,8],[],[],[(.slot 5,.int IntKind.i64)]⟩),(31,⟨[0,4,5,8,19,20,21,22,35,36,37,38,39,40,41,42,43,44,45,46,47,48],[],[],[(.slot 6,.int IntKind.i64),(.slot 7,.int IntKind.i64)]⟩)]:LS)
def z4w:Ev Sg:=E0
theorem j5g (s:ByteArray) (K:Int→Int→Prop):q1k s K=fnV ((z4w).pl j70) 4 177 ([.v]:LP) ([.v,.v]:LP) ([.str]:LV) ([.int .i64,.int .i64]:LV) ([.same]:LV) (s,()) (fun r _=>K r.1 r.2.1):=by kernel_rfl
theorem w00:q0h Go.Proofs.Tryz.prog D 177 (z64 q1k):=q0e (E:=z4w) h_E0 fun a K=>j5g a.1 (fun q0 q1=>K (q0,q1,()) ((),()))
theorem v6s:Ent Go.Proofs.Tryz.prog 128:=q0d (by kernel_rfl) (by kernel_rfl) (by kernel_rfl)
def w98 (X:z4l):Con Sg:=conV ([.v]:LP) ([.str]:LV) ([.el C.a3,.bool]:LV) ([.same]:LV) (fun a K=>X a.1 (fun q0 q1=>K (q0,q1,()) ((),())))
def y0v:Nat→Option (Fx.Spec Sg):=q0c ([(9,⟨[0,2,4],[],[(1,(214,3)),(0,(214,3))],[(.slot 5,.int IntKind.i64),(.slot 6,.int IntKind.i64),(.cell 1 0,.int IntKind.i64),(.cell 1 1,.int IntKind.i64),(.cell 1 2,.int IntKind.i64),(.cell 0 0,.int IntKind.i64),(.cell 0 1,.int IntKind.i64),(.cell 0 2,.int IntKind.i64)]⟩),(15,⟨[0,2,4,6,7,10,11,14],[1,0],[],[(.slot 5,.int IntKind.i64)]⟩)]:LS)
def w5f (X_r1_ParseNumber:q6u):Ev Sg:=(E0.with 177 (z64 X_r1_ParseNumber))
theorem v6t (X_r1_ParseNumber:q6u) (s:ByteArray) (K:A3→Bool→Prop):j0l X_r1_ParseNumber s K=fnV ((w5f X_r1_ParseNumber).pl y0v) 4 128 ([.v]:LP) ([.el C.a3,.v]:LP) ([.str]:LV) ([.el C.a3,.bool]:LV) ([.same]:LV) (s,()) (fun r _=>K r.1 r.2.1):=by kernel_rfl
theorem y52:q0h Go.Proofs.Tryz.prog D 128 (w98 q56):=q0e (E:=w5f q1k) (q0b h_E0 j5f w00) fun a K=>v6t q1k a.1 (fun q0 q1=>K (q0,q1,()) ((),()))
theorem y0w:Ent Go.Proofs.Tryz.prog 176:=q0d (by kernel_rfl) (by kernel_rfl) (by kernel_rfl)
def v6u (X:j4o):Con Sg:=conV ([.sl C.str]:LP) ([.sl C.str]:LV) ([.int .i64]:LV) ([.same]:LV) (fun a K=>X a.1 (fun q0=>K (q0,()) ((),())))
def y53:Nat→Option (Fx.Spec Sg):=q0c ([(9,⟨[0,5,6,7],[],[],[(.slot 3,.int IntKind.i64)]⟩),(19,⟨[0,3,5,6,7,8,9,10,11],[],[],[(.slot 4,.int IntKind.i64)]⟩)]:LS)
def w99 (X_r1_Valid:q1a):Ev Sg:=(E0.with 175 (q7s X_r1_Valid))
theorem y0x (X_r1_Valid:q1a) (l:List (ByteArray)) (K:Int→Prop):j4p X_r1_Valid l K=fnV ((w99 X_r1_Valid).pl y53) 4 176 ([.sl C.str]:LP) ([.v]:LP) ([.sl C.str]:LV) ([.int .i64]:LV) ([.same]:LV) (l,()) (fun r _=>K r.1):=by kernel_rfl
theorem y9z:q0h Go.Proofs.Tryz.prog D 176 (v6u q96):=q0e (E:=w99 q0x) (q0b h_E0 q5t q9m) fun a K=>y0x q0x a.1 (fun q0=>K (q0,()) ((),()))
theorem j9p:Ent Go.Proofs.Tryz.prog 126:=q0d (by kernel_rfl) (by kernel_rfl) (by kernel_rfl)
def j71 (X:q7j):Con Sg:=conV ([.el C.val]:LP) ([.el C.val]:LV) ([.int .i64]:LV) ([.same]:LV) (fun a K=>X a.1 (fun q0=>K (q0,()) ((),())))
def y0y:Nat→Option (Fx.Spec Sg):=q0c ([]:LS)
def w5g (X_r3_shape:j0k) (X_r1_Valid:q1a) (X_r3_parts:z4l) (X_r3_list:j4o):Ev Sg:=((((E0.with 174 (w97 X_r3_shape)).with 175 (q7s X_r1_Valid)).with 128 (w98 X_r3_parts)).with 176 (v6u X_r3_list))
theorem v6v (X_r3_shape:j0k) (X_r1_Valid:q1a) (X_r3_parts:z4l) (X_r3_list:j4o) (v:Val) (K:Int→Prop):j0m X_r3_shape X_r1_Valid X_r3_parts X_r3_list v K=fnV ((w5g X_r3_shape X_r1_Valid X_r3_parts X_r3_list).pl y0y) 4 126 ([.el C.val]:LP) ([.v]:LP) ([.el C.val]:LV) ([.int .i64]:LV) ([.same]:LV) (v,()) (fun r _=>K r.1):=by kernel_rfl
theorem v0a:q0h Go.Proofs.Tryz.prog D 126 (j71 q27):=q0e (E:=w5g q55 q0x q56 q96) (q0b (q0b (q0b (q0b h_E0 v6q y51) q5t q9m) v6s y52) y0w y9z) fun a K=>v6v q55 q0x q56 q96 a.1 (fun q0=>K (q0,()) ((),()))
theorem y0z:Ent Go.Proofs.Tryz.prog 232:=q0d (by kernel_rfl) (by kernel_rfl) (by kernel_rfl)
def v6w (X:j4q):Con Sg:=conV ([.el C.ex]:LP) ([.el C.ex]:LV) ([.int .i64]:LV) ([.same]:LV) (fun a K=>X a.1 (fun q0=>K (q0,()) ((),())))
def y54:Nat→Option (Fx.Spec Sg):=q0c ([(17,⟨[0,1,6,7,8,9,10,11,12,13,14,15,16,17,18,19,20,21,22,23,24,25,26],[0],[],[(.slot 3,.int IntKind.i64)]⟩),(31,⟨[0,1,3,6,7,8,9,10,11,12,13,14,15,16,17,18,19,20,21,22,23,24,25,26,27,28,29,30,31,48,49,50,51,52,53,54,55,56,57,58,59,60,61,65,66,67,68,69,70,71,72],[0],[],[(.slot 4,.int IntKind.i64)]⟩)]:LS)
def v0b (X_r6_counts:z5q) (X_r6_IsTest:q11) (X_r1_Key:q03) (X_r3_Check:q7j):Ev Sg:=((((E0.with 240 (w5d X_r6_counts)).with 81 (z16 X_r6_IsTest)).with 185 (q60 X_r1_Key)).with 126 (j71 X_r3_Check))
theorem y00 (X_r6_counts:z5q) (X_r6_IsTest:q11) (X_r1_Key:q03) (X_r3_Check:q7j) (e:Ex) (K:Int→Prop):w37 X_r6_counts X_r6_IsTest X_r1_Key X_r3_Check e K=fnV ((v0b X_r6_counts X_r6_IsTest X_r1_Key X_r3_Check).pl y54) 4 232 ([.el C.ex]:LP) ([.v]:LP) ([.el C.ex]:LV) ([.int .i64]:LV) ([.same]:LV) (e,()) (fun r _=>K r.1):=by kernel_rfl
theorem y90:q0h Go.Proofs.Tryz.prog D 232 (v6w z4m):=q0e (E:=v0b q83 q1f q0z q27) (q0b (q0b (q0b (q0b h_E0 v2v y0t) z07 z57) q34 q8p) j9p v0a) fun a K=>y00 q83 q1f q0z q27 a.1 (fun q0=>K (q0,()) ((),()))
theorem w5h:Ent Go.Proofs.Tryz.prog 224:=q0d (by kernel_rfl) (by kernel_rfl) (by kernel_rfl)
def w5i (X:z1w):Con Sg:=conV ([.el C.ex,.v,.ptr 3 [.v]]:LP) ([.el C.ex,.int .i64,.ptr 3 [.int .i64]]:LV) ([.int .i64]:LV) ([.same,.same,.ptr 3 [.int .i64]]:LV) (fun a K=>X a.1 a.2.1 a.2.2.1.1 (fun q0 q1=>K (q0,()) ((),(),(q1,()),())))
def v0c:Nat→Option (Fx.Spec Sg):=q0c ([(21,⟨[0,1,2,3,7,10,11,12,13,14,15,16,17,18,19,20,21,22,23,24],[1],[(0,(3,1))],[(.slot 8,.int IntKind.i64),(.cell 0 0,.int IntKind.i64)]⟩)]:LS)
def v0d (X_r6_part:j4q):Ev Sg:=(E0.with 232 (v6w X_r6_part))
theorem y01 (X_r6_part:j4q) (X:z1w) (e:Ex) (depth:Int) (n:Int) (K:Int→Int→Prop):w38 X_r6_part X e depth n K=fnV (((v0d X_r6_part).with 224 (w5i X)).pl v0c) 4 224 ([.el C.ex,.v,.ptr 3 [.v]]:LP) ([.v]:LP) ([.el C.ex,.int .i64,.ptr 3 [.int .i64]]:LV) ([.int .i64]:LV) ([.same,.same,.ptr 3 [.int .i64]]:LV) (e,depth,(n,()),()) (fun r o=>K r.1 o.2.2.1.1):=by kernel_rfl
theorem y91:q0h Go.Proofs.Tryz.prog D 224 (w5i z4n):=by
 show q0h _ _ _ (conV ([.el C.ex,.v,.ptr 3 [.v]]:LP) ([.el C.ex,.int .i64,.ptr 3 [.int .i64]]:LV) ([.int .i64]:LV) ([.same,.same,.ptr 3 [.int .i64]]:LV) fun a K=>z4n a.1 a.2.1 a.2.2.1.1 (fun q0 q1=>K (q0,()) ((),(),(q1,()),())))
 refine z6s (E:=v0d z4m) (fuel:=4) (rk:=[.v]) (p:=v0c) (q0b h_E0 y0z y90) w5h fun a K h X hX=> ?_
 exact h (fun e depth n K=>X (e,depth,(n,()),()) fun r o=>K r.1 o.2.2.1.1) (fun e depth n K hs=>hX (e,depth,(n,()),()) (fun r o=>K r.1 o.2.2.1.1) (Eq.mp (y01 z4m (fun e depth n K=>X (e,depth,(n,()),()) fun r o=>K r.1 o.2.2.1.1) e depth n K) hs))
theorem j3g:Ent Go.Proofs.Tryz.prog 209:=q0d (by kernel_rfl) (by kernel_rfl) (by kernel_rfl)
def j5h (X:q6o):Con Sg:=conV ([.el C.ex]:LP) ([.el C.ex]:LV) ([.int .i64]:LV) ([.same]:LV) (fun a K=>X a.1 (fun q0=>K (q0,()) ((),())))
def y55:Nat→Option (Fx.Spec Sg):=q0c ([]:LS)
def v0e (X_r6_walk:z1w):Ev Sg:=(E0.with 224 (w5i X_r6_walk))
theorem y02 (X_r6_walk:z1w) (e:Ex) (K:Int→Prop):w39 X_r6_walk e K=fnV ((v0e X_r6_walk).pl y55) 4 209 ([.el C.ex]:LP) ([.v]:LP) ([.el C.ex]:LV) ([.int .i64]:LV) ([.same]:LV) (e,()) (fun r _=>K r.1):=by kernel_rfl
theorem w5j:q0h Go.Proofs.Tryz.prog D 209 (j5h q4u):=q0e (E:=v0e z4n) (q0b h_E0 w5h y91) fun a K=>y02 z4n a.1 (fun q0=>K (q0,()) ((),()))
theorem w74:Ent Go.Proofs.Tryz.prog 186:=q0d (by kernel_rfl) (by kernel_rfl) (by kernel_rfl)
def j9q (X:z2u):Con Sg:=conV ([.el C.seg]:LP) ([.el C.seg]:LV) ([.int .i64]:LV) ([.same]:LV) (fun a K=>X a.1 (fun q0=>K (q0,()) ((),())))
def v2x:Nat→Option (Fx.Spec Sg):=q0c ([]:LS)
def j5i (X_r1_Key:q03) (X_r6_members:q5l) (X_r6_None:j4n) (X_r6_Expr:q6o):Ev Sg:=((((E0.with 185 (q60 X_r1_Key)).with 207 (z8s X_r6_members)).with 208 (v6o X_r6_None)).with 209 (j5h X_r6_Expr))
theorem w75 (X_r1_Key:q03) (X_r6_members:q5l) (X_r6_None:j4n) (X_r6_Expr:q6o) (g:Seg) (K:Int→Prop):z72 X_r1_Key X_r6_members X_r6_None X_r6_Expr g K=fnV ((j5i X_r1_Key X_r6_members X_r6_None X_r6_Expr).pl v2x) 4 186 ([.el C.seg]:LP) ([.v]:LP) ([.el C.seg]:LV) ([.int .i64]:LV) ([.same]:LV) (g,()) (fun r _=>K r.1):=by kernel_rfl
theorem v6x:q0h Go.Proofs.Tryz.prog D 186 (j9q q7k):=q0e (E:=j5i q0z q3g z1v q4u) (q0b (q0b (q0b (q0b h_E0 q34 q8p) j1u j9n) y0r y9y) j3g w5j) fun a K=>w75 q0z q3g z1v q4u a.1 (fun q0=>K (q0,()) ((),()))
theorem w5k:Ent Go.Proofs.Tryz.prog 152:=q0d (by kernel_rfl) (by kernel_rfl) (by kernel_rfl)
def j5j (X:z0z):Con Sg:=conV ([.sl C.seg]:LP) ([.sl C.seg]:LV) ([.int .i64]:LV) ([.same]:LV) (fun a K=>X a.1 (fun q0=>K (q0,()) ((),())))
def w76:Nat→Option (Fx.Spec Sg):=q0c ([(9,⟨[0,5,6,7],[],[],[(.slot 3,.int IntKind.i64)]⟩)]:LS)
def j1v (X_r6_Segment:z2u):Ev Sg:=(E0.with 186 (j9q X_r6_Segment))
theorem w5l (X_r6_Segment:z2u) (l:List (Seg)) (K:Int→Prop):z5r X_r6_Segment l K=fnV ((j1v X_r6_Segment).pl w76) 4 152 ([.sl C.seg]:LP) ([.v]:LP) ([.sl C.seg]:LV) ([.int .i64]:LV) ([.same]:LV) (l,()) (fun r _=>K r.1):=by kernel_rfl
theorem v2y:q0h Go.Proofs.Tryz.prog D 152 (j5j q57):=q0e (E:=j1v q7k) (q0b h_E0 w74 v6x) fun a K=>w5l q7k a.1 (fun q0=>K (q0,()) ((),()))
theorem j72:Ent Go.Proofs.Tryz.prog 210:=q0d (by kernel_rfl) (by kernel_rfl) (by kernel_rfl)
def z8t (X:q78):Con Sg:=conV ([.el C.flag]:LP) ([.el C.flag]:LV) ([.int .i64]:LV) ([.same]:LV) (fun a K=>X a.1 (fun q0=>K (q0,()) ((),())))
def w01:Nat→Option (Fx.Spec Sg):=q0c ([(15,⟨[0,1,3,6,7,8,9,10,11,12],[0],[],[(.slot 4,.int IntKind.i64)]⟩)]:LS)
def z65 (X_r3_Check:q7j):Ev Sg:=(E0.with 126 (j71 X_r3_Check))
theorem j73 (X_r3_Check:q7j) (f:Flg) (K:Int→Prop):z1x X_r3_Check f K=fnV ((z65 X_r3_Check).pl w01) 4 210 ([.el C.flag]:LP) ([.v]:LP) ([.el C.flag]:LV) ([.int .i64]:LV) ([.same]:LV) (f,()) (fun r _=>K r.1):=by kernel_rfl
theorem w5m:q0h Go.Proofs.Tryz.prog D 210 (z8t q3x):=q0e (E:=z65 q27) (q0b h_E0 j9p v0a) fun a K=>j73 q27 a.1 (fun q0=>K (q0,()) ((),()))
theorem j0y:Ent Go.Proofs.Tryz.prog 211:=q0d (by kernel_rfl) (by kernel_rfl) (by kernel_rfl)
def z3e (X:q5b):Con Sg:=conV ([.sl C.prereq]:LP) ([.sl C.prereq]:LV) ([.int .i64]:LV) ([.same]:LV) (fun a K=>X a.1 (fun q0=>K (q0,()) ((),())))
def j3h:Nat→Option (Fx.Spec Sg):=q0c ([(9,⟨[0,4,5,6],[],[],[(.slot 3,.int IntKind.i64)]⟩)]:LS)
def z2d (X_r1_Key:q03):Ev Sg:=(E0.with 185 (q60 X_r1_Key))
theorem j0z (X_r1_Key:q03) (l:List (Prq)) (K:Int→Prop):q79 X_r1_Key l K=fnV ((z2d X_r1_Key).pl j3h) 4 211 ([.sl C.prereq]:LP) ([.v]:LP) ([.sl C.prereq]:LV) ([.int .i64]:LV) ([.same]:LV) (l,()) (fun r _=>K r.1):=by kernel_rfl
theorem j5k:q0h Go.Proofs.Tryz.prog D 211 (z3e q2f):=q0e (E:=z2d q0z) (q0b h_E0 q34 q8p) fun a K=>j0z q0z a.1 (fun q0=>K (q0,()) ((),()))
end Go.En
end
noncomputable section
set_option maxRecDepth 100000
open Go Go.RowKit Go.Fl Go.Fl.Lk Go.Fx
namespace Go.En
theorem w77:Ent Go.Proofs.Tryz.prog 212:=q0d (by kernel_rfl) (by kernel_rfl) (by kernel_rfl)
def j9r (X:z2v):Con Sg:=conV ([.sl C.target,.v]:LP) ([.sl C.target,.int .i64]:LV) ([.int .i64]:LV) ([.same,.same]:LV) (fun a K=>X a.1 a.2.1 (fun q0=>K (q0,()) ((),(),())))
def v2z:Nat→Option (Fx.Spec Sg):=q0c ([(9,⟨[0,1,7,8,9],[],[],[(.slot 5,.int IntKind.i64)]⟩)]:LS)
def j5l (X_r1_Key:q03) (X_r6_members:q5l):Ev Sg:=((E0.with 185 (q60 X_r1_Key)).with 207 (z8s X_r6_members))
theorem w78 (X_r1_Key:q03) (X_r6_members:q5l) (l:List (Tgt)) (n:Int) (K:Int→Prop):z73 X_r1_Key X_r6_members l n K=fnV ((j5l X_r1_Key X_r6_members).pl v2z) 4 212 ([.sl C.target,.v]:LP) ([.v]:LP) ([.sl C.target,.int .i64]:LV) ([.int .i64]:LV) ([.same,.same]:LV) (l,n,()) (fun r _=>K r.1):=by kernel_rfl
theorem v6y:q0h Go.Proofs.Tryz.prog D 212 (j9r q7l):=q0e (E:=j5l q0z q3g) (q0b (q0b h_E0 q34 q8p) j1u j9n) fun a K=>w78 q0z q3g a.1 a.2.1 (fun q0=>K (q0,()) ((),(),()))
theorem j9s:Ent Go.Proofs.Tryz.prog 216:=q0d (by kernel_rfl) (by kernel_rfl) (by kernel_rfl)
def j74 (X:q84):Con Sg:=conV ([.sl C.range,.v]:LP) ([.sl C.range,.int .i64]:LV) ([.int .i64]:LV) ([.same,.same]:LV) (fun a K=>X a.1 a.2.1 (fun q0=>K (q0,()) ((),(),())))
def y03:Nat→Option (Fx.Spec Sg):=q0c ([(11,⟨[0,1,7,8,9],[],[],[(.slot 5,.int IntKind.i64),(.slot 6,.int IntKind.i64)]⟩)]:LS)
def w5n:Ev Sg:=E0
theorem v6z (l:List (Rng)) (variations:Int) (K:Int→Prop):q42 l variations K=fnV ((w5n).pl y03) 4 216 ([.sl C.range,.v]:LP) ([.v]:LP) ([.sl C.range,.int .i64]:LV) ([.int .i64]:LV) ([.same,.same]:LV) (l,variations,()) (fun r _=>K r.1):=by kernel_rfl
theorem v0f:q0h Go.Proofs.Tryz.prog D 216 (j74 q42):=q0e (E:=w5n) h_E0 fun a K=>v6z a.1 a.2.1 (fun q0=>K (q0,()) ((),(),()))
theorem j9t:Ent Go.Proofs.Tryz.prog 214:=q0d (by kernel_rfl) (by kernel_rfl) (by kernel_rfl)
def j75 (X:q85):Con Sg:=conV ([.el C.serve,.v]:LP) ([.el C.serve,.int .i64]:LV) ([.int .i64]:LV) ([.same,.same]:LV) (fun a K=>X a.1 a.2.1 (fun q0=>K (q0,()) ((),(),())))
def y04:Nat→Option (Fx.Spec Sg):=q0c ([]:LS)
def w5o (X_r1_Key:q03) (X_r1_Valid:q1a) (X_r6_Split:q84):Ev Sg:=(((E0.with 185 (q60 X_r1_Key)).with 175 (q7s X_r1_Valid)).with 216 (j74 X_r6_Split))
theorem v60 (X_r1_Key:q03) (X_r1_Valid:q1a) (X_r6_Split:q84) (v:Srv) (variations:Int) (K:Int→Prop):j7e X_r1_Key X_r1_Valid X_r6_Split v variations K=fnV ((w5o X_r1_Key X_r1_Valid X_r6_Split).pl y04) 4 214 ([.el C.serve,.v]:LP) ([.v]:LP) ([.el C.serve,.int .i64]:LV) ([.int .i64]:LV) ([.same,.same]:LV) (v,variations,()) (fun r _=>K r.1):=by kernel_rfl
theorem v0g:q0h Go.Proofs.Tryz.prog D 214 (j75 q58):=q0e (E:=w5o q0z q0x q42) (q0b (q0b (q0b h_E0 q34 q8p) q5t q9m) j9s v0f) fun a K=>v60 q0z q0x q42 a.1 a.2.1 (fun q0=>K (q0,()) ((),(),()))
theorem v61:Ent Go.Proofs.Tryz.prog 213:=q0d (by kernel_rfl) (by kernel_rfl) (by kernel_rfl)
def v0h (X:j0n):Con Sg:=conV ([.sl C.rule,.v]:LP) ([.sl C.rule,.int .i64]:LV) ([.int .i64]:LV) ([.same,.same]:LV) (fun a K=>X a.1 a.2.1 (fun q0=>K (q0,()) ((),(),())))
def y05:Nat→Option (Fx.Spec Sg):=q0c ([(9,⟨[0,1,9,10,11],[],[],[(.slot 5,.int IntKind.i64)]⟩),(19,⟨[0,1,5,9,10,11,12,13,14,15,18,19,20,21,22,23,24],[],[],[(.slot 6,.int IntKind.i64)]⟩)]:LS)
def w5p (X_r1_Key:q03) (X_r6_Expr:q6o) (X_r6_Serve:q85):Ev Sg:=(((E0.with 185 (q60 X_r1_Key)).with 209 (j5h X_r6_Expr)).with 214 (j75 X_r6_Serve))
theorem v62 (X_r1_Key:q03) (X_r6_Expr:q6o) (X_r6_Serve:q85) (l:List (Rul)) (n:Int) (K:Int→Prop):j7f X_r1_Key X_r6_Expr X_r6_Serve l n K=fnV ((w5p X_r1_Key X_r6_Expr X_r6_Serve).pl y05) 4 213 ([.sl C.rule,.v]:LP) ([.v]:LP) ([.sl C.rule,.int .i64]:LV) ([.int .i64]:LV) ([.same,.same]:LV) (l,n,()) (fun r _=>K r.1):=by kernel_rfl
theorem y56:q0h Go.Proofs.Tryz.prog D 213 (v0h z1d):=q0e (E:=w5p q0z q4u q58) (q0b (q0b (q0b h_E0 q34 q8p) j3g w5j) j9t v0g) fun a K=>v62 q0z q4u q58 a.1 a.2.1 (fun q0=>K (q0,()) ((),(),()))
theorem y06:Ent Go.Proofs.Tryz.prog 187:=q0d (by kernel_rfl) (by kernel_rfl) (by kernel_rfl)
def v63 (X:j4r):Con Sg:=conV ([.el C.flag]:LP) ([.el C.flag]:LV) ([.int .i64]:LV) ([.same]:LV) (fun a K=>X a.1 (fun q0=>K (q0,()) ((),())))
def y57:Nat→Option (Fx.Spec Sg):=q0c ([]:LS)
def v0i (X_r1_Key:q03) (X_r6_variations:q78) (X_r6_prerequisites:q5b) (X_r6_targets:z2v) (X_r6_rules:j0n) (X_r6_Serve:q85):Ev Sg:=((((((E0.with 185 (q60 X_r1_Key)).with 210 (z8t X_r6_variations)).with 211 (z3e X_r6_prerequisites)).with 212 (j9r X_r6_targets)).with 213 (v0h X_r6_rules)).with 214 (j75 X_r6_Serve))
theorem y07 (X_r1_Key:q03) (X_r6_variations:q78) (X_r6_prerequisites:q5b) (X_r6_targets:z2v) (X_r6_rules:j0n) (X_r6_Serve:q85) (f:Flg) (K:Int→Prop):w4a X_r1_Key X_r6_variations X_r6_prerequisites X_r6_targets X_r6_rules X_r6_Serve f K=fnV ((v0i X_r1_Key X_r6_variations X_r6_prerequisites X_r6_targets X_r6_rules X_r6_Serve).pl y57) 4 187 ([.el C.flag]:LP) ([.v]:LP) ([.el C.flag]:LV) ([.int .i64]:LV) ([.same]:LV) (f,()) (fun r _=>K r.1):=by kernel_rfl
theorem y92:q0h Go.Proofs.Tryz.prog D 187 (v63 z4o):=q0e (E:=v0i q0z q3x q2f q7l z1d q58) (q0b (q0b (q0b (q0b (q0b (q0b h_E0 q34 q8p) j72 w5m) j0y j5k) w77 v6y) v61 y56) j9t v0g) fun a K=>y07 q0z q3x q2f q7l z1d q58 a.1 (fun q0=>K (q0,()) ((),()))
theorem v64:Ent Go.Proofs.Tryz.prog 153:=q0d (by kernel_rfl) (by kernel_rfl) (by kernel_rfl)
def v0j (X:j0o):Con Sg:=conV ([.sl C.flag]:LP) ([.sl C.flag]:LV) ([.int .i64]:LV) ([.same]:LV) (fun a K=>X a.1 (fun q0=>K (q0,()) ((),())))
def y08:Nat→Option (Fx.Spec Sg):=q0c ([(9,⟨[0,5,6,7],[],[],[(.slot 3,.int IntKind.i64)]⟩)]:LS)
def w5q (X_r6_Flag:j4r):Ev Sg:=(E0.with 187 (v63 X_r6_Flag))
theorem v65 (X_r6_Flag:j4r) (l:List (Flg)) (K:Int→Prop):j7g X_r6_Flag l K=fnV ((w5q X_r6_Flag).pl y08) 4 153 ([.sl C.flag]:LP) ([.v]:LP) ([.sl C.flag]:LV) ([.int .i64]:LV) ([.same]:LV) (l,()) (fun r _=>K r.1):=by kernel_rfl
theorem y58:q0h Go.Proofs.Tryz.prog D 153 (v0j z1e):=q0e (E:=w5q z4o) (q0b h_E0 y06 y92) fun a K=>v65 z4o a.1 (fun q0=>K (q0,()) ((),()))
theorem v66:Ent Go.Proofs.Tryz.prog 188:=q0d (by kernel_rfl) (by kernel_rfl) (by kernel_rfl)
def v0k (X:j0p):Con Sg:=conV ([.el C.layer]:LP) ([.el C.layer]:LV) ([.int .i64]:LV) ([.same]:LV) (fun a K=>X a.1 (fun q0=>K (q0,()) ((),())))
def y09:Nat→Option (Fx.Spec Sg):=q0c ([(21,⟨[0,1,5,6,7,8,9,10,11,12,13,14,15,16,17,18,19,20,21,22,23,24,25,26,27,28,29,30,31,32,33,34,35,36,37,38,39,40],[0],[],[(.slot 3,.int IntKind.i64)]⟩)]:LS)
def w5r (X_r1_Key:q03) (X_r1_Valid:q1a):Ev Sg:=((E0.with 185 (q60 X_r1_Key)).with 175 (q7s X_r1_Valid))
theorem v67 (X_r1_Key:q03) (X_r1_Valid:q1a) (l:Lay_) (K:Int→Prop):j7h X_r1_Key X_r1_Valid l K=fnV ((w5r X_r1_Key X_r1_Valid).pl y09) 4 188 ([.el C.layer]:LP) ([.v]:LP) ([.el C.layer]:LV) ([.int .i64]:LV) ([.same]:LV) (l,()) (fun r _=>K r.1):=by kernel_rfl
theorem y59:q0h Go.Proofs.Tryz.prog D 188 (v0k z1f):=q0e (E:=w5r q0z q0x) (q0b (q0b h_E0 q34 q8p) q5t q9m) fun a K=>v67 q0z q0x a.1 (fun q0=>K (q0,()) ((),()))
theorem v22:Ent Go.Proofs.Tryz.prog 154:=q0d (by kernel_rfl) (by kernel_rfl) (by kernel_rfl)
def w5s (X:z5s):Con Sg:=conV ([.sl C.layer]:LP) ([.sl C.layer]:LV) ([.int .i64]:LV) ([.same]:LV) (fun a K=>X a.1 (fun q0=>K (q0,()) ((),())))
def v68:Nat→Option (Fx.Spec Sg):=q0c ([(9,⟨[0,5,6,7],[],[],[(.slot 3,.int IntKind.i64)]⟩)]:LS)
def j9u (X_r6_Layer:j0p):Ev Sg:=(E0.with 188 (v0k X_r6_Layer))
theorem v23 (X_r6_Layer:j0p) (l:List (Lay_)) (K:Int→Prop):j2x X_r6_Layer l K=fnV ((j9u X_r6_Layer).pl v68) 4 154 ([.sl C.layer]:LP) ([.v]:LP) ([.sl C.layer]:LV) ([.int .i64]:LV) ([.same]:LV) (l,()) (fun r _=>K r.1):=by kernel_rfl
theorem y1a:q0h Go.Proofs.Tryz.prog D 154 (w5s q86):=q0e (E:=j9u z1f) (q0b h_E0 v66 y59) fun a K=>v23 z1f a.1 (fun q0=>K (q0,()) ((),()))
theorem v69:Ent Go.Proofs.Tryz.prog 215:=q0d (by kernel_rfl) (by kernel_rfl) (by kernel_rfl)
def v0l (X:j0q):Con Sg:=conV ([.sl C.span]:LP) ([.sl C.span]:LV) ([.int .i64]:LV) ([.same]:LV) (fun a K=>X a.1 (fun q0=>K (q0,()) ((),())))
def y1b:Nat→Option (Fx.Spec Sg):=q0c ([(9,⟨[0,4,5,6],[],[],[(.slot 3,.int IntKind.i64)]⟩)]:LS)
def w5t:Ev Sg:=E0
theorem v7a (l:List (Spn)) (K:Int→Prop):q87 l K=fnV ((w5t).pl y1b) 4 215 ([.sl C.span]:LP) ([.v]:LP) ([.sl C.span]:LV) ([.int .i64]:LV) ([.same]:LV) (l,()) (fun r _=>K r.1):=by kernel_rfl
theorem y6a:q0h Go.Proofs.Tryz.prog D 215 (v0l q87):=q0e (E:=w5t) h_E0 fun a K=>v7a a.1 (fun q0=>K (q0,()) ((),()))
theorem j76:Ent Go.Proofs.Tryz.prog 189:=q0d (by kernel_rfl) (by kernel_rfl) (by kernel_rfl)
def z8u (X:q8a):Con Sg:=conV ([.el C.exper]:LP) ([.el C.exper]:LV) ([.int .i64]:LV) ([.same]:LV) (fun a K=>X a.1 (fun q0=>K (q0,()) ((),())))
def w02:Nat→Option (Fx.Spec Sg):=q0c ([]:LS)
def z66 (X_r1_Key:q03) (X_r1_Valid:q1a) (X_r6_Spans:j0q) (X_r6_Split:q84) (X_r6_Expr:q6o):Ev Sg:=(((((E0.with 185 (q60 X_r1_Key)).with 175 (q7s X_r1_Valid)).with 215 (v0l X_r6_Spans)).with 216 (j74 X_r6_Split)).with 209 (j5h X_r6_Expr))
theorem j77 (X_r1_Key:q03) (X_r1_Valid:q1a) (X_r6_Spans:j0q) (X_r6_Split:q84) (X_r6_Expr:q6o) (x:Exper) (K:Int→Prop):z1y X_r1_Key X_r1_Valid X_r6_Spans X_r6_Split X_r6_Expr x K=fnV ((z66 X_r1_Key X_r1_Valid X_r6_Spans X_r6_Split X_r6_Expr).pl w02) 4 189 ([.el C.exper]:LP) ([.v]:LP) ([.el C.exper]:LV) ([.int .i64]:LV) ([.same]:LV) (x,()) (fun r _=>K r.1):=by kernel_rfl
theorem w5u:q0h Go.Proofs.Tryz.prog D 189 (z8u q3y):=q0e (E:=z66 q0z q0x q87 q42 q4u) (q0b (q0b (q0b (q0b (q0b h_E0 q34 q8p) q5t q9m) v69 y6a) j9s v0f) j3g w5j) fun a K=>j77 q0z q0x q87 q42 q4u a.1 (fun q0=>K (q0,()) ((),()))
theorem j5m:Ent Go.Proofs.Tryz.prog 155:=q0d (by kernel_rfl) (by kernel_rfl) (by kernel_rfl)
def z67 (X:q6v):Con Sg:=conV ([.sl C.exper]:LP) ([.sl C.exper]:LV) ([.int .i64]:LV) ([.same]:LV) (fun a K=>X a.1 (fun q0=>K (q0,()) ((),())))
def j78:Nat→Option (Fx.Spec Sg):=q0c ([(9,⟨[0,5,6,7],[],[],[(.slot 3,.int IntKind.i64)]⟩)]:LS)
def z4x (X_r6_Experiment:q8a):Ev Sg:=(E0.with 189 (z8u X_r6_Experiment))
theorem j5n (X_r6_Experiment:q8a) (l:List (Exper)) (K:Int→Prop):z0h X_r6_Experiment l K=fnV ((z4x X_r6_Experiment).pl j78) 4 155 ([.sl C.exper]:LP) ([.v]:LP) ([.sl C.exper]:LV) ([.int .i64]:LV) ([.same]:LV) (l,()) (fun r _=>K r.1):=by kernel_rfl
theorem w03:q0h Go.Proofs.Tryz.prog D 155 (z67 q28):=q0e (E:=z4x q3y) (q0b h_E0 j76 w5u) fun a K=>j5n q3y a.1 (fun q0=>K (q0,()) ((),()))
theorem j5o:Ent Go.Proofs.Tryz.prog 114:=q0d (by kernel_rfl) (by kernel_rfl) (by kernel_rfl)
def z68 (X:q6w):Con Sg:=conV ([.el C.env]:LP) ([.el C.env]:LV) ([.int .i64]:LV) ([.same]:LV) (fun a K=>X a.1 (fun q0=>K (q0,()) ((),())))
def j79:Nat→Option (Fx.Spec Sg):=q0c ([]:LS)
def z4y (X_r6_settings:z0x) (X_r6_declared:z0y) (X_r6_segments:z0z) (X_r6_flags:j0o) (X_r6_layers:z5s) (X_r6_experiments:q6v):Ev Sg:=((((((E0.with 150 (j5c X_r6_settings)).with 151 (j5d X_r6_declared)).with 152 (j5j X_r6_segments)).with 153 (v0j X_r6_flags)).with 154 (w5s X_r6_layers)).with 155 (z67 X_r6_experiments))
theorem j5p (X_r6_settings:z0x) (X_r6_declared:z0y) (X_r6_segments:z0z) (X_r6_flags:j0o) (X_r6_layers:z5s) (X_r6_experiments:q6v) (v:Envt) (K:Int→Prop):z0i X_r6_settings X_r6_declared X_r6_segments X_r6_flags X_r6_layers X_r6_experiments v K=fnV ((z4y X_r6_settings X_r6_declared X_r6_segments X_r6_flags X_r6_layers X_r6_experiments).pl j79) 4 114 ([.el C.env]:LP) ([.v]:LP) ([.el C.env]:LV) ([.int .i64]:LV) ([.same]:LV) (v,()) (fun r _=>K r.1):=by kernel_rfl
theorem w04:q0h Go.Proofs.Tryz.prog D 114 (z68 q29):=q0e (E:=z4y q53 q54 q57 z1e q86 q28) (q0b (q0b (q0b (q0b (q0b (q0b h_E0 w49 v2s) w5b v2t) w5k v2y) v64 y58) v22 y1a) j5m w03) fun a K=>j5p q53 q54 q57 z1e q86 q28 a.1 (fun q0=>K (q0,()) ((),()))
end Go.En
end
noncomputable section
set_option maxRecDepth 100000
open Go Go.RowKit Go.Fl Go.Fl.Lk Go.Fx
namespace Go.En
theorem z8v:Ent Go.Proofs.Tryz.prog 35:=q0d (by kernel_rfl) (by kernel_rfl) (by kernel_rfl)
def j0v (X:q43):Con Sg:=conV ([.sl C.seg]:LP) ([.sl C.seg]:LV) ([.vec 9 C.str]:LV) ([.same]:LV) (fun a K=>X a.1 (fun q0=>K (q0,()) ((),())))
def y1c:Nat→Option (Fx.Spec Sg):=q0c ([(7,⟨[0,2],[],[],[(.slot 3,.own 9 C.str),(.slot 4,.int IntKind.i64)]⟩)]:LS)
def w5v:Ev Sg:=E0
theorem v7b (l:List (Seg)) (K:List (ByteArray)→Prop):q3a l K=fnV ((w5v).pl y1c) 4 35 ([.sl C.seg]:LP) ([.own 9 C.str]:LP) ([.sl C.seg]:LV) ([.vec 9 C.str]:LV) ([.same]:LV) (l,()) (fun r _=>K r.1):=by kernel_rfl
theorem j8a:q0h Go.Proofs.Tryz.prog D 35 (j0v q3a):=q0e (E:=w5v) h_E0 fun a K=>v7b a.1 (fun q0=>K (q0,()) ((),()))
theorem j8b:Ent Go.Proofs.Tryz.prog 22:=q0d (by kernel_rfl) (by kernel_rfl) (by kernel_rfl)
def w2q (X:q6x):Con Sg:=conV ([.sl C.str,.v]:LP) ([.sl C.str,.str]:LV) ([.bool]:LV) ([.same,.same]:LV) (fun a K=>X a.1 a.2.1 (fun q0=>K (q0,()) ((),(),())))
def y93:Nat→Option (Fx.Spec Sg):=q0c ([(5,⟨[0,1],[],[],[(.slot 5,.int IntKind.i64)]⟩)]:LS)
def v7c:Ev Sg:=E0
theorem y6b (l:List (ByteArray)) (s:ByteArray) (K:Bool→Prop):q4h l s K=fnV ((v7c).pl y93) 4 22 ([.sl C.str,.v]:LP) ([.v]:LP) ([.sl C.str,.str]:LV) ([.bool]:LV) ([.same,.same]:LV) (l,s,()) (fun r _=>K r.1):=by kernel_rfl
theorem v25:q0h Go.Proofs.Tryz.prog D 22 (w2q q4h):=q0e (E:=v7c) h_E0 fun a K=>y6b a.1 a.2.1 (fun q0=>K (q0,()) ((),(),()))
theorem w5w:Ent Go.Proofs.Tryz.prog 156:=q0d (by kernel_rfl) (by kernel_rfl) (by kernel_rfl)
def w5x (X:z1z):Con Sg:=conV ([.sl C.decl,.v,.v]:LP) ([.sl C.decl,.str,.str]:LV) ([.int .i64]:LV) ([.same,.same,.same]:LV) (fun a K=>X a.1 a.2.1 a.2.2.1 (fun q0=>K (q0,()) ((),(),(),())))
def y6c:Nat→Option (Fx.Spec Sg):=q0c ([(5,⟨[0,1,2],[],[],[(.slot 7,.int IntKind.i64)]⟩)]:LS)
def v0m:Ev Sg:=E0
theorem y1d (l:List (Decl)) (kind:ByteArray) (name:ByteArray) (K:Int→Prop):q5m l kind name K=fnV ((v0m).pl y6c) 4 156 ([.sl C.decl,.v,.v]:LP) ([.v]:LP) ([.sl C.decl,.str,.str]:LV) ([.int .i64]:LV) ([.same,.same,.same]:LV) (l,kind,name,()) (fun r _=>K r.1):=by kernel_rfl
theorem v7d:q0h Go.Proofs.Tryz.prog D 156 (w5x q5m):=q0e (E:=v0m) h_E0 fun a K=>y1d a.1 a.2.1 a.2.2.1 (fun q0=>K (q0,()) ((),(),(),()))
theorem y1e:Ent Go.Proofs.Tryz.prog 157:=q0d (by kernel_rfl) (by kernel_rfl) (by kernel_rfl)
def v7e (X:j4s):Con Sg:=conV ([.v,.el C.ex]:LP) ([.int .i64,.el C.ex]:LV) ([.bool]:LV) ([.same,.same]:LV) (fun a K=>X a.1 a.2.1 (fun q0=>K (q0,()) ((),(),())))
def y6d:Nat→Option (Fx.Spec Sg):=q0c ([(11,⟨[0,1,3,7,8,9,10,11,12],[0],[],[(.slot 5,.int IntKind.i64)]⟩),(36,⟨[0,1,3,4,6,7,8,9,10,11,12,30,31,32,33,34,35,36,37,38,39,40,41,42],[0],[],[(.slot 46,.bool)]⟩)]:LS)
def v0n:Ev Sg:=E0
theorem y1f (t:Int) (e:Ex) (K:Bool→Prop):q97 t e K=fnV ((v0n).pl y6d) 4 157 ([.v,.el C.ex]:LP) ([.v]:LP) ([.int .i64,.el C.ex]:LV) ([.bool]:LV) ([.same,.same]:LV) (t,e,()) (fun r _=>K r.1):=by kernel_rfl
theorem y94:q0h Go.Proofs.Tryz.prog D 157 (v7e q97):=q0e (E:=v0n) h_E0 fun a K=>y1f a.1 a.2.1 (fun q0=>K (q0,()) ((),(),()))
theorem z6c:Ent Go.Proofs.Tryz.prog 115:=q0d (by kernel_rfl) (by kernel_rfl) (by kernel_rfl)
def z8w (X:q3z):Con Sg:=conV ([.sl C.decl,.sl C.str,.el C.ex]:LP) ([.sl C.decl,.sl C.str,.el C.ex]:LV) ([.int .i64]:LV) ([.same,.same,.same]:LV) (fun a K=>X a.1 a.2.1 a.2.2.1 (fun q0=>K (q0,()) ((),(),(),())))
def v0o:Nat→Option (Fx.Spec Sg):=q0c ([(18,⟨[0,1,2,5,10,11,12,13,14,15,16,17,18,19],[0],[],[]⟩),(21,⟨[0,1,2,5,10,11,12,13,14,15,16,17,18,19],[0],[],[(.slot 8,.int IntKind.i64)]⟩)]:LS)
def v0p (X_r1_Has:q6x) (X_r6_IsTest:q11) (X_r9_Type:z1z) (X_r9_fits:j4s):Ev Sg:=((((E0.with 22 (w2q X_r1_Has)).with 81 (z16 X_r6_IsTest)).with 156 (w5x X_r9_Type)).with 157 (v7e X_r9_fits))
theorem y1g (X_r1_Has:q6x) (X_r6_IsTest:q11) (X_r9_Type:z1z) (X_r9_fits:j4s) (X:q3z) (l:List (Decl)) (segments:List (ByteArray)) (e:Ex) (K:Int→Prop):w4b X_r1_Has X_r6_IsTest X_r9_Type X_r9_fits X l segments e K=fnV (((v0p X_r1_Has X_r6_IsTest X_r9_Type X_r9_fits).with 115 (z8w X)).pl v0o) 4 115 ([.sl C.decl,.sl C.str,.el C.ex]:LP) ([.v]:LP) ([.sl C.decl,.sl C.str,.el C.ex]:LV) ([.int .i64]:LV) ([.same,.same,.same]:LV) (l,segments,e,()) (fun r _=>K r.1):=by kernel_rfl
theorem w5y:q0h Go.Proofs.Tryz.prog D 115 (z8w q4v):=by
 show q0h _ _ _ (conV ([.sl C.decl,.sl C.str,.el C.ex]:LP) ([.sl C.decl,.sl C.str,.el C.ex]:LV) ([.int .i64]:LV) ([.same,.same,.same]:LV) fun a K=>q4v a.1 a.2.1 a.2.2.1 (fun q0=>K (q0,()) ((),(),(),())))
 refine z6s (E:=v0p q4h q1f q5m q97) (fuel:=4) (rk:=[.v]) (p:=v0o) (q0b (q0b (q0b (q0b h_E0 j8b v25) z07 z57) w5w v7d) y1e y94) z6c fun a K h X hX=> ?_
 exact h (fun l segments e K=>X (l,segments,e,()) fun r _=>K r.1) (fun l segments e K hs=>hX (l,segments,e,()) (fun r _=>K r.1) (Eq.mp (y1g q4h q1f q5m q97 (fun l segments e K=>X (l,segments,e,()) fun r _=>K r.1) l segments e K) hs))
theorem j8c:Ent Go.Proofs.Tryz.prog 49:=q0d (by kernel_rfl) (by kernel_rfl) (by kernel_rfl)
def w2r (X:q9w):Con Sg:=conV ([.sl C.str,.v]:LP) ([.sl C.str,.str]:LV) ([.sl C.str]:LV) ([.same,.same]:LV) (fun a K=>X a.1 a.2.1 (fun q0=>K (q0,()) ((),(),())))
def y95:Nat→Option (Fx.Spec Sg):=q0c ([(5,⟨[0,1,4],[],[],[(.slot 5,.int IntKind.i64)]⟩)]:LS)
def v7f:Ev Sg:=E0
theorem y6e (l:List (ByteArray)) (s:ByteArray) (K:List (ByteArray)→Prop):q59 l s K=fnV ((v7f).pl y95) 4 49 ([.sl C.str,.v]:LP) ([.sl C.str]:LP) ([.sl C.str,.str]:LV) ([.sl C.str]:LV) ([.same,.same]:LV) (l,s,()) (fun r _=>K r.1):=by kernel_rfl
theorem v27:q0h Go.Proofs.Tryz.prog D 49 (w2r q59):=q0e (E:=v7f) h_E0 fun a K=>y6e a.1 a.2.1 (fun q0=>K (q0,()) ((),(),()))
theorem j1w:Ent Go.Proofs.Tryz.prog 32:=q0d (by kernel_rfl) (by kernel_rfl) (by kernel_rfl)
def z8x (X:q5n):Con Sg:=conV ([.sl C.str,.el C.ex]:LP) ([.sl C.str,.el C.ex]:LV) ([.sl C.str]:LV) ([.same,.same]:LV) (fun a K=>X a.1 a.2.1 (fun q0=>K (q0,()) ((),(),())))
def j5q:Nat→Option (Fx.Spec Sg):=q0c ([(6,⟨[1,3,4],[0],[],[(.slot 0,.sl C.str)]⟩),(9,⟨[1,3,4],[0],[],[(.slot 0,.sl C.str),(.slot 5,.int IntKind.i64)]⟩)]:LS)
def j5r (X_r1_Add:q9w):Ev Sg:=(E0.with 49 (w2r X_r1_Add))
theorem w79 (X_r1_Add:q9w) (X:q5n) (l:List (ByteArray)) (e:Ex) (K:List (ByteArray)→Prop):z74 X_r1_Add X l e K=fnV (((j5r X_r1_Add).with 32 (z8x X)).pl j5q) 4 32 ([.sl C.str,.el C.ex]:LP) ([.sl C.str]:LP) ([.sl C.str,.el C.ex]:LV) ([.sl C.str]:LV) ([.same,.same]:LV) (l,e,()) (fun r _=>K r.1):=by kernel_rfl
theorem v7g:q0h Go.Proofs.Tryz.prog D 32 (z8x q7m):=by
 show q0h _ _ _ (conV ([.sl C.str,.el C.ex]:LP) ([.sl C.str,.el C.ex]:LV) ([.sl C.str]:LV) ([.same,.same]:LV) fun a K=>q7m a.1 a.2.1 (fun q0=>K (q0,()) ((),(),())))
 refine z6s (E:=j5r q59) (fuel:=4) (rk:=[.sl C.str]) (p:=j5q) (q0b h_E0 j8c v27) j1w fun a K h X hX=> ?_
 exact h (fun l e K=>X (l,e,()) fun r _=>K r.1) (fun l e K hs=>hX (l,e,()) (fun r _=>K r.1) (Eq.mp (w79 q59 (fun l e K=>X (l,e,()) fun r _=>K r.1) l e K) hs))
theorem w8a:Ent Go.Proofs.Tryz.prog 14:=q0d (by kernel_rfl) (by kernel_rfl) (by kernel_rfl)
def j9v (X:z2w):Con Sg:=conV ([.el C.ex]:LP) ([.el C.ex]:LV) ([.sl C.str]:LV) ([.same]:LV) (fun a K=>X a.1 (fun q0=>K (q0,()) ((),())))
def v29:Nat→Option (Fx.Spec Sg):=q0c ([]:LS)
def j5s (X_r11_refers:q5n):Ev Sg:=(E0.with 32 (z8x X_r11_refers))
theorem w8b (X_r11_refers:q5n) (e:Ex) (K:List (ByteArray)→Prop):z77 X_r11_refers e K=fnV ((j5s X_r11_refers).pl v29) 4 14 ([.el C.ex]:LP) ([.sl C.str]:LP) ([.el C.ex]:LV) ([.sl C.str]:LV) ([.same]:LV) (e,()) (fun r _=>K r.1):=by kernel_rfl
theorem v7h:q0h Go.Proofs.Tryz.prog D 14 (j9v q7n):=q0e (E:=j5s q7m) (q0b h_E0 j1w v7g) fun a K=>w8b q7m a.1 (fun q0=>K (q0,()) ((),()))
theorem v3a:Ent Go.Proofs.Tryz.prog 36:=q0d (by kernel_rfl) (by kernel_rfl) (by kernel_rfl)
def w5z (X:z5t):Con Sg:=conV ([.sl C.seg]:LP) ([.sl C.seg]:LV) ([.vec 79 C.edge]:LV) ([.same]:LV) (fun a K=>X a.1 (fun q0=>K (q0,()) ((),())))
def v7i:Nat→Option (Fx.Spec Sg):=q0c ([(7,⟨[0,2],[],[],[(.slot 3,.own 79 C.edge),(.slot 4,.int IntKind.i64)]⟩),(15,⟨[0,2,4,5,7,8,9,10,13,14,15,16,17,18],[],[],[(.slot 3,.own 79 C.edge),(.slot 6,.int IntKind.i64)]⟩)]:LS)
def j9w (X_r11_Refers:z2w):Ev Sg:=(E0.with 14 (j9v X_r11_Refers))
theorem v3b (X_r11_Refers:z2w) (l:List (Seg)) (K:List (Edg)→Prop):j2y X_r11_Refers l K=fnV ((j9w X_r11_Refers).pl v7i) 4 36 ([.sl C.seg]:LP) ([.own 79 C.edge]:LP) ([.sl C.seg]:LV) ([.vec 79 C.edge]:LV) ([.same]:LV) (l,()) (fun r _=>K r.1):=by kernel_rfl
theorem y1h:q0h Go.Proofs.Tryz.prog D 36 (w5z q88):=q0e (E:=j9w q7n) (q0b h_E0 w8a v7h) fun a K=>v3b q7n a.1 (fun q0=>K (q0,()) ((),()))
theorem v7j:Ent Go.Proofs.Tryz.prog 190:=q0d (by kernel_rfl) (by kernel_rfl) (by kernel_rfl)
def v0q (X:j0r):Con Sg:=conV ([.sl C.edge,.v]:LP) ([.sl C.edge,.str]:LV) ([.sl C.str]:LV) ([.same,.same]:LV) (fun a K=>X a.1 a.2.1 (fun q0=>K (q0,()) ((),(),())))
def y1i:Nat→Option (Fx.Spec Sg):=q0c ([(7,⟨[0,1,4,9,10],[],[],[(.slot 5,.sl C.str),(.slot 6,.sl C.str)]⟩),(15,⟨[0,1,4,7,9,11,12,13,14,15,16,17,18],[],[],[(.slot 5,.sl C.str),(.slot 6,.sl C.str),(.slot 8,.int IntKind.i64)]⟩)]:LS)
def w50 (X_r1_Has:q6x) (X_r1_Add:q9w):Ev Sg:=((E0.with 22 (w2q X_r1_Has)).with 49 (w2r X_r1_Add))
theorem v7k (X_r1_Has:q6x) (X_r1_Add:q9w) (edges:List (Edg)) (node:ByteArray) (K:List (ByteArray)→Prop):j7i X_r1_Has X_r1_Add edges node K=fnV ((w50 X_r1_Has X_r1_Add).pl y1i) 4 190 ([.sl C.edge,.v]:LP) ([.sl C.str]:LP) ([.sl C.edge,.str]:LV) ([.sl C.str]:LV) ([.same,.same]:LV) (edges,node,()) (fun r _=>K r.1):=by kernel_rfl
theorem y6f:q0h Go.Proofs.Tryz.prog D 190 (v0q z1g):=q0e (E:=w50 q4h q59) (q0b (q0b h_E0 j8b v25) j8c v27) fun a K=>v7k q4h q59 a.1 a.2.1 (fun q0=>K (q0,()) ((),(),()))
theorem v3c:Ent Go.Proofs.Tryz.prog 158:=q0d (by kernel_rfl) (by kernel_rfl) (by kernel_rfl)
def w51 (X:z5u):Con Sg:=conV ([.sl C.str,.sl C.edge]:LP) ([.sl C.str,.sl C.edge]:LV) ([.sl C.str]:LV) ([.same,.same]:LV) (fun a K=>X a.1 a.2.1 (fun q0=>K (q0,()) ((),(),())))
def v7l:Nat→Option (Fx.Spec Sg):=q0c ([(7,⟨[0,1,4],[],[],[(.slot 5,.sl C.str),(.slot 6,.int IntKind.i64)]⟩)]:LS)
def j9x (X_r9_Needs:j0r) (X_r1_Has:q6x) (X_r1_Add:q9w):Ev Sg:=(((E0.with 190 (v0q X_r9_Needs)).with 22 (w2q X_r1_Has)).with 49 (w2r X_r1_Add))
theorem v3d (X_r9_Needs:j0r) (X_r1_Has:q6x) (X_r1_Add:q9w) (nodes:List (ByteArray)) (edges:List (Edg)) (K:List (ByteArray)→Prop):j2z X_r9_Needs X_r1_Has X_r1_Add nodes edges K=fnV ((j9x X_r9_Needs X_r1_Has X_r1_Add).pl v7l) 4 158 ([.sl C.str,.sl C.edge]:LP) ([.sl C.str]:LP) ([.sl C.str,.sl C.edge]:LV) ([.sl C.str]:LV) ([.same,.same]:LV) (nodes,edges,()) (fun r _=>K r.1):=by kernel_rfl
theorem y1j:q0h Go.Proofs.Tryz.prog D 158 (w51 q89):=q0e (E:=j9x z1g q4h q59) (q0b (q0b (q0b h_E0 v7j y6f) j8b v25) j8c v27) fun a K=>v3d z1g q4h q59 a.1 a.2.1 (fun q0=>K (q0,()) ((),(),()))
theorem v3e:Ent Go.Proofs.Tryz.prog 116:=q0d (by kernel_rfl) (by kernel_rfl) (by kernel_rfl)
def w52 (X:z5v):Con Sg:=conV ([.sl C.str,.sl C.edge]:LP) ([.sl C.str,.sl C.edge]:LV) ([.str,.bool]:LV) ([.same,.same]:LV) (fun a K=>X a.1 a.2.1 (fun q0 q1=>K (q0,q1,()) ((),(),())))
def v7m:Nat→Option (Fx.Spec Sg):=q0c ([]:LS)
def j9y (X_r9_Cyclic:z5u):Ev Sg:=(E0.with 158 (w51 X_r9_Cyclic))
theorem v3f (X_r9_Cyclic:z5u) (nodes:List (ByteArray)) (edges:List (Edg)) (K:ByteArray→Bool→Prop):j20 X_r9_Cyclic nodes edges K=fnV ((j9y X_r9_Cyclic).pl v7m) 4 116 ([.sl C.str,.sl C.edge]:LP) ([.v,.v]:LP) ([.sl C.str,.sl C.edge]:LV) ([.str,.bool]:LV) ([.same,.same]:LV) (nodes,edges,()) (fun r _=>K r.1 r.2.1):=by kernel_rfl
theorem y1k:q0h Go.Proofs.Tryz.prog D 116 (w52 q9a):=q0e (E:=j9y q89) (q0b h_E0 v3c y1j) fun a K=>v3f q89 a.1 a.2.1 (fun q0 q1=>K (q0,q1,()) ((),(),()))
end Go.En
end
noncomputable section
set_option maxRecDepth 100000
open Go Go.RowKit Go.Fl Go.Fl.Lk Go.Fx
namespace Go.En
theorem j1x:Ent Go.Proofs.Tryz.prog 159:=q0d (by kernel_rfl) (by kernel_rfl) (by kernel_rfl)
def z8y (X:q5o):Con Sg:=conV ([.el C.env,.v]:LP) ([.el C.env,.str]:LV) ([.int .i64]:LV) ([.same,.same]:LV) (fun a K=>X a.1 a.2.1 (fun q0=>K (q0,()) ((),(),())))
def v3g:Nat→Option (Fx.Spec Sg):=q0c ([(5,⟨[0,1,2],[0],[],[(.slot 5,.int IntKind.i64)]⟩)]:LS)
def j5t:Ev Sg:=E0
theorem w8c (v:Envt) (key:ByteArray) (K:Int→Prop):q3h v key K=fnV ((j5t).pl v3g) 4 159 ([.el C.env,.v]:LP) ([.v]:LP) ([.el C.env,.str]:LV) ([.int .i64]:LV) ([.same,.same]:LV) (v,key,()) (fun r _=>K r.1):=by kernel_rfl
theorem j9z:q0h Go.Proofs.Tryz.prog D 159 (z8y q3h):=q0e (E:=j5t) h_E0 fun a K=>w8c a.1 a.2.1 (fun q0=>K (q0,()) ((),(),()))
theorem v7n:Ent Go.Proofs.Tryz.prog 160:=q0d (by kernel_rfl) (by kernel_rfl) (by kernel_rfl)
def v0r (X:j0s):Con Sg:=conV ([.sl C.decl,.el C.serve]:LP) ([.sl C.decl,.el C.serve]:LV) ([.int .i64]:LV) ([.same,.same]:LV) (fun a K=>X a.1 a.2.1 (fun q0=>K (q0,()) ((),(),())))
def y1l:Nat→Option (Fx.Spec Sg):=q0c ([]:LS)
def w53 (X_r9_Type:z1z):Ev Sg:=(E0.with 156 (w5x X_r9_Type))
theorem v7o (X_r9_Type:z1z) (l:List (Decl)) (v:Srv) (K:Int→Prop):j7j X_r9_Type l v K=fnV ((w53 X_r9_Type).pl y1l) 4 160 ([.sl C.decl,.el C.serve]:LP) ([.v]:LP) ([.sl C.decl,.el C.serve]:LV) ([.int .i64]:LV) ([.same,.same]:LV) (l,v,()) (fun r _=>K r.1):=by kernel_rfl
theorem y6g:q0h Go.Proofs.Tryz.prog D 160 (v0r z1h):=q0e (E:=w53 q5m) (q0b h_E0 w5w v7d) fun a K=>v7o q5m a.1 a.2.1 (fun q0=>K (q0,()) ((),(),()))
theorem j8d:Ent Go.Proofs.Tryz.prog 117:=q0d (by kernel_rfl) (by kernel_rfl) (by kernel_rfl)
def z8z (X:q8b):Con Sg:=conV ([.el C.env,.el C.flag]:LP) ([.el C.env,.el C.flag]:LV) ([.int .i64]:LV) ([.same,.same]:LV) (fun a K=>X a.1 a.2.1 (fun q0=>K (q0,()) ((),(),())))
def w05:Nat→Option (Fx.Spec Sg):=q0c ([(7,⟨[0,1,2,3,5,15,16,17],[1,0],[],[(.slot 6,.int IntKind.i64),(.obj 2,.own 9 C.str)]⟩),(23,⟨[0,1,2,3,5,6,15,16,17,18,19,20,21,22],[1,0],[],[(.slot 8,.int IntKind.i64),(.obj 2,.own 9 C.str)]⟩)]:LS)
def z69 (X_r11_Keys:q43) (X_r14_FlagOf:q5o) (X_r9_Expr:q3z) (X_r9_Serve:j0s) (X_r17_Unreachable:q17):Ev Sg:=(((((E0.with 35 (j0v X_r11_Keys)).with 159 (z8y X_r14_FlagOf)).with 115 (z8w X_r9_Expr)).with 160 (v0r X_r9_Serve)).with 70 (q9k X_r17_Unreachable))
theorem j8e (X_r11_Keys:q43) (X_r14_FlagOf:q5o) (X_r9_Expr:q3z) (X_r9_Serve:j0s) (X_r17_Unreachable:q17) (v:Envt) (f:Flg) (K:Int→Prop):z10 X_r11_Keys X_r14_FlagOf X_r9_Expr X_r9_Serve X_r17_Unreachable v f K=fnV ((z69 X_r11_Keys X_r14_FlagOf X_r9_Expr X_r9_Serve X_r17_Unreachable).pl w05) 4 117 ([.el C.env,.el C.flag]:LP) ([.v]:LP) ([.el C.env,.el C.flag]:LV) ([.int .i64]:LV) ([.same,.same]:LV) (v,f,()) (fun r _=>K r.1):=by kernel_rfl
theorem w54:q0h Go.Proofs.Tryz.prog D 117 (z8z q30):=q0e (E:=z69 q3a q3h q4v z1h q1m) (q0b (q0b (q0b (q0b (q0b h_E0 z8v j8a) j1x j9z) z6c w5y) v7n y6g) z2a z4v) fun a K=>j8e q3a q3h q4v z1h q1m a.1 a.2.1 (fun q0=>K (q0,()) ((),(),()))
theorem w06:Ent Go.Proofs.Tryz.prog 118:=q0d (by kernel_rfl) (by kernel_rfl) (by kernel_rfl)
def j1y (X:q9x):Con Sg:=conV ([.el C.env]:LP) ([.el C.env]:LV) ([.vec 9 C.str]:LV) ([.same]:LV) (fun a K=>X a.1 (fun q0=>K (q0,()) ((),())))
def w55:Nat→Option (Fx.Spec Sg):=q0c ([(7,⟨[0,1,2],[0],[],[(.slot 3,.own 9 C.str),(.slot 4,.int IntKind.i64)]⟩)]:LS)
def z81:Ev Sg:=E0
theorem w07 (v:Envt) (K:List (ByteArray)→Prop):q44 v K=fnV ((z81).pl w55) 4 118 ([.el C.env]:LP) ([.own 9 C.str]:LP) ([.el C.env]:LV) ([.vec 9 C.str]:LV) ([.same]:LV) (v,()) (fun r _=>K r.1):=by kernel_rfl
theorem w8d:q0h Go.Proofs.Tryz.prog D 118 (j1y q44):=q0e (E:=z81) h_E0 fun a K=>w07 a.1 (fun q0=>K (q0,()) ((),()))
theorem j8f:Ent Go.Proofs.Tryz.prog 119:=q0d (by kernel_rfl) (by kernel_rfl) (by kernel_rfl)
def z82 (X:q8c):Con Sg:=conV ([.el C.env]:LP) ([.el C.env]:LV) ([.vec 79 C.edge]:LV) ([.same]:LV) (fun a K=>X a.1 (fun q0=>K (q0,()) ((),())))
def w08:Nat→Option (Fx.Spec Sg):=q0c ([(7,⟨[0,1,2],[0],[],[(.slot 3,.own 79 C.edge),(.slot 4,.int IntKind.i64)]⟩),(13,⟨[0,1,2,4,6,7,8,9,10],[],[],[(.slot 3,.own 79 C.edge),(.slot 5,.int IntKind.i64)]⟩)]:LS)
def z7a:Ev Sg:=E0
theorem j8g (v:Envt) (K:List (Edg)→Prop):q22 v K=fnV ((z7a).pl w08) 4 119 ([.el C.env]:LP) ([.own 79 C.edge]:LP) ([.el C.env]:LV) ([.vec 79 C.edge]:LV) ([.same]:LV) (v,()) (fun r _=>K r.1):=by kernel_rfl
theorem w56:q0h Go.Proofs.Tryz.prog D 119 (z82 q22):=q0e (E:=z7a) h_E0 fun a K=>j8g a.1 (fun q0=>K (q0,()) ((),()))
theorem w8e:Ent Go.Proofs.Tryz.prog 161:=q0d (by kernel_rfl) (by kernel_rfl) (by kernel_rfl)
def j90 (X:z2x):Con Sg:=conV ([.sl C.span,.sl C.span]:LP) ([.sl C.span,.sl C.span]:LV) ([.vec 152 C.span]:LV) ([.same,.same]:LV) (fun a K=>X a.1 a.2.1 (fun q0=>K (q0,()) ((),(),())))
def v3h:Nat→Option (Fx.Spec Sg):=q0c ([(7,⟨[0,1,4,5,6,8,9,10,11],[1],[],[(.slot 7,.int IntKind.i64),(.obj 0,.own 4 C.bool)]⟩)]:LS)
def j5u (X_r14_Set:q3w) (X_r14_Spans:q1s):Ev Sg:=((E0.with 112 (z8r X_r14_Set)).with 113 (q9l X_r14_Spans))
theorem w8f (X_r14_Set:q3w) (X_r14_Spans:q1s) (a:List (Spn)) (b:List (Spn)) (K:List (Spn)→Prop):z78 X_r14_Set X_r14_Spans a b K=fnV ((j5u X_r14_Set X_r14_Spans).pl v3h) 4 161 ([.sl C.span,.sl C.span]:LP) ([.own 152 C.span]:LP) ([.sl C.span,.sl C.span]:LV) ([.vec 152 C.span]:LV) ([.same,.same]:LV) (a,b,()) (fun r _=>K r.1):=by kernel_rfl
theorem v7p:q0h Go.Proofs.Tryz.prog D 161 (j90 q7o):=q0e (E:=j5u q2n q1b) (q0b (q0b h_E0 z6b j49) q8n z2c) fun a K=>w8f q2n q1b a.1 a.2.1 (fun q0=>K (q0,()) ((),(),()))
theorem z6d:Ent Go.Proofs.Tryz.prog 120:=q0d (by kernel_rfl) (by kernel_rfl) (by kernel_rfl)
def z0a (X:q3i):Con Sg:=conV ([.el C.env,.v]:LP) ([.el C.env,.int .i64]:LV) ([.int .i64]:LV) ([.same,.same]:LV) (fun a K=>X a.1 a.2.1 (fun q0=>K (q0,()) ((),(),())))
def z7o:Nat→Option (Fx.Spec Sg):=q0c ([(13,⟨[0,1,2,5,6,7,15,16,17,18,19,20,21,22,23,24,25,26,27,28,29,30,31,32,33],[1,0],[],[(.slot 8,.int IntKind.i64)]⟩),(35,⟨[0,1,2,5,6,7,8,9,15,16,17,18,19,20,21,22,23,24,25,26,27,28,29,30,31,32,33,34,35,36,37,38,55,56,57,58,59,60,61,62,63,64,66,67,68,69,70,71,72,73,74,75,76],[1,0],[],[(.slot 10,.own 152 C.span),(.slot 11,.int IntKind.i64),(.obj 4,.own 9 C.str)]⟩),(51,⟨[0,1,2,5,6,7,8,9,10,11,15,16,17,18,19,20,21,22,23,24,25,26,27,28,29,30,31,32,33,34,35,36,37,38,55,56,57,58,59,60,61,62,63,64,66,67,68,69,70,71,72,73,74,75,77,78,79,101,102,103,104,105,106],[1,0],[],[(.slot 13,.int IntKind.i64),(.obj 9,.own 152 C.span),(.obj 6,.own 152 C.span),(.obj 4,.own 9 C.str)]⟩)]:LS)
def q8v (X_r14_LayerOf:q2b) (X_r14_FlagOf:q5o) (X_r11_Keys:q43) (X_r9_Expr:q3z) (X_r14_Common:z2x):Ev Sg:=(((((E0.with 110 (z09 X_r14_LayerOf)).with 159 (z8y X_r14_FlagOf)).with 35 (j0v X_r11_Keys)).with 115 (z8w X_r9_Expr)).with 161 (j90 X_r14_Common))
theorem z6e (X_r14_LayerOf:q2b) (X_r14_FlagOf:q5o) (X_r11_Keys:q43) (X_r9_Expr:q3z) (X_r14_Common:z2x) (v:Envt) (i:Int) (K:Int→Prop):q5p X_r14_LayerOf X_r14_FlagOf X_r11_Keys X_r9_Expr X_r14_Common v i K=fnV ((q8v X_r14_LayerOf X_r14_FlagOf X_r11_Keys X_r9_Expr X_r14_Common).pl z7o) 4 120 ([.el C.env,.v]:LP) ([.v]:LP) ([.el C.env,.int .i64]:LV) ([.int .i64]:LV) ([.same,.same]:LV) (v,i,()) (fun r _=>K r.1):=by kernel_rfl
theorem z83:q0h Go.Proofs.Tryz.prog D 120 (z0a q1y):=q0e (E:=q8v q1v q3h q3a q4v q7o) (q0b (q0b (q0b (q0b (q0b h_E0 z2b z6a) j1x j9z) z8v j8a) z6c w5y) w8e v7p) fun a K=>z6e q1v q3h q3a q4v q7o a.1 a.2.1 (fun q0=>K (q0,()) ((),(),()))
theorem j3i:Ent Go.Proofs.Tryz.prog 75:=q0d (by kernel_rfl) (by kernel_rfl) (by kernel_rfl)
def z4z (X:q6a):Con Sg:=conV ([.el C.env]:LP) ([.el C.env]:LV) ([.str,.int .i64]:LV) ([.same]:LV) (fun a K=>X a.1 (fun q0 q1=>K (q0,q1,()) ((),())))
def j5v:Nat→Option (Fx.Spec Sg):=q0c ([(13,⟨[0,1,4,5,16,17,18,19,21,22,23],[0],[],[(.slot 6,.int IntKind.i64),(.obj 1,.own 9 C.str)]⟩),(33,⟨[0,1,4,5,6,8,9,16,17,18,19,21,22,23,24,25,26,27,28,59,60,61,62,63,64,65,66,67],[0],[],[(.slot 10,.int IntKind.i64),(.obj 1,.own 9 C.str),(.obj 4,.own 79 C.edge)]⟩),(51,⟨[0,1,4,5,6,8,9,10,12,13,16,17,18,19,21,22,23,24,25,26,27,28,59,60,61,62,63,64,65,66,67,70,71,72,73,74,94,95,96,97,98,99,100,101,102],[0],[],[(.slot 14,.int IntKind.i64),(.obj 8,.own 9 C.str),(.obj 9,.own 79 C.edge),(.obj 4,.own 79 C.edge),(.obj 1,.own 9 C.str)]⟩)]:LS)
def z3f (X_r6_Environment:q6w) (X_r11_Keys:q43) (X_r9_Expr:q3z) (X_r11_Edges:z5t) (X_r17_least:z5v) (X_r17_flagError:q8b) (X_r17_FlagKeys:q9x) (X_r17_FlagNeeds:q8c) (X_r17_experimentError:q3i):Ev Sg:=(((((((((E0.with 114 (z68 X_r6_Environment)).with 35 (j0v X_r11_Keys)).with 115 (z8w X_r9_Expr)).with 36 (w5z X_r11_Edges)).with 116 (w52 X_r17_least)).with 117 (z8z X_r17_flagError)).with 118 (j1y X_r17_FlagKeys)).with 119 (z82 X_r17_FlagNeeds)).with 120 (z0a X_r17_experimentError))
theorem j3j (X_r6_Environment:q6w) (X_r11_Keys:q43) (X_r9_Expr:q3z) (X_r11_Edges:z5t) (X_r17_least:z5v) (X_r17_flagError:q8b) (X_r17_FlagKeys:q9x) (X_r17_FlagNeeds:q8c) (X_r17_experimentError:q3i) (v:Envt) (K:ByteArray→Int→Prop):q9b X_r6_Environment X_r11_Keys X_r9_Expr X_r11_Edges X_r17_least X_r17_flagError X_r17_FlagKeys X_r17_FlagNeeds X_r17_experimentError v K=fnV ((z3f X_r6_Environment X_r11_Keys X_r9_Expr X_r11_Edges X_r17_least X_r17_flagError X_r17_FlagKeys X_r17_FlagNeeds X_r17_experimentError).pl j5v) 4 75 ([.el C.env]:LP) ([.v,.v]:LP) ([.el C.env]:LV) ([.str,.int .i64]:LV) ([.same]:LV) (v,()) (fun r _=>K r.1 r.2.1):=by kernel_rfl
theorem j8h:q0h Go.Proofs.Tryz.prog D 75 (z4z q2v):=q0e (E:=z3f q29 q3a q4v q88 q9a q30 q44 q22 q1y) (q0b (q0b (q0b (q0b (q0b (q0b (q0b (q0b (q0b h_E0 j5o w04) z8v j8a) z6c w5y) v3a y1h) v3e y1k) j8d w54) w06 w8d) j8f w56) z6d z83) fun a K=>j3j q29 q3a q4v q88 q9a q30 q44 q22 q1y a.1 (fun q0 q1=>K (q0,q1,()) ((),()))
theorem v3i:Ent Go.Proofs.Tryz.prog 45:=q0d (by kernel_rfl) (by kernel_rfl) (by kernel_rfl)
def w57 (X:z5w):Con Sg:=conV ([.el C.env]:LP) ([.el C.env]:LV) ([.bool]:LV) ([.same]:LV) (fun a K=>X a.1 (fun q0=>K (q0,()) ((),())))
def v7q:Nat→Option (Fx.Spec Sg):=q0c ([]:LS)
def j91 (X_r17_Environment:q6a):Ev Sg:=(E0.with 75 (z4z X_r17_Environment))
theorem v3j (X_r17_Environment:q6a) (v:Envt) (K:Bool→Prop):j21 X_r17_Environment v K=fnV ((j91 X_r17_Environment).pl v7q) 4 45 ([.el C.env]:LP) ([.v]:LP) ([.el C.env]:LV) ([.bool]:LV) ([.same]:LV) (v,()) (fun r _=>K r.1):=by kernel_rfl
theorem y1m:q0h Go.Proofs.Tryz.prog D 45 (w57 q65):=q0e (E:=j91 q2v) (q0b h_E0 j3i j8h) fun a K=>v3j q2v a.1 (fun q0=>K (q0,()) ((),()))
theorem j8i:Ent Go.Proofs.Tryz.prog 17:=q0d (by kernel_rfl) (by kernel_rfl) (by kernel_rfl)
def z84 (X:q8d):Con Sg:=conV ([.ptr 71 [.c,.v],.v]:LP) ([.ptr 71 [.sl C.u8,.int .i64],.int .i64]:LV) ([.el C.env]:LV) ([.ptr 71 [.same,.int .i64],.same]:LV) (fun a K=>X a.1.1 a.1.2.1 a.2.1 (fun q0 q1=>K (q0,()) (((),q1,()),(),())))
def w09:Nat→Option (Fx.Spec Sg):=q0c ([(8,⟨[0,1,4,5,10,11],[1],[(3,(52,8)),(0,(71,2))],[(.cell 3 0,.str),(.cell 3 1,.str),(.cell 3 2,.int IntKind.i64),(.cell 0 1,.int IntKind.i64),(.obj 2,.own 114 C.decl)]⟩),(15,⟨[0,1,4,5,6,10,11,21,22,23,24,26],[2,1],[(0,(71,2)),(3,(52,8))],[(.slot 7,.int IntKind.i64),(.cell 0 1,.int IntKind.i64),(.cell 3 5,.own 95 C.flag),(.obj 10,.own 33 C.seg),(.obj 12,.own 99 C.layer),(.obj 13,.own 103 C.exper)]⟩),(43000009,⟨[0,1,2,4,6,7,8,19,20,21,22,23,24,25,26,27,28,29],[22,21],[(0,(71,2)),(23,(95,13))],[(.slot 9,.int IntKind.i64),(.cell 0 1,.int IntKind.i64),(.cell 23 2,.own 112 C.val),(.obj 13,.own 103 C.exper),(.obj 12,.own 99 C.layer),(.obj 17,.own 95 C.flag),(.obj 10,.own 33 C.seg)]⟩),(43000019,⟨[0,1,2,4,6,7,8,9,19,20,21,22,23,24,25,26,27,28,29,30,31,32,44,45,46,47,48],[22,21],[(23,(95,13)),(0,(71,2))],[(.slot 10,.int IntKind.i64),(.cell 23 5,.own 135 C.prereq),(.cell 0 1,.int IntKind.i64),(.obj 10,.own 33 C.seg),(.obj 17,.own 95 C.flag),(.obj 12,.own 99 C.layer),(.obj 13,.own 103 C.exper),(.obj 27,.own 112 C.val)]⟩),(43000029,⟨[0,1,2,4,6,7,8,9,10,19,20,21,22,23,24,25,26,27,28,29,30,31,32,44,45,46,47,48,49,50,51,52,53],[22,21],[(23,(95,13)),(0,(71,2))],[(.slot 11,.int IntKind.i64),(.cell 23 6,.own 137 C.target),(.cell 0 1,.int IntKind.i64),(.obj 27,.own 112 C.val),(.obj 13,.own 103 C.exper),(.obj 12,.own 99 C.layer),(.obj 17,.own 95 C.flag),(.obj 10,.own 33 C.seg),(.obj 34,.own 135 C.prereq)]⟩),(43000038,⟨[0,1,2,4,6,7,8,9,10,11,12,19,20,21,22,23,24,25,26,27,28,29,30,31,32,44,45,46,47,48,49,50,51,52,53,81,82,83,84,87,88,89,90,91,92,93],[23],[(51,(137,3)),(0,(71,2))],[(.cell 51 0,.str),(.cell 0 1,.int IntKind.i64),(.obj 50,.own 9 C.str),(.obj 34,.own 135 C.prereq),(.obj 10,.own 33 C.seg),(.obj 17,.own 95 C.flag),(.obj 12,.own 99 C.layer),(.obj 13,.own 103 C.exper),(.obj 27,.own 112 C.val),(.obj 42,.own 137 C.target)]⟩),(43000060,⟨[0,1,2,4,6,7,8,9,10,11,13,19,20,21,22,23,24,25,26,27,28,29,30,31,32,44,45,46,47,48,49,50,51,52,53,81,82,83,84,108],[22,21],[(0,(71,2)),(23,(95,13))],[(.cell 0 1,.int IntKind.i64),(.cell 23 7,.own 141 C.rule),(.obj 50,.own 9 C.str),(.obj 34,.own 135 C.prereq),(.obj 10,.own 33 C.seg),(.obj 17,.own 95 C.flag),(.obj 12,.own 99 C.layer),(.obj 13,.own 103 C.exper),(.obj 27,.own 112 C.val),(.obj 42,.own 137 C.target)]⟩),(43000047,⟨[0,1,2,4,6,7,8,9,10,11,13,19,20,21,22,23,24,25,26,27,28,29,30,31,32,44,45,46,47,48,49,50,51,52,53,81,82,83,84,108],[],[(0,(71,2)),(23,(95,13))],[(.slot 14,.int IntKind.i64),(.cell 0 1,.int IntKind.i64),(.cell 23 7,.own 141 C.rule),(.obj 50,.own 9 C.str),(.obj 34,.own 135 C.prereq),(.obj 10,.own 33 C.seg),(.obj 17,.own 95 C.flag),(.obj 12,.own 99 C.layer),(.obj 13,.own 103 C.exper),(.obj 27,.own 112 C.val),(.obj 42,.own 137 C.target)]⟩),(25,⟨[0,1,4,5,6,7,10,11,21,22,23,24,26,27,28,29,30,45,46,48],[2,1],[(0,(71,2)),(3,(52,8))],[(.slot 8,.int IntKind.i64),(.cell 0 1,.int IntKind.i64),(.cell 3 6,.own 99 C.layer),(.obj 13,.own 103 C.exper),(.obj 10,.own 33 C.seg),(.obj 17,.own 95 C.flag)]⟩),(35,⟨[0,1,4,5,6,7,8,10,11,21,22,23,24,26,27,28,29,30,45,46,48,49,50,51,52,66,67,69],[2,1],[(0,(71,2)),(3,(52,8))],[(.slot 9,.int IntKind.i64),(.cell 0 1,.int IntKind.i64),(.cell 3 7,.own 103 C.exper),(.obj 17,.own 95 C.flag),(.obj 10,.own 33 C.seg),(.obj 24,.own 99 C.layer)]⟩),(45000010,⟨[0,1,2,3,5,8,9,10,13,14,15,16,17,18,19,20,21,22,23,24,25,26,27,28,29,30,31,32,33,34,35,36,37,38,39,40,41,42,43,44,45,46],[37,36,35],[(40,(103,12)),(0,(71,2))],[(.cell 40 4,.int IntKind.i64),(.cell 0 1,.int IntKind.i64),(.obj 39,.own 197 C.range),(.obj 31,.own 103 C.exper),(.obj 24,.own 99 C.layer),(.obj 17,.own 95 C.flag),(.obj 10,.own 33 C.seg)]⟩),(45000014,⟨[0,1,2,3,5,8,9,10,13,14,15,16,17,18,19,20,21,22,23,24,25,26,27,28,29,30,31,32,33,34,35,36,37,38,39,40,41,42,43,44,45,46],[37,36,35],[(40,(103,12)),(0,(71,2))],[(.cell 40 7,.int IntKind.i64),(.cell 40 8,.str),(.cell 40 9,.str),(.cell 40 10,.sl C.val),(.cell 40 11,.sl C.ex),(.cell 0 1,.int IntKind.i64),(.obj 10,.own 33 C.seg),(.obj 17,.own 95 C.flag),(.obj 24,.own 99 C.layer),(.obj 31,.own 103 C.exper),(.obj 39,.own 197 C.range)]⟩)]:LS)
def z7b (X_d_Declared:q1x) (X_d_segments:z2t) (X_d_Next:q0r) (X_d_keys:z5g) (X_d_Value:q6m) (X_d_Keys:z5h) (X_d_Serve:j4i) (X_d_segmentKeys:q73) (X_d_Expr:q51) (X_r17_Unreachable:q17) (X_d_layer:j4l) (X_d_Text:q50) (X_d_Split:z1p) (X_r14_Free:j0i) (X_d_Wide:q9t) (X_r14_Minus:q64) (X_r14_First:z5n) (X_r17_Valid:z5w):Ev Sg:=((((((((((((((((((E0.with 37 (q98 X_d_Declared)).with 40 (j9e X_d_segments)).with 10 (q4r X_d_Next)).with 41 (v2a X_d_keys)).with 53 (j4x X_d_Value)).with 23 (v2b X_d_Keys)).with 69 (v52 X_d_Serve)).with 68 (z8e X_d_segmentKeys)).with 11 (j4y X_d_Expr)).with 70 (q9k X_r17_Unreachable)).with 43 (v6a X_d_layer)).with 38 (j4w X_d_Text)).with 71 (w4j X_d_Split)).with 72 (w94 X_r14_Free)).with 39 (w2p X_d_Wide)).with 73 (j3f X_r14_Minus)).with 74 (w45 X_r14_First)).with 45 (w57 X_r17_Valid))
theorem j8j (X_d_Declared:q1x) (X_d_segments:z2t) (X_d_Next:q0r) (X_d_keys:z5g) (X_d_Value:q6m) (X_d_Keys:z5h) (X_d_Serve:j4i) (X_d_segmentKeys:q73) (X_d_Expr:q51) (X_r17_Unreachable:q17) (X_d_layer:j4l) (X_d_Text:q50) (X_d_Split:z1p) (X_r14_Free:j0i) (X_d_Wide:q9t) (X_r14_Minus:q64) (X_r14_First:z5n) (X_r17_Valid:z5w) (list:List (Int)) (at_:Int) (now:Int) (K:Envt→Int→Prop):z11 X_d_Declared X_d_segments X_d_Next X_d_keys X_d_Value X_d_Keys X_d_Serve X_d_segmentKeys X_d_Expr X_r17_Unreachable X_d_layer X_d_Text X_d_Split X_r14_Free X_d_Wide X_r14_Minus X_r14_First X_r17_Valid list at_ now K=fnV ((z7b X_d_Declared X_d_segments X_d_Next X_d_keys X_d_Value X_d_Keys X_d_Serve X_d_segmentKeys X_d_Expr X_r17_Unreachable X_d_layer X_d_Text X_d_Split X_r14_Free X_d_Wide X_r14_Minus X_r14_First X_r17_Valid).pl w09) 4 17 ([.ptr 71 [.c,.v],.v]:LP) ([.el C.env]:LP) ([.ptr 71 [.sl C.u8,.int .i64],.int .i64]:LV) ([.el C.env]:LV) ([.ptr 71 [.same,.int .i64],.same]:LV) ((list,at_,()),now,()) (fun r o=>K r.1 o.1.2.1):=by kernel_rfl
theorem w58:q0h Go.Proofs.Tryz.prog D 17 (z84 q31):=q0e (E:=z7b q09 q7h q0o z0u q3f z0v z4g q2y q5a q1m z4k q4b q74 z1c q6r q4f q82 q65) (q0b (q0b (q0b (q0b (q0b (q0b (q0b (q0b (q0b (q0b (q0b (q0b (q0b (q0b (q0b (q0b (q0b (q0b h_E0 q91 z25) w7s v5z) q2j q5g) w9t y3m) j28 w4g) w9u y3n) v99 y9t) j7m w4h) j0u v2c) z2a z4v) y0f y9v) j0t w2o) w4i v50) v6i y5x) j7l v19) j5a w43) v2p y0n) v3i y1m) fun a K=>j8j q09 q7h q0o z0u q3f z0v z4g q2y q5a q1m z4k q4b q74 z1c q6r q4f q82 q65 a.1.1 a.1.2.1 a.2.1 (fun q0 q1=>K (q0,()) (((),q1,()),(),()))
theorem z86:Ent Go.Proofs.Tryz.prog 86:=q0d (by kernel_rfl) (by kernel_rfl) (by kernel_rfl)
def z6f (X:q4i):Con Sg:=conV ([.v]:LP) ([.int .i64]:LV) ([.bool]:LV) ([.same]:LV) (fun a K=>X a.1 (fun q0=>K (q0,()) ((),())))
def w8g:Nat→Option (Fx.Spec Sg):=q0c ([]:LS)
def j1z:Ev Sg:=E0
theorem w59 (op:Int) (K:Bool→Prop):q2c op K=fnV ((j1z).pl w8g) 4 86 ([.v]:LP) ([.v]:LP) ([.int .i64]:LV) ([.bool]:LV) ([.same]:LV) (op,()) (fun r _=>K r.1):=by kernel_rfl
theorem j5w:q0h Go.Proofs.Tryz.prog D 86 (z6f q2c):=q0e (E:=j1z) h_E0 fun a K=>w59 a.1 (fun q0=>K (q0,()) ((),()))
theorem q35:Ent Go.Proofs.Tryz.prog 178:=q0d (by kernel_rfl) (by kernel_rfl) (by kernel_rfl)
def q2m (X:q0v):Con Sg:=conV ([.sl C.str,.sl C.str]:LP) ([.sl C.str,.sl C.str]:LV) ([.bool]:LV) ([.same,.same]:LV) (fun a K=>X a.1 a.2.1 (fun q0=>K (q0,()) ((),(),())))
def z0b:Nat→Option (Fx.Spec Sg):=q0c ([(9,⟨[0,1,6,7,8,9,10,11,12],[],[],[(.slot 13,.int IntKind.i64)]⟩)]:LS)
def q37:Ev Sg:=E0
theorem q9n (s1:List (ByteArray)) (s2:List (ByteArray)) (K:Bool→Prop):q0k s1 s2 K=fnV ((q37).pl z0b) 4 178 ([.sl C.str,.sl C.str]:LP) ([.v]:LP) ([.sl C.str,.sl C.str]:LV) ([.bool]:LV) ([.same,.same]:LV) (s1,s2,()) (fun r _=>K r.1):=by kernel_rfl
theorem q4w:q0h Go.Proofs.Tryz.prog D 178 (q2m q0k):=q0e (E:=q37) h_E0 fun a K=>q9n a.1 a.2.1 (fun q0=>K (q0,()) ((),(),()))
end Go.En
end
noncomputable section
set_option maxRecDepth 100000
open Go Go.RowKit Go.Fl Go.Fl.Lk Go.Fx
namespace Go.En
theorem w8h:Ent Go.Proofs.Tryz.prog 131:=q0d (by kernel_rfl) (by kernel_rfl) (by kernel_rfl)
def j92 (X:z2y):Con Sg:=conV ([.el C.val,.el C.val]:LP) ([.el C.val,.el C.val]:LV) ([.bool]:LV) ([.same,.same]:LV) (fun a K=>X a.1 a.2.1 (fun q0=>K (q0,()) ((),(),())))
def v3k:Nat→Option (Fx.Spec Sg):=q0c ([]:LS)
def j5x (X_slices_Equal_string_string_:q0v):Ev Sg:=(E0.with 178 (q2m X_slices_Equal_string_string_))
theorem w8i (X_slices_Equal_string_string_:q0v) (a:Val) (b:Val) (K:Bool→Prop):z79 X_slices_Equal_string_string_ a b K=fnV ((j5x X_slices_Equal_string_string_).pl v3k) 4 131 ([.el C.val,.el C.val]:LP) ([.v]:LP) ([.el C.val,.el C.val]:LV) ([.bool]:LV) ([.same,.same]:LV) (a,b,()) (fun r _=>K r.1):=by kernel_rfl
theorem v7r:q0h Go.Proofs.Tryz.prog D 131 (j92 q7p):=q0e (E:=j5x q0k) (q0b h_E0 q35 q4w) fun a K=>w8i q0k a.1 a.2.1 (fun q0=>K (q0,()) ((),(),()))
theorem j5y:Ent Go.Proofs.Tryz.prog 89:=q0d (by kernel_rfl) (by kernel_rfl) (by kernel_rfl)
def j3k (X:q66):Con Sg:=conV ([.el C.ex,.el C.ex]:LP) ([.el C.ex,.el C.ex]:LV) ([.bool]:LV) ([.same,.same]:LV) (fun a K=>X a.1 a.2.1 (fun q0=>K (q0,()) ((),(),())))
def j93:Nat→Option (Fx.Spec Sg):=q0c ([(131000009,⟨[0,1,2,10,11,12,13,14,15,16],[],[],[(.slot 17,.int IntKind.i64)]⟩),(133000009,⟨[0,1,2,10,11,12,13,14,15,16],[],[],[(.slot 17,.int IntKind.i64)]⟩)]:LS)
def j94 (X_same_Value:z2y):Ev Sg:=(E0.with 131 (j92 X_same_Value))
theorem v3l (X_same_Value:z2y) (X:q66) (a:Ex) (b:Ex) (K:Bool→Prop):j22 X_same_Value X a b K=fnV (((j94 X_same_Value).with 89 (j3k X)).pl j93) 4 89 ([.el C.ex,.el C.ex]:LP) ([.v]:LP) ([.el C.ex,.el C.ex]:LV) ([.bool]:LV) ([.same,.same]:LV) (a,b,()) (fun r _=>K r.1):=by kernel_rfl
theorem y1n:q0h Go.Proofs.Tryz.prog D 89 (j3k q67):=by
 show q0h _ _ _ (conV ([.el C.ex,.el C.ex]:LP) ([.el C.ex,.el C.ex]:LV) ([.bool]:LV) ([.same,.same]:LV) fun a K=>q67 a.1 a.2.1 (fun q0=>K (q0,()) ((),(),())))
 refine z6s (E:=j94 q7p) (fuel:=4) (rk:=[.v]) (p:=j93) (q0b h_E0 w8h v7r) j5y fun a K h X hX=> ?_
 exact h (fun a b K=>X (a,b,()) fun r _=>K r.1) (fun a b K hs=>hX (a,b,()) (fun r _=>K r.1) (Eq.mp (v3l q7p (fun a b K=>X (a,b,()) fun r _=>K r.1) a b K) hs))
theorem z7c:Ent Go.Proofs.Tryz.prog 55:=q0d (by kernel_rfl) (by kernel_rfl) (by kernel_rfl)
def z3y (X:q3o):Con Sg:=conV ([.own 26 C.ex,.el C.ex]:LP) ([.vec 26 C.ex,.el C.ex]:LV) ([.vec 26 C.ex]:LV) ([.same,.same]:LV) (fun a K=>X a.1 a.2.1 (fun q0=>K (q0,()) ((),(),())))
def z87:Nat→Option (Fx.Spec Sg):=q0c ([(6,⟨[1,3,4],[1],[],[(.slot 0,.own 26 C.ex)]⟩),(9,⟨[1,3,4,25,26,27],[1],[],[(.slot 0,.own 26 C.ex),(.slot 28,.int IntKind.i64)]⟩),(130000005,⟨[0,1,6,7],[0],[],[(.slot 8,.int IntKind.i64)]⟩)]:LS)
def z88 (X_clause_test:q4i) (X_same_Expr:q66):Ev Sg:=((E0.with 86 (z6f X_clause_test)).with 89 (j3k X_same_Expr))
theorem w1a (X_clause_test:q4i) (X_same_Expr:q66) (X:q3o) (l:List (Ex)) (e:Ex) (K:List (Ex)→Prop):z3s X_clause_test X_same_Expr X l e K=fnV (((z88 X_clause_test X_same_Expr).with 55 (z3y X)).pl z87) 4 55 ([.own 26 C.ex,.el C.ex]:LP) ([.own 26 C.ex]:LP) ([.vec 26 C.ex,.el C.ex]:LV) ([.vec 26 C.ex]:LV) ([.same,.same]:LV) (l,e,()) (fun r _=>K r.1):=by kernel_rfl
theorem w8j:q0h Go.Proofs.Tryz.prog D 55 (z3y q45):=by
 show q0h _ _ _ (conV ([.own 26 C.ex,.el C.ex]:LP) ([.vec 26 C.ex,.el C.ex]:LV) ([.vec 26 C.ex]:LV) ([.same,.same]:LV) fun a K=>q45 a.1 a.2.1 (fun q0=>K (q0,()) ((),(),())))
 refine z6s (E:=z88 q2c q67) (fuel:=4) (rk:=[.own 26 C.ex]) (p:=z87) (q0b (q0b h_E0 z86 j5w) j5y y1n) z7c fun a K h X hX=> ?_
 exact h (fun l e K=>X (l,e,()) fun r _=>K r.1) (fun l e K hs=>hX (l,e,()) (fun r _=>K r.1) (Eq.mp (w1a q2c q67 (fun l e K=>X (l,e,()) fun r _=>K r.1) l e K) hs))
theorem z2e:Ent Go.Proofs.Tryz.prog 91:=q0d (by kernel_rfl) (by kernel_rfl) (by kernel_rfl)
def z1a (X:q2d):Con Sg:=conV ([.el C.val]:LP) ([.el C.val]:LV) ([.el C.val]:LV) ([.same]:LV) (fun a K=>X a.1 (fun q0=>K (q0,()) ((),())))
def w8k:Nat→Option (Fx.Spec Sg):=q0c ([]:LS)
def j10:Ev Sg:=E0
theorem w6a (v:Val) (K:Val→Prop):q1n v K=fnV ((j10).pl w8k) 4 91 ([.el C.val]:LP) ([.el C.val]:LP) ([.el C.val]:LV) ([.el C.val]:LV) ([.same]:LV) (v,()) (fun r _=>K r.1):=by kernel_rfl
theorem z6g:q0h Go.Proofs.Tryz.prog D 91 (z1a q1n):=q0e (E:=j10) h_E0 fun a K=>w6a a.1 (fun q0=>K (q0,()) ((),()))
theorem j11:Ent Go.Proofs.Tryz.prog 56:=q0d (by kernel_rfl) (by kernel_rfl) (by kernel_rfl)
def z89 (X:q5q):Con Sg:=conV ([.el C.ex]:LP) ([.el C.ex]:LV) ([.el C.ex]:LV) ([.same]:LV) (fun a K=>X a.1 (fun q0=>K (q0,()) ((),())))
def j5z:Nat→Option (Fx.Spec Sg):=q0c ([(91000007,⟨[0,1,4,8,9,10,11,12],[],[],[(.slot 5,.own 112 C.val),(.slot 13,.int IntKind.i64)]⟩),(55000007,⟨[0,1,4,8,9,10,11,12],[],[],[(.slot 5,.own 26 C.ex),(.slot 13,.int IntKind.i64)]⟩)]:LS)
def j50 (X_clone_Value:q2d):Ev Sg:=(E0.with 91 (z1a X_clone_Value))
theorem w8l (X_clone_Value:q2d) (X:q5q) (e:Ex) (K:Ex→Prop):z8a X_clone_Value X e K=fnV (((j50 X_clone_Value).with 56 (z89 X)).pl j5z) 4 56 ([.el C.ex]:LP) ([.el C.ex]:LP) ([.el C.ex]:LV) ([.el C.ex]:LV) ([.same]:LV) (e,()) (fun r _=>K r.1):=by kernel_rfl
theorem v7s:q0h Go.Proofs.Tryz.prog D 56 (z89 q7q):=by
 show q0h _ _ _ (conV ([.el C.ex]:LP) ([.el C.ex]:LV) ([.el C.ex]:LV) ([.same]:LV) fun a K=>q7q a.1 (fun q0=>K (q0,()) ((),())))
 refine z6s (E:=j50 q1n) (fuel:=4) (rk:=[.el C.ex]) (p:=j5z) (q0b h_E0 z2e z6g) j11 fun a K h X hX=> ?_
 exact h (fun e K=>X (e,()) fun r _=>K r.1) (fun e K hs=>hX (e,()) (fun r _=>K r.1) (Eq.mp (w8l q1n (fun e K=>X (e,()) fun r _=>K r.1) e K) hs))
theorem w1b:Ent Go.Proofs.Tryz.prog 29:=q0d (by kernel_rfl) (by kernel_rfl) (by kernel_rfl)
def j12 (X:q9y):Con Sg:=conV ([.el C.ex]:LP) ([.el C.ex]:LV) ([.vec 26 C.ex]:LV) ([.same]:LV) (fun a K=>X a.1 (fun q0=>K (q0,()) ((),())))
def w6b:Nat→Option (Fx.Spec Sg):=q0c ([(55000007,⟨[0,1,4,8,9,10,11,12],[1],[],[(.slot 5,.own 26 C.ex),(.slot 13,.int IntKind.i64)]⟩)]:LS)
def z9a (X_clause_atoms:q3o) (X_clone_Expr:q5q):Ev Sg:=((E0.with 55 (z3y X_clause_atoms)).with 56 (z89 X_clone_Expr))
theorem w1c (X_clause_atoms:q3o) (X_clone_Expr:q5q) (e:Ex) (K:List (Ex)→Prop):z3t X_clause_atoms X_clone_Expr e K=fnV ((z9a X_clause_atoms X_clone_Expr).pl w6b) 4 29 ([.el C.ex]:LP) ([.own 26 C.ex]:LP) ([.el C.ex]:LV) ([.vec 26 C.ex]:LV) ([.same]:LV) (e,()) (fun r _=>K r.1):=by kernel_rfl
theorem w8m:q0h Go.Proofs.Tryz.prog D 29 (j12 q6p):=q0e (E:=z9a q45 q7q) (q0b (q0b h_E0 z7c w8j) j11 v7s) fun a K=>w1c q45 q7q a.1 (fun q0=>K (q0,()) ((),()))
theorem q38:Ent Go.Proofs.Tryz.prog 30:=q0d (by kernel_rfl) (by kernel_rfl) (by kernel_rfl)
def q2s (X:q0w):Con Sg:=conV ([.own 9 C.str]:LP) ([.vec 9 C.str]:LV) ([]:LV) ([.vec 9 C.str]:LV) (fun a K=>X a.1 (fun q0=>K () (q0,())))
theorem q5h:q0h Go.Proofs.Tryz.prog D 30 (q2s q0p):=z06
theorem q8q:Ent Go.Proofs.Tryz.prog 31:=q0d (by kernel_rfl) (by kernel_rfl) (by kernel_rfl)
def q36 (X:q1o):Con Sg:=conV ([.own 9 C.str]:LP) ([.vec 9 C.str]:LV) ([.vec 9 C.str]:LV) ([.same]:LV) (fun a K=>X a.1 (fun q0=>K (q0,()) ((),())))
theorem q9o:q0h Go.Proofs.Tryz.prog D 31 (q36 q07):=q9h
theorem j51:Ent Go.Proofs.Tryz.prog 13:=q0d (by kernel_rfl) (by kernel_rfl) (by kernel_rfl)
def z7d (X:q6y):Con Sg:=conV ([.el C.ex]:LP) ([.el C.ex]:LV) ([.sl C.str]:LV) ([.same]:LV) (fun a K=>X a.1 (fun q0=>K (q0,()) ((),())))
def j8k:Nat→Option (Fx.Spec Sg):=q0c ([(7,⟨[0,1,2,6,7,8],[1,0],[],[(.slot 3,.own 9 C.str),(.slot 9,.int IntKind.i64)]⟩)]:LS)
def z40 (X_clause_Atoms:q9y) (X_slices_Sort_string_string_:q0w) (X_slices_Compact_string_string_:q1o):Ev Sg:=(((E0.with 29 (j12 X_clause_Atoms)).with 30 (q2s X_slices_Sort_string_string_)).with 31 (q36 X_slices_Compact_string_string_))
theorem j52 (X_clause_Atoms:q9y) (X_slices_Sort_string_string_:q0w) (X_slices_Compact_string_string_:q1o) (e:Ex) (K:List (ByteArray)→Prop):z0j X_clause_Atoms X_slices_Sort_string_string_ X_slices_Compact_string_string_ e K=fnV ((z40 X_clause_Atoms X_slices_Sort_string_string_ X_slices_Compact_string_string_).pl j8k) 4 13 ([.el C.ex]:LP) ([.sl C.str]:LP) ([.el C.ex]:LV) ([.sl C.str]:LV) ([.same]:LV) (e,()) (fun r _=>K r.1):=by kernel_rfl
theorem w1d:q0h Go.Proofs.Tryz.prog D 13 (z7d q3b):=q0e (E:=z40 q6p q0p q07) (q0b (q0b (q0b h_E0 w1b w8m) q38 q5h) q8q q9o) fun a K=>j52 q6p q0p q07 a.1 (fun q0=>K (q0,()) ((),()))
theorem w6c:Ent Go.Proofs.Tryz.prog 33:=q0d (by kernel_rfl) (by kernel_rfl) (by kernel_rfl)
def j53 (X:z00):Con Sg:=conV ([.sl C.str,.sl C.edge]:LP) ([.sl C.str,.sl C.edge]:LV) ([.vec 9 C.str,.int .i64]:LV) ([.same,.same]:LV) (fun a K=>X a.1 a.2.1 (fun q0 q1=>K (q0,q1,()) ((),(),())))
theorem v3m:q0h Go.Proofs.Tryz.prog D 33 (j53 P_graph_Order):=v11
theorem j8l:Ent Go.Proofs.Tryz.prog 15:=q0d (by kernel_rfl) (by kernel_rfl) (by kernel_rfl)
def z9b (X:q8e):Con Sg:=conV ([.sl C.seg]:LP) ([.sl C.seg]:LV) ([.vec 9 C.str,.int .i64]:LV) ([.same]:LV) (fun a K=>X a.1 (fun q0 q1=>K (q0,q1,()) ((),())))
def w1e:Nat→Option (Fx.Spec Sg):=q0c ([(9,⟨[0,2,3,10,11],[],[],[(.slot 4,.own 9 C.str),(.slot 5,.own 79 C.edge),(.slot 12,.int IntKind.i64)]⟩),(17,⟨[0,2,3,4,7,10,11,12,13,14,15,17,18,19,20,21,22,23,24],[6,5,3],[],[(.slot 5,.own 79 C.edge),(.slot 25,.int IntKind.i64)]⟩)]:LS)
def z7e (X_segment_Refers:q6y) (X_graph_Order:z00):Ev Sg:=((E0.with 13 (z7d X_segment_Refers)).with 33 (j53 X_graph_Order))
theorem j8m (X_segment_Refers:q6y) (X_graph_Order:z00) (l:List (Seg)) (K:List (ByteArray)→Int→Prop):z13 X_segment_Refers X_graph_Order l K=fnV ((z7e X_segment_Refers X_graph_Order).pl w1e) 4 15 ([.sl C.seg]:LP) ([.own 9 C.str,.v]:LP) ([.sl C.seg]:LV) ([.vec 9 C.str,.int .i64]:LV) ([.same]:LV) (l,()) (fun r _=>K r.1 r.2.1):=by kernel_rfl
theorem w6d:q0h Go.Proofs.Tryz.prog D 15 (z9b q32):=q0e (E:=z7e q3b P_graph_Order) (q0b (q0b h_E0 j51 w1d) w6c v3m) fun a K=>j8m q3b P_graph_Order a.1 (fun q0 q1=>K (q0,q1,()) ((),()))
theorem z41:Ent Go.Proofs.Tryz.prog 121:=q0d (by kernel_rfl) (by kernel_rfl) (by kernel_rfl)
def z2f (X:q23):Con Sg:=conV ([.el C.subj,.v]:LP) ([.el C.subj,.str]:LV) ([.int .i64]:LV) ([.same,.same]:LV) (fun a K=>X a.1 a.2.1 (fun q0=>K (q0,()) ((),(),())))
def w1f:Nat→Option (Fx.Spec Sg):=q0c ([(163000005,⟨[0,1,6,7],[1],[],[(.slot 8,.int IntKind.i64)]⟩)]:LS)
def z7f:Ev Sg:=E0
theorem j8n (s:Subj) (kind:ByteArray) (K:Int→Prop):q1u s kind K=fnV ((z7f).pl w1f) 4 121 ([.el C.subj,.v]:LP) ([.v]:LP) ([.el C.subj,.str]:LV) ([.int .i64]:LV) ([.same,.same]:LV) (s,kind,()) (fun r _=>K r.1):=by kernel_rfl
theorem z9c:q0h Go.Proofs.Tryz.prog D 121 (z2f q1u):=q0e (E:=z7f) h_E0 fun a K=>j8n a.1 a.2.1 (fun q0=>K (q0,()) ((),(),()))
end Go.En
end
noncomputable section
set_option maxRecDepth 100000
open Go Go.RowKit Go.Fl Go.Fl.Lk Go.Fx
namespace Go.En
theorem j3l:Ent Go.Proofs.Tryz.prog 165:=q0d (by kernel_rfl) (by kernel_rfl) (by kernel_rfl)
def z42 (X:q6b):Con Sg:=conV ([.el C.attr]:LP) ([.el C.attr]:LV) ([.el C.attr]:LV) ([.same]:LV) (fun a K=>X a.1 (fun q0=>K (q0,()) ((),())))
def j54:Nat→Option (Fx.Spec Sg):=q0c ([]:LS)
def z3g (X_clone_Value:q2d):Ev Sg:=(E0.with 91 (z1a X_clone_Value))
theorem j3m (X_clone_Value:q2d) (a:Attr) (K:Attr→Prop):q9c X_clone_Value a K=fnV ((z3g X_clone_Value).pl j54) 4 165 ([.el C.attr]:LP) ([.el C.attr]:LP) ([.el C.attr]:LV) ([.el C.attr]:LV) ([.same]:LV) (a,()) (fun r _=>K r.1):=by kernel_rfl
theorem j8o:q0h Go.Proofs.Tryz.prog D 165 (z42 q2w):=q0e (E:=z3g q1n) (q0b h_E0 z2e z6g) fun a K=>j3m q1n a.1 (fun q0=>K (q0,()) ((),()))
theorem j8p:Ent Go.Proofs.Tryz.prog 122:=q0d (by kernel_rfl) (by kernel_rfl) (by kernel_rfl)
def z9d (X:q8f):Con Sg:=conV ([.el C.ctx]:LP) ([.el C.ctx]:LV) ([.el C.ctx]:LV) ([.same]:LV) (fun a K=>X a.1 (fun q0=>K (q0,()) ((),())))
def w1g:Nat→Option (Fx.Spec Sg):=q0c ([(165000007,⟨[0,1,4,8,9,10,11,12],[],[],[(.slot 5,.own 157 C.attr),(.slot 13,.int IntKind.i64)]⟩)]:LS)
def z7g (X_clone_Attribute:q6b):Ev Sg:=(E0.with 165 (z42 X_clone_Attribute))
theorem j8q (X_clone_Attribute:q6b) (c:Ctxt) (K:Ctxt→Prop):z14 X_clone_Attribute c K=fnV ((z7g X_clone_Attribute).pl w1g) 4 122 ([.el C.ctx]:LP) ([.el C.ctx]:LP) ([.el C.ctx]:LV) ([.el C.ctx]:LV) ([.same]:LV) (c,()) (fun r _=>K r.1):=by kernel_rfl
theorem w6e:q0h Go.Proofs.Tryz.prog D 122 (z9d q33):=q0e (E:=z7g q2w) (q0b h_E0 j3l j8o) fun a K=>j8q q2w a.1 (fun q0=>K (q0,()) ((),()))
theorem w1h:Ent Go.Proofs.Tryz.prog 76:=q0d (by kernel_rfl) (by kernel_rfl) (by kernel_rfl)
def j13 (X:q9z):Con Sg:=conV ([.el C.subj,.v]:LP) ([.el C.subj,.str]:LV) ([.el C.ctx,.bool]:LV) ([.same,.same]:LV) (fun a K=>X a.1 a.2.1 (fun q0 q1=>K (q0,q1,()) ((),(),())))
def w6f:Nat→Option (Fx.Spec Sg):=q0c ([]:LS)
def z9e (X_subject_index:q23) (X_clone_Context:q8f):Ev Sg:=((E0.with 121 (z2f X_subject_index)).with 122 (z9d X_clone_Context))
theorem w1i (X_subject_index:q23) (X_clone_Context:q8f) (s:Subj) (kind:ByteArray) (K:Ctxt→Bool→Prop):z3u X_subject_index X_clone_Context s kind K=fnV ((z9e X_subject_index X_clone_Context).pl w6f) 4 76 ([.el C.subj,.v]:LP) ([.el C.ctx,.v]:LP) ([.el C.subj,.str]:LV) ([.el C.ctx,.bool]:LV) ([.same,.same]:LV) (s,kind,()) (fun r _=>K r.1 r.2.1):=by kernel_rfl
theorem w8n:q0h Go.Proofs.Tryz.prog D 76 (j13 q46):=q0e (E:=z9e q1u q33) (q0b (q0b h_E0 z41 z9c) j8p w6e) fun a K=>w1i q1u q33 a.1 a.2.1 (fun q0 q1=>K (q0,q1,()) ((),(),()))
theorem j55:Ent Go.Proofs.Tryz.prog 166:=q0d (by kernel_rfl) (by kernel_rfl) (by kernel_rfl)
def z7h (X:q6z):Con Sg:=conV ([.el C.subj,.v,.v]:LP) ([.el C.subj,.str,.str]:LV) ([.el C.val,.bool]:LV) ([.same,.same,.same]:LV) (fun a K=>X a.1 a.2.1 a.2.2.1 (fun q0 q1=>K (q0,q1,()) ((),(),(),())))
def j8r:Nat→Option (Fx.Spec Sg):=q0c ([(17,⟨[0,1,2,3,6,8,9,12,13,14,15,16,18,19,20,21,22,23,24,28,29,30],[2,0],[(1,(112,4))],[(.slot 31,.int IntKind.i64),(.cell 1 0,.int IntKind.i64),(.cell 1 1,.int IntKind.i64),(.cell 1 2,.str),(.cell 1 3,.sl C.str)]⟩)]:LS)
def z43 (X_subject_index:q23) (X_clone_Value:q2d):Ev Sg:=((E0.with 121 (z2f X_subject_index)).with 91 (z1a X_clone_Value))
theorem j56 (X_subject_index:q23) (X_clone_Value:q2d) (s:Subj) (kind:ByteArray) (name:ByteArray) (K:Val→Bool→Prop):z0k X_subject_index X_clone_Value s kind name K=fnV ((z43 X_subject_index X_clone_Value).pl j8r) 4 166 ([.el C.subj,.v,.v]:LP) ([.el C.val,.v]:LP) ([.el C.subj,.str,.str]:LV) ([.el C.val,.bool]:LV) ([.same,.same,.same]:LV) (s,kind,name,()) (fun r _=>K r.1 r.2.1):=by kernel_rfl
theorem w1j:q0h Go.Proofs.Tryz.prog D 166 (z7h q3c):=q0e (E:=z43 q1u q1n) (q0b (q0b h_E0 z41 z9c) z2e z6g) fun a K=>j56 q1u q1n a.1 a.2.1 a.2.2.1 (fun q0 q1=>K (q0,q1,()) ((),(),(),()))
theorem w6g:Ent Go.Proofs.Tryz.prog 169:=q0d (by kernel_rfl) (by kernel_rfl) (by kernel_rfl)
def j57 (X:z01):Con Sg:=conV ([.el C.val,.el C.val]:LP) ([.el C.val,.el C.val]:LV) ([.bool]:LV) ([.same,.same]:LV) (fun a K=>X a.1 a.2.1 (fun q0=>K (q0,()) ((),(),())))
def w8o:Nat→Option (Fx.Spec Sg):=q0c ([]:LS)
def j14 (X_slices_Equal_string_string_:q0v):Ev Sg:=(E0.with 178 (q2m X_slices_Equal_string_string_))
theorem w6h (X_slices_Equal_string_string_:q0v) (a:Val) (b:Val) (K:Bool→Prop):z5x X_slices_Equal_string_string_ a b K=fnV ((j14 X_slices_Equal_string_string_).pl w8o) 4 169 ([.el C.val,.el C.val]:LP) ([.v]:LP) ([.el C.val,.el C.val]:LV) ([.bool]:LV) ([.same,.same]:LV) (a,b,()) (fun r _=>K r.1):=by kernel_rfl
theorem v3n:q0h Go.Proofs.Tryz.prog D 169 (j57 q4j):=q0e (E:=j14 q0k) (q0b h_E0 q35 q4w) fun a K=>w6h q0k a.1 a.2.1 (fun q0=>K (q0,()) ((),(),()))
theorem q6q:Ent Go.Proofs.Tryz.prog 192:=q0d (by kernel_rfl) (by kernel_rfl) (by kernel_rfl)
def q4s (X:q1c):Con Sg:=conV ([.v,.v]:LP) ([.str,.str]:LV) ([.bool]:LV) ([.same,.same]:LV) (fun a K=>X a.1 a.2.1 (fun q0=>K (q0,()) ((),(),())))
def z44:Nat→Option (Fx.Spec Sg):=q0c ([]:LS)
def q7t:Ev Sg:=E0
theorem z3z (s:ByteArray) (prefix_:ByteArray) (K:Bool→Prop):q0s s prefix_ K=fnV ((q7t).pl z44) 4 192 ([.v,.v]:LP) ([.v]:LP) ([.str,.str]:LV) ([.bool]:LV) ([.same,.same]:LV) (s,prefix_,()) (fun r _=>K r.1):=by kernel_rfl
theorem q8r:q0h Go.Proofs.Tryz.prog D 192 (q4s q0s):=q0e (E:=q7t) h_E0 fun a K=>z3z a.1 a.2.1 (fun q0=>K (q0,()) ((),(),()))
theorem z9f:Ent Go.Proofs.Tryz.prog 170:=q0d (by kernel_rfl) (by kernel_rfl) (by kernel_rfl)
def z2g (X:q4k):Con Sg:=conV ([.v,.v]:LP) ([.str,.str]:LV) ([.bool]:LV) ([.same,.same]:LV) (fun a K=>X a.1 a.2.1 (fun q0=>K (q0,()) ((),(),())))
def j00:Nat→Option (Fx.Spec Sg):=q0c ([]:LS)
def z0o (X_stringslite_HasPrefix:q1c):Ev Sg:=(E0.with 192 (q4s X_stringslite_HasPrefix))
theorem z9g (X_stringslite_HasPrefix:q1c) (s:ByteArray) (prefix_:ByteArray) (K:Bool→Prop):q68 X_stringslite_HasPrefix s prefix_ K=fnV ((z0o X_stringslite_HasPrefix).pl j00) 4 170 ([.v,.v]:LP) ([.v]:LP) ([.str,.str]:LV) ([.bool]:LV) ([.same,.same]:LV) (s,prefix_,()) (fun r _=>K r.1):=by kernel_rfl
theorem j3n:q0h Go.Proofs.Tryz.prog D 170 (z2g q18):=q0e (E:=z0o q0s) (q0b h_E0 q6q q8r) fun a K=>z9g q0s a.1 a.2.1 (fun q0=>K (q0,()) ((),(),()))
theorem z30:Ent Go.Proofs.Tryz.prog 193:=q0d (by kernel_rfl) (by kernel_rfl) (by kernel_rfl)
def q8s (X:q2p):Con Sg:=conV ([.v,.v]:LP) ([.str,.str]:LV) ([.bool]:LV) ([.same,.same]:LV) (fun a K=>X a.1 a.2.1 (fun q0=>K (q0,()) ((),(),())))
def z45:Nat→Option (Fx.Spec Sg):=q0c ([]:LS)
def q7u:Ev Sg:=E0
theorem z32 (s:ByteArray) (suffix:ByteArray) (K:Bool→Prop):q1p s suffix K=fnV ((q7u).pl z45) 4 193 ([.v,.v]:LP) ([.v]:LP) ([.str,.str]:LV) ([.bool]:LV) ([.same,.same]:LV) (s,suffix,()) (fun r _=>K r.1):=by kernel_rfl
theorem z6h:q0h Go.Proofs.Tryz.prog D 193 (q8s q1p):=q0e (E:=q7u) h_E0 fun a K=>z32 a.1 a.2.1 (fun q0=>K (q0,()) ((),(),()))
theorem z9h:Ent Go.Proofs.Tryz.prog 171:=q0d (by kernel_rfl) (by kernel_rfl) (by kernel_rfl)
def z2h (X:q4l):Con Sg:=conV ([.v,.v]:LP) ([.str,.str]:LV) ([.bool]:LV) ([.same,.same]:LV) (fun a K=>X a.1 a.2.1 (fun q0=>K (q0,()) ((),(),())))
def j01:Nat→Option (Fx.Spec Sg):=q0c ([]:LS)
def z0p (X_stringslite_HasSuffix:q2p):Ev Sg:=(E0.with 193 (q8s X_stringslite_HasSuffix))
theorem z9i (X_stringslite_HasSuffix:q2p) (s:ByteArray) (suffix:ByteArray) (K:Bool→Prop):q69 X_stringslite_HasSuffix s suffix K=fnV ((z0p X_stringslite_HasSuffix).pl j01) 4 171 ([.v,.v]:LP) ([.v]:LP) ([.str,.str]:LV) ([.bool]:LV) ([.same,.same]:LV) (s,suffix,()) (fun r _=>K r.1):=by kernel_rfl
theorem j3o:q0h Go.Proofs.Tryz.prog D 171 (z2h q19):=q0e (E:=z0p q1p) (q0b h_E0 z30 z6h) fun a K=>z9i q1p a.1 a.2.1 (fun q0=>K (q0,()) ((),(),()))
theorem j02:Ent Go.Proofs.Tryz.prog 172:=q0d (by kernel_rfl) (by kernel_rfl) (by kernel_rfl)
def z3h (X:q5c):Con Sg:=conV ([.v,.v]:LP) ([.str,.str]:LV) ([.bool]:LV) ([.same,.same]:LV) (fun a K=>X a.1 a.2.1 (fun q0=>K (q0,()) ((),(),())))
theorem j58:q0h Go.Proofs.Tryz.prog D 172 (z3h q3j):=j4u
theorem w6i:Ent Go.Proofs.Tryz.prog 218:=q0d (by kernel_rfl) (by kernel_rfl) (by kernel_rfl)
def j59 (X:z02):Con Sg:=conV ([.el C.val]:LP) ([.el C.val]:LV) ([.bool]:LV) ([.same]:LV) (fun a K=>X a.1 (fun q0=>K (q0,()) ((),())))
def w8p:Nat→Option (Fx.Spec Sg):=q0c ([(8,⟨[0,1,2,3,4],[0],[],[(.slot 5,.bool)]⟩),(14,⟨[0,1,2,3,4,5],[0],[],[(.slot 17,.bool)]⟩)]:LS)
def j15:Ev Sg:=E0
theorem w6j (v:Val) (K:Bool→Prop):q4m v K=fnV ((j15).pl w8p) 4 218 ([.el C.val]:LP) ([.v]:LP) ([.el C.val]:LV) ([.bool]:LV) ([.same]:LV) (v,()) (fun r _=>K r.1):=by kernel_rfl
theorem v3o:q0h Go.Proofs.Tryz.prog D 218 (j59 q4m):=q0e (E:=j15) h_E0 fun a K=>w6j a.1 (fun q0=>K (q0,()) ((),()))
theorem w8q:Ent Go.Proofs.Tryz.prog 219:=q0d (by kernel_rfl) (by kernel_rfl) (by kernel_rfl)
def j95 (X:z2z):Con Sg:=conV ([.v]:LP) ([.str]:LV) ([.bool]:LV) ([.same]:LV) (fun a K=>X a.1 (fun q0=>K (q0,()) ((),())))
def v3p:Nat→Option (Fx.Spec Sg):=q0c ([(9,⟨[0,5,6,7,8,9,10,11,12,13,14],[],[],[(.obj 0,.siter)]⟩)]:LS)
def j6a (X_utf8_ValidString:q12):Ev Sg:=(E0.with 200 (q8o X_utf8_ValidString))
theorem w8r (X_utf8_ValidString:q12) (s:ByteArray) (K:Bool→Prop):z8b X_utf8_ValidString s K=fnV ((j6a X_utf8_ValidString).pl v3p) 4 219 ([.v]:LP) ([.v]:LP) ([.str]:LV) ([.bool]:LV) ([.same]:LV) (s,()) (fun r _=>K r.1):=by kernel_rfl
theorem v7t:q0h Go.Proofs.Tryz.prog D 219 (j95 q7r):=q0e (E:=j6a q1g) (q0b h_E0 z0n z3d) fun a K=>w8r q1g a.1 (fun q0=>K (q0,()) ((),()))
end Go.En
end
noncomputable section
set_option maxRecDepth 100000
open Go Go.RowKit Go.Fl Go.Fl.Lk Go.Fx
namespace Go.En
theorem j8s:Ent Go.Proofs.Tryz.prog 221:=q0d (by kernel_rfl) (by kernel_rfl) (by kernel_rfl)
def z9j (X:q8g):Con Sg:=conV ([.v,.v]:LP) ([.str,.str]:LV) ([.vec 9 C.str]:LV) ([.same,.same]:LV) (fun a K=>X a.1 a.2.1 (fun q0=>K (q0,()) ((),(),())))
theorem w6k:q0h Go.Proofs.Tryz.prog D 221 (z9j q5r):=w4f
theorem z33:Ent Go.Proofs.Tryz.prog 237:=q0d (by kernel_rfl) (by kernel_rfl) (by kernel_rfl)
def q8t (X:q2q):Con Sg:=conV ([.v,.v]:LP) ([.str,.str]:LV) ([.str,.bool]:LV) ([.same,.same]:LV) (fun a K=>X a.1 a.2.1 (fun q0 q1=>K (q0,q1,()) ((),(),())))
def z47:Nat→Option (Fx.Spec Sg):=q0c ([]:LS)
def q7v (X_stringslite_HasPrefix:q1c):Ev Sg:=(E0.with 192 (q4s X_stringslite_HasPrefix))
theorem z34 (X_stringslite_HasPrefix:q1c) (s:ByteArray) (prefix_:ByteArray) (K:ByteArray→Bool→Prop):q4n X_stringslite_HasPrefix s prefix_ K=fnV ((q7v X_stringslite_HasPrefix).pl z47) 4 237 ([.v,.v]:LP) ([.v,.v]:LP) ([.str,.str]:LV) ([.str,.bool]:LV) ([.same,.same]:LV) (s,prefix_,()) (fun r _=>K r.1 r.2.1):=by kernel_rfl
theorem z6i:q0h Go.Proofs.Tryz.prog D 237 (q8t q13):=q0e (E:=q7v q0s) (q0b h_E0 q6q q8r) fun a K=>z34 q0s a.1 a.2.1 (fun q0 q1=>K (q0,q1,()) ((),(),()))
theorem z9k:Ent Go.Proofs.Tryz.prog 230:=q0d (by kernel_rfl) (by kernel_rfl) (by kernel_rfl)
def z2i (X:q4o):Con Sg:=conV ([.v,.v]:LP) ([.str,.str]:LV) ([.str,.bool]:LV) ([.same,.same]:LV) (fun a K=>X a.1 a.2.1 (fun q0 q1=>K (q0,q1,()) ((),(),())))
def j03:Nat→Option (Fx.Spec Sg):=q0c ([]:LS)
def z0q (X_stringslite_CutPrefix:q2q):Ev Sg:=(E0.with 237 (q8t X_stringslite_CutPrefix))
theorem z9l (X_stringslite_CutPrefix:q2q) (s:ByteArray) (prefix_:ByteArray) (K:ByteArray→Bool→Prop):q7a X_stringslite_CutPrefix s prefix_ K=fnV ((z0q X_stringslite_CutPrefix).pl j03) 4 230 ([.v,.v]:LP) ([.v,.v]:LP) ([.str,.str]:LV) ([.str,.bool]:LV) ([.same,.same]:LV) (s,prefix_,()) (fun r _=>K r.1 r.2.1):=by kernel_rfl
theorem j3p:q0h Go.Proofs.Tryz.prog D 230 (z2i q2a):=q0e (E:=z0q q13) (q0b h_E0 z33 z6i) fun a K=>z9l q13 a.1 a.2.1 (fun q0 q1=>K (q0,q1,()) ((),(),()))
theorem w1k:Ent Go.Proofs.Tryz.prog 231:=q0d (by kernel_rfl) (by kernel_rfl) (by kernel_rfl)
def j16 (X:q90):Con Sg:=conV ([.v]:LP) ([.str]:LV) ([.int .i64,.ifc]:LV) ([.same]:LV) (fun a K=>X a.1 (fun q0 q1=>K (q0,q1,()) ((),())))
theorem w8s:q0h Go.Proofs.Tryz.prog D 231 (j16 q47):=w7q
theorem j04:Ent Go.Proofs.Tryz.prog 222:=q0d (by kernel_rfl) (by kernel_rfl) (by kernel_rfl)
def z3i (X:q5d):Con Sg:=conV ([.v]:LP) ([.str]:LV) ([.int .i64,.int .i64]:LV) ([.same]:LV) (fun a K=>X a.1 (fun q0 q1=>K (q0,q1,()) ((),())))
def j3q:Nat→Option (Fx.Spec Sg):=q0c ([(11,⟨[0,4,5,10,11,12,13,14,15,16,17,18,19,20,21,22,23,24,25,26,27,28,29,30,31],[],[],[(.obj 0,.siter)]⟩)]:LS)
def z2j (X_strings_CutPrefix:q4o) (X_strconv_Atoi:q90):Ev Sg:=((E0.with 230 (z2i X_strings_CutPrefix)).with 231 (j16 X_strconv_Atoi))
theorem j05 (X_strings_CutPrefix:q4o) (X_strconv_Atoi:q90) (s:ByteArray) (K:Int→Int→Prop):q8h X_strings_CutPrefix X_strconv_Atoi s K=fnV ((z2j X_strings_CutPrefix X_strconv_Atoi).pl j3q) 4 222 ([.v]:LP) ([.v,.v]:LP) ([.str]:LV) ([.int .i64,.int .i64]:LV) ([.same]:LV) (s,()) (fun r _=>K r.1 r.2.1):=by kernel_rfl
theorem j6b:q0h Go.Proofs.Tryz.prog D 222 (z3i q2g):=q0e (E:=z2j q2a q47) (q0b (q0b h_E0 z9k j3p) w1k w8s) fun a K=>j05 q2a q47 a.1 (fun q0 q1=>K (q0,q1,()) ((),()))
theorem z9m:Ent Go.Proofs.Tryz.prog 198:=q0d (by kernel_rfl) (by kernel_rfl) (by kernel_rfl)
def z6j (X:q4p):Con Sg:=conV ([.v]:LP) ([.str]:LV) ([.el C.a3,.bool]:LV) ([.same]:LV) (fun a K=>X a.1 (fun q0 q1=>K (q0,q1,()) ((),())))
def w8t:Nat→Option (Fx.Spec Sg):=q0c ([(13,⟨[0,2,4,5,10,11,12,13,14,16,17],[2],[(1,(214,3)),(0,(214,3))],[(.slot 18,.int IntKind.i64),(.cell 1 0,.int IntKind.i64),(.cell 1 1,.int IntKind.i64),(.cell 1 2,.int IntKind.i64),(.cell 0 0,.int IntKind.i64),(.cell 0 1,.int IntKind.i64),(.cell 0 2,.int IntKind.i64)]⟩)]:LS)
def j17 (X_strings_Split:q8g) (X_text_ParseNumber:q5d):Ev Sg:=((E0.with 221 (z9j X_strings_Split)).with 222 (z3i X_text_ParseNumber))
theorem w6l (X_strings_Split:q8g) (X_text_ParseNumber:q5d) (s:ByteArray) (K:A3→Bool→Prop):z5y X_strings_Split X_text_ParseNumber s K=fnV ((j17 X_strings_Split X_text_ParseNumber).pl w8t) 4 198 ([.v]:LP) ([.el C.a3,.v]:LP) ([.str]:LV) ([.el C.a3,.bool]:LV) ([.same]:LV) (s,()) (fun r _=>K r.1 r.2.1):=by kernel_rfl
theorem j6c:q0h Go.Proofs.Tryz.prog D 198 (z6j q2r):=q0e (E:=j17 q5r q2g) (q0b (q0b h_E0 j8s w6k) j04 j6b) fun a K=>w6l q5r q2g a.1 (fun q0 q1=>K (q0,q1,()) ((),()))
theorem w6m:Ent Go.Proofs.Tryz.prog 195:=q0d (by kernel_rfl) (by kernel_rfl) (by kernel_rfl)
def j6d (X:z03):Con Sg:=conV ([.el C.val]:LP) ([.el C.val]:LV) ([.int .i64]:LV) ([.same]:LV) (fun a K=>X a.1 (fun q0=>K (q0,()) ((),())))
def w8u:Nat→Option (Fx.Spec Sg):=q0c ([(47,⟨[0,1,8,9,10,11,12,13,14,15,16,17,18,19,20,21,22,31,32,41,42,47,48,57,58,59,60,61,62,63,64,65],[0],[],[(.slot 66,.int IntKind.i64)]⟩),(59,⟨[0,1,8,9,10,11,12,13,14,15,16,17,18,19,20,21,22,31,32,41,42,47,48,57,58,59,60,61,62,63,64,65,66,67,74,75,76],[0],[],[(.slot 77,.int IntKind.i64)]⟩)]:LS)
def j18 (X_value_shape:z02) (X_text_Valid:z2z) (X_value_parts:q4p):Ev Sg:=(((E0.with 218 (j59 X_value_shape)).with 219 (j95 X_text_Valid)).with 198 (z6j X_value_parts))
theorem w6n (X_value_shape:z02) (X_text_Valid:z2z) (X_value_parts:q4p) (v:Val) (K:Int→Prop):z5z X_value_shape X_text_Valid X_value_parts v K=fnV ((j18 X_value_shape X_text_Valid X_value_parts).pl w8u) 4 195 ([.el C.val]:LP) ([.v]:LP) ([.el C.val]:LV) ([.int .i64]:LV) ([.same]:LV) (v,()) (fun r _=>K r.1):=by kernel_rfl
theorem v3q:q0h Go.Proofs.Tryz.prog D 195 (j6d q6c):=q0e (E:=j18 q4m q7r q2r) (q0b (q0b (q0b h_E0 w6i v3o) w8q v7t) z9m j6c) fun a K=>w6n q4m q7r q2r a.1 (fun q0=>K (q0,()) ((),()))
theorem j8t:Ent Go.Proofs.Tryz.prog 173:=q0d (by kernel_rfl) (by kernel_rfl) (by kernel_rfl)
def z9n (X:q8i):Con Sg:=conV ([.el C.val,.el C.val]:LP) ([.el C.val,.el C.val]:LV) ([.int .i64,.int .i64]:LV) ([.same,.same]:LV) (fun a K=>X a.1 a.2.1 (fun q0 q1=>K (q0,q1,()) ((),(),())))
def w1l:Nat→Option (Fx.Spec Sg):=q0c ([(200000005,⟨[0,1,9,10],[],[],[(.slot 11,.int IntKind.i64)]⟩)]:LS)
def z7i (X_value_Check:z03) (X_value_parts:q4p):Ev Sg:=((E0.with 195 (j6d X_value_Check)).with 198 (z6j X_value_parts))
theorem j8u (X_value_Check:z03) (X_value_parts:q4p) (a:Val) (b:Val) (K:Int→Int→Prop):z15 X_value_Check X_value_parts a b K=fnV ((z7i X_value_Check X_value_parts).pl w1l) 4 173 ([.el C.val,.el C.val]:LP) ([.v,.v]:LP) ([.el C.val,.el C.val]:LV) ([.int .i64,.int .i64]:LV) ([.same,.same]:LV) (a,b,()) (fun r _=>K r.1 r.2.1):=by kernel_rfl
theorem w6o:q0h Go.Proofs.Tryz.prog D 173 (z9n q24):=q0e (E:=z7i q6c q2r) (q0b (q0b h_E0 w6m v3q) z9m j6c) fun a K=>j8u q6c q2r a.1 a.2.1 (fun q0 q1=>K (q0,q1,()) ((),(),()))
theorem w6p:Ent Go.Proofs.Tryz.prog 125:=q0d (by kernel_rfl) (by kernel_rfl) (by kernel_rfl)
def j6e (X:z04):Con Sg:=conV ([.el C.subj,.el C.ex]:LP) ([.el C.subj,.el C.ex]:LV) ([.bool]:LV) ([.same,.same]:LV) (fun a K=>X a.1 a.2.1 (fun q0=>K (q0,()) ((),(),())))
def w8v:Nat→Option (Fx.Spec Sg):=q0c ([(192000005,⟨[0,1,6,7],[2],[],[(.slot 8,.int IntKind.i64)]⟩),(80000005,⟨[0,1,6,7],[],[],[(.slot 8,.int IntKind.i64)]⟩)]:LS)
def j19 (X_subject_Lookup:q6z) (X_clause_test:q4i) (X_value_Equal:z01) (X_strings_HasPrefix:q4k) (X_strings_HasSuffix:q4l) (X_strings_Contains:q5c) (X_value_Compare:q8i):Ev Sg:=(((((((E0.with 166 (z7h X_subject_Lookup)).with 86 (z6f X_clause_test)).with 169 (j57 X_value_Equal)).with 170 (z2g X_strings_HasPrefix)).with 171 (z2h X_strings_HasSuffix)).with 172 (z3h X_strings_Contains)).with 173 (z9n X_value_Compare))
theorem w6q (X_subject_Lookup:q6z) (X_clause_test:q4i) (X_value_Equal:z01) (X_strings_HasPrefix:q4k) (X_strings_HasSuffix:q4l) (X_strings_Contains:q5c) (X_value_Compare:q8i) (s:Subj) (e:Ex) (K:Bool→Prop):z50 X_subject_Lookup X_clause_test X_value_Equal X_strings_HasPrefix X_strings_HasSuffix X_strings_Contains X_value_Compare s e K=fnV ((j19 X_subject_Lookup X_clause_test X_value_Equal X_strings_HasPrefix X_strings_HasSuffix X_strings_Contains X_value_Compare).pl w8v) 4 125 ([.el C.subj,.el C.ex]:LP) ([.v]:LP) ([.el C.subj,.el C.ex]:LV) ([.bool]:LV) ([.same,.same]:LV) (s,e,()) (fun r _=>K r.1):=by kernel_rfl
theorem v3r:q0h Go.Proofs.Tryz.prog D 125 (j6e q6d):=q0e (E:=j19 q3c q2c q4j q18 q19 q3j q24) (q0b (q0b (q0b (q0b (q0b (q0b (q0b h_E0 j55 w1j) z86 j5w) w6g v3n) z9f j3n) z9h j3o) j02 j58) j8t w6o) fun a K=>w6q q3c q2c q4j q18 q19 q3j q24 a.1 a.2.1 (fun q0=>K (q0,()) ((),(),()))
theorem z9o:Ent Go.Proofs.Tryz.prog 77:=q0d (by kernel_rfl) (by kernel_rfl) (by kernel_rfl)
def z6k (X:q4q):Con Sg:=conV ([.el C.subj,.sl C.str,.el C.ex]:LP) ([.el C.subj,.sl C.str,.el C.ex]:LV) ([.bool]:LV) ([.same,.same,.same]:LV) (fun a K=>X a.1 a.2.1 a.2.2.1 (fun q0=>K (q0,()) ((),(),(),())))
def j2a:Nat→Option (Fx.Spec Sg):=q0c ([(130000005,⟨[0,1,6,7],[1,0],[],[(.slot 8,.int IntKind.i64)]⟩),(80000005,⟨[0,1,6,7],[],[],[(.slot 8,.int IntKind.i64)]⟩)]:LS)
def j2b (X_clause_Test:z04):Ev Sg:=(E0.with 125 (j6e X_clause_Test))
theorem w6r (X_clause_Test:z04) (X:q4q) (s:Subj) (in_:List (ByteArray)) (e:Ex) (K:Bool→Prop):z52 X_clause_Test X s in_ e K=fnV (((j2b X_clause_Test).with 77 (z6k X)).pl j2a) 4 77 ([.el C.subj,.sl C.str,.el C.ex]:LP) ([.v]:LP) ([.el C.subj,.sl C.str,.el C.ex]:LV) ([.bool]:LV) ([.same,.same,.same]:LV) (s,in_,e,()) (fun r _=>K r.1):=by kernel_rfl
theorem v3s:q0h Go.Proofs.Tryz.prog D 77 (z6k q6e):=by
 show q0h _ _ _ (conV ([.el C.subj,.sl C.str,.el C.ex]:LP) ([.el C.subj,.sl C.str,.el C.ex]:LV) ([.bool]:LV) ([.same,.same,.same]:LV) fun a K=>q6e a.1 a.2.1 a.2.2.1 (fun q0=>K (q0,()) ((),(),(),())))
 refine z6s (E:=j2b q6d) (fuel:=4) (rk:=[.v]) (p:=j2a) (q0b h_E0 w6p v3r) z9o fun a K h X hX=> ?_
 exact h (fun s in_ e K=>X (s,in_,e,()) fun r _=>K r.1) (fun s in_ e K hs=>hX (s,in_,e,()) (fun r _=>K r.1) (Eq.mp (w6r q6d (fun s in_ e K=>X (s,in_,e,()) fun r _=>K r.1) s in_ e K) hs))
theorem j06:Ent Go.Proofs.Tryz.prog 47:=q0d (by kernel_rfl) (by kernel_rfl) (by kernel_rfl)
def z3j (X:q5e):Con Sg:=conV ([.el C.seg,.el C.subj,.sl C.str]:LP) ([.el C.seg,.el C.subj,.sl C.str]:LV) ([.bool]:LV) ([.same,.same,.same]:LV) (fun a K=>X a.1 a.2.1 a.2.2.1 (fun q0=>K (q0,()) ((),(),(),())))
def j3r:Nat→Option (Fx.Spec Sg):=q0c ([(80000005,⟨[0,1,6,7],[],[],[(.slot 8,.int IntKind.i64)]⟩)]:LS)
def z2k (X_subject_Find:q9z) (X_clause_Eval:q4q):Ev Sg:=((E0.with 76 (j13 X_subject_Find)).with 77 (z6k X_clause_Eval))
theorem j07 (X_subject_Find:q9z) (X_clause_Eval:q4q) (g:Seg) (s:Subj) (in_:List (ByteArray)) (K:Bool→Prop):q8j X_subject_Find X_clause_Eval g s in_ K=fnV ((z2k X_subject_Find X_clause_Eval).pl j3r) 4 47 ([.el C.seg,.el C.subj,.sl C.str]:LP) ([.v]:LP) ([.el C.seg,.el C.subj,.sl C.str]:LV) ([.bool]:LV) ([.same,.same,.same]:LV) (g,s,in_,()) (fun r _=>K r.1):=by kernel_rfl
theorem j6f:q0h Go.Proofs.Tryz.prog D 47 (z3j q2h):=q0e (E:=z2k q46 q6e) (q0b (q0b h_E0 w1h w8n) z9o v3s) fun a K=>j07 q46 q6e a.1 a.2.1 a.2.2.1 (fun q0=>K (q0,()) ((),(),(),()))
theorem q7d:Ent Go.Proofs.Tryz.prog 19:=q0d (by kernel_rfl) (by kernel_rfl) (by kernel_rfl)
def q6h (X:q1e):Con Sg:=conV ([.sl C.seg,.el C.subj]:LP) ([.sl C.seg,.el C.subj]:LV) ([.vec 9 C.str]:LV) ([.same,.same]:LV) (fun a K=>X a.1 a.2.1 (fun q0=>K (q0,()) ((),(),())))
def j6g:Nat→Option (Fx.Spec Sg):=q0c ([(13,⟨[0,1,3,4,5,6,7,13,14,15,16,17,18,19,20,21,22],[1,0],[],[(.slot 23,.int IntKind.i64),(.obj 2,.map C.str C.seg)]⟩),(25,⟨[0,1,3,4,5,6,7,13,14,15,16,17,18,19,20,21,22,23,24,32,33],[2,1,0],[],[(.slot 10,.own 9 C.str),(.slot 34,.int IntKind.i64)]⟩)]:LS)
def z3k (X_segment_Order:q8e) (X_segment_contains:q5e) (X_slices_Sort_string_string_:q0w):Ev Sg:=(((E0.with 15 (z9b X_segment_Order)).with 47 (z3j X_segment_contains)).with 30 (q2s X_slices_Sort_string_string_))
theorem j3s (X_segment_Order:q8e) (X_segment_contains:q5e) (X_slices_Sort_string_string_:q0w) (l:List (Seg)) (s:Subj) (K:List (ByteArray)→Prop):q9d X_segment_Order X_segment_contains X_slices_Sort_string_string_ l s K=fnV ((z3k X_segment_Order X_segment_contains X_slices_Sort_string_string_).pl j6g) 4 19 ([.sl C.seg,.el C.subj]:LP) ([.own 9 C.str]:LP) ([.sl C.seg,.el C.subj]:LV) ([.vec 9 C.str]:LV) ([.same,.same]:LV) (l,s,()) (fun r _=>K r.1):=by kernel_rfl
theorem q9p:q0h Go.Proofs.Tryz.prog D 19 (q6h q01):=q0e (E:=z3k q32 q2h q0p) (q0b (q0b (q0b h_E0 j8l w6d) j06 j6f) q38 q5h) fun a K=>j3s q32 q2h q0p a.1 a.2.1 (fun q0=>K (q0,()) ((),(),()))
end Go.En
end
noncomputable section
set_option maxRecDepth 100000
open Go Go.RowKit Go.Fl Go.Fl.Lk Go.Fx
namespace Go.En
theorem j08:Ent Go.Proofs.Tryz.prog 21:=q0d (by kernel_rfl) (by kernel_rfl) (by kernel_rfl)
def z3l (X:q5f):Con Sg:=conV ([.sl C.seg,.el C.subj,.v]:LP) ([.sl C.seg,.el C.subj,.str]:LV) ([.bool]:LV) ([.same,.same,.same]:LV) (fun a K=>X a.1 a.2.1 a.2.2.1 (fun q0=>K (q0,()) ((),(),(),())))
def j3t:Nat→Option (Fx.Spec Sg):=q0c ([(80000005,⟨[0,1,6,7],[1],[],[(.slot 8,.int IntKind.i64)]⟩)]:LS)
def z2l (X_segment_Members:q1e):Ev Sg:=(E0.with 19 (q6h X_segment_Members))
theorem j09 (X_segment_Members:q1e) (l:List (Seg)) (s:Subj) (key:ByteArray) (K:Bool→Prop):q8k X_segment_Members l s key K=fnV ((z2l X_segment_Members).pl j3t) 4 21 ([.sl C.seg,.el C.subj,.v]:LP) ([.v]:LP) ([.sl C.seg,.el C.subj,.str]:LV) ([.bool]:LV) ([.same,.same,.same]:LV) (l,s,key,()) (fun r _=>K r.1):=by kernel_rfl
theorem j6h:q0h Go.Proofs.Tryz.prog D 21 (z3l q2i):=q0e (E:=z2l q01) (q0b h_E0 q7d q9p) fun a K=>j09 q01 a.1 a.2.1 a.2.2.1 (fun q0=>K (q0,()) ((),(),(),()))
theorem w6s:Ent Go.Proofs.Tryz.prog 8:=q0d (by kernel_rfl) (by kernel_rfl) (by kernel_rfl)
def j6i (X:z05):Con Sg:=conV ([]:LP) ([]:LV) ([.bool]:LV) ([]:LV) (fun _ K=>X (fun q0=>K (q0,()) ()))
def w8w:Nat→Option (Fx.Spec Sg):=q0c ([]:LS)
def j2c (X_segment_Contains:q5f) (X_segment_Members:q1e):Ev Sg:=((E0.with 21 (z3l X_segment_Contains)).with 19 (q6h X_segment_Members))
theorem w6t (X_segment_Contains:q5f) (X_segment_Members:q1e) (K:Bool→Prop):z54 X_segment_Contains X_segment_Members K=fnV ((j2c X_segment_Contains X_segment_Members).pl w8w) 4 8 ([]:LP) ([.v]:LP) ([]:LV) ([.bool]:LV) ([]:LV) () (fun r _=>K r.1):=by kernel_rfl
theorem v3t:q0h Go.Proofs.Tryz.prog D 8 (j6i q6f):=q0e (E:=j2c q2i q01) (q0b (q0b h_E0 j08 j6h) q7d q9p) fun _ K=>w6t q2i q01 (fun q0=>K (q0,()) ())
theorem y96:Ent Go.Proofs.Tryz.prog 9:=q0d (by kernel_rfl) (by kernel_rfl) (by kernel_rfl)
def y97 (X:v1x):Con Sg:=conV ([.sl C.u8,.v]:LP) ([.sl C.u8,.int .i64]:LV) ([.ptr 71 [.sl C.u8,.int .i64]]:LV) ([.same,.same]:LV) (fun a K=>X a.1 a.2.1 (fun q0 q1=>K ((q0,q1,()),()) ((),(),())))
def u27:Nat→Option (Fx.Spec Sg):=q0c ([(6,⟨[1,4],[],[],[(.slot 0,.sl C.u8)]⟩)]:LS)
def y3q:Ev Sg:=E0
theorem y98 (list_:List (Int)) (most:Int) (K:List (Int)→Int→Prop):j23 list_ most K=fnV ((y3q).pl u27) 4 9 ([.sl C.u8,.v]:LP) ([.ptr 71 [.c,.v]]:LP) ([.sl C.u8,.int .i64]:LV) ([.ptr 71 [.sl C.u8,.int .i64]]:LV) ([.same,.same]:LV) (list_,most,()) (fun r _=>K r.1.1 r.1.2.1):=by kernel_rfl
theorem u58:q0h Go.Proofs.Tryz.prog D 9 (y97 j23):=q0e (E:=y3q) h_E0 fun a K=>y98 a.1 a.2.1 (fun q0 q1=>K ((q0,q1,()),()) ((),(),()))
theorem v3u:Ent Go.Proofs.Tryz.prog 46:=q0d (by kernel_rfl) (by kernel_rfl) (by kernel_rfl)
def w6u (X:z55):Con Sg:=conV ([.ptr 71 [.c,.v],.v]:LP) ([.ptr 71 [.sl C.u8,.int .i64],.str]:LV) ([.el C.ctx]:LV) ([.ptr 71 [.same,.int .i64],.same]:LV) (fun a K=>X a.1.1 a.1.2.1 a.2.1 (fun q0 q1=>K (q0,()) (((),q1,()),(),())))
def v7u:Nat→Option (Fx.Spec Sg):=q0c ([(9,⟨[0,1,4,5,6,8,9,10,11,12],[4,1],[(2,(63,3)),(0,(71,2))],[(.slot 7,.int IntKind.i64),(.cell 2 2,.own 157 C.attr),(.cell 0 1,.int IntKind.i64)]⟩)]:LS)
def j96 (X_d_Key:j2p) (X_d_Declared:q1x) (X_d_Next:q0r) (X_d_Value:q6m):Ev Sg:=((((E0.with 52 (v96 X_d_Key)).with 37 (q98 X_d_Declared)).with 10 (q4r X_d_Next)).with 53 (j4x X_d_Value))
theorem v3v (X_d_Key:j2p) (X_d_Declared:q1x) (X_d_Next:q0r) (X_d_Value:q6m) (list:List (Int)) (at_:Int) (kind:ByteArray) (K:Ctxt→Int→Prop):j24 X_d_Key X_d_Declared X_d_Next X_d_Value list at_ kind K=fnV ((j96 X_d_Key X_d_Declared X_d_Next X_d_Value).pl v7u) 4 46 ([.ptr 71 [.c,.v],.v]:LP) ([.el C.ctx]:LP) ([.ptr 71 [.sl C.u8,.int .i64],.str]:LV) ([.el C.ctx]:LV) ([.ptr 71 [.same,.int .i64],.same]:LV) ((list,at_,()),kind,()) (fun r o=>K r.1 o.1.2.1):=by kernel_rfl
theorem y1o:q0h Go.Proofs.Tryz.prog D 46 (w6u q7b):=q0e (E:=j96 z5i q09 q0o q3f) (q0b (q0b (q0b (q0b h_E0 v5v y9r) q91 z25) q2j q5g) j28 w4g) fun a K=>v3v z5i q09 q0o q3f a.1.1 a.1.2.1 a.2.1 (fun q0 q1=>K (q0,()) (((),q1,()),(),()))
theorem v3w:Ent Go.Proofs.Tryz.prog 18:=q0d (by kernel_rfl) (by kernel_rfl) (by kernel_rfl)
def w6v (X:z56):Con Sg:=conV ([.ptr 71 [.c,.v]]:LP) ([.ptr 71 [.sl C.u8,.int .i64]]:LV) ([.el C.subj]:LV) ([.ptr 71 [.same,.int .i64]]:LV) (fun a K=>X a.1.1 a.1.2.1 (fun q0 q1=>K (q0,()) (((),q1,()),())))
def v7v:Nat→Option (Fx.Spec Sg):=q0c ([(10,⟨[0,2,3,4,5,6],[1],[(0,(71,2)),(2,(44,1))],[(.cell 0 1,.int IntKind.i64),(.cell 2 0,.own 63 C.ctx)]⟩)]:LS)
def j97 (X_d_Next:q0r) (X_d_context:z55):Ev Sg:=((E0.with 10 (q4r X_d_Next)).with 46 (w6u X_d_context))
theorem v3x (X_d_Next:q0r) (X_d_context:z55) (list:List (Int)) (at_:Int) (K:Subj→Int→Prop):j25 X_d_Next X_d_context list at_ K=fnV ((j97 X_d_Next X_d_context).pl v7v) 4 18 ([.ptr 71 [.c,.v]]:LP) ([.el C.subj]:LP) ([.ptr 71 [.sl C.u8,.int .i64]]:LV) ([.el C.subj]:LV) ([.ptr 71 [.same,.int .i64]]:LV) ((list,at_,()),()) (fun r o=>K r.1 o.1.2.1):=by kernel_rfl
theorem y1p:q0h Go.Proofs.Tryz.prog D 18 (w6v q9e):=q0e (E:=j97 q0o q7b) (q0b (q0b h_E0 q2j q5g) v3u y1o) fun a K=>v3x q0o q7b a.1.1 a.1.2.1 (fun q0 q1=>K (q0,()) (((),q1,()),()))
end Go.En
end
noncomputable section
set_option maxRecDepth 100000
open Go Go.RowKit Go.Fl Go.Fl.Lk Go.Fx
namespace Go.En
theorem y99:Ent Go.Proofs.Tryz.prog 25:=q0d (by kernel_rfl) (by kernel_rfl) (by kernel_rfl)
def u0a (X:v1y):Con Sg:=conV ([.v,.v]:LP) ([.int .i64,.int .i64]:LV) ([.int .i64]:LV) ([.same,.same]:LV) (fun a K=>X a.1 a.2.1 (fun q0=>K (q0,()) ((),(),())))
def u28:Nat→Option (Fx.Spec Sg):=q0c ([]:LS)
def y3r:Ev Sg:=E0
theorem u0b (x:Int) (n:Int) (K:Int→Prop):j27 x n K=fnV ((y3r).pl u28) 4 25 ([.v,.v]:LP) ([.v]:LP) ([.int .i64,.int .i64]:LV) ([.int .i64]:LV) ([.same,.same]:LV) (x,n,()) (fun r _=>K r.1):=by kernel_rfl
theorem u59:q0h Go.Proofs.Tryz.prog D 25 (u0a j27):=q0e (E:=y3r) h_E0 fun a K=>u0b a.1 a.2.1 (fun q0=>K (q0,()) ((),(),()))
end Go.En
end
noncomputable section
set_option maxRecDepth 100000
open Go Go.RowKit Go.Fl Go.Fl.Lk Go.Fx
namespace Go.En
def q5u (X:z8d):Con Sg:=conV ([.sl C.u8,.sl C.u8,.v]:LP) ([.sl C.u8,.sl C.u8,.int .i64]:LV) ([.bool]:LV) ([.same,.same,.same]:LV) (fun a K=>X a.1 a.2.1 a.2.2.1 (fun q0=>K (q0,()) ((),(),(),())))
def z7p:Nat→Option (Fx.Spec Sg):=q0c ([(30,⟨[0,1,2,6,7,8,9,10,11,12,13,15,16,17,18,19,20,21,22,23,24,25,26,27,28,34,35,36,37,38,39,40,42,43,44,47,48,49,50,51,52,53,54,55,56,57,58,59,60,61,62],[10,11,9,0,8,4,3,1],[],[(.slot 14,.own 9 C.str)]⟩)]:LS)
def q8w (X_law12_awake:z05) (X_d_New:v1x) (X_d_Environment:q8d) (X_d_Subject:z56) (X_segment_Members:q1e) (X_d_Mod:v1y) (X_d_Expr:q51) (X_r1_Same:z1q):Ev Sg:=((((((((E0.with 8 (j6i X_law12_awake)).with 9 (y97 X_d_New)).with 17 (z84 X_d_Environment)).with 18 (w6v X_d_Subject)).with 19 (q6h X_segment_Members)).with 25 (u0a X_d_Mod)).with 11 (j4y X_d_Expr)).with 12 (w4l X_r1_Same))
theorem z6l (X_law12_awake:z05) (X_d_New:v1x) (X_d_Environment:q8d) (X_d_Subject:z56) (X_segment_Members:q1e) (X_d_Mod:v1y) (X_d_Expr:q51) (X_r1_Same:z1q) (codes:List (Int)) (who:List (Int)) (turn:Int) (K:Bool→Prop):q5s X_law12_awake X_d_New X_d_Environment X_d_Subject X_segment_Members X_d_Mod X_d_Expr X_r1_Same codes who turn K=fnV ((q8w X_law12_awake X_d_New X_d_Environment X_d_Subject X_segment_Members X_d_Mod X_d_Expr X_r1_Same).pl z7p) 4 6 ([.sl C.u8,.sl C.u8,.v]:LP) ([.v]:LP) ([.sl C.u8,.sl C.u8,.int .i64]:LV) ([.bool]:LV) ([.same,.same,.same]:LV) (codes,who,turn,()) (fun r _=>K r.1):=by kernel_rfl
theorem z9p:q0h Go.Proofs.Tryz.prog D 6 (q5u q1j):=q0e (E:=q8w q6f j23 q31 q9e q01 j27 q5a q6n) (q0b (q0b (q0b (q0b (q0b (q0b (q0b (q0b h_E0 w6s v3t) y96 u58) j8i w58) v3w y1p) q7d q9p) y99 u59) j0u v2c) w4k v56) fun a K=>z6l q6f j23 q31 q9e q01 j27 q5a q6n a.1 a.2.1 a.2.2.1 (fun q0=>K (q0,()) ((),(),(),()))
end Go.En
end
