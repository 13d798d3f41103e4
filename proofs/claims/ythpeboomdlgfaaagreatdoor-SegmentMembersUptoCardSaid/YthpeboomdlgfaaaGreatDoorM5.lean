/- SegmentMembers: for every input of bulk at most 1048576 the law returns true and leaves its arguments as they were. This is part 5 of 7. Conditions: those in the statements. -/
import Derived.Test.YthpeboomdlgfaaaGreatDoorM4
import Derived.KernelRfl
import Derived.Conc.MuLone
noncomputable section
set_option maxRecDepth 100000
namespace Go.Proofs.YthpeboomdlgfaaaGreatDoor
open Go Go.Proofs Go.RowKit Go.Fl
set_option maxHeartbeats 2000000 in
theorem q4g {σ:Hv} {w:World} (s_p:(List ByteArray)) (v1:Value) {K:(List ByteArray)->Prop} (hV:View σ w) (hr1:RSl 1 (REnc Qp) σ v1 s_p) (hP:Z6 s_p K):
    Calls Tryz.prog 61 #[v1] w (fun e w1=> ∃(r1:(List ByteArray)) (v2:Value),e= .returned v2/\St ⟨w,σ,[]⟩ w1 σ [vec v2 9 1 r1.length ((r1).flatMap Qp)]/\Sml r1.length/\K r1):=by
 unfold Z6 at hP
 obtain ⟨a1,cap1,rfl⟩:=hr1.shape
 refine enter Tryz.func61 rfl rfl rfl ?_
 have hS:=St.start hV
 refine Q8 (Q9 (v:=(.slice none 0 0)) rfl (wpList_nil (Q5 (wp_seq (Q8 (Z0 (v:=(.slice a1 s_p.length cap1)) rfl ?_))))))
 replace hP:=hP a1.isNone (RSl.isNil hr1)
 obtain ⟨r1_,hn1⟩: ∃r:Bool,a1.isNone=r:=⟨_,rfl⟩
 rw [hn1] at hP
 refine u02 Tryz.underlying30 rfl hn1 (wpList_nil (Q5 ?_))
 refine if_b rfl (fun ht1=> ?_) (fun ht1=> ?_)
 ·
  replace hP:=hP.1 ht1
  refine Q8 (Q9 (v:=(.slice none 0 0)) rfl (wpList_nil (Q5 (wp_ret (q0y (ret1 rfl (show ev _ _ _=(.slice none 0 0) from rfl) ?_))))))
  have hS1:=hS.addNil 9 1
  exact ⟨[],(.slice none 0 0),rfl,(St.back hS1 (Sub.refl _)),(by simp [Sml]),hP⟩
 ·
  replace hP:=hP.2 (by first|(rw [ht1];exact Bool.false_ne_true)|simp [ht1])
  refine wp_skip (Q5 (Q8 (j9i (cs:=[]) (e:=9) hS (fun _=>by kernel_rfl) ?_)))
  intro b1 w1 hS2
  refine Z0 (v:=(.slice a1 s_p.length cap1)) rfl ?_
  have hS3:=hS2.asVec (i:=0) (ms':=[vec (.slice (some ⟨b1,0,none⟩) 0 0) 9 1 0 []]) (size:=1) rfl rfl (by unfold maxLen;omega) rfl
  obtain ⟨hsm1,hP⟩:=hP
  refine u65 (enc:=Qp) (l:=s_p) (Ms:=fun v3=>[vec v3 9 1 s_p.length ((s_p).flatMap Qp)]) (k':=s_p.length) (xs':=(s_p).flatMap Qp) Tryz.underlying30 Tryz.type9 rfl rfl (bytes:=16) rfl rfl (Nat.succ_pos _) hS3 rfl (q:=0) rfl rfl hr1 hS3.view q5k y6o hsm1 (by omega) (by first|rfl|exact List.length_append.symm|simp) (List.nil_append _) (fun _=>rfl) ?_
  intro v3 w2 ho1 hS4
  refine Q9 (v:=v3) rfl (wpList_nil (Q5 (wp_ret (ret1 rfl (show ev _ _ _=v3 from rfl) ?_))))
  exact ⟨s_p,v3,rfl,(St.back hS4 (Sub.refl _)),hsm1,hP⟩
set_option maxHeartbeats 2000000 in
theorem q4h {σ:Hv} {w:World} (s_p:(List ByteArray)) (v_p:ByteArray) (v1:Value) {K:Int->Prop} (hV:View σ w) (hr1:RSl 1 (REnc Qp) σ v1 s_p) (hP:Z7 s_p v_p K):
    Calls Tryz.prog 79 #[v1,(.string v_p)] w (fun e w1=> ∃(r1:Int),e= .returned (.int .i64 r1)/\Grow [] σ w σ w1/\K r1):=by
 unfold Z7 at hP
 obtain ⟨a1,cap1,rfl⟩:=hr1.shape
 refine enter Tryz.func79 rfl rfl rfl ?_
 have hS:=St.start hV
 refine Q8 (Q9 (v:=(.int .i64 (0:Int))) rfl (wpList_nil (Q5 (wp_seq (Q8 (Z0 (v:=(.slice a1 s_p.length cap1)) rfl (z1i rfl Tryz.underlying30 ?_)))))))
 have hlen1:=RSl.len63 hr1
 replace hP:=hP hlen1
 refine Z0 (v:=(.int .i64 (0:Int))) rfl (wpList_nil (Q5 (wp_block ?_)))
 refine w9i (fun k_2 f z=> ∃(σ1:Hv) (g:Fr),f=(upd (upd (upd (upd g 0 (.slice a1 s_p.length cap1)) 1 (.string v_p)) 7 (.int .i64 ((s_p.length:Nat):Int))) 8 (.int .i64 ((k_2:Nat):Int)))/\St ⟨w,σ,[]⟩ z σ1 []/\Sub σ σ1) hP ⟨σ,_,(Jw rfl (Jw rfl (Jw rfl (Jw rfl rfl)))),hS,(Sub.refl _)⟩ ?_
 clear hP
 rintro k_2 Y1 hP f w1 ⟨σ1,g,rfl,hS1,hsub1⟩
 refine Q8 (y6e (r:=(decide (((k_2:Nat):Int)<((s_p.length:Nat):Int)))) rfl rfl rfl (wpList_nil (Q5 (wp_seq ?_))))
 refine if_d (((k_2:Nat):Int)<((s_p.length:Nat):Int)) rfl (fun ht1=> ?_) (fun ht1=> ?_)
 ·
  replace hP:=hP.1 ht1
  refine wp_skip (Q5 (wp_seq (wp_block (Q8 (Z0 (v:=(.int .i64 ((k_2:Nat):Int))) rfl (Q9 (v:=(.int .i64 ((k_2:Nat):Int))) rfl (wpList_nil (Q5 (Q8 (Z0 (v:=(.string v_p)) rfl (Z0 (v:=(.slice a1 s_p.length cap1)) rfl (Z0 (v:=(.int .i64 ((k_2:Nat):Int))) rfl ?_))))))))))))
  obtain ⟨x1_,hx1⟩:=getq (l:=s_p) (k:=k_2) (by have:=ht1;omega)
  replace hP:=hP x1_ hx1
  obtain ⟨ad1,cs1,ha1,hl1,hr2,hR1,hlt1⟩:=RSl.at hr1 hx1
  cases hR1
  refine B1 (k:=k_2) (a':=(ad1.add (k_2*1))) (congrArg (fun z=>Value.slice z _ _) ha1) rfl rfl hlt1 Tryz.underlying30 Tryz.sizeOf9 rfl (q7i (v:=(.string x1_)) rfl Tryz.isAgg9 (hr2.cell (View.of hsub1 hS1.view) 0 rfl rfl) (u6w (r:=(decide (v_p=x1_))) rfl rfl rfl (wpList_nil (Q5 ?_))))
  refine if_d (v_p=x1_) rfl (fun ht2=> ?_) (fun ht2=> ?_)
  ·
   replace hP:=hP.1 ht2
   refine Q8 (Z0 (v:=(.int .i64 ((k_2:Nat):Int))) rfl (Q9 (v:=(.int .i64 ((k_2:Nat):Int))) rfl (wpList_nil (Q5 (wp_ret (j71 (q0y (q0y (j71 (q0y (ret1 rfl (show ev _ _ _=(.int .i64 ((k_2:Nat):Int)) from rfl) ?_)))))))))))
   exact ⟨((k_2:Nat):Int),rfl,hS1.done.forget,hP⟩
  ·
   replace hP:=hP.2 ht2
   refine wp_skip (y3n (Q5 (j31 (y3m (r:=((k_2+1:Nat):Int)) rfl rfl (nw (by omega) (by omega) (by have:=hlen1;omega)) (Z0 (v:=(.int .i64 ((k_2+1:Nat):Int))) rfl (wpList_nil (Q5 ?_)))))))
   exact ⟨k_2+1,_,rfl,hP,σ1,_,(Jw rfl (Jw rfl (Jw rfl (Jw rfl rfl)))),hS1,hsub1⟩
 ·
  replace hP:=hP.2 ht1
  refine wp_exit (z70 (z70 (j96 (Q5 (Q8 (Q9 (v:=(.int .i64 (-1:Int))) rfl (wpList_nil (Q5 (wp_ret (ret1 rfl (show ev _ _ _=(.int .i64 (-1:Int)) from rfl) ?_))))))))))
  exact ⟨(-1:Int),rfl,hS1.done.forget,hP⟩
set_option maxHeartbeats 2000000 in
theorem Us {σ:Hv} {w:World} (s_p:(List ByteArray)) (v_p:ByteArray) (v1:Value) {K:Bool->Prop} (hV:View σ w) (hr1:RSl 1 (REnc Qp) σ v1 s_p) (hP:Zh s_p v_p K):
    Calls Tryz.prog 50 #[v1,(.string v_p)] w (fun e w1=> ∃(r1:Bool),e= .returned (.bool (r1))/\Grow [] σ w σ w1/\K r1):=by
 unfold Zh at hP
 obtain ⟨a1,cap1,rfl⟩:=hr1.shape
 refine enter Tryz.func50 rfl rfl rfl ?_
 have hS:=St.start hV
 refine Q8 (Q9 (v:=(.bool false)) rfl (wpList_nil (Q5 (Q8 (Z0 (v:=(.slice a1 s_p.length cap1)) rfl (Z0 (v:=(.string v_p)) rfl ?_))))))
 obtain ⟨Y1,hK1,hc1⟩:=hP
 refine q8t (args:=[(.slice a1 s_p.length cap1),(.string v_p)]) rfl Tryz.call79 (Calls.mono (q4h s_p v_p (.slice a1 s_p.length cap1) hS.view hr1 hc1) ?_)
 rintro _ w1 ⟨r1_,rfl,hg1,hY1⟩
 refine ⟨_,rfl,?_⟩
 have hS1:=hS.grow hg1
 replace hP:=hK1 r1_ hY1
 refine u6v (r:=(decide ((0:Int)<=r1_))) rfl rfl rfl (Q9 (v:=(.bool (decide ((0:Int)<=r1_)))) rfl (wpList_nil (Q5 (wp_ret (ret1 rfl (show ev _ _ _=(.bool (decide ((0:Int)<=r1_))) from rfl) ?_)))))
 exact ⟨(decide ((0:Int)<=r1_)),rfl,hS1.done.forget,hP⟩
set_option maxHeartbeats 2000000 in
theorem w_graph_Order {σ:Hv} {w:World} (nodes_p:(List ByteArray)) (edges_p:(List (ByteArray×ByteArray))) (v1:Value) (v2:Value) {K:(List ByteArray)->Int->Prop} (hV:View σ w) (hr1:RSl 1 (REnc Qp) σ v1 nodes_p) (hr2:RSl 2 (REnc u66) σ v2 edges_p) (hP:P_graph_Order nodes_p edges_p K):
    Calls Tryz.prog 33 #[v1,v2] w (fun e w1=> ∃(r1:(List ByteArray)) (r2:Int) (v3:Value),e= .returned (.tuple #[v3,(.int .i64 r2)])/\St ⟨w,σ,[]⟩ w1 σ [vec v3 9 1 r1.length ((r1).flatMap Qp)]/\Sml r1.length/\K r1 r2):=by
 unfold P_graph_Order at hP
 obtain ⟨a1,cap1,rfl⟩:=hr1.shape
 obtain ⟨a2,cap2,rfl⟩:=hr2.shape
 refine enter Tryz.func33 rfl rfl rfl ?_
 have hS:=St.start hV
 refine Q8 (Q9 (v:=(.slice none 0 0)) rfl (Q9 (v:=(.int .i64 (0:Int))) rfl (wpList_nil (Q5 (Q8 (Z0 (v:=(.slice a1 nodes_p.length cap1)) rfl (q8t (args:=[(.slice a1 nodes_p.length cap1)]) rfl Tryz.call60 ?_)))))))
 refine enter Tryz.func60 rfl rfl rfl ?_
 refine Q8 (u81 (cs:=[(.slice a1 nodes_p.length cap1)]) hS rfl rfl ?_)
 intro b1 w1 hS1
 refine Q9 (v:= .nilFunc) rfl (wpList_nil (Q5 (Q8 (j32 (la:=[]) (lb:=[(.pointer (some ⟨b1,0,none⟩))]) rfl rfl (Q9 (v:=(.func (.func 104) #[] #[(.pointer (some ⟨b1,0,none⟩))])) rfl (wpList_nil (Q5 (wp_ret (ret1 rfl (show ev _ _ _=(.func (.func 104) #[] #[(.pointer (some ⟨b1,0,none⟩))]) from rfl) ?_)))))))))
 refine ⟨_,rfl,?_⟩
 refine q8t (args:=[(.func (.func 104) #[] #[(.pointer (some ⟨b1,0,none⟩))])]) rfl Tryz.call59 ?_
 refine enter Tryz.func59 rfl rfl rfl ?_
 refine Q8 (Q9 (v:=(.slice none 0 0)) rfl (wpList_nil (Q5 (Q8 (Z0 (v:=(.func (.func 104) #[] #[(.pointer (some ⟨b1,0,none⟩))])) rfl (q8t (args:=[(.func (.func 104) #[] #[(.pointer (some ⟨b1,0,none⟩))])]) rfl Tryz.call103 ?_))))))
 refine enter Tryz.func103 rfl rfl rfl ?_
 refine Q8 (Q9 (v:=(.slice none 0 0)) rfl (wpList_nil (Q5 (Q8 (Z0 (v:=(.func (.func 104) #[] #[(.pointer (some ⟨b1,0,none⟩))])) rfl ?_)))))
 obtain ⟨σ1,hS2,hsub1,hfr1⟩:=hS1.freeze' (i:=0) rfl rfl
 have hB1:σ1 b1=some (.cells #[(.slice a1 nodes_p.length cap1)] 30 (0,0)):=(hfr1 _ rfl).trans (hS1.get (i:=0) rfl)
 obtain ⟨hsm1,hP⟩:=hP
 refine q8t (args:=[(.slice none 0 0),(.func (.func 104) #[] #[(.pointer (some ⟨b1,0,none⟩))])]) rfl Tryz.call139 (Calls.mono (u9q b1 (.slice a1 nodes_p.length cap1) nodes_p hS2.view hB1 (RSl.menc hsub1 hr1) hsm1) ?_)
 rintro _ w2 ⟨v4,rfl,hg1,ho1⟩
 refine ⟨_,rfl,?_⟩
 have hS3:=hS2.growAdd hg1 (o:=vec v4 9 1 nodes_p.length ((nodes_p).flatMap Qp)) ho1
 refine Q9 (v:=v4) rfl (wpList_nil (Q5 (wp_ret (ret1 rfl (show ev _ _ _=v4 from rfl) ?_))))
 refine ⟨_,rfl,?_⟩
 refine Q9 (v:=v4) rfl (wpList_nil (Q5 (Q8 (Z0 (v:=v4) rfl ?_))))
 refine q8t (args:=[v4]) rfl Tryz.call30 (Calls.mono (y1q Tryz.slices_Sort_string Tryz.slices_Sort_string_none hS3.view (hS3.get (i:=0) rfl) rfl (fun b hb=>hS3.off _ (List.mem_of_getElem? (i:=0) rfl) b hb) (by have:=hsm1;unfold Sml at this;omega)) ?_)
 rintro _ w3 ⟨rfl,hg2,ho2⟩
 refine ⟨_,rfl,?_⟩
 have hS4:=hS3.growV (i:=0) (o':=vec v4 9 1 nodes_p.length ((srt nodes_p).flatMap Qp)) rfl hg2 rfl ho2 (ms':=[vec v4 9 1 nodes_p.length ((srt nodes_p).flatMap Qp)]) rfl
 have hS5:=hS4.re (ms':=[vec v4 9 1 ((srt nodes_p).length) ((srt nodes_p).flatMap Qp)]) (by simp only [Wx])
 refine wpList_nil (Q5 (Q8 (Z0 (v:=v4) rfl (Q9 (v:=v4) rfl (wpList_nil (Q5 (wp_ret (ret1 rfl (show ev _ _ _=v4 from rfl) ?_))))))))
 refine ⟨_,rfl,?_⟩
 refine Q9 (v:=v4) rfl (wpList_nil (Q5 (wp_seq (Q8 (Z0 (v:=v4) rfl ?_)))))
 obtain ⟨σ2,hS6,hsub2,hr4⟩:=hS5.peek (i:=0) rfl q5k (show Sml (srt nodes_p).length by rw [Wx];exact hsm1)
 obtain ⟨Y1,hK1,hc1⟩:=hP
 refine q8t (args:=[v4]) rfl Tryz.call61 (Calls.mono (q4g (srt nodes_p) v4 hS6.view hr4 hc1) ?_)
 rintro _ w4 ⟨r1_,v5,rfl,hg3,hl1,hY1⟩
 refine ⟨_,rfl,?_⟩
 have hS7:=St.callM (ins:=[]) (rest:=[vec v4 9 1 ((srt nodes_p).length) ((srt nodes_p).flatMap Qp)]) (ms':=[vec v5 9 1 r1_.length ((r1_).flatMap Qp),vec v4 9 1 ((srt nodes_p).length) ((srt nodes_p).flatMap Qp)]) hS5 (St.back hg3 hsub2) rfl
 replace hP:=hK1 r1_ hY1
 obtain ⟨hsm2,hP⟩:=hP
 refine q8t (args:=[v5]) rfl Tryz.call31 (Calls.mono (w0a Tryz.slices_Compact_string Tryz.slices_Compact_string_empty hS7.view (hS7.get (i:=0) rfl) rfl (fun b hb=>hS7.off _ (List.mem_of_getElem? (i:=0) rfl) b hb) (by have:=hl1;unfold Sml at this;omega)) ?_)
 rintro _ w5 ⟨v6,rfl,hf1,hg4,ho3⟩
 refine ⟨_,rfl,?_⟩
 have ho4:=q2p ho3
 have hS8:=hS7.growV (i:=0) (o':=vec v6 9 1 ((cpt r1_).length) ((cpt r1_).flatMap Qp)) rfl hg4 hf1 ho3 (ms':=[vec v6 9 1 ((cpt r1_).length) ((cpt r1_).flatMap Qp),vec v4 9 1 ((srt nodes_p).length) ((srt nodes_p).flatMap Qp)]) rfl
 refine j01 hS8 rfl (i:=0) rfl Tryz.underlying30 ?_
 have hlen1:(cpt r1_).length<=9223372036854775807:=by have:=hsm2;unfold Sml at this;omega
 replace hP:=hP hlen1
 refine Z0 (v:=v4) rfl (j01 hS8 rfl (i:=1) rfl Tryz.underlying30 ?_)
 have hlen2:(srt nodes_p).length<=9223372036854775807:=by have:=(show Sml (srt nodes_p).length by rw [Wx];exact hsm1);unfold Sml at this;omega
 replace hP:=hP hlen2
 refine u8z (r:=(!decide ((((cpt r1_).length:Nat):Int)=(((srt nodes_p).length:Nat):Int)))) rfl rfl rfl (wpList_nil (Q5 ?_))
 refine u6x ((((cpt r1_).length:Nat):Int)=(((srt nodes_p).length:Nat):Int)) rfl (fun ht1=> ?_) (fun ht1=> ?_)
 ·
  replace hP:=hP.2 ht1
  refine Q8 (Q9 (v:=(.slice none 0 0)) rfl (Q9 (v:=(.int .i64 (10:Int))) rfl (wpList_nil (Q5 (wp_ret (q0y (ret2 rfl (show ev _ _ _=(.slice none 0 0) from rfl) (show ev _ _ _=(.int .i64 (10:Int)) from rfl) ?_)))))))
  have hS9:=hS8.addNil 9 1
  exact ⟨[],(10:Int),(.slice none 0 0),rfl,(St.back (hS9.keep 1 (ms':=[vec (.slice none 0 0) 9 1 0 []]) rfl) (Sub.refl _)),(by simp [Sml]),hP⟩
 ·
  replace hP:=hP.1 ht1
  refine wp_skip (Q5 (Q8 (y3s 9 1 Qp hS8 ?_)))
  intro b2 w6 hS10
  refine v7j (cs:=[(.map none)]) hS10 Tryz.zeroValue126 rfl ?_
  intro b3 w7 hS11
  refine v7i (T:=126) (vs:=[(.map (some b2))]) (cs':=[(.map (some b2))]) (ms':=(blk b3 126 [(.map (some b2))]::smap b2 (asl [])::vec v6 9 1 ((cpt r1_).length) ((cpt r1_).flatMap Qp)::vec v4 9 1 ((srt nodes_p).length) ((srt nodes_p).flatMap Qp)::Ur 9 1 Qp [])) (i:=0) hS11 rfl rfl rfl Tryz.sizeOf126 rfl (ones rfl) rfl (Nat.le_of_ble_eq_true rfl) rfl rfl ?_
  intro w8 hS12
  refine wpList_nil (Q5 (wp_seq (Q8 (Z0 (v:=(.slice a2 edges_p.length cap2)) rfl (z1i rfl Tryz.underlying77 ?_)))))
  have hlen3:=RSl.len63 hr2
  replace hP:=hP hlen3
  refine Z0 (v:=(.int .i64 (0:Int))) rfl (wpList_nil (Q5 (wp_block ?_)))
  have hS13:=hS12.front 3 rfl (ms':=(vec v4 9 1 ((srt nodes_p).length) ((srt nodes_p).flatMap Qp)::blk b3 126 [(.map (some b2))]::smap b2 (asl [])::vec v6 9 1 ((cpt r1_).length) ((cpt r1_).flatMap Qp)::Ur 9 1 Qp [])) rfl
  have hS14:=hS13.front 3 rfl (ms':=(vec v6 9 1 ((cpt r1_).length) ((cpt r1_).flatMap Qp)::vec v4 9 1 ((srt nodes_p).length) ((srt nodes_p).flatMap Qp)::blk b3 126 [(.map (some b2))]::smap b2 (asl [])::Ur 9 1 Qp [])) rfl
  have hS15:=hS14.front 2 rfl (ms':=(blk b3 126 [(.map (some b2))]::vec v6 9 1 ((cpt r1_).length) ((cpt r1_).flatMap Qp)::vec v4 9 1 ((srt nodes_p).length) ((srt nodes_p).flatMap Qp)::smap b2 (asl [])::Ur 9 1 Qp [])) rfl
  have hS16:=hS15.front 3 rfl (ms':=(smap b2 (asl [])::blk b3 126 [(.map (some b2))]::vec v6 9 1 ((cpt r1_).length) ((cpt r1_).flatMap Qp)::vec v4 9 1 ((srt nodes_p).length) ((srt nodes_p).flatMap Qp)::Ur 9 1 Qp [])) rfl
  refine u0z (fun k_3 F_2 f z=> ∃(es2:EL ByteArray) (σ3:Hv) (g:Fr),f=(upd (upd (upd (upd (upd g 6 v4) 7 (.pointer (some ⟨b3,0,none⟩))) 24 (.slice a2 edges_p.length cap2)) 25 (.int .i64 ((edges_p.length:Nat):Int))) 26 (.int .i64 ((k_3:Nat):Int)))/\St ⟨w,σ,[]⟩ z σ3 (smap b2 (asl es2)::blk b3 126 [(.map (some b2))]::vec v6 9 1 ((cpt r1_).length) ((cpt r1_).flatMap Qp)::vec v4 9 1 ((srt nodes_p).length) ((srt nodes_p).flatMap Qp)::Ur 9 1 Qp es2)/\Sub σ1 σ3/\ELF es2 F_2) hP ⟨[],σ1,_,(Jw rfl (Jw rfl (Jw rfl (Jw rfl (Jw rfl rfl))))),hS16,(Sub.refl _),ELF.nil⟩ ?_
  clear hP
  rintro k_3 F_2 Y2 hP f w9 ⟨es2,σ3,g,rfl,hS17,hsub3,hF2⟩
  refine Q8 (y6e (r:=(decide (((k_3:Nat):Int)<((edges_p.length:Nat):Int)))) rfl rfl rfl (wpList_nil (Q5 (wp_seq ?_))))
  refine if_d (((k_3:Nat):Int)<((edges_p.length:Nat):Int)) rfl (fun ht2=> ?_) (fun ht2=> ?_)
  ·
   replace hP:=hP.1 ht2
   refine wp_skip (Q5 (wp_seq (wp_block (Q8 ?_))))
   obtain ⟨x1_,hx1⟩:=getq (l:=edges_p) (k:=k_3) (by have:=ht2;omega)
   replace hP:=hP x1_ hx1
   obtain ⟨ad1,cs1,ha1,hl2,hr6,hR1,hlt1⟩:=RSl.at hr2 hx1
   cases hR1
   refine B1 (k:=k_3) (a':=(ad1.add (k_3*2))) (congrArg (fun z=>Value.slice z _ _) ha1) rfl rfl hlt1 Tryz.underlying77 Tryz.sizeOf79 rfl (u3z (cs:=[(.string x1_.1),(.string x1_.2)]) rfl Tryz.isAgg79 Tryz.sizeOf79 rfl (hr6.row (View.of (Sub.trans hsub1 hsub3) hS17.view)) (v7j (cs:=[(.string (⟨#[]⟩:ByteArray)),(.string (⟨#[]⟩:ByteArray))]) hS17 Tryz.zeroValue79 rfl ?_))
   intro b4 w10 hS18
   refine v7i (T:=79) (vs:=[(.string x1_.1),(.string x1_.2)]) (cs':=[(.string x1_.1),(.string x1_.2)]) (ms':=(blk b4 79 [(.string x1_.1),(.string x1_.2)]::smap b2 (asl es2)::blk b3 126 [(.map (some b2))]::vec v6 9 1 ((cpt r1_).length) ((cpt r1_).flatMap Qp)::vec v4 9 1 ((srt nodes_p).length) ((srt nodes_p).flatMap Qp)::Ur 9 1 Qp es2)) (i:=0) hS18 rfl rfl rfl Tryz.sizeOf79 rfl (ones rfl) rfl (Nat.le_of_ble_eq_true rfl) rfl rfl ?_
   intro w11 hS19
   refine wpList_nil (Q5 (wp_seq (Q8 (Z0 (v:=v4) rfl (j94 (a':=⟨b4,0,none⟩) rfl Tryz.underlying79 rfl Tryz.sizeOf9 rfl (q7i (v:=(.string x1_.1)) rfl Tryz.isAgg9 (hS19.cell (i:=0) rfl rfl) ?_))))))
   obtain ⟨σ4,hS20,hsub4,hr7⟩:=hS19.peek (i:=4) rfl q5k (show Sml (srt nodes_p).length by rw [Wx];exact hsm1)
   obtain ⟨Y3,hK2,hc2⟩:=hP
   refine q8t (args:=[v4,(.string x1_.1)]) rfl Tryz.call50 (Calls.mono (Us (srt nodes_p) x1_.1 v4 hS20.view hr7 hc2) ?_)
   rintro _ w12 ⟨r2_,rfl,hg5,hY2⟩
   refine ⟨_,rfl,?_⟩
   have hg5b:=hg5.back hsub4
   have hS21:=hS19.grow hg5b
   replace hP:=hK2 r2_ hY2
   refine u0r (r:=(!r2_)) rfl rfl ?_
   rcases Bool.eq_false_or_eq_true (r2_) with hb1|hb1
   ·
    replace hP:=hP.1 hb1
    refine Z0 (v:=(.bool false)) (congrArg Value.bool (congrArg Bool.not hb1)) (o_on rfl rfl (Z0 (v:=v4) rfl (o_on rfl rfl (j94 (a':=⟨b4,1,none⟩) rfl Tryz.underlying79 rfl Tryz.sizeOf9 rfl (o_on rfl rfl (q7i (v:=(.string x1_.2)) rfl Tryz.isAgg9 (hS21.cell (i:=0) rfl rfl) (o_on rfl rfl ?_)))))))
    obtain ⟨σ5,hS22,hsub5,hr8⟩:=hS21.peek (i:=4) rfl q5k (show Sml (srt nodes_p).length by rw [Wx];exact hsm1)
    obtain ⟨Y4,hK3,hc3⟩:=hP
    refine q8t (args:=[v4,(.string x1_.2)]) rfl Tryz.call50 (Calls.mono (Us (srt nodes_p) x1_.2 v4 hS22.view hr8 hc3) ?_)
    rintro _ w13 ⟨r3_,rfl,hg6,hY3⟩
    refine ⟨_,rfl,?_⟩
    have hg6b:=hg6.back hsub5
    have hS23:=hS21.grow hg6b
    replace hP:=hK3 r3_ hY3
    refine o_on rfl rfl (u0r (r:=(!r3_)) rfl rfl (u0p (v:=(.bool (!r3_))) rfl rfl (wpList_nil (Q5 ?_))))
    refine u6y rfl (fun ht3=> ?_) (fun ht3=> ?_)
    ·
     replace hP:=hP.2 (by first|(rw [ht3];exact Bool.false_ne_true)|simp [ht3])
     refine Q8 (Q9 (v:=(.slice none 0 0)) rfl (Q9 (v:=(.int .i64 (11:Int))) rfl (wpList_nil (Q5 (wp_ret (q0y (j71 (q0y (q0y (j71 (q0y (ret2 rfl (show ev _ _ _=(.slice none 0 0) from rfl) (show ev _ _ _=(.int .i64 (11:Int)) from rfl) ?_))))))))))))
     have hS24:=hS23.addNil 9 1
     exact ⟨[],(11:Int),(.slice none 0 0),rfl,(St.back (hS24.keep 1 (ms':=[vec (.slice none 0 0) 9 1 0 []]) rfl) (Sub.refl _)),(by simp [Sml]),hP⟩
    ·
     replace hP:=hP.1 ht3
     refine wp_skip (Q5 (dr (fun z=>St ⟨w,σ,[]⟩ z σ3 [blk b4 79 [(.string x1_.1),(.string x1_.2)],blk b3 126 [(.map (some b2))],vec v6 9 1 ((cpt r1_).length) ((cpt r1_).flatMap Qp),vec v4 9 1 ((srt nodes_p).length) ((srt nodes_p).flatMap Qp)]) (by kernel_rfl) rfl ?_))
     have hS25:=hS23.drew
     refine dt 0 1 (v:=(.map (some b2))) (by kernel_rfl) rfl rfl (fun _ _ _ h=>h) (hS25.sublist (.cons_cons _ (.cons _ (.cons_cons _ (.cons_cons _ (.cons_cons _ (List.nil_sublist _))))))) (fun _ hJ _ hK=>q7i (v:=(.map (some b2))) rfl Tryz.isAgg126 (hJ.cell (i:=1) rfl rfl) ⟨rfl,hK⟩) (dt 1 3 (v:=(.pointer (some ⟨b4,0,none⟩))) (by kernel_rfl) rfl rfl (fun _ _ _ h=>h) (hS25.sublist (.cons_cons _ (.cons _ (.cons_cons _ (.cons_cons _ (.cons_cons _ (List.nil_sublist _))))))) (fun _ _ _ hK=>j94 (a':=⟨b4,0,none⟩) rfl Tryz.underlying79 rfl Tryz.sizeOf9 rfl ⟨rfl,hK⟩) (dt 2 7 (v:=(.string x1_.1)) (by kernel_rfl) rfl rfl (fun _ _ _ h=>h) (hS25.sublist (.cons_cons _ (.cons _ (.cons_cons _ (.cons_cons _ (.cons_cons _ (List.nil_sublist _))))))) (fun _ hJ _ hK=>q7i (v:=(.string x1_.1)) rfl Tryz.isAgg9 (hJ.cell (i:=0) rfl rfl) ⟨rfl,hK⟩) (dt 3 15 (v:=(.map (some b2))) (by kernel_rfl) rfl rfl (fun _ _ _ h=>h) (hS25.sublist (.cons_cons _ (.cons _ (.cons_cons _ (.cons_cons _ (.cons_cons _ (List.nil_sublist _))))))) (fun _ hJ _ hK=>q7i (v:=(.map (some b2))) rfl Tryz.isAgg126 (hJ.cell (i:=1) rfl rfl) ⟨rfl,hK⟩) (dt 4 31 (v:=(.pointer (some ⟨b4,0,none⟩))) (by kernel_rfl) rfl rfl (fun _ _ _ h=>h) (hS25.sublist (.cons_cons _ (.cons _ (.cons_cons _ (.cons_cons _ (.cons_cons _ (List.nil_sublist _))))))) (fun _ _ _ hK=>j94 (a':=⟨b4,0,none⟩) rfl Tryz.underlying79 rfl Tryz.sizeOf9 rfl ⟨rfl,hK⟩) (dt 5 63 (v:=(.string x1_.1)) (by kernel_rfl) rfl rfl (fun _ _ _ h=>h) (hS25.sublist (.cons_cons _ (.cons _ (.cons_cons _ (.cons_cons _ (.cons_cons _ (List.nil_sublist _))))))) (fun _ hJ _ hK=>q7i (v:=(.string x1_.1)) rfl Tryz.isAgg9 (hJ.cell (i:=0) rfl rfl) ⟨rfl,hK⟩) (dt 7 191 (v:=(.pointer (some ⟨b4,1,none⟩))) (by kernel_rfl) rfl rfl (fun _ _ _ h=>h) (hS25.sublist (.cons_cons _ (.cons _ (.cons_cons _ (.cons_cons _ (.cons_cons _ (List.nil_sublist _))))))) (fun _ _ _ hK=>j94 (a':=⟨b4,1,none⟩) rfl Tryz.underlying79 rfl Tryz.sizeOf9 rfl ⟨rfl,hK⟩) (dt 8 447 (v:=(.string x1_.2)) (by kernel_rfl) rfl rfl (fun _ _ _ h=>h) (hS25.sublist (.cons_cons _ (.cons _ (.cons_cons _ (.cons_cons _ (.cons_cons _ (List.nil_sublist _))))))) (fun _ hJ _ hK=>q7i (v:=(.string x1_.2)) rfl Tryz.isAgg9 (hJ.cell (i:=0) rfl rfl) ⟨rfl,hK⟩) ?_)))))))
     refine d2 6 9 511 959 (by kernel_rfl) rfl rfl rfl rfl ?_ ?_
     ·
      obtain ⟨v7,hv1⟩: ∃v,(asl es2 x1_.1).getD (.slice none 0 0)=v:=⟨_,rfl⟩
      refine y6m (i:=1) (v:=v7) hS25 rfl rfl rfl Tryz.underlying126 Tryz.underlying9 Tryz.zeroValue30 hv1 (wpList_nil ?_)
      refine ⟨rfl,(hS25.sublist (.cons_cons _ (.cons _ (.cons_cons _ (.cons_cons _ (.cons_cons _ (List.nil_sublist _))))))),?_⟩
      refine d1 9 1023 (by kernel_rfl) rfl (j9i (cs:=[(.string x1_.2)]) (e:=9) hS25 (fun _=>by kernel_rfl) ?_)
      intro b5 w14 hS26
      refine wpList_nil ?_
      refine ⟨rfl,(hS26.sublist (.cons _ (.cons_cons _ (.cons _ (.cons_cons _ (.cons_cons _ (.cons_cons _ (List.nil_sublist _)))))))),?_⟩
      refine d1 10 2047 (by kernel_rfl) rfl ?_
      obtain ⟨es3,hS27,hL1,hl3⟩:=St.borrow (ms:=[blk b5 9 [(.string x1_.2)],blk b4 79 [(.string x1_.1),(.string x1_.2)],smap b2 (asl es2),blk b3 126 [(.map (some b2))],vec v6 9 1 ((cpt r1_).length) ((cpt r1_).flatMap Qp),vec v4 9 1 ((srt nodes_p).length) ((srt nodes_p).flatMap Qp)]) hS26 hF2 x1_.1 hv1
      obtain ⟨hsm3,hP⟩:=hP
      refine u37 (Ms:=fun v8=>(vec v8 9 1 ((((F_2 x1_.1).getD [])++[x1_.2]).length) ((((F_2 x1_.1).getD [])++[x1_.2]).flatMap Qp)::blk b5 9 [(.string x1_.2)]::blk b4 79 [(.string x1_.1),(.string x1_.2)]::smap b2 (asl es2)::blk b3 126 [(.map (some b2))]::vec v6 9 1 ((cpt r1_).length) ((cpt r1_).flatMap Qp)::vec v4 9 1 ((srt nodes_p).length) ((srt nodes_p).flatMap Qp)::Ur 9 1 Qp es3)) (k':=(((F_2 x1_.1).getD [])++[x1_.2]).length) (xs':=(((F_2 x1_.1).getD [])++[x1_.2]).flatMap Qp) Tryz.underlying30 Tryz.type9 rfl rfl (bytes:=16) rfl rfl (Nat.succ_pos _) hS27 rfl (q:=0) rfl rfl rfl (q9p (hS27.get (i:=1) rfl)) (ones rfl) hsm3 (by omega) (by first|rfl|exact List.length_append.symm|simp) (by simp [Qp]) (fun _=>rfl) ?_
      intro v8 w15 ho5 hS28
      have hS29:=hS28.drop 1 (ms':=(vec v8 9 1 ((((F_2 x1_.1).getD [])++[x1_.2]).length) ((((F_2 x1_.1).getD [])++[x1_.2]).flatMap Qp)::blk b4 79 [(.string x1_.1),(.string x1_.2)]::smap b2 (asl es2)::blk b3 126 [(.map (some b2))]::vec v6 9 1 ((cpt r1_).length) ((cpt r1_).flatMap Qp)::vec v4 9 1 ((srt nodes_p).length) ((srt nodes_p).flatMap Qp)::Ur 9 1 Qp es3)) rfl
      refine wpList_nil ?_
      refine ⟨rfl,(hS29.sublist (.cons _ (.cons_cons _ (.cons _ (.cons_cons _ (.cons_cons _ (.cons_cons _ (List.nil_sublist _)))))))),?_⟩
      refine d1 11 4095 (by kernel_rfl) rfl (u34 (v:=v8) (i:=2) (ms':=(vec v8 9 1 ((((F_2 x1_.1).getD [])++[x1_.2]).length) ((((F_2 x1_.1).getD [])++[x1_.2]).flatMap Qp)::blk b4 79 [(.string x1_.1),(.string x1_.2)]::smap b2 (fun k'=>if k'=x1_.1 then some v8 else asl es2 k')::blk b3 126 [(.map (some b2))]::vec v6 9 1 ((cpt r1_).length) ((cpt r1_).flatMap Qp)::vec v4 9 1 ((srt nodes_p).length) ((srt nodes_p).flatMap Qp)::Ur 9 1 Qp es3)) hS29 rfl rfl rfl rfl Tryz.underlying126 Tryz.underlying9 rfl ?_)
      intro w16 hS30
      have hS32:=St.giveback (ms:=[blk b4 79 [(.string x1_.1),(.string x1_.2)],smap b2 (fun k'=>if k'=x1_.1 then some v8 else asl es2 k'),blk b3 126 [(.map (some b2))],vec v6 9 1 ((cpt r1_).length) ((cpt r1_).flatMap Qp),vec v4 9 1 ((srt nodes_p).length) ((srt nodes_p).flatMap Qp)]) (ms':=[blk b4 79 [(.string x1_.1),(.string x1_.2)],smap b2 (asl ((x1_.1,v8,((F_2 x1_.1).getD [])++[x1_.2])::es3)),blk b3 126 [(.map (some b2))],vec v6 9 1 ((cpt r1_).length) ((cpt r1_).flatMap Qp),vec v4 9 1 ((srt nodes_p).length) ((srt nodes_p).flatMap Qp)]) (i:=1) hS30 hL1 rfl rfl
      have hF3:=ELF.put (v:=v8) hF2 hL1 hsm3
      refine wpList_nil ?_
      refine ⟨rfl,(hS32.sublist (.cons_cons _ (.cons _ (.cons_cons _ (.cons_cons _ (.cons_cons _ (List.nil_sublist _))))))),j9j (J':=fun z=>St ⟨w,σ,[]⟩ z σ3 (blk b4 79 [(.string x1_.1),(.string x1_.2)]::smap b2 (asl ((x1_.1,v8,((F_2 x1_.1).getD [])++[x1_.2])::es3))::blk b3 126 [(.map (some b2))]::vec v6 9 1 ((cpt r1_).length) ((cpt r1_).flatMap Qp)::vec v4 9 1 ((srt nodes_p).length) ((srt nodes_p).flatMap Qp)::Ur 9 1 Qp ((x1_.1,v8,((F_2 x1_.1).getD [])++[x1_.2])::es3))) (fun w h=>h.sublist (.cons_cons _ (.cons _ (.cons_cons _ (.cons_cons _ (.cons_cons _ (List.nil_sublist _))))))) _ _ _ _ ?_⟩
      refine dz (by kernel_rfl) (y3n (Q5 (j31 (y3m (r:=((k_3+1:Nat):Int)) rfl rfl (nw (by omega) (by omega) (by have:=hlen3;omega)) (Z0 (v:=(.int .i64 ((k_3+1:Nat):Int))) rfl (wpList_nil (Q5 ?_)))))))
      exact ⟨k_3+1,(put F_2 x1_.1 (((F_2 x1_.1).getD [])++[x1_.2])),_,rfl,hP,((x1_.1,v8,((F_2 x1_.1).getD [])++[x1_.2])::es3),σ3,_,(Jw rfl (Jw rfl (Jw rfl (Jw rfl (Jw rfl rfl))))),(hS32.sublist (ms':=(smap b2 (asl ((x1_.1,v8,((F_2 x1_.1).getD [])++[x1_.2])::es3))::blk b3 126 [(.map (some b2))]::vec v6 9 1 ((cpt r1_).length) ((cpt r1_).flatMap Qp)::vec v4 9 1 ((srt nodes_p).length) ((srt nodes_p).flatMap Qp)::Ur 9 1 Qp ((x1_.1,v8,((F_2 x1_.1).getD [])++[x1_.2])::es3))) (.cons _ (List.Sublist.refl _))),hsub3,hF3⟩
     ·
      refine j9i (cs:=[(.string x1_.2)]) (e:=9) hS25 (fun _=>by kernel_rfl) ?_
      intro b5 w14 hS26
      refine wpList_nil ?_
      refine ⟨rfl,(hS26.sublist (.cons _ (.cons_cons _ (.cons _ (.cons_cons _ (.cons_cons _ (.cons_cons _ (List.nil_sublist _)))))))),?_⟩
      refine d1 6 1023 (by kernel_rfl) rfl ?_
      obtain ⟨v7,hv1⟩: ∃v,(asl es2 x1_.1).getD (.slice none 0 0)=v:=⟨_,rfl⟩
      refine y6m (i:=2) (v:=v7) hS26 rfl rfl rfl Tryz.underlying126 Tryz.underlying9 Tryz.zeroValue30 hv1 (wpList_nil ?_)
      refine ⟨rfl,(hS26.sublist (.cons _ (.cons_cons _ (.cons _ (.cons_cons _ (.cons_cons _ (.cons_cons _ (List.nil_sublist _)))))))),?_⟩
      refine d1 10 2047 (by kernel_rfl) rfl ?_
      obtain ⟨es3,hS27,hL1,hl3⟩:=St.borrow (ms:=[blk b5 9 [(.string x1_.2)],blk b4 79 [(.string x1_.1),(.string x1_.2)],smap b2 (asl es2),blk b3 126 [(.map (some b2))],vec v6 9 1 ((cpt r1_).length) ((cpt r1_).flatMap Qp),vec v4 9 1 ((srt nodes_p).length) ((srt nodes_p).flatMap Qp)]) hS26 hF2 x1_.1 hv1
      obtain ⟨hsm3,hP⟩:=hP
      refine u37 (Ms:=fun v8=>(vec v8 9 1 ((((F_2 x1_.1).getD [])++[x1_.2]).length) ((((F_2 x1_.1).getD [])++[x1_.2]).flatMap Qp)::blk b5 9 [(.string x1_.2)]::blk b4 79 [(.string x1_.1),(.string x1_.2)]::smap b2 (asl es2)::blk b3 126 [(.map (some b2))]::vec v6 9 1 ((cpt r1_).length) ((cpt r1_).flatMap Qp)::vec v4 9 1 ((srt nodes_p).length) ((srt nodes_p).flatMap Qp)::Ur 9 1 Qp es3)) (k':=(((F_2 x1_.1).getD [])++[x1_.2]).length) (xs':=(((F_2 x1_.1).getD [])++[x1_.2]).flatMap Qp) Tryz.underlying30 Tryz.type9 rfl rfl (bytes:=16) rfl rfl (Nat.succ_pos _) hS27 rfl (q:=0) rfl rfl rfl (q9p (hS27.get (i:=1) rfl)) (ones rfl) hsm3 (by omega) (by first|rfl|exact List.length_append.symm|simp) (by simp [Qp]) (fun _=>rfl) ?_
      intro v8 w15 ho5 hS28
      have hS29:=hS28.drop 1 (ms':=(vec v8 9 1 ((((F_2 x1_.1).getD [])++[x1_.2]).length) ((((F_2 x1_.1).getD [])++[x1_.2]).flatMap Qp)::blk b4 79 [(.string x1_.1),(.string x1_.2)]::smap b2 (asl es2)::blk b3 126 [(.map (some b2))]::vec v6 9 1 ((cpt r1_).length) ((cpt r1_).flatMap Qp)::vec v4 9 1 ((srt nodes_p).length) ((srt nodes_p).flatMap Qp)::Ur 9 1 Qp es3)) rfl
      refine wpList_nil ?_
      refine ⟨rfl,(hS29.sublist (.cons _ (.cons_cons _ (.cons _ (.cons_cons _ (.cons_cons _ (.cons_cons _ (List.nil_sublist _)))))))),?_⟩
      refine d1 11 4095 (by kernel_rfl) rfl (u34 (v:=v8) (i:=2) (ms':=(vec v8 9 1 ((((F_2 x1_.1).getD [])++[x1_.2]).length) ((((F_2 x1_.1).getD [])++[x1_.2]).flatMap Qp)::blk b4 79 [(.string x1_.1),(.string x1_.2)]::smap b2 (fun k'=>if k'=x1_.1 then some v8 else asl es2 k')::blk b3 126 [(.map (some b2))]::vec v6 9 1 ((cpt r1_).length) ((cpt r1_).flatMap Qp)::vec v4 9 1 ((srt nodes_p).length) ((srt nodes_p).flatMap Qp)::Ur 9 1 Qp es3)) hS29 rfl rfl rfl rfl Tryz.underlying126 Tryz.underlying9 rfl ?_)
      intro w16 hS30
      have hS32:=St.giveback (ms:=[blk b4 79 [(.string x1_.1),(.string x1_.2)],smap b2 (fun k'=>if k'=x1_.1 then some v8 else asl es2 k'),blk b3 126 [(.map (some b2))],vec v6 9 1 ((cpt r1_).length) ((cpt r1_).flatMap Qp),vec v4 9 1 ((srt nodes_p).length) ((srt nodes_p).flatMap Qp)]) (ms':=[blk b4 79 [(.string x1_.1),(.string x1_.2)],smap b2 (asl ((x1_.1,v8,((F_2 x1_.1).getD [])++[x1_.2])::es3)),blk b3 126 [(.map (some b2))],vec v6 9 1 ((cpt r1_).length) ((cpt r1_).flatMap Qp),vec v4 9 1 ((srt nodes_p).length) ((srt nodes_p).flatMap Qp)]) (i:=1) hS30 hL1 rfl rfl
      have hF3:=ELF.put (v:=v8) hF2 hL1 hsm3
      refine wpList_nil ?_
      refine ⟨rfl,(hS32.sublist (.cons_cons _ (.cons _ (.cons_cons _ (.cons_cons _ (.cons_cons _ (List.nil_sublist _))))))),j9j (J':=fun z=>St ⟨w,σ,[]⟩ z σ3 (blk b4 79 [(.string x1_.1),(.string x1_.2)]::smap b2 (asl ((x1_.1,v8,((F_2 x1_.1).getD [])++[x1_.2])::es3))::blk b3 126 [(.map (some b2))]::vec v6 9 1 ((cpt r1_).length) ((cpt r1_).flatMap Qp)::vec v4 9 1 ((srt nodes_p).length) ((srt nodes_p).flatMap Qp)::Ur 9 1 Qp ((x1_.1,v8,((F_2 x1_.1).getD [])++[x1_.2])::es3))) (fun w h=>h.sublist (.cons_cons _ (.cons _ (.cons_cons _ (.cons_cons _ (.cons_cons _ (List.nil_sublist _))))))) _ _ _ _ ?_⟩
      refine dz (by kernel_rfl) (y3n (Q5 (j31 (y3m (r:=((k_3+1:Nat):Int)) rfl rfl (nw (by omega) (by omega) (by have:=hlen3;omega)) (Z0 (v:=(.int .i64 ((k_3+1:Nat):Int))) rfl (wpList_nil (Q5 ?_)))))))
      exact ⟨k_3+1,(put F_2 x1_.1 (((F_2 x1_.1).getD [])++[x1_.2])),_,rfl,hP,((x1_.1,v8,((F_2 x1_.1).getD [])++[x1_.2])::es3),σ3,_,(Jw rfl (Jw rfl (Jw rfl (Jw rfl (Jw rfl rfl))))),(hS32.sublist (ms':=(smap b2 (asl ((x1_.1,v8,((F_2 x1_.1).getD [])++[x1_.2])::es3))::blk b3 126 [(.map (some b2))]::vec v6 9 1 ((cpt r1_).length) ((cpt r1_).flatMap Qp)::vec v4 9 1 ((srt nodes_p).length) ((srt nodes_p).flatMap Qp)::Ur 9 1 Qp ((x1_.1,v8,((F_2 x1_.1).getD [])++[x1_.2])::es3))) (.cons _ (List.Sublist.refl _))),hsub3,hF3⟩
   ·
    replace hP:=hP.2 (by first|(rw [hb1];exact Bool.false_ne_true)|simp [hb1])
    refine Z0 (v:=(.bool true)) (congrArg Value.bool (congrArg Bool.not hb1)) (y6d rfl rfl (y6d rfl rfl (y6d rfl rfl (y6d rfl rfl (y6d rfl rfl (u0o (v:=(.bool true)) rfl rfl (wpList_nil (Q5 (if_t rfl (Q8 (Q9 (v:=(.slice none 0 0)) rfl (Q9 (v:=(.int .i64 (11:Int))) rfl (wpList_nil (Q5 (wp_ret (q0y (j71 (q0y (q0y (j71 (q0y (ret2 rfl (show ev _ _ _=(.slice none 0 0) from rfl) (show ev _ _ _=(.int .i64 (11:Int)) from rfl) ?_))))))))))))))))))))))
    have hS33:=hS21.addNil 9 1
    exact ⟨[],(11:Int),(.slice none 0 0),rfl,(St.back (hS33.keep 1 (ms':=[vec (.slice none 0 0) 9 1 0 []]) rfl) (Sub.refl _)),(by simp [Sml]),hP⟩
  ·
   replace hP:=hP.2 ht2
   refine wp_exit (z70 (z70 (j96 (Q5 (Q8 (Q9 (v:=(.slice none 0 0)) rfl (wpList_nil (Q5 (Q8 (u35 (fun y:Bool=>(Value.bool (y))) hS17 ?_))))))))))
   intro b6 w17 hS34
   refine v7j (cs:=[(.map none)]) hS34 Tryz.zeroValue127 rfl ?_
   intro b7 w18 hS35
   refine v7i (T:=127) (vs:=[(.map (some b6))]) (cs':=[(.map (some b6))]) (ms':=(blk b7 127 [(.map (some b6))]::emap b6 (fun y:Bool=>(Value.bool (y))) (fun _=>none)::smap b2 (asl es2)::blk b3 126 [(.map (some b2))]::vec v6 9 1 ((cpt r1_).length) ((cpt r1_).flatMap Qp)::vec v4 9 1 ((srt nodes_p).length) ((srt nodes_p).flatMap Qp)::Ur 9 1 Qp es2)) (i:=0) hS35 rfl rfl rfl Tryz.sizeOf127 rfl (ones rfl) rfl (Nat.le_of_ble_eq_true rfl) rfl rfl ?_
   intro w19 hS36
   refine wpList_nil (Q5 (wp_seq (wp_block ?_)))
   obtain ⟨σ6,hS37,hsub6,hr9⟩:=St.freezeL (ms:=[blk b7 127 [(.map (some b6))],emap b6 (fun y:Bool=>(Value.bool (y))) (fun _=>none),smap b2 (asl es2),blk b3 126 [(.map (some b2))],vec v6 9 1 ((cpt r1_).length) ((cpt r1_).flatMap Qp),vec v4 9 1 ((srt nodes_p).length) ((srt nodes_p).flatMap Qp)]) (ms':=[blk b7 127 [(.map (some b6))],emap b6 (fun y:Bool=>(Value.bool (y))) (fun _=>none),blk b3 126 [(.map (some b2))],vec v6 9 1 ((cpt r1_).length) ((cpt r1_).flatMap Qp),vec v4 9 1 ((srt nodes_p).length) ((srt nodes_p).flatMap Qp)]) (i:=2) hS36 hF2 q5k rfl rfl
   have hS38:=hS37.addNil 9 1
   have hS39:=hS38.front 4 rfl (ms':=[vec v6 9 1 ((cpt r1_).length) ((cpt r1_).flatMap Qp),vec (.slice none 0 0) 9 1 0 [],blk b7 127 [(.map (some b6))],emap b6 (fun y:Bool=>(Value.bool (y))) (fun _=>none),blk b3 126 [(.map (some b2))],vec v4 9 1 ((srt nodes_p).length) ((srt nodes_p).flatMap Qp)]) rfl
   have hS40:=hS39.front 4 rfl (ms':=[blk b3 126 [(.map (some b2))],vec v6 9 1 ((cpt r1_).length) ((cpt r1_).flatMap Qp),vec (.slice none 0 0) 9 1 0 [],blk b7 127 [(.map (some b6))],emap b6 (fun y:Bool=>(Value.bool (y))) (fun _=>none),vec v4 9 1 ((srt nodes_p).length) ((srt nodes_p).flatMap Qp)]) rfl
   have hS41:=hS40.front 3 rfl (ms':=[blk b7 127 [(.map (some b6))],blk b3 126 [(.map (some b2))],vec v6 9 1 ((cpt r1_).length) ((cpt r1_).flatMap Qp),vec (.slice none 0 0) 9 1 0 [],emap b6 (fun y:Bool=>(Value.bool (y))) (fun _=>none),vec v4 9 1 ((srt nodes_p).length) ((srt nodes_p).flatMap Qp)]) rfl
   have hS42:=hS41.front 4 rfl (ms':=[emap b6 (fun y:Bool=>(Value.bool (y))) (fun _=>none),blk b7 127 [(.map (some b6))],blk b3 126 [(.map (some b2))],vec v6 9 1 ((cpt r1_).length) ((cpt r1_).flatMap Qp),vec (.slice none 0 0) 9 1 0 [],vec v4 9 1 ((srt nodes_p).length) ((srt nodes_p).flatMap Qp)]) rfl
   have hS43:=hS42.front 4 rfl (ms':=[vec (.slice none 0 0) 9 1 0 [],emap b6 (fun y:Bool=>(Value.bool (y))) (fun _=>none),blk b7 127 [(.map (some b6))],blk b3 126 [(.map (some b2))],vec v6 9 1 ((cpt r1_).length) ((cpt r1_).flatMap Qp),vec v4 9 1 ((srt nodes_p).length) ((srt nodes_p).flatMap Qp)]) rfl
   have hS44:=hS43.front 5 rfl (ms':=[vec v4 9 1 ((srt nodes_p).length) ((srt nodes_p).flatMap Qp),vec (.slice none 0 0) 9 1 0 [],emap b6 (fun y:Bool=>(Value.bool (y))) (fun _=>none),blk b7 127 [(.map (some b6))],blk b3 126 [(.map (some b2))],vec v6 9 1 ((cpt r1_).length) ((cpt r1_).flatMap Qp)]) rfl
   refine u00 (fun left_3 out_3 F_4 f z=> ∃(v13:Value) (v14:Value) (σ7:Hv) (g:Fr),f=(upd (upd (upd (upd g 6 v13) 7 (.pointer (some ⟨b3,0,none⟩))) 10 v14) 11 (.pointer (some ⟨b7,0,none⟩)))/\St ⟨w,σ,[]⟩ z σ7 [vec v13 9 1 left_3.length ((left_3).flatMap Qp),vec v14 9 1 out_3.length ((out_3).flatMap Qp),emap b6 (fun y:Bool=>(Value.bool (y))) F_4,blk b7 127 [(.map (some b6))],blk b3 126 [(.map (some b2))],vec v6 9 1 ((cpt r1_).length) ((cpt r1_).flatMap Qp)]/\Sub σ6 σ7/\v13.oneCell'=true/\Sml left_3.length/\v14.oneCell'=true/\Sml out_3.length) hP ⟨v4,(.slice none 0 0),σ6,_,(Jw rfl (Jw rfl (Jw rfl (Jw rfl rfl)))),hS44,(Sub.refl _),(q2p ho1.1),(show Sml (srt nodes_p).length by rw [Wx];exact hsm1),rfl,(by simp [Sml])⟩ ?_
   clear hP
   rintro left_3 out_3 F_4 Y5 hP f w20 ⟨v13,v14,σ7,g,rfl,hS45,hsub7,ho10,hl8,ho11,hl9⟩
   refine wp_seq (Q8 (Z0 (v:=v13) rfl (j01 hS45 rfl (i:=0) rfl Tryz.underlying30 ?_)))
   have hlen4:left_3.length<=9223372036854775807:=by have:=hl8;unfold Sml at this;omega
   replace hP:=hP hlen4
   refine u80 (r:=(decide ((0:Int)<((left_3.length:Nat):Int)))) rfl rfl rfl (wpList_nil (Q5 ?_))
   refine if_d ((0:Int)<((left_3.length:Nat):Int)) rfl (fun ht4=> ?_) (fun ht4=> ?_)
   ·
    replace hP:=hP.1 ht4
    refine wp_skip (Q5 (wp_block (Q8 (Z0 (v:=v13) rfl (j32 (la:=[]) (lb:=[(.pointer (some ⟨b3,0,none⟩)),(.pointer (some ⟨b7,0,none⟩))]) rfl rfl ?_)))))
    obtain ⟨Y6,hK4,hP⟩:=hP
    refine q8t (args:=[v13,(.func (.func 63) #[] #[(.pointer (some ⟨b3,0,none⟩)),(.pointer (some ⟨b7,0,none⟩))])]) rfl Tryz.call62 (Calls.mono (R:=fun e z=> ∃(r_1:Int) (σ8:Hv),e= .returned (.int .i64 r_1)/\Y6 r_1/\St ⟨w,σ,[]⟩ z σ8 [vec v13 9 1 left_3.length ((left_3).flatMap Qp),vec v14 9 1 out_3.length ((out_3).flatMap Qp),emap b6 (fun y:Bool=>(Value.bool (y))) F_4,blk b7 127 [(.map (some b6))],blk b3 126 [(.map (some b2))],vec v6 9 1 ((cpt r1_).length) ((cpt r1_).flatMap Qp)]/\Sub σ7 σ8) ?_ ?_)
    ·
     refine enter Tryz.func62 rfl rfl rfl ?_
     refine Q8 (Q9 (v:=(.int .i64 (0:Int))) rfl (wpList_nil (Q5 (wp_seq (Q8 (Z0 (v:=v13) rfl (j01 hS45 rfl (i:=0) rfl Tryz.underlying30 (Z0 (v:=(.int .i64 (0:Int))) rfl (wpList_nil (Q5 (wp_block ?_)))))))))))
     refine w9i (fun k_5 f z=> ∃(σ9:Hv) (g:Fr),f=(upd (upd (upd (upd g 0 v13) 1 (.func (.func 63) #[] #[(.pointer (some ⟨b3,0,none⟩)),(.pointer (some ⟨b7,0,none⟩))])) 7 (.int .i64 ((left_3.length:Nat):Int))) 8 (.int .i64 ((k_5:Nat):Int)))/\St ⟨w,σ,[]⟩ z σ9 [vec v13 9 1 left_3.length ((left_3).flatMap Qp),vec v14 9 1 out_3.length ((out_3).flatMap Qp),emap b6 (fun y:Bool=>(Value.bool (y))) F_4,blk b7 127 [(.map (some b6))],blk b3 126 [(.map (some b2))],vec v6 9 1 ((cpt r1_).length) ((cpt r1_).flatMap Qp)]/\Sub σ7 σ9) hP ⟨σ7,_,(Jw rfl (Jw rfl (Jw rfl (Jw rfl rfl)))),hS45,(Sub.refl _)⟩ ?_
     clear hP
     rintro k_5 Y7 hP f w21 ⟨σ9,g,rfl,hS46,hsub9⟩
     refine Q8 (y6e (r:=(decide (((k_5:Nat):Int)<((left_3.length:Nat):Int)))) rfl rfl rfl (wpList_nil (Q5 (wp_seq ?_))))
     refine if_d (((k_5:Nat):Int)<((left_3.length:Nat):Int)) rfl (fun ht5=> ?_) (fun ht5=> ?_)
     ·
      replace hP:=hP.1 ht5
      refine wp_skip (Q5 (wp_seq (wp_block (Q8 (Z0 (v:=(.int .i64 ((k_5:Nat):Int))) rfl (Q9 (v:=(.int .i64 ((k_5:Nat):Int))) rfl (wpList_nil (Q5 (Q8 (Z0 (v:=(.func (.func 63) #[] #[(.pointer (some ⟨b3,0,none⟩)),(.pointer (some ⟨b7,0,none⟩))])) rfl (Z0 (v:=v13) rfl (Z0 (v:=(.int .i64 ((k_5:Nat):Int))) rfl ?_))))))))))))
      obtain ⟨x2_,hx2⟩:=getq (l:=left_3) (k:=k_5) (by have:=ht5;omega)
      replace hP:=hP x2_ hx2
      obtain ⟨g1,cp1,hv2⟩:=w9j (hS46.get (i:=0) rfl) (Q4 hx2)
      refine B1 (k:=k_5) (a':=⟨g1,k_5*1,none⟩) hv2 rfl rfl (Q4 hx2) Tryz.underlying30 Tryz.sizeOf9 (by simp [Hp]) (q7i (v:=(.string x2_)) rfl Tryz.isAgg9 (w0b q5k (j:=0) hv2 (hS46.get (i:=0) rfl) hx2 rfl) (y6h (args:=[(.string x2_),(.pointer (some ⟨b3,0,none⟩)),(.pointer (some ⟨b7,0,none⟩))]) rfl rfl Tryz.call63 ?_))
      refine enter Tryz.func63 rfl rfl rfl ?_
      refine Q8 (Q9 (v:=(.bool false)) rfl (wpList_nil (Q5 (Q8 (q7i (v:=(.map (some b2))) rfl Tryz.isAgg126 (hS46.cell (i:=4) rfl rfl) (Z0 (v:=(.string x2_)) rfl ?_))))))
      obtain ⟨v15,hl10,hz1⟩:=RMp.at (z:= .slice none 0 0) (z0:=[]) RSl.nil hr9 x2_
      obtain ⟨a3,cap3,rfl⟩:=hz1.shape
      refine u38 (v:=(.slice a3 ((F_2 x2_).getD []).length cap3)) hl10 (View.of (Sub.trans hsub7 hsub9) hS46.view) rfl rfl Tryz.underlying126 Tryz.underlying9 Tryz.zeroValue30 (j32 (la:=[]) (lb:=[(.pointer (some ⟨b7,0,none⟩))]) rfl rfl (q8t (args:=[(.slice a3 ((F_2 x2_).getD []).length cap3),(.func (.func 65) #[] #[(.pointer (some ⟨b7,0,none⟩))])]) rfl Tryz.call64 ?_))
      refine enter Tryz.func64 rfl rfl rfl ?_
      refine Q8 (Q9 (v:=(.bool false)) rfl (wpList_nil (Q5 (Q8 (Z0 (v:=(.slice a3 ((F_2 x2_).getD []).length cap3)) rfl (Z0 (v:=(.func (.func 65) #[] #[(.pointer (some ⟨b7,0,none⟩))])) rfl ?_))))))
      obtain ⟨Y8,hK5,hP⟩:=hP
      refine q8t (args:=[(.slice a3 ((F_2 x2_).getD []).length cap3),(.func (.func 65) #[] #[(.pointer (some ⟨b7,0,none⟩))])]) rfl Tryz.call62 (Calls.mono (R:=fun e z=> ∃(r_2:Int) (σ10:Hv),e= .returned (.int .i64 r_2)/\Y8 r_2/\St ⟨w,σ,[]⟩ z σ10 [vec v13 9 1 left_3.length ((left_3).flatMap Qp),vec v14 9 1 out_3.length ((out_3).flatMap Qp),emap b6 (fun y:Bool=>(Value.bool (y))) F_4,blk b7 127 [(.map (some b6))],blk b3 126 [(.map (some b2))],vec v6 9 1 ((cpt r1_).length) ((cpt r1_).flatMap Qp)]/\Sub σ9 σ10) ?_ ?_)
      ·
       refine enter Tryz.func62 rfl rfl rfl ?_
       refine Q8 (Q9 (v:=(.int .i64 (0:Int))) rfl (wpList_nil (Q5 (wp_seq (Q8 (Z0 (v:=(.slice a3 ((F_2 x2_).getD []).length cap3)) rfl (z1i rfl Tryz.underlying30 ?_)))))))
       have hlen6:=RSl.len63 hz1
       replace hP:=hP hlen6
       refine Z0 (v:=(.int .i64 (0:Int))) rfl (wpList_nil (Q5 (wp_block ?_)))
       refine w9i (fun k_7 f z=> ∃(σ11:Hv) (g:Fr),f=(upd (upd (upd (upd g 0 (.slice a3 ((F_2 x2_).getD []).length cap3)) 1 (.func (.func 65) #[] #[(.pointer (some ⟨b7,0,none⟩))])) 7 (.int .i64 ((((F_2 x2_).getD []).length:Nat):Int))) 8 (.int .i64 ((k_7:Nat):Int)))/\St ⟨w,σ,[]⟩ z σ11 [vec v13 9 1 left_3.length ((left_3).flatMap Qp),vec v14 9 1 out_3.length ((out_3).flatMap Qp),emap b6 (fun y:Bool=>(Value.bool (y))) F_4,blk b7 127 [(.map (some b6))],blk b3 126 [(.map (some b2))],vec v6 9 1 ((cpt r1_).length) ((cpt r1_).flatMap Qp)]/\Sub σ9 σ11) hP ⟨σ9,_,(Jw rfl (Jw rfl (Jw rfl (Jw rfl rfl)))),hS46,(Sub.refl _)⟩ ?_
       clear hP
       rintro k_7 Y9 hP f w22 ⟨σ11,g,rfl,hS47,hsub11⟩
       refine Q8 (y6e (r:=(decide (((k_7:Nat):Int)<((((F_2 x2_).getD []).length:Nat):Int)))) rfl rfl rfl (wpList_nil (Q5 (wp_seq ?_))))
       refine if_d (((k_7:Nat):Int)<((((F_2 x2_).getD []).length:Nat):Int)) rfl (fun ht6=> ?_) (fun ht6=> ?_)
       ·
        replace hP:=hP.1 ht6
        refine wp_skip (Q5 (wp_seq (wp_block (Q8 (Z0 (v:=(.int .i64 ((k_7:Nat):Int))) rfl (Q9 (v:=(.int .i64 ((k_7:Nat):Int))) rfl (wpList_nil (Q5 (Q8 (Z0 (v:=(.func (.func 65) #[] #[(.pointer (some ⟨b7,0,none⟩))])) rfl (Z0 (v:=(.slice a3 ((F_2 x2_).getD []).length cap3)) rfl (Z0 (v:=(.int .i64 ((k_7:Nat):Int))) rfl ?_))))))))))))
        obtain ⟨x3_,hx3⟩:=getq (l:=((F_2 x2_).getD [])) (k:=k_7) (by have:=ht6;omega)
        replace hP:=hP x3_ hx3
        obtain ⟨ad2,cs2,ha2,hl11,hr10,hR2,hlt2⟩:=RSl.at hz1 hx3
        cases hR2
        refine B1 (k:=k_7) (a':=(ad2.add (k_7*1))) (congrArg (fun z=>Value.slice z _ _) ha2) rfl rfl hlt2 Tryz.underlying30 Tryz.sizeOf9 rfl (q7i (v:=(.string x3_)) rfl Tryz.isAgg9 (hr10.cell (View.of (Sub.trans (Sub.trans hsub7 hsub9) hsub11) hS47.view) 0 rfl rfl) (y6h (args:=[(.string x3_),(.pointer (some ⟨b7,0,none⟩))]) rfl rfl Tryz.call65 ?_))
        refine enter Tryz.func65 rfl rfl rfl ?_
        refine Q8 (Q9 (v:=(.bool false)) rfl (wpList_nil (Q5 (Q8 (q7i (v:=(.map (some b6))) rfl Tryz.isAgg127 (hS47.cell (i:=3) rfl rfl) (Z0 (v:=(.string x3_)) rfl (u36 (v:=(.bool (((F_4 x3_).getD false)))) (i:=2) hS47 rfl rfl rfl Tryz.underlying127 Tryz.underlying9 Tryz.zeroValue4 (u01 (fun y:Bool=>(Value.bool (y))) _ rfl) (u0r (r:=(!((F_4 x3_).getD false))) rfl rfl (Q9 (v:=(.bool (!((F_4 x3_).getD false)))) rfl (wpList_nil (Q5 (wp_ret (ret1 rfl (show ev _ _ _=(.bool (!((F_4 x3_).getD false))) from rfl) ?_)))))))))))))
        refine ⟨_,rfl,?_⟩
        refine wpList_nil (Q5 ?_)
        refine u6y rfl (fun ht7=> ?_) (fun ht7=> ?_)
        ·
         replace hP:=hP.2 (by first|(rw [ht7];exact Bool.false_ne_true)|simp [ht7])
         refine Q8 (Z0 (v:=(.int .i64 ((k_7:Nat):Int))) rfl (Q9 (v:=(.int .i64 ((k_7:Nat):Int))) rfl (wpList_nil (Q5 (wp_ret (j71 (q0y (q0y (j71 (q0y (ret1 rfl (show ev _ _ _=(.int .i64 ((k_7:Nat):Int)) from rfl) ?_)))))))))))
         exact ⟨((k_7:Nat):Int),σ11,rfl,hP,hS47,hsub11⟩
        ·
         replace hP:=hP.1 ht7
         refine wp_skip (y3n (Q5 (j31 (y3m (r:=((k_7+1:Nat):Int)) rfl rfl (nw (by omega) (by omega) (by have:=hlen6;omega)) (Z0 (v:=(.int .i64 ((k_7+1:Nat):Int))) rfl (wpList_nil (Q5 ?_)))))))
         exact ⟨k_7+1,_,rfl,hP,σ11,_,(Jw rfl (Jw rfl (Jw rfl (Jw rfl rfl)))),hS47,hsub11⟩
       ·
        replace hP:=hP.2 ht6
        refine wp_exit (z70 (z70 (j96 (Q5 (Q8 (Q9 (v:=(.int .i64 (-1:Int))) rfl (wpList_nil (Q5 (wp_ret (ret1 rfl (show ev _ _ _=(.int .i64 (-1:Int)) from rfl) ?_))))))))))
        exact ⟨(-1:Int),σ11,rfl,hP,hS47,hsub11⟩
      ·
       rintro _ w23 ⟨r_2,σ10,rfl,hY4,hS48,hsub10⟩
       refine ⟨_,rfl,?_⟩
       replace hP:=hK5 r_2 hY4
       refine u6v (r:=(decide ((0:Int)<=r_2))) rfl rfl rfl (Q9 (v:=(.bool (decide ((0:Int)<=r_2)))) rfl (wpList_nil (Q5 (wp_ret (ret1 rfl (show ev _ _ _=(.bool (decide ((0:Int)<=r_2))) from rfl) ?_)))))
       refine ⟨_,rfl,?_⟩
       refine u0r (r:=(!decide ((0:Int)<=r_2))) rfl rfl (Q9 (v:=(.bool (!decide ((0:Int)<=r_2)))) rfl (wpList_nil (Q5 (wp_ret (ret1 rfl (show ev _ _ _=(.bool (!decide ((0:Int)<=r_2))) from rfl) ?_)))))
       refine ⟨_,rfl,?_⟩
       refine wpList_nil (Q5 ?_)
       refine u6x ((0:Int)<=r_2) rfl (fun ht8=> ?_) (fun ht8=> ?_)
       ·
        replace hP:=hP.2 ht8
        refine Q8 (Z0 (v:=(.int .i64 ((k_5:Nat):Int))) rfl (Q9 (v:=(.int .i64 ((k_5:Nat):Int))) rfl (wpList_nil (Q5 (wp_ret (j71 (q0y (q0y (j71 (q0y (ret1 rfl (show ev _ _ _=(.int .i64 ((k_5:Nat):Int)) from rfl) ?_)))))))))))
        exact ⟨((k_5:Nat):Int),σ10,rfl,hP,hS48,(Sub.trans hsub9 hsub10)⟩
       ·
        replace hP:=hP.1 ht8
        refine wp_skip (y3n (Q5 (j31 (y3m (r:=((k_5+1:Nat):Int)) rfl rfl (nw (by omega) (by omega) (by have:=hlen4;omega)) (Z0 (v:=(.int .i64 ((k_5+1:Nat):Int))) rfl (wpList_nil (Q5 ?_)))))))
        exact ⟨k_5+1,_,rfl,hP,σ10,_,(Jw rfl (Jw rfl (Jw rfl (Jw rfl rfl)))),hS48,(Sub.trans hsub9 hsub10)⟩
     ·
      replace hP:=hP.2 ht5
      refine wp_exit (z70 (z70 (j96 (Q5 (Q8 (Q9 (v:=(.int .i64 (-1:Int))) rfl (wpList_nil (Q5 (wp_ret (ret1 rfl (show ev _ _ _=(.int .i64 (-1:Int)) from rfl) ?_))))))))))
      exact ⟨(-1:Int),σ9,rfl,hP,hS46,hsub9⟩
    ·
     rintro _ w24 ⟨r_1,σ8,rfl,hY5,hS49,hsub8⟩
     refine ⟨_,rfl,?_⟩
     replace hP:=hK4 r_1 hY5
     refine Q9 (v:=(.int .i64 r_1)) rfl (wpList_nil (Q5 (wp_seq (Q8 (Z0 (v:=(.int .i64 r_1)) rfl (y6e (r:=(decide (r_1<(0:Int)))) rfl rfl rfl (wpList_nil (Q5 ?_))))))))
     refine if_d (r_1<(0:Int)) rfl (fun ht9=> ?_) (fun ht9=> ?_)
     ·
      replace hP:=hP.1 ht9
      refine Q8 (Q9 (v:=(.slice none 0 0)) rfl (Q9 (v:=(.int .i64 (12:Int))) rfl (wpList_nil (Q5 (wp_ret (q0y (j71 (q0y (j71 (q0y (ret2 rfl (show ev _ _ _=(.slice none 0 0) from rfl) (show ev _ _ _=(.int .i64 (12:Int)) from rfl) ?_)))))))))))
      have hS50:=hS49.addNil 9 1
      exact ⟨[],(12:Int),(.slice none 0 0),rfl,(St.back (hS50.keep 1 (ms':=[vec (.slice none 0 0) 9 1 0 []]) rfl) (Sub.refl _)),(by simp [Sml]),hP⟩
     ·
      replace hP:=hP.2 ht9
      refine wp_skip (Q5 (Q8 (Z0 (v:=v14) rfl (Z0 (v:=v13) rfl (Z0 (v:=(.int .i64 r_1)) rfl ?_)))))
      obtain ⟨j1_,hj1,hP⟩:=hP
      obtain ⟨x4_,hx4,hP⟩:=hP
      obtain ⟨g2,cp2,hv3⟩:=w9j (hS49.get (i:=0) rfl) (Q4 hx4)
      refine B1 (k:=j1_) (a':=⟨g2,j1_*1,none⟩) hv3 rfl hj1 (Q4 hx4) Tryz.underlying30 Tryz.sizeOf9 (by simp [Hp]) (q7i (v:=(.string x4_)) rfl Tryz.isAgg9 (w0b q5k (j:=0) hv3 (hS49.get (i:=0) rfl) hx4 rfl) (j9i (cs:=[(.string x4_)]) (e:=9) hS49 (fun _=>by kernel_rfl) ?_))
      intro b8 w25 hS51
      obtain ⟨hsm4,hP⟩:=hP
      refine u37 (Ms:=fun v16=>[blk b8 9 [(.string x4_)],vec v13 9 1 left_3.length ((left_3).flatMap Qp),vec v16 9 1 ((out_3++[x4_]).length) ((out_3++[x4_]).flatMap Qp),emap b6 (fun y:Bool=>(Value.bool (y))) F_4,blk b7 127 [(.map (some b6))],blk b3 126 [(.map (some b2))],vec v6 9 1 ((cpt r1_).length) ((cpt r1_).flatMap Qp)]) (k':=(out_3++[x4_]).length) (xs':=(out_3++[x4_]).flatMap Qp) Tryz.underlying30 Tryz.type9 rfl rfl (bytes:=16) rfl rfl (Nat.succ_pos _) hS51 rfl (q:=2) rfl rfl rfl (q9p (hS51.get (i:=0) rfl)) (ones rfl) hsm4 (by omega) (by first|rfl|exact List.length_append.symm|simp) (by simp [Qp]) (fun _=>rfl) ?_
      intro v16 w26 ho12 hS52
      have hS53:=hS52.drop 0 (ms':=[vec v13 9 1 left_3.length ((left_3).flatMap Qp),vec v16 9 1 ((out_3++[x4_]).length) ((out_3++[x4_]).flatMap Qp),emap b6 (fun y:Bool=>(Value.bool (y))) F_4,blk b7 127 [(.map (some b6))],blk b3 126 [(.map (some b2))],vec v6 9 1 ((cpt r1_).length) ((cpt r1_).flatMap Qp)]) rfl
      refine Q9 (v:=v16) rfl (wpList_nil (Q5 (wp_seq (dr (fun z=>St ⟨w,σ,[]⟩ z σ8 [vec v13 9 1 left_3.length ((left_3).flatMap Qp),vec v16 9 1 ((out_3++[x4_]).length) ((out_3++[x4_]).flatMap Qp),blk b7 127 [(.map (some b6))],blk b3 126 [(.map (some b2))],vec v6 9 1 ((cpt r1_).length) ((cpt r1_).flatMap Qp)]) (by kernel_rfl) rfl ?_))))
      have hS54:=hS53.drew
      refine dt 0 1 (v:=(.map (some b6))) (by kernel_rfl) rfl rfl (fun _ _ _ h=>h) (hS54.sublist (.cons_cons _ (.cons_cons _ (.cons _ (List.Sublist.refl _))))) (fun _ hJ _ hK=>q7i (v:=(.map (some b6))) rfl Tryz.isAgg127 (hJ.cell (i:=2) rfl rfl) ⟨rfl,hK⟩) (dt 1 3 (v:=v13) (by kernel_rfl) rfl rfl (fun _ _ _ h=>h) (hS54.sublist (.cons_cons _ (.cons_cons _ (.cons _ (List.Sublist.refl _))))) (fun _ _ _ hK=>Z0 (v:=v13) rfl ⟨rfl,hK⟩) (dt 2 7 (v:=(.int .i64 r_1)) (by kernel_rfl) rfl rfl (fun _ _ _ h=>h) (hS54.sublist (.cons_cons _ (.cons_cons _ (.cons _ (List.Sublist.refl _))))) (fun _ _ _ hK=>Z0 (v:=(.int .i64 r_1)) rfl ⟨rfl,hK⟩) ?_))
      obtain ⟨j2_,hj2,hP⟩:=hP
      obtain ⟨x5_,hx5,hP⟩:=hP
      obtain ⟨g3,cp3,hv4⟩:=w9j (hS54.get (i:=0) rfl) (Q4 hx5)
      refine dt 3 15 (v:=(.pointer (some ⟨g3,j2_*1,none⟩))) (by kernel_rfl) rfl rfl (fun _ _ _ h=>h) (hS54.sublist (.cons_cons _ (.cons_cons _ (.cons _ (List.Sublist.refl _))))) (fun _ _ _ hK=>B1 (k:=j2_) (a':=⟨g3,j2_*1,none⟩) hv4 rfl hj2 (Q4 hx5) Tryz.underlying30 Tryz.sizeOf9 (by simp [Hp]) ⟨rfl,hK⟩) (dt 4 31 (v:=(.string x5_)) (by kernel_rfl) rfl rfl (fun _ _ _ h=>h) (hS54.sublist (.cons_cons _ (.cons_cons _ (.cons _ (List.Sublist.refl _))))) (fun _ hJ _ hK=>q7i (v:=(.string x5_)) rfl Tryz.isAgg9 (w0b q5k (j:=0) hv4 (hJ.get (i:=0) rfl) hx5 rfl) ⟨rfl,hK⟩) (d1 5 63 (by kernel_rfl) rfl (u64 (y0:=true) (i:=2) (ms':=[vec v13 9 1 left_3.length ((left_3).flatMap Qp),vec v16 9 1 ((out_3++[x4_]).length) ((out_3++[x4_]).flatMap Qp),emap b6 (fun y:Bool=>(Value.bool (y))) (put F_4 x5_ true),blk b7 127 [(.map (some b6))],blk b3 126 [(.map (some b2))],vec v6 9 1 ((cpt r1_).length) ((cpt r1_).flatMap Qp)]) hS54 rfl rfl rfl rfl Tryz.underlying127 Tryz.underlying9 rfl ?_)))
      intro w27 hS55
      refine wpList_nil ?_
      refine ⟨rfl,(hS55.sublist (.cons_cons _ (.cons_cons _ (.cons _ (List.Sublist.refl _))))),j9j (J':=fun z=>St ⟨w,σ,[]⟩ z σ8 [vec v13 9 1 left_3.length ((left_3).flatMap Qp),vec v16 9 1 ((out_3++[x4_]).length) ((out_3++[x4_]).flatMap Qp),emap b6 (fun y:Bool=>(Value.bool (y))) (put F_4 x5_ true),blk b7 127 [(.map (some b6))],blk b3 126 [(.map (some b2))],vec v6 9 1 ((cpt r1_).length) ((cpt r1_).flatMap Qp)]) (fun w h=>h.sublist (.cons_cons _ (.cons_cons _ (.cons _ (List.Sublist.refl _))))) _ _ _ _ ?_⟩
      refine dz (by kernel_rfl) (Q5 (j31 (Z0 (v:=v13) rfl (Z0 (v:=(.int .i64 r_1)) rfl (Z0 (v:=(.int .i64 r_1)) rfl ?_)))))
      obtain ⟨hi1,hP⟩:=hP
      refine y3m (r:=(r_1+(1:Int))) rfl rfl (nwi rfl hi1) ?_
      obtain ⟨j3_,hj3,hP⟩:=hP
      obtain ⟨hd1,hP⟩:=hP
      obtain ⟨hd2,hP⟩:=hP
      obtain ⟨hsm5,hP⟩:=hP
      have hd3:r_1=((j3_:Nat):Int)/\(r_1+(1:Int))=((j3_+1:Nat):Int):=⟨by omega,by omega⟩
      refine q8t (args:=[v13,(.int .i64 ((j3_:Nat):Int)),(.int .i64 ((j3_+1:Nat):Int))]) (by rw [←hd3.1,←hd3.2];rfl) Tryz.call66 (Calls.mono (y3q (i:=j3_) (j:=(j3_+1)) Tryz.slices_Delete_string hS55.view (hS55.get (i:=0) rfl) (fun b hb=>hS55.off _ (List.mem_of_getElem? (i:=0) rfl) b hb) (by omega) hd2 hd1) ?_)
      rintro _ w28 ⟨v17,rfl,hf2,hg7,ho13⟩
      refine ⟨_,rfl,?_⟩
      have ho14:=q2p ho13
      have hS56:=hS55.growV (i:=0) (o':=vec v17 9 1 ((left_3.take j3_++left_3.drop (j3_+1)).length) ((left_3.take j3_++left_3.drop (j3_+1)).flatMap Qp)) rfl hg7 hf2 ho13 (ms':=[vec v17 9 1 ((left_3.take j3_++left_3.drop (j3_+1)).length) ((left_3.take j3_++left_3.drop (j3_+1)).flatMap Qp),vec v16 9 1 ((out_3++[x4_]).length) ((out_3++[x4_]).flatMap Qp),emap b6 (fun y:Bool=>(Value.bool (y))) (put F_4 x5_ true),blk b7 127 [(.map (some b6))],blk b3 126 [(.map (some b2))],vec v6 9 1 ((cpt r1_).length) ((cpt r1_).flatMap Qp)]) rfl
      refine Q9 (v:=v17) rfl (wpList_nil (y3n (Q5 ?_)))
      exact ⟨left_3.take j3_++left_3.drop (j3_+1),out_3++[x4_],put F_4 x5_ true,_,rfl,hP,v17,v16,σ8,_,(Jw rfl (Jw rfl (Jw rfl (Jw rfl rfl)))),hS56,(Sub.trans hsub7 hsub8),ho14,hsm5,ho12,hsm4⟩
   ·
    replace hP:=hP.2 ht4
    refine wp_exit (z70 (z70 (j96 (Q5 (Q8 (Z0 (v:=v14) rfl (Q9 (v:=v14) rfl (Q9 (v:=(.int .i64 (0:Int))) rfl (wpList_nil (Q5 (wp_ret (ret2 rfl (show ev _ _ _=v14 from rfl) (show ev _ _ _=(.int .i64 (0:Int)) from rfl) ?_))))))))))))
    have hS57:=hS45.front 1 rfl (ms':=[vec v14 9 1 out_3.length ((out_3).flatMap Qp),vec v13 9 1 left_3.length ((left_3).flatMap Qp),emap b6 (fun y:Bool=>(Value.bool (y))) F_4,blk b7 127 [(.map (some b6))],blk b3 126 [(.map (some b2))],vec v6 9 1 ((cpt r1_).length) ((cpt r1_).flatMap Qp)]) rfl
    exact ⟨out_3,(0:Int),v14,rfl,(St.back (hS57.keep 1 (ms':=[vec v14 9 1 out_3.length ((out_3).flatMap Qp)]) rfl) (Sub.refl _)),hl9,hP⟩
end Go.Proofs.YthpeboomdlgfaaaGreatDoor
end
noncomputable section
set_option maxRecDepth 100000
open Go Go.RowKit Go.Fl Go.Fl.Lk Go.Fx
namespace Go.En
theorem v0b {σ:Hv} {w:World} {g:Nat} {T:C} {n:Nat} {l:List (car T)} (hV:View σ w) (hs:SRep D (fun _=>none) σ (.pointer (some ⟨g,0,none⟩)) (.fap T n l)) {i j:Nat} {x:car T} {s:FV Sg} (hx:l[i]? =some x) (hj:(D.shape T x)[j]? =some s) (hz:j<D.size T):
  ∃v,w.cell? ⟨g,i*D.size T+j,none⟩=some v/\RepF D σ v s:=by
 generalize hq:Value.pointer (some (⟨g,0,none⟩:Addr))=q at hs
 cases hs with
 |fap ad cs T' N l' hN h hl hr=>
  cases hq
  have hrow:=hr i x hx
  have hlen:=okP.ok.len T x
  have hjl:j<((cs.drop (i*D.size T)).take (D.size T)).length:=by rw [hrow.1,hlen];exact hz
  obtain ⟨v,hv⟩: ∃v,((cs.drop (i*D.size T)).take (D.size T))[j]? =some v:=⟨_,List.getElem?_eq_getElem hjl⟩
  refine ⟨v,?_,hrow.2 j v s hv hj⟩
  rw [List.getElem?_take,if_pos hz,List.getElem?_drop] at hv
  have:=hV.cell (h _ v hv)
  rw [Hp,Nat.zero_add] at this
  exact this
theorem u2b: ∀c,c<256->y2o[c]? =some ((Go.Lib.firstT c:Nat):Int):=by decide
theorem u7t: ∀i,i<16->(w01[i]?).map (fun a=>(a.lo,a.hi))=some (((Go.Lib.accLo i:Nat):Int),((Go.Lib.accHi i:Nat):Int)):=by decide
theorem tabs {σ:Hv} {w:World} (hV:View σ w) (hG:Glb D σ):Go.Lib.Utf8Tabs (Proofs.Tryz.lays196_ren.g 3) (Proofs.Tryz.lays196_ren.g 4) w:=by
 refine ⟨fun c hc=> ?_,fun i hi=> ?_⟩
 ·have h:=hG.known (Proofs.Tryz.lays196_ren.g 3)
  obtain ⟨v,h1,h2⟩:=v0b (T:= .u8) (n:=256) (l:=y2o) hV h (i:=c) (j:=0) (u2b c hc) rfl (by decide)
  cases h2
  simpa [show D.size C.u8=1 from rfl] using h1
 ·have h:=hG.known (Proofs.Tryz.lays196_ren.g 4)
  have ha:=u7t i hi
  obtain ⟨a,e1,e2⟩:=Option.map_eq_some_iff.1 ha
  obtain ⟨v,h1,h2⟩:=v0b (T:= .acc) (n:=16) (l:=w01) hV h (i:=i) (j:=0) e1 rfl (by decide)
  obtain ⟨v',h1',h2'⟩:=v0b (T:= .acc) (n:=16) (l:=w01) hV h (i:=i) (j:=1) e1 rfl (by decide)
  cases h2;cases h2'
  simp only [Prod.mk.injEq] at e2
  rw [e2.1] at h1;rw [e2.2] at h1'
  refine ⟨by rw [Nat.mul_comm];simpa [show D.size C.acc=2 from rfl] using h1,by rw [Nat.mul_comm];simpa [show D.size C.acc=2 from rfl] using h1'⟩
theorem v8z {w w':World} (h:Below w.heap.size w w'):Keeps [] w w':=⟨h.os,h.tape,h.output,h.size,fun k hk _=>h.block k hk⟩
theorem z0o {σ:Hv} {w w1:World} {args:List (Tr Sg)} {vals:List Value} {K:List (Tr Sg)->List (Tr Sg)->Prop} {rets outs:List (Tr Sg)} {rv:List Value} (hS:St ⟨w,σ,feet []⟩ w σ []) (hK:K rets outs) (hb:Below w.heap.size w w1) (hL:LayL D σ rets rv []) (hT:LayT D σ args outs vals [] []):
  Back D σ w args vals [] K (.returned (retV rv)) w1:=by
 have hk:=v8z hb
 refine ⟨rets,outs,rv,σ,[],[],rfl,hK,hL,hT,?_⟩
 refine ⟨hk,fun b o hbo=> ?_,Sub.refl _,fun _ _ _=>rfl,by simp,by simp,by simp,by simp⟩
 have h1:=hS.view b o hbo
 have hlt:b<w.heap.size:=by
  rcases Nat.lt_or_ge b w.heap.size with h|h
  ·exact h
  ·rw [Array.getElem?_eq_none h] at h1;cases h1
 rw [hk.block b hlt (by simp)];exact h1
theorem j1s:Qn Proofs.Tryz.prog D 200 (conV ([.v]:LP) ([.str]:LV) ([.bool]:LV) ([.same]:LV) (fun a K=>Jp a.1 (fun q0=>K (q0,()) ((),())))):=by
 intro args K hm w σ vals ins hG hL hS
 obtain ⟨a,ha,hm⟩:=Qs hm
 have hargs:=U4 ha
 subst hargs
 obtain ⟨s,_⟩:=a
 cases hL with
 |cons hp hr=>
 cases hr
 cases hp with
 |f hf=>
 cases hf
 have hm:s.size<=9223372036854775807/\K [.f (.bool (Go.Lib.validD s.data.toList))] [.same]:=hm
 refine Calls.mono (Go.Proofs.Any.utf8_ValidString Proofs.Tryz.lays196 s w hm.1 (tabs hS.view hG)) ?_
 rintro e w' ⟨rfl,hb⟩
 exact z0o (rv:=[.bool (Go.Lib.validD s.data.toList)]) hS hm.2 hb (.cons (ms:=[]) (.f (.bool _)) .nil) (.skip (a0:=[]) .nil)
theorem j1t:Qn Proofs.Tryz.prog D 172 (conV ([.v,.v]:LP) ([.str,.str]:LV) ([.bool]:LV) ([.same,.same]:LV) (fun a K=>U9 a.1 a.2.1 (fun q0=>K (q0,()) ((),(),())))):=by
 intro args K hm w σ vals ins hG hL hS
 obtain ⟨a,ha,hm⟩:=Qs hm
 have hargs:=U4 ha
 subst hargs
 obtain ⟨s,t,_⟩:=a
 cases hL with
 |cons hp hr=>
 cases hr with
 |cons hq hr=>
 cases hr
 cases hp with
 |f hf=>
 cases hf
 cases hq with
 |f hf=>
 cases hf
 have hm:s.size<4294967281/\K [.f (.bool (Go.Lib.contains s.data.toList t.data.toList))] [.same,.same]:=hm
 obtain ⟨n,hn⟩:=hG.free 5 .i64 rfl
 refine Calls.mono (Proofs.Tryz.strings_Contains s t n w hm.1 (hS.view.cell hn)) ?_
 rintro e w' ⟨rfl,rfl⟩
 exact z0o (rv:=[.bool (Go.Lib.contains s.data.toList t.data.toList)]) hS hm.2 (Below.refl _ _) (.cons (ms:=[]) (.f (.bool _)) .nil) (.skip (a0:=[]) (.skip (a0:=[]) .nil))
theorem w5n:Qn Proofs.Tryz.prog D 231 (conV ([.v]:LP) ([.str]:LV) ([.int .i64,.ifc]:LV) ([.same]:LV) (fun a K=>Rv a.1 (fun q0 q1=>K (q0,q1,()) ((),())))):=by
 intro args K hm w σ vals ins hG hL hS
 obtain ⟨a,ha,hm⟩:=Qs hm
 have hargs:=U4 ha
 subst hargs
 obtain ⟨s,_⟩:=a
 cases hL with
 |cons hp hr=>
 cases hr
 cases hp with
 |f hf=>
 cases hf
 have hm:s.size<=281474976710656/\u2a s (fun n b=>K [.f (.int .i64 n),.f (.ifc b)] [.same]):=hm
 obtain ⟨hsz,hm⟩:=hm
 have err: ∀g:Nat,D.glob g= .fptr [.ifc false] 0-> ∃ev,w.cell? ⟨g,0,none⟩=some ev/\(ev= .nilIface∨ ∃te pe,ev= .iface te pe):=by
  intro g hg
  have h:=hG.known g
  rw [hg] at h
  generalize hq:Value.pointer (some (⟨g,0,none⟩:Addr))=q at h
  cases h with
  |fptr ad cs l off hv hr=>
  cases hq
  obtain ⟨v,hvl⟩: ∃v,cs=[v]:=List.length_eq_one_iff.1 hr.1
  subst hvl
  have hc:=hS.view.cell (hv 0 v rfl)
  have hR:=hr.2 0 v _ rfl rfl
  refine ⟨v,?_,?_⟩
  ·rw [Hp] at hc;exact hc
  ·cases hR with
   |ifcS t p=>exact .inr ⟨t,p,rfl⟩
 unfold u2a at hm
 split at hm
 ·rename_i v hv
  refine Calls.mono (Proofs.Tryz.strconv_Atoi_ok s (by omega) v hv w) ?_
  rintro e w' ⟨rfl,hw⟩
  have hb:Below w.heap.size w w':=by
   rcases hw with rfl|⟨t,rfl⟩
   ·exact Below.refl _ _
   ·exact Go.Lib.bytesWorld_below _ _ _
  exact z0o (rv:=[.int .i64 v,.nilIface]) hS hm hb (.cons (ms:=[]) (.f (.int _ _)) (.cons (ms:=[]) (.f .ifcN) .nil)) (.skip (a0:=[]) .nil)
 ·rename_i hv
  obtain ⟨ev,h1,h2⟩:=err 7 rfl
  refine Calls.mono (Proofs.Tryz.strconv_Atoi_range s hsz hv ev w h1 h2) ?_
  rintro e w' ⟨N,rfl,_,_,hb⟩
  exact z0o (rv:=[.int .i64 _,.iface _ _]) hS hm hb (.cons (ms:=[]) (.f (.int _ _)) (.cons (ms:=[]) (.f (.ifcS _ _)) .nil)) (.skip (a0:=[]) .nil)
 ·rename_i hv
  obtain ⟨ev,h1,h2⟩:=err 6 rfl
  refine Calls.mono (Proofs.Tryz.strconv_Atoi_syntax s hsz hv ev w h1 h2) ?_
  rintro e w' ⟨N,rfl,_,_,hb⟩
  exact z0o (rv:=[.int .i64 _,.iface _ _]) hS hm hb (.cons (ms:=[]) (.f (.int _ _)) (.cons (ms:=[]) (.f (.ifcS _ _)) .nil)) (.skip (a0:=[]) .nil)
theorem j9x (l:List ByteArray):l.flatMap Qp=l.map Value.string:=by
 induction l with
 |nil=>rfl
 |cons a l ih=>rw [List.flatMap_cons,List.map_cons,ih];rfl
theorem u7u (l:List ByteArray):(cpt l).length<=l.length:=by
 unfold cpt Go.Lib.compact
 rw [List.length_map]
 have h: ∀(d:Array (List UInt8)) (m:Nat),(Go.Lib.compactUpTo d m).length<=m:=by
  intro d m
  unfold Go.Lib.compactUpTo
  rw [List.length_map]
  exact Nat.le_trans (List.length_filter_le _ _) (by simp)
 simpa using h _ _
theorem y8x {σ:Hv} {xs:List Value} {l:List ByteArray} (h:Els D σ C.str xs l):xs=l.flatMap Qp:=by
 have h1:xs.length=l.length:=by rw [h.1];exact Nat.mul_one _
 rw [j9x]
 refine List.ext_getElem? fun i=> ?_
 rw [List.getElem?_map]
 rcases Nat.lt_or_ge i l.length with hi|hi
 ·obtain ⟨v,hv⟩: ∃v,xs[i]? =some v:=⟨_,List.getElem?_eq_getElem (by omega)⟩
  obtain ⟨x,hx⟩: ∃x,l[i]? =some x:=⟨_,List.getElem?_eq_getElem hi⟩
  have hR:=(h.2 i x hx).2 0 v (.str x) (by rw [show D.size C.str=1 from rfl,Nat.mul_one,List.getElem?_take,if_pos (by decide),List.getElem?_drop];exact hv) rfl
  rw [hv,hx]
  cases hR
  rfl
 ·rw [List.getElem?_eq_none (by omega),List.getElem?_eq_none hi];rfl
theorem v0c (σ:Hv) (l:List ByteArray):Els D σ C.str (l.flatMap Qp) l:=by
 rw [j9x]
 refine ⟨by rw [List.length_map];exact (Nat.mul_one _).symm,fun i x hx=> ?_⟩
 rw [show D.size C.str=1 from rfl,Nat.mul_one]
 have hx:l[i]? =some x:=hx
 have e:((l.map Value.string).drop i).take 1=[.string x]:=by
  rw [←List.map_drop,List.drop_eq_getElem_cons (List.getElem?_eq_some_iff.1 hx).1,(List.getElem?_eq_some_iff.1 hx).2];rfl
 rw [e]
 refine ⟨rfl,fun j v s hj hs=> ?_⟩
 cases j with
 |zero=>cases hj;cases hs;exact .str x
 |succ j=>cases hj
theorem q6q:Qn Proofs.Tryz.prog D 30 (conV ([.own 9 C.str]:LP) ([.vec 9 C.str]:LV) ([]:LV) ([.vec 9 C.str]:LV) (fun a K=>Zd a.1 (fun q0=>K () (q0,())))):=by
 intro args K hm w σ vals ins hG hL hS
 obtain ⟨a,ha,hm⟩:=Qs hm
 have hargs:=U4 ha
 subst hargs
 obtain ⟨s,_⟩:=a
 cases hL with
 |cons hp hr=>
 cases hr
 cases hp with
 |vec hE hl h1=>
 have hx:=y8x hE
 subst hx
 have hm:K [] [.vec 9 C.str (srt s)]:=hm
 refine Calls.mono (y1q Proofs.Tryz.slices_Sort_string Proofs.Tryz.slices_Sort_string_none hS.view (hS.get (i:=0) rfl) rfl (fun b hb=>hS.off _ (List.mem_of_getElem? (i:=0) rfl) b hb) (by omega)) ?_
 rintro _ w1 ⟨rfl,hg,ho⟩
 have hS1:=hS.growV (i:=0) (o':=vec _ 9 1 s.length ((srt s).flatMap Qp)) rfl hg rfl ho (ms':=[vec _ 9 1 s.length ((srt s).flatMap Qp)]) rfl
 refine ⟨[],_,[],σ,[],[vec _ 9 1 (srt s).length ((srt s).flatMap Qp)],rfl,hm,.nil,.keep (.vec (v0c σ _) (Nat.le_trans (Nat.le_of_eq (Wx _)) hl) h1) .nil,?_⟩
 have e:(srt s).length=s.length:=Wx _
 rw [e];exact hS1
theorem q4i:Qn Proofs.Tryz.prog D 31 (conV ([.own 9 C.str]:LP) ([.vec 9 C.str]:LV) ([.vec 9 C.str]:LV) ([.same]:LV) (fun a K=>Z9 a.1 (fun q0=>K (q0,()) ((),())))):=by
 intro args K hm w σ vals ins hG hL hS
 obtain ⟨a,ha,hm⟩:=Qs hm
 have hargs:=U4 ha
 subst hargs
 obtain ⟨s,_⟩:=a
 cases hL with
 |cons hp hr=>
 cases hr
 cases hp with
 |vec hE hl h1=>
 have hx:=y8x hE
 subst hx
 have hm:K [.vec 9 C.str (cpt s)] [.same]:=hm
 refine Calls.mono (w0a Proofs.Tryz.slices_Compact_string Proofs.Tryz.slices_Compact_string_empty hS.view (hS.get (i:=0) rfl) rfl (fun b hb=>hS.off _ (List.mem_of_getElem? (i:=0) rfl) b hb) (by omega)) ?_
 rintro _ w1 ⟨v1,rfl,hf,hg,ho⟩
 have hlc:(cpt s).length<=140737488355328:=Nat.le_trans (u7u _) hl
 have hS1:=hS.growV (i:=0) (o':=vec v1 9 1 (cpt s).length ((cpt s).flatMap Qp)) rfl hg hf ho (ms':=[vec v1 9 1 (cpt s).length ((cpt s).flatMap Qp)]) rfl
 exact ⟨[.vec 9 C.str (cpt s)],[.same],[v1],σ,[vec v1 9 1 (cpt s).length ((cpt s).flatMap Qp)],[],rfl,hm,.cons (.vec (v0c σ _) hlc (q2p ho)) .nil,.skip .nil,hS1⟩
theorem u5o {σ:Hv} {v:Value} {l:List ByteArray} (h:RepF D σ v (.sl C.str l)):RSl 1 (REnc Qp) σ v l:=by
 obtain ⟨a,cap,e1,e2,e3,e4⟩:=h.toRSl okP.ok
 refine ⟨a,cap,e1,e2,e3,fun i x hx=> ?_⟩
 obtain ⟨ad,cs,f1,f2,f3,f4⟩:=e4 i x hx
 refine ⟨ad,cs,f1,f2,f3,?_⟩
 obtain ⟨u,rfl⟩: ∃u,cs=[u]:=List.length_eq_one_iff.1 f2
 have g1:=f4.2 0 u (.str x) rfl rfl
 cases g1
 rfl
theorem u2c {σ:Hv} {v:Value} {l:List Edg} (h:RepF D σ v (.sl C.edge l)):RSl 2 (REnc u66) σ v (l.map fun e=>(e.1,e.2)):=by
 obtain ⟨a,cap,e1,e2,e3,e4⟩:=h.toRSl okP.ok
 have hl:(l.map fun e=>(e.1,e.2)).length=l.length:=List.length_map ..
 refine ⟨a,cap,by rw [hl];exact e1,by rw [hl];exact e2,by rw [hl];exact e3,fun i x hx=> ?_⟩
 rw [List.getElem?_map] at hx
 obtain ⟨y,hy,rfl⟩:=Option.map_eq_some_iff.1 hx
 obtain ⟨ad,cs,f1,f2,f3,f4⟩:=e4 i y hy
 refine ⟨ad,cs,f1,f2,f3,?_⟩
 obtain ⟨u,v,rfl⟩: ∃u v,cs=[u,v]:=by
  match cs,f2 with
  |[u,v],_=>exact ⟨u,v,rfl⟩
 have g1:=f4.2 0 u (.str y.src) rfl rfl
 have g2:=f4.2 1 v (.str y.dst) rfl rfl
 cases g1;cases g2
 rfl
theorem v0d:Qn Proofs.Tryz.prog D 33 (conV ([.sl C.str,.sl C.edge]:LP) ([.sl C.str,.sl C.edge]:LV) ([.vec 9 C.str,.int .i64]:LV) ([.same,.same]:LV) (fun a K=>P_graph_Order a.1 a.2.1 (fun q0 q1=>K (q0,q1,()) ((),(),())))):=by
 intro args K hm w σ vals ins hG hL hS
 obtain ⟨a,ha,hm⟩:=Qs hm
 have hargs:=U4 ha
 subst hargs
 obtain ⟨s,t,_⟩:=a
 cases hL with
 | @cons _ _ v1 _ _ _ hp hr=>
 cases hr with
 | @cons _ _ v2 _ _ _ hq hr=>
 cases hr
 cases hp with
 |f hf1=>
 cases hq with
 |f hf2=>
 have hm:Go.Fl.P_graph_Order s (t.map fun e=>(e.1,e.2)) (fun l n=>K [.vec 9 C.str l,.f (.int .i64 n)] [.same,.same]):=hm
 refine Calls.mono (Go.Proofs.YthpeboomdlgfaaaGreatDoor.w_graph_Order s (t.map fun e=>(e.1,e.2)) v1 v2 hS.view (u5o hf1) (u2c hf2) hm) ?_
 rintro e w1 ⟨l,n,v,rfl,hS1,hsm,hK⟩
 have hl:l.length<=140737488355328:=by unfold Sml at hsm;omega
 exact ⟨[.vec 9 C.str l,.f (.int .i64 n)],[.same,.same],[v,.int .i64 n],σ,[vec v 9 1 l.length (l.flatMap Qp)],[],rfl,hK,.cons (.vec (v0c σ _) hl (q2p (hS1.get (i:=0) rfl))) (.cons (ms:=[]) (.f (.int _ _)) .nil),.skip (a0:=[]) (.skip (a0:=[]) .nil),hS1⟩
theorem w1d:Qn Proofs.Tryz.prog D 221 (conV ([.v,.v]:LP) ([.str,.str]:LV) ([.vec 9 C.str]:LV) ([.same,.same]:LV) (fun a K=>Bt a.1 a.2.1 (fun q0=>K (q0,()) ((),(),())))):=by
 intro args K hm w σ vals ins hG hL hS
 obtain ⟨a,ha,hm⟩:=Qs hm
 have hargs:=U4 ha
 subst hargs
 obtain ⟨s,t,_⟩:=a
 cases hL with
 |cons hp hr=>
 cases hr with
 |cons hq hr=>
 cases hr
 cases hp with
 |f hf=>
 cases hf
 cases hq with
 |f hf=>
 cases hf
 have hm:t.size=1/\s.size<4294967281/\K [.vec 9 C.str (q10 s t)] [.same,.same]:=hm
 obtain ⟨h1,hsz,hm⟩:=hm
 obtain ⟨n,hn⟩:=hG.free 5 .i64 rfl
 have hlen:(q10 s t).length=Go.Lib.countB s t+1:=Go.Lib.splitB_all t (by omega) 0 _ s rfl
 have hcnt:=Go.Lib.countB_le t (by omega) s.size s (Nat.le_refl _)
 refine Calls.mono (Proofs.Tryz.strings_Split s t n w hsz (hS.view.cell hn) (by omega)) ?_
 rintro e w' ⟨rfl,rfl⟩
 have ho:(vec (.slice (some ⟨w.heap.size,0,none⟩) (q10 s t).length (q10 s t).length) 9 1 (q10 s t).length ((q10 s t).flatMap Qp)).ok (w.alloc (.cells ((q10 s t).map Value.string).toArray 9)):=by
  refine ⟨by rw [j9x];simp,.inr ⟨w.heap.size,_,_,rfl,Nat.zero_le _,heap_alloc_new _ _,Nat.le_refl _,by unfold maxLen;omega,by simp,?_⟩⟩
  rw [j9x,Nat.mul_one]
  exact List.take_of_length_le (by rw [List.length_map];exact Nat.le_refl _)
 have hS1:=hS.add (Ue w _) ho (by rintro k ⟨⟩;exact Nat.le_refl _)
 have hl:(q10 s t).length<=140737488355328:=by omega
 have hr:=(⟨[.vec 9 C.str (q10 s t)],[.same,.same],[_],σ,[_],[],rfl,hm,.cons (.vec (v0c σ _) hl (q2p ho)) .nil,.skip (a0:=[]) (.skip (a0:=[]) .nil),hS1⟩:Back D σ w [.f (.str s),.f (.str t)] [.string s,.string t] [] K (.returned (retV [.slice (some ⟨w.heap.size,0,none⟩) (q10 s t).length (q10 s t).length])) (w.alloc (.cells ((q10 s t).map Value.string).toArray 9)))
 rw [hlen] at hr
 exact hr
end Go.En
end
noncomputable section
set_option maxRecDepth 100000
open Go Go.RowKit Go.Fl Go.Fl.Lk Go.Fx
namespace Go.En
theorem q5f:Ent Proofs.Tryz.prog 37:=Qh (by kernel_rfl) (by kernel_rfl) (by kernel_rfl)
def q5o (X:Wj):Con Sg:=conV ([]:LP) ([]:LV) ([.vec 114 C.decl]:LV) ([]:LV) (fun _ K=>X (fun q0=>K (q0,()) ()))
def v0e:PT:=Qi ([]:LS)
def j1u:Ev Sg:=E0
theorem w5o (K:List (Decl)->Prop):Jg K=fnV ((j1u).pl v0e) 4 37 ([]:LP) ([.own 114 C.decl]:LP) ([]:LV) ([.vec 114 C.decl]:LV) ([]:LV) () (fun r _=>K r.1):=by kernel_rfl
theorem q87:Qn Proofs.Tryz.prog D 37 (q5o Jg):=Ql (E:=j1u) h_E0 fun _ K=>w5o (fun q0=>K (q0,()) ())
theorem y4m:Ent Proofs.Tryz.prog 27:=Qh (by kernel_rfl) (by kernel_rfl) (by kernel_rfl)
def y2r (X:j9v):Con Sg:=conV ([.ptr 71 [.c,.v]]:LP) ([.ptr 71 [.sl C.u8,.int .i64]]:LV) ([.bool]:LV) ([.ptr 71 [.same,.int .i64]]:LV) (fun a K=>X a.1.1 a.1.2.1 (fun q0 q1=>K (q0,()) (((),q1,()),())))
def y8y:PT:=Qi ([]:LS)
def v38:Ev Sg:=E0
theorem y4n (list:List (Int)) (at_:Int) (K:Bool->Int->Prop):z6y list at_ K=fnV ((v38).pl y8y) 4 27 ([.ptr 71 [.c,.v]]:LP) ([.v]:LP) ([.ptr 71 [.sl C.u8,.int .i64]]:LV) ([.bool]:LV) ([.ptr 71 [.same,.int .i64]]:LV) ((list,at_,()),()) (fun r o=>K r.1 o.1.2.1):=by kernel_rfl
theorem u2d:Qn Proofs.Tryz.prog D 27 (y2r z6y):=Ql (E:=v38) h_E0 fun a K=>y4n a.1.1 a.1.2.1 (fun q0 q1=>K (q0,()) (((),q1,()),()))
theorem Vk:Ent Proofs.Tryz.prog 10:=Qh (by kernel_rfl) (by kernel_rfl) (by kernel_rfl)
def H7 (X:Zf):Con Sg:=conV ([.ptr 71 [.c,.v],.v]:LP) ([.ptr 71 [.sl C.u8,.int .i64],.int .i64]:LV) ([.int .i64]:LV) ([.ptr 71 [.same,.int .i64],.same]:LV) (fun a K=>X a.1.1 a.1.2.1 a.2.1 (fun q0 q1=>K (q0,()) (((),q1,()),(),())))
def y8z:PT:=Qi ([]:LS)
def v39 (z7k:j9v):Ev Sg:=(E0.with 27 (y2r z7k))
theorem y4o (z7k:j9v) (list:List (Int)) (at_:Int) (n:Int) (K:Int->Int->Prop):w94 z7k list at_ n K=fnV ((v39 z7k).pl y8z) 4 10 ([.ptr 71 [.c,.v],.v]:LP) ([.v]:LP) ([.ptr 71 [.sl C.u8,.int .i64],.int .i64]:LV) ([.int .i64]:LV) ([.ptr 71 [.same,.int .i64],.same]:LV) ((list,at_,()),n,()) (fun r o=>K r.1 o.1.2.1):=by kernel_rfl
theorem Be:Qn Proofs.Tryz.prog D 10 (H7 Zc):=Ql (E:=v39 z6y) (Qe h_E0 y4m u2d) fun a K=>y4o z6y a.1.1 a.1.2.1 a.2.1 (fun q0 q1=>K (q0,()) (((),q1,()),(),()))
theorem z7g:Ent Proofs.Tryz.prog 38:=Qh (by kernel_rfl) (by kernel_rfl) (by kernel_rfl)
def j1v (X:B6):Con Sg:=conV ([.ptr 71 [.c,.v]]:LP) ([.ptr 71 [.sl C.u8,.int .i64]]:LV) ([.str]:LV) ([.ptr 71 [.same,.int .i64]]:LV) (fun a K=>X a.1.1 a.1.2.1 (fun q0 q1=>K (q0,()) (((),q1,()),())))
def y80:PT:=Qi ([]:LS)
def v4a (Qa:Zf):Ev Sg:=(E0.with 10 (H7 Qa))
theorem y4p (Qa:Zf) (list:List (Int)) (at_:Int) (K:ByteArray->Int->Prop):w95 Qa list at_ K=fnV ((v4a Qa).pl y80) 4 38 ([.ptr 71 [.c,.v]]:LP) ([.v]:LP) ([.ptr 71 [.sl C.u8,.int .i64]]:LV) ([.str]:LV) ([.ptr 71 [.same,.int .i64]]:LV) ((list,at_,()),()) (fun r o=>K r.1 o.1.2.1):=by kernel_rfl
theorem j9y:Qn Proofs.Tryz.prog D 38 (j1v Hr):=Ql (E:=v4a Zc) (Qe h_E0 Vk Be) fun a K=>y4p Zc a.1.1 a.1.2.1 (fun q0 q1=>K (q0,()) (((),q1,()),()))
theorem j4v:Ent Proofs.Tryz.prog 39:=Qh (by kernel_rfl) (by kernel_rfl) (by kernel_rfl)
def j9z (X:q45):Con Sg:=conV ([.ptr 71 [.c,.v],.v]:LP) ([.ptr 71 [.sl C.u8,.int .i64],.int .i64]:LV) ([.int .i64]:LV) ([.ptr 71 [.same,.int .i64],.same]:LV) (fun a K=>X a.1.1 a.1.2.1 a.2.1 (fun q0 q1=>K (q0,()) (((),q1,()),(),())))
def y81:PT:=Qi ([]:LS)
def v4b (Qa:Zf):Ev Sg:=(E0.with 10 (H7 Qa))
theorem y4q (Qa:Zf) (list:List (Int)) (at_:Int) (n:Int) (K:Int->Int->Prop):w96 Qa list at_ n K=fnV ((v4b Qa).pl y81) 4 39 ([.ptr 71 [.c,.v],.v]:LP) ([.v]:LP) ([.ptr 71 [.sl C.u8,.int .i64],.int .i64]:LV) ([.int .i64]:LV) ([.ptr 71 [.same,.int .i64],.same]:LV) ((list,at_,()),n,()) (fun r o=>K r.1 o.1.2.1):=by kernel_rfl
theorem v0f:Qn Proofs.Tryz.prog D 39 (j9z q08):=Ql (E:=v4b Zc) (Qe h_E0 Vk Be) fun a K=>y4q Zc a.1.1 a.1.2.1 a.2.1 (fun q0 q1=>K (q0,()) (((),q1,()),(),()))
theorem w7x:Ent Proofs.Tryz.prog 41:=Qh (by kernel_rfl) (by kernel_rfl) (by kernel_rfl)
def v0g (X:z1q):Con Sg:=conV ([.v,.own 9 C.str]:LP) ([.int .i64,.vec 9 C.str]:LV) ([.sl C.str]:LV) ([.same,.same]:LV) (fun a K=>X a.1 a.2.1 (fun q0=>K (q0,()) ((),(),())))
def y82:PT:=Qi ([]:LS)
def v4c:Ev Sg:=E0
theorem y4r (n:Int) (l:List (ByteArray)) (K:List (ByteArray)->Prop):q6d n l K=fnV ((v4c).pl y82) 4 41 ([.v,.own 9 C.str]:LP) ([.sl C.str]:LP) ([.int .i64,.vec 9 C.str]:LV) ([.sl C.str]:LV) ([.same,.same]:LV) (n,l,()) (fun r _=>K r.1):=by kernel_rfl
theorem y2s:Qn Proofs.Tryz.prog D 41 (v0g q6d):=Ql (E:=v4c) h_E0 fun a K=>y4r a.1 a.2.1 (fun q0=>K (q0,()) ((),(),()))
theorem w7y:Ent Proofs.Tryz.prog 23:=Qh (by kernel_rfl) (by kernel_rfl) (by kernel_rfl)
def v0h (X:z1r):Con Sg:=conV ([.ptr 71 [.c,.v]]:LP) ([.ptr 71 [.sl C.u8,.int .i64]]:LV) ([.vec 9 C.str]:LV) ([.ptr 71 [.same,.int .i64]]:LV) (fun a K=>X a.1.1 a.1.2.1 (fun q0 q1=>K (q0,()) (((),q1,()),())))
def y83:PT:=Qi ([(9,⟨[0,2,3,7,8],[],[(0,(71,2))],[(.slot 4,.own 9 C.str),(.slot 5,.int .i64),(.cell 0 1,.int .i64)]⟩),(17,⟨[0,3,4,5,7,8,9,10,11,12],[0],[],[(.slot 6,.int .i64),(.obj 1,.own 9 C.str)]⟩)]:LS)
def v4d (Qa:Zf):Ev Sg:=(E0.with 10 (H7 Qa))
theorem y4s (Qa:Zf) (list:List (Int)) (at_:Int) (K:List (ByteArray)->Int->Prop):w97 Qa list at_ K=fnV ((v4d Qa).pl y83) 4 23 ([.ptr 71 [.c,.v]]:LP) ([.own 9 C.str]:LP) ([.ptr 71 [.sl C.u8,.int .i64]]:LV) ([.vec 9 C.str]:LV) ([.ptr 71 [.same,.int .i64]]:LV) ((list,at_,()),()) (fun r o=>K r.1 o.1.2.1):=by kernel_rfl
theorem y2t:Qn Proofs.Tryz.prog D 23 (v0h q6e):=Ql (E:=v4d Zc) (Qe h_E0 Vk Be) fun a K=>y4s Zc a.1.1 a.1.2.1 (fun q0 q1=>K (q0,()) (((),q1,()),()))
theorem v4e:Ent Proofs.Tryz.prog 52:=Qh (by kernel_rfl) (by kernel_rfl) (by kernel_rfl)
def v81 (X:z9l):Con Sg:=conV ([.ptr 71 [.c,.v]]:LP) ([.ptr 71 [.sl C.u8,.int .i64]]:LV) ([.str]:LV) ([.ptr 71 [.same,.int .i64]]:LV) (fun a K=>X a.1.1 a.1.2.1 (fun q0 q1=>K (q0,()) (((),q1,()),())))
def u2e:PT:=Qi ([]:LS)
def y2u (Qa:Zf):Ev Sg:=(E0.with 10 (H7 Qa))
theorem y84 (Qa:Zf) (list:List (Int)) (at_:Int) (K:ByteArray->Int->Prop):v8w Qa list at_ K=fnV ((y2u Qa).pl u2e) 4 52 ([.ptr 71 [.c,.v]]:LP) ([.v]:LP) ([.ptr 71 [.sl C.u8,.int .i64]]:LV) ([.str]:LV) ([.ptr 71 [.same,.int .i64]]:LV) ((list,at_,()),()) (fun r o=>K r.1 o.1.2.1):=by kernel_rfl
theorem y85:Qn Proofs.Tryz.prog D 52 (v81 z1s):=Ql (E:=y2u Zc) (Qe h_E0 Vk Be) fun a K=>y84 Zc a.1.1 a.1.2.1 (fun q0 q1=>K (q0,()) (((),q1,()),()))
theorem z93:Ent Proofs.Tryz.prog 53:=Qh (by kernel_rfl) (by kernel_rfl) (by kernel_rfl)
def j1w (X:q02):Con Sg:=conV ([.ptr 71 [.c,.v],.v]:LP) ([.ptr 71 [.sl C.u8,.int .i64],.int .i64]:LV) ([.el C.val]:LV) ([.ptr 71 [.same,.int .i64],.same]:LV) (fun a K=>X a.1.1 a.1.2.1 a.2.1 (fun q0 q1=>K (q0,()) (((),q1,()),(),())))
def y4t:PT:=Qi ([]:LS)
def w7z (Qa:Zf) (Jv:B6):Ev Sg:=((E0.with 10 (H7 Qa)).with 38 (j1v Jv))
theorem v82 (Qa:Zf) (Jv:B6) (list:List (Int)) (at_:Int) (kind:Int) (K:Val->Int->Prop):w03 Qa Jv list at_ kind K=fnV ((w7z Qa Jv).pl y4t) 4 53 ([.ptr 71 [.c,.v],.v]:LP) ([.el C.val]:LP) ([.ptr 71 [.sl C.u8,.int .i64],.int .i64]:LV) ([.el C.val]:LV) ([.ptr 71 [.same,.int .i64],.same]:LV) ((list,at_,()),kind,()) (fun r o=>K r.1 o.1.2.1):=by kernel_rfl
theorem w1e:Qn Proofs.Tryz.prog D 53 (j1w U5):=Ql (E:=w7z Zc Hr) (Qe (Qe h_E0 Vk Be) z7g j9y) fun a K=>v82 Zc Hr a.1.1 a.1.2.1 a.2.1 (fun q0 q1=>K (q0,()) (((),q1,()),(),()))
theorem y4u:Ent Proofs.Tryz.prog 28:=Qh (by kernel_rfl) (by kernel_rfl) (by kernel_rfl)
def y2v (X:j9w):Con Sg:=conV ([.ptr 71 [.c,.v]]:LP) ([.ptr 71 [.sl C.u8,.int .i64]]:LV) ([.el C.ex]:LV) ([.ptr 71 [.same,.int .i64]]:LV) (fun a K=>X a.1.1 a.1.2.1 (fun q0 q1=>K (q0,()) (((),q1,()),())))
def y86:PT:=Qi ([(68,⟨[0,2,3,4,5,6,8,9,10,11,12,13,14,15,16,17,23,24,25,26,27,28,29,30,31],[3,2],[(5,(26,5)),(0,(71,2)),(1,(26,5))],[(.cell 5 0,.int .i64),(.cell 5 1,.str),(.cell 5 2,.str),(.cell 5 3,.own 112 C.val),(.cell 5 4,.own 26 C.ex),(.cell 0 1,.int .i64),(.cell 1 0,.int .i64),(.cell 1 1,.str),(.cell 1 2,.str),(.cell 1 3,.own 112 C.val),(.cell 1 4,.own 26 C.ex)]⟩),(60,⟨[0,2,4,5,6,9,11,12,13,14,16,17,24,25,26,27,28,29,30,31,32,33],[],[(0,(71,2)),(5,(26,5)),(1,(26,5))],[(.cell 0 1,.int .i64),(.cell 5 0,.int .i64),(.cell 5 1,.str),(.cell 5 2,.str),(.cell 5 3,.own 112 C.val),(.cell 5 4,.own 26 C.ex),(.cell 1 0,.int .i64),(.cell 1 1,.str),(.cell 1 2,.str),(.cell 1 3,.own 112 C.val),(.cell 1 4,.own 26 C.ex)]⟩),(37,⟨[0,2,4,5,6,9,11,12,13,14,16,17,24,25,26,27,28,29,30,31,32,33,34,35,36,37,46,47,48,49],[1],[(5,(26,5)),(0,(71,2))],[(.slot 7,.int .i64),(.cell 5 3,.own 112 C.val),(.cell 0 1,.int .i64)]⟩)]:LS)
def v4f (Q3:Wj) (Qa:Zf) (q4v:z9l) (Ja:q02):Ev Sg:=((((E0.with 37 (q5o Q3)).with 10 (H7 Qa)).with 52 (v81 q4v)).with 53 (j1w Ja))
theorem y4v (Q3:Wj) (Qa:Zf) (q4v:z9l) (Ja:q02) (list:List (Int)) (at_:Int) (K:Ex->Int->Prop):w98 Q3 Qa q4v Ja list at_ K=fnV ((v4f Q3 Qa q4v Ja).pl y86) 4 28 ([.ptr 71 [.c,.v]]:LP) ([.el C.ex]:LP) ([.ptr 71 [.sl C.u8,.int .i64]]:LV) ([.el C.ex]:LV) ([.ptr 71 [.same,.int .i64]]:LV) ((list,at_,()),()) (fun r o=>K r.1 o.1.2.1):=by kernel_rfl
theorem u2f:Qn Proofs.Tryz.prog D 28 (y2v z6z):=Ql (E:=v4f Jg Zc z1s U5) (Qe (Qe (Qe (Qe h_E0 q5f q87) Vk Be) v4e y85) z93 w1e) fun a K=>y4v Jg Zc z1s U5 a.1.1 a.1.2.1 (fun q0 q1=>K (q0,()) (((),q1,()),()))
theorem j4w:Ent Proofs.Tryz.prog 11:=Qh (by kernel_rfl) (by kernel_rfl) (by kernel_rfl)
def j90 (X:q46):Con Sg:=conV ([.ptr 71 [.c,.v],.sl C.str,.v]:LP) ([.ptr 71 [.sl C.u8,.int .i64],.sl C.str,.int .i64]:LV) ([.el C.ex]:LV) ([.ptr 71 [.same,.int .i64],.same,.same]:LV) (fun a K=>X a.1.1 a.1.2.1 a.2.1 a.2.2.1 (fun q0 q1=>K (q0,()) (((),q1,()),(),(),())))
def v4g:PT:=Qi ([(8,⟨[0,1,2,6,13,14],[0,1],[],[(.slot 7,.int .i64)]⟩),(28,⟨[0,1,2,6,7,13,14,23,24,25,27,28,40,41],[0,1],[],[(.slot 49,.bool)]⟩),(37,⟨[0,1,2,6,7,8,9,10,13,14,23,24,25,27,28,40,41,49,52,53,54,55,56,57,58,59],[1],[(0,(71,2)),(4,(26,5))],[(.slot 11,.int .i64),(.cell 0 1,.int .i64),(.cell 4 0,.int .i64),(.cell 4 1,.str),(.cell 4 2,.str),(.cell 4 3,.own 112 C.val),(.cell 4 4,.own 26 C.ex)]⟩),(46,⟨[0,1,2,6,7,8,9,10,11,12,13,14,23,24,25,27,28,40,41,49,52,53,54,55,56,57,58,59,60,61,62,65,66,67,68,69],[0,12,11,4],[(13,(26,5))],[(.cell 13 0,.int .i64),(.cell 13 1,.str),(.cell 13 2,.str),(.cell 13 3,.sl C.val),(.cell 13 4,.sl C.ex)]⟩)]:LS)
def v4h (Qa:Zf) (z23:j9w):Ev Sg:=((E0.with 10 (H7 Qa)).with 28 (y2v z23))
theorem y4w (Qa:Zf) (z23:j9w) (X:q46) (list:List (Int)) (at_:Int) (segments:List (ByteArray)) (levels:Int) (K:Ex->Int->Prop):z60 Qa z23 X list at_ segments levels K=fnV (((v4h Qa z23).with 11 (j90 X)).pl v4g) 4 11 ([.ptr 71 [.c,.v],.sl C.str,.v]:LP) ([.el C.ex]:LP) ([.ptr 71 [.sl C.u8,.int .i64],.sl C.str,.int .i64]:LV) ([.el C.ex]:LV) ([.ptr 71 [.same,.int .i64],.same,.same]:LV) ((list,at_,()),segments,levels,()) (fun r o=>K r.1 o.1.2.1):=by kernel_rfl
theorem y2w:Qn Proofs.Tryz.prog D 11 (j90 q47):=by
 show Qn _ _ _ (conV ([.ptr 71 [.c,.v],.sl C.str,.v]:LP) ([.ptr 71 [.sl C.u8,.int .i64],.sl C.str,.int .i64]:LV) ([.el C.ex]:LV) ([.ptr 71 [.same,.int .i64],.same,.same]:LV) fun a K=>q47 a.1.1 a.1.2.1 a.2.1 a.2.2.1 (fun q0 q1=>K (q0,()) (((),q1,()),(),(),())))
 refine z0g (E:=v4h Zc z6z) (fuel:=4) (rk:=[.el C.ex]) (p:=v4g) (Qe (Qe h_E0 Vk Be) y4u u2f) j4w fun a K h X hX=> ?_
 exact h (fun list at_ segments levels K=>X ((list,at_,()),segments,levels,()) fun r o=>K r.1 o.1.2.1) (fun list at_ segments levels K hs=>hX ((list,at_,()),segments,levels,()) (fun r o=>K r.1 o.1.2.1) (Eq.mp (y4w Zc z6z (fun list at_ segments levels K=>X ((list,at_,()),segments,levels,()) fun r o=>K r.1 o.1.2.1) list at_ segments levels K) hs))
theorem w5p:Ent Proofs.Tryz.prog 40:=Qh (by kernel_rfl) (by kernel_rfl) (by kernel_rfl)
def j6o (X:q8w):Con Sg:=conV ([.ptr 71 [.c,.v],.ptr 52 [.v,.v,.v,.sl C.decl,.own 33 C.seg,.own 95 C.flag,.own 99 C.layer,.own 103 C.exper]]:LP) ([.ptr 71 [.sl C.u8,.int .i64],.ptr 52 [.str,.str,.int .i64,.sl C.decl,.vec 33 C.seg,.vec 95 C.flag,.vec 99 C.layer,.vec 103 C.exper]]:LV) ([]:LV) ([.ptr 71 [.same,.int .i64],.ptr 52 [.str,.str,.int .i64,.sl C.decl,.vec 33 C.seg,.vec 95 C.flag,.vec 99 C.layer,.vec 103 C.exper]]:LV) (fun a K=>X a.1.1 a.1.2.1 a.2.1.1 a.2.1.2.1 a.2.1.2.2.1 a.2.1.2.2.2.1 a.2.1.2.2.2.2.1 a.2.1.2.2.2.2.2.1 a.2.1.2.2.2.2.2.2.1 a.2.1.2.2.2.2.2.2.2.1 (fun q0 q1 q2 q3 q4 q5 q6 q7 q8=>K () (((),q0,()),(q1,q2,q3,q4,q5,q6,q7,q8,()),())))
def v0i:PT:=Qi ([(5,⟨[0,1,4,7,8,10],[3,4,5],[(0,(71,2)),(1,(52,8))],[(.slot 5,.int .i64),(.cell 0 1,.int .i64),(.cell 1 4,.own 33 C.seg)]⟩),(14,⟨[0,1,4,5,6,7,8,10,11,12,13,14,17,18,19,20,21,22,23,24,25],[11,10,9,1],[(12,(33,9)),(0,(71,2))],[(.cell 12 1,.str),(.cell 0 1,.int .i64)]⟩),(18,⟨[0,1,4,5,6,7,8,10,11,12,13,14,17,18,19,20,21,22,23,24,25],[11,10,9,1],[(12,(33,9)),(0,(71,2))],[(.cell 12 4,.int .i64),(.cell 12 5,.str),(.cell 12 6,.str),(.cell 12 7,.sl C.val),(.cell 12 8,.sl C.ex),(.cell 0 1,.int .i64)]⟩)]:LS)
def j1x (Qa:Zf) (Ra:z1q) (Bg:z1r) (Bh:q46):Ev Sg:=((((E0.with 10 (H7 Qa)).with 41 (v0g Ra)).with 23 (v0h Bg)).with 11 (j90 Bh))
theorem w5q (Qa:Zf) (Ra:z1q) (Bg:z1r) (Bh:q46) (list:List (Int)) (at_:Int) (salt:ByteArray) (hkind:ByteArray) (hold:Int) (attrs:List (Decl)) (segs:List (Seg)) (flags:List (Flg)) (layers:List (Lay_)) (expers:List (Exper)) (K:Int->ByteArray->ByteArray->Int->List (Decl)->List (Seg)->List (Flg)->List (Lay_)->List (Exper)->Prop):z4n Qa Ra Bg Bh list at_ salt hkind hold attrs segs flags layers expers K=fnV ((j1x Qa Ra Bg Bh).pl v0i) 4 40 ([.ptr 71 [.c,.v],.ptr 52 [.v,.v,.v,.sl C.decl,.own 33 C.seg,.own 95 C.flag,.own 99 C.layer,.own 103 C.exper]]:LP) ([]:LP) ([.ptr 71 [.sl C.u8,.int .i64],.ptr 52 [.str,.str,.int .i64,.sl C.decl,.vec 33 C.seg,.vec 95 C.flag,.vec 99 C.layer,.vec 103 C.exper]]:LV) ([]:LV) ([.ptr 71 [.same,.int .i64],.ptr 52 [.str,.str,.int .i64,.sl C.decl,.vec 33 C.seg,.vec 95 C.flag,.vec 99 C.layer,.vec 103 C.exper]]:LV) ((list,at_,()),(salt,hkind,hold,attrs,segs,flags,layers,expers,()),()) (fun _ o=>K o.1.2.1 o.2.1.1 o.2.1.2.1 o.2.1.2.2.1 o.2.1.2.2.2.1 o.2.1.2.2.2.2.1 o.2.1.2.2.2.2.2.1 o.2.1.2.2.2.2.2.2.1 o.2.1.2.2.2.2.2.2.2.1):=by kernel_rfl
theorem v4i:Qn Proofs.Tryz.prog D 40 (j6o q11):=Ql (E:=j1x Zc q6d q6e q47) (Qe (Qe (Qe (Qe h_E0 Vk Be) w7x y2s) w7y y2t) j4w y2w) fun a K=>w5q Zc q6d q6e q47 a.1.1 a.1.2.1 a.2.1.1 a.2.1.2.1 a.2.1.2.2.1 a.2.1.2.2.2.1 a.2.1.2.2.2.2.1 a.2.1.2.2.2.2.2.1 a.2.1.2.2.2.2.2.2.1 a.2.1.2.2.2.2.2.2.2.1 (fun q0 q1 q2 q3 q4 q5 q6 q7 q8=>K () (((),q0,()),(q1,q2,q3,q4,q5,q6,q7,q8,()),()))
end Go.En
end
noncomputable section
set_option maxRecDepth 100000
open Go Go.RowKit Go.Fl Go.Fl.Lk Go.Fx
namespace Go.En
theorem j4x:Ent Proofs.Tryz.prog 68:=Qh (by kernel_rfl) (by kernel_rfl) (by kernel_rfl)
def z4z (X:q2t):Con Sg:=conV ([.el C.env]:LP) ([.el C.env]:LV) ([.vec 9 C.str]:LV) ([.same]:LV) (fun a K=>X a.1 (fun q0=>K (q0,()) ((),())))
def j75:PT:=Qi ([(7,⟨[0,1,2],[0],[],[(.slot 3,.own 9 C.str),(.slot 4,.int .i64)]⟩)]:LS)
def z3b:Ev Sg:=E0
theorem j4y (v:Envt) (K:List (ByteArray)->Prop):Uf v K=fnV ((z3b).pl j75) 4 68 ([.el C.env]:LP) ([.own 9 C.str]:LP) ([.el C.env]:LV) ([.vec 9 C.str]:LV) ([.same]:LV) (v,()) (fun r _=>K r.1):=by kernel_rfl
theorem w1f:Qn Proofs.Tryz.prog D 68 (z4z Uf):=Ql (E:=z3b) h_E0 fun a K=>j4y a.1 (fun q0=>K (q0,()) ((),()))
theorem w1g:Ent Proofs.Tryz.prog 71:=Qh (by kernel_rfl) (by kernel_rfl) (by kernel_rfl)
def w1h (X:q7p):Con Sg:=conV ([.ptr 71 [.c,.v],.v]:LP) ([.ptr 71 [.sl C.u8,.int .i64],.int .i64]:LV) ([.vec 197 C.range]:LV) ([.ptr 71 [.same,.int .i64],.same]:LV) (fun a K=>X a.1.1 a.1.2.1 a.2.1 (fun q0 q1=>K (q0,()) (((),q1,()),(),())))
def y4x:PT:=Qi ([(26,⟨[0,1,4],[],[(0,(71,2))],[(.slot 5,.own 197 C.range),(.slot 6,.int .i64),(.slot 7,.int .i64),(.cell 0 1,.int .i64)]⟩),(32,⟨[0,1,4,5,6,7,49,50,51,52],[0,1],[],[(.slot 11,.int .i64)]⟩),(9,⟨[0,1,4],[],[(0,(71,2))],[(.slot 5,.own 197 C.range),(.slot 6,.int .i64),(.slot 7,.int .i64),(.slot 8,.int .i64),(.cell 0 1,.int .i64)]⟩),(20,⟨[0,1,4,5,6,7,8,9,12,13,14,15,16,17,18,19,22,23,24,25,26,27,28,29,30],[0,1],[],[(.slot 10,.int .i64)]⟩)]:LS)
def w70 (Qa:Zf) (Wh:q45):Ev Sg:=((E0.with 10 (H7 Qa)).with 39 (j9z Wh))
theorem v83 (Qa:Zf) (Wh:q45) (list:List (Int)) (at_:Int) (n:Int) (K:List (Rng)->Int->Prop):w04 Qa Wh list at_ n K=fnV ((w70 Qa Wh).pl y4x) 4 71 ([.ptr 71 [.c,.v],.v]:LP) ([.own 197 C.range]:LP) ([.ptr 71 [.sl C.u8,.int .i64],.int .i64]:LV) ([.vec 197 C.range]:LV) ([.ptr 71 [.same,.int .i64],.same]:LV) ((list,at_,()),n,()) (fun r o=>K r.1 o.1.2.1):=by kernel_rfl
theorem v4j:Qn Proofs.Tryz.prog D 71 (w1h q2u):=Ql (E:=w70 Zc q08) (Qe (Qe h_E0 Vk Be) j4v v0f) fun a K=>v83 Zc q08 a.1.1 a.1.2.1 a.2.1 (fun q0 q1=>K (q0,()) (((),q1,()),(),()))
theorem v84:Ent Proofs.Tryz.prog 69:=Qh (by kernel_rfl) (by kernel_rfl) (by kernel_rfl)
def v4k (X:j1g):Con Sg:=conV ([.ptr 71 [.c,.v],.v]:LP) ([.ptr 71 [.sl C.u8,.int .i64],.int .i64]:LV) ([.el C.serve]:LV) ([.ptr 71 [.same,.int .i64],.same]:LV) (fun a K=>X a.1.1 a.1.2.1 a.2.1 (fun q0 q1=>K (q0,()) (((),q1,()),(),())))
def y4y:PT:=Qi ([]:LS)
def w71 (Qa:Zf) (Jv:B6) (G7:q7p) (Q3:Wj):Ev Sg:=((((E0.with 10 (H7 Qa)).with 38 (j1v Jv)).with 71 (w1h G7)).with 37 (q5o Q3))
theorem v86 (Qa:Zf) (Jv:B6) (G7:q7p) (Q3:Wj) (list:List (Int)) (at_:Int) (n:Int) (K:Srv->Int->Prop):w05 Qa Jv G7 Q3 list at_ n K=fnV ((w71 Qa Jv G7 Q3).pl y4y) 4 69 ([.ptr 71 [.c,.v],.v]:LP) ([.el C.serve]:LP) ([.ptr 71 [.sl C.u8,.int .i64],.int .i64]:LV) ([.el C.serve]:LV) ([.ptr 71 [.same,.int .i64],.same]:LV) ((list,at_,()),n,()) (fun r o=>K r.1 o.1.2.1):=by kernel_rfl
theorem y87:Qn Proofs.Tryz.prog D 69 (v4k z0h):=Ql (E:=w71 Zc Hr q2u Jg) (Qe (Qe (Qe (Qe h_E0 Vk Be) z7g j9y) w1g v4j) q5f q87) fun a K=>v86 Zc Hr q2u Jg a.1.1 a.1.2.1 a.2.1 (fun q0 q1=>K (q0,()) (((),q1,()),(),()))
theorem v87:Ent Proofs.Tryz.prog 105:=Qh (by kernel_rfl) (by kernel_rfl) (by kernel_rfl)
def v4l (X:j1h):Con Sg:=conV ([]:LP) ([]:LV) ([.ptr 195 [.vec 253 C.node,.map C.node C.i64,.bool]]:LV) ([]:LV) (fun _ K=>X (fun q0 q1 q2=>K ((q0,q1,q2,()),()) ()))
def y4z:PT:=Qi ([]:LS)
def w72:Ev Sg:=E0
theorem v88 (K:List (Nd)->(Nd->Option (Int))->Bool->Prop):z4o K=fnV ((w72).pl y4z) 4 105 ([]:LP) ([.ptr 195 [.own 253 C.node,.map C.node C.i64,.v]]:LP) ([]:LV) ([.ptr 195 [.vec 253 C.node,.map C.node C.i64,.bool]]:LV) ([]:LV) () (fun r _=>K r.1.1 r.1.2.1 r.1.2.2.1):=by kernel_rfl
theorem y88:Qn Proofs.Tryz.prog D 105 (v4l z4o):=Ql (E:=w72) h_E0 fun _ K=>v88 (fun q0 q1 q2=>K ((q0,q1,q2,()),()) ())
theorem q3c:Ent Proofs.Tryz.prog 81:=Qh (by kernel_rfl) (by kernel_rfl) (by kernel_rfl)
def q4j (X:Wa):Con Sg:=conV ([.v]:LP) ([.int .i64]:LV) ([.bool]:LV) ([.same]:LV) (fun a K=>X a.1 (fun q0=>K (q0,()) ((),())))
def v4m:PT:=Qi ([]:LS)
def j6p:Ev Sg:=E0
theorem v0j (op:Int) (K:Bool->Prop):Z8 op K=fnV ((j6p).pl v4m) 4 81 ([.v]:LP) ([.v]:LP) ([.int .i64]:LV) ([.bool]:LV) ([.same]:LV) (op,()) (fun r _=>K r.1):=by kernel_rfl
theorem q76:Qn Proofs.Tryz.prog D 81 (q4j Z8):=Ql (E:=j6p) h_E0 fun a K=>v0j a.1 (fun q0=>K (q0,()) ((),()))
theorem w1i:Ent Proofs.Tryz.prog 12:=Qh (by kernel_rfl) (by kernel_rfl) (by kernel_rfl)
def w1j (X:q7q):Con Sg:=conV ([.sl C.str,.sl C.str]:LP) ([.sl C.str,.sl C.str]:LV) ([.bool]:LV) ([.same,.same]:LV) (fun a K=>X a.1 a.2.1 (fun q0=>K (q0,()) ((),(),())))
def y40:PT:=Qi ([(9,⟨[0,1,6,7,8,9,10],[],[],[(.slot 5,.int .i64)]⟩)]:LS)
def w73:Ev Sg:=E0
theorem v89 (a:List (ByteArray)) (b:List (ByteArray)) (K:Bool->Prop):q03 a b K=fnV ((w73).pl y40) 4 12 ([.sl C.str,.sl C.str]:LP) ([.v]:LP) ([.sl C.str,.sl C.str]:LV) ([.bool]:LV) ([.same,.same]:LV) (a,b,()) (fun r _=>K r.1):=by kernel_rfl
theorem v4n:Qn Proofs.Tryz.prog D 12 (w1j q03):=Ql (E:=w73) h_E0 fun a K=>v89 a.1 a.2.1 (fun q0=>K (q0,()) ((),(),()))
theorem j6q:Ent Proofs.Tryz.prog 82:=Qh (by kernel_rfl) (by kernel_rfl) (by kernel_rfl)
def j4z (X:q3u):Con Sg:=conV ([.el C.val,.el C.val]:LP) ([.el C.val,.el C.val]:LV) ([.bool]:LV) ([.same,.same]:LV) (fun a K=>X a.1 a.2.1 (fun q0=>K (q0,()) ((),(),())))
def v9a:PT:=Qi ([]:LS)
def w1k (G8:q7q):Ev Sg:=(E0.with 12 (w1j G8))
theorem v4o (G8:q7q) (a:Val) (b:Val) (K:Bool->Prop):j4j G8 a b K=fnV ((w1k G8).pl v9a) 4 82 ([.el C.val,.el C.val]:LP) ([.v]:LP) ([.el C.val,.el C.val]:LV) ([.bool]:LV) ([.same,.same]:LV) (a,b,()) (fun r _=>K r.1):=by kernel_rfl
theorem w74:Qn Proofs.Tryz.prog D 82 (j4z Rl):=Ql (E:=w1k q03) (Qe h_E0 w1i v4n) fun a K=>v4o q03 a.1 a.2.1 (fun q0=>K (q0,()) ((),(),()))
theorem j40:Ent Proofs.Tryz.prog 201:=Qh (by kernel_rfl) (by kernel_rfl) (by kernel_rfl)
def z40 (X:q2v):Con Sg:=conV ([.sl C.val,.sl C.val]:LP) ([.sl C.val,.sl C.val]:LV) ([.bool]:LV) ([.same,.same]:LV) (fun a K=>X a.1 a.2.1 (fun q0=>K (q0,()) ((),(),())))
def j76:PT:=Qi ([(9,⟨[0,1,6,7,8,9,10],[],[],[(.slot 5,.int .i64)]⟩)]:LS)
def z3c (W6:q3u):Ev Sg:=(E0.with 82 (j4z W6))
theorem j41 (W6:q3u) (a:List (Val)) (b:List (Val)) (K:Bool->Prop):q7r W6 a b K=fnV ((z3c W6).pl j76) 4 201 ([.sl C.val,.sl C.val]:LP) ([.v]:LP) ([.sl C.val,.sl C.val]:LV) ([.bool]:LV) ([.same,.same]:LV) (a,b,()) (fun r _=>K r.1):=by kernel_rfl
theorem w1l:Qn Proofs.Tryz.prog D 201 (z40 Gm):=Ql (E:=z3c Rl) (Qe h_E0 j6q w74) fun a K=>j41 Rl a.1 a.2.1 (fun q0=>K (q0,()) ((),(),()))
theorem z41:Ent Proofs.Tryz.prog 180:=Qh (by kernel_rfl) (by kernel_rfl) (by kernel_rfl)
def z2j (X:Hs):Con Sg:=conV ([.el C.ex,.el C.ex]:LP) ([.el C.ex,.el C.ex]:LV) ([.bool]:LV) ([.same,.same]:LV) (fun a K=>X a.1 a.2.1 (fun q0=>K (q0,()) ((),(),())))
def z8a:PT:=Qi ([(203000009,⟨[0,1,6,7,8,9,10],[],[],[(.slot 5,.int .i64)]⟩)]:LS)
def z8b (G9:q2v):Ev Sg:=(E0.with 201 (z40 G9))
theorem w1m (G9:q2v) (X:Hs) (a:Ex) (b:Ex) (K:Bool->Prop):z1t G9 X a b K=fnV (((z8b G9).with 180 (z2j X)).pl z8a) 4 180 ([.el C.ex,.el C.ex]:LP) ([.v]:LP) ([.el C.ex,.el C.ex]:LV) ([.bool]:LV) ([.same,.same]:LV) (a,b,()) (fun r _=>K r.1):=by kernel_rfl
theorem v0k:Qn Proofs.Tryz.prog D 180 (z2j Ht):=by
 show Qn _ _ _ (conV ([.el C.ex,.el C.ex]:LP) ([.el C.ex,.el C.ex]:LV) ([.bool]:LV) ([.same,.same]:LV) fun a K=>Ht a.1 a.2.1 (fun q0=>K (q0,()) ((),(),())))
 refine z0g (E:=z8b Gm) (fuel:=4) (rk:=[.v]) (p:=z8a) (Qe h_E0 j40 w1l) z41 fun a K h X hX=> ?_
 exact h (fun a b K=>X (a,b,()) fun r _=>K r.1) (fun a b K hs=>hX (a,b,()) (fun r _=>K r.1) (Eq.mp (w1m Gm (fun a b K=>X (a,b,()) fun r _=>K r.1) a b K) hs))
theorem j1y:Ent Proofs.Tryz.prog 143:=Qh (by kernel_rfl) (by kernel_rfl) (by kernel_rfl)
def z94 (X:q1j):Con Sg:=conV ([.sl C.ex,.el C.ex]:LP) ([.sl C.ex,.el C.ex]:LV) ([.int .i64]:LV) ([.same,.same]:LV) (fun a K=>X a.1 a.2.1 (fun q0=>K (q0,()) ((),(),())))
def v4p:PT:=Qi ([(5,⟨[0,1,3],[0],[],[(.slot 5,.int .i64)]⟩)]:LS)
def j6r (q0o:Hs):Ev Sg:=(E0.with 180 (z2j q0o))
theorem v0l (q0o:Hs) (l:List (Ex)) (e:Ex) (K:Int->Prop):z9m q0o l e K=fnV ((j6r q0o).pl v4p) 4 143 ([.sl C.ex,.el C.ex]:LP) ([.v]:LP) ([.sl C.ex,.el C.ex]:LV) ([.int .i64]:LV) ([.same,.same]:LV) (l,e,()) (fun r _=>K r.1):=by kernel_rfl
theorem w1n:Qn Proofs.Tryz.prog D 143 (z94 Gd):=Ql (E:=j6r Ht) (Qe h_E0 z41 v0k) fun a K=>v0l Ht a.1 a.2.1 (fun q0=>K (q0,()) ((),(),()))
theorem z3d:Ent Proofs.Tryz.prog 140:=Qh (by kernel_rfl) (by kernel_rfl) (by kernel_rfl)
def q9x (X:Ge):Con Sg:=conV ([.sl C.ex,.el C.ex]:LP) ([.sl C.ex,.el C.ex]:LV) ([.sl C.ex]:LV) ([.same,.same]:LV) (fun a K=>X a.1 a.2.1 (fun q0=>K (q0,()) ((),(),())))
def z42:PT:=Qi ([(6,⟨[1,3,4],[0],[],[(.slot 0,.sl C.ex)]⟩),(9,⟨[1,3,4],[0],[],[(.slot 0,.sl C.ex),(.slot 5,.int .i64)]⟩)]:LS)
def z43 (Wv:q1j) (Qw:Wa):Ev Sg:=((E0.with 143 (z94 Wv)).with 81 (q4j Qw))
theorem j77 (Wv:q1j) (Qw:Wa) (X:Ge) (l:List (Ex)) (e:Ex) (K:List (Ex)->Prop):q9s Wv Qw X l e K=fnV (((z43 Wv Qw).with 140 (q9x X)).pl z42) 4 140 ([.sl C.ex,.el C.ex]:LP) ([.sl C.ex]:LP) ([.sl C.ex,.el C.ex]:LV) ([.sl C.ex]:LV) ([.same,.same]:LV) (l,e,()) (fun r _=>K r.1):=by kernel_rfl
theorem w5r:Qn Proofs.Tryz.prog D 140 (q9x Rm):=by
 show Qn _ _ _ (conV ([.sl C.ex,.el C.ex]:LP) ([.sl C.ex,.el C.ex]:LV) ([.sl C.ex]:LV) ([.same,.same]:LV) fun a K=>Rm a.1 a.2.1 (fun q0=>K (q0,()) ((),(),())))
 refine z0g (E:=z43 Gd Z8) (fuel:=4) (rk:=[.sl C.ex]) (p:=z42) (Qe (Qe h_E0 j1y w1n) q3c q76) z3d fun a K h X hX=> ?_
 exact h (fun l e K=>X (l,e,()) fun r _=>K r.1) (fun l e K hs=>hX (l,e,()) (fun r _=>K r.1) (Eq.mp (j77 Gd Z8 (fun l e K=>X (l,e,()) fun r _=>K r.1) l e K) hs))
theorem j42:Ent Proofs.Tryz.prog 106:=Qh (by kernel_rfl) (by kernel_rfl) (by kernel_rfl)
def z44 (X:q2w):Con Sg:=conV ([.sl C.rule]:LP) ([.sl C.rule]:LV) ([.sl C.ex]:LV) ([.same]:LV) (fun a K=>X a.1 (fun q0=>K (q0,()) ((),())))
def j78:PT:=Qi ([(7,⟨[0,2],[],[],[(.slot 3,.sl C.ex),(.slot 4,.int .i64)]⟩)]:LS)
def z3e (Rx:Ge):Ev Sg:=(E0.with 140 (q9x Rx))
theorem j43 (Rx:Ge) (l:List (Rul)) (K:List (Ex)->Prop):q7s Rx l K=fnV ((z3e Rx).pl j78) 4 106 ([.sl C.rule]:LP) ([.sl C.ex]:LP) ([.sl C.rule]:LV) ([.sl C.ex]:LV) ([.same]:LV) (l,()) (fun r _=>K r.1):=by kernel_rfl
theorem w1o:Qn Proofs.Tryz.prog D 106 (z44 Gn):=Ql (E:=z3e Rm) (Qe h_E0 z3d w5r) fun a K=>j43 Rm a.1 (fun q0=>K (q0,()) ((),()))
end Go.En
end
noncomputable section
set_option maxRecDepth 100000
open Go Go.RowKit Go.Fl Go.Fl.Lk Go.Fx
namespace Go.En
theorem q3d:Ent Proofs.Tryz.prog 181:=Qh (by kernel_rfl) (by kernel_rfl) (by kernel_rfl)
def q3e (X:Jy):Con Sg:=conV ([.ptr 195 [.own 253 C.node,.map C.node C.i64,.v],.v]:LP) ([.ptr 195 [.vec 253 C.node,.map C.node C.i64,.bool],.int .i64]:LV) ([.bool]:LV) ([.ptr 195 [.vec 253 C.node,.map C.node C.i64,.bool],.same]:LV) (fun a K=>X a.1.1 a.1.2.1 a.1.2.2.1 a.2.1 (fun q0 q1 q2 q3=>K (q0,()) ((q1,q2,q3,()),(),())))
def w5s:PT:=Qi ([]:LS)
def z8c:Ev Sg:=E0
theorem w1p (ns:List (Nd)) (ids:(Nd->Option (Int))) (full:Bool) (id:Int) (K:Bool->List (Nd)->(Nd->Option (Int))->Bool->Prop):Z5 ns ids full id K=fnV ((z8c).pl w5s) 4 181 ([.ptr 195 [.own 253 C.node,.map C.node C.i64,.v],.v]:LP) ([.v]:LP) ([.ptr 195 [.vec 253 C.node,.map C.node C.i64,.bool],.int .i64]:LV) ([.bool]:LV) ([.ptr 195 [.vec 253 C.node,.map C.node C.i64,.bool],.same]:LV) ((ns,ids,full,()),id,()) (fun r o=>K r.1 o.1.1 o.1.2.1 o.1.2.2.1):=by kernel_rfl
theorem q6r:Qn Proofs.Tryz.prog D 181 (q3e Z5):=Ql (E:=z8c) h_E0 fun a K=>w1p a.1.1 a.1.2.1 a.1.2.2.1 a.2.1 (fun q0 q1 q2 q3=>K (q0,()) ((q1,q2,q3,()),(),()))
theorem j1z:Ent Proofs.Tryz.prog 203:=Qh (by kernel_rfl) (by kernel_rfl) (by kernel_rfl)
def z3f (X:q09):Con Sg:=conV ([.ptr 195 [.own 253 C.node,.map C.node C.i64,.v],.v]:LP) ([.ptr 195 [.vec 253 C.node,.map C.node C.i64,.bool],.int .i64]:LV) ([.map C.i64 C.bool]:LV) ([.ptr 195 [.vec 253 C.node,.map C.node C.i64,.bool],.same]:LV) (fun a K=>X a.1.1 a.1.2.1 a.1.2.2.1 a.2.1 (fun q0 q1 q2 q3=>K (q0,()) ((q1,q2,q3,()),(),())))
def j44:PT:=Qi ([(7,⟨[0,1,4,5,8,9,10],[0,1,2],[],[(.slot 6,.own 3 C.i64),(.obj 3,.map C.i64 C.bool)]⟩)]:LS)
def z0p:Ev Sg:=E0
theorem j10 (ns:List (Nd)) (ids:(Nd->Option (Int))) (full:Bool) (id:Int) (K:(Int->Option (Bool))->List (Nd)->(Nd->Option (Int))->Bool->Prop):Vq ns ids full id K=fnV ((z0p).pl j44) 4 203 ([.ptr 195 [.own 253 C.node,.map C.node C.i64,.v],.v]:LP) ([.map C.i64 C.bool]:LP) ([.ptr 195 [.vec 253 C.node,.map C.node C.i64,.bool],.int .i64]:LV) ([.map C.i64 C.bool]:LV) ([.ptr 195 [.vec 253 C.node,.map C.node C.i64,.bool],.same]:LV) ((ns,ids,full,()),id,()) (fun r o=>K r.1 o.1.1 o.1.2.1 o.1.2.2.1):=by kernel_rfl
theorem j79:Qn Proofs.Tryz.prog D 203 (z3f Vq):=Ql (E:=z0p) h_E0 fun a K=>j10 a.1.1 a.1.2.1 a.1.2.2.1 a.2.1 (fun q0 q1 q2 q3=>K (q0,()) ((q1,q2,q3,()),(),()))
theorem z95:Ent Proofs.Tryz.prog 183:=Qh (by kernel_rfl) (by kernel_rfl) (by kernel_rfl)
def z0q (X:B7):Con Sg:=conV ([.ptr 195 [.own 253 C.node,.map C.node C.i64,.v],.v]:LP) ([.ptr 195 [.vec 253 C.node,.map C.node C.i64,.bool],.int .i64]:LV) ([.vec 3 C.i64]:LV) ([.ptr 195 [.vec 253 C.node,.map C.node C.i64,.bool],.same]:LV) (fun a K=>X a.1.1 a.1.2.1 a.1.2.2.1 a.2.1 (fun q0 q1 q2 q3=>K (q0,()) ((q1,q2,q3,()),(),())))
def j11:PT:=Qi ([(13,⟨[0,1,4,5,8,9,10,11,12,13,14],[5,0,4,2],[],[(.slot 6,.own 3 C.i64),(.slot 7,.int .i64)]⟩)]:LS)
def q88 (Qx:Jy) (Uy:q09):Ev Sg:=((E0.with 181 (q3e Qx)).with 203 (z3f Uy))
theorem z96 (Qx:Jy) (Uy:q09) (ns:List (Nd)) (ids:(Nd->Option (Int))) (full:Bool) (id:Int) (K:List (Int)->List (Nd)->(Nd->Option (Int))->Bool->Prop):z0i Qx Uy ns ids full id K=fnV ((q88 Qx Uy).pl j11) 4 183 ([.ptr 195 [.own 253 C.node,.map C.node C.i64,.v],.v]:LP) ([.own 3 C.i64]:LP) ([.ptr 195 [.vec 253 C.node,.map C.node C.i64,.bool],.int .i64]:LV) ([.vec 3 C.i64]:LV) ([.ptr 195 [.vec 253 C.node,.map C.node C.i64,.bool],.same]:LV) ((ns,ids,full,()),id,()) (fun r o=>K r.1 o.1.1 o.1.2.1 o.1.2.2.1):=by kernel_rfl
theorem j45:Qn Proofs.Tryz.prog D 183 (z0q V2):=Ql (E:=q88 Z5 Vq) (Qe (Qe h_E0 q3d q6r) j1z j79) fun a K=>z96 Z5 Vq a.1.1 a.1.2.1 a.1.2.2.1 a.2.1 (fun q0 q1 q2 q3=>K (q0,()) ((q1,q2,q3,()),(),()))
theorem R6:Ent Proofs.Tryz.prog 145:=Qh (by kernel_rfl) (by kernel_rfl) (by kernel_rfl)
def Gj (X:Zv):Con Sg:=conV ([.ptr 195 [.own 253 C.node,.map C.node C.i64,.v],.v]:LP) ([.ptr 195 [.vec 253 C.node,.map C.node C.i64,.bool],.int .i64]:LV) ([.bool]:LV) ([.ptr 195 [.vec 253 C.node,.map C.node C.i64,.bool],.same]:LV) (fun a K=>X a.1.1 a.1.2.1 a.1.2.2.1 a.2.1 (fun q0 q1 q2 q3=>K (q0,()) ((q1,q2,q3,()),(),())))
def z45:PT:=Qi ([(11,⟨[0,1,5,7,8,9,10,11,12,13],[5,0,4,2],[],[(.slot 6,.int .i64)]⟩)]:LS)
def q5p (Qx:Jy) (V7:B7):Ev Sg:=((E0.with 181 (q3e Qx)).with 183 (z0q V7))
theorem z38 (Qx:Jy) (V7:B7) (ns:List (Nd)) (ids:(Nd->Option (Int))) (full:Bool) (id:Int) (K:Bool->List (Nd)->(Nd->Option (Int))->Bool->Prop):q53 Qx V7 ns ids full id K=fnV ((q5p Qx V7).pl z45) 4 145 ([.ptr 195 [.own 253 C.node,.map C.node C.i64,.v],.v]:LP) ([.v]:LP) ([.ptr 195 [.vec 253 C.node,.map C.node C.i64,.bool],.int .i64]:LV) ([.bool]:LV) ([.ptr 195 [.vec 253 C.node,.map C.node C.i64,.bool],.same]:LV) ((ns,ids,full,()),id,()) (fun r o=>K r.1 o.1.1 o.1.2.1 o.1.2.2.1):=by kernel_rfl
theorem q0z:Qn Proofs.Tryz.prog D 145 (Gj Ze):=Ql (E:=q5p Z5 V2) (Qe (Qe h_E0 q3d q6r) z95 j45) fun a K=>z38 Z5 V2 a.1.1 a.1.2.1 a.1.2.2.1 a.2.1 (fun q0 q1 q2 q3=>K (q0,()) ((q1,q2,q3,()),(),()))
theorem q51:Ent Proofs.Tryz.prog 182:=Qh (by kernel_rfl) (by kernel_rfl) (by kernel_rfl)
def q5g (X:Wr):Con Sg:=conV ([.ptr 195 [.own 253 C.node,.map C.node C.i64,.v],.v]:LP) ([.ptr 195 [.vec 253 C.node,.map C.node C.i64,.bool],.int .i64]:LV) ([.int .i64]:LV) ([.ptr 195 [.vec 253 C.node,.map C.node C.i64,.bool],.same]:LV) (fun a K=>X a.1.1 a.1.2.1 a.1.2.2.1 a.2.1 (fun q0 q1 q2 q3=>K (q0,()) ((q1,q2,q3,()),(),())))
def w1q:PT:=Qi ([]:LS)
def z47:Ev Sg:=E0
theorem j8a (ns:List (Nd)) (ids:(Nd->Option (Int))) (full:Bool) (id:Int) (K:Int->List (Nd)->(Nd->Option (Int))->Bool->Prop):Jd ns ids full id K=fnV ((z47).pl w1q) 4 182 ([.ptr 195 [.own 253 C.node,.map C.node C.i64,.v],.v]:LP) ([.v]:LP) ([.ptr 195 [.vec 253 C.node,.map C.node C.i64,.bool],.int .i64]:LV) ([.int .i64]:LV) ([.ptr 195 [.vec 253 C.node,.map C.node C.i64,.bool],.same]:LV) ((ns,ids,full,()),id,()) (fun r o=>K r.1 o.1.1 o.1.2.1 o.1.2.2.1):=by kernel_rfl
theorem q9y:Qn Proofs.Tryz.prog D 182 (q5g Jd):=Ql (E:=z47) h_E0 fun a K=>j8a a.1.1 a.1.2.1 a.1.2.2.1 a.2.1 (fun q0 q1 q2 q3=>K (q0,()) ((q1,q2,q3,()),(),()))
theorem j12:Ent Proofs.Tryz.prog 204:=Qh (by kernel_rfl) (by kernel_rfl) (by kernel_rfl)
def z3g (X:q1a):Con Sg:=conV ([.ptr 195 [.own 253 C.node,.map C.node C.i64,.v],.v,.v]:LP) ([.ptr 195 [.vec 253 C.node,.map C.node C.i64,.bool],.int .i64,.int .i64]:LV) ([.int .i64,.int .i64]:LV) ([.ptr 195 [.vec 253 C.node,.map C.node C.i64,.bool],.same,.same]:LV) (fun a K=>X a.1.1 a.1.2.1 a.1.2.2.1 a.2.1 a.2.2.1 (fun q0 q1 q2 q3 q4=>K (q0,q1,()) ((q2,q3,q4,()),(),(),())))
def j46:PT:=Qi ([]:LS)
def z0r (Q6:Wr):Ev Sg:=(E0.with 182 (q5g Q6))
theorem j13 (Q6:Wr) (ns:List (Nd)) (ids:(Nd->Option (Int))) (full:Bool) (id:Int) (test:Int) (K:Int->Int->List (Nd)->(Nd->Option (Int))->Bool->Prop):z3a Q6 ns ids full id test K=fnV ((z0r Q6).pl j46) 4 204 ([.ptr 195 [.own 253 C.node,.map C.node C.i64,.v],.v,.v]:LP) ([.v,.v]:LP) ([.ptr 195 [.vec 253 C.node,.map C.node C.i64,.bool],.int .i64,.int .i64]:LV) ([.int .i64,.int .i64]:LV) ([.ptr 195 [.vec 253 C.node,.map C.node C.i64,.bool],.same,.same]:LV) ((ns,ids,full,()),id,test,()) (fun r o=>K r.1 r.2.1 o.1.1 o.1.2.1 o.1.2.2.1):=by kernel_rfl
theorem j8b:Qn Proofs.Tryz.prog D 204 (z3g Vr):=Ql (E:=z0r Jd) (Qe h_E0 q51 q9y) fun a K=>j13 Jd a.1.1 a.1.2.1 a.1.2.2.1 a.2.1 a.2.2.1 (fun q0 q1 q2 q3 q4=>K (q0,q1,()) ((q2,q3,q4,()),(),(),()))
theorem z0s:Ent Proofs.Tryz.prog 144:=Qh (by kernel_rfl) (by kernel_rfl) (by kernel_rfl)
def q77 (X:Ug):Con Sg:=conV ([.ptr 195 [.own 253 C.node,.map C.node C.i64,.v],.v,.v,.v]:LP) ([.ptr 195 [.vec 253 C.node,.map C.node C.i64,.bool],.int .i64,.int .i64,.int .i64]:LV) ([.int .i64]:LV) ([.ptr 195 [.vec 253 C.node,.map C.node C.i64,.bool],.same,.same,.same]:LV) (fun a K=>X a.1.1 a.1.2.1 a.1.2.2.1 a.2.1 a.2.2.1 a.2.2.2.1 (fun q0 q1 q2 q3=>K (q0,()) ((q1,q2,q3,()),(),(),(),())))
def j8c:PT:=Qi ([]:LS)
def z3h (Qx:Jy) (Q6:Wr):Ev Sg:=((E0.with 181 (q3e Qx)).with 182 (q5g Q6))
theorem j47 (Qx:Jy) (Q6:Wr) (ns:List (Nd)) (ids:(Nd->Option (Int))) (full:Bool) (test:Int) (yes:Int) (no:Int) (K:Int->List (Nd)->(Nd->Option (Int))->Bool->Prop):z4p Qx Q6 ns ids full test yes no K=fnV ((z3h Qx Q6).pl j8c) 4 144 ([.ptr 195 [.own 253 C.node,.map C.node C.i64,.v],.v,.v,.v]:LP) ([.v]:LP) ([.ptr 195 [.vec 253 C.node,.map C.node C.i64,.bool],.int .i64,.int .i64,.int .i64]:LV) ([.int .i64]:LV) ([.ptr 195 [.vec 253 C.node,.map C.node C.i64,.bool],.same,.same,.same]:LV) ((ns,ids,full,()),test,yes,no,()) (fun r o=>K r.1 o.1.1 o.1.2.1 o.1.2.2.1):=by kernel_rfl
theorem z48:Qn Proofs.Tryz.prog D 144 (q77 We):=Ql (E:=z3h Z5 Jd) (Qe (Qe h_E0 q3d q6r) q51 q9y) fun a K=>j47 Z5 Jd a.1.1 a.1.2.1 a.1.2.2.1 a.2.1 a.2.2.1 a.2.2.2.1 (fun q0 q1 q2 q3=>K (q0,()) ((q1,q2,q3,()),(),(),(),()))
theorem q78:Ent Proofs.Tryz.prog 184:=Qh (by kernel_rfl) (by kernel_rfl) (by kernel_rfl)
def q4k (X:Wy):Con Sg:=conV ([.ptr 195 [.own 253 C.node,.map C.node C.i64,.v],.v,.v,.v,.map C.a3 C.i64]:LP) ([.ptr 195 [.vec 253 C.node,.map C.node C.i64,.bool],.int .i64,.int .i64,.int .i64,.map C.a3 C.i64]:LV) ([.int .i64]:LV) ([.ptr 195 [.vec 253 C.node,.map C.node C.i64,.bool],.same,.same,.same,.map C.a3 C.i64]:LV) (fun a K=>X a.1.1 a.1.2.1 a.1.2.2.1 a.2.1 a.2.2.1 a.2.2.2.1 a.2.2.2.2.1 (fun q0 q1 q2 q3 q4=>K (q0,()) ((q1,q2,q3,()),(),(),(),q4,())))
def q89:PT:=Qi ([(36,⟨[0,1,2,3,4,10,11,12,13,14,15,16,17,18,19,20,21,22,24,25,26,27,28,29,30,31,33,34,35,37,38,39,40,41,42,43,44,45,46,47,49,50,51,52,53,54,55,56,57,58,59,60,61,62,63,64,65,66,67,68,69,70,71,72,73,74,75,76,77,78,79,80,81,82,83,84,85,86,87,88,89,90,91],[3,4],[(0,(195,3))],[(.slot 23,.int .i64),(.cell 0 0,.own 253 C.node),(.cell 0 2,.bool),(.obj 2,.map C.node C.i64)]⟩)]:LS)
def q9a (Q6:Wr) (Ww:q1a) (Jb:Ug):Ev Sg:=(((E0.with 182 (q5g Q6)).with 204 (z3g Ww)).with 144 (q77 Jb))
theorem z97 (Q6:Wr) (Ww:q1a) (Jb:Ug) (X:Wy) (ns:List (Nd)) (ids:(Nd->Option (Int))) (full:Bool) (f:Int) (g:Int) (h:Int) (known:(A3->Option (Int))) (K:Int->List (Nd)->(Nd->Option (Int))->Bool->(A3->Option (Int))->Prop):Gq Q6 Ww Jb X ns ids full f g h known K=fnV (((q9a Q6 Ww Jb).with 184 (q4k X)).pl q89) 4 184 ([.ptr 195 [.own 253 C.node,.map C.node C.i64,.v],.v,.v,.v,.map C.a3 C.i64]:LP) ([.v]:LP) ([.ptr 195 [.vec 253 C.node,.map C.node C.i64,.bool],.int .i64,.int .i64,.int .i64,.map C.a3 C.i64]:LV) ([.int .i64]:LV) ([.ptr 195 [.vec 253 C.node,.map C.node C.i64,.bool],.same,.same,.same,.map C.a3 C.i64]:LV) ((ns,ids,full,()),f,g,h,known,()) (fun r o=>K r.1 o.1.1 o.1.2.1 o.1.2.2.1 o.2.2.2.2.1):=by kernel_rfl
theorem j48:Qn Proofs.Tryz.prog D 184 (q4k V3):=by
 show Qn _ _ _ (conV ([.ptr 195 [.own 253 C.node,.map C.node C.i64,.v],.v,.v,.v,.map C.a3 C.i64]:LP) ([.ptr 195 [.vec 253 C.node,.map C.node C.i64,.bool],.int .i64,.int .i64,.int .i64,.map C.a3 C.i64]:LV) ([.int .i64]:LV) ([.ptr 195 [.vec 253 C.node,.map C.node C.i64,.bool],.same,.same,.same,.map C.a3 C.i64]:LV) fun a K=>V3 a.1.1 a.1.2.1 a.1.2.2.1 a.2.1 a.2.2.1 a.2.2.2.1 a.2.2.2.2.1 (fun q0 q1 q2 q3 q4=>K (q0,()) ((q1,q2,q3,()),(),(),(),q4,())))
 refine z0g (E:=q9a Jd Vr We) (fuel:=4) (rk:=[.v]) (p:=q89) (Qe (Qe (Qe h_E0 q51 q9y) j12 j8b) z0s z48) q78 fun a K h X hX=> ?_
 exact h (fun ns ids full f g h known K=>X ((ns,ids,full,()),f,g,h,known,()) fun r o=>K r.1 o.1.1 o.1.2.1 o.1.2.2.1 o.2.2.2.2.1) (fun ns ids full f g h known K hs=>hX ((ns,ids,full,()),f,g,h,known,()) (fun r o=>K r.1 o.1.1 o.1.2.1 o.1.2.2.1 o.2.2.2.2.1) (Eq.mp (z97 Jd Vr We (fun ns ids full f g h known K=>X ((ns,ids,full,()),f,g,h,known,()) fun r o=>K r.1 o.1.1 o.1.2.1 o.1.2.2.1 o.2.2.2.2.1) ns ids full f g h known K) hs))
theorem q1t:Ent Proofs.Tryz.prog 146:=Qh (by kernel_rfl) (by kernel_rfl) (by kernel_rfl)
def q0l (X:Jl):Con Sg:=conV ([.ptr 195 [.own 253 C.node,.map C.node C.i64,.v],.v,.v,.v]:LP) ([.ptr 195 [.vec 253 C.node,.map C.node C.i64,.bool],.int .i64,.int .i64,.int .i64]:LV) ([.int .i64]:LV) ([.ptr 195 [.vec 253 C.node,.map C.node C.i64,.bool],.same,.same,.same]:LV) (fun a K=>X a.1.1 a.1.2.1 a.1.2.2.1 a.2.1 a.2.2.1 a.2.2.2.1 (fun q0 q1 q2 q3=>K (q0,()) ((q1,q2,q3,()),(),(),(),())))
def j14:PT:=Qi ([]:LS)
def q9b (Qr:Zv) (Qx:Jy) (V8:Wy):Ev Sg:=(((E0.with 145 (Gj Qr)).with 181 (q3e Qx)).with 184 (q4k V8))
theorem z98 (Qr:Zv) (Qx:Jy) (V8:Wy) (ns:List (Nd)) (ids:(Nd->Option (Int))) (full:Bool) (f:Int) (g:Int) (h:Int) (K:Int->List (Nd)->(Nd->Option (Int))->Bool->Prop):z0j Qr Qx V8 ns ids full f g h K=fnV ((q9b Qr Qx V8).pl j14) 4 146 ([.ptr 195 [.own 253 C.node,.map C.node C.i64,.v],.v,.v,.v]:LP) ([.v]:LP) ([.ptr 195 [.vec 253 C.node,.map C.node C.i64,.bool],.int .i64,.int .i64,.int .i64]:LV) ([.int .i64]:LV) ([.ptr 195 [.vec 253 C.node,.map C.node C.i64,.bool],.same,.same,.same]:LV) ((ns,ids,full,()),f,g,h,()) (fun r o=>K r.1 o.1.1 o.1.2.1 o.1.2.2.1):=by kernel_rfl
theorem q4l:Qn Proofs.Tryz.prog D 146 (q0l Zy):=Ql (E:=q9b Ze Z5 V3) (Qe (Qe (Qe h_E0 R6 q0z) q3d q6r) q78 j48) fun a K=>z98 Ze Z5 V3 a.1.1 a.1.2.1 a.1.2.2.1 a.2.1 a.2.2.1 a.2.2.2.1 (fun q0 q1 q2 q3=>K (q0,()) ((q1,q2,q3,()),(),(),(),()))
theorem j8d:Ent Proofs.Tryz.prog 141:=Qh (by kernel_rfl) (by kernel_rfl) (by kernel_rfl)
def z8d (X:q48):Con Sg:=conV ([.ptr 195 [.own 253 C.node,.map C.node C.i64,.v],.v]:LP) ([.ptr 195 [.vec 253 C.node,.map C.node C.i64,.bool],.int .i64]:LV) ([.int .i64]:LV) ([.ptr 195 [.vec 253 C.node,.map C.node C.i64,.bool],.same]:LV) (fun a K=>X a.1.1 a.1.2.1 a.1.2.2.1 a.2.1 (fun q0 q1 q2 q3=>K (q0,()) ((q1,q2,q3,()),(),())))
def w1r:PT:=Qi ([]:LS)
def z49 (Qy:Jl):Ev Sg:=(E0.with 146 (q0l Qy))
theorem j8e (Qy:Jl) (ns:List (Nd)) (ids:(Nd->Option (Int))) (full:Bool) (f:Int) (K:Int->List (Nd)->(Nd->Option (Int))->Bool->Prop):z78 Qy ns ids full f K=fnV ((z49 Qy).pl w1r) 4 141 ([.ptr 195 [.own 253 C.node,.map C.node C.i64,.v],.v]:LP) ([.v]:LP) ([.ptr 195 [.vec 253 C.node,.map C.node C.i64,.bool],.int .i64]:LV) ([.int .i64]:LV) ([.ptr 195 [.vec 253 C.node,.map C.node C.i64,.bool],.same]:LV) ((ns,ids,full,()),f,()) (fun r o=>K r.1 o.1.1 o.1.2.1 o.1.2.2.1):=by kernel_rfl
theorem w5t:Qn Proofs.Tryz.prog D 141 (z8d Rn):=Ql (E:=z49 Zy) (Qe h_E0 q1t q4l) fun a K=>j8e Zy a.1.1 a.1.2.1 a.1.2.2.1 a.2.1 (fun q0 q1 q2 q3=>K (q0,()) ((q1,q2,q3,()),(),()))
theorem j8f:Ent Proofs.Tryz.prog 142:=Qh (by kernel_rfl) (by kernel_rfl) (by kernel_rfl)
def z8e (X:q49):Con Sg:=conV ([.ptr 195 [.own 253 C.node,.map C.node C.i64,.v],.v,.v]:LP) ([.ptr 195 [.vec 253 C.node,.map C.node C.i64,.bool],.int .i64,.int .i64]:LV) ([.int .i64]:LV) ([.ptr 195 [.vec 253 C.node,.map C.node C.i64,.bool],.same,.same]:LV) (fun a K=>X a.1.1 a.1.2.1 a.1.2.2.1 a.2.1 a.2.2.1 (fun q0 q1 q2 q3=>K (q0,()) ((q1,q2,q3,()),(),(),())))
def w1s:PT:=Qi ([]:LS)
def z5a (Qr:Zv) (Qy:Jl):Ev Sg:=((E0.with 145 (Gj Qr)).with 146 (q0l Qy))
theorem j8g (Qr:Zv) (Qy:Jl) (ns:List (Nd)) (ids:(Nd->Option (Int))) (full:Bool) (f:Int) (g:Int) (K:Int->List (Nd)->(Nd->Option (Int))->Bool->Prop):z79 Qr Qy ns ids full f g K=fnV ((z5a Qr Qy).pl w1s) 4 142 ([.ptr 195 [.own 253 C.node,.map C.node C.i64,.v],.v,.v]:LP) ([.v]:LP) ([.ptr 195 [.vec 253 C.node,.map C.node C.i64,.bool],.int .i64,.int .i64]:LV) ([.int .i64]:LV) ([.ptr 195 [.vec 253 C.node,.map C.node C.i64,.bool],.same,.same]:LV) ((ns,ids,full,()),f,g,()) (fun r o=>K r.1 o.1.1 o.1.2.1 o.1.2.2.1):=by kernel_rfl
theorem w5u:Qn Proofs.Tryz.prog D 142 (z8e Rp):=Ql (E:=z5a Ze Zy) (Qe (Qe h_E0 R6 q0z) q1t q4l) fun a K=>j8g Ze Zy a.1.1 a.1.2.1 a.1.2.2.1 a.2.1 a.2.2.1 (fun q0 q1 q2 q3=>K (q0,()) ((q1,q2,q3,()),(),(),()))
theorem z5b:Ent Proofs.Tryz.prog 108:=Qh (by kernel_rfl) (by kernel_rfl) (by kernel_rfl)
def z2k (X:Hu):Con Sg:=conV ([.ptr 195 [.own 253 C.node,.map C.node C.i64,.v],.v,.v]:LP) ([.ptr 195 [.vec 253 C.node,.map C.node C.i64,.bool],.int .i64,.int .i64]:LV) ([.int .i64]:LV) ([.ptr 195 [.vec 253 C.node,.map C.node C.i64,.bool],.same,.same]:LV) (fun a K=>X a.1.1 a.1.2.1 a.1.2.2.1 a.2.1 a.2.2.1 (fun q0 q1 q2 q3=>K (q0,()) ((q1,q2,q3,()),(),(),())))
def w5v:PT:=Qi ([]:LS)
def z8f (Qr:Zv) (Qy:Jl):Ev Sg:=((E0.with 145 (Gj Qr)).with 146 (q0l Qy))
theorem w1t (Qr:Zv) (Qy:Jl) (ns:List (Nd)) (ids:(Nd->Option (Int))) (full:Bool) (f:Int) (g:Int) (K:Int->List (Nd)->(Nd->Option (Int))->Bool->Prop):j1i Qr Qy ns ids full f g K=fnV ((z8f Qr Qy).pl w5v) 4 108 ([.ptr 195 [.own 253 C.node,.map C.node C.i64,.v],.v,.v]:LP) ([.v]:LP) ([.ptr 195 [.vec 253 C.node,.map C.node C.i64,.bool],.int .i64,.int .i64]:LV) ([.int .i64]:LV) ([.ptr 195 [.vec 253 C.node,.map C.node C.i64,.bool],.same,.same]:LV) ((ns,ids,full,()),f,g,()) (fun r o=>K r.1 o.1.1 o.1.2.1 o.1.2.2.1):=by kernel_rfl
theorem j15:Qn Proofs.Tryz.prog D 108 (z2k Vv):=Ql (E:=z8f Ze Zy) (Qe (Qe h_E0 R6 q0z) q1t q4l) fun a K=>w1t Ze Zy a.1.1 a.1.2.1 a.1.2.2.1 a.2.1 a.2.2.1 (fun q0 q1 q2 q3=>K (q0,()) ((q1,q2,q3,()),(),(),()))
end Go.En
end
noncomputable section
set_option maxRecDepth 100000
open Go Go.RowKit Go.Fl Go.Fl.Lk Go.Fx
namespace Go.En
theorem z0t:Ent Proofs.Tryz.prog 107:=Qh (by kernel_rfl) (by kernel_rfl) (by kernel_rfl)
def q79 (X:Uh):Con Sg:=conV ([.ptr 195 [.own 253 C.node,.map C.node C.i64,.v],.sl C.ex,.el C.ex]:LP) ([.ptr 195 [.vec 253 C.node,.map C.node C.i64,.bool],.sl C.ex,.el C.ex]:LV) ([.int .i64]:LV) ([.ptr 195 [.vec 253 C.node,.map C.node C.i64,.bool],.same,.same]:LV) (fun a K=>X a.1.1 a.1.2.1 a.1.2.2.1 a.2.1 a.2.2.1 (fun q0 q1 q2 q3=>K (q0,()) ((q1,q2,q3,()),(),(),())))
def z3i:PT:=Qi ([(16,⟨[0,1,2,5,6,11,12,13,14,15,16],[3,0,1,2],[],[(.slot 26,.bool)]⟩),(21,⟨[0,1,2,5,6,11,12,13,14,15,16,26,29,30,31,32,33,34,35],[3],[(0,(195,3))],[(.slot 7,.int .i64),(.slot 8,.int .i64),(.cell 0 0,.own 253 C.node),(.cell 0 2,.bool),(.obj 2,.map C.node C.i64)]⟩)]:LS)
def z3j (Ry:q48) (Rz:q49) (J3:Hu) (Wv:q1j) (Jb:Ug):Ev Sg:=(((((E0.with 141 (z8d Ry)).with 142 (z8e Rz)).with 108 (z2k J3)).with 143 (z94 Wv)).with 144 (q77 Jb))
theorem j49 (Ry:q48) (Rz:q49) (J3:Hu) (Wv:q1j) (Jb:Ug) (X:Uh) (ns:List (Nd)) (ids:(Nd->Option (Int))) (full:Bool) (atoms:List (Ex)) (e:Ex) (K:Int->List (Nd)->(Nd->Option (Int))->Bool->Prop):q7t Ry Rz J3 Wv Jb X ns ids full atoms e K=fnV (((z3j Ry Rz J3 Wv Jb).with 107 (q79 X)).pl z3i) 4 107 ([.ptr 195 [.own 253 C.node,.map C.node C.i64,.v],.sl C.ex,.el C.ex]:LP) ([.v]:LP) ([.ptr 195 [.vec 253 C.node,.map C.node C.i64,.bool],.sl C.ex,.el C.ex]:LV) ([.int .i64]:LV) ([.ptr 195 [.vec 253 C.node,.map C.node C.i64,.bool],.same,.same]:LV) ((ns,ids,full,()),atoms,e,()) (fun r o=>K r.1 o.1.1 o.1.2.1 o.1.2.2.1):=by kernel_rfl
theorem w1u:Qn Proofs.Tryz.prog D 107 (q79 Gs):=by
 show Qn _ _ _ (conV ([.ptr 195 [.own 253 C.node,.map C.node C.i64,.v],.sl C.ex,.el C.ex]:LP) ([.ptr 195 [.vec 253 C.node,.map C.node C.i64,.bool],.sl C.ex,.el C.ex]:LV) ([.int .i64]:LV) ([.ptr 195 [.vec 253 C.node,.map C.node C.i64,.bool],.same,.same]:LV) fun a K=>Gs a.1.1 a.1.2.1 a.1.2.2.1 a.2.1 a.2.2.1 (fun q0 q1 q2 q3=>K (q0,()) ((q1,q2,q3,()),(),(),())))
 refine z0g (E:=z3j Rn Rp Vv Gd We) (fuel:=4) (rk:=[.v]) (p:=z3i) (Qe (Qe (Qe (Qe (Qe h_E0 j8d w5t) j8f w5u) z5b j15) j1y w1n) z0s z48) z0t fun a K h X hX=> ?_
 exact h (fun ns ids full atoms e K=>X ((ns,ids,full,()),atoms,e,()) fun r o=>K r.1 o.1.1 o.1.2.1 o.1.2.2.1) (fun ns ids full atoms e K hs=>hX ((ns,ids,full,()),atoms,e,()) (fun r o=>K r.1 o.1.1 o.1.2.1 o.1.2.2.1) (Eq.mp (j49 Rn Rp Vv Gd We (fun ns ids full atoms e K=>X ((ns,ids,full,()),atoms,e,()) fun r o=>K r.1 o.1.1 o.1.2.1 o.1.2.2.1) ns ids full atoms e K) hs))
theorem q8a:Ent Proofs.Tryz.prog 70:=Qh (by kernel_rfl) (by kernel_rfl) (by kernel_rfl)
def q4m (X:Wz):Con Sg:=conV ([.sl C.rule]:LP) ([.sl C.rule]:LV) ([.vec 3 C.i64,.int .i64,.bool]:LV) ([.same]:LV) (fun a K=>X a.1 (fun q0 q1 q2=>K (q0,q1,q2,()) ((),())))
def j16:PT:=Qi ([(13,⟨[0,5,6,12,13,14],[],[(0,(195,3))],[(.slot 7,.int .i64),(.slot 8,.own 3 C.i64),(.slot 9,.int .i64),(.cell 0 0,.own 253 C.node),(.cell 0 2,.bool),(.obj 2,.map C.node C.i64)]⟩)]:LS)
def q9c (z09:j1h) (Ha:q2w) (Hb:Uh) (J3:Hu):Ev Sg:=((((E0.with 105 (v4l z09)).with 106 (z44 Ha)).with 107 (q79 Hb)).with 108 (z2k J3))
theorem z99 (z09:j1h) (Ha:q2w) (Hb:Uh) (J3:Hu) (l:List (Rul)) (K:List (Int)->Int->Bool->Prop):q3v z09 Ha Hb J3 l K=fnV ((q9c z09 Ha Hb J3).pl j16) 4 70 ([.sl C.rule]:LP) ([.own 3 C.i64,.v,.v]:LP) ([.sl C.rule]:LV) ([.vec 3 C.i64,.int .i64,.bool]:LV) ([.same]:LV) (l,()) (fun r _=>K r.1 r.2.1 r.2.2.1):=by kernel_rfl
theorem z0u:Qn Proofs.Tryz.prog D 70 (q4m Jz):=Ql (E:=q9c z4o Gn Gs Vv) (Qe (Qe (Qe (Qe h_E0 v87 y88) j42 w1o) z0t w1u) z5b j15) fun a K=>z99 z4o Gn Gs Vv a.1 (fun q0 q1 q2=>K (q0,q1,q2,()) ((),()))
theorem v9b:Ent Proofs.Tryz.prog 43:=Qh (by kernel_rfl) (by kernel_rfl) (by kernel_rfl)
def v4q (X:j1j):Con Sg:=conV ([.ptr 71 [.c,.v],.v]:LP) ([.ptr 71 [.sl C.u8,.int .i64],.str]:LV) ([.el C.layer]:LV) ([.ptr 71 [.same,.int .i64],.same]:LV) (fun a K=>X a.1.1 a.1.2.1 a.2.1 (fun q0 q1=>K (q0,()) (((),q1,()),(),())))
def y41:PT:=Qi ([(8,⟨[0,1,4,5,10,11,12,13,14,15,16],[1],[(2,(99,6)),(0,(71,2))],[(.cell 2 1,.str),(.cell 0 1,.int .i64)]⟩),(12,⟨[0,1,4,5,10,11,12,13,14,15,16],[1],[(2,(99,6)),(0,(71,2))],[(.cell 2 3,.int .i64),(.cell 0 1,.int .i64)]⟩),(17,⟨[0,1,4,5,10,11,12,13,14,15,16],[1],[(2,(99,6)),(0,(71,2))],[(.slot 6,.int .i64),(.slot 7,.int .i64),(.cell 2 5,.own 146 C.cool),(.cell 0 1,.int .i64)]⟩)]:LS)
def w75 (Jv:B6) (Qa:Zf) (Wh:q45):Ev Sg:=(((E0.with 38 (j1v Jv)).with 10 (H7 Qa)).with 39 (j9z Wh))
theorem v9c (Jv:B6) (Qa:Zf) (Wh:q45) (list:List (Int)) (at_:Int) (key:ByteArray) (K:Lay_->Int->Prop):w06 Jv Qa Wh list at_ key K=fnV ((w75 Jv Qa Wh).pl y41) 4 43 ([.ptr 71 [.c,.v],.v]:LP) ([.el C.layer]:LP) ([.ptr 71 [.sl C.u8,.int .i64],.str]:LV) ([.el C.layer]:LV) ([.ptr 71 [.same,.int .i64],.same]:LV) ((list,at_,()),key,()) (fun r o=>K r.1 o.1.2.1):=by kernel_rfl
theorem y89:Qn Proofs.Tryz.prog D 43 (v4q z0k):=Ql (E:=w75 Hr Zc q08) (Qe (Qe (Qe h_E0 z7g j9y) Vk Be) j4v v0f) fun a K=>v9c Hr Zc q08 a.1.1 a.1.2.1 a.2.1 (fun q0 q1=>K (q0,()) (((),q1,()),(),()))
theorem v4r:Ent Proofs.Tryz.prog 109:=Qh (by kernel_rfl) (by kernel_rfl) (by kernel_rfl)
def w76 (X:z61):Con Sg:=conV ([.v]:LP) ([.int .i64]:LV) ([.bool]:LV) ([.same]:LV) (fun a K=>X a.1 (fun q0=>K (q0,()) ((),())))
def v9d:PT:=Qi ([]:LS)
def w1v:Ev Sg:=E0
theorem v4s (now:Int) (K:Bool->Prop):q3w now K=fnV ((w1v).pl v9d) 4 109 ([.v]:LP) ([.v]:LP) ([.int .i64]:LV) ([.bool]:LV) ([.same]:LV) (now,()) (fun r _=>K r.1):=by kernel_rfl
theorem y42:Qn Proofs.Tryz.prog D 109 (w76 q3w):=Ql (E:=w1v) h_E0 fun a K=>v4s a.1 (fun q0=>K (q0,()) ((),()))
theorem q8b:Ent Proofs.Tryz.prog 110:=Qh (by kernel_rfl) (by kernel_rfl) (by kernel_rfl)
def q6s (X:Vc):Con Sg:=conV ([.el C.env,.v]:LP) ([.el C.env,.str]:LV) ([.int .i64]:LV) ([.same,.same]:LV) (fun a K=>X a.1 a.2.1 (fun q0=>K (q0,()) ((),(),())))
def w5w:PT:=Qi ([(5,⟨[0,1,2],[0],[],[(.slot 5,.int .i64)]⟩)]:LS)
def z8g:Ev Sg:=E0
theorem w1w (v:Envt) (key:ByteArray) (K:Int->Prop):Wg v key K=fnV ((z8g).pl w5w) 4 110 ([.el C.env,.v]:LP) ([.v]:LP) ([.el C.env,.str]:LV) ([.int .i64]:LV) ([.same,.same]:LV) (v,key,()) (fun r _=>K r.1):=by kernel_rfl
theorem z2l:Qn Proofs.Tryz.prog D 110 (q6s Wg):=Ql (E:=z8g) h_E0 fun a K=>w1w a.1 a.2.1 (fun q0=>K (q0,()) ((),(),()))
theorem j5a:Ent Proofs.Tryz.prog 149:=Qh (by kernel_rfl) (by kernel_rfl) (by kernel_rfl)
def z5c (X:q2x):Con Sg:=conV ([.sl C.cool,.v]:LP) ([.sl C.cool,.int .i64]:LV) ([.vec 3 C.i64]:LV) ([.same,.same]:LV) (fun a K=>X a.1 a.2.1 (fun q0=>K (q0,()) ((),(),())))
def j8h:PT:=Qi ([(7,⟨[0,1,4,5,9],[],[],[(.slot 6,.int .i64),(.obj 0,.own 3 C.i64)]⟩),(15,⟨[0,1,4,5,6,9,10,11,12,13],[],[],[(.slot 7,.int .i64),(.obj 0,.own 3 C.i64)]⟩),(21,⟨[0,1,4,5,6,7,9,10,11,12,13,20,21,22,23,26,27,28,29,30,31],[],[],[(.slot 8,.int .i64),(.obj 0,.own 3 C.i64)]⟩)]:LS)
def z3k:Ev Sg:=E0
theorem j5b (l:List (Col)) (now:Int) (K:List (Int)->Prop):Ui l now K=fnV ((z3k).pl j8h) 4 149 ([.sl C.cool,.v]:LP) ([.own 3 C.i64]:LP) ([.sl C.cool,.int .i64]:LV) ([.vec 3 C.i64]:LV) ([.same,.same]:LV) (l,now,()) (fun r _=>K r.1):=by kernel_rfl
theorem w1x:Qn Proofs.Tryz.prog D 149 (z5c Ui):=Ql (E:=z3k) h_E0 fun a K=>j5b a.1 a.2.1 (fun q0=>K (q0,()) ((),(),()))
theorem q3f:Ent Proofs.Tryz.prog 113:=Qh (by kernel_rfl) (by kernel_rfl) (by kernel_rfl)
def q4n (X:Wb):Con Sg:=conV ([.sl C.bool]:LP) ([.sl C.bool]:LV) ([.vec 152 C.span]:LV) ([.same]:LV) (fun a K=>X a.1 (fun q0=>K (q0,()) ((),())))
def v4t:PT:=Qi ([(7,⟨[0,2],[],[],[(.slot 3,.own 152 C.span),(.slot 4,.int .i64)]⟩)]:LS)
def j6s:Ev Sg:=E0
theorem v0m (set_:List (Bool)) (K:List (Spn)->Prop):Ji set_ K=fnV ((j6s).pl v4t) 4 113 ([.sl C.bool]:LP) ([.own 152 C.span]:LP) ([.sl C.bool]:LV) ([.vec 152 C.span]:LV) ([.same]:LV) (set_,()) (fun r _=>K r.1):=by kernel_rfl
theorem q8c:Qn Proofs.Tryz.prog D 113 (q4n Ji):=Ql (E:=j6s) h_E0 fun a K=>v0m a.1 (fun q0=>K (q0,()) ((),()))
theorem v0n:Ent Proofs.Tryz.prog 148:=Qh (by kernel_rfl) (by kernel_rfl) (by kernel_rfl)
def w1y (X:z1u):Con Sg:=conV ([.sl C.i64,.v]:LP) ([.sl C.i64,.int .i64]:LV) ([.vec 152 C.span]:LV) ([.same,.same]:LV) (fun a K=>X a.1 a.2.1 (fun q0=>K (q0,()) ((),(),())))
def v4u:PT:=Qi ([(7,⟨[0,1,4,5,7,8,9],[],[],[(.slot 6,.int .i64),(.obj 0,.own 4 C.bool)]⟩)]:LS)
def j6t (Q1:Wb):Ev Sg:=(E0.with 113 (q4n Q1))
theorem v0o (Q1:Wb) (until_:List (Int)) (now:Int) (K:List (Spn)->Prop):z9n Q1 until_ now K=fnV ((j6t Q1).pl v4u) 4 148 ([.sl C.i64,.v]:LP) ([.own 152 C.span]:LP) ([.sl C.i64,.int .i64]:LV) ([.vec 152 C.span]:LV) ([.same,.same]:LV) (until_,now,()) (fun r _=>K r.1):=by kernel_rfl
theorem v9e:Qn Proofs.Tryz.prog D 148 (w1y q3x):=Ql (E:=j6t Ji) (Qe h_E0 q3f q8c) fun a K=>v0o Ji a.1 a.2.1 (fun q0=>K (q0,()) ((),(),()))
theorem z2m:Ent Proofs.Tryz.prog 112:=Qh (by kernel_rfl) (by kernel_rfl) (by kernel_rfl)
def z5d (X:Gt):Con Sg:=conV ([.sl C.span]:LP) ([.sl C.span]:LV) ([.vec 4 C.bool]:LV) ([.same]:LV) (fun a K=>X a.1 (fun q0=>K (q0,()) ((),())))
def y43:PT:=Qi ([(7,⟨[0,2,3,6],[],[],[(.slot 4,.int .i64),(.obj 0,.own 4 C.bool)]⟩),(13,⟨[0,2,3,4,6,7,8,9,10,13,14,15,16,17,18],[],[],[(.slot 5,.int .i64),(.obj 0,.own 4 C.bool)]⟩)]:LS)
def w77:Ev Sg:=E0
theorem v9f (l:List (Spn)) (K:List (Bool)->Prop):Vu l K=fnV ((w77).pl y43) 4 112 ([.sl C.span]:LP) ([.own 4 C.bool]:LP) ([.sl C.span]:LV) ([.vec 4 C.bool]:LV) ([.same]:LV) (l,()) (fun r _=>K r.1):=by kernel_rfl
theorem j17:Qn Proofs.Tryz.prog D 112 (z5d Vu):=Ql (E:=w77) h_E0 fun a K=>v9f a.1 (fun q0=>K (q0,()) ((),()))
theorem v0p:Ent Proofs.Tryz.prog 147:=Qh (by kernel_rfl) (by kernel_rfl) (by kernel_rfl)
def w1z (X:z1v):Con Sg:=conV ([.sl C.span,.sl C.span]:LP) ([.sl C.span,.sl C.span]:LV) ([.vec 152 C.span]:LV) ([.same,.same]:LV) (fun a K=>X a.1 a.2.1 (fun q0=>K (q0,()) ((),(),())))
def v4v:PT:=Qi ([(7,⟨[0,1,4,5,6,8,9,10,11],[1],[],[(.slot 7,.int .i64),(.obj 0,.own 4 C.bool)]⟩)]:LS)
def j6u (Zw:Gt) (Q1:Wb):Ev Sg:=((E0.with 112 (z5d Zw)).with 113 (q4n Q1))
theorem v0q (Zw:Gt) (Q1:Wb) (a:List (Spn)) (b:List (Spn)) (K:List (Spn)->Prop):z9o Zw Q1 a b K=fnV ((j6u Zw Q1).pl v4v) 4 147 ([.sl C.span,.sl C.span]:LP) ([.own 152 C.span]:LP) ([.sl C.span,.sl C.span]:LV) ([.vec 152 C.span]:LV) ([.same,.same]:LV) (a,b,()) (fun r _=>K r.1):=by kernel_rfl
theorem v9g:Qn Proofs.Tryz.prog D 147 (w1z q3y):=Ql (E:=j6u Vu Ji) (Qe (Qe h_E0 z2m j17) q3f q8c) fun a K=>v0q Vu Ji a.1 a.2.1 (fun q0=>K (q0,()) ((),(),()))
theorem v0r:Ent Proofs.Tryz.prog 111:=Qh (by kernel_rfl) (by kernel_rfl) (by kernel_rfl)
def w2a (X:z1w):Con Sg:=conV ([.el C.env,.v,.v,.v]:LP) ([.el C.env,.str,.str,.int .i64]:LV) ([.vec 152 C.span]:LV) ([.same,.same,.same,.same]:LV) (fun a K=>X a.1 a.2.1 a.2.2.1 a.2.2.2.1 (fun q0=>K (q0,()) ((),(),(),(),())))
def v4w:PT:=Qi ([(10,⟨[0,1,2,3,4,8,9,13,14,15,16,17],[0],[],[(.slot 10,.own 152 C.span)]⟩),(13,⟨[0,1,2,3,4,8,9,13,14,15,16,17],[0],[],[(.slot 10,.own 152 C.span),(.slot 11,.int .i64)]⟩)]:LS)
def j6v (Zk:Vc) (Rb:z1v) (Un:q2x) (Bx:z1u):Ev Sg:=((((E0.with 110 (q6s Zk)).with 147 (w1z Rb)).with 149 (z5c Un)).with 148 (w1y Bx))
theorem v0s (Zk:Vc) (Rb:z1v) (Un:q2x) (Bx:z1u) (v:Envt) (layer:ByteArray) (but:ByteArray) (now:Int) (K:List (Spn)->Prop):z9p Zk Rb Un Bx v layer but now K=fnV ((j6v Zk Rb Un Bx).pl v4w) 4 111 ([.el C.env,.v,.v,.v]:LP) ([.own 152 C.span]:LP) ([.el C.env,.str,.str,.int .i64]:LV) ([.vec 152 C.span]:LV) ([.same,.same,.same,.same]:LV) (v,layer,but,now,()) (fun r _=>K r.1):=by kernel_rfl
theorem v9h:Qn Proofs.Tryz.prog D 111 (w2a q3z):=Ql (E:=j6v Wg q3y Ui q3x) (Qe (Qe (Qe (Qe h_E0 q8b z2l) v0p v9g) j5a w1x) v0n v9e) fun a K=>v0s Wg q3y Ui q3x a.1 a.2.1 a.2.2.1 a.2.2.2.1 (fun q0=>K (q0,()) ((),(),(),(),()))
theorem j18:Ent Proofs.Tryz.prog 73:=Qh (by kernel_rfl) (by kernel_rfl) (by kernel_rfl)
def j0a (X:q1k):Con Sg:=conV ([.sl C.span,.sl C.span]:LP) ([.sl C.span,.sl C.span]:LV) ([.vec 152 C.span]:LV) ([.same,.same]:LV) (fun a K=>X a.1 a.2.1 (fun q0=>K (q0,()) ((),(),())))
def v4x:PT:=Qi ([(7,⟨[0,1,4,5,6,8,9,10,11],[1],[],[(.slot 7,.int .i64),(.obj 0,.own 4 C.bool)]⟩)]:LS)
def j6w (Zw:Gt) (Q1:Wb):Ev Sg:=((E0.with 112 (z5d Zw)).with 113 (q4n Q1))
theorem v0t (Zw:Gt) (Q1:Wb) (a:List (Spn)) (b:List (Spn)) (K:List (Spn)->Prop):z9q Zw Q1 a b K=fnV ((j6w Zw Q1).pl v4x) 4 73 ([.sl C.span,.sl C.span]:LP) ([.own 152 C.span]:LP) ([.sl C.span,.sl C.span]:LV) ([.vec 152 C.span]:LV) ([.same,.same]:LV) (a,b,()) (fun r _=>K r.1):=by kernel_rfl
theorem w2b:Qn Proofs.Tryz.prog D 73 (j0a Hw):=Ql (E:=j6w Vu Ji) (Qe (Qe h_E0 z2m j17) q3f q8c) fun a K=>v0t Vu Ji a.1 a.2.1 (fun q0=>K (q0,()) ((),(),()))
end Go.En
end
noncomputable section
set_option maxRecDepth 100000
open Go Go.RowKit Go.Fl Go.Fl.Lk Go.Fx
namespace Go.En
theorem v4y:Ent Proofs.Tryz.prog 72:=Qh (by kernel_rfl) (by kernel_rfl) (by kernel_rfl)
def w78 (X:z62):Con Sg:=conV ([.el C.env,.v,.v]:LP) ([.el C.env,.str,.int .i64]:LV) ([.vec 152 C.span,.int .i64]:LV) ([.same,.same,.same]:LV) (fun a K=>X a.1 a.2.1 a.2.2.1 (fun q0 q1=>K (q0,q1,()) ((),(),(),())))
def v9i:PT:=Qi ([]:LS)
def w2c (q66:z61) (Zk:Vc) (q4w:z1w) (W7:q1k):Ev Sg:=((((E0.with 109 (w76 q66)).with 110 (q6s Zk)).with 111 (w2a q4w)).with 73 (j0a W7))
theorem v4z (q66:z61) (Zk:Vc) (q4w:z1w) (W7:q1k) (v:Envt) (layer:ByteArray) (now:Int) (K:List (Spn)->Int->Prop):j4k q66 Zk q4w W7 v layer now K=fnV ((w2c q66 Zk q4w W7).pl v9i) 4 72 ([.el C.env,.v,.v]:LP) ([.own 152 C.span,.v]:LP) ([.el C.env,.str,.int .i64]:LV) ([.vec 152 C.span,.int .i64]:LV) ([.same,.same,.same]:LV) (v,layer,now,()) (fun r _=>K r.1 r.2.1):=by kernel_rfl
theorem y44:Qn Proofs.Tryz.prog D 72 (w78 q6w):=Ql (E:=w2c q3w Wg q3z Hw) (Qe (Qe (Qe (Qe h_E0 v4r y42) q8b z2l) v0r v9h) j18 w2b) fun a K=>v4z q3w Wg q3z Hw a.1 a.2.1 a.2.2.1 (fun q0 q1=>K (q0,q1,()) ((),(),(),()))
theorem v0u:Ent Proofs.Tryz.prog 74:=Qh (by kernel_rfl) (by kernel_rfl) (by kernel_rfl)
def w2d (X:z1x):Con Sg:=conV ([.sl C.span,.v]:LP) ([.sl C.span,.int .i64]:LV) ([.vec 152 C.span]:LV) ([.same,.same]:LV) (fun a K=>X a.1 a.2.1 (fun q0=>K (q0,()) ((),(),())))
def v40:PT:=Qi ([(7,⟨[0,4,5,7,8],[],[],[(.slot 1,.int .i64),(.slot 6,.int .i64),(.obj 0,.own 4 C.bool)]⟩)]:LS)
def j6x (Zw:Gt) (Q1:Wb):Ev Sg:=((E0.with 112 (z5d Zw)).with 113 (q4n Q1))
theorem v0v (Zw:Gt) (Q1:Wb) (l:List (Spn)) (n:Int) (K:List (Spn)->Prop):z9r Zw Q1 l n K=fnV ((j6x Zw Q1).pl v40) 4 74 ([.sl C.span,.v]:LP) ([.own 152 C.span]:LP) ([.sl C.span,.int .i64]:LV) ([.vec 152 C.span]:LV) ([.same,.same]:LV) (l,n,()) (fun r _=>K r.1):=by kernel_rfl
theorem v9j:Qn Proofs.Tryz.prog D 74 (w2d q30):=Ql (E:=j6x Vu Ji) (Qe (Qe h_E0 z2m j17) q3f q8c) fun a K=>v0v Vu Ji a.1 a.2.1 (fun q0=>K (q0,()) ((),(),()))
theorem q54:Ent Proofs.Tryz.prog 200:=Qh (by kernel_rfl) (by kernel_rfl) (by kernel_rfl)
def q3g (X:Ws):Con Sg:=conV ([.v]:LP) ([.str]:LV) ([.bool]:LV) ([.same]:LV) (fun a K=>X a.1 (fun q0=>K (q0,()) ((),())))
theorem q9d:Qn Proofs.Tryz.prog D 200 (q3g Jp):=j1s
theorem Bw:Ent Proofs.Tryz.prog 175:=Qh (by kernel_rfl) (by kernel_rfl) (by kernel_rfl)
def q19 (X:Jh):Con Sg:=conV ([.v]:LP) ([.str]:LV) ([.bool]:LV) ([.same]:LV) (fun a K=>X a.1 (fun q0=>K (q0,()) ((),())))
def v9k:PT:=Qi ([(9,⟨[0,4,5,6,7,8,9,10,11],[],[],[(.slot 3,.int .i64)]⟩)]:LS)
def w2e (Zl:Ws):Ev Sg:=(E0.with 200 (q3g Zl))
theorem v41 (Zl:Ws) (s:ByteArray) (K:Bool->Prop):z63 Zl s K=fnV ((w2e Zl).pl v9k) 4 175 ([.v]:LP) ([.v]:LP) ([.str]:LV) ([.bool]:LV) ([.same]:LV) (s,()) (fun r _=>K r.1):=by kernel_rfl
theorem q4o:Qn Proofs.Tryz.prog D 175 (q19 Zt):=Ql (E:=w2e Jp) (Qe h_E0 q54 q9d) fun a K=>v41 Jp a.1 (fun q0=>K (q0,()) ((),()))
theorem v9l:Ent Proofs.Tryz.prog 205:=Qh (by kernel_rfl) (by kernel_rfl) (by kernel_rfl)
def v42 (X:j1k):Con Sg:=conV ([.v]:LP) ([.str]:LV) ([.bool]:LV) ([.same]:LV) (fun a K=>X a.1 (fun q0=>K (q0,()) ((),())))
def y45:PT:=Qi ([(5,⟨[0],[],[],[(.slot 3,.int .i64)]⟩)]:LS)
def w79:Ev Sg:=E0
theorem v9m (s:ByteArray) (K:Bool->Prop):q7u s K=fnV ((w79).pl y45) 4 205 ([.v]:LP) ([.v]:LP) ([.str]:LV) ([.bool]:LV) ([.same]:LV) (s,()) (fun r _=>K r.1):=by kernel_rfl
theorem y9a:Qn Proofs.Tryz.prog D 205 (v42 q7u):=Ql (E:=w79) h_E0 fun a K=>v9m a.1 (fun q0=>K (q0,()) ((),()))
theorem w2f:Ent Proofs.Tryz.prog 206:=Qh (by kernel_rfl) (by kernel_rfl) (by kernel_rfl)
def j19 (X:q6f):Con Sg:=conV ([]:LP) ([]:LV) ([.vec 9 C.str]:LV) ([]:LV) (fun _ K=>X (fun q0=>K (q0,()) ()))
def w5x:PT:=Qi ([]:LS)
def z8h:Ev Sg:=E0
theorem w2g (K:List (ByteArray)->Prop):Hx K=fnV ((z8h).pl w5x) 4 206 ([]:LP) ([.own 9 C.str]:LP) ([]:LV) ([.vec 9 C.str]:LV) ([]:LV) () (fun r _=>K r.1):=by kernel_rfl
theorem v0w:Qn Proofs.Tryz.prog D 206 (j19 Hx):=Ql (E:=z8h) h_E0 fun _ K=>w2g (fun q0=>K (q0,()) ())
theorem G2:Ent Proofs.Tryz.prog 185:=Qh (by kernel_rfl) (by kernel_rfl) (by kernel_rfl)
def q1g (X:Z2):Con Sg:=conV ([.v]:LP) ([.str]:LV) ([.bool]:LV) ([.same]:LV) (fun a K=>X a.1 (fun q0=>K (q0,()) ((),())))
def y9b:PT:=Qi ([(11,⟨[0,3,5,6,7,8,9,10,11,12,13],[0],[],[(.slot 4,.int .i64)]⟩)]:LS)
def v43 (z1a:j1k) (q0p:q6f):Ev Sg:=((E0.with 205 (v42 z1a)).with 206 (j19 q0p))
theorem y46 (z1a:j1k) (q0p:q6f) (s:ByteArray) (K:Bool->Prop):w99 z1a q0p s K=fnV ((v43 z1a q0p).pl y9b) 4 185 ([.v]:LP) ([.v]:LP) ([.str]:LV) ([.bool]:LV) ([.same]:LV) (s,()) (fun r _=>K r.1):=by kernel_rfl
theorem q3h:Qn Proofs.Tryz.prog D 185 (q1g Zx):=Ql (E:=v43 q7u Hx) (Qe (Qe h_E0 v9l y9a) w2f v0w) fun a K=>y46 q7u Hx a.1 (fun q0=>K (q0,()) ((),()))
theorem w2h:Ent Proofs.Tryz.prog 150:=Qh (by kernel_rfl) (by kernel_rfl) (by kernel_rfl)
def j2a (X:q6g):Con Sg:=conV ([.el C.settings]:LP) ([.el C.settings]:LV) ([.int .i64]:LV) ([.same]:LV) (fun a K=>X a.1 (fun q0=>K (q0,()) ((),())))
def w5y:PT:=Qi ([]:LS)
def z8i (Qu:Jh) (Qk:Z2):Ev Sg:=((E0.with 175 (q19 Qu)).with 185 (q1g Qk))
theorem w2i (Qu:Jh) (Qk:Z2) (s:Sett) (K:Int->Prop):z1y Qu Qk s K=fnV ((z8i Qu Qk).pl w5y) 4 150 ([.el C.settings]:LP) ([.v]:LP) ([.el C.settings]:LV) ([.int .i64]:LV) ([.same]:LV) (s,()) (fun r _=>K r.1):=by kernel_rfl
theorem v0x:Qn Proofs.Tryz.prog D 150 (j2a B8):=Ql (E:=z8i Zt Zx) (Qe (Qe h_E0 Bw q4o) G2 q3h) fun a K=>w2i Zt Zx a.1 (fun q0=>K (q0,()) ((),()))
theorem w2j:Ent Proofs.Tryz.prog 151:=Qh (by kernel_rfl) (by kernel_rfl) (by kernel_rfl)
def j2b (X:q6h):Con Sg:=conV ([.sl C.decl]:LP) ([.sl C.decl]:LV) ([.int .i64]:LV) ([.same]:LV) (fun a K=>X a.1 (fun q0=>K (q0,()) ((),())))
def w5z:PT:=Qi ([(9,⟨[0,4,5,6],[],[],[(.slot 3,.int .i64)]⟩)]:LS)
def z8j (Qk:Z2):Ev Sg:=(E0.with 185 (q1g Qk))
theorem w2k (Qk:Z2) (l:List (Decl)) (K:Int->Prop):z1z Qk l K=fnV ((z8j Qk).pl w5z) 4 151 ([.sl C.decl]:LP) ([.v]:LP) ([.sl C.decl]:LV) ([.int .i64]:LV) ([.same]:LV) (l,()) (fun r _=>K r.1):=by kernel_rfl
theorem v0y:Qn Proofs.Tryz.prog D 151 (j2b B9):=Ql (E:=z8j Zx) (Qe h_E0 G2 q3h) fun a K=>w2k Zx a.1 (fun q0=>K (q0,()) ((),()))
theorem z8k:Ent Proofs.Tryz.prog 207:=Qh (by kernel_rfl) (by kernel_rfl) (by kernel_rfl)
def z5e (X:Bl):Con Sg:=conV ([.sl C.str]:LP) ([.sl C.str]:LV) ([.int .i64]:LV) ([.same]:LV) (fun a K=>X a.1 (fun q0=>K (q0,()) ((),())))
def v0z:PT:=Qi ([(9,⟨[0,4,5,6],[],[],[(.slot 3,.int .i64)]⟩)]:LS)
def j2c (Qu:Jh):Ev Sg:=(E0.with 175 (q19 Qu))
theorem w50 (Qu:Jh) (l:List (ByteArray)) (K:Int->Prop):z4q Qu l K=fnV ((j2c Qu).pl v0z) 4 207 ([.sl C.str]:LP) ([.v]:LP) ([.sl C.str]:LV) ([.int .i64]:LV) ([.same]:LV) (l,()) (fun r _=>K r.1):=by kernel_rfl
theorem j6y:Qn Proofs.Tryz.prog D 207 (z5e U6):=Ql (E:=j2c Zt) (Qe h_E0 Bw q4o) fun a K=>w50 Zt a.1 (fun q0=>K (q0,()) ((),()))
theorem v9n:Ent Proofs.Tryz.prog 208:=Qh (by kernel_rfl) (by kernel_rfl) (by kernel_rfl)
def v44 (X:j1l):Con Sg:=conV ([.el C.ex]:LP) ([.el C.ex]:LV) ([.bool]:LV) ([.same]:LV) (fun a K=>X a.1 (fun q0=>K (q0,()) ((),())))
def y47:PT:=Qi ([]:LS)
def w8a:Ev Sg:=E0
theorem v9o (e:Ex) (K:Bool->Prop):q7v e K=fnV ((w8a).pl y47) 4 208 ([.el C.ex]:LP) ([.v]:LP) ([.el C.ex]:LV) ([.bool]:LV) ([.same]:LV) (e,()) (fun r _=>K r.1):=by kernel_rfl
theorem y9c:Qn Proofs.Tryz.prog D 208 (v44 q7v):=Ql (E:=w8a) h_E0 fun a K=>v9o a.1 (fun q0=>K (q0,()) ((),()))
theorem v00:Ent Proofs.Tryz.prog 240:=Qh (by kernel_rfl) (by kernel_rfl) (by kernel_rfl)
def w2l (X:z10):Con Sg:=conV ([.el C.ex]:LP) ([.el C.ex]:LV) ([.bool]:LV) ([.same]:LV) (fun a K=>X a.1 (fun q0=>K (q0,()) ((),())))
def v45:PT:=Qi ([(20,⟨[0,1,2,6,7,8,9,10,11,12,13],[0],[],[(.slot 3,.bool),(.slot 4,.bool)]⟩)]:LS)
def j6z (Qw:Wa):Ev Sg:=(E0.with 81 (q4j Qw))
theorem v01 (Qw:Wa) (e:Ex) (K:Bool->Prop):z9s Qw e K=fnV ((j6z Qw).pl v45) 4 240 ([.el C.ex]:LP) ([.v]:LP) ([.el C.ex]:LV) ([.bool]:LV) ([.same]:LV) (e,()) (fun r _=>K r.1):=by kernel_rfl
theorem v9p:Qn Proofs.Tryz.prog D 240 (w2l q31):=Ql (E:=j6z Z8) (Qe h_E0 q3c q76) fun a K=>v01 Z8 a.1 (fun q0=>K (q0,()) ((),()))
end Go.En
end
noncomputable section
set_option maxRecDepth 100000
open Go Go.RowKit Go.Fl Go.Fl.Lk Go.Fx
namespace Go.En
theorem v47:Ent Proofs.Tryz.prog 174:=Qh (by kernel_rfl) (by kernel_rfl) (by kernel_rfl)
def w8b (X:z64):Con Sg:=conV ([.el C.val]:LP) ([.el C.val]:LV) ([.bool]:LV) ([.same]:LV) (fun a K=>X a.1 (fun q0=>K (q0,()) ((),())))
def v9q:PT:=Qi ([]:LS)
def w2m:Ev Sg:=E0
theorem v48 (v:Val) (K:Bool->Prop):q0a v K=fnV ((w2m).pl v9q) 4 174 ([.el C.val]:LP) ([.v]:LP) ([.el C.val]:LV) ([.bool]:LV) ([.same]:LV) (v,()) (fun r _=>K r.1):=by kernel_rfl
theorem y48:Qn Proofs.Tryz.prog D 174 (w8b q0a):=Ql (E:=w2m) h_E0 fun a K=>v48 a.1 (fun q0=>K (q0,()) ((),()))
theorem j2d:Ent Proofs.Tryz.prog 177:=Qh (by kernel_rfl) (by kernel_rfl) (by kernel_rfl)
def z3l (X:q1b):Con Sg:=conV ([.v]:LP) ([.str]:LV) ([.int .i64,.int .i64]:LV) ([.same]:LV) (fun a K=>X a.1 (fun q0 q1=>K (q0,q1,()) ((),())))
def j5c:PT:=Qi ([(8,⟨[0,2,3,8],[],[],[(.slot 4,.str)]⟩),(11,⟨[0,4,8],[],[],[(.slot 5,.int .i64)]⟩),(31,⟨[0,4,5,8,19,20,21,22,35,36,37,38,39,40,41,42,43,44,45,46,47,48],[],[],[(.slot 6,.int .i64),(.slot 7,.int .i64)]⟩)]:LS)
def z0v:Ev Sg:=E0
theorem j2e (s:ByteArray) (K:Int->Int->Prop):Jx s K=fnV ((z0v).pl j5c) 4 177 ([.v]:LP) ([.v,.v]:LP) ([.str]:LV) ([.int .i64,.int .i64]:LV) ([.same]:LV) (s,()) (fun r _=>K r.1 r.2.1):=by kernel_rfl
theorem j8i:Qn Proofs.Tryz.prog D 177 (z3l Jx):=Ql (E:=z0v) h_E0 fun a K=>j2e a.1 (fun q0 q1=>K (q0,q1,()) ((),()))
theorem j60:Ent Proofs.Tryz.prog 128:=Qh (by kernel_rfl) (by kernel_rfl) (by kernel_rfl)
def j5d (X:q32):Con Sg:=conV ([.v]:LP) ([.str]:LV) ([.el C.a3,.bool]:LV) ([.same]:LV) (fun a K=>X a.1 (fun q0 q1=>K (q0,q1,()) ((),())))
def v9r:PT:=Qi ([(9,⟨[0,2,4],[],[(1,(214,3)),(0,(214,3))],[(.slot 5,.int .i64),(.slot 6,.int .i64),(.cell 1 0,.int .i64),(.cell 1 1,.int .i64),(.cell 1 2,.int .i64),(.cell 0 0,.int .i64),(.cell 0 1,.int .i64),(.cell 0 2,.int .i64)]⟩),(15,⟨[0,2,4,6,7,10,11,14],[1,0],[],[(.slot 5,.int .i64)]⟩)]:LS)
def w2n (Vt:q1b):Ev Sg:=(E0.with 177 (z3l Vt))
theorem v49 (Vt:q1b) (s:ByteArray) (K:A3->Bool->Prop):z65 Vt s K=fnV ((w2n Vt).pl v9r) 4 128 ([.v]:LP) ([.el C.a3,.v]:LP) ([.str]:LV) ([.el C.a3,.bool]:LV) ([.same]:LV) (s,()) (fun r _=>K r.1 r.2.1):=by kernel_rfl
theorem w8c:Qn Proofs.Tryz.prog D 128 (j5d Gu):=Ql (E:=w2n Jx) (Qe h_E0 j2d j8i) fun a K=>v49 Jx a.1 (fun q0 q1=>K (q0,q1,()) ((),()))
theorem v9s:Ent Proofs.Tryz.prog 176:=Qh (by kernel_rfl) (by kernel_rfl) (by kernel_rfl)
def v5a (X:j1m):Con Sg:=conV ([.sl C.str]:LP) ([.sl C.str]:LV) ([.int .i64]:LV) ([.same]:LV) (fun a K=>X a.1 (fun q0=>K (q0,()) ((),())))
def y49:PT:=Qi ([(9,⟨[0,5,6,7],[],[],[(.slot 3,.int .i64)]⟩),(19,⟨[0,3,5,6,7,8,9,10,11],[],[],[(.slot 4,.int .i64)]⟩)]:LS)
def w8d (Qu:Jh):Ev Sg:=(E0.with 175 (q19 Qu))
theorem v9t (Qu:Jh) (l:List (ByteArray)) (K:Int->Prop):j1n Qu l K=fnV ((w8d Qu).pl y49) 4 176 ([.sl C.str]:LP) ([.v]:LP) ([.sl C.str]:LV) ([.int .i64]:LV) ([.same]:LV) (l,()) (fun r _=>K r.1):=by kernel_rfl
theorem y9d:Qn Proofs.Tryz.prog D 176 (v5a q5m):=Ql (E:=w8d Zt) (Qe h_E0 Bw q4o) fun a K=>v9t Zt a.1 (fun q0=>K (q0,()) ((),()))
theorem z5f:Ent Proofs.Tryz.prog 126:=Qh (by kernel_rfl) (by kernel_rfl) (by kernel_rfl)
def z7h (X:Rq):Con Sg:=conV ([.el C.val]:LP) ([.el C.val]:LV) ([.int .i64]:LV) ([.same]:LV) (fun a K=>X a.1 (fun q0=>K (q0,()) ((),())))
def v9u:PT:=Qi ([]:LS)
def w2o (q67:z64) (Qu:Jh) (Vl:q32) (z1b:j1m):Ev Sg:=((((E0.with 174 (w8b q67)).with 175 (q19 Qu)).with 128 (j5d Vl)).with 176 (v5a z1b))
theorem v5b (q67:z64) (Qu:Jh) (Vl:q32) (z1b:j1m) (v:Val) (K:Int->Prop):z66 q67 Qu Vl z1b v K=fnV ((w2o q67 Qu Vl z1b).pl v9u) 4 126 ([.el C.val]:LP) ([.v]:LP) ([.el C.val]:LV) ([.int .i64]:LV) ([.same]:LV) (v,()) (fun r _=>K r.1):=by kernel_rfl
theorem j5e:Qn Proofs.Tryz.prog D 126 (z7h Vg):=Ql (E:=w2o q0a Zt Gu q5m) (Qe (Qe (Qe (Qe h_E0 v47 y48) Bw q4o) j60 w8c) v9s y9d) fun a K=>v5b q0a Zt Gu q5m a.1 (fun q0=>K (q0,()) ((),()))
theorem v9v:Ent Proofs.Tryz.prog 232:=Qh (by kernel_rfl) (by kernel_rfl) (by kernel_rfl)
def v5c (X:j1o):Con Sg:=conV ([.el C.ex]:LP) ([.el C.ex]:LV) ([.int .i64]:LV) ([.same]:LV) (fun a K=>X a.1 (fun q0=>K (q0,()) ((),())))
def y5a:PT:=Qi ([(17,⟨[0,1,6,7,8,9,10,11,12,13,14,15,16,17,18,19,20,21,22,23,24,25,26],[0],[],[(.slot 3,.int .i64)]⟩),(31,⟨[0,1,3,6,7,8,9,10,11,12,13,14,15,16,17,18,19,20,21,22,23,24,25,26,27,28,29,30,31,48,49,50,51,52,53,54,55,56,57,58,59,60,61,65,66,67,68,69,70,71,72],[0],[],[(.slot 4,.int .i64)]⟩)]:LS)
def w8e (q4x:z10) (Qw:Wa) (Qk:Z2) (Zu:Rq):Ev Sg:=((((E0.with 240 (w2l q4x)).with 81 (q4j Qw)).with 185 (q1g Qk)).with 126 (z7h Zu))
theorem v9w (q4x:z10) (Qw:Wa) (Qk:Z2) (Zu:Rq) (e:Ex) (K:Int->Prop):w07 q4x Qw Qk Zu e K=fnV ((w8e q4x Qw Qk Zu).pl y5a) 4 232 ([.el C.ex]:LP) ([.v]:LP) ([.el C.ex]:LV) ([.int .i64]:LV) ([.same]:LV) (e,()) (fun r _=>K r.1):=by kernel_rfl
theorem y9e:Qn Proofs.Tryz.prog D 232 (v5c z0l):=Ql (E:=w8e q31 Z8 Zx Vg) (Qe (Qe (Qe (Qe h_E0 v00 v9p) q3c q76) G2 q3h) z5f j5e) fun a K=>v9w q31 Z8 Zx Vg a.1 (fun q0=>K (q0,()) ((),()))
theorem w2p:Ent Proofs.Tryz.prog 224:=Qh (by kernel_rfl) (by kernel_rfl) (by kernel_rfl)
def w2q (X:q7w):Con Sg:=conV ([.el C.ex,.v,.ptr 3 [.v]]:LP) ([.el C.ex,.int .i64,.ptr 3 [.int .i64]]:LV) ([.int .i64]:LV) ([.same,.same,.ptr 3 [.int .i64]]:LV) (fun a K=>X a.1 a.2.1 a.2.2.1.1 (fun q0 q1=>K (q0,()) ((),(),(q1,()),())))
def w8f:PT:=Qi ([(21,⟨[0,1,2,3,7,10,11,12,13,14,15,16,17,18,19,20,21,22,23,24],[1],[(0,(3,1))],[(.slot 8,.int .i64),(.cell 0 0,.int .i64)]⟩)]:LS)
def w8g (z1c:j1o):Ev Sg:=(E0.with 232 (v5c z1c))
theorem v9x (z1c:j1o) (X:q7w) (e:Ex) (depth:Int) (n:Int) (K:Int->Int->Prop):w08 z1c X e depth n K=fnV (((w8g z1c).with 224 (w2q X)).pl w8f) 4 224 ([.el C.ex,.v,.ptr 3 [.v]]:LP) ([.v]:LP) ([.el C.ex,.int .i64,.ptr 3 [.int .i64]]:LV) ([.int .i64]:LV) ([.same,.same,.ptr 3 [.int .i64]]:LV) (e,depth,(n,()),()) (fun r o=>K r.1 o.2.2.1.1):=by kernel_rfl
theorem y9f:Qn Proofs.Tryz.prog D 224 (w2q z0m):=by
 show Qn _ _ _ (conV ([.el C.ex,.v,.ptr 3 [.v]]:LP) ([.el C.ex,.int .i64,.ptr 3 [.int .i64]]:LV) ([.int .i64]:LV) ([.same,.same,.ptr 3 [.int .i64]]:LV) fun a K=>z0m a.1 a.2.1 a.2.2.1.1 (fun q0 q1=>K (q0,()) ((),(),(q1,()),())))
 refine z0g (E:=w8g z0l) (fuel:=4) (rk:=[.v]) (p:=w8f) (Qe h_E0 v9v y9e) w2p fun a K h X hX=> ?_
 exact h (fun e depth n K=>X (e,depth,(n,()),()) fun r o=>K r.1 o.2.2.1.1) (fun e depth n K hs=>hX (e,depth,(n,()),()) (fun r o=>K r.1 o.2.2.1.1) (Eq.mp (v9x z0l (fun e depth n K=>X (e,depth,(n,()),()) fun r o=>K r.1 o.2.2.1.1) e depth n K) hs))
theorem j0b:Ent Proofs.Tryz.prog 209:=Qh (by kernel_rfl) (by kernel_rfl) (by kernel_rfl)
def j2f (X:q04):Con Sg:=conV ([.el C.ex]:LP) ([.el C.ex]:LV) ([.int .i64]:LV) ([.same]:LV) (fun a K=>X a.1 (fun q0=>K (q0,()) ((),())))
def y5b:PT:=Qi ([]:LS)
def w8h (z1d:q7w):Ev Sg:=(E0.with 224 (w2q z1d))
theorem v9y (z1d:q7w) (e:Ex) (K:Int->Prop):w09 z1d e K=fnV ((w8h z1d).pl y5b) 4 209 ([.el C.ex]:LP) ([.v]:LP) ([.el C.ex]:LV) ([.int .i64]:LV) ([.same]:LV) (e,()) (fun r _=>K r.1):=by kernel_rfl
theorem w2r:Qn Proofs.Tryz.prog D 209 (j2f Rg):=Ql (E:=w8h z0m) (Qe h_E0 w2p y9f) fun a K=>v9y z0m a.1 (fun q0=>K (q0,()) ((),()))
theorem w51:Ent Proofs.Tryz.prog 186:=Qh (by kernel_rfl) (by kernel_rfl) (by kernel_rfl)
def j61 (X:q8x):Con Sg:=conV ([.el C.seg]:LP) ([.el C.seg]:LV) ([.int .i64]:LV) ([.same]:LV) (fun a K=>X a.1 (fun q0=>K (q0,()) ((),())))
def v02:PT:=Qi ([]:LS)
def j2g (Qk:Z2) (Wc:Bl) (z1e:j1l) (Wl:q04):Ev Sg:=((((E0.with 185 (q1g Qk)).with 207 (z5e Wc)).with 208 (v44 z1e)).with 209 (j2f Wl))
theorem w52 (Qk:Z2) (Wc:Bl) (z1e:j1l) (Wl:q04) (g:Seg) (K:Int->Prop):z4r Qk Wc z1e Wl g K=fnV ((j2g Qk Wc z1e Wl).pl v02) 4 186 ([.el C.seg]:LP) ([.v]:LP) ([.el C.seg]:LV) ([.int .i64]:LV) ([.same]:LV) (g,()) (fun r _=>K r.1):=by kernel_rfl
theorem v5d:Qn Proofs.Tryz.prog D 186 (j61 q12):=Ql (E:=j2g Zx U6 q7v Rg) (Qe (Qe (Qe (Qe h_E0 G2 q3h) z8k j6y) v9n y9c) j0b w2r) fun a K=>w52 Zx U6 q7v Rg a.1 (fun q0=>K (q0,()) ((),()))
theorem w2s:Ent Proofs.Tryz.prog 152:=Qh (by kernel_rfl) (by kernel_rfl) (by kernel_rfl)
def j2h (X:q6i):Con Sg:=conV ([.sl C.seg]:LP) ([.sl C.seg]:LV) ([.int .i64]:LV) ([.same]:LV) (fun a K=>X a.1 (fun q0=>K (q0,()) ((),())))
def w53:PT:=Qi ([(9,⟨[0,5,6,7],[],[],[(.slot 3,.int .i64)]⟩)]:LS)
def z8l (q2e:q8x):Ev Sg:=(E0.with 186 (j61 q2e))
theorem w2t (q2e:q8x) (l:List (Seg)) (K:Int->Prop):z11 q2e l K=fnV ((z8l q2e).pl w53) 4 152 ([.sl C.seg]:LP) ([.v]:LP) ([.sl C.seg]:LV) ([.int .i64]:LV) ([.same]:LV) (l,()) (fun r _=>K r.1):=by kernel_rfl
theorem v03:Qn Proofs.Tryz.prog D 152 (j2h q0b):=Ql (E:=z8l q12) (Qe h_E0 w51 v5d) fun a K=>w2t q12 a.1 (fun q0=>K (q0,()) ((),()))
theorem j5f:Ent Proofs.Tryz.prog 210:=Qh (by kernel_rfl) (by kernel_rfl) (by kernel_rfl)
def z5g (X:q2y):Con Sg:=conV ([.el C.flag]:LP) ([.el C.flag]:LV) ([.int .i64]:LV) ([.same]:LV) (fun a K=>X a.1 (fun q0=>K (q0,()) ((),())))
def j8j:PT:=Qi ([(15,⟨[0,1,3,6,7,8,9,10,11,12],[0],[],[(.slot 4,.int .i64)]⟩)]:LS)
def z3m (Zu:Rq):Ev Sg:=(E0.with 126 (z7h Zu))
theorem j5g (Zu:Rq) (f:Flg) (K:Int->Prop):q7x Zu f K=fnV ((z3m Zu).pl j8j) 4 210 ([.el C.flag]:LP) ([.v]:LP) ([.el C.flag]:LV) ([.int .i64]:LV) ([.same]:LV) (f,()) (fun r _=>K r.1):=by kernel_rfl
theorem w2u:Qn Proofs.Tryz.prog D 210 (z5g Gv):=Ql (E:=z3m Vg) (Qe h_E0 z5f j5e) fun a K=>j5g Vg a.1 (fun q0=>K (q0,()) ((),()))
theorem z7n:Ent Proofs.Tryz.prog 211:=Qh (by kernel_rfl) (by kernel_rfl) (by kernel_rfl)
def q9e (X:Ba):Con Sg:=conV ([.sl C.prereq]:LP) ([.sl C.prereq]:LV) ([.int .i64]:LV) ([.same]:LV) (fun a K=>X a.1 (fun q0=>K (q0,()) ((),())))
def j0c:PT:=Qi ([(9,⟨[0,4,5,6],[],[],[(.slot 3,.int .i64)]⟩)]:LS)
def q8d (Qk:Z2):Ev Sg:=(E0.with 185 (q1g Qk))
theorem z7o (Qk:Z2) (l:List (Prq)) (K:Int->Prop):q2z Qk l K=fnV ((q8d Qk).pl j0c) 4 211 ([.sl C.prereq]:LP) ([.v]:LP) ([.sl C.prereq]:LV) ([.int .i64]:LV) ([.same]:LV) (l,()) (fun r _=>K r.1):=by kernel_rfl
theorem j2i:Qn Proofs.Tryz.prog D 211 (q9e Vh):=Ql (E:=q8d Zx) (Qe h_E0 G2 q3h) fun a K=>z7o Zx a.1 (fun q0=>K (q0,()) ((),()))
end Go.En
end
noncomputable section
set_option maxRecDepth 100000
open Go Go.RowKit Go.Fl Go.Fl.Lk Go.Fx
namespace Go.En
theorem w54:Ent Proofs.Tryz.prog 212:=Qh (by kernel_rfl) (by kernel_rfl) (by kernel_rfl)
def j62 (X:q8y):Con Sg:=conV ([.sl C.target,.v]:LP) ([.sl C.target,.int .i64]:LV) ([.int .i64]:LV) ([.same,.same]:LV) (fun a K=>X a.1 a.2.1 (fun q0=>K (q0,()) ((),(),())))
def v04:PT:=Qi ([(9,⟨[0,1,7,8,9],[],[],[(.slot 5,.int .i64)]⟩)]:LS)
def j2j (Qk:Z2) (Wc:Bl):Ev Sg:=((E0.with 185 (q1g Qk)).with 207 (z5e Wc))
theorem w55 (Qk:Z2) (Wc:Bl) (l:List (Tgt)) (n:Int) (K:Int->Prop):z4s Qk Wc l n K=fnV ((j2j Qk Wc).pl v04) 4 212 ([.sl C.target,.v]:LP) ([.v]:LP) ([.sl C.target,.int .i64]:LV) ([.int .i64]:LV) ([.same,.same]:LV) (l,n,()) (fun r _=>K r.1):=by kernel_rfl
theorem v5e:Qn Proofs.Tryz.prog D 212 (j62 q13):=Ql (E:=j2j Zx U6) (Qe (Qe h_E0 G2 q3h) z8k j6y) fun a K=>w55 Zx U6 a.1 a.2.1 (fun q0=>K (q0,()) ((),(),()))
theorem j63:Ent Proofs.Tryz.prog 216:=Qh (by kernel_rfl) (by kernel_rfl) (by kernel_rfl)
def j5h (X:q33):Con Sg:=conV ([.sl C.range,.v]:LP) ([.sl C.range,.int .i64]:LV) ([.int .i64]:LV) ([.same,.same]:LV) (fun a K=>X a.1 a.2.1 (fun q0=>K (q0,()) ((),(),())))
def v9z:PT:=Qi ([(11,⟨[0,1,7,8,9],[],[],[(.slot 5,.int .i64),(.slot 6,.int .i64)]⟩)]:LS)
def w2v:Ev Sg:=E0
theorem v5f (l:List (Rng)) (variations:Int) (K:Int->Prop):Rr l variations K=fnV ((w2v).pl v9z) 4 216 ([.sl C.range,.v]:LP) ([.v]:LP) ([.sl C.range,.int .i64]:LV) ([.int .i64]:LV) ([.same,.same]:LV) (l,variations,()) (fun r _=>K r.1):=by kernel_rfl
theorem w8i:Qn Proofs.Tryz.prog D 216 (j5h Rr):=Ql (E:=w2v) h_E0 fun a K=>v5f a.1 a.2.1 (fun q0=>K (q0,()) ((),(),()))
theorem j64:Ent Proofs.Tryz.prog 214:=Qh (by kernel_rfl) (by kernel_rfl) (by kernel_rfl)
def j5i (X:q34):Con Sg:=conV ([.el C.serve,.v]:LP) ([.el C.serve,.int .i64]:LV) ([.int .i64]:LV) ([.same,.same]:LV) (fun a K=>X a.1 a.2.1 (fun q0=>K (q0,()) ((),(),())))
def v90:PT:=Qi ([]:LS)
def w2w (Qk:Z2) (Qu:Jh) (V9:q33):Ev Sg:=(((E0.with 185 (q1g Qk)).with 175 (q19 Qu)).with 216 (j5h V9))
theorem v5g (Qk:Z2) (Qu:Jh) (V9:q33) (v:Srv) (variations:Int) (K:Int->Prop):j4l Qk Qu V9 v variations K=fnV ((w2w Qk Qu V9).pl v90) 4 214 ([.el C.serve,.v]:LP) ([.v]:LP) ([.el C.serve,.int .i64]:LV) ([.int .i64]:LV) ([.same,.same]:LV) (v,variations,()) (fun r _=>K r.1):=by kernel_rfl
theorem w8j:Qn Proofs.Tryz.prog D 214 (j5i q0c):=Ql (E:=w2w Zx Zt Rr) (Qe (Qe (Qe h_E0 G2 q3h) Bw q4o) j63 w8i) fun a K=>v5g Zx Zt Rr a.1 a.2.1 (fun q0=>K (q0,()) ((),(),()))
theorem v5h:Ent Proofs.Tryz.prog 213:=Qh (by kernel_rfl) (by kernel_rfl) (by kernel_rfl)
def w8k (X:z67):Con Sg:=conV ([.sl C.rule,.v]:LP) ([.sl C.rule,.int .i64]:LV) ([.int .i64]:LV) ([.same,.same]:LV) (fun a K=>X a.1 a.2.1 (fun q0=>K (q0,()) ((),(),())))
def v91:PT:=Qi ([(9,⟨[0,1,9,10,11],[],[],[(.slot 5,.int .i64)]⟩),(19,⟨[0,1,5,9,10,11,12,13,14,15,18,19,20,21,22,23,24],[],[],[(.slot 6,.int .i64)]⟩)]:LS)
def w2x (Qk:Z2) (Wl:q04) (Ua:q34):Ev Sg:=(((E0.with 185 (q1g Qk)).with 209 (j2f Wl)).with 214 (j5i Ua))
theorem v5i (Qk:Z2) (Wl:q04) (Ua:q34) (l:List (Rul)) (n:Int) (K:Int->Prop):j4m Qk Wl Ua l n K=fnV ((w2x Qk Wl Ua).pl v91) 4 213 ([.sl C.rule,.v]:LP) ([.v]:LP) ([.sl C.rule,.int .i64]:LV) ([.int .i64]:LV) ([.same,.same]:LV) (l,n,()) (fun r _=>K r.1):=by kernel_rfl
theorem y5c:Qn Proofs.Tryz.prog D 213 (w8k q6x):=Ql (E:=w2x Zx Rg q0c) (Qe (Qe (Qe h_E0 G2 q3h) j0b w2r) j64 w8j) fun a K=>v5i Zx Rg q0c a.1 a.2.1 (fun q0=>K (q0,()) ((),(),()))
theorem v92:Ent Proofs.Tryz.prog 187:=Qh (by kernel_rfl) (by kernel_rfl) (by kernel_rfl)
def v5j (X:j1p):Con Sg:=conV ([.el C.flag]:LP) ([.el C.flag]:LV) ([.int .i64]:LV) ([.same]:LV) (fun a K=>X a.1 (fun q0=>K (q0,()) ((),())))
def y5d:PT:=Qi ([]:LS)
def w8l (Qk:Z2) (Hc:q2y) (Vm:Ba) (q2f:q8y) (q68:z67) (Ua:q34):Ev Sg:=((((((E0.with 185 (q1g Qk)).with 210 (z5g Hc)).with 211 (q9e Vm)).with 212 (j62 q2f)).with 213 (w8k q68)).with 214 (j5i Ua))
theorem v93 (Qk:Z2) (Hc:q2y) (Vm:Ba) (q2f:q8y) (q68:z67) (Ua:q34) (f:Flg) (K:Int->Prop):w1a Qk Hc Vm q2f q68 Ua f K=fnV ((w8l Qk Hc Vm q2f q68 Ua).pl y5d) 4 187 ([.el C.flag]:LP) ([.v]:LP) ([.el C.flag]:LV) ([.int .i64]:LV) ([.same]:LV) (f,()) (fun r _=>K r.1):=by kernel_rfl
theorem y9g:Qn Proofs.Tryz.prog D 187 (v5j z0n):=Ql (E:=w8l Zx Gv Vh q13 q6x q0c) (Qe (Qe (Qe (Qe (Qe (Qe h_E0 G2 q3h) j5f w2u) z7n j2i) w54 v5e) v5h y5c) j64 w8j) fun a K=>v93 Zx Gv Vh q13 q6x q0c a.1 (fun q0=>K (q0,()) ((),()))
theorem v5k:Ent Proofs.Tryz.prog 153:=Qh (by kernel_rfl) (by kernel_rfl) (by kernel_rfl)
def w8m (X:z68):Con Sg:=conV ([.sl C.flag]:LP) ([.sl C.flag]:LV) ([.int .i64]:LV) ([.same]:LV) (fun a K=>X a.1 (fun q0=>K (q0,()) ((),())))
def v94:PT:=Qi ([(9,⟨[0,5,6,7],[],[],[(.slot 3,.int .i64)]⟩)]:LS)
def w2y (z1f:j1p):Ev Sg:=(E0.with 187 (v5j z1f))
theorem v5l (z1f:j1p) (l:List (Flg)) (K:Int->Prop):j4n z1f l K=fnV ((w2y z1f).pl v94) 4 153 ([.sl C.flag]:LP) ([.v]:LP) ([.sl C.flag]:LV) ([.int .i64]:LV) ([.same]:LV) (l,()) (fun r _=>K r.1):=by kernel_rfl
theorem y5e:Qn Proofs.Tryz.prog D 153 (w8m q6y):=Ql (E:=w2y z0n) (Qe h_E0 v92 y9g) fun a K=>v5l z0n a.1 (fun q0=>K (q0,()) ((),()))
theorem v5m:Ent Proofs.Tryz.prog 188:=Qh (by kernel_rfl) (by kernel_rfl) (by kernel_rfl)
def w8n (X:z69):Con Sg:=conV ([.el C.layer]:LP) ([.el C.layer]:LV) ([.int .i64]:LV) ([.same]:LV) (fun a K=>X a.1 (fun q0=>K (q0,()) ((),())))
def v95:PT:=Qi ([(21,⟨[0,1,5,6,7,8,9,10,11,12,13,14,15,16,17,18,19,20,21,22,23,24,25,26,27,28,29,30,31,32,33,34,35,36,37,38,39,40],[0],[],[(.slot 3,.int .i64)]⟩)]:LS)
def w2z (Qk:Z2) (Qu:Jh):Ev Sg:=((E0.with 185 (q1g Qk)).with 175 (q19 Qu))
theorem v5n (Qk:Z2) (Qu:Jh) (l:Lay_) (K:Int->Prop):j4o Qk Qu l K=fnV ((w2z Qk Qu).pl v95) 4 188 ([.el C.layer]:LP) ([.v]:LP) ([.el C.layer]:LV) ([.int .i64]:LV) ([.same]:LV) (l,()) (fun r _=>K r.1):=by kernel_rfl
theorem y5f:Qn Proofs.Tryz.prog D 188 (w8n q6z):=Ql (E:=w2z Zx Zt) (Qe (Qe h_E0 G2 q3h) Bw q4o) fun a K=>v5n Zx Zt a.1 (fun q0=>K (q0,()) ((),()))
theorem v05:Ent Proofs.Tryz.prog 154:=Qh (by kernel_rfl) (by kernel_rfl) (by kernel_rfl)
def w29 (X:z13):Con Sg:=conV ([.sl C.layer]:LP) ([.sl C.layer]:LV) ([.int .i64]:LV) ([.same]:LV) (fun a K=>X a.1 (fun q0=>K (q0,()) ((),())))
def v5o:PT:=Qi ([(9,⟨[0,5,6,7],[],[],[(.slot 3,.int .i64)]⟩)]:LS)
def j65 (q69:z69):Ev Sg:=(E0.with 188 (w8n q69))
theorem v06 (q69:z69) (l:List (Lay_)) (K:Int->Prop):z9t q69 l K=fnV ((j65 q69).pl v5o) 4 154 ([.sl C.layer]:LP) ([.v]:LP) ([.sl C.layer]:LV) ([.int .i64]:LV) ([.same]:LV) (l,()) (fun r _=>K r.1):=by kernel_rfl
theorem v96:Qn Proofs.Tryz.prog D 154 (w29 q35):=Ql (E:=j65 q6z) (Qe h_E0 v5m y5f) fun a K=>v06 q6z a.1 (fun q0=>K (q0,()) ((),()))
theorem v5p:Ent Proofs.Tryz.prog 215:=Qh (by kernel_rfl) (by kernel_rfl) (by kernel_rfl)
def w8o (X:z7a):Con Sg:=conV ([.sl C.span]:LP) ([.sl C.span]:LV) ([.int .i64]:LV) ([.same]:LV) (fun a K=>X a.1 (fun q0=>K (q0,()) ((),())))
def v97:PT:=Qi ([(9,⟨[0,4,5,6],[],[],[(.slot 3,.int .i64)]⟩)]:LS)
def w3a:Ev Sg:=E0
theorem v5q (l:List (Spn)) (K:Int->Prop):q36 l K=fnV ((w3a).pl v97) 4 215 ([.sl C.span]:LP) ([.v]:LP) ([.sl C.span]:LV) ([.int .i64]:LV) ([.same]:LV) (l,()) (fun r _=>K r.1):=by kernel_rfl
theorem y5g:Qn Proofs.Tryz.prog D 215 (w8o q36):=Ql (E:=w3a) h_E0 fun a K=>v5q a.1 (fun q0=>K (q0,()) ((),()))
theorem j5j:Ent Proofs.Tryz.prog 189:=Qh (by kernel_rfl) (by kernel_rfl) (by kernel_rfl)
def z5h (X:q20):Con Sg:=conV ([.el C.exper]:LP) ([.el C.exper]:LV) ([.int .i64]:LV) ([.same]:LV) (fun a K=>X a.1 (fun q0=>K (q0,()) ((),())))
def j8k:PT:=Qi ([]:LS)
def z3n (Qk:Z2) (Qu:Jh) (q7a:z7a) (V9:q33) (Wl:q04):Ev Sg:=(((((E0.with 185 (q1g Qk)).with 175 (q19 Qu)).with 215 (w8o q7a)).with 216 (j5h V9)).with 209 (j2f Wl))
theorem j5k (Qk:Z2) (Qu:Jh) (q7a:z7a) (V9:q33) (Wl:q04) (x:Exper) (K:Int->Prop):q7y Qk Qu q7a V9 Wl x K=fnV ((z3n Qk Qu q7a V9 Wl).pl j8k) 4 189 ([.el C.exper]:LP) ([.v]:LP) ([.el C.exper]:LV) ([.int .i64]:LV) ([.same]:LV) (x,()) (fun r _=>K r.1):=by kernel_rfl
theorem w3b:Qn Proofs.Tryz.prog D 189 (z5h Gw):=Ql (E:=z3n Zx Zt q36 Rr Rg) (Qe (Qe (Qe (Qe (Qe h_E0 G2 q3h) Bw q4o) v5p y5g) j63 w8i) j0b w2r) fun a K=>j5k Zx Zt q36 Rr Rg a.1 (fun q0=>K (q0,()) ((),()))
theorem j2k:Ent Proofs.Tryz.prog 155:=Qh (by kernel_rfl) (by kernel_rfl) (by kernel_rfl)
def z3o (X:q1c):Con Sg:=conV ([.sl C.exper]:LP) ([.sl C.exper]:LV) ([.int .i64]:LV) ([.same]:LV) (fun a K=>X a.1 (fun q0=>K (q0,()) ((),())))
def j5l:PT:=Qi ([(9,⟨[0,5,6,7],[],[],[(.slot 3,.int .i64)]⟩)]:LS)
def z0w (Hd:q20):Ev Sg:=(E0.with 189 (z5h Hd))
theorem j2l (Hd:q20) (l:List (Exper)) (K:Int->Prop):q5x Hd l K=fnV ((z0w Hd).pl j5l) 4 155 ([.sl C.exper]:LP) ([.v]:LP) ([.sl C.exper]:LV) ([.int .i64]:LV) ([.same]:LV) (l,()) (fun r _=>K r.1):=by kernel_rfl
theorem j8l:Qn Proofs.Tryz.prog D 155 (z3o Uu):=Ql (E:=z0w Gw) (Qe h_E0 j5j w3b) fun a K=>j2l Gw a.1 (fun q0=>K (q0,()) ((),()))
theorem j2m:Ent Proofs.Tryz.prog 114:=Qh (by kernel_rfl) (by kernel_rfl) (by kernel_rfl)
def z3p (X:q1d):Con Sg:=conV ([.el C.env]:LP) ([.el C.env]:LV) ([.int .i64]:LV) ([.same]:LV) (fun a K=>X a.1 (fun q0=>K (q0,()) ((),())))
def j5m:PT:=Qi ([]:LS)
def z0x (q0q:q6g) (q0r:q6h) (q0s:q6i) (q7b:z68) (q4y:z13) (Uz:q1c):Ev Sg:=((((((E0.with 150 (j2a q0q)).with 151 (j2b q0r)).with 152 (j2h q0s)).with 153 (w8m q7b)).with 154 (w29 q4y)).with 155 (z3o Uz))
theorem j2n (q0q:q6g) (q0r:q6h) (q0s:q6i) (q7b:z68) (q4y:z13) (Uz:q1c) (v:Envt) (K:Int->Prop):q5y q0q q0r q0s q7b q4y Uz v K=fnV ((z0x q0q q0r q0s q7b q4y Uz).pl j5m) 4 114 ([.el C.env]:LP) ([.v]:LP) ([.el C.env]:LV) ([.int .i64]:LV) ([.same]:LV) (v,()) (fun r _=>K r.1):=by kernel_rfl
theorem j8m:Qn Proofs.Tryz.prog D 114 (z3p Uv):=Ql (E:=z0x B8 B9 q0b q6y q35 Uu) (Qe (Qe (Qe (Qe (Qe (Qe h_E0 w2h v0x) w2j v0y) w2s v03) v5k y5e) v05 v96) j2k j8l) fun a K=>j2n B8 B9 q0b q6y q35 Uu a.1 (fun q0=>K (q0,()) ((),()))
end Go.En
end
noncomputable section
set_option maxRecDepth 100000
open Go Go.RowKit Go.Fl Go.Fl.Lk Go.Fx
namespace Go.En
theorem q9f:Ent Proofs.Tryz.prog 35:=Qh (by kernel_rfl) (by kernel_rfl) (by kernel_rfl)
def z0y (X:V4):Con Sg:=conV ([.sl C.seg]:LP) ([.sl C.seg]:LV) ([.vec 9 C.str]:LV) ([.same]:LV) (fun a K=>X a.1 (fun q0=>K (q0,()) ((),())))
def v98:PT:=Qi ([(7,⟨[0,2],[],[],[(.slot 3,.own 9 C.str),(.slot 4,.int .i64)]⟩)]:LS)
def w3c:Ev Sg:=E0
theorem v5r (l:List (Seg)) (K:List (ByteArray)->Prop):W0 l K=fnV ((w3c).pl v98) 4 35 ([.sl C.seg]:LP) ([.own 9 C.str]:LP) ([.sl C.seg]:LV) ([.vec 9 C.str]:LV) ([.same]:LV) (l,()) (fun r _=>K r.1):=by kernel_rfl
theorem z7i:Qn Proofs.Tryz.prog D 35 (z0y W0):=Ql (E:=w3c) h_E0 fun a K=>v5r a.1 (fun q0=>K (q0,()) ((),()))
theorem q0m:Ent Proofs.Tryz.prog 22:=Qh (by kernel_rfl) (by kernel_rfl) (by kernel_rfl)
def q5h (X:Ju):Con Sg:=conV ([.sl C.str,.v]:LP) ([.sl C.str,.str]:LV) ([.bool]:LV) ([.same,.same]:LV) (fun a K=>X a.1 a.2.1 (fun q0=>K (q0,()) ((),(),())))
def y9h:PT:=Qi ([(5,⟨[0,1],[],[],[(.slot 5,.int .i64)]⟩)]:LS)
def v5s:Ev Sg:=E0
theorem y5h (l:List (ByteArray)) (s:ByteArray) (K:Bool->Prop):Je l s K=fnV ((v5s).pl y9h) 4 22 ([.sl C.str,.v]:LP) ([.v]:LP) ([.sl C.str,.str]:LV) ([.bool]:LV) ([.same,.same]:LV) (l,s,()) (fun r _=>K r.1):=by kernel_rfl
theorem q6t:Qn Proofs.Tryz.prog D 22 (q5h Je):=Ql (E:=v5s) h_E0 fun a K=>y5h a.1 a.2.1 (fun q0=>K (q0,()) ((),(),()))
theorem w3d:Ent Proofs.Tryz.prog 156:=Qh (by kernel_rfl) (by kernel_rfl) (by kernel_rfl)
def w3e (X:q7z):Con Sg:=conV ([.sl C.decl,.v,.v]:LP) ([.sl C.decl,.str,.str]:LV) ([.int .i64]:LV) ([.same,.same,.same]:LV) (fun a K=>X a.1 a.2.1 a.2.2.1 (fun q0=>K (q0,()) ((),(),(),())))
def y5i:PT:=Qi ([(5,⟨[0,1,2],[],[],[(.slot 7,.int .i64)]⟩)]:LS)
def w8p:Ev Sg:=E0
theorem v99 (l:List (Decl)) (kind:ByteArray) (name:ByteArray) (K:Int->Prop):Bm l kind name K=fnV ((w8p).pl y5i) 4 156 ([.sl C.decl,.v,.v]:LP) ([.v]:LP) ([.sl C.decl,.str,.str]:LV) ([.int .i64]:LV) ([.same,.same,.same]:LV) (l,kind,name,()) (fun r _=>K r.1):=by kernel_rfl
theorem v5t:Qn Proofs.Tryz.prog D 156 (w3e Bm):=Ql (E:=w8p) h_E0 fun a K=>v99 a.1 a.2.1 a.2.2.1 (fun q0=>K (q0,()) ((),(),(),()))
theorem y0a:Ent Proofs.Tryz.prog 157:=Qh (by kernel_rfl) (by kernel_rfl) (by kernel_rfl)
def v5u (X:j1q):Con Sg:=conV ([.v,.el C.ex]:LP) ([.int .i64,.el C.ex]:LV) ([.bool]:LV) ([.same,.same]:LV) (fun a K=>X a.1 a.2.1 (fun q0=>K (q0,()) ((),(),())))
def y5j:PT:=Qi ([(11,⟨[0,1,3,7,8,9,10,11,12],[0],[],[(.slot 5,.int .i64)]⟩),(36,⟨[0,1,3,4,6,7,8,9,10,11,12,30,31,32,33,34,35,36,37,38,39,40,41,42],[0],[],[(.slot 46,.bool)]⟩)]:LS)
def w8q:Ev Sg:=E0
theorem y0b (t:Int) (e:Ex) (K:Bool->Prop):q5n t e K=fnV ((w8q).pl y5j) 4 157 ([.v,.el C.ex]:LP) ([.v]:LP) ([.int .i64,.el C.ex]:LV) ([.bool]:LV) ([.same,.same]:LV) (t,e,()) (fun r _=>K r.1):=by kernel_rfl
theorem y9i:Qn Proofs.Tryz.prog D 157 (v5u q5n):=Ql (E:=w8q) h_E0 fun a K=>y0b a.1 a.2.1 (fun q0=>K (q0,()) ((),(),()))
theorem z2n:Ent Proofs.Tryz.prog 115:=Qh (by kernel_rfl) (by kernel_rfl) (by kernel_rfl)
def z5i (X:Gx):Con Sg:=conV ([.sl C.decl,.sl C.str,.el C.ex]:LP) ([.sl C.decl,.sl C.str,.el C.ex]:LV) ([.int .i64]:LV) ([.same,.same,.same]:LV) (fun a K=>X a.1 a.2.1 a.2.2.1 (fun q0=>K (q0,()) ((),(),(),())))
def w8r:PT:=Qi ([(18,⟨[0,1,2,5,10,11,12,13,14,15,16,17,18,19],[0],[],[]⟩),(21,⟨[0,1,2,5,10,11,12,13,14,15,16,17,18,19],[0],[],[(.slot 8,.int .i64)]⟩)]:LS)
def w8s (Qv:Ju) (Qw:Wa) (Ga:q7z) (q8p:j1q):Ev Sg:=((((E0.with 22 (q5h Qv)).with 81 (q4j Qw)).with 156 (w3e Ga)).with 157 (v5u q8p))
theorem y0c (Qv:Ju) (Qw:Wa) (Ga:q7z) (q8p:j1q) (X:Gx) (l:List (Decl)) (segments:List (ByteArray)) (e:Ex) (K:Int->Prop):w1b Qv Qw Ga q8p X l segments e K=fnV (((w8s Qv Qw Ga q8p).with 115 (z5i X)).pl w8r) 4 115 ([.sl C.decl,.sl C.str,.el C.ex]:LP) ([.v]:LP) ([.sl C.decl,.sl C.str,.el C.ex]:LV) ([.int .i64]:LV) ([.same,.same,.same]:LV) (l,segments,e,()) (fun r _=>K r.1):=by kernel_rfl
theorem w3f:Qn Proofs.Tryz.prog D 115 (z5i Rh):=by
 show Qn _ _ _ (conV ([.sl C.decl,.sl C.str,.el C.ex]:LP) ([.sl C.decl,.sl C.str,.el C.ex]:LV) ([.int .i64]:LV) ([.same,.same,.same]:LV) fun a K=>Rh a.1 a.2.1 a.2.2.1 (fun q0=>K (q0,()) ((),(),(),())))
 refine z0g (E:=w8s Je Z8 Bm q5n) (fuel:=4) (rk:=[.v]) (p:=w8r) (Qe (Qe (Qe (Qe h_E0 q0m q6t) q3c q76) w3d v5t) y0a y9i) z2n fun a K h X hX=> ?_
 exact h (fun l segments e K=>X (l,segments,e,()) fun r _=>K r.1) (fun l segments e K hs=>hX (l,segments,e,()) (fun r _=>K r.1) (Eq.mp (y0c Je Z8 Bm q5n (fun l segments e K=>X (l,segments,e,()) fun r _=>K r.1) l segments e K) hs))
theorem z7j:Ent Proofs.Tryz.prog 49:=Qh (by kernel_rfl) (by kernel_rfl) (by kernel_rfl)
def j2o (X:q0d):Con Sg:=conV ([.sl C.str,.v]:LP) ([.sl C.str,.str]:LV) ([.sl C.str]:LV) ([.same,.same]:LV) (fun a K=>X a.1 a.2.1 (fun q0=>K (q0,()) ((),(),())))
def y9j:PT:=Qi ([(5,⟨[0,1,4],[],[],[(.slot 5,.int .i64)]⟩)]:LS)
def v5v:Ev Sg:=E0
theorem y5k (l:List (ByteArray)) (s:ByteArray) (K:List (ByteArray)->Prop):Gi l s K=fnV ((v5v).pl y9j) 4 49 ([.sl C.str,.v]:LP) ([.sl C.str]:LP) ([.sl C.str,.str]:LV) ([.sl C.str]:LV) ([.same,.same]:LV) (l,s,()) (fun r _=>K r.1):=by kernel_rfl
theorem j91:Qn Proofs.Tryz.prog D 49 (j2o Gi):=Ql (E:=v5v) h_E0 fun a K=>y5k a.1 a.2.1 (fun q0=>K (q0,()) ((),(),()))
theorem z8m:Ent Proofs.Tryz.prog 32:=Qh (by kernel_rfl) (by kernel_rfl) (by kernel_rfl)
def z5j (X:Bn):Con Sg:=conV ([.sl C.str,.el C.ex]:LP) ([.sl C.str,.el C.ex]:LV) ([.sl C.str]:LV) ([.same,.same]:LV) (fun a K=>X a.1 a.2.1 (fun q0=>K (q0,()) ((),(),())))
def j2p:PT:=Qi ([(6,⟨[1,3,4],[0],[],[(.slot 0,.sl C.str)]⟩),(9,⟨[1,3,4],[0],[],[(.slot 0,.sl C.str),(.slot 5,.int .i64)]⟩)]:LS)
def j2q (J4:q0d):Ev Sg:=(E0.with 49 (j2o J4))
theorem w56 (J4:q0d) (X:Bn) (l:List (ByteArray)) (e:Ex) (K:List (ByteArray)->Prop):q8z J4 X l e K=fnV (((j2q J4).with 32 (z5j X)).pl j2p) 4 32 ([.sl C.str,.el C.ex]:LP) ([.sl C.str]:LP) ([.sl C.str,.el C.ex]:LV) ([.sl C.str]:LV) ([.same,.same]:LV) (l,e,()) (fun r _=>K r.1):=by kernel_rfl
theorem v5w:Qn Proofs.Tryz.prog D 32 (z5j Bo):=by
 show Qn _ _ _ (conV ([.sl C.str,.el C.ex]:LP) ([.sl C.str,.el C.ex]:LV) ([.sl C.str]:LV) ([.same,.same]:LV) fun a K=>Bo a.1 a.2.1 (fun q0=>K (q0,()) ((),(),())))
 refine z0g (E:=j2q Gi) (fuel:=4) (rk:=[.sl C.str]) (p:=j2p) (Qe h_E0 z7j j91) z8m fun a K h X hX=> ?_
 exact h (fun l e K=>X (l,e,()) fun r _=>K r.1) (fun l e K hs=>hX (l,e,()) (fun r _=>K r.1) (Eq.mp (w56 Gi (fun l e K=>X (l,e,()) fun r _=>K r.1) l e K) hs))
theorem w57:Ent Proofs.Tryz.prog 14:=Qh (by kernel_rfl) (by kernel_rfl) (by kernel_rfl)
def j66 (X:q80):Con Sg:=conV ([.el C.ex]:LP) ([.el C.ex]:LV) ([.sl C.str]:LV) ([.same]:LV) (fun a K=>X a.1 (fun q0=>K (q0,()) ((),())))
def v07:PT:=Qi ([]:LS)
def j2r (q2g:Bn):Ev Sg:=(E0.with 32 (z5j q2g))
theorem w58 (q2g:Bn) (e:Ex) (K:List (ByteArray)->Prop):q81 q2g e K=fnV ((j2r q2g).pl v07) 4 14 ([.el C.ex]:LP) ([.sl C.str]:LP) ([.el C.ex]:LV) ([.sl C.str]:LV) ([.same]:LV) (e,()) (fun r _=>K r.1):=by kernel_rfl
theorem v5x:Qn Proofs.Tryz.prog D 14 (j66 Hm):=Ql (E:=j2r Bo) (Qe h_E0 z8m v5w) fun a K=>w58 Bo a.1 (fun q0=>K (q0,()) ((),()))
theorem j2s:Ent Proofs.Tryz.prog 36:=Qh (by kernel_rfl) (by kernel_rfl) (by kernel_rfl)
def j0d (X:q1l):Con Sg:=conV ([.sl C.seg]:LP) ([.sl C.seg]:LV) ([.vec 79 C.edge]:LV) ([.same]:LV) (fun a K=>X a.1 (fun q0=>K (q0,()) ((),())))
def v5y:PT:=Qi ([(7,⟨[0,2],[],[],[(.slot 3,.own 79 C.edge),(.slot 4,.int .i64)]⟩),(15,⟨[0,2,4,5,7,8,9,10,13,14,15,16,17,18],[],[],[(.slot 3,.own 79 C.edge),(.slot 6,.int .i64)]⟩)]:LS)
def j67 (q2h:q80):Ev Sg:=(E0.with 14 (j66 q2h))
theorem v08 (q2h:q80) (l:List (Seg)) (K:List (Edg)->Prop):z14 q2h l K=fnV ((j67 q2h).pl v5y) 4 36 ([.sl C.seg]:LP) ([.own 79 C.edge]:LP) ([.sl C.seg]:LV) ([.vec 79 C.edge]:LV) ([.same]:LV) (l,()) (fun r _=>K r.1):=by kernel_rfl
theorem w3g:Qn Proofs.Tryz.prog D 36 (j0d Uj):=Ql (E:=j67 Hm) (Qe h_E0 w57 v5x) fun a K=>v08 Hm a.1 (fun q0=>K (q0,()) ((),()))
theorem v5z:Ent Proofs.Tryz.prog 190:=Qh (by kernel_rfl) (by kernel_rfl) (by kernel_rfl)
def w8t (X:z7b):Con Sg:=conV ([.sl C.edge,.v]:LP) ([.sl C.edge,.str]:LV) ([.sl C.str]:LV) ([.same,.same]:LV) (fun a K=>X a.1 a.2.1 (fun q0=>K (q0,()) ((),(),())))
def y0d:PT:=Qi ([(7,⟨[0,1,4,9,10],[],[],[(.slot 5,.sl C.str),(.slot 6,.sl C.str)]⟩),(15,⟨[0,1,4,7,9,11,12,13,14,15,16,17,18],[],[],[(.slot 5,.sl C.str),(.slot 6,.sl C.str),(.slot 8,.int .i64)]⟩)]:LS)
def w3h (Qv:Ju) (J4:q0d):Ev Sg:=((E0.with 22 (q5h Qv)).with 49 (j2o J4))
theorem v50 (Qv:Ju) (J4:q0d) (edges:List (Edg)) (node:ByteArray) (K:List (ByteArray)->Prop):j4p Qv J4 edges node K=fnV ((w3h Qv J4).pl y0d) 4 190 ([.sl C.edge,.v]:LP) ([.sl C.str]:LP) ([.sl C.edge,.str]:LV) ([.sl C.str]:LV) ([.same,.same]:LV) (edges,node,()) (fun r _=>K r.1):=by kernel_rfl
theorem y5l:Qn Proofs.Tryz.prog D 190 (w8t q60):=Ql (E:=w3h Je Gi) (Qe (Qe h_E0 q0m q6t) z7j j91) fun a K=>v50 Je Gi a.1 a.2.1 (fun q0=>K (q0,()) ((),(),()))
theorem v09:Ent Proofs.Tryz.prog 158:=Qh (by kernel_rfl) (by kernel_rfl) (by kernel_rfl)
def w3i (X:z15):Con Sg:=conV ([.sl C.str,.sl C.edge]:LP) ([.sl C.str,.sl C.edge]:LV) ([.sl C.str]:LV) ([.same,.same]:LV) (fun a K=>X a.1 a.2.1 (fun q0=>K (q0,()) ((),(),())))
def v52:PT:=Qi ([(7,⟨[0,1,4],[],[],[(.slot 5,.sl C.str),(.slot 6,.int .i64)]⟩)]:LS)
def j68 (q7c:z7b) (Qv:Ju) (J4:q0d):Ev Sg:=(((E0.with 190 (w8t q7c)).with 22 (q5h Qv)).with 49 (j2o J4))
theorem v1a (q7c:z7b) (Qv:Ju) (J4:q0d) (nodes:List (ByteArray)) (edges:List (Edg)) (K:List (ByteArray)->Prop):z9u q7c Qv J4 nodes edges K=fnV ((j68 q7c Qv J4).pl v52) 4 158 ([.sl C.str,.sl C.edge]:LP) ([.sl C.str]:LP) ([.sl C.str,.sl C.edge]:LV) ([.sl C.str]:LV) ([.same,.same]:LV) (nodes,edges,()) (fun r _=>K r.1):=by kernel_rfl
theorem y0e:Qn Proofs.Tryz.prog D 158 (w3i q37):=Ql (E:=j68 q60 Je Gi) (Qe (Qe (Qe h_E0 v5z y5l) q0m q6t) z7j j91) fun a K=>v1a q60 Je Gi a.1 a.2.1 (fun q0=>K (q0,()) ((),(),()))
theorem v1b:Ent Proofs.Tryz.prog 116:=Qh (by kernel_rfl) (by kernel_rfl) (by kernel_rfl)
def w3j (X:z16):Con Sg:=conV ([.sl C.str,.sl C.edge]:LP) ([.sl C.str,.sl C.edge]:LV) ([.str,.bool]:LV) ([.same,.same]:LV) (fun a K=>X a.1 a.2.1 (fun q0 q1=>K (q0,q1,()) ((),(),())))
def v54:PT:=Qi ([]:LS)
def j69 (q4z:z15):Ev Sg:=(E0.with 158 (w3i q4z))
theorem v1c (q4z:z15) (nodes:List (ByteArray)) (edges:List (Edg)) (K:ByteArray->Bool->Prop):z9v q4z nodes edges K=fnV ((j69 q4z).pl v54) 4 116 ([.sl C.str,.sl C.edge]:LP) ([.v,.v]:LP) ([.sl C.str,.sl C.edge]:LV) ([.str,.bool]:LV) ([.same,.same]:LV) (nodes,edges,()) (fun r _=>K r.1 r.2.1):=by kernel_rfl
theorem y0f:Qn Proofs.Tryz.prog D 116 (w3j q38):=Ql (E:=j69 q37) (Qe h_E0 v09 y0e) fun a K=>v1c q37 a.1 a.2.1 (fun q0 q1=>K (q0,q1,()) ((),(),()))
end Go.En
end
noncomputable section
set_option maxRecDepth 100000
open Go Go.RowKit Go.Fl Go.Fl.Lk Go.Fx
namespace Go.En
theorem z8n:Ent Proofs.Tryz.prog 159:=Qh (by kernel_rfl) (by kernel_rfl) (by kernel_rfl)
def z5k (X:Bp):Con Sg:=conV ([.el C.env,.v]:LP) ([.el C.env,.str]:LV) ([.int .i64]:LV) ([.same,.same]:LV) (fun a K=>X a.1 a.2.1 (fun q0=>K (q0,()) ((),(),())))
def v1d:PT:=Qi ([(5,⟨[0,1,2],[0],[],[(.slot 5,.int .i64)]⟩)]:LS)
def j2t:Ev Sg:=E0
theorem w59 (v:Envt) (key:ByteArray) (K:Int->Prop):U7 v key K=fnV ((j2t).pl v1d) 4 159 ([.el C.env,.v]:LP) ([.v]:LP) ([.el C.env,.str]:LV) ([.int .i64]:LV) ([.same,.same]:LV) (v,key,()) (fun r _=>K r.1):=by kernel_rfl
theorem j7a:Qn Proofs.Tryz.prog D 159 (z5k U7):=Ql (E:=j2t) h_E0 fun a K=>w59 a.1 a.2.1 (fun q0=>K (q0,()) ((),(),()))
theorem v55:Ent Proofs.Tryz.prog 160:=Qh (by kernel_rfl) (by kernel_rfl) (by kernel_rfl)
def w8u (X:z7c):Con Sg:=conV ([.sl C.decl,.el C.serve]:LP) ([.sl C.decl,.el C.serve]:LV) ([.int .i64]:LV) ([.same,.same]:LV) (fun a K=>X a.1 a.2.1 (fun q0=>K (q0,()) ((),(),())))
def y0g:PT:=Qi ([]:LS)
def w3k (Ga:q7z):Ev Sg:=(E0.with 156 (w3e Ga))
theorem v56 (Ga:q7z) (l:List (Decl)) (v:Srv) (K:Int->Prop):j4q Ga l v K=fnV ((w3k Ga).pl y0g) 4 160 ([.sl C.decl,.el C.serve]:LP) ([.v]:LP) ([.sl C.decl,.el C.serve]:LV) ([.int .i64]:LV) ([.same,.same]:LV) (l,v,()) (fun r _=>K r.1):=by kernel_rfl
theorem y5m:Qn Proofs.Tryz.prog D 160 (w8u q61):=Ql (E:=w3k Bm) (Qe h_E0 w3d v5t) fun a K=>v56 Bm a.1 a.2.1 (fun q0=>K (q0,()) ((),(),()))
theorem j5n:Ent Proofs.Tryz.prog 117:=Qh (by kernel_rfl) (by kernel_rfl) (by kernel_rfl)
def z5l (X:q21):Con Sg:=conV ([.el C.env,.el C.flag]:LP) ([.el C.env,.el C.flag]:LV) ([.int .i64]:LV) ([.same,.same]:LV) (fun a K=>X a.1 a.2.1 (fun q0=>K (q0,()) ((),(),())))
def j8n:PT:=Qi ([(7,⟨[0,1,2,3,5,15,16,17],[1,0],[],[(.slot 6,.int .i64),(.obj 2,.own 9 C.str)]⟩),(23,⟨[0,1,2,3,5,6,15,16,17,18,19,20,21,22],[1,0],[],[(.slot 8,.int .i64),(.obj 2,.own 9 C.str)]⟩)]:LS)
def z3q (Zq:V4) (Wm:Bp) (Wn:Gx) (q40:z7c) (Zr:Wz):Ev Sg:=(((((E0.with 35 (z0y Zq)).with 159 (z5k Wm)).with 115 (z5i Wn)).with 160 (w8u q40)).with 70 (q4m Zr))
theorem j5o (Zq:V4) (Wm:Bp) (Wn:Gx) (q40:z7c) (Zr:Wz) (v:Envt) (f:Flg) (K:Int->Prop):q70 Zq Wm Wn q40 Zr v f K=fnV ((z3q Zq Wm Wn q40 Zr).pl j8n) 4 117 ([.el C.env,.el C.flag]:LP) ([.v]:LP) ([.el C.env,.el C.flag]:LV) ([.int .i64]:LV) ([.same,.same]:LV) (v,f,()) (fun r _=>K r.1):=by kernel_rfl
theorem w3l:Qn Proofs.Tryz.prog D 117 (z5l Gy):=Ql (E:=z3q W0 U7 Rh q61 Jz) (Qe (Qe (Qe (Qe (Qe h_E0 q9f z7i) z8n j7a) z2n w3f) v55 y5m) q8a z0u) fun a K=>j5o W0 U7 Rh q61 Jz a.1 a.2.1 (fun q0=>K (q0,()) ((),(),()))
theorem j8o:Ent Proofs.Tryz.prog 118:=Qh (by kernel_rfl) (by kernel_rfl) (by kernel_rfl)
def z8o (X:q5a):Con Sg:=conV ([.el C.env]:LP) ([.el C.env]:LV) ([.vec 9 C.str]:LV) ([.same]:LV) (fun a K=>X a.1 (fun q0=>K (q0,()) ((),())))
def w3m:PT:=Qi ([(7,⟨[0,1,2],[0],[],[(.slot 3,.own 9 C.str),(.slot 4,.int .i64)]⟩)]:LS)
def z5m:Ev Sg:=E0
theorem j8p (v:Envt) (K:List (ByteArray)->Prop):Rs v K=fnV ((z5m).pl w3m) 4 118 ([.el C.env]:LP) ([.own 9 C.str]:LP) ([.el C.env]:LV) ([.vec 9 C.str]:LV) ([.same]:LV) (v,()) (fun r _=>K r.1):=by kernel_rfl
theorem w6a:Qn Proofs.Tryz.prog D 118 (z8o Rs):=Ql (E:=z5m) h_E0 fun a K=>j8p a.1 (fun q0=>K (q0,()) ((),()))
theorem j5p:Ent Proofs.Tryz.prog 119:=Qh (by kernel_rfl) (by kernel_rfl) (by kernel_rfl)
def z5n (X:q22):Con Sg:=conV ([.el C.env]:LP) ([.el C.env]:LV) ([.vec 79 C.edge]:LV) ([.same]:LV) (fun a K=>X a.1 (fun q0=>K (q0,()) ((),())))
def j8q:PT:=Qi ([(7,⟨[0,1,2],[0],[],[(.slot 3,.own 79 C.edge),(.slot 4,.int .i64)]⟩),(13,⟨[0,1,2,4,6,7,8,9,10],[],[],[(.slot 3,.own 79 C.edge),(.slot 5,.int .i64)]⟩)]:LS)
def z3r:Ev Sg:=E0
theorem j5q (v:Envt) (K:List (Edg)->Prop):Uk v K=fnV ((z3r).pl j8q) 4 119 ([.el C.env]:LP) ([.own 79 C.edge]:LP) ([.el C.env]:LV) ([.vec 79 C.edge]:LV) ([.same]:LV) (v,()) (fun r _=>K r.1):=by kernel_rfl
theorem w3n:Qn Proofs.Tryz.prog D 119 (z5n Uk):=Ql (E:=z3r) h_E0 fun a K=>j5q a.1 (fun q0=>K (q0,()) ((),()))
theorem w6b:Ent Proofs.Tryz.prog 161:=Qh (by kernel_rfl) (by kernel_rfl) (by kernel_rfl)
def j7b (X:q82):Con Sg:=conV ([.sl C.span,.sl C.span]:LP) ([.sl C.span,.sl C.span]:LV) ([.vec 152 C.span]:LV) ([.same,.same]:LV) (fun a K=>X a.1 a.2.1 (fun q0=>K (q0,()) ((),(),())))
def v1e:PT:=Qi ([(7,⟨[0,1,4,5,6,8,9,10,11],[1],[],[(.slot 7,.int .i64),(.obj 0,.own 4 C.bool)]⟩)]:LS)
def j2u (Zw:Gt) (Q1:Wb):Ev Sg:=((E0.with 112 (z5d Zw)).with 113 (q4n Q1))
theorem w6c (Zw:Gt) (Q1:Wb) (a:List (Spn)) (b:List (Spn)) (K:List (Spn)->Prop):z4t Zw Q1 a b K=fnV ((j2u Zw Q1).pl v1e) 4 161 ([.sl C.span,.sl C.span]:LP) ([.own 152 C.span]:LP) ([.sl C.span,.sl C.span]:LV) ([.vec 152 C.span]:LV) ([.same,.same]:LV) (a,b,()) (fun r _=>K r.1):=by kernel_rfl
theorem v57:Qn Proofs.Tryz.prog D 161 (j7b q14):=Ql (E:=j2u Vu Ji) (Qe (Qe h_E0 z2m j17) q3f q8c) fun a K=>w6c Vu Ji a.1 a.2.1 (fun q0=>K (q0,()) ((),(),()))
theorem z2o:Ent Proofs.Tryz.prog 120:=Qh (by kernel_rfl) (by kernel_rfl) (by kernel_rfl)
def q5q (X:U8):Con Sg:=conV ([.el C.env,.v]:LP) ([.el C.env,.int .i64]:LV) ([.int .i64]:LV) ([.same,.same]:LV) (fun a K=>X a.1 a.2.1 (fun q0=>K (q0,()) ((),(),())))
def z39:PT:=Qi ([(13,⟨[0,1,2,5,6,7,15,16,17,18,19,20,21,22,23,24,25,26,27,28,29,30,31,32,33],[1,0],[],[(.slot 8,.int .i64)]⟩),(35,⟨[0,1,2,5,6,7,8,9,15,16,17,18,19,20,21,22,23,24,25,26,27,28,29,30,31,32,33,34,35,36,37,38,55,56,57,58,59,60,61,62,63,64,66,67,68,69,70,71,72,73,74,75,76],[1,0],[],[(.slot 10,.own 152 C.span),(.slot 11,.int .i64),(.obj 4,.own 9 C.str)]⟩),(51,⟨[0,1,2,5,6,7,8,9,10,11,15,16,17,18,19,20,21,22,23,24,25,26,27,28,29,30,31,32,33,34,35,36,37,38,55,56,57,58,59,60,61,62,63,64,66,67,68,69,70,71,72,73,74,75,77,78,79,101,102,103,104,105,106],[1,0],[],[(.slot 13,.int .i64),(.obj 9,.own 152 C.span),(.obj 6,.own 152 C.span),(.obj 4,.own 9 C.str)]⟩)]:LS)
def q3t (Zk:Vc) (Wm:Bp) (Zq:V4) (Wn:Gx) (q2i:q82):Ev Sg:=(((((E0.with 110 (q6s Zk)).with 159 (z5k Wm)).with 35 (z0y Zq)).with 115 (z5i Wn)).with 161 (j7b q2i))
theorem z2p (Zk:Vc) (Wm:Bp) (Zq:V4) (Wn:Gx) (q2i:q82) (v:Envt) (i:Int) (K:Int->Prop):Bq Zk Wm Zq Wn q2i v i K=fnV ((q3t Zk Wm Zq Wn q2i).pl z39) 4 120 ([.el C.env,.v]:LP) ([.v]:LP) ([.el C.env,.int .i64]:LV) ([.int .i64]:LV) ([.same,.same]:LV) (v,i,()) (fun r _=>K r.1):=by kernel_rfl
theorem z5o:Qn Proofs.Tryz.prog D 120 (q5q Wk):=Ql (E:=q3t Wg U7 W0 Rh q14) (Qe (Qe (Qe (Qe (Qe h_E0 q8b z2l) z8n j7a) q9f z7i) z2n w3f) w6b v57) fun a K=>z2p Wg U7 W0 Rh q14 a.1 a.2.1 (fun q0=>K (q0,()) ((),(),()))
theorem j0e:Ent Proofs.Tryz.prog 75:=Qh (by kernel_rfl) (by kernel_rfl) (by kernel_rfl)
def z0z (X:q0e):Con Sg:=conV ([.el C.env]:LP) ([.el C.env]:LV) ([.str,.int .i64]:LV) ([.same]:LV) (fun a K=>X a.1 (fun q0 q1=>K (q0,q1,()) ((),())))
def j2v:PT:=Qi ([(13,⟨[0,1,4,5,16,17,18,19,21,22,23],[0],[],[(.slot 6,.int .i64),(.obj 1,.own 9 C.str)]⟩),(33,⟨[0,1,4,5,6,8,9,16,17,18,19,21,22,23,24,25,26,27,28,59,60,61,62,63,64,65,66,67],[0],[],[(.slot 10,.int .i64),(.obj 1,.own 9 C.str),(.obj 4,.own 79 C.edge)]⟩),(51,⟨[0,1,4,5,6,8,9,10,12,13,16,17,18,19,21,22,23,24,25,26,27,28,59,60,61,62,63,64,65,66,67,70,71,72,73,74,94,95,96,97,98,99,100,101,102],[0],[],[(.slot 14,.int .i64),(.obj 8,.own 9 C.str),(.obj 9,.own 79 C.edge),(.obj 4,.own 79 C.edge),(.obj 1,.own 9 C.str)]⟩)]:LS)
def q9g (U0:q1d) (Zq:V4) (Wn:Gx) (W8:q1l) (q1y:z16) (He:q21) (R0:q5a) (Hf:q22) (Wo:U8):Ev Sg:=(((((((((E0.with 114 (z3p U0)).with 35 (z0y Zq)).with 115 (z5i Wn)).with 36 (j0d W8)).with 116 (w3j q1y)).with 117 (z5l He)).with 118 (z8o R0)).with 119 (z5n Hf)).with 120 (q5q Wo))
theorem j0f (U0:q1d) (Zq:V4) (Wn:Gx) (W8:q1l) (q1y:z16) (He:q21) (R0:q5a) (Hf:q22) (Wo:U8) (v:Envt) (K:ByteArray->Int->Prop):q39 U0 Zq Wn W8 q1y He R0 Hf Wo v K=fnV ((q9g U0 Zq Wn W8 q1y He R0 Hf Wo).pl j2v) 4 75 ([.el C.env]:LP) ([.v,.v]:LP) ([.el C.env]:LV) ([.str,.int .i64]:LV) ([.same]:LV) (v,()) (fun r _=>K r.1 r.2.1):=by kernel_rfl
theorem j5r:Qn Proofs.Tryz.prog D 75 (z0z V5):=Ql (E:=q9g Uv W0 Rh Uj q38 Gy Rs Uk Wk) (Qe (Qe (Qe (Qe (Qe (Qe (Qe (Qe (Qe h_E0 j2m j8m) q9f z7i) z2n w3f) j2s w3g) v1b y0f) j5n w3l) j8o w6a) j5p w3n) z2o z5o) fun a K=>j0f Uv W0 Rh Uj q38 Gy Rs Uk Wk a.1 (fun q0 q1=>K (q0,q1,()) ((),()))
theorem v1f:Ent Proofs.Tryz.prog 45:=Qh (by kernel_rfl) (by kernel_rfl) (by kernel_rfl)
def w3o (X:z17):Con Sg:=conV ([.el C.env]:LP) ([.el C.env]:LV) ([.bool]:LV) ([.same]:LV) (fun a K=>X a.1 (fun q0=>K (q0,()) ((),())))
def v58:PT:=Qi ([]:LS)
def j7c (Ub:q0e):Ev Sg:=(E0.with 75 (z0z Ub))
theorem v1g (Ub:q0e) (v:Envt) (K:Bool->Prop):z9w Ub v K=fnV ((j7c Ub).pl v58) 4 45 ([.el C.env]:LP) ([.v]:LP) ([.el C.env]:LV) ([.bool]:LV) ([.same]:LV) (v,()) (fun r _=>K r.1):=by kernel_rfl
theorem y0h:Qn Proofs.Tryz.prog D 45 (w3o q1m):=Ql (E:=j7c V5) (Qe h_E0 j0e j5r) fun a K=>v1g V5 a.1 (fun q0=>K (q0,()) ((),()))
theorem j5s:Ent Proofs.Tryz.prog 17:=Qh (by kernel_rfl) (by kernel_rfl) (by kernel_rfl)
def z5p (X:q23):Con Sg:=conV ([.ptr 71 [.c,.v],.v]:LP) ([.ptr 71 [.sl C.u8,.int .i64],.int .i64]:LV) ([.el C.env]:LV) ([.ptr 71 [.same,.int .i64],.same]:LV) (fun a K=>X a.1.1 a.1.2.1 a.2.1 (fun q0 q1=>K (q0,()) (((),q1,()),(),())))
def j8r:PT:=Qi ([(8,⟨[0,1,4,5,10,11],[1],[(3,(52,8)),(0,(71,2))],[(.cell 3 0,.str),(.cell 3 1,.str),(.cell 3 2,.int .i64),(.cell 0 1,.int .i64),(.obj 2,.own 114 C.decl)]⟩),(15,⟨[0,1,4,5,6,10,11,21,22,23,24,26],[2,1],[(0,(71,2)),(3,(52,8))],[(.slot 7,.int .i64),(.cell 0 1,.int .i64),(.cell 3 5,.own 95 C.flag),(.obj 10,.own 33 C.seg),(.obj 12,.own 99 C.layer),(.obj 13,.own 103 C.exper)]⟩),(43000009,⟨[0,1,2,4,6,7,8,19,20,21,22,23,24,25,26,27,28,29],[22,21],[(0,(71,2)),(23,(95,13))],[(.slot 9,.int .i64),(.cell 0 1,.int .i64),(.cell 23 2,.own 112 C.val),(.obj 13,.own 103 C.exper),(.obj 12,.own 99 C.layer),(.obj 17,.own 95 C.flag),(.obj 10,.own 33 C.seg)]⟩),(43000019,⟨[0,1,2,4,6,7,8,9,19,20,21,22,23,24,25,26,27,28,29,30,31,32,44,45,46,47,48],[22,21],[(23,(95,13)),(0,(71,2))],[(.slot 10,.int .i64),(.cell 23 5,.own 135 C.prereq),(.cell 0 1,.int .i64),(.obj 10,.own 33 C.seg),(.obj 17,.own 95 C.flag),(.obj 12,.own 99 C.layer),(.obj 13,.own 103 C.exper),(.obj 27,.own 112 C.val)]⟩),(43000029,⟨[0,1,2,4,6,7,8,9,10,19,20,21,22,23,24,25,26,27,28,29,30,31,32,44,45,46,47,48,49,50,51,52,53],[22,21],[(23,(95,13)),(0,(71,2))],[(.slot 11,.int .i64),(.cell 23 6,.own 137 C.target),(.cell 0 1,.int .i64),(.obj 27,.own 112 C.val),(.obj 13,.own 103 C.exper),(.obj 12,.own 99 C.layer),(.obj 17,.own 95 C.flag),(.obj 10,.own 33 C.seg),(.obj 34,.own 135 C.prereq)]⟩),(43000038,⟨[0,1,2,4,6,7,8,9,10,11,12,19,20,21,22,23,24,25,26,27,28,29,30,31,32,44,45,46,47,48,49,50,51,52,53,81,82,83,84,87,88,89,90,91,92,93],[23],[(51,(137,3)),(0,(71,2))],[(.cell 51 0,.str),(.cell 0 1,.int .i64),(.obj 50,.own 9 C.str),(.obj 34,.own 135 C.prereq),(.obj 10,.own 33 C.seg),(.obj 17,.own 95 C.flag),(.obj 12,.own 99 C.layer),(.obj 13,.own 103 C.exper),(.obj 27,.own 112 C.val),(.obj 42,.own 137 C.target)]⟩),(43000060,⟨[0,1,2,4,6,7,8,9,10,11,13,19,20,21,22,23,24,25,26,27,28,29,30,31,32,44,45,46,47,48,49,50,51,52,53,81,82,83,84,108],[22,21],[(0,(71,2)),(23,(95,13))],[(.cell 0 1,.int .i64),(.cell 23 7,.own 141 C.rule),(.obj 50,.own 9 C.str),(.obj 34,.own 135 C.prereq),(.obj 10,.own 33 C.seg),(.obj 17,.own 95 C.flag),(.obj 12,.own 99 C.layer),(.obj 13,.own 103 C.exper),(.obj 27,.own 112 C.val),(.obj 42,.own 137 C.target)]⟩),(43000047,⟨[0,1,2,4,6,7,8,9,10,11,13,19,20,21,22,23,24,25,26,27,28,29,30,31,32,44,45,46,47,48,49,50,51,52,53,81,82,83,84,108],[],[(0,(71,2)),(23,(95,13))],[(.slot 14,.int .i64),(.cell 0 1,.int .i64),(.cell 23 7,.own 141 C.rule),(.obj 50,.own 9 C.str),(.obj 34,.own 135 C.prereq),(.obj 10,.own 33 C.seg),(.obj 17,.own 95 C.flag),(.obj 12,.own 99 C.layer),(.obj 13,.own 103 C.exper),(.obj 27,.own 112 C.val),(.obj 42,.own 137 C.target)]⟩),(25,⟨[0,1,4,5,6,7,10,11,21,22,23,24,26,27,28,29,30,45,46,48],[2,1],[(0,(71,2)),(3,(52,8))],[(.slot 8,.int .i64),(.cell 0 1,.int .i64),(.cell 3 6,.own 99 C.layer),(.obj 13,.own 103 C.exper),(.obj 10,.own 33 C.seg),(.obj 17,.own 95 C.flag)]⟩),(35,⟨[0,1,4,5,6,7,8,10,11,21,22,23,24,26,27,28,29,30,45,46,48,49,50,51,52,66,67,69],[2,1],[(0,(71,2)),(3,(52,8))],[(.slot 9,.int .i64),(.cell 0 1,.int .i64),(.cell 3 7,.own 103 C.exper),(.obj 17,.own 95 C.flag),(.obj 10,.own 33 C.seg),(.obj 24,.own 99 C.layer)]⟩),(45000010,⟨[0,1,2,3,5,8,9,10,13,14,15,16,17,18,19,20,21,22,23,24,25,26,27,28,29,30,31,32,33,34,35,36,37,38,39,40,41,42,43,44,45,46],[37,36,35],[(40,(103,12)),(0,(71,2))],[(.cell 40 4,.int .i64),(.cell 0 1,.int .i64),(.obj 39,.own 197 C.range),(.obj 31,.own 103 C.exper),(.obj 24,.own 99 C.layer),(.obj 17,.own 95 C.flag),(.obj 10,.own 33 C.seg)]⟩),(45000014,⟨[0,1,2,3,5,8,9,10,13,14,15,16,17,18,19,20,21,22,23,24,25,26,27,28,29,30,31,32,33,34,35,36,37,38,39,40,41,42,43,44,45,46],[37,36,35],[(40,(103,12)),(0,(71,2))],[(.cell 40 7,.int .i64),(.cell 40 8,.str),(.cell 40 9,.str),(.cell 40 10,.sl C.val),(.cell 40 11,.sl C.ex),(.cell 0 1,.int .i64),(.obj 10,.own 33 C.seg),(.obj 17,.own 95 C.flag),(.obj 24,.own 99 C.layer),(.obj 31,.own 103 C.exper),(.obj 39,.own 197 C.range)]⟩)]:LS)
def z3s (Q3:Wj) (q2j:q8w) (Qa:Zf) (Ra:z1q) (Ja:q02) (Bg:z1r) (q8q:j1g) (Uo:q2t) (Bh:q46) (Zr:Wz) (z1g:j1j) (Jv:B6) (G7:q7p) (q7d:z62) (Wh:q45) (W7:q1k) (q41:z1x) (Rd:z17):Ev Sg:=((((((((((((((((((E0.with 37 (q5o Q3)).with 40 (j6o q2j)).with 10 (H7 Qa)).with 41 (v0g Ra)).with 53 (j1w Ja)).with 23 (v0h Bg)).with 69 (v4k q8q)).with 68 (z4z Uo)).with 11 (j90 Bh)).with 70 (q4m Zr)).with 43 (v4q z1g)).with 38 (j1v Jv)).with 71 (w1h G7)).with 72 (w78 q7d)).with 39 (j9z Wh)).with 73 (j0a W7)).with 74 (w2d q41)).with 45 (w3o Rd))
theorem j5t (Q3:Wj) (q2j:q8w) (Qa:Zf) (Ra:z1q) (Ja:q02) (Bg:z1r) (q8q:j1g) (Uo:q2t) (Bh:q46) (Zr:Wz) (z1g:j1j) (Jv:B6) (G7:q7p) (q7d:z62) (Wh:q45) (W7:q1k) (q41:z1x) (Rd:z17) (list:List (Int)) (at_:Int) (now:Int) (K:Envt->Int->Prop):q71 Q3 q2j Qa Ra Ja Bg q8q Uo Bh Zr z1g Jv G7 q7d Wh W7 q41 Rd list at_ now K=fnV ((z3s Q3 q2j Qa Ra Ja Bg q8q Uo Bh Zr z1g Jv G7 q7d Wh W7 q41 Rd).pl j8r) 4 17 ([.ptr 71 [.c,.v],.v]:LP) ([.el C.env]:LP) ([.ptr 71 [.sl C.u8,.int .i64],.int .i64]:LV) ([.el C.env]:LV) ([.ptr 71 [.same,.int .i64],.same]:LV) ((list,at_,()),now,()) (fun r o=>K r.1 o.1.2.1):=by kernel_rfl
theorem w3p:Qn Proofs.Tryz.prog D 17 (z5p Gz):=Ql (E:=z3s Jg q11 Zc q6d U5 q6e z0h Uf q47 Jz z0k Hr q2u q6w q08 Hw q30 q1m) (Qe (Qe (Qe (Qe (Qe (Qe (Qe (Qe (Qe (Qe (Qe (Qe (Qe (Qe (Qe (Qe (Qe (Qe h_E0 q5f q87) w5p v4i) Vk Be) w7x y2s) z93 w1e) w7y y2t) v84 y87) j4x w1f) j4w y2w) q8a z0u) v9b y89) z7g j9y) w1g v4j) v4y y44) j4v v0f) j18 w2b) v0u v9j) v1f y0h) fun a K=>j5t Jg q11 Zc q6d U5 q6e z0h Uf q47 Jz z0k Hr q2u q6w q08 Hw q30 q1m a.1.1 a.1.2.1 a.2.1 (fun q0 q1=>K (q0,()) (((),q1,()),(),()))
theorem z5q:Ent Proofs.Tryz.prog 86:=Qh (by kernel_rfl) (by kernel_rfl) (by kernel_rfl)
def z2q (X:Hy):Con Sg:=conV ([.v]:LP) ([.int .i64]:LV) ([.bool]:LV) ([.same]:LV) (fun a K=>X a.1 (fun q0=>K (q0,()) ((),())))
def w6d:PT:=Qi ([]:LS)
def z8p:Ev Sg:=E0
theorem w3q (op:Int) (K:Bool->Prop):Vd op K=fnV ((z8p).pl w6d) 4 86 ([.v]:LP) ([.v]:LP) ([.int .i64]:LV) ([.bool]:LV) ([.same]:LV) (op,()) (fun r _=>K r.1):=by kernel_rfl
theorem j2w:Qn Proofs.Tryz.prog D 86 (z2q Vd):=Ql (E:=z8p) h_E0 fun a K=>w3q a.1 (fun q0=>K (q0,()) ((),()))
theorem G3:Ent Proofs.Tryz.prog 178:=Qh (by kernel_rfl) (by kernel_rfl) (by kernel_rfl)
def Vs (X:Zn):Con Sg:=conV ([.sl C.str,.sl C.str]:LP) ([.sl C.str,.sl C.str]:LV) ([.bool]:LV) ([.same,.same]:LV) (fun a K=>X a.1 a.2.1 (fun q0=>K (q0,()) ((),(),())))
def q5r:PT:=Qi ([(9,⟨[0,1,6,7,8,9,10,11,12],[],[],[(.slot 13,.int .i64)]⟩)]:LS)
def Hn:Ev Sg:=E0
theorem q4p (s1:List (ByteArray)) (s2:List (ByteArray)) (K:Bool->Prop):Q0 s1 s2 K=fnV ((Hn).pl q5r) 4 178 ([.sl C.str,.sl C.str]:LP) ([.v]:LP) ([.sl C.str,.sl C.str]:LV) ([.bool]:LV) ([.same,.same]:LV) (s1,s2,()) (fun r _=>K r.1):=by kernel_rfl
theorem Ri:Qn Proofs.Tryz.prog D 178 (Vs Q0):=Ql (E:=Hn) h_E0 fun a K=>q4p a.1 a.2.1 (fun q0=>K (q0,()) ((),(),()))
end Go.En
end
noncomputable section
set_option maxRecDepth 100000
open Go Go.RowKit Go.Fl Go.Fl.Lk Go.Fx
namespace Go.En
theorem w6e:Ent Proofs.Tryz.prog 131:=Qh (by kernel_rfl) (by kernel_rfl) (by kernel_rfl)
def j7d (X:q83):Con Sg:=conV ([.el C.val,.el C.val]:LP) ([.el C.val,.el C.val]:LV) ([.bool]:LV) ([.same,.same]:LV) (fun a K=>X a.1 a.2.1 (fun q0=>K (q0,()) ((),(),())))
def v1h:PT:=Qi ([]:LS)
def j2x (Qq:Zn):Ev Sg:=(E0.with 178 (Vs Qq))
theorem w6f (Qq:Zn) (a:Val) (b:Val) (K:Bool->Prop):z4u Qq a b K=fnV ((j2x Qq).pl v1h) 4 131 ([.el C.val,.el C.val]:LP) ([.v]:LP) ([.el C.val,.el C.val]:LV) ([.bool]:LV) ([.same,.same]:LV) (a,b,()) (fun r _=>K r.1):=by kernel_rfl
theorem v59:Qn Proofs.Tryz.prog D 131 (j7d q15):=Ql (E:=j2x Q0) (Qe h_E0 G3 Ri) fun a K=>w6f Q0 a.1 a.2.1 (fun q0=>K (q0,()) ((),(),()))
theorem j2y:Ent Proofs.Tryz.prog 89:=Qh (by kernel_rfl) (by kernel_rfl) (by kernel_rfl)
def j0g (X:q1n):Con Sg:=conV ([.el C.ex,.el C.ex]:LP) ([.el C.ex,.el C.ex]:LV) ([.bool]:LV) ([.same,.same]:LV) (fun a K=>X a.1 a.2.1 (fun q0=>K (q0,()) ((),(),())))
def j7e:PT:=Qi ([(131000009,⟨[0,1,2,10,11,12,13,14,15,16],[],[],[(.slot 17,.int .i64)]⟩),(133000009,⟨[0,1,2,10,11,12,13,14,15,16],[],[],[(.slot 17,.int .i64)]⟩)]:LS)
def j7f (q2k:q83):Ev Sg:=(E0.with 131 (j7d q2k))
theorem v1i (q2k:q83) (X:q1n) (a:Ex) (b:Ex) (K:Bool->Prop):z9x q2k X a b K=fnV (((j7f q2k).with 89 (j0g X)).pl j7e) 4 89 ([.el C.ex,.el C.ex]:LP) ([.v]:LP) ([.el C.ex,.el C.ex]:LV) ([.bool]:LV) ([.same,.same]:LV) (a,b,()) (fun r _=>K r.1):=by kernel_rfl
theorem y0i:Qn Proofs.Tryz.prog D 89 (j0g q1o):=by
 show Qn _ _ _ (conV ([.el C.ex,.el C.ex]:LP) ([.el C.ex,.el C.ex]:LV) ([.bool]:LV) ([.same,.same]:LV) fun a K=>q1o a.1 a.2.1 (fun q0=>K (q0,()) ((),(),())))
 refine z0g (E:=j7f q15) (fuel:=4) (rk:=[.v]) (p:=j7e) (Qe h_E0 w6e v59) j2y fun a K h X hX=> ?_
 exact h (fun a b K=>X (a,b,()) fun r _=>K r.1) (fun a b K hs=>hX (a,b,()) (fun r _=>K r.1) (Eq.mp (v1i q15 (fun a b K=>X (a,b,()) fun r _=>K r.1) a b K) hs))
theorem z3t:Ent Proofs.Tryz.prog 55:=Qh (by kernel_rfl) (by kernel_rfl) (by kernel_rfl)
def q9z (X:Gf):Con Sg:=conV ([.own 26 C.ex,.el C.ex]:LP) ([.vec 26 C.ex,.el C.ex]:LV) ([.vec 26 C.ex]:LV) ([.same,.same]:LV) (fun a K=>X a.1 a.2.1 (fun q0=>K (q0,()) ((),(),())))
def z5r:PT:=Qi ([(6,⟨[1,3,4],[1],[],[(.slot 0,.own 26 C.ex)]⟩),(9,⟨[1,3,4,25,26,27],[1],[],[(.slot 0,.own 26 C.ex),(.slot 28,.int .i64)]⟩),(130000005,⟨[0,1,6,7],[0],[],[(.slot 8,.int .i64)]⟩)]:LS)
def z5s (J6:Hy) (q1z:q1n):Ev Sg:=((E0.with 86 (z2q J6)).with 89 (j0g q1z))
theorem j8s (J6:Hy) (q1z:q1n) (X:Gf) (l:List (Ex)) (e:Ex) (K:List (Ex)->Prop):q9t J6 q1z X l e K=fnV (((z5s J6 q1z).with 55 (q9z X)).pl z5r) 4 55 ([.own 26 C.ex,.el C.ex]:LP) ([.own 26 C.ex]:LP) ([.vec 26 C.ex,.el C.ex]:LV) ([.vec 26 C.ex]:LV) ([.same,.same]:LV) (l,e,()) (fun r _=>K r.1):=by kernel_rfl
theorem w6g:Qn Proofs.Tryz.prog D 55 (q9z Rt):=by
 show Qn _ _ _ (conV ([.own 26 C.ex,.el C.ex]:LP) ([.vec 26 C.ex,.el C.ex]:LV) ([.vec 26 C.ex]:LV) ([.same,.same]:LV) fun a K=>Rt a.1 a.2.1 (fun q0=>K (q0,()) ((),(),())))
 refine z0g (E:=z5s Vd q1o) (fuel:=4) (rk:=[.own 26 C.ex]) (p:=z5r) (Qe (Qe h_E0 z5q j2w) j2y y0i) z3t fun a K h X hX=> ?_
 exact h (fun l e K=>X (l,e,()) fun r _=>K r.1) (fun l e K hs=>hX (l,e,()) (fun r _=>K r.1) (Eq.mp (j8s Vd q1o (fun l e K=>X (l,e,()) fun r _=>K r.1) l e K) hs))
theorem q8e:Ent Proofs.Tryz.prog 91:=Qh (by kernel_rfl) (by kernel_rfl) (by kernel_rfl)
def q6u (X:Ve):Con Sg:=conV ([.el C.val]:LP) ([.el C.val]:LV) ([.el C.val]:LV) ([.same]:LV) (fun a K=>X a.1 (fun q0=>K (q0,()) ((),())))
def w6h:PT:=Qi ([]:LS)
def z8q:Ev Sg:=E0
theorem w3r (v:Val) (K:Val->Prop):J0 v K=fnV ((z8q).pl w6h) 4 91 ([.el C.val]:LP) ([.el C.val]:LP) ([.el C.val]:LV) ([.el C.val]:LV) ([.same]:LV) (v,()) (fun r _=>K r.1):=by kernel_rfl
theorem z2r:Qn Proofs.Tryz.prog D 91 (q6u J0):=Ql (E:=z8q) h_E0 fun a K=>w3r a.1 (fun q0=>K (q0,()) ((),()))
theorem z8r:Ent Proofs.Tryz.prog 56:=Qh (by kernel_rfl) (by kernel_rfl) (by kernel_rfl)
def z5t (X:Br):Con Sg:=conV ([.el C.ex]:LP) ([.el C.ex]:LV) ([.el C.ex]:LV) ([.same]:LV) (fun a K=>X a.1 (fun q0=>K (q0,()) ((),())))
def j2z:PT:=Qi ([(91000007,⟨[0,1,4,8,9,10,11,12],[],[],[(.slot 5,.own 112 C.val),(.slot 13,.int .i64)]⟩),(55000007,⟨[0,1,4,8,9,10,11,12],[],[],[(.slot 5,.own 26 C.ex),(.slot 13,.int .i64)]⟩)]:LS)
def j20 (Zm:Ve):Ev Sg:=(E0.with 91 (q6u Zm))
theorem w6i (Zm:Ve) (X:Br) (e:Ex) (K:Ex->Prop):z4v Zm X e K=fnV (((j20 Zm).with 56 (z5t X)).pl j2z) 4 56 ([.el C.ex]:LP) ([.el C.ex]:LP) ([.el C.ex]:LV) ([.el C.ex]:LV) ([.same]:LV) (e,()) (fun r _=>K r.1):=by kernel_rfl
theorem v6a:Qn Proofs.Tryz.prog D 56 (z5t q16):=by
 show Qn _ _ _ (conV ([.el C.ex]:LP) ([.el C.ex]:LV) ([.el C.ex]:LV) ([.same]:LV) fun a K=>q16 a.1 (fun q0=>K (q0,()) ((),())))
 refine z0g (E:=j20 J0) (fuel:=4) (rk:=[.el C.ex]) (p:=j2z) (Qe h_E0 q8e z2r) z8r fun a K h X hX=> ?_
 exact h (fun e K=>X (e,()) fun r _=>K r.1) (fun e K hs=>hX (e,()) (fun r _=>K r.1) (Eq.mp (w6i J0 (fun e K=>X (e,()) fun r _=>K r.1) e K) hs))
theorem j8t:Ent Proofs.Tryz.prog 29:=Qh (by kernel_rfl) (by kernel_rfl) (by kernel_rfl)
def z8s (X:q5b):Con Sg:=conV ([.el C.ex]:LP) ([.el C.ex]:LV) ([.vec 26 C.ex]:LV) ([.same]:LV) (fun a K=>X a.1 (fun q0=>K (q0,()) ((),())))
def w3s:PT:=Qi ([(55000007,⟨[0,1,4,8,9,10,11,12],[1],[],[(.slot 5,.own 26 C.ex),(.slot 13,.int .i64)]⟩)]:LS)
def z5u (R1:Gf) (q2l:Br):Ev Sg:=((E0.with 55 (q9z R1)).with 56 (z5t q2l))
theorem j8u (R1:Gf) (q2l:Br) (e:Ex) (K:List (Ex)->Prop):q9u R1 q2l e K=fnV ((z5u R1 q2l).pl w3s) 4 29 ([.el C.ex]:LP) ([.own 26 C.ex]:LP) ([.el C.ex]:LV) ([.vec 26 C.ex]:LV) ([.same]:LV) (e,()) (fun r _=>K r.1):=by kernel_rfl
theorem w6j:Qn Proofs.Tryz.prog D 29 (z8s q05):=Ql (E:=z5u Rt q16) (Qe (Qe h_E0 z3t w6g) z8r v6a) fun a K=>j8u Rt q16 a.1 (fun q0=>K (q0,()) ((),()))
theorem Ho:Ent Proofs.Tryz.prog 30:=Qh (by kernel_rfl) (by kernel_rfl) (by kernel_rfl)
def Vz (X:Zp):Con Sg:=conV ([.own 9 C.str]:LP) ([.vec 9 C.str]:LV) ([]:LV) ([.vec 9 C.str]:LV) (fun a K=>X a.1 (fun q0=>K () (q0,())))
theorem Bf:Qn Proofs.Tryz.prog D 30 (Vz Zd):=q6q
theorem q3i:Ent Proofs.Tryz.prog 31:=Qh (by kernel_rfl) (by kernel_rfl) (by kernel_rfl)
def G4 (X:J1):Con Sg:=conV ([.own 9 C.str]:LP) ([.vec 9 C.str]:LV) ([.vec 9 C.str]:LV) ([.same]:LV) (fun a K=>X a.1 (fun q0=>K (q0,()) ((),())))
theorem q4q:Qn Proofs.Tryz.prog D 31 (G4 Z9):=q4i
theorem j21:Ent Proofs.Tryz.prog 13:=Qh (by kernel_rfl) (by kernel_rfl) (by kernel_rfl)
def z3u (X:q1e):Con Sg:=conV ([.el C.ex]:LP) ([.el C.ex]:LV) ([.sl C.str]:LV) ([.same]:LV) (fun a K=>X a.1 (fun q0=>K (q0,()) ((),())))
def j5u:PT:=Qi ([(7,⟨[0,1,2,6,7,8],[1,0],[],[(.slot 3,.own 9 C.str),(.slot 9,.int .i64)]⟩)]:LS)
def z00 (R2:q5b) (Qt:Zp) (Zs:J1):Ev Sg:=(((E0.with 29 (z8s R2)).with 30 (Vz Qt)).with 31 (G4 Zs))
theorem j22 (R2:q5b) (Qt:Zp) (Zs:J1) (e:Ex) (K:List (ByteArray)->Prop):q5z R2 Qt Zs e K=fnV ((z00 R2 Qt Zs).pl j5u) 4 13 ([.el C.ex]:LP) ([.sl C.str]:LP) ([.el C.ex]:LV) ([.sl C.str]:LV) ([.same]:LV) (e,()) (fun r _=>K r.1):=by kernel_rfl
theorem j8v:Qn Proofs.Tryz.prog D 13 (z3u Uw):=Ql (E:=z00 q05 Zd Z9) (Qe (Qe (Qe h_E0 j8t w6j) Ho Bf) q3i q4q) fun a K=>j22 q05 Zd Z9 a.1 (fun q0=>K (q0,()) ((),()))
theorem w3t:Ent Proofs.Tryz.prog 33:=Qh (by kernel_rfl) (by kernel_rfl) (by kernel_rfl)
def j23 (X:q6j):Con Sg:=conV ([.sl C.str,.sl C.edge]:LP) ([.sl C.str,.sl C.edge]:LV) ([.vec 9 C.str,.int .i64]:LV) ([.same,.same]:LV) (fun a K=>X a.1 a.2.1 (fun q0 q1=>K (q0,q1,()) ((),(),())))
theorem v1j:Qn Proofs.Tryz.prog D 33 (j23 P_graph_Order):=v0d
theorem j5v:Ent Proofs.Tryz.prog 15:=Qh (by kernel_rfl) (by kernel_rfl) (by kernel_rfl)
def z5v (X:q24):Con Sg:=conV ([.sl C.seg]:LP) ([.sl C.seg]:LV) ([.vec 9 C.str,.int .i64]:LV) ([.same]:LV) (fun a K=>X a.1 (fun q0 q1=>K (q0,q1,()) ((),())))
def j8w:PT:=Qi ([(9,⟨[0,2,3,10,11],[],[],[(.slot 4,.own 9 C.str),(.slot 5,.own 79 C.edge),(.slot 12,.int .i64)]⟩),(17,⟨[0,2,3,4,7,10,11,12,13,14,15,17,18,19,20,21,22,23,24],[6,5,3],[],[(.slot 5,.own 79 C.edge),(.slot 25,.int .i64)]⟩)]:LS)
def z3v (U1:q1e) (q0t:q6j):Ev Sg:=((E0.with 13 (z3u U1)).with 33 (j23 q0t))
theorem j5w (U1:q1e) (q0t:q6j) (l:List (Seg)) (K:List (ByteArray)->Int->Prop):q72 U1 q0t l K=fnV ((z3v U1 q0t).pl j8w) 4 15 ([.sl C.seg]:LP) ([.own 9 C.str,.v]:LP) ([.sl C.seg]:LV) ([.vec 9 C.str,.int .i64]:LV) ([.same]:LV) (l,()) (fun r _=>K r.1 r.2.1):=by kernel_rfl
theorem w3u:Qn Proofs.Tryz.prog D 15 (z5v G0):=Ql (E:=z3v Uw P_graph_Order) (Qe (Qe h_E0 j21 j8v) w3t v1j) fun a K=>j5w Uw P_graph_Order a.1 (fun q0 q1=>K (q0,q1,()) ((),()))
theorem z01:Ent Proofs.Tryz.prog 121:=Qh (by kernel_rfl) (by kernel_rfl) (by kernel_rfl)
def q8f (X:Ul):Con Sg:=conV ([.el C.subj,.v]:LP) ([.el C.subj,.str]:LV) ([.int .i64]:LV) ([.same,.same]:LV) (fun a K=>X a.1 a.2.1 (fun q0=>K (q0,()) ((),(),())))
def j8x:PT:=Qi ([(163000005,⟨[0,1,6,7],[1],[],[(.slot 8,.int .i64)]⟩)]:LS)
def z3w:Ev Sg:=E0
theorem j5x (s:Subj) (kind:ByteArray) (K:Int->Prop):Wf s kind K=fnV ((z3w).pl j8x) 4 121 ([.el C.subj,.v]:LP) ([.v]:LP) ([.el C.subj,.str]:LV) ([.int .i64]:LV) ([.same,.same]:LV) (s,kind,()) (fun r _=>K r.1):=by kernel_rfl
theorem z5w:Qn Proofs.Tryz.prog D 121 (q8f Wf):=Ql (E:=z3w) h_E0 fun a K=>j5x a.1 a.2.1 (fun q0=>K (q0,()) ((),(),()))
end Go.En
end
noncomputable section
set_option maxRecDepth 100000
open Go Go.RowKit Go.Fl Go.Fl.Lk Go.Fx
namespace Go.En
theorem j0h:Ent Proofs.Tryz.prog 165:=Qh (by kernel_rfl) (by kernel_rfl) (by kernel_rfl)
def z02 (X:q0f):Con Sg:=conV ([.el C.attr]:LP) ([.el C.attr]:LV) ([.el C.attr]:LV) ([.same]:LV) (fun a K=>X a.1 (fun q0=>K (q0,()) ((),())))
def j24:PT:=Qi ([]:LS)
def q9h (Zm:Ve):Ev Sg:=(E0.with 91 (q6u Zm))
theorem j0i (Zm:Ve) (a:Attr) (K:Attr->Prop):q4a Zm a K=fnV ((q9h Zm).pl j24) 4 165 ([.el C.attr]:LP) ([.el C.attr]:LP) ([.el C.attr]:LV) ([.el C.attr]:LV) ([.same]:LV) (a,()) (fun r _=>K r.1):=by kernel_rfl
theorem j5y:Qn Proofs.Tryz.prog D 165 (z02 V6):=Ql (E:=q9h J0) (Qe h_E0 q8e z2r) fun a K=>j0i J0 a.1 (fun q0=>K (q0,()) ((),()))
theorem j5z:Ent Proofs.Tryz.prog 122:=Qh (by kernel_rfl) (by kernel_rfl) (by kernel_rfl)
def z5x (X:q25):Con Sg:=conV ([.el C.ctx]:LP) ([.el C.ctx]:LV) ([.el C.ctx]:LV) ([.same]:LV) (fun a K=>X a.1 (fun q0=>K (q0,()) ((),())))
def j8y:PT:=Qi ([(165000007,⟨[0,1,4,8,9,10,11,12],[],[],[(.slot 5,.own 157 C.attr),(.slot 13,.int .i64)]⟩)]:LS)
def z3x (Uc:q0f):Ev Sg:=(E0.with 165 (z02 Uc))
theorem j50 (Uc:q0f) (c:Ctxt) (K:Ctxt->Prop):q73 Uc c K=fnV ((z3x Uc).pl j8y) 4 122 ([.el C.ctx]:LP) ([.el C.ctx]:LP) ([.el C.ctx]:LV) ([.el C.ctx]:LV) ([.same]:LV) (c,()) (fun r _=>K r.1):=by kernel_rfl
theorem w3v:Qn Proofs.Tryz.prog D 122 (z5x G1):=Ql (E:=z3x V6) (Qe h_E0 j0h j5y) fun a K=>j50 V6 a.1 (fun q0=>K (q0,()) ((),()))
theorem j8z:Ent Proofs.Tryz.prog 76:=Qh (by kernel_rfl) (by kernel_rfl) (by kernel_rfl)
def z8t (X:q5c):Con Sg:=conV ([.el C.subj,.v]:LP) ([.el C.subj,.str]:LV) ([.el C.ctx,.bool]:LV) ([.same,.same]:LV) (fun a K=>X a.1 a.2.1 (fun q0 q1=>K (q0,q1,()) ((),(),())))
def w3w:PT:=Qi ([]:LS)
def z5y (Jc:Ul) (Hg:q25):Ev Sg:=((E0.with 121 (q8f Jc)).with 122 (z5x Hg))
theorem j80 (Jc:Ul) (Hg:q25) (s:Subj) (kind:ByteArray) (K:Ctxt->Bool->Prop):q9v Jc Hg s kind K=fnV ((z5y Jc Hg).pl w3w) 4 76 ([.el C.subj,.v]:LP) ([.el C.ctx,.v]:LP) ([.el C.subj,.str]:LV) ([.el C.ctx,.bool]:LV) ([.same,.same]:LV) (s,kind,()) (fun r _=>K r.1 r.2.1):=by kernel_rfl
theorem w6k:Qn Proofs.Tryz.prog D 76 (z8t Ru):=Ql (E:=z5y Wf G1) (Qe (Qe h_E0 z01 z5w) j5z w3v) fun a K=>j80 Wf G1 a.1 a.2.1 (fun q0 q1=>K (q0,q1,()) ((),(),()))
theorem j25:Ent Proofs.Tryz.prog 166:=Qh (by kernel_rfl) (by kernel_rfl) (by kernel_rfl)
def z3y (X:q1f):Con Sg:=conV ([.el C.subj,.v,.v]:LP) ([.el C.subj,.str,.str]:LV) ([.el C.val,.bool]:LV) ([.same,.same,.same]:LV) (fun a K=>X a.1 a.2.1 a.2.2.1 (fun q0 q1=>K (q0,q1,()) ((),(),(),())))
def j51:PT:=Qi ([(17,⟨[0,1,2,3,6,8,9,12,13,14,15,16,18,19,20,21,22,23,24,28,29,30],[2,0],[(1,(112,4))],[(.slot 31,.int .i64),(.cell 1 0,.int .i64),(.cell 1 1,.int .i64),(.cell 1 2,.str),(.cell 1 3,.sl C.str)]⟩)]:LS)
def z03 (Jc:Ul) (Zm:Ve):Ev Sg:=((E0.with 121 (q8f Jc)).with 91 (q6u Zm))
theorem j26 (Jc:Ul) (Zm:Ve) (s:Subj) (kind:ByteArray) (name:ByteArray) (K:Val->Bool->Prop):q50 Jc Zm s kind name K=fnV ((z03 Jc Zm).pl j51) 4 166 ([.el C.subj,.v,.v]:LP) ([.el C.val,.v]:LP) ([.el C.subj,.str,.str]:LV) ([.el C.val,.bool]:LV) ([.same,.same,.same]:LV) (s,kind,name,()) (fun r _=>K r.1 r.2.1):=by kernel_rfl
theorem j81:Qn Proofs.Tryz.prog D 166 (z3y Ux):=Ql (E:=z03 Wf J0) (Qe (Qe h_E0 z01 z5w) q8e z2r) fun a K=>j26 Wf J0 a.1 a.2.1 a.2.2.1 (fun q0 q1=>K (q0,q1,()) ((),(),(),()))
theorem w3x:Ent Proofs.Tryz.prog 169:=Qh (by kernel_rfl) (by kernel_rfl) (by kernel_rfl)
def j27 (X:q6k):Con Sg:=conV ([.el C.val,.el C.val]:LP) ([.el C.val,.el C.val]:LV) ([.bool]:LV) ([.same,.same]:LV) (fun a K=>X a.1 a.2.1 (fun q0=>K (q0,()) ((),(),())))
def w6l:PT:=Qi ([]:LS)
def z8u (Qq:Zn):Ev Sg:=(E0.with 178 (Vs Qq))
theorem w3y (Qq:Zn) (a:Val) (b:Val) (K:Bool->Prop):z18 Qq a b K=fnV ((z8u Qq).pl w6l) 4 169 ([.el C.val,.el C.val]:LP) ([.v]:LP) ([.el C.val,.el C.val]:LV) ([.bool]:LV) ([.same,.same]:LV) (a,b,()) (fun r _=>K r.1):=by kernel_rfl
theorem v1k:Qn Proofs.Tryz.prog D 169 (j27 Hz):=Ql (E:=z8u Q0) (Qe h_E0 G3 Ri) fun a K=>w3y Q0 a.1 a.2.1 (fun q0=>K (q0,()) ((),(),()))
theorem q07:Ent Proofs.Tryz.prog 192:=Qh (by kernel_rfl) (by kernel_rfl) (by kernel_rfl)
def H8 (X:Jj):Con Sg:=conV ([.v,.v]:LP) ([.str,.str]:LV) ([.bool]:LV) ([.same,.same]:LV) (fun a K=>X a.1 a.2.1 (fun q0=>K (q0,()) ((),(),())))
def z04:PT:=Qi ([]:LS)
def q2a:Ev Sg:=E0
theorem q90 (s:ByteArray) (prefix_:ByteArray) (K:Bool->Prop):Zg s prefix_ K=fnV ((q2a).pl z04) 4 192 ([.v,.v]:LP) ([.v]:LP) ([.str,.str]:LV) ([.bool]:LV) ([.same,.same]:LV) (s,prefix_,()) (fun r _=>K r.1):=by kernel_rfl
theorem q3j:Qn Proofs.Tryz.prog D 192 (H8 Zg):=Ql (E:=q2a) h_E0 fun a K=>q90 a.1 a.2.1 (fun q0=>K (q0,()) ((),(),()))
theorem z5z:Ent Proofs.Tryz.prog 170:=Qh (by kernel_rfl) (by kernel_rfl) (by kernel_rfl)
def q8g (X:H0):Con Sg:=conV ([.v,.v]:LP) ([.str,.str]:LV) ([.bool]:LV) ([.same,.same]:LV) (fun a K=>X a.1 a.2.1 (fun q0=>K (q0,()) ((),(),())))
def z7p:PT:=Qi ([]:LS)
def q55 (Q2:Jj):Ev Sg:=(E0.with 192 (H8 Q2))
theorem z50 (Q2:Jj) (s:ByteArray) (prefix_:ByteArray) (K:Bool->Prop):q1p Q2 s prefix_ K=fnV ((q55 Q2).pl z7p) 4 170 ([.v,.v]:LP) ([.v]:LP) ([.str,.str]:LV) ([.bool]:LV) ([.same,.same]:LV) (s,prefix_,()) (fun r _=>K r.1):=by kernel_rfl
theorem j0j:Qn Proofs.Tryz.prog D 170 (q8g W2):=Ql (E:=q55 Zg) (Qe h_E0 q07 q3j) fun a K=>z50 Zg a.1 a.2.1 (fun q0=>K (q0,()) ((),(),()))
theorem q91:Ent Proofs.Tryz.prog 193:=Qh (by kernel_rfl) (by kernel_rfl) (by kernel_rfl)
def q3k (X:Vw):Con Sg:=conV ([.v,.v]:LP) ([.str,.str]:LV) ([.bool]:LV) ([.same,.same]:LV) (fun a K=>X a.1 a.2.1 (fun q0=>K (q0,()) ((),(),())))
def z05:PT:=Qi ([]:LS)
def q2b:Ev Sg:=E0
theorem q92 (s:ByteArray) (suffix:ByteArray) (K:Bool->Prop):J2 s suffix K=fnV ((q2b).pl z05) 4 193 ([.v,.v]:LP) ([.v]:LP) ([.str,.str]:LV) ([.bool]:LV) ([.same,.same]:LV) (s,suffix,()) (fun r _=>K r.1):=by kernel_rfl
theorem z2s:Qn Proofs.Tryz.prog D 193 (q3k J2):=Ql (E:=q2b) h_E0 fun a K=>q92 a.1 a.2.1 (fun q0=>K (q0,()) ((),(),()))
theorem z52:Ent Proofs.Tryz.prog 171:=Qh (by kernel_rfl) (by kernel_rfl) (by kernel_rfl)
def q8h (X:H1):Con Sg:=conV ([.v,.v]:LP) ([.str,.str]:LV) ([.bool]:LV) ([.same,.same]:LV) (fun a K=>X a.1 a.2.1 (fun q0=>K (q0,()) ((),(),())))
def z7q:PT:=Qi ([]:LS)
def q56 (J7:Vw):Ev Sg:=(E0.with 193 (q3k J7))
theorem z54 (J7:Vw) (s:ByteArray) (suffix:ByteArray) (K:Bool->Prop):q1q J7 s suffix K=fnV ((q56 J7).pl z7q) 4 171 ([.v,.v]:LP) ([.v]:LP) ([.str,.str]:LV) ([.bool]:LV) ([.same,.same]:LV) (s,suffix,()) (fun r _=>K r.1):=by kernel_rfl
theorem j0k:Qn Proofs.Tryz.prog D 171 (q8h W4):=Ql (E:=q56 J2) (Qe h_E0 q91 z2s) fun a K=>z54 J2 a.1 a.2.1 (fun q0=>K (q0,()) ((),(),()))
theorem z7r:Ent Proofs.Tryz.prog 172:=Qh (by kernel_rfl) (by kernel_rfl) (by kernel_rfl)
def q9i (X:Bb):Con Sg:=conV ([.v,.v]:LP) ([.str,.str]:LV) ([.bool]:LV) ([.same,.same]:LV) (fun a K=>X a.1 a.2.1 (fun q0=>K (q0,()) ((),(),())))
theorem j28:Qn Proofs.Tryz.prog D 172 (q9i U9):=j1t
theorem w3z:Ent Proofs.Tryz.prog 218:=Qh (by kernel_rfl) (by kernel_rfl) (by kernel_rfl)
def j29 (X:q6l):Con Sg:=conV ([.el C.val]:LP) ([.el C.val]:LV) ([.bool]:LV) ([.same]:LV) (fun a K=>X a.1 (fun q0=>K (q0,()) ((),())))
def w6m:PT:=Qi ([(8,⟨[0,1,2,3,4],[0],[],[(.slot 5,.bool)]⟩),(14,⟨[0,1,2,3,4,5],[0],[],[(.slot 17,.bool)]⟩)]:LS)
def z8v:Ev Sg:=E0
theorem w30 (v:Val) (K:Bool->Prop):H2 v K=fnV ((z8v).pl w6m) 4 218 ([.el C.val]:LP) ([.v]:LP) ([.el C.val]:LV) ([.bool]:LV) ([.same]:LV) (v,()) (fun r _=>K r.1):=by kernel_rfl
theorem v1l:Qn Proofs.Tryz.prog D 218 (j29 H2):=Ql (E:=z8v) h_E0 fun a K=>w30 a.1 (fun q0=>K (q0,()) ((),()))
theorem w6n:Ent Proofs.Tryz.prog 219:=Qh (by kernel_rfl) (by kernel_rfl) (by kernel_rfl)
def j7g (X:q84):Con Sg:=conV ([.v]:LP) ([.str]:LV) ([.bool]:LV) ([.same]:LV) (fun a K=>X a.1 (fun q0=>K (q0,()) ((),())))
def v1m:PT:=Qi ([(9,⟨[0,5,6,7,8,9,10,11,12,13,14],[],[],[(.obj 0,.siter)]⟩)]:LS)
def j3a (Zl:Ws):Ev Sg:=(E0.with 200 (q3g Zl))
theorem w6o (Zl:Ws) (s:ByteArray) (K:Bool->Prop):z4w Zl s K=fnV ((j3a Zl).pl v1m) 4 219 ([.v]:LP) ([.v]:LP) ([.str]:LV) ([.bool]:LV) ([.same]:LV) (s,()) (fun r _=>K r.1):=by kernel_rfl
theorem v6b:Qn Proofs.Tryz.prog D 219 (j7g q17):=Ql (E:=j3a Jp) (Qe h_E0 q54 q9d) fun a K=>w6o Jp a.1 (fun q0=>K (q0,()) ((),()))
end Go.En
end
noncomputable section
set_option maxRecDepth 100000
open Go Go.RowKit Go.Fl Go.Fl.Lk Go.Fx
namespace Go.En
theorem j52:Ent Proofs.Tryz.prog 221:=Qh (by kernel_rfl) (by kernel_rfl) (by kernel_rfl)
def z55 (X:q26):Con Sg:=conV ([.v,.v]:LP) ([.str,.str]:LV) ([.vec 9 C.str]:LV) ([.same,.same]:LV) (fun a K=>X a.1 a.2.1 (fun q0=>K (q0,()) ((),(),())))
theorem w31:Qn Proofs.Tryz.prog D 221 (z55 Bt):=w1d
theorem q93:Ent Proofs.Tryz.prog 237:=Qh (by kernel_rfl) (by kernel_rfl) (by kernel_rfl)
def q3l (X:Vx):Con Sg:=conV ([.v,.v]:LP) ([.str,.str]:LV) ([.str,.bool]:LV) ([.same,.same]:LV) (fun a K=>X a.1 a.2.1 (fun q0 q1=>K (q0,q1,()) ((),(),())))
def z06:PT:=Qi ([]:LS)
def q2c (Q2:Jj):Ev Sg:=(E0.with 192 (H8 Q2))
theorem q94 (Q2:Jj) (s:ByteArray) (prefix_:ByteArray) (K:ByteArray->Bool->Prop):H3 Q2 s prefix_ K=fnV ((q2c Q2).pl z06) 4 237 ([.v,.v]:LP) ([.v,.v]:LP) ([.str,.str]:LV) ([.str,.bool]:LV) ([.same,.same]:LV) (s,prefix_,()) (fun r _=>K r.1 r.2.1):=by kernel_rfl
theorem z2t:Qn Proofs.Tryz.prog D 237 (q3l Wt):=Ql (E:=q2c Zg) (Qe h_E0 q07 q3j) fun a K=>q94 Zg a.1 a.2.1 (fun q0 q1=>K (q0,q1,()) ((),(),()))
theorem z56:Ent Proofs.Tryz.prog 230:=Qh (by kernel_rfl) (by kernel_rfl) (by kernel_rfl)
def q8i (X:H4):Con Sg:=conV ([.v,.v]:LP) ([.str,.str]:LV) ([.str,.bool]:LV) ([.same,.same]:LV) (fun a K=>X a.1 a.2.1 (fun q0 q1=>K (q0,q1,()) ((),(),())))
def z7s:PT:=Qi ([]:LS)
def q57 (J8:Vx):Ev Sg:=(E0.with 237 (q3l J8))
theorem z57 (J8:Vx) (s:ByteArray) (prefix_:ByteArray) (K:ByteArray->Bool->Prop):q1r J8 s prefix_ K=fnV ((q57 J8).pl z7s) 4 230 ([.v,.v]:LP) ([.v,.v]:LP) ([.str,.str]:LV) ([.str,.bool]:LV) ([.same,.same]:LV) (s,prefix_,()) (fun r _=>K r.1 r.2.1):=by kernel_rfl
theorem j0l:Qn Proofs.Tryz.prog D 230 (q8i W5):=Ql (E:=q57 Wt) (Qe h_E0 q93 z2t) fun a K=>z57 Wt a.1 a.2.1 (fun q0 q1=>K (q0,q1,()) ((),(),()))
theorem j82:Ent Proofs.Tryz.prog 231:=Qh (by kernel_rfl) (by kernel_rfl) (by kernel_rfl)
def z8w (X:q5d):Con Sg:=conV ([.v]:LP) ([.str]:LV) ([.int .i64,.ifc]:LV) ([.same]:LV) (fun a K=>X a.1 (fun q0 q1=>K (q0,q1,()) ((),())))
theorem w6p:Qn Proofs.Tryz.prog D 231 (z8w Rv):=w5n
theorem z7t:Ent Proofs.Tryz.prog 222:=Qh (by kernel_rfl) (by kernel_rfl) (by kernel_rfl)
def q9j (X:Bc):Con Sg:=conV ([.v]:LP) ([.str]:LV) ([.int .i64,.int .i64]:LV) ([.same]:LV) (fun a K=>X a.1 (fun q0 q1=>K (q0,q1,()) ((),())))
def j0m:PT:=Qi ([(11,⟨[0,4,5,10,11,12,13,14,15,16,17,18,19,20,21,22,23,24,25,26,27,28,29,30,31],[],[],[(.obj 0,.siter)]⟩)]:LS)
def q8j (W9:H4) (Gg:q5d):Ev Sg:=((E0.with 230 (q8i W9)).with 231 (z8w Gg))
theorem z7u (W9:H4) (Gg:q5d) (s:ByteArray) (K:Int->Int->Prop):q27 W9 Gg s K=fnV ((q8j W9 Gg).pl j0m) 4 222 ([.v]:LP) ([.v,.v]:LP) ([.str]:LV) ([.int .i64,.int .i64]:LV) ([.same]:LV) (s,()) (fun r _=>K r.1 r.2.1):=by kernel_rfl
theorem j3b:Qn Proofs.Tryz.prog D 222 (q9j Vi):=Ql (E:=q8j W5 Rv) (Qe (Qe h_E0 z56 j0l) j82 w6p) fun a K=>z7u W5 Rv a.1 (fun q0 q1=>K (q0,q1,()) ((),()))
theorem z58:Ent Proofs.Tryz.prog 198:=Qh (by kernel_rfl) (by kernel_rfl) (by kernel_rfl)
def z2u (X:H5):Con Sg:=conV ([.v]:LP) ([.str]:LV) ([.el C.a3,.bool]:LV) ([.same]:LV) (fun a K=>X a.1 (fun q0 q1=>K (q0,q1,()) ((),())))
def w6q:PT:=Qi ([(13,⟨[0,2,4,5,10,11,12,13,14,16,17],[2],[(1,(214,3)),(0,(214,3))],[(.slot 18,.int .i64),(.cell 1 0,.int .i64),(.cell 1 1,.int .i64),(.cell 1 2,.int .i64),(.cell 0 0,.int .i64),(.cell 0 1,.int .i64),(.cell 0 2,.int .i64)]⟩)]:LS)
def z8x (Hh:q26) (Vn:Bc):Ev Sg:=((E0.with 221 (z55 Hh)).with 222 (q9j Vn))
theorem w32 (Hh:q26) (Vn:Bc) (s:ByteArray) (K:A3->Bool->Prop):z19 Hh Vn s K=fnV ((z8x Hh Vn).pl w6q) 4 198 ([.v]:LP) ([.el C.a3,.v]:LP) ([.str]:LV) ([.el C.a3,.bool]:LV) ([.same]:LV) (s,()) (fun r _=>K r.1 r.2.1):=by kernel_rfl
theorem j3c:Qn Proofs.Tryz.prog D 198 (z2u Vy):=Ql (E:=z8x Bt Vi) (Qe (Qe h_E0 j52 w31) z7t j3b) fun a K=>w32 Bt Vi a.1 (fun q0 q1=>K (q0,q1,()) ((),()))
theorem w33:Ent Proofs.Tryz.prog 195:=Qh (by kernel_rfl) (by kernel_rfl) (by kernel_rfl)
def j3d (X:q6m):Con Sg:=conV ([.el C.val]:LP) ([.el C.val]:LV) ([.int .i64]:LV) ([.same]:LV) (fun a K=>X a.1 (fun q0=>K (q0,()) ((),())))
def w6r:PT:=Qi ([(47,⟨[0,1,8,9,10,11,12,13,14,15,16,17,18,19,20,21,22,31,32,41,42,47,48,57,58,59,60,61,62,63,64,65],[0],[],[(.slot 66,.int .i64)]⟩),(59,⟨[0,1,8,9,10,11,12,13,14,15,16,17,18,19,20,21,22,31,32,41,42,47,48,57,58,59,60,61,62,63,64,65,66,67,74,75,76],[0],[],[(.slot 77,.int .i64)]⟩)]:LS)
def z8y (q0u:q6l) (Bz:q84) (Jr:H5):Ev Sg:=(((E0.with 218 (j29 q0u)).with 219 (j7g Bz)).with 198 (z2u Jr))
theorem w34 (q0u:q6l) (Bz:q84) (Jr:H5) (v:Val) (K:Int->Prop):z2a q0u Bz Jr v K=fnV ((z8y q0u Bz Jr).pl w6r) 4 195 ([.el C.val]:LP) ([.v]:LP) ([.el C.val]:LV) ([.int .i64]:LV) ([.same]:LV) (v,()) (fun r _=>K r.1):=by kernel_rfl
theorem v1n:Qn Proofs.Tryz.prog D 195 (j3d q0g):=Ql (E:=z8y H2 q17 Vy) (Qe (Qe (Qe h_E0 w3z v1l) w6n v6b) z58 j3c) fun a K=>w34 H2 q17 Vy a.1 (fun q0=>K (q0,()) ((),()))
theorem j53:Ent Proofs.Tryz.prog 173:=Qh (by kernel_rfl) (by kernel_rfl) (by kernel_rfl)
def z59 (X:q28):Con Sg:=conV ([.el C.val,.el C.val]:LP) ([.el C.val,.el C.val]:LV) ([.int .i64,.int .i64]:LV) ([.same,.same]:LV) (fun a K=>X a.1 a.2.1 (fun q0 q1=>K (q0,q1,()) ((),(),())))
def j83:PT:=Qi ([(200000005,⟨[0,1,9,10],[],[],[(.slot 11,.int .i64)]⟩)]:LS)
def z3z (Re:q6m) (Jr:H5):Ev Sg:=((E0.with 195 (j3d Re)).with 198 (z2u Jr))
theorem j54 (Re:q6m) (Jr:H5) (a:Val) (b:Val) (K:Int->Int->Prop):q74 Re Jr a b K=fnV ((z3z Re Jr).pl j83) 4 173 ([.el C.val,.el C.val]:LP) ([.v,.v]:LP) ([.el C.val,.el C.val]:LV) ([.int .i64,.int .i64]:LV) ([.same,.same]:LV) (a,b,()) (fun r _=>K r.1 r.2.1):=by kernel_rfl
theorem w35:Qn Proofs.Tryz.prog D 173 (z59 Um):=Ql (E:=z3z q0g Vy) (Qe (Qe h_E0 w33 v1n) z58 j3c) fun a K=>j54 q0g Vy a.1 a.2.1 (fun q0 q1=>K (q0,q1,()) ((),(),()))
theorem w36:Ent Proofs.Tryz.prog 125:=Qh (by kernel_rfl) (by kernel_rfl) (by kernel_rfl)
def j3e (X:q6n):Con Sg:=conV ([.el C.subj,.el C.ex]:LP) ([.el C.subj,.el C.ex]:LV) ([.bool]:LV) ([.same,.same]:LV) (fun a K=>X a.1 a.2.1 (fun q0=>K (q0,()) ((),(),())))
def w6s:PT:=Qi ([(192000005,⟨[0,1,6,7],[2],[],[(.slot 8,.int .i64)]⟩),(80000005,⟨[0,1,6,7],[],[],[(.slot 8,.int .i64)]⟩)]:LS)
def z8z (U2:q1f) (J6:Hy) (Gb:q6k) (Va:H0) (Vb:H1) (Vo:Bb) (Up:q28):Ev Sg:=(((((((E0.with 166 (z3y U2)).with 86 (z2q J6)).with 169 (j27 Gb)).with 170 (q8g Va)).with 171 (q8h Vb)).with 172 (q9i Vo)).with 173 (z59 Up))
theorem w37 (U2:q1f) (J6:Hy) (Gb:q6k) (Va:H0) (Vb:H1) (Vo:Bb) (Up:q28) (s:Subj) (e:Ex) (K:Bool->Prop):z2b U2 J6 Gb Va Vb Vo Up s e K=fnV ((z8z U2 J6 Gb Va Vb Vo Up).pl w6s) 4 125 ([.el C.subj,.el C.ex]:LP) ([.v]:LP) ([.el C.subj,.el C.ex]:LV) ([.bool]:LV) ([.same,.same]:LV) (s,e,()) (fun r _=>K r.1):=by kernel_rfl
theorem v1o:Qn Proofs.Tryz.prog D 125 (j3e q0h):=Ql (E:=z8z Ux Vd Hz W2 W4 U9 Um) (Qe (Qe (Qe (Qe (Qe (Qe (Qe h_E0 j25 j81) z5q j2w) w3x v1k) z5z j0j) z52 j0k) z7r j28) j53 w35) fun a K=>w37 Ux Vd Hz W2 W4 U9 Um a.1 a.2.1 (fun q0=>K (q0,()) ((),(),()))
theorem z6a:Ent Proofs.Tryz.prog 77:=Qh (by kernel_rfl) (by kernel_rfl) (by kernel_rfl)
def z2v (X:H6):Con Sg:=conV ([.el C.subj,.sl C.str,.el C.ex]:LP) ([.el C.subj,.sl C.str,.el C.ex]:LV) ([.bool]:LV) ([.same,.same,.same]:LV) (fun a K=>X a.1 a.2.1 a.2.2.1 (fun q0=>K (q0,()) ((),(),(),())))
def z81:PT:=Qi ([(130000005,⟨[0,1,6,7],[1,0],[],[(.slot 8,.int .i64)]⟩),(80000005,⟨[0,1,6,7],[],[],[(.slot 8,.int .i64)]⟩)]:LS)
def z82 (q0v:q6n):Ev Sg:=(E0.with 125 (j3e q0v))
theorem w38 (q0v:q6n) (X:H6) (s:Subj) (in_:List (ByteArray)) (e:Ex) (K:Bool->Prop):z2c q0v X s in_ e K=fnV (((z82 q0v).with 77 (z2v X)).pl z81) 4 77 ([.el C.subj,.sl C.str,.el C.ex]:LP) ([.v]:LP) ([.el C.subj,.sl C.str,.el C.ex]:LV) ([.bool]:LV) ([.same,.same,.same]:LV) (s,in_,e,()) (fun r _=>K r.1):=by kernel_rfl
theorem v1p:Qn Proofs.Tryz.prog D 77 (z2v q0i):=by
 show Qn _ _ _ (conV ([.el C.subj,.sl C.str,.el C.ex]:LP) ([.el C.subj,.sl C.str,.el C.ex]:LV) ([.bool]:LV) ([.same,.same,.same]:LV) fun a K=>q0i a.1 a.2.1 a.2.2.1 (fun q0=>K (q0,()) ((),(),(),())))
 refine z0g (E:=z82 q0h) (fuel:=4) (rk:=[.v]) (p:=z81) (Qe h_E0 w36 v1o) z6a fun a K h X hX=> ?_
 exact h (fun s in_ e K=>X (s,in_,e,()) fun r _=>K r.1) (fun s in_ e K hs=>hX (s,in_,e,()) (fun r _=>K r.1) (Eq.mp (w38 q0h (fun s in_ e K=>X (s,in_,e,()) fun r _=>K r.1) s in_ e K) hs))
theorem z7v:Ent Proofs.Tryz.prog 47:=Qh (by kernel_rfl) (by kernel_rfl) (by kernel_rfl)
def q9k (X:Bd):Con Sg:=conV ([.el C.seg,.el C.subj,.sl C.str]:LP) ([.el C.seg,.el C.subj,.sl C.str]:LV) ([.bool]:LV) ([.same,.same,.same]:LV) (fun a K=>X a.1 a.2.1 a.2.2.1 (fun q0=>K (q0,()) ((),(),(),())))
def j0n:PT:=Qi ([(80000005,⟨[0,1,6,7],[],[],[(.slot 8,.int .i64)]⟩)]:LS)
def q8k (R3:q5c) (V0:H6):Ev Sg:=((E0.with 76 (z8t R3)).with 77 (z2v V0))
theorem z7w (R3:q5c) (V0:H6) (g:Seg) (s:Subj) (in_:List (ByteArray)) (K:Bool->Prop):q29 R3 V0 g s in_ K=fnV ((q8k R3 V0).pl j0n) 4 47 ([.el C.seg,.el C.subj,.sl C.str]:LP) ([.v]:LP) ([.el C.seg,.el C.subj,.sl C.str]:LV) ([.bool]:LV) ([.same,.same,.same]:LV) (g,s,in_,()) (fun r _=>K r.1):=by kernel_rfl
theorem j3f:Qn Proofs.Tryz.prog D 47 (q9k Vj):=Ql (E:=q8k Ru q0i) (Qe (Qe h_E0 j8z w6k) z6a v1p) fun a K=>z7w Ru q0i a.1 a.2.1 a.2.2.1 (fun q0=>K (q0,()) ((),(),(),()))
theorem q1u:Ent Proofs.Tryz.prog 19:=Qh (by kernel_rfl) (by kernel_rfl) (by kernel_rfl)
def q0n (X:Jm):Con Sg:=conV ([.sl C.seg,.el C.subj]:LP) ([.sl C.seg,.el C.subj]:LV) ([.vec 9 C.str]:LV) ([.same,.same]:LV) (fun a K=>X a.1 a.2.1 (fun q0=>K (q0,()) ((),(),())))
def j3g:PT:=Qi ([(13,⟨[0,1,3,4,5,6,7,13,14,15,16,17,18,19,20,21,22],[1,0],[],[(.slot 23,.int .i64),(.obj 2,.map C.str C.seg)]⟩),(25,⟨[0,1,3,4,5,6,7,13,14,15,16,17,18,19,20,21,22,23,24,32,33],[2,1,0],[],[(.slot 10,.own 9 C.str),(.slot 34,.int .i64)]⟩)]:LS)
def q9l (Hi:q24) (Vp:Bd) (Qt:Zp):Ev Sg:=(((E0.with 15 (z5v Hi)).with 47 (q9k Vp)).with 30 (Vz Qt))
theorem j0o (Hi:q24) (Vp:Bd) (Qt:Zp) (l:List (Seg)) (s:Subj) (K:List (ByteArray)->Prop):q4b Hi Vp Qt l s K=fnV ((q9l Hi Vp Qt).pl j3g) 4 19 ([.sl C.seg,.el C.subj]:LP) ([.own 9 C.str]:LP) ([.sl C.seg,.el C.subj]:LV) ([.vec 9 C.str]:LV) ([.same,.same]:LV) (l,s,()) (fun r _=>K r.1):=by kernel_rfl
theorem q4r:Qn Proofs.Tryz.prog D 19 (q0n Zz):=Ql (E:=q9l G0 Vj Zd) (Qe (Qe (Qe h_E0 j5v w3u) z7v j3f) Ho Bf) fun a K=>j0o G0 Vj Zd a.1 a.2.1 (fun q0=>K (q0,()) ((),(),()))
end Go.En
end
noncomputable section
set_option maxRecDepth 100000
open Go Go.RowKit Go.Fl Go.Fl.Lk Go.Fx
namespace Go.En
theorem q58:Ent Proofs.Tryz.prog 21:=Qh (by kernel_rfl) (by kernel_rfl) (by kernel_rfl)
def q3m (X:Wu):Con Sg:=conV ([.sl C.seg,.el C.subj,.v]:LP) ([.sl C.seg,.el C.subj,.str]:LV) ([.bool]:LV) ([.same,.same,.same]:LV) (fun a K=>X a.1 a.2.1 a.2.2.1 (fun q0=>K (q0,()) ((),(),(),())))
def j0p:PT:=Qi ([(80000005,⟨[0,1,6,7],[1],[],[(.slot 8,.int .i64)]⟩)]:LS)
def q8l (Qz:Jm):Ev Sg:=(E0.with 19 (q0n Qz))
theorem z7x (Qz:Jm) (l:List (Seg)) (s:Subj) (key:ByteArray) (K:Bool->Prop):q3a Qz l s key K=fnV ((q8l Qz).pl j0p) 4 21 ([.sl C.seg,.el C.subj,.v]:LP) ([.v]:LP) ([.sl C.seg,.el C.subj,.str]:LV) ([.bool]:LV) ([.same,.same,.same]:LV) (l,s,key,()) (fun r _=>K r.1):=by kernel_rfl
theorem q9m:Qn Proofs.Tryz.prog D 21 (q3m Jf):=Ql (E:=q8l Zz) (Qe h_E0 q1u q4r) fun a K=>z7x Zz a.1 a.2.1 a.2.2.1 (fun q0=>K (q0,()) ((),(),(),()))
theorem w39:Ent Proofs.Tryz.prog 8:=Qh (by kernel_rfl) (by kernel_rfl) (by kernel_rfl)
def j3h (X:q6o):Con Sg:=conV ([]:LP) ([]:LV) ([.bool]:LV) ([]:LV) (fun _ K=>X (fun q0=>K (q0,()) ()))
def w6t:PT:=Qi ([]:LS)
def z83 (Za:Wu) (Qz:Jm):Ev Sg:=((E0.with 21 (q3m Za)).with 19 (q0n Qz))
theorem w4a (Za:Wu) (Qz:Jm) (K:Bool->Prop):z2d Za Qz K=fnV ((z83 Za Qz).pl w6t) 4 8 ([]:LP) ([.v]:LP) ([]:LV) ([.bool]:LV) ([]:LV) () (fun r _=>K r.1):=by kernel_rfl
theorem v1q:Qn Proofs.Tryz.prog D 8 (j3h q0j):=Ql (E:=z83 Jf Zz) (Qe (Qe h_E0 q58 q9m) q1u q4r) fun _ K=>w4a Jf Zz (fun q0=>K (q0,()) ())
theorem y9k:Ent Proofs.Tryz.prog 9:=Qh (by kernel_rfl) (by kernel_rfl) (by kernel_rfl)
def y9l (X:v0a):Con Sg:=conV ([.sl C.u8,.v]:LP) ([.sl C.u8,.int .i64]:LV) ([.ptr 71 [.sl C.u8,.int .i64]]:LV) ([.same,.same]:LV) (fun a K=>X a.1 a.2.1 (fun q0 q1=>K ((q0,q1,()),()) ((),(),())))
def u2g:PT:=Qi ([(6,⟨[1,4],[],[],[(.slot 0,.sl C.u8)]⟩)]:LS)
def y2x:Ev Sg:=E0
theorem y9m (list_:List (Int)) (most:Int) (K:List (Int)->Int->Prop):z9y list_ most K=fnV ((y2x).pl u2g) 4 9 ([.sl C.u8,.v]:LP) ([.ptr 71 [.c,.v]]:LP) ([.sl C.u8,.int .i64]:LV) ([.ptr 71 [.sl C.u8,.int .i64]]:LV) ([.same,.same]:LV) (list_,most,()) (fun r _=>K r.1.1 r.1.2.1):=by kernel_rfl
theorem u5p:Qn Proofs.Tryz.prog D 9 (y9l z9y):=Ql (E:=y2x) h_E0 fun a K=>y9m a.1 a.2.1 (fun q0 q1=>K ((q0,q1,()),()) ((),(),()))
theorem v1r:Ent Proofs.Tryz.prog 46:=Qh (by kernel_rfl) (by kernel_rfl) (by kernel_rfl)
def w4b (X:z2e):Con Sg:=conV ([.ptr 71 [.c,.v],.v]:LP) ([.ptr 71 [.sl C.u8,.int .i64],.str]:LV) ([.el C.ctx]:LV) ([.ptr 71 [.same,.int .i64],.same]:LV) (fun a K=>X a.1.1 a.1.2.1 a.2.1 (fun q0 q1=>K (q0,()) (((),q1,()),(),())))
def v6c:PT:=Qi ([(9,⟨[0,1,4,5,6,8,9,10,11,12],[4,1],[(2,(63,3)),(0,(71,2))],[(.slot 7,.int .i64),(.cell 2 2,.own 157 C.attr),(.cell 0 1,.int .i64)]⟩)]:LS)
def j7h (q4v:z9l) (Q3:Wj) (Qa:Zf) (Ja:q02):Ev Sg:=((((E0.with 52 (v81 q4v)).with 37 (q5o Q3)).with 10 (H7 Qa)).with 53 (j1w Ja))
theorem v1s (q4v:z9l) (Q3:Wj) (Qa:Zf) (Ja:q02) (list:List (Int)) (at_:Int) (kind:ByteArray) (K:Ctxt->Int->Prop):z9z q4v Q3 Qa Ja list at_ kind K=fnV ((j7h q4v Q3 Qa Ja).pl v6c) 4 46 ([.ptr 71 [.c,.v],.v]:LP) ([.el C.ctx]:LP) ([.ptr 71 [.sl C.u8,.int .i64],.str]:LV) ([.el C.ctx]:LV) ([.ptr 71 [.same,.int .i64],.same]:LV) ((list,at_,()),kind,()) (fun r o=>K r.1 o.1.2.1):=by kernel_rfl
theorem y0j:Qn Proofs.Tryz.prog D 46 (w4b q1s):=Ql (E:=j7h z1s Jg Zc U5) (Qe (Qe (Qe (Qe h_E0 v4e y85) q5f q87) Vk Be) z93 w1e) fun a K=>v1s z1s Jg Zc U5 a.1.1 a.1.2.1 a.2.1 (fun q0 q1=>K (q0,()) (((),q1,()),(),()))
theorem v1t:Ent Proofs.Tryz.prog 18:=Qh (by kernel_rfl) (by kernel_rfl) (by kernel_rfl)
def w4c (X:z2f):Con Sg:=conV ([.ptr 71 [.c,.v]]:LP) ([.ptr 71 [.sl C.u8,.int .i64]]:LV) ([.el C.subj]:LV) ([.ptr 71 [.same,.int .i64]]:LV) (fun a K=>X a.1.1 a.1.2.1 (fun q0 q1=>K (q0,()) (((),q1,()),())))
def v6d:PT:=Qi ([(10,⟨[0,2,3,4,5,6],[1],[(0,(71,2)),(2,(44,1))],[(.cell 0 1,.int .i64),(.cell 2 0,.own 63 C.ctx)]⟩)]:LS)
def j7i (Qa:Zf) (Rf:z2e):Ev Sg:=((E0.with 10 (H7 Qa)).with 46 (w4b Rf))
theorem v1u (Qa:Zf) (Rf:z2e) (list:List (Int)) (at_:Int) (K:Subj->Int->Prop):z90 Qa Rf list at_ K=fnV ((j7i Qa Rf).pl v6d) 4 18 ([.ptr 71 [.c,.v]]:LP) ([.el C.subj]:LP) ([.ptr 71 [.sl C.u8,.int .i64]]:LV) ([.el C.subj]:LV) ([.ptr 71 [.same,.int .i64]]:LV) ((list,at_,()),()) (fun r o=>K r.1 o.1.2.1):=by kernel_rfl
theorem y0k:Qn Proofs.Tryz.prog D 18 (w4c q4c):=Ql (E:=j7i Zc q1s) (Qe (Qe h_E0 Vk Be) v1r y0j) fun a K=>v1u Zc q1s a.1.1 a.1.2.1 (fun q0 q1=>K (q0,()) (((),q1,()),()))
theorem w4d:Ent Proofs.Tryz.prog 78:=Qh (by kernel_rfl) (by kernel_rfl) (by kernel_rfl)
def w4e (X:q75):Con Sg:=conV ([.el C.subj,.v]:LP) ([.el C.subj,.str]:LV) ([.el C.ctx,.bool]:LV) ([.same,.same]:LV) (fun a K=>X a.1 a.2.1 (fun q0 q1=>K (q0,q1,()) ((),(),())))
def y5n:PT:=Qi ([(5,⟨[0,1,2,4],[0],[(1,(63,3))],[(.slot 6,.int .i64),(.cell 1 0,.str),(.cell 1 1,.str),(.cell 1 2,.sl C.attr)]⟩)]:LS)
def w8v:Ev Sg:=E0
theorem y0l (s:Subj) (kind:ByteArray) (K:Ctxt->Bool->Prop):q06 s kind K=fnV ((w8v).pl y5n) 4 78 ([.el C.subj,.v]:LP) ([.el C.ctx,.v]:LP) ([.el C.subj,.str]:LV) ([.el C.ctx,.bool]:LV) ([.same,.same]:LV) (s,kind,()) (fun r _=>K r.1 r.2.1):=by kernel_rfl
theorem v6e:Qn Proofs.Tryz.prog D 78 (w4e q06):=Ql (E:=w8v) h_E0 fun a K=>y0l a.1 a.2.1 (fun q0 q1=>K (q0,q1,()) ((),(),()))
theorem v1v:Ent Proofs.Tryz.prog 80:=Qh (by kernel_rfl) (by kernel_rfl) (by kernel_rfl)
def w4f (X:z2g):Con Sg:=conV ([.el C.subj,.v,.v]:LP) ([.el C.subj,.str,.str]:LV) ([.el C.val,.bool]:LV) ([.same,.same,.same]:LV) (fun a K=>X a.1 a.2.1 a.2.2.1 (fun q0 q1=>K (q0,q1,()) ((),(),(),())))
def v6f:PT:=Qi ([(15,⟨[0,1,2,3,6,8,9,11,12,13,14,15,16,17,18,20,21],[2,0],[(1,(112,4))],[(.slot 10,.int .i64),(.cell 1 0,.int .i64),(.cell 1 1,.int .i64),(.cell 1 2,.str),(.cell 1 3,.sl C.str)]⟩)]:LS)
def j7j (Hj:q75):Ev Sg:=(E0.with 78 (w4e Hj))
theorem v1w (Hj:q75) (s:Subj) (kind:ByteArray) (name:ByteArray) (K:Val->Bool->Prop):z91 Hj s kind name K=fnV ((j7j Hj).pl v6f) 4 80 ([.el C.subj,.v,.v]:LP) ([.el C.val,.v]:LP) ([.el C.subj,.str,.str]:LV) ([.el C.val,.bool]:LV) ([.same,.same,.same]:LV) (s,kind,name,()) (fun r _=>K r.1 r.2.1):=by kernel_rfl
theorem y0m:Qn Proofs.Tryz.prog D 80 (w4f q4d):=Ql (E:=j7j q06) (Qe h_E0 w4d v6e) fun a K=>v1w q06 a.1 a.2.1 a.2.2.1 (fun q0 q1=>K (q0,q1,()) ((),(),(),()))
theorem z84:Ent Proofs.Tryz.prog 83:=Qh (by kernel_rfl) (by kernel_rfl) (by kernel_rfl)
def z6b (X:Bu):Con Sg:=conV ([.v,.v,.v]:LP) ([.str,.str,.int .i64]:LV) ([.bool]:LV) ([.same,.same,.same]:LV) (fun a K=>X a.1 a.2.1 a.2.2.1 (fun q0=>K (q0,()) ((),(),(),())))
def v1x:PT:=Qi ([]:LS)
def j3i:Ev Sg:=E0
theorem w6u (s:ByteArray) (t:ByteArray) (i:Int) (K:Bool->Prop):V1 s t i K=fnV ((j3i).pl v1x) 4 83 ([.v,.v,.v]:LP) ([.v]:LP) ([.str,.str,.int .i64]:LV) ([.bool]:LV) ([.same,.same,.same]:LV) (s,t,i,()) (fun r _=>K r.1):=by kernel_rfl
theorem j7k:Qn Proofs.Tryz.prog D 83 (z6b V1):=Ql (E:=j3i) h_E0 fun a K=>w6u a.1 a.2.1 a.2.2.1 (fun q0=>K (q0,()) ((),(),(),()))
theorem j84:Ent Proofs.Tryz.prog 84:=Qh (by kernel_rfl) (by kernel_rfl) (by kernel_rfl)
def z86 (X:q5e):Con Sg:=conV ([.el C.val,.el C.val]:LP) ([.el C.val,.el C.val]:LV) ([.bool]:LV) ([.same,.same]:LV) (fun a K=>X a.1 a.2.1 (fun q0=>K (q0,()) ((),(),())))
def w4g:PT:=Qi ([(13,⟨[0,1,2,3,6,7,8,9,10,11],[1,0],[],[(.slot 5,.int .i64)]⟩)]:LS)
def z6c (Qv:Ju) (Wd:Bu):Ev Sg:=((E0.with 22 (q5h Qv)).with 83 (z6b Wd))
theorem j85 (Qv:Ju) (Wd:Bu) (v:Val) (w:Val) (K:Bool->Prop):q9w Qv Wd v w K=fnV ((z6c Qv Wd).pl w4g) 4 84 ([.el C.val,.el C.val]:LP) ([.v]:LP) ([.el C.val,.el C.val]:LV) ([.bool]:LV) ([.same,.same]:LV) (v,w,()) (fun r _=>K r.1):=by kernel_rfl
theorem w6v:Qn Proofs.Tryz.prog D 84 (z86 Rw):=Ql (E:=z6c Je V1) (Qe (Qe h_E0 q0m q6t) z84 j7k) fun a K=>j85 Je V1 a.1 a.2.1 (fun q0=>K (q0,()) ((),(),()))
theorem y0n:Ent Proofs.Tryz.prog 127:=Qh (by kernel_rfl) (by kernel_rfl) (by kernel_rfl)
def v6g (X:j1r):Con Sg:=conV ([.v,.v]:LP) ([.bool,.bool]:LV) ([.int .i64]:LV) ([.same,.same]:LV) (fun a K=>X a.1 a.2.1 (fun q0=>K (q0,()) ((),(),())))
def y5o:PT:=Qi ([]:LS)
def w8w:Ev Sg:=E0
theorem y0o (less:Bool) (greater:Bool) (K:Int->Prop):q3b less greater K=fnV ((w8w).pl y5o) 4 127 ([.v,.v]:LP) ([.v]:LP) ([.bool,.bool]:LV) ([.int .i64]:LV) ([.same,.same]:LV) (less,greater,()) (fun r _=>K r.1):=by kernel_rfl
theorem y9n:Qn Proofs.Tryz.prog D 127 (v6g q3b):=Ql (E:=w8w) h_E0 fun a K=>y0o a.1 a.2.1 (fun q0=>K (q0,()) ((),(),()))
end Go.En
end
noncomputable section
set_option maxRecDepth 100000
open Go Go.RowKit Go.Fl Go.Fl.Lk Go.Fx
namespace Go.En
theorem w6w:Ent Proofs.Tryz.prog 85:=Qh (by kernel_rfl) (by kernel_rfl) (by kernel_rfl)
def j7l (X:q85):Con Sg:=conV ([.el C.val,.el C.val]:LP) ([.el C.val,.el C.val]:LV) ([.int .i64,.int .i64]:LV) ([.same,.same]:LV) (fun a K=>X a.1 a.2.1 (fun q0 q1=>K (q0,q1,()) ((),(),())))
def v1y:PT:=Qi ([(35,⟨[0,1,2,3,6,7,8,9,10,11,13,14,15,16,18,19,20,21,23,24,25,26,27,28,29,30,31,32,33,34,35,36,37,38,39,40,41,53,54,66,67,68,69,70,71,72,73,74,75,76,77],[4,2,1,0],[],[(.slot 12,.int .i64)]⟩)]:LS)
def j3j (Zu:Rq) (Qf:j1r) (Vl:q32):Ev Sg:=(((E0.with 126 (z7h Zu)).with 127 (v6g Qf)).with 128 (j5d Vl))
theorem w6x (Zu:Rq) (Qf:j1r) (Vl:q32) (a:Val) (b:Val) (K:Int->Int->Prop):z4x Zu Qf Vl a b K=fnV ((j3j Zu Qf Vl).pl v1y) 4 85 ([.el C.val,.el C.val]:LP) ([.v,.v]:LP) ([.el C.val,.el C.val]:LV) ([.int .i64,.int .i64]:LV) ([.same,.same]:LV) (a,b,()) (fun r _=>K r.1 r.2.1):=by kernel_rfl
theorem v6h:Qn Proofs.Tryz.prog D 85 (j7l Bv):=Ql (E:=j3j Vg q3b Gu) (Qe (Qe (Qe h_E0 z5f j5e) y0n y9n) j60 w8c) fun a K=>w6x Vg q3b Gu a.1 a.2.1 (fun q0 q1=>K (q0,q1,()) ((),(),()))
theorem v6i:Ent Proofs.Tryz.prog 51:=Qh (by kernel_rfl) (by kernel_rfl) (by kernel_rfl)
def w8x (X:z7d):Con Sg:=conV ([.el C.subj,.el C.ex]:LP) ([.el C.subj,.el C.ex]:LV) ([.bool]:LV) ([.same,.same]:LV) (fun a K=>X a.1 a.2.1 (fun q0=>K (q0,()) ((),(),())))
def y0p:PT:=Qi ([(17,⟨[0,1,2,3,5,6,12,13,14,15,16,17,18,19,20,21,22,23,24,25,26,27,28,29,30,31,32,33,34],[2,1,0],[],[(.slot 7,.int .i64)]⟩)]:LS)
def w4h (q42:z2g) (Qw:Wa) (W6:q3u) (Wd:Bu) (Gh:q5e) (B0:q85):Ev Sg:=((((((E0.with 80 (w4f q42)).with 81 (q4j Qw)).with 82 (j4z W6)).with 83 (z6b Wd)).with 84 (z86 Gh)).with 85 (j7l B0))
theorem v6j (q42:z2g) (Qw:Wa) (W6:q3u) (Wd:Bu) (Gh:q5e) (B0:q85) (s:Subj) (e:Ex) (K:Bool->Prop):j4r q42 Qw W6 Wd Gh B0 s e K=fnV ((w4h q42 Qw W6 Wd Gh B0).pl y0p) 4 51 ([.el C.subj,.el C.ex]:LP) ([.v]:LP) ([.el C.subj,.el C.ex]:LV) ([.bool]:LV) ([.same,.same]:LV) (s,e,()) (fun r _=>K r.1):=by kernel_rfl
theorem y5p:Qn Proofs.Tryz.prog D 51 (w8x q62):=Ql (E:=w4h q4d Z8 Rl V1 Rw Bv) (Qe (Qe (Qe (Qe (Qe (Qe h_E0 v1v y0m) q3c q76) j6q w74) z84 j7k) j84 w6v) w6w v6h) fun a K=>v6j q4d Z8 Rl V1 Rw Bv a.1 a.2.1 (fun q0=>K (q0,()) ((),(),()))
theorem j7m:Ent Proofs.Tryz.prog 24:=Qh (by kernel_rfl) (by kernel_rfl) (by kernel_rfl)
def j55 (X:q4e):Con Sg:=conV ([.el C.subj,.sl C.str,.el C.ex]:LP) ([.el C.subj,.sl C.str,.el C.ex]:LV) ([.bool]:LV) ([.same,.same,.same]:LV) (fun a K=>X a.1 a.2.1 a.2.2.1 (fun q0=>K (q0,()) ((),(),(),())))
def w4i:PT:=Qi ([(13,⟨[0,1,2,3,5,9,10,11,12,13,14],[1,0],[],[(.slot 7,.int .i64)]⟩),(27,⟨[0,1,2,3,5,9,10,11,12,13,14,31,32],[1,0],[],[(.slot 8,.int .i64)]⟩)]:LS)
def w4j (Qv:Ju) (q7e:z7d):Ev Sg:=((E0.with 22 (q5h Qv)).with 51 (w8x q7e))
theorem v6k (Qv:Ju) (q7e:z7d) (X:q4e) (s:Subj) (in_:List (ByteArray)) (e:Ex) (K:Bool->Prop):j4s Qv q7e X s in_ e K=fnV (((w4j Qv q7e).with 24 (j55 X)).pl w4i) 4 24 ([.el C.subj,.sl C.str,.el C.ex]:LP) ([.v]:LP) ([.el C.subj,.sl C.str,.el C.ex]:LV) ([.bool]:LV) ([.same,.same,.same]:LV) (s,in_,e,()) (fun r _=>K r.1):=by kernel_rfl
theorem y5q:Qn Proofs.Tryz.prog D 24 (j55 q63):=by
 show Qn _ _ _ (conV ([.el C.subj,.sl C.str,.el C.ex]:LP) ([.el C.subj,.sl C.str,.el C.ex]:LV) ([.bool]:LV) ([.same,.same,.same]:LV) fun a K=>q63 a.1 a.2.1 a.2.2.1 (fun q0=>K (q0,()) ((),(),(),())))
 refine z0g (E:=w4j Je q62) (fuel:=4) (rk:=[.v]) (p:=w4i) (Qe (Qe h_E0 q0m q6t) v6i y5p) j7m fun a K h X hX=> ?_
 exact h (fun s in_ e K=>X (s,in_,e,()) fun r _=>K r.1) (fun s in_ e K hs=>hX (s,in_,e,()) (fun r _=>K r.1) (Eq.mp (v6k Je q62 (fun s in_ e K=>X (s,in_,e,()) fun r _=>K r.1) s in_ e K) hs))
theorem v6l:Ent Proofs.Tryz.prog 67:=Qh (by kernel_rfl) (by kernel_rfl) (by kernel_rfl)
def w8y (X:z7e):Con Sg:=conV ([.sl C.str,.sl C.edge,.v]:LP) ([.sl C.str,.sl C.edge,.str]:LV) ([.bool]:LV) ([.same,.same,.same]:LV) (fun a K=>X a.1 a.2.1 a.2.2.1 (fun q0=>K (q0,()) ((),(),(),())))
def y0q:PT:=Qi ([(5,⟨[0,1,2],[],[],[(.slot 7,.int .i64)]⟩)]:LS)
def w4k (Qv:Ju):Ev Sg:=(E0.with 22 (q5h Qv))
theorem v6m (Qv:Ju) (order:List (ByteArray)) (edges:List (Edg)) (node:ByteArray) (K:Bool->Prop):j4t Qv order edges node K=fnV ((w4k Qv).pl y0q) 4 67 ([.sl C.str,.sl C.edge,.v]:LP) ([.v]:LP) ([.sl C.str,.sl C.edge,.str]:LV) ([.bool]:LV) ([.same,.same,.same]:LV) (order,edges,node,()) (fun r _=>K r.1):=by kernel_rfl
theorem y5r:Qn Proofs.Tryz.prog D 67 (w8y q64):=Ql (E:=w4k Je) (Qe h_E0 q0m q6t) fun a K=>v6m Je a.1 a.2.1 a.2.2.1 (fun q0=>K (q0,()) ((),(),(),()))
theorem v6n:Ent Proofs.Tryz.prog 34:=Qh (by kernel_rfl) (by kernel_rfl) (by kernel_rfl)
def w8z (X:z7f):Con Sg:=conV ([.sl C.str,.sl C.edge]:LP) ([.sl C.str,.sl C.edge]:LV) ([.vec 9 C.str,.int .i64]:LV) ([.same,.same]:LV) (fun a K=>X a.1 a.2.1 (fun q0 q1=>K (q0,q1,()) ((),(),())))
def y0r:PT:=Qi ([(5,⟨[0,1],[],[],[(.slot 6,.int .i64)]⟩),(15,⟨[0,1,6,12,13,14,15],[],[],[(.slot 7,.int .i64)]⟩),(25,⟨[0,1,6,7,12,13,14,15,26,27,28,29],[],[],[(.slot 8,.own 9 C.str)]⟩),(31,⟨[0,1,6,7,8,12,13,14,15,26,27,28,29,50,51,52,53,54],[],[],[(.slot 9,.str),(.slot 10,.bool),(.slot 11,.int .i64),(.obj 2,.own 9 C.str)]⟩)]:LS)
def w4l (Qv:Ju) (q7f:z7e):Ev Sg:=((E0.with 22 (q5h Qv)).with 67 (w8y q7f))
theorem v6o (Qv:Ju) (q7f:z7e) (nodes:List (ByteArray)) (edges:List (Edg)) (K:List (ByteArray)->Int->Prop):j4u Qv q7f nodes edges K=fnV ((w4l Qv q7f).pl y0r) 4 34 ([.sl C.str,.sl C.edge]:LP) ([.own 9 C.str,.v]:LP) ([.sl C.str,.sl C.edge]:LV) ([.vec 9 C.str,.int .i64]:LV) ([.same,.same]:LV) (nodes,edges,()) (fun r _=>K r.1 r.2.1):=by kernel_rfl
theorem y5s:Qn Proofs.Tryz.prog D 34 (w8z q65):=Ql (E:=w4l Je q64) (Qe (Qe h_E0 q0m q6t) v6l y5r) fun a K=>v6o Je q64 a.1 a.2.1 (fun q0 q1=>K (q0,q1,()) ((),(),()))
theorem v1z:Ent Proofs.Tryz.prog 16:=Qh (by kernel_rfl) (by kernel_rfl) (by kernel_rfl)
def w4m (X:z2h):Con Sg:=conV ([.sl C.seg]:LP) ([.sl C.seg]:LV) ([.vec 9 C.str,.int .i64]:LV) ([.same]:LV) (fun a K=>X a.1 (fun q0 q1=>K (q0,q1,()) ((),())))
def v6p:PT:=Qi ([]:LS)
def j7n (Zq:V4) (W8:q1l) (q7g:z7f):Ev Sg:=(((E0.with 35 (z0y Zq)).with 36 (j0d W8)).with 34 (w8z q7g))
theorem v10 (Zq:V4) (W8:q1l) (q7g:z7f) (l:List (Seg)) (K:List (ByteArray)->Int->Prop):z92 Zq W8 q7g l K=fnV ((j7n Zq W8 q7g).pl v6p) 4 16 ([.sl C.seg]:LP) ([.own 9 C.str,.v]:LP) ([.sl C.seg]:LV) ([.vec 9 C.str,.int .i64]:LV) ([.same]:LV) (l,()) (fun r _=>K r.1 r.2.1):=by kernel_rfl
theorem y0s:Qn Proofs.Tryz.prog D 16 (w4m q4f):=Ql (E:=j7n W0 Uj q65) (Qe (Qe (Qe h_E0 q9f z7i) j2s w3g) v6n y5s) fun a K=>v10 W0 Uj q65 a.1 (fun q0 q1=>K (q0,q1,()) ((),()))
theorem w6y:Ent Proofs.Tryz.prog 48:=Qh (by kernel_rfl) (by kernel_rfl) (by kernel_rfl)
def j7o (X:q86):Con Sg:=conV ([.el C.seg,.el C.subj,.sl C.str]:LP) ([.el C.seg,.el C.subj,.sl C.str]:LV) ([.bool]:LV) ([.same,.same,.same]:LV) (fun a K=>X a.1 a.2.1 a.2.2.1 (fun q0=>K (q0,()) ((),(),(),())))
def v11:PT:=Qi ([]:LS)
def j3k (Hj:q75) (Qv:Ju) (q7h:q4e):Ev Sg:=(((E0.with 78 (w4e Hj)).with 22 (q5h Qv)).with 24 (j55 q7h))
theorem w6z (Hj:q75) (Qv:Ju) (q7h:q4e) (g:Seg) (s:Subj) (in_:List (ByteArray)) (K:Bool->Prop):z4y Hj Qv q7h g s in_ K=fnV ((j3k Hj Qv q7h).pl v11) 4 48 ([.el C.seg,.el C.subj,.sl C.str]:LP) ([.v]:LP) ([.el C.seg,.el C.subj,.sl C.str]:LV) ([.bool]:LV) ([.same,.same,.same]:LV) (g,s,in_,()) (fun r _=>K r.1):=by kernel_rfl
theorem v6q:Qn Proofs.Tryz.prog D 48 (j7o q18):=Ql (E:=j3k q06 Je q63) (Qe (Qe (Qe h_E0 w4d v6e) q0m q6t) j7m y5q) fun a K=>w6z q06 Je q63 a.1 a.2.1 a.2.2.1 (fun q0=>K (q0,()) ((),(),(),()))
theorem w4n:Ent Proofs.Tryz.prog 20:=Qh (by kernel_rfl) (by kernel_rfl) (by kernel_rfl)
def j3l (X:q6p):Con Sg:=conV ([.sl C.seg,.el C.subj]:LP) ([.sl C.seg,.el C.subj]:LV) ([.sl C.str]:LV) ([.same,.same]:LV) (fun a K=>X a.1 a.2.1 (fun q0=>K (q0,()) ((),(),())))
def w60:PT:=Qi ([(9,⟨[0,1,3,4,5,6,10,11,12,13,14],[1,0],[],[(.slot 7,.sl C.str),(.slot 8,.int .i64)]⟩),(15,⟨[0,1,3,4,6,8,10,11,12,14,15,17,18],[],[],[(.slot 7,.sl C.str),(.slot 9,.int .i64)]⟩)]:LS)
def z87 (q43:z2h) (q2m:q86) (J4:q0d):Ev Sg:=(((E0.with 16 (w4m q43)).with 48 (j7o q2m)).with 49 (j2o J4))
theorem w4o (q43:z2h) (q2m:q86) (J4:q0d) (l:List (Seg)) (s:Subj) (K:List (ByteArray)->Prop):z2i q43 q2m J4 l s K=fnV ((z87 q43 q2m J4).pl w60) 4 20 ([.sl C.seg,.el C.subj]:LP) ([.sl C.str]:LP) ([.sl C.seg,.el C.subj]:LV) ([.sl C.str]:LV) ([.same,.same]:LV) (l,s,()) (fun r _=>K r.1):=by kernel_rfl
theorem v18:Qn Proofs.Tryz.prog D 20 (j3l q0k):=Ql (E:=z87 q4f q18 Gi) (Qe (Qe (Qe h_E0 v1z y0s) w6y v6q) z7j j91) fun a K=>w4o q4f q18 Gi a.1 a.2.1 (fun q0=>K (q0,()) ((),(),()))
def R7 (X:z36):Con Sg:=conV ([.sl C.u8,.sl C.u8,.el C.subj,.v]:LP) ([.sl C.u8,.sl C.u8,.el C.subj,.str]:LV) ([.bool]:LV) ([.same,.same,.same,.same]:LV) (fun a K=>X a.1 a.2.1 a.2.2.1 a.2.2.2.1 (fun q0=>K (q0,()) ((),(),(),(),())))
def z2w:PT:=Qi ([(17,⟨[0,1,2,3,6,9,10,16,17,18,19,20,21,22,23,24,25,26,27,28,29,30,31],[5,4,2,1,0],[],[(.slot 32,.int .i64),(.obj 7,.own 44 C.subj)]⟩),(29,⟨[0,1,2,3,6,9,10,12,13,16,17,18,19,20,21,22,23,24,25,26,27,28,29,30,31,32,33,34,35,36,37,38,39,40,41,42,43,44,45,46],[10],[],[(.slot 14,.int .i64),(.obj 12,.own 9 C.str),(.obj 7,.own 44 C.subj)]⟩)]:LS)
def q3n (q0w:q6o) (j0y:v0a) (Hk:q23) (q44:z2f) (Qz:Jm) (q0x:q6p) (G8:q7q) (Za:Wu) (Qv:Ju):Ev Sg:=(((((((((E0.with 8 (j3h q0w)).with 9 (y9l j0y)).with 17 (z5p Hk)).with 18 (w4c q44)).with 19 (q0n Qz)).with 20 (j3l q0x)).with 12 (w1j G8)).with 21 (q3m Za)).with 22 (q5h Qv))
theorem z07 (q0w:q6o) (j0y:v0a) (Hk:q23) (q44:z2f) (Qz:Jm) (q0x:q6p) (G8:q7q) (Za:Wu) (Qv:Ju) (codes:List (Int)) (who:List (Int)) (s:Subj) (key:ByteArray) (K:Bool->Prop):R5 q0w j0y Hk q44 Qz q0x G8 Za Qv codes who s key K=fnV ((q3n q0w j0y Hk q44 Qz q0x G8 Za Qv).pl z2w) 4 4 ([.sl C.u8,.sl C.u8,.el C.subj,.v]:LP) ([.v]:LP) ([.sl C.u8,.sl C.u8,.el C.subj,.str]:LV) ([.bool]:LV) ([.same,.same,.same,.same]:LV) (codes,who,s,key,()) (fun r _=>K r.1):=by kernel_rfl
theorem z4a:Qn Proofs.Tryz.prog D 4 (R7 Jo):=Ql (E:=q3n q0j z9y Gz q4c Zz q0k q03 Jf Je) (Qe (Qe (Qe (Qe (Qe (Qe (Qe (Qe (Qe h_E0 w39 v1q) y9k u5p) j5s w3p) v1t y0k) q1u q4r) w4n v18) w1i v4n) q58 q9m) q0m q6t) fun a K=>z07 q0j z9y Gz q4c Zz q0k q03 Jf Je a.1 a.2.1 a.2.2.1 a.2.2.2.1 (fun q0=>K (q0,()) ((),(),(),(),()))
end Go.En
end
