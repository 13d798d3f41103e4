/- AssignOnce: for every input the law returns true and leaves its arguments as they were. This is part 5 of 7. Conditions: those in the statements. -/
import Derived.Test.YtfiomedjdipbgaaGreatDoorAO4
import Derived.KernelRfl
import Derived.Conc.MuLone
noncomputable section
set_option maxRecDepth 100000
namespace Go.Proofs.YtfiomedjdipbgaaGreatDoor
open Go Go.Proofs Go.RowKit Go.Fl
set_option maxHeartbeats 2000000 in
theorem q5p {σ:Hv} {w:World} (s_p:(List ByteArray)) (v1:Value) {K:(List ByteArray)->Prop} (hV:View σ w) (hr1:RSl 1 (REnc Qp) σ v1 s_p) (hP:Z7 s_p K):
    Calls Tryz.prog 187 #[v1] w (fun e w1=> ∃(r1:(List ByteArray)) (v2:Value),e= .returned v2/\St ⟨w,σ,[]⟩ w1 σ [vec v2 9 1 r1.length ((r1).flatMap Qp)]/\Sml r1.length/\K r1):=by
 unfold Z7 at hP
 obtain ⟨a1,cap1,rfl⟩:=hr1.shape
 refine enter Tryz.func187 rfl rfl rfl ?_
 have hS:=St.start hV
 refine Q8 (Q9 (v:=(.slice none 0 0)) rfl (wpList_nil (Q3 (wp_seq (Q8 (Zw (v:=(.slice a1 s_p.length cap1)) rfl ?_))))))
 replace hP:=hP a1.isNone (RSl.isNil hr1)
 obtain ⟨r1_,hn1⟩: ∃r:Bool,a1.isNone=r:=⟨_,rfl⟩
 rw [hn1] at hP
 refine u38 Tryz.underlying44 rfl hn1 (wpList_nil (Q3 ?_))
 refine if_b rfl (fun ht1=> ?_) (fun ht1=> ?_)
 ·
  replace hP:=hP.1 ht1
  refine Q8 (Q9 (v:=(.slice none 0 0)) rfl (wpList_nil (Q3 (wp_ret (q1x (ret1 rfl (show ev _ _ _=(.slice none 0 0) from rfl) ?_))))))
  have hS1:=hS.addNil 9 1
  exact ⟨[],(.slice none 0 0),rfl,(St.back hS1 (Sub.refl _)),(by simp [Sml]),hP⟩
 ·
  replace hP:=hP.2 (by first|(rw [ht1];exact Bool.false_ne_true)|simp [ht1])
  refine wp_skip (Q3 (Q8 (w0e (cs:=[]) (e:=9) hS (fun _=>by kernel_rfl) ?_)))
  intro b1 w1 hS2
  refine Zw (v:=(.slice a1 s_p.length cap1)) rfl ?_
  have hS3:=hS2.asVec (i:=0) (ms':=[vec (.slice (some ⟨b1,0,none⟩) 0 0) 9 1 0 []]) (size:=1) rfl rfl (by unfold maxLen;omega) rfl
  obtain ⟨hsm1,hP⟩:=hP
  refine qa06 (enc:=Qp) (l:=s_p) (Ms:=fun v3=>[vec v3 9 1 s_p.length ((s_p).flatMap Qp)]) (k':=s_p.length) (xs':=(s_p).flatMap Qp) Tryz.underlying44 Tryz.type9 rfl rfl (bytes:=16) rfl rfl (Nat.succ_pos _) hS3 rfl (q:=0) rfl rfl hr1 hS3.view q6m y8g hsm1 (by omega) (by first|rfl|exact List.length_append.symm|simp) (List.nil_append _) (fun _=>rfl) ?_
  intro v3 w2 ho1 hS4
  refine Q9 (v:=v3) rfl (wpList_nil (Q3 (wp_ret (ret1 rfl (show ev _ _ _=v3 from rfl) ?_))))
  exact ⟨s_p,v3,rfl,(St.back hS4 (Sub.refl _)),hsm1,hP⟩
set_option maxHeartbeats 2000000 in
theorem q5q {σ:Hv} {w:World} (s_p:(List ByteArray)) (v_p:ByteArray) (v1:Value) {K:Int->Prop} (hV:View σ w) (hr1:RSl 1 (REnc Qp) σ v1 s_p) (hP:Z8 s_p v_p K):
    Calls Tryz.prog 128 #[v1,(.string v_p)] w (fun e w1=> ∃(r1:Int),e= .returned (.int .i64 r1)/\Grow [] σ w σ w1/\K r1):=by
 unfold Z8 at hP
 obtain ⟨a1,cap1,rfl⟩:=hr1.shape
 refine enter Tryz.func128 rfl rfl rfl ?_
 have hS:=St.start hV
 refine Q8 (Q9 (v:=(.int .i64 (0:Int))) rfl (wpList_nil (Q3 (wp_seq (Q8 (Zw (v:=(.slice a1 s_p.length cap1)) rfl (z25 rfl Tryz.underlying44 ?_)))))))
 have hlen1:=RSl.len63 hr1
 replace hP:=hP hlen1
 refine Zw (v:=(.int .i64 (0:Int))) rfl (wpList_nil (Q3 (wp_block ?_)))
 refine w9s (fun k_2 f z=> ∃(σ1:Hv) (g:Fr),f=(upd (upd (upd (upd g 0 (.slice a1 s_p.length cap1)) 1 (.string v_p)) 7 (.int .i64 ((s_p.length:Nat):Int))) 8 (.int .i64 ((k_2:Nat):Int)))/\St ⟨w,σ,[]⟩ z σ1 []/\Sub σ σ1) hP ⟨σ,_,(Jm rfl (Jm rfl (Jm rfl (Jm rfl rfl)))),hS,(Sub.refl _)⟩ ?_
 clear hP
 rintro k_2 Y1 hP f w1 ⟨σ1,g,rfl,hS1,hsub1⟩
 refine Q8 (y75 (r:=(decide (((k_2:Nat):Int)<((s_p.length:Nat):Int)))) rfl rfl rfl (wpList_nil (Q3 (wp_seq ?_))))
 refine if_d (((k_2:Nat):Int)<((s_p.length:Nat):Int)) rfl (fun ht1=> ?_) (fun ht1=> ?_)
 ·
  replace hP:=hP.1 ht1
  refine wp_skip (Q3 (wp_seq (wp_block (Q8 (Zw (v:=(.int .i64 ((k_2:Nat):Int))) rfl (Q9 (v:=(.int .i64 ((k_2:Nat):Int))) rfl (wpList_nil (Q3 (Q8 (Zw (v:=(.string v_p)) rfl (Zw (v:=(.slice a1 s_p.length cap1)) rfl (Zw (v:=(.int .i64 ((k_2:Nat):Int))) rfl ?_))))))))))))
  obtain ⟨x1_,hx1⟩:=getq (l:=s_p) (k:=k_2) (by have:=ht1;omega)
  replace hP:=hP x1_ hx1
  obtain ⟨ad1,cs1,ha1,hl1,hr2,hR1,hlt1⟩:=RSl.at hr1 hx1
  cases hR1
  refine q0w (k:=k_2) (a':=(ad1.add (k_2*1))) (congrArg (fun z=>Value.slice z _ _) ha1) rfl rfl hlt1 Tryz.underlying44 Tryz.sizeOf9 rfl (q8o (v:=(.string x1_)) rfl Tryz.isAgg9 (hr2.cell (View.of hsub1 hS1.view) 0 rfl rfl) (qa0x (r:=(decide (v_p=x1_))) rfl rfl rfl (wpList_nil (Q3 ?_))))
  refine if_d (v_p=x1_) rfl (fun ht2=> ?_) (fun ht2=> ?_)
  ·
   replace hP:=hP.1 ht2
   refine Q8 (Zw (v:=(.int .i64 ((k_2:Nat):Int))) rfl (Q9 (v:=(.int .i64 ((k_2:Nat):Int))) rfl (wpList_nil (Q3 (wp_ret (j8h (q1x (q1x (j8h (q1x (ret1 rfl (show ev _ _ _=(.int .i64 ((k_2:Nat):Int)) from rfl) ?_)))))))))))
   exact ⟨((k_2:Nat):Int),rfl,hS1.done.forget,hP⟩
  ·
   replace hP:=hP.2 ht2
   refine wp_skip (y4m (Q3 (j4u (y4l (r:=((k_2+1:Nat):Int)) rfl rfl (nw (by omega) (by omega) (by have:=hlen1;omega)) (Zw (v:=(.int .i64 ((k_2+1:Nat):Int))) rfl (wpList_nil (Q3 ?_)))))))
   exact ⟨k_2+1,_,rfl,hP,σ1,_,(Jm rfl (Jm rfl (Jm rfl (Jm rfl rfl)))),hS1,hsub1⟩
 ·
  replace hP:=hP.2 ht1
  refine wp_exit (z89 (z89 (w05 (Q3 (Q8 (Q9 (v:=(.int .i64 (-1:Int))) rfl (wpList_nil (Q3 (wp_ret (ret1 rfl (show ev _ _ _=(.int .i64 (-1:Int)) from rfl) ?_))))))))))
  exact ⟨(-1:Int),rfl,hS1.done.forget,hP⟩
set_option maxHeartbeats 2000000 in
theorem U3 {σ:Hv} {w:World} (s_p:(List ByteArray)) (v_p:ByteArray) (v1:Value) {K:Bool->Prop} (hV:View σ w) (hr1:RSl 1 (REnc Qp) σ v1 s_p) (hP:Ze s_p v_p K):
    Calls Tryz.prog 76 #[v1,(.string v_p)] w (fun e w1=> ∃(r1:Bool),e= .returned (.bool (r1))/\Grow [] σ w σ w1/\K r1):=by
 unfold Ze at hP
 obtain ⟨a1,cap1,rfl⟩:=hr1.shape
 refine enter Tryz.func76 rfl rfl rfl ?_
 have hS:=St.start hV
 refine Q8 (Q9 (v:=(.bool false)) rfl (wpList_nil (Q3 (Q8 (Zw (v:=(.slice a1 s_p.length cap1)) rfl (Zw (v:=(.string v_p)) rfl ?_))))))
 obtain ⟨Y1,hK1,hc1⟩:=hP
 refine z0d (args:=[(.slice a1 s_p.length cap1),(.string v_p)]) rfl Tryz.call128 (Calls.mono (q5q s_p v_p (.slice a1 s_p.length cap1) hS.view hr1 hc1) ?_)
 rintro _ w1 ⟨r1_,rfl,hg1,hY1⟩
 refine ⟨_,rfl,?_⟩
 have hS1:=hS.grow hg1
 replace hP:=hK1 r1_ hY1
 refine qa0w (r:=(decide ((0:Int)<=r1_))) rfl rfl rfl (Q9 (v:=(.bool (decide ((0:Int)<=r1_)))) rfl (wpList_nil (Q3 (wp_ret (ret1 rfl (show ev _ _ _=(.bool (decide ((0:Int)<=r1_))) from rfl) ?_)))))
 exact ⟨(decide ((0:Int)<=r1_)),rfl,hS1.done.forget,hP⟩
set_option maxHeartbeats 2000000 in
theorem w_graph_Order {σ:Hv} {w:World} (nodes_p:(List ByteArray)) (edges_p:(List (ByteArray×ByteArray))) (v1:Value) (v2:Value) {K:(List ByteArray)->Int->Prop} (hV:View σ w) (hr1:RSl 1 (REnc Qp) σ v1 nodes_p) (hr2:RSl 2 (REnc qa07) σ v2 edges_p) (hP:P_graph_Order nodes_p edges_p K):
    Calls Tryz.prog 139 #[v1,v2] w (fun e w1=> ∃(r1:(List ByteArray)) (r2:Int) (v3:Value),e= .returned (.tuple #[v3,(.int .i64 r2)])/\St ⟨w,σ,[]⟩ w1 σ [vec v3 9 1 r1.length ((r1).flatMap Qp)]/\Sml r1.length/\K r1 r2):=by
 unfold P_graph_Order at hP
 obtain ⟨a1,cap1,rfl⟩:=hr1.shape
 obtain ⟨a2,cap2,rfl⟩:=hr2.shape
 refine enter Tryz.func139 rfl rfl rfl ?_
 have hS:=St.start hV
 refine Q8 (Q9 (v:=(.slice none 0 0)) rfl (Q9 (v:=(.int .i64 (0:Int))) rfl (wpList_nil (Q3 (Q8 (Zw (v:=(.slice a1 nodes_p.length cap1)) rfl (z0d (args:=[(.slice a1 nodes_p.length cap1)]) rfl Tryz.call186 ?_)))))))
 refine enter Tryz.func186 rfl rfl rfl ?_
 refine Q8 (qa27 (cs:=[(.slice a1 nodes_p.length cap1)]) hS rfl rfl ?_)
 intro b1 w1 hS1
 refine Q9 (v:= .nilFunc) rfl (wpList_nil (Q3 (Q8 (j4v (la:=[]) (lb:=[(.pointer (some ⟨b1,0,none⟩))]) rfl rfl (Q9 (v:=(.func (.func 237) #[] #[(.pointer (some ⟨b1,0,none⟩))])) rfl (wpList_nil (Q3 (wp_ret (ret1 rfl (show ev _ _ _=(.func (.func 237) #[] #[(.pointer (some ⟨b1,0,none⟩))]) from rfl) ?_)))))))))
 refine ⟨_,rfl,?_⟩
 refine z0d (args:=[(.func (.func 237) #[] #[(.pointer (some ⟨b1,0,none⟩))])]) rfl Tryz.call185 ?_
 refine enter Tryz.func185 rfl rfl rfl ?_
 refine Q8 (Q9 (v:=(.slice none 0 0)) rfl (wpList_nil (Q3 (Q8 (Zw (v:=(.func (.func 237) #[] #[(.pointer (some ⟨b1,0,none⟩))])) rfl (z0d (args:=[(.func (.func 237) #[] #[(.pointer (some ⟨b1,0,none⟩))])]) rfl Tryz.call236 ?_))))))
 refine enter Tryz.func236 rfl rfl rfl ?_
 refine Q8 (Q9 (v:=(.slice none 0 0)) rfl (wpList_nil (Q3 (Q8 (Zw (v:=(.func (.func 237) #[] #[(.pointer (some ⟨b1,0,none⟩))])) rfl ?_)))))
 obtain ⟨σ1,hS2,hsub1,hfr1⟩:=hS1.freeze' (i:=0) rfl rfl
 have hB1:σ1 b1=some (.cells #[(.slice a1 nodes_p.length cap1)] 44 (0,0)):=(hfr1 _ rfl).trans (hS1.get (i:=0) rfl)
 obtain ⟨hsm1,hP⟩:=hP
 refine z0d (args:=[(.slice none 0 0),(.func (.func 237) #[] #[(.pointer (some ⟨b1,0,none⟩))])]) rfl Tryz.call274 (Calls.mono (qa3w b1 (.slice a1 nodes_p.length cap1) nodes_p hS2.view hB1 (RSl.menc hsub1 hr1) hsm1) ?_)
 rintro _ w2 ⟨v4,rfl,hg1,ho1⟩
 refine ⟨_,rfl,?_⟩
 have hS3:=hS2.growAdd hg1 (o:=vec v4 9 1 nodes_p.length ((nodes_p).flatMap Qp)) ho1
 refine Q9 (v:=v4) rfl (wpList_nil (Q3 (wp_ret (ret1 rfl (show ev _ _ _=v4 from rfl) ?_))))
 refine ⟨_,rfl,?_⟩
 refine Q9 (v:=v4) rfl (wpList_nil (Q3 (Q8 (Zw (v:=v4) rfl ?_))))
 refine z0d (args:=[v4]) rfl Tryz.call80 (Calls.mono (y2z Tryz.slices_Sort_string Tryz.slices_Sort_string_none hS3.view (hS3.get (i:=0) rfl) rfl (fun b hb=>hS3.off _ (List.mem_of_getElem? (i:=0) rfl) b hb) (by have:=hsm1;unfold Sml at this;omega)) ?_)
 rintro _ w3 ⟨rfl,hg2,ho2⟩
 refine ⟨_,rfl,?_⟩
 have hS4:=hS3.growV (i:=0) (o':=vec v4 9 1 nodes_p.length ((srt nodes_p).flatMap Qp)) rfl hg2 rfl ho2 (ms':=[vec v4 9 1 nodes_p.length ((srt nodes_p).flatMap Qp)]) rfl
 have hS5:=hS4.re (ms':=[vec v4 9 1 ((srt nodes_p).length) ((srt nodes_p).flatMap Qp)]) (by simp only [W9])
 refine wpList_nil (Q3 (Q8 (Zw (v:=v4) rfl (Q9 (v:=v4) rfl (wpList_nil (Q3 (wp_ret (ret1 rfl (show ev _ _ _=v4 from rfl) ?_))))))))
 refine ⟨_,rfl,?_⟩
 refine Q9 (v:=v4) rfl (wpList_nil (Q3 (wp_seq (Q8 (Zw (v:=v4) rfl ?_)))))
 obtain ⟨σ2,hS6,hsub2,hr4⟩:=hS5.peek (i:=0) rfl q6m (show Sml (srt nodes_p).length by rw [W9];exact hsm1)
 obtain ⟨Y1,hK1,hc1⟩:=hP
 refine z0d (args:=[v4]) rfl Tryz.call187 (Calls.mono (q5p (srt nodes_p) v4 hS6.view hr4 hc1) ?_)
 rintro _ w4 ⟨r1_,v5,rfl,hg3,hl1,hY1⟩
 refine ⟨_,rfl,?_⟩
 have hS7:=St.callM (ins:=[]) (rest:=[vec v4 9 1 ((srt nodes_p).length) ((srt nodes_p).flatMap Qp)]) (ms':=[vec v5 9 1 r1_.length ((r1_).flatMap Qp),vec v4 9 1 ((srt nodes_p).length) ((srt nodes_p).flatMap Qp)]) hS5 (St.back hg3 hsub2) rfl
 replace hP:=hK1 r1_ hY1
 obtain ⟨hsm2,hP⟩:=hP
 refine z0d (args:=[v5]) rfl Tryz.call184 (Calls.mono (w1d Tryz.slices_Compact_string Tryz.slices_Compact_string_empty hS7.view (hS7.get (i:=0) rfl) rfl (fun b hb=>hS7.off _ (List.mem_of_getElem? (i:=0) rfl) b hb) (by have:=hl1;unfold Sml at this;omega)) ?_)
 rintro _ w5 ⟨v6,rfl,hf1,hg4,ho3⟩
 refine ⟨_,rfl,?_⟩
 have ho4:=q3l ho3
 have hS8:=hS7.growV (i:=0) (o':=vec v6 9 1 ((cpt r1_).length) ((cpt r1_).flatMap Qp)) rfl hg4 hf1 ho3 (ms':=[vec v6 9 1 ((cpt r1_).length) ((cpt r1_).flatMap Qp),vec v4 9 1 ((srt nodes_p).length) ((srt nodes_p).flatMap Qp)]) rfl
 refine j2b hS8 rfl (i:=0) rfl Tryz.underlying44 ?_
 have hlen1:(cpt r1_).length<=9223372036854775807:=by have:=hsm2;unfold Sml at this;omega
 replace hP:=hP hlen1
 refine Zw (v:=v4) rfl (j2b hS8 rfl (i:=1) rfl Tryz.underlying44 ?_)
 have hlen2:(srt nodes_p).length<=9223372036854775807:=by have:=(show Sml (srt nodes_p).length by rw [W9];exact hsm1);unfold Sml at this;omega
 replace hP:=hP hlen2
 refine qa25 (r:=(!decide ((((cpt r1_).length:Nat):Int)=(((srt nodes_p).length:Nat):Int)))) rfl rfl rfl (wpList_nil (Q3 ?_))
 refine qa0y ((((cpt r1_).length:Nat):Int)=(((srt nodes_p).length:Nat):Int)) rfl (fun ht1=> ?_) (fun ht1=> ?_)
 ·
  replace hP:=hP.2 ht1
  refine Q8 (Q9 (v:=(.slice none 0 0)) rfl (Q9 (v:=(.int .i64 (10:Int))) rfl (wpList_nil (Q3 (wp_ret (q1x (ret2 rfl (show ev _ _ _=(.slice none 0 0) from rfl) (show ev _ _ _=(.int .i64 (10:Int)) from rfl) ?_)))))))
  have hS9:=hS8.addNil 9 1
  exact ⟨[],(10:Int),(.slice none 0 0),rfl,(St.back (hS9.keep 1 (ms':=[vec (.slice none 0 0) 9 1 0 []]) rfl) (Sub.refl _)),(by simp [Sml]),hP⟩
 ·
  replace hP:=hP.1 ht1
  refine wp_skip (Q3 (Q8 (y4r 9 1 Qp hS8 ?_)))
  intro b2 w6 hS10
  refine v74 (cs:=[(.map none)]) hS10 Tryz.zeroValue267 rfl ?_
  intro b3 w7 hS11
  refine v73 (T:=267) (vs:=[(.map (some b2))]) (cs':=[(.map (some b2))]) (ms':=(blk b3 267 [(.map (some b2))]::smap b2 (asl [])::vec v6 9 1 ((cpt r1_).length) ((cpt r1_).flatMap Qp)::vec v4 9 1 ((srt nodes_p).length) ((srt nodes_p).flatMap Qp)::B5 9 1 Qp [])) (i:=0) hS11 rfl rfl rfl Tryz.sizeOf267 rfl (ones rfl) rfl (Nat.le_of_ble_eq_true rfl) rfl rfl ?_
  intro w8 hS12
  refine wpList_nil (Q3 (wp_seq (Q8 (Zw (v:=(.slice a2 edges_p.length cap2)) rfl (z25 rfl Tryz.underlying170 ?_)))))
  have hlen3:=RSl.len63 hr2
  replace hP:=hP hlen3
  refine Zw (v:=(.int .i64 (0:Int))) rfl (wpList_nil (Q3 (wp_block ?_)))
  have hS13:=hS12.front 3 rfl (ms':=(vec v4 9 1 ((srt nodes_p).length) ((srt nodes_p).flatMap Qp)::blk b3 267 [(.map (some b2))]::smap b2 (asl [])::vec v6 9 1 ((cpt r1_).length) ((cpt r1_).flatMap Qp)::B5 9 1 Qp [])) rfl
  have hS14:=hS13.front 3 rfl (ms':=(vec v6 9 1 ((cpt r1_).length) ((cpt r1_).flatMap Qp)::vec v4 9 1 ((srt nodes_p).length) ((srt nodes_p).flatMap Qp)::blk b3 267 [(.map (some b2))]::smap b2 (asl [])::B5 9 1 Qp [])) rfl
  have hS15:=hS14.front 2 rfl (ms':=(blk b3 267 [(.map (some b2))]::vec v6 9 1 ((cpt r1_).length) ((cpt r1_).flatMap Qp)::vec v4 9 1 ((srt nodes_p).length) ((srt nodes_p).flatMap Qp)::smap b2 (asl [])::B5 9 1 Qp [])) rfl
  have hS16:=hS15.front 3 rfl (ms':=(smap b2 (asl [])::blk b3 267 [(.map (some b2))]::vec v6 9 1 ((cpt r1_).length) ((cpt r1_).flatMap Qp)::vec v4 9 1 ((srt nodes_p).length) ((srt nodes_p).flatMap Qp)::B5 9 1 Qp [])) rfl
  refine u35 (fun k_3 F_2 f z=> ∃(es2:EL ByteArray) (σ3:Hv) (g:Fr),f=(upd (upd (upd (upd (upd g 6 v4) 7 (.pointer (some ⟨b3,0,none⟩))) 24 (.slice a2 edges_p.length cap2)) 25 (.int .i64 ((edges_p.length:Nat):Int))) 26 (.int .i64 ((k_3:Nat):Int)))/\St ⟨w,σ,[]⟩ z σ3 (smap b2 (asl es2)::blk b3 267 [(.map (some b2))]::vec v6 9 1 ((cpt r1_).length) ((cpt r1_).flatMap Qp)::vec v4 9 1 ((srt nodes_p).length) ((srt nodes_p).flatMap Qp)::B5 9 1 Qp es2)/\Sub σ1 σ3/\ELF es2 F_2) hP ⟨[],σ1,_,(Jm rfl (Jm rfl (Jm rfl (Jm rfl (Jm rfl rfl))))),hS16,(Sub.refl _),ELF.nil⟩ ?_
  clear hP
  rintro k_3 F_2 Y2 hP f w9 ⟨es2,σ3,g,rfl,hS17,hsub3,hF2⟩
  refine Q8 (y75 (r:=(decide (((k_3:Nat):Int)<((edges_p.length:Nat):Int)))) rfl rfl rfl (wpList_nil (Q3 (wp_seq ?_))))
  refine if_d (((k_3:Nat):Int)<((edges_p.length:Nat):Int)) rfl (fun ht2=> ?_) (fun ht2=> ?_)
  ·
   replace hP:=hP.1 ht2
   refine wp_skip (Q3 (wp_seq (wp_block (Q8 ?_))))
   obtain ⟨x1_,hx1⟩:=getq (l:=edges_p) (k:=k_3) (by have:=ht2;omega)
   replace hP:=hP x1_ hx1
   obtain ⟨ad1,cs1,ha1,hl2,hr6,hR1,hlt1⟩:=RSl.at hr2 hx1
   cases hR1
   refine q0w (k:=k_3) (a':=(ad1.add (k_3*2))) (congrArg (fun z=>Value.slice z _ _) ha1) rfl rfl hlt1 Tryz.underlying170 Tryz.sizeOf217 rfl (u7q (cs:=[(.string x1_.1),(.string x1_.2)]) rfl Tryz.isAgg217 Tryz.sizeOf217 rfl (hr6.row (View.of (Sub.trans hsub1 hsub3) hS17.view)) (v74 (cs:=[(.string (⟨#[]⟩:ByteArray)),(.string (⟨#[]⟩:ByteArray))]) hS17 Tryz.zeroValue217 rfl ?_))
   intro b4 w10 hS18
   refine v73 (T:=217) (vs:=[(.string x1_.1),(.string x1_.2)]) (cs':=[(.string x1_.1),(.string x1_.2)]) (ms':=(blk b4 217 [(.string x1_.1),(.string x1_.2)]::smap b2 (asl es2)::blk b3 267 [(.map (some b2))]::vec v6 9 1 ((cpt r1_).length) ((cpt r1_).flatMap Qp)::vec v4 9 1 ((srt nodes_p).length) ((srt nodes_p).flatMap Qp)::B5 9 1 Qp es2)) (i:=0) hS18 rfl rfl rfl Tryz.sizeOf217 rfl (ones rfl) rfl (Nat.le_of_ble_eq_true rfl) rfl rfl ?_
   intro w11 hS19
   refine wpList_nil (Q3 (wp_seq (Q8 (Zw (v:=v4) rfl (w03 (a':=⟨b4,0,none⟩) rfl Tryz.underlying217 rfl Tryz.sizeOf9 rfl (q8o (v:=(.string x1_.1)) rfl Tryz.isAgg9 (hS19.cell (i:=0) rfl rfl) ?_))))))
   obtain ⟨σ4,hS20,hsub4,hr7⟩:=hS19.peek (i:=4) rfl q6m (show Sml (srt nodes_p).length by rw [W9];exact hsm1)
   obtain ⟨Y3,hK2,hc2⟩:=hP
   refine z0d (args:=[v4,(.string x1_.1)]) rfl Tryz.call76 (Calls.mono (U3 (srt nodes_p) x1_.1 v4 hS20.view hr7 hc2) ?_)
   rintro _ w12 ⟨r2_,rfl,hg5,hY2⟩
   refine ⟨_,rfl,?_⟩
   have hg5b:=hg5.back hsub4
   have hS21:=hS19.grow hg5b
   replace hP:=hK2 r2_ hY2
   refine u3x (r:=(!r2_)) rfl rfl ?_
   rcases Bool.eq_false_or_eq_true (r2_) with hb1|hb1
   ·
    replace hP:=hP.1 hb1
    refine Zw (v:=(.bool false)) (congrArg Value.bool (congrArg Bool.not hb1)) (o_on rfl rfl (Zw (v:=v4) rfl (o_on rfl rfl (w03 (a':=⟨b4,1,none⟩) rfl Tryz.underlying217 rfl Tryz.sizeOf9 rfl (o_on rfl rfl (q8o (v:=(.string x1_.2)) rfl Tryz.isAgg9 (hS21.cell (i:=0) rfl rfl) (o_on rfl rfl ?_)))))))
    obtain ⟨σ5,hS22,hsub5,hr8⟩:=hS21.peek (i:=4) rfl q6m (show Sml (srt nodes_p).length by rw [W9];exact hsm1)
    obtain ⟨Y4,hK3,hc3⟩:=hP
    refine z0d (args:=[v4,(.string x1_.2)]) rfl Tryz.call76 (Calls.mono (U3 (srt nodes_p) x1_.2 v4 hS22.view hr8 hc3) ?_)
    rintro _ w13 ⟨r3_,rfl,hg6,hY3⟩
    refine ⟨_,rfl,?_⟩
    have hg6b:=hg6.back hsub5
    have hS23:=hS21.grow hg6b
    replace hP:=hK3 r3_ hY3
    refine o_on rfl rfl (u3x (r:=(!r3_)) rfl rfl (u3v (v:=(.bool (!r3_))) rfl rfl (wpList_nil (Q3 ?_))))
    refine qa0z rfl (fun ht3=> ?_) (fun ht3=> ?_)
    ·
     replace hP:=hP.2 (by first|(rw [ht3];exact Bool.false_ne_true)|simp [ht3])
     refine Q8 (Q9 (v:=(.slice none 0 0)) rfl (Q9 (v:=(.int .i64 (11:Int))) rfl (wpList_nil (Q3 (wp_ret (q1x (j8h (q1x (q1x (j8h (q1x (ret2 rfl (show ev _ _ _=(.slice none 0 0) from rfl) (show ev _ _ _=(.int .i64 (11:Int)) from rfl) ?_))))))))))))
     have hS24:=hS23.addNil 9 1
     exact ⟨[],(11:Int),(.slice none 0 0),rfl,(St.back (hS24.keep 1 (ms':=[vec (.slice none 0 0) 9 1 0 []]) rfl) (Sub.refl _)),(by simp [Sml]),hP⟩
    ·
     replace hP:=hP.1 ht3
     refine wp_skip (Q3 (dr (fun z=>St ⟨w,σ,[]⟩ z σ3 [blk b4 217 [(.string x1_.1),(.string x1_.2)],blk b3 267 [(.map (some b2))],vec v6 9 1 ((cpt r1_).length) ((cpt r1_).flatMap Qp),vec v4 9 1 ((srt nodes_p).length) ((srt nodes_p).flatMap Qp)]) (by kernel_rfl) rfl ?_))
     have hS25:=hS23.drew
     refine dt 0 1 (v:=(.map (some b2))) (by kernel_rfl) rfl rfl (fun _ _ _ h=>h) (hS25.sublist (.cons_cons _ (.cons _ (.cons_cons _ (.cons_cons _ (.cons_cons _ (List.nil_sublist _))))))) (fun _ hJ _ hK=>q8o (v:=(.map (some b2))) rfl Tryz.isAgg267 (hJ.cell (i:=1) rfl rfl) ⟨rfl,hK⟩) (dt 1 3 (v:=(.pointer (some ⟨b4,0,none⟩))) (by kernel_rfl) rfl rfl (fun _ _ _ h=>h) (hS25.sublist (.cons_cons _ (.cons _ (.cons_cons _ (.cons_cons _ (.cons_cons _ (List.nil_sublist _))))))) (fun _ _ _ hK=>w03 (a':=⟨b4,0,none⟩) rfl Tryz.underlying217 rfl Tryz.sizeOf9 rfl ⟨rfl,hK⟩) (dt 2 7 (v:=(.string x1_.1)) (by kernel_rfl) rfl rfl (fun _ _ _ h=>h) (hS25.sublist (.cons_cons _ (.cons _ (.cons_cons _ (.cons_cons _ (.cons_cons _ (List.nil_sublist _))))))) (fun _ hJ _ hK=>q8o (v:=(.string x1_.1)) rfl Tryz.isAgg9 (hJ.cell (i:=0) rfl rfl) ⟨rfl,hK⟩) (dt 3 15 (v:=(.map (some b2))) (by kernel_rfl) rfl rfl (fun _ _ _ h=>h) (hS25.sublist (.cons_cons _ (.cons _ (.cons_cons _ (.cons_cons _ (.cons_cons _ (List.nil_sublist _))))))) (fun _ hJ _ hK=>q8o (v:=(.map (some b2))) rfl Tryz.isAgg267 (hJ.cell (i:=1) rfl rfl) ⟨rfl,hK⟩) (dt 4 31 (v:=(.pointer (some ⟨b4,0,none⟩))) (by kernel_rfl) rfl rfl (fun _ _ _ h=>h) (hS25.sublist (.cons_cons _ (.cons _ (.cons_cons _ (.cons_cons _ (.cons_cons _ (List.nil_sublist _))))))) (fun _ _ _ hK=>w03 (a':=⟨b4,0,none⟩) rfl Tryz.underlying217 rfl Tryz.sizeOf9 rfl ⟨rfl,hK⟩) (dt 5 63 (v:=(.string x1_.1)) (by kernel_rfl) rfl rfl (fun _ _ _ h=>h) (hS25.sublist (.cons_cons _ (.cons _ (.cons_cons _ (.cons_cons _ (.cons_cons _ (List.nil_sublist _))))))) (fun _ hJ _ hK=>q8o (v:=(.string x1_.1)) rfl Tryz.isAgg9 (hJ.cell (i:=0) rfl rfl) ⟨rfl,hK⟩) (dt 7 191 (v:=(.pointer (some ⟨b4,1,none⟩))) (by kernel_rfl) rfl rfl (fun _ _ _ h=>h) (hS25.sublist (.cons_cons _ (.cons _ (.cons_cons _ (.cons_cons _ (.cons_cons _ (List.nil_sublist _))))))) (fun _ _ _ hK=>w03 (a':=⟨b4,1,none⟩) rfl Tryz.underlying217 rfl Tryz.sizeOf9 rfl ⟨rfl,hK⟩) (dt 8 447 (v:=(.string x1_.2)) (by kernel_rfl) rfl rfl (fun _ _ _ h=>h) (hS25.sublist (.cons_cons _ (.cons _ (.cons_cons _ (.cons_cons _ (.cons_cons _ (List.nil_sublist _))))))) (fun _ hJ _ hK=>q8o (v:=(.string x1_.2)) rfl Tryz.isAgg9 (hJ.cell (i:=0) rfl rfl) ⟨rfl,hK⟩) ?_)))))))
     refine d2 6 9 511 959 (by kernel_rfl) rfl rfl rfl rfl ?_ ?_
     ·
      obtain ⟨v7,hv1⟩: ∃v,(asl es2 x1_.1).getD (.slice none 0 0)=v:=⟨_,rfl⟩
      refine y8e (i:=1) (v:=v7) hS25 rfl rfl rfl Tryz.underlying267 Tryz.underlying9 Tryz.zeroValue44 hv1 (wpList_nil ?_)
      refine ⟨rfl,(hS25.sublist (.cons_cons _ (.cons _ (.cons_cons _ (.cons_cons _ (.cons_cons _ (List.nil_sublist _))))))),?_⟩
      refine d1 9 1023 (by kernel_rfl) rfl (w0e (cs:=[(.string x1_.2)]) (e:=9) hS25 (fun _=>by kernel_rfl) ?_)
      intro b5 w14 hS26
      refine wpList_nil ?_
      refine ⟨rfl,(hS26.sublist (.cons _ (.cons_cons _ (.cons _ (.cons_cons _ (.cons_cons _ (.cons_cons _ (List.nil_sublist _)))))))),?_⟩
      refine d1 10 2047 (by kernel_rfl) rfl ?_
      obtain ⟨es3,hS27,hL1,hl3⟩:=St.borrow (ms:=[blk b5 9 [(.string x1_.2)],blk b4 217 [(.string x1_.1),(.string x1_.2)],smap b2 (asl es2),blk b3 267 [(.map (some b2))],vec v6 9 1 ((cpt r1_).length) ((cpt r1_).flatMap Qp),vec v4 9 1 ((srt nodes_p).length) ((srt nodes_p).flatMap Qp)]) hS26 hF2 x1_.1 hv1
      obtain ⟨hsm3,hP⟩:=hP
      refine u7y (Ms:=fun v8=>(vec v8 9 1 ((((F_2 x1_.1).getD [])++[x1_.2]).length) ((((F_2 x1_.1).getD [])++[x1_.2]).flatMap Qp)::blk b5 9 [(.string x1_.2)]::blk b4 217 [(.string x1_.1),(.string x1_.2)]::smap b2 (asl es2)::blk b3 267 [(.map (some b2))]::vec v6 9 1 ((cpt r1_).length) ((cpt r1_).flatMap Qp)::vec v4 9 1 ((srt nodes_p).length) ((srt nodes_p).flatMap Qp)::B5 9 1 Qp es3)) (k':=(((F_2 x1_.1).getD [])++[x1_.2]).length) (xs':=(((F_2 x1_.1).getD [])++[x1_.2]).flatMap Qp) Tryz.underlying44 Tryz.type9 rfl rfl (bytes:=16) rfl rfl (Nat.succ_pos _) hS27 rfl (q:=0) rfl rfl rfl (z0v (hS27.get (i:=1) rfl)) (ones rfl) hsm3 (by omega) (by first|rfl|exact List.length_append.symm|simp) (by simp [Qp]) (fun _=>rfl) ?_
      intro v8 w15 ho5 hS28
      have hS29:=hS28.drop 1 (ms':=(vec v8 9 1 ((((F_2 x1_.1).getD [])++[x1_.2]).length) ((((F_2 x1_.1).getD [])++[x1_.2]).flatMap Qp)::blk b4 217 [(.string x1_.1),(.string x1_.2)]::smap b2 (asl es2)::blk b3 267 [(.map (some b2))]::vec v6 9 1 ((cpt r1_).length) ((cpt r1_).flatMap Qp)::vec v4 9 1 ((srt nodes_p).length) ((srt nodes_p).flatMap Qp)::B5 9 1 Qp es3)) rfl
      refine wpList_nil ?_
      refine ⟨rfl,(hS29.sublist (.cons _ (.cons_cons _ (.cons _ (.cons_cons _ (.cons_cons _ (.cons_cons _ (List.nil_sublist _)))))))),?_⟩
      refine d1 11 4095 (by kernel_rfl) rfl (u7v (v:=v8) (i:=2) (ms':=(vec v8 9 1 ((((F_2 x1_.1).getD [])++[x1_.2]).length) ((((F_2 x1_.1).getD [])++[x1_.2]).flatMap Qp)::blk b4 217 [(.string x1_.1),(.string x1_.2)]::smap b2 (fun k'=>if k'=x1_.1 then some v8 else asl es2 k')::blk b3 267 [(.map (some b2))]::vec v6 9 1 ((cpt r1_).length) ((cpt r1_).flatMap Qp)::vec v4 9 1 ((srt nodes_p).length) ((srt nodes_p).flatMap Qp)::B5 9 1 Qp es3)) hS29 rfl rfl rfl rfl Tryz.underlying267 Tryz.underlying9 rfl ?_)
      intro w16 hS30
      have hS32:=St.giveback (ms:=[blk b4 217 [(.string x1_.1),(.string x1_.2)],smap b2 (fun k'=>if k'=x1_.1 then some v8 else asl es2 k'),blk b3 267 [(.map (some b2))],vec v6 9 1 ((cpt r1_).length) ((cpt r1_).flatMap Qp),vec v4 9 1 ((srt nodes_p).length) ((srt nodes_p).flatMap Qp)]) (ms':=[blk b4 217 [(.string x1_.1),(.string x1_.2)],smap b2 (asl ((x1_.1,v8,((F_2 x1_.1).getD [])++[x1_.2])::es3)),blk b3 267 [(.map (some b2))],vec v6 9 1 ((cpt r1_).length) ((cpt r1_).flatMap Qp),vec v4 9 1 ((srt nodes_p).length) ((srt nodes_p).flatMap Qp)]) (i:=1) hS30 hL1 rfl rfl
      have hF3:=ELF.put (v:=v8) hF2 hL1 hsm3
      refine wpList_nil ?_
      refine ⟨rfl,(hS32.sublist (.cons_cons _ (.cons _ (.cons_cons _ (.cons_cons _ (.cons_cons _ (List.nil_sublist _))))))),w0f (J':=fun z=>St ⟨w,σ,[]⟩ z σ3 (blk b4 217 [(.string x1_.1),(.string x1_.2)]::smap b2 (asl ((x1_.1,v8,((F_2 x1_.1).getD [])++[x1_.2])::es3))::blk b3 267 [(.map (some b2))]::vec v6 9 1 ((cpt r1_).length) ((cpt r1_).flatMap Qp)::vec v4 9 1 ((srt nodes_p).length) ((srt nodes_p).flatMap Qp)::B5 9 1 Qp ((x1_.1,v8,((F_2 x1_.1).getD [])++[x1_.2])::es3))) (fun w h=>h.sublist (.cons_cons _ (.cons _ (.cons_cons _ (.cons_cons _ (.cons_cons _ (List.nil_sublist _))))))) _ _ _ _ ?_⟩
      refine dz (by kernel_rfl) (y4m (Q3 (j4u (y4l (r:=((k_3+1:Nat):Int)) rfl rfl (nw (by omega) (by omega) (by have:=hlen3;omega)) (Zw (v:=(.int .i64 ((k_3+1:Nat):Int))) rfl (wpList_nil (Q3 ?_)))))))
      exact ⟨k_3+1,(put F_2 x1_.1 (((F_2 x1_.1).getD [])++[x1_.2])),_,rfl,hP,((x1_.1,v8,((F_2 x1_.1).getD [])++[x1_.2])::es3),σ3,_,(Jm rfl (Jm rfl (Jm rfl (Jm rfl (Jm rfl rfl))))),(hS32.sublist (ms':=(smap b2 (asl ((x1_.1,v8,((F_2 x1_.1).getD [])++[x1_.2])::es3))::blk b3 267 [(.map (some b2))]::vec v6 9 1 ((cpt r1_).length) ((cpt r1_).flatMap Qp)::vec v4 9 1 ((srt nodes_p).length) ((srt nodes_p).flatMap Qp)::B5 9 1 Qp ((x1_.1,v8,((F_2 x1_.1).getD [])++[x1_.2])::es3))) (.cons _ (List.Sublist.refl _))),hsub3,hF3⟩
     ·
      refine w0e (cs:=[(.string x1_.2)]) (e:=9) hS25 (fun _=>by kernel_rfl) ?_
      intro b5 w14 hS26
      refine wpList_nil ?_
      refine ⟨rfl,(hS26.sublist (.cons _ (.cons_cons _ (.cons _ (.cons_cons _ (.cons_cons _ (.cons_cons _ (List.nil_sublist _)))))))),?_⟩
      refine d1 6 1023 (by kernel_rfl) rfl ?_
      obtain ⟨v7,hv1⟩: ∃v,(asl es2 x1_.1).getD (.slice none 0 0)=v:=⟨_,rfl⟩
      refine y8e (i:=2) (v:=v7) hS26 rfl rfl rfl Tryz.underlying267 Tryz.underlying9 Tryz.zeroValue44 hv1 (wpList_nil ?_)
      refine ⟨rfl,(hS26.sublist (.cons _ (.cons_cons _ (.cons _ (.cons_cons _ (.cons_cons _ (.cons_cons _ (List.nil_sublist _)))))))),?_⟩
      refine d1 10 2047 (by kernel_rfl) rfl ?_
      obtain ⟨es3,hS27,hL1,hl3⟩:=St.borrow (ms:=[blk b5 9 [(.string x1_.2)],blk b4 217 [(.string x1_.1),(.string x1_.2)],smap b2 (asl es2),blk b3 267 [(.map (some b2))],vec v6 9 1 ((cpt r1_).length) ((cpt r1_).flatMap Qp),vec v4 9 1 ((srt nodes_p).length) ((srt nodes_p).flatMap Qp)]) hS26 hF2 x1_.1 hv1
      obtain ⟨hsm3,hP⟩:=hP
      refine u7y (Ms:=fun v8=>(vec v8 9 1 ((((F_2 x1_.1).getD [])++[x1_.2]).length) ((((F_2 x1_.1).getD [])++[x1_.2]).flatMap Qp)::blk b5 9 [(.string x1_.2)]::blk b4 217 [(.string x1_.1),(.string x1_.2)]::smap b2 (asl es2)::blk b3 267 [(.map (some b2))]::vec v6 9 1 ((cpt r1_).length) ((cpt r1_).flatMap Qp)::vec v4 9 1 ((srt nodes_p).length) ((srt nodes_p).flatMap Qp)::B5 9 1 Qp es3)) (k':=(((F_2 x1_.1).getD [])++[x1_.2]).length) (xs':=(((F_2 x1_.1).getD [])++[x1_.2]).flatMap Qp) Tryz.underlying44 Tryz.type9 rfl rfl (bytes:=16) rfl rfl (Nat.succ_pos _) hS27 rfl (q:=0) rfl rfl rfl (z0v (hS27.get (i:=1) rfl)) (ones rfl) hsm3 (by omega) (by first|rfl|exact List.length_append.symm|simp) (by simp [Qp]) (fun _=>rfl) ?_
      intro v8 w15 ho5 hS28
      have hS29:=hS28.drop 1 (ms':=(vec v8 9 1 ((((F_2 x1_.1).getD [])++[x1_.2]).length) ((((F_2 x1_.1).getD [])++[x1_.2]).flatMap Qp)::blk b4 217 [(.string x1_.1),(.string x1_.2)]::smap b2 (asl es2)::blk b3 267 [(.map (some b2))]::vec v6 9 1 ((cpt r1_).length) ((cpt r1_).flatMap Qp)::vec v4 9 1 ((srt nodes_p).length) ((srt nodes_p).flatMap Qp)::B5 9 1 Qp es3)) rfl
      refine wpList_nil ?_
      refine ⟨rfl,(hS29.sublist (.cons _ (.cons_cons _ (.cons _ (.cons_cons _ (.cons_cons _ (.cons_cons _ (List.nil_sublist _)))))))),?_⟩
      refine d1 11 4095 (by kernel_rfl) rfl (u7v (v:=v8) (i:=2) (ms':=(vec v8 9 1 ((((F_2 x1_.1).getD [])++[x1_.2]).length) ((((F_2 x1_.1).getD [])++[x1_.2]).flatMap Qp)::blk b4 217 [(.string x1_.1),(.string x1_.2)]::smap b2 (fun k'=>if k'=x1_.1 then some v8 else asl es2 k')::blk b3 267 [(.map (some b2))]::vec v6 9 1 ((cpt r1_).length) ((cpt r1_).flatMap Qp)::vec v4 9 1 ((srt nodes_p).length) ((srt nodes_p).flatMap Qp)::B5 9 1 Qp es3)) hS29 rfl rfl rfl rfl Tryz.underlying267 Tryz.underlying9 rfl ?_)
      intro w16 hS30
      have hS32:=St.giveback (ms:=[blk b4 217 [(.string x1_.1),(.string x1_.2)],smap b2 (fun k'=>if k'=x1_.1 then some v8 else asl es2 k'),blk b3 267 [(.map (some b2))],vec v6 9 1 ((cpt r1_).length) ((cpt r1_).flatMap Qp),vec v4 9 1 ((srt nodes_p).length) ((srt nodes_p).flatMap Qp)]) (ms':=[blk b4 217 [(.string x1_.1),(.string x1_.2)],smap b2 (asl ((x1_.1,v8,((F_2 x1_.1).getD [])++[x1_.2])::es3)),blk b3 267 [(.map (some b2))],vec v6 9 1 ((cpt r1_).length) ((cpt r1_).flatMap Qp),vec v4 9 1 ((srt nodes_p).length) ((srt nodes_p).flatMap Qp)]) (i:=1) hS30 hL1 rfl rfl
      have hF3:=ELF.put (v:=v8) hF2 hL1 hsm3
      refine wpList_nil ?_
      refine ⟨rfl,(hS32.sublist (.cons_cons _ (.cons _ (.cons_cons _ (.cons_cons _ (.cons_cons _ (List.nil_sublist _))))))),w0f (J':=fun z=>St ⟨w,σ,[]⟩ z σ3 (blk b4 217 [(.string x1_.1),(.string x1_.2)]::smap b2 (asl ((x1_.1,v8,((F_2 x1_.1).getD [])++[x1_.2])::es3))::blk b3 267 [(.map (some b2))]::vec v6 9 1 ((cpt r1_).length) ((cpt r1_).flatMap Qp)::vec v4 9 1 ((srt nodes_p).length) ((srt nodes_p).flatMap Qp)::B5 9 1 Qp ((x1_.1,v8,((F_2 x1_.1).getD [])++[x1_.2])::es3))) (fun w h=>h.sublist (.cons_cons _ (.cons _ (.cons_cons _ (.cons_cons _ (.cons_cons _ (List.nil_sublist _))))))) _ _ _ _ ?_⟩
      refine dz (by kernel_rfl) (y4m (Q3 (j4u (y4l (r:=((k_3+1:Nat):Int)) rfl rfl (nw (by omega) (by omega) (by have:=hlen3;omega)) (Zw (v:=(.int .i64 ((k_3+1:Nat):Int))) rfl (wpList_nil (Q3 ?_)))))))
      exact ⟨k_3+1,(put F_2 x1_.1 (((F_2 x1_.1).getD [])++[x1_.2])),_,rfl,hP,((x1_.1,v8,((F_2 x1_.1).getD [])++[x1_.2])::es3),σ3,_,(Jm rfl (Jm rfl (Jm rfl (Jm rfl (Jm rfl rfl))))),(hS32.sublist (ms':=(smap b2 (asl ((x1_.1,v8,((F_2 x1_.1).getD [])++[x1_.2])::es3))::blk b3 267 [(.map (some b2))]::vec v6 9 1 ((cpt r1_).length) ((cpt r1_).flatMap Qp)::vec v4 9 1 ((srt nodes_p).length) ((srt nodes_p).flatMap Qp)::B5 9 1 Qp ((x1_.1,v8,((F_2 x1_.1).getD [])++[x1_.2])::es3))) (.cons _ (List.Sublist.refl _))),hsub3,hF3⟩
   ·
    replace hP:=hP.2 (by first|(rw [hb1];exact Bool.false_ne_true)|simp [hb1])
    refine Zw (v:=(.bool true)) (congrArg Value.bool (congrArg Bool.not hb1)) (y74 rfl rfl (y74 rfl rfl (y74 rfl rfl (y74 rfl rfl (y74 rfl rfl (u3u (v:=(.bool true)) rfl rfl (wpList_nil (Q3 (if_t rfl (Q8 (Q9 (v:=(.slice none 0 0)) rfl (Q9 (v:=(.int .i64 (11:Int))) rfl (wpList_nil (Q3 (wp_ret (q1x (j8h (q1x (q1x (j8h (q1x (ret2 rfl (show ev _ _ _=(.slice none 0 0) from rfl) (show ev _ _ _=(.int .i64 (11:Int)) from rfl) ?_))))))))))))))))))))))
    have hS33:=hS21.addNil 9 1
    exact ⟨[],(11:Int),(.slice none 0 0),rfl,(St.back (hS33.keep 1 (ms':=[vec (.slice none 0 0) 9 1 0 []]) rfl) (Sub.refl _)),(by simp [Sml]),hP⟩
  ·
   replace hP:=hP.2 ht2
   refine wp_exit (z89 (z89 (w05 (Q3 (Q8 (Q9 (v:=(.slice none 0 0)) rfl (wpList_nil (Q3 (Q8 (u7w (fun y:Bool=>(Value.bool (y))) hS17 ?_))))))))))
   intro b6 w17 hS34
   refine v74 (cs:=[(.map none)]) hS34 Tryz.zeroValue268 rfl ?_
   intro b7 w18 hS35
   refine v73 (T:=268) (vs:=[(.map (some b6))]) (cs':=[(.map (some b6))]) (ms':=(blk b7 268 [(.map (some b6))]::emap b6 (fun y:Bool=>(Value.bool (y))) (fun _=>none)::smap b2 (asl es2)::blk b3 267 [(.map (some b2))]::vec v6 9 1 ((cpt r1_).length) ((cpt r1_).flatMap Qp)::vec v4 9 1 ((srt nodes_p).length) ((srt nodes_p).flatMap Qp)::B5 9 1 Qp es2)) (i:=0) hS35 rfl rfl rfl Tryz.sizeOf268 rfl (ones rfl) rfl (Nat.le_of_ble_eq_true rfl) rfl rfl ?_
   intro w19 hS36
   refine wpList_nil (Q3 (wp_seq (wp_block ?_)))
   obtain ⟨σ6,hS37,hsub6,hr9⟩:=St.freezeL (ms:=[blk b7 268 [(.map (some b6))],emap b6 (fun y:Bool=>(Value.bool (y))) (fun _=>none),smap b2 (asl es2),blk b3 267 [(.map (some b2))],vec v6 9 1 ((cpt r1_).length) ((cpt r1_).flatMap Qp),vec v4 9 1 ((srt nodes_p).length) ((srt nodes_p).flatMap Qp)]) (ms':=[blk b7 268 [(.map (some b6))],emap b6 (fun y:Bool=>(Value.bool (y))) (fun _=>none),blk b3 267 [(.map (some b2))],vec v6 9 1 ((cpt r1_).length) ((cpt r1_).flatMap Qp),vec v4 9 1 ((srt nodes_p).length) ((srt nodes_p).flatMap Qp)]) (i:=2) hS36 hF2 q6m rfl rfl
   have hS38:=hS37.addNil 9 1
   have hS39:=hS38.front 4 rfl (ms':=[vec v6 9 1 ((cpt r1_).length) ((cpt r1_).flatMap Qp),vec (.slice none 0 0) 9 1 0 [],blk b7 268 [(.map (some b6))],emap b6 (fun y:Bool=>(Value.bool (y))) (fun _=>none),blk b3 267 [(.map (some b2))],vec v4 9 1 ((srt nodes_p).length) ((srt nodes_p).flatMap Qp)]) rfl
   have hS40:=hS39.front 4 rfl (ms':=[blk b3 267 [(.map (some b2))],vec v6 9 1 ((cpt r1_).length) ((cpt r1_).flatMap Qp),vec (.slice none 0 0) 9 1 0 [],blk b7 268 [(.map (some b6))],emap b6 (fun y:Bool=>(Value.bool (y))) (fun _=>none),vec v4 9 1 ((srt nodes_p).length) ((srt nodes_p).flatMap Qp)]) rfl
   have hS41:=hS40.front 3 rfl (ms':=[blk b7 268 [(.map (some b6))],blk b3 267 [(.map (some b2))],vec v6 9 1 ((cpt r1_).length) ((cpt r1_).flatMap Qp),vec (.slice none 0 0) 9 1 0 [],emap b6 (fun y:Bool=>(Value.bool (y))) (fun _=>none),vec v4 9 1 ((srt nodes_p).length) ((srt nodes_p).flatMap Qp)]) rfl
   have hS42:=hS41.front 4 rfl (ms':=[emap b6 (fun y:Bool=>(Value.bool (y))) (fun _=>none),blk b7 268 [(.map (some b6))],blk b3 267 [(.map (some b2))],vec v6 9 1 ((cpt r1_).length) ((cpt r1_).flatMap Qp),vec (.slice none 0 0) 9 1 0 [],vec v4 9 1 ((srt nodes_p).length) ((srt nodes_p).flatMap Qp)]) rfl
   have hS43:=hS42.front 4 rfl (ms':=[vec (.slice none 0 0) 9 1 0 [],emap b6 (fun y:Bool=>(Value.bool (y))) (fun _=>none),blk b7 268 [(.map (some b6))],blk b3 267 [(.map (some b2))],vec v6 9 1 ((cpt r1_).length) ((cpt r1_).flatMap Qp),vec v4 9 1 ((srt nodes_p).length) ((srt nodes_p).flatMap Qp)]) rfl
   have hS44:=hS43.front 5 rfl (ms':=[vec v4 9 1 ((srt nodes_p).length) ((srt nodes_p).flatMap Qp),vec (.slice none 0 0) 9 1 0 [],emap b6 (fun y:Bool=>(Value.bool (y))) (fun _=>none),blk b7 268 [(.map (some b6))],blk b3 267 [(.map (some b2))],vec v6 9 1 ((cpt r1_).length) ((cpt r1_).flatMap Qp)]) rfl
   refine u36 (fun left_3 out_3 F_4 f z=> ∃(v13:Value) (v14:Value) (σ7:Hv) (g:Fr),f=(upd (upd (upd (upd g 6 v13) 7 (.pointer (some ⟨b3,0,none⟩))) 10 v14) 11 (.pointer (some ⟨b7,0,none⟩)))/\St ⟨w,σ,[]⟩ z σ7 [vec v13 9 1 left_3.length ((left_3).flatMap Qp),vec v14 9 1 out_3.length ((out_3).flatMap Qp),emap b6 (fun y:Bool=>(Value.bool (y))) F_4,blk b7 268 [(.map (some b6))],blk b3 267 [(.map (some b2))],vec v6 9 1 ((cpt r1_).length) ((cpt r1_).flatMap Qp)]/\Sub σ6 σ7/\v13.oneCell'=true/\Sml left_3.length/\v14.oneCell'=true/\Sml out_3.length) hP ⟨v4,(.slice none 0 0),σ6,_,(Jm rfl (Jm rfl (Jm rfl (Jm rfl rfl)))),hS44,(Sub.refl _),(q3l ho1.1),(show Sml (srt nodes_p).length by rw [W9];exact hsm1),rfl,(by simp [Sml])⟩ ?_
   clear hP
   rintro left_3 out_3 F_4 Y5 hP f w20 ⟨v13,v14,σ7,g,rfl,hS45,hsub7,ho10,hl8,ho11,hl9⟩
   refine wp_seq (Q8 (Zw (v:=v13) rfl (j2b hS45 rfl (i:=0) rfl Tryz.underlying44 ?_)))
   have hlen4:left_3.length<=9223372036854775807:=by have:=hl8;unfold Sml at this;omega
   replace hP:=hP hlen4
   refine qa26 (r:=(decide ((0:Int)<((left_3.length:Nat):Int)))) rfl rfl rfl (wpList_nil (Q3 ?_))
   refine if_d ((0:Int)<((left_3.length:Nat):Int)) rfl (fun ht4=> ?_) (fun ht4=> ?_)
   ·
    replace hP:=hP.1 ht4
    refine wp_skip (Q3 (wp_block (Q8 (Zw (v:=v13) rfl (j4v (la:=[]) (lb:=[(.pointer (some ⟨b3,0,none⟩)),(.pointer (some ⟨b7,0,none⟩))]) rfl rfl ?_)))))
    obtain ⟨Y6,hK4,hP⟩:=hP
    refine z0d (args:=[v13,(.func (.func 189) #[] #[(.pointer (some ⟨b3,0,none⟩)),(.pointer (some ⟨b7,0,none⟩))])]) rfl Tryz.call188 (Calls.mono (R:=fun e z=> ∃(r_1:Int) (σ8:Hv),e= .returned (.int .i64 r_1)/\Y6 r_1/\St ⟨w,σ,[]⟩ z σ8 [vec v13 9 1 left_3.length ((left_3).flatMap Qp),vec v14 9 1 out_3.length ((out_3).flatMap Qp),emap b6 (fun y:Bool=>(Value.bool (y))) F_4,blk b7 268 [(.map (some b6))],blk b3 267 [(.map (some b2))],vec v6 9 1 ((cpt r1_).length) ((cpt r1_).flatMap Qp)]/\Sub σ7 σ8) ?_ ?_)
    ·
     refine enter Tryz.func188 rfl rfl rfl ?_
     refine Q8 (Q9 (v:=(.int .i64 (0:Int))) rfl (wpList_nil (Q3 (wp_seq (Q8 (Zw (v:=v13) rfl (j2b hS45 rfl (i:=0) rfl Tryz.underlying44 (Zw (v:=(.int .i64 (0:Int))) rfl (wpList_nil (Q3 (wp_block ?_)))))))))))
     refine w9s (fun k_5 f z=> ∃(σ9:Hv) (g:Fr),f=(upd (upd (upd (upd g 0 v13) 1 (.func (.func 189) #[] #[(.pointer (some ⟨b3,0,none⟩)),(.pointer (some ⟨b7,0,none⟩))])) 7 (.int .i64 ((left_3.length:Nat):Int))) 8 (.int .i64 ((k_5:Nat):Int)))/\St ⟨w,σ,[]⟩ z σ9 [vec v13 9 1 left_3.length ((left_3).flatMap Qp),vec v14 9 1 out_3.length ((out_3).flatMap Qp),emap b6 (fun y:Bool=>(Value.bool (y))) F_4,blk b7 268 [(.map (some b6))],blk b3 267 [(.map (some b2))],vec v6 9 1 ((cpt r1_).length) ((cpt r1_).flatMap Qp)]/\Sub σ7 σ9) hP ⟨σ7,_,(Jm rfl (Jm rfl (Jm rfl (Jm rfl rfl)))),hS45,(Sub.refl _)⟩ ?_
     clear hP
     rintro k_5 Y7 hP f w21 ⟨σ9,g,rfl,hS46,hsub9⟩
     refine Q8 (y75 (r:=(decide (((k_5:Nat):Int)<((left_3.length:Nat):Int)))) rfl rfl rfl (wpList_nil (Q3 (wp_seq ?_))))
     refine if_d (((k_5:Nat):Int)<((left_3.length:Nat):Int)) rfl (fun ht5=> ?_) (fun ht5=> ?_)
     ·
      replace hP:=hP.1 ht5
      refine wp_skip (Q3 (wp_seq (wp_block (Q8 (Zw (v:=(.int .i64 ((k_5:Nat):Int))) rfl (Q9 (v:=(.int .i64 ((k_5:Nat):Int))) rfl (wpList_nil (Q3 (Q8 (Zw (v:=(.func (.func 189) #[] #[(.pointer (some ⟨b3,0,none⟩)),(.pointer (some ⟨b7,0,none⟩))])) rfl (Zw (v:=v13) rfl (Zw (v:=(.int .i64 ((k_5:Nat):Int))) rfl ?_))))))))))))
      obtain ⟨x2_,hx2⟩:=getq (l:=left_3) (k:=k_5) (by have:=ht5;omega)
      replace hP:=hP x2_ hx2
      obtain ⟨g1,cp1,hv2⟩:=w9t (hS46.get (i:=0) rfl) (Qv hx2)
      refine q0w (k:=k_5) (a':=⟨g1,k_5*1,none⟩) hv2 rfl rfl (Qv hx2) Tryz.underlying44 Tryz.sizeOf9 (by simp [G7]) (q8o (v:=(.string x2_)) rfl Tryz.isAgg9 (w1e q6m (j:=0) hv2 (hS46.get (i:=0) rfl) hx2 rfl) (y78 (args:=[(.string x2_),(.pointer (some ⟨b3,0,none⟩)),(.pointer (some ⟨b7,0,none⟩))]) rfl rfl Tryz.call189 ?_))
      refine enter Tryz.func189 rfl rfl rfl ?_
      refine Q8 (Q9 (v:=(.bool false)) rfl (wpList_nil (Q3 (Q8 (q8o (v:=(.map (some b2))) rfl Tryz.isAgg267 (hS46.cell (i:=4) rfl rfl) (Zw (v:=(.string x2_)) rfl ?_))))))
      obtain ⟨v15,hl10,hz1⟩:=RMp.at (z:= .slice none 0 0) (z0:=[]) RSl.nil hr9 x2_
      obtain ⟨a3,cap3,rfl⟩:=hz1.shape
      refine u7z (v:=(.slice a3 ((F_2 x2_).getD []).length cap3)) hl10 (View.of (Sub.trans hsub7 hsub9) hS46.view) rfl rfl Tryz.underlying267 Tryz.underlying9 Tryz.zeroValue44 (j4v (la:=[]) (lb:=[(.pointer (some ⟨b7,0,none⟩))]) rfl rfl (z0d (args:=[(.slice a3 ((F_2 x2_).getD []).length cap3),(.func (.func 191) #[] #[(.pointer (some ⟨b7,0,none⟩))])]) rfl Tryz.call190 ?_))
      refine enter Tryz.func190 rfl rfl rfl ?_
      refine Q8 (Q9 (v:=(.bool false)) rfl (wpList_nil (Q3 (Q8 (Zw (v:=(.slice a3 ((F_2 x2_).getD []).length cap3)) rfl (Zw (v:=(.func (.func 191) #[] #[(.pointer (some ⟨b7,0,none⟩))])) rfl ?_))))))
      obtain ⟨Y8,hK5,hP⟩:=hP
      refine z0d (args:=[(.slice a3 ((F_2 x2_).getD []).length cap3),(.func (.func 191) #[] #[(.pointer (some ⟨b7,0,none⟩))])]) rfl Tryz.call188 (Calls.mono (R:=fun e z=> ∃(r_2:Int) (σ10:Hv),e= .returned (.int .i64 r_2)/\Y8 r_2/\St ⟨w,σ,[]⟩ z σ10 [vec v13 9 1 left_3.length ((left_3).flatMap Qp),vec v14 9 1 out_3.length ((out_3).flatMap Qp),emap b6 (fun y:Bool=>(Value.bool (y))) F_4,blk b7 268 [(.map (some b6))],blk b3 267 [(.map (some b2))],vec v6 9 1 ((cpt r1_).length) ((cpt r1_).flatMap Qp)]/\Sub σ9 σ10) ?_ ?_)
      ·
       refine enter Tryz.func188 rfl rfl rfl ?_
       refine Q8 (Q9 (v:=(.int .i64 (0:Int))) rfl (wpList_nil (Q3 (wp_seq (Q8 (Zw (v:=(.slice a3 ((F_2 x2_).getD []).length cap3)) rfl (z25 rfl Tryz.underlying44 ?_)))))))
       have hlen6:=RSl.len63 hz1
       replace hP:=hP hlen6
       refine Zw (v:=(.int .i64 (0:Int))) rfl (wpList_nil (Q3 (wp_block ?_)))
       refine w9s (fun k_7 f z=> ∃(σ11:Hv) (g:Fr),f=(upd (upd (upd (upd g 0 (.slice a3 ((F_2 x2_).getD []).length cap3)) 1 (.func (.func 191) #[] #[(.pointer (some ⟨b7,0,none⟩))])) 7 (.int .i64 ((((F_2 x2_).getD []).length:Nat):Int))) 8 (.int .i64 ((k_7:Nat):Int)))/\St ⟨w,σ,[]⟩ z σ11 [vec v13 9 1 left_3.length ((left_3).flatMap Qp),vec v14 9 1 out_3.length ((out_3).flatMap Qp),emap b6 (fun y:Bool=>(Value.bool (y))) F_4,blk b7 268 [(.map (some b6))],blk b3 267 [(.map (some b2))],vec v6 9 1 ((cpt r1_).length) ((cpt r1_).flatMap Qp)]/\Sub σ9 σ11) hP ⟨σ9,_,(Jm rfl (Jm rfl (Jm rfl (Jm rfl rfl)))),hS46,(Sub.refl _)⟩ ?_
       clear hP
       rintro k_7 Y9 hP f w22 ⟨σ11,g,rfl,hS47,hsub11⟩
       refine Q8 (y75 (r:=(decide (((k_7:Nat):Int)<((((F_2 x2_).getD []).length:Nat):Int)))) rfl rfl rfl (wpList_nil (Q3 (wp_seq ?_))))
       refine if_d (((k_7:Nat):Int)<((((F_2 x2_).getD []).length:Nat):Int)) rfl (fun ht6=> ?_) (fun ht6=> ?_)
       ·
        replace hP:=hP.1 ht6
        refine wp_skip (Q3 (wp_seq (wp_block (Q8 (Zw (v:=(.int .i64 ((k_7:Nat):Int))) rfl (Q9 (v:=(.int .i64 ((k_7:Nat):Int))) rfl (wpList_nil (Q3 (Q8 (Zw (v:=(.func (.func 191) #[] #[(.pointer (some ⟨b7,0,none⟩))])) rfl (Zw (v:=(.slice a3 ((F_2 x2_).getD []).length cap3)) rfl (Zw (v:=(.int .i64 ((k_7:Nat):Int))) rfl ?_))))))))))))
        obtain ⟨x3_,hx3⟩:=getq (l:=((F_2 x2_).getD [])) (k:=k_7) (by have:=ht6;omega)
        replace hP:=hP x3_ hx3
        obtain ⟨ad2,cs2,ha2,hl11,hr10,hR2,hlt2⟩:=RSl.at hz1 hx3
        cases hR2
        refine q0w (k:=k_7) (a':=(ad2.add (k_7*1))) (congrArg (fun z=>Value.slice z _ _) ha2) rfl rfl hlt2 Tryz.underlying44 Tryz.sizeOf9 rfl (q8o (v:=(.string x3_)) rfl Tryz.isAgg9 (hr10.cell (View.of (Sub.trans (Sub.trans hsub7 hsub9) hsub11) hS47.view) 0 rfl rfl) (y78 (args:=[(.string x3_),(.pointer (some ⟨b7,0,none⟩))]) rfl rfl Tryz.call191 ?_))
        refine enter Tryz.func191 rfl rfl rfl ?_
        refine Q8 (Q9 (v:=(.bool false)) rfl (wpList_nil (Q3 (Q8 (q8o (v:=(.map (some b6))) rfl Tryz.isAgg268 (hS47.cell (i:=3) rfl rfl) (Zw (v:=(.string x3_)) rfl (u7x (v:=(.bool (((F_4 x3_).getD false)))) (i:=2) hS47 rfl rfl rfl Tryz.underlying268 Tryz.underlying9 Tryz.zeroValue4 (u37 (fun y:Bool=>(Value.bool (y))) _ rfl) (u3x (r:=(!((F_4 x3_).getD false))) rfl rfl (Q9 (v:=(.bool (!((F_4 x3_).getD false)))) rfl (wpList_nil (Q3 (wp_ret (ret1 rfl (show ev _ _ _=(.bool (!((F_4 x3_).getD false))) from rfl) ?_)))))))))))))
        refine ⟨_,rfl,?_⟩
        refine wpList_nil (Q3 ?_)
        refine qa0z rfl (fun ht7=> ?_) (fun ht7=> ?_)
        ·
         replace hP:=hP.2 (by first|(rw [ht7];exact Bool.false_ne_true)|simp [ht7])
         refine Q8 (Zw (v:=(.int .i64 ((k_7:Nat):Int))) rfl (Q9 (v:=(.int .i64 ((k_7:Nat):Int))) rfl (wpList_nil (Q3 (wp_ret (j8h (q1x (q1x (j8h (q1x (ret1 rfl (show ev _ _ _=(.int .i64 ((k_7:Nat):Int)) from rfl) ?_)))))))))))
         exact ⟨((k_7:Nat):Int),σ11,rfl,hP,hS47,hsub11⟩
        ·
         replace hP:=hP.1 ht7
         refine wp_skip (y4m (Q3 (j4u (y4l (r:=((k_7+1:Nat):Int)) rfl rfl (nw (by omega) (by omega) (by have:=hlen6;omega)) (Zw (v:=(.int .i64 ((k_7+1:Nat):Int))) rfl (wpList_nil (Q3 ?_)))))))
         exact ⟨k_7+1,_,rfl,hP,σ11,_,(Jm rfl (Jm rfl (Jm rfl (Jm rfl rfl)))),hS47,hsub11⟩
       ·
        replace hP:=hP.2 ht6
        refine wp_exit (z89 (z89 (w05 (Q3 (Q8 (Q9 (v:=(.int .i64 (-1:Int))) rfl (wpList_nil (Q3 (wp_ret (ret1 rfl (show ev _ _ _=(.int .i64 (-1:Int)) from rfl) ?_))))))))))
        exact ⟨(-1:Int),σ11,rfl,hP,hS47,hsub11⟩
      ·
       rintro _ w23 ⟨r_2,σ10,rfl,hY4,hS48,hsub10⟩
       refine ⟨_,rfl,?_⟩
       replace hP:=hK5 r_2 hY4
       refine qa0w (r:=(decide ((0:Int)<=r_2))) rfl rfl rfl (Q9 (v:=(.bool (decide ((0:Int)<=r_2)))) rfl (wpList_nil (Q3 (wp_ret (ret1 rfl (show ev _ _ _=(.bool (decide ((0:Int)<=r_2))) from rfl) ?_)))))
       refine ⟨_,rfl,?_⟩
       refine u3x (r:=(!decide ((0:Int)<=r_2))) rfl rfl (Q9 (v:=(.bool (!decide ((0:Int)<=r_2)))) rfl (wpList_nil (Q3 (wp_ret (ret1 rfl (show ev _ _ _=(.bool (!decide ((0:Int)<=r_2))) from rfl) ?_)))))
       refine ⟨_,rfl,?_⟩
       refine wpList_nil (Q3 ?_)
       refine qa0y ((0:Int)<=r_2) rfl (fun ht8=> ?_) (fun ht8=> ?_)
       ·
        replace hP:=hP.2 ht8
        refine Q8 (Zw (v:=(.int .i64 ((k_5:Nat):Int))) rfl (Q9 (v:=(.int .i64 ((k_5:Nat):Int))) rfl (wpList_nil (Q3 (wp_ret (j8h (q1x (q1x (j8h (q1x (ret1 rfl (show ev _ _ _=(.int .i64 ((k_5:Nat):Int)) from rfl) ?_)))))))))))
        exact ⟨((k_5:Nat):Int),σ10,rfl,hP,hS48,(Sub.trans hsub9 hsub10)⟩
       ·
        replace hP:=hP.1 ht8
        refine wp_skip (y4m (Q3 (j4u (y4l (r:=((k_5+1:Nat):Int)) rfl rfl (nw (by omega) (by omega) (by have:=hlen4;omega)) (Zw (v:=(.int .i64 ((k_5+1:Nat):Int))) rfl (wpList_nil (Q3 ?_)))))))
        exact ⟨k_5+1,_,rfl,hP,σ10,_,(Jm rfl (Jm rfl (Jm rfl (Jm rfl rfl)))),hS48,(Sub.trans hsub9 hsub10)⟩
     ·
      replace hP:=hP.2 ht5
      refine wp_exit (z89 (z89 (w05 (Q3 (Q8 (Q9 (v:=(.int .i64 (-1:Int))) rfl (wpList_nil (Q3 (wp_ret (ret1 rfl (show ev _ _ _=(.int .i64 (-1:Int)) from rfl) ?_))))))))))
      exact ⟨(-1:Int),σ9,rfl,hP,hS46,hsub9⟩
    ·
     rintro _ w24 ⟨r_1,σ8,rfl,hY5,hS49,hsub8⟩
     refine ⟨_,rfl,?_⟩
     replace hP:=hK4 r_1 hY5
     refine Q9 (v:=(.int .i64 r_1)) rfl (wpList_nil (Q3 (wp_seq (Q8 (Zw (v:=(.int .i64 r_1)) rfl (y75 (r:=(decide (r_1<(0:Int)))) rfl rfl rfl (wpList_nil (Q3 ?_))))))))
     refine if_d (r_1<(0:Int)) rfl (fun ht9=> ?_) (fun ht9=> ?_)
     ·
      replace hP:=hP.1 ht9
      refine Q8 (Q9 (v:=(.slice none 0 0)) rfl (Q9 (v:=(.int .i64 (12:Int))) rfl (wpList_nil (Q3 (wp_ret (q1x (j8h (q1x (j8h (q1x (ret2 rfl (show ev _ _ _=(.slice none 0 0) from rfl) (show ev _ _ _=(.int .i64 (12:Int)) from rfl) ?_)))))))))))
      have hS50:=hS49.addNil 9 1
      exact ⟨[],(12:Int),(.slice none 0 0),rfl,(St.back (hS50.keep 1 (ms':=[vec (.slice none 0 0) 9 1 0 []]) rfl) (Sub.refl _)),(by simp [Sml]),hP⟩
     ·
      replace hP:=hP.2 ht9
      refine wp_skip (Q3 (Q8 (Zw (v:=v14) rfl (Zw (v:=v13) rfl (Zw (v:=(.int .i64 r_1)) rfl ?_)))))
      obtain ⟨j1_,hj1,hP⟩:=hP
      obtain ⟨x4_,hx4,hP⟩:=hP
      obtain ⟨g2,cp2,hv3⟩:=w9t (hS49.get (i:=0) rfl) (Qv hx4)
      refine q0w (k:=j1_) (a':=⟨g2,j1_*1,none⟩) hv3 rfl hj1 (Qv hx4) Tryz.underlying44 Tryz.sizeOf9 (by simp [G7]) (q8o (v:=(.string x4_)) rfl Tryz.isAgg9 (w1e q6m (j:=0) hv3 (hS49.get (i:=0) rfl) hx4 rfl) (w0e (cs:=[(.string x4_)]) (e:=9) hS49 (fun _=>by kernel_rfl) ?_))
      intro b8 w25 hS51
      obtain ⟨hsm4,hP⟩:=hP
      refine u7y (Ms:=fun v16=>[blk b8 9 [(.string x4_)],vec v13 9 1 left_3.length ((left_3).flatMap Qp),vec v16 9 1 ((out_3++[x4_]).length) ((out_3++[x4_]).flatMap Qp),emap b6 (fun y:Bool=>(Value.bool (y))) F_4,blk b7 268 [(.map (some b6))],blk b3 267 [(.map (some b2))],vec v6 9 1 ((cpt r1_).length) ((cpt r1_).flatMap Qp)]) (k':=(out_3++[x4_]).length) (xs':=(out_3++[x4_]).flatMap Qp) Tryz.underlying44 Tryz.type9 rfl rfl (bytes:=16) rfl rfl (Nat.succ_pos _) hS51 rfl (q:=2) rfl rfl rfl (z0v (hS51.get (i:=0) rfl)) (ones rfl) hsm4 (by omega) (by first|rfl|exact List.length_append.symm|simp) (by simp [Qp]) (fun _=>rfl) ?_
      intro v16 w26 ho12 hS52
      have hS53:=hS52.drop 0 (ms':=[vec v13 9 1 left_3.length ((left_3).flatMap Qp),vec v16 9 1 ((out_3++[x4_]).length) ((out_3++[x4_]).flatMap Qp),emap b6 (fun y:Bool=>(Value.bool (y))) F_4,blk b7 268 [(.map (some b6))],blk b3 267 [(.map (some b2))],vec v6 9 1 ((cpt r1_).length) ((cpt r1_).flatMap Qp)]) rfl
      refine Q9 (v:=v16) rfl (wpList_nil (Q3 (wp_seq (dr (fun z=>St ⟨w,σ,[]⟩ z σ8 [vec v13 9 1 left_3.length ((left_3).flatMap Qp),vec v16 9 1 ((out_3++[x4_]).length) ((out_3++[x4_]).flatMap Qp),blk b7 268 [(.map (some b6))],blk b3 267 [(.map (some b2))],vec v6 9 1 ((cpt r1_).length) ((cpt r1_).flatMap Qp)]) (by kernel_rfl) rfl ?_))))
      have hS54:=hS53.drew
      refine dt 0 1 (v:=(.map (some b6))) (by kernel_rfl) rfl rfl (fun _ _ _ h=>h) (hS54.sublist (.cons_cons _ (.cons_cons _ (.cons _ (List.Sublist.refl _))))) (fun _ hJ _ hK=>q8o (v:=(.map (some b6))) rfl Tryz.isAgg268 (hJ.cell (i:=2) rfl rfl) ⟨rfl,hK⟩) (dt 1 3 (v:=v13) (by kernel_rfl) rfl rfl (fun _ _ _ h=>h) (hS54.sublist (.cons_cons _ (.cons_cons _ (.cons _ (List.Sublist.refl _))))) (fun _ _ _ hK=>Zw (v:=v13) rfl ⟨rfl,hK⟩) (dt 2 7 (v:=(.int .i64 r_1)) (by kernel_rfl) rfl rfl (fun _ _ _ h=>h) (hS54.sublist (.cons_cons _ (.cons_cons _ (.cons _ (List.Sublist.refl _))))) (fun _ _ _ hK=>Zw (v:=(.int .i64 r_1)) rfl ⟨rfl,hK⟩) ?_))
      obtain ⟨j2_,hj2,hP⟩:=hP
      obtain ⟨x5_,hx5,hP⟩:=hP
      obtain ⟨g3,cp3,hv4⟩:=w9t (hS54.get (i:=0) rfl) (Qv hx5)
      refine dt 3 15 (v:=(.pointer (some ⟨g3,j2_*1,none⟩))) (by kernel_rfl) rfl rfl (fun _ _ _ h=>h) (hS54.sublist (.cons_cons _ (.cons_cons _ (.cons _ (List.Sublist.refl _))))) (fun _ _ _ hK=>q0w (k:=j2_) (a':=⟨g3,j2_*1,none⟩) hv4 rfl hj2 (Qv hx5) Tryz.underlying44 Tryz.sizeOf9 (by simp [G7]) ⟨rfl,hK⟩) (dt 4 31 (v:=(.string x5_)) (by kernel_rfl) rfl rfl (fun _ _ _ h=>h) (hS54.sublist (.cons_cons _ (.cons_cons _ (.cons _ (List.Sublist.refl _))))) (fun _ hJ _ hK=>q8o (v:=(.string x5_)) rfl Tryz.isAgg9 (w1e q6m (j:=0) hv4 (hJ.get (i:=0) rfl) hx5 rfl) ⟨rfl,hK⟩) (d1 5 63 (by kernel_rfl) rfl (qa05 (y0:=true) (i:=2) (ms':=[vec v13 9 1 left_3.length ((left_3).flatMap Qp),vec v16 9 1 ((out_3++[x4_]).length) ((out_3++[x4_]).flatMap Qp),emap b6 (fun y:Bool=>(Value.bool (y))) (put F_4 x5_ true),blk b7 268 [(.map (some b6))],blk b3 267 [(.map (some b2))],vec v6 9 1 ((cpt r1_).length) ((cpt r1_).flatMap Qp)]) hS54 rfl rfl rfl rfl Tryz.underlying268 Tryz.underlying9 rfl ?_)))
      intro w27 hS55
      refine wpList_nil ?_
      refine ⟨rfl,(hS55.sublist (.cons_cons _ (.cons_cons _ (.cons _ (List.Sublist.refl _))))),w0f (J':=fun z=>St ⟨w,σ,[]⟩ z σ8 [vec v13 9 1 left_3.length ((left_3).flatMap Qp),vec v16 9 1 ((out_3++[x4_]).length) ((out_3++[x4_]).flatMap Qp),emap b6 (fun y:Bool=>(Value.bool (y))) (put F_4 x5_ true),blk b7 268 [(.map (some b6))],blk b3 267 [(.map (some b2))],vec v6 9 1 ((cpt r1_).length) ((cpt r1_).flatMap Qp)]) (fun w h=>h.sublist (.cons_cons _ (.cons_cons _ (.cons _ (List.Sublist.refl _))))) _ _ _ _ ?_⟩
      refine dz (by kernel_rfl) (Q3 (j4u (Zw (v:=v13) rfl (Zw (v:=(.int .i64 r_1)) rfl (Zw (v:=(.int .i64 r_1)) rfl ?_)))))
      obtain ⟨hi1,hP⟩:=hP
      refine y4l (r:=(r_1+(1:Int))) rfl rfl (nwi rfl hi1) ?_
      obtain ⟨j3_,hj3,hP⟩:=hP
      obtain ⟨hd1,hP⟩:=hP
      obtain ⟨hd2,hP⟩:=hP
      obtain ⟨hsm5,hP⟩:=hP
      have hd3:r_1=((j3_:Nat):Int)/\(r_1+(1:Int))=((j3_+1:Nat):Int):=⟨by omega,by omega⟩
      refine z0d (args:=[v13,(.int .i64 ((j3_:Nat):Int)),(.int .i64 ((j3_+1:Nat):Int))]) (by rw [←hd3.1,←hd3.2];rfl) Tryz.call192 (Calls.mono (y4p (i:=j3_) (j:=(j3_+1)) Tryz.slices_Delete_string hS55.view (hS55.get (i:=0) rfl) (fun b hb=>hS55.off _ (List.mem_of_getElem? (i:=0) rfl) b hb) (by omega) hd2 hd1) ?_)
      rintro _ w28 ⟨v17,rfl,hf2,hg7,ho13⟩
      refine ⟨_,rfl,?_⟩
      have ho14:=q3l ho13
      have hS56:=hS55.growV (i:=0) (o':=vec v17 9 1 ((left_3.take j3_++left_3.drop (j3_+1)).length) ((left_3.take j3_++left_3.drop (j3_+1)).flatMap Qp)) rfl hg7 hf2 ho13 (ms':=[vec v17 9 1 ((left_3.take j3_++left_3.drop (j3_+1)).length) ((left_3.take j3_++left_3.drop (j3_+1)).flatMap Qp),vec v16 9 1 ((out_3++[x4_]).length) ((out_3++[x4_]).flatMap Qp),emap b6 (fun y:Bool=>(Value.bool (y))) (put F_4 x5_ true),blk b7 268 [(.map (some b6))],blk b3 267 [(.map (some b2))],vec v6 9 1 ((cpt r1_).length) ((cpt r1_).flatMap Qp)]) rfl
      refine Q9 (v:=v17) rfl (wpList_nil (y4m (Q3 ?_)))
      exact ⟨left_3.take j3_++left_3.drop (j3_+1),out_3++[x4_],put F_4 x5_ true,_,rfl,hP,v17,v16,σ8,_,(Jm rfl (Jm rfl (Jm rfl (Jm rfl rfl)))),hS56,(Sub.trans hsub7 hsub8),ho14,hsm5,ho12,hsm4⟩
   ·
    replace hP:=hP.2 ht4
    refine wp_exit (z89 (z89 (w05 (Q3 (Q8 (Zw (v:=v14) rfl (Q9 (v:=v14) rfl (Q9 (v:=(.int .i64 (0:Int))) rfl (wpList_nil (Q3 (wp_ret (ret2 rfl (show ev _ _ _=v14 from rfl) (show ev _ _ _=(.int .i64 (0:Int)) from rfl) ?_))))))))))))
    have hS57:=hS45.front 1 rfl (ms':=[vec v14 9 1 out_3.length ((out_3).flatMap Qp),vec v13 9 1 left_3.length ((left_3).flatMap Qp),emap b6 (fun y:Bool=>(Value.bool (y))) F_4,blk b7 268 [(.map (some b6))],blk b3 267 [(.map (some b2))],vec v6 9 1 ((cpt r1_).length) ((cpt r1_).flatMap Qp)]) rfl
    exact ⟨out_3,(0:Int),v14,rfl,(St.back (hS57.keep 1 (ms':=[vec v14 9 1 out_3.length ((out_3).flatMap Qp)]) rfl) (Sub.refl _)),hl9,hP⟩
end Go.Proofs.YtfiomedjdipbgaaGreatDoor
end
noncomputable section
set_option maxRecDepth 100000
open Go Go.RowKit Go.Fl Go.Fl.Lk Go.Fx
namespace Go.En
theorem v0o {σ:Hv} {w:World} {g:Nat} {T:C} {n:Nat} {l:List (car T)} (hV:View σ w) (hs:SRep D (fun _=>none) σ (.pointer (some ⟨g,0,none⟩)) (.fap T n l)) {i j:Nat} {x:car T} {s:FV Sg} (hx:l[i]? =some x) (hj:(D.shape T x)[j]? =some s) (hz:j<D.size T):
  ∃v,w.cell? ⟨g,i*D.size T+j,none⟩=some v/\RepF D σ v s:=by
 generalize hq:Value.pointer (some (⟨g,0,none⟩:Addr))=q at hs
 cases hs with
 |fap ad cs T' N l' hN h hl hr=>
  cases hq
  have hrow:=hr i x hx
  have hlen:=okP.ok.len T x
  have hjl:j<((cs.drop (i*D.size T)).take (D.size T)).length:=by rw [hrow.1,hlen];exact hz
  obtain ⟨v,hv⟩: ∃v,((cs.drop (i*D.size T)).take (D.size T))[j]? =some v:=⟨_,List.getElem?_eq_getElem hjl⟩
  refine ⟨v,?_,hrow.2 j v s hv hj⟩
  rw [List.getElem?_take,if_pos hz,List.getElem?_drop] at hv
  have:=hV.cell (h _ v hv)
  rw [G7,Nat.zero_add] at this
  exact this
theorem u5h: ∀c,c<256->y3u[c]? =some ((Go.Lib.firstT c:Nat):Int):=by decide
theorem qa1v: ∀i,i<16->(w2h[i]?).map (fun a=>(a.lo,a.hi))=some (((Go.Lib.accLo i:Nat):Int),((Go.Lib.accHi i:Nat):Int)):=by decide
theorem tabs {σ:Hv} {w:World} (hV:View σ w) (hG:Glb D σ):Go.Lib.Utf8Tabs (Proofs.Tryz.lays196_ren.g 3) (Proofs.Tryz.lays196_ren.g 4) w:=by
 refine ⟨fun c hc=> ?_,fun i hi=> ?_⟩
 ·have h:=hG.known (Proofs.Tryz.lays196_ren.g 3)
  obtain ⟨v,h1,h2⟩:=v0o (T:= .u8) (n:=256) (l:=y3u) hV h (i:=c) (j:=0) (u5h c hc) rfl (by decide)
  cases h2
  simpa [show D.size C.u8=1 from rfl] using h1
 ·have h:=hG.known (Proofs.Tryz.lays196_ren.g 4)
  have ha:=qa1v i hi
  obtain ⟨a,e1,e2⟩:=Option.map_eq_some_iff.1 ha
  obtain ⟨v,h1,h2⟩:=v0o (T:= .acc) (n:=16) (l:=w2h) hV h (i:=i) (j:=0) e1 rfl (by decide)
  obtain ⟨v',h1',h2'⟩:=v0o (T:= .acc) (n:=16) (l:=w2h) hV h (i:=i) (j:=1) e1 rfl (by decide)
  cases h2;cases h2'
  simp only [Prod.mk.injEq] at e2
  rw [e2.1] at h1;rw [e2.2] at h1'
  refine ⟨by rw [Nat.mul_comm];simpa [show D.size C.acc=2 from rfl] using h1,by rw [Nat.mul_comm];simpa [show D.size C.acc=2 from rfl] using h1'⟩
theorem v9n {w w':World} (h:Below w.heap.size w w'):Keeps [] w w':=⟨h.os,h.tape,h.output,h.size,fun k hk _=>h.block k hk⟩
theorem z2c {σ:Hv} {w w1:World} {args:List (Tr Sg)} {vals:List Value} {K:List (Tr Sg)->List (Tr Sg)->Prop} {rets outs:List (Tr Sg)} {rv:List Value} (hS:St ⟨w,σ,feet []⟩ w σ []) (hK:K rets outs) (hb:Below w.heap.size w w1) (hL:LayL D σ rets rv []) (hT:LayT D σ args outs vals [] []):
  Back D σ w args vals [] K (.returned (retV rv)) w1:=by
 have hk:=v9n hb
 refine ⟨rets,outs,rv,σ,[],[],rfl,hK,hL,hT,?_⟩
 refine ⟨hk,fun b o hbo=> ?_,Sub.refl _,fun _ _ _=>rfl,by simp,by simp,by simp,by simp⟩
 have h1:=hS.view b o hbo
 have hlt:b<w.heap.size:=by
  rcases Nat.lt_or_ge b w.heap.size with h|h
  ·exact h
  ·rw [Array.getElem?_eq_none h] at h1;cases h1
 rw [hk.block b hlt (by simp)];exact h1
theorem j2t:Qe Proofs.Tryz.prog D 246 (conV ([.v]:LP) ([.str]:LV) ([.bool]:LV) ([.same]:LV) (fun a K=>Wt a.1 (fun q0=>K (q0,()) ((),())))):=by
 intro args K hm w σ vals ins hG hL hS
 obtain ⟨a,ha,hm⟩:=Qs hm
 have hargs:=Gg ha
 subst hargs
 obtain ⟨s,_⟩:=a
 cases hL with
 |cons hp hr=>
 cases hr
 cases hp with
 |f hf=>
 cases hf
 have hm:s.size<=9223372036854775807/\K [.f (.bool (Go.Lib.validD s.data.toList))] [.same]:=hm
 refine Calls.mono (Go.Proofs.Any.utf8_ValidString Proofs.Tryz.lays196 s w hm.1 (tabs hS.view hG)) ?_
 rintro e w' ⟨rfl,hb⟩
 exact z2c (rv:=[.bool (Go.Lib.validD s.data.toList)]) hS hm.2 hb (.cons (ms:=[]) (.f (.bool _)) .nil) (.skip (a0:=[]) .nil)
theorem j2u:Qe Proofs.Tryz.prog D 136 (conV ([.v,.v]:LP) ([.str,.str]:LV) ([.bool]:LV) ([.same,.same]:LV) (fun a K=>Bx a.1 a.2.1 (fun q0=>K (q0,()) ((),(),())))):=by
 intro args K hm w σ vals ins hG hL hS
 obtain ⟨a,ha,hm⟩:=Qs hm
 have hargs:=Gg ha
 subst hargs
 obtain ⟨s,t,_⟩:=a
 cases hL with
 |cons hp hr=>
 cases hr with
 |cons hq hr=>
 cases hr
 cases hp with
 |f hf=>
 cases hf
 cases hq with
 |f hf=>
 cases hf
 have hm:s.size<4294967281/\K [.f (.bool (Go.Lib.contains s.data.toList t.data.toList))] [.same,.same]:=hm
 obtain ⟨n,hn⟩:=hG.free 3 .i64 rfl
 refine Calls.mono (Proofs.Tryz.strings_Contains s t n w hm.1 (hS.view.cell hn)) ?_
 rintro e w' ⟨rfl,rfl⟩
 exact z2c (rv:=[.bool (Go.Lib.contains s.data.toList t.data.toList)]) hS hm.2 (Below.refl _ _) (.cons (ms:=[]) (.f (.bool _)) .nil) (.skip (a0:=[]) (.skip (a0:=[]) .nil))
theorem w6a:Qe Proofs.Tryz.prog D 270 (conV ([.v]:LP) ([.str]:LV) ([.int .i64,.ifc]:LV) ([.same]:LV) (fun a K=>q18 a.1 (fun q0 q1=>K (q0,q1,()) ((),())))):=by
 intro args K hm w σ vals ins hG hL hS
 obtain ⟨a,ha,hm⟩:=Qs hm
 have hargs:=Gg ha
 subst hargs
 obtain ⟨s,_⟩:=a
 cases hL with
 |cons hp hr=>
 cases hr
 cases hp with
 |f hf=>
 cases hf
 have hm:s.size<=281474976710656/\u5g s (fun n b=>K [.f (.int .i64 n),.f (.ifc b)] [.same]):=hm
 obtain ⟨hsz,hm⟩:=hm
 have err: ∀g:Nat,D.glob g= .fptr [.ifc false] 0-> ∃ev,w.cell? ⟨g,0,none⟩=some ev/\(ev= .nilIface∨ ∃te pe,ev= .iface te pe):=by
  intro g hg
  have h:=hG.known g
  rw [hg] at h
  generalize hq:Value.pointer (some (⟨g,0,none⟩:Addr))=q at h
  cases h with
  |fptr ad cs l off hv hr=>
  cases hq
  obtain ⟨v,hvl⟩: ∃v,cs=[v]:=List.length_eq_one_iff.1 hr.1
  subst hvl
  have hc:=hS.view.cell (hv 0 v rfl)
  have hR:=hr.2 0 v _ rfl rfl
  refine ⟨v,?_,?_⟩
  ·rw [G7] at hc;exact hc
  ·cases hR with
   |ifcS t p=>exact .inr ⟨t,p,rfl⟩
 unfold u5g at hm
 split at hm
 ·rename_i v hv
  refine Calls.mono (Proofs.Tryz.strconv_Atoi_ok s (by omega) v hv w) ?_
  rintro e w' ⟨rfl,hw⟩
  have hb:Below w.heap.size w w':=by
   rcases hw with rfl|⟨t,rfl⟩
   ·exact Below.refl _ _
   ·exact Go.Lib.bytesWorld_below _ _ _
  exact z2c (rv:=[.int .i64 v,.nilIface]) hS hm hb (.cons (ms:=[]) (.f (.int _ _)) (.cons (ms:=[]) (.f .ifcN) .nil)) (.skip (a0:=[]) .nil)
 ·rename_i hv
  obtain ⟨ev,h1,h2⟩:=err 7 rfl
  refine Calls.mono (Proofs.Tryz.strconv_Atoi_range s hsz hv ev w h1 h2) ?_
  rintro e w' ⟨N,rfl,_,_,hb⟩
  exact z2c (rv:=[.int .i64 _,.iface _ _]) hS hm hb (.cons (ms:=[]) (.f (.int _ _)) (.cons (ms:=[]) (.f (.ifcS _ _)) .nil)) (.skip (a0:=[]) .nil)
 ·rename_i hv
  obtain ⟨ev,h1,h2⟩:=err 6 rfl
  refine Calls.mono (Proofs.Tryz.strconv_Atoi_syntax s hsz hv ev w h1 h2) ?_
  rintro e w' ⟨N,rfl,_,_,hb⟩
  exact z2c (rv:=[.int .i64 _,.iface _ _]) hS hm hb (.cons (ms:=[]) (.f (.int _ _)) (.cons (ms:=[]) (.f (.ifcS _ _)) .nil)) (.skip (a0:=[]) .nil)
theorem w0t (l:List ByteArray):l.flatMap Qp=l.map Value.string:=by
 induction l with
 |nil=>rfl
 |cons a l ih=>rw [List.flatMap_cons,List.map_cons,ih];rfl
theorem qa1w (l:List ByteArray):(cpt l).length<=l.length:=by
 unfold cpt Go.Lib.compact
 rw [List.length_map]
 have h: ∀(d:Array (List UInt8)) (m:Nat),(Go.Lib.compactUpTo d m).length<=m:=by
  intro d m
  unfold Go.Lib.compactUpTo
  rw [List.length_map]
  exact Nat.le_trans (List.length_filter_le _ _) (by simp)
 simpa using h _ _
theorem u0u {σ:Hv} {xs:List Value} {l:List ByteArray} (h:Els D σ C.str xs l):xs=l.flatMap Qp:=by
 have h1:xs.length=l.length:=by rw [h.1];exact Nat.mul_one _
 rw [w0t]
 refine List.ext_getElem? fun i=> ?_
 rw [List.getElem?_map]
 rcases Nat.lt_or_ge i l.length with hi|hi
 ·obtain ⟨v,hv⟩: ∃v,xs[i]? =some v:=⟨_,List.getElem?_eq_getElem (by omega)⟩
  obtain ⟨x,hx⟩: ∃x,l[i]? =some x:=⟨_,List.getElem?_eq_getElem hi⟩
  have hR:=(h.2 i x hx).2 0 v (.str x) (by rw [show D.size C.str=1 from rfl,Nat.mul_one,List.getElem?_take,if_pos (by decide),List.getElem?_drop];exact hv) rfl
  rw [hv,hx]
  cases hR
  rfl
 ·rw [List.getElem?_eq_none (by omega),List.getElem?_eq_none hi];rfl
theorem v0p (σ:Hv) (l:List ByteArray):Els D σ C.str (l.flatMap Qp) l:=by
 rw [w0t]
 refine ⟨by rw [List.length_map];exact (Nat.mul_one _).symm,fun i x hx=> ?_⟩
 rw [show D.size C.str=1 from rfl,Nat.mul_one]
 have hx:l[i]? =some x:=hx
 have e:((l.map Value.string).drop i).take 1=[.string x]:=by
  rw [←List.map_drop,List.drop_eq_getElem_cons (List.getElem?_eq_some_iff.1 hx).1,(List.getElem?_eq_some_iff.1 hx).2];rfl
 rw [e]
 refine ⟨rfl,fun j v s hj hs=> ?_⟩
 cases j with
 |zero=>cases hj;cases hs;exact .str x
 |succ j=>cases hj
theorem q7u:Qe Proofs.Tryz.prog D 80 (conV ([.own 9 C.str]:LP) ([.vec 9 C.str]:LV) ([]:LV) ([.vec 9 C.str]:LV) (fun a K=>Z0 a.1 (fun q0=>K () (q0,())))):=by
 intro args K hm w σ vals ins hG hL hS
 obtain ⟨a,ha,hm⟩:=Qs hm
 have hargs:=Gg ha
 subst hargs
 obtain ⟨s,_⟩:=a
 cases hL with
 |cons hp hr=>
 cases hr
 cases hp with
 |vec hE hl h1=>
 have hx:=u0u hE
 subst hx
 have hm:K [] [.vec 9 C.str (srt s)]:=hm
 refine Calls.mono (y2z Proofs.Tryz.slices_Sort_string Proofs.Tryz.slices_Sort_string_none hS.view (hS.get (i:=0) rfl) rfl (fun b hb=>hS.off _ (List.mem_of_getElem? (i:=0) rfl) b hb) (by omega)) ?_
 rintro _ w1 ⟨rfl,hg,ho⟩
 have hS1:=hS.growV (i:=0) (o':=vec _ 9 1 s.length ((srt s).flatMap Qp)) rfl hg rfl ho (ms':=[vec _ 9 1 s.length ((srt s).flatMap Qp)]) rfl
 refine ⟨[],_,[],σ,[],[vec _ 9 1 (srt s).length ((srt s).flatMap Qp)],rfl,hm,.nil,.keep (.vec (v0p σ _) (Nat.le_trans (Nat.le_of_eq (W9 _)) hl) h1) .nil,?_⟩
 have e:(srt s).length=s.length:=W9 _
 rw [e];exact hS1
theorem q5r:Qe Proofs.Tryz.prog D 184 (conV ([.own 9 C.str]:LP) ([.vec 9 C.str]:LV) ([.vec 9 C.str]:LV) ([.same]:LV) (fun a K=>Jv a.1 (fun q0=>K (q0,()) ((),())))):=by
 intro args K hm w σ vals ins hG hL hS
 obtain ⟨a,ha,hm⟩:=Qs hm
 have hargs:=Gg ha
 subst hargs
 obtain ⟨s,_⟩:=a
 cases hL with
 |cons hp hr=>
 cases hr
 cases hp with
 |vec hE hl h1=>
 have hx:=u0u hE
 subst hx
 have hm:K [.vec 9 C.str (cpt s)] [.same]:=hm
 refine Calls.mono (w1d Proofs.Tryz.slices_Compact_string Proofs.Tryz.slices_Compact_string_empty hS.view (hS.get (i:=0) rfl) rfl (fun b hb=>hS.off _ (List.mem_of_getElem? (i:=0) rfl) b hb) (by omega)) ?_
 rintro _ w1 ⟨v1,rfl,hf,hg,ho⟩
 have hlc:(cpt s).length<=140737488355328:=Nat.le_trans (qa1w _) hl
 have hS1:=hS.growV (i:=0) (o':=vec v1 9 1 (cpt s).length ((cpt s).flatMap Qp)) rfl hg hf ho (ms':=[vec v1 9 1 (cpt s).length ((cpt s).flatMap Qp)]) rfl
 exact ⟨[.vec 9 C.str (cpt s)],[.same],[v1],σ,[vec v1 9 1 (cpt s).length ((cpt s).flatMap Qp)],[],rfl,hm,.cons (.vec (v0p σ _) hlc (q3l ho)) .nil,.skip .nil,hS1⟩
theorem u9i {σ:Hv} {v:Value} {l:List ByteArray} (h:RepF D σ v (.sl C.str l)):RSl 1 (REnc Qp) σ v l:=by
 obtain ⟨a,cap,e1,e2,e3,e4⟩:=h.toRSl okP.ok
 refine ⟨a,cap,e1,e2,e3,fun i x hx=> ?_⟩
 obtain ⟨ad,cs,f1,f2,f3,f4⟩:=e4 i x hx
 refine ⟨ad,cs,f1,f2,f3,?_⟩
 obtain ⟨u,rfl⟩: ∃u,cs=[u]:=List.length_eq_one_iff.1 f2
 have g1:=f4.2 0 u (.str x) rfl rfl
 cases g1
 rfl
theorem u5i {σ:Hv} {v:Value} {l:List Edg} (h:RepF D σ v (.sl C.edge l)):RSl 2 (REnc qa07) σ v (l.map fun e=>(e.1,e.2)):=by
 obtain ⟨a,cap,e1,e2,e3,e4⟩:=h.toRSl okP.ok
 have hl:(l.map fun e=>(e.1,e.2)).length=l.length:=List.length_map ..
 refine ⟨a,cap,by rw [hl];exact e1,by rw [hl];exact e2,by rw [hl];exact e3,fun i x hx=> ?_⟩
 rw [List.getElem?_map] at hx
 obtain ⟨y,hy,rfl⟩:=Option.map_eq_some_iff.1 hx
 obtain ⟨ad,cs,f1,f2,f3,f4⟩:=e4 i y hy
 refine ⟨ad,cs,f1,f2,f3,?_⟩
 obtain ⟨u,v,rfl⟩: ∃u v,cs=[u,v]:=by
  match cs,f2 with
  |[u,v],_=>exact ⟨u,v,rfl⟩
 have g1:=f4.2 0 u (.str y.src) rfl rfl
 have g2:=f4.2 1 v (.str y.dst) rfl rfl
 cases g1;cases g2
 rfl
theorem v0q:Qe Proofs.Tryz.prog D 139 (conV ([.sl C.str,.sl C.edge]:LP) ([.sl C.str,.sl C.edge]:LV) ([.vec 9 C.str,.int .i64]:LV) ([.same,.same]:LV) (fun a K=>P_graph_Order a.1 a.2.1 (fun q0 q1=>K (q0,q1,()) ((),(),())))):=by
 intro args K hm w σ vals ins hG hL hS
 obtain ⟨a,ha,hm⟩:=Qs hm
 have hargs:=Gg ha
 subst hargs
 obtain ⟨s,t,_⟩:=a
 cases hL with
 | @cons _ _ v1 _ _ _ hp hr=>
 cases hr with
 | @cons _ _ v2 _ _ _ hq hr=>
 cases hr
 cases hp with
 |f hf1=>
 cases hq with
 |f hf2=>
 have hm:Go.Fl.P_graph_Order s (t.map fun e=>(e.1,e.2)) (fun l n=>K [.vec 9 C.str l,.f (.int .i64 n)] [.same,.same]):=hm
 refine Calls.mono (Go.Proofs.YtfiomedjdipbgaaGreatDoor.w_graph_Order s (t.map fun e=>(e.1,e.2)) v1 v2 hS.view (u9i hf1) (u5i hf2) hm) ?_
 rintro e w1 ⟨l,n,v,rfl,hS1,hsm,hK⟩
 have hl:l.length<=140737488355328:=by unfold Sml at hsm;omega
 exact ⟨[.vec 9 C.str l,.f (.int .i64 n)],[.same,.same],[v,.int .i64 n],σ,[vec v 9 1 l.length (l.flatMap Qp)],[],rfl,hK,.cons (.vec (v0p σ _) hl (q3l (hS1.get (i:=0) rfl))) (.cons (ms:=[]) (.f (.int _ _)) .nil),.skip (a0:=[]) (.skip (a0:=[]) .nil),hS1⟩
theorem w2y:Qe Proofs.Tryz.prog D 231 (conV ([.v,.v]:LP) ([.str,.str]:LV) ([.vec 9 C.str]:LV) ([.same,.same]:LV) (fun a K=>q39 a.1 a.2.1 (fun q0=>K (q0,()) ((),(),())))):=by
 intro args K hm w σ vals ins hG hL hS
 obtain ⟨a,ha,hm⟩:=Qs hm
 have hargs:=Gg ha
 subst hargs
 obtain ⟨s,t,_⟩:=a
 cases hL with
 |cons hp hr=>
 cases hr with
 |cons hq hr=>
 cases hr
 cases hp with
 |f hf=>
 cases hf
 cases hq with
 |f hf=>
 cases hf
 have hm:t.size=1/\s.size<4294967281/\K [.vec 9 C.str (q2u s t)] [.same,.same]:=hm
 obtain ⟨h1,hsz,hm⟩:=hm
 obtain ⟨n,hn⟩:=hG.free 3 .i64 rfl
 have hlen:(q2u s t).length=Go.Lib.countB s t+1:=Go.Lib.splitB_all t (by omega) 0 _ s rfl
 have hcnt:=Go.Lib.countB_le t (by omega) s.size s (Nat.le_refl _)
 refine Calls.mono (Proofs.Tryz.strings_Split s t n w hsz (hS.view.cell hn) (by omega)) ?_
 rintro e w' ⟨rfl,rfl⟩
 have ho:(vec (.slice (some ⟨w.heap.size,0,none⟩) (q2u s t).length (q2u s t).length) 9 1 (q2u s t).length ((q2u s t).flatMap Qp)).ok (w.alloc (.cells ((q2u s t).map Value.string).toArray 9)):=by
  refine ⟨by rw [w0t];simp,.inr ⟨w.heap.size,_,_,rfl,Nat.zero_le _,heap_alloc_new _ _,Nat.le_refl _,by unfold maxLen;omega,by simp,?_⟩⟩
  rw [w0t,Nat.mul_one]
  exact List.take_of_length_le (by rw [List.length_map];exact Nat.le_refl _)
 have hS1:=hS.add (Ur w _) ho (by rintro k ⟨⟩;exact Nat.le_refl _)
 have hl:(q2u s t).length<=140737488355328:=by omega
 have hr:=(⟨[.vec 9 C.str (q2u s t)],[.same,.same],[_],σ,[_],[],rfl,hm,.cons (.vec (v0p σ _) hl (q3l ho)) .nil,.skip (a0:=[]) (.skip (a0:=[]) .nil),hS1⟩:Back D σ w [.f (.str s),.f (.str t)] [.string s,.string t] [] K (.returned (retV [.slice (some ⟨w.heap.size,0,none⟩) (q2u s t).length (q2u s t).length])) (w.alloc (.cells ((q2u s t).map Value.string).toArray 9)))
 rw [hlen] at hr
 exact hr
end Go.En
end
noncomputable section
set_option maxRecDepth 100000
open Go Go.RowKit Go.Fl Go.Fl.Lk Go.Fx
namespace Go.En
theorem q6i:Ent Proofs.Tryz.prog 57:=Qg (by kernel_rfl) (by kernel_rfl) (by kernel_rfl)
def q6y (X:J5):Con Sg:=conV ([]:LP) ([]:LV) ([.vec 177 C.decl]:LV) ([]:LV) (fun _ K=>X (fun q0=>K (q0,()) ()))
def v0r:PT:=Qj ([]:LS)
def v0s:Ev Sg:=E0
theorem z0j:Qe Proofs.Tryz.prog D 57 (q6y W4):=Ql (E:=v0s) (p:=v0r) (fuel:=4) (rk:=[.own 177 C.decl]) h_E0 fun a K=>by kernel_rfl
theorem y5n:Ent Proofs.Tryz.prog 86:=Qg (by kernel_rfl) (by kernel_rfl) (by kernel_rfl)
def y3x (X:j2o):Con Sg:=conV ([.ptr 104 [.c,.v]]:LP) ([.ptr 104 [.sl C.u8,.int .i64]]:LV) ([.bool]:LV) ([.ptr 104 [.same,.int .i64]]:LV) (fun a K=>X a.1.1 a.1.2.1 (fun q0 q1=>K (q0,()) (((),q1,()),())))
def u0v:PT:=Qj ([]:LS)
def u0w:Ev Sg:=E0
theorem u5j:Qe Proofs.Tryz.prog D 86 (y3x w0r):=Ql (E:=u0w) (p:=u0v) (fuel:=4) (rk:=[.v]) h_E0 fun a K=>by kernel_rfl
theorem Vg:Ent Proofs.Tryz.prog 49:=Qg (by kernel_rfl) (by kernel_rfl) (by kernel_rfl)
def Gz (X:Q7):Con Sg:=conV ([.ptr 104 [.c,.v],.v]:LP) ([.ptr 104 [.sl C.u8,.int .i64],.int .i64]:LV) ([.int .i64]:LV) ([.ptr 104 [.same,.int .i64],.same]:LV) (fun a K=>X a.1.1 a.1.2.1 a.2.1 (fun q0 q1=>K (q0,()) (((),q1,()),(),())))
def u0x:PT:=Qj ([]:LS)
def u0y (z8l:j2o):Ev Sg:=(E0.with 86 (y3x z8l))
theorem u5k (z8l:j2o) (h:Ev3 (u0y z8l) Proofs.Tryz.prog D):Qe Proofs.Tryz.prog D 49 (Gz (v0g z8l)):=Ql (p:=u0x) (fuel:=4) (rk:=[.v]) h fun a K=>by kernel_rfl
theorem Rr:Qe Proofs.Tryz.prog D 49 (Gz Zx):=u5k w0r (Qf h_E0 y5n u5j)
theorem z8f:Ent Proofs.Tryz.prog 58:=Qg (by kernel_rfl) (by kernel_rfl) (by kernel_rfl)
def z8g (X:Rg):Con Sg:=conV ([.ptr 104 [.c,.v]]:LP) ([.ptr 104 [.sl C.u8,.int .i64]]:LV) ([.str]:LV) ([.ptr 104 [.same,.int .i64]]:LV) (fun a K=>X a.1.1 a.1.2.1 (fun q0 q1=>K (q0,()) (((),q1,()),())))
def u0z:PT:=Qj ([]:LS)
def u00 (Qa:Q7):Ev Sg:=(E0.with 49 (Gz Qa))
theorem u5l (Qa:Q7) (h:Ev3 (u00 Qa) Proofs.Tryz.prog D):Qe Proofs.Tryz.prog D 58 (z8g (v0h Qa)):=Ql (p:=u0z) (fuel:=4) (rk:=[.v]) h fun a K=>by kernel_rfl
theorem w0u:Qe Proofs.Tryz.prog D 58 (z8g q3p):=u5l Zx (Qf h_E0 Vg Rr)
theorem j5o:Ent Proofs.Tryz.prog 51:=Qg (by kernel_rfl) (by kernel_rfl) (by kernel_rfl)
def j2v (X:q2b):Con Sg:=conV ([.ptr 104 [.c,.v],.v]:LP) ([.ptr 104 [.sl C.u8,.int .i64],.int .i64]:LV) ([.int .i64]:LV) ([.ptr 104 [.same,.int .i64],.same]:LV) (fun a K=>X a.1.1 a.1.2.1 a.2.1 (fun q0 q1=>K (q0,()) (((),q1,()),(),())))
def u01:PT:=Qj ([]:LS)
def u02 (Qa:Q7):Ev Sg:=(E0.with 49 (Gz Qa))
theorem u5m (Qa:Q7) (h:Ev3 (u02 Qa) Proofs.Tryz.prog D):Qe Proofs.Tryz.prog D 51 (j2v (v0i Qa)):=Ql (p:=u01) (fuel:=4) (rk:=[.v]) h fun a K=>by kernel_rfl
theorem v0t:Qe Proofs.Tryz.prog D 51 (j2v q7r):=u5m Zx (Qf h_E0 Vg Rr)
theorem w85:Ent Proofs.Tryz.prog 60:=Qg (by kernel_rfl) (by kernel_rfl) (by kernel_rfl)
def v0u (X:z0g):Con Sg:=conV ([.v,.own 9 C.str]:LP) ([.int .i64,.vec 9 C.str]:LV) ([.sl C.str]:LV) ([.same,.same]:LV) (fun a K=>X a.1 a.2.1 (fun q0=>K (q0,()) ((),(),())))
def u03:PT:=Qj ([]:LS)
def u04:Ev Sg:=E0
theorem y3y:Qe Proofs.Tryz.prog D 60 (v0u z74):=Ql (E:=u04) (p:=u03) (fuel:=4) (rk:=[.sl C.str]) h_E0 fun a K=>by kernel_rfl
theorem w86:Ent Proofs.Tryz.prog 112:=Qg (by kernel_rfl) (by kernel_rfl) (by kernel_rfl)
def w0v (X:q7s):Con Sg:=conV ([.ptr 104 [.c,.v]]:LP) ([.ptr 104 [.sl C.u8,.int .i64]]:LV) ([.vec 9 C.str]:LV) ([.ptr 104 [.same,.int .i64]]:LV) (fun a K=>X a.1.1 a.1.2.1 (fun q0 q1=>K (q0,()) (((),q1,()),())))
def u05:PT:=Qj ([(9,⟨[0,2,3,7,8],[],[(0,(104,2))],[(.slot 4,.own 9 C.str),(.slot 5,.int .i64),(.cell 0 1,.int .i64)]⟩),(17,⟨[0,3,4,5,7,8,9,10,11,12],[0],[],[(.slot 6,.int .i64),(.obj 1,.own 9 C.str)]⟩)]:LS)
def u06 (Qa:Q7):Ev Sg:=(E0.with 49 (Gz Qa))
theorem u5n (Qa:Q7) (h:Ev3 (u06 Qa) Proofs.Tryz.prog D):Qe Proofs.Tryz.prog D 112 (w0v (v0j Qa)):=Ql (p:=u05) (fuel:=4) (rk:=[.own 9 C.str]) h fun a K=>by kernel_rfl
theorem y3z:Qe Proofs.Tryz.prog D 112 (w0v z3d):=u5n Zx (Qf h_E0 Vg Rr)
theorem v42:Ent Proofs.Tryz.prog 108:=Qg (by kernel_rfl) (by kernel_rfl) (by kernel_rfl)
def v0v (X:z3e):Con Sg:=conV ([.ptr 104 [.c,.v]]:LP) ([.ptr 104 [.sl C.u8,.int .i64]]:LV) ([.str]:LV) ([.ptr 104 [.same,.int .i64]]:LV) (fun a K=>X a.1.1 a.1.2.1 (fun q0 q1=>K (q0,()) (((),q1,()),())))
def u5o:PT:=Qj ([]:LS)
def u5p (Qa:Q7):Ev Sg:=(E0.with 49 (Gz Qa))
theorem u9j (Qa:Q7) (h:Ev3 (u5p Qa) Proofs.Tryz.prog D):Qe Proofs.Tryz.prog D 108 (v0v (v9k Qa)):=Ql (p:=u5o) (fuel:=4) (rk:=[.v]) h fun a K=>by kernel_rfl
theorem u07:Qe Proofs.Tryz.prog D 108 (v0v j0d):=u9j Zx (Qf h_E0 Vg Rr)
theorem j0w:Ent Proofs.Tryz.prog 109:=Qg (by kernel_rfl) (by kernel_rfl) (by kernel_rfl)
def z6c (X:R1):Con Sg:=conV ([.ptr 104 [.c,.v],.v]:LP) ([.ptr 104 [.sl C.u8,.int .i64],.int .i64]:LV) ([.el C.val]:LV) ([.ptr 104 [.same,.int .i64],.same]:LV) (fun a K=>X a.1.1 a.1.2.1 a.2.1 (fun q0 q1=>K (q0,()) (((),q1,()),(),())))
def y5o:PT:=Qj ([]:LS)
def y5p (Qa:Q7) (Jl:Rg):Ev Sg:=((E0.with 49 (Gz Qa)).with 58 (z8g Jl))
theorem u08 (Qa:Q7) (Jl:Rg) (h:Ev3 (y5p Qa Jl) Proofs.Tryz.prog D):Qe Proofs.Tryz.prog D 109 (z6c (j2p Qa Jl)):=Ql (p:=y5o) (fuel:=4) (rk:=[.el C.val]) h fun a K=>by kernel_rfl
theorem w2z:Qe Proofs.Tryz.prog D 109 (z6c Ha):=u08 Zx q3p (Qf (Qf h_E0 Vg Rr) z8f w0u)
theorem y5q:Ent Proofs.Tryz.prog 165:=Qg (by kernel_rfl) (by kernel_rfl) (by kernel_rfl)
def v0w (X:z77):Con Sg:=conV ([.ptr 104 [.c,.v]]:LP) ([.ptr 104 [.sl C.u8,.int .i64]]:LV) ([.el C.ex]:LV) ([.ptr 104 [.same,.int .i64]]:LV) (fun a K=>X a.1.1 a.1.2.1 (fun q0 q1=>K (q0,()) (((),q1,()),())))
def u09:PT:=Qj ([(68,⟨[0,2,3,4,5,6,8,9,10,11,12,13,14,15,16,17,23,24,25,26,27,28,29,30,31],[3,2],[(5,(66,5)),(0,(104,2)),(1,(66,5))],[(.cell 5 0,.int .i64),(.cell 5 1,.str),(.cell 5 2,.str),(.cell 5 3,.own 115 C.val),(.cell 5 4,.own 66 C.ex),(.cell 0 1,.int .i64),(.cell 1 0,.int .i64),(.cell 1 1,.str),(.cell 1 2,.str),(.cell 1 3,.own 115 C.val),(.cell 1 4,.own 66 C.ex)]⟩),(60,⟨[0,2,4,5,6,9,11,12,13,14,16,17,24,25,26,27,28,29,30,31,32,33],[],[(0,(104,2)),(5,(66,5)),(1,(66,5))],[(.cell 0 1,.int .i64),(.cell 5 0,.int .i64),(.cell 5 1,.str),(.cell 5 2,.str),(.cell 5 3,.own 115 C.val),(.cell 5 4,.own 66 C.ex),(.cell 1 0,.int .i64),(.cell 1 1,.str),(.cell 1 2,.str),(.cell 1 3,.own 115 C.val),(.cell 1 4,.own 66 C.ex)]⟩),(37,⟨[0,2,4,5,6,9,11,12,13,14,16,17,24,25,26,27,28,29,30,31,32,33,34,35,36,37,46,47,48,49],[1],[(5,(66,5)),(0,(104,2))],[(.slot 7,.int .i64),(.cell 5 3,.own 115 C.val),(.cell 0 1,.int .i64)]⟩)]:LS)
def u1a (Q1:J5) (Qa:Q7) (q53:z3e) (Z9:R1):Ev Sg:=((((E0.with 57 (q6y Q1)).with 49 (Gz Qa)).with 108 (v0v q53)).with 109 (z6c Z9))
theorem u5q (Q1:J5) (Qa:Q7) (q53:z3e) (Z9:R1) (h:Ev3 (u1a Q1 Qa q53 Z9) Proofs.Tryz.prog D):Qe Proofs.Tryz.prog D 165 (v0w (v0k Q1 Qa q53 Z9)):=Ql (p:=u09) (fuel:=4) (rk:=[.el C.ex]) h fun a K=>by kernel_rfl
theorem u5r:Qe Proofs.Tryz.prog D 165 (v0w z78):=u5q W4 Zx j0d Ha (Qf (Qf (Qf (Qf h_E0 q6i z0j) Vg Rr) v42 u07) j0w w2z)
theorem j5p:Ent Proofs.Tryz.prog 113:=Qg (by kernel_rfl) (by kernel_rfl) (by kernel_rfl)
def w0w (X:q2c):Con Sg:=conV ([.ptr 104 [.c,.v],.sl C.str,.v]:LP) ([.ptr 104 [.sl C.u8,.int .i64],.sl C.str,.int .i64]:LV) ([.el C.ex]:LV) ([.ptr 104 [.same,.int .i64],.same,.same]:LV) (fun a K=>X a.1.1 a.1.2.1 a.2.1 a.2.2.1 (fun q0 q1=>K (q0,()) (((),q1,()),(),(),())))
def v43:PT:=Qj ([(8,⟨[0,1,2,6,13,14],[0,1],[],[(.slot 7,.int .i64)]⟩),(28,⟨[0,1,2,6,7,13,14,23,24,25,27,28,40,41],[0,1],[],[(.slot 49,.bool)]⟩),(37,⟨[0,1,2,6,7,8,9,10,13,14,23,24,25,27,28,40,41,49,52,53,54,55,56,57,58,59],[1],[(0,(104,2)),(4,(66,5))],[(.slot 11,.int .i64),(.cell 0 1,.int .i64),(.cell 4 0,.int .i64),(.cell 4 1,.str),(.cell 4 2,.str),(.cell 4 3,.own 115 C.val),(.cell 4 4,.own 66 C.ex)]⟩),(46,⟨[0,1,2,6,7,8,9,10,11,12,13,14,23,24,25,27,28,40,41,49,52,53,54,55,56,57,58,59,60,61,62,65,66,67,68,69],[0,12,11,4],[(13,(66,5))],[(.cell 13 0,.int .i64),(.cell 13 1,.str),(.cell 13 2,.str),(.cell 13 3,.sl C.val),(.cell 13 4,.sl C.ex)]⟩)]:LS)
def v44 (Qa:Q7) (z4n:z77):Ev Sg:=((E0.with 49 (Gz Qa)).with 165 (v0w z4n))
theorem y5r (Qa:Q7) (z4n:z77) (X:q2c) (list:List (Int)) (at_:Int) (segments:List (ByteArray)) (levels:Int) (K:Ex->Int->Prop):w0s Qa z4n X list at_ segments levels K=fnV (((v44 Qa z4n).with 113 (w0w X)).pl v43) 4 113 ([.ptr 104 [.c,.v],.sl C.str,.v]:LP) ([.el C.ex]:LP) ([.ptr 104 [.sl C.u8,.int .i64],.sl C.str,.int .i64]:LV) ([.el C.ex]:LV) ([.ptr 104 [.same,.int .i64],.same,.same]:LV) ((list,at_,()),segments,levels,()) (fun r o=>K r.1 o.1.2.1):=by kernel_rfl
theorem y30:Qe Proofs.Tryz.prog D 113 (w0w z3f):=by
 show Qe _ _ _ (conV ([.ptr 104 [.c,.v],.sl C.str,.v]:LP) ([.ptr 104 [.sl C.u8,.int .i64],.sl C.str,.int .i64]:LV) ([.el C.ex]:LV) ([.ptr 104 [.same,.int .i64],.same,.same]:LV) fun a K=>z3f a.1.1 a.1.2.1 a.2.1 a.2.2.1 (fun q0 q1=>K (q0,()) (((),q1,()),(),(),())))
 refine z4r (E:=v44 Zx z78) (fuel:=4) (rk:=[.el C.ex]) (p:=v43) (Qf (Qf h_E0 Vg Rr) y5q u5r) j5p fun a K h X hX=> ?_
 exact h (fun list at_ segments levels K=>X ((list,at_,()),segments,levels,()) fun r o=>K r.1 o.1.2.1) (fun list at_ segments levels K hs=>hX ((list,at_,()),segments,levels,()) (fun r o=>K r.1 o.1.2.1) (Eq.mp (y5r Zx z78 (fun list at_ segments levels K=>X ((list,at_,()),segments,levels,()) fun r o=>K r.1 o.1.2.1) list at_ segments levels K) hs))
theorem w6b:Ent Proofs.Tryz.prog 59:=Qg (by kernel_rfl) (by kernel_rfl) (by kernel_rfl)
def z6d (X:q2v):Con Sg:=conV ([.ptr 104 [.c,.v],.ptr 36 [.v,.v,.v,.sl C.decl,.own 147 C.seg,.own 122 C.flag,.own 59 C.layer,.own 68 C.exper]]:LP) ([.ptr 104 [.sl C.u8,.int .i64],.ptr 36 [.str,.str,.int .i64,.sl C.decl,.vec 147 C.seg,.vec 122 C.flag,.vec 59 C.layer,.vec 68 C.exper]]:LV) ([]:LV) ([.ptr 104 [.same,.int .i64],.ptr 36 [.str,.str,.int .i64,.sl C.decl,.vec 147 C.seg,.vec 122 C.flag,.vec 59 C.layer,.vec 68 C.exper]]:LV) (fun a K=>X a.1.1 a.1.2.1 a.2.1.1 a.2.1.2.1 a.2.1.2.2.1 a.2.1.2.2.2.1 a.2.1.2.2.2.2.1 a.2.1.2.2.2.2.2.1 a.2.1.2.2.2.2.2.2.1 a.2.1.2.2.2.2.2.2.2.1 (fun q0 q1 q2 q3 q4 q5 q6 q7 q8=>K () (((),q0,()),(q1,q2,q3,q4,q5,q6,q7,q8,()),())))
def v0x:PT:=Qj ([(5,⟨[0,1,4,7,8,10],[3,4,5],[(0,(104,2)),(1,(36,8))],[(.slot 5,.int .i64),(.cell 0 1,.int .i64),(.cell 1 4,.own 147 C.seg)]⟩),(14,⟨[0,1,4,5,6,7,8,10,11,12,13,14,17,18,19,20,21,22,23,24,25],[11,10,9,1],[(12,(147,9)),(0,(104,2))],[(.cell 12 1,.str),(.cell 0 1,.int .i64)]⟩),(18,⟨[0,1,4,5,6,7,8,10,11,12,13,14,17,18,19,20,21,22,23,24,25],[11,10,9,1],[(12,(147,9)),(0,(104,2))],[(.cell 12 4,.int .i64),(.cell 12 5,.str),(.cell 12 6,.str),(.cell 12 7,.sl C.val),(.cell 12 8,.sl C.ex),(.cell 0 1,.int .i64)]⟩)]:LS)
def v0y (Qa:Q7) (Rv:z0g) (B0:q7s) (B1:q2c):Ev Sg:=((((E0.with 49 (Gz Qa)).with 60 (v0u Rv)).with 112 (w0v B0)).with 113 (w0w B1))
theorem v45 (Qa:Q7) (Rv:z0g) (B0:q7s) (B1:q2c) (h:Ev3 (v0y Qa Rv B0 B1) Proofs.Tryz.prog D):Qe Proofs.Tryz.prog D 59 (z6d (z5h Qa Rv B0 B1)):=Ql (p:=v0x) (fuel:=4) (rk:=[]) h fun a K=>by kernel_rfl
theorem v47:Qe Proofs.Tryz.prog D 59 (z6d q6o):=v45 Zx z74 z3d z3f (Qf (Qf (Qf (Qf h_E0 Vg Rr) w85 y3y) w86 y3z) j5p y30)
theorem j5q:Ent Proofs.Tryz.prog 114:=Qg (by kernel_rfl) (by kernel_rfl) (by kernel_rfl)
def z6e (X:B7):Con Sg:=conV ([.el C.env]:LP) ([.el C.env]:LV) ([.vec 9 C.str]:LV) ([.same]:LV) (fun a K=>X a.1 (fun q0=>K (q0,()) ((),())))
def j8l:PT:=Qj ([(7,⟨[0,1,2],[0],[],[(.slot 3,.own 9 C.str),(.slot 4,.int .i64)]⟩)]:LS)
def j8m:Ev Sg:=E0
theorem w29:Qe Proofs.Tryz.prog D 114 (z6e B8):=Ql (E:=j8m) (p:=j8l) (fuel:=4) (rk:=[.own 9 C.str]) h_E0 fun a K=>by kernel_rfl
theorem w3a:Ent Proofs.Tryz.prog 117:=Qg (by kernel_rfl) (by kernel_rfl) (by kernel_rfl)
def j2w (X:q3q):Con Sg:=conV ([.ptr 104 [.c,.v],.v]:LP) ([.ptr 104 [.sl C.u8,.int .i64],.int .i64]:LV) ([.vec 70 C.range]:LV) ([.ptr 104 [.same,.int .i64],.same]:LV) (fun a K=>X a.1.1 a.1.2.1 a.2.1 (fun q0 q1=>K (q0,()) (((),q1,()),(),())))
def y5s:PT:=Qj ([(26,⟨[0,1,4],[],[(0,(104,2))],[(.slot 5,.own 70 C.range),(.slot 6,.int .i64),(.slot 7,.int .i64),(.cell 0 1,.int .i64)]⟩),(32,⟨[0,1,4,5,6,7,49,50,51,52],[0,1],[],[(.slot 11,.int .i64)]⟩),(9,⟨[0,1,4],[],[(0,(104,2))],[(.slot 5,.own 70 C.range),(.slot 6,.int .i64),(.slot 7,.int .i64),(.slot 8,.int .i64),(.cell 0 1,.int .i64)]⟩),(20,⟨[0,1,4,5,6,7,8,9,12,13,14,15,16,17,18,19,22,23,24,25,26,27,28,29,30],[0,1],[],[(.slot 10,.int .i64)]⟩)]:LS)
def y5t (Qa:Q7) (Wc:q2b):Ev Sg:=((E0.with 49 (Gz Qa)).with 51 (j2v Wc))
theorem u1b (Qa:Q7) (Wc:q2b) (h:Ev3 (y5t Qa Wc) Proofs.Tryz.prog D):Qe Proofs.Tryz.prog D 117 (j2w (w2j Qa Wc)):=Ql (p:=y5s) (fuel:=4) (rk:=[.own 70 C.range]) h fun _ _=>by kernel_rfl
theorem v48:Qe Proofs.Tryz.prog D 117 (j2w q8w):=u1b Zx q7r (Qf (Qf h_E0 Vg Rr) j5o v0t)
end Go.En
end
noncomputable section
set_option maxRecDepth 100000
open Go Go.RowKit Go.Fl Go.Fl.Lk Go.Fx
namespace Go.En
theorem v9o:Ent Proofs.Tryz.prog 115:=Qg (by kernel_rfl) (by kernel_rfl) (by kernel_rfl)
def w3b (X:z1o):Con Sg:=conV ([.ptr 104 [.c,.v],.v]:LP) ([.ptr 104 [.sl C.u8,.int .i64],.int .i64]:LV) ([.el C.serve]:LV) ([.ptr 104 [.same,.int .i64],.same]:LV) (fun a K=>X a.1.1 a.1.2.1 a.2.1 (fun q0 q1=>K (q0,()) (((),q1,()),(),())))
def y5u:PT:=Qj ([]:LS)
def y5v (Qa:Q7) (Jl:Rg) (Hy:q3q) (Q1:J5):Ev Sg:=((((E0.with 49 (Gz Qa)).with 58 (z8g Jl)).with 117 (j2w Hy)).with 57 (q6y Q1))
theorem u1c (Qa:Q7) (Jl:Rg) (Hy:q3q) (Q1:J5) (h:Ev3 (y5v Qa Jl Hy Q1) Proofs.Tryz.prog D):Qe Proofs.Tryz.prog D 115 (w3b (w2k Qa Jl Hy Q1)):=Ql (p:=y5u) (fuel:=4) (rk:=[.el C.serve]) h fun a K=>by kernel_rfl
theorem u1d:Qe Proofs.Tryz.prog D 115 (w3b z5i):=u1c Zx q3p q8w W4 (Qf (Qf (Qf (Qf h_E0 Vg Rr) z8f w0u) w3a v48) q6i z0j)
theorem v9p:Ent Proofs.Tryz.prog 166:=Qg (by kernel_rfl) (by kernel_rfl) (by kernel_rfl)
def v49 (X:z5j):Con Sg:=conV ([]:LP) ([]:LV) ([.ptr 248 [.vec 318 C.node,.map C.node C.i64,.bool]]:LV) ([]:LV) (fun _ K=>X (fun q0 q1 q2=>K ((q0,q1,q2,()),()) ()))
def y5w:PT:=Qj ([]:LS)
def y5x:Ev Sg:=E0
theorem u1e:Qe Proofs.Tryz.prog D 166 (v49 w2l):=Ql (E:=y5x) (p:=y5w) (fuel:=4) (rk:=[.ptr 248 [.own 318 C.node,.map C.node C.i64,.v]]) h_E0 fun a K=>by kernel_rfl
theorem q7v:Ent Proofs.Tryz.prog 143:=Qg (by kernel_rfl) (by kernel_rfl) (by kernel_rfl)
def q9l (X:Wd):Con Sg:=conV ([.v]:LP) ([.int .i64]:LV) ([.bool]:LV) ([.same]:LV) (fun a K=>X a.1 (fun q0=>K (q0,()) ((),())))
def v5a:PT:=Qj ([]:LS)
def v5b:Ev Sg:=E0
theorem z3u:Qe Proofs.Tryz.prog D 143 (q9l We):=Ql (E:=v5b) (p:=v5a) (fuel:=4) (rk:=[.v]) h_E0 fun a K=>by kernel_rfl
theorem v9q:Ent Proofs.Tryz.prog 204:=Qg (by kernel_rfl) (by kernel_rfl) (by kernel_rfl)
def v5c (X:z5k):Con Sg:=conV ([.sl C.str,.sl C.str]:LP) ([.sl C.str,.sl C.str]:LV) ([.bool]:LV) ([.same,.same]:LV) (fun a K=>X a.1 a.2.1 (fun q0=>K (q0,()) ((),(),())))
def y5y:PT:=Qj ([(9,⟨[0,1,6,7,8,9,10],[],[],[(.slot 5,.int .i64)]⟩)]:LS)
def y5z:Ev Sg:=E0
theorem u1f:Qe Proofs.Tryz.prog D 204 (v5c z5l):=Ql (E:=y5z) (p:=y5y) (fuel:=4) (rk:=[.v]) h_E0 fun a K=>by kernel_rfl
theorem v5d:Ent Proofs.Tryz.prog 144:=Qg (by kernel_rfl) (by kernel_rfl) (by kernel_rfl)
def j5r (X:q40):Con Sg:=conV ([.el C.val,.el C.val]:LP) ([.el C.val,.el C.val]:LV) ([.bool]:LV) ([.same,.same]:LV) (fun a K=>X a.1 a.2.1 (fun q0=>K (q0,()) ((),(),())))
def v9r:PT:=Qj ([]:LS)
def v9s (z2p:z5k):Ev Sg:=(E0.with 204 (v5c z2p))
theorem y50 (z2p:z5k) (h:Ev3 (v9s z2p) Proofs.Tryz.prog D):Qe Proofs.Tryz.prog D 144 (j5r (j5d z2p)):=Ql (p:=v9r) (fuel:=4) (rk:=[.v]) h fun a K=>by kernel_rfl
theorem y51:Qe Proofs.Tryz.prog D 144 (j5r q41):=y50 z5l (Qf h_E0 v9q u1f)
theorem j5s:Ent Proofs.Tryz.prog 278:=Qg (by kernel_rfl) (by kernel_rfl) (by kernel_rfl)
def q9m (X:Hb):Con Sg:=conV ([.sl C.val,.sl C.val]:LP) ([.sl C.val,.sl C.val]:LV) ([.bool]:LV) ([.same,.same]:LV) (fun a K=>X a.1 a.2.1 (fun q0=>K (q0,()) ((),(),())))
def j8n:PT:=Qj ([(9,⟨[0,1,6,7,8,9,10],[],[],[(.slot 5,.int .i64)]⟩)]:LS)
def j8o (Bl:q40):Ev Sg:=(E0.with 144 (j5r Bl))
theorem w3c (Bl:q40) (h:Ev3 (j8o Bl) Proofs.Tryz.prog D):Qe Proofs.Tryz.prog D 278 (q9m (q8x Bl)):=Ql (p:=j8n) (fuel:=4) (rk:=[.v]) h fun a K=>by kernel_rfl
theorem w3d:Qe Proofs.Tryz.prog D 278 (q9m Hc):=w3c q41 (Qf h_E0 v5d y51)
theorem z6f:Ent Proofs.Tryz.prog 259:=Qg (by kernel_rfl) (by kernel_rfl) (by kernel_rfl)
def z3v (X:V7):Con Sg:=conV ([.el C.ex,.el C.ex]:LP) ([.el C.ex,.el C.ex]:LV) ([.bool]:LV) ([.same,.same]:LV) (fun a K=>X a.1 a.2.1 (fun q0=>K (q0,()) ((),(),())))
def z9i:PT:=Qj ([(280000009,⟨[0,1,6,7,8,9,10],[],[],[(.slot 5,.int .i64)]⟩)]:LS)
def z9j (Hz:Hb):Ev Sg:=(E0.with 278 (q9m Hz))
theorem w3e (Hz:Hb) (X:V7) (a:Ex) (b:Ex) (K:Bool->Prop):z3g Hz X a b K=fnV (((z9j Hz).with 259 (z3v X)).pl z9i) 4 259 ([.el C.ex,.el C.ex]:LP) ([.v]:LP) ([.el C.ex,.el C.ex]:LV) ([.bool]:LV) ([.same,.same]:LV) (a,b,()) (fun r _=>K r.1):=by kernel_rfl
theorem v0z:Qe Proofs.Tryz.prog D 259 (z3v q01):=by
 show Qe _ _ _ (conV ([.el C.ex,.el C.ex]:LP) ([.el C.ex,.el C.ex]:LV) ([.bool]:LV) ([.same,.same]:LV) fun a K=>q01 a.1 a.2.1 (fun q0=>K (q0,()) ((),(),())))
 refine z4r (E:=z9j Hc) (fuel:=4) (rk:=[.v]) (p:=z9i) (Qf h_E0 j5s w3d) z6f fun a K h X hX=> ?_
 exact h (fun a b K=>X (a,b,()) fun r _=>K r.1) (fun a b K hs=>hX (a,b,()) (fun r _=>K r.1) (Eq.mp (w3e Hc (fun a b K=>X (a,b,()) fun r _=>K r.1) a b K) hs))
theorem j2x:Ent Proofs.Tryz.prog 221:=Qg (by kernel_rfl) (by kernel_rfl) (by kernel_rfl)
def z3w (X:Rh):Con Sg:=conV ([.sl C.ex,.el C.ex]:LP) ([.sl C.ex,.el C.ex]:LV) ([.int .i64]:LV) ([.same,.same]:LV) (fun a K=>X a.1 a.2.1 (fun q0=>K (q0,()) ((),(),())))
def v5e:PT:=Qj ([(5,⟨[0,1,3],[0],[],[(.slot 5,.int .i64)]⟩)]:LS)
def v5f (q1j:V7):Ev Sg:=(E0.with 259 (z3v q1j))
theorem v9t (q1j:V7) (h:Ev3 (v5f q1j) Proofs.Tryz.prog D):Qe Proofs.Tryz.prog D 221 (z3w (j0e q1j)):=Ql (p:=v5e) (fuel:=4) (rk:=[.v]) h fun a K=>by kernel_rfl
theorem w3f:Qe Proofs.Tryz.prog D 221 (z3w G3):=v9t q01 (Qf h_E0 z6f v0z)
theorem z4t:Ent Proofs.Tryz.prog 218:=Qg (by kernel_rfl) (by kernel_rfl) (by kernel_rfl)
def z05 (X:Vl):Con Sg:=conV ([.sl C.ex,.el C.ex]:LP) ([.sl C.ex,.el C.ex]:LV) ([.sl C.ex]:LV) ([.same,.same]:LV) (fun a K=>X a.1 a.2.1 (fun q0=>K (q0,()) ((),(),())))
def z6g:PT:=Qj ([(6,⟨[1,3,4],[0],[],[(.slot 0,.sl C.ex)]⟩),(9,⟨[1,3,4],[0],[],[(.slot 0,.sl C.ex),(.slot 5,.int .i64)]⟩)]:LS)
def z6h (Wx:Rh) (Q2:Wd):Ev Sg:=((E0.with 221 (z3w Wx)).with 143 (q9l Q2))
theorem j8p (Wx:Rh) (Q2:Wd) (X:Vl) (l:List (Ex)) (e:Ex) (K:List (Ex)->Prop):z0y Wx Q2 X l e K=fnV (((z6h Wx Q2).with 218 (z05 X)).pl z6g) 4 218 ([.sl C.ex,.el C.ex]:LP) ([.sl C.ex]:LP) ([.sl C.ex,.el C.ex]:LV) ([.sl C.ex]:LV) ([.same,.same]:LV) (l,e,()) (fun r _=>K r.1):=by kernel_rfl
theorem w6c:Qe Proofs.Tryz.prog D 218 (z05 q12):=by
 show Qe _ _ _ (conV ([.sl C.ex,.el C.ex]:LP) ([.sl C.ex,.el C.ex]:LV) ([.sl C.ex]:LV) ([.same,.same]:LV) fun a K=>q12 a.1 a.2.1 (fun q0=>K (q0,()) ((),(),())))
 refine z4r (E:=z6h G3 We) (fuel:=4) (rk:=[.sl C.ex]) (p:=z6g) (Qf (Qf h_E0 j2x w3f) q7v z3u) z4t fun a K h X hX=> ?_
 exact h (fun l e K=>X (l,e,()) fun r _=>K r.1) (fun l e K hs=>hX (l,e,()) (fun r _=>K r.1) (Eq.mp (j8p G3 We (fun l e K=>X (l,e,()) fun r _=>K r.1) l e K) hs))
theorem j5t:Ent Proofs.Tryz.prog 167:=Qg (by kernel_rfl) (by kernel_rfl) (by kernel_rfl)
def q9n (X:Hd):Con Sg:=conV ([.sl C.rule]:LP) ([.sl C.rule]:LV) ([.sl C.ex]:LV) ([.same]:LV) (fun a K=>X a.1 (fun q0=>K (q0,()) ((),())))
def j8q:PT:=Qj ([(7,⟨[0,2],[],[],[(.slot 3,.sl C.ex),(.slot 4,.int .i64)]⟩)]:LS)
def j8r (Bm:Vl):Ev Sg:=(E0.with 218 (z05 Bm))
theorem w3g (Bm:Vl) (h:Ev3 (j8r Bm) Proofs.Tryz.prog D):Qe Proofs.Tryz.prog D 167 (q9n (q8y Bm)):=Ql (p:=j8q) (fuel:=4) (rk:=[.sl C.ex]) h fun a K=>by kernel_rfl
theorem w3h:Qe Proofs.Tryz.prog D 167 (q9n B9):=w3g q12 (Qf h_E0 z4t w6c)
theorem q4j:Ent Proofs.Tryz.prog 260:=Qg (by kernel_rfl) (by kernel_rfl) (by kernel_rfl)
def q4k (X:Ji):Con Sg:=conV ([.ptr 248 [.own 318 C.node,.map C.node C.i64,.v],.v]:LP) ([.ptr 248 [.vec 318 C.node,.map C.node C.i64,.bool],.int .i64]:LV) ([.bool]:LV) ([.ptr 248 [.vec 318 C.node,.map C.node C.i64,.bool],.same]:LV) (fun a K=>X a.1.1 a.1.2.1 a.1.2.2.1 a.2.1 (fun q0 q1 q2 q3=>K (q0,()) ((q1,q2,q3,()),(),())))
def w6d:PT:=Qj ([]:LS)
def w6e:Ev Sg:=E0
theorem q7w:Qe Proofs.Tryz.prog D 260 (q4k Wo):=Ql (E:=w6e) (p:=w6d) (fuel:=4) (rk:=[.v]) h_E0 fun a K=>by kernel_rfl
theorem j2y:Ent Proofs.Tryz.prog 280:=Qg (by kernel_rfl) (by kernel_rfl) (by kernel_rfl)
def z4u (X:R2):Con Sg:=conV ([.ptr 248 [.own 318 C.node,.map C.node C.i64,.v],.v]:LP) ([.ptr 248 [.vec 318 C.node,.map C.node C.i64,.bool],.int .i64]:LV) ([.map C.i64 C.bool]:LV) ([.ptr 248 [.vec 318 C.node,.map C.node C.i64,.bool],.same]:LV) (fun a K=>X a.1.1 a.1.2.1 a.1.2.2.1 a.2.1 (fun q0 q1 q2 q3=>K (q0,()) ((q1,q2,q3,()),(),())))
def j5u:PT:=Qj ([(7,⟨[0,1,4,5,8,9,10],[0,1,2],[],[(.slot 6,.own 3 C.i64),(.obj 3,.map C.i64 C.bool)]⟩)]:LS)
def j5v:Ev Sg:=E0
theorem j8s:Qe Proofs.Tryz.prog D 280 (z4u R3):=Ql (E:=j5v) (p:=j5u) (fuel:=4) (rk:=[.map C.i64 C.bool]) h_E0 fun a K=>by kernel_rfl
theorem j0x:Ent Proofs.Tryz.prog 262:=Qg (by kernel_rfl) (by kernel_rfl) (by kernel_rfl)
def q5s (X:Ue):Con Sg:=conV ([.ptr 248 [.own 318 C.node,.map C.node C.i64,.v],.v]:LP) ([.ptr 248 [.vec 318 C.node,.map C.node C.i64,.bool],.int .i64]:LV) ([.vec 3 C.i64]:LV) ([.ptr 248 [.vec 318 C.node,.map C.node C.i64,.bool],.same]:LV) (fun a K=>X a.1.1 a.1.2.1 a.1.2.2.1 a.2.1 (fun q0 q1 q2 q3=>K (q0,()) ((q1,q2,q3,()),(),())))
def j2z:PT:=Qj ([(13,⟨[0,1,4,5,8,9,10,11,12,13,14],[5,0,4,2],[],[(.slot 6,.own 3 C.i64),(.slot 7,.int .i64)]⟩)]:LS)
def j20 (Qw:Ji) (Ga:R2):Ev Sg:=((E0.with 260 (q4k Qw)).with 280 (z4u Ga))
theorem j5w (Qw:Ji) (Ga:R2) (h:Ev3 (j20 Qw Ga) Proofs.Tryz.prog D):Qe Proofs.Tryz.prog D 262 (q5s (z1p Qw Ga)):=Ql (p:=j2z) (fuel:=4) (rk:=[.own 3 C.i64]) h fun a K=>by kernel_rfl
theorem j5x:Qe Proofs.Tryz.prog D 262 (q5s He):=j5w Wo R3 (Qf (Qf h_E0 q4j q7w) j2y j8s)
theorem Bv:Ent Proofs.Tryz.prog 223:=Qg (by kernel_rfl) (by kernel_rfl) (by kernel_rfl)
def V6 (X:Zd):Con Sg:=conV ([.ptr 248 [.own 318 C.node,.map C.node C.i64,.v],.v]:LP) ([.ptr 248 [.vec 318 C.node,.map C.node C.i64,.bool],.int .i64]:LV) ([.bool]:LV) ([.ptr 248 [.vec 318 C.node,.map C.node C.i64,.bool],.same]:LV) (fun a K=>X a.1.1 a.1.2.1 a.1.2.2.1 a.2.1 (fun q0 q1 q2 q3=>K (q0,()) ((q1,q2,q3,()),(),())))
def z6i:PT:=Qj ([(11,⟨[0,1,5,7,8,9,10,11,12,13],[5,0,4,2],[],[(.slot 6,.int .i64)]⟩)]:LS)
def z6j (Qw:Ji) (Ui:Ue):Ev Sg:=((E0.with 260 (q4k Qw)).with 262 (q5s Ui))
theorem z8p (Qw:Ji) (Ui:Ue) (h:Ev3 (z6j Qw Ui) Proofs.Tryz.prog D):Qe Proofs.Tryz.prog D 223 (V6 (q7l Qw Ui)):=Ql (p:=z6i) (fuel:=4) (rk:=[.v]) h fun _ _=>by kernel_rfl
theorem q1z:Qe Proofs.Tryz.prog D 223 (V6 Z4):=z8p Wo He (Qf (Qf h_E0 q4j q7w) j0x j5x)
end Go.En
end
noncomputable section
set_option maxRecDepth 100000
open Go Go.RowKit Go.Fl Go.Fl.Lk Go.Fx
namespace Go.En
theorem q7b:Ent Proofs.Tryz.prog 261:=Qg (by kernel_rfl) (by kernel_rfl) (by kernel_rfl)
def q6j (X:J7):Con Sg:=conV ([.ptr 248 [.own 318 C.node,.map C.node C.i64,.v],.v]:LP) ([.ptr 248 [.vec 318 C.node,.map C.node C.i64,.bool],.int .i64]:LV) ([.int .i64]:LV) ([.ptr 248 [.vec 318 C.node,.map C.node C.i64,.bool],.same]:LV) (fun a K=>X a.1.1 a.1.2.1 a.1.2.2.1 a.2.1 (fun q0 q1 q2 q3=>K (q0,()) ((q1,q2,q3,()),(),())))
def w3i:PT:=Qj ([]:LS)
def w3j:Ev Sg:=E0
theorem z06:Qe Proofs.Tryz.prog D 261 (q6j J8):=Ql (E:=w3j) (p:=w3i) (fuel:=4) (rk:=[.v]) h_E0 fun a K=>by kernel_rfl
theorem j21:Ent Proofs.Tryz.prog 281:=Qg (by kernel_rfl) (by kernel_rfl) (by kernel_rfl)
def q7c (X:U4):Con Sg:=conV ([.ptr 248 [.own 318 C.node,.map C.node C.i64,.v],.v,.v]:LP) ([.ptr 248 [.vec 318 C.node,.map C.node C.i64,.bool],.int .i64,.int .i64]:LV) ([.int .i64,.int .i64]:LV) ([.ptr 248 [.vec 318 C.node,.map C.node C.i64,.bool],.same,.same]:LV) (fun a K=>X a.1.1 a.1.2.1 a.1.2.2.1 a.2.1 a.2.2.1 (fun q0 q1 q2 q3 q4=>K (q0,q1,()) ((q2,q3,q4,()),(),(),())))
def j5y:PT:=Qj ([]:LS)
def j5z (Q4:J7):Ev Sg:=(E0.with 261 (q6j Q4))
theorem j8t (Q4:J7) (h:Ev3 (j5z Q4) Proofs.Tryz.prog D):Qe Proofs.Tryz.prog D 281 (q7c (z4s Q4)):=Ql (p:=j5y) (fuel:=4) (rk:=[.v,.v]) h fun a K=>by kernel_rfl
theorem j8u:Qe Proofs.Tryz.prog D 281 (q7c V3):=j8t J8 (Qf h_E0 q7b z06)
theorem z2d:Ent Proofs.Tryz.prog 222:=Qg (by kernel_rfl) (by kernel_rfl) (by kernel_rfl)
def q4l (X:Wp):Con Sg:=conV ([.ptr 248 [.own 318 C.node,.map C.node C.i64,.v],.v,.v,.v]:LP) ([.ptr 248 [.vec 318 C.node,.map C.node C.i64,.bool],.int .i64,.int .i64,.int .i64]:LV) ([.int .i64]:LV) ([.ptr 248 [.vec 318 C.node,.map C.node C.i64,.bool],.same,.same,.same]:LV) (fun a K=>X a.1.1 a.1.2.1 a.1.2.2.1 a.2.1 a.2.2.1 a.2.2.2.1 (fun q0 q1 q2 q3=>K (q0,()) ((q1,q2,q3,()),(),(),(),())))
def j8v:PT:=Qj ([]:LS)
def j8w (Qw:Ji) (Q4:J7):Ev Sg:=((E0.with 260 (q4k Qw)).with 261 (q6j Q4))
theorem w3k (Qw:Ji) (Q4:J7) (h:Ev3 (j8w Qw Q4) Proofs.Tryz.prog D):Qe Proofs.Tryz.prog D 222 (q4l (z5m Qw Q4)):=Ql (p:=j8v) (fuel:=4) (rk:=[.v]) h fun a K=>by kernel_rfl
theorem z6k:Qe Proofs.Tryz.prog D 222 (q4l J9):=w3k Wo J8 (Qf (Qf h_E0 q4j q7w) q7b z06)
theorem q9o:Ent Proofs.Tryz.prog 263:=Qg (by kernel_rfl) (by kernel_rfl) (by kernel_rfl)
def q5t (X:Jq):Con Sg:=conV ([.ptr 248 [.own 318 C.node,.map C.node C.i64,.v],.v,.v,.v,.map C.a3 C.i64]:LP) ([.ptr 248 [.vec 318 C.node,.map C.node C.i64,.bool],.int .i64,.int .i64,.int .i64,.map C.a3 C.i64]:LV) ([.int .i64]:LV) ([.ptr 248 [.vec 318 C.node,.map C.node C.i64,.bool],.same,.same,.same,.map C.a3 C.i64]:LV) (fun a K=>X a.1.1 a.1.2.1 a.1.2.2.1 a.2.1 a.2.2.1 a.2.2.2.1 a.2.2.2.2.1 (fun q0 q1 q2 q3 q4=>K (q0,()) ((q1,q2,q3,()),(),(),(),q4,())))
def z0k:PT:=Qj ([(36,⟨[0,1,2,3,4,10,11,12,13,14,15,16,17,18,19,20,21,22,24,25,26,27,28,29,30,31,33,34,35,37,38,39,40,41,42,43,44,45,46,47,49,50,51,52,53,54,55,56,57,58,59,60,61,62,63,64,65,66,67,68,69,70,71,72,73,74,75,76,77,78,79,80,81,82,83,84,85,86,87,88,89,90,91],[3,4],[(0,(248,3))],[(.slot 23,.int .i64),(.cell 0 0,.own 318 C.node),(.cell 0 2,.bool),(.obj 2,.map C.node C.i64)]⟩)]:LS)
def z0l (Q4:J7) (W6:U4) (Ja:Wp):Ev Sg:=(((E0.with 261 (q6j Q4)).with 281 (q7c W6)).with 222 (q4l Ja))
theorem j0y (Q4:J7) (W6:U4) (Ja:Wp) (X:Jq) (ns:List (Nd)) (ids:(Nd->Option (Int))) (full:Bool) (f:Int) (g:Int) (h:Int) (known:(A3->Option (Int))) (K:Int->List (Nd)->(Nd->Option (Int))->Bool->(A3->Option (Int))->Prop):Hf Q4 W6 Ja X ns ids full f g h known K=fnV (((z0l Q4 W6 Ja).with 263 (q5t X)).pl z0k) 4 263 ([.ptr 248 [.own 318 C.node,.map C.node C.i64,.v],.v,.v,.v,.map C.a3 C.i64]:LP) ([.v]:LP) ([.ptr 248 [.vec 318 C.node,.map C.node C.i64,.bool],.int .i64,.int .i64,.int .i64,.map C.a3 C.i64]:LV) ([.int .i64]:LV) ([.ptr 248 [.vec 318 C.node,.map C.node C.i64,.bool],.same,.same,.same,.map C.a3 C.i64]:LV) ((ns,ids,full,()),f,g,h,known,()) (fun r o=>K r.1 o.1.1 o.1.2.1 o.1.2.2.1 o.2.2.2.2.1):=by kernel_rfl
theorem j50:Qe Proofs.Tryz.prog D 263 (q5t Hg):=by
 show Qe _ _ _ (conV ([.ptr 248 [.own 318 C.node,.map C.node C.i64,.v],.v,.v,.v,.map C.a3 C.i64]:LP) ([.ptr 248 [.vec 318 C.node,.map C.node C.i64,.bool],.int .i64,.int .i64,.int .i64,.map C.a3 C.i64]:LV) ([.int .i64]:LV) ([.ptr 248 [.vec 318 C.node,.map C.node C.i64,.bool],.same,.same,.same,.map C.a3 C.i64]:LV) fun a K=>Hg a.1.1 a.1.2.1 a.1.2.2.1 a.2.1 a.2.2.1 a.2.2.2.1 a.2.2.2.2.1 (fun q0 q1 q2 q3 q4=>K (q0,()) ((q1,q2,q3,()),(),(),(),q4,())))
 refine z4r (E:=z0l J8 V3 J9) (fuel:=4) (rk:=[.v]) (p:=z0k) (Qf (Qf (Qf h_E0 q7b z06) j21 j8u) z2d z6k) q9o fun a K h X hX=> ?_
 exact h (fun ns ids full f g h known K=>X ((ns,ids,full,()),f,g,h,known,()) fun r o=>K r.1 o.1.1 o.1.2.1 o.1.2.2.1 o.2.2.2.2.1) (fun ns ids full f g h known K hs=>hX ((ns,ids,full,()),f,g,h,known,()) (fun r o=>K r.1 o.1.1 o.1.2.1 o.1.2.2.1 o.2.2.2.2.1) (Eq.mp (j0y J8 V3 J9 (fun ns ids full f g h known K=>X ((ns,ids,full,()),f,g,h,known,()) fun r o=>K r.1 o.1.1 o.1.2.1 o.1.2.2.1 o.2.2.2.2.1) ns ids full f g h known K) hs))
theorem q2l:Ent Proofs.Tryz.prog 224:=Qg (by kernel_rfl) (by kernel_rfl) (by kernel_rfl)
def Ht (X:Zv):Con Sg:=conV ([.ptr 248 [.own 318 C.node,.map C.node C.i64,.v],.v,.v,.v]:LP) ([.ptr 248 [.vec 318 C.node,.map C.node C.i64,.bool],.int .i64,.int .i64,.int .i64]:LV) ([.int .i64]:LV) ([.ptr 248 [.vec 318 C.node,.map C.node C.i64,.bool],.same,.same,.same]:LV) (fun a K=>X a.1.1 a.1.2.1 a.1.2.2.1 a.2.1 a.2.2.1 a.2.2.2.1 (fun q0 q1 q2 q3=>K (q0,()) ((q1,q2,q3,()),(),(),(),())))
def j22:PT:=Qj ([]:LS)
def j23 (Qr:Zd) (Qw:Ji) (Uj:Jq):Ev Sg:=(((E0.with 223 (V6 Qr)).with 260 (q4k Qw)).with 263 (q5t Uj))
theorem j51 (Qr:Zd) (Qw:Ji) (Uj:Jq) (h:Ev3 (j23 Qr Qw Uj) Proofs.Tryz.prog D):Qe Proofs.Tryz.prog D 224 (Ht (z1q Qr Qw Uj)):=Ql (p:=j22) (fuel:=4) (rk:=[.v]) h fun a K=>by kernel_rfl
theorem q5u:Qe Proofs.Tryz.prog D 224 (Ht Jr):=j51 Z4 Wo Hg (Qf (Qf (Qf h_E0 Bv q1z) q4j q7w) q9o j50)
theorem j8x:Ent Proofs.Tryz.prog 219:=Qg (by kernel_rfl) (by kernel_rfl) (by kernel_rfl)
def z07 (X:Be):Con Sg:=conV ([.ptr 248 [.own 318 C.node,.map C.node C.i64,.v],.v]:LP) ([.ptr 248 [.vec 318 C.node,.map C.node C.i64,.bool],.int .i64]:LV) ([.int .i64]:LV) ([.ptr 248 [.vec 318 C.node,.map C.node C.i64,.bool],.same]:LV) (fun a K=>X a.1.1 a.1.2.1 a.1.2.2.1 a.2.1 (fun q0 q1 q2 q3=>K (q0,()) ((q1,q2,q3,()),(),())))
def w3l:PT:=Qj ([]:LS)
def w3m (Qx:Zv):Ev Sg:=(E0.with 224 (Ht Qx))
theorem w6f (Qx:Zv) (h:Ev3 (w3m Qx) Proofs.Tryz.prog D):Qe Proofs.Tryz.prog D 219 (z07 (z9f Qx)):=Ql (p:=w3l) (fuel:=4) (rk:=[.v]) h fun a K=>by kernel_rfl
theorem w6g:Qe Proofs.Tryz.prog D 219 (z07 Bf):=w6f Jr (Qf h_E0 q2l q5u)
theorem j8y:Ent Proofs.Tryz.prog 220:=Qg (by kernel_rfl) (by kernel_rfl) (by kernel_rfl)
def z08 (X:Bg):Con Sg:=conV ([.ptr 248 [.own 318 C.node,.map C.node C.i64,.v],.v,.v]:LP) ([.ptr 248 [.vec 318 C.node,.map C.node C.i64,.bool],.int .i64,.int .i64]:LV) ([.int .i64]:LV) ([.ptr 248 [.vec 318 C.node,.map C.node C.i64,.bool],.same,.same]:LV) (fun a K=>X a.1.1 a.1.2.1 a.1.2.2.1 a.2.1 a.2.2.1 (fun q0 q1 q2 q3=>K (q0,()) ((q1,q2,q3,()),(),(),())))
def w3n:PT:=Qj ([]:LS)
def w3o (Qr:Zd) (Qx:Zv):Ev Sg:=((E0.with 223 (V6 Qr)).with 224 (Ht Qx))
theorem w6h (Qr:Zd) (Qx:Zv) (h:Ev3 (w3o Qr Qx) Proofs.Tryz.prog D):Qe Proofs.Tryz.prog D 220 (z08 (z9g Qr Qx)):=Ql (p:=w3n) (fuel:=4) (rk:=[.v]) h fun a K=>by kernel_rfl
theorem w6i:Qe Proofs.Tryz.prog D 220 (z08 Bh):=w6h Z4 Jr (Qf (Qf h_E0 Bv q1z) q2l q5u)
theorem z6l:Ent Proofs.Tryz.prog 169:=Qg (by kernel_rfl) (by kernel_rfl) (by kernel_rfl)
def q7x (X:V8):Con Sg:=conV ([.ptr 248 [.own 318 C.node,.map C.node C.i64,.v],.v,.v]:LP) ([.ptr 248 [.vec 318 C.node,.map C.node C.i64,.bool],.int .i64,.int .i64]:LV) ([.int .i64]:LV) ([.ptr 248 [.vec 318 C.node,.map C.node C.i64,.bool],.same,.same]:LV) (fun a K=>X a.1.1 a.1.2.1 a.1.2.2.1 a.2.1 a.2.2.1 (fun q0 q1 q2 q3=>K (q0,()) ((q1,q2,q3,()),(),(),())))
def w6j:PT:=Qj ([]:LS)
def w6k (Qr:Zd) (Qx:Zv):Ev Sg:=((E0.with 223 (V6 Qr)).with 224 (Ht Qx))
theorem v00 (Qr:Zd) (Qx:Zv) (h:Ev3 (w6k Qr Qx) Proofs.Tryz.prog D):Qe Proofs.Tryz.prog D 169 (q7x (j2q Qr Qx)):=Ql (p:=w6j) (fuel:=4) (rk:=[.v]) h fun a K=>by kernel_rfl
theorem j24:Qe Proofs.Tryz.prog D 169 (q7x Gh):=v00 Z4 Jr (Qf (Qf h_E0 Bv q1z) q2l q5u)
theorem z2e:Ent Proofs.Tryz.prog 168:=Qg (by kernel_rfl) (by kernel_rfl) (by kernel_rfl)
def q9p (X:Wq):Con Sg:=conV ([.ptr 248 [.own 318 C.node,.map C.node C.i64,.v],.sl C.ex,.el C.ex]:LP) ([.ptr 248 [.vec 318 C.node,.map C.node C.i64,.bool],.sl C.ex,.el C.ex]:LV) ([.int .i64]:LV) ([.ptr 248 [.vec 318 C.node,.map C.node C.i64,.bool],.same,.same]:LV) (fun a K=>X a.1.1 a.1.2.1 a.1.2.2.1 a.2.1 a.2.2.1 (fun q0 q1 q2 q3=>K (q0,()) ((q1,q2,q3,()),(),(),())))
def z4v:PT:=Qj ([(16,⟨[0,1,2,5,6,11,12,13,14,15,16],[3,0,1,2],[],[(.slot 26,.bool)]⟩),(21,⟨[0,1,2,5,6,11,12,13,14,15,16,26,29,30,31,32,33,34,35],[3],[(0,(248,3))],[(.slot 7,.int .i64),(.slot 8,.int .i64),(.cell 0 0,.own 318 C.node),(.cell 0 2,.bool),(.obj 2,.map C.node C.i64)]⟩)]:LS)
def z4w (Bn:Be) (Bo:Bg) (Jy:V8) (Wx:Rh) (Ja:Wp):Ev Sg:=(((((E0.with 219 (z07 Bn)).with 220 (z08 Bo)).with 169 (q7x Jy)).with 221 (z3w Wx)).with 222 (q4l Ja))
theorem j52 (Bn:Be) (Bo:Bg) (Jy:V8) (Wx:Rh) (Ja:Wp) (X:Wq) (ns:List (Nd)) (ids:(Nd->Option (Int))) (full:Bool) (atoms:List (Ex)) (e:Ex) (K:Int->List (Nd)->(Nd->Option (Int))->Bool->Prop):q8z Bn Bo Jy Wx Ja X ns ids full atoms e K=fnV (((z4w Bn Bo Jy Wx Ja).with 168 (q9p X)).pl z4v) 4 168 ([.ptr 248 [.own 318 C.node,.map C.node C.i64,.v],.sl C.ex,.el C.ex]:LP) ([.v]:LP) ([.ptr 248 [.vec 318 C.node,.map C.node C.i64,.bool],.sl C.ex,.el C.ex]:LV) ([.int .i64]:LV) ([.ptr 248 [.vec 318 C.node,.map C.node C.i64,.bool],.same,.same]:LV) ((ns,ids,full,()),atoms,e,()) (fun r o=>K r.1 o.1.1 o.1.2.1 o.1.2.2.1):=by kernel_rfl
theorem w3p:Qe Proofs.Tryz.prog D 168 (q9p q0a):=by
 show Qe _ _ _ (conV ([.ptr 248 [.own 318 C.node,.map C.node C.i64,.v],.sl C.ex,.el C.ex]:LP) ([.ptr 248 [.vec 318 C.node,.map C.node C.i64,.bool],.sl C.ex,.el C.ex]:LV) ([.int .i64]:LV) ([.ptr 248 [.vec 318 C.node,.map C.node C.i64,.bool],.same,.same]:LV) fun a K=>q0a a.1.1 a.1.2.1 a.1.2.2.1 a.2.1 a.2.2.1 (fun q0 q1 q2 q3=>K (q0,()) ((q1,q2,q3,()),(),(),())))
 refine z4r (E:=z4w Bf Bh Gh G3 J9) (fuel:=4) (rk:=[.v]) (p:=z4v) (Qf (Qf (Qf (Qf (Qf h_E0 j8x w6g) j8y w6i) z6l j24) j2x w3f) z2d z6k) z2e fun a K h X hX=> ?_
 exact h (fun ns ids full atoms e K=>X ((ns,ids,full,()),atoms,e,()) fun r o=>K r.1 o.1.1 o.1.2.1 o.1.2.2.1) (fun ns ids full atoms e K hs=>hX ((ns,ids,full,()),atoms,e,()) (fun r o=>K r.1 o.1.1 o.1.2.1 o.1.2.2.1) (Eq.mp (j52 Bf Bh Gh G3 J9 (fun ns ids full atoms e K=>X ((ns,ids,full,()),atoms,e,()) fun r o=>K r.1 o.1.1 o.1.2.1 o.1.2.2.1) ns ids full atoms e K) hs))
theorem q9q:Ent Proofs.Tryz.prog 116:=Qg (by kernel_rfl) (by kernel_rfl) (by kernel_rfl)
def q1f (X:Js):Con Sg:=conV ([.sl C.rule]:LP) ([.sl C.rule]:LV) ([.vec 3 C.i64,.int .i64,.bool]:LV) ([.same]:LV) (fun a K=>X a.1 (fun q0 q1 q2=>K (q0,q1,q2,()) ((),())))
def j25:PT:=Qj ([(13,⟨[0,5,6,12,13,14],[],[(0,(248,3))],[(.slot 7,.int .i64),(.slot 8,.own 3 C.i64),(.slot 9,.int .i64),(.cell 0 0,.own 318 C.node),(.cell 0 2,.bool),(.obj 2,.map C.node C.i64)]⟩)]:LS)
def j26 (z2q:z5j) (H0:Hd) (H1:Wq) (Jy:V8):Ev Sg:=((((E0.with 166 (v49 z2q)).with 167 (q9n H0)).with 168 (q9p H1)).with 169 (q7x Jy))
theorem j53 (z2q:z5j) (H0:Hd) (H1:Wq) (Jy:V8) (h:Ev3 (j26 z2q H0 H1 Jy) Proofs.Tryz.prog D):Qe Proofs.Tryz.prog D 116 (q1f (q42 z2q H0 H1 Jy)):=Ql (p:=j25) (fuel:=4) (rk:=[.own 3 C.i64,.v,.v]) h fun a K=>by kernel_rfl
theorem z2f:Qe Proofs.Tryz.prog D 116 (q1f Va):=j53 w2l B9 q0a Gh (Qf (Qf (Qf (Qf h_E0 v9p u1e) j5t w3h) z2e w3p) z6l j24)
theorem v9u:Ent Proofs.Tryz.prog 62:=Qg (by kernel_rfl) (by kernel_rfl) (by kernel_rfl)
def w3q (X:z1r):Con Sg:=conV ([.ptr 104 [.c,.v],.v]:LP) ([.ptr 104 [.sl C.u8,.int .i64],.str]:LV) ([.el C.layer]:LV) ([.ptr 104 [.same,.int .i64],.same]:LV) (fun a K=>X a.1.1 a.1.2.1 a.2.1 (fun q0 q1=>K (q0,()) (((),q1,()),(),())))
def y52:PT:=Qj ([(8,⟨[0,1,4,5,10,11,12,13,14,15,16],[1],[(2,(59,6)),(0,(104,2))],[(.cell 2 1,.str),(.cell 0 1,.int .i64)]⟩),(12,⟨[0,1,4,5,10,11,12,13,14,15,16],[1],[(2,(59,6)),(0,(104,2))],[(.cell 2 3,.int .i64),(.cell 0 1,.int .i64)]⟩),(17,⟨[0,1,4,5,10,11,12,13,14,15,16],[1],[(2,(59,6)),(0,(104,2))],[(.slot 6,.int .i64),(.slot 7,.int .i64),(.cell 2 5,.own 197 C.cool),(.cell 0 1,.int .i64)]⟩)]:LS)
def y53 (Jl:Rg) (Qa:Q7) (Wc:q2b):Ev Sg:=(((E0.with 58 (z8g Jl)).with 49 (Gz Qa)).with 51 (j2v Wc))
theorem u1g (Jl:Rg) (Qa:Q7) (Wc:q2b) (h:Ev3 (y53 Jl Qa Wc) Proofs.Tryz.prog D):Qe Proofs.Tryz.prog D 62 (w3q (w2m Jl Qa Wc)):=Ql (p:=y52) (fuel:=4) (rk:=[.el C.layer]) h fun a K=>by kernel_rfl
theorem u1h:Qe Proofs.Tryz.prog D 62 (w3q z5n):=u1g q3p Zx q7r (Qf (Qf (Qf h_E0 z8f w0u) Vg Rr) j5o v0t)
theorem v5g:Ent Proofs.Tryz.prog 149:=Qg (by kernel_rfl) (by kernel_rfl) (by kernel_rfl)
def w87 (X:z1s):Con Sg:=conV ([.v]:LP) ([.int .i64]:LV) ([.bool]:LV) ([.same]:LV) (fun a K=>X a.1 (fun q0=>K (q0,()) ((),())))
def v9v:PT:=Qj ([]:LS)
def v9w:Ev Sg:=E0
theorem y54:Qe Proofs.Tryz.prog D 149 (w87 z1t):=Ql (E:=v9w) (p:=v9v) (fuel:=4) (rk:=[.v]) h_E0 fun a K=>by kernel_rfl
theorem q9r:Ent Proofs.Tryz.prog 41:=Qg (by kernel_rfl) (by kernel_rfl) (by kernel_rfl)
def q7y (X:Wr):Con Sg:=conV ([.el C.env,.v]:LP) ([.el C.env,.str]:LV) ([.int .i64]:LV) ([.same,.same]:LV) (fun a K=>X a.1 a.2.1 (fun q0=>K (q0,()) ((),(),())))
def w6l:PT:=Qj ([(5,⟨[0,1,2],[0],[],[(.slot 5,.int .i64)]⟩)]:LS)
def w6m:Ev Sg:=E0
theorem z3x:Qe Proofs.Tryz.prog D 41 (q7y Gi):=Ql (E:=w6m) (p:=w6l) (fuel:=4) (rk:=[.v]) h_E0 fun a K=>by kernel_rfl
theorem j54:Ent Proofs.Tryz.prog 95:=Qg (by kernel_rfl) (by kernel_rfl) (by kernel_rfl)
def z6m (X:q0b):Con Sg:=conV ([.sl C.cool,.v]:LP) ([.sl C.cool,.int .i64]:LV) ([.vec 3 C.i64]:LV) ([.same,.same]:LV) (fun a K=>X a.1 a.2.1 (fun q0=>K (q0,()) ((),(),())))
def j8z:PT:=Qj ([(7,⟨[0,1,4,5,9],[],[],[(.slot 6,.int .i64),(.obj 0,.own 3 C.i64)]⟩),(15,⟨[0,1,4,5,6,9,10,11,12,13],[],[],[(.slot 7,.int .i64),(.obj 0,.own 3 C.i64)]⟩),(21,⟨[0,1,4,5,6,7,9,10,11,12,13,20,21,22,23,26,27,28,29,30,31],[],[],[(.slot 8,.int .i64),(.obj 0,.own 3 C.i64)]⟩)]:LS)
def j80:Ev Sg:=E0
theorem w3r:Qe Proofs.Tryz.prog D 95 (z6m q0c):=Ql (E:=j80) (p:=j8z) (fuel:=4) (rk:=[.own 3 C.i64]) h_E0 fun _ _=>by kernel_rfl
end Go.En
end
noncomputable section
set_option maxRecDepth 100000
open Go Go.RowKit Go.Fl Go.Fl.Lk Go.Fx
namespace Go.En
theorem q4m:Ent Proofs.Tryz.prog 150:=Qg (by kernel_rfl) (by kernel_rfl) (by kernel_rfl)
def q5v (X:Jn):Con Sg:=conV ([.sl C.bool]:LP) ([.sl C.bool]:LV) ([.vec 95 C.span]:LV) ([.same]:LV) (fun a K=>X a.1 (fun q0=>K (q0,()) ((),())))
def v5h:PT:=Qj ([(7,⟨[0,2],[],[],[(.slot 3,.own 95 C.span),(.slot 4,.int .i64)]⟩)]:LS)
def v5i:Ev Sg:=E0
theorem q9s:Qe Proofs.Tryz.prog D 150 (q5v Vb):=Ql (E:=v5i) (p:=v5h) (fuel:=4) (rk:=[.own 95 C.span]) h_E0 fun a K=>by kernel_rfl
theorem v01:Ent Proofs.Tryz.prog 151:=Qg (by kernel_rfl) (by kernel_rfl) (by kernel_rfl)
def j0z (X:q43):Con Sg:=conV ([.sl C.i64,.v]:LP) ([.sl C.i64,.int .i64]:LV) ([.vec 95 C.span]:LV) ([.same,.same]:LV) (fun a K=>X a.1 a.2.1 (fun q0=>K (q0,()) ((),(),())))
def v5j:PT:=Qj ([(7,⟨[0,1,4,5,7,8,9],[],[],[(.slot 6,.int .i64),(.obj 0,.own 4 C.bool)]⟩)]:LS)
def v5k (Qz:Jn):Ev Sg:=(E0.with 150 (q5v Qz))
theorem v9x (Qz:Jn) (h:Ev3 (v5k Qz) Proofs.Tryz.prog D):Qe Proofs.Tryz.prog D 151 (j0z (j0f Qz)):=Ql (p:=v5j) (fuel:=4) (rk:=[.own 95 C.span]) h fun a K=>by kernel_rfl
theorem v9y:Qe Proofs.Tryz.prog D 151 (j0z q80):=v9x Vb (Qf h_E0 q4m q9s)
theorem z3y:Ent Proofs.Tryz.prog 96:=Qg (by kernel_rfl) (by kernel_rfl) (by kernel_rfl)
def z6n (X:Gj):Con Sg:=conV ([.sl C.span]:LP) ([.sl C.span]:LV) ([.vec 4 C.bool]:LV) ([.same]:LV) (fun a K=>X a.1 (fun q0=>K (q0,()) ((),())))
def y55:PT:=Qj ([(7,⟨[0,2,3,6],[],[],[(.slot 4,.int .i64),(.obj 0,.own 4 C.bool)]⟩),(13,⟨[0,2,3,4,6,7,8,9,10,13,14,15,16,17,18],[],[],[(.slot 5,.int .i64),(.obj 0,.own 4 C.bool)]⟩)]:LS)
def y56:Ev Sg:=E0
theorem j27:Qe Proofs.Tryz.prog D 96 (z6n q0d):=Ql (E:=y56) (p:=y55) (fuel:=4) (rk:=[.own 4 C.bool]) h_E0 fun a K=>by kernel_rfl
theorem v02:Ent Proofs.Tryz.prog 90:=Qg (by kernel_rfl) (by kernel_rfl) (by kernel_rfl)
def j00 (X:q44):Con Sg:=conV ([.sl C.span,.sl C.span]:LP) ([.sl C.span,.sl C.span]:LV) ([.vec 95 C.span]:LV) ([.same,.same]:LV) (fun a K=>X a.1 a.2.1 (fun q0=>K (q0,()) ((),(),())))
def v5l:PT:=Qj ([(7,⟨[0,1,4,5,6,8,9,10,11],[1],[],[(.slot 7,.int .i64),(.obj 0,.own 4 C.bool)]⟩)]:LS)
def v5m (Zt:Gj) (Qz:Jn):Ev Sg:=((E0.with 96 (z6n Zt)).with 150 (q5v Qz))
theorem v9z (Zt:Gj) (Qz:Jn) (h:Ev3 (v5m Zt Qz) Proofs.Tryz.prog D):Qe Proofs.Tryz.prog D 90 (j00 (j0g Zt Qz)):=Ql (p:=v5l) (fuel:=4) (rk:=[.own 95 C.span]) h fun a K=>by kernel_rfl
theorem v90:Qe Proofs.Tryz.prog D 90 (j00 q81):=v9z q0d Vb (Qf (Qf h_E0 z3y j27) q4m q9s)
theorem v03:Ent Proofs.Tryz.prog 94:=Qg (by kernel_rfl) (by kernel_rfl) (by kernel_rfl)
def j01 (X:q45):Con Sg:=conV ([.el C.env,.v,.v,.v]:LP) ([.el C.env,.str,.str,.int .i64]:LV) ([.vec 95 C.span]:LV) ([.same,.same,.same,.same]:LV) (fun a K=>X a.1 a.2.1 a.2.2.1 a.2.2.2.1 (fun q0=>K (q0,()) ((),(),(),(),())))
def v5n:PT:=Qj ([(10,⟨[0,1,2,3,4,8,9,13,14,15,16,17],[0],[],[(.slot 10,.own 95 C.span)]⟩),(13,⟨[0,1,2,3,4,8,9,13,14,15,16,17],[0],[],[(.slot 10,.own 95 C.span),(.slot 11,.int .i64)]⟩)]:LS)
def v5o (Zg:Wr) (Rw:q44) (Uz:q0b) (q0u:q43):Ev Sg:=((((E0.with 41 (q7y Zg)).with 90 (j00 Rw)).with 95 (z6m Uz)).with 151 (j0z q0u))
theorem v91 (Zg:Wr) (Rw:q44) (Uz:q0b) (q0u:q43) (h:Ev3 (v5o Zg Rw Uz q0u) Proofs.Tryz.prog D):Qe Proofs.Tryz.prog D 94 (j01 (j0h Zg Rw Uz q0u)):=Ql (p:=v5n) (fuel:=4) (rk:=[.own 95 C.span]) h fun a K=>by kernel_rfl
theorem v92:Qe Proofs.Tryz.prog D 94 (j01 q82):=v91 Gi q81 q0c q80 (Qf (Qf (Qf (Qf h_E0 q9r z3x) v02 v90) j54 w3r) v01 v9y)
theorem j28:Ent Proofs.Tryz.prog 118:=Qg (by kernel_rfl) (by kernel_rfl) (by kernel_rfl)
def z3z (X:Ri):Con Sg:=conV ([.sl C.span,.sl C.span]:LP) ([.sl C.span,.sl C.span]:LV) ([.vec 95 C.span]:LV) ([.same,.same]:LV) (fun a K=>X a.1 a.2.1 (fun q0=>K (q0,()) ((),(),())))
def v5p:PT:=Qj ([(7,⟨[0,1,4,5,6,8,9,10,11],[1],[],[(.slot 7,.int .i64),(.obj 0,.own 4 C.bool)]⟩)]:LS)
def v5q (Zt:Gj) (Qz:Jn):Ev Sg:=((E0.with 96 (z6n Zt)).with 150 (q5v Qz))
theorem v93 (Zt:Gj) (Qz:Jn) (h:Ev3 (v5q Zt Qz) Proofs.Tryz.prog D):Qe Proofs.Tryz.prog D 118 (z3z (j0i Zt Qz)):=Ql (p:=v5p) (fuel:=4) (rk:=[.own 95 C.span]) h fun a K=>by kernel_rfl
theorem w3s:Qe Proofs.Tryz.prog D 118 (z3z q2g):=v93 q0d Vb (Qf (Qf h_E0 z3y j27) q4m q9s)
theorem v5r:Ent Proofs.Tryz.prog 88:=Qg (by kernel_rfl) (by kernel_rfl) (by kernel_rfl)
def j55 (X:q74):Con Sg:=conV ([.el C.env,.v,.v]:LP) ([.el C.env,.str,.int .i64]:LV) ([.vec 95 C.span,.int .i64]:LV) ([.same,.same,.same]:LV) (fun a K=>X a.1 a.2.1 a.2.2.1 (fun q0 q1=>K (q0,q1,()) ((),(),(),())))
def v94:PT:=Qj ([]:LS)
def v95 (q8e:z1s) (Zg:Wr) (q55:q45) (Vh:Ri):Ev Sg:=((((E0.with 149 (w87 q8e)).with 41 (q7y Zg)).with 94 (j01 q55)).with 118 (z3z Vh))
theorem y57 (q8e:z1s) (Zg:Wr) (q55:q45) (Vh:Ri) (h:Ev3 (v95 q8e Zg q55 Vh) Proofs.Tryz.prog D):Qe Proofs.Tryz.prog D 88 (j55 (j5e q8e Zg q55 Vh)):=Ql (p:=v94) (fuel:=4) (rk:=[.own 95 C.span,.v]) h fun a K=>by kernel_rfl
theorem y58:Qe Proofs.Tryz.prog D 88 (j55 z1u):=y57 z1t Gi q82 q2g (Qf (Qf (Qf (Qf h_E0 v5g y54) q9r z3x) v03 v92) j28 w3s)
theorem v04:Ent Proofs.Tryz.prog 91:=Qg (by kernel_rfl) (by kernel_rfl) (by kernel_rfl)
def j02 (X:q46):Con Sg:=conV ([.sl C.span,.v]:LP) ([.sl C.span,.int .i64]:LV) ([.vec 95 C.span]:LV) ([.same,.same]:LV) (fun a K=>X a.1 a.2.1 (fun q0=>K (q0,()) ((),(),())))
def v5s:PT:=Qj ([(7,⟨[0,4,5,7,8],[],[],[(.slot 1,.int .i64),(.slot 6,.int .i64),(.obj 0,.own 4 C.bool)]⟩)]:LS)
def v5t (Zt:Gj) (Qz:Jn):Ev Sg:=((E0.with 96 (z6n Zt)).with 150 (q5v Qz))
theorem v96 (Zt:Gj) (Qz:Jn) (h:Ev3 (v5t Zt Qz) Proofs.Tryz.prog D):Qe Proofs.Tryz.prog D 91 (j02 (j0j Zt Qz)):=Ql (p:=v5s) (fuel:=4) (rk:=[.own 95 C.span]) h fun a K=>by kernel_rfl
theorem v97:Qe Proofs.Tryz.prog D 91 (j02 q83):=v96 q0d Vb (Qf (Qf h_E0 z3y j27) q4m q9s)
theorem q7m:Ent Proofs.Tryz.prog 246:=Qg (by kernel_rfl) (by kernel_rfl) (by kernel_rfl)
def q4n (X:Ws):Con Sg:=conV ([.v]:LP) ([.str]:LV) ([.bool]:LV) ([.same]:LV) (fun a K=>X a.1 (fun q0=>K (q0,()) ((),())))
theorem z0m:Qe Proofs.Tryz.prog D 246 (q4n Wt):=j2t
theorem q0r:Ent Proofs.Tryz.prog 209:=Qg (by kernel_rfl) (by kernel_rfl) (by kernel_rfl)
def q1g (X:Zz):Con Sg:=conV ([.v]:LP) ([.str]:LV) ([.bool]:LV) ([.same]:LV) (fun a K=>X a.1 (fun q0=>K (q0,()) ((),())))
def v98:PT:=Qj ([(9,⟨[0,4,5,6,7,8,9,10,11],[],[],[(.slot 3,.int .i64)]⟩)]:LS)
def v99 (Zh:Ws):Ev Sg:=(E0.with 246 (q4n Zh))
theorem y59 (Zh:Ws) (h:Ev3 (v99 Zh) Proofs.Tryz.prog D):Qe Proofs.Tryz.prog D 209 (q1g (z79 Zh)):=Ql (p:=v98) (fuel:=4) (rk:=[.v]) h fun a K=>by kernel_rfl
theorem q5w:Qe Proofs.Tryz.prog D 209 (q1g Jt):=y59 Wt (Qf h_E0 q7m z0m)
theorem y0a:Ent Proofs.Tryz.prog 247:=Qg (by kernel_rfl) (by kernel_rfl) (by kernel_rfl)
def v5u (X:z5o):Con Sg:=conV ([.v]:LP) ([.str]:LV) ([.bool]:LV) ([.same]:LV) (fun a K=>X a.1 (fun q0=>K (q0,()) ((),())))
def y6a:PT:=Qj ([(5,⟨[0],[],[],[(.slot 3,.int .i64)]⟩)]:LS)
def y6b:Ev Sg:=E0
theorem u1i:Qe Proofs.Tryz.prog D 247 (v5u z5p):=Ql (E:=y6b) (p:=y6a) (fuel:=4) (rk:=[.v]) h_E0 fun a K=>by kernel_rfl
theorem w3t:Ent Proofs.Tryz.prog 248:=Qg (by kernel_rfl) (by kernel_rfl) (by kernel_rfl)
def j29 (X:q3r):Con Sg:=conV ([]:LP) ([]:LV) ([.vec 9 C.str]:LV) ([]:LV) (fun _ K=>X (fun q0=>K (q0,()) ()))
def w6n:PT:=Qj ([]:LS)
def w6o:Ev Sg:=E0
theorem v05:Qe Proofs.Tryz.prog D 248 (j29 q3s):=Ql (E:=w6o) (p:=w6n) (fuel:=4) (rk:=[.own 9 C.str]) h_E0 fun a K=>by kernel_rfl
theorem Hu:Ent Proofs.Tryz.prog 210:=Qg (by kernel_rfl) (by kernel_rfl) (by kernel_rfl)
def q1h (X:Zu):Con Sg:=conV ([.v]:LP) ([.str]:LV) ([.bool]:LV) ([.same]:LV) (fun a K=>X a.1 (fun q0=>K (q0,()) ((),())))
def u1j:PT:=Qj ([(11,⟨[0,3,5,6,7,8,9,10,11,12,13],[0],[],[(.slot 4,.int .i64)]⟩)]:LS)
def u1k (z2r:z5o) (q1k:q3r):Ev Sg:=((E0.with 247 (v5u z2r)).with 248 (j29 q1k))
theorem u5s (z2r:z5o) (q1k:q3r) (h:Ev3 (u1k z2r q1k) Proofs.Tryz.prog D):Qe Proofs.Tryz.prog D 210 (q1h (v0l z2r q1k)):=Ql (p:=u1j) (fuel:=4) (rk:=[.v]) h fun a K=>by kernel_rfl
theorem q4o:Qe Proofs.Tryz.prog D 210 (q1h Wa):=u5s z5p q3s (Qf (Qf h_E0 y0a u1i) w3t v05)
theorem w3u:Ent Proofs.Tryz.prog 152:=Qg (by kernel_rfl) (by kernel_rfl) (by kernel_rfl)
def z30 (X:q02):Con Sg:=conV ([.el C.settings]:LP) ([.el C.settings]:LV) ([.int .i64]:LV) ([.same]:LV) (fun a K=>X a.1 (fun q0=>K (q0,()) ((),())))
def w6p:PT:=Qj ([]:LS)
def w6q (Qu:Zz) (Qn:Zu):Ev Sg:=((E0.with 209 (q1g Qu)).with 210 (q1h Qn))
theorem v06 (Qu:Zz) (Qn:Zu) (h:Ev3 (w6q Qu Qn) Proofs.Tryz.prog D):Qe Proofs.Tryz.prog D 152 (z30 (z3h Qu Qn)):=Ql (p:=w6p) (fuel:=4) (rk:=[.v]) h fun _ _=>by kernel_rfl
theorem v07:Qe Proofs.Tryz.prog D 152 (z30 q3t):=v06 Jt Wa (Qf (Qf h_E0 q0r q5w) Hu q4o)
end Go.En
end
noncomputable section
set_option maxRecDepth 100000
open Go Go.RowKit Go.Fl Go.Fl.Lk Go.Fx
namespace Go.En
theorem w3v:Ent Proofs.Tryz.prog 153:=Qg (by kernel_rfl) (by kernel_rfl) (by kernel_rfl)
def z32 (X:q03):Con Sg:=conV ([.sl C.decl]:LP) ([.sl C.decl]:LV) ([.int .i64]:LV) ([.same]:LV) (fun a K=>X a.1 (fun q0=>K (q0,()) ((),())))
def w6r:PT:=Qj ([(9,⟨[0,4,5,6],[],[],[(.slot 3,.int .i64)]⟩)]:LS)
def w6s (Qn:Zu):Ev Sg:=(E0.with 210 (q1h Qn))
theorem v08 (Qn:Zu) (h:Ev3 (w6s Qn) Proofs.Tryz.prog D):Qe Proofs.Tryz.prog D 153 (z32 (z3i Qn)):=Ql (p:=w6r) (fuel:=4) (rk:=[.v]) h fun a K=>by kernel_rfl
theorem v09:Qe Proofs.Tryz.prog D 153 (z32 q3u):=v08 Wa (Qf h_E0 Hu q4o)
theorem z9k:Ent Proofs.Tryz.prog 249:=Qg (by kernel_rfl) (by kernel_rfl) (by kernel_rfl)
def z0n (X:Gk):Con Sg:=conV ([.sl C.str]:LP) ([.sl C.str]:LV) ([.int .i64]:LV) ([.same]:LV) (fun a K=>X a.1 (fun q0=>K (q0,()) ((),())))
def v1a:PT:=Qj ([(9,⟨[0,4,5,6],[],[],[(.slot 3,.int .i64)]⟩)]:LS)
def v1b (Qu:Zz):Ev Sg:=(E0.with 209 (q1g Qu))
theorem v5v (Qu:Zz) (h:Ev3 (v1b Qu) Proofs.Tryz.prog D):Qe Proofs.Tryz.prog D 249 (z0n (z5q Qu)):=Ql (p:=v1a) (fuel:=4) (rk:=[.v]) h fun a K=>by kernel_rfl
theorem j7w:Qe Proofs.Tryz.prog D 249 (z0n q0e):=v5v Jt (Qf h_E0 q0r q5w)
theorem y0b:Ent Proofs.Tryz.prog 250:=Qg (by kernel_rfl) (by kernel_rfl) (by kernel_rfl)
def v5w (X:z5r):Con Sg:=conV ([.el C.ex]:LP) ([.el C.ex]:LV) ([.bool]:LV) ([.same]:LV) (fun a K=>X a.1 (fun q0=>K (q0,()) ((),())))
def y6c:PT:=Qj ([]:LS)
def y6d:Ev Sg:=E0
theorem u1l:Qe Proofs.Tryz.prog D 250 (v5w z5s):=Ql (E:=y6d) (p:=y6c) (fuel:=4) (rk:=[.v]) h_E0 fun a K=>by kernel_rfl
theorem v1c:Ent Proofs.Tryz.prog 301:=Qg (by kernel_rfl) (by kernel_rfl) (by kernel_rfl)
def j03 (X:q47):Con Sg:=conV ([.el C.ex]:LP) ([.el C.ex]:LV) ([.bool]:LV) ([.same]:LV) (fun a K=>X a.1 (fun q0=>K (q0,()) ((),())))
def v5x:PT:=Qj ([(20,⟨[0,1,2,6,7,8,9,10,11,12,13],[0],[],[(.slot 3,.bool),(.slot 4,.bool)]⟩)]:LS)
def v5y (Q2:Wd):Ev Sg:=(E0.with 143 (q9l Q2))
theorem y0c (Q2:Wd) (h:Ev3 (v5y Q2) Proofs.Tryz.prog D):Qe Proofs.Tryz.prog D 301 (j03 (j0k Q2)):=Ql (p:=v5x) (fuel:=4) (rk:=[.v]) h fun a K=>by kernel_rfl
theorem y0d:Qe Proofs.Tryz.prog D 301 (j03 q84):=y0c We (Qf h_E0 q7v z3u)
theorem v5z:Ent Proofs.Tryz.prog 243:=Qg (by kernel_rfl) (by kernel_rfl) (by kernel_rfl)
def w88 (X:z1v):Con Sg:=conV ([.el C.val]:LP) ([.el C.val]:LV) ([.bool]:LV) ([.same]:LV) (fun a K=>X a.1 (fun q0=>K (q0,()) ((),())))
def y0e:PT:=Qj ([]:LS)
def y0f:Ev Sg:=E0
theorem y6e:Qe Proofs.Tryz.prog D 243 (w88 q48):=Ql (E:=y0f) (p:=y0e) (fuel:=4) (rk:=[.v]) h_E0 fun a K=>by kernel_rfl
theorem j3a:Ent Proofs.Tryz.prog 245:=Qg (by kernel_rfl) (by kernel_rfl) (by kernel_rfl)
def z4x (X:R4):Con Sg:=conV ([.v]:LP) ([.str]:LV) ([.int .i64,.int .i64]:LV) ([.same]:LV) (fun a K=>X a.1 (fun q0 q1=>K (q0,q1,()) ((),())))
def j56:PT:=Qj ([(8,⟨[0,2,3,8],[],[],[(.slot 4,.str)]⟩),(11,⟨[0,4,8],[],[],[(.slot 5,.int .i64)]⟩),(31,⟨[0,4,5,8,19,20,21,22,35,36,37,38,39,40,41,42,43,44,45,46,47,48],[],[],[(.slot 6,.int .i64),(.slot 7,.int .i64)]⟩)]:LS)
def j57:Ev Sg:=E0
theorem j81:Qe Proofs.Tryz.prog D 245 (z4x W5):=Ql (E:=j57) (p:=j56) (fuel:=4) (rk:=[.v,.v]) h_E0 fun a K=>by kernel_rfl
theorem v50:Ent Proofs.Tryz.prog 207:=Qg (by kernel_rfl) (by kernel_rfl) (by kernel_rfl)
def j58 (X:q49):Con Sg:=conV ([.v]:LP) ([.str]:LV) ([.el C.a3,.bool]:LV) ([.same]:LV) (fun a K=>X a.1 (fun q0 q1=>K (q0,q1,()) ((),())))
def y0g:PT:=Qj ([(9,⟨[0,2,4],[],[(1,(257,3)),(0,(257,3))],[(.slot 5,.int .i64),(.slot 6,.int .i64),(.cell 1 0,.int .i64),(.cell 1 1,.int .i64),(.cell 1 2,.int .i64),(.cell 0 0,.int .i64),(.cell 0 1,.int .i64),(.cell 0 2,.int .i64)]⟩),(15,⟨[0,2,4,6,7,10,11,14],[1,0],[],[(.slot 5,.int .i64)]⟩)]:LS)
def y0h (V5:R4):Ev Sg:=(E0.with 245 (z4x V5))
theorem y6f (V5:R4) (h:Ev3 (y0h V5) Proofs.Tryz.prog D):Qe Proofs.Tryz.prog D 207 (j58 (z8a V5)):=Ql (p:=y0g) (fuel:=4) (rk:=[.el C.a3,.v]) h fun a K=>by kernel_rfl
theorem y6g:Qe Proofs.Tryz.prog D 207 (j58 q2w):=y6f W5 (Qf h_E0 j3a j81)
theorem y0i:Ent Proofs.Tryz.prog 244:=Qg (by kernel_rfl) (by kernel_rfl) (by kernel_rfl)
def w3w (X:z1w):Con Sg:=conV ([.sl C.str]:LP) ([.sl C.str]:LV) ([.int .i64]:LV) ([.same]:LV) (fun a K=>X a.1 (fun q0=>K (q0,()) ((),())))
def y6h:PT:=Qj ([(9,⟨[0,5,6,7],[],[],[(.slot 3,.int .i64)]⟩),(19,⟨[0,3,5,6,7,8,9,10,11],[],[],[(.slot 4,.int .i64)]⟩)]:LS)
def y6i (Qu:Zz):Ev Sg:=(E0.with 209 (q1g Qu))
theorem u1m (Qu:Zz) (h:Ev3 (y6i Qu) Proofs.Tryz.prog D):Qe Proofs.Tryz.prog D 244 (w3w (j2r Qu)):=Ql (p:=y6h) (fuel:=4) (rk:=[.v]) h fun a K=>by kernel_rfl
theorem u1n:Qe Proofs.Tryz.prog D 244 (w3w q85):=u1m Jt (Qf h_E0 q0r q5w)
theorem j7x:Ent Proofs.Tryz.prog 205:=Qg (by kernel_rfl) (by kernel_rfl) (by kernel_rfl)
def z8h (X:Bi):Con Sg:=conV ([.el C.val]:LP) ([.el C.val]:LV) ([.int .i64]:LV) ([.same]:LV) (fun a K=>X a.1 (fun q0=>K (q0,()) ((),())))
def y0j:PT:=Qj ([]:LS)
def y0k (q8f:z1v) (Qu:Zz) (q1l:q49) (z2s:z1w):Ev Sg:=((((E0.with 243 (w88 q8f)).with 209 (q1g Qu)).with 207 (j58 q1l)).with 244 (w3w z2s))
theorem y6j (q8f:z1v) (Qu:Zz) (q1l:q49) (z2s:z1w) (h:Ev3 (y0k q8f Qu q1l z2s) Proofs.Tryz.prog D):Qe Proofs.Tryz.prog D 205 (z8h (z8b q8f Qu q1l z2s)):=Ql (p:=y0j) (fuel:=4) (rk:=[.v]) h fun a K=>by kernel_rfl
theorem w89:Qe Proofs.Tryz.prog D 205 (z8h Bj):=y6j q48 Jt q2w q85 (Qf (Qf (Qf (Qf h_E0 v5z y6e) q0r q5w) v50 y6g) y0i u1n)
theorem y0l:Ent Proofs.Tryz.prog 292:=Qg (by kernel_rfl) (by kernel_rfl) (by kernel_rfl)
def w3x (X:z1x):Con Sg:=conV ([.el C.ex]:LP) ([.el C.ex]:LV) ([.int .i64]:LV) ([.same]:LV) (fun a K=>X a.1 (fun q0=>K (q0,()) ((),())))
def y6k:PT:=Qj ([(17,⟨[0,1,6,7,8,9,10,11,12,13,14,15,16,17,18,19,20,21,22,23,24,25,26],[0],[],[(.slot 3,.int .i64)]⟩),(31,⟨[0,1,3,6,7,8,9,10,11,12,13,14,15,16,17,18,19,20,21,22,23,24,25,26,27,28,29,30,31,48,49,50,51,52,53,54,55,56,57,58,59,60,61,65,66,67,68,69,70,71,72],[0],[],[(.slot 4,.int .i64)]⟩)]:LS)
def y6l (q56:q47) (Q2:Wd) (Qn:Zu) (Jh:Bi):Ev Sg:=((((E0.with 301 (j03 q56)).with 143 (q9l Q2)).with 210 (q1h Qn)).with 205 (z8h Jh))
theorem u1o (q56:q47) (Q2:Wd) (Qn:Zu) (Jh:Bi) (h:Ev3 (y6l q56 Q2 Qn Jh) Proofs.Tryz.prog D):Qe Proofs.Tryz.prog D 292 (w3x (w2n q56 Q2 Qn Jh)):=Ql (p:=y6k) (fuel:=4) (rk:=[.v]) h fun a K=>by kernel_rfl
theorem u1p:Qe Proofs.Tryz.prog D 292 (w3x z1y):=u1o q84 We Wa Bj (Qf (Qf (Qf (Qf h_E0 v1c y0d) q7v z3u) Hu q4o) j7x w89)
theorem w3y:Ent Proofs.Tryz.prog 277:=Qg (by kernel_rfl) (by kernel_rfl) (by kernel_rfl)
def w3z (X:q3v):Con Sg:=conV ([.el C.ex,.v,.ptr 3 [.v]]:LP) ([.el C.ex,.int .i64,.ptr 3 [.int .i64]]:LV) ([.int .i64]:LV) ([.same,.same,.ptr 3 [.int .i64]]:LV) (fun a K=>X a.1 a.2.1 a.2.2.1.1 (fun q0 q1=>K (q0,()) ((),(),(q1,()),())))
def w9a:PT:=Qj ([(21,⟨[0,1,2,3,7,10,11,12,13,14,15,16,17,18,19,20,21,22,23,24],[1],[(0,(3,1))],[(.slot 8,.int .i64),(.cell 0 0,.int .i64)]⟩)]:LS)
def w9b (z2t:z1x):Ev Sg:=(E0.with 292 (w3x z2t))
theorem y0m (z2t:z1x) (X:q3v) (e:Ex) (depth:Int) (n:Int) (K:Int->Int->Prop):w2o z2t X e depth n K=fnV (((w9b z2t).with 277 (w3z X)).pl w9a) 4 277 ([.el C.ex,.v,.ptr 3 [.v]]:LP) ([.v]:LP) ([.el C.ex,.int .i64,.ptr 3 [.int .i64]]:LV) ([.int .i64]:LV) ([.same,.same,.ptr 3 [.int .i64]]:LV) (e,depth,(n,()),()) (fun r o=>K r.1 o.2.2.1.1):=by kernel_rfl
theorem u1q:Qe Proofs.Tryz.prog D 277 (w3z z5t):=by
 show Qe _ _ _ (conV ([.el C.ex,.v,.ptr 3 [.v]]:LP) ([.el C.ex,.int .i64,.ptr 3 [.int .i64]]:LV) ([.int .i64]:LV) ([.same,.same,.ptr 3 [.int .i64]]:LV) fun a K=>z5t a.1 a.2.1 a.2.2.1.1 (fun q0 q1=>K (q0,()) ((),(),(q1,()),())))
 refine z4r (E:=w9b z1y) (fuel:=4) (rk:=[.v]) (p:=w9a) (Qf h_E0 y0l u1p) w3y fun a K h X hX=> ?_
 exact h (fun e depth n K=>X (e,depth,(n,()),()) fun r o=>K r.1 o.2.2.1.1) (fun e depth n K hs=>hX (e,depth,(n,()),()) (fun r o=>K r.1 o.2.2.1.1) (Eq.mp (y0m z1y (fun e depth n K=>X (e,depth,(n,()),()) fun r o=>K r.1 o.2.2.1.1) e depth n K) hs))
theorem j04:Ent Proofs.Tryz.prog 251:=Qg (by kernel_rfl) (by kernel_rfl) (by kernel_rfl)
def z6o (X:R5):Con Sg:=conV ([.el C.ex]:LP) ([.el C.ex]:LV) ([.int .i64]:LV) ([.same]:LV) (fun a K=>X a.1 (fun q0=>K (q0,()) ((),())))
def y6m:PT:=Qj ([]:LS)
def y6n (z2u:q3v):Ev Sg:=(E0.with 277 (w3z z2u))
theorem u1r (z2u:q3v) (h:Ev3 (y6n z2u) Proofs.Tryz.prog D):Qe Proofs.Tryz.prog D 251 (z6o (w2p z2u)):=Ql (p:=y6m) (fuel:=4) (rk:=[.v]) h fun a K=>by kernel_rfl
theorem w30:Qe Proofs.Tryz.prog D 251 (z6o q3w):=u1r z5t (Qf h_E0 w3y u1q)
theorem w6t:Ent Proofs.Tryz.prog 211:=Qg (by kernel_rfl) (by kernel_rfl) (by kernel_rfl)
def z6p (X:q2x):Con Sg:=conV ([.el C.seg]:LP) ([.el C.seg]:LV) ([.int .i64]:LV) ([.same]:LV) (fun a K=>X a.1 (fun q0=>K (q0,()) ((),())))
def v1d:PT:=Qj ([]:LS)
def v1e (Qn:Zu) (J6:Gk) (z2v:z5r) (Wh:R5):Ev Sg:=((((E0.with 210 (q1h Qn)).with 249 (z0n J6)).with 250 (v5w z2v)).with 251 (z6o Wh))
theorem v52 (Qn:Zu) (J6:Gk) (z2v:z5r) (Wh:R5) (h:Ev3 (v1e Qn J6 z2v Wh) Proofs.Tryz.prog D):Qe Proofs.Tryz.prog D 211 (z6p (z5u Qn J6 z2v Wh)):=Ql (p:=v1d) (fuel:=4) (rk:=[.v]) h fun a K=>by kernel_rfl
theorem v54:Qe Proofs.Tryz.prog D 211 (z6p q6p):=v52 Wa q0e z5s q3w (Qf (Qf (Qf (Qf h_E0 Hu q4o) z9k j7w) y0b u1l) j04 w30)
theorem w31:Ent Proofs.Tryz.prog 154:=Qg (by kernel_rfl) (by kernel_rfl) (by kernel_rfl)
def z33 (X:q04):Con Sg:=conV ([.sl C.seg]:LP) ([.sl C.seg]:LV) ([.int .i64]:LV) ([.same]:LV) (fun a K=>X a.1 (fun q0=>K (q0,()) ((),())))
def w6u:PT:=Qj ([(9,⟨[0,5,6,7],[],[],[(.slot 3,.int .i64)]⟩)]:LS)
def w6v (q29:q2x):Ev Sg:=(E0.with 211 (z6p q29))
theorem v1f (q29:q2x) (h:Ev3 (w6v q29) Proofs.Tryz.prog D):Qe Proofs.Tryz.prog D 154 (z33 (z3j q29)):=Ql (p:=w6u) (fuel:=4) (rk:=[.v]) h fun _ _=>by kernel_rfl
theorem v1g:Qe Proofs.Tryz.prog D 154 (z33 q3x):=v1f q6p (Qf h_E0 w6t v54)
end Go.En
end
noncomputable section
set_option maxRecDepth 100000
open Go Go.RowKit Go.Fl Go.Fl.Lk Go.Fx
namespace Go.En
theorem j59:Ent Proofs.Tryz.prog 252:=Qg (by kernel_rfl) (by kernel_rfl) (by kernel_rfl)
def q9t (X:Hh):Con Sg:=conV ([.el C.flag]:LP) ([.el C.flag]:LV) ([.int .i64]:LV) ([.same]:LV) (fun a K=>X a.1 (fun q0=>K (q0,()) ((),())))
def j82:PT:=Qj ([(15,⟨[0,1,3,6,7,8,9,10,11,12],[0],[],[(.slot 4,.int .i64)]⟩)]:LS)
def j83 (Jh:Bi):Ev Sg:=(E0.with 205 (z8h Jh))
theorem w32 (Jh:Bi) (h:Ev3 (j83 Jh) Proofs.Tryz.prog D):Qe Proofs.Tryz.prog D 252 (q9t (q86 Jh)):=Ql (p:=j82) (fuel:=4) (rk:=[.v]) h fun a K=>by kernel_rfl
theorem w33:Qe Proofs.Tryz.prog D 252 (q9t q0f):=w32 Bj (Qf h_E0 j7x w89)
theorem z8q:Ent Proofs.Tryz.prog 253:=Qg (by kernel_rfl) (by kernel_rfl) (by kernel_rfl)
def q4p (X:Vt):Con Sg:=conV ([.sl C.prereq]:LP) ([.sl C.prereq]:LV) ([.int .i64]:LV) ([.same]:LV) (fun a K=>X a.1 (fun q0=>K (q0,()) ((),())))
def j05:PT:=Qj ([(9,⟨[0,4,5,6],[],[],[(.slot 3,.int .i64)]⟩)]:LS)
def j06 (Qn:Zu):Ev Sg:=(E0.with 210 (q1h Qn))
theorem j3b (Qn:Zu) (h:Ev3 (j06 Qn) Proofs.Tryz.prog D):Qe Proofs.Tryz.prog D 253 (q4p (q3y Qn)):=Ql (p:=j05) (fuel:=4) (rk:=[.v]) h fun a K=>by kernel_rfl
theorem j3c:Qe Proofs.Tryz.prog D 253 (q4p Gl):=j3b Wa (Qf h_E0 Hu q4o)
theorem w6w:Ent Proofs.Tryz.prog 254:=Qg (by kernel_rfl) (by kernel_rfl) (by kernel_rfl)
def z6q (X:q2y):Con Sg:=conV ([.sl C.target,.v]:LP) ([.sl C.target,.int .i64]:LV) ([.int .i64]:LV) ([.same,.same]:LV) (fun a K=>X a.1 a.2.1 (fun q0=>K (q0,()) ((),(),())))
def v1h:PT:=Qj ([(9,⟨[0,1,7,8,9],[],[],[(.slot 5,.int .i64)]⟩)]:LS)
def v1i (Qn:Zu) (J6:Gk):Ev Sg:=((E0.with 210 (q1h Qn)).with 249 (z0n J6))
theorem v55 (Qn:Zu) (J6:Gk) (h:Ev3 (v1i Qn J6) Proofs.Tryz.prog D):Qe Proofs.Tryz.prog D 254 (z6q (z5v Qn J6)):=Ql (p:=v1h) (fuel:=4) (rk:=[.v]) h fun a K=>by kernel_rfl
theorem v56:Qe Proofs.Tryz.prog D 254 (z6q q6q):=v55 Wa q0e (Qf (Qf h_E0 Hu q4o) z9k j7w)
theorem j7y:Ent Proofs.Tryz.prog 258:=Qg (by kernel_rfl) (by kernel_rfl) (by kernel_rfl)
def j6a (X:q2z):Con Sg:=conV ([.sl C.range,.v]:LP) ([.sl C.range,.int .i64]:LV) ([.int .i64]:LV) ([.same,.same]:LV) (fun a K=>X a.1 a.2.1 (fun q0=>K (q0,()) ((),(),())))
def y0n:PT:=Qj ([(11,⟨[0,1,7,8,9],[],[],[(.slot 5,.int .i64),(.slot 6,.int .i64)]⟩)]:LS)
def y0o:Ev Sg:=E0
theorem w9c:Qe Proofs.Tryz.prog D 258 (j6a q5a):=Ql (E:=y0o) (p:=y0n) (fuel:=4) (rk:=[.v]) h_E0 fun a K=>by kernel_rfl
theorem j7z:Ent Proofs.Tryz.prog 256:=Qg (by kernel_rfl) (by kernel_rfl) (by kernel_rfl)
def z8i (X:q05):Con Sg:=conV ([.el C.serve,.v]:LP) ([.el C.serve,.int .i64]:LV) ([.int .i64]:LV) ([.same,.same]:LV) (fun a K=>X a.1 a.2.1 (fun q0=>K (q0,()) ((),(),())))
def y0p:PT:=Qj ([]:LS)
def y0q (Qn:Zu) (Qu:Zz) (Uk:q2z):Ev Sg:=(((E0.with 210 (q1h Qn)).with 209 (q1g Qu)).with 258 (j6a Uk))
theorem y6o (Qn:Zu) (Qu:Zz) (Uk:q2z) (h:Ev3 (y0q Qn Qu Uk) Proofs.Tryz.prog D):Qe Proofs.Tryz.prog D 256 (z8i (j5f Qn Qu Uk)):=Ql (p:=y0p) (fuel:=4) (rk:=[.v]) h fun a K=>by kernel_rfl
theorem w9d:Qe Proofs.Tryz.prog D 256 (z8i q5b):=y6o Wa Jt q5a (Qf (Qf (Qf h_E0 Hu q4o) q0r q5w) j7y w9c)
theorem v57:Ent Proofs.Tryz.prog 255:=Qg (by kernel_rfl) (by kernel_rfl) (by kernel_rfl)
def j6b (X:q75):Con Sg:=conV ([.sl C.rule,.v]:LP) ([.sl C.rule,.int .i64]:LV) ([.int .i64]:LV) ([.same,.same]:LV) (fun a K=>X a.1 a.2.1 (fun q0=>K (q0,()) ((),(),())))
def y0r:PT:=Qj ([(9,⟨[0,1,9,10,11],[],[],[(.slot 5,.int .i64)]⟩),(19,⟨[0,1,5,9,10,11,12,13,14,15,18,19,20,21,22,23,24],[],[],[(.slot 6,.int .i64)]⟩)]:LS)
def y0s (Qn:Zu) (Wh:R5) (Ul:q05):Ev Sg:=(((E0.with 210 (q1h Qn)).with 251 (z6o Wh)).with 256 (z8i Ul))
theorem y6p (Qn:Zu) (Wh:R5) (Ul:q05) (h:Ev3 (y0s Qn Wh Ul) Proofs.Tryz.prog D):Qe Proofs.Tryz.prog D 255 (j6b (j5g Qn Wh Ul)):=Ql (p:=y0r) (fuel:=4) (rk:=[.v]) h fun a K=>by kernel_rfl
theorem y6q:Qe Proofs.Tryz.prog D 255 (j6b z1z):=y6p Wa q3w q5b (Qf (Qf (Qf h_E0 Hu q4o) j04 w30) j7z w9d)
theorem y0t:Ent Proofs.Tryz.prog 212:=Qg (by kernel_rfl) (by kernel_rfl) (by kernel_rfl)
def w34 (X:z10):Con Sg:=conV ([.el C.flag]:LP) ([.el C.flag]:LV) ([.int .i64]:LV) ([.same]:LV) (fun a K=>X a.1 (fun q0=>K (q0,()) ((),())))
def y6r:PT:=Qj ([]:LS)
def y6s (Qn:Zu) (H2:Hh) (Vx:Vt) (q3a:q2y) (q8g:q75) (Ul:q05):Ev Sg:=((((((E0.with 210 (q1h Qn)).with 252 (q9t H2)).with 253 (q4p Vx)).with 254 (z6q q3a)).with 255 (j6b q8g)).with 256 (z8i Ul))
theorem u1s (Qn:Zu) (H2:Hh) (Vx:Vt) (q3a:q2y) (q8g:q75) (Ul:q05) (h:Ev3 (y6s Qn H2 Vx q3a q8g Ul) Proofs.Tryz.prog D):Qe Proofs.Tryz.prog D 212 (w34 (w2q Qn H2 Vx q3a q8g Ul)):=Ql (p:=y6r) (fuel:=4) (rk:=[.v]) h fun a K=>by kernel_rfl
theorem u1t:Qe Proofs.Tryz.prog D 212 (w34 z5w):=u1s Wa q0f Gl q6q z1z q5b (Qf (Qf (Qf (Qf (Qf (Qf h_E0 Hu q4o) j59 w33) z8q j3c) w6w v56) v57 y6q) j7z w9d)
theorem v58:Ent Proofs.Tryz.prog 155:=Qg (by kernel_rfl) (by kernel_rfl) (by kernel_rfl)
def j6c (X:q76):Con Sg:=conV ([.sl C.flag]:LP) ([.sl C.flag]:LV) ([.int .i64]:LV) ([.same]:LV) (fun a K=>X a.1 (fun q0=>K (q0,()) ((),())))
def y0u:PT:=Qj ([(9,⟨[0,5,6,7],[],[],[(.slot 3,.int .i64)]⟩)]:LS)
def y0v (z2w:z10):Ev Sg:=(E0.with 212 (w34 z2w))
theorem y6t (z2w:z10) (h:Ev3 (y0v z2w) Proofs.Tryz.prog D):Qe Proofs.Tryz.prog D 155 (j6c (j5h z2w)):=Ql (p:=y0u) (fuel:=4) (rk:=[.v]) h fun a K=>by kernel_rfl
theorem y6u:Qe Proofs.Tryz.prog D 155 (j6c z11):=y6t z5w (Qf h_E0 y0t u1t)
theorem v59:Ent Proofs.Tryz.prog 213:=Qg (by kernel_rfl) (by kernel_rfl) (by kernel_rfl)
def j6d (X:q77):Con Sg:=conV ([.el C.layer]:LP) ([.el C.layer]:LV) ([.int .i64]:LV) ([.same]:LV) (fun a K=>X a.1 (fun q0=>K (q0,()) ((),())))
def y0w:PT:=Qj ([(21,⟨[0,1,5,6,7,8,9,10,11,12,13,14,15,16,17,18,19,20,21,22,23,24,25,26,27,28,29,30,31,32,33,34,35,36,37,38,39,40],[0],[],[(.slot 3,.int .i64)]⟩)]:LS)
def y0x (Qn:Zu) (Qu:Zz):Ev Sg:=((E0.with 210 (q1h Qn)).with 209 (q1g Qu))
theorem y6v (Qn:Zu) (Qu:Zz) (h:Ev3 (y0x Qn Qu) Proofs.Tryz.prog D):Qe Proofs.Tryz.prog D 213 (j6d (j5i Qn Qu)):=Ql (p:=y0w) (fuel:=4) (rk:=[.v]) h fun a K=>by kernel_rfl
theorem y6w:Qe Proofs.Tryz.prog D 213 (j6d z13):=y6v Wa Jt (Qf (Qf h_E0 Hu q4o) q0r q5w)
theorem v1j:Ent Proofs.Tryz.prog 156:=Qg (by kernel_rfl) (by kernel_rfl) (by kernel_rfl)
def j07 (X:q5c):Con Sg:=conV ([.sl C.layer]:LP) ([.sl C.layer]:LV) ([.int .i64]:LV) ([.same]:LV) (fun a K=>X a.1 (fun q0=>K (q0,()) ((),())))
def v6a:PT:=Qj ([(9,⟨[0,5,6,7],[],[],[(.slot 3,.int .i64)]⟩)]:LS)
def v6b (q8h:q77):Ev Sg:=(E0.with 213 (j6d q8h))
theorem y0y (q8h:q77) (h:Ev3 (v6b q8h) Proofs.Tryz.prog D):Qe Proofs.Tryz.prog D 156 (j07 (j0l q8h)):=Ql (p:=v6a) (fuel:=4) (rk:=[.v]) h fun a K=>by kernel_rfl
theorem y0z:Qe Proofs.Tryz.prog D 156 (j07 q87):=y0y z13 (Qf h_E0 v59 y6w)
theorem v6c:Ent Proofs.Tryz.prog 257:=Qg (by kernel_rfl) (by kernel_rfl) (by kernel_rfl)
def w9e (X:z14):Con Sg:=conV ([.sl C.span]:LP) ([.sl C.span]:LV) ([.int .i64]:LV) ([.same]:LV) (fun a K=>X a.1 (fun q0=>K (q0,()) ((),())))
def y00:PT:=Qj ([(9,⟨[0,4,5,6],[],[],[(.slot 3,.int .i64)]⟩)]:LS)
def y01:Ev Sg:=E0
theorem y6x:Qe Proofs.Tryz.prog D 257 (w9e z15):=Ql (E:=y01) (p:=y00) (fuel:=4) (rk:=[.v]) h_E0 fun a K=>by kernel_rfl
theorem j6e:Ent Proofs.Tryz.prog 214:=Qg (by kernel_rfl) (by kernel_rfl) (by kernel_rfl)
def q9u (X:Hi):Con Sg:=conV ([.el C.exper]:LP) ([.el C.exper]:LV) ([.int .i64]:LV) ([.same]:LV) (fun a K=>X a.1 (fun q0=>K (q0,()) ((),())))
def j84:PT:=Qj ([]:LS)
def j85 (Qn:Zu) (Qu:Zz) (q8i:z14) (Uk:q2z) (Wh:R5):Ev Sg:=(((((E0.with 210 (q1h Qn)).with 209 (q1g Qu)).with 257 (w9e q8i)).with 258 (j6a Uk)).with 251 (z6o Wh))
theorem w35 (Qn:Zu) (Qu:Zz) (q8i:z14) (Uk:q2z) (Wh:R5) (h:Ev3 (j85 Qn Qu q8i Uk Wh) Proofs.Tryz.prog D):Qe Proofs.Tryz.prog D 214 (q9u (q88 Qn Qu q8i Uk Wh)):=Ql (p:=j84) (fuel:=4) (rk:=[.v]) h fun a K=>by kernel_rfl
theorem w36:Qe Proofs.Tryz.prog D 214 (q9u q0g):=w35 Wa Jt z15 q5a q3w (Qf (Qf (Qf (Qf (Qf h_E0 Hu q4o) q0r q5w) v6c y6x) j7y w9c) j04 w30)
theorem j3d:Ent Proofs.Tryz.prog 157:=Qg (by kernel_rfl) (by kernel_rfl) (by kernel_rfl)
def q7d (X:U5):Con Sg:=conV ([.sl C.exper]:LP) ([.sl C.exper]:LV) ([.int .i64]:LV) ([.same]:LV) (fun a K=>X a.1 (fun q0=>K (q0,()) ((),())))
def j6f:PT:=Qj ([(9,⟨[0,5,6,7],[],[],[(.slot 3,.int .i64)]⟩)]:LS)
def j6g (H3:Hi):Ev Sg:=(E0.with 214 (q9u H3))
theorem j86 (H3:Hi) (h:Ev3 (j6g H3) Proofs.Tryz.prog D):Qe Proofs.Tryz.prog D 157 (q7d (q66 H3)):=Ql (p:=j6f) (fuel:=4) (rk:=[.v]) h fun a K=>by kernel_rfl
theorem j87:Qe Proofs.Tryz.prog D 157 (q7d R6):=j86 q0g (Qf h_E0 j6e w36)
theorem j3e:Ent Proofs.Tryz.prog 99:=Qg (by kernel_rfl) (by kernel_rfl) (by kernel_rfl)
def q7e (X:U6):Con Sg:=conV ([.el C.env]:LP) ([.el C.env]:LV) ([.int .i64]:LV) ([.same]:LV) (fun a K=>X a.1 (fun q0=>K (q0,()) ((),())))
def j6h:PT:=Qj ([]:LS)
def j6i (q1m:q02) (q1n:q03) (q1o:q04) (q8j:q76) (q57:q5c) (Gb:U5):Ev Sg:=((((((E0.with 152 (z30 q1m)).with 153 (z32 q1n)).with 154 (z33 q1o)).with 155 (j6c q8j)).with 156 (j07 q57)).with 157 (q7d Gb))
theorem j88 (q1m:q02) (q1n:q03) (q1o:q04) (q8j:q76) (q57:q5c) (Gb:U5) (h:Ev3 (j6i q1m q1n q1o q8j q57 Gb) Proofs.Tryz.prog D):Qe Proofs.Tryz.prog D 99 (q7e (q67 q1m q1n q1o q8j q57 Gb)):=Ql (p:=j6h) (fuel:=4) (rk:=[.v]) h fun _ _=>by kernel_rfl
theorem j89:Qe Proofs.Tryz.prog D 99 (q7e R7):=j88 q3t q3u q3x z11 q87 R6 (Qf (Qf (Qf (Qf (Qf (Qf h_E0 w3u v07) w3v v09) w31 v1g) v58 y6u) v1j y0z) j3d j87)
end Go.En
end
noncomputable section
set_option maxRecDepth 100000
open Go Go.RowKit Go.Fl Go.Fl.Lk Go.Fx
namespace Go.En
theorem z6r:Ent Proofs.Tryz.prog 100:=Qg (by kernel_rfl) (by kernel_rfl) (by kernel_rfl)
def z8j (X:Hj):Con Sg:=conV ([.sl C.seg]:LP) ([.sl C.seg]:LV) ([.vec 9 C.str]:LV) ([.same]:LV) (fun a K=>X a.1 (fun q0=>K (q0,()) ((),())))
def y02:PT:=Qj ([(7,⟨[0,2],[],[],[(.slot 3,.own 9 C.str),(.slot 4,.int .i64)]⟩)]:LS)
def y03:Ev Sg:=E0
theorem j6j:Qe Proofs.Tryz.prog D 100 (z8j q20):=Ql (E:=y03) (p:=y02) (fuel:=4) (rk:=[.own 9 C.str]) h_E0 fun a K=>by kernel_rfl
theorem j6k:Ent Proofs.Tryz.prog 81:=Qg (by kernel_rfl) (by kernel_rfl) (by kernel_rfl)
def w0x (X:q06):Con Sg:=conV ([.sl C.str,.v]:LP) ([.sl C.str,.str]:LV) ([.bool]:LV) ([.same,.same]:LV) (fun a K=>X a.1 a.2.1 (fun q0=>K (q0,()) ((),(),())))
def u1u:PT:=Qj ([(5,⟨[0,1],[],[],[(.slot 5,.int .i64)]⟩)]:LS)
def u1v:Ev Sg:=E0
theorem v1k:Qe Proofs.Tryz.prog D 81 (w0x q2d):=Ql (E:=u1v) (p:=u1u) (fuel:=4) (rk:=[.v]) h_E0 fun a K=>by kernel_rfl
theorem w37:Ent Proofs.Tryz.prog 158:=Qg (by kernel_rfl) (by kernel_rfl) (by kernel_rfl)
def w38 (X:q6r):Con Sg:=conV ([.sl C.decl,.v,.v]:LP) ([.sl C.decl,.str,.str]:LV) ([.int .i64]:LV) ([.same,.same,.same]:LV) (fun a K=>X a.1 a.2.1 a.2.2.1 (fun q0=>K (q0,()) ((),(),(),())))
def y6y:PT:=Qj ([(5,⟨[0,1,2],[],[],[(.slot 7,.int .i64)]⟩)]:LS)
def y6z:Ev Sg:=E0
theorem v6d:Qe Proofs.Tryz.prog D 158 (w38 q3z):=Ql (E:=y6z) (p:=y6y) (fuel:=4) (rk:=[.v]) h_E0 fun a K=>by kernel_rfl
theorem y04:Ent Proofs.Tryz.prog 159:=Qg (by kernel_rfl) (by kernel_rfl) (by kernel_rfl)
def v6e (X:z5x):Con Sg:=conV ([.v,.el C.ex]:LP) ([.int .i64,.el C.ex]:LV) ([.bool]:LV) ([.same,.same]:LV) (fun a K=>X a.1 a.2.1 (fun q0=>K (q0,()) ((),(),())))
def y60:PT:=Qj ([(11,⟨[0,1,3,7,8,9,10,11,12],[0],[],[(.slot 5,.int .i64)]⟩),(36,⟨[0,1,3,4,6,7,8,9,10,11,12,30,31,32,33,34,35,36,37,38,39,40,41,42],[0],[],[(.slot 46,.bool)]⟩)]:LS)
def y61:Ev Sg:=E0
theorem u1w:Qe Proofs.Tryz.prog D 159 (v6e q89):=Ql (E:=y61) (p:=y60) (fuel:=4) (rk:=[.v]) h_E0 fun a K=>by kernel_rfl
theorem z34:Ent Proofs.Tryz.prog 101:=Qg (by kernel_rfl) (by kernel_rfl) (by kernel_rfl)
def z6s (X:Us):Con Sg:=conV ([.sl C.decl,.sl C.str,.el C.ex]:LP) ([.sl C.decl,.sl C.str,.el C.ex]:LV) ([.int .i64]:LV) ([.same,.same,.same]:LV) (fun a K=>X a.1 a.2.1 a.2.2.1 (fun q0=>K (q0,()) ((),(),(),())))
def w9f:PT:=Qj ([(18,⟨[0,1,2,5,10,11,12,13,14,15,16,17,18,19],[0],[],[]⟩),(21,⟨[0,1,2,5,10,11,12,13,14,15,16,17,18,19],[0],[],[(.slot 8,.int .i64)]⟩)]:LS)
def w9g (Wm:q06) (Q2:Wd) (G0:q6r) (z0a:z5x):Ev Sg:=((((E0.with 81 (w0x Wm)).with 143 (q9l Q2)).with 158 (w38 G0)).with 159 (v6e z0a))
theorem y05 (Wm:q06) (Q2:Wd) (G0:q6r) (z0a:z5x) (X:Us) (l:List (Decl)) (segments:List (ByteArray)) (e:Ex) (K:Int->Prop):w2r Wm Q2 G0 z0a X l segments e K=fnV (((w9g Wm Q2 G0 z0a).with 101 (z6s X)).pl w9f) 4 101 ([.sl C.decl,.sl C.str,.el C.ex]:LP) ([.v]:LP) ([.sl C.decl,.sl C.str,.el C.ex]:LV) ([.int .i64]:LV) ([.same,.same,.same]:LV) (l,segments,e,()) (fun r _=>K r.1):=by kernel_rfl
theorem w39:Qe Proofs.Tryz.prog D 101 (z6s q30):=by
 show Qe _ _ _ (conV ([.sl C.decl,.sl C.str,.el C.ex]:LP) ([.sl C.decl,.sl C.str,.el C.ex]:LV) ([.int .i64]:LV) ([.same,.same,.same]:LV) fun a K=>q30 a.1 a.2.1 a.2.2.1 (fun q0=>K (q0,()) ((),(),(),())))
 refine z4r (E:=w9g q2d We q3z q89) (fuel:=4) (rk:=[.v]) (p:=w9f) (Qf (Qf (Qf (Qf h_E0 j6k v1k) q7v z3u) w37 v6d) y04 u1w) z34 fun a K h X hX=> ?_
 exact h (fun l segments e K=>X (l,segments,e,()) fun r _=>K r.1) (fun l segments e K hs=>hX (l,segments,e,()) (fun r _=>K r.1) (Eq.mp (y05 q2d We q3z q89 (fun l segments e K=>X (l,segments,e,()) fun r _=>K r.1) l segments e K) hs))
theorem j6l:Ent Proofs.Tryz.prog 85:=Qg (by kernel_rfl) (by kernel_rfl) (by kernel_rfl)
def w0y (X:q31):Con Sg:=conV ([.sl C.str,.v]:LP) ([.sl C.str,.str]:LV) ([.sl C.str]:LV) ([.same,.same]:LV) (fun a K=>X a.1 a.2.1 (fun q0=>K (q0,()) ((),(),())))
def u1x:PT:=Qj ([(5,⟨[0,1,4],[],[],[(.slot 5,.int .i64)]⟩)]:LS)
def u1y:Ev Sg:=E0
theorem v1l:Qe Proofs.Tryz.prog D 85 (w0y q6d):=Ql (E:=u1y) (p:=u1x) (fuel:=4) (rk:=[.sl C.str]) h_E0 fun a K=>by kernel_rfl
theorem z9l:Ent Proofs.Tryz.prog 216:=Qg (by kernel_rfl) (by kernel_rfl) (by kernel_rfl)
def z6t (X:Gm):Con Sg:=conV ([.sl C.str,.el C.ex]:LP) ([.sl C.str,.el C.ex]:LV) ([.sl C.str]:LV) ([.same,.same]:LV) (fun a K=>X a.1 a.2.1 (fun q0=>K (q0,()) ((),(),())))
def j3f:PT:=Qj ([(6,⟨[1,3,4],[0],[],[(.slot 0,.sl C.str)]⟩),(9,⟨[1,3,4],[0],[],[(.slot 0,.sl C.str),(.slot 5,.int .i64)]⟩)]:LS)
def j3g (Vy:q31):Ev Sg:=(E0.with 85 (w0y Vy))
theorem w6x (Vy:q31) (X:Gm) (l:List (ByteArray)) (e:Ex) (K:List (ByteArray)->Prop):z5y Vy X l e K=fnV (((j3g Vy).with 216 (z6t X)).pl j3f) 4 216 ([.sl C.str,.el C.ex]:LP) ([.sl C.str]:LP) ([.sl C.str,.el C.ex]:LV) ([.sl C.str]:LV) ([.same,.same]:LV) (l,e,()) (fun r _=>K r.1):=by kernel_rfl
theorem v6f:Qe Proofs.Tryz.prog D 216 (z6t q6s):=by
 show Qe _ _ _ (conV ([.sl C.str,.el C.ex]:LP) ([.sl C.str,.el C.ex]:LV) ([.sl C.str]:LV) ([.same,.same]:LV) fun a K=>q6s a.1 a.2.1 (fun q0=>K (q0,()) ((),(),())))
 refine z4r (E:=j3g q6d) (fuel:=4) (rk:=[.sl C.str]) (p:=j3f) (Qf h_E0 j6l v1l) z9l fun a K h X hX=> ?_
 exact h (fun l e K=>X (l,e,()) fun r _=>K r.1) (fun l e K hs=>hX (l,e,()) (fun r _=>K r.1) (Eq.mp (w6x q6d (fun l e K=>X (l,e,()) fun r _=>K r.1) l e K) hs))
theorem w6y:Ent Proofs.Tryz.prog 161:=Qg (by kernel_rfl) (by kernel_rfl) (by kernel_rfl)
def z6u (X:q21):Con Sg:=conV ([.el C.ex]:LP) ([.el C.ex]:LV) ([.sl C.str]:LV) ([.same]:LV) (fun a K=>X a.1 (fun q0=>K (q0,()) ((),())))
def v1m:PT:=Qj ([]:LS)
def v1n (q3b:Gm):Ev Sg:=(E0.with 216 (z6t q3b))
theorem v6g (q3b:Gm) (h:Ev3 (v1n q3b) Proofs.Tryz.prog D):Qe Proofs.Tryz.prog D 161 (z6u (z5z q3b)):=Ql (p:=v1m) (fuel:=4) (rk:=[.sl C.str]) h fun a K=>by kernel_rfl
theorem v6h:Qe Proofs.Tryz.prog D 161 (z6u q6t):=v6g q6s (Qf h_E0 z9l v6f)
theorem v1o:Ent Proofs.Tryz.prog 103:=Qg (by kernel_rfl) (by kernel_rfl) (by kernel_rfl)
def j08 (X:q5d):Con Sg:=conV ([.sl C.seg]:LP) ([.sl C.seg]:LV) ([.vec 217 C.edge]:LV) ([.same]:LV) (fun a K=>X a.1 (fun q0=>K (q0,()) ((),())))
def v6i:PT:=Qj ([(7,⟨[0,2],[],[],[(.slot 3,.own 217 C.edge),(.slot 4,.int .i64)]⟩),(15,⟨[0,2,4,5,7,8,9,10,13,14,15,16,17,18],[],[],[(.slot 3,.own 217 C.edge),(.slot 6,.int .i64)]⟩)]:LS)
def v6j (q3c:q21):Ev Sg:=(E0.with 161 (z6u q3c))
theorem y06 (q3c:q21) (h:Ev3 (v6j q3c) Proofs.Tryz.prog D):Qe Proofs.Tryz.prog D 103 (j08 (j0m q3c)):=Ql (p:=v6i) (fuel:=4) (rk:=[.own 217 C.edge]) h fun a K=>by kernel_rfl
theorem y07:Qe Proofs.Tryz.prog D 103 (j08 q9a):=y06 q6t (Qf h_E0 w6y v6h)
theorem v6k:Ent Proofs.Tryz.prog 215:=Qg (by kernel_rfl) (by kernel_rfl) (by kernel_rfl)
def j6m (X:q78):Con Sg:=conV ([.sl C.edge,.v]:LP) ([.sl C.edge,.str]:LV) ([.sl C.str]:LV) ([.same,.same]:LV) (fun a K=>X a.1 a.2.1 (fun q0=>K (q0,()) ((),(),())))
def y08:PT:=Qj ([(7,⟨[0,1,4,9,10],[],[],[(.slot 5,.sl C.str),(.slot 6,.sl C.str)]⟩),(15,⟨[0,1,4,7,9,11,12,13,14,15,16,17,18],[],[],[(.slot 5,.sl C.str),(.slot 6,.sl C.str),(.slot 8,.int .i64)]⟩)]:LS)
def y09 (Wm:q06) (Vy:q31):Ev Sg:=((E0.with 81 (w0x Wm)).with 85 (w0y Vy))
theorem y62 (Wm:q06) (Vy:q31) (h:Ev3 (y09 Wm Vy) Proofs.Tryz.prog D):Qe Proofs.Tryz.prog D 215 (j6m (j5j Wm Vy)):=Ql (p:=y08) (fuel:=4) (rk:=[.sl C.str]) h fun a K=>by kernel_rfl
theorem y63:Qe Proofs.Tryz.prog D 215 (j6m z16):=y62 q2d q6d (Qf (Qf h_E0 j6k v1k) j6l v1l)
theorem v1p:Ent Proofs.Tryz.prog 160:=Qg (by kernel_rfl) (by kernel_rfl) (by kernel_rfl)
def j09 (X:q5e):Con Sg:=conV ([.sl C.str,.sl C.edge]:LP) ([.sl C.str,.sl C.edge]:LV) ([.sl C.str]:LV) ([.same,.same]:LV) (fun a K=>X a.1 a.2.1 (fun q0=>K (q0,()) ((),(),())))
def v6l:PT:=Qj ([(7,⟨[0,1,4],[],[],[(.slot 5,.sl C.str),(.slot 6,.int .i64)]⟩)]:LS)
def v6m (q8k:q78) (Wm:q06) (Vy:q31):Ev Sg:=(((E0.with 215 (j6m q8k)).with 81 (w0x Wm)).with 85 (w0y Vy))
theorem y1a (q8k:q78) (Wm:q06) (Vy:q31) (h:Ev3 (v6m q8k Wm Vy) Proofs.Tryz.prog D):Qe Proofs.Tryz.prog D 160 (j09 (j0n q8k Wm Vy)):=Ql (p:=v6l) (fuel:=4) (rk:=[.sl C.str]) h fun a K=>by kernel_rfl
theorem y1b:Qe Proofs.Tryz.prog D 160 (j09 q9b):=y1a z16 q2d q6d (Qf (Qf (Qf h_E0 v6k y63) j6k v1k) j6l v1l)
theorem v1q:Ent Proofs.Tryz.prog 102:=Qg (by kernel_rfl) (by kernel_rfl) (by kernel_rfl)
def j1a (X:q5f):Con Sg:=conV ([.sl C.str,.sl C.edge]:LP) ([.sl C.str,.sl C.edge]:LV) ([.str,.bool]:LV) ([.same,.same]:LV) (fun a K=>X a.1 a.2.1 (fun q0 q1=>K (q0,q1,()) ((),(),())))
def v6n:PT:=Qj ([]:LS)
def v6o (q58:q5e):Ev Sg:=(E0.with 160 (j09 q58))
theorem y1c (q58:q5e) (h:Ev3 (v6o q58) Proofs.Tryz.prog D):Qe Proofs.Tryz.prog D 102 (j1a (j0o q58)):=Ql (p:=v6n) (fuel:=4) (rk:=[.v,.v]) h fun a K=>by kernel_rfl
theorem y1d:Qe Proofs.Tryz.prog D 102 (j1a q9c):=y1c q9b (Qf h_E0 v1p y1b)
theorem z9m:Ent Proofs.Tryz.prog 162:=Qg (by kernel_rfl) (by kernel_rfl) (by kernel_rfl)
def z6v (X:Rb):Con Sg:=conV ([.el C.env,.v]:LP) ([.el C.env,.str]:LV) ([.int .i64]:LV) ([.same,.same]:LV) (fun a K=>X a.1 a.2.1 (fun q0=>K (q0,()) ((),(),())))
def v1r:PT:=Qj ([(5,⟨[0,1,2],[0],[],[(.slot 5,.int .i64)]⟩)]:LS)
def v1s:Ev Sg:=E0
theorem j70:Qe Proofs.Tryz.prog D 162 (z6v q22):=Ql (E:=v1s) (p:=v1r) (fuel:=4) (rk:=[.v]) h_E0 fun a K=>by kernel_rfl
theorem v6p:Ent Proofs.Tryz.prog 163:=Qg (by kernel_rfl) (by kernel_rfl) (by kernel_rfl)
def j6n (X:q79):Con Sg:=conV ([.sl C.decl,.el C.serve]:LP) ([.sl C.decl,.el C.serve]:LV) ([.int .i64]:LV) ([.same,.same]:LV) (fun a K=>X a.1 a.2.1 (fun q0=>K (q0,()) ((),(),())))
def y1e:PT:=Qj ([]:LS)
def y1f (G0:q6r):Ev Sg:=(E0.with 158 (w38 G0))
theorem y64 (G0:q6r) (h:Ev3 (y1f G0) Proofs.Tryz.prog D):Qe Proofs.Tryz.prog D 163 (j6n (j5k G0)):=Ql (p:=y1e) (fuel:=4) (rk:=[.v]) h fun _ _=>by kernel_rfl
theorem y65:Qe Proofs.Tryz.prog D 163 (j6n z17):=y64 q3z (Qf h_E0 w37 v6d)
end Go.En
end
noncomputable section
set_option maxRecDepth 100000
open Go Go.RowKit Go.Fl Go.Fl.Lk Go.Fx
namespace Go.En
theorem j6o:Ent Proofs.Tryz.prog 104:=Qg (by kernel_rfl) (by kernel_rfl) (by kernel_rfl)
def q9v (X:Hk):Con Sg:=conV ([.el C.env,.el C.flag]:LP) ([.el C.env,.el C.flag]:LV) ([.int .i64]:LV) ([.same,.same]:LV) (fun a K=>X a.1 a.2.1 (fun q0=>K (q0,()) ((),(),())))
def j9a:PT:=Qj ([(7,⟨[0,1,2,3,5,15,16,17],[1,0],[],[(.slot 6,.int .i64),(.obj 2,.own 9 C.str)]⟩),(23,⟨[0,1,2,3,5,6,15,16,17,18,19,20,21,22],[1,0],[],[(.slot 8,.int .i64),(.obj 2,.own 9 C.str)]⟩)]:LS)
def j9b (Jk:Hj) (Wi:Rb) (Wj:Us) (q59:q79) (Zm:Js):Ev Sg:=(((((E0.with 100 (z8j Jk)).with 162 (z6v Wi)).with 101 (z6s Wj)).with 163 (j6n q59)).with 116 (q1f Zm))
theorem w4a (Jk:Hj) (Wi:Rb) (Wj:Us) (q59:q79) (Zm:Js) (h:Ev3 (j9b Jk Wi Wj q59 Zm) Proofs.Tryz.prog D):Qe Proofs.Tryz.prog D 104 (q9v (q9d Jk Wi Wj q59 Zm)):=Ql (p:=j9a) (fuel:=4) (rk:=[.v]) h fun a K=>by kernel_rfl
theorem w4b:Qe Proofs.Tryz.prog D 104 (q9v q0h):=w4a q20 q22 q30 z17 Va (Qf (Qf (Qf (Qf (Qf h_E0 z6r j6j) z9m j70) z34 w39) v6p y65) q9q z2f)
theorem j9c:Ent Proofs.Tryz.prog 105:=Qg (by kernel_rfl) (by kernel_rfl) (by kernel_rfl)
def z9n (X:q13):Con Sg:=conV ([.el C.env]:LP) ([.el C.env]:LV) ([.vec 9 C.str]:LV) ([.same]:LV) (fun a K=>X a.1 (fun q0=>K (q0,()) ((),())))
def w4c:PT:=Qj ([(7,⟨[0,1,2],[0],[],[(.slot 3,.own 9 C.str),(.slot 4,.int .i64)]⟩)]:LS)
def w4d:Ev Sg:=E0
theorem w6z:Qe Proofs.Tryz.prog D 105 (z9n q6e):=Ql (E:=w4d) (p:=w4c) (fuel:=4) (rk:=[.own 9 C.str]) h_E0 fun a K=>by kernel_rfl
theorem j6p:Ent Proofs.Tryz.prog 106:=Qg (by kernel_rfl) (by kernel_rfl) (by kernel_rfl)
def z6w (X:q0i):Con Sg:=conV ([.el C.env]:LP) ([.el C.env]:LV) ([.vec 217 C.edge]:LV) ([.same]:LV) (fun a K=>X a.1 (fun q0=>K (q0,()) ((),())))
def j9d:PT:=Qj ([(7,⟨[0,1,2],[0],[],[(.slot 3,.own 217 C.edge),(.slot 4,.int .i64)]⟩),(13,⟨[0,1,2,4,6,7,8,9,10],[],[],[(.slot 3,.own 217 C.edge),(.slot 5,.int .i64)]⟩)]:LS)
def j9e:Ev Sg:=E0
theorem w4e:Qe Proofs.Tryz.prog D 106 (z6w q0j):=Ql (E:=j9e) (p:=j9d) (fuel:=4) (rk:=[.own 217 C.edge]) h_E0 fun a K=>by kernel_rfl
theorem w60:Ent Proofs.Tryz.prog 93:=Qg (by kernel_rfl) (by kernel_rfl) (by kernel_rfl)
def z6x (X:q23):Con Sg:=conV ([.sl C.span,.sl C.span]:LP) ([.sl C.span,.sl C.span]:LV) ([.vec 95 C.span]:LV) ([.same,.same]:LV) (fun a K=>X a.1 a.2.1 (fun q0=>K (q0,()) ((),(),())))
def v1t:PT:=Qj ([(7,⟨[0,1,4,5,6,8,9,10,11],[1],[],[(.slot 7,.int .i64),(.obj 0,.own 4 C.bool)]⟩)]:LS)
def v1u (Zt:Gj) (Qz:Jn):Ev Sg:=((E0.with 96 (z6n Zt)).with 150 (q5v Qz))
theorem v6q (Zt:Gj) (Qz:Jn) (h:Ev3 (v1u Zt Qz) Proofs.Tryz.prog D):Qe Proofs.Tryz.prog D 93 (z6x (z50 Zt Qz)):=Ql (p:=v1t) (fuel:=4) (rk:=[.own 95 C.span]) h fun a K=>by kernel_rfl
theorem v6r:Qe Proofs.Tryz.prog D 93 (z6x q6u):=v6q q0d Vb (Qf (Qf h_E0 z3y j27) q4m q9s)
theorem z35:Ent Proofs.Tryz.prog 107:=Qg (by kernel_rfl) (by kernel_rfl) (by kernel_rfl)
def q0s (X:Wg):Con Sg:=conV ([.el C.env,.v]:LP) ([.el C.env,.int .i64]:LV) ([.int .i64]:LV) ([.same,.same]:LV) (fun a K=>X a.1 a.2.1 (fun q0=>K (q0,()) ((),(),())))
def z45:PT:=Qj ([(13,⟨[0,1,2,5,6,7,15,16,17,18,19,20,21,22,23,24,25,26,27,28,29,30,31,32,33],[1,0],[],[(.slot 8,.int .i64)]⟩),(35,⟨[0,1,2,5,6,7,8,9,15,16,17,18,19,20,21,22,23,24,25,26,27,28,29,30,31,32,33,34,35,36,37,38,55,56,57,58,59,60,61,62,63,64,66,67,68,69,70,71,72,73,74,75,76],[1,0],[],[(.slot 10,.own 95 C.span),(.slot 11,.int .i64),(.obj 4,.own 9 C.str)]⟩),(51,⟨[0,1,2,5,6,7,8,9,10,11,15,16,17,18,19,20,21,22,23,24,25,26,27,28,29,30,31,32,33,34,35,36,37,38,55,56,57,58,59,60,61,62,63,64,66,67,68,69,70,71,72,73,74,75,77,78,79,101,102,103,104,105,106],[1,0],[],[(.slot 13,.int .i64),(.obj 9,.own 95 C.span),(.obj 6,.own 95 C.span),(.obj 4,.own 9 C.str)]⟩)]:LS)
def z47 (Zg:Wr) (Wi:Rb) (Jk:Hj) (Wj:Us) (q3d:q23):Ev Sg:=(((((E0.with 41 (q7y Zg)).with 162 (z6v Wi)).with 100 (z8j Jk)).with 101 (z6s Wj)).with 93 (z6x q3d))
theorem z6y (Zg:Wr) (Wi:Rb) (Jk:Hj) (Wj:Us) (q3d:q23) (h:Ev3 (z47 Zg Wi Jk Wj q3d) Proofs.Tryz.prog D):Qe Proofs.Tryz.prog D 107 (q0s (q0k Zg Wi Jk Wj q3d)):=Ql (p:=z45) (fuel:=4) (rk:=[.v]) h fun a K=>by kernel_rfl
theorem z6z:Qe Proofs.Tryz.prog D 107 (q0s Vq):=z6y Gi q22 q20 q30 q6u (Qf (Qf (Qf (Qf (Qf h_E0 q9r z3x) z9m j70) z6r j6j) z34 w39) w60 v6r)
theorem j1b:Ent Proofs.Tryz.prog 54:=Qg (by kernel_rfl) (by kernel_rfl) (by kernel_rfl)
def q5x (X:Uf):Con Sg:=conV ([.el C.env]:LP) ([.el C.env]:LV) ([.str,.int .i64]:LV) ([.same]:LV) (fun a K=>X a.1 (fun q0 q1=>K (q0,q1,()) ((),())))
def j3h:PT:=Qj ([(13,⟨[0,1,4,5,16,17,18,19,21,22,23],[0],[],[(.slot 6,.int .i64),(.obj 1,.own 9 C.str)]⟩),(33,⟨[0,1,4,5,6,8,9,16,17,18,19,21,22,23,24,25,26,27,28,59,60,61,62,63,64,65,66,67],[0],[],[(.slot 10,.int .i64),(.obj 1,.own 9 C.str),(.obj 4,.own 217 C.edge)]⟩),(51,⟨[0,1,4,5,6,8,9,10,12,13,16,17,18,19,21,22,23,24,25,26,27,28,59,60,61,62,63,64,65,66,67,70,71,72,73,74,94,95,96,97,98,99,100,101,102],[0],[],[(.slot 14,.int .i64),(.obj 8,.own 9 C.str),(.obj 9,.own 217 C.edge),(.obj 4,.own 217 C.edge),(.obj 1,.own 9 C.str)]⟩)]:LS)
def j3i (Gc:U6) (Jk:Hj) (Wj:Us) (q6a:q5d) (q2s:q5f) (H4:Hk) (Bp:q13) (H5:q0i) (Wk:Wg):Ev Sg:=(((((((((E0.with 99 (q7e Gc)).with 100 (z8j Jk)).with 101 (z6s Wj)).with 103 (j08 q6a)).with 102 (j1a q2s)).with 104 (q9v H4)).with 105 (z9n Bp)).with 106 (z6w H5)).with 107 (q0s Wk))
theorem j6q (Gc:U6) (Jk:Hj) (Wj:Us) (q6a:q5d) (q2s:q5f) (H4:Hk) (Bp:q13) (H5:q0i) (Wk:Wg) (h:Ev3 (j3i Gc Jk Wj q6a q2s H4 Bp H5 Wk) Proofs.Tryz.prog D):Qe Proofs.Tryz.prog D 54 (q5x (q5g Gc Jk Wj q6a q2s H4 Bp H5 Wk)):=Ql (p:=j3h) (fuel:=4) (rk:=[.v,.v]) h fun a K=>by kernel_rfl
theorem j6r:Qe Proofs.Tryz.prog D 54 (q5x Hl):=j6q R7 q20 q30 q9a q9c q0h q6e q0j Vq (Qf (Qf (Qf (Qf (Qf (Qf (Qf (Qf (Qf h_E0 j3e j89) z6r j6j) z34 w39) v1o y07) v1q y1d) j6o w4b) j9c w6z) j6p w4e) z35 z6z)
theorem v1v:Ent Proofs.Tryz.prog 26:=Qg (by kernel_rfl) (by kernel_rfl) (by kernel_rfl)
def j1c (X:q5h):Con Sg:=conV ([.el C.env]:LP) ([.el C.env]:LV) ([.bool]:LV) ([.same]:LV) (fun a K=>X a.1 (fun q0=>K (q0,()) ((),())))
def v6s:PT:=Qj ([]:LS)
def v6t (Um:Uf):Ev Sg:=(E0.with 54 (q5x Um))
theorem y1g (Um:Uf) (h:Ev3 (v6t Um) Proofs.Tryz.prog D):Qe Proofs.Tryz.prog D 26 (j1c (j0p Um)):=Ql (p:=v6s) (fuel:=4) (rk:=[.v]) h fun a K=>by kernel_rfl
theorem y1h:Qe Proofs.Tryz.prog D 26 (j1c q5i):=y1g Hl (Qf h_E0 j1b j6r)
theorem j6s:Ent Proofs.Tryz.prog 31:=Qg (by kernel_rfl) (by kernel_rfl) (by kernel_rfl)
def q9w (X:Hm):Con Sg:=conV ([.ptr 104 [.c,.v],.v]:LP) ([.ptr 104 [.sl C.u8,.int .i64],.int .i64]:LV) ([.el C.env]:LV) ([.ptr 104 [.same,.int .i64],.same]:LV) (fun a K=>X a.1.1 a.1.2.1 a.2.1 (fun q0 q1=>K (q0,()) (((),q1,()),(),())))
def j9f:PT:=Qj ([(8,⟨[0,1,4,5,10,11],[1],[(3,(36,8)),(0,(104,2))],[(.cell 3 0,.str),(.cell 3 1,.str),(.cell 3 2,.int .i64),(.cell 0 1,.int .i64),(.obj 2,.own 177 C.decl)]⟩),(15,⟨[0,1,4,5,6,10,11,21,22,23,24,26],[2,1],[(0,(104,2)),(3,(36,8))],[(.slot 7,.int .i64),(.cell 0 1,.int .i64),(.cell 3 5,.own 122 C.flag),(.obj 10,.own 147 C.seg),(.obj 12,.own 59 C.layer),(.obj 13,.own 68 C.exper)]⟩),(62000009,⟨[0,1,2,4,6,7,8,19,20,21,22,23,24,25,26,27,28,29],[22,21],[(0,(104,2)),(23,(122,13))],[(.slot 9,.int .i64),(.cell 0 1,.int .i64),(.cell 23 2,.own 115 C.val),(.obj 13,.own 68 C.exper),(.obj 12,.own 59 C.layer),(.obj 17,.own 122 C.flag),(.obj 10,.own 147 C.seg)]⟩),(62000019,⟨[0,1,2,4,6,7,8,9,19,20,21,22,23,24,25,26,27,28,29,30,31,32,44,45,46,47,48],[22,21],[(23,(122,13)),(0,(104,2))],[(.slot 10,.int .i64),(.cell 23 5,.own 188 C.prereq),(.cell 0 1,.int .i64),(.obj 10,.own 147 C.seg),(.obj 17,.own 122 C.flag),(.obj 12,.own 59 C.layer),(.obj 13,.own 68 C.exper),(.obj 27,.own 115 C.val)]⟩),(62000029,⟨[0,1,2,4,6,7,8,9,10,19,20,21,22,23,24,25,26,27,28,29,30,31,32,44,45,46,47,48,49,50,51,52,53],[22,21],[(23,(122,13)),(0,(104,2))],[(.slot 11,.int .i64),(.cell 23 6,.own 190 C.target),(.cell 0 1,.int .i64),(.obj 27,.own 115 C.val),(.obj 13,.own 68 C.exper),(.obj 12,.own 59 C.layer),(.obj 17,.own 122 C.flag),(.obj 10,.own 147 C.seg),(.obj 34,.own 188 C.prereq)]⟩),(62000038,⟨[0,1,2,4,6,7,8,9,10,11,12,19,20,21,22,23,24,25,26,27,28,29,30,31,32,44,45,46,47,48,49,50,51,52,53,81,82,83,84,87,88,89,90,91,92,93],[23],[(51,(190,3)),(0,(104,2))],[(.cell 51 0,.str),(.cell 0 1,.int .i64),(.obj 50,.own 9 C.str),(.obj 34,.own 188 C.prereq),(.obj 10,.own 147 C.seg),(.obj 17,.own 122 C.flag),(.obj 12,.own 59 C.layer),(.obj 13,.own 68 C.exper),(.obj 27,.own 115 C.val),(.obj 42,.own 190 C.target)]⟩),(62000060,⟨[0,1,2,4,6,7,8,9,10,11,13,19,20,21,22,23,24,25,26,27,28,29,30,31,32,44,45,46,47,48,49,50,51,52,53,81,82,83,84,108],[22,21],[(0,(104,2)),(23,(122,13))],[(.cell 0 1,.int .i64),(.cell 23 7,.own 193 C.rule),(.obj 50,.own 9 C.str),(.obj 34,.own 188 C.prereq),(.obj 10,.own 147 C.seg),(.obj 17,.own 122 C.flag),(.obj 12,.own 59 C.layer),(.obj 13,.own 68 C.exper),(.obj 27,.own 115 C.val),(.obj 42,.own 190 C.target)]⟩),(62000047,⟨[0,1,2,4,6,7,8,9,10,11,13,19,20,21,22,23,24,25,26,27,28,29,30,31,32,44,45,46,47,48,49,50,51,52,53,81,82,83,84,108],[],[(0,(104,2)),(23,(122,13))],[(.slot 14,.int .i64),(.cell 0 1,.int .i64),(.cell 23 7,.own 193 C.rule),(.obj 50,.own 9 C.str),(.obj 34,.own 188 C.prereq),(.obj 10,.own 147 C.seg),(.obj 17,.own 122 C.flag),(.obj 12,.own 59 C.layer),(.obj 13,.own 68 C.exper),(.obj 27,.own 115 C.val),(.obj 42,.own 190 C.target)]⟩),(25,⟨[0,1,4,5,6,7,10,11,21,22,23,24,26,27,28,29,30,45,46,48],[2,1],[(0,(104,2)),(3,(36,8))],[(.slot 8,.int .i64),(.cell 0 1,.int .i64),(.cell 3 6,.own 59 C.layer),(.obj 13,.own 68 C.exper),(.obj 10,.own 147 C.seg),(.obj 17,.own 122 C.flag)]⟩),(35,⟨[0,1,4,5,6,7,8,10,11,21,22,23,24,26,27,28,29,30,45,46,48,49,50,51,52,66,67,69],[2,1],[(0,(104,2)),(3,(36,8))],[(.slot 9,.int .i64),(.cell 0 1,.int .i64),(.cell 3 7,.own 68 C.exper),(.obj 17,.own 122 C.flag),(.obj 10,.own 147 C.seg),(.obj 24,.own 59 C.layer)]⟩),(64000010,⟨[0,1,2,3,5,8,9,10,13,14,15,16,17,18,19,20,21,22,23,24,25,26,27,28,29,30,31,32,33,34,35,36,37,38,39,40,41,42,43,44,45,46],[37,36,35],[(40,(68,12)),(0,(104,2))],[(.cell 40 4,.int .i64),(.cell 0 1,.int .i64),(.obj 39,.own 70 C.range),(.obj 31,.own 68 C.exper),(.obj 24,.own 59 C.layer),(.obj 17,.own 122 C.flag),(.obj 10,.own 147 C.seg)]⟩),(64000014,⟨[0,1,2,3,5,8,9,10,13,14,15,16,17,18,19,20,21,22,23,24,25,26,27,28,29,30,31,32,33,34,35,36,37,38,39,40,41,42,43,44,45,46],[37,36,35],[(40,(68,12)),(0,(104,2))],[(.cell 40 7,.int .i64),(.cell 40 8,.str),(.cell 40 9,.str),(.cell 40 10,.sl C.val),(.cell 40 11,.sl C.ex),(.cell 0 1,.int .i64),(.obj 10,.own 147 C.seg),(.obj 17,.own 122 C.flag),(.obj 24,.own 59 C.layer),(.obj 31,.own 68 C.exper),(.obj 39,.own 70 C.range)]⟩)]:LS)
def j9g (Q1:J5) (q3e:q2v) (Qa:Q7) (Rv:z0g) (Z9:R1) (B0:q7s) (z0b:z1o) (U0:B7) (B1:q2c) (Zm:Js) (z2x:z1r) (Jl:Rg) (Hy:q3q) (q8l:q74) (Wc:q2b) (Vh:Ri) (q6b:q46) (Ry:q5h):Ev Sg:=((((((((((((((((((E0.with 57 (q6y Q1)).with 59 (z6d q3e)).with 49 (Gz Qa)).with 60 (v0u Rv)).with 109 (z6c Z9)).with 112 (w0v B0)).with 115 (w3b z0b)).with 114 (z6e U0)).with 113 (w0w B1)).with 116 (q1f Zm)).with 62 (w3q z2x)).with 58 (z8g Jl)).with 117 (j2w Hy)).with 88 (j55 q8l)).with 51 (j2v Wc)).with 118 (z3z Vh)).with 91 (j02 q6b)).with 26 (j1c Ry))
theorem w4f (Q1:J5) (q3e:q2v) (Qa:Q7) (Rv:z0g) (Z9:R1) (B0:q7s) (z0b:z1o) (U0:B7) (B1:q2c) (Zm:Js) (z2x:z1r) (Jl:Rg) (Hy:q3q) (q8l:q74) (Wc:q2b) (Vh:Ri) (q6b:q46) (Ry:q5h) (h:Ev3 (j9g Q1 q3e Qa Rv Z9 B0 z0b U0 B1 Zm z2x Jl Hy q8l Wc Vh q6b Ry) Proofs.Tryz.prog D):Qe Proofs.Tryz.prog D 31 (q9w (q9e Q1 q3e Qa Rv Z9 B0 z0b U0 B1 Zm z2x Jl Hy q8l Wc Vh q6b Ry)):=Ql (p:=j9f) (fuel:=4) (rk:=[.el C.env]) h fun a K=>by kernel_rfl
theorem w4g:Qe Proofs.Tryz.prog D 31 (q9w q0l):=w4f W4 q6o Zx z74 Ha z3d z5i B8 z3f Va z5n q3p q8w z1u q7r q2g q83 q5i (Qf (Qf (Qf (Qf (Qf (Qf (Qf (Qf (Qf (Qf (Qf (Qf (Qf (Qf (Qf (Qf (Qf (Qf h_E0 q6i z0j) w6b v47) Vg Rr) w85 y3y) j0w w2z) w86 y3z) v9o u1d) j5q w29) j5p y30) q9q z2f) v9u u1h) z8f w0u) w3a v48) v5r y58) j5o v0t) j28 w3s) v04 v97) v1v y1h)
theorem j9h:Ent Proofs.Tryz.prog 30:=Qg (by kernel_rfl) (by kernel_rfl) (by kernel_rfl)
def z9o (X:q14):Con Sg:=conV ([]:LP) ([]:LV) ([.el C.env]:LV) ([]:LV) (fun _ K=>X (fun q0=>K (q0,()) ()))
def w4h:PT:=Qj ([]:LS)
def w4i:Ev Sg:=E0
theorem w61:Qe Proofs.Tryz.prog D 30 (z9o q6f):=Ql (E:=w4i) (p:=w4h) (fuel:=4) (rk:=[.el C.env]) h_E0 fun a K=>by kernel_rfl
theorem z2g:Ent Proofs.Tryz.prog 64:=Qg (by kernel_rfl) (by kernel_rfl) (by kernel_rfl)
def q9x (X:Vr):Con Sg:=conV ([.el C.subj,.v]:LP) ([.el C.subj,.str]:LV) ([.int .i64]:LV) ([.same,.same]:LV) (fun a K=>X a.1 a.2.1 (fun q0=>K (q0,()) ((),(),())))
def j9i:PT:=Qj ([(120000005,⟨[0,1,6,7],[1],[],[(.slot 8,.int .i64)]⟩)]:LS)
def j9j:Ev Sg:=E0
theorem z60:Qe Proofs.Tryz.prog D 64 (q9x Ut):=Ql (E:=j9j) (p:=j9i) (fuel:=4) (rk:=[.v]) h_E0 fun a K=>by kernel_rfl
theorem q9y:Ent Proofs.Tryz.prog 170:=Qg (by kernel_rfl) (by kernel_rfl) (by kernel_rfl)
def q7z (X:Wu):Con Sg:=conV ([.el C.val]:LP) ([.el C.val]:LV) ([.el C.val]:LV) ([.same]:LV) (fun a K=>X a.1 (fun q0=>K (q0,()) ((),())))
def w62:PT:=Qj ([]:LS)
def w63:Ev Sg:=E0
theorem z36:Qe Proofs.Tryz.prog D 170 (q7z Vm):=Ql (E:=w63) (p:=w62) (fuel:=4) (rk:=[.el C.val]) h_E0 fun a K=>by kernel_rfl
theorem j1d:Ent Proofs.Tryz.prog 122:=Qg (by kernel_rfl) (by kernel_rfl) (by kernel_rfl)
def q5y (X:Ug):Con Sg:=conV ([.el C.attr]:LP) ([.el C.attr]:LV) ([.el C.attr]:LV) ([.same]:LV) (fun a K=>X a.1 (fun q0=>K (q0,()) ((),())))
def j3j:PT:=Qj ([]:LS)
def j3k (Zi:Wu):Ev Sg:=(E0.with 170 (q7z Zi))
theorem j6t (Zi:Wu) (h:Ev3 (j3k Zi) Proofs.Tryz.prog D):Qe Proofs.Tryz.prog D 122 (q5y (q5j Zi)):=Ql (p:=j3j) (fuel:=4) (rk:=[.el C.attr]) h fun a K=>by kernel_rfl
theorem j6u:Qe Proofs.Tryz.prog D 122 (q5y Hn):=j6t Vm (Qf h_E0 q9y z36)
theorem j6v:Ent Proofs.Tryz.prog 65:=Qg (by kernel_rfl) (by kernel_rfl) (by kernel_rfl)
def q9z (X:Ho):Con Sg:=conV ([.el C.ctx]:LP) ([.el C.ctx]:LV) ([.el C.ctx]:LV) ([.same]:LV) (fun a K=>X a.1 (fun q0=>K (q0,()) ((),())))
def j9k:PT:=Qj ([(122000007,⟨[0,1,4,8,9,10,11,12],[],[],[(.slot 5,.own 180 C.attr),(.slot 13,.int .i64)]⟩)]:LS)
def j9l (Un:Ug):Ev Sg:=(E0.with 122 (q5y Un))
theorem w4j (Un:Ug) (h:Ev3 (j9l Un) Proofs.Tryz.prog D):Qe Proofs.Tryz.prog D 65 (q9z (q9f Un)):=Ql (p:=j9k) (fuel:=4) (rk:=[.el C.ctx]) h fun a K=>by kernel_rfl
theorem w4k:Qe Proofs.Tryz.prog D 65 (q9z q0m):=w4j Hn (Qf h_E0 j1d j6u)
theorem q7f:Ent Proofs.Tryz.prog 35:=Qg (by kernel_rfl) (by kernel_rfl) (by kernel_rfl)
def q19 (X:Jo):Con Sg:=conV ([.el C.subj,.v]:LP) ([.el C.subj,.str]:LV) ([.el C.ctx,.bool]:LV) ([.same,.same]:LV) (fun a K=>X a.1 a.2.1 (fun q0 q1=>K (q0,q1,()) ((),(),())))
def w4l:PT:=Qj ([]:LS)
def w4m (Jb:Vr) (H6:Ho):Ev Sg:=((E0.with 64 (q9x Jb)).with 65 (q9z H6))
theorem w65 (Jb:Vr) (H6:Ho) (h:Ev3 (w4m Jb H6) Proofs.Tryz.prog D):Qe Proofs.Tryz.prog D 35 (q19 (z0z Jb H6)):=Ql (p:=w4l) (fuel:=4) (rk:=[.el C.ctx,.v]) h fun _ _=>by kernel_rfl
theorem z09:Qe Proofs.Tryz.prog D 35 (q19 Vn):=w65 Ut q0m (Qf (Qf h_E0 z2g z60) j6v w4k)
end Go.En
end
noncomputable section
set_option maxRecDepth 100000
open Go Go.RowKit Go.Fl Go.Fl.Lk Go.Fx
namespace Go.En
theorem j9m:Ent Proofs.Tryz.prog 124:=Qg (by kernel_rfl) (by kernel_rfl) (by kernel_rfl)
def z9p (X:q15):Con Sg:=conV ([.sl C.bytes]:LP) ([.sl C.bytes]:LV) ([.vec 5 C.u8]:LV) ([.same]:LV) (fun a K=>X a.1 (fun q0=>K (q0,()) ((),())))
def w4n:PT:=Qj ([(7,⟨[0,2,7,8],[],[],[(.slot 3,.own 5 C.u8),(.slot 9,.int .i64)]⟩),(13,⟨[0,2,5,7,8,9,10,11,12],[],[],[(.slot 3,.own 5 C.u8),(.slot 6,.int .i64)]⟩)]:LS)
def w4o:Ev Sg:=E0
theorem w66:Qe Proofs.Tryz.prog D 124 (z9p q16):=Ql (E:=w4o) (p:=w4n) (fuel:=4) (rk:=[.own 5 C.u8]) h_E0 fun a K=>by kernel_rfl
theorem z61:Ent Proofs.Tryz.prog 225:=Qg (by kernel_rfl) (by kernel_rfl) (by kernel_rfl)
def q90 (X:Uu):Con Sg:=conV ([.v,.v]:LP) ([.int .u64,.int .i64]:LV) ([.int .u64]:LV) ([.same,.same]:LV) (fun a K=>X a.1 a.2.1 (fun q0=>K (q0,()) ((),(),())))
def z8r:PT:=Qj ([]:LS)
def z8s:Ev Sg:=E0
theorem j1e:Qe Proofs.Tryz.prog D 225 (q90 Uv):=Ql (E:=z8s) (p:=z8r) (fuel:=4) (rk:=[.v]) h_E0 fun a K=>by kernel_rfl
theorem q4y:Ent Proofs.Tryz.prog 172:=Qg (by kernel_rfl) (by kernel_rfl) (by kernel_rfl)
def G8 (X:Z5):Con Sg:=conV ([.ptr 251 [.v,.v,.v,.v],.v]:LP) ([.ptr 251 [.int .u64,.int .u64,.int .u64,.int .u64],.int .i64]:LV) ([]:LV) ([.ptr 251 [.int .u64,.int .u64,.int .u64,.int .u64],.same]:LV) (fun a K=>X a.1.1 a.1.2.1 a.1.2.2.1 a.1.2.2.2.1 a.2.1 (fun q0 q1 q2 q3=>K () ((q0,q1,q2,q3,()),(),())))
def z62:PT:=Qj ([(3,⟨[0,1,4],[],[(0,(251,4))],[(.slot 5,.int .i64),(.cell 0 0,.int IntKind.u64),(.cell 0 1,.int IntKind.u64),(.cell 0 2,.int IntKind.u64),(.cell 0 3,.int IntKind.u64)]⟩)]:LS)
def z63 (Zq:Uu):Ev Sg:=(E0.with 225 (q90 Zq))
theorem z8t (Zq:Uu) (h:Ev3 (z63 Zq) Proofs.Tryz.prog D):Qe Proofs.Tryz.prog D 172 (G8 (q1y Zq)):=Ql (p:=z62) (fuel:=4) (rk:=[]) h fun a K=>by kernel_rfl
theorem q7n:Qe Proofs.Tryz.prog D 172 (G8 Zs):=z8t Uv (Qf h_E0 z61 j1e)
theorem z8u:Ent Proofs.Tryz.prog 171:=Qg (by kernel_rfl) (by kernel_rfl) (by kernel_rfl)
def q4q (X:Vu):Con Sg:=conV ([.ptr 251 [.v,.v,.v,.v],.v]:LP) ([.ptr 251 [.int .u64,.int .u64,.int .u64,.int .u64],.int .u64]:LV) ([]:LV) ([.ptr 251 [.int .u64,.int .u64,.int .u64,.int .u64],.same]:LV) (fun a K=>X a.1.1 a.1.2.1 a.1.2.2.1 a.1.2.2.2.1 a.2.1 (fun q0 q1 q2 q3=>K () ((q0,q1,q2,q3,()),(),())))
def j1f:PT:=Qj ([]:LS)
def j1g (Za:Z5):Ev Sg:=(E0.with 172 (G8 Za))
theorem j3l (Za:Z5) (h:Ev3 (j1g Za) Proofs.Tryz.prog D):Qe Proofs.Tryz.prog D 171 (q4q (q32 Za)):=Ql (p:=j1f) (fuel:=4) (rk:=[]) h fun a K=>by kernel_rfl
theorem j3m:Qe Proofs.Tryz.prog D 171 (q4q Gn):=j3l Zs (Qf h_E0 q4y q7n)
theorem w67:Ent Proofs.Tryz.prog 123:=Qg (by kernel_rfl) (by kernel_rfl) (by kernel_rfl)
def z64 (X:q24):Con Sg:=conV ([.v,.v,.sl C.u8]:LP) ([.int .u64,.int .u64,.sl C.u8]:LV) ([.int .u64]:LV) ([.same,.same,.same]:LV) (fun a K=>X a.1 a.2.1 a.2.2.1 (fun q0=>K (q0,()) ((),(),(),())))
def v1w:PT:=Qj ([(9,⟨[0,1,2,6,7,8,13,14,15,16,17,18,19,20,21,22,23,24,25],[],[(0,(251,4))],[(.slot 9,.int .i64),(.cell 0 0,.int IntKind.u64),(.cell 0 1,.int IntKind.u64),(.cell 0 2,.int IntKind.u64),(.cell 0 3,.int IntKind.u64)]⟩),(17,⟨[0,1,2,6,7,8,9,13,14,15,16,17,18,19,20,21,22,23,24,25,26,27,28,29,30],[0],[],[(.slot 10,.int IntKind.u64),(.slot 33,.int .i64)]⟩),(29,⟨[0,1,2,6,7,9,13,14,15,16,17,18,19,20,21,22,23,24,25,26,27,28,29,30,51,52,53],[0],[],[(.slot 8,.int IntKind.u64),(.slot 54,.int .i64)]⟩)]:LS)
def v1x (Wy:Vu) (Za:Z5):Ev Sg:=((E0.with 171 (q4q Wy)).with 172 (G8 Za))
theorem v6u (Wy:Vu) (Za:Z5) (h:Ev3 (v1x Wy Za) Proofs.Tryz.prog D):Qe Proofs.Tryz.prog D 123 (z64 (z52 Wy Za)):=Ql (p:=v1w) (fuel:=4) (rk:=[.v]) h fun a K=>by kernel_rfl
theorem v6v:Qe Proofs.Tryz.prog D 123 (z64 q6v):=v6u Gn Zs (Qf (Qf h_E0 z8u j3m) q4y q7n)
theorem w4p:Ent Proofs.Tryz.prog 66:=Qg (by kernel_rfl) (by kernel_rfl) (by kernel_rfl)
def z38 (X:q07):Con Sg:=conV ([.v,.sl C.bytes]:LP) ([.int .u64,.sl C.bytes]:LV) ([.int .u64]:LV) ([.same,.same]:LV) (fun a K=>X a.1 a.2.1 (fun q0=>K (q0,()) ((),(),())))
def w68:PT:=Qj ([]:LS)
def w69 (Bq:q15) (q3f:q24):Ev Sg:=((E0.with 124 (z9p Bq)).with 123 (z64 q3f))
theorem v1y (Bq:q15) (q3f:q24) (h:Ev3 (w69 Bq q3f) Proofs.Tryz.prog D):Qe Proofs.Tryz.prog D 66 (z38 (z3k Bq q3f)):=Ql (p:=w68) (fuel:=4) (rk:=[.v]) h fun a K=>by kernel_rfl
theorem v1z:Qe Proofs.Tryz.prog D 66 (z38 q33):=v1y q16 q6v (Qf (Qf h_E0 j9m w66) w67 v6v)
theorem j3n:Ent Proofs.Tryz.prog 36:=Qg (by kernel_rfl) (by kernel_rfl) (by kernel_rfl)
def z39 (X:Rj):Con Sg:=conV ([.v,.v]:LP) ([.str,.str]:LV) ([.int .i64]:LV) ([.same,.same]:LV) (fun a K=>X a.1 a.2.1 (fun q0=>K (q0,()) ((),(),())))
def v6w:PT:=Qj ([]:LS)
def v6x (q1p:q07):Ev Sg:=(E0.with 66 (z38 q1p))
theorem y1i (q1p:q07) (h:Ev3 (v6x q1p) Proofs.Tryz.prog D):Qe Proofs.Tryz.prog D 36 (z39 (j0q q1p)):=Ql (p:=v6w) (fuel:=4) (rk:=[.v]) h fun a K=>by kernel_rfl
theorem w4q:Qe Proofs.Tryz.prog D 36 (z39 Rk):=y1i q33 (Qf h_E0 w4p v1z)
theorem j6w:Ent Proofs.Tryz.prog 20:=Qg (by kernel_rfl) (by kernel_rfl) (by kernel_rfl)
def z65 (X:q0n):Con Sg:=conV ([.sl C.forced,.v]:LP) ([.sl C.forced,.str]:LV) ([.el C.forced,.bool]:LV) ([.same,.same]:LV) (fun a K=>X a.1 a.2.1 (fun q0 q1=>K (q0,q1,()) ((),(),())))
def j9n:PT:=Qj ([(5,⟨[0,1,4,8,9],[],[(0,(54,3))],[(.slot 10,.int .i64),(.cell 0 0,.str),(.cell 0 1,.str),(.cell 0 2,.int .i64)]⟩)]:LS)
def j9o:Ev Sg:=E0
theorem w4r:Qe Proofs.Tryz.prog D 20 (z65 q0o):=Ql (E:=j9o) (p:=j9n) (fuel:=4) (rk:=[.el C.forced,.v]) h_E0 fun a K=>by kernel_rfl
theorem w4s:Ent Proofs.Tryz.prog 37:=Qg (by kernel_rfl) (by kernel_rfl) (by kernel_rfl)
def j3o (X:q34):Con Sg:=conV ([.el C.env,.el C.forced]:LP) ([.el C.env,.el C.forced]:LV) ([.bool]:LV) ([.same,.same]:LV) (fun a K=>X a.1 a.2.1 (fun q0=>K (q0,()) ((),(),())))
def w7a:PT:=Qj ([(126000005,⟨[0,1,6,7],[1],[],[(.slot 8,.int .i64)]⟩),(127000005,⟨[0,1,6,7],[],[],[(.slot 8,.int .i64)]⟩)]:LS)
def w7b:Ev Sg:=E0
theorem v10:Qe Proofs.Tryz.prog D 37 (j3o q35):=Ql (E:=w7b) (p:=w7a) (fuel:=8) (rk:=[.v]) h_E0 fun a K=>by kernel_rfl
theorem z66:Ent Proofs.Tryz.prog 16:=Qg (by kernel_rfl) (by kernel_rfl) (by kernel_rfl)
def q70 (X:V9):Con Sg:=conV ([.el C.env,.el C.subj]:LP) ([.el C.env,.el C.subj]:LV) ([.bool]:LV) ([.same,.same]:LV) (fun a K=>X a.1 a.2.1 (fun q0=>K (q0,()) ((),(),())))
def w7c:PT:=Qj ([]:LS)
def w7d (Zc:Jo) (Wz:Rj):Ev Sg:=((E0.with 35 (q19 Zc)).with 36 (z39 Wz))
theorem v11 (Zc:Jo) (Wz:Rj) (h:Ev3 (w7d Zc Wz) Proofs.Tryz.prog D):Qe Proofs.Tryz.prog D 16 (q70 (z3l Zc Wz)):=Ql (p:=w7c) (fuel:=4) (rk:=[.v]) h fun a K=>by kernel_rfl
theorem j3p:Qe Proofs.Tryz.prog D 16 (q70 Rl):=v11 Vn Rk (Qf (Qf h_E0 q7f z09) j3n w4q)
theorem z67:Ent Proofs.Tryz.prog 130:=Qg (by kernel_rfl) (by kernel_rfl) (by kernel_rfl)
def z4a (X:Gq):Con Sg:=conV ([.v]:LP) ([.int .i64]:LV) ([.bool]:LV) ([.same]:LV) (fun a K=>X a.1 (fun q0=>K (q0,()) ((),())))
def w7e:PT:=Qj ([]:LS)
def w7f:Ev Sg:=E0
theorem j3q:Qe Proofs.Tryz.prog D 130 (z4a Gs):=Ql (E:=w7f) (p:=w7e) (fuel:=4) (rk:=[.v]) h_E0 fun a K=>by kernel_rfl
theorem Hw:Ent Proofs.Tryz.prog 174:=Qg (by kernel_rfl) (by kernel_rfl) (by kernel_rfl)
def V4 (X:Zb):Con Sg:=conV ([.sl C.str,.sl C.str]:LP) ([.sl C.str,.sl C.str]:LV) ([.bool]:LV) ([.same,.same]:LV) (fun a K=>X a.1 a.2.1 (fun q0=>K (q0,()) ((),(),())))
def q6z:PT:=Qj ([(9,⟨[0,1,6,7,8,9,10,11,12],[],[],[(.slot 13,.int .i64)]⟩)]:LS)
def q60:Ev Sg:=E0
theorem Ba:Qe Proofs.Tryz.prog D 174 (V4 Zj):=Ql (E:=q60) (p:=q6z) (fuel:=4) (rk:=[.v]) h_E0 fun a K=>by kernel_rfl
theorem w7g:Ent Proofs.Tryz.prog 290:=Qg (by kernel_rfl) (by kernel_rfl) (by kernel_rfl)
def z68 (X:q25):Con Sg:=conV ([.el C.val,.el C.val]:LP) ([.el C.val,.el C.val]:LV) ([.bool]:LV) ([.same,.same]:LV) (fun a K=>X a.1 a.2.1 (fun q0=>K (q0,()) ((),(),())))
def v18:PT:=Qj ([]:LS)
def v19 (Qq:Zb):Ev Sg:=(E0.with 174 (V4 Qq))
theorem v6y (Qq:Zb) (h:Ev3 (v19 Qq) Proofs.Tryz.prog D):Qe Proofs.Tryz.prog D 290 (z68 (z54 Qq)):=Ql (p:=v18) (fuel:=4) (rk:=[.v]) h fun a K=>by kernel_rfl
theorem v6z:Qe Proofs.Tryz.prog D 290 (z68 q26):=v6y Zj (Qf h_E0 Hw Ba)
theorem j3r:Ent Proofs.Tryz.prog 272:=Qg (by kernel_rfl) (by kernel_rfl) (by kernel_rfl)
def j1h (X:Rm):Con Sg:=conV ([.el C.ex,.el C.ex]:LP) ([.el C.ex,.el C.ex]:LV) ([.bool]:LV) ([.same,.same]:LV) (fun a K=>X a.1 a.2.1 (fun q0=>K (q0,()) ((),(),())))
def j71:PT:=Qj ([(290000009,⟨[0,1,2,10,11,12,13,14,15,16],[],[],[(.slot 17,.int .i64)]⟩),(292000009,⟨[0,1,2,10,11,12,13,14,15,16],[],[],[(.slot 17,.int .i64)]⟩)]:LS)
def j72 (q3g:q25):Ev Sg:=(E0.with 290 (z68 q3g))
theorem v2a (q3g:q25) (X:Rm) (a:Ex) (b:Ex) (K:Bool->Prop):j0r q3g X a b K=fnV (((j72 q3g).with 272 (j1h X)).pl j71) 4 272 ([.el C.ex,.el C.ex]:LP) ([.v]:LP) ([.el C.ex,.el C.ex]:LV) ([.bool]:LV) ([.same,.same]:LV) (a,b,()) (fun r _=>K r.1):=by kernel_rfl
theorem y1j:Qe Proofs.Tryz.prog D 272 (j1h q2h):=by
 show Qe _ _ _ (conV ([.el C.ex,.el C.ex]:LP) ([.el C.ex,.el C.ex]:LV) ([.bool]:LV) ([.same,.same]:LV) fun a K=>q2h a.1 a.2.1 (fun q0=>K (q0,()) ((),(),())))
 refine z4r (E:=j72 q26) (fuel:=4) (rk:=[.v]) (p:=j71) (Qf h_E0 w7g v6z) j3r fun a K h X hX=> ?_
 exact h (fun a b K=>X (a,b,()) fun r _=>K r.1) (fun a b K hs=>hX (a,b,()) (fun r _=>K r.1) (Eq.mp (v2a q26 (fun a b K=>X (a,b,()) fun r _=>K r.1) a b K) hs))
end Go.En
end
noncomputable section
set_option maxRecDepth 100000
open Go Go.RowKit Go.Fl Go.Fl.Lk Go.Fx
namespace Go.En
theorem z4y:Ent Proofs.Tryz.prog 234:=Qg (by kernel_rfl) (by kernel_rfl) (by kernel_rfl)
def z1a (X:Vo):Con Sg:=conV ([.own 66 C.ex,.el C.ex]:LP) ([.vec 66 C.ex,.el C.ex]:LV) ([.vec 66 C.ex]:LV) ([.same,.same]:LV) (fun a K=>X a.1 a.2.1 (fun q0=>K (q0,()) ((),(),())))
def z69:PT:=Qj ([(6,⟨[1,3,4],[1],[],[(.slot 0,.own 66 C.ex)]⟩),(9,⟨[1,3,4,25,26,27],[1],[],[(.slot 0,.own 66 C.ex),(.slot 28,.int .i64)]⟩),(128000005,⟨[0,1,6,7],[0],[],[(.slot 8,.int .i64)]⟩)]:LS)
def z7a (J0:Gq) (q2t:Rm):Ev Sg:=((E0.with 130 (z4a J0)).with 272 (j1h q2t))
theorem j9p (J0:Gq) (q2t:Rm) (X:Vo) (l:List (Ex)) (e:Ex) (K:List (Ex)->Prop):z00 J0 q2t X l e K=fnV (((z7a J0 q2t).with 234 (z1a X)).pl z69) 4 234 ([.own 66 C.ex,.el C.ex]:LP) ([.own 66 C.ex]:LP) ([.vec 66 C.ex,.el C.ex]:LV) ([.vec 66 C.ex]:LV) ([.same,.same]:LV) (l,e,()) (fun r _=>K r.1):=by kernel_rfl
theorem w7h:Qe Proofs.Tryz.prog D 234 (z1a q17):=by
 show Qe _ _ _ (conV ([.own 66 C.ex,.el C.ex]:LP) ([.vec 66 C.ex,.el C.ex]:LV) ([.vec 66 C.ex]:LV) ([.same,.same]:LV) fun a K=>q17 a.1 a.2.1 (fun q0=>K (q0,()) ((),(),())))
 refine z4r (E:=z7a Gs q2h) (fuel:=4) (rk:=[.own 66 C.ex]) (p:=z69) (Qf (Qf h_E0 z67 j3q) j3r y1j) z4y fun a K h X hX=> ?_
 exact h (fun l e K=>X (l,e,()) fun r _=>K r.1) (fun l e K hs=>hX (l,e,()) (fun r _=>K r.1) (Eq.mp (j9p Gs q2h (fun l e K=>X (l,e,()) fun r _=>K r.1) l e K) hs))
theorem z9q:Ent Proofs.Tryz.prog 235:=Qg (by kernel_rfl) (by kernel_rfl) (by kernel_rfl)
def z7b (X:Gt):Con Sg:=conV ([.el C.ex]:LP) ([.el C.ex]:LV) ([.el C.ex]:LV) ([.same]:LV) (fun a K=>X a.1 (fun q0=>K (q0,()) ((),())))
def j3s:PT:=Qj ([(274000007,⟨[0,1,4,8,9,10,11,12],[],[],[(.slot 5,.own 115 C.val),(.slot 13,.int .i64)]⟩),(234000007,⟨[0,1,4,8,9,10,11,12],[],[],[(.slot 5,.own 66 C.ex),(.slot 13,.int .i64)]⟩)]:LS)
def j3t (Zi:Wu):Ev Sg:=(E0.with 170 (q7z Zi))
theorem w7i (Zi:Wu) (X:Gt) (e:Ex) (K:Ex->Prop):z55 Zi X e K=fnV (((j3t Zi).with 235 (z7b X)).pl j3s) 4 235 ([.el C.ex]:LP) ([.el C.ex]:LP) ([.el C.ex]:LV) ([.el C.ex]:LV) ([.same]:LV) (e,()) (fun r _=>K r.1):=by kernel_rfl
theorem v60:Qe Proofs.Tryz.prog D 235 (z7b q6w):=by
 show Qe _ _ _ (conV ([.el C.ex]:LP) ([.el C.ex]:LV) ([.el C.ex]:LV) ([.same]:LV) fun a K=>q6w a.1 (fun q0=>K (q0,()) ((),())))
 refine z4r (E:=j3t Vm) (fuel:=4) (rk:=[.el C.ex]) (p:=j3s) (Qf h_E0 q9y z36) z9q fun a K h X hX=> ?_
 exact h (fun e K=>X (e,()) fun r _=>K r.1) (fun e K hs=>hX (e,()) (fun r _=>K r.1) (Eq.mp (w7i Vm (fun e K=>X (e,()) fun r _=>K r.1) e K) hs))
theorem j9q:Ent Proofs.Tryz.prog 183:=Qg (by kernel_rfl) (by kernel_rfl) (by kernel_rfl)
def z1b (X:Bk):Con Sg:=conV ([.el C.ex]:LP) ([.el C.ex]:LV) ([.vec 66 C.ex]:LV) ([.same]:LV) (fun a K=>X a.1 (fun q0=>K (q0,()) ((),())))
def w4t:PT:=Qj ([(234000007,⟨[0,1,4,8,9,10,11,12],[1],[],[(.slot 5,.own 66 C.ex),(.slot 13,.int .i64)]⟩)]:LS)
def w4u (Br:Vo) (q3h:Gt):Ev Sg:=((E0.with 234 (z1a Br)).with 235 (z7b q3h))
theorem w7j (Br:Vo) (q3h:Gt) (h:Ev3 (w4u Br q3h) Proofs.Tryz.prog D):Qe Proofs.Tryz.prog D 183 (z1b (z01 Br q3h)):=Ql (p:=w4t) (fuel:=4) (rk:=[.own 66 C.ex]) h fun a K=>by kernel_rfl
theorem w7k:Qe Proofs.Tryz.prog D 183 (z1b q6g):=w7j q17 q6w (Qf (Qf h_E0 z4y w7h) z9q v60)
theorem Rd:Ent Proofs.Tryz.prog 80:=Qg (by kernel_rfl) (by kernel_rfl) (by kernel_rfl)
def Ud (X:Zk):Con Sg:=conV ([.own 9 C.str]:LP) ([.vec 9 C.str]:LV) ([]:LV) ([.vec 9 C.str]:LV) (fun a K=>X a.1 (fun q0=>K () (q0,())))
theorem By:Qe Proofs.Tryz.prog D 80 (Ud Z0):=q7u
theorem q4r:Ent Proofs.Tryz.prog 184:=Qg (by kernel_rfl) (by kernel_rfl) (by kernel_rfl)
def Hx (X:Ju):Con Sg:=conV ([.own 9 C.str]:LP) ([.vec 9 C.str]:LV) ([.vec 9 C.str]:LV) ([.same]:LV) (fun a K=>X a.1 (fun q0=>K (q0,()) ((),())))
theorem q5z:Qe Proofs.Tryz.prog D 184 (Hx Jv):=q5r
theorem j3u:Ent Proofs.Tryz.prog 138:=Qg (by kernel_rfl) (by kernel_rfl) (by kernel_rfl)
def q7g (X:U7):Con Sg:=conV ([.el C.ex]:LP) ([.el C.ex]:LV) ([.sl C.str]:LV) ([.same]:LV) (fun a K=>X a.1 (fun q0=>K (q0,()) ((),())))
def j6x:PT:=Qj ([(7,⟨[0,1,2,6,7,8],[1,0],[],[(.slot 3,.own 9 C.str),(.slot 9,.int .i64)]⟩)]:LS)
def j6y (Bt:Bk) (Qt:Zk) (Zn:Ju):Ev Sg:=(((E0.with 183 (z1b Bt)).with 80 (Ud Qt)).with 184 (Hx Zn))
theorem j9r (Bt:Bk) (Qt:Zk) (Zn:Ju) (h:Ev3 (j6y Bt Qt Zn) Proofs.Tryz.prog D):Qe Proofs.Tryz.prog D 138 (q7g (q68 Bt Qt Zn)):=Ql (p:=j6x) (fuel:=4) (rk:=[.sl C.str]) h fun a K=>by kernel_rfl
theorem j9s:Qe Proofs.Tryz.prog D 138 (q7g R8):=j9r q6g Z0 Jv (Qf (Qf (Qf h_E0 j9q w7k) Rd By) q4r q5z)
theorem w4v:Ent Proofs.Tryz.prog 139:=Qg (by kernel_rfl) (by kernel_rfl) (by kernel_rfl)
def j3v (X:q7t):Con Sg:=conV ([.sl C.str,.sl C.edge]:LP) ([.sl C.str,.sl C.edge]:LV) ([.vec 9 C.str,.int .i64]:LV) ([.same,.same]:LV) (fun a K=>X a.1 a.2.1 (fun q0 q1=>K (q0,q1,()) ((),(),())))
theorem v2b:Qe Proofs.Tryz.prog D 139 (j3v P_graph_Order):=v0q
theorem j6z:Ent Proofs.Tryz.prog 78:=Qg (by kernel_rfl) (by kernel_rfl) (by kernel_rfl)
def q91 (X:Hp):Con Sg:=conV ([.sl C.seg]:LP) ([.sl C.seg]:LV) ([.vec 9 C.str,.int .i64]:LV) ([.same]:LV) (fun a K=>X a.1 (fun q0 q1=>K (q0,q1,()) ((),())))
def j9t:PT:=Qj ([(9,⟨[0,2,3,10,11],[],[],[(.slot 4,.own 9 C.str),(.slot 5,.own 217 C.edge),(.slot 12,.int .i64)]⟩),(17,⟨[0,2,3,4,7,10,11,12,13,14,15,17,18,19,20,21,22,23,24],[6,5,3],[],[(.slot 5,.own 217 C.edge),(.slot 25,.int .i64)]⟩)]:LS)
def j9u (Gd:U7) (q1q:q7t):Ev Sg:=((E0.with 138 (q7g Gd)).with 139 (j3v q1q))
theorem w4w (Gd:U7) (q1q:q7t) (h:Ev3 (j9u Gd q1q) Proofs.Tryz.prog D):Qe Proofs.Tryz.prog D 78 (q91 (q9g Gd q1q)):=Ql (p:=j9t) (fuel:=4) (rk:=[.own 9 C.str,.v]) h fun a K=>by kernel_rfl
theorem w4x:Qe Proofs.Tryz.prog D 78 (q91 q0p):=w4w R8 P_graph_Order (Qf (Qf h_E0 j3u j9s) w4v v2b)
theorem j3w:Ent Proofs.Tryz.prog 129:=Qg (by kernel_rfl) (by kernel_rfl) (by kernel_rfl)
def q7h (X:U8):Con Sg:=conV ([.el C.subj,.v,.v]:LP) ([.el C.subj,.str,.str]:LV) ([.el C.val,.bool]:LV) ([.same,.same,.same]:LV) (fun a K=>X a.1 a.2.1 a.2.2.1 (fun q0 q1=>K (q0,q1,()) ((),(),(),())))
def j60:PT:=Qj ([(17,⟨[0,1,2,3,6,8,9,12,13,14,15,16,18,19,20,21,22,23,24,28,29,30],[2,0],[(1,(115,4))],[(.slot 31,.int .i64),(.cell 1 0,.int .i64),(.cell 1 1,.int .i64),(.cell 1 2,.str),(.cell 1 3,.sl C.str)]⟩)]:LS)
def j61 (Jb:Vr) (Zi:Wu):Ev Sg:=((E0.with 64 (q9x Jb)).with 170 (q7z Zi))
theorem j9v (Jb:Vr) (Zi:Wu) (h:Ev3 (j61 Jb Zi) Proofs.Tryz.prog D):Qe Proofs.Tryz.prog D 129 (q7h (q69 Jb Zi)):=Ql (p:=j60) (fuel:=4) (rk:=[.el C.val,.v]) h fun a K=>by kernel_rfl
theorem j9w:Qe Proofs.Tryz.prog D 129 (q7h R9):=j9v Ut Vm (Qf (Qf h_E0 z2g z60) q9y z36)
theorem w4y:Ent Proofs.Tryz.prog 133:=Qg (by kernel_rfl) (by kernel_rfl) (by kernel_rfl)
def z4b (X:q08):Con Sg:=conV ([.el C.val,.el C.val]:LP) ([.el C.val,.el C.val]:LV) ([.bool]:LV) ([.same,.same]:LV) (fun a K=>X a.1 a.2.1 (fun q0=>K (q0,()) ((),(),())))
def w7l:PT:=Qj ([]:LS)
def w7m (Qq:Zb):Ev Sg:=(E0.with 174 (V4 Qq))
theorem v2c (Qq:Zb) (h:Ev3 (w7m Qq) Proofs.Tryz.prog D):Qe Proofs.Tryz.prog D 133 (z4b (z3m Qq)):=Ql (p:=w7l) (fuel:=4) (rk:=[.v]) h fun a K=>by kernel_rfl
theorem v2d:Qe Proofs.Tryz.prog D 133 (z4b q09):=v2c Zj (Qf h_E0 Hw Ba)
theorem q2a:Ent Proofs.Tryz.prog 175:=Qg (by kernel_rfl) (by kernel_rfl) (by kernel_rfl)
def Rs (X:Zy):Con Sg:=conV ([.v,.v]:LP) ([.str,.str]:LV) ([.bool]:LV) ([.same,.same]:LV) (fun a K=>X a.1 a.2.1 (fun q0=>K (q0,()) ((),(),())))
def z2h:PT:=Qj ([]:LS)
def z2i:Ev Sg:=E0
theorem q4s:Qe Proofs.Tryz.prog D 175 (Rs Je):=Ql (E:=z2i) (p:=z2h) (fuel:=4) (rk:=[.v]) h_E0 fun a K=>by kernel_rfl
theorem z7c:Ent Proofs.Tryz.prog 134:=Qg (by kernel_rfl) (by kernel_rfl) (by kernel_rfl)
def q2m (X:Vc):Con Sg:=conV ([.v,.v]:LP) ([.str,.str]:LV) ([.bool]:LV) ([.same,.same]:LV) (fun a K=>X a.1 a.2.1 (fun q0=>K (q0,()) ((),(),())))
def z8v:PT:=Qj ([]:LS)
def z8w (Q0:Zy):Ev Sg:=(E0.with 175 (Rs Q0))
theorem j1i (Q0:Zy) (h:Ev3 (z8w Q0) Proofs.Tryz.prog D):Qe Proofs.Tryz.prog D 134 (q2m (q2i Q0)):=Ql (p:=z8v) (fuel:=4) (rk:=[.v]) h fun a K=>by kernel_rfl
theorem j1j:Qe Proofs.Tryz.prog D 134 (q2m Uw):=j1i Je (Qf h_E0 q2a q4s)
theorem z1c:Ent Proofs.Tryz.prog 176:=Qg (by kernel_rfl) (by kernel_rfl) (by kernel_rfl)
def q4t (X:Wv):Con Sg:=conV ([.v,.v]:LP) ([.str,.str]:LV) ([.bool]:LV) ([.same,.same]:LV) (fun a K=>X a.1 a.2.1 (fun q0=>K (q0,()) ((),(),())))
def z2j:PT:=Qj ([]:LS)
def z2k:Ev Sg:=E0
theorem z4c:Qe Proofs.Tryz.prog D 176 (q4t Ua):=Ql (E:=z2k) (p:=z2j) (fuel:=4) (rk:=[.v]) h_E0 fun a K=>by kernel_rfl
theorem z7d:Ent Proofs.Tryz.prog 135:=Qg (by kernel_rfl) (by kernel_rfl) (by kernel_rfl)
def q2n (X:Vd):Con Sg:=conV ([.v,.v]:LP) ([.str,.str]:LV) ([.bool]:LV) ([.same,.same]:LV) (fun a K=>X a.1 a.2.1 (fun q0=>K (q0,()) ((),(),())))
def z8x:PT:=Qj ([]:LS)
def z8y (J1:Wv):Ev Sg:=(E0.with 176 (q4t J1))
theorem j1k (J1:Wv) (h:Ev3 (z8y J1) Proofs.Tryz.prog D):Qe Proofs.Tryz.prog D 135 (q2n (q2j J1)):=Ql (p:=z8x) (fuel:=4) (rk:=[.v]) h fun _ _=>by kernel_rfl
theorem j1l:Qe Proofs.Tryz.prog D 135 (q2n Ux):=j1k Ua (Qf h_E0 z1c z4c)
end Go.En
end
noncomputable section
set_option maxRecDepth 100000
open Go Go.RowKit Go.Fl Go.Fl.Lk Go.Fx
namespace Go.En
theorem z8z:Ent Proofs.Tryz.prog 136:=Qg (by kernel_rfl) (by kernel_rfl) (by kernel_rfl)
def z0o (X:Bw):Con Sg:=conV ([.v,.v]:LP) ([.str,.str]:LV) ([.bool]:LV) ([.same,.same]:LV) (fun a K=>X a.1 a.2.1 (fun q0=>K (q0,()) ((),(),())))
theorem j3x:Qe Proofs.Tryz.prog D 136 (z0o Bx):=j2u
theorem w4z:Ent Proofs.Tryz.prog 227:=Qg (by kernel_rfl) (by kernel_rfl) (by kernel_rfl)
def j3y (X:q36):Con Sg:=conV ([.el C.val]:LP) ([.el C.val]:LV) ([.bool]:LV) ([.same]:LV) (fun a K=>X a.1 (fun q0=>K (q0,()) ((),())))
def w7n:PT:=Qj ([(8,⟨[0,1,2,3,4],[0],[],[(.slot 5,.bool)]⟩),(14,⟨[0,1,2,3,4,5],[0],[],[(.slot 17,.bool)]⟩)]:LS)
def w7o:Ev Sg:=E0
theorem v2e:Qe Proofs.Tryz.prog D 227 (j3y q37):=Ql (E:=w7o) (p:=w7n) (fuel:=4) (rk:=[.v]) h_E0 fun a K=>by kernel_rfl
theorem w7p:Ent Proofs.Tryz.prog 228:=Qg (by kernel_rfl) (by kernel_rfl) (by kernel_rfl)
def z7e (X:q27):Con Sg:=conV ([.v]:LP) ([.str]:LV) ([.bool]:LV) ([.same]:LV) (fun a K=>X a.1 (fun q0=>K (q0,()) ((),())))
def v2f:PT:=Qj ([(9,⟨[0,5,6,7,8,9,10,11,12,13,14],[],[],[(.obj 0,.siter)]⟩)]:LS)
def v2g (Zh:Ws):Ev Sg:=(E0.with 246 (q4n Zh))
theorem v61 (Zh:Ws) (h:Ev3 (v2g Zh) Proofs.Tryz.prog D):Qe Proofs.Tryz.prog D 228 (z7e (z56 Zh)):=Ql (p:=v2f) (fuel:=4) (rk:=[.v]) h fun a K=>by kernel_rfl
theorem v62:Qe Proofs.Tryz.prog D 228 (z7e q6x):=v61 Wt (Qf h_E0 q7m z0m)
theorem j62:Ent Proofs.Tryz.prog 231:=Qg (by kernel_rfl) (by kernel_rfl) (by kernel_rfl)
def z7f (X:q38):Con Sg:=conV ([.v,.v]:LP) ([.str,.str]:LV) ([.vec 9 C.str]:LV) ([.same,.same]:LV) (fun a K=>X a.1 a.2.1 (fun q0=>K (q0,()) ((),(),())))
theorem w40:Qe Proofs.Tryz.prog D 231 (z7f q39):=w2y
theorem z1d:Ent Proofs.Tryz.prog 286:=Qg (by kernel_rfl) (by kernel_rfl) (by kernel_rfl)
def Rt (X:Jw):Con Sg:=conV ([.v,.v]:LP) ([.str,.str]:LV) ([.str,.bool]:LV) ([.same,.same]:LV) (fun a K=>X a.1 a.2.1 (fun q0 q1=>K (q0,q1,()) ((),(),())))
def z2l:PT:=Qj ([]:LS)
def z2m (Q0:Zy):Ev Sg:=(E0.with 175 (Rs Q0))
theorem z4d (Q0:Zy) (h:Ev3 (z2m Q0) Proofs.Tryz.prog D):Qe Proofs.Tryz.prog D 286 (Rt (Rn Q0)):=Ql (p:=z2l) (fuel:=4) (rk:=[.v,.v]) h fun a K=>by kernel_rfl
theorem z4e:Qe Proofs.Tryz.prog D 286 (Rt Ub):=z4d Je (Qf h_E0 q2a q4s)
theorem z7g:Ent Proofs.Tryz.prog 269:=Qg (by kernel_rfl) (by kernel_rfl) (by kernel_rfl)
def q2o (X:Ve):Con Sg:=conV ([.v,.v]:LP) ([.str,.str]:LV) ([.str,.bool]:LV) ([.same,.same]:LV) (fun a K=>X a.1 a.2.1 (fun q0 q1=>K (q0,q1,()) ((),(),())))
def z81:PT:=Qj ([]:LS)
def z82 (J2:Jw):Ev Sg:=(E0.with 286 (Rt J2))
theorem j1m (J2:Jw) (h:Ev3 (z82 J2) Proofs.Tryz.prog D):Qe Proofs.Tryz.prog D 269 (q2o (q2k J2)):=Ql (p:=z81) (fuel:=4) (rk:=[.v,.v]) h fun a K=>by kernel_rfl
theorem j1n:Qe Proofs.Tryz.prog D 269 (q2o Uy):=j1m Ub (Qf h_E0 z1d z4e)
theorem j9x:Ent Proofs.Tryz.prog 270:=Qg (by kernel_rfl) (by kernel_rfl) (by kernel_rfl)
def z9r (X:q6h):Con Sg:=conV ([.v]:LP) ([.str]:LV) ([.int .i64,.ifc]:LV) ([.same]:LV) (fun a K=>X a.1 (fun q0 q1=>K (q0,q1,()) ((),())))
theorem w7q:Qe Proofs.Tryz.prog D 270 (z9r q18):=w6a
theorem z83:Ent Proofs.Tryz.prog 232:=Qg (by kernel_rfl) (by kernel_rfl) (by kernel_rfl)
def q4u (X:Vv):Con Sg:=conV ([.v]:LP) ([.str]:LV) ([.int .i64,.int .i64]:LV) ([.same]:LV) (fun a K=>X a.1 (fun q0 q1=>K (q0,q1,()) ((),())))
def j1o:PT:=Qj ([(11,⟨[0,4,5,10,11,12,13,14,15,16,17,18,19,20,21,22,23,24,25,26,27,28,29,30,31],[],[],[(.obj 0,.siter)]⟩)]:LS)
def j1p (Vi:Ve) (G5:q6h):Ev Sg:=((E0.with 269 (q2o Vi)).with 270 (z9r G5))
theorem j3z (Vi:Ve) (G5:q6h) (h:Ev3 (j1p Vi G5) Proofs.Tryz.prog D):Qe Proofs.Tryz.prog D 232 (q4u (q4a Vi G5)):=Ql (p:=j1o) (fuel:=4) (rk:=[.v,.v]) h fun a K=>by kernel_rfl
theorem j30:Qe Proofs.Tryz.prog D 232 (q4u Gu):=j3z Uy q18 (Qf (Qf h_E0 z7g j1n) j9x w7q)
theorem z7h:Ent Proofs.Tryz.prog 181:=Qg (by kernel_rfl) (by kernel_rfl) (by kernel_rfl)
def q71 (X:Uc):Con Sg:=conV ([.v]:LP) ([.str]:LV) ([.el C.a3,.bool]:LV) ([.same]:LV) (fun a K=>X a.1 (fun q0 q1=>K (q0,q1,()) ((),())))
def w7r:PT:=Qj ([(13,⟨[0,2,4,5,10,11,12,13,14,16,17],[2],[(1,(257,3)),(0,(257,3))],[(.slot 18,.int .i64),(.cell 1 0,.int .i64),(.cell 1 1,.int .i64),(.cell 1 2,.int .i64),(.cell 0 0,.int .i64),(.cell 0 1,.int .i64),(.cell 0 2,.int .i64)]⟩)]:LS)
def w7s (H7:q38) (Vz:Vv):Ev Sg:=((E0.with 231 (z7f H7)).with 232 (q4u Vz))
theorem v2h (H7:q38) (Vz:Vv) (h:Ev3 (w7s H7 Vz) Proofs.Tryz.prog D):Qe Proofs.Tryz.prog D 181 (q71 (z3n H7 Vz)):=Ql (p:=w7r) (fuel:=4) (rk:=[.el C.a3,.v]) h fun a K=>by kernel_rfl
theorem j31:Qe Proofs.Tryz.prog D 181 (q71 Rp):=v2h q39 Gu (Qf (Qf h_E0 j62 w40) z83 j30)
theorem w41:Ent Proofs.Tryz.prog 178:=Qg (by kernel_rfl) (by kernel_rfl) (by kernel_rfl)
def z4f (X:q1a):Con Sg:=conV ([.el C.val]:LP) ([.el C.val]:LV) ([.int .i64]:LV) ([.same]:LV) (fun a K=>X a.1 (fun q0=>K (q0,()) ((),())))
def w7t:PT:=Qj ([(47,⟨[0,1,8,9,10,11,12,13,14,15,16,17,18,19,20,21,22,31,32,41,42,47,48,57,58,59,60,61,62,63,64,65],[0],[],[(.slot 66,.int .i64)]⟩),(59,⟨[0,1,8,9,10,11,12,13,14,15,16,17,18,19,20,21,22,31,32,41,42,47,48,57,58,59,60,61,62,63,64,65,66,67,74,75,76],[0],[],[(.slot 77,.int .i64)]⟩)]:LS)
def w7u (q1r:q36) (q0v:q27) (Jj:Uc):Ev Sg:=(((E0.with 227 (j3y q1r)).with 228 (z7e q0v)).with 181 (q71 Jj))
theorem v2i (q1r:q36) (q0v:q27) (Jj:Uc) (h:Ev3 (w7u q1r q0v Jj) Proofs.Tryz.prog D):Qe Proofs.Tryz.prog D 178 (z4f (z3o q1r q0v Jj)):=Ql (p:=w7t) (fuel:=4) (rk:=[.v]) h fun a K=>by kernel_rfl
theorem v2j:Qe Proofs.Tryz.prog D 178 (z4f q4b):=v2i q37 q6x Rp (Qf (Qf (Qf h_E0 w4z v2e) w7p v62) z7h j31)
theorem j63:Ent Proofs.Tryz.prog 137:=Qg (by kernel_rfl) (by kernel_rfl) (by kernel_rfl)
def q92 (X:Hq):Con Sg:=conV ([.el C.val,.el C.val]:LP) ([.el C.val,.el C.val]:LV) ([.int .i64,.int .i64]:LV) ([.same,.same]:LV) (fun a K=>X a.1 a.2.1 (fun q0 q1=>K (q0,q1,()) ((),(),())))
def j9y:PT:=Qj ([(183000005,⟨[0,1,9,10],[],[],[(.slot 11,.int .i64)]⟩)]:LS)
def j9z (Rz:q1a) (Jj:Uc):Ev Sg:=((E0.with 178 (z4f Rz)).with 181 (q71 Jj))
theorem w42 (Rz:q1a) (Jj:Uc) (h:Ev3 (j9z Rz Jj) Proofs.Tryz.prog D):Qe Proofs.Tryz.prog D 137 (q92 (q9h Rz Jj)):=Ql (p:=j9y) (fuel:=4) (rk:=[.v,.v]) h fun a K=>by kernel_rfl
theorem w43:Qe Proofs.Tryz.prog D 137 (q92 Hr):=w42 q4b Rp (Qf (Qf h_E0 w41 v2j) z7h j31)
theorem w44:Ent Proofs.Tryz.prog 77:=Qg (by kernel_rfl) (by kernel_rfl) (by kernel_rfl)
def z4g (X:q1b):Con Sg:=conV ([.el C.subj,.el C.ex]:LP) ([.el C.subj,.el C.ex]:LV) ([.bool]:LV) ([.same,.same]:LV) (fun a K=>X a.1 a.2.1 (fun q0=>K (q0,()) ((),(),())))
def w7v:PT:=Qj ([(174000005,⟨[0,1,6,7],[2],[],[(.slot 8,.int .i64)]⟩),(129000005,⟨[0,1,6,7],[],[],[(.slot 8,.int .i64)]⟩)]:LS)
def w7w (Ge:U8) (J0:Gq) (G1:q08) (Vj:Vc) (Vk:Vd) (V0:Bw) (U1:Hq):Ev Sg:=(((((((E0.with 129 (q7h Ge)).with 130 (z4a J0)).with 133 (z4b G1)).with 134 (q2m Vj)).with 135 (q2n Vk)).with 136 (z0o V0)).with 137 (q92 U1))
theorem v2k (Ge:U8) (J0:Gq) (G1:q08) (Vj:Vc) (Vk:Vd) (V0:Bw) (U1:Hq) (h:Ev3 (w7w Ge J0 G1 Vj Vk V0 U1) Proofs.Tryz.prog D):Qe Proofs.Tryz.prog D 77 (z4g (z3p Ge J0 G1 Vj Vk V0 U1)):=Ql (p:=w7v) (fuel:=4) (rk:=[.v]) h fun a K=>by kernel_rfl
theorem v2l:Qe Proofs.Tryz.prog D 77 (z4g q1c):=v2k R9 Gs q09 Uw Ux Bx Hr (Qf (Qf (Qf (Qf (Qf (Qf (Qf h_E0 j3w j9w) z67 j3q) w4y v2d) z7c j1j) z7d j1l) z8z j3x) j63 w43)
theorem q93:Ent Proofs.Tryz.prog 45:=Qg (by kernel_rfl) (by kernel_rfl) (by kernel_rfl)
def q72 (X:Wb):Con Sg:=conV ([.el C.subj,.sl C.str,.el C.ex]:LP) ([.el C.subj,.sl C.str,.el C.ex]:LV) ([.bool]:LV) ([.same,.same,.same]:LV) (fun a K=>X a.1 a.2.1 a.2.2.1 (fun q0=>K (q0,()) ((),(),(),())))
def z9s:PT:=Qj ([(128000005,⟨[0,1,6,7],[1,0],[],[(.slot 8,.int .i64)]⟩),(129000005,⟨[0,1,6,7],[],[],[(.slot 8,.int .i64)]⟩)]:LS)
def z9t (q1s:q1b):Ev Sg:=(E0.with 77 (z4g q1s))
theorem w45 (q1s:q1b) (X:Wb) (s:Subj) (in_:List (ByteArray)) (e:Ex) (K:Bool->Prop):z3q q1s X s in_ e K=fnV (((z9t q1s).with 45 (q72 X)).pl z9s) 4 45 ([.el C.subj,.sl C.str,.el C.ex]:LP) ([.v]:LP) ([.el C.subj,.sl C.str,.el C.ex]:LV) ([.bool]:LV) ([.same,.same,.same]:LV) (s,in_,e,()) (fun r _=>K r.1):=by kernel_rfl
theorem j32:Qe Proofs.Tryz.prog D 45 (q72 Rq):=by
 show Qe _ _ _ (conV ([.el C.subj,.sl C.str,.el C.ex]:LP) ([.el C.subj,.sl C.str,.el C.ex]:LV) ([.bool]:LV) ([.same,.same,.same]:LV) fun a K=>Rq a.1 a.2.1 a.2.2.1 (fun q0=>K (q0,()) ((),(),(),())))
 refine z4r (E:=z9t q1c) (fuel:=4) (rk:=[.v]) (p:=z9s) (Qf h_E0 w44 v2l) q93 fun a K h X hX=> ?_
 exact h (fun s in_ e K=>X (s,in_,e,()) fun r _=>K r.1) (fun s in_ e K hs=>hX (s,in_,e,()) (fun r _=>K r.1) (Eq.mp (w45 q1c (fun s in_ e K=>X (s,in_,e,()) fun r _=>K r.1) s in_ e K) hs))
theorem z84:Ent Proofs.Tryz.prog 79:=Qg (by kernel_rfl) (by kernel_rfl) (by kernel_rfl)
def q4v (X:Vw):Con Sg:=conV ([.el C.seg,.el C.subj,.sl C.str]:LP) ([.el C.seg,.el C.subj,.sl C.str]:LV) ([.bool]:LV) ([.same,.same,.same]:LV) (fun a K=>X a.1 a.2.1 a.2.2.1 (fun q0=>K (q0,()) ((),(),(),())))
def j1q:PT:=Qj ([(129000005,⟨[0,1,6,7],[],[],[(.slot 8,.int .i64)]⟩)]:LS)
def j1r (Zc:Jo) (Z6:Wb):Ev Sg:=((E0.with 35 (q19 Zc)).with 45 (q72 Z6))
theorem j33 (Zc:Jo) (Z6:Wb) (h:Ev3 (j1r Zc Z6) Proofs.Tryz.prog D):Qe Proofs.Tryz.prog D 79 (q4v (q4c Zc Z6)):=Ql (p:=j1q) (fuel:=4) (rk:=[.v]) h fun _ _=>by kernel_rfl
theorem j34:Qe Proofs.Tryz.prog D 79 (q4v Gv):=j33 Vn Rq (Qf (Qf h_E0 q7f z09) q93 j32)
end Go.En
end
noncomputable section
set_option maxRecDepth 100000
open Go Go.RowKit Go.Fl Go.Fl.Lk Go.Fx
namespace Go.En
theorem j1s:Ent Proofs.Tryz.prog 46:=Qg (by kernel_rfl) (by kernel_rfl) (by kernel_rfl)
def q50 (X:Uh):Con Sg:=conV ([.sl C.seg,.el C.subj]:LP) ([.sl C.seg,.el C.subj]:LV) ([.vec 9 C.str]:LV) ([.same,.same]:LV) (fun a K=>X a.1 a.2.1 (fun q0=>K (q0,()) ((),(),())))
def j35:PT:=Qj ([(13,⟨[0,1,3,4,5,6,7,13,14,15,16,17,18,19,20,21,22],[1,0],[],[(.slot 23,.int .i64),(.obj 2,.map C.str C.seg)]⟩),(25,⟨[0,1,3,4,5,6,7,13,14,15,16,17,18,19,20,21,22,23,24,32,33],[2,1,0],[],[(.slot 10,.own 9 C.str),(.slot 34,.int .i64)]⟩)]:LS)
def j36 (H8:Hp) (V1:Vw) (Qt:Zk):Ev Sg:=(((E0.with 78 (q91 H8)).with 79 (q4v V1)).with 80 (Ud Qt))
theorem j64 (H8:Hp) (V1:Vw) (Qt:Zk) (h:Ev3 (j36 H8 V1 Qt) Proofs.Tryz.prog D):Qe Proofs.Tryz.prog D 46 (q50 (q5k H8 V1 Qt)):=Ql (p:=j35) (fuel:=4) (rk:=[.own 9 C.str]) h fun a K=>by kernel_rfl
theorem j65:Qe Proofs.Tryz.prog D 46 (q50 Hs):=j64 q0p Gv Z0 (Qf (Qf (Qf h_E0 j6z w4x) z84 j34) Rd By)
theorem q94:Ent Proofs.Tryz.prog 18:=Qg (by kernel_rfl) (by kernel_rfl) (by kernel_rfl)
def q1i (X:Jx):Con Sg:=conV ([.el C.env,.el C.subj,.v]:LP) ([.el C.env,.el C.subj,.str]:LV) ([.bool]:LV) ([.same,.same,.same]:LV) (fun a K=>X a.1 a.2.1 a.2.2.1 (fun q0=>K (q0,()) ((),(),(),())))
def j37:PT:=Qj ([(5,⟨[0,1,2,3,4,9,10,11],[1,0],[],[(.slot 12,.int .i64)]⟩)]:LS)
def j38 (Uo:Uh) (Z6:Wb):Ev Sg:=((E0.with 46 (q50 Uo)).with 45 (q72 Z6))
theorem j66 (Uo:Uh) (Z6:Wb) (h:Ev3 (j38 Uo Z6) Proofs.Tryz.prog D):Qe Proofs.Tryz.prog D 18 (q1i (q5l Uo Z6)):=Ql (p:=j37) (fuel:=4) (rk:=[.v]) h fun a K=>by kernel_rfl
theorem z2n:Qe Proofs.Tryz.prog D 18 (q1i Vf):=j66 Hs Rq (Qf (Qf h_E0 j1s j65) q93 j32)
theorem w46:Ent Proofs.Tryz.prog 40:=Qg (by kernel_rfl) (by kernel_rfl) (by kernel_rfl)
def j39 (X:q4d):Con Sg:=conV ([.sl C.range,.v]:LP) ([.sl C.range,.int .i64]:LV) ([.int .i64]:LV) ([.same,.same]:LV) (fun a K=>X a.1 a.2.1 (fun q0=>K (q0,()) ((),(),())))
def w7x:PT:=Qj ([(5,⟨[0,1,7,8],[],[],[(.slot 9,.int .i64)]⟩)]:LS)
def w7y:Ev Sg:=E0
theorem v2m:Qe Proofs.Tryz.prog D 40 (j39 q4e):=Ql (E:=w7y) (p:=w7x) (fuel:=4) (rk:=[.v]) h_E0 fun a K=>by kernel_rfl
theorem z4z:Ent Proofs.Tryz.prog 14:=Qg (by kernel_rfl) (by kernel_rfl) (by kernel_rfl)
def q6k (X:Vp):Con Sg:=conV ([.el C.env,.el C.subj,.sl C.forced,.v]:LP) ([.el C.env,.el C.subj,.sl C.forced,.str]:LV) ([.el C.asg,.int .i64]:LV) ([.same,.same,.same,.same]:LV) (fun a K=>X a.1 a.2.1 a.2.2.1 a.2.2.2.1 (fun q0 q1=>K (q0,q1,()) ((),(),(),(),())))
def w47:PT:=Qj ([(4,⟨[0,1,2,3,4,5,7,8,9],[3,2,1,0],[],[(.slot 10,.int .i64)]⟩),(18,⟨[0,1,2,3,4,5,7,8,9,10,11,12,13,14,24,25,27,28,29,30,31,32,33,34,35,36,37,38,39,40],[9,5,3,2,1,0],[(7,(46,5))],[(.cell 7 2,.int .i64)]⟩),(22,⟨[0,1,2,3,4,5,7,8,9,10,11,12,13,14,15,16,24,25,27,28,29,30,31,32,33,34,35,36,37,38,39,40,48,49,50,51,52,53],[12,7,9,5,3,2,1,0],[],[(.slot 64,.bool)]⟩),(30,⟨[0,1,2,3,4,5,7,8,9,10,11,12,13,14,15,16,24,25,27,28,29,30,31,32,33,34,35,36,37,38,39,40,48,49,50,51,52,53,64],[12,7,9,5,3,2,1,0],[],[(.slot 87,.bool)]⟩),(41,⟨[0,1,2,3,4,5,7,8,9,10,11,12,13,14,15,16,24,25,27,28,29,30,31,32,33,34,35,36,37,38,39,40,48,49,50,51,52,53,64,87,90,91,93,94,95],[12,9,5,3,2,1,0],[(7,(46,5))],[(.slot 96,.int .i64),(.cell 7 1,.str),(.cell 7 3,.int .i64)]⟩),(46,⟨[0,1,2,3,4,5,7,8,9,10,11,12,13,14,15,16,18,24,25,27,28,29,30,31,32,33,34,35,36,37,38,39,40,48,49,50,51,52,53,64,87,90,91,93,94,95,96,97,98,99],[19,7],[],[(.slot 19,.bool)]⟩),(48,⟨[0,1,2,3,4,5,7,8,9,10,11,12,13,14,15,16,18,19,24,25,27,28,29,30,31,32,33,34,35,36,37,38,39,40,48,49,50,51,52,53,64,87,90,91,93,94,95,96,97,98,99],[19,7],[],[(.slot 122,.bool)]⟩),(72000005,⟨[0,1,6,7],[],[],[(.slot 8,.int .i64)]⟩),(34000005,⟨[0,1,6,7],[],[],[(.slot 8,.int .i64)]⟩)]:LS)
def w48 (Zc:Jo) (H9:q0n) (Wz:Rj) (q1t:q4d) (Zo:Jx) (J3:V9) (q1u:q34):Ev Sg:=(((((((E0.with 35 (q19 Zc)).with 20 (z65 H9)).with 36 (z39 Wz)).with 40 (j39 q1t)).with 18 (q1i Zo)).with 16 (q70 J3)).with 37 (j3o q1u))
theorem w7z (Zc:Jo) (H9:q0n) (Wz:Rj) (q1t:q4d) (Zo:Jx) (J3:V9) (q1u:q34) (h:Ev3 (w48 Zc H9 Wz q1t Zo J3 q1u) Proofs.Tryz.prog D):Qe Proofs.Tryz.prog D 14 (q6k (z02 Zc H9 Wz q1t Zo J3 q1u)):=Ql (p:=w47) (fuel:=4) (rk:=[.el C.asg,.v]) h fun a K=>by kernel_rfl
theorem z9u:Qe Proofs.Tryz.prog D 14 (q6k G4):=w7z Vn q0o Rk q4e Vf Rl q35 (Qf (Qf (Qf (Qf (Qf (Qf (Qf h_E0 q7f z09) j6w w4r) j3n w4q) w46 v2m) q94 z2n) z66 j3p) w4s v10)
theorem v63:Ent Proofs.Tryz.prog 111:=Qg (by kernel_rfl) (by kernel_rfl) (by kernel_rfl)
def w9h (X:z18):Con Sg:=conV ([.sl C.bytes]:LP) ([.sl C.bytes]:LV) ([.vec 5 C.u8]:LV) ([.same]:LV) (fun a K=>X a.1 (fun q0=>K (q0,()) ((),())))
def y1k:PT:=Qj ([(7,⟨[0,2],[],[],[(.slot 3,.own 5 C.u8),(.slot 4,.int .i64)]⟩),(15,⟨[0,2,4,5,7,8,9,10,13,14,15,16,17,18],[],[],[(.slot 3,.own 5 C.u8),(.slot 6,.int .i64)]⟩)]:LS)
def y1l:Ev Sg:=E0
theorem y66:Qe Proofs.Tryz.prog D 111 (w9h z19):=Ql (E:=y1l) (p:=y1k) (fuel:=4) (rk:=[.own 5 C.u8]) h_E0 fun a K=>by kernel_rfl
theorem v2n:Ent Proofs.Tryz.prog 217:=Qg (by kernel_rfl) (by kernel_rfl) (by kernel_rfl)
def w49 (X:q9i):Con Sg:=conV ([.v,.v]:LP) ([.int .u64,.int .u64]:LV) ([.int .u64]:LV) ([.same,.same]:LV) (fun a K=>X a.1 a.2.1 (fun q0=>K (q0,()) ((),(),())))
def v64:PT:=Qj ([]:LS)
def v65:Ev Sg:=E0
theorem y1m:Qe Proofs.Tryz.prog D 217 (w49 q9j):=Ql (E:=v65) (p:=v64) (fuel:=4) (rk:=[.v]) h_E0 fun a K=>by kernel_rfl
theorem j4a:Ent Proofs.Tryz.prog 164:=Qg (by kernel_rfl) (by kernel_rfl) (by kernel_rfl)
def q7i (X:U9):Con Sg:=conV ([.el C.sip,.v]:LP) ([.el C.sip,.int .i64]:LV) ([.el C.sip]:LV) ([.same,.same]:LV) (fun a K=>X a.1 a.2.1 (fun q0=>K (q0,()) ((),(),())))
def j67:PT:=Qj ([(5,⟨[0,1,2,4],[1],[(0,(238,4))],[(.slot 5,.int .i64),(.cell 0 0,.int IntKind.u64),(.cell 0 1,.int IntKind.u64),(.cell 0 2,.int IntKind.u64),(.cell 0 3,.int IntKind.u64)]⟩)]:LS)
def j68 (U2:q9i):Ev Sg:=(E0.with 217 (w49 U2))
theorem j90 (U2:q9i) (h:Ev3 (j68 U2) Proofs.Tryz.prog D):Qe Proofs.Tryz.prog D 164 (q7i (q7a U2)):=Ql (p:=j67) (fuel:=4) (rk:=[.el C.sip]) h fun a K=>by kernel_rfl
theorem j91:Qe Proofs.Tryz.prog D 164 (q7i Jp):=j90 q9j (Qf h_E0 v2n y1m)
theorem y67:Ent Proofs.Tryz.prog 110:=Qg (by kernel_rfl) (by kernel_rfl) (by kernel_rfl)
def v2o (X:z8c):Con Sg:=conV ([.v,.v,.sl C.u8]:LP) ([.int .u64,.int .u64,.sl C.u8]:LV) ([.int .u64]:LV) ([.same,.same,.same]:LV) (fun a K=>X a.1 a.2.1 a.2.2.1 (fun q0=>K (q0,()) ((),(),(),())))
def u1z:PT:=Qj ([(7,⟨[0,1,2,6,7,11,12,13,14,15,16,17,18,19],[],[(0,(238,4))],[(.slot 8,.int .i64),(.cell 0 0,.int IntKind.u64),(.cell 0 1,.int IntKind.u64),(.cell 0 2,.int IntKind.u64),(.cell 0 3,.int IntKind.u64)]⟩),(15,⟨[0,1,2,6,7,8,11,12,13,14,15,16,17,18,19,20,21,22,23,24],[0],[],[(.slot 9,.int IntKind.u64),(.slot 10,.int .i64)]⟩),(24,⟨[0,1,2,6,7,8,10,11,12,13,14,15,16,17,18,19,20,21,22,23,24,27,28,29,30,31,32,33,34,35,36,37],[0],[],[(.slot 9,.int IntKind.u64)]⟩)]:LS)
def u10 (W7:U9):Ev Sg:=(E0.with 164 (q7i W7))
theorem u5t (W7:U9) (h:Ev3 (u10 W7) Proofs.Tryz.prog D):Qe Proofs.Tryz.prog D 110 (v2o (v0m W7)):=Ql (p:=u1z) (fuel:=4) (rk:=[.v]) h fun a K=>by kernel_rfl
theorem u5u:Qe Proofs.Tryz.prog D 110 (v2o j2s):=u5t Jp (Qf h_E0 j4a j91)
theorem y1n:Ent Proofs.Tryz.prog 56:=Qg (by kernel_rfl) (by kernel_rfl) (by kernel_rfl)
def w5a (X:z2a):Con Sg:=conV ([.v,.sl C.bytes]:LP) ([.int .u64,.sl C.bytes]:LV) ([.int .u64]:LV) ([.same,.same]:LV) (fun a K=>X a.1 a.2.1 (fun q0=>K (q0,()) ((),(),())))
def y68:PT:=Qj ([]:LS)
def y69 (q8m:z18) (z8m:z8c):Ev Sg:=((E0.with 111 (w9h q8m)).with 110 (v2o z8m))
theorem u11 (q8m:z18) (z8m:z8c) (h:Ev3 (y69 q8m z8m) Proofs.Tryz.prog D):Qe Proofs.Tryz.prog D 56 (w5a (w2s q8m z8m)):=Ql (p:=y68) (fuel:=4) (rk:=[.v]) h fun a K=>by kernel_rfl
theorem u12:Qe Proofs.Tryz.prog D 56 (w5a z57):=u11 z19 j2s (Qf (Qf h_E0 v63 y66) y67 u5u)
theorem y7a:Ent Proofs.Tryz.prog 29:=Qg (by kernel_rfl) (by kernel_rfl) (by kernel_rfl)
def v2p (X:z8d):Con Sg:=conV ([.v,.v]:LP) ([.str,.str]:LV) ([.int .i64]:LV) ([.same,.same]:LV) (fun a K=>X a.1 a.2.1 (fun q0=>K (q0,()) ((),(),())))
def u13:PT:=Qj ([]:LS)
def u14 (z2z:z2a):Ev Sg:=(E0.with 56 (w5a z2z))
theorem u5v (z2z:z2a) (h:Ev3 (u14 z2z) Proofs.Tryz.prog D):Qe Proofs.Tryz.prog D 29 (v2p (v0n z2z)):=Ql (p:=u13) (fuel:=4) (rk:=[.v]) h fun a K=>by kernel_rfl
theorem u5w:Qe Proofs.Tryz.prog D 29 (v2p z3r):=u5v z57 (Qf h_E0 y1n u12)
theorem z9v:Ent Proofs.Tryz.prog 12:=Qg (by kernel_rfl) (by kernel_rfl) (by kernel_rfl)
def z0p (X:Gw):Con Sg:=conV ([.el C.env,.el C.subj,.sl C.forced]:LP) ([.el C.env,.el C.subj,.sl C.forced]:LV) ([.vec 46 C.asg]:LV) ([.same,.same,.same]:LV) (fun a K=>X a.1 a.2.1 a.2.2.1 (fun q0=>K (q0,()) ((),(),(),())))
def v2q:PT:=Qj ([(7,⟨[0,1,2,3,4,6,12,13,14],[1,0],[],[(.slot 7,.own 46 C.asg),(.slot 15,.int .i64)]⟩)]:LS)
def v2r (Jc:Vp):Ev Sg:=(E0.with 14 (q6k Jc))
theorem v66 (Jc:Vp) (h:Ev3 (v2r Jc) Proofs.Tryz.prog D):Qe Proofs.Tryz.prog D 12 (z0p (z58 Jc)):=Ql (p:=v2q) (fuel:=4) (rk:=[.own 46 C.asg]) h fun a K=>by kernel_rfl
theorem j73:Qe Proofs.Tryz.prog D 12 (z0p q0q):=v66 G4 (Qf h_E0 z4z z9u)
theorem w5b:Ent Proofs.Tryz.prog 9:=Qg (by kernel_rfl) (by kernel_rfl) (by kernel_rfl)
def z4h (X:q1d):Con Sg:=conV ([]:LP) ([]:LV) ([.bool]:LV) ([]:LV) (fun _ K=>X (fun q0=>K (q0,()) ()))
def w70:PT:=Qj ([]:LS)
def w71 (G6:q14) (Jc:Vp) (z8n:z8d) (Wl:Gw):Ev Sg:=((((E0.with 30 (z9o G6)).with 14 (q6k Jc)).with 29 (v2p z8n)).with 12 (z0p Wl))
theorem v2s (G6:q14) (Jc:Vp) (z8n:z8d) (Wl:Gw) (h:Ev3 (w71 G6 Jc z8n Wl) Proofs.Tryz.prog D):Qe Proofs.Tryz.prog D 9 (z4h (z3s G6 Jc z8n Wl)):=Ql (p:=w70) (fuel:=4) (rk:=[.v]) h fun a K=>by kernel_rfl
theorem v2t:Qe Proofs.Tryz.prog D 9 (z4h q4f):=v2s q6f G4 z3r q0q (Qf (Qf (Qf (Qf h_E0 j9h w61) z4z z9u) y7a u5w) z9v j73)
theorem u15:Ent Proofs.Tryz.prog 23:=Qg (by kernel_rfl) (by kernel_rfl) (by kernel_rfl)
def u16 (X:w2t):Con Sg:=conV ([.sl C.u8,.v]:LP) ([.sl C.u8,.int .i64]:LV) ([.ptr 104 [.sl C.u8,.int .i64]]:LV) ([.same,.same]:LV) (fun a K=>X a.1 a.2.1 (fun q0 q1=>K ((q0,q1,()),()) ((),(),())))
def u5x:PT:=Qj ([(6,⟨[1,4],[],[],[(.slot 0,.sl C.u8)]⟩)]:LS)
def u5y:Ev Sg:=E0
theorem u9k:Qe Proofs.Tryz.prog D 23 (u16 w2u):=Ql (E:=u5y) (p:=u5x) (fuel:=4) (rk:=[.ptr 104 [.c,.v]]) h_E0 fun a K=>by kernel_rfl
theorem v2u:Ent Proofs.Tryz.prog 55:=Qg (by kernel_rfl) (by kernel_rfl) (by kernel_rfl)
def j1t (X:q5m):Con Sg:=conV ([.ptr 104 [.c,.v],.v]:LP) ([.ptr 104 [.sl C.u8,.int .i64],.str]:LV) ([.el C.ctx]:LV) ([.ptr 104 [.same,.int .i64],.same]:LV) (fun a K=>X a.1.1 a.1.2.1 a.2.1 (fun q0 q1=>K (q0,()) (((),q1,()),(),())))
def v67:PT:=Qj ([(9,⟨[0,1,4,5,6,8,9,10,11,12],[4,1],[(2,(82,3)),(0,(104,2))],[(.slot 7,.int .i64),(.cell 2 2,.own 180 C.attr),(.cell 0 1,.int .i64)]⟩)]:LS)
def v68 (q53:z3e) (Q1:J5) (Qa:Q7) (Z9:R1):Ev Sg:=((((E0.with 108 (v0v q53)).with 57 (q6y Q1)).with 49 (Gz Qa)).with 109 (z6c Z9))
theorem y1o (q53:z3e) (Q1:J5) (Qa:Q7) (Z9:R1) (h:Ev3 (v68 q53 Q1 Qa Z9) Proofs.Tryz.prog D):Qe Proofs.Tryz.prog D 55 (j1t (j0s q53 Q1 Qa Z9)):=Ql (p:=v67) (fuel:=4) (rk:=[.el C.ctx]) h fun _ _=>by kernel_rfl
theorem y1p:Qe Proofs.Tryz.prog D 55 (j1t q5n):=y1o j0d W4 Zx Ha (Qf (Qf (Qf (Qf h_E0 v42 u07) q6i z0j) Vg Rr) j0w w2z)
end Go.En
end
noncomputable section
set_option maxRecDepth 100000
open Go Go.RowKit Go.Fl Go.Fl.Lk Go.Fx
namespace Go.En
theorem v2v:Ent Proofs.Tryz.prog 27:=Qg (by kernel_rfl) (by kernel_rfl) (by kernel_rfl)
def j1u (X:q5o):Con Sg:=conV ([.ptr 104 [.c,.v]]:LP) ([.ptr 104 [.sl C.u8,.int .i64]]:LV) ([.el C.subj]:LV) ([.ptr 104 [.same,.int .i64]]:LV) (fun a K=>X a.1.1 a.1.2.1 (fun q0 q1=>K (q0,()) (((),q1,()),())))
def v69:PT:=Qj ([(10,⟨[0,2,3,4,5,6],[1],[(0,(104,2)),(2,(25,1))],[(.cell 0 1,.int .i64),(.cell 2 0,.own 82 C.ctx)]⟩)]:LS)
def v7a (Qa:Q7) (R0:q5m):Ev Sg:=((E0.with 49 (Gz Qa)).with 55 (j1t R0))
theorem y1q (Qa:Q7) (R0:q5m) (h:Ev3 (v7a Qa R0) Proofs.Tryz.prog D):Qe Proofs.Tryz.prog D 27 (j1u (j0t Qa R0)):=Ql (p:=v69) (fuel:=4) (rk:=[.el C.subj]) h fun a K=>by kernel_rfl
theorem y1r:Qe Proofs.Tryz.prog D 27 (j1u q9k):=y1q Zx q5n (Qf (Qf h_E0 Vg Rr) v2u y1p)
theorem v7b:Ent Proofs.Tryz.prog 32:=Qg (by kernel_rfl) (by kernel_rfl) (by kernel_rfl)
def j69 (X:q8a):Con Sg:=conV ([.ptr 104 [.c,.v],.el C.env]:LP) ([.ptr 104 [.sl C.u8,.int .i64],.el C.env]:LV) ([.vec 54 C.forced]:LV) ([.ptr 104 [.same,.int .i64],.same]:LV) (fun a K=>X a.1.1 a.1.2.1 a.2.1 (fun q0 q1=>K (q0,()) (((),q1,()),(),())))
def y1s:PT:=Qj ([(7,⟨[0,1,3,4],[1],[(0,(104,2))],[(.slot 5,.own 54 C.forced),(.slot 6,.int .i64),(.cell 0 1,.int .i64)]⟩),(16,⟨[0,1,3,4,5,6,7,10,11,12,13,16,17,18,19],[2],[(5,(54,3)),(0,(104,2))],[(.cell 5 0,.str),(.cell 0 1,.int .i64)]⟩),(32,⟨[0,1,3,4,5,6,7,10,11,12,13,16,17,18,19],[2],[(5,(54,3)),(0,(104,2))],[(.cell 5 0,.str),(.cell 5 1,.str),(.cell 5 2,.int .i64),(.cell 0 1,.int .i64)]⟩),(26,⟨[0,1,3,4,6,7,8,10,11,12,13,16,17,18,19,24,25,26,27,28,29,30,31,32,33,34,35,36,37],[],[(5,(54,3)),(0,(104,2))],[(.cell 5 0,.str),(.cell 0 1,.int .i64)]⟩)]:LS)
def y1t (Qa:Q7):Ev Sg:=(E0.with 49 (Gz Qa))
theorem y7b (Qa:Q7) (h:Ev3 (y1t Qa) Proofs.Tryz.prog D):Qe Proofs.Tryz.prog D 32 (j69 (j5l Qa)):=Ql (p:=y1s) (fuel:=4) (rk:=[.own 54 C.forced]) h fun a K=>by kernel_rfl
theorem y7c:Qe Proofs.Tryz.prog D 32 (j69 z2b):=y7b Zx (Qf h_E0 Vg Rr)
theorem w5c:Ent Proofs.Tryz.prog 10:=Qg (by kernel_rfl) (by kernel_rfl) (by kernel_rfl)
def z4i (X:q1e):Con Sg:=conV ([.sl C.u8,.sl C.u8]:LP) ([.sl C.u8,.sl C.u8]:LV) ([.el C.env,.el C.subj,.sl C.forced]:LV) ([.same,.same]:LV) (fun a K=>X a.1 a.2.1 (fun q0 q1 q2=>K (q0,q1,q2,()) ((),(),())))
def w72:PT:=Qj ([]:LS)
def w73 (j18:w2t) (Ra:Hm) (q6c:q5o) (q8n:q8a):Ev Sg:=((((E0.with 23 (u16 j18)).with 31 (q9w Ra)).with 27 (j1u q6c)).with 32 (j69 q8n))
theorem v2w (j18:w2t) (Ra:Hm) (q6c:q5o) (q8n:q8a) (h:Ev3 (w73 j18 Ra q6c q8n) Proofs.Tryz.prog D):Qe Proofs.Tryz.prog D 10 (z4i (z3t j18 Ra q6c q8n)):=Ql (p:=w72) (fuel:=4) (rk:=[.el C.env,.el C.subj,.sl C.forced]) h fun a K=>by kernel_rfl
theorem v2x:Qe Proofs.Tryz.prog D 10 (z4i q4g):=v2w w2u q0l q9k z2b (Qf (Qf (Qf (Qf h_E0 u15 u9k) j6s w4g) v2v y1r) v7b y7c)
theorem z86:Ent Proofs.Tryz.prog 22:=Qg (by kernel_rfl) (by kernel_rfl) (by kernel_rfl)
def z0q (X:Gx):Con Sg:=conV ([.el C.env,.v]:LP) ([.el C.env,.str]:LV) ([.int .i64]:LV) ([.same,.same]:LV) (fun a K=>X a.1 a.2.1 (fun q0=>K (q0,()) ((),(),())))
def j1v:PT:=Qj ([(5,⟨[0,1,2],[0],[],[(.slot 5,.int .i64)]⟩)]:LS)
def j1w:Ev Sg:=E0
theorem j4b:Qe Proofs.Tryz.prog D 22 (z0q Gy):=Ql (E:=j1w) (p:=j1v) (fuel:=4) (rk:=[.v]) h_E0 fun a K=>by kernel_rfl
end Go.En
end
noncomputable section
set_option maxRecDepth 100000
open Go Go.RowKit Go.Fl Go.Fl.Lk Go.Fx
namespace Go.En
def Bz (X:q4h):Con Sg:=conV ([.sl C.u8,.sl C.u8,.v]:LP) ([.sl C.u8,.sl C.u8,.bool]:LV) ([.bool]:LV) ([.same,.same,.same]:LV) (fun a K=>X a.1 a.2.1 a.2.2.1 (fun q0=>K (q0,()) ((),(),(),())))
def j1x:PT:=Qj ([(12,⟨[0,1,2,6,7,8,16,17,18,19,20,21,22,23,24],[1,0],[],[(.slot 9,.sl C.forced)]⟩),(21,⟨[0,1,2,7,8,9,10,16,17,18,19,20,21,22,23,24,27,28,29,30,31,32,33,34,35,36],[5,1,0],[],[(.slot 11,.int .i64)]⟩),(47,⟨[0,1,2,7,8,9,11,12,13,16,17,18,19,20,21,22,23,24,27,28,29,32,33,34,35,36,37,39,40,44,45,46,47,48,49,50,51,52,53,54,56,57,58,59,60,67,69,70,71,72,73,74,75,76,78,79,80,81,82,83,84,85,86,87],[7],[],[(.slot 14,.bool),(.slot 15,.int .i64)]⟩)]:LS)
def j1y (q1v:q1d) (q1w:q1e) (Wl:Gw) (V2:Gx) (J3:V9) (Zo:Jx):Ev Sg:=((((((E0.with 9 (z4h q1v)).with 10 (z4i q1w)).with 12 (z0p Wl)).with 22 (z0q V2)).with 16 (q70 J3)).with 18 (q1i Zo))
theorem j4c (q1v:q1d) (q1w:q1e) (Wl:Gw) (V2:Gx) (J3:V9) (Zo:Jx) (h:Ev3 (j1y q1v q1w Wl V2 J3 Zo) Proofs.Tryz.prog D):Qe Proofs.Tryz.prog D 5 (Bz (q4i q1v q1w Wl V2 J3 Zo)):=Ql (p:=j1x) (fuel:=4) (rk:=[.v]) h fun a K=>by kernel_rfl
theorem j4d:Qe Proofs.Tryz.prog D 5 (Bz Ww):=j4c q4f q4g q0q Gy Rl Vf (Qf (Qf (Qf (Qf (Qf (Qf h_E0 w5b v2t) w5c v2x) z9v j73) z86 j4b) z66 j3p) q94 z2n)
end Go.En
end
noncomputable section
set_option maxRecDepth 100000
namespace Go.En
open Go Go.Fl Go.Fl.Lk Go.Fx
theorem Cnd.mk {c A B:Prop} (h:c->A) (k: ¬c->B):Cnd c A B:=⟨h,k⟩
structure DS (list:List Int) (at_:Int):Prop where
 len:list.length<=1000
 lo:0<=at_
 hi:at_<=list.length
 byte: ∀x∈list,0<=x/\x<256
theorem getm {α:Type} {l:List α} {k:Nat} {x:α} (h:l[k]? =some x):x∈l:=List.mem_of_getElem? h
theorem j1z (n:Int):(Go.Utf8.encode n).size<=4:=by
 unfold Go.Utf8.encode
 generalize (if Go.Utf8.valid n then n.toNat else Go.Utf8.runeError)=c
 show (if c<0x80 then _ else if c<0x800 then _ else if c<0x10000 then _ else _:ByteArray).size<=4
 have h1: ∀a:UInt8,(ByteArray.mk #[a]).size<=4:=fun _=>(by decide:1<=4)
 have h2: ∀a b:UInt8,(ByteArray.mk #[a,b]).size<=4:=fun _ _=>(by decide:2<=4)
 have h3: ∀a b c:UInt8,(ByteArray.mk #[a,b,c]).size<=4:=fun _ _ _=>(by decide:3<=4)
 have h4: ∀a b c d:UInt8,(ByteArray.mk #[a,b,c,d]).size<=4:=fun _ _ _ _=>(by decide:4<=4)
 split
 ·exact h1 _
 ·split
  ·exact h2 _ _
  ·split
   ·exact h3 _ _ _
   ·exact h4 _ _ _ _
theorem Qo {list:List Int} {at_ n:Int} {K:Int->Int->Prop} (hD:DS list at_) (hn:1<=n) (h: ∀r a,0<=r->r<n->DS list a->K r a):Zx list at_ n K:=by
 obtain ⟨h1,h2,h3,h4⟩:=hD
 unfold Zx v0g w0r
 refine fun _=>Cnd.mk (fun hl=> ?_) (fun _=>h _ _ (by omega) (by omega) ⟨h1,h2,h3,h4⟩)
 have hl:=of_decide_eq_true hl
 refine ⟨by unfold InI;omega,by unfold InI;omega,by omega,fun y hy=>⟨by unfold InI;have:=h4 _ (getm hy);omega,by omega,?_⟩⟩
 obtain ⟨a,b⟩:=h4 _ (getm hy)
 exact h _ _ (Int.tmod_nonneg _ a) (by have:=Int.tmod_lt_of_pos y (b:=n) (by omega);omega) ⟨h1,by omega,by omega,h4⟩
theorem q61 {list:List Int} {at_ n:Int} {K:Int->Int->Prop} (hD:DS list at_) (hn:1<=n) (h: ∀r a,0<=r->r<n->DS list a->K r a):q7r list at_ n K:=by
 unfold q7r v0i
 refine Qo hD (by decide) fun r a r0 r1 hD=>⟨by unfold InI;omega,Qo hD (by decide) fun s b s0 s1 hD=>⟨by unfold InI;omega,by omega,?_⟩⟩
 exact h _ _ (Int.tmod_nonneg _ (by omega)) (by have:=Int.tmod_lt_of_pos (256*r+s) (b:=n) (by omega);omega) hD
theorem j4e {n:Int} {l:List ByteArray} {K:List ByteArray->Prop} (h0:0<=n) (h1:n<=l.length) (h:K (l.take n.toNat)):z74 n l K:=⟨⟨h0,h1⟩,h⟩
theorem z2o {list:List Int} {at_:Int} {K:ByteArray->Int->Prop} (hD:DS list at_) (h: ∀r a,r∈j2m->DS list a->K r a):q3p list at_ K:=by
 unfold q3p v0h
 exact Qo hD (by decide) fun r a r0 r1 hD=>⟨⟨r0,r1⟩,fun y hy=>h _ _ (getm hy) hD⟩
theorem sz_k (n:Int):(ByteArray.mk (Array.mk [107])++Go.Utf8.encode n).size<=5:=by
 rw [ByteArray.size_append];have:=j1z n;show 1+_<=5;omega
theorem y31 {list:List Int} {at_:Int} {K:ByteArray->Int->Prop} (hD:DS list at_) (h: ∀r a,r.size<=5->DS list a->K r a):j0d list at_ K:=by
 unfold j0d v9k
 refine Qo hD (by decide) fun r a r0 r1 hD=>⟨by unfold InI;omega,?_,h _ _ (sz_k _) hD⟩
 have:=j1z (Go.IntKind.i32.wrap (48+r));have e:(ByteArray.mk (Array.mk [107])).size=1:=rfl;omega
theorem w5d {list:List Int} {at_:Int} {K:List ByteArray->Int->Prop} (hD:DS list at_) (h: ∀r a,r.length<=3->(∀s∈r,s.size<=5)->DS list a->K r a):z3d list at_ K:=by
 unfold z3d v0j
 refine Qo hD (by decide) fun n a n0 n1 hD=> ?_
 refine Lp3.ind (fun l i a=>DS list a/\0<=i/\i<=3/\(l.length:Int)=i/\ ∀s∈l,s.size<=5) (fun _ i _=>(3 - i).toNat) ?_ ⟨hD,by decide,by decide,rfl,by simp⟩
 rintro l i a ⟨hD,i0,i3,hl,hs⟩
 refine Qo hD (by decide) fun r a r0 r1 hD=>Cnd.mk (fun hc=> ?_) (fun hc=> ?_)
 ·have:=j1z (Go.IntKind.i32.wrap ((48:Int)+(n+i).tmod 10));have e:(ByteArray.mk (Array.mk [107])).size=1:=rfl
  have m0:=Int.tmod_nonneg 10 (show 0<=n+i by omega);have m1:=Int.tmod_lt_of_pos (n+i) (b:=10) (by decide)
  refine ⟨by unfold InI;omega,by decide,by unfold InI;omega,by omega,by unfold Sml;simp;omega,by unfold InI;omega,⟨hD,by omega,by omega,by simp;omega,fun s hm=> ?_⟩,by omega⟩
  rcases List.mem_append.1 hm with hm|hm
  ·exact hs s hm
  ·rw [List.mem_singleton.1 hm];exact sz_k _
 ·refine Lp2.ind (fun (i:Int) (m:List ByteArray)=>m=l/\1<=i/\i<=1+l.length) (fun (i:Int) _=>(1+l.length - i).toNat) ?_ ⟨rfl,by decide,by omega⟩
  rintro i m ⟨rfl,i0,i1⟩ _
  refine Cnd.mk (fun hc=>⟨by omega,fun y hy=>⟨by unfold InI;omega,by omega,fun z hz=>Cnd.mk (fun _=>⟨by unfold InI;omega,⟨rfl,by omega,by omega⟩,by omega⟩) (fun _=>⟨by omega,h _ _ (by simp;omega) (fun s hm=>hs s (List.mem_of_mem_take hm)) hD⟩)⟩⟩) (fun _=>h _ _ (by omega) hs hD)
theorem sz0:(ByteArray.mk (Array.mk ([]:List UInt8))).size<=100:=by decide
structure ValS (v:Val):Prop where
 num:InI v.number
 txt:v.text.size<=100
 len:v.list.length<=10
 txs: ∀s∈v.list,s.size<=100
theorem q8b {list:List Int} {at_ kind:Int} {K:Val->Int->Prop} (hD:DS list at_) (h: ∀r a,ValS r->DS list a->K r a):Ha list at_ kind K:=by
 unfold Ha j2p
 have tt: ∀s∈j2m,s.size<=100:=by decide
 have tv: ∀s∈z5g,s.size<=100:=by decide
 have tl: ∀l∈w2g,l.length<=10/\ ∀s∈l,s.size<=100:=by decide
 refine Cnd.mk (fun _=> ?_) fun _=>Cnd.mk (fun _=>fun _=> ?_) fun _=>Cnd.mk (fun _=> ?_) fun _=>Cnd.mk (fun _=> ?_) fun _=> ?_
 ·exact Qo hD (by decide) fun r a r0 r1 hD=>h _ _ ⟨by unfold InI;simp only;omega,sz0,by simp,by simp⟩ hD
 ·refine Qo hD (by decide) fun r a r0 r1 hD=>⟨⟨r0,r1⟩,fun y hy=>h _ _ ⟨?_,sz0,by simp,by simp⟩ hD⟩
  have:=getm hy
  have k: ∀y∈[(0:Int),(1:Int),(17:Int),(18:Int),(19:Int),(-5:Int),(64:Int),(1099511627776:Int),(-1099511627776:Int)], -9223372036854775808<=y/\y<=9223372036854775807:=by decide
  exact k y this
 ·exact z2o hD fun r a hr hD=>h _ _ ⟨by unfold InI;simp,tt _ hr,by simp,by simp⟩ hD
 ·exact Qo hD (by decide) fun r a r0 r1 hD=>⟨⟨r0,r1⟩,fun y hy=>h _ _ ⟨by unfold InI;simp,tv _ (getm hy),by simp,by simp⟩ hD⟩
 ·refine Qo hD (by decide) fun r a r0 r1 hD=>⟨⟨r0,r1⟩,fun y hy=> ?_⟩
  obtain ⟨a1,a2⟩:=tl _ (getm hy)
  exact ⟨by unfold Sml;simp;omega,h _ _ ⟨by unfold InI;simp,sz0,by simpa using a1,by simpa using a2⟩ hD⟩
structure VsS (l:List Val):Prop where
 len:l.length<=4
 all: ∀v∈l,ValS v
theorem VsS.nil:VsS []:=⟨by simp,by simp⟩
theorem VsS.one {v:Val} (h:ValS v):VsS [v]:=⟨by simp,by simpa using h⟩
def ExS:Nat->Ex->Prop
 |0,e=>VsS e.values/\(e.name.size<=100/\e.kind.size<=100)/\(InI e.op/\(2<=e.op->e.op<=4->e.kids≠[]))/\e.kids=[]
 |n+1,e=>VsS e.values/\(e.name.size<=100/\e.kind.size<=100)/\(InI e.op/\(2<=e.op->e.op<=4->e.kids≠[]))/\e.kids.length<=3/\ ∀k∈e.kids,ExS n k
theorem ExS.up: ∀{n:Nat} {e:Ex},ExS n e->ExS (n+1) e
 |0,e,h=>⟨h.1,h.2.1,h.2.2.1,by rw [h.2.2.2];simp,by rw [h.2.2.2];simp⟩
 |n+1,e,h=>⟨h.1,h.2.1,h.2.2.1,h.2.2.2.1,fun k hk=>(h.2.2.2.2 k hk).up⟩
theorem ExS.le {n m:Nat} {e:Ex} (h:ExS n e) (hm:n<=m):ExS m e:=by
 induction hm with
 |refl=>exact h
 |step _ ih=>exact ih.up
theorem ExS.kids {n:Nat} {e:Ex} (h:ExS n e):e.kids.length<=3:=by
 cases n with
 |zero=>rw [h.2.2.2];simp
 |succ n=>exact h.2.2.2.1
theorem ExS.kid {n:Nat} {e k:Ex} (h:ExS n e) (hk:k∈e.kids): ∃m,m+1=n/\ExS m k:=by
 cases n with
 |zero=>rw [h.2.2.2] at hk;simp at hk
 |succ n=>exact ⟨n,rfl,h.2.2.2.2 k hk⟩
theorem ExS.vals {n:Nat} {e:Ex} (h:ExS n e):VsS e.values:=by cases n<;>exact h.1
theorem ExS.nm {n:Nat} {e:Ex} (h:ExS n e):e.name.size<=100:=by cases n<;>exact h.2.1.1
theorem ExS.kd {n:Nat} {e:Ex} (h:ExS n e):e.kind.size<=100:=by cases n<;>exact h.2.1.2
theorem ExS.opK {n:Nat} {e:Ex} (h:ExS n e):2<=e.op->e.op<=4->e.kids≠[]:=by cases n<;>exact h.2.2.1.2
def OpL (op:Int):Prop:=InI op/\ ¬(2<=op/\op<=4)
theorem OpL.ok {op:Int} (h:OpL op) {l:List Ex}:InI op/\(2<=op->op<=4->l≠[]):=⟨h.1,fun a b=>absurd ⟨a,b⟩ h.2⟩
theorem opl {op:Int} (h:(6<=op/\op<=100)∨op=0∨op=1∨op=5) {l:List Ex}:InI op/\(2<=op->op<=4->l≠[]):=⟨by unfold InI;omega,fun a b=>by omega⟩
theorem q4w {K:List Decl->Prop} (h: ∀l,l.length=8->(∀d∈l,d.kind.size<=100/\d.name.size<=100/\1<=d.type/\d.type<=5)->K l):W4 K:=by
 unfold W4
 exact h _ rfl (by decide)
theorem v7c {list:List Int} {at_:Int} {K:Ex->Int->Prop} (hD:DS list at_) (h: ∀r a,ExS 0 r->6<=r.op->DS list a->K r a):z78 list at_ K:=by
 unfold z78 v0k
 refine q4w fun l hl hd _=>⟨by unfold InI;omega,Qo hD (by omega) fun r a r0 r1 hD _=>Cnd.mk (fun _=> ?_) fun hc=>⟨by omega,fun y hy=> ?_⟩⟩
 ·exact y31 hD fun s a hs hD=>h _ _ ⟨.one ⟨by unfold InI;simp,by show s.size<=100;omega,by simp,by simp⟩,⟨(by decide:(ByteArray.mk (Array.mk [107,101,121])).size<=100),(by decide:(ByteArray.mk (Array.mk [117,115,101,114])).size<=100)⟩,opl (by simp),rfl⟩ (by simp) hD
 obtain ⟨hy0,hy1,hy2,hy3⟩:=hd y (getm hy)
 have one: ∀{op:Int} {v:Val},OpL op->ValS v->ExS 0 (Ex.mk op y.kind y.name [v] []):=fun ho hv=>⟨.one hv,⟨hy1,hy0⟩,ho.ok,rfl⟩
 refine Jn1.mk (fun x=>(∃b,x=(b,y.kind,y.name,([]:List Val),([]:List Ex),x.2.2.2.2.2.1,0,ByteArray.mk (Array.mk []),ByteArray.mk (Array.mk []),[],[],()))/\DS list x.2.2.2.2.2.1) ?_ ?_
 case refine_2=>
  rintro x ⟨⟨b,hx⟩,hD⟩
  refine q8b hD fun v a hv hD=>h _ _ ?_ (by simp) hD
  rw [hx]
  exact one ⟨by unfold InI;simp,by decide⟩ hv
 refine Qo hD (by decide) fun q a q0 q1 hD=> ?_
 refine Jn1.mk (fun x=>(∃b,x=(x.1,b,y.kind,y.name,([]:List Val),([]:List Ex),0,ByteArray.mk (Array.mk []),ByteArray.mk (Array.mk []),[],[],()))/\DS list x.1) ?_ ?_
 case refine_2=>
  rintro x ⟨⟨b,hx⟩,hD⟩
  have cmp:Zx list x.1 4 fun r a=>InI (12+r)/\Ha list a y.3 fun v a=>K (Ex.mk (12+r) x.2.2.1 x.2.2.2.1 [v] x.2.2.2.2.2.1) a:=by
   refine Qo hD (by decide) fun r a r0 r1 hD=>⟨by unfold InI;omega,q8b hD fun v a hv hD=>h _ _ ?_ (by simp only;omega) hD⟩
   rw [hx]
   exact one ⟨by unfold InI;omega,by omega⟩ hv
  refine Cnd.mk (fun _=>cmp) fun _=>Cnd.mk (fun _=>cmp) fun _=>Cnd.mk (fun _=>cmp) fun _=> ?_
  refine ⟨⟨b,?_⟩,hD⟩
  rw [hx]
 have nx: ∀{a:Int},DS list a->(fun x:Int×ByteArray×ByteArray×List Val×List Ex×Int×Int×ByteArray×ByteArray×List Val×List Ex×Unit=>(∃b,x=(b,y.kind,y.name,([]:List Val),([]:List Ex),x.2.2.2.2.2.1,0,ByteArray.mk (Array.mk []),ByteArray.mk (Array.mk []),[],[],()))/\DS list x.2.2.2.2.2.1) ((0:Int),y.1,y.2,[],[],a,(0:Int),ByteArray.mk (Array.mk []),ByteArray.mk (Array.mk []),[],[],()):=fun hD=>⟨⟨0,rfl⟩,hD⟩
 refine Cnd.mk (fun _=>h _ _ ⟨.nil,⟨hy1,hy0⟩,opl (by simp),rfl⟩ (by simp) hD) fun _=>Cnd.mk (fun _=> ?_) fun _=>Cnd.mk (fun _=> ?_) fun _=>Cnd.mk (fun _=> ?_) fun _=>Cnd.mk (fun _=> ?_) fun _=>nx hD
 ·refine Cnd.mk (fun _=>nx hD) fun _=> ?_
  refine Lp3.ind (fun i l a=>DS list a/\0<=i/\i<=3/\(l.length:Int)=i/\ ∀v∈l,ValS v) (fun i _ _=>(3 - i).toNat) ?_ ⟨hD,by decide,by decide,rfl,by simp⟩
  rintro i l a ⟨hD,i0,i3,hl,hv⟩
  refine Qo hD (by decide) fun r a r0 r1 hD=>Cnd.mk (fun hc=>q8b hD fun v a hv' hD=>⟨by unfold Sml;simp;omega,by unfold InI;omega,⟨hD,by omega,by omega,by simp;omega,fun u hu=> ?_⟩,by omega⟩) (fun hc=>h _ _ ⟨⟨by simp only;omega,hv⟩,⟨hy1,hy0⟩,opl (by simp),rfl⟩ (by simp) hD)
  rcases List.mem_append.1 hu with hu|hu
  ·exact hv u hu
  ·rw [List.mem_singleton.1 hu];exact hv'
 ·have c:Ha list a 3 fun v a=>K (Ex.mk 11 y.1 y.2 [v] []) a:=q8b hD fun v a hv hD=>h _ _ (one ⟨by unfold InI;simp,by decide⟩ hv) (by simp) hD
  exact Cnd.mk (fun _=>c) fun _=>Cnd.mk (fun _=>c) fun _=>nx hD
 ·exact Cnd.mk (fun _=>Qo hD (by decide) fun r a r0 r1 hD=>⟨by unfold InI;omega,q8b hD fun v a hv hD=>h _ _ (one ⟨by unfold InI;omega,by omega⟩ hv) (by simp only;omega) hD⟩) fun _=>⟨⟨0,rfl⟩,hD⟩
 ·exact ⟨⟨0,rfl⟩,hD⟩
theorem ExS.eta {n:Nat} {e:Ex} (h:ExS n e):ExS n (Ex.mk e.op e.kind e.name e.values e.kids):=by cases e;exact h
theorem qa1x {n:Nat} {e:Ex} (h:ExS n e) {k m:ByteArray} (hm:m.size<=100) (hk:k.size<=100):ExS (n+1) (Ex.mk 4 k m [] [e]):=⟨.nil,⟨hm,hk⟩,⟨InI.mk (by simp) (by simp),fun _ _=>by simp⟩,by simp,by simpa using h⟩
structure SegS (g:Seg):Prop where
 key:g.key.size<=100
 kind:g.kind.size<=100
 incl:g.incl.length<=3
 excl:g.excl.length<=3
 cond:ExS 4 g.cond
theorem W8 {α:Type} {P:α->Prop} {l:List α} {x:α} (h: ∀y∈l,P y) (hx:P x): ∀y∈l++[x],P y:=fun y hy=>by
 rcases List.mem_append.1 hy with hy|hy
 ·exact h y hy
 ·rw [List.mem_singleton.1 hy];exact hx
theorem z40 {v:Envt} {K:List ByteArray->Prop} (hl:v.segments.length<=1000) (h:K (v.segments.map Seg.key)):B8 v K:=by
 unfold B8
 refine Lp2.ind (fun (l:List ByteArray) (i:Int)=>0<=i/\i<=v.segments.length/\l=(v.segments.take i.toNat).map Seg.key) (fun _ (i:Int)=>(v.segments.length - i).toNat) ?_ ⟨Int.le_refl 0,by omega,by simp⟩
 rintro l i ⟨i0,i1,rfl⟩ _
 refine Cnd.mk (fun hc=>⟨by omega,fun y hy=>⟨by unfold Sml;simp;omega,by unfold InI;omega,⟨by omega,by omega,?_⟩,by omega⟩⟩) fun hc=> ?_
 ·rw [show (i+1).toNat=i.toNat+1 by omega,List.take_add_one,hy];simp
 ·rw [List.take_of_length_le (by omega)];exact h
def SplS (n:Int) (l:List Rng):Prop:=l.length<=4/\ ∀r∈l,0<=r.lo/\r.hi<=10000/\1<=r.variation/\r.variation<=n
structure SrvS (n:Int) (s:Srv):Prop where
 kind:s.kind.size<=100
 var:0<=s.variation/\s.variation<=n
 split:SplS n s.split
 by_:s.by_.size<=100
 salt:s.salt.size<=100
structure LayS (l:Lay_):Prop where
 key:l.key.size<=100
 kind:l.kind.size<=100
 salt:l.salt.size<=100
 hold:0<=l.holdout/\l.holdout<=10000
 cool:0<=l.cool/\l.cool<=100
 len:l.cooling.length<=3
 cooling: ∀c∈l.cooling,0<=c.lo/\c.hi<=10000/\0<=c.until_/\c.until_<=200
theorem y7d {list:List Int} {at_:Int} {key:ByteArray} {K:Lay_->Int->Prop} (hD:DS list at_) (hk:key.size<=100) (h: ∀l a,LayS l->l.key=key->DS list a->K l a):z5n list at_ key K:=by
 unfold z5n w2m
 have tt: ∀s∈j2m,s.size<=100:=by decide
 refine z2o hD fun t a ht hD=>Qo hD (by decide) fun c a c0 c1 hD=>⟨by unfold InI;omega,?_⟩
 refine Jn2.mk (fun k a=>k.size<=100/\DS list a) (Qo hD (by decide) fun r a r0 r1 hD=>Cnd.mk (fun _=>⟨by decide,hD⟩) fun _=>⟨by decide,hD⟩) fun kind a hx=> ?_
 obtain ⟨hkd,hD⟩:=hx
 refine Jn2.mk (fun x a=>DS list a/\0<=x/\x<=10000) (Qo hD (by decide) fun r a r0 r1 hD=>Cnd.mk (fun _=>q61 hD (by decide) fun w a w0 w1 hD=>⟨hD,by omega,by omega⟩) fun _=>⟨hD,by omega,by omega⟩) fun hold a hx=> ?_
 obtain ⟨hD,x0,x1⟩:=hx
 have ok: ∀{cs:List Col},cs.length<=3->(∀c∈cs,0<=c.lo/\c.hi<=10000/\0<=c.until_/\c.until_<=200)->LayS (Lay_.mk key kind t hold (c*50) cs):=fun h1 h2=>⟨hk,hkd,tt _ ht,⟨x0,x1⟩,⟨by simp only;omega,by simp only;omega⟩,h1,h2⟩
 refine Lp4.ind (fun at_ i cs a=>DS list a/\0<=i/\i<=2/\(cs.length:Int)=i/\0<=at_/\at_<=10000/\ ∀c∈cs,0<=c.lo/\c.hi<=10000/\0<=c.until_/\c.until_<=200) (fun _ i _ _=>(2 - i).toNat) ?_ ⟨hD,by omega,by omega,rfl,by omega,by omega,by simp⟩
 rintro at_ i cs a ⟨hD,i0,i1,hl,a0,a1,hc⟩
 refine Qo hD (by decide) fun q a q0 q1 hD=>Cnd.mk (fun _=>q61 hD (by decide) fun w a w0 w1 hD=>⟨by unfold InI;omega,by unfold InI;omega,q61 hD (by decide) fun w' a w0' w1' hD=>⟨by unfold InI;omega,Cnd.mk (fun _=>h _ _ (ok (by omega) hc) rfl hD) fun _=> ?_⟩⟩) fun _=>h _ _ (ok (by omega) hc) rfl hD
 refine Qo hD (by decide) fun u a u0 u1 hD=>⟨by unfold Sml;simp;omega,by unfold InI;omega,⟨hD,by omega,by omega,by simp;omega,by omega,by omega,W8 hc ⟨by simp only;omega,by simp only;omega,by simp only;omega,by simp only;omega⟩⟩,by omega⟩
structure SpsS (l:List Spn):Prop where
 len:l.length<=10000
 all: ∀s∈l,0<=s.lo/\s.lo<s.hi/\s.hi<=10000
structure RulS (n:Int) (r:Rul):Prop where
 name:r.name.size<=100
 cond:ExS 4 r.cond
 serve:SrvS n r.serve
structure FlgS (f:Flg):Prop where
 key:f.key.size<=100
 vlen:1<=f.variations.length/\f.variations.length<=4
 vals: ∀v∈f.variations,ValS v
 nlen:f.needs.length<=4
 needs: ∀q∈f.needs,q.flag.size<=100
 tlen:f.targets.length<=3
 tgts: ∀t∈f.targets,t.kind.size<=100
 rlen:f.rules.length<=4
 rules: ∀r∈f.rules,RulS f.variations.length r
 dflt:SrvS f.variations.length f.dflt
structure ExpS (x:Exper):Prop where
 key:x.key.size<=100
 layer:x.layer.size<=100
 flag:x.flag.size<=100
 claims:SpsS x.claims
 arms:SplS 4 x.arms
 cond:ExS 4 x.cond
structure EnvS (v:Envt):Prop where
 hkind:v.settings.holdoutKind.size<=100
 attrs: ∀d∈v.attributes,d.kind.size<=100/\d.name.size<=100
 slen:v.segments.length<=3
 segs: ∀g∈v.segments,SegS g
 flen:v.flags.length<=4
 flags: ∀f∈v.flags,FlgS f
 llen:v.layers.length<=2
 layers: ∀l∈v.layers,LayS l
 xlen:v.experiments.length<=3
 exps: ∀x∈v.experiments,ExpS x
end Go.En
end
noncomputable section
set_option maxRecDepth 100000
namespace Go.En
open Go Go.Fl Go.Fl.Lk Go.Fx
abbrev S4:=Int×Int×Int×Int
def w64 (x:Int):Int:=Go.IntKind.u64.wrap x
def xr (a b:Int):Int:=Go.IntKind.u64.wrap ((BitVec.ofInt 64 a ^^^ BitVec.ofInt 64 b).toNat:Int)
def rot (x n:Int):Int:=Go.IntKind.u64.wrap ((BitVec.ofInt 64 (Go.IntKind.u64.wrap (x*2 ^ Min.min n.toNat 64))|||BitVec.ofInt 64 (x.fdiv (2 ^ Min.min (Go.IntKind.u64.wrap (64 - n)).toNat 64))).toNat:Int)
def rnd (s:S4):S4:=
  (w64 (rot (w64 (s.1+s.2.1)) 32+xr (rot s.2.2.2 16) (w64 (s.2.2.1+s.2.2.2))),
   xr (rot (xr (rot s.2.1 13) (w64 (s.1+s.2.1))) 17) (w64 (w64 (s.2.2.1+s.2.2.2)+xr (rot s.2.1 13) (w64 (s.1+s.2.1)))),
   rot (w64 (w64 (s.2.2.1+s.2.2.2)+xr (rot s.2.1 13) (w64 (s.1+s.2.1)))) 32,
   xr (rot (xr (rot s.2.2.2 16) (w64 (s.2.2.1+s.2.2.2))) 21) (w64 (rot (w64 (s.1+s.2.1)) 32+xr (rot s.2.2.2 16) (w64 (s.2.2.1+s.2.2.2)))))
def rn:Nat->S4->S4
  |0,s=>s
  |k+1,s=>rnd (rn k s)
def tm (y:Int) (k:Nat):BitVec 64:=BitVec.ofInt 64 (Go.IntKind.u64.wrap (Go.IntKind.u64.wrap y*2 ^ Min.min (8*k) 64))
def wv (b:List Int) (o:Nat) (v:BitVec 64):Nat->BitVec 64
  |0=>v
  |k+1=>wv b o v k|||tm (b.getD (o+k) 0) k
def s0 (k0 k1:Int):S4:=(xr k0 8317987319222330741,xr k1 7237128888997146477,xr k0 7816392313619706465,xr k1 8387220255154660723)
def topV (n:Nat):BitVec 64:=BitVec.ofInt 64 (Go.IntKind.u64.wrap (Go.IntKind.u64.wrap (n:Int)*2 ^ Min.min (Int.toNat 56) 64))
def u5z (b:List Int):BitVec 64:=wv b (8*(b.length / 8)) 0 (b.length % 8)|||topV b.length
theorem w5e (x:Int):Go.IntKind.u64.wrap x=x % 18446744073709551616:=rfl
theorem u9l (x:Int):Go.IntKind.u64.wrap x=((BitVec.ofInt 64 (Go.IntKind.u64.wrap x)).toNat:Int):=by
  rw [BitVec.toNat_ofInt,w5e]
  omega
theorem j4f {n:Nat} (h:n<18446744073709551616):Go.IntKind.u64.wrap (n:Int)=n:=by
  show (n:Int) % 18446744073709551616=n
  omega
theorem u17 (v:BitVec 64):BitVec.ofInt 64 ((v.toNat:Nat):Int)=v:=by simp
theorem u50 (v t:BitVec 64):Go.IntKind.u64.wrap ((BitVec.ofInt 64 ((v.toNat:Nat):Int)|||t).toNat:Int)=((v|||t).toNat:Int):=by
  rw [u17];exact j4f (v|||t).isLt
theorem j7a {x k:Int} {K:Int->Prop} (hk:k=13∨k=16∨k=17∨k=21∨k=32) (h:K (rot x k)):Uv x k K:=by
  have e:Go.IntKind.u64.wrap (↑(BitVec.ofInt 64 (Go.IntKind.u64.wrap k) &&& BitVec.ofInt 64 63).toNat:Int)=k:=by rcases hk with rfl|rfl|rfl|rfl|rfl<;>decide
  have e2:0<=Go.IntKind.u64.wrap (64 - k):=by rcases hk with rfl|rfl|rfl|rfl|rfl<;>decide
  unfold Uv
  rw [e]
  exact ⟨by omega,e2,h⟩
theorem z8k {x k:Int} {K:Int->Prop} (hk:k=13∨k=16∨k=17∨k=21∨k=32) (h:K (rot x k)):q9j x k K:=by
  have e2:0<=Go.IntKind.u64.wrap (64 - k):=by rcases hk with rfl|rfl|rfl|rfl|rfl<;>decide
  unfold q9j
  exact ⟨by omega,e2,h⟩
theorem u18 (s:S4) (i:Int) (h:0<=i):rnd (rn i.toNat s)=rn (i+1).toNat s:=by
  rw [show (i+1).toNat=i.toNat+1 by omega];rfl
theorem y7e {a b c d n:Int} {q:Nat} {K:Int->Int->Int->Int->Prop} (hn:n=(q:Int)) (h1:q<=1000) (h:K (rn q (a,b,c,d)).1 (rn q (a,b,c,d)).2.1 (rn q (a,b,c,d)).2.2.1 (rn q (a,b,c,d)).2.2.2):Zs a b c d n K:=by
  subst hn
  unfold Zs q1y
  refine Lp5.ind (fun i a' b' c' d'=>0<=i/\i<=(q:Int)/\(a',b',c',d')=rn i.toNat (a,b,c,d)) (fun i _ _ _ _=>((q:Int) - i).toNat) ?_ ⟨Int.le_refl 0,by omega,rfl⟩
  rintro i a' b' c' d' ⟨i0,i1,hs⟩
  refine Cnd.mk (fun hc=>j7a (by simp) (j7a (by simp) (j7a (by simp) (j7a (by simp) (j7a (by simp) (j7a (by simp) ⟨by unfold InI;omega,⟨by omega,by omega,?_⟩,by omega⟩)))))) fun hc=> ?_
  · rw [←u18 _ _ i0,←hs];simp only [rnd,w64,xr]
  · rw [show q=i.toNat by omega,←hs] at h;exact h
theorem v7d {v:Sip} {n:Int} {q:Nat} {K:Sip->Prop} (hn:n=(q:Int)) (h1:q<=1000) (h:K (Sip.mk (rn q (v.1,v.2,v.3,v.4)).1 (rn q (v.1,v.2,v.3,v.4)).2.1 (rn q (v.1,v.2,v.3,v.4)).2.2.1 (rn q (v.1,v.2,v.3,v.4)).2.2.2)):Jp v n K:=by
  subst hn
  unfold Jp q7a
  refine Lp5.ind (fun i a' b' c' d'=>0<=i/\i<=(q:Int)/\(a',b',c',d')=rn i.toNat (v.1,v.2,v.3,v.4)) (fun i _ _ _ _=>((q:Int) - i).toNat) ?_ ⟨Int.le_refl 0,by omega,rfl⟩
  rintro i a' b' c' d' ⟨i0,i1,hs⟩
  refine Cnd.mk (fun hc=>z8k (by simp) (z8k (by simp) (z8k (by simp) (z8k (by simp) (z8k (by simp) (z8k (by simp) ⟨by unfold InI;omega,⟨by omega,by omega,?_⟩,by omega⟩)))))) fun hc=> ?_
  · rw [←u18 _ _ i0,←hs];simp only [rnd,w64,xr]
  · rw [show q=i.toNat by omega,←hs] at h;exact h
theorem exR: ∃R:Nat->S4->S4,(∀(a b c d n:Int) (q:Nat) (K:Int->Int->Int->Int->Prop),n=(q:Int)->q<=1000->K (R q (a,b,c,d)).1 (R q (a,b,c,d)).2.1 (R q (a,b,c,d)).2.2.1 (R q (a,b,c,d)).2.2.2->Zs a b c d n K)/\
    ∀(v:Sip) (n:Int) (q:Nat) (K:Sip->Prop),n=(q:Int)->q<=1000->K (Sip.mk (R q (v.1,v.2,v.3,v.4)).1 (R q (v.1,v.2,v.3,v.4)).2.1 (R q (v.1,v.2,v.3,v.4)).2.2.1 (R q (v.1,v.2,v.3,v.4)).2.2.2)->Jp v n K:=
  ⟨rn,fun _ _ _ _ _ _ _ hn hq h=>y7e hn hq h,fun _ _ _ _ hn hq h=>v7d hn hq h⟩
def RR:Nat->S4->S4:=Classical.choose exR
theorem v7e {a b c d n:Int} {q:Nat} {K:Int->Int->Int->Int->Prop} (hn:n=(q:Int)) (h1:q<=1000) (h:K (RR q (a,b,c,d)).1 (RR q (a,b,c,d)).2.1 (RR q (a,b,c,d)).2.2.1 (RR q (a,b,c,d)).2.2.2):Zs a b c d n K:=(Classical.choose_spec exR).1 a b c d n q K hn h1 h
theorem w5f {v:Sip} {n:Int} {q:Nat} {K:Sip->Prop} (hn:n=(q:Int)) (h1:q<=1000) (h:K (Sip.mk (RR q (v.1,v.2,v.3,v.4)).1 (RR q (v.1,v.2,v.3,v.4)).2.1 (RR q (v.1,v.2,v.3,v.4)).2.2.1 (RR q (v.1,v.2,v.3,v.4)).2.2.2)):Jp v n K:=(Classical.choose_spec exR).2 v n q K hn h1 h
def wds (s:S4) (m:Int):S4:=(xr (RR 2 (s.1,s.2.1,s.2.2.1,xr s.2.2.2 m)).1 m,(RR 2 (s.1,s.2.1,s.2.2.1,xr s.2.2.2 m)).2)
def blks (b:List Int) (k0 k1:Int):Nat->S4
  |0=>s0 k0 k1
  |i+1=>wds (blks b k0 k1 i) ((wv b (8*i) 0 8).toNat:Int)
def fin4 (s:S4):S4:=RR 4 (s.1,s.2.1,xr s.2.2.1 255,s.2.2.2)
def endV (s:S4):Int:=xr (xr (xr (fin4 s).1 (fin4 s).2.1) (fin4 s).2.2.1) (fin4 s).2.2.2
def sumV (k0 k1:Int) (b:List Int):Int:=
  endV (wds (blks b k0 k1 (b.length / 8)) ((u5z b).toNat:Int))
theorem u19 {a b c d m:Int} {K:Int->Int->Int->Int->Prop} (h:K (wds (a,b,c,d) m).1 (wds (a,b,c,d) m).2.1 (wds (a,b,c,d) m).2.2.1 (wds (a,b,c,d) m).2.2.2):Gn a b c d m K:=by
  unfold Gn q32
  simp only [wds,xr] at h
  exact v7e (q:=2) rfl (by decide) h
theorem u9m {s:S4} {K:Int->Prop} (h:K (endV s)):Zs s.1 s.2.1 (Go.IntKind.u64.wrap (↑(BitVec.ofInt 64 s.2.2.1 ^^^ BitVec.ofInt 64 255).toNat:Int)) s.2.2.2 4 fun Zp z7t u7n x6_3=>K (Go.IntKind.u64.wrap (↑(BitVec.ofInt 64 (Go.IntKind.u64.wrap (↑(BitVec.ofInt 64 (Go.IntKind.u64.wrap (↑(BitVec.ofInt 64 Zp ^^^ BitVec.ofInt 64 z7t).toNat:Int)) ^^^ BitVec.ofInt 64 u7n).toNat:Int)) ^^^ BitVec.ofInt 64 x6_3).toNat:Int)):=by
  simp only [endV,fin4,xr] at h
  exact v7e (q:=4) rfl (by decide) h
theorem u2a {s:S4} {K:Int->Prop} (h:K (endV s)):Jp (Sip.mk s.1 s.2.1 (Go.IntKind.u64.wrap (↑(BitVec.ofInt 64 s.2.2.1 ^^^ BitVec.ofInt 64 255).toNat:Int)) s.2.2.2) 4 fun x=>K (Go.IntKind.u64.wrap (↑(BitVec.ofInt 64 (Go.IntKind.u64.wrap (↑(BitVec.ofInt 64 (Go.IntKind.u64.wrap (↑(BitVec.ofInt 64 x.1 ^^^ BitVec.ofInt 64 x.2).toNat:Int)) ^^^ BitVec.ofInt 64 x.3).toNat:Int)) ^^^ BitVec.ofInt 64 x.4).toNat:Int)):=by
  simp only [endV,fin4,xr] at h
  exact w5f (q:=4) rfl (by decide) h
theorem u2b {a b c d m:Int} {K:Sip->Prop} (h: ∀x:Sip,(Go.IntKind.u64.wrap (↑(BitVec.ofInt 64 x.1 ^^^ BitVec.ofInt 64 m).toNat:Int),x.2,x.3,x.4)=wds (a,b,c,d) m->K x):Jp (Sip.mk a b c (Go.IntKind.u64.wrap (↑(BitVec.ofInt 64 d ^^^ BitVec.ofInt 64 m).toNat:Int))) 2 K:=by
  refine w5f (q:=2) rfl (by decide) (h _ ?_)
  simp only [wds,xr]
theorem qa1y (b:List Int) (o:Nat) (v:BitVec 64): ∀k,wv b o v k=wv b o 0 k|||v
  |0=>by simp [wv]
  |k+1=>by
    rw [wv,wv,qa1y b o v k,BitVec.or_assoc,BitVec.or_comm v,←BitVec.or_assoc]
theorem y1u {b:List Int} {o k:Nat} {v:BitVec 64} {y:Int} (hy:b[o+k]? =some y):wv b o v (k+1)=wv b o v k|||tm y k:=by
  rw [wv,List.getD_eq_getElem?_getD,hy];rfl
theorem u9n (n:Nat):topV n=BitVec.ofInt 64 (Go.IntKind.u64.wrap (Go.IntKind.u64.wrap ((n:Int).tmod 256)*2 ^ Min.min (Int.toNat 56) 64)):=by
  have e:(2:Int) ^ Min.min (Int.toNat 56) 64=72057594037927936:=by decide
  have h2:Go.IntKind.u64.wrap (Go.IntKind.u64.wrap (n:Int)*72057594037927936)=Go.IntKind.u64.wrap (Go.IntKind.u64.wrap ((n:Int).tmod 256)*72057594037927936):=by
    rw [w5e,w5e,w5e,w5e,Int.tmod_eq_emod_of_nonneg (by omega)]
    omega
  unfold topV
  rw [e,h2]
theorem v2y {k0 k1:Int} {b:List Int} {K:Int->Prop} (hb:b.length<=1099511627776) (h:K (sumV k0 k1 b)):q6v k0 k1 b K:=by
  unfold q6v z52
  refine fun _=>⟨by decide,?_⟩
  refine Lp5.ind (fun i a' b' c' d'=> ∃j:Nat,i=8*(j:Int)/\8*j<=b.length/\(a',b',c',d')=blks b k0 k1 j) (fun i _ _ _ _=>(b.length - i).toNat) ?_ ⟨0,rfl,by omega,rfl⟩
  rintro i a' b' c' d' ⟨j,rfl,hj,hs⟩
  refine ⟨by unfold InI;omega,fun _=>Cnd.mk (fun hc=> ?_) fun hc=> ?_⟩
  · refine Lp2.ind (fun v k=> ∃q:Nat,k=(q:Int)/\q<=8/\v=((wv b (8*j) 0 q).toNat:Int)) (fun _ k=>(8 - k).toNat) ?_ ⟨0,rfl,by omega,rfl⟩
    rintro v k ⟨q,rfl,hq,rfl⟩
    refine Cnd.mk (fun hk=>⟨by unfold InI;omega,⟨by omega,by omega⟩,fun y hy=>⟨by unfold InI;omega,by omega,by unfold InI;omega,⟨q+1,by omega,by omega,?_⟩,by omega⟩⟩) fun hk=> ?_
    · rw [show (8*(j:Int)+q).toNat=8*j+q by omega] at hy
      rw [y1u hy,show (8*(q:Int)).toNat=8*q by omega]
      exact u50 _ _
    · refine u19 ⟨by unfold InI;omega,⟨j+1,by omega,by omega,?_⟩,by omega⟩
      rw [hs,show q=8 by omega];rfl
  · refine fun _=>⟨by decide,?_⟩
    have hjl:j=b.length / 8:=by omega
    have hm:((b.length:Nat):Int).tmod 8=((b.length % 8:Nat):Int):=by rw [Int.tmod_eq_emod_of_nonneg (by omega)];omega
    rw [hm]
    refine Lp2.ind (fun v k=> ∃q:Nat,k=(q:Int)/\q<=b.length % 8/\v=((wv b (8*j) (topV b.length) q).toNat:Int)) (fun _ k=>(8 - k).toNat) ?_ ⟨0,rfl,by omega,by unfold wv topV;exact u9l _⟩
    rintro v k ⟨q,rfl,hq,rfl⟩
    refine Cnd.mk (fun hk _ _=>⟨by decide,by unfold InI;omega,by unfold InI;omega,⟨by omega,by omega⟩,fun y hy=>⟨by unfold InI;omega,by omega,by unfold InI;omega,⟨q+1,by omega,by omega,?_⟩,by omega⟩⟩) fun hk=> ?_
    · rw [show ((b.length:Int) - ((b.length % 8:Nat):Int)+q).toNat=8*j+q by omega] at hy
      rw [y1u hy,show (8*(q:Int)).toNat=8*q by omega]
      exact u50 _ _
    · refine u19 (u9m (s:=wds (a',b',c',d') _) ?_)
      rw [hs,show q=b.length % 8 by omega,qa1y,hjl]
      exact h
theorem u2c {k0 k1:Int} {b:List Int} {K:Int->Prop} (hb:b.length<=1099511627776) (h:K (sumV k0 k1 b)):j2s k0 k1 b K:=by
  unfold j2s v0m
  have hd:((b.length:Nat):Int).tdiv 8=((b.length / 8:Nat):Int):=by rw [Int.tdiv_eq_ediv_of_nonneg (by omega)];omega
  rw [hd]
  refine Lp5.ind (fun i a' b' c' d'=> ∃j:Nat,i=(j:Int)/\j<=b.length / 8+1/\(j<=b.length / 8->(a',b',c',d')=blks b k0 k1 j)/\(j=b.length / 8+1->(a',b',c',d')=wds (blks b k0 k1 (b.length / 8)) ((u5z b).toNat:Int))) (fun i _ _ _ _=>(b.length / 8+1 - i).toNat) ?_ ⟨0,rfl,by omega,fun _=>rfl,fun h=>by omega⟩
  rintro i a' b' c' d' ⟨j,rfl,hj,hs,hf⟩
  refine fun _=>⟨by decide,by unfold InI;omega,Cnd.mk (fun hc=> ?_) fun hc=> ?_⟩
  · have hs:=hs (by omega)
    have done: ∀q:Nat,(q=8∨q=b.length % 8/\j=b.length / 8)->q<=8->(j<b.length / 8->q=8)->(j=b.length / 8->q=b.length % 8)->Jn1 (fun Qk=>Jp (Sip.mk a' b' c' (Go.IntKind.u64.wrap (↑(BitVec.ofInt 64 d' ^^^ BitVec.ofInt 64 Qk).toNat:Int))) 2 fun Qy=>InI ((j:Int)+1)/\(∃j':Nat,(j:Int)+1=(j':Int)/\j'<=b.length / 8+1/\(j'<=b.length / 8->(Go.IntKind.u64.wrap (↑(BitVec.ofInt 64 Qy.1 ^^^ BitVec.ofInt 64 Qk).toNat:Int),Qy.2,Qy.3,Qy.4)=blks b k0 k1 j')/\(j'=b.length / 8+1->(Go.IntKind.u64.wrap (↑(BitVec.ofInt 64 Qy.1 ^^^ BitVec.ofInt 64 Qk).toNat:Int),Qy.2,Qy.3,Qy.4)=wds (blks b k0 k1 (b.length / 8)) ((u5z b).toNat:Int)))/\((b.length / 8:Nat)+1 - ((j:Int)+1)).toNat<((b.length / 8:Nat)+1 - (j:Int)).toNat) fun y71=>b.length<=(9223372036854775807:Nat)->(8:Int)≠0/\InI ((b.length / 8:Nat):Int)/\Cnd ((j:Int)=((b.length / 8:Nat):Int)) (b.length<=(9223372036854775807:Nat)->(256:Int)≠0/\(0:Int)<=56/\y71 (Go.IntKind.u64.wrap (↑(BitVec.ofInt 64 ((wv b (8*j) 0 q).toNat:Int)|||BitVec.ofInt 64 (Go.IntKind.u64.wrap (Go.IntKind.u64.wrap ((b.length:Int).tmod 256)*2 ^ Min.min (Int.toNat 56) 64))).toNat:Int))) (y71 ((wv b (8*j) 0 q).toNat:Int)):=fun q _ hq h1 h2=>by
      refine Jn1.mk (fun x=>(j<b.length / 8->x=((wv b (8*j) 0 8).toNat:Int))/\(j=b.length / 8->x=((u5z b).toNat:Int))) (fun _=>⟨by decide,by unfold InI;omega,Cnd.mk (fun he=>fun _=>⟨by decide,by decide,fun _=>by omega,fun hjl=> ?_⟩) fun hne=>⟨fun hl=>by rw [h1 hl],fun he=>by omega⟩⟩) fun x hx=>u2b fun s hsw=>⟨by unfold InI;omega,⟨j+1,by omega,by omega,fun hl=> ?_,fun he=> ?_⟩,by omega⟩
      · rw [←u9n,u50,h2 hjl,hjl];rfl
      · rw [hsw,hx.1 (by omega),blks,←hs]
      · rw [hsw,hx.2 (by omega),←show j=b.length / 8 by omega,←hs]
    refine Lp2.ind (fun v k=> ∃q:Nat,k=(q:Int)/\q<=8/\(j=b.length / 8->q<=b.length % 8)/\v=((wv b (8*j) 0 q).toNat:Int)) (fun _ k=>(8 - k).toNat) ?_ ⟨0,rfl,by omega,fun _=>by omega,rfl⟩
    rintro v k ⟨q,rfl,hq,hq2,rfl⟩
    refine Cnd.mk (fun hk=>⟨by unfold InI;omega,by unfold InI;omega,fun _=>Cnd.mk (fun hl=>⟨by unfold InI;omega,by unfold InI;omega,⟨by omega,by omega⟩,fun y hy=>⟨by unfold InI;omega,?_,by unfold InI;omega,⟨q+1,by omega,by omega,fun _=>by omega,?_⟩,by omega⟩⟩) fun hl=> ?_⟩) fun hk=> ?_
    · rw [show 8*(q:Int)=((8*q:Nat):Int) by omega,j4f (by omega)];omega
    · rw [show (8*(j:Int)+q).toNat=8*j+q by omega] at hy
      rw [y1u hy,show 8*(q:Int)=((8*q:Nat):Int) by omega,j4f (n:=8*q) (by omega),Int.toNat_natCast]
      exact u50 _ _
    · exact done q (by omega) hq (fun h=>by omega) (fun h=>by omega)
    · exact done q (by omega) hq (fun h=>by omega) (fun h=>by omega)
  · have hf:=hf (by omega)
    unfold sumV at h
    rw [←hf] at h
    exact u2a (s:=(a',b',c',d')) h
def fb (n k:Nat):Int:=Go.IntKind.u8.wrap ((Go.IntKind.u64.wrap (n:Int)).fdiv (2 ^ Min.min (8*k) 64))
def hdr (n:Nat) (j:Nat):List Int:=(List.range j).map fun i=>fb n (7 - i)
def frm (l:List (List Int)):List Int:=l.flatMap fun f=>hdr f.length 8++f
theorem y32 (n j:Nat):hdr n (j+1)=hdr n j++[fb n (7 - j)]:=by simp [hdr,List.range_succ]
theorem j10 (n j:Nat):(hdr n j).length=j:=by simp [hdr]
theorem w0z {l:List (List Int)} {i:Nat} {y:List Int} (hy:l[i]? =some y):frm (l.take (i+1))=frm (l.take i)++(hdr y.length 8++y):=by
  rw [List.take_add_one,hy];simp [frm]
theorem w5g (l:List (List Int)) (i:Nat):(frm (l.take i)).length<=(frm l).length:=by
  have h:frm l=frm (l.take i)++frm (l.drop i):=by
    conv=>lhs;rw [←List.take_append_drop i l]
    exact List.flatMap_append
  rw [h,List.length_append];omega
theorem w5h {l:List (List Int)} {K:List Int->Prop} (hl:(frm l).length<=1000000000) (hn:l.length<=1000) (h:K (frm l)):q16 l K:=by
  unfold q16
  refine fun _=>Lp2.ind (fun o i=> ∃j:Nat,i=(j:Int)/\j<=l.length/\o=frm (l.take j)) (fun _ i=>(l.length - i).toNat) ?_ ⟨0,rfl,by omega,rfl⟩
  rintro o i ⟨j,rfl,hj,rfl⟩
  refine Cnd.mk (fun hc=>⟨by omega,fun y hy=> ?_⟩) fun hc=> ?_
  · have hy:l[j]? =some y:=hy
    have hln:=w5g l (j+1)
    rw [w0z hy] at hln
    simp only [List.length_append,j10] at hln
    refine Lp2.ind (fun o k=> ∃q:Nat,k=7 - (q:Int)/\q<=8/\o=frm (l.take j)++hdr y.length q) (fun _ k=>(k+1).toNat) ?_ ⟨0,rfl,by omega,by simp [hdr]⟩
    rintro o k ⟨q,rfl,hq,rfl⟩
    refine Cnd.mk (fun hk _=>⟨by unfold InI;omega,by omega,?_,by unfold InI;omega,⟨q+1,by omega,by omega,?_⟩,by omega⟩) fun hk=>⟨?_,by unfold InI;omega,⟨j+1,by omega,by omega,?_⟩,by omega⟩
    · unfold Sml;simp only [List.length_append,j10,List.length_singleton];omega
    · rw [y32,←List.append_assoc,show (8*(7 - (q:Int))).toNat=8*(7 - q) by omega];rfl
    · unfold Sml;simp only [List.length_append,j10];omega
    · rw [w0z hy,show q=8 by omega,List.append_assoc]
  · rw [show j=l.length by omega,List.take_length];exact h
theorem y1v {l:List (List Int)} {K:List Int->Prop} (hl:(frm l).length<=1000000000) (hn:l.length<=1000) (h:K (frm l)):z19 l K:=by
  unfold z19
  refine Lp2.ind (fun o i=> ∃j:Nat,i=(j:Int)/\j<=l.length/\o=frm (l.take j)) (fun _ i=>(l.length - i).toNat) ?_ ⟨0,rfl,by omega,rfl⟩
  rintro o i ⟨j,rfl,hj,rfl⟩
  refine fun _=>Cnd.mk (fun hc=>⟨by omega,fun y hy _=> ?_⟩) fun hc=> ?_
  · have hy:l[j]? =some y:=hy
    have hln:=w5g l (j+1)
    rw [w0z hy] at hln
    simp only [List.length_append,j10] at hln
    refine Lp2.ind (fun o k=> ∃q:Nat,k=56 - 8*(q:Int)/\q<=8/\o=frm (l.take j)++hdr y.length q) (fun _ k=>(k+8).toNat) ?_ ⟨0,rfl,by omega,by simp [hdr]⟩
    rintro o k ⟨q,rfl,hq,rfl⟩
    refine Cnd.mk (fun hk=> ?_) fun hk=>⟨by omega,fun z hz=> ?_⟩
    · have e:56 - 8*(q:Int)=((8*(7 - q):Nat):Int):=by omega
      rw [e,j4f (by omega)]
      refine ⟨by omega,?_,by unfold InI;omega,⟨q+1,by omega,by omega,?_⟩,by omega⟩
      · unfold Sml;simp only [List.length_append,j10,List.length_singleton];omega
      · rw [y32,←List.append_assoc,Int.toNat_natCast];rfl
    · have hz:l[j]? =some z:=hz
      rw [hy] at hz
      cases hz
      refine ⟨?_,by unfold InI;omega,⟨j+1,by omega,by omega,?_⟩,by omega⟩
      · unfold Sml;simp only [List.length_append,j10];omega
      · rw [w0z hy,show q=8 by omega,List.append_assoc]
  · rw [show j=l.length by omega,List.take_length];exact h
theorem u2d (a b:Int):0<=xr a b/\xr a b<18446744073709551616:=by
  unfold xr
  rw [j4f (BitVec.isLt _)]
  have:=(BitVec.ofInt 64 a ^^^ BitVec.ofInt 64 b).isLt
  omega
def ofV0 (salt key:ByteArray):Int:=(sumV 1 0 (frm [bytesOf salt,bytesOf key])).tmod 10000
theorem v2z (salt key:ByteArray):0<=ofV0 salt key/\ofV0 salt key<10000:=by
  have h: ∀s,0<=endV s:=fun s=>(u2d _ _).1
  have h0:0<=sumV 1 0 (frm [bytesOf salt,bytesOf key]):=h _
  exact ⟨Int.tmod_nonneg _ h0,Int.tmod_lt_of_pos _ (by decide)⟩
theorem y33 (a b:ByteArray):(frm [bytesOf a,bytesOf b]).length=a.size+b.size+16:=by
  have h: ∀a:ByteArray,(bytesOf a).length=a.size:=fun a=>by simp [bytesOf]
  simp only [frm,List.flatMap_cons,List.flatMap_nil,List.length_append,j10,h,List.length_nil]
  omega
theorem v22 {salt key:ByteArray} {K:Int->Prop} (hs:salt.size<=10000000) (hk:key.size<=10000000) (h:K (ofV0 salt key)):Rk salt key K:=by
  have hl:=y33 salt key
  have hr:=v2z salt key
  unfold Rk j0q
  refine ⟨by unfold Sml;omega,by unfold Sml;omega,?_⟩
  show q33 1 [bytesOf salt,bytesOf key] _
  unfold q33 z3k
  refine w5h (by omega) (by simp) (v2y (by omega) ⟨by decide,?_,h⟩)
  exact InI.mk (Int.le_trans (by decide) hr.1) (Int.le_trans (Int.le_of_lt hr.2) (by decide))
theorem y7f {salt key:ByteArray} {K:Int->Prop} (hs:salt.size<=10000000) (hk:key.size<=10000000) (h:K (ofV0 salt key)):z3r salt key K:=by
  have hl:=y33 salt key
  have hr:=v2z salt key
  unfold z3r v0n
  refine ⟨by unfold Sml;omega,by unfold Sml;omega,?_⟩
  show z57 1 [bytesOf salt,bytesOf key] _
  unfold z57 w2s
  refine y1v (by omega) (by simp) (u2c (by omega) ⟨by decide,?_,h⟩)
  exact InI.mk (Int.le_trans (by decide) hr.1) (Int.le_trans (Int.le_of_lt hr.2) (by decide))
theorem exOf: ∃F:ByteArray->ByteArray->Int,(∀a b,0<=F a b/\F a b<10000)/\(∀(salt key:ByteArray) (K:Int->Prop),salt.size<=10000000->key.size<=10000000->K (F salt key)->Rk salt key K)/\
    ∀(salt key:ByteArray) (K:Int->Prop),salt.size<=10000000->key.size<=10000000->K (F salt key)->z3r salt key K:=
  ⟨ofV0,v2z,fun _ _ _ h1 h2 h=>v22 h1 h2 h,fun _ _ _ h1 h2 h=>y7f h1 h2 h⟩
def ofV:ByteArray->ByteArray->Int:=Classical.choose exOf
theorem y1w (salt key:ByteArray):0<=ofV salt key/\ofV salt key<10000:=(Classical.choose_spec exOf).1 salt key
theorem z7i {salt key:ByteArray} {K:Int->Prop} (hs:salt.size<=10000000) (hk:key.size<=10000000) (h:K (ofV salt key)):Rk salt key K:=(Classical.choose_spec exOf).2.1 salt key K hs hk h
theorem u2e {salt key:ByteArray} {K:Int->Prop} (hs:salt.size<=10000000) (hk:key.size<=10000000) (h:K (ofV salt key)):z3r salt key K:=(Classical.choose_spec exOf).2.2 salt key K hs hk h
end Go.En
end
