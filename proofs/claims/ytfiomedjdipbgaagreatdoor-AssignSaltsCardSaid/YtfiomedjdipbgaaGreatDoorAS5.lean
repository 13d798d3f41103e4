/- AssignSalts: for every input the law returns true and leaves its arguments as they were. This is part 5 of 7. Conditions: those in the statements. -/
import Derived.Test.YtfiomedjdipbgaaGreatDoorAS4
import Derived.KernelRfl
import Derived.Conc.MuLone
noncomputable section
set_option maxRecDepth 100000
namespace Go.Proofs.YtfiomedjdipbgaaGreatDoor
open Go Go.Proofs Go.RowKit Go.Fl
set_option maxHeartbeats 2000000 in
theorem q5m {σ:Hv} {w:World} (s_p:(List ByteArray)) (v1:Value) {K:(List ByteArray)->Prop} (hV:View σ w) (hr1:RSl 1 (REnc Qp) σ v1 s_p) (hP:Z6 s_p K):
    Calls Tryz.prog 187 #[v1] w (fun e w1=> ∃(r1:(List ByteArray)) (v2:Value),e= .returned v2/\St ⟨w,σ,[]⟩ w1 σ [vec v2 9 1 r1.length ((r1).flatMap Qp)]/\Sml r1.length/\K r1):=by
 unfold Z6 at hP
 obtain ⟨a1,cap1,rfl⟩:=hr1.shape
 refine enter Tryz.func187 rfl rfl rfl ?_
 have hS:=St.start hV
 refine Q8 (Q9 (v:=(.slice none 0 0)) rfl (wpList_nil (Q3 (wp_seq (Q8 (Zu (v:=(.slice a1 s_p.length cap1)) rfl ?_))))))
 replace hP:=hP a1.isNone (RSl.isNil hr1)
 obtain ⟨r1_,hn1⟩: ∃r:Bool,a1.isNone=r:=⟨_,rfl⟩
 rw [hn1] at hP
 refine u32 Tryz.underlying44 rfl hn1 (wpList_nil (Q3 ?_))
 refine if_b rfl (fun ht1=> ?_) (fun ht1=> ?_)
 ·
  replace hP:=hP.1 ht1
  refine Q8 (Q9 (v:=(.slice none 0 0)) rfl (wpList_nil (Q3 (wp_ret (q1v (ret1 rfl (show ev _ _ _=(.slice none 0 0) from rfl) ?_))))))
  have hS1:=hS.addNil 9 1
  exact ⟨[],(.slice none 0 0),rfl,(St.back hS1 (Sub.refl _)),(by simp [Sml]),hP⟩
 ·
  replace hP:=hP.2 (by first|(rw [ht1];exact Bool.false_ne_true)|simp [ht1])
  refine wp_skip (Q3 (Q8 (j96 (cs:=[]) (e:=9) hS (fun _=>by kernel_rfl) ?_)))
  intro b1 w1 hS2
  refine Zu (v:=(.slice a1 s_p.length cap1)) rfl ?_
  have hS3:=hS2.asVec (i:=0) (ms':=[vec (.slice (some ⟨b1,0,none⟩) 0 0) 9 1 0 []]) (size:=1) rfl rfl (by unfold maxLen;omega) rfl
  obtain ⟨hsm1,hP⟩:=hP
  refine qa0w (enc:=Qp) (l:=s_p) (Ms:=fun v3=>[vec v3 9 1 s_p.length ((s_p).flatMap Qp)]) (k':=s_p.length) (xs':=(s_p).flatMap Qp) Tryz.underlying44 Tryz.type9 rfl rfl (bytes:=16) rfl rfl (Nat.succ_pos _) hS3 rfl (q:=0) rfl rfl hr1 hS3.view q6j y8a hsm1 (by omega) (by first|rfl|exact List.length_append.symm|simp) (List.nil_append _) (fun _=>rfl) ?_
  intro v3 w2 ho1 hS4
  refine Q9 (v:=v3) rfl (wpList_nil (Q3 (wp_ret (ret1 rfl (show ev _ _ _=v3 from rfl) ?_))))
  exact ⟨s_p,v3,rfl,(St.back hS4 (Sub.refl _)),hsm1,hP⟩
set_option maxHeartbeats 2000000 in
theorem q5n {σ:Hv} {w:World} (s_p:(List ByteArray)) (v_p:ByteArray) (v1:Value) {K:Int->Prop} (hV:View σ w) (hr1:RSl 1 (REnc Qp) σ v1 s_p) (hP:Z7 s_p v_p K):
    Calls Tryz.prog 128 #[v1,(.string v_p)] w (fun e w1=> ∃(r1:Int),e= .returned (.int .i64 r1)/\Grow [] σ w σ w1/\K r1):=by
 unfold Z7 at hP
 obtain ⟨a1,cap1,rfl⟩:=hr1.shape
 refine enter Tryz.func128 rfl rfl rfl ?_
 have hS:=St.start hV
 refine Q8 (Q9 (v:=(.int .i64 (0:Int))) rfl (wpList_nil (Q3 (wp_seq (Q8 (Zu (v:=(.slice a1 s_p.length cap1)) rfl (z22 rfl Tryz.underlying44 ?_)))))))
 have hlen1:=RSl.len63 hr1
 replace hP:=hP hlen1
 refine Zu (v:=(.int .i64 (0:Int))) rfl (wpList_nil (Q3 (wp_block ?_)))
 refine w9o (fun k_2 f z=> ∃(σ1:Hv) (g:Fr),f=(upd (upd (upd (upd g 0 (.slice a1 s_p.length cap1)) 1 (.string v_p)) 7 (.int .i64 ((s_p.length:Nat):Int))) 8 (.int .i64 ((k_2:Nat):Int)))/\St ⟨w,σ,[]⟩ z σ1 []/\Sub σ σ1) hP ⟨σ,_,(Jl rfl (Jl rfl (Jl rfl (Jl rfl rfl)))),hS,(Sub.refl _)⟩ ?_
 clear hP
 rintro k_2 Y1 hP f w1 ⟨σ1,g,rfl,hS1,hsub1⟩
 refine Q8 (y7z (r:=(decide (((k_2:Nat):Int)<((s_p.length:Nat):Int)))) rfl rfl rfl (wpList_nil (Q3 (wp_seq ?_))))
 refine if_d (((k_2:Nat):Int)<((s_p.length:Nat):Int)) rfl (fun ht1=> ?_) (fun ht1=> ?_)
 ·
  replace hP:=hP.1 ht1
  refine wp_skip (Q3 (wp_seq (wp_block (Q8 (Zu (v:=(.int .i64 ((k_2:Nat):Int))) rfl (Q9 (v:=(.int .i64 ((k_2:Nat):Int))) rfl (wpList_nil (Q3 (Q8 (Zu (v:=(.string v_p)) rfl (Zu (v:=(.slice a1 s_p.length cap1)) rfl (Zu (v:=(.int .i64 ((k_2:Nat):Int))) rfl ?_))))))))))))
  obtain ⟨x1_,hx1⟩:=getq (l:=s_p) (k:=k_2) (by have:=ht1;omega)
  replace hP:=hP x1_ hx1
  obtain ⟨ad1,cs1,ha1,hl1,hr2,hR1,hlt1⟩:=RSl.at hr1 hx1
  cases hR1
  refine q0t (k:=k_2) (a':=(ad1.add (k_2*1))) (congrArg (fun z=>Value.slice z _ _) ha1) rfl rfl hlt1 Tryz.underlying44 Tryz.sizeOf9 rfl (q8o (v:=(.string x1_)) rfl Tryz.isAgg9 (hr2.cell (View.of hsub1 hS1.view) 0 rfl rfl) (qa0n (r:=(decide (v_p=x1_))) rfl rfl rfl (wpList_nil (Q3 ?_))))
  refine if_d (v_p=x1_) rfl (fun ht2=> ?_) (fun ht2=> ?_)
  ·
   replace hP:=hP.1 ht2
   refine Q8 (Zu (v:=(.int .i64 ((k_2:Nat):Int))) rfl (Q9 (v:=(.int .i64 ((k_2:Nat):Int))) rfl (wpList_nil (Q3 (wp_ret (j78 (q1v (q1v (j78 (q1v (ret1 rfl (show ev _ _ _=(.int .i64 ((k_2:Nat):Int)) from rfl) ?_)))))))))))
   exact ⟨((k_2:Nat):Int),rfl,hS1.done.forget,hP⟩
  ·
   replace hP:=hP.2 ht2
   refine wp_skip (y4f (Q3 (j4l (y4e (r:=((k_2+1:Nat):Int)) rfl rfl (nw (by omega) (by omega) (by have:=hlen1;omega)) (Zu (v:=(.int .i64 ((k_2+1:Nat):Int))) rfl (wpList_nil (Q3 ?_)))))))
   exact ⟨k_2+1,_,rfl,hP,σ1,_,(Jl rfl (Jl rfl (Jl rfl (Jl rfl rfl)))),hS1,hsub1⟩
 ·
  replace hP:=hP.2 ht1
  refine wp_exit (z86 (z86 (w0x (Q3 (Q8 (Q9 (v:=(.int .i64 (-1:Int))) rfl (wpList_nil (Q3 (wp_ret (ret1 rfl (show ev _ _ _=(.int .i64 (-1:Int)) from rfl) ?_))))))))))
  exact ⟨(-1:Int),rfl,hS1.done.forget,hP⟩
set_option maxHeartbeats 2000000 in
theorem U0 {σ:Hv} {w:World} (s_p:(List ByteArray)) (v_p:ByteArray) (v1:Value) {K:Bool->Prop} (hV:View σ w) (hr1:RSl 1 (REnc Qp) σ v1 s_p) (hP:Ze s_p v_p K):
    Calls Tryz.prog 76 #[v1,(.string v_p)] w (fun e w1=> ∃(r1:Bool),e= .returned (.bool (r1))/\Grow [] σ w σ w1/\K r1):=by
 unfold Ze at hP
 obtain ⟨a1,cap1,rfl⟩:=hr1.shape
 refine enter Tryz.func76 rfl rfl rfl ?_
 have hS:=St.start hV
 refine Q8 (Q9 (v:=(.bool false)) rfl (wpList_nil (Q3 (Q8 (Zu (v:=(.slice a1 s_p.length cap1)) rfl (Zu (v:=(.string v_p)) rfl ?_))))))
 obtain ⟨Y1,hK1,hc1⟩:=hP
 refine z0b (args:=[(.slice a1 s_p.length cap1),(.string v_p)]) rfl Tryz.call128 (Calls.mono (q5n s_p v_p (.slice a1 s_p.length cap1) hS.view hr1 hc1) ?_)
 rintro _ w1 ⟨r1_,rfl,hg1,hY1⟩
 refine ⟨_,rfl,?_⟩
 have hS1:=hS.grow hg1
 replace hP:=hK1 r1_ hY1
 refine qa0m (r:=(decide ((0:Int)<=r1_))) rfl rfl rfl (Q9 (v:=(.bool (decide ((0:Int)<=r1_)))) rfl (wpList_nil (Q3 (wp_ret (ret1 rfl (show ev _ _ _=(.bool (decide ((0:Int)<=r1_))) from rfl) ?_)))))
 exact ⟨(decide ((0:Int)<=r1_)),rfl,hS1.done.forget,hP⟩
set_option maxHeartbeats 2000000 in
theorem w_graph_Order {σ:Hv} {w:World} (nodes_p:(List ByteArray)) (edges_p:(List (ByteArray×ByteArray))) (v1:Value) (v2:Value) {K:(List ByteArray)->Int->Prop} (hV:View σ w) (hr1:RSl 1 (REnc Qp) σ v1 nodes_p) (hr2:RSl 2 (REnc qa0x) σ v2 edges_p) (hP:P_graph_Order nodes_p edges_p K):
    Calls Tryz.prog 139 #[v1,v2] w (fun e w1=> ∃(r1:(List ByteArray)) (r2:Int) (v3:Value),e= .returned (.tuple #[v3,(.int .i64 r2)])/\St ⟨w,σ,[]⟩ w1 σ [vec v3 9 1 r1.length ((r1).flatMap Qp)]/\Sml r1.length/\K r1 r2):=by
 unfold P_graph_Order at hP
 obtain ⟨a1,cap1,rfl⟩:=hr1.shape
 obtain ⟨a2,cap2,rfl⟩:=hr2.shape
 refine enter Tryz.func139 rfl rfl rfl ?_
 have hS:=St.start hV
 refine Q8 (Q9 (v:=(.slice none 0 0)) rfl (Q9 (v:=(.int .i64 (0:Int))) rfl (wpList_nil (Q3 (Q8 (Zu (v:=(.slice a1 nodes_p.length cap1)) rfl (z0b (args:=[(.slice a1 nodes_p.length cap1)]) rfl Tryz.call186 ?_)))))))
 refine enter Tryz.func186 rfl rfl rfl ?_
 refine Q8 (qa2w (cs:=[(.slice a1 nodes_p.length cap1)]) hS rfl rfl ?_)
 intro b1 w1 hS1
 refine Q9 (v:= .nilFunc) rfl (wpList_nil (Q3 (Q8 (j4m (la:=[]) (lb:=[(.pointer (some ⟨b1,0,none⟩))]) rfl rfl (Q9 (v:=(.func (.func 237) #[] #[(.pointer (some ⟨b1,0,none⟩))])) rfl (wpList_nil (Q3 (wp_ret (ret1 rfl (show ev _ _ _=(.func (.func 237) #[] #[(.pointer (some ⟨b1,0,none⟩))]) from rfl) ?_)))))))))
 refine ⟨_,rfl,?_⟩
 refine z0b (args:=[(.func (.func 237) #[] #[(.pointer (some ⟨b1,0,none⟩))])]) rfl Tryz.call185 ?_
 refine enter Tryz.func185 rfl rfl rfl ?_
 refine Q8 (Q9 (v:=(.slice none 0 0)) rfl (wpList_nil (Q3 (Q8 (Zu (v:=(.func (.func 237) #[] #[(.pointer (some ⟨b1,0,none⟩))])) rfl (z0b (args:=[(.func (.func 237) #[] #[(.pointer (some ⟨b1,0,none⟩))])]) rfl Tryz.call236 ?_))))))
 refine enter Tryz.func236 rfl rfl rfl ?_
 refine Q8 (Q9 (v:=(.slice none 0 0)) rfl (wpList_nil (Q3 (Q8 (Zu (v:=(.func (.func 237) #[] #[(.pointer (some ⟨b1,0,none⟩))])) rfl ?_)))))
 obtain ⟨σ1,hS2,hsub1,hfr1⟩:=hS1.freeze' (i:=0) rfl rfl
 have hB1:σ1 b1=some (.cells #[(.slice a1 nodes_p.length cap1)] 44 (0,0)):=(hfr1 _ rfl).trans (hS1.get (i:=0) rfl)
 obtain ⟨hsm1,hP⟩:=hP
 refine z0b (args:=[(.slice none 0 0),(.func (.func 237) #[] #[(.pointer (some ⟨b1,0,none⟩))])]) rfl Tryz.call274 (Calls.mono (qa3l b1 (.slice a1 nodes_p.length cap1) nodes_p hS2.view hB1 (RSl.menc hsub1 hr1) hsm1) ?_)
 rintro _ w2 ⟨v4,rfl,hg1,ho1⟩
 refine ⟨_,rfl,?_⟩
 have hS3:=hS2.growAdd hg1 (o:=vec v4 9 1 nodes_p.length ((nodes_p).flatMap Qp)) ho1
 refine Q9 (v:=v4) rfl (wpList_nil (Q3 (wp_ret (ret1 rfl (show ev _ _ _=v4 from rfl) ?_))))
 refine ⟨_,rfl,?_⟩
 refine Q9 (v:=v4) rfl (wpList_nil (Q3 (Q8 (Zu (v:=v4) rfl ?_))))
 refine z0b (args:=[v4]) rfl Tryz.call80 (Calls.mono (y2s Tryz.slices_Sort_string Tryz.slices_Sort_string_none hS3.view (hS3.get (i:=0) rfl) rfl (fun b hb=>hS3.off _ (List.mem_of_getElem? (i:=0) rfl) b hb) (by have:=hsm1;unfold Sml at this;omega)) ?_)
 rintro _ w3 ⟨rfl,hg2,ho2⟩
 refine ⟨_,rfl,?_⟩
 have hS4:=hS3.growV (i:=0) (o':=vec v4 9 1 nodes_p.length ((srt nodes_p).flatMap Qp)) rfl hg2 rfl ho2 (ms':=[vec v4 9 1 nodes_p.length ((srt nodes_p).flatMap Qp)]) rfl
 have hS5:=hS4.re (ms':=[vec v4 9 1 ((srt nodes_p).length) ((srt nodes_p).flatMap Qp)]) (by simp only [W7])
 refine wpList_nil (Q3 (Q8 (Zu (v:=v4) rfl (Q9 (v:=v4) rfl (wpList_nil (Q3 (wp_ret (ret1 rfl (show ev _ _ _=v4 from rfl) ?_))))))))
 refine ⟨_,rfl,?_⟩
 refine Q9 (v:=v4) rfl (wpList_nil (Q3 (wp_seq (Q8 (Zu (v:=v4) rfl ?_)))))
 obtain ⟨σ2,hS6,hsub2,hr4⟩:=hS5.peek (i:=0) rfl q6j (show Sml (srt nodes_p).length by rw [W7];exact hsm1)
 obtain ⟨Y1,hK1,hc1⟩:=hP
 refine z0b (args:=[v4]) rfl Tryz.call187 (Calls.mono (q5m (srt nodes_p) v4 hS6.view hr4 hc1) ?_)
 rintro _ w4 ⟨r1_,v5,rfl,hg3,hl1,hY1⟩
 refine ⟨_,rfl,?_⟩
 have hS7:=St.callM (ins:=[]) (rest:=[vec v4 9 1 ((srt nodes_p).length) ((srt nodes_p).flatMap Qp)]) (ms':=[vec v5 9 1 r1_.length ((r1_).flatMap Qp),vec v4 9 1 ((srt nodes_p).length) ((srt nodes_p).flatMap Qp)]) hS5 (St.back hg3 hsub2) rfl
 replace hP:=hK1 r1_ hY1
 obtain ⟨hsm2,hP⟩:=hP
 refine z0b (args:=[v5]) rfl Tryz.call184 (Calls.mono (w05 Tryz.slices_Compact_string Tryz.slices_Compact_string_empty hS7.view (hS7.get (i:=0) rfl) rfl (fun b hb=>hS7.off _ (List.mem_of_getElem? (i:=0) rfl) b hb) (by have:=hl1;unfold Sml at this;omega)) ?_)
 rintro _ w5 ⟨v6,rfl,hf1,hg4,ho3⟩
 refine ⟨_,rfl,?_⟩
 have ho4:=q3l ho3
 have hS8:=hS7.growV (i:=0) (o':=vec v6 9 1 ((cpt r1_).length) ((cpt r1_).flatMap Qp)) rfl hg4 hf1 ho3 (ms':=[vec v6 9 1 ((cpt r1_).length) ((cpt r1_).flatMap Qp),vec v4 9 1 ((srt nodes_p).length) ((srt nodes_p).flatMap Qp)]) rfl
 refine j15 hS8 rfl (i:=0) rfl Tryz.underlying44 ?_
 have hlen1:(cpt r1_).length<=9223372036854775807:=by have:=hsm2;unfold Sml at this;omega
 replace hP:=hP hlen1
 refine Zu (v:=v4) rfl (j15 hS8 rfl (i:=1) rfl Tryz.underlying44 ?_)
 have hlen2:(srt nodes_p).length<=9223372036854775807:=by have:=(show Sml (srt nodes_p).length by rw [W7];exact hsm1);unfold Sml at this;omega
 replace hP:=hP hlen2
 refine qa2u (r:=(!decide ((((cpt r1_).length:Nat):Int)=(((srt nodes_p).length:Nat):Int)))) rfl rfl rfl (wpList_nil (Q3 ?_))
 refine qa0o ((((cpt r1_).length:Nat):Int)=(((srt nodes_p).length:Nat):Int)) rfl (fun ht1=> ?_) (fun ht1=> ?_)
 ·
  replace hP:=hP.2 ht1
  refine Q8 (Q9 (v:=(.slice none 0 0)) rfl (Q9 (v:=(.int .i64 (10:Int))) rfl (wpList_nil (Q3 (wp_ret (q1v (ret2 rfl (show ev _ _ _=(.slice none 0 0) from rfl) (show ev _ _ _=(.int .i64 (10:Int)) from rfl) ?_)))))))
  have hS9:=hS8.addNil 9 1
  exact ⟨[],(10:Int),(.slice none 0 0),rfl,(St.back (hS9.keep 1 (ms':=[vec (.slice none 0 0) 9 1 0 []]) rfl) (Sub.refl _)),(by simp [Sml]),hP⟩
 ·
  replace hP:=hP.1 ht1
  refine wp_skip (Q3 (Q8 (y4k 9 1 Qp hS8 ?_)))
  intro b2 w6 hS10
  refine v7z (cs:=[(.map none)]) hS10 Tryz.zeroValue267 rfl ?_
  intro b3 w7 hS11
  refine v7y (T:=267) (vs:=[(.map (some b2))]) (cs':=[(.map (some b2))]) (ms':=(blk b3 267 [(.map (some b2))]::smap b2 (asl [])::vec v6 9 1 ((cpt r1_).length) ((cpt r1_).flatMap Qp)::vec v4 9 1 ((srt nodes_p).length) ((srt nodes_p).flatMap Qp)::B0 9 1 Qp [])) (i:=0) hS11 rfl rfl rfl Tryz.sizeOf267 rfl (ones rfl) rfl (Nat.le_of_ble_eq_true rfl) rfl rfl ?_
  intro w8 hS12
  refine wpList_nil (Q3 (wp_seq (Q8 (Zu (v:=(.slice a2 edges_p.length cap2)) rfl (z22 rfl Tryz.underlying170 ?_)))))
  have hlen3:=RSl.len63 hr2
  replace hP:=hP hlen3
  refine Zu (v:=(.int .i64 (0:Int))) rfl (wpList_nil (Q3 (wp_block ?_)))
  have hS13:=hS12.front 3 rfl (ms':=(vec v4 9 1 ((srt nodes_p).length) ((srt nodes_p).flatMap Qp)::blk b3 267 [(.map (some b2))]::smap b2 (asl [])::vec v6 9 1 ((cpt r1_).length) ((cpt r1_).flatMap Qp)::B0 9 1 Qp [])) rfl
  have hS14:=hS13.front 3 rfl (ms':=(vec v6 9 1 ((cpt r1_).length) ((cpt r1_).flatMap Qp)::vec v4 9 1 ((srt nodes_p).length) ((srt nodes_p).flatMap Qp)::blk b3 267 [(.map (some b2))]::smap b2 (asl [])::B0 9 1 Qp [])) rfl
  have hS15:=hS14.front 2 rfl (ms':=(blk b3 267 [(.map (some b2))]::vec v6 9 1 ((cpt r1_).length) ((cpt r1_).flatMap Qp)::vec v4 9 1 ((srt nodes_p).length) ((srt nodes_p).flatMap Qp)::smap b2 (asl [])::B0 9 1 Qp [])) rfl
  have hS16:=hS15.front 3 rfl (ms':=(smap b2 (asl [])::blk b3 267 [(.map (some b2))]::vec v6 9 1 ((cpt r1_).length) ((cpt r1_).flatMap Qp)::vec v4 9 1 ((srt nodes_p).length) ((srt nodes_p).flatMap Qp)::B0 9 1 Qp [])) rfl
  refine u3z (fun k_3 F_2 f z=> ∃(es2:EL ByteArray) (σ3:Hv) (g:Fr),f=(upd (upd (upd (upd (upd g 6 v4) 7 (.pointer (some ⟨b3,0,none⟩))) 24 (.slice a2 edges_p.length cap2)) 25 (.int .i64 ((edges_p.length:Nat):Int))) 26 (.int .i64 ((k_3:Nat):Int)))/\St ⟨w,σ,[]⟩ z σ3 (smap b2 (asl es2)::blk b3 267 [(.map (some b2))]::vec v6 9 1 ((cpt r1_).length) ((cpt r1_).flatMap Qp)::vec v4 9 1 ((srt nodes_p).length) ((srt nodes_p).flatMap Qp)::B0 9 1 Qp es2)/\Sub σ1 σ3/\ELF es2 F_2) hP ⟨[],σ1,_,(Jl rfl (Jl rfl (Jl rfl (Jl rfl (Jl rfl rfl))))),hS16,(Sub.refl _),ELF.nil⟩ ?_
  clear hP
  rintro k_3 F_2 Y2 hP f w9 ⟨es2,σ3,g,rfl,hS17,hsub3,hF2⟩
  refine Q8 (y7z (r:=(decide (((k_3:Nat):Int)<((edges_p.length:Nat):Int)))) rfl rfl rfl (wpList_nil (Q3 (wp_seq ?_))))
  refine if_d (((k_3:Nat):Int)<((edges_p.length:Nat):Int)) rfl (fun ht2=> ?_) (fun ht2=> ?_)
  ·
   replace hP:=hP.1 ht2
   refine wp_skip (Q3 (wp_seq (wp_block (Q8 ?_))))
   obtain ⟨x1_,hx1⟩:=getq (l:=edges_p) (k:=k_3) (by have:=ht2;omega)
   replace hP:=hP x1_ hx1
   obtain ⟨ad1,cs1,ha1,hl2,hr6,hR1,hlt1⟩:=RSl.at hr2 hx1
   cases hR1
   refine q0t (k:=k_3) (a':=(ad1.add (k_3*2))) (congrArg (fun z=>Value.slice z _ _) ha1) rfl rfl hlt1 Tryz.underlying170 Tryz.sizeOf217 rfl (u7f (cs:=[(.string x1_.1),(.string x1_.2)]) rfl Tryz.isAgg217 Tryz.sizeOf217 rfl (hr6.row (View.of (Sub.trans hsub1 hsub3) hS17.view)) (v7z (cs:=[(.string (⟨#[]⟩:ByteArray)),(.string (⟨#[]⟩:ByteArray))]) hS17 Tryz.zeroValue217 rfl ?_))
   intro b4 w10 hS18
   refine v7y (T:=217) (vs:=[(.string x1_.1),(.string x1_.2)]) (cs':=[(.string x1_.1),(.string x1_.2)]) (ms':=(blk b4 217 [(.string x1_.1),(.string x1_.2)]::smap b2 (asl es2)::blk b3 267 [(.map (some b2))]::vec v6 9 1 ((cpt r1_).length) ((cpt r1_).flatMap Qp)::vec v4 9 1 ((srt nodes_p).length) ((srt nodes_p).flatMap Qp)::B0 9 1 Qp es2)) (i:=0) hS18 rfl rfl rfl Tryz.sizeOf217 rfl (ones rfl) rfl (Nat.le_of_ble_eq_true rfl) rfl rfl ?_
   intro w11 hS19
   refine wpList_nil (Q3 (wp_seq (Q8 (Zu (v:=v4) rfl (w0v (a':=⟨b4,0,none⟩) rfl Tryz.underlying217 rfl Tryz.sizeOf9 rfl (q8o (v:=(.string x1_.1)) rfl Tryz.isAgg9 (hS19.cell (i:=0) rfl rfl) ?_))))))
   obtain ⟨σ4,hS20,hsub4,hr7⟩:=hS19.peek (i:=4) rfl q6j (show Sml (srt nodes_p).length by rw [W7];exact hsm1)
   obtain ⟨Y3,hK2,hc2⟩:=hP
   refine z0b (args:=[v4,(.string x1_.1)]) rfl Tryz.call76 (Calls.mono (U0 (srt nodes_p) x1_.1 v4 hS20.view hr7 hc2) ?_)
   rintro _ w12 ⟨r2_,rfl,hg5,hY2⟩
   refine ⟨_,rfl,?_⟩
   have hg5b:=hg5.back hsub4
   have hS21:=hS19.grow hg5b
   replace hP:=hK2 r2_ hY2
   refine u3r (r:=(!r2_)) rfl rfl ?_
   rcases Bool.eq_false_or_eq_true (r2_) with hb1|hb1
   ·
    replace hP:=hP.1 hb1
    refine Zu (v:=(.bool false)) (congrArg Value.bool (congrArg Bool.not hb1)) (o_on rfl rfl (Zu (v:=v4) rfl (o_on rfl rfl (w0v (a':=⟨b4,1,none⟩) rfl Tryz.underlying217 rfl Tryz.sizeOf9 rfl (o_on rfl rfl (q8o (v:=(.string x1_.2)) rfl Tryz.isAgg9 (hS21.cell (i:=0) rfl rfl) (o_on rfl rfl ?_)))))))
    obtain ⟨σ5,hS22,hsub5,hr8⟩:=hS21.peek (i:=4) rfl q6j (show Sml (srt nodes_p).length by rw [W7];exact hsm1)
    obtain ⟨Y4,hK3,hc3⟩:=hP
    refine z0b (args:=[v4,(.string x1_.2)]) rfl Tryz.call76 (Calls.mono (U0 (srt nodes_p) x1_.2 v4 hS22.view hr8 hc3) ?_)
    rintro _ w13 ⟨r3_,rfl,hg6,hY3⟩
    refine ⟨_,rfl,?_⟩
    have hg6b:=hg6.back hsub5
    have hS23:=hS21.grow hg6b
    replace hP:=hK3 r3_ hY3
    refine o_on rfl rfl (u3r (r:=(!r3_)) rfl rfl (u3p (v:=(.bool (!r3_))) rfl rfl (wpList_nil (Q3 ?_))))
    refine qa0p rfl (fun ht3=> ?_) (fun ht3=> ?_)
    ·
     replace hP:=hP.2 (by first|(rw [ht3];exact Bool.false_ne_true)|simp [ht3])
     refine Q8 (Q9 (v:=(.slice none 0 0)) rfl (Q9 (v:=(.int .i64 (11:Int))) rfl (wpList_nil (Q3 (wp_ret (q1v (j78 (q1v (q1v (j78 (q1v (ret2 rfl (show ev _ _ _=(.slice none 0 0) from rfl) (show ev _ _ _=(.int .i64 (11:Int)) from rfl) ?_))))))))))))
     have hS24:=hS23.addNil 9 1
     exact ⟨[],(11:Int),(.slice none 0 0),rfl,(St.back (hS24.keep 1 (ms':=[vec (.slice none 0 0) 9 1 0 []]) rfl) (Sub.refl _)),(by simp [Sml]),hP⟩
    ·
     replace hP:=hP.1 ht3
     refine wp_skip (Q3 (dr (fun z=>St ⟨w,σ,[]⟩ z σ3 [blk b4 217 [(.string x1_.1),(.string x1_.2)],blk b3 267 [(.map (some b2))],vec v6 9 1 ((cpt r1_).length) ((cpt r1_).flatMap Qp),vec v4 9 1 ((srt nodes_p).length) ((srt nodes_p).flatMap Qp)]) (by kernel_rfl) rfl ?_))
     have hS25:=hS23.drew
     refine dt 0 1 (v:=(.map (some b2))) (by kernel_rfl) rfl rfl (fun _ _ _ h=>h) (hS25.sublist (.cons_cons _ (.cons _ (.cons_cons _ (.cons_cons _ (.cons_cons _ (List.nil_sublist _))))))) (fun _ hJ _ hK=>q8o (v:=(.map (some b2))) rfl Tryz.isAgg267 (hJ.cell (i:=1) rfl rfl) ⟨rfl,hK⟩) (dt 1 3 (v:=(.pointer (some ⟨b4,0,none⟩))) (by kernel_rfl) rfl rfl (fun _ _ _ h=>h) (hS25.sublist (.cons_cons _ (.cons _ (.cons_cons _ (.cons_cons _ (.cons_cons _ (List.nil_sublist _))))))) (fun _ _ _ hK=>w0v (a':=⟨b4,0,none⟩) rfl Tryz.underlying217 rfl Tryz.sizeOf9 rfl ⟨rfl,hK⟩) (dt 2 7 (v:=(.string x1_.1)) (by kernel_rfl) rfl rfl (fun _ _ _ h=>h) (hS25.sublist (.cons_cons _ (.cons _ (.cons_cons _ (.cons_cons _ (.cons_cons _ (List.nil_sublist _))))))) (fun _ hJ _ hK=>q8o (v:=(.string x1_.1)) rfl Tryz.isAgg9 (hJ.cell (i:=0) rfl rfl) ⟨rfl,hK⟩) (dt 3 15 (v:=(.map (some b2))) (by kernel_rfl) rfl rfl (fun _ _ _ h=>h) (hS25.sublist (.cons_cons _ (.cons _ (.cons_cons _ (.cons_cons _ (.cons_cons _ (List.nil_sublist _))))))) (fun _ hJ _ hK=>q8o (v:=(.map (some b2))) rfl Tryz.isAgg267 (hJ.cell (i:=1) rfl rfl) ⟨rfl,hK⟩) (dt 4 31 (v:=(.pointer (some ⟨b4,0,none⟩))) (by kernel_rfl) rfl rfl (fun _ _ _ h=>h) (hS25.sublist (.cons_cons _ (.cons _ (.cons_cons _ (.cons_cons _ (.cons_cons _ (List.nil_sublist _))))))) (fun _ _ _ hK=>w0v (a':=⟨b4,0,none⟩) rfl Tryz.underlying217 rfl Tryz.sizeOf9 rfl ⟨rfl,hK⟩) (dt 5 63 (v:=(.string x1_.1)) (by kernel_rfl) rfl rfl (fun _ _ _ h=>h) (hS25.sublist (.cons_cons _ (.cons _ (.cons_cons _ (.cons_cons _ (.cons_cons _ (List.nil_sublist _))))))) (fun _ hJ _ hK=>q8o (v:=(.string x1_.1)) rfl Tryz.isAgg9 (hJ.cell (i:=0) rfl rfl) ⟨rfl,hK⟩) (dt 7 191 (v:=(.pointer (some ⟨b4,1,none⟩))) (by kernel_rfl) rfl rfl (fun _ _ _ h=>h) (hS25.sublist (.cons_cons _ (.cons _ (.cons_cons _ (.cons_cons _ (.cons_cons _ (List.nil_sublist _))))))) (fun _ _ _ hK=>w0v (a':=⟨b4,1,none⟩) rfl Tryz.underlying217 rfl Tryz.sizeOf9 rfl ⟨rfl,hK⟩) (dt 8 447 (v:=(.string x1_.2)) (by kernel_rfl) rfl rfl (fun _ _ _ h=>h) (hS25.sublist (.cons_cons _ (.cons _ (.cons_cons _ (.cons_cons _ (.cons_cons _ (List.nil_sublist _))))))) (fun _ hJ _ hK=>q8o (v:=(.string x1_.2)) rfl Tryz.isAgg9 (hJ.cell (i:=0) rfl rfl) ⟨rfl,hK⟩) ?_)))))))
     refine d2 6 9 511 959 (by kernel_rfl) rfl rfl rfl rfl ?_ ?_
     ·
      obtain ⟨v7,hv1⟩: ∃v,(asl es2 x1_.1).getD (.slice none 0 0)=v:=⟨_,rfl⟩
      refine y78 (i:=1) (v:=v7) hS25 rfl rfl rfl Tryz.underlying267 Tryz.underlying9 Tryz.zeroValue44 hv1 (wpList_nil ?_)
      refine ⟨rfl,(hS25.sublist (.cons_cons _ (.cons _ (.cons_cons _ (.cons_cons _ (.cons_cons _ (List.nil_sublist _))))))),?_⟩
      refine d1 9 1023 (by kernel_rfl) rfl (j96 (cs:=[(.string x1_.2)]) (e:=9) hS25 (fun _=>by kernel_rfl) ?_)
      intro b5 w14 hS26
      refine wpList_nil ?_
      refine ⟨rfl,(hS26.sublist (.cons _ (.cons_cons _ (.cons _ (.cons_cons _ (.cons_cons _ (.cons_cons _ (List.nil_sublist _)))))))),?_⟩
      refine d1 10 2047 (by kernel_rfl) rfl ?_
      obtain ⟨es3,hS27,hL1,hl3⟩:=St.borrow (ms:=[blk b5 9 [(.string x1_.2)],blk b4 217 [(.string x1_.1),(.string x1_.2)],smap b2 (asl es2),blk b3 267 [(.map (some b2))],vec v6 9 1 ((cpt r1_).length) ((cpt r1_).flatMap Qp),vec v4 9 1 ((srt nodes_p).length) ((srt nodes_p).flatMap Qp)]) hS26 hF2 x1_.1 hv1
      obtain ⟨hsm3,hP⟩:=hP
      refine u7n (Ms:=fun v8=>(vec v8 9 1 ((((F_2 x1_.1).getD [])++[x1_.2]).length) ((((F_2 x1_.1).getD [])++[x1_.2]).flatMap Qp)::blk b5 9 [(.string x1_.2)]::blk b4 217 [(.string x1_.1),(.string x1_.2)]::smap b2 (asl es2)::blk b3 267 [(.map (some b2))]::vec v6 9 1 ((cpt r1_).length) ((cpt r1_).flatMap Qp)::vec v4 9 1 ((srt nodes_p).length) ((srt nodes_p).flatMap Qp)::B0 9 1 Qp es3)) (k':=(((F_2 x1_.1).getD [])++[x1_.2]).length) (xs':=(((F_2 x1_.1).getD [])++[x1_.2]).flatMap Qp) Tryz.underlying44 Tryz.type9 rfl rfl (bytes:=16) rfl rfl (Nat.succ_pos _) hS27 rfl (q:=0) rfl rfl rfl (z0r (hS27.get (i:=1) rfl)) (ones rfl) hsm3 (by omega) (by first|rfl|exact List.length_append.symm|simp) (by simp [Qp]) (fun _=>rfl) ?_
      intro v8 w15 ho5 hS28
      have hS29:=hS28.drop 1 (ms':=(vec v8 9 1 ((((F_2 x1_.1).getD [])++[x1_.2]).length) ((((F_2 x1_.1).getD [])++[x1_.2]).flatMap Qp)::blk b4 217 [(.string x1_.1),(.string x1_.2)]::smap b2 (asl es2)::blk b3 267 [(.map (some b2))]::vec v6 9 1 ((cpt r1_).length) ((cpt r1_).flatMap Qp)::vec v4 9 1 ((srt nodes_p).length) ((srt nodes_p).flatMap Qp)::B0 9 1 Qp es3)) rfl
      refine wpList_nil ?_
      refine ⟨rfl,(hS29.sublist (.cons _ (.cons_cons _ (.cons _ (.cons_cons _ (.cons_cons _ (.cons_cons _ (List.nil_sublist _)))))))),?_⟩
      refine d1 11 4095 (by kernel_rfl) rfl (u7k (v:=v8) (i:=2) (ms':=(vec v8 9 1 ((((F_2 x1_.1).getD [])++[x1_.2]).length) ((((F_2 x1_.1).getD [])++[x1_.2]).flatMap Qp)::blk b4 217 [(.string x1_.1),(.string x1_.2)]::smap b2 (fun k'=>if k'=x1_.1 then some v8 else asl es2 k')::blk b3 267 [(.map (some b2))]::vec v6 9 1 ((cpt r1_).length) ((cpt r1_).flatMap Qp)::vec v4 9 1 ((srt nodes_p).length) ((srt nodes_p).flatMap Qp)::B0 9 1 Qp es3)) hS29 rfl rfl rfl rfl Tryz.underlying267 Tryz.underlying9 rfl ?_)
      intro w16 hS30
      have hS32:=St.giveback (ms:=[blk b4 217 [(.string x1_.1),(.string x1_.2)],smap b2 (fun k'=>if k'=x1_.1 then some v8 else asl es2 k'),blk b3 267 [(.map (some b2))],vec v6 9 1 ((cpt r1_).length) ((cpt r1_).flatMap Qp),vec v4 9 1 ((srt nodes_p).length) ((srt nodes_p).flatMap Qp)]) (ms':=[blk b4 217 [(.string x1_.1),(.string x1_.2)],smap b2 (asl ((x1_.1,v8,((F_2 x1_.1).getD [])++[x1_.2])::es3)),blk b3 267 [(.map (some b2))],vec v6 9 1 ((cpt r1_).length) ((cpt r1_).flatMap Qp),vec v4 9 1 ((srt nodes_p).length) ((srt nodes_p).flatMap Qp)]) (i:=1) hS30 hL1 rfl rfl
      have hF3:=ELF.put (v:=v8) hF2 hL1 hsm3
      refine wpList_nil ?_
      refine ⟨rfl,(hS32.sublist (.cons_cons _ (.cons _ (.cons_cons _ (.cons_cons _ (.cons_cons _ (List.nil_sublist _))))))),j97 (J':=fun z=>St ⟨w,σ,[]⟩ z σ3 (blk b4 217 [(.string x1_.1),(.string x1_.2)]::smap b2 (asl ((x1_.1,v8,((F_2 x1_.1).getD [])++[x1_.2])::es3))::blk b3 267 [(.map (some b2))]::vec v6 9 1 ((cpt r1_).length) ((cpt r1_).flatMap Qp)::vec v4 9 1 ((srt nodes_p).length) ((srt nodes_p).flatMap Qp)::B0 9 1 Qp ((x1_.1,v8,((F_2 x1_.1).getD [])++[x1_.2])::es3))) (fun w h=>h.sublist (.cons_cons _ (.cons _ (.cons_cons _ (.cons_cons _ (.cons_cons _ (List.nil_sublist _))))))) _ _ _ _ ?_⟩
      refine dz (by kernel_rfl) (y4f (Q3 (j4l (y4e (r:=((k_3+1:Nat):Int)) rfl rfl (nw (by omega) (by omega) (by have:=hlen3;omega)) (Zu (v:=(.int .i64 ((k_3+1:Nat):Int))) rfl (wpList_nil (Q3 ?_)))))))
      exact ⟨k_3+1,(put F_2 x1_.1 (((F_2 x1_.1).getD [])++[x1_.2])),_,rfl,hP,((x1_.1,v8,((F_2 x1_.1).getD [])++[x1_.2])::es3),σ3,_,(Jl rfl (Jl rfl (Jl rfl (Jl rfl (Jl rfl rfl))))),(hS32.sublist (ms':=(smap b2 (asl ((x1_.1,v8,((F_2 x1_.1).getD [])++[x1_.2])::es3))::blk b3 267 [(.map (some b2))]::vec v6 9 1 ((cpt r1_).length) ((cpt r1_).flatMap Qp)::vec v4 9 1 ((srt nodes_p).length) ((srt nodes_p).flatMap Qp)::B0 9 1 Qp ((x1_.1,v8,((F_2 x1_.1).getD [])++[x1_.2])::es3))) (.cons _ (List.Sublist.refl _))),hsub3,hF3⟩
     ·
      refine j96 (cs:=[(.string x1_.2)]) (e:=9) hS25 (fun _=>by kernel_rfl) ?_
      intro b5 w14 hS26
      refine wpList_nil ?_
      refine ⟨rfl,(hS26.sublist (.cons _ (.cons_cons _ (.cons _ (.cons_cons _ (.cons_cons _ (.cons_cons _ (List.nil_sublist _)))))))),?_⟩
      refine d1 6 1023 (by kernel_rfl) rfl ?_
      obtain ⟨v7,hv1⟩: ∃v,(asl es2 x1_.1).getD (.slice none 0 0)=v:=⟨_,rfl⟩
      refine y78 (i:=2) (v:=v7) hS26 rfl rfl rfl Tryz.underlying267 Tryz.underlying9 Tryz.zeroValue44 hv1 (wpList_nil ?_)
      refine ⟨rfl,(hS26.sublist (.cons _ (.cons_cons _ (.cons _ (.cons_cons _ (.cons_cons _ (.cons_cons _ (List.nil_sublist _)))))))),?_⟩
      refine d1 10 2047 (by kernel_rfl) rfl ?_
      obtain ⟨es3,hS27,hL1,hl3⟩:=St.borrow (ms:=[blk b5 9 [(.string x1_.2)],blk b4 217 [(.string x1_.1),(.string x1_.2)],smap b2 (asl es2),blk b3 267 [(.map (some b2))],vec v6 9 1 ((cpt r1_).length) ((cpt r1_).flatMap Qp),vec v4 9 1 ((srt nodes_p).length) ((srt nodes_p).flatMap Qp)]) hS26 hF2 x1_.1 hv1
      obtain ⟨hsm3,hP⟩:=hP
      refine u7n (Ms:=fun v8=>(vec v8 9 1 ((((F_2 x1_.1).getD [])++[x1_.2]).length) ((((F_2 x1_.1).getD [])++[x1_.2]).flatMap Qp)::blk b5 9 [(.string x1_.2)]::blk b4 217 [(.string x1_.1),(.string x1_.2)]::smap b2 (asl es2)::blk b3 267 [(.map (some b2))]::vec v6 9 1 ((cpt r1_).length) ((cpt r1_).flatMap Qp)::vec v4 9 1 ((srt nodes_p).length) ((srt nodes_p).flatMap Qp)::B0 9 1 Qp es3)) (k':=(((F_2 x1_.1).getD [])++[x1_.2]).length) (xs':=(((F_2 x1_.1).getD [])++[x1_.2]).flatMap Qp) Tryz.underlying44 Tryz.type9 rfl rfl (bytes:=16) rfl rfl (Nat.succ_pos _) hS27 rfl (q:=0) rfl rfl rfl (z0r (hS27.get (i:=1) rfl)) (ones rfl) hsm3 (by omega) (by first|rfl|exact List.length_append.symm|simp) (by simp [Qp]) (fun _=>rfl) ?_
      intro v8 w15 ho5 hS28
      have hS29:=hS28.drop 1 (ms':=(vec v8 9 1 ((((F_2 x1_.1).getD [])++[x1_.2]).length) ((((F_2 x1_.1).getD [])++[x1_.2]).flatMap Qp)::blk b4 217 [(.string x1_.1),(.string x1_.2)]::smap b2 (asl es2)::blk b3 267 [(.map (some b2))]::vec v6 9 1 ((cpt r1_).length) ((cpt r1_).flatMap Qp)::vec v4 9 1 ((srt nodes_p).length) ((srt nodes_p).flatMap Qp)::B0 9 1 Qp es3)) rfl
      refine wpList_nil ?_
      refine ⟨rfl,(hS29.sublist (.cons _ (.cons_cons _ (.cons _ (.cons_cons _ (.cons_cons _ (.cons_cons _ (List.nil_sublist _)))))))),?_⟩
      refine d1 11 4095 (by kernel_rfl) rfl (u7k (v:=v8) (i:=2) (ms':=(vec v8 9 1 ((((F_2 x1_.1).getD [])++[x1_.2]).length) ((((F_2 x1_.1).getD [])++[x1_.2]).flatMap Qp)::blk b4 217 [(.string x1_.1),(.string x1_.2)]::smap b2 (fun k'=>if k'=x1_.1 then some v8 else asl es2 k')::blk b3 267 [(.map (some b2))]::vec v6 9 1 ((cpt r1_).length) ((cpt r1_).flatMap Qp)::vec v4 9 1 ((srt nodes_p).length) ((srt nodes_p).flatMap Qp)::B0 9 1 Qp es3)) hS29 rfl rfl rfl rfl Tryz.underlying267 Tryz.underlying9 rfl ?_)
      intro w16 hS30
      have hS32:=St.giveback (ms:=[blk b4 217 [(.string x1_.1),(.string x1_.2)],smap b2 (fun k'=>if k'=x1_.1 then some v8 else asl es2 k'),blk b3 267 [(.map (some b2))],vec v6 9 1 ((cpt r1_).length) ((cpt r1_).flatMap Qp),vec v4 9 1 ((srt nodes_p).length) ((srt nodes_p).flatMap Qp)]) (ms':=[blk b4 217 [(.string x1_.1),(.string x1_.2)],smap b2 (asl ((x1_.1,v8,((F_2 x1_.1).getD [])++[x1_.2])::es3)),blk b3 267 [(.map (some b2))],vec v6 9 1 ((cpt r1_).length) ((cpt r1_).flatMap Qp),vec v4 9 1 ((srt nodes_p).length) ((srt nodes_p).flatMap Qp)]) (i:=1) hS30 hL1 rfl rfl
      have hF3:=ELF.put (v:=v8) hF2 hL1 hsm3
      refine wpList_nil ?_
      refine ⟨rfl,(hS32.sublist (.cons_cons _ (.cons _ (.cons_cons _ (.cons_cons _ (.cons_cons _ (List.nil_sublist _))))))),j97 (J':=fun z=>St ⟨w,σ,[]⟩ z σ3 (blk b4 217 [(.string x1_.1),(.string x1_.2)]::smap b2 (asl ((x1_.1,v8,((F_2 x1_.1).getD [])++[x1_.2])::es3))::blk b3 267 [(.map (some b2))]::vec v6 9 1 ((cpt r1_).length) ((cpt r1_).flatMap Qp)::vec v4 9 1 ((srt nodes_p).length) ((srt nodes_p).flatMap Qp)::B0 9 1 Qp ((x1_.1,v8,((F_2 x1_.1).getD [])++[x1_.2])::es3))) (fun w h=>h.sublist (.cons_cons _ (.cons _ (.cons_cons _ (.cons_cons _ (.cons_cons _ (List.nil_sublist _))))))) _ _ _ _ ?_⟩
      refine dz (by kernel_rfl) (y4f (Q3 (j4l (y4e (r:=((k_3+1:Nat):Int)) rfl rfl (nw (by omega) (by omega) (by have:=hlen3;omega)) (Zu (v:=(.int .i64 ((k_3+1:Nat):Int))) rfl (wpList_nil (Q3 ?_)))))))
      exact ⟨k_3+1,(put F_2 x1_.1 (((F_2 x1_.1).getD [])++[x1_.2])),_,rfl,hP,((x1_.1,v8,((F_2 x1_.1).getD [])++[x1_.2])::es3),σ3,_,(Jl rfl (Jl rfl (Jl rfl (Jl rfl (Jl rfl rfl))))),(hS32.sublist (ms':=(smap b2 (asl ((x1_.1,v8,((F_2 x1_.1).getD [])++[x1_.2])::es3))::blk b3 267 [(.map (some b2))]::vec v6 9 1 ((cpt r1_).length) ((cpt r1_).flatMap Qp)::vec v4 9 1 ((srt nodes_p).length) ((srt nodes_p).flatMap Qp)::B0 9 1 Qp ((x1_.1,v8,((F_2 x1_.1).getD [])++[x1_.2])::es3))) (.cons _ (List.Sublist.refl _))),hsub3,hF3⟩
   ·
    replace hP:=hP.2 (by first|(rw [hb1];exact Bool.false_ne_true)|simp [hb1])
    refine Zu (v:=(.bool true)) (congrArg Value.bool (congrArg Bool.not hb1)) (y7y rfl rfl (y7y rfl rfl (y7y rfl rfl (y7y rfl rfl (y7y rfl rfl (u3o (v:=(.bool true)) rfl rfl (wpList_nil (Q3 (if_t rfl (Q8 (Q9 (v:=(.slice none 0 0)) rfl (Q9 (v:=(.int .i64 (11:Int))) rfl (wpList_nil (Q3 (wp_ret (q1v (j78 (q1v (q1v (j78 (q1v (ret2 rfl (show ev _ _ _=(.slice none 0 0) from rfl) (show ev _ _ _=(.int .i64 (11:Int)) from rfl) ?_))))))))))))))))))))))
    have hS33:=hS21.addNil 9 1
    exact ⟨[],(11:Int),(.slice none 0 0),rfl,(St.back (hS33.keep 1 (ms':=[vec (.slice none 0 0) 9 1 0 []]) rfl) (Sub.refl _)),(by simp [Sml]),hP⟩
  ·
   replace hP:=hP.2 ht2
   refine wp_exit (z86 (z86 (w0x (Q3 (Q8 (Q9 (v:=(.slice none 0 0)) rfl (wpList_nil (Q3 (Q8 (u7l (fun y:Bool=>(Value.bool (y))) hS17 ?_))))))))))
   intro b6 w17 hS34
   refine v7z (cs:=[(.map none)]) hS34 Tryz.zeroValue268 rfl ?_
   intro b7 w18 hS35
   refine v7y (T:=268) (vs:=[(.map (some b6))]) (cs':=[(.map (some b6))]) (ms':=(blk b7 268 [(.map (some b6))]::emap b6 (fun y:Bool=>(Value.bool (y))) (fun _=>none)::smap b2 (asl es2)::blk b3 267 [(.map (some b2))]::vec v6 9 1 ((cpt r1_).length) ((cpt r1_).flatMap Qp)::vec v4 9 1 ((srt nodes_p).length) ((srt nodes_p).flatMap Qp)::B0 9 1 Qp es2)) (i:=0) hS35 rfl rfl rfl Tryz.sizeOf268 rfl (ones rfl) rfl (Nat.le_of_ble_eq_true rfl) rfl rfl ?_
   intro w19 hS36
   refine wpList_nil (Q3 (wp_seq (wp_block ?_)))
   obtain ⟨σ6,hS37,hsub6,hr9⟩:=St.freezeL (ms:=[blk b7 268 [(.map (some b6))],emap b6 (fun y:Bool=>(Value.bool (y))) (fun _=>none),smap b2 (asl es2),blk b3 267 [(.map (some b2))],vec v6 9 1 ((cpt r1_).length) ((cpt r1_).flatMap Qp),vec v4 9 1 ((srt nodes_p).length) ((srt nodes_p).flatMap Qp)]) (ms':=[blk b7 268 [(.map (some b6))],emap b6 (fun y:Bool=>(Value.bool (y))) (fun _=>none),blk b3 267 [(.map (some b2))],vec v6 9 1 ((cpt r1_).length) ((cpt r1_).flatMap Qp),vec v4 9 1 ((srt nodes_p).length) ((srt nodes_p).flatMap Qp)]) (i:=2) hS36 hF2 q6j rfl rfl
   have hS38:=hS37.addNil 9 1
   have hS39:=hS38.front 4 rfl (ms':=[vec v6 9 1 ((cpt r1_).length) ((cpt r1_).flatMap Qp),vec (.slice none 0 0) 9 1 0 [],blk b7 268 [(.map (some b6))],emap b6 (fun y:Bool=>(Value.bool (y))) (fun _=>none),blk b3 267 [(.map (some b2))],vec v4 9 1 ((srt nodes_p).length) ((srt nodes_p).flatMap Qp)]) rfl
   have hS40:=hS39.front 4 rfl (ms':=[blk b3 267 [(.map (some b2))],vec v6 9 1 ((cpt r1_).length) ((cpt r1_).flatMap Qp),vec (.slice none 0 0) 9 1 0 [],blk b7 268 [(.map (some b6))],emap b6 (fun y:Bool=>(Value.bool (y))) (fun _=>none),vec v4 9 1 ((srt nodes_p).length) ((srt nodes_p).flatMap Qp)]) rfl
   have hS41:=hS40.front 3 rfl (ms':=[blk b7 268 [(.map (some b6))],blk b3 267 [(.map (some b2))],vec v6 9 1 ((cpt r1_).length) ((cpt r1_).flatMap Qp),vec (.slice none 0 0) 9 1 0 [],emap b6 (fun y:Bool=>(Value.bool (y))) (fun _=>none),vec v4 9 1 ((srt nodes_p).length) ((srt nodes_p).flatMap Qp)]) rfl
   have hS42:=hS41.front 4 rfl (ms':=[emap b6 (fun y:Bool=>(Value.bool (y))) (fun _=>none),blk b7 268 [(.map (some b6))],blk b3 267 [(.map (some b2))],vec v6 9 1 ((cpt r1_).length) ((cpt r1_).flatMap Qp),vec (.slice none 0 0) 9 1 0 [],vec v4 9 1 ((srt nodes_p).length) ((srt nodes_p).flatMap Qp)]) rfl
   have hS43:=hS42.front 4 rfl (ms':=[vec (.slice none 0 0) 9 1 0 [],emap b6 (fun y:Bool=>(Value.bool (y))) (fun _=>none),blk b7 268 [(.map (some b6))],blk b3 267 [(.map (some b2))],vec v6 9 1 ((cpt r1_).length) ((cpt r1_).flatMap Qp),vec v4 9 1 ((srt nodes_p).length) ((srt nodes_p).flatMap Qp)]) rfl
   have hS44:=hS43.front 5 rfl (ms':=[vec v4 9 1 ((srt nodes_p).length) ((srt nodes_p).flatMap Qp),vec (.slice none 0 0) 9 1 0 [],emap b6 (fun y:Bool=>(Value.bool (y))) (fun _=>none),blk b7 268 [(.map (some b6))],blk b3 267 [(.map (some b2))],vec v6 9 1 ((cpt r1_).length) ((cpt r1_).flatMap Qp)]) rfl
   refine u30 (fun left_3 out_3 F_4 f z=> ∃(v13:Value) (v14:Value) (σ7:Hv) (g:Fr),f=(upd (upd (upd (upd g 6 v13) 7 (.pointer (some ⟨b3,0,none⟩))) 10 v14) 11 (.pointer (some ⟨b7,0,none⟩)))/\St ⟨w,σ,[]⟩ z σ7 [vec v13 9 1 left_3.length ((left_3).flatMap Qp),vec v14 9 1 out_3.length ((out_3).flatMap Qp),emap b6 (fun y:Bool=>(Value.bool (y))) F_4,blk b7 268 [(.map (some b6))],blk b3 267 [(.map (some b2))],vec v6 9 1 ((cpt r1_).length) ((cpt r1_).flatMap Qp)]/\Sub σ6 σ7/\v13.oneCell'=true/\Sml left_3.length/\v14.oneCell'=true/\Sml out_3.length) hP ⟨v4,(.slice none 0 0),σ6,_,(Jl rfl (Jl rfl (Jl rfl (Jl rfl rfl)))),hS44,(Sub.refl _),(q3l ho1.1),(show Sml (srt nodes_p).length by rw [W7];exact hsm1),rfl,(by simp [Sml])⟩ ?_
   clear hP
   rintro left_3 out_3 F_4 Y5 hP f w20 ⟨v13,v14,σ7,g,rfl,hS45,hsub7,ho10,hl8,ho11,hl9⟩
   refine wp_seq (Q8 (Zu (v:=v13) rfl (j15 hS45 rfl (i:=0) rfl Tryz.underlying44 ?_)))
   have hlen4:left_3.length<=9223372036854775807:=by have:=hl8;unfold Sml at this;omega
   replace hP:=hP hlen4
   refine qa2v (r:=(decide ((0:Int)<((left_3.length:Nat):Int)))) rfl rfl rfl (wpList_nil (Q3 ?_))
   refine if_d ((0:Int)<((left_3.length:Nat):Int)) rfl (fun ht4=> ?_) (fun ht4=> ?_)
   ·
    replace hP:=hP.1 ht4
    refine wp_skip (Q3 (wp_block (Q8 (Zu (v:=v13) rfl (j4m (la:=[]) (lb:=[(.pointer (some ⟨b3,0,none⟩)),(.pointer (some ⟨b7,0,none⟩))]) rfl rfl ?_)))))
    obtain ⟨Y6,hK4,hP⟩:=hP
    refine z0b (args:=[v13,(.func (.func 189) #[] #[(.pointer (some ⟨b3,0,none⟩)),(.pointer (some ⟨b7,0,none⟩))])]) rfl Tryz.call188 (Calls.mono (R:=fun e z=> ∃(r_1:Int) (σ8:Hv),e= .returned (.int .i64 r_1)/\Y6 r_1/\St ⟨w,σ,[]⟩ z σ8 [vec v13 9 1 left_3.length ((left_3).flatMap Qp),vec v14 9 1 out_3.length ((out_3).flatMap Qp),emap b6 (fun y:Bool=>(Value.bool (y))) F_4,blk b7 268 [(.map (some b6))],blk b3 267 [(.map (some b2))],vec v6 9 1 ((cpt r1_).length) ((cpt r1_).flatMap Qp)]/\Sub σ7 σ8) ?_ ?_)
    ·
     refine enter Tryz.func188 rfl rfl rfl ?_
     refine Q8 (Q9 (v:=(.int .i64 (0:Int))) rfl (wpList_nil (Q3 (wp_seq (Q8 (Zu (v:=v13) rfl (j15 hS45 rfl (i:=0) rfl Tryz.underlying44 (Zu (v:=(.int .i64 (0:Int))) rfl (wpList_nil (Q3 (wp_block ?_)))))))))))
     refine w9o (fun k_5 f z=> ∃(σ9:Hv) (g:Fr),f=(upd (upd (upd (upd g 0 v13) 1 (.func (.func 189) #[] #[(.pointer (some ⟨b3,0,none⟩)),(.pointer (some ⟨b7,0,none⟩))])) 7 (.int .i64 ((left_3.length:Nat):Int))) 8 (.int .i64 ((k_5:Nat):Int)))/\St ⟨w,σ,[]⟩ z σ9 [vec v13 9 1 left_3.length ((left_3).flatMap Qp),vec v14 9 1 out_3.length ((out_3).flatMap Qp),emap b6 (fun y:Bool=>(Value.bool (y))) F_4,blk b7 268 [(.map (some b6))],blk b3 267 [(.map (some b2))],vec v6 9 1 ((cpt r1_).length) ((cpt r1_).flatMap Qp)]/\Sub σ7 σ9) hP ⟨σ7,_,(Jl rfl (Jl rfl (Jl rfl (Jl rfl rfl)))),hS45,(Sub.refl _)⟩ ?_
     clear hP
     rintro k_5 Y7 hP f w21 ⟨σ9,g,rfl,hS46,hsub9⟩
     refine Q8 (y7z (r:=(decide (((k_5:Nat):Int)<((left_3.length:Nat):Int)))) rfl rfl rfl (wpList_nil (Q3 (wp_seq ?_))))
     refine if_d (((k_5:Nat):Int)<((left_3.length:Nat):Int)) rfl (fun ht5=> ?_) (fun ht5=> ?_)
     ·
      replace hP:=hP.1 ht5
      refine wp_skip (Q3 (wp_seq (wp_block (Q8 (Zu (v:=(.int .i64 ((k_5:Nat):Int))) rfl (Q9 (v:=(.int .i64 ((k_5:Nat):Int))) rfl (wpList_nil (Q3 (Q8 (Zu (v:=(.func (.func 189) #[] #[(.pointer (some ⟨b3,0,none⟩)),(.pointer (some ⟨b7,0,none⟩))])) rfl (Zu (v:=v13) rfl (Zu (v:=(.int .i64 ((k_5:Nat):Int))) rfl ?_))))))))))))
      obtain ⟨x2_,hx2⟩:=getq (l:=left_3) (k:=k_5) (by have:=ht5;omega)
      replace hP:=hP x2_ hx2
      obtain ⟨g1,cp1,hv2⟩:=w9p (hS46.get (i:=0) rfl) (Qv hx2)
      refine q0t (k:=k_5) (a':=⟨g1,k_5*1,none⟩) hv2 rfl rfl (Qv hx2) Tryz.underlying44 Tryz.sizeOf9 (by simp [G2]) (q8o (v:=(.string x2_)) rfl Tryz.isAgg9 (w06 q6j (j:=0) hv2 (hS46.get (i:=0) rfl) hx2 rfl) (y72 (args:=[(.string x2_),(.pointer (some ⟨b3,0,none⟩)),(.pointer (some ⟨b7,0,none⟩))]) rfl rfl Tryz.call189 ?_))
      refine enter Tryz.func189 rfl rfl rfl ?_
      refine Q8 (Q9 (v:=(.bool false)) rfl (wpList_nil (Q3 (Q8 (q8o (v:=(.map (some b2))) rfl Tryz.isAgg267 (hS46.cell (i:=4) rfl rfl) (Zu (v:=(.string x2_)) rfl ?_))))))
      obtain ⟨v15,hl10,hz1⟩:=RMp.at (z:= .slice none 0 0) (z0:=[]) RSl.nil hr9 x2_
      obtain ⟨a3,cap3,rfl⟩:=hz1.shape
      refine u7o (v:=(.slice a3 ((F_2 x2_).getD []).length cap3)) hl10 (View.of (Sub.trans hsub7 hsub9) hS46.view) rfl rfl Tryz.underlying267 Tryz.underlying9 Tryz.zeroValue44 (j4m (la:=[]) (lb:=[(.pointer (some ⟨b7,0,none⟩))]) rfl rfl (z0b (args:=[(.slice a3 ((F_2 x2_).getD []).length cap3),(.func (.func 191) #[] #[(.pointer (some ⟨b7,0,none⟩))])]) rfl Tryz.call190 ?_))
      refine enter Tryz.func190 rfl rfl rfl ?_
      refine Q8 (Q9 (v:=(.bool false)) rfl (wpList_nil (Q3 (Q8 (Zu (v:=(.slice a3 ((F_2 x2_).getD []).length cap3)) rfl (Zu (v:=(.func (.func 191) #[] #[(.pointer (some ⟨b7,0,none⟩))])) rfl ?_))))))
      obtain ⟨Y8,hK5,hP⟩:=hP
      refine z0b (args:=[(.slice a3 ((F_2 x2_).getD []).length cap3),(.func (.func 191) #[] #[(.pointer (some ⟨b7,0,none⟩))])]) rfl Tryz.call188 (Calls.mono (R:=fun e z=> ∃(r_2:Int) (σ10:Hv),e= .returned (.int .i64 r_2)/\Y8 r_2/\St ⟨w,σ,[]⟩ z σ10 [vec v13 9 1 left_3.length ((left_3).flatMap Qp),vec v14 9 1 out_3.length ((out_3).flatMap Qp),emap b6 (fun y:Bool=>(Value.bool (y))) F_4,blk b7 268 [(.map (some b6))],blk b3 267 [(.map (some b2))],vec v6 9 1 ((cpt r1_).length) ((cpt r1_).flatMap Qp)]/\Sub σ9 σ10) ?_ ?_)
      ·
       refine enter Tryz.func188 rfl rfl rfl ?_
       refine Q8 (Q9 (v:=(.int .i64 (0:Int))) rfl (wpList_nil (Q3 (wp_seq (Q8 (Zu (v:=(.slice a3 ((F_2 x2_).getD []).length cap3)) rfl (z22 rfl Tryz.underlying44 ?_)))))))
       have hlen6:=RSl.len63 hz1
       replace hP:=hP hlen6
       refine Zu (v:=(.int .i64 (0:Int))) rfl (wpList_nil (Q3 (wp_block ?_)))
       refine w9o (fun k_7 f z=> ∃(σ11:Hv) (g:Fr),f=(upd (upd (upd (upd g 0 (.slice a3 ((F_2 x2_).getD []).length cap3)) 1 (.func (.func 191) #[] #[(.pointer (some ⟨b7,0,none⟩))])) 7 (.int .i64 ((((F_2 x2_).getD []).length:Nat):Int))) 8 (.int .i64 ((k_7:Nat):Int)))/\St ⟨w,σ,[]⟩ z σ11 [vec v13 9 1 left_3.length ((left_3).flatMap Qp),vec v14 9 1 out_3.length ((out_3).flatMap Qp),emap b6 (fun y:Bool=>(Value.bool (y))) F_4,blk b7 268 [(.map (some b6))],blk b3 267 [(.map (some b2))],vec v6 9 1 ((cpt r1_).length) ((cpt r1_).flatMap Qp)]/\Sub σ9 σ11) hP ⟨σ9,_,(Jl rfl (Jl rfl (Jl rfl (Jl rfl rfl)))),hS46,(Sub.refl _)⟩ ?_
       clear hP
       rintro k_7 Y9 hP f w22 ⟨σ11,g,rfl,hS47,hsub11⟩
       refine Q8 (y7z (r:=(decide (((k_7:Nat):Int)<((((F_2 x2_).getD []).length:Nat):Int)))) rfl rfl rfl (wpList_nil (Q3 (wp_seq ?_))))
       refine if_d (((k_7:Nat):Int)<((((F_2 x2_).getD []).length:Nat):Int)) rfl (fun ht6=> ?_) (fun ht6=> ?_)
       ·
        replace hP:=hP.1 ht6
        refine wp_skip (Q3 (wp_seq (wp_block (Q8 (Zu (v:=(.int .i64 ((k_7:Nat):Int))) rfl (Q9 (v:=(.int .i64 ((k_7:Nat):Int))) rfl (wpList_nil (Q3 (Q8 (Zu (v:=(.func (.func 191) #[] #[(.pointer (some ⟨b7,0,none⟩))])) rfl (Zu (v:=(.slice a3 ((F_2 x2_).getD []).length cap3)) rfl (Zu (v:=(.int .i64 ((k_7:Nat):Int))) rfl ?_))))))))))))
        obtain ⟨x3_,hx3⟩:=getq (l:=((F_2 x2_).getD [])) (k:=k_7) (by have:=ht6;omega)
        replace hP:=hP x3_ hx3
        obtain ⟨ad2,cs2,ha2,hl11,hr10,hR2,hlt2⟩:=RSl.at hz1 hx3
        cases hR2
        refine q0t (k:=k_7) (a':=(ad2.add (k_7*1))) (congrArg (fun z=>Value.slice z _ _) ha2) rfl rfl hlt2 Tryz.underlying44 Tryz.sizeOf9 rfl (q8o (v:=(.string x3_)) rfl Tryz.isAgg9 (hr10.cell (View.of (Sub.trans (Sub.trans hsub7 hsub9) hsub11) hS47.view) 0 rfl rfl) (y72 (args:=[(.string x3_),(.pointer (some ⟨b7,0,none⟩))]) rfl rfl Tryz.call191 ?_))
        refine enter Tryz.func191 rfl rfl rfl ?_
        refine Q8 (Q9 (v:=(.bool false)) rfl (wpList_nil (Q3 (Q8 (q8o (v:=(.map (some b6))) rfl Tryz.isAgg268 (hS47.cell (i:=3) rfl rfl) (Zu (v:=(.string x3_)) rfl (u7m (v:=(.bool (((F_4 x3_).getD false)))) (i:=2) hS47 rfl rfl rfl Tryz.underlying268 Tryz.underlying9 Tryz.zeroValue4 (u31 (fun y:Bool=>(Value.bool (y))) _ rfl) (u3r (r:=(!((F_4 x3_).getD false))) rfl rfl (Q9 (v:=(.bool (!((F_4 x3_).getD false)))) rfl (wpList_nil (Q3 (wp_ret (ret1 rfl (show ev _ _ _=(.bool (!((F_4 x3_).getD false))) from rfl) ?_)))))))))))))
        refine ⟨_,rfl,?_⟩
        refine wpList_nil (Q3 ?_)
        refine qa0p rfl (fun ht7=> ?_) (fun ht7=> ?_)
        ·
         replace hP:=hP.2 (by first|(rw [ht7];exact Bool.false_ne_true)|simp [ht7])
         refine Q8 (Zu (v:=(.int .i64 ((k_7:Nat):Int))) rfl (Q9 (v:=(.int .i64 ((k_7:Nat):Int))) rfl (wpList_nil (Q3 (wp_ret (j78 (q1v (q1v (j78 (q1v (ret1 rfl (show ev _ _ _=(.int .i64 ((k_7:Nat):Int)) from rfl) ?_)))))))))))
         exact ⟨((k_7:Nat):Int),σ11,rfl,hP,hS47,hsub11⟩
        ·
         replace hP:=hP.1 ht7
         refine wp_skip (y4f (Q3 (j4l (y4e (r:=((k_7+1:Nat):Int)) rfl rfl (nw (by omega) (by omega) (by have:=hlen6;omega)) (Zu (v:=(.int .i64 ((k_7+1:Nat):Int))) rfl (wpList_nil (Q3 ?_)))))))
         exact ⟨k_7+1,_,rfl,hP,σ11,_,(Jl rfl (Jl rfl (Jl rfl (Jl rfl rfl)))),hS47,hsub11⟩
       ·
        replace hP:=hP.2 ht6
        refine wp_exit (z86 (z86 (w0x (Q3 (Q8 (Q9 (v:=(.int .i64 (-1:Int))) rfl (wpList_nil (Q3 (wp_ret (ret1 rfl (show ev _ _ _=(.int .i64 (-1:Int)) from rfl) ?_))))))))))
        exact ⟨(-1:Int),σ11,rfl,hP,hS47,hsub11⟩
      ·
       rintro _ w23 ⟨r_2,σ10,rfl,hY4,hS48,hsub10⟩
       refine ⟨_,rfl,?_⟩
       replace hP:=hK5 r_2 hY4
       refine qa0m (r:=(decide ((0:Int)<=r_2))) rfl rfl rfl (Q9 (v:=(.bool (decide ((0:Int)<=r_2)))) rfl (wpList_nil (Q3 (wp_ret (ret1 rfl (show ev _ _ _=(.bool (decide ((0:Int)<=r_2))) from rfl) ?_)))))
       refine ⟨_,rfl,?_⟩
       refine u3r (r:=(!decide ((0:Int)<=r_2))) rfl rfl (Q9 (v:=(.bool (!decide ((0:Int)<=r_2)))) rfl (wpList_nil (Q3 (wp_ret (ret1 rfl (show ev _ _ _=(.bool (!decide ((0:Int)<=r_2))) from rfl) ?_)))))
       refine ⟨_,rfl,?_⟩
       refine wpList_nil (Q3 ?_)
       refine qa0o ((0:Int)<=r_2) rfl (fun ht8=> ?_) (fun ht8=> ?_)
       ·
        replace hP:=hP.2 ht8
        refine Q8 (Zu (v:=(.int .i64 ((k_5:Nat):Int))) rfl (Q9 (v:=(.int .i64 ((k_5:Nat):Int))) rfl (wpList_nil (Q3 (wp_ret (j78 (q1v (q1v (j78 (q1v (ret1 rfl (show ev _ _ _=(.int .i64 ((k_5:Nat):Int)) from rfl) ?_)))))))))))
        exact ⟨((k_5:Nat):Int),σ10,rfl,hP,hS48,(Sub.trans hsub9 hsub10)⟩
       ·
        replace hP:=hP.1 ht8
        refine wp_skip (y4f (Q3 (j4l (y4e (r:=((k_5+1:Nat):Int)) rfl rfl (nw (by omega) (by omega) (by have:=hlen4;omega)) (Zu (v:=(.int .i64 ((k_5+1:Nat):Int))) rfl (wpList_nil (Q3 ?_)))))))
        exact ⟨k_5+1,_,rfl,hP,σ10,_,(Jl rfl (Jl rfl (Jl rfl (Jl rfl rfl)))),hS48,(Sub.trans hsub9 hsub10)⟩
     ·
      replace hP:=hP.2 ht5
      refine wp_exit (z86 (z86 (w0x (Q3 (Q8 (Q9 (v:=(.int .i64 (-1:Int))) rfl (wpList_nil (Q3 (wp_ret (ret1 rfl (show ev _ _ _=(.int .i64 (-1:Int)) from rfl) ?_))))))))))
      exact ⟨(-1:Int),σ9,rfl,hP,hS46,hsub9⟩
    ·
     rintro _ w24 ⟨r_1,σ8,rfl,hY5,hS49,hsub8⟩
     refine ⟨_,rfl,?_⟩
     replace hP:=hK4 r_1 hY5
     refine Q9 (v:=(.int .i64 r_1)) rfl (wpList_nil (Q3 (wp_seq (Q8 (Zu (v:=(.int .i64 r_1)) rfl (y7z (r:=(decide (r_1<(0:Int)))) rfl rfl rfl (wpList_nil (Q3 ?_))))))))
     refine if_d (r_1<(0:Int)) rfl (fun ht9=> ?_) (fun ht9=> ?_)
     ·
      replace hP:=hP.1 ht9
      refine Q8 (Q9 (v:=(.slice none 0 0)) rfl (Q9 (v:=(.int .i64 (12:Int))) rfl (wpList_nil (Q3 (wp_ret (q1v (j78 (q1v (j78 (q1v (ret2 rfl (show ev _ _ _=(.slice none 0 0) from rfl) (show ev _ _ _=(.int .i64 (12:Int)) from rfl) ?_)))))))))))
      have hS50:=hS49.addNil 9 1
      exact ⟨[],(12:Int),(.slice none 0 0),rfl,(St.back (hS50.keep 1 (ms':=[vec (.slice none 0 0) 9 1 0 []]) rfl) (Sub.refl _)),(by simp [Sml]),hP⟩
     ·
      replace hP:=hP.2 ht9
      refine wp_skip (Q3 (Q8 (Zu (v:=v14) rfl (Zu (v:=v13) rfl (Zu (v:=(.int .i64 r_1)) rfl ?_)))))
      obtain ⟨j1_,hj1,hP⟩:=hP
      obtain ⟨x4_,hx4,hP⟩:=hP
      obtain ⟨g2,cp2,hv3⟩:=w9p (hS49.get (i:=0) rfl) (Qv hx4)
      refine q0t (k:=j1_) (a':=⟨g2,j1_*1,none⟩) hv3 rfl hj1 (Qv hx4) Tryz.underlying44 Tryz.sizeOf9 (by simp [G2]) (q8o (v:=(.string x4_)) rfl Tryz.isAgg9 (w06 q6j (j:=0) hv3 (hS49.get (i:=0) rfl) hx4 rfl) (j96 (cs:=[(.string x4_)]) (e:=9) hS49 (fun _=>by kernel_rfl) ?_))
      intro b8 w25 hS51
      obtain ⟨hsm4,hP⟩:=hP
      refine u7n (Ms:=fun v16=>[blk b8 9 [(.string x4_)],vec v13 9 1 left_3.length ((left_3).flatMap Qp),vec v16 9 1 ((out_3++[x4_]).length) ((out_3++[x4_]).flatMap Qp),emap b6 (fun y:Bool=>(Value.bool (y))) F_4,blk b7 268 [(.map (some b6))],blk b3 267 [(.map (some b2))],vec v6 9 1 ((cpt r1_).length) ((cpt r1_).flatMap Qp)]) (k':=(out_3++[x4_]).length) (xs':=(out_3++[x4_]).flatMap Qp) Tryz.underlying44 Tryz.type9 rfl rfl (bytes:=16) rfl rfl (Nat.succ_pos _) hS51 rfl (q:=2) rfl rfl rfl (z0r (hS51.get (i:=0) rfl)) (ones rfl) hsm4 (by omega) (by first|rfl|exact List.length_append.symm|simp) (by simp [Qp]) (fun _=>rfl) ?_
      intro v16 w26 ho12 hS52
      have hS53:=hS52.drop 0 (ms':=[vec v13 9 1 left_3.length ((left_3).flatMap Qp),vec v16 9 1 ((out_3++[x4_]).length) ((out_3++[x4_]).flatMap Qp),emap b6 (fun y:Bool=>(Value.bool (y))) F_4,blk b7 268 [(.map (some b6))],blk b3 267 [(.map (some b2))],vec v6 9 1 ((cpt r1_).length) ((cpt r1_).flatMap Qp)]) rfl
      refine Q9 (v:=v16) rfl (wpList_nil (Q3 (wp_seq (dr (fun z=>St ⟨w,σ,[]⟩ z σ8 [vec v13 9 1 left_3.length ((left_3).flatMap Qp),vec v16 9 1 ((out_3++[x4_]).length) ((out_3++[x4_]).flatMap Qp),blk b7 268 [(.map (some b6))],blk b3 267 [(.map (some b2))],vec v6 9 1 ((cpt r1_).length) ((cpt r1_).flatMap Qp)]) (by kernel_rfl) rfl ?_))))
      have hS54:=hS53.drew
      refine dt 0 1 (v:=(.map (some b6))) (by kernel_rfl) rfl rfl (fun _ _ _ h=>h) (hS54.sublist (.cons_cons _ (.cons_cons _ (.cons _ (List.Sublist.refl _))))) (fun _ hJ _ hK=>q8o (v:=(.map (some b6))) rfl Tryz.isAgg268 (hJ.cell (i:=2) rfl rfl) ⟨rfl,hK⟩) (dt 1 3 (v:=v13) (by kernel_rfl) rfl rfl (fun _ _ _ h=>h) (hS54.sublist (.cons_cons _ (.cons_cons _ (.cons _ (List.Sublist.refl _))))) (fun _ _ _ hK=>Zu (v:=v13) rfl ⟨rfl,hK⟩) (dt 2 7 (v:=(.int .i64 r_1)) (by kernel_rfl) rfl rfl (fun _ _ _ h=>h) (hS54.sublist (.cons_cons _ (.cons_cons _ (.cons _ (List.Sublist.refl _))))) (fun _ _ _ hK=>Zu (v:=(.int .i64 r_1)) rfl ⟨rfl,hK⟩) ?_))
      obtain ⟨j2_,hj2,hP⟩:=hP
      obtain ⟨x5_,hx5,hP⟩:=hP
      obtain ⟨g3,cp3,hv4⟩:=w9p (hS54.get (i:=0) rfl) (Qv hx5)
      refine dt 3 15 (v:=(.pointer (some ⟨g3,j2_*1,none⟩))) (by kernel_rfl) rfl rfl (fun _ _ _ h=>h) (hS54.sublist (.cons_cons _ (.cons_cons _ (.cons _ (List.Sublist.refl _))))) (fun _ _ _ hK=>q0t (k:=j2_) (a':=⟨g3,j2_*1,none⟩) hv4 rfl hj2 (Qv hx5) Tryz.underlying44 Tryz.sizeOf9 (by simp [G2]) ⟨rfl,hK⟩) (dt 4 31 (v:=(.string x5_)) (by kernel_rfl) rfl rfl (fun _ _ _ h=>h) (hS54.sublist (.cons_cons _ (.cons_cons _ (.cons _ (List.Sublist.refl _))))) (fun _ hJ _ hK=>q8o (v:=(.string x5_)) rfl Tryz.isAgg9 (w06 q6j (j:=0) hv4 (hJ.get (i:=0) rfl) hx5 rfl) ⟨rfl,hK⟩) (d1 5 63 (by kernel_rfl) rfl (qa0v (y0:=true) (i:=2) (ms':=[vec v13 9 1 left_3.length ((left_3).flatMap Qp),vec v16 9 1 ((out_3++[x4_]).length) ((out_3++[x4_]).flatMap Qp),emap b6 (fun y:Bool=>(Value.bool (y))) (put F_4 x5_ true),blk b7 268 [(.map (some b6))],blk b3 267 [(.map (some b2))],vec v6 9 1 ((cpt r1_).length) ((cpt r1_).flatMap Qp)]) hS54 rfl rfl rfl rfl Tryz.underlying268 Tryz.underlying9 rfl ?_)))
      intro w27 hS55
      refine wpList_nil ?_
      refine ⟨rfl,(hS55.sublist (.cons_cons _ (.cons_cons _ (.cons _ (List.Sublist.refl _))))),j97 (J':=fun z=>St ⟨w,σ,[]⟩ z σ8 [vec v13 9 1 left_3.length ((left_3).flatMap Qp),vec v16 9 1 ((out_3++[x4_]).length) ((out_3++[x4_]).flatMap Qp),emap b6 (fun y:Bool=>(Value.bool (y))) (put F_4 x5_ true),blk b7 268 [(.map (some b6))],blk b3 267 [(.map (some b2))],vec v6 9 1 ((cpt r1_).length) ((cpt r1_).flatMap Qp)]) (fun w h=>h.sublist (.cons_cons _ (.cons_cons _ (.cons _ (List.Sublist.refl _))))) _ _ _ _ ?_⟩
      refine dz (by kernel_rfl) (Q3 (j4l (Zu (v:=v13) rfl (Zu (v:=(.int .i64 r_1)) rfl (Zu (v:=(.int .i64 r_1)) rfl ?_)))))
      obtain ⟨hi1,hP⟩:=hP
      refine y4e (r:=(r_1+(1:Int))) rfl rfl (nwi rfl hi1) ?_
      obtain ⟨j3_,hj3,hP⟩:=hP
      obtain ⟨hd1,hP⟩:=hP
      obtain ⟨hd2,hP⟩:=hP
      obtain ⟨hsm5,hP⟩:=hP
      have hd3:r_1=((j3_:Nat):Int)/\(r_1+(1:Int))=((j3_+1:Nat):Int):=⟨by omega,by omega⟩
      refine z0b (args:=[v13,(.int .i64 ((j3_:Nat):Int)),(.int .i64 ((j3_+1:Nat):Int))]) (by rw [←hd3.1,←hd3.2];rfl) Tryz.call192 (Calls.mono (y4i (i:=j3_) (j:=(j3_+1)) Tryz.slices_Delete_string hS55.view (hS55.get (i:=0) rfl) (fun b hb=>hS55.off _ (List.mem_of_getElem? (i:=0) rfl) b hb) (by omega) hd2 hd1) ?_)
      rintro _ w28 ⟨v17,rfl,hf2,hg7,ho13⟩
      refine ⟨_,rfl,?_⟩
      have ho14:=q3l ho13
      have hS56:=hS55.growV (i:=0) (o':=vec v17 9 1 ((left_3.take j3_++left_3.drop (j3_+1)).length) ((left_3.take j3_++left_3.drop (j3_+1)).flatMap Qp)) rfl hg7 hf2 ho13 (ms':=[vec v17 9 1 ((left_3.take j3_++left_3.drop (j3_+1)).length) ((left_3.take j3_++left_3.drop (j3_+1)).flatMap Qp),vec v16 9 1 ((out_3++[x4_]).length) ((out_3++[x4_]).flatMap Qp),emap b6 (fun y:Bool=>(Value.bool (y))) (put F_4 x5_ true),blk b7 268 [(.map (some b6))],blk b3 267 [(.map (some b2))],vec v6 9 1 ((cpt r1_).length) ((cpt r1_).flatMap Qp)]) rfl
      refine Q9 (v:=v17) rfl (wpList_nil (y4f (Q3 ?_)))
      exact ⟨left_3.take j3_++left_3.drop (j3_+1),out_3++[x4_],put F_4 x5_ true,_,rfl,hP,v17,v16,σ8,_,(Jl rfl (Jl rfl (Jl rfl (Jl rfl rfl)))),hS56,(Sub.trans hsub7 hsub8),ho14,hsm5,ho12,hsm4⟩
   ·
    replace hP:=hP.2 ht4
    refine wp_exit (z86 (z86 (w0x (Q3 (Q8 (Zu (v:=v14) rfl (Q9 (v:=v14) rfl (Q9 (v:=(.int .i64 (0:Int))) rfl (wpList_nil (Q3 (wp_ret (ret2 rfl (show ev _ _ _=v14 from rfl) (show ev _ _ _=(.int .i64 (0:Int)) from rfl) ?_))))))))))))
    have hS57:=hS45.front 1 rfl (ms':=[vec v14 9 1 out_3.length ((out_3).flatMap Qp),vec v13 9 1 left_3.length ((left_3).flatMap Qp),emap b6 (fun y:Bool=>(Value.bool (y))) F_4,blk b7 268 [(.map (some b6))],blk b3 267 [(.map (some b2))],vec v6 9 1 ((cpt r1_).length) ((cpt r1_).flatMap Qp)]) rfl
    exact ⟨out_3,(0:Int),v14,rfl,(St.back (hS57.keep 1 (ms':=[vec v14 9 1 out_3.length ((out_3).flatMap Qp)]) rfl) (Sub.refl _)),hl9,hP⟩
end Go.Proofs.YtfiomedjdipbgaaGreatDoor
end
noncomputable section
set_option maxRecDepth 100000
open Go Go.RowKit Go.Fl Go.Fl.Lk Go.Fx
namespace Go.En
theorem v0k {σ:Hv} {w:World} {g:Nat} {T:C} {n:Nat} {l:List (car T)} (hV:View σ w) (hs:SRep D (fun _=>none) σ (.pointer (some ⟨g,0,none⟩)) (.fap T n l)) {i j:Nat} {x:car T} {s:FV Sg} (hx:l[i]? =some x) (hj:(D.shape T x)[j]? =some s) (hz:j<D.size T):
  ∃v,w.cell? ⟨g,i*D.size T+j,none⟩=some v/\RepF D σ v s:=by
 generalize hq:Value.pointer (some (⟨g,0,none⟩:Addr))=q at hs
 cases hs with
 |fap ad cs T' N l' hN h hl hr=>
  cases hq
  have hrow:=hr i x hx
  have hlen:=okP.ok.len T x
  have hjl:j<((cs.drop (i*D.size T)).take (D.size T)).length:=by rw [hrow.1,hlen];exact hz
  obtain ⟨v,hv⟩: ∃v,((cs.drop (i*D.size T)).take (D.size T))[j]? =some v:=⟨_,List.getElem?_eq_getElem hjl⟩
  refine ⟨v,?_,hrow.2 j v s hv hj⟩
  rw [List.getElem?_take,if_pos hz,List.getElem?_drop] at hv
  have:=hV.cell (h _ v hv)
  rw [G2,Nat.zero_add] at this
  exact this
theorem u5b: ∀c,c<256->y3m[c]? =some ((Go.Lib.firstT c:Nat):Int):=by decide
theorem qa1l: ∀i,i<16->(w1z[i]?).map (fun a=>(a.lo,a.hi))=some (((Go.Lib.accLo i:Nat):Int),((Go.Lib.accHi i:Nat):Int)):=by decide
theorem tabs {σ:Hv} {w:World} (hV:View σ w) (hG:Glb D σ):Go.Lib.Utf8Tabs (Proofs.Tryz.lays196_ren.g 3) (Proofs.Tryz.lays196_ren.g 4) w:=by
 refine ⟨fun c hc=> ?_,fun i hi=> ?_⟩
 ·have h:=hG.known (Proofs.Tryz.lays196_ren.g 3)
  obtain ⟨v,h1,h2⟩:=v0k (T:= .u8) (n:=256) (l:=y3m) hV h (i:=c) (j:=0) (u5b c hc) rfl (by decide)
  cases h2
  simpa [show D.size C.u8=1 from rfl] using h1
 ·have h:=hG.known (Proofs.Tryz.lays196_ren.g 4)
  have ha:=qa1l i hi
  obtain ⟨a,e1,e2⟩:=Option.map_eq_some_iff.1 ha
  obtain ⟨v,h1,h2⟩:=v0k (T:= .acc) (n:=16) (l:=w1z) hV h (i:=i) (j:=0) e1 rfl (by decide)
  obtain ⟨v',h1',h2'⟩:=v0k (T:= .acc) (n:=16) (l:=w1z) hV h (i:=i) (j:=1) e1 rfl (by decide)
  cases h2;cases h2'
  simp only [Prod.mk.injEq] at e2
  rw [e2.1] at h1;rw [e2.2] at h1'
  refine ⟨by rw [Nat.mul_comm];simpa [show D.size C.acc=2 from rfl] using h1,by rw [Nat.mul_comm];simpa [show D.size C.acc=2 from rfl] using h1'⟩
theorem v9i {w w':World} (h:Below w.heap.size w w'):Keeps [] w w':=⟨h.os,h.tape,h.output,h.size,fun k hk _=>h.block k hk⟩
theorem z2b {σ:Hv} {w w1:World} {args:List (Tr Sg)} {vals:List Value} {K:List (Tr Sg)->List (Tr Sg)->Prop} {rets outs:List (Tr Sg)} {rv:List Value} (hS:St ⟨w,σ,feet []⟩ w σ []) (hK:K rets outs) (hb:Below w.heap.size w w1) (hL:LayL D σ rets rv []) (hT:LayT D σ args outs vals [] []):
  Back D σ w args vals [] K (.returned (retV rv)) w1:=by
 have hk:=v9i hb
 refine ⟨rets,outs,rv,σ,[],[],rfl,hK,hL,hT,?_⟩
 refine ⟨hk,fun b o hbo=> ?_,Sub.refl _,fun _ _ _=>rfl,by simp,by simp,by simp,by simp⟩
 have h1:=hS.view b o hbo
 have hlt:b<w.heap.size:=by
  rcases Nat.lt_or_ge b w.heap.size with h|h
  ·exact h
  ·rw [Array.getElem?_eq_none h] at h1;cases h1
 rw [hk.block b hlt (by simp)];exact h1
theorem j2n:Qe Proofs.Tryz.prog D 246 (conV ([.v]:LP) ([.str]:LV) ([.bool]:LV) ([.same]:LV) (fun a K=>Ws a.1 (fun q0=>K (q0,()) ((),())))):=by
 intro args K hm w σ vals ins hG hL hS
 obtain ⟨a,ha,hm⟩:=Qs hm
 have hargs:=Gd ha
 subst hargs
 obtain ⟨s,_⟩:=a
 cases hL with
 |cons hp hr=>
 cases hr
 cases hp with
 |f hf=>
 cases hf
 have hm:s.size<=9223372036854775807/\K [.f (.bool (Go.Lib.validD s.data.toList))] [.same]:=hm
 refine Calls.mono (Go.Proofs.Any.utf8_ValidString Proofs.Tryz.lays196 s w hm.1 (tabs hS.view hG)) ?_
 rintro e w' ⟨rfl,hb⟩
 exact z2b (rv:=[.bool (Go.Lib.validD s.data.toList)]) hS hm.2 hb (.cons (ms:=[]) (.f (.bool _)) .nil) (.skip (a0:=[]) .nil)
theorem j2o:Qe Proofs.Tryz.prog D 136 (conV ([.v,.v]:LP) ([.str,.str]:LV) ([.bool]:LV) ([.same,.same]:LV) (fun a K=>Bt a.1 a.2.1 (fun q0=>K (q0,()) ((),(),())))):=by
 intro args K hm w σ vals ins hG hL hS
 obtain ⟨a,ha,hm⟩:=Qs hm
 have hargs:=Gd ha
 subst hargs
 obtain ⟨s,t,_⟩:=a
 cases hL with
 |cons hp hr=>
 cases hr with
 |cons hq hr=>
 cases hr
 cases hp with
 |f hf=>
 cases hf
 cases hq with
 |f hf=>
 cases hf
 have hm:s.size<4294967281/\K [.f (.bool (Go.Lib.contains s.data.toList t.data.toList))] [.same,.same]:=hm
 obtain ⟨n,hn⟩:=hG.free 3 .i64 rfl
 refine Calls.mono (Proofs.Tryz.strings_Contains s t n w hm.1 (hS.view.cell hn)) ?_
 rintro e w' ⟨rfl,rfl⟩
 exact z2b (rv:=[.bool (Go.Lib.contains s.data.toList t.data.toList)]) hS hm.2 (Below.refl _ _) (.cons (ms:=[]) (.f (.bool _)) .nil) (.skip (a0:=[]) (.skip (a0:=[]) .nil))
theorem w53:Qe Proofs.Tryz.prog D 270 (conV ([.v]:LP) ([.str]:LV) ([.int .i64,.ifc]:LV) ([.same]:LV) (fun a K=>q17 a.1 (fun q0 q1=>K (q0,q1,()) ((),())))):=by
 intro args K hm w σ vals ins hG hL hS
 obtain ⟨a,ha,hm⟩:=Qs hm
 have hargs:=Gd ha
 subst hargs
 obtain ⟨s,_⟩:=a
 cases hL with
 |cons hp hr=>
 cases hr
 cases hp with
 |f hf=>
 cases hf
 have hm:s.size<=281474976710656/\u5a s (fun n b=>K [.f (.int .i64 n),.f (.ifc b)] [.same]):=hm
 obtain ⟨hsz,hm⟩:=hm
 have err: ∀g:Nat,D.glob g= .fptr [.ifc false] 0-> ∃ev,w.cell? ⟨g,0,none⟩=some ev/\(ev= .nilIface∨ ∃te pe,ev= .iface te pe):=by
  intro g hg
  have h:=hG.known g
  rw [hg] at h
  generalize hq:Value.pointer (some (⟨g,0,none⟩:Addr))=q at h
  cases h with
  |fptr ad cs l off hv hr=>
  cases hq
  obtain ⟨v,hvl⟩: ∃v,cs=[v]:=List.length_eq_one_iff.1 hr.1
  subst hvl
  have hc:=hS.view.cell (hv 0 v rfl)
  have hR:=hr.2 0 v _ rfl rfl
  refine ⟨v,?_,?_⟩
  ·rw [G2] at hc;exact hc
  ·cases hR with
   |ifcS t p=>exact .inr ⟨t,p,rfl⟩
 unfold u5a at hm
 split at hm
 ·rename_i v hv
  refine Calls.mono (Proofs.Tryz.strconv_Atoi_ok s (by omega) v hv w) ?_
  rintro e w' ⟨rfl,hw⟩
  have hb:Below w.heap.size w w':=by
   rcases hw with rfl|⟨t,rfl⟩
   ·exact Below.refl _ _
   ·exact Go.Lib.bytesWorld_below _ _ _
  exact z2b (rv:=[.int .i64 v,.nilIface]) hS hm hb (.cons (ms:=[]) (.f (.int _ _)) (.cons (ms:=[]) (.f .ifcN) .nil)) (.skip (a0:=[]) .nil)
 ·rename_i hv
  obtain ⟨ev,h1,h2⟩:=err 7 rfl
  refine Calls.mono (Proofs.Tryz.strconv_Atoi_range s hsz hv ev w h1 h2) ?_
  rintro e w' ⟨N,rfl,_,_,hb⟩
  exact z2b (rv:=[.int .i64 _,.iface _ _]) hS hm hb (.cons (ms:=[]) (.f (.int _ _)) (.cons (ms:=[]) (.f (.ifcS _ _)) .nil)) (.skip (a0:=[]) .nil)
 ·rename_i hv
  obtain ⟨ev,h1,h2⟩:=err 6 rfl
  refine Calls.mono (Proofs.Tryz.strconv_Atoi_syntax s hsz hv ev w h1 h2) ?_
  rintro e w' ⟨N,rfl,_,_,hb⟩
  exact z2b (rv:=[.int .i64 _,.iface _ _]) hS hm hb (.cons (ms:=[]) (.f (.int _ _)) (.cons (ms:=[]) (.f (.ifcS _ _)) .nil)) (.skip (a0:=[]) .nil)
theorem w0l (l:List ByteArray):l.flatMap Qp=l.map Value.string:=by
 induction l with
 |nil=>rfl
 |cons a l ih=>rw [List.flatMap_cons,List.map_cons,ih];rfl
theorem qa1m (l:List ByteArray):(cpt l).length<=l.length:=by
 unfold cpt Go.Lib.compact
 rw [List.length_map]
 have h: ∀(d:Array (List UInt8)) (m:Nat),(Go.Lib.compactUpTo d m).length<=m:=by
  intro d m
  unfold Go.Lib.compactUpTo
  rw [List.length_map]
  exact Nat.le_trans (List.length_filter_le _ _) (by simp)
 simpa using h _ _
theorem u0o {σ:Hv} {xs:List Value} {l:List ByteArray} (h:Els D σ C.str xs l):xs=l.flatMap Qp:=by
 have h1:xs.length=l.length:=by rw [h.1];exact Nat.mul_one _
 rw [w0l]
 refine List.ext_getElem? fun i=> ?_
 rw [List.getElem?_map]
 rcases Nat.lt_or_ge i l.length with hi|hi
 ·obtain ⟨v,hv⟩: ∃v,xs[i]? =some v:=⟨_,List.getElem?_eq_getElem (by omega)⟩
  obtain ⟨x,hx⟩: ∃x,l[i]? =some x:=⟨_,List.getElem?_eq_getElem hi⟩
  have hR:=(h.2 i x hx).2 0 v (.str x) (by rw [show D.size C.str=1 from rfl,Nat.mul_one,List.getElem?_take,if_pos (by decide),List.getElem?_drop];exact hv) rfl
  rw [hv,hx]
  cases hR
  rfl
 ·rw [List.getElem?_eq_none (by omega),List.getElem?_eq_none hi];rfl
theorem v0l (σ:Hv) (l:List ByteArray):Els D σ C.str (l.flatMap Qp) l:=by
 rw [w0l]
 refine ⟨by rw [List.length_map];exact (Nat.mul_one _).symm,fun i x hx=> ?_⟩
 rw [show D.size C.str=1 from rfl,Nat.mul_one]
 have hx:l[i]? =some x:=hx
 have e:((l.map Value.string).drop i).take 1=[.string x]:=by
  rw [←List.map_drop,List.drop_eq_getElem_cons (List.getElem?_eq_some_iff.1 hx).1,(List.getElem?_eq_some_iff.1 hx).2];rfl
 rw [e]
 refine ⟨rfl,fun j v s hj hs=> ?_⟩
 cases j with
 |zero=>cases hj;cases hs;exact .str x
 |succ j=>cases hj
theorem q7w:Qe Proofs.Tryz.prog D 80 (conV ([.own 9 C.str]:LP) ([.vec 9 C.str]:LV) ([]:LV) ([.vec 9 C.str]:LV) (fun a K=>Zz a.1 (fun q0=>K () (q0,())))):=by
 intro args K hm w σ vals ins hG hL hS
 obtain ⟨a,ha,hm⟩:=Qs hm
 have hargs:=Gd ha
 subst hargs
 obtain ⟨s,_⟩:=a
 cases hL with
 |cons hp hr=>
 cases hr
 cases hp with
 |vec hE hl h1=>
 have hx:=u0o hE
 subst hx
 have hm:K [] [.vec 9 C.str (srt s)]:=hm
 refine Calls.mono (y2s Proofs.Tryz.slices_Sort_string Proofs.Tryz.slices_Sort_string_none hS.view (hS.get (i:=0) rfl) rfl (fun b hb=>hS.off _ (List.mem_of_getElem? (i:=0) rfl) b hb) (by omega)) ?_
 rintro _ w1 ⟨rfl,hg,ho⟩
 have hS1:=hS.growV (i:=0) (o':=vec _ 9 1 s.length ((srt s).flatMap Qp)) rfl hg rfl ho (ms':=[vec _ 9 1 s.length ((srt s).flatMap Qp)]) rfl
 refine ⟨[],_,[],σ,[],[vec _ 9 1 (srt s).length ((srt s).flatMap Qp)],rfl,hm,.nil,.keep (.vec (v0l σ _) (Nat.le_trans (Nat.le_of_eq (W7 _)) hl) h1) .nil,?_⟩
 have e:(srt s).length=s.length:=W7 _
 rw [e];exact hS1
theorem q5o:Qe Proofs.Tryz.prog D 184 (conV ([.own 9 C.str]:LP) ([.vec 9 C.str]:LV) ([.vec 9 C.str]:LV) ([.same]:LV) (fun a K=>Ju a.1 (fun q0=>K (q0,()) ((),())))):=by
 intro args K hm w σ vals ins hG hL hS
 obtain ⟨a,ha,hm⟩:=Qs hm
 have hargs:=Gd ha
 subst hargs
 obtain ⟨s,_⟩:=a
 cases hL with
 |cons hp hr=>
 cases hr
 cases hp with
 |vec hE hl h1=>
 have hx:=u0o hE
 subst hx
 have hm:K [.vec 9 C.str (cpt s)] [.same]:=hm
 refine Calls.mono (w05 Proofs.Tryz.slices_Compact_string Proofs.Tryz.slices_Compact_string_empty hS.view (hS.get (i:=0) rfl) rfl (fun b hb=>hS.off _ (List.mem_of_getElem? (i:=0) rfl) b hb) (by omega)) ?_
 rintro _ w1 ⟨v1,rfl,hf,hg,ho⟩
 have hlc:(cpt s).length<=140737488355328:=Nat.le_trans (qa1m _) hl
 have hS1:=hS.growV (i:=0) (o':=vec v1 9 1 (cpt s).length ((cpt s).flatMap Qp)) rfl hg hf ho (ms':=[vec v1 9 1 (cpt s).length ((cpt s).flatMap Qp)]) rfl
 exact ⟨[.vec 9 C.str (cpt s)],[.same],[v1],σ,[vec v1 9 1 (cpt s).length ((cpt s).flatMap Qp)],[],rfl,hm,.cons (.vec (v0l σ _) hlc (q3l ho)) .nil,.skip .nil,hS1⟩
theorem u87 {σ:Hv} {v:Value} {l:List ByteArray} (h:RepF D σ v (.sl C.str l)):RSl 1 (REnc Qp) σ v l:=by
 obtain ⟨a,cap,e1,e2,e3,e4⟩:=h.toRSl okP.ok
 refine ⟨a,cap,e1,e2,e3,fun i x hx=> ?_⟩
 obtain ⟨ad,cs,f1,f2,f3,f4⟩:=e4 i x hx
 refine ⟨ad,cs,f1,f2,f3,?_⟩
 obtain ⟨u,rfl⟩: ∃u,cs=[u]:=List.length_eq_one_iff.1 f2
 have g1:=f4.2 0 u (.str x) rfl rfl
 cases g1
 rfl
theorem u5c {σ:Hv} {v:Value} {l:List Edg} (h:RepF D σ v (.sl C.edge l)):RSl 2 (REnc qa0x) σ v (l.map fun e=>(e.1,e.2)):=by
 obtain ⟨a,cap,e1,e2,e3,e4⟩:=h.toRSl okP.ok
 have hl:(l.map fun e=>(e.1,e.2)).length=l.length:=List.length_map ..
 refine ⟨a,cap,by rw [hl];exact e1,by rw [hl];exact e2,by rw [hl];exact e3,fun i x hx=> ?_⟩
 rw [List.getElem?_map] at hx
 obtain ⟨y,hy,rfl⟩:=Option.map_eq_some_iff.1 hx
 obtain ⟨ad,cs,f1,f2,f3,f4⟩:=e4 i y hy
 refine ⟨ad,cs,f1,f2,f3,?_⟩
 obtain ⟨u,v,rfl⟩: ∃u v,cs=[u,v]:=by
  match cs,f2 with
  |[u,v],_=>exact ⟨u,v,rfl⟩
 have g1:=f4.2 0 u (.str y.src) rfl rfl
 have g2:=f4.2 1 v (.str y.dst) rfl rfl
 cases g1;cases g2
 rfl
theorem v0m:Qe Proofs.Tryz.prog D 139 (conV ([.sl C.str,.sl C.edge]:LP) ([.sl C.str,.sl C.edge]:LV) ([.vec 9 C.str,.int .i64]:LV) ([.same,.same]:LV) (fun a K=>P_graph_Order a.1 a.2.1 (fun q0 q1=>K (q0,q1,()) ((),(),())))):=by
 intro args K hm w σ vals ins hG hL hS
 obtain ⟨a,ha,hm⟩:=Qs hm
 have hargs:=Gd ha
 subst hargs
 obtain ⟨s,t,_⟩:=a
 cases hL with
 | @cons _ _ v1 _ _ _ hp hr=>
 cases hr with
 | @cons _ _ v2 _ _ _ hq hr=>
 cases hr
 cases hp with
 |f hf1=>
 cases hq with
 |f hf2=>
 have hm:Go.Fl.P_graph_Order s (t.map fun e=>(e.1,e.2)) (fun l n=>K [.vec 9 C.str l,.f (.int .i64 n)] [.same,.same]):=hm
 refine Calls.mono (Go.Proofs.YtfiomedjdipbgaaGreatDoor.w_graph_Order s (t.map fun e=>(e.1,e.2)) v1 v2 hS.view (u87 hf1) (u5c hf2) hm) ?_
 rintro e w1 ⟨l,n,v,rfl,hS1,hsm,hK⟩
 have hl:l.length<=140737488355328:=by unfold Sml at hsm;omega
 exact ⟨[.vec 9 C.str l,.f (.int .i64 n)],[.same,.same],[v,.int .i64 n],σ,[vec v 9 1 l.length (l.flatMap Qp)],[],rfl,hK,.cons (.vec (v0l σ _) hl (q3l (hS1.get (i:=0) rfl))) (.cons (ms:=[]) (.f (.int _ _)) .nil),.skip (a0:=[]) (.skip (a0:=[]) .nil),hS1⟩
theorem w2p:Qe Proofs.Tryz.prog D 231 (conV ([.v,.v]:LP) ([.str,.str]:LV) ([.vec 9 C.str]:LV) ([.same,.same]:LV) (fun a K=>q4a a.1 a.2.1 (fun q0=>K (q0,()) ((),(),())))):=by
 intro args K hm w σ vals ins hG hL hS
 obtain ⟨a,ha,hm⟩:=Qs hm
 have hargs:=Gd ha
 subst hargs
 obtain ⟨s,t,_⟩:=a
 cases hL with
 |cons hp hr=>
 cases hr with
 |cons hq hr=>
 cases hr
 cases hp with
 |f hf=>
 cases hf
 cases hq with
 |f hf=>
 cases hf
 have hm:t.size=1/\s.size<4294967281/\K [.vec 9 C.str (q2u s t)] [.same,.same]:=hm
 obtain ⟨h1,hsz,hm⟩:=hm
 obtain ⟨n,hn⟩:=hG.free 3 .i64 rfl
 have hlen:(q2u s t).length=Go.Lib.countB s t+1:=Go.Lib.splitB_all t (by omega) 0 _ s rfl
 have hcnt:=Go.Lib.countB_le t (by omega) s.size s (Nat.le_refl _)
 refine Calls.mono (Proofs.Tryz.strings_Split s t n w hsz (hS.view.cell hn) (by omega)) ?_
 rintro e w' ⟨rfl,rfl⟩
 have ho:(vec (.slice (some ⟨w.heap.size,0,none⟩) (q2u s t).length (q2u s t).length) 9 1 (q2u s t).length ((q2u s t).flatMap Qp)).ok (w.alloc (.cells ((q2u s t).map Value.string).toArray 9)):=by
  refine ⟨by rw [w0l];simp,.inr ⟨w.heap.size,_,_,rfl,Nat.zero_le _,heap_alloc_new _ _,Nat.le_refl _,by unfold maxLen;omega,by simp,?_⟩⟩
  rw [w0l,Nat.mul_one]
  exact List.take_of_length_le (by rw [List.length_map];exact Nat.le_refl _)
 have hS1:=hS.add (Uo w _) ho (by rintro k ⟨⟩;exact Nat.le_refl _)
 have hl:(q2u s t).length<=140737488355328:=by omega
 have hr:=(⟨[.vec 9 C.str (q2u s t)],[.same,.same],[_],σ,[_],[],rfl,hm,.cons (.vec (v0l σ _) hl (q3l ho)) .nil,.skip (a0:=[]) (.skip (a0:=[]) .nil),hS1⟩:Back D σ w [.f (.str s),.f (.str t)] [.string s,.string t] [] K (.returned (retV [.slice (some ⟨w.heap.size,0,none⟩) (q2u s t).length (q2u s t).length])) (w.alloc (.cells ((q2u s t).map Value.string).toArray 9)))
 rw [hlen] at hr
 exact hr
end Go.En
end
noncomputable section
set_option maxRecDepth 100000
open Go Go.RowKit Go.Fl Go.Fl.Lk Go.Fx
namespace Go.En
theorem q6f:Ent Proofs.Tryz.prog 57:=Qg (by kernel_rfl) (by kernel_rfl) (by kernel_rfl)
def q6v (X:J3):Con Sg:=conV ([]:LP) ([]:LV) ([.vec 177 C.decl]:LV) ([]:LV) (fun _ K=>X (fun q0=>K (q0,()) ()))
def v0n:PT:=Qj ([]:LS)
def v0o:Ev Sg:=E0
theorem z0h:Qe Proofs.Tryz.prog D 57 (q6v W0):=Ql (E:=v0o) (p:=v0n) (fuel:=4) (rk:=[.own 177 C.decl]) h_E0 fun a K=>by kernel_rfl
theorem y5g:Ent Proofs.Tryz.prog 86:=Qg (by kernel_rfl) (by kernel_rfl) (by kernel_rfl)
def y3p (X:j2i):Con Sg:=conV ([.ptr 104 [.c,.v]]:LP) ([.ptr 104 [.sl C.u8,.int .i64]]:LV) ([.bool]:LV) ([.ptr 104 [.same,.int .i64]]:LV) (fun a K=>X a.1.1 a.1.2.1 (fun q0 q1=>K (q0,()) (((),q1,()),())))
def u0p:PT:=Qj ([]:LS)
def u0q:Ev Sg:=E0
theorem u5d:Qe Proofs.Tryz.prog D 86 (y3p w0j):=Ql (E:=u0q) (p:=u0p) (fuel:=4) (rk:=[.v]) h_E0 fun a K=>by kernel_rfl
theorem Vd:Ent Proofs.Tryz.prog 49:=Qg (by kernel_rfl) (by kernel_rfl) (by kernel_rfl)
def Gu (X:Q7):Con Sg:=conV ([.ptr 104 [.c,.v],.v]:LP) ([.ptr 104 [.sl C.u8,.int .i64],.int .i64]:LV) ([.int .i64]:LV) ([.ptr 104 [.same,.int .i64],.same]:LV) (fun a K=>X a.1.1 a.1.2.1 a.2.1 (fun q0 q1=>K (q0,()) (((),q1,()),(),())))
def u0r:PT:=Qj ([]:LS)
def u0s (z8i:j2i):Ev Sg:=(E0.with 86 (y3p z8i))
theorem u5e (z8i:j2i) (h:Ev3 (u0s z8i) Proofs.Tryz.prog D):Qe Proofs.Tryz.prog D 49 (Gu (v0c z8i)):=Ql (p:=u0r) (fuel:=4) (rk:=[.v]) h fun a K=>by kernel_rfl
theorem Rm:Qe Proofs.Tryz.prog D 49 (Gu Zv):=u5e w0j (Qf h_E0 y5g u5d)
theorem z8c:Ent Proofs.Tryz.prog 58:=Qg (by kernel_rfl) (by kernel_rfl) (by kernel_rfl)
def z8d (X:Rb):Con Sg:=conV ([.ptr 104 [.c,.v]]:LP) ([.ptr 104 [.sl C.u8,.int .i64]]:LV) ([.str]:LV) ([.ptr 104 [.same,.int .i64]]:LV) (fun a K=>X a.1.1 a.1.2.1 (fun q0 q1=>K (q0,()) (((),q1,()),())))
def u0t:PT:=Qj ([]:LS)
def u0u (Qa:Q7):Ev Sg:=(E0.with 49 (Gu Qa))
theorem u5f (Qa:Q7) (h:Ev3 (u0u Qa) Proofs.Tryz.prog D):Qe Proofs.Tryz.prog D 58 (z8d (v0d Qa)):=Ql (p:=u0t) (fuel:=4) (rk:=[.v]) h fun a K=>by kernel_rfl
theorem w0m:Qe Proofs.Tryz.prog D 58 (z8d q3p):=u5f Zv (Qf h_E0 Vd Rm)
theorem j5f:Ent Proofs.Tryz.prog 51:=Qg (by kernel_rfl) (by kernel_rfl) (by kernel_rfl)
def j2p (X:q2a):Con Sg:=conV ([.ptr 104 [.c,.v],.v]:LP) ([.ptr 104 [.sl C.u8,.int .i64],.int .i64]:LV) ([.int .i64]:LV) ([.ptr 104 [.same,.int .i64],.same]:LV) (fun a K=>X a.1.1 a.1.2.1 a.2.1 (fun q0 q1=>K (q0,()) (((),q1,()),(),())))
def u0v:PT:=Qj ([]:LS)
def u0w (Qa:Q7):Ev Sg:=(E0.with 49 (Gu Qa))
theorem u5g (Qa:Q7) (h:Ev3 (u0w Qa) Proofs.Tryz.prog D):Qe Proofs.Tryz.prog D 51 (j2p (v0e Qa)):=Ql (p:=u0v) (fuel:=4) (rk:=[.v]) h fun a K=>by kernel_rfl
theorem v0p:Qe Proofs.Tryz.prog D 51 (j2p q7r):=u5g Zv (Qf h_E0 Vd Rm)
theorem w8z:Ent Proofs.Tryz.prog 60:=Qg (by kernel_rfl) (by kernel_rfl) (by kernel_rfl)
def v0q (X:z0e):Con Sg:=conV ([.v,.own 9 C.str]:LP) ([.int .i64,.vec 9 C.str]:LV) ([.sl C.str]:LV) ([.same,.same]:LV) (fun a K=>X a.1 a.2.1 (fun q0=>K (q0,()) ((),(),())))
def u0x:PT:=Qj ([]:LS)
def u0y:Ev Sg:=E0
theorem y3q:Qe Proofs.Tryz.prog D 60 (v0q z72):=Ql (E:=u0y) (p:=u0x) (fuel:=4) (rk:=[.sl C.str]) h_E0 fun a K=>by kernel_rfl
theorem w80:Ent Proofs.Tryz.prog 112:=Qg (by kernel_rfl) (by kernel_rfl) (by kernel_rfl)
def w0n (X:q7s):Con Sg:=conV ([.ptr 104 [.c,.v]]:LP) ([.ptr 104 [.sl C.u8,.int .i64]]:LV) ([.vec 9 C.str]:LV) ([.ptr 104 [.same,.int .i64]]:LV) (fun a K=>X a.1.1 a.1.2.1 (fun q0 q1=>K (q0,()) (((),q1,()),())))
def u0z:PT:=Qj ([(9,⟨[0,2,3,7,8],[],[(0,(104,2))],[(.slot 4,.own 9 C.str),(.slot 5,.int .i64),(.cell 0 1,.int .i64)]⟩),(17,⟨[0,3,4,5,7,8,9,10,11,12],[0],[],[(.slot 6,.int .i64),(.obj 1,.own 9 C.str)]⟩)]:LS)
def u00 (Qa:Q7):Ev Sg:=(E0.with 49 (Gu Qa))
theorem u5h (Qa:Q7) (h:Ev3 (u00 Qa) Proofs.Tryz.prog D):Qe Proofs.Tryz.prog D 112 (w0n (v0f Qa)):=Ql (p:=u0z) (fuel:=4) (rk:=[.own 9 C.str]) h fun a K=>by kernel_rfl
theorem y3r:Qe Proofs.Tryz.prog D 112 (w0n z3b):=u5h Zv (Qf h_E0 Vd Rm)
theorem v4t:Ent Proofs.Tryz.prog 108:=Qg (by kernel_rfl) (by kernel_rfl) (by kernel_rfl)
def v0r (X:z3c):Con Sg:=conV ([.ptr 104 [.c,.v]]:LP) ([.ptr 104 [.sl C.u8,.int .i64]]:LV) ([.str]:LV) ([.ptr 104 [.same,.int .i64]]:LV) (fun a K=>X a.1.1 a.1.2.1 (fun q0 q1=>K (q0,()) (((),q1,()),())))
def u5i:PT:=Qj ([]:LS)
def u5j (Qa:Q7):Ev Sg:=(E0.with 49 (Gu Qa))
theorem u88 (Qa:Q7) (h:Ev3 (u5j Qa) Proofs.Tryz.prog D):Qe Proofs.Tryz.prog D 108 (v0r (v9f Qa)):=Ql (p:=u5i) (fuel:=4) (rk:=[.v]) h fun a K=>by kernel_rfl
theorem u01:Qe Proofs.Tryz.prog D 108 (v0r z99):=u88 Zv (Qf h_E0 Vd Rm)
theorem j0s:Ent Proofs.Tryz.prog 109:=Qg (by kernel_rfl) (by kernel_rfl) (by kernel_rfl)
def z6b (X:Ry):Con Sg:=conV ([.ptr 104 [.c,.v],.v]:LP) ([.ptr 104 [.sl C.u8,.int .i64],.int .i64]:LV) ([.el C.val]:LV) ([.ptr 104 [.same,.int .i64],.same]:LV) (fun a K=>X a.1.1 a.1.2.1 a.2.1 (fun q0 q1=>K (q0,()) (((),q1,()),(),())))
def y5h:PT:=Qj ([]:LS)
def y5i (Qa:Q7) (Jk:Rb):Ev Sg:=((E0.with 49 (Gu Qa)).with 58 (z8d Jk))
theorem u02 (Qa:Q7) (Jk:Rb) (h:Ev3 (y5i Qa Jk) Proofs.Tryz.prog D):Qe Proofs.Tryz.prog D 109 (z6b (j2j Qa Jk)):=Ql (p:=y5h) (fuel:=4) (rk:=[.el C.val]) h fun a K=>by kernel_rfl
theorem w2q:Qe Proofs.Tryz.prog D 109 (z6b G5):=u02 Zv q3p (Qf (Qf h_E0 Vd Rm) z8c w0m)
theorem y5j:Ent Proofs.Tryz.prog 165:=Qg (by kernel_rfl) (by kernel_rfl) (by kernel_rfl)
def v0s (X:z73):Con Sg:=conV ([.ptr 104 [.c,.v]]:LP) ([.ptr 104 [.sl C.u8,.int .i64]]:LV) ([.el C.ex]:LV) ([.ptr 104 [.same,.int .i64]]:LV) (fun a K=>X a.1.1 a.1.2.1 (fun q0 q1=>K (q0,()) (((),q1,()),())))
def u03:PT:=Qj ([(68,⟨[0,2,3,4,5,6,8,9,10,11,12,13,14,15,16,17,23,24,25,26,27,28,29,30,31],[3,2],[(5,(66,5)),(0,(104,2)),(1,(66,5))],[(.cell 5 0,.int .i64),(.cell 5 1,.str),(.cell 5 2,.str),(.cell 5 3,.own 115 C.val),(.cell 5 4,.own 66 C.ex),(.cell 0 1,.int .i64),(.cell 1 0,.int .i64),(.cell 1 1,.str),(.cell 1 2,.str),(.cell 1 3,.own 115 C.val),(.cell 1 4,.own 66 C.ex)]⟩),(60,⟨[0,2,4,5,6,9,11,12,13,14,16,17,24,25,26,27,28,29,30,31,32,33],[],[(0,(104,2)),(5,(66,5)),(1,(66,5))],[(.cell 0 1,.int .i64),(.cell 5 0,.int .i64),(.cell 5 1,.str),(.cell 5 2,.str),(.cell 5 3,.own 115 C.val),(.cell 5 4,.own 66 C.ex),(.cell 1 0,.int .i64),(.cell 1 1,.str),(.cell 1 2,.str),(.cell 1 3,.own 115 C.val),(.cell 1 4,.own 66 C.ex)]⟩),(37,⟨[0,2,4,5,6,9,11,12,13,14,16,17,24,25,26,27,28,29,30,31,32,33,34,35,36,37,46,47,48,49],[1],[(5,(66,5)),(0,(104,2))],[(.slot 7,.int .i64),(.cell 5 3,.own 115 C.val),(.cell 0 1,.int .i64)]⟩)]:LS)
def u04 (Q1:J3) (Qa:Q7) (q51:z3c) (Z8:Ry):Ev Sg:=((((E0.with 57 (q6v Q1)).with 49 (Gu Qa)).with 108 (v0r q51)).with 109 (z6b Z8))
theorem u5k (Q1:J3) (Qa:Q7) (q51:z3c) (Z8:Ry) (h:Ev3 (u04 Q1 Qa q51 Z8) Proofs.Tryz.prog D):Qe Proofs.Tryz.prog D 165 (v0s (v0g Q1 Qa q51 Z8)):=Ql (p:=u03) (fuel:=4) (rk:=[.el C.ex]) h fun a K=>by kernel_rfl
theorem u5l:Qe Proofs.Tryz.prog D 165 (v0s z74):=u5k W0 Zv z99 G5 (Qf (Qf (Qf (Qf h_E0 q6f z0h) Vd Rm) v4t u01) j0s w2q)
theorem j5g:Ent Proofs.Tryz.prog 113:=Qg (by kernel_rfl) (by kernel_rfl) (by kernel_rfl)
def w0o (X:q2b):Con Sg:=conV ([.ptr 104 [.c,.v],.sl C.str,.v]:LP) ([.ptr 104 [.sl C.u8,.int .i64],.sl C.str,.int .i64]:LV) ([.el C.ex]:LV) ([.ptr 104 [.same,.int .i64],.same,.same]:LV) (fun a K=>X a.1.1 a.1.2.1 a.2.1 a.2.2.1 (fun q0 q1=>K (q0,()) (((),q1,()),(),(),())))
def v4u:PT:=Qj ([(8,⟨[0,1,2,6,13,14],[0,1],[],[(.slot 7,.int .i64)]⟩),(28,⟨[0,1,2,6,7,13,14,23,24,25,27,28,40,41],[0,1],[],[(.slot 49,.bool)]⟩),(37,⟨[0,1,2,6,7,8,9,10,13,14,23,24,25,27,28,40,41,49,52,53,54,55,56,57,58,59],[1],[(0,(104,2)),(4,(66,5))],[(.slot 11,.int .i64),(.cell 0 1,.int .i64),(.cell 4 0,.int .i64),(.cell 4 1,.str),(.cell 4 2,.str),(.cell 4 3,.own 115 C.val),(.cell 4 4,.own 66 C.ex)]⟩),(46,⟨[0,1,2,6,7,8,9,10,11,12,13,14,23,24,25,27,28,40,41,49,52,53,54,55,56,57,58,59,60,61,62,65,66,67,68,69],[0,12,11,4],[(13,(66,5))],[(.cell 13 0,.int .i64),(.cell 13 1,.str),(.cell 13 2,.str),(.cell 13 3,.sl C.val),(.cell 13 4,.sl C.ex)]⟩)]:LS)
def v4v (Qa:Q7) (z4l:z73):Ev Sg:=((E0.with 49 (Gu Qa)).with 165 (v0s z4l))
theorem y5k (Qa:Q7) (z4l:z73) (X:q2b) (list:List (Int)) (at_:Int) (segments:List (ByteArray)) (levels:Int) (K:Ex->Int->Prop):w0k Qa z4l X list at_ segments levels K=fnV (((v4v Qa z4l).with 113 (w0o X)).pl v4u) 4 113 ([.ptr 104 [.c,.v],.sl C.str,.v]:LP) ([.el C.ex]:LP) ([.ptr 104 [.sl C.u8,.int .i64],.sl C.str,.int .i64]:LV) ([.el C.ex]:LV) ([.ptr 104 [.same,.int .i64],.same,.same]:LV) ((list,at_,()),segments,levels,()) (fun r o=>K r.1 o.1.2.1):=by kernel_rfl
theorem y3s:Qe Proofs.Tryz.prog D 113 (w0o z3d):=by
 show Qe _ _ _ (conV ([.ptr 104 [.c,.v],.sl C.str,.v]:LP) ([.ptr 104 [.sl C.u8,.int .i64],.sl C.str,.int .i64]:LV) ([.el C.ex]:LV) ([.ptr 104 [.same,.int .i64],.same,.same]:LV) fun a K=>z3d a.1.1 a.1.2.1 a.2.1 a.2.2.1 (fun q0 q1=>K (q0,()) (((),q1,()),(),(),())))
 refine z4p (E:=v4v Zv z74) (fuel:=4) (rk:=[.el C.ex]) (p:=v4u) (Qf (Qf h_E0 Vd Rm) y5j u5l) j5g fun a K h X hX=> ?_
 exact h (fun list at_ segments levels K=>X ((list,at_,()),segments,levels,()) fun r o=>K r.1 o.1.2.1) (fun list at_ segments levels K hs=>hX ((list,at_,()),segments,levels,()) (fun r o=>K r.1 o.1.2.1) (Eq.mp (y5k Zv z74 (fun list at_ segments levels K=>X ((list,at_,()),segments,levels,()) fun r o=>K r.1 o.1.2.1) list at_ segments levels K) hs))
theorem w54:Ent Proofs.Tryz.prog 59:=Qg (by kernel_rfl) (by kernel_rfl) (by kernel_rfl)
def z6c (X:q2v):Con Sg:=conV ([.ptr 104 [.c,.v],.ptr 36 [.v,.v,.v,.sl C.decl,.own 147 C.seg,.own 122 C.flag,.own 59 C.layer,.own 68 C.exper]]:LP) ([.ptr 104 [.sl C.u8,.int .i64],.ptr 36 [.str,.str,.int .i64,.sl C.decl,.vec 147 C.seg,.vec 122 C.flag,.vec 59 C.layer,.vec 68 C.exper]]:LV) ([]:LV) ([.ptr 104 [.same,.int .i64],.ptr 36 [.str,.str,.int .i64,.sl C.decl,.vec 147 C.seg,.vec 122 C.flag,.vec 59 C.layer,.vec 68 C.exper]]:LV) (fun a K=>X a.1.1 a.1.2.1 a.2.1.1 a.2.1.2.1 a.2.1.2.2.1 a.2.1.2.2.2.1 a.2.1.2.2.2.2.1 a.2.1.2.2.2.2.2.1 a.2.1.2.2.2.2.2.2.1 a.2.1.2.2.2.2.2.2.2.1 (fun q0 q1 q2 q3 q4 q5 q6 q7 q8=>K () (((),q0,()),(q1,q2,q3,q4,q5,q6,q7,q8,()),())))
def v0t:PT:=Qj ([(5,⟨[0,1,4,7,8,10],[3,4,5],[(0,(104,2)),(1,(36,8))],[(.slot 5,.int .i64),(.cell 0 1,.int .i64),(.cell 1 4,.own 147 C.seg)]⟩),(14,⟨[0,1,4,5,6,7,8,10,11,12,13,14,17,18,19,20,21,22,23,24,25],[11,10,9,1],[(12,(147,9)),(0,(104,2))],[(.cell 12 1,.str),(.cell 0 1,.int .i64)]⟩),(18,⟨[0,1,4,5,6,7,8,10,11,12,13,14,17,18,19,20,21,22,23,24,25],[11,10,9,1],[(12,(147,9)),(0,(104,2))],[(.cell 12 4,.int .i64),(.cell 12 5,.str),(.cell 12 6,.str),(.cell 12 7,.sl C.val),(.cell 12 8,.sl C.ex),(.cell 0 1,.int .i64)]⟩)]:LS)
def v0u (Qa:Q7) (Rt:z0e) (Bv:q7s) (Bw:q2b):Ev Sg:=((((E0.with 49 (Gu Qa)).with 60 (v0q Rt)).with 112 (w0n Bv)).with 113 (w0o Bw))
theorem v4w (Qa:Q7) (Rt:z0e) (Bv:q7s) (Bw:q2b) (h:Ev3 (v0u Qa Rt Bv Bw) Proofs.Tryz.prog D):Qe Proofs.Tryz.prog D 59 (z6c (z5g Qa Rt Bv Bw)):=Ql (p:=v0t) (fuel:=4) (rk:=[]) h fun a K=>by kernel_rfl
theorem v4x:Qe Proofs.Tryz.prog D 59 (z6c q6l):=v4w Zv z72 z3b z3d (Qf (Qf (Qf (Qf h_E0 Vd Rm) w8z y3q) w80 y3r) j5g y3s)
theorem j5h:Ent Proofs.Tryz.prog 114:=Qg (by kernel_rfl) (by kernel_rfl) (by kernel_rfl)
def z6d (X:B2):Con Sg:=conV ([.el C.env]:LP) ([.el C.env]:LV) ([.vec 9 C.str]:LV) ([.same]:LV) (fun a K=>X a.1 (fun q0=>K (q0,()) ((),())))
def j8c:PT:=Qj ([(7,⟨[0,1,2],[0],[],[(.slot 3,.own 9 C.str),(.slot 4,.int .i64)]⟩)]:LS)
def j8d:Ev Sg:=E0
theorem w2r:Qe Proofs.Tryz.prog D 114 (z6d B3):=Ql (E:=j8d) (p:=j8c) (fuel:=4) (rk:=[.own 9 C.str]) h_E0 fun a K=>by kernel_rfl
theorem w2s:Ent Proofs.Tryz.prog 117:=Qg (by kernel_rfl) (by kernel_rfl) (by kernel_rfl)
def j2q (X:q3q):Con Sg:=conV ([.ptr 104 [.c,.v],.v]:LP) ([.ptr 104 [.sl C.u8,.int .i64],.int .i64]:LV) ([.vec 70 C.range]:LV) ([.ptr 104 [.same,.int .i64],.same]:LV) (fun a K=>X a.1.1 a.1.2.1 a.2.1 (fun q0 q1=>K (q0,()) (((),q1,()),(),())))
def y5l:PT:=Qj ([(26,⟨[0,1,4],[],[(0,(104,2))],[(.slot 5,.own 70 C.range),(.slot 6,.int .i64),(.slot 7,.int .i64),(.cell 0 1,.int .i64)]⟩),(32,⟨[0,1,4,5,6,7,49,50,51,52],[0,1],[],[(.slot 11,.int .i64)]⟩),(9,⟨[0,1,4],[],[(0,(104,2))],[(.slot 5,.own 70 C.range),(.slot 6,.int .i64),(.slot 7,.int .i64),(.slot 8,.int .i64),(.cell 0 1,.int .i64)]⟩),(20,⟨[0,1,4,5,6,7,8,9,12,13,14,15,16,17,18,19,22,23,24,25,26,27,28,29,30],[0,1],[],[(.slot 10,.int .i64)]⟩)]:LS)
def y5m (Qa:Q7) (Wa:q2a):Ev Sg:=((E0.with 49 (Gu Qa)).with 51 (j2p Wa))
theorem u05 (Qa:Q7) (Wa:q2a) (h:Ev3 (y5m Qa Wa) Proofs.Tryz.prog D):Qe Proofs.Tryz.prog D 117 (j2q (w2b Qa Wa)):=Ql (p:=y5l) (fuel:=4) (rk:=[.own 70 C.range]) h fun _ _=>by kernel_rfl
theorem v4y:Qe Proofs.Tryz.prog D 117 (j2q q8w):=u05 Zv q7r (Qf (Qf h_E0 Vd Rm) j5f v0p)
end Go.En
end
noncomputable section
set_option maxRecDepth 100000
open Go Go.RowKit Go.Fl Go.Fl.Lk Go.Fx
namespace Go.En
theorem v9j:Ent Proofs.Tryz.prog 115:=Qg (by kernel_rfl) (by kernel_rfl) (by kernel_rfl)
def w2t (X:z1l):Con Sg:=conV ([.ptr 104 [.c,.v],.v]:LP) ([.ptr 104 [.sl C.u8,.int .i64],.int .i64]:LV) ([.el C.serve]:LV) ([.ptr 104 [.same,.int .i64],.same]:LV) (fun a K=>X a.1.1 a.1.2.1 a.2.1 (fun q0 q1=>K (q0,()) (((),q1,()),(),())))
def y5n:PT:=Qj ([]:LS)
def y5o (Qa:Q7) (Jk:Rb) (Ht:q3q) (Q1:J3):Ev Sg:=((((E0.with 49 (Gu Qa)).with 58 (z8d Jk)).with 117 (j2q Ht)).with 57 (q6v Q1))
theorem u06 (Qa:Q7) (Jk:Rb) (Ht:q3q) (Q1:J3) (h:Ev3 (y5o Qa Jk Ht Q1) Proofs.Tryz.prog D):Qe Proofs.Tryz.prog D 115 (w2t (w2c Qa Jk Ht Q1)):=Ql (p:=y5n) (fuel:=4) (rk:=[.el C.serve]) h fun a K=>by kernel_rfl
theorem u07:Qe Proofs.Tryz.prog D 115 (w2t z5h):=u06 Zv q3p q8w W0 (Qf (Qf (Qf (Qf h_E0 Vd Rm) z8c w0m) w2s v4y) q6f z0h)
theorem v9k:Ent Proofs.Tryz.prog 166:=Qg (by kernel_rfl) (by kernel_rfl) (by kernel_rfl)
def v4z (X:z5i):Con Sg:=conV ([]:LP) ([]:LV) ([.ptr 248 [.vec 318 C.node,.map C.node C.i64,.bool]]:LV) ([]:LV) (fun _ K=>X (fun q0 q1 q2=>K ((q0,q1,q2,()),()) ()))
def y5p:PT:=Qj ([]:LS)
def y5q:Ev Sg:=E0
theorem u08:Qe Proofs.Tryz.prog D 166 (v4z w2d):=Ql (E:=y5q) (p:=y5p) (fuel:=4) (rk:=[.ptr 248 [.own 318 C.node,.map C.node C.i64,.v]]) h_E0 fun a K=>by kernel_rfl
theorem q7x:Ent Proofs.Tryz.prog 143:=Qg (by kernel_rfl) (by kernel_rfl) (by kernel_rfl)
def q9l (X:Wb):Con Sg:=conV ([.v]:LP) ([.int .i64]:LV) ([.bool]:LV) ([.same]:LV) (fun a K=>X a.1 (fun q0=>K (q0,()) ((),())))
def v40:PT:=Qj ([]:LS)
def v41:Ev Sg:=E0
theorem z3r:Qe Proofs.Tryz.prog D 143 (q9l Wc):=Ql (E:=v41) (p:=v40) (fuel:=4) (rk:=[.v]) h_E0 fun a K=>by kernel_rfl
theorem v9l:Ent Proofs.Tryz.prog 204:=Qg (by kernel_rfl) (by kernel_rfl) (by kernel_rfl)
def v42 (X:z5j):Con Sg:=conV ([.sl C.str,.sl C.str]:LP) ([.sl C.str,.sl C.str]:LV) ([.bool]:LV) ([.same,.same]:LV) (fun a K=>X a.1 a.2.1 (fun q0=>K (q0,()) ((),(),())))
def y5r:PT:=Qj ([(9,⟨[0,1,6,7,8,9,10],[],[],[(.slot 5,.int .i64)]⟩)]:LS)
def y5s:Ev Sg:=E0
theorem u09:Qe Proofs.Tryz.prog D 204 (v42 z5k):=Ql (E:=y5s) (p:=y5r) (fuel:=4) (rk:=[.v]) h_E0 fun a K=>by kernel_rfl
theorem v43:Ent Proofs.Tryz.prog 144:=Qg (by kernel_rfl) (by kernel_rfl) (by kernel_rfl)
def j5i (X:q4z):Con Sg:=conV ([.el C.val,.el C.val]:LP) ([.el C.val,.el C.val]:LV) ([.bool]:LV) ([.same,.same]:LV) (fun a K=>X a.1 a.2.1 (fun q0=>K (q0,()) ((),(),())))
def v9m:PT:=Qj ([]:LS)
def v9n (z2n:z5j):Ev Sg:=(E0.with 204 (v42 z2n))
theorem y5t (z2n:z5j) (h:Ev3 (v9n z2n) Proofs.Tryz.prog D):Qe Proofs.Tryz.prog D 144 (j5i (j44 z2n)):=Ql (p:=v9m) (fuel:=4) (rk:=[.v]) h fun a K=>by kernel_rfl
theorem y5u:Qe Proofs.Tryz.prog D 144 (j5i q40):=y5t z5k (Qf h_E0 v9l u09)
theorem j5j:Ent Proofs.Tryz.prog 278:=Qg (by kernel_rfl) (by kernel_rfl) (by kernel_rfl)
def q9m (X:G6):Con Sg:=conV ([.sl C.val,.sl C.val]:LP) ([.sl C.val,.sl C.val]:LV) ([.bool]:LV) ([.same,.same]:LV) (fun a K=>X a.1 a.2.1 (fun q0=>K (q0,()) ((),(),())))
def j8e:PT:=Qj ([(9,⟨[0,1,6,7,8,9,10],[],[],[(.slot 5,.int .i64)]⟩)]:LS)
def j8f (Bh:q4z):Ev Sg:=(E0.with 144 (j5i Bh))
theorem w2u (Bh:q4z) (h:Ev3 (j8f Bh) Proofs.Tryz.prog D):Qe Proofs.Tryz.prog D 278 (q9m (q8x Bh)):=Ql (p:=j8e) (fuel:=4) (rk:=[.v]) h fun a K=>by kernel_rfl
theorem w2v:Qe Proofs.Tryz.prog D 278 (q9m G7):=w2u q40 (Qf h_E0 v43 y5u)
theorem z6e:Ent Proofs.Tryz.prog 259:=Qg (by kernel_rfl) (by kernel_rfl) (by kernel_rfl)
def z3s (X:V3):Con Sg:=conV ([.el C.ex,.el C.ex]:LP) ([.el C.ex,.el C.ex]:LV) ([.bool]:LV) ([.same,.same]:LV) (fun a K=>X a.1 a.2.1 (fun q0=>K (q0,()) ((),(),())))
def z9f:PT:=Qj ([(280000009,⟨[0,1,6,7,8,9,10],[],[],[(.slot 5,.int .i64)]⟩)]:LS)
def z9g (Hu:G6):Ev Sg:=(E0.with 278 (q9m Hu))
theorem w2w (Hu:G6) (X:V3) (a:Ex) (b:Ex) (K:Bool->Prop):z3e Hu X a b K=fnV (((z9g Hu).with 259 (z3s X)).pl z9f) 4 259 ([.el C.ex,.el C.ex]:LP) ([.v]:LP) ([.el C.ex,.el C.ex]:LV) ([.bool]:LV) ([.same,.same]:LV) (a,b,()) (fun r _=>K r.1):=by kernel_rfl
theorem v0v:Qe Proofs.Tryz.prog D 259 (z3s q0y):=by
 show Qe _ _ _ (conV ([.el C.ex,.el C.ex]:LP) ([.el C.ex,.el C.ex]:LV) ([.bool]:LV) ([.same,.same]:LV) fun a K=>q0y a.1 a.2.1 (fun q0=>K (q0,()) ((),(),())))
 refine z4p (E:=z9g G7) (fuel:=4) (rk:=[.v]) (p:=z9f) (Qf h_E0 j5j w2v) z6e fun a K h X hX=> ?_
 exact h (fun a b K=>X (a,b,()) fun r _=>K r.1) (fun a b K hs=>hX (a,b,()) (fun r _=>K r.1) (Eq.mp (w2w G7 (fun a b K=>X (a,b,()) fun r _=>K r.1) a b K) hs))
theorem j2r:Ent Proofs.Tryz.prog 221:=Qg (by kernel_rfl) (by kernel_rfl) (by kernel_rfl)
def z3t (X:Rd):Con Sg:=conV ([.sl C.ex,.el C.ex]:LP) ([.sl C.ex,.el C.ex]:LV) ([.int .i64]:LV) ([.same,.same]:LV) (fun a K=>X a.1 a.2.1 (fun q0=>K (q0,()) ((),(),())))
def v44:PT:=Qj ([(5,⟨[0,1,3],[0],[],[(.slot 5,.int .i64)]⟩)]:LS)
def v45 (q1g:V3):Ev Sg:=(E0.with 259 (z3s q1g))
theorem v9o (q1g:V3) (h:Ev3 (v45 q1g) Proofs.Tryz.prog D):Qe Proofs.Tryz.prog D 221 (z3t (j0a q1g)):=Ql (p:=v44) (fuel:=4) (rk:=[.v]) h fun a K=>by kernel_rfl
theorem w2x:Qe Proofs.Tryz.prog D 221 (z3t Gy):=v9o q0y (Qf h_E0 z6e v0v)
theorem z4r:Ent Proofs.Tryz.prog 218:=Qg (by kernel_rfl) (by kernel_rfl) (by kernel_rfl)
def z01 (X:Vi):Con Sg:=conV ([.sl C.ex,.el C.ex]:LP) ([.sl C.ex,.el C.ex]:LV) ([.sl C.ex]:LV) ([.same,.same]:LV) (fun a K=>X a.1 a.2.1 (fun q0=>K (q0,()) ((),(),())))
def z6f:PT:=Qj ([(6,⟨[1,3,4],[0],[],[(.slot 0,.sl C.ex)]⟩),(9,⟨[1,3,4],[0],[],[(.slot 0,.sl C.ex),(.slot 5,.int .i64)]⟩)]:LS)
def z6g (Wv:Rd) (Q2:Wb):Ev Sg:=((E0.with 221 (z3t Wv)).with 143 (q9l Q2))
theorem j8g (Wv:Rd) (Q2:Wb) (X:Vi) (l:List (Ex)) (e:Ex) (K:List (Ex)->Prop):z0u Wv Q2 X l e K=fnV (((z6g Wv Q2).with 218 (z01 X)).pl z6f) 4 218 ([.sl C.ex,.el C.ex]:LP) ([.sl C.ex]:LP) ([.sl C.ex,.el C.ex]:LV) ([.sl C.ex]:LV) ([.same,.same]:LV) (l,e,()) (fun r _=>K r.1):=by kernel_rfl
theorem w55:Qe Proofs.Tryz.prog D 218 (z01 q11):=by
 show Qe _ _ _ (conV ([.sl C.ex,.el C.ex]:LP) ([.sl C.ex,.el C.ex]:LV) ([.sl C.ex]:LV) ([.same,.same]:LV) fun a K=>q11 a.1 a.2.1 (fun q0=>K (q0,()) ((),(),())))
 refine z4p (E:=z6g Gy Wc) (fuel:=4) (rk:=[.sl C.ex]) (p:=z6f) (Qf (Qf h_E0 j2r w2x) q7x z3r) z4r fun a K h X hX=> ?_
 exact h (fun l e K=>X (l,e,()) fun r _=>K r.1) (fun l e K hs=>hX (l,e,()) (fun r _=>K r.1) (Eq.mp (j8g Gy Wc (fun l e K=>X (l,e,()) fun r _=>K r.1) l e K) hs))
theorem j5k:Ent Proofs.Tryz.prog 167:=Qg (by kernel_rfl) (by kernel_rfl) (by kernel_rfl)
def q9n (X:G8):Con Sg:=conV ([.sl C.rule]:LP) ([.sl C.rule]:LV) ([.sl C.ex]:LV) ([.same]:LV) (fun a K=>X a.1 (fun q0=>K (q0,()) ((),())))
def j8h:PT:=Qj ([(7,⟨[0,2],[],[],[(.slot 3,.sl C.ex),(.slot 4,.int .i64)]⟩)]:LS)
def j8i (Bi:Vi):Ev Sg:=(E0.with 218 (z01 Bi))
theorem w2y (Bi:Vi) (h:Ev3 (j8i Bi) Proofs.Tryz.prog D):Qe Proofs.Tryz.prog D 167 (q9n (q8y Bi)):=Ql (p:=j8h) (fuel:=4) (rk:=[.sl C.ex]) h fun a K=>by kernel_rfl
theorem w2z:Qe Proofs.Tryz.prog D 167 (q9n B4):=w2y q11 (Qf h_E0 z4r w55)
theorem q4i:Ent Proofs.Tryz.prog 260:=Qg (by kernel_rfl) (by kernel_rfl) (by kernel_rfl)
def q4j (X:Jh):Con Sg:=conV ([.ptr 248 [.own 318 C.node,.map C.node C.i64,.v],.v]:LP) ([.ptr 248 [.vec 318 C.node,.map C.node C.i64,.bool],.int .i64]:LV) ([.bool]:LV) ([.ptr 248 [.vec 318 C.node,.map C.node C.i64,.bool],.same]:LV) (fun a K=>X a.1.1 a.1.2.1 a.1.2.2.1 a.2.1 (fun q0 q1 q2 q3=>K (q0,()) ((q1,q2,q3,()),(),())))
def w56:PT:=Qj ([]:LS)
def w57:Ev Sg:=E0
theorem q7y:Qe Proofs.Tryz.prog D 260 (q4j Wn):=Ql (E:=w57) (p:=w56) (fuel:=4) (rk:=[.v]) h_E0 fun a K=>by kernel_rfl
theorem j2s:Ent Proofs.Tryz.prog 280:=Qg (by kernel_rfl) (by kernel_rfl) (by kernel_rfl)
def z4s (X:Rz):Con Sg:=conV ([.ptr 248 [.own 318 C.node,.map C.node C.i64,.v],.v]:LP) ([.ptr 248 [.vec 318 C.node,.map C.node C.i64,.bool],.int .i64]:LV) ([.map C.i64 C.bool]:LV) ([.ptr 248 [.vec 318 C.node,.map C.node C.i64,.bool],.same]:LV) (fun a K=>X a.1.1 a.1.2.1 a.1.2.2.1 a.2.1 (fun q0 q1 q2 q3=>K (q0,()) ((q1,q2,q3,()),(),())))
def j5l:PT:=Qj ([(7,⟨[0,1,4,5,8,9,10],[0,1,2],[],[(.slot 6,.own 3 C.i64),(.obj 3,.map C.i64 C.bool)]⟩)]:LS)
def j5m:Ev Sg:=E0
theorem j8j:Qe Proofs.Tryz.prog D 280 (z4s R0):=Ql (E:=j5m) (p:=j5l) (fuel:=4) (rk:=[.map C.i64 C.bool]) h_E0 fun a K=>by kernel_rfl
theorem j0t:Ent Proofs.Tryz.prog 262:=Qg (by kernel_rfl) (by kernel_rfl) (by kernel_rfl)
def q5p (X:V9):Con Sg:=conV ([.ptr 248 [.own 318 C.node,.map C.node C.i64,.v],.v]:LP) ([.ptr 248 [.vec 318 C.node,.map C.node C.i64,.bool],.int .i64]:LV) ([.vec 3 C.i64]:LV) ([.ptr 248 [.vec 318 C.node,.map C.node C.i64,.bool],.same]:LV) (fun a K=>X a.1.1 a.1.2.1 a.1.2.2.1 a.2.1 (fun q0 q1 q2 q3=>K (q0,()) ((q1,q2,q3,()),(),())))
def j2t:PT:=Qj ([(13,⟨[0,1,4,5,8,9,10,11,12,13,14],[5,0,4,2],[],[(.slot 6,.own 3 C.i64),(.slot 7,.int .i64)]⟩)]:LS)
def j2u (Qx:Jh) (U7:Rz):Ev Sg:=((E0.with 260 (q4j Qx)).with 280 (z4s U7))
theorem j5n (Qx:Jh) (U7:Rz) (h:Ev3 (j2u Qx U7) Proofs.Tryz.prog D):Qe Proofs.Tryz.prog D 262 (q5p (z1m Qx U7)):=Ql (p:=j2t) (fuel:=4) (rk:=[.own 3 C.i64]) h fun a K=>by kernel_rfl
theorem j5o:Qe Proofs.Tryz.prog D 262 (q5p G9):=j5n Wn R0 (Qf (Qf h_E0 q4i q7y) j2s j8j)
theorem Bq:Ent Proofs.Tryz.prog 223:=Qg (by kernel_rfl) (by kernel_rfl) (by kernel_rfl)
def V2 (X:Zd):Con Sg:=conV ([.ptr 248 [.own 318 C.node,.map C.node C.i64,.v],.v]:LP) ([.ptr 248 [.vec 318 C.node,.map C.node C.i64,.bool],.int .i64]:LV) ([.bool]:LV) ([.ptr 248 [.vec 318 C.node,.map C.node C.i64,.bool],.same]:LV) (fun a K=>X a.1.1 a.1.2.1 a.1.2.2.1 a.2.1 (fun q0 q1 q2 q3=>K (q0,()) ((q1,q2,q3,()),(),())))
def z6h:PT:=Qj ([(11,⟨[0,1,5,7,8,9,10,11,12,13],[5,0,4,2],[],[(.slot 6,.int .i64)]⟩)]:LS)
def z6i (Qx:Jh) (Ue:V9):Ev Sg:=((E0.with 260 (q4j Qx)).with 262 (q5p Ue))
theorem z8l (Qx:Jh) (Ue:V9) (h:Ev3 (z6i Qx Ue) Proofs.Tryz.prog D):Qe Proofs.Tryz.prog D 223 (V2 (q7k Qx Ue)):=Ql (p:=z6h) (fuel:=4) (rk:=[.v]) h fun _ _=>by kernel_rfl
theorem q1x:Qe Proofs.Tryz.prog D 223 (V2 Z3):=z8l Wn G9 (Qf (Qf h_E0 q4i q7y) j0t j5o)
end Go.En
end
noncomputable section
set_option maxRecDepth 100000
open Go Go.RowKit Go.Fl Go.Fl.Lk Go.Fx
namespace Go.En
theorem q7a:Ent Proofs.Tryz.prog 261:=Qg (by kernel_rfl) (by kernel_rfl) (by kernel_rfl)
def q6g (X:J5):Con Sg:=conV ([.ptr 248 [.own 318 C.node,.map C.node C.i64,.v],.v]:LP) ([.ptr 248 [.vec 318 C.node,.map C.node C.i64,.bool],.int .i64]:LV) ([.int .i64]:LV) ([.ptr 248 [.vec 318 C.node,.map C.node C.i64,.bool],.same]:LV) (fun a K=>X a.1.1 a.1.2.1 a.1.2.2.1 a.2.1 (fun q0 q1 q2 q3=>K (q0,()) ((q1,q2,q3,()),(),())))
def w29:PT:=Qj ([]:LS)
def w3a:Ev Sg:=E0
theorem z02:Qe Proofs.Tryz.prog D 261 (q6g J6):=Ql (E:=w3a) (p:=w29) (fuel:=4) (rk:=[.v]) h_E0 fun a K=>by kernel_rfl
theorem j2v:Ent Proofs.Tryz.prog 281:=Qg (by kernel_rfl) (by kernel_rfl) (by kernel_rfl)
def q7b (X:U1):Con Sg:=conV ([.ptr 248 [.own 318 C.node,.map C.node C.i64,.v],.v,.v]:LP) ([.ptr 248 [.vec 318 C.node,.map C.node C.i64,.bool],.int .i64,.int .i64]:LV) ([.int .i64,.int .i64]:LV) ([.ptr 248 [.vec 318 C.node,.map C.node C.i64,.bool],.same,.same]:LV) (fun a K=>X a.1.1 a.1.2.1 a.1.2.2.1 a.2.1 a.2.2.1 (fun q0 q1 q2 q3 q4=>K (q0,q1,()) ((q2,q3,q4,()),(),(),())))
def j5p:PT:=Qj ([]:LS)
def j5q (Q4:J5):Ev Sg:=(E0.with 261 (q6g Q4))
theorem j8k (Q4:J5) (h:Ev3 (j5q Q4) Proofs.Tryz.prog D):Qe Proofs.Tryz.prog D 281 (q7b (z4q Q4)):=Ql (p:=j5p) (fuel:=4) (rk:=[.v,.v]) h fun a K=>by kernel_rfl
theorem j8l:Qe Proofs.Tryz.prog D 281 (q7b Vz):=j8k J6 (Qf h_E0 q7a z02)
theorem z2c:Ent Proofs.Tryz.prog 222:=Qg (by kernel_rfl) (by kernel_rfl) (by kernel_rfl)
def q4k (X:Wo):Con Sg:=conV ([.ptr 248 [.own 318 C.node,.map C.node C.i64,.v],.v,.v,.v]:LP) ([.ptr 248 [.vec 318 C.node,.map C.node C.i64,.bool],.int .i64,.int .i64,.int .i64]:LV) ([.int .i64]:LV) ([.ptr 248 [.vec 318 C.node,.map C.node C.i64,.bool],.same,.same,.same]:LV) (fun a K=>X a.1.1 a.1.2.1 a.1.2.2.1 a.2.1 a.2.2.1 a.2.2.2.1 (fun q0 q1 q2 q3=>K (q0,()) ((q1,q2,q3,()),(),(),(),())))
def j8m:PT:=Qj ([]:LS)
def j8n (Qx:Jh) (Q4:J5):Ev Sg:=((E0.with 260 (q4j Qx)).with 261 (q6g Q4))
theorem w3b (Qx:Jh) (Q4:J5) (h:Ev3 (j8n Qx Q4) Proofs.Tryz.prog D):Qe Proofs.Tryz.prog D 222 (q4k (z5l Qx Q4)):=Ql (p:=j8m) (fuel:=4) (rk:=[.v]) h fun a K=>by kernel_rfl
theorem z6j:Qe Proofs.Tryz.prog D 222 (q4k J7):=w3b Wn J6 (Qf (Qf h_E0 q4i q7y) q7a z02)
theorem q9o:Ent Proofs.Tryz.prog 263:=Qg (by kernel_rfl) (by kernel_rfl) (by kernel_rfl)
def q5q (X:Jp):Con Sg:=conV ([.ptr 248 [.own 318 C.node,.map C.node C.i64,.v],.v,.v,.v,.map C.a3 C.i64]:LP) ([.ptr 248 [.vec 318 C.node,.map C.node C.i64,.bool],.int .i64,.int .i64,.int .i64,.map C.a3 C.i64]:LV) ([.int .i64]:LV) ([.ptr 248 [.vec 318 C.node,.map C.node C.i64,.bool],.same,.same,.same,.map C.a3 C.i64]:LV) (fun a K=>X a.1.1 a.1.2.1 a.1.2.2.1 a.2.1 a.2.2.1 a.2.2.2.1 a.2.2.2.2.1 (fun q0 q1 q2 q3 q4=>K (q0,()) ((q1,q2,q3,()),(),(),(),q4,())))
def z0i:PT:=Qj ([(36,⟨[0,1,2,3,4,10,11,12,13,14,15,16,17,18,19,20,21,22,24,25,26,27,28,29,30,31,33,34,35,37,38,39,40,41,42,43,44,45,46,47,49,50,51,52,53,54,55,56,57,58,59,60,61,62,63,64,65,66,67,68,69,70,71,72,73,74,75,76,77,78,79,80,81,82,83,84,85,86,87,88,89,90,91],[3,4],[(0,(248,3))],[(.slot 23,.int .i64),(.cell 0 0,.own 318 C.node),(.cell 0 2,.bool),(.obj 2,.map C.node C.i64)]⟩)]:LS)
def z0j (Q4:J5) (W4:U1) (Z9:Wo):Ev Sg:=(((E0.with 261 (q6g Q4)).with 281 (q7b W4)).with 222 (q4k Z9))
theorem j0u (Q4:J5) (W4:U1) (Z9:Wo) (X:Jp) (ns:List (Nd)) (ids:(Nd->Option (Int))) (full:Bool) (f:Int) (g:Int) (h:Int) (known:(A3->Option (Int))) (K:Int->List (Nd)->(Nd->Option (Int))->Bool->(A3->Option (Int))->Prop):Ha Q4 W4 Z9 X ns ids full f g h known K=fnV (((z0j Q4 W4 Z9).with 263 (q5q X)).pl z0i) 4 263 ([.ptr 248 [.own 318 C.node,.map C.node C.i64,.v],.v,.v,.v,.map C.a3 C.i64]:LP) ([.v]:LP) ([.ptr 248 [.vec 318 C.node,.map C.node C.i64,.bool],.int .i64,.int .i64,.int .i64,.map C.a3 C.i64]:LV) ([.int .i64]:LV) ([.ptr 248 [.vec 318 C.node,.map C.node C.i64,.bool],.same,.same,.same,.map C.a3 C.i64]:LV) ((ns,ids,full,()),f,g,h,known,()) (fun r o=>K r.1 o.1.1 o.1.2.1 o.1.2.2.1 o.2.2.2.2.1):=by kernel_rfl
theorem j5r:Qe Proofs.Tryz.prog D 263 (q5q Hb):=by
 show Qe _ _ _ (conV ([.ptr 248 [.own 318 C.node,.map C.node C.i64,.v],.v,.v,.v,.map C.a3 C.i64]:LP) ([.ptr 248 [.vec 318 C.node,.map C.node C.i64,.bool],.int .i64,.int .i64,.int .i64,.map C.a3 C.i64]:LV) ([.int .i64]:LV) ([.ptr 248 [.vec 318 C.node,.map C.node C.i64,.bool],.same,.same,.same,.map C.a3 C.i64]:LV) fun a K=>Hb a.1.1 a.1.2.1 a.1.2.2.1 a.2.1 a.2.2.1 a.2.2.2.1 a.2.2.2.2.1 (fun q0 q1 q2 q3 q4=>K (q0,()) ((q1,q2,q3,()),(),(),(),q4,())))
 refine z4p (E:=z0j J6 Vz J7) (fuel:=4) (rk:=[.v]) (p:=z0i) (Qf (Qf (Qf h_E0 q7a z02) j2v j8l) z2c z6j) q9o fun a K h X hX=> ?_
 exact h (fun ns ids full f g h known K=>X ((ns,ids,full,()),f,g,h,known,()) fun r o=>K r.1 o.1.1 o.1.2.1 o.1.2.2.1 o.2.2.2.2.1) (fun ns ids full f g h known K hs=>hX ((ns,ids,full,()),f,g,h,known,()) (fun r o=>K r.1 o.1.1 o.1.2.1 o.1.2.2.1 o.2.2.2.2.1) (Eq.mp (j0u J6 Vz J7 (fun ns ids full f g h known K=>X ((ns,ids,full,()),f,g,h,known,()) fun r o=>K r.1 o.1.1 o.1.2.1 o.1.2.2.1 o.2.2.2.2.1) ns ids full f g h known K) hs))
theorem q2m:Ent Proofs.Tryz.prog 224:=Qg (by kernel_rfl) (by kernel_rfl) (by kernel_rfl)
def Hp (X:Zt):Con Sg:=conV ([.ptr 248 [.own 318 C.node,.map C.node C.i64,.v],.v,.v,.v]:LP) ([.ptr 248 [.vec 318 C.node,.map C.node C.i64,.bool],.int .i64,.int .i64,.int .i64]:LV) ([.int .i64]:LV) ([.ptr 248 [.vec 318 C.node,.map C.node C.i64,.bool],.same,.same,.same]:LV) (fun a K=>X a.1.1 a.1.2.1 a.1.2.2.1 a.2.1 a.2.2.1 a.2.2.2.1 (fun q0 q1 q2 q3=>K (q0,()) ((q1,q2,q3,()),(),(),(),())))
def j2w:PT:=Qj ([]:LS)
def j2x (Qr:Zd) (Qx:Jh) (Uf:Jp):Ev Sg:=(((E0.with 223 (V2 Qr)).with 260 (q4j Qx)).with 263 (q5q Uf))
theorem j5s (Qr:Zd) (Qx:Jh) (Uf:Jp) (h:Ev3 (j2x Qr Qx Uf) Proofs.Tryz.prog D):Qe Proofs.Tryz.prog D 224 (Hp (z1n Qr Qx Uf)):=Ql (p:=j2w) (fuel:=4) (rk:=[.v]) h fun a K=>by kernel_rfl
theorem q5r:Qe Proofs.Tryz.prog D 224 (Hp Jq):=j5s Z3 Wn Hb (Qf (Qf (Qf h_E0 Bq q1x) q4i q7y) q9o j5r)
theorem j8o:Ent Proofs.Tryz.prog 219:=Qg (by kernel_rfl) (by kernel_rfl) (by kernel_rfl)
def z03 (X:Ba):Con Sg:=conV ([.ptr 248 [.own 318 C.node,.map C.node C.i64,.v],.v]:LP) ([.ptr 248 [.vec 318 C.node,.map C.node C.i64,.bool],.int .i64]:LV) ([.int .i64]:LV) ([.ptr 248 [.vec 318 C.node,.map C.node C.i64,.bool],.same]:LV) (fun a K=>X a.1.1 a.1.2.1 a.1.2.2.1 a.2.1 (fun q0 q1 q2 q3=>K (q0,()) ((q1,q2,q3,()),(),())))
def w3c:PT:=Qj ([]:LS)
def w3d (Qy:Zt):Ev Sg:=(E0.with 224 (Hp Qy))
theorem w58 (Qy:Zt) (h:Ev3 (w3d Qy) Proofs.Tryz.prog D):Qe Proofs.Tryz.prog D 219 (z03 (z9c Qy)):=Ql (p:=w3c) (fuel:=4) (rk:=[.v]) h fun a K=>by kernel_rfl
theorem w59:Qe Proofs.Tryz.prog D 219 (z03 Bb):=w58 Jq (Qf h_E0 q2m q5r)
theorem j8p:Ent Proofs.Tryz.prog 220:=Qg (by kernel_rfl) (by kernel_rfl) (by kernel_rfl)
def z04 (X:Bc):Con Sg:=conV ([.ptr 248 [.own 318 C.node,.map C.node C.i64,.v],.v,.v]:LP) ([.ptr 248 [.vec 318 C.node,.map C.node C.i64,.bool],.int .i64,.int .i64]:LV) ([.int .i64]:LV) ([.ptr 248 [.vec 318 C.node,.map C.node C.i64,.bool],.same,.same]:LV) (fun a K=>X a.1.1 a.1.2.1 a.1.2.2.1 a.2.1 a.2.2.1 (fun q0 q1 q2 q3=>K (q0,()) ((q1,q2,q3,()),(),(),())))
def w3e:PT:=Qj ([]:LS)
def w3f (Qr:Zd) (Qy:Zt):Ev Sg:=((E0.with 223 (V2 Qr)).with 224 (Hp Qy))
theorem w6a (Qr:Zd) (Qy:Zt) (h:Ev3 (w3f Qr Qy) Proofs.Tryz.prog D):Qe Proofs.Tryz.prog D 220 (z04 (z9d Qr Qy)):=Ql (p:=w3e) (fuel:=4) (rk:=[.v]) h fun a K=>by kernel_rfl
theorem w6b:Qe Proofs.Tryz.prog D 220 (z04 Bd):=w6a Z3 Jq (Qf (Qf h_E0 Bq q1x) q2m q5r)
theorem z6k:Ent Proofs.Tryz.prog 169:=Qg (by kernel_rfl) (by kernel_rfl) (by kernel_rfl)
def q7z (X:V4):Con Sg:=conV ([.ptr 248 [.own 318 C.node,.map C.node C.i64,.v],.v,.v]:LP) ([.ptr 248 [.vec 318 C.node,.map C.node C.i64,.bool],.int .i64,.int .i64]:LV) ([.int .i64]:LV) ([.ptr 248 [.vec 318 C.node,.map C.node C.i64,.bool],.same,.same]:LV) (fun a K=>X a.1.1 a.1.2.1 a.1.2.2.1 a.2.1 a.2.2.1 (fun q0 q1 q2 q3=>K (q0,()) ((q1,q2,q3,()),(),(),())))
def w6c:PT:=Qj ([]:LS)
def w6d (Qr:Zd) (Qy:Zt):Ev Sg:=((E0.with 223 (V2 Qr)).with 224 (Hp Qy))
theorem v0w (Qr:Zd) (Qy:Zt) (h:Ev3 (w6d Qr Qy) Proofs.Tryz.prog D):Qe Proofs.Tryz.prog D 169 (q7z (j2k Qr Qy)):=Ql (p:=w6c) (fuel:=4) (rk:=[.v]) h fun a K=>by kernel_rfl
theorem j2y:Qe Proofs.Tryz.prog D 169 (q7z Ge):=v0w Z3 Jq (Qf (Qf h_E0 Bq q1x) q2m q5r)
theorem z2d:Ent Proofs.Tryz.prog 168:=Qg (by kernel_rfl) (by kernel_rfl) (by kernel_rfl)
def q9p (X:Wp):Con Sg:=conV ([.ptr 248 [.own 318 C.node,.map C.node C.i64,.v],.sl C.ex,.el C.ex]:LP) ([.ptr 248 [.vec 318 C.node,.map C.node C.i64,.bool],.sl C.ex,.el C.ex]:LV) ([.int .i64]:LV) ([.ptr 248 [.vec 318 C.node,.map C.node C.i64,.bool],.same,.same]:LV) (fun a K=>X a.1.1 a.1.2.1 a.1.2.2.1 a.2.1 a.2.2.1 (fun q0 q1 q2 q3=>K (q0,()) ((q1,q2,q3,()),(),(),())))
def z4t:PT:=Qj ([(16,⟨[0,1,2,5,6,11,12,13,14,15,16],[3,0,1,2],[],[(.slot 26,.bool)]⟩),(21,⟨[0,1,2,5,6,11,12,13,14,15,16,26,29,30,31,32,33,34,35],[3],[(0,(248,3))],[(.slot 7,.int .i64),(.slot 8,.int .i64),(.cell 0 0,.own 318 C.node),(.cell 0 2,.bool),(.obj 2,.map C.node C.i64)]⟩)]:LS)
def z4u (Bj:Ba) (Bk:Bc) (Jw:V4) (Wv:Rd) (Z9:Wo):Ev Sg:=(((((E0.with 219 (z03 Bj)).with 220 (z04 Bk)).with 169 (q7z Jw)).with 221 (z3t Wv)).with 222 (q4k Z9))
theorem j5t (Bj:Ba) (Bk:Bc) (Jw:V4) (Wv:Rd) (Z9:Wo) (X:Wp) (ns:List (Nd)) (ids:(Nd->Option (Int))) (full:Bool) (atoms:List (Ex)) (e:Ex) (K:Int->List (Nd)->(Nd->Option (Int))->Bool->Prop):q8z Bj Bk Jw Wv Z9 X ns ids full atoms e K=fnV (((z4u Bj Bk Jw Wv Z9).with 168 (q9p X)).pl z4t) 4 168 ([.ptr 248 [.own 318 C.node,.map C.node C.i64,.v],.sl C.ex,.el C.ex]:LP) ([.v]:LP) ([.ptr 248 [.vec 318 C.node,.map C.node C.i64,.bool],.sl C.ex,.el C.ex]:LV) ([.int .i64]:LV) ([.ptr 248 [.vec 318 C.node,.map C.node C.i64,.bool],.same,.same]:LV) ((ns,ids,full,()),atoms,e,()) (fun r o=>K r.1 o.1.1 o.1.2.1 o.1.2.2.1):=by kernel_rfl
theorem w3g:Qe Proofs.Tryz.prog D 168 (q9p B5):=by
 show Qe _ _ _ (conV ([.ptr 248 [.own 318 C.node,.map C.node C.i64,.v],.sl C.ex,.el C.ex]:LP) ([.ptr 248 [.vec 318 C.node,.map C.node C.i64,.bool],.sl C.ex,.el C.ex]:LV) ([.int .i64]:LV) ([.ptr 248 [.vec 318 C.node,.map C.node C.i64,.bool],.same,.same]:LV) fun a K=>B5 a.1.1 a.1.2.1 a.1.2.2.1 a.2.1 a.2.2.1 (fun q0 q1 q2 q3=>K (q0,()) ((q1,q2,q3,()),(),(),())))
 refine z4p (E:=z4u Bb Bd Ge Gy J7) (fuel:=4) (rk:=[.v]) (p:=z4t) (Qf (Qf (Qf (Qf (Qf h_E0 j8o w59) j8p w6b) z6k j2y) j2r w2x) z2c z6j) z2d fun a K h X hX=> ?_
 exact h (fun ns ids full atoms e K=>X ((ns,ids,full,()),atoms,e,()) fun r o=>K r.1 o.1.1 o.1.2.1 o.1.2.2.1) (fun ns ids full atoms e K hs=>hX ((ns,ids,full,()),atoms,e,()) (fun r o=>K r.1 o.1.1 o.1.2.1 o.1.2.2.1) (Eq.mp (j5t Bb Bd Ge Gy J7 (fun ns ids full atoms e K=>X ((ns,ids,full,()),atoms,e,()) fun r o=>K r.1 o.1.1 o.1.2.1 o.1.2.2.1) ns ids full atoms e K) hs))
theorem q9q:Ent Proofs.Tryz.prog 116:=Qg (by kernel_rfl) (by kernel_rfl) (by kernel_rfl)
def q1d (X:Jr):Con Sg:=conV ([.sl C.rule]:LP) ([.sl C.rule]:LV) ([.vec 3 C.i64,.int .i64,.bool]:LV) ([.same]:LV) (fun a K=>X a.1 (fun q0 q1 q2=>K (q0,q1,q2,()) ((),())))
def j2z:PT:=Qj ([(13,⟨[0,5,6,12,13,14],[],[(0,(248,3))],[(.slot 7,.int .i64),(.slot 8,.own 3 C.i64),(.slot 9,.int .i64),(.cell 0 0,.own 318 C.node),(.cell 0 2,.bool),(.obj 2,.map C.node C.i64)]⟩)]:LS)
def j20 (z2o:z5i) (Hw:G8) (Hx:Wp) (Jw:V4):Ev Sg:=((((E0.with 166 (v4z z2o)).with 167 (q9n Hw)).with 168 (q9p Hx)).with 169 (q7z Jw))
theorem j5u (z2o:z5i) (Hw:G8) (Hx:Wp) (Jw:V4) (h:Ev3 (j20 z2o Hw Hx Jw) Proofs.Tryz.prog D):Qe Proofs.Tryz.prog D 116 (q1d (q41 z2o Hw Hx Jw)):=Ql (p:=j2z) (fuel:=4) (rk:=[.own 3 C.i64,.v,.v]) h fun a K=>by kernel_rfl
theorem z2e:Qe Proofs.Tryz.prog D 116 (q1d W8):=j5u w2d B4 B5 Ge (Qf (Qf (Qf (Qf h_E0 v9k u08) j5k w2z) z2d w3g) z6k j2y)
theorem v9p:Ent Proofs.Tryz.prog 62:=Qg (by kernel_rfl) (by kernel_rfl) (by kernel_rfl)
def w3h (X:z1o):Con Sg:=conV ([.ptr 104 [.c,.v],.v]:LP) ([.ptr 104 [.sl C.u8,.int .i64],.str]:LV) ([.el C.layer]:LV) ([.ptr 104 [.same,.int .i64],.same]:LV) (fun a K=>X a.1.1 a.1.2.1 a.2.1 (fun q0 q1=>K (q0,()) (((),q1,()),(),())))
def y5v:PT:=Qj ([(8,⟨[0,1,4,5,10,11,12,13,14,15,16],[1],[(2,(59,6)),(0,(104,2))],[(.cell 2 1,.str),(.cell 0 1,.int .i64)]⟩),(12,⟨[0,1,4,5,10,11,12,13,14,15,16],[1],[(2,(59,6)),(0,(104,2))],[(.cell 2 3,.int .i64),(.cell 0 1,.int .i64)]⟩),(17,⟨[0,1,4,5,10,11,12,13,14,15,16],[1],[(2,(59,6)),(0,(104,2))],[(.slot 6,.int .i64),(.slot 7,.int .i64),(.cell 2 5,.own 197 C.cool),(.cell 0 1,.int .i64)]⟩)]:LS)
def y5w (Jk:Rb) (Qa:Q7) (Wa:q2a):Ev Sg:=(((E0.with 58 (z8d Jk)).with 49 (Gu Qa)).with 51 (j2p Wa))
theorem u1a (Jk:Rb) (Qa:Q7) (Wa:q2a) (h:Ev3 (y5w Jk Qa Wa) Proofs.Tryz.prog D):Qe Proofs.Tryz.prog D 62 (w3h (w2e Jk Qa Wa)):=Ql (p:=y5v) (fuel:=4) (rk:=[.el C.layer]) h fun a K=>by kernel_rfl
theorem u1b:Qe Proofs.Tryz.prog D 62 (w3h z5m):=u1a q3p Zv q7r (Qf (Qf (Qf h_E0 z8c w0m) Vd Rm) j5f v0p)
theorem v47:Ent Proofs.Tryz.prog 149:=Qg (by kernel_rfl) (by kernel_rfl) (by kernel_rfl)
def w81 (X:z1p):Con Sg:=conV ([.v]:LP) ([.int .i64]:LV) ([.bool]:LV) ([.same]:LV) (fun a K=>X a.1 (fun q0=>K (q0,()) ((),())))
def v9q:PT:=Qj ([]:LS)
def v9r:Ev Sg:=E0
theorem y5x:Qe Proofs.Tryz.prog D 149 (w81 z1q):=Ql (E:=v9r) (p:=v9q) (fuel:=4) (rk:=[.v]) h_E0 fun a K=>by kernel_rfl
theorem q9r:Ent Proofs.Tryz.prog 41:=Qg (by kernel_rfl) (by kernel_rfl) (by kernel_rfl)
def q70 (X:Wq):Con Sg:=conV ([.el C.env,.v]:LP) ([.el C.env,.str]:LV) ([.int .i64]:LV) ([.same,.same]:LV) (fun a K=>X a.1 a.2.1 (fun q0=>K (q0,()) ((),(),())))
def w6e:PT:=Qj ([(5,⟨[0,1,2],[0],[],[(.slot 5,.int .i64)]⟩)]:LS)
def w6f:Ev Sg:=E0
theorem z3u:Qe Proofs.Tryz.prog D 41 (q70 Gf):=Ql (E:=w6f) (p:=w6e) (fuel:=4) (rk:=[.v]) h_E0 fun a K=>by kernel_rfl
theorem j5v:Ent Proofs.Tryz.prog 95:=Qg (by kernel_rfl) (by kernel_rfl) (by kernel_rfl)
def z6l (X:B6):Con Sg:=conV ([.sl C.cool,.v]:LP) ([.sl C.cool,.int .i64]:LV) ([.vec 3 C.i64]:LV) ([.same,.same]:LV) (fun a K=>X a.1 a.2.1 (fun q0=>K (q0,()) ((),(),())))
def j8q:PT:=Qj ([(7,⟨[0,1,4,5,9],[],[],[(.slot 6,.int .i64),(.obj 0,.own 3 C.i64)]⟩),(15,⟨[0,1,4,5,6,9,10,11,12,13],[],[],[(.slot 7,.int .i64),(.obj 0,.own 3 C.i64)]⟩),(21,⟨[0,1,4,5,6,7,9,10,11,12,13,20,21,22,23,26,27,28,29,30,31],[],[],[(.slot 8,.int .i64),(.obj 0,.own 3 C.i64)]⟩)]:LS)
def j8r:Ev Sg:=E0
theorem w3i:Qe Proofs.Tryz.prog D 95 (z6l B7):=Ql (E:=j8r) (p:=j8q) (fuel:=4) (rk:=[.own 3 C.i64]) h_E0 fun _ _=>by kernel_rfl
end Go.En
end
noncomputable section
set_option maxRecDepth 100000
open Go Go.RowKit Go.Fl Go.Fl.Lk Go.Fx
namespace Go.En
theorem q4l:Ent Proofs.Tryz.prog 150:=Qg (by kernel_rfl) (by kernel_rfl) (by kernel_rfl)
def q5s (X:Jm):Con Sg:=conV ([.sl C.bool]:LP) ([.sl C.bool]:LV) ([.vec 95 C.span]:LV) ([.same]:LV) (fun a K=>X a.1 (fun q0=>K (q0,()) ((),())))
def v48:PT:=Qj ([(7,⟨[0,2],[],[],[(.slot 3,.own 95 C.span),(.slot 4,.int .i64)]⟩)]:LS)
def v49:Ev Sg:=E0
theorem q9s:Qe Proofs.Tryz.prog D 150 (q5s W9):=Ql (E:=v49) (p:=v48) (fuel:=4) (rk:=[.own 95 C.span]) h_E0 fun a K=>by kernel_rfl
theorem v0x:Ent Proofs.Tryz.prog 151:=Qg (by kernel_rfl) (by kernel_rfl) (by kernel_rfl)
def j0v (X:q42):Con Sg:=conV ([.sl C.i64,.v]:LP) ([.sl C.i64,.int .i64]:LV) ([.vec 95 C.span]:LV) ([.same,.same]:LV) (fun a K=>X a.1 a.2.1 (fun q0=>K (q0,()) ((),(),())))
def v5a:PT:=Qj ([(7,⟨[0,1,4,5,7,8,9],[],[],[(.slot 6,.int .i64),(.obj 0,.own 4 C.bool)]⟩)]:LS)
def v5b (Qz:Jm):Ev Sg:=(E0.with 150 (q5s Qz))
theorem v9s (Qz:Jm) (h:Ev3 (v5b Qz) Proofs.Tryz.prog D):Qe Proofs.Tryz.prog D 151 (j0v (j0b Qz)):=Ql (p:=v5a) (fuel:=4) (rk:=[.own 95 C.span]) h fun a K=>by kernel_rfl
theorem v9t:Qe Proofs.Tryz.prog D 151 (j0v q80):=v9s W9 (Qf h_E0 q4l q9s)
theorem z3v:Ent Proofs.Tryz.prog 96:=Qg (by kernel_rfl) (by kernel_rfl) (by kernel_rfl)
def z6m (X:Gg):Con Sg:=conV ([.sl C.span]:LP) ([.sl C.span]:LV) ([.vec 4 C.bool]:LV) ([.same]:LV) (fun a K=>X a.1 (fun q0=>K (q0,()) ((),())))
def y5y:PT:=Qj ([(7,⟨[0,2,3,6],[],[],[(.slot 4,.int .i64),(.obj 0,.own 4 C.bool)]⟩),(13,⟨[0,2,3,4,6,7,8,9,10,13,14,15,16,17,18],[],[],[(.slot 5,.int .i64),(.obj 0,.own 4 C.bool)]⟩)]:LS)
def y5z:Ev Sg:=E0
theorem j21:Qe Proofs.Tryz.prog D 96 (z6m B8):=Ql (E:=y5z) (p:=y5y) (fuel:=4) (rk:=[.own 4 C.bool]) h_E0 fun a K=>by kernel_rfl
theorem v0y:Ent Proofs.Tryz.prog 90:=Qg (by kernel_rfl) (by kernel_rfl) (by kernel_rfl)
def j0w (X:q43):Con Sg:=conV ([.sl C.span,.sl C.span]:LP) ([.sl C.span,.sl C.span]:LV) ([.vec 95 C.span]:LV) ([.same,.same]:LV) (fun a K=>X a.1 a.2.1 (fun q0=>K (q0,()) ((),(),())))
def v5c:PT:=Qj ([(7,⟨[0,1,4,5,6,8,9,10,11],[1],[],[(.slot 7,.int .i64),(.obj 0,.own 4 C.bool)]⟩)]:LS)
def v5d (Zr:Gg) (Qz:Jm):Ev Sg:=((E0.with 96 (z6m Zr)).with 150 (q5s Qz))
theorem v9u (Zr:Gg) (Qz:Jm) (h:Ev3 (v5d Zr Qz) Proofs.Tryz.prog D):Qe Proofs.Tryz.prog D 90 (j0w (j0c Zr Qz)):=Ql (p:=v5c) (fuel:=4) (rk:=[.own 95 C.span]) h fun a K=>by kernel_rfl
theorem v9v:Qe Proofs.Tryz.prog D 90 (j0w q81):=v9u B8 W9 (Qf (Qf h_E0 z3v j21) q4l q9s)
theorem v0z:Ent Proofs.Tryz.prog 94:=Qg (by kernel_rfl) (by kernel_rfl) (by kernel_rfl)
def j0x (X:q44):Con Sg:=conV ([.el C.env,.v,.v,.v]:LP) ([.el C.env,.str,.str,.int .i64]:LV) ([.vec 95 C.span]:LV) ([.same,.same,.same,.same]:LV) (fun a K=>X a.1 a.2.1 a.2.2.1 a.2.2.2.1 (fun q0=>K (q0,()) ((),(),(),(),())))
def v5e:PT:=Qj ([(10,⟨[0,1,2,3,4,8,9,13,14,15,16,17],[0],[],[(.slot 10,.own 95 C.span)]⟩),(13,⟨[0,1,2,3,4,8,9,13,14,15,16,17],[0],[],[(.slot 10,.own 95 C.span),(.slot 11,.int .i64)]⟩)]:LS)
def v5f (Zg:Wq) (Ru:q43) (Uw:B6) (q0r:q42):Ev Sg:=((((E0.with 41 (q70 Zg)).with 90 (j0w Ru)).with 95 (z6l Uw)).with 151 (j0v q0r))
theorem v9w (Zg:Wq) (Ru:q43) (Uw:B6) (q0r:q42) (h:Ev3 (v5f Zg Ru Uw q0r) Proofs.Tryz.prog D):Qe Proofs.Tryz.prog D 94 (j0x (j0d Zg Ru Uw q0r)):=Ql (p:=v5e) (fuel:=4) (rk:=[.own 95 C.span]) h fun a K=>by kernel_rfl
theorem v9x:Qe Proofs.Tryz.prog D 94 (j0x q82):=v9w Gf q81 B7 q80 (Qf (Qf (Qf (Qf h_E0 q9r z3u) v0y v9v) j5v w3i) v0x v9t)
theorem j22:Ent Proofs.Tryz.prog 118:=Qg (by kernel_rfl) (by kernel_rfl) (by kernel_rfl)
def z3w (X:Re):Con Sg:=conV ([.sl C.span,.sl C.span]:LP) ([.sl C.span,.sl C.span]:LV) ([.vec 95 C.span]:LV) ([.same,.same]:LV) (fun a K=>X a.1 a.2.1 (fun q0=>K (q0,()) ((),(),())))
def v5g:PT:=Qj ([(7,⟨[0,1,4,5,6,8,9,10,11],[1],[],[(.slot 7,.int .i64),(.obj 0,.own 4 C.bool)]⟩)]:LS)
def v5h (Zr:Gg) (Qz:Jm):Ev Sg:=((E0.with 96 (z6m Zr)).with 150 (q5s Qz))
theorem v9y (Zr:Gg) (Qz:Jm) (h:Ev3 (v5h Zr Qz) Proofs.Tryz.prog D):Qe Proofs.Tryz.prog D 118 (z3w (j0e Zr Qz)):=Ql (p:=v5g) (fuel:=4) (rk:=[.own 95 C.span]) h fun a K=>by kernel_rfl
theorem w3j:Qe Proofs.Tryz.prog D 118 (z3w q2f):=v9y B8 W9 (Qf (Qf h_E0 z3v j21) q4l q9s)
theorem v5i:Ent Proofs.Tryz.prog 88:=Qg (by kernel_rfl) (by kernel_rfl) (by kernel_rfl)
def j5w (X:q75):Con Sg:=conV ([.el C.env,.v,.v]:LP) ([.el C.env,.str,.int .i64]:LV) ([.vec 95 C.span,.int .i64]:LV) ([.same,.same,.same]:LV) (fun a K=>X a.1 a.2.1 a.2.2.1 (fun q0 q1=>K (q0,q1,()) ((),(),(),())))
def v9z:PT:=Qj ([]:LS)
def v90 (q8e:z1p) (Zg:Wq) (q52:q44) (Ve:Re):Ev Sg:=((((E0.with 149 (w81 q8e)).with 41 (q70 Zg)).with 94 (j0x q52)).with 118 (z3w Ve))
theorem y50 (q8e:z1p) (Zg:Wq) (q52:q44) (Ve:Re) (h:Ev3 (v90 q8e Zg q52 Ve) Proofs.Tryz.prog D):Qe Proofs.Tryz.prog D 88 (j5w (j45 q8e Zg q52 Ve)):=Ql (p:=v9z) (fuel:=4) (rk:=[.own 95 C.span,.v]) h fun a K=>by kernel_rfl
theorem y51:Qe Proofs.Tryz.prog D 88 (j5w z1r):=y50 z1q Gf q82 q2f (Qf (Qf (Qf (Qf h_E0 v47 y5x) q9r z3u) v0z v9x) j22 w3j)
theorem v00:Ent Proofs.Tryz.prog 91:=Qg (by kernel_rfl) (by kernel_rfl) (by kernel_rfl)
def j0y (X:q45):Con Sg:=conV ([.sl C.span,.v]:LP) ([.sl C.span,.int .i64]:LV) ([.vec 95 C.span]:LV) ([.same,.same]:LV) (fun a K=>X a.1 a.2.1 (fun q0=>K (q0,()) ((),(),())))
def v5j:PT:=Qj ([(7,⟨[0,4,5,7,8],[],[],[(.slot 1,.int .i64),(.slot 6,.int .i64),(.obj 0,.own 4 C.bool)]⟩)]:LS)
def v5k (Zr:Gg) (Qz:Jm):Ev Sg:=((E0.with 96 (z6m Zr)).with 150 (q5s Qz))
theorem v91 (Zr:Gg) (Qz:Jm) (h:Ev3 (v5k Zr Qz) Proofs.Tryz.prog D):Qe Proofs.Tryz.prog D 91 (j0y (j0f Zr Qz)):=Ql (p:=v5j) (fuel:=4) (rk:=[.own 95 C.span]) h fun a K=>by kernel_rfl
theorem v92:Qe Proofs.Tryz.prog D 91 (j0y q83):=v91 B8 W9 (Qf (Qf h_E0 z3v j21) q4l q9s)
theorem q7l:Ent Proofs.Tryz.prog 246:=Qg (by kernel_rfl) (by kernel_rfl) (by kernel_rfl)
def q4m (X:Wr):Con Sg:=conV ([.v]:LP) ([.str]:LV) ([.bool]:LV) ([.same]:LV) (fun a K=>X a.1 (fun q0=>K (q0,()) ((),())))
theorem z0k:Qe Proofs.Tryz.prog D 246 (q4m Ws):=j2n
theorem q0n:Ent Proofs.Tryz.prog 209:=Qg (by kernel_rfl) (by kernel_rfl) (by kernel_rfl)
def q1e (X:Zy):Con Sg:=conV ([.v]:LP) ([.str]:LV) ([.bool]:LV) ([.same]:LV) (fun a K=>X a.1 (fun q0=>K (q0,()) ((),())))
def v93:PT:=Qj ([(9,⟨[0,4,5,6,7,8,9,10,11],[],[],[(.slot 3,.int .i64)]⟩)]:LS)
def v94 (Zh:Wr):Ev Sg:=(E0.with 246 (q4m Zh))
theorem y52 (Zh:Wr) (h:Ev3 (v94 Zh) Proofs.Tryz.prog D):Qe Proofs.Tryz.prog D 209 (q1e (z77 Zh)):=Ql (p:=v93) (fuel:=4) (rk:=[.v]) h fun a K=>by kernel_rfl
theorem q5t:Qe Proofs.Tryz.prog D 209 (q1e Js):=y52 Ws (Qf h_E0 q7l z0k)
theorem v95:Ent Proofs.Tryz.prog 247:=Qg (by kernel_rfl) (by kernel_rfl) (by kernel_rfl)
def v5l (X:z5n):Con Sg:=conV ([.v]:LP) ([.str]:LV) ([.bool]:LV) ([.same]:LV) (fun a K=>X a.1 (fun q0=>K (q0,()) ((),())))
def y53:PT:=Qj ([(5,⟨[0],[],[],[(.slot 3,.int .i64)]⟩)]:LS)
def y54:Ev Sg:=E0
theorem u1c:Qe Proofs.Tryz.prog D 247 (v5l z5o):=Ql (E:=y54) (p:=y53) (fuel:=4) (rk:=[.v]) h_E0 fun a K=>by kernel_rfl
theorem w3k:Ent Proofs.Tryz.prog 248:=Qg (by kernel_rfl) (by kernel_rfl) (by kernel_rfl)
def j23 (X:q3r):Con Sg:=conV ([]:LP) ([]:LV) ([.vec 9 C.str]:LV) ([]:LV) (fun _ K=>X (fun q0=>K (q0,()) ()))
def w6g:PT:=Qj ([]:LS)
def w6h:Ev Sg:=E0
theorem v01:Qe Proofs.Tryz.prog D 248 (j23 q3s):=Ql (E:=w6h) (p:=w6g) (fuel:=4) (rk:=[.own 9 C.str]) h_E0 fun a K=>by kernel_rfl
theorem Hq:Ent Proofs.Tryz.prog 210:=Qg (by kernel_rfl) (by kernel_rfl) (by kernel_rfl)
def q1f (X:Zs):Con Sg:=conV ([.v]:LP) ([.str]:LV) ([.bool]:LV) ([.same]:LV) (fun a K=>X a.1 (fun q0=>K (q0,()) ((),())))
def u1d:PT:=Qj ([(11,⟨[0,3,5,6,7,8,9,10,11,12,13],[0],[],[(.slot 4,.int .i64)]⟩)]:LS)
def u1e (z2p:z5n) (q1h:q3r):Ev Sg:=((E0.with 247 (v5l z2p)).with 248 (j23 q1h))
theorem u5m (z2p:z5n) (q1h:q3r) (h:Ev3 (u1e z2p q1h) Proofs.Tryz.prog D):Qe Proofs.Tryz.prog D 210 (q1f (v0h z2p q1h)):=Ql (p:=u1d) (fuel:=4) (rk:=[.v]) h fun a K=>by kernel_rfl
theorem q4n:Qe Proofs.Tryz.prog D 210 (q1f J8):=u5m z5o q3s (Qf (Qf h_E0 v95 u1c) w3k v01)
theorem w3l:Ent Proofs.Tryz.prog 152:=Qg (by kernel_rfl) (by kernel_rfl) (by kernel_rfl)
def z3x (X:q0z):Con Sg:=conV ([.el C.settings]:LP) ([.el C.settings]:LV) ([.int .i64]:LV) ([.same]:LV) (fun a K=>X a.1 (fun q0=>K (q0,()) ((),())))
def w6i:PT:=Qj ([]:LS)
def w6j (Qu:Zy) (Qn:Zs):Ev Sg:=((E0.with 209 (q1e Qu)).with 210 (q1f Qn))
theorem v02 (Qu:Zy) (Qn:Zs) (h:Ev3 (w6j Qu Qn) Proofs.Tryz.prog D):Qe Proofs.Tryz.prog D 152 (z3x (z3f Qu Qn)):=Ql (p:=w6i) (fuel:=4) (rk:=[.v]) h fun _ _=>by kernel_rfl
theorem v03:Qe Proofs.Tryz.prog D 152 (z3x q3t):=v02 Js J8 (Qf (Qf h_E0 q0n q5t) Hq q4n)
end Go.En
end
noncomputable section
set_option maxRecDepth 100000
open Go Go.RowKit Go.Fl Go.Fl.Lk Go.Fx
namespace Go.En
theorem w3m:Ent Proofs.Tryz.prog 153:=Qg (by kernel_rfl) (by kernel_rfl) (by kernel_rfl)
def z3y (X:q00):Con Sg:=conV ([.sl C.decl]:LP) ([.sl C.decl]:LV) ([.int .i64]:LV) ([.same]:LV) (fun a K=>X a.1 (fun q0=>K (q0,()) ((),())))
def w6k:PT:=Qj ([(9,⟨[0,4,5,6],[],[],[(.slot 3,.int .i64)]⟩)]:LS)
def w6l (Qn:Zs):Ev Sg:=(E0.with 210 (q1f Qn))
theorem v04 (Qn:Zs) (h:Ev3 (w6l Qn) Proofs.Tryz.prog D):Qe Proofs.Tryz.prog D 153 (z3y (z3g Qn)):=Ql (p:=w6k) (fuel:=4) (rk:=[.v]) h fun a K=>by kernel_rfl
theorem v05:Qe Proofs.Tryz.prog D 153 (z3y q3u):=v04 J8 (Qf h_E0 Hq q4n)
theorem z9h:Ent Proofs.Tryz.prog 249:=Qg (by kernel_rfl) (by kernel_rfl) (by kernel_rfl)
def z0l (X:Gh):Con Sg:=conV ([.sl C.str]:LP) ([.sl C.str]:LV) ([.int .i64]:LV) ([.same]:LV) (fun a K=>X a.1 (fun q0=>K (q0,()) ((),())))
def v06:PT:=Qj ([(9,⟨[0,4,5,6],[],[],[(.slot 3,.int .i64)]⟩)]:LS)
def v07 (Qu:Zy):Ev Sg:=(E0.with 209 (q1e Qu))
theorem v5m (Qu:Zy) (h:Ev3 (v07 Qu) Proofs.Tryz.prog D):Qe Proofs.Tryz.prog D 249 (z0l (z5p Qu)):=Ql (p:=v06) (fuel:=4) (rk:=[.v]) h fun a K=>by kernel_rfl
theorem j7o:Qe Proofs.Tryz.prog D 249 (z0l B9):=v5m Js (Qf h_E0 q0n q5t)
theorem v96:Ent Proofs.Tryz.prog 250:=Qg (by kernel_rfl) (by kernel_rfl) (by kernel_rfl)
def v5n (X:z5q):Con Sg:=conV ([.el C.ex]:LP) ([.el C.ex]:LV) ([.bool]:LV) ([.same]:LV) (fun a K=>X a.1 (fun q0=>K (q0,()) ((),())))
def y55:PT:=Qj ([]:LS)
def y56:Ev Sg:=E0
theorem u1f:Qe Proofs.Tryz.prog D 250 (v5n z5r):=Ql (E:=y56) (p:=y55) (fuel:=4) (rk:=[.v]) h_E0 fun a K=>by kernel_rfl
theorem v08:Ent Proofs.Tryz.prog 301:=Qg (by kernel_rfl) (by kernel_rfl) (by kernel_rfl)
def j0z (X:q46):Con Sg:=conV ([.el C.ex]:LP) ([.el C.ex]:LV) ([.bool]:LV) ([.same]:LV) (fun a K=>X a.1 (fun q0=>K (q0,()) ((),())))
def v5o:PT:=Qj ([(20,⟨[0,1,2,6,7,8,9,10,11,12,13],[0],[],[(.slot 3,.bool),(.slot 4,.bool)]⟩)]:LS)
def v5p (Q2:Wb):Ev Sg:=(E0.with 143 (q9l Q2))
theorem v97 (Q2:Wb) (h:Ev3 (v5p Q2) Proofs.Tryz.prog D):Qe Proofs.Tryz.prog D 301 (j0z (j0g Q2)):=Ql (p:=v5o) (fuel:=4) (rk:=[.v]) h fun a K=>by kernel_rfl
theorem v98:Qe Proofs.Tryz.prog D 301 (j0z q84):=v97 Wc (Qf h_E0 q7x z3r)
theorem v5q:Ent Proofs.Tryz.prog 243:=Qg (by kernel_rfl) (by kernel_rfl) (by kernel_rfl)
def w82 (X:z1s):Con Sg:=conV ([.el C.val]:LP) ([.el C.val]:LV) ([.bool]:LV) ([.same]:LV) (fun a K=>X a.1 (fun q0=>K (q0,()) ((),())))
def v99:PT:=Qj ([]:LS)
def y0a:Ev Sg:=E0
theorem y57:Qe Proofs.Tryz.prog D 243 (w82 q47):=Ql (E:=y0a) (p:=v99) (fuel:=4) (rk:=[.v]) h_E0 fun a K=>by kernel_rfl
theorem j24:Ent Proofs.Tryz.prog 245:=Qg (by kernel_rfl) (by kernel_rfl) (by kernel_rfl)
def z4v (X:R1):Con Sg:=conV ([.v]:LP) ([.str]:LV) ([.int .i64,.int .i64]:LV) ([.same]:LV) (fun a K=>X a.1 (fun q0 q1=>K (q0,q1,()) ((),())))
def j5x:PT:=Qj ([(8,⟨[0,2,3,8],[],[],[(.slot 4,.str)]⟩),(11,⟨[0,4,8],[],[],[(.slot 5,.int .i64)]⟩),(31,⟨[0,4,5,8,19,20,21,22,35,36,37,38,39,40,41,42,43,44,45,46,47,48],[],[],[(.slot 6,.int .i64),(.slot 7,.int .i64)]⟩)]:LS)
def j5y:Ev Sg:=E0
theorem j8s:Qe Proofs.Tryz.prog D 245 (z4v W2):=Ql (E:=j5y) (p:=j5x) (fuel:=4) (rk:=[.v,.v]) h_E0 fun a K=>by kernel_rfl
theorem v5r:Ent Proofs.Tryz.prog 207:=Qg (by kernel_rfl) (by kernel_rfl) (by kernel_rfl)
def j5z (X:q48):Con Sg:=conV ([.v]:LP) ([.str]:LV) ([.el C.a3,.bool]:LV) ([.same]:LV) (fun a K=>X a.1 (fun q0 q1=>K (q0,q1,()) ((),())))
def y0b:PT:=Qj ([(9,⟨[0,2,4],[],[(1,(257,3)),(0,(257,3))],[(.slot 5,.int .i64),(.slot 6,.int .i64),(.cell 1 0,.int .i64),(.cell 1 1,.int .i64),(.cell 1 2,.int .i64),(.cell 0 0,.int .i64),(.cell 0 1,.int .i64),(.cell 0 2,.int .i64)]⟩),(15,⟨[0,2,4,6,7,10,11,14],[1,0],[],[(.slot 5,.int .i64)]⟩)]:LS)
def y0c (V1:R1):Ev Sg:=(E0.with 245 (z4v V1))
theorem y58 (V1:R1) (h:Ev3 (y0c V1) Proofs.Tryz.prog D):Qe Proofs.Tryz.prog D 207 (j5z (z78 V1)):=Ql (p:=y0b) (fuel:=4) (rk:=[.el C.a3,.v]) h fun a K=>by kernel_rfl
theorem y59:Qe Proofs.Tryz.prog D 207 (j5z q2w):=y58 W2 (Qf h_E0 j24 j8s)
theorem y0d:Ent Proofs.Tryz.prog 244:=Qg (by kernel_rfl) (by kernel_rfl) (by kernel_rfl)
def w3n (X:z1t):Con Sg:=conV ([.sl C.str]:LP) ([.sl C.str]:LV) ([.int .i64]:LV) ([.same]:LV) (fun a K=>X a.1 (fun q0=>K (q0,()) ((),())))
def y6a:PT:=Qj ([(9,⟨[0,5,6,7],[],[],[(.slot 3,.int .i64)]⟩),(19,⟨[0,3,5,6,7,8,9,10,11],[],[],[(.slot 4,.int .i64)]⟩)]:LS)
def y6b (Qu:Zy):Ev Sg:=(E0.with 209 (q1e Qu))
theorem u1g (Qu:Zy) (h:Ev3 (y6b Qu) Proofs.Tryz.prog D):Qe Proofs.Tryz.prog D 244 (w3n (j2l Qu)):=Ql (p:=y6a) (fuel:=4) (rk:=[.v]) h fun a K=>by kernel_rfl
theorem u1h:Qe Proofs.Tryz.prog D 244 (w3n q85):=u1g Js (Qf h_E0 q0n q5t)
theorem j7p:Ent Proofs.Tryz.prog 205:=Qg (by kernel_rfl) (by kernel_rfl) (by kernel_rfl)
def z8e (X:Be):Con Sg:=conV ([.el C.val]:LP) ([.el C.val]:LV) ([.int .i64]:LV) ([.same]:LV) (fun a K=>X a.1 (fun q0=>K (q0,()) ((),())))
def y0e:PT:=Qj ([]:LS)
def y0f (q8f:z1s) (Qu:Zy) (q1i:q48) (z2q:z1t):Ev Sg:=((((E0.with 243 (w82 q8f)).with 209 (q1e Qu)).with 207 (j5z q1i)).with 244 (w3n z2q))
theorem y6c (q8f:z1s) (Qu:Zy) (q1i:q48) (z2q:z1t) (h:Ev3 (y0f q8f Qu q1i z2q) Proofs.Tryz.prog D):Qe Proofs.Tryz.prog D 205 (z8e (z79 q8f Qu q1i z2q)):=Ql (p:=y0e) (fuel:=4) (rk:=[.v]) h fun a K=>by kernel_rfl
theorem w83:Qe Proofs.Tryz.prog D 205 (z8e Bf):=y6c q47 Js q2w q85 (Qf (Qf (Qf (Qf h_E0 v5q y57) q0n q5t) v5r y59) y0d u1h)
theorem y0g:Ent Proofs.Tryz.prog 292:=Qg (by kernel_rfl) (by kernel_rfl) (by kernel_rfl)
def w3o (X:z1u):Con Sg:=conV ([.el C.ex]:LP) ([.el C.ex]:LV) ([.int .i64]:LV) ([.same]:LV) (fun a K=>X a.1 (fun q0=>K (q0,()) ((),())))
def y6d:PT:=Qj ([(17,⟨[0,1,6,7,8,9,10,11,12,13,14,15,16,17,18,19,20,21,22,23,24,25,26],[0],[],[(.slot 3,.int .i64)]⟩),(31,⟨[0,1,3,6,7,8,9,10,11,12,13,14,15,16,17,18,19,20,21,22,23,24,25,26,27,28,29,30,31,48,49,50,51,52,53,54,55,56,57,58,59,60,61,65,66,67,68,69,70,71,72],[0],[],[(.slot 4,.int .i64)]⟩)]:LS)
def y6e (q53:q46) (Q2:Wb) (Qn:Zs) (Jg:Be):Ev Sg:=((((E0.with 301 (j0z q53)).with 143 (q9l Q2)).with 210 (q1f Qn)).with 205 (z8e Jg))
theorem u1i (q53:q46) (Q2:Wb) (Qn:Zs) (Jg:Be) (h:Ev3 (y6e q53 Q2 Qn Jg) Proofs.Tryz.prog D):Qe Proofs.Tryz.prog D 292 (w3o (w2f q53 Q2 Qn Jg)):=Ql (p:=y6d) (fuel:=4) (rk:=[.v]) h fun a K=>by kernel_rfl
theorem u1j:Qe Proofs.Tryz.prog D 292 (w3o z1v):=u1i q84 Wc J8 Bf (Qf (Qf (Qf (Qf h_E0 v08 v98) q7x z3r) Hq q4n) j7p w83)
theorem w3p:Ent Proofs.Tryz.prog 277:=Qg (by kernel_rfl) (by kernel_rfl) (by kernel_rfl)
def w3q (X:q3v):Con Sg:=conV ([.el C.ex,.v,.ptr 3 [.v]]:LP) ([.el C.ex,.int .i64,.ptr 3 [.int .i64]]:LV) ([.int .i64]:LV) ([.same,.same,.ptr 3 [.int .i64]]:LV) (fun a K=>X a.1 a.2.1 a.2.2.1.1 (fun q0 q1=>K (q0,()) ((),(),(q1,()),())))
def w84:PT:=Qj ([(21,⟨[0,1,2,3,7,10,11,12,13,14,15,16,17,18,19,20,21,22,23,24],[1],[(0,(3,1))],[(.slot 8,.int .i64),(.cell 0 0,.int .i64)]⟩)]:LS)
def w85 (z2r:z1u):Ev Sg:=(E0.with 292 (w3o z2r))
theorem y0h (z2r:z1u) (X:q3v) (e:Ex) (depth:Int) (n:Int) (K:Int->Int->Prop):w2g z2r X e depth n K=fnV (((w85 z2r).with 277 (w3q X)).pl w84) 4 277 ([.el C.ex,.v,.ptr 3 [.v]]:LP) ([.v]:LP) ([.el C.ex,.int .i64,.ptr 3 [.int .i64]]:LV) ([.int .i64]:LV) ([.same,.same,.ptr 3 [.int .i64]]:LV) (e,depth,(n,()),()) (fun r o=>K r.1 o.2.2.1.1):=by kernel_rfl
theorem u1k:Qe Proofs.Tryz.prog D 277 (w3q z5s):=by
 show Qe _ _ _ (conV ([.el C.ex,.v,.ptr 3 [.v]]:LP) ([.el C.ex,.int .i64,.ptr 3 [.int .i64]]:LV) ([.int .i64]:LV) ([.same,.same,.ptr 3 [.int .i64]]:LV) fun a K=>z5s a.1 a.2.1 a.2.2.1.1 (fun q0 q1=>K (q0,()) ((),(),(q1,()),())))
 refine z4p (E:=w85 z1v) (fuel:=4) (rk:=[.v]) (p:=w84) (Qf h_E0 y0g u1j) w3p fun a K h X hX=> ?_
 exact h (fun e depth n K=>X (e,depth,(n,()),()) fun r o=>K r.1 o.2.2.1.1) (fun e depth n K hs=>hX (e,depth,(n,()),()) (fun r o=>K r.1 o.2.2.1.1) (Eq.mp (y0h z1v (fun e depth n K=>X (e,depth,(n,()),()) fun r o=>K r.1 o.2.2.1.1) e depth n K) hs))
theorem j00:Ent Proofs.Tryz.prog 251:=Qg (by kernel_rfl) (by kernel_rfl) (by kernel_rfl)
def z6n (X:R2):Con Sg:=conV ([.el C.ex]:LP) ([.el C.ex]:LV) ([.int .i64]:LV) ([.same]:LV) (fun a K=>X a.1 (fun q0=>K (q0,()) ((),())))
def y6f:PT:=Qj ([]:LS)
def y6g (z2s:q3v):Ev Sg:=(E0.with 277 (w3q z2s))
theorem u1l (z2s:q3v) (h:Ev3 (y6g z2s) Proofs.Tryz.prog D):Qe Proofs.Tryz.prog D 251 (z6n (w2h z2s)):=Ql (p:=y6f) (fuel:=4) (rk:=[.v]) h fun a K=>by kernel_rfl
theorem w3r:Qe Proofs.Tryz.prog D 251 (z6n q3w):=u1l z5s (Qf h_E0 w3p u1k)
theorem w6m:Ent Proofs.Tryz.prog 211:=Qg (by kernel_rfl) (by kernel_rfl) (by kernel_rfl)
def z6o (X:q2x):Con Sg:=conV ([.el C.seg]:LP) ([.el C.seg]:LV) ([.int .i64]:LV) ([.same]:LV) (fun a K=>X a.1 (fun q0=>K (q0,()) ((),())))
def v09:PT:=Qj ([]:LS)
def v1a (Qn:Zs) (J4:Gh) (z2t:z5q) (Wg:R2):Ev Sg:=((((E0.with 210 (q1f Qn)).with 249 (z0l J4)).with 250 (v5n z2t)).with 251 (z6n Wg))
theorem v5s (Qn:Zs) (J4:Gh) (z2t:z5q) (Wg:R2) (h:Ev3 (v1a Qn J4 z2t Wg) Proofs.Tryz.prog D):Qe Proofs.Tryz.prog D 211 (z6o (z5t Qn J4 z2t Wg)):=Ql (p:=v09) (fuel:=4) (rk:=[.v]) h fun a K=>by kernel_rfl
theorem v5t:Qe Proofs.Tryz.prog D 211 (z6o q6m):=v5s J8 B9 z5r q3w (Qf (Qf (Qf (Qf h_E0 Hq q4n) z9h j7o) v96 u1f) j00 w3r)
theorem w3s:Ent Proofs.Tryz.prog 154:=Qg (by kernel_rfl) (by kernel_rfl) (by kernel_rfl)
def z3z (X:q01):Con Sg:=conV ([.sl C.seg]:LP) ([.sl C.seg]:LV) ([.int .i64]:LV) ([.same]:LV) (fun a K=>X a.1 (fun q0=>K (q0,()) ((),())))
def w6n:PT:=Qj ([(9,⟨[0,5,6,7],[],[],[(.slot 3,.int .i64)]⟩)]:LS)
def w6o (q29:q2x):Ev Sg:=(E0.with 211 (z6o q29))
theorem v1b (q29:q2x) (h:Ev3 (w6o q29) Proofs.Tryz.prog D):Qe Proofs.Tryz.prog D 154 (z3z (z3h q29)):=Ql (p:=w6n) (fuel:=4) (rk:=[.v]) h fun _ _=>by kernel_rfl
theorem v1c:Qe Proofs.Tryz.prog D 154 (z3z q3x):=v1b q6m (Qf h_E0 w6m v5t)
end Go.En
end
noncomputable section
set_option maxRecDepth 100000
open Go Go.RowKit Go.Fl Go.Fl.Lk Go.Fx
namespace Go.En
theorem j50:Ent Proofs.Tryz.prog 252:=Qg (by kernel_rfl) (by kernel_rfl) (by kernel_rfl)
def q9t (X:Hc):Con Sg:=conV ([.el C.flag]:LP) ([.el C.flag]:LV) ([.int .i64]:LV) ([.same]:LV) (fun a K=>X a.1 (fun q0=>K (q0,()) ((),())))
def j8t:PT:=Qj ([(15,⟨[0,1,3,6,7,8,9,10,11,12],[0],[],[(.slot 4,.int .i64)]⟩)]:LS)
def j8u (Jg:Be):Ev Sg:=(E0.with 205 (z8e Jg))
theorem w3t (Jg:Be) (h:Ev3 (j8u Jg) Proofs.Tryz.prog D):Qe Proofs.Tryz.prog D 252 (q9t (q86 Jg)):=Ql (p:=j8t) (fuel:=4) (rk:=[.v]) h fun a K=>by kernel_rfl
theorem w3u:Qe Proofs.Tryz.prog D 252 (q9t q0a):=w3t Bf (Qf h_E0 j7p w83)
theorem z8m:Ent Proofs.Tryz.prog 253:=Qg (by kernel_rfl) (by kernel_rfl) (by kernel_rfl)
def q4o (X:Vq):Con Sg:=conV ([.sl C.prereq]:LP) ([.sl C.prereq]:LV) ([.int .i64]:LV) ([.same]:LV) (fun a K=>X a.1 (fun q0=>K (q0,()) ((),())))
def j01:PT:=Qj ([(9,⟨[0,4,5,6],[],[],[(.slot 3,.int .i64)]⟩)]:LS)
def j02 (Qn:Zs):Ev Sg:=(E0.with 210 (q1f Qn))
theorem j25 (Qn:Zs) (h:Ev3 (j02 Qn) Proofs.Tryz.prog D):Qe Proofs.Tryz.prog D 253 (q4o (q3y Qn)):=Ql (p:=j01) (fuel:=4) (rk:=[.v]) h fun a K=>by kernel_rfl
theorem j26:Qe Proofs.Tryz.prog D 253 (q4o Gi):=j25 J8 (Qf h_E0 Hq q4n)
theorem w6p:Ent Proofs.Tryz.prog 254:=Qg (by kernel_rfl) (by kernel_rfl) (by kernel_rfl)
def z6p (X:q2y):Con Sg:=conV ([.sl C.target,.v]:LP) ([.sl C.target,.int .i64]:LV) ([.int .i64]:LV) ([.same,.same]:LV) (fun a K=>X a.1 a.2.1 (fun q0=>K (q0,()) ((),(),())))
def v1d:PT:=Qj ([(9,⟨[0,1,7,8,9],[],[],[(.slot 5,.int .i64)]⟩)]:LS)
def v1e (Qn:Zs) (J4:Gh):Ev Sg:=((E0.with 210 (q1f Qn)).with 249 (z0l J4))
theorem v5u (Qn:Zs) (J4:Gh) (h:Ev3 (v1e Qn J4) Proofs.Tryz.prog D):Qe Proofs.Tryz.prog D 254 (z6p (z5u Qn J4)):=Ql (p:=v1d) (fuel:=4) (rk:=[.v]) h fun a K=>by kernel_rfl
theorem v5v:Qe Proofs.Tryz.prog D 254 (z6p q6n):=v5u J8 B9 (Qf (Qf h_E0 Hq q4n) z9h j7o)
theorem j7q:Ent Proofs.Tryz.prog 258:=Qg (by kernel_rfl) (by kernel_rfl) (by kernel_rfl)
def j51 (X:q2z):Con Sg:=conV ([.sl C.range,.v]:LP) ([.sl C.range,.int .i64]:LV) ([.int .i64]:LV) ([.same,.same]:LV) (fun a K=>X a.1 a.2.1 (fun q0=>K (q0,()) ((),(),())))
def y0i:PT:=Qj ([(11,⟨[0,1,7,8,9],[],[],[(.slot 5,.int .i64),(.slot 6,.int .i64)]⟩)]:LS)
def y0j:Ev Sg:=E0
theorem w86:Qe Proofs.Tryz.prog D 258 (j51 q49):=Ql (E:=y0j) (p:=y0i) (fuel:=4) (rk:=[.v]) h_E0 fun a K=>by kernel_rfl
theorem j7r:Ent Proofs.Tryz.prog 256:=Qg (by kernel_rfl) (by kernel_rfl) (by kernel_rfl)
def z8f (X:q02):Con Sg:=conV ([.el C.serve,.v]:LP) ([.el C.serve,.int .i64]:LV) ([.int .i64]:LV) ([.same,.same]:LV) (fun a K=>X a.1 a.2.1 (fun q0=>K (q0,()) ((),(),())))
def y0k:PT:=Qj ([]:LS)
def y0l (Qn:Zs) (Qu:Zy) (Ug:q2z):Ev Sg:=(((E0.with 210 (q1f Qn)).with 209 (q1e Qu)).with 258 (j51 Ug))
theorem y6h (Qn:Zs) (Qu:Zy) (Ug:q2z) (h:Ev3 (y0l Qn Qu Ug) Proofs.Tryz.prog D):Qe Proofs.Tryz.prog D 256 (z8f (j46 Qn Qu Ug)):=Ql (p:=y0k) (fuel:=4) (rk:=[.v]) h fun a K=>by kernel_rfl
theorem w87:Qe Proofs.Tryz.prog D 256 (z8f q5a):=y6h J8 Js q49 (Qf (Qf (Qf h_E0 Hq q4n) q0n q5t) j7q w86)
theorem v5w:Ent Proofs.Tryz.prog 255:=Qg (by kernel_rfl) (by kernel_rfl) (by kernel_rfl)
def j52 (X:q76):Con Sg:=conV ([.sl C.rule,.v]:LP) ([.sl C.rule,.int .i64]:LV) ([.int .i64]:LV) ([.same,.same]:LV) (fun a K=>X a.1 a.2.1 (fun q0=>K (q0,()) ((),(),())))
def y0m:PT:=Qj ([(9,⟨[0,1,9,10,11],[],[],[(.slot 5,.int .i64)]⟩),(19,⟨[0,1,5,9,10,11,12,13,14,15,18,19,20,21,22,23,24],[],[],[(.slot 6,.int .i64)]⟩)]:LS)
def y0n (Qn:Zs) (Wg:R2) (Uh:q02):Ev Sg:=(((E0.with 210 (q1f Qn)).with 251 (z6n Wg)).with 256 (z8f Uh))
theorem y6i (Qn:Zs) (Wg:R2) (Uh:q02) (h:Ev3 (y0n Qn Wg Uh) Proofs.Tryz.prog D):Qe Proofs.Tryz.prog D 255 (j52 (j47 Qn Wg Uh)):=Ql (p:=y0m) (fuel:=4) (rk:=[.v]) h fun a K=>by kernel_rfl
theorem y6j:Qe Proofs.Tryz.prog D 255 (j52 z1w):=y6i J8 q3w q5a (Qf (Qf (Qf h_E0 Hq q4n) j00 w3r) j7r w87)
theorem y0o:Ent Proofs.Tryz.prog 212:=Qg (by kernel_rfl) (by kernel_rfl) (by kernel_rfl)
def w3v (X:z1x):Con Sg:=conV ([.el C.flag]:LP) ([.el C.flag]:LV) ([.int .i64]:LV) ([.same]:LV) (fun a K=>X a.1 (fun q0=>K (q0,()) ((),())))
def y6k:PT:=Qj ([]:LS)
def y6l (Qn:Zs) (Hy:Hc) (Vu:Vq) (q3a:q2y) (q8g:q76) (Uh:q02):Ev Sg:=((((((E0.with 210 (q1f Qn)).with 252 (q9t Hy)).with 253 (q4o Vu)).with 254 (z6p q3a)).with 255 (j52 q8g)).with 256 (z8f Uh))
theorem u1m (Qn:Zs) (Hy:Hc) (Vu:Vq) (q3a:q2y) (q8g:q76) (Uh:q02) (h:Ev3 (y6l Qn Hy Vu q3a q8g Uh) Proofs.Tryz.prog D):Qe Proofs.Tryz.prog D 212 (w3v (w2i Qn Hy Vu q3a q8g Uh)):=Ql (p:=y6k) (fuel:=4) (rk:=[.v]) h fun a K=>by kernel_rfl
theorem u1n:Qe Proofs.Tryz.prog D 212 (w3v z5v):=u1m J8 q0a Gi q6n z1w q5a (Qf (Qf (Qf (Qf (Qf (Qf h_E0 Hq q4n) j50 w3u) z8m j26) w6p v5v) v5w y6j) j7r w87)
theorem v5x:Ent Proofs.Tryz.prog 155:=Qg (by kernel_rfl) (by kernel_rfl) (by kernel_rfl)
def j53 (X:q77):Con Sg:=conV ([.sl C.flag]:LP) ([.sl C.flag]:LV) ([.int .i64]:LV) ([.same]:LV) (fun a K=>X a.1 (fun q0=>K (q0,()) ((),())))
def y0p:PT:=Qj ([(9,⟨[0,5,6,7],[],[],[(.slot 3,.int .i64)]⟩)]:LS)
def y0q (z2u:z1x):Ev Sg:=(E0.with 212 (w3v z2u))
theorem y6m (z2u:z1x) (h:Ev3 (y0q z2u) Proofs.Tryz.prog D):Qe Proofs.Tryz.prog D 155 (j53 (j48 z2u)):=Ql (p:=y0p) (fuel:=4) (rk:=[.v]) h fun a K=>by kernel_rfl
theorem y6n:Qe Proofs.Tryz.prog D 155 (j53 z1y):=y6m z5v (Qf h_E0 y0o u1n)
theorem v5y:Ent Proofs.Tryz.prog 213:=Qg (by kernel_rfl) (by kernel_rfl) (by kernel_rfl)
def j54 (X:q78):Con Sg:=conV ([.el C.layer]:LP) ([.el C.layer]:LV) ([.int .i64]:LV) ([.same]:LV) (fun a K=>X a.1 (fun q0=>K (q0,()) ((),())))
def y0r:PT:=Qj ([(21,⟨[0,1,5,6,7,8,9,10,11,12,13,14,15,16,17,18,19,20,21,22,23,24,25,26,27,28,29,30,31,32,33,34,35,36,37,38,39,40],[0],[],[(.slot 3,.int .i64)]⟩)]:LS)
def y0s (Qn:Zs) (Qu:Zy):Ev Sg:=((E0.with 210 (q1f Qn)).with 209 (q1e Qu))
theorem y6o (Qn:Zs) (Qu:Zy) (h:Ev3 (y0s Qn Qu) Proofs.Tryz.prog D):Qe Proofs.Tryz.prog D 213 (j54 (j49 Qn Qu)):=Ql (p:=y0r) (fuel:=4) (rk:=[.v]) h fun a K=>by kernel_rfl
theorem y6p:Qe Proofs.Tryz.prog D 213 (j54 z1z):=y6o J8 Js (Qf (Qf h_E0 Hq q4n) q0n q5t)
theorem v1f:Ent Proofs.Tryz.prog 156:=Qg (by kernel_rfl) (by kernel_rfl) (by kernel_rfl)
def j03 (X:q5b):Con Sg:=conV ([.sl C.layer]:LP) ([.sl C.layer]:LV) ([.int .i64]:LV) ([.same]:LV) (fun a K=>X a.1 (fun q0=>K (q0,()) ((),())))
def v5z:PT:=Qj ([(9,⟨[0,5,6,7],[],[],[(.slot 3,.int .i64)]⟩)]:LS)
def v50 (q8h:q78):Ev Sg:=(E0.with 213 (j54 q8h))
theorem y0t (q8h:q78) (h:Ev3 (v50 q8h) Proofs.Tryz.prog D):Qe Proofs.Tryz.prog D 156 (j03 (j0h q8h)):=Ql (p:=v5z) (fuel:=4) (rk:=[.v]) h fun a K=>by kernel_rfl
theorem y0u:Qe Proofs.Tryz.prog D 156 (j03 q87):=y0t z1z (Qf h_E0 v5y y6p)
theorem v52:Ent Proofs.Tryz.prog 257:=Qg (by kernel_rfl) (by kernel_rfl) (by kernel_rfl)
def w88 (X:z10):Con Sg:=conV ([.sl C.span]:LP) ([.sl C.span]:LV) ([.int .i64]:LV) ([.same]:LV) (fun a K=>X a.1 (fun q0=>K (q0,()) ((),())))
def y0v:PT:=Qj ([(9,⟨[0,4,5,6],[],[],[(.slot 3,.int .i64)]⟩)]:LS)
def y0w:Ev Sg:=E0
theorem y6q:Qe Proofs.Tryz.prog D 257 (w88 z11):=Ql (E:=y0w) (p:=y0v) (fuel:=4) (rk:=[.v]) h_E0 fun a K=>by kernel_rfl
theorem j55:Ent Proofs.Tryz.prog 214:=Qg (by kernel_rfl) (by kernel_rfl) (by kernel_rfl)
def q9u (X:Hd):Con Sg:=conV ([.el C.exper]:LP) ([.el C.exper]:LV) ([.int .i64]:LV) ([.same]:LV) (fun a K=>X a.1 (fun q0=>K (q0,()) ((),())))
def j8v:PT:=Qj ([]:LS)
def j8w (Qn:Zs) (Qu:Zy) (q8i:z10) (Ug:q2z) (Wg:R2):Ev Sg:=(((((E0.with 210 (q1f Qn)).with 209 (q1e Qu)).with 257 (w88 q8i)).with 258 (j51 Ug)).with 251 (z6n Wg))
theorem w3w (Qn:Zs) (Qu:Zy) (q8i:z10) (Ug:q2z) (Wg:R2) (h:Ev3 (j8w Qn Qu q8i Ug Wg) Proofs.Tryz.prog D):Qe Proofs.Tryz.prog D 214 (q9u (q88 Qn Qu q8i Ug Wg)):=Ql (p:=j8v) (fuel:=4) (rk:=[.v]) h fun a K=>by kernel_rfl
theorem w3x:Qe Proofs.Tryz.prog D 214 (q9u q0b):=w3w J8 Js z11 q49 q3w (Qf (Qf (Qf (Qf (Qf h_E0 Hq q4n) q0n q5t) v52 y6q) j7q w86) j00 w3r)
theorem j27:Ent Proofs.Tryz.prog 157:=Qg (by kernel_rfl) (by kernel_rfl) (by kernel_rfl)
def q7c (X:U2):Con Sg:=conV ([.sl C.exper]:LP) ([.sl C.exper]:LV) ([.int .i64]:LV) ([.same]:LV) (fun a K=>X a.1 (fun q0=>K (q0,()) ((),())))
def j56:PT:=Qj ([(9,⟨[0,5,6,7],[],[],[(.slot 3,.int .i64)]⟩)]:LS)
def j57 (Hz:Hd):Ev Sg:=(E0.with 214 (q9u Hz))
theorem j8x (Hz:Hd) (h:Ev3 (j57 Hz) Proofs.Tryz.prog D):Qe Proofs.Tryz.prog D 157 (q7c (q65 Hz)):=Ql (p:=j56) (fuel:=4) (rk:=[.v]) h fun a K=>by kernel_rfl
theorem j8y:Qe Proofs.Tryz.prog D 157 (q7c R3):=j8x q0b (Qf h_E0 j55 w3x)
theorem j28:Ent Proofs.Tryz.prog 99:=Qg (by kernel_rfl) (by kernel_rfl) (by kernel_rfl)
def q7d (X:U3):Con Sg:=conV ([.el C.env]:LP) ([.el C.env]:LV) ([.int .i64]:LV) ([.same]:LV) (fun a K=>X a.1 (fun q0=>K (q0,()) ((),())))
def j58:PT:=Qj ([]:LS)
def j59 (q1j:q0z) (q1k:q00) (q1l:q01) (q8j:q77) (q54:q5b) (U8:U2):Ev Sg:=((((((E0.with 152 (z3x q1j)).with 153 (z3y q1k)).with 154 (z3z q1l)).with 155 (j53 q8j)).with 156 (j03 q54)).with 157 (q7c U8))
theorem j8z (q1j:q0z) (q1k:q00) (q1l:q01) (q8j:q77) (q54:q5b) (U8:U2) (h:Ev3 (j59 q1j q1k q1l q8j q54 U8) Proofs.Tryz.prog D):Qe Proofs.Tryz.prog D 99 (q7d (q66 q1j q1k q1l q8j q54 U8)):=Ql (p:=j58) (fuel:=4) (rk:=[.v]) h fun _ _=>by kernel_rfl
theorem j80:Qe Proofs.Tryz.prog D 99 (q7d R4):=j8z q3t q3u q3x z1y q87 R3 (Qf (Qf (Qf (Qf (Qf (Qf h_E0 w3l v03) w3m v05) w3s v1c) v5x y6n) v1f y0u) j27 j8y)
end Go.En
end
noncomputable section
set_option maxRecDepth 100000
open Go Go.RowKit Go.Fl Go.Fl.Lk Go.Fx
namespace Go.En
theorem z6q:Ent Proofs.Tryz.prog 100:=Qg (by kernel_rfl) (by kernel_rfl) (by kernel_rfl)
def z8g (X:He):Con Sg:=conV ([.sl C.seg]:LP) ([.sl C.seg]:LV) ([.vec 9 C.str]:LV) ([.same]:LV) (fun a K=>X a.1 (fun q0=>K (q0,()) ((),())))
def y0x:PT:=Qj ([(7,⟨[0,2],[],[],[(.slot 3,.own 9 C.str),(.slot 4,.int .i64)]⟩)]:LS)
def y0y:Ev Sg:=E0
theorem j6a:Qe Proofs.Tryz.prog D 100 (z8g q20):=Ql (E:=y0y) (p:=y0x) (fuel:=4) (rk:=[.own 9 C.str]) h_E0 fun a K=>by kernel_rfl
theorem j6b:Ent Proofs.Tryz.prog 81:=Qg (by kernel_rfl) (by kernel_rfl) (by kernel_rfl)
def w0p (X:q03):Con Sg:=conV ([.sl C.str,.v]:LP) ([.sl C.str,.str]:LV) ([.bool]:LV) ([.same,.same]:LV) (fun a K=>X a.1 a.2.1 (fun q0=>K (q0,()) ((),(),())))
def u1o:PT:=Qj ([(5,⟨[0,1],[],[],[(.slot 5,.int .i64)]⟩)]:LS)
def u1p:Ev Sg:=E0
theorem v1g:Qe Proofs.Tryz.prog D 81 (w0p q2c):=Ql (E:=u1p) (p:=u1o) (fuel:=4) (rk:=[.v]) h_E0 fun a K=>by kernel_rfl
theorem w3y:Ent Proofs.Tryz.prog 158:=Qg (by kernel_rfl) (by kernel_rfl) (by kernel_rfl)
def w3z (X:q6o):Con Sg:=conV ([.sl C.decl,.v,.v]:LP) ([.sl C.decl,.str,.str]:LV) ([.int .i64]:LV) ([.same,.same,.same]:LV) (fun a K=>X a.1 a.2.1 a.2.2.1 (fun q0=>K (q0,()) ((),(),(),())))
def y6r:PT:=Qj ([(5,⟨[0,1,2],[],[],[(.slot 7,.int .i64)]⟩)]:LS)
def y6s:Ev Sg:=E0
theorem v54:Qe Proofs.Tryz.prog D 158 (w3z q3z):=Ql (E:=y6s) (p:=y6r) (fuel:=4) (rk:=[.v]) h_E0 fun a K=>by kernel_rfl
theorem y0z:Ent Proofs.Tryz.prog 159:=Qg (by kernel_rfl) (by kernel_rfl) (by kernel_rfl)
def v55 (X:z5w):Con Sg:=conV ([.v,.el C.ex]:LP) ([.int .i64,.el C.ex]:LV) ([.bool]:LV) ([.same,.same]:LV) (fun a K=>X a.1 a.2.1 (fun q0=>K (q0,()) ((),(),())))
def y6t:PT:=Qj ([(11,⟨[0,1,3,7,8,9,10,11,12],[0],[],[(.slot 5,.int .i64)]⟩),(36,⟨[0,1,3,4,6,7,8,9,10,11,12,30,31,32,33,34,35,36,37,38,39,40,41,42],[0],[],[(.slot 46,.bool)]⟩)]:LS)
def y6u:Ev Sg:=E0
theorem u1q:Qe Proofs.Tryz.prog D 159 (v55 q89):=Ql (E:=y6u) (p:=y6t) (fuel:=4) (rk:=[.v]) h_E0 fun a K=>by kernel_rfl
theorem z30:Ent Proofs.Tryz.prog 101:=Qg (by kernel_rfl) (by kernel_rfl) (by kernel_rfl)
def z6r (X:Up):Con Sg:=conV ([.sl C.decl,.sl C.str,.el C.ex]:LP) ([.sl C.decl,.sl C.str,.el C.ex]:LV) ([.int .i64]:LV) ([.same,.same,.same]:LV) (fun a K=>X a.1 a.2.1 a.2.2.1 (fun q0=>K (q0,()) ((),(),(),())))
def w89:PT:=Qj ([(18,⟨[0,1,2,5,10,11,12,13,14,15,16,17,18,19],[0],[],[]⟩),(21,⟨[0,1,2,5,10,11,12,13,14,15,16,17,18,19],[0],[],[(.slot 8,.int .i64)]⟩)]:LS)
def w9a (Wl:q03) (Q2:Wb) (Gv:q6o) (q99:z5w):Ev Sg:=((((E0.with 81 (w0p Wl)).with 143 (q9l Q2)).with 158 (w3z Gv)).with 159 (v55 q99))
theorem y00 (Wl:q03) (Q2:Wb) (Gv:q6o) (q99:z5w) (X:Up) (l:List (Decl)) (segments:List (ByteArray)) (e:Ex) (K:Int->Prop):w2j Wl Q2 Gv q99 X l segments e K=fnV (((w9a Wl Q2 Gv q99).with 101 (z6r X)).pl w89) 4 101 ([.sl C.decl,.sl C.str,.el C.ex]:LP) ([.v]:LP) ([.sl C.decl,.sl C.str,.el C.ex]:LV) ([.int .i64]:LV) ([.same,.same,.same]:LV) (l,segments,e,()) (fun r _=>K r.1):=by kernel_rfl
theorem w30:Qe Proofs.Tryz.prog D 101 (z6r q30):=by
 show Qe _ _ _ (conV ([.sl C.decl,.sl C.str,.el C.ex]:LP) ([.sl C.decl,.sl C.str,.el C.ex]:LV) ([.int .i64]:LV) ([.same,.same,.same]:LV) fun a K=>q30 a.1 a.2.1 a.2.2.1 (fun q0=>K (q0,()) ((),(),(),())))
 refine z4p (E:=w9a q2c Wc q3z q89) (fuel:=4) (rk:=[.v]) (p:=w89) (Qf (Qf (Qf (Qf h_E0 j6b v1g) q7x z3r) w3y v54) y0z u1q) z30 fun a K h X hX=> ?_
 exact h (fun l segments e K=>X (l,segments,e,()) fun r _=>K r.1) (fun l segments e K hs=>hX (l,segments,e,()) (fun r _=>K r.1) (Eq.mp (y00 q2c Wc q3z q89 (fun l segments e K=>X (l,segments,e,()) fun r _=>K r.1) l segments e K) hs))
theorem j6c:Ent Proofs.Tryz.prog 85:=Qg (by kernel_rfl) (by kernel_rfl) (by kernel_rfl)
def w0q (X:q31):Con Sg:=conV ([.sl C.str,.v]:LP) ([.sl C.str,.str]:LV) ([.sl C.str]:LV) ([.same,.same]:LV) (fun a K=>X a.1 a.2.1 (fun q0=>K (q0,()) ((),(),())))
def u1r:PT:=Qj ([(5,⟨[0,1,4],[],[],[(.slot 5,.int .i64)]⟩)]:LS)
def u1s:Ev Sg:=E0
theorem v1h:Qe Proofs.Tryz.prog D 85 (w0q q6a):=Ql (E:=u1s) (p:=u1r) (fuel:=4) (rk:=[.sl C.str]) h_E0 fun a K=>by kernel_rfl
theorem z9i:Ent Proofs.Tryz.prog 216:=Qg (by kernel_rfl) (by kernel_rfl) (by kernel_rfl)
def z6s (X:Gj):Con Sg:=conV ([.sl C.str,.el C.ex]:LP) ([.sl C.str,.el C.ex]:LV) ([.sl C.str]:LV) ([.same,.same]:LV) (fun a K=>X a.1 a.2.1 (fun q0=>K (q0,()) ((),(),())))
def j29:PT:=Qj ([(6,⟨[1,3,4],[0],[],[(.slot 0,.sl C.str)]⟩),(9,⟨[1,3,4],[0],[],[(.slot 0,.sl C.str),(.slot 5,.int .i64)]⟩)]:LS)
def j3a (Vv:q31):Ev Sg:=(E0.with 85 (w0q Vv))
theorem w6q (Vv:q31) (X:Gj) (l:List (ByteArray)) (e:Ex) (K:List (ByteArray)->Prop):z5x Vv X l e K=fnV (((j3a Vv).with 216 (z6s X)).pl j29) 4 216 ([.sl C.str,.el C.ex]:LP) ([.sl C.str]:LP) ([.sl C.str,.el C.ex]:LV) ([.sl C.str]:LV) ([.same,.same]:LV) (l,e,()) (fun r _=>K r.1):=by kernel_rfl
theorem v56:Qe Proofs.Tryz.prog D 216 (z6s q6p):=by
 show Qe _ _ _ (conV ([.sl C.str,.el C.ex]:LP) ([.sl C.str,.el C.ex]:LV) ([.sl C.str]:LV) ([.same,.same]:LV) fun a K=>q6p a.1 a.2.1 (fun q0=>K (q0,()) ((),(),())))
 refine z4p (E:=j3a q6a) (fuel:=4) (rk:=[.sl C.str]) (p:=j29) (Qf h_E0 j6c v1h) z9i fun a K h X hX=> ?_
 exact h (fun l e K=>X (l,e,()) fun r _=>K r.1) (fun l e K hs=>hX (l,e,()) (fun r _=>K r.1) (Eq.mp (w6q q6a (fun l e K=>X (l,e,()) fun r _=>K r.1) l e K) hs))
theorem w6r:Ent Proofs.Tryz.prog 161:=Qg (by kernel_rfl) (by kernel_rfl) (by kernel_rfl)
def z6t (X:q21):Con Sg:=conV ([.el C.ex]:LP) ([.el C.ex]:LV) ([.sl C.str]:LV) ([.same]:LV) (fun a K=>X a.1 (fun q0=>K (q0,()) ((),())))
def v1i:PT:=Qj ([]:LS)
def v1j (q3b:Gj):Ev Sg:=(E0.with 216 (z6s q3b))
theorem v57 (q3b:Gj) (h:Ev3 (v1j q3b) Proofs.Tryz.prog D):Qe Proofs.Tryz.prog D 161 (z6t (z5y q3b)):=Ql (p:=v1i) (fuel:=4) (rk:=[.sl C.str]) h fun a K=>by kernel_rfl
theorem v58:Qe Proofs.Tryz.prog D 161 (z6t q6q):=v57 q6p (Qf h_E0 z9i v56)
theorem v1k:Ent Proofs.Tryz.prog 103:=Qg (by kernel_rfl) (by kernel_rfl) (by kernel_rfl)
def j04 (X:q5c):Con Sg:=conV ([.sl C.seg]:LP) ([.sl C.seg]:LV) ([.vec 217 C.edge]:LV) ([.same]:LV) (fun a K=>X a.1 (fun q0=>K (q0,()) ((),())))
def v59:PT:=Qj ([(7,⟨[0,2],[],[],[(.slot 3,.own 217 C.edge),(.slot 4,.int .i64)]⟩),(15,⟨[0,2,4,5,7,8,9,10,13,14,15,16,17,18],[],[],[(.slot 3,.own 217 C.edge),(.slot 6,.int .i64)]⟩)]:LS)
def v6a (q3c:q21):Ev Sg:=(E0.with 161 (z6t q3c))
theorem y01 (q3c:q21) (h:Ev3 (v6a q3c) Proofs.Tryz.prog D):Qe Proofs.Tryz.prog D 103 (j04 (j0i q3c)):=Ql (p:=v59) (fuel:=4) (rk:=[.own 217 C.edge]) h fun a K=>by kernel_rfl
theorem y02:Qe Proofs.Tryz.prog D 103 (j04 q9a):=y01 q6q (Qf h_E0 w6r v58)
theorem v6b:Ent Proofs.Tryz.prog 215:=Qg (by kernel_rfl) (by kernel_rfl) (by kernel_rfl)
def j6d (X:q79):Con Sg:=conV ([.sl C.edge,.v]:LP) ([.sl C.edge,.str]:LV) ([.sl C.str]:LV) ([.same,.same]:LV) (fun a K=>X a.1 a.2.1 (fun q0=>K (q0,()) ((),(),())))
def y03:PT:=Qj ([(7,⟨[0,1,4,9,10],[],[],[(.slot 5,.sl C.str),(.slot 6,.sl C.str)]⟩),(15,⟨[0,1,4,7,9,11,12,13,14,15,16,17,18],[],[],[(.slot 5,.sl C.str),(.slot 6,.sl C.str),(.slot 8,.int .i64)]⟩)]:LS)
def y04 (Wl:q03) (Vv:q31):Ev Sg:=((E0.with 81 (w0p Wl)).with 85 (w0q Vv))
theorem y6v (Wl:q03) (Vv:q31) (h:Ev3 (y04 Wl Vv) Proofs.Tryz.prog D):Qe Proofs.Tryz.prog D 215 (j6d (j5a Wl Vv)):=Ql (p:=y03) (fuel:=4) (rk:=[.sl C.str]) h fun a K=>by kernel_rfl
theorem y6w:Qe Proofs.Tryz.prog D 215 (j6d z13):=y6v q2c q6a (Qf (Qf h_E0 j6b v1g) j6c v1h)
theorem v1l:Ent Proofs.Tryz.prog 160:=Qg (by kernel_rfl) (by kernel_rfl) (by kernel_rfl)
def j05 (X:q5d):Con Sg:=conV ([.sl C.str,.sl C.edge]:LP) ([.sl C.str,.sl C.edge]:LV) ([.sl C.str]:LV) ([.same,.same]:LV) (fun a K=>X a.1 a.2.1 (fun q0=>K (q0,()) ((),(),())))
def v6c:PT:=Qj ([(7,⟨[0,1,4],[],[],[(.slot 5,.sl C.str),(.slot 6,.int .i64)]⟩)]:LS)
def v6d (q8k:q79) (Wl:q03) (Vv:q31):Ev Sg:=(((E0.with 215 (j6d q8k)).with 81 (w0p Wl)).with 85 (w0q Vv))
theorem y05 (q8k:q79) (Wl:q03) (Vv:q31) (h:Ev3 (v6d q8k Wl Vv) Proofs.Tryz.prog D):Qe Proofs.Tryz.prog D 160 (j05 (j0j q8k Wl Vv)):=Ql (p:=v6c) (fuel:=4) (rk:=[.sl C.str]) h fun a K=>by kernel_rfl
theorem y06:Qe Proofs.Tryz.prog D 160 (j05 q9b):=y05 z13 q2c q6a (Qf (Qf (Qf h_E0 v6b y6w) j6b v1g) j6c v1h)
theorem v1m:Ent Proofs.Tryz.prog 102:=Qg (by kernel_rfl) (by kernel_rfl) (by kernel_rfl)
def j06 (X:q5e):Con Sg:=conV ([.sl C.str,.sl C.edge]:LP) ([.sl C.str,.sl C.edge]:LV) ([.str,.bool]:LV) ([.same,.same]:LV) (fun a K=>X a.1 a.2.1 (fun q0 q1=>K (q0,q1,()) ((),(),())))
def v6e:PT:=Qj ([]:LS)
def v6f (q55:q5d):Ev Sg:=(E0.with 160 (j05 q55))
theorem y07 (q55:q5d) (h:Ev3 (v6f q55) Proofs.Tryz.prog D):Qe Proofs.Tryz.prog D 102 (j06 (j0k q55)):=Ql (p:=v6e) (fuel:=4) (rk:=[.v,.v]) h fun a K=>by kernel_rfl
theorem y08:Qe Proofs.Tryz.prog D 102 (j06 q9c):=y07 q9b (Qf h_E0 v1l y06)
theorem z9j:Ent Proofs.Tryz.prog 162:=Qg (by kernel_rfl) (by kernel_rfl) (by kernel_rfl)
def z6u (X:H7):Con Sg:=conV ([.el C.env,.v]:LP) ([.el C.env,.str]:LV) ([.int .i64]:LV) ([.same,.same]:LV) (fun a K=>X a.1 a.2.1 (fun q0=>K (q0,()) ((),(),())))
def v1n:PT:=Qj ([(5,⟨[0,1,2],[0],[],[(.slot 5,.int .i64)]⟩)]:LS)
def v1o:Ev Sg:=E0
theorem j7s:Qe Proofs.Tryz.prog D 162 (z6u q22):=Ql (E:=v1o) (p:=v1n) (fuel:=4) (rk:=[.v]) h_E0 fun a K=>by kernel_rfl
theorem v6g:Ent Proofs.Tryz.prog 163:=Qg (by kernel_rfl) (by kernel_rfl) (by kernel_rfl)
def j6e (X:q8a):Con Sg:=conV ([.sl C.decl,.el C.serve]:LP) ([.sl C.decl,.el C.serve]:LV) ([.int .i64]:LV) ([.same,.same]:LV) (fun a K=>X a.1 a.2.1 (fun q0=>K (q0,()) ((),(),())))
def y09:PT:=Qj ([]:LS)
def y1a (Gv:q6o):Ev Sg:=(E0.with 158 (w3z Gv))
theorem y6x (Gv:q6o) (h:Ev3 (y1a Gv) Proofs.Tryz.prog D):Qe Proofs.Tryz.prog D 163 (j6e (j5b Gv)):=Ql (p:=y09) (fuel:=4) (rk:=[.v]) h fun _ _=>by kernel_rfl
theorem y6y:Qe Proofs.Tryz.prog D 163 (j6e z14):=y6x q3z (Qf h_E0 w3y v54)
end Go.En
end
noncomputable section
set_option maxRecDepth 100000
open Go Go.RowKit Go.Fl Go.Fl.Lk Go.Fx
namespace Go.En
theorem j6f:Ent Proofs.Tryz.prog 104:=Qg (by kernel_rfl) (by kernel_rfl) (by kernel_rfl)
def q9v (X:Hf):Con Sg:=conV ([.el C.env,.el C.flag]:LP) ([.el C.env,.el C.flag]:LV) ([.int .i64]:LV) ([.same,.same]:LV) (fun a K=>X a.1 a.2.1 (fun q0=>K (q0,()) ((),(),())))
def j81:PT:=Qj ([(7,⟨[0,1,2,3,5,15,16,17],[1,0],[],[(.slot 6,.int .i64),(.obj 2,.own 9 C.str)]⟩),(23,⟨[0,1,2,3,5,6,15,16,17,18,19,20,21,22],[1,0],[],[(.slot 8,.int .i64),(.obj 2,.own 9 C.str)]⟩)]:LS)
def j82 (Jj:He) (Wh:H7) (Wi:Up) (q56:q8a) (Zn:Jr):Ev Sg:=(((((E0.with 100 (z8g Jj)).with 162 (z6u Wh)).with 101 (z6r Wi)).with 163 (j6e q56)).with 116 (q1d Zn))
theorem w31 (Jj:He) (Wh:H7) (Wi:Up) (q56:q8a) (Zn:Jr) (h:Ev3 (j82 Jj Wh Wi q56 Zn) Proofs.Tryz.prog D):Qe Proofs.Tryz.prog D 104 (q9v (q9d Jj Wh Wi q56 Zn)):=Ql (p:=j81) (fuel:=4) (rk:=[.v]) h fun a K=>by kernel_rfl
theorem w32:Qe Proofs.Tryz.prog D 104 (q9v q0c):=w31 q20 q22 q30 z14 W8 (Qf (Qf (Qf (Qf (Qf h_E0 z6q j6a) z9j j7s) z30 w30) v6g y6y) q9q z2e)
theorem j83:Ent Proofs.Tryz.prog 105:=Qg (by kernel_rfl) (by kernel_rfl) (by kernel_rfl)
def z9k (X:q12):Con Sg:=conV ([.el C.env]:LP) ([.el C.env]:LV) ([.vec 9 C.str]:LV) ([.same]:LV) (fun a K=>X a.1 (fun q0=>K (q0,()) ((),())))
def w33:PT:=Qj ([(7,⟨[0,1,2],[0],[],[(.slot 3,.own 9 C.str),(.slot 4,.int .i64)]⟩)]:LS)
def w34:Ev Sg:=E0
theorem w6s:Qe Proofs.Tryz.prog D 105 (z9k q6b):=Ql (E:=w34) (p:=w33) (fuel:=4) (rk:=[.own 9 C.str]) h_E0 fun a K=>by kernel_rfl
theorem j6g:Ent Proofs.Tryz.prog 106:=Qg (by kernel_rfl) (by kernel_rfl) (by kernel_rfl)
def z6v (X:q0d):Con Sg:=conV ([.el C.env]:LP) ([.el C.env]:LV) ([.vec 217 C.edge]:LV) ([.same]:LV) (fun a K=>X a.1 (fun q0=>K (q0,()) ((),())))
def j84:PT:=Qj ([(7,⟨[0,1,2],[0],[],[(.slot 3,.own 217 C.edge),(.slot 4,.int .i64)]⟩),(13,⟨[0,1,2,4,6,7,8,9,10],[],[],[(.slot 3,.own 217 C.edge),(.slot 5,.int .i64)]⟩)]:LS)
def j85:Ev Sg:=E0
theorem w35:Qe Proofs.Tryz.prog D 106 (z6v q0e):=Ql (E:=j85) (p:=j84) (fuel:=4) (rk:=[.own 217 C.edge]) h_E0 fun a K=>by kernel_rfl
theorem w6t:Ent Proofs.Tryz.prog 93:=Qg (by kernel_rfl) (by kernel_rfl) (by kernel_rfl)
def z6w (X:q23):Con Sg:=conV ([.sl C.span,.sl C.span]:LP) ([.sl C.span,.sl C.span]:LV) ([.vec 95 C.span]:LV) ([.same,.same]:LV) (fun a K=>X a.1 a.2.1 (fun q0=>K (q0,()) ((),(),())))
def v1p:PT:=Qj ([(7,⟨[0,1,4,5,6,8,9,10,11],[1],[],[(.slot 7,.int .i64),(.obj 0,.own 4 C.bool)]⟩)]:LS)
def v1q (Zr:Gg) (Qz:Jm):Ev Sg:=((E0.with 96 (z6m Zr)).with 150 (q5s Qz))
theorem v6h (Zr:Gg) (Qz:Jm) (h:Ev3 (v1q Zr Qz) Proofs.Tryz.prog D):Qe Proofs.Tryz.prog D 93 (z6w (z5z Zr Qz)):=Ql (p:=v1p) (fuel:=4) (rk:=[.own 95 C.span]) h fun a K=>by kernel_rfl
theorem v6i:Qe Proofs.Tryz.prog D 93 (z6w q6r):=v6h B8 W9 (Qf (Qf h_E0 z3v j21) q4l q9s)
theorem z32:Ent Proofs.Tryz.prog 107:=Qg (by kernel_rfl) (by kernel_rfl) (by kernel_rfl)
def q0o (X:Wf):Con Sg:=conV ([.el C.env,.v]:LP) ([.el C.env,.int .i64]:LV) ([.int .i64]:LV) ([.same,.same]:LV) (fun a K=>X a.1 a.2.1 (fun q0=>K (q0,()) ((),(),())))
def z43:PT:=Qj ([(13,⟨[0,1,2,5,6,7,15,16,17,18,19,20,21,22,23,24,25,26,27,28,29,30,31,32,33],[1,0],[],[(.slot 8,.int .i64)]⟩),(35,⟨[0,1,2,5,6,7,8,9,15,16,17,18,19,20,21,22,23,24,25,26,27,28,29,30,31,32,33,34,35,36,37,38,55,56,57,58,59,60,61,62,63,64,66,67,68,69,70,71,72,73,74,75,76],[1,0],[],[(.slot 10,.own 95 C.span),(.slot 11,.int .i64),(.obj 4,.own 9 C.str)]⟩),(51,⟨[0,1,2,5,6,7,8,9,10,11,15,16,17,18,19,20,21,22,23,24,25,26,27,28,29,30,31,32,33,34,35,36,37,38,55,56,57,58,59,60,61,62,63,64,66,67,68,69,70,71,72,73,74,75,77,78,79,101,102,103,104,105,106],[1,0],[],[(.slot 13,.int .i64),(.obj 9,.own 95 C.span),(.obj 6,.own 95 C.span),(.obj 4,.own 9 C.str)]⟩)]:LS)
def z44 (Zg:Wq) (Wh:H7) (Jj:He) (Wi:Up) (q3d:q23):Ev Sg:=(((((E0.with 41 (q70 Zg)).with 162 (z6u Wh)).with 100 (z8g Jj)).with 101 (z6r Wi)).with 93 (z6w q3d))
theorem z6x (Zg:Wq) (Wh:H7) (Jj:He) (Wi:Up) (q3d:q23) (h:Ev3 (z44 Zg Wh Jj Wi q3d) Proofs.Tryz.prog D):Qe Proofs.Tryz.prog D 107 (q0o (q0f Zg Wh Jj Wi q3d)):=Ql (p:=z43) (fuel:=4) (rk:=[.v]) h fun a K=>by kernel_rfl
theorem z6y:Qe Proofs.Tryz.prog D 107 (q0o Vn):=z6x Gf q22 q20 q30 q6r (Qf (Qf (Qf (Qf (Qf h_E0 q9r z3u) z9j j7s) z6q j6a) z30 w30) w6t v6i)
theorem j07:Ent Proofs.Tryz.prog 54:=Qg (by kernel_rfl) (by kernel_rfl) (by kernel_rfl)
def q5u (X:Ua):Con Sg:=conV ([.el C.env]:LP) ([.el C.env]:LV) ([.str,.int .i64]:LV) ([.same]:LV) (fun a K=>X a.1 (fun q0 q1=>K (q0,q1,()) ((),())))
def j3b:PT:=Qj ([(13,⟨[0,1,4,5,16,17,18,19,21,22,23],[0],[],[(.slot 6,.int .i64),(.obj 1,.own 9 C.str)]⟩),(33,⟨[0,1,4,5,6,8,9,16,17,18,19,21,22,23,24,25,26,27,28,59,60,61,62,63,64,65,66,67],[0],[],[(.slot 10,.int .i64),(.obj 1,.own 9 C.str),(.obj 4,.own 217 C.edge)]⟩),(51,⟨[0,1,4,5,6,8,9,10,12,13,16,17,18,19,21,22,23,24,25,26,27,28,59,60,61,62,63,64,65,66,67,70,71,72,73,74,94,95,96,97,98,99,100,101,102],[0],[],[(.slot 14,.int .i64),(.obj 8,.own 9 C.str),(.obj 9,.own 217 C.edge),(.obj 4,.own 217 C.edge),(.obj 1,.own 9 C.str)]⟩)]:LS)
def j3c (U9:U3) (Jj:He) (Wi:Up) (q57:q5c) (q2s:q5e) (H0:Hf) (Bl:q12) (H1:q0d) (Wj:Wf):Ev Sg:=(((((((((E0.with 99 (q7d U9)).with 100 (z8g Jj)).with 101 (z6r Wi)).with 103 (j04 q57)).with 102 (j06 q2s)).with 104 (q9v H0)).with 105 (z9k Bl)).with 106 (z6v H1)).with 107 (q0o Wj))
theorem j6h (U9:U3) (Jj:He) (Wi:Up) (q57:q5c) (q2s:q5e) (H0:Hf) (Bl:q12) (H1:q0d) (Wj:Wf) (h:Ev3 (j3c U9 Jj Wi q57 q2s H0 Bl H1 Wj) Proofs.Tryz.prog D):Qe Proofs.Tryz.prog D 54 (q5u (q5f U9 Jj Wi q57 q2s H0 Bl H1 Wj)):=Ql (p:=j3b) (fuel:=4) (rk:=[.v,.v]) h fun a K=>by kernel_rfl
theorem j6i:Qe Proofs.Tryz.prog D 54 (q5u Hg):=j6h R4 q20 q30 q9a q9c q0c q6b q0e Vn (Qf (Qf (Qf (Qf (Qf (Qf (Qf (Qf (Qf h_E0 j28 j80) z6q j6a) z30 w30) v1k y02) v1m y08) j6f w32) j83 w6s) j6g w35) z32 z6y)
theorem j3d:Ent Proofs.Tryz.prog 26:=Qg (by kernel_rfl) (by kernel_rfl) (by kernel_rfl)
def z33 (X:Rf):Con Sg:=conV ([.el C.env]:LP) ([.el C.env]:LV) ([.bool]:LV) ([.same]:LV) (fun a K=>X a.1 (fun q0=>K (q0,()) ((),())))
def v6j:PT:=Qj ([]:LS)
def v6k (Ui:Ua):Ev Sg:=(E0.with 54 (q5u Ui))
theorem y1b (Ui:Ua) (h:Ev3 (v6k Ui) Proofs.Tryz.prog D):Qe Proofs.Tryz.prog D 26 (z33 (j0l Ui)):=Ql (p:=v6j) (fuel:=4) (rk:=[.v]) h fun a K=>by kernel_rfl
theorem w36:Qe Proofs.Tryz.prog D 26 (z33 q0g):=y1b Hg (Qf h_E0 j07 j6i)
theorem j6j:Ent Proofs.Tryz.prog 31:=Qg (by kernel_rfl) (by kernel_rfl) (by kernel_rfl)
def q9w (X:Hh):Con Sg:=conV ([.ptr 104 [.c,.v],.v]:LP) ([.ptr 104 [.sl C.u8,.int .i64],.int .i64]:LV) ([.el C.env]:LV) ([.ptr 104 [.same,.int .i64],.same]:LV) (fun a K=>X a.1.1 a.1.2.1 a.2.1 (fun q0 q1=>K (q0,()) (((),q1,()),(),())))
def j86:PT:=Qj ([(8,⟨[0,1,4,5,10,11],[1],[(3,(36,8)),(0,(104,2))],[(.cell 3 0,.str),(.cell 3 1,.str),(.cell 3 2,.int .i64),(.cell 0 1,.int .i64),(.obj 2,.own 177 C.decl)]⟩),(15,⟨[0,1,4,5,6,10,11,21,22,23,24,26],[2,1],[(0,(104,2)),(3,(36,8))],[(.slot 7,.int .i64),(.cell 0 1,.int .i64),(.cell 3 5,.own 122 C.flag),(.obj 10,.own 147 C.seg),(.obj 12,.own 59 C.layer),(.obj 13,.own 68 C.exper)]⟩),(62000009,⟨[0,1,2,4,6,7,8,19,20,21,22,23,24,25,26,27,28,29],[22,21],[(0,(104,2)),(23,(122,13))],[(.slot 9,.int .i64),(.cell 0 1,.int .i64),(.cell 23 2,.own 115 C.val),(.obj 13,.own 68 C.exper),(.obj 12,.own 59 C.layer),(.obj 17,.own 122 C.flag),(.obj 10,.own 147 C.seg)]⟩),(62000019,⟨[0,1,2,4,6,7,8,9,19,20,21,22,23,24,25,26,27,28,29,30,31,32,44,45,46,47,48],[22,21],[(23,(122,13)),(0,(104,2))],[(.slot 10,.int .i64),(.cell 23 5,.own 188 C.prereq),(.cell 0 1,.int .i64),(.obj 10,.own 147 C.seg),(.obj 17,.own 122 C.flag),(.obj 12,.own 59 C.layer),(.obj 13,.own 68 C.exper),(.obj 27,.own 115 C.val)]⟩),(62000029,⟨[0,1,2,4,6,7,8,9,10,19,20,21,22,23,24,25,26,27,28,29,30,31,32,44,45,46,47,48,49,50,51,52,53],[22,21],[(23,(122,13)),(0,(104,2))],[(.slot 11,.int .i64),(.cell 23 6,.own 190 C.target),(.cell 0 1,.int .i64),(.obj 27,.own 115 C.val),(.obj 13,.own 68 C.exper),(.obj 12,.own 59 C.layer),(.obj 17,.own 122 C.flag),(.obj 10,.own 147 C.seg),(.obj 34,.own 188 C.prereq)]⟩),(62000038,⟨[0,1,2,4,6,7,8,9,10,11,12,19,20,21,22,23,24,25,26,27,28,29,30,31,32,44,45,46,47,48,49,50,51,52,53,81,82,83,84,87,88,89,90,91,92,93],[23],[(51,(190,3)),(0,(104,2))],[(.cell 51 0,.str),(.cell 0 1,.int .i64),(.obj 50,.own 9 C.str),(.obj 34,.own 188 C.prereq),(.obj 10,.own 147 C.seg),(.obj 17,.own 122 C.flag),(.obj 12,.own 59 C.layer),(.obj 13,.own 68 C.exper),(.obj 27,.own 115 C.val),(.obj 42,.own 190 C.target)]⟩),(62000060,⟨[0,1,2,4,6,7,8,9,10,11,13,19,20,21,22,23,24,25,26,27,28,29,30,31,32,44,45,46,47,48,49,50,51,52,53,81,82,83,84,108],[22,21],[(0,(104,2)),(23,(122,13))],[(.cell 0 1,.int .i64),(.cell 23 7,.own 193 C.rule),(.obj 50,.own 9 C.str),(.obj 34,.own 188 C.prereq),(.obj 10,.own 147 C.seg),(.obj 17,.own 122 C.flag),(.obj 12,.own 59 C.layer),(.obj 13,.own 68 C.exper),(.obj 27,.own 115 C.val),(.obj 42,.own 190 C.target)]⟩),(62000047,⟨[0,1,2,4,6,7,8,9,10,11,13,19,20,21,22,23,24,25,26,27,28,29,30,31,32,44,45,46,47,48,49,50,51,52,53,81,82,83,84,108],[],[(0,(104,2)),(23,(122,13))],[(.slot 14,.int .i64),(.cell 0 1,.int .i64),(.cell 23 7,.own 193 C.rule),(.obj 50,.own 9 C.str),(.obj 34,.own 188 C.prereq),(.obj 10,.own 147 C.seg),(.obj 17,.own 122 C.flag),(.obj 12,.own 59 C.layer),(.obj 13,.own 68 C.exper),(.obj 27,.own 115 C.val),(.obj 42,.own 190 C.target)]⟩),(25,⟨[0,1,4,5,6,7,10,11,21,22,23,24,26,27,28,29,30,45,46,48],[2,1],[(0,(104,2)),(3,(36,8))],[(.slot 8,.int .i64),(.cell 0 1,.int .i64),(.cell 3 6,.own 59 C.layer),(.obj 13,.own 68 C.exper),(.obj 10,.own 147 C.seg),(.obj 17,.own 122 C.flag)]⟩),(35,⟨[0,1,4,5,6,7,8,10,11,21,22,23,24,26,27,28,29,30,45,46,48,49,50,51,52,66,67,69],[2,1],[(0,(104,2)),(3,(36,8))],[(.slot 9,.int .i64),(.cell 0 1,.int .i64),(.cell 3 7,.own 68 C.exper),(.obj 17,.own 122 C.flag),(.obj 10,.own 147 C.seg),(.obj 24,.own 59 C.layer)]⟩),(64000010,⟨[0,1,2,3,5,8,9,10,13,14,15,16,17,18,19,20,21,22,23,24,25,26,27,28,29,30,31,32,33,34,35,36,37,38,39,40,41,42,43,44,45,46],[37,36,35],[(40,(68,12)),(0,(104,2))],[(.cell 40 4,.int .i64),(.cell 0 1,.int .i64),(.obj 39,.own 70 C.range),(.obj 31,.own 68 C.exper),(.obj 24,.own 59 C.layer),(.obj 17,.own 122 C.flag),(.obj 10,.own 147 C.seg)]⟩),(64000014,⟨[0,1,2,3,5,8,9,10,13,14,15,16,17,18,19,20,21,22,23,24,25,26,27,28,29,30,31,32,33,34,35,36,37,38,39,40,41,42,43,44,45,46],[37,36,35],[(40,(68,12)),(0,(104,2))],[(.cell 40 7,.int .i64),(.cell 40 8,.str),(.cell 40 9,.str),(.cell 40 10,.sl C.val),(.cell 40 11,.sl C.ex),(.cell 0 1,.int .i64),(.obj 10,.own 147 C.seg),(.obj 17,.own 122 C.flag),(.obj 24,.own 59 C.layer),(.obj 31,.own 68 C.exper),(.obj 39,.own 70 C.range)]⟩)]:LS)
def j87 (Q1:J3) (q3e:q2v) (Qa:Q7) (Rt:z0e) (Z8:Ry) (Bv:q7s) (z0a:z1l) (Ux:B2) (Bw:q2b) (Zn:Jr) (z2v:z1o) (Jk:Rb) (Ht:q3q) (q8l:q75) (Wa:q2a) (Ve:Re) (q58:q45) (J2:Rf):Ev Sg:=((((((((((((((((((E0.with 57 (q6v Q1)).with 59 (z6c q3e)).with 49 (Gu Qa)).with 60 (v0q Rt)).with 109 (z6b Z8)).with 112 (w0n Bv)).with 115 (w2t z0a)).with 114 (z6d Ux)).with 113 (w0o Bw)).with 116 (q1d Zn)).with 62 (w3h z2v)).with 58 (z8d Jk)).with 117 (j2q Ht)).with 88 (j5w q8l)).with 51 (j2p Wa)).with 118 (z3w Ve)).with 91 (j0y q58)).with 26 (z33 J2))
theorem w37 (Q1:J3) (q3e:q2v) (Qa:Q7) (Rt:z0e) (Z8:Ry) (Bv:q7s) (z0a:z1l) (Ux:B2) (Bw:q2b) (Zn:Jr) (z2v:z1o) (Jk:Rb) (Ht:q3q) (q8l:q75) (Wa:q2a) (Ve:Re) (q58:q45) (J2:Rf) (h:Ev3 (j87 Q1 q3e Qa Rt Z8 Bv z0a Ux Bw Zn z2v Jk Ht q8l Wa Ve q58 J2) Proofs.Tryz.prog D):Qe Proofs.Tryz.prog D 31 (q9w (q9e Q1 q3e Qa Rt Z8 Bv z0a Ux Bw Zn z2v Jk Ht q8l Wa Ve q58 J2)):=Ql (p:=j86) (fuel:=4) (rk:=[.el C.env]) h fun a K=>by kernel_rfl
theorem w38:Qe Proofs.Tryz.prog D 31 (q9w q0h):=w37 W0 q6l Zv z72 G5 z3b z5h B3 z3d W8 z5m q3p q8w z1r q7r q2f q83 q0g (Qf (Qf (Qf (Qf (Qf (Qf (Qf (Qf (Qf (Qf (Qf (Qf (Qf (Qf (Qf (Qf (Qf (Qf h_E0 q6f z0h) w54 v4x) Vd Rm) w8z y3q) j0s w2q) w80 y3r) v9j u07) j5h w2r) j5g y3s) q9q z2e) v9p u1b) z8c w0m) w2s v4y) v5i y51) j5f v0p) j22 w3j) v00 v92) j3d w36)
theorem j88:Ent Proofs.Tryz.prog 30:=Qg (by kernel_rfl) (by kernel_rfl) (by kernel_rfl)
def z9l (X:q13):Con Sg:=conV ([]:LP) ([]:LV) ([.el C.env]:LV) ([]:LV) (fun _ K=>X (fun q0=>K (q0,()) ()))
def w39:PT:=Qj ([]:LS)
def w4a:Ev Sg:=E0
theorem w6u:Qe Proofs.Tryz.prog D 30 (z9l q6c):=Ql (E:=w4a) (p:=w39) (fuel:=4) (rk:=[.el C.env]) h_E0 fun a K=>by kernel_rfl
theorem z2f:Ent Proofs.Tryz.prog 64:=Qg (by kernel_rfl) (by kernel_rfl) (by kernel_rfl)
def q9x (X:Vo):Con Sg:=conV ([.el C.subj,.v]:LP) ([.el C.subj,.str]:LV) ([.int .i64]:LV) ([.same,.same]:LV) (fun a K=>X a.1 a.2.1 (fun q0=>K (q0,()) ((),(),())))
def j89:PT:=Qj ([(120000005,⟨[0,1,6,7],[1],[],[(.slot 8,.int .i64)]⟩)]:LS)
def j9a:Ev Sg:=E0
theorem z6z:Qe Proofs.Tryz.prog D 64 (q9x Uq):=Ql (E:=j9a) (p:=j89) (fuel:=4) (rk:=[.v]) h_E0 fun a K=>by kernel_rfl
theorem q9y:Ent Proofs.Tryz.prog 170:=Qg (by kernel_rfl) (by kernel_rfl) (by kernel_rfl)
def q71 (X:Wt):Con Sg:=conV ([.el C.val]:LP) ([.el C.val]:LV) ([.el C.val]:LV) ([.same]:LV) (fun a K=>X a.1 (fun q0=>K (q0,()) ((),())))
def w6v:PT:=Qj ([]:LS)
def w6w:Ev Sg:=E0
theorem z34:Qe Proofs.Tryz.prog D 170 (q71 Vj):=Ql (E:=w6w) (p:=w6v) (fuel:=4) (rk:=[.el C.val]) h_E0 fun a K=>by kernel_rfl
theorem j08:Ent Proofs.Tryz.prog 122:=Qg (by kernel_rfl) (by kernel_rfl) (by kernel_rfl)
def q5v (X:Ub):Con Sg:=conV ([.el C.attr]:LP) ([.el C.attr]:LV) ([.el C.attr]:LV) ([.same]:LV) (fun a K=>X a.1 (fun q0=>K (q0,()) ((),())))
def j3e:PT:=Qj ([]:LS)
def j3f (Zi:Wt):Ev Sg:=(E0.with 170 (q71 Zi))
theorem j6k (Zi:Wt) (h:Ev3 (j3f Zi) Proofs.Tryz.prog D):Qe Proofs.Tryz.prog D 122 (q5v (q5g Zi)):=Ql (p:=j3e) (fuel:=4) (rk:=[.el C.attr]) h fun a K=>by kernel_rfl
theorem j6l:Qe Proofs.Tryz.prog D 122 (q5v Hi):=j6k Vj (Qf h_E0 q9y z34)
theorem j6m:Ent Proofs.Tryz.prog 65:=Qg (by kernel_rfl) (by kernel_rfl) (by kernel_rfl)
def q9z (X:Hj):Con Sg:=conV ([.el C.ctx]:LP) ([.el C.ctx]:LV) ([.el C.ctx]:LV) ([.same]:LV) (fun a K=>X a.1 (fun q0=>K (q0,()) ((),())))
def j9b:PT:=Qj ([(122000007,⟨[0,1,4,8,9,10,11,12],[],[],[(.slot 5,.own 180 C.attr),(.slot 13,.int .i64)]⟩)]:LS)
def j9c (Uj:Ub):Ev Sg:=(E0.with 122 (q5v Uj))
theorem w4b (Uj:Ub) (h:Ev3 (j9c Uj) Proofs.Tryz.prog D):Qe Proofs.Tryz.prog D 65 (q9z (q9f Uj)):=Ql (p:=j9b) (fuel:=4) (rk:=[.el C.ctx]) h fun a K=>by kernel_rfl
theorem w4c:Qe Proofs.Tryz.prog D 65 (q9z q0i):=w4b Hi (Qf h_E0 j08 j6l)
theorem q7e:Ent Proofs.Tryz.prog 35:=Qg (by kernel_rfl) (by kernel_rfl) (by kernel_rfl)
def q18 (X:Jn):Con Sg:=conV ([.el C.subj,.v]:LP) ([.el C.subj,.str]:LV) ([.el C.ctx,.bool]:LV) ([.same,.same]:LV) (fun a K=>X a.1 a.2.1 (fun q0 q1=>K (q0,q1,()) ((),(),())))
def w4d:PT:=Qj ([]:LS)
def w4e (Ja:Vo) (H2:Hj):Ev Sg:=((E0.with 64 (q9x Ja)).with 65 (q9z H2))
theorem w6x (Ja:Vo) (H2:Hj) (h:Ev3 (w4e Ja H2) Proofs.Tryz.prog D):Qe Proofs.Tryz.prog D 35 (q18 (z0v Ja H2)):=Ql (p:=w4d) (fuel:=4) (rk:=[.el C.ctx,.v]) h fun _ _=>by kernel_rfl
theorem z05:Qe Proofs.Tryz.prog D 35 (q18 Vk):=w6x Uq q0i (Qf (Qf h_E0 z2f z6z) j6m w4c)
end Go.En
end
noncomputable section
set_option maxRecDepth 100000
open Go Go.RowKit Go.Fl Go.Fl.Lk Go.Fx
namespace Go.En
theorem j9d:Ent Proofs.Tryz.prog 124:=Qg (by kernel_rfl) (by kernel_rfl) (by kernel_rfl)
def z9m (X:q14):Con Sg:=conV ([.sl C.bytes]:LP) ([.sl C.bytes]:LV) ([.vec 5 C.u8]:LV) ([.same]:LV) (fun a K=>X a.1 (fun q0=>K (q0,()) ((),())))
def w4f:PT:=Qj ([(7,⟨[0,2,7,8],[],[],[(.slot 3,.own 5 C.u8),(.slot 9,.int .i64)]⟩),(13,⟨[0,2,5,7,8,9,10,11,12],[],[],[(.slot 3,.own 5 C.u8),(.slot 6,.int .i64)]⟩)]:LS)
def w4g:Ev Sg:=E0
theorem w6y:Qe Proofs.Tryz.prog D 124 (z9m q15):=Ql (E:=w4g) (p:=w4f) (fuel:=4) (rk:=[.own 5 C.u8]) h_E0 fun a K=>by kernel_rfl
theorem z60:Ent Proofs.Tryz.prog 225:=Qg (by kernel_rfl) (by kernel_rfl) (by kernel_rfl)
def q90 (X:Ur):Con Sg:=conV ([.v,.v]:LP) ([.int .u64,.int .i64]:LV) ([.int .u64]:LV) ([.same,.same]:LV) (fun a K=>X a.1 a.2.1 (fun q0=>K (q0,()) ((),(),())))
def z8n:PT:=Qj ([]:LS)
def z8o:Ev Sg:=E0
theorem j09:Qe Proofs.Tryz.prog D 225 (q90 Us):=Ql (E:=z8o) (p:=z8n) (fuel:=4) (rk:=[.v]) h_E0 fun a K=>by kernel_rfl
theorem q4x:Ent Proofs.Tryz.prog 172:=Qg (by kernel_rfl) (by kernel_rfl) (by kernel_rfl)
def G3 (X:Z4):Con Sg:=conV ([.ptr 251 [.v,.v,.v,.v],.v]:LP) ([.ptr 251 [.int .u64,.int .u64,.int .u64,.int .u64],.int .i64]:LV) ([]:LV) ([.ptr 251 [.int .u64,.int .u64,.int .u64,.int .u64],.same]:LV) (fun a K=>X a.1.1 a.1.2.1 a.1.2.2.1 a.1.2.2.2.1 a.2.1 (fun q0 q1 q2 q3=>K () ((q0,q1,q2,q3,()),(),())))
def z61:PT:=Qj ([(3,⟨[0,1,4],[],[(0,(251,4))],[(.slot 5,.int .i64),(.cell 0 0,.int IntKind.u64),(.cell 0 1,.int IntKind.u64),(.cell 0 2,.int IntKind.u64),(.cell 0 3,.int IntKind.u64)]⟩)]:LS)
def z62 (Zp:Ur):Ev Sg:=(E0.with 225 (q90 Zp))
theorem z8p (Zp:Ur) (h:Ev3 (z62 Zp) Proofs.Tryz.prog D):Qe Proofs.Tryz.prog D 172 (G3 (q1w Zp)):=Ql (p:=z61) (fuel:=4) (rk:=[]) h fun a K=>by kernel_rfl
theorem q7m:Qe Proofs.Tryz.prog D 172 (G3 Zq):=z8p Us (Qf h_E0 z60 j09)
theorem z8q:Ent Proofs.Tryz.prog 171:=Qg (by kernel_rfl) (by kernel_rfl) (by kernel_rfl)
def q4p (X:Vr):Con Sg:=conV ([.ptr 251 [.v,.v,.v,.v],.v]:LP) ([.ptr 251 [.int .u64,.int .u64,.int .u64,.int .u64],.int .u64]:LV) ([]:LV) ([.ptr 251 [.int .u64,.int .u64,.int .u64,.int .u64],.same]:LV) (fun a K=>X a.1.1 a.1.2.1 a.1.2.2.1 a.1.2.2.2.1 a.2.1 (fun q0 q1 q2 q3=>K () ((q0,q1,q2,q3,()),(),())))
def j1a:PT:=Qj ([]:LS)
def j1b (Za:Z4):Ev Sg:=(E0.with 172 (G3 Za))
theorem j3g (Za:Z4) (h:Ev3 (j1b Za) Proofs.Tryz.prog D):Qe Proofs.Tryz.prog D 171 (q4p (q32 Za)):=Ql (p:=j1a) (fuel:=4) (rk:=[]) h fun a K=>by kernel_rfl
theorem j3h:Qe Proofs.Tryz.prog D 171 (q4p Gk):=j3g Zq (Qf h_E0 q4x q7m)
theorem w6z:Ent Proofs.Tryz.prog 123:=Qg (by kernel_rfl) (by kernel_rfl) (by kernel_rfl)
def z63 (X:q24):Con Sg:=conV ([.v,.v,.sl C.u8]:LP) ([.int .u64,.int .u64,.sl C.u8]:LV) ([.int .u64]:LV) ([.same,.same,.same]:LV) (fun a K=>X a.1 a.2.1 a.2.2.1 (fun q0=>K (q0,()) ((),(),(),())))
def v1r:PT:=Qj ([(9,⟨[0,1,2,6,7,8,13,14,15,16,17,18,19,20,21,22,23,24,25],[],[(0,(251,4))],[(.slot 9,.int .i64),(.cell 0 0,.int IntKind.u64),(.cell 0 1,.int IntKind.u64),(.cell 0 2,.int IntKind.u64),(.cell 0 3,.int IntKind.u64)]⟩),(17,⟨[0,1,2,6,7,8,9,13,14,15,16,17,18,19,20,21,22,23,24,25,26,27,28,29,30],[0],[],[(.slot 10,.int IntKind.u64),(.slot 33,.int .i64)]⟩),(29,⟨[0,1,2,6,7,9,13,14,15,16,17,18,19,20,21,22,23,24,25,26,27,28,29,30,51,52,53],[0],[],[(.slot 8,.int IntKind.u64),(.slot 54,.int .i64)]⟩)]:LS)
def v1s (Ww:Vr) (Za:Z4):Ev Sg:=((E0.with 171 (q4p Ww)).with 172 (G3 Za))
theorem v6l (Ww:Vr) (Za:Z4) (h:Ev3 (v1s Ww Za) Proofs.Tryz.prog D):Qe Proofs.Tryz.prog D 123 (z63 (z50 Ww Za)):=Ql (p:=v1r) (fuel:=4) (rk:=[.v]) h fun a K=>by kernel_rfl
theorem v6m:Qe Proofs.Tryz.prog D 123 (z63 q6s):=v6l Gk Zq (Qf (Qf h_E0 z8q j3h) q4x q7m)
theorem w4h:Ent Proofs.Tryz.prog 66:=Qg (by kernel_rfl) (by kernel_rfl) (by kernel_rfl)
def z35 (X:q04):Con Sg:=conV ([.v,.sl C.bytes]:LP) ([.int .u64,.sl C.bytes]:LV) ([.int .u64]:LV) ([.same,.same]:LV) (fun a K=>X a.1 a.2.1 (fun q0=>K (q0,()) ((),(),())))
def w60:PT:=Qj ([]:LS)
def w61 (Bm:q14) (q3f:q24):Ev Sg:=((E0.with 124 (z9m Bm)).with 123 (z63 q3f))
theorem v1t (Bm:q14) (q3f:q24) (h:Ev3 (w61 Bm q3f) Proofs.Tryz.prog D):Qe Proofs.Tryz.prog D 66 (z35 (z3i Bm q3f)):=Ql (p:=w60) (fuel:=4) (rk:=[.v]) h fun a K=>by kernel_rfl
theorem v1u:Qe Proofs.Tryz.prog D 66 (z35 q33):=v1t q15 q6s (Qf (Qf h_E0 j9d w6y) w6z v6m)
theorem j3i:Ent Proofs.Tryz.prog 36:=Qg (by kernel_rfl) (by kernel_rfl) (by kernel_rfl)
def z36 (X:Rg):Con Sg:=conV ([.v,.v]:LP) ([.str,.str]:LV) ([.int .i64]:LV) ([.same,.same]:LV) (fun a K=>X a.1 a.2.1 (fun q0=>K (q0,()) ((),(),())))
def v6n:PT:=Qj ([]:LS)
def v6o (q1m:q04):Ev Sg:=(E0.with 66 (z35 q1m))
theorem y1c (q1m:q04) (h:Ev3 (v6o q1m) Proofs.Tryz.prog D):Qe Proofs.Tryz.prog D 36 (z36 (j0m q1m)):=Ql (p:=v6n) (fuel:=4) (rk:=[.v]) h fun a K=>by kernel_rfl
theorem w4i:Qe Proofs.Tryz.prog D 36 (z36 Rh):=y1c q33 (Qf h_E0 w4h v1u)
theorem j6n:Ent Proofs.Tryz.prog 20:=Qg (by kernel_rfl) (by kernel_rfl) (by kernel_rfl)
def z64 (X:q0j):Con Sg:=conV ([.sl C.forced,.v]:LP) ([.sl C.forced,.str]:LV) ([.el C.forced,.bool]:LV) ([.same,.same]:LV) (fun a K=>X a.1 a.2.1 (fun q0 q1=>K (q0,q1,()) ((),(),())))
def j9e:PT:=Qj ([(5,⟨[0,1,4,8,9],[],[(0,(54,3))],[(.slot 10,.int .i64),(.cell 0 0,.str),(.cell 0 1,.str),(.cell 0 2,.int .i64)]⟩)]:LS)
def j9f:Ev Sg:=E0
theorem w4j:Qe Proofs.Tryz.prog D 20 (z64 q0k):=Ql (E:=j9f) (p:=j9e) (fuel:=4) (rk:=[.el C.forced,.v]) h_E0 fun a K=>by kernel_rfl
theorem w4k:Ent Proofs.Tryz.prog 37:=Qg (by kernel_rfl) (by kernel_rfl) (by kernel_rfl)
def j3j (X:q34):Con Sg:=conV ([.el C.env,.el C.forced]:LP) ([.el C.env,.el C.forced]:LV) ([.bool]:LV) ([.same,.same]:LV) (fun a K=>X a.1 a.2.1 (fun q0=>K (q0,()) ((),(),())))
def w62:PT:=Qj ([(126000005,⟨[0,1,6,7],[1],[],[(.slot 8,.int .i64)]⟩),(127000005,⟨[0,1,6,7],[],[],[(.slot 8,.int .i64)]⟩)]:LS)
def w63:Ev Sg:=E0
theorem v1v:Qe Proofs.Tryz.prog D 37 (j3j q35):=Ql (E:=w63) (p:=w62) (fuel:=8) (rk:=[.v]) h_E0 fun a K=>by kernel_rfl
theorem w4l:Ent Proofs.Tryz.prog 16:=Qg (by kernel_rfl) (by kernel_rfl) (by kernel_rfl)
def z38 (X:q05):Con Sg:=conV ([.el C.env,.el C.subj]:LP) ([.el C.env,.el C.subj]:LV) ([.bool]:LV) ([.same,.same]:LV) (fun a K=>X a.1 a.2.1 (fun q0=>K (q0,()) ((),(),())))
def w65:PT:=Qj ([]:LS)
def w66 (Zc:Jn) (Wx:Rg):Ev Sg:=((E0.with 35 (q18 Zc)).with 36 (z36 Wx))
theorem v1w (Zc:Jn) (Wx:Rg) (h:Ev3 (w66 Zc Wx) Proofs.Tryz.prog D):Qe Proofs.Tryz.prog D 16 (z38 (z3j Zc Wx)):=Ql (p:=w65) (fuel:=4) (rk:=[.v]) h fun a K=>by kernel_rfl
theorem v1x:Qe Proofs.Tryz.prog D 16 (z38 q36):=v1w Vk Rh (Qf (Qf h_E0 q7e z05) j3i w4i)
theorem z65:Ent Proofs.Tryz.prog 130:=Qg (by kernel_rfl) (by kernel_rfl) (by kernel_rfl)
def z39 (X:Gl):Con Sg:=conV ([.v]:LP) ([.int .i64]:LV) ([.bool]:LV) ([.same]:LV) (fun a K=>X a.1 (fun q0=>K (q0,()) ((),())))
def w67:PT:=Qj ([]:LS)
def w68:Ev Sg:=E0
theorem j3k:Qe Proofs.Tryz.prog D 130 (z39 Gm):=Ql (E:=w68) (p:=w67) (fuel:=4) (rk:=[.v]) h_E0 fun a K=>by kernel_rfl
theorem Hr:Ent Proofs.Tryz.prog 174:=Qg (by kernel_rfl) (by kernel_rfl) (by kernel_rfl)
def V0 (X:Zb):Con Sg:=conV ([.sl C.str,.sl C.str]:LP) ([.sl C.str,.sl C.str]:LV) ([.bool]:LV) ([.same,.same]:LV) (fun a K=>X a.1 a.2.1 (fun q0=>K (q0,()) ((),(),())))
def q6w:PT:=Qj ([(9,⟨[0,1,6,7,8,9,10,11,12],[],[],[(.slot 13,.int .i64)]⟩)]:LS)
def q6x:Ev Sg:=E0
theorem R7:Qe Proofs.Tryz.prog D 174 (V0 Zj):=Ql (E:=q6x) (p:=q6w) (fuel:=4) (rk:=[.v]) h_E0 fun a K=>by kernel_rfl
theorem w69:Ent Proofs.Tryz.prog 290:=Qg (by kernel_rfl) (by kernel_rfl) (by kernel_rfl)
def z66 (X:q25):Con Sg:=conV ([.el C.val,.el C.val]:LP) ([.el C.val,.el C.val]:LV) ([.bool]:LV) ([.same,.same]:LV) (fun a K=>X a.1 a.2.1 (fun q0=>K (q0,()) ((),(),())))
def v1y:PT:=Qj ([]:LS)
def v1z (Qq:Zb):Ev Sg:=(E0.with 174 (V0 Qq))
theorem v6p (Qq:Zb) (h:Ev3 (v1z Qq) Proofs.Tryz.prog D):Qe Proofs.Tryz.prog D 290 (z66 (z52 Qq)):=Ql (p:=v1y) (fuel:=4) (rk:=[.v]) h fun a K=>by kernel_rfl
theorem v6q:Qe Proofs.Tryz.prog D 290 (z66 q26):=v6p Zj (Qf h_E0 Hr R7)
theorem j3l:Ent Proofs.Tryz.prog 272:=Qg (by kernel_rfl) (by kernel_rfl) (by kernel_rfl)
def j1c (X:Ri):Con Sg:=conV ([.el C.ex,.el C.ex]:LP) ([.el C.ex,.el C.ex]:LV) ([.bool]:LV) ([.same,.same]:LV) (fun a K=>X a.1 a.2.1 (fun q0=>K (q0,()) ((),(),())))
def j7t:PT:=Qj ([(290000009,⟨[0,1,2,10,11,12,13,14,15,16],[],[],[(.slot 17,.int .i64)]⟩),(292000009,⟨[0,1,2,10,11,12,13,14,15,16],[],[],[(.slot 17,.int .i64)]⟩)]:LS)
def j7u (q3g:q25):Ev Sg:=(E0.with 290 (z66 q3g))
theorem v10 (q3g:q25) (X:Ri) (a:Ex) (b:Ex) (K:Bool->Prop):j0n q3g X a b K=fnV (((j7u q3g).with 272 (j1c X)).pl j7t) 4 272 ([.el C.ex,.el C.ex]:LP) ([.v]:LP) ([.el C.ex,.el C.ex]:LV) ([.bool]:LV) ([.same,.same]:LV) (a,b,()) (fun r _=>K r.1):=by kernel_rfl
theorem y1d:Qe Proofs.Tryz.prog D 272 (j1c q2g):=by
 show Qe _ _ _ (conV ([.el C.ex,.el C.ex]:LP) ([.el C.ex,.el C.ex]:LV) ([.bool]:LV) ([.same,.same]:LV) fun a K=>q2g a.1 a.2.1 (fun q0=>K (q0,()) ((),(),())))
 refine z4p (E:=j7u q26) (fuel:=4) (rk:=[.v]) (p:=j7t) (Qf h_E0 w69 v6q) j3l fun a K h X hX=> ?_
 exact h (fun a b K=>X (a,b,()) fun r _=>K r.1) (fun a b K hs=>hX (a,b,()) (fun r _=>K r.1) (Eq.mp (v10 q26 (fun a b K=>X (a,b,()) fun r _=>K r.1) a b K) hs))
end Go.En
end
noncomputable section
set_option maxRecDepth 100000
open Go Go.RowKit Go.Fl Go.Fl.Lk Go.Fx
namespace Go.En
theorem z4w:Ent Proofs.Tryz.prog 234:=Qg (by kernel_rfl) (by kernel_rfl) (by kernel_rfl)
def z06 (X:Vl):Con Sg:=conV ([.own 66 C.ex,.el C.ex]:LP) ([.vec 66 C.ex,.el C.ex]:LV) ([.vec 66 C.ex]:LV) ([.same,.same]:LV) (fun a K=>X a.1 a.2.1 (fun q0=>K (q0,()) ((),(),())))
def z67:PT:=Qj ([(6,⟨[1,3,4],[1],[],[(.slot 0,.own 66 C.ex)]⟩),(9,⟨[1,3,4,25,26,27],[1],[],[(.slot 0,.own 66 C.ex),(.slot 28,.int .i64)]⟩),(128000005,⟨[0,1,6,7],[0],[],[(.slot 8,.int .i64)]⟩)]:LS)
def z68 (Jy:Gl) (q2t:Ri):Ev Sg:=((E0.with 130 (z39 Jy)).with 272 (j1c q2t))
theorem j9g (Jy:Gl) (q2t:Ri) (X:Vl) (l:List (Ex)) (e:Ex) (K:List (Ex)->Prop):z0w Jy q2t X l e K=fnV (((z68 Jy q2t).with 234 (z06 X)).pl z67) 4 234 ([.own 66 C.ex,.el C.ex]:LP) ([.own 66 C.ex]:LP) ([.vec 66 C.ex,.el C.ex]:LV) ([.vec 66 C.ex]:LV) ([.same,.same]:LV) (l,e,()) (fun r _=>K r.1):=by kernel_rfl
theorem w7a:Qe Proofs.Tryz.prog D 234 (z06 q16):=by
 show Qe _ _ _ (conV ([.own 66 C.ex,.el C.ex]:LP) ([.vec 66 C.ex,.el C.ex]:LV) ([.vec 66 C.ex]:LV) ([.same,.same]:LV) fun a K=>q16 a.1 a.2.1 (fun q0=>K (q0,()) ((),(),())))
 refine z4p (E:=z68 Gm q2g) (fuel:=4) (rk:=[.own 66 C.ex]) (p:=z67) (Qf (Qf h_E0 z65 j3k) j3l y1d) z4w fun a K h X hX=> ?_
 exact h (fun l e K=>X (l,e,()) fun r _=>K r.1) (fun l e K hs=>hX (l,e,()) (fun r _=>K r.1) (Eq.mp (j9g Gm q2g (fun l e K=>X (l,e,()) fun r _=>K r.1) l e K) hs))
theorem z9n:Ent Proofs.Tryz.prog 235:=Qg (by kernel_rfl) (by kernel_rfl) (by kernel_rfl)
def z69 (X:Gn):Con Sg:=conV ([.el C.ex]:LP) ([.el C.ex]:LV) ([.el C.ex]:LV) ([.same]:LV) (fun a K=>X a.1 (fun q0=>K (q0,()) ((),())))
def j3m:PT:=Qj ([(274000007,⟨[0,1,4,8,9,10,11,12],[],[],[(.slot 5,.own 115 C.val),(.slot 13,.int .i64)]⟩),(234000007,⟨[0,1,4,8,9,10,11,12],[],[],[(.slot 5,.own 66 C.ex),(.slot 13,.int .i64)]⟩)]:LS)
def j3n (Zi:Wt):Ev Sg:=(E0.with 170 (q71 Zi))
theorem w7b (Zi:Wt) (X:Gn) (e:Ex) (K:Ex->Prop):z54 Zi X e K=fnV (((j3n Zi).with 235 (z69 X)).pl j3m) 4 235 ([.el C.ex]:LP) ([.el C.ex]:LP) ([.el C.ex]:LV) ([.el C.ex]:LV) ([.same]:LV) (e,()) (fun r _=>K r.1):=by kernel_rfl
theorem v6r:Qe Proofs.Tryz.prog D 235 (z69 q6t):=by
 show Qe _ _ _ (conV ([.el C.ex]:LP) ([.el C.ex]:LV) ([.el C.ex]:LV) ([.same]:LV) fun a K=>q6t a.1 (fun q0=>K (q0,()) ((),())))
 refine z4p (E:=j3n Vj) (fuel:=4) (rk:=[.el C.ex]) (p:=j3m) (Qf h_E0 q9y z34) z9n fun a K h X hX=> ?_
 exact h (fun e K=>X (e,()) fun r _=>K r.1) (fun e K hs=>hX (e,()) (fun r _=>K r.1) (Eq.mp (w7b Vj (fun e K=>X (e,()) fun r _=>K r.1) e K) hs))
theorem j9h:Ent Proofs.Tryz.prog 183:=Qg (by kernel_rfl) (by kernel_rfl) (by kernel_rfl)
def z07 (X:Bg):Con Sg:=conV ([.el C.ex]:LP) ([.el C.ex]:LV) ([.vec 66 C.ex]:LV) ([.same]:LV) (fun a K=>X a.1 (fun q0=>K (q0,()) ((),())))
def w4m:PT:=Qj ([(234000007,⟨[0,1,4,8,9,10,11,12],[1],[],[(.slot 5,.own 66 C.ex),(.slot 13,.int .i64)]⟩)]:LS)
def w4n (Bn:Vl) (q3h:Gn):Ev Sg:=((E0.with 234 (z06 Bn)).with 235 (z69 q3h))
theorem w7c (Bn:Vl) (q3h:Gn) (h:Ev3 (w4n Bn q3h) Proofs.Tryz.prog D):Qe Proofs.Tryz.prog D 183 (z07 (z0x Bn q3h)):=Ql (p:=w4m) (fuel:=4) (rk:=[.own 66 C.ex]) h fun a K=>by kernel_rfl
theorem w7d:Qe Proofs.Tryz.prog D 183 (z07 q6d):=w7c q16 q6t (Qf (Qf h_E0 z4w w7a) z9n v6r)
theorem H8:Ent Proofs.Tryz.prog 80:=Qg (by kernel_rfl) (by kernel_rfl) (by kernel_rfl)
def V8 (X:Zm):Con Sg:=conV ([.own 9 C.str]:LP) ([.vec 9 C.str]:LV) ([]:LV) ([.vec 9 C.str]:LV) (fun a K=>X a.1 (fun q0=>K () (q0,())))
theorem Bu:Qe Proofs.Tryz.prog D 80 (V8 Zz):=q7w
theorem q4q:Ent Proofs.Tryz.prog 184:=Qg (by kernel_rfl) (by kernel_rfl) (by kernel_rfl)
def Hs (X:Jt):Con Sg:=conV ([.own 9 C.str]:LP) ([.vec 9 C.str]:LV) ([.vec 9 C.str]:LV) ([.same]:LV) (fun a K=>X a.1 (fun q0=>K (q0,()) ((),())))
theorem q5w:Qe Proofs.Tryz.prog D 184 (Hs Ju):=q5o
theorem j3o:Ent Proofs.Tryz.prog 138:=Qg (by kernel_rfl) (by kernel_rfl) (by kernel_rfl)
def q7f (X:U4):Con Sg:=conV ([.el C.ex]:LP) ([.el C.ex]:LV) ([.sl C.str]:LV) ([.same]:LV) (fun a K=>X a.1 (fun q0=>K (q0,()) ((),())))
def j6o:PT:=Qj ([(7,⟨[0,1,2,6,7,8],[1,0],[],[(.slot 3,.own 9 C.str),(.slot 9,.int .i64)]⟩)]:LS)
def j6p (Bo:Bg) (Qt:Zm) (Zo:Jt):Ev Sg:=(((E0.with 183 (z07 Bo)).with 80 (V8 Qt)).with 184 (Hs Zo))
theorem j9i (Bo:Bg) (Qt:Zm) (Zo:Jt) (h:Ev3 (j6p Bo Qt Zo) Proofs.Tryz.prog D):Qe Proofs.Tryz.prog D 138 (q7f (q67 Bo Qt Zo)):=Ql (p:=j6o) (fuel:=4) (rk:=[.sl C.str]) h fun a K=>by kernel_rfl
theorem j9j:Qe Proofs.Tryz.prog D 138 (q7f R5):=j9i q6d Zz Ju (Qf (Qf (Qf h_E0 j9h w7d) H8 Bu) q4q q5w)
theorem w4o:Ent Proofs.Tryz.prog 139:=Qg (by kernel_rfl) (by kernel_rfl) (by kernel_rfl)
def j3p (X:q7t):Con Sg:=conV ([.sl C.str,.sl C.edge]:LP) ([.sl C.str,.sl C.edge]:LV) ([.vec 9 C.str,.int .i64]:LV) ([.same,.same]:LV) (fun a K=>X a.1 a.2.1 (fun q0 q1=>K (q0,q1,()) ((),(),())))
theorem v11:Qe Proofs.Tryz.prog D 139 (j3p P_graph_Order):=v0m
theorem j6q:Ent Proofs.Tryz.prog 78:=Qg (by kernel_rfl) (by kernel_rfl) (by kernel_rfl)
def q91 (X:Hk):Con Sg:=conV ([.sl C.seg]:LP) ([.sl C.seg]:LV) ([.vec 9 C.str,.int .i64]:LV) ([.same]:LV) (fun a K=>X a.1 (fun q0 q1=>K (q0,q1,()) ((),())))
def j9k:PT:=Qj ([(9,⟨[0,2,3,10,11],[],[],[(.slot 4,.own 9 C.str),(.slot 5,.own 217 C.edge),(.slot 12,.int .i64)]⟩),(17,⟨[0,2,3,4,7,10,11,12,13,14,15,17,18,19,20,21,22,23,24],[6,5,3],[],[(.slot 5,.own 217 C.edge),(.slot 25,.int .i64)]⟩)]:LS)
def j9l (Ga:U4) (q1n:q7t):Ev Sg:=((E0.with 138 (q7f Ga)).with 139 (j3p q1n))
theorem w4p (Ga:U4) (q1n:q7t) (h:Ev3 (j9l Ga q1n) Proofs.Tryz.prog D):Qe Proofs.Tryz.prog D 78 (q91 (q9g Ga q1n)):=Ql (p:=j9k) (fuel:=4) (rk:=[.own 9 C.str,.v]) h fun a K=>by kernel_rfl
theorem w4q:Qe Proofs.Tryz.prog D 78 (q91 q0l):=w4p R5 P_graph_Order (Qf (Qf h_E0 j3o j9j) w4o v11)
theorem j3q:Ent Proofs.Tryz.prog 129:=Qg (by kernel_rfl) (by kernel_rfl) (by kernel_rfl)
def q7g (X:U5):Con Sg:=conV ([.el C.subj,.v,.v]:LP) ([.el C.subj,.str,.str]:LV) ([.el C.val,.bool]:LV) ([.same,.same,.same]:LV) (fun a K=>X a.1 a.2.1 a.2.2.1 (fun q0 q1=>K (q0,q1,()) ((),(),(),())))
def j6r:PT:=Qj ([(17,⟨[0,1,2,3,6,8,9,12,13,14,15,16,18,19,20,21,22,23,24,28,29,30],[2,0],[(1,(115,4))],[(.slot 31,.int .i64),(.cell 1 0,.int .i64),(.cell 1 1,.int .i64),(.cell 1 2,.str),(.cell 1 3,.sl C.str)]⟩)]:LS)
def j6s (Ja:Vo) (Zi:Wt):Ev Sg:=((E0.with 64 (q9x Ja)).with 170 (q71 Zi))
theorem j9m (Ja:Vo) (Zi:Wt) (h:Ev3 (j6s Ja Zi) Proofs.Tryz.prog D):Qe Proofs.Tryz.prog D 129 (q7g (q68 Ja Zi)):=Ql (p:=j6r) (fuel:=4) (rk:=[.el C.val,.v]) h fun a K=>by kernel_rfl
theorem j9n:Qe Proofs.Tryz.prog D 129 (q7g R6):=j9m Uq Vj (Qf (Qf h_E0 z2f z6z) q9y z34)
theorem w4r:Ent Proofs.Tryz.prog 133:=Qg (by kernel_rfl) (by kernel_rfl) (by kernel_rfl)
def z4a (X:q06):Con Sg:=conV ([.el C.val,.el C.val]:LP) ([.el C.val,.el C.val]:LV) ([.bool]:LV) ([.same,.same]:LV) (fun a K=>X a.1 a.2.1 (fun q0=>K (q0,()) ((),(),())))
def w7e:PT:=Qj ([]:LS)
def w7f (Qq:Zb):Ev Sg:=(E0.with 174 (V0 Qq))
theorem v18 (Qq:Zb) (h:Ev3 (w7f Qq) Proofs.Tryz.prog D):Qe Proofs.Tryz.prog D 133 (z4a (z3k Qq)):=Ql (p:=w7e) (fuel:=4) (rk:=[.v]) h fun a K=>by kernel_rfl
theorem v19:Qe Proofs.Tryz.prog D 133 (z4a q07):=v18 Zj (Qf h_E0 Hr R7)
theorem q19:Ent Proofs.Tryz.prog 175:=Qg (by kernel_rfl) (by kernel_rfl) (by kernel_rfl)
def Rn (X:Zw):Con Sg:=conV ([.v,.v]:LP) ([.str,.str]:LV) ([.bool]:LV) ([.same,.same]:LV) (fun a K=>X a.1 a.2.1 (fun q0=>K (q0,()) ((),(),())))
def z2g:PT:=Qj ([]:LS)
def z2h:Ev Sg:=E0
theorem q4r:Qe Proofs.Tryz.prog D 175 (Rn Jd):=Ql (E:=z2h) (p:=z2g) (fuel:=4) (rk:=[.v]) h_E0 fun a K=>by kernel_rfl
theorem z7a:Ent Proofs.Tryz.prog 134:=Qg (by kernel_rfl) (by kernel_rfl) (by kernel_rfl)
def q2n (X:Va):Con Sg:=conV ([.v,.v]:LP) ([.str,.str]:LV) ([.bool]:LV) ([.same,.same]:LV) (fun a K=>X a.1 a.2.1 (fun q0=>K (q0,()) ((),(),())))
def z8r:PT:=Qj ([]:LS)
def z8s (Q0:Zw):Ev Sg:=(E0.with 175 (Rn Q0))
theorem j1d (Q0:Zw) (h:Ev3 (z8s Q0) Proofs.Tryz.prog D):Qe Proofs.Tryz.prog D 134 (q2n (q2h Q0)):=Ql (p:=z8r) (fuel:=4) (rk:=[.v]) h fun a K=>by kernel_rfl
theorem j1e:Qe Proofs.Tryz.prog D 134 (q2n Ut):=j1d Jd (Qf h_E0 q19 q4r)
theorem z08:Ent Proofs.Tryz.prog 176:=Qg (by kernel_rfl) (by kernel_rfl) (by kernel_rfl)
def q4s (X:Wu):Con Sg:=conV ([.v,.v]:LP) ([.str,.str]:LV) ([.bool]:LV) ([.same,.same]:LV) (fun a K=>X a.1 a.2.1 (fun q0=>K (q0,()) ((),(),())))
def z2i:PT:=Qj ([]:LS)
def z2j:Ev Sg:=E0
theorem z4b:Qe Proofs.Tryz.prog D 176 (q4s V5):=Ql (E:=z2j) (p:=z2i) (fuel:=4) (rk:=[.v]) h_E0 fun a K=>by kernel_rfl
theorem z7b:Ent Proofs.Tryz.prog 135:=Qg (by kernel_rfl) (by kernel_rfl) (by kernel_rfl)
def q2o (X:Vb):Con Sg:=conV ([.v,.v]:LP) ([.str,.str]:LV) ([.bool]:LV) ([.same,.same]:LV) (fun a K=>X a.1 a.2.1 (fun q0=>K (q0,()) ((),(),())))
def z8t:PT:=Qj ([]:LS)
def z8u (Jz:Wu):Ev Sg:=(E0.with 176 (q4s Jz))
theorem j1f (Jz:Wu) (h:Ev3 (z8u Jz) Proofs.Tryz.prog D):Qe Proofs.Tryz.prog D 135 (q2o (q2i Jz)):=Ql (p:=z8t) (fuel:=4) (rk:=[.v]) h fun _ _=>by kernel_rfl
theorem j1g:Qe Proofs.Tryz.prog D 135 (q2o Uu):=j1f V5 (Qf h_E0 z08 z4b)
end Go.En
end
noncomputable section
set_option maxRecDepth 100000
open Go Go.RowKit Go.Fl Go.Fl.Lk Go.Fx
namespace Go.En
theorem z8v:Ent Proofs.Tryz.prog 136:=Qg (by kernel_rfl) (by kernel_rfl) (by kernel_rfl)
def z0m (X:Br):Con Sg:=conV ([.v,.v]:LP) ([.str,.str]:LV) ([.bool]:LV) ([.same,.same]:LV) (fun a K=>X a.1 a.2.1 (fun q0=>K (q0,()) ((),(),())))
theorem j3r:Qe Proofs.Tryz.prog D 136 (z0m Bt):=j2o
theorem w4s:Ent Proofs.Tryz.prog 227:=Qg (by kernel_rfl) (by kernel_rfl) (by kernel_rfl)
def j3s (X:q37):Con Sg:=conV ([.el C.val]:LP) ([.el C.val]:LV) ([.bool]:LV) ([.same]:LV) (fun a K=>X a.1 (fun q0=>K (q0,()) ((),())))
def w7g:PT:=Qj ([(8,⟨[0,1,2,3,4],[0],[],[(.slot 5,.bool)]⟩),(14,⟨[0,1,2,3,4,5],[0],[],[(.slot 17,.bool)]⟩)]:LS)
def w7h:Ev Sg:=E0
theorem v2a:Qe Proofs.Tryz.prog D 227 (j3s q38):=Ql (E:=w7h) (p:=w7g) (fuel:=4) (rk:=[.v]) h_E0 fun a K=>by kernel_rfl
theorem w7i:Ent Proofs.Tryz.prog 228:=Qg (by kernel_rfl) (by kernel_rfl) (by kernel_rfl)
def z7c (X:q27):Con Sg:=conV ([.v]:LP) ([.str]:LV) ([.bool]:LV) ([.same]:LV) (fun a K=>X a.1 (fun q0=>K (q0,()) ((),())))
def v2b:PT:=Qj ([(9,⟨[0,5,6,7,8,9,10,11,12,13,14],[],[],[(.obj 0,.siter)]⟩)]:LS)
def v2c (Zh:Wr):Ev Sg:=(E0.with 246 (q4m Zh))
theorem v6s (Zh:Wr) (h:Ev3 (v2c Zh) Proofs.Tryz.prog D):Qe Proofs.Tryz.prog D 228 (z7c (z55 Zh)):=Ql (p:=v2b) (fuel:=4) (rk:=[.v]) h fun a K=>by kernel_rfl
theorem v6t:Qe Proofs.Tryz.prog D 228 (z7c q6u):=v6s Ws (Qf h_E0 q7l z0k)
theorem j6t:Ent Proofs.Tryz.prog 231:=Qg (by kernel_rfl) (by kernel_rfl) (by kernel_rfl)
def z7d (X:q39):Con Sg:=conV ([.v,.v]:LP) ([.str,.str]:LV) ([.vec 9 C.str]:LV) ([.same,.same]:LV) (fun a K=>X a.1 a.2.1 (fun q0=>K (q0,()) ((),(),())))
theorem w4t:Qe Proofs.Tryz.prog D 231 (z7d q4a):=w2p
theorem z09:Ent Proofs.Tryz.prog 286:=Qg (by kernel_rfl) (by kernel_rfl) (by kernel_rfl)
def Rp (X:Jv):Con Sg:=conV ([.v,.v]:LP) ([.str,.str]:LV) ([.str,.bool]:LV) ([.same,.same]:LV) (fun a K=>X a.1 a.2.1 (fun q0 q1=>K (q0,q1,()) ((),(),())))
def z2k:PT:=Qj ([]:LS)
def z2l (Q0:Zw):Ev Sg:=(E0.with 175 (Rn Q0))
theorem z4c (Q0:Zw) (h:Ev3 (z2l Q0) Proofs.Tryz.prog D):Qe Proofs.Tryz.prog D 286 (Rp (Rj Q0)):=Ql (p:=z2k) (fuel:=4) (rk:=[.v,.v]) h fun a K=>by kernel_rfl
theorem z4d:Qe Proofs.Tryz.prog D 286 (Rp V6):=z4c Jd (Qf h_E0 q19 q4r)
theorem z7e:Ent Proofs.Tryz.prog 269:=Qg (by kernel_rfl) (by kernel_rfl) (by kernel_rfl)
def q2p (X:Vc):Con Sg:=conV ([.v,.v]:LP) ([.str,.str]:LV) ([.str,.bool]:LV) ([.same,.same]:LV) (fun a K=>X a.1 a.2.1 (fun q0 q1=>K (q0,q1,()) ((),(),())))
def z8w:PT:=Qj ([]:LS)
def z8x (J0:Jv):Ev Sg:=(E0.with 286 (Rp J0))
theorem j1h (J0:Jv) (h:Ev3 (z8x J0) Proofs.Tryz.prog D):Qe Proofs.Tryz.prog D 269 (q2p (q2j J0)):=Ql (p:=z8w) (fuel:=4) (rk:=[.v,.v]) h fun a K=>by kernel_rfl
theorem j1i:Qe Proofs.Tryz.prog D 269 (q2p Uv):=j1h V6 (Qf h_E0 z09 z4d)
theorem j9o:Ent Proofs.Tryz.prog 270:=Qg (by kernel_rfl) (by kernel_rfl) (by kernel_rfl)
def z9o (X:q6e):Con Sg:=conV ([.v]:LP) ([.str]:LV) ([.int .i64,.ifc]:LV) ([.same]:LV) (fun a K=>X a.1 (fun q0 q1=>K (q0,q1,()) ((),())))
theorem w7j:Qe Proofs.Tryz.prog D 270 (z9o q17):=w53
theorem z8y:Ent Proofs.Tryz.prog 232:=Qg (by kernel_rfl) (by kernel_rfl) (by kernel_rfl)
def q4t (X:Vs):Con Sg:=conV ([.v]:LP) ([.str]:LV) ([.int .i64,.int .i64]:LV) ([.same]:LV) (fun a K=>X a.1 (fun q0 q1=>K (q0,q1,()) ((),())))
def j1j:PT:=Qj ([(11,⟨[0,4,5,10,11,12,13,14,15,16,17,18,19,20,21,22,23,24,25,26,27,28,29,30,31],[],[],[(.obj 0,.siter)]⟩)]:LS)
def j1k (Vf:Vc) (G0:q6e):Ev Sg:=((E0.with 269 (q2p Vf)).with 270 (z9o G0))
theorem j3t (Vf:Vc) (G0:q6e) (h:Ev3 (j1k Vf G0) Proofs.Tryz.prog D):Qe Proofs.Tryz.prog D 232 (q4t (q4b Vf G0)):=Ql (p:=j1j) (fuel:=4) (rk:=[.v,.v]) h fun a K=>by kernel_rfl
theorem j3u:Qe Proofs.Tryz.prog D 232 (q4t Gq):=j3t Uv q17 (Qf (Qf h_E0 z7e j1i) j9o w7j)
theorem z7f:Ent Proofs.Tryz.prog 181:=Qg (by kernel_rfl) (by kernel_rfl) (by kernel_rfl)
def q72 (X:V7):Con Sg:=conV ([.v]:LP) ([.str]:LV) ([.el C.a3,.bool]:LV) ([.same]:LV) (fun a K=>X a.1 (fun q0 q1=>K (q0,q1,()) ((),())))
def w7k:PT:=Qj ([(13,⟨[0,2,4,5,10,11,12,13,14,16,17],[2],[(1,(257,3)),(0,(257,3))],[(.slot 18,.int .i64),(.cell 1 0,.int .i64),(.cell 1 1,.int .i64),(.cell 1 2,.int .i64),(.cell 0 0,.int .i64),(.cell 0 1,.int .i64),(.cell 0 2,.int .i64)]⟩)]:LS)
def w7l (H3:q39) (Vw:Vs):Ev Sg:=((E0.with 231 (z7d H3)).with 232 (q4t Vw))
theorem v2d (H3:q39) (Vw:Vs) (h:Ev3 (w7l H3 Vw) Proofs.Tryz.prog D):Qe Proofs.Tryz.prog D 181 (q72 (z3l H3 Vw)):=Ql (p:=w7k) (fuel:=4) (rk:=[.el C.a3,.v]) h fun a K=>by kernel_rfl
theorem j3v:Qe Proofs.Tryz.prog D 181 (q72 Rk):=v2d q4a Gq (Qf (Qf h_E0 j6t w4t) z8y j3u)
theorem w4u:Ent Proofs.Tryz.prog 178:=Qg (by kernel_rfl) (by kernel_rfl) (by kernel_rfl)
def z4e (X:q08):Con Sg:=conV ([.el C.val]:LP) ([.el C.val]:LV) ([.int .i64]:LV) ([.same]:LV) (fun a K=>X a.1 (fun q0=>K (q0,()) ((),())))
def w7m:PT:=Qj ([(47,⟨[0,1,8,9,10,11,12,13,14,15,16,17,18,19,20,21,22,31,32,41,42,47,48,57,58,59,60,61,62,63,64,65],[0],[],[(.slot 66,.int .i64)]⟩),(59,⟨[0,1,8,9,10,11,12,13,14,15,16,17,18,19,20,21,22,31,32,41,42,47,48,57,58,59,60,61,62,63,64,65,66,67,74,75,76],[0],[],[(.slot 77,.int .i64)]⟩)]:LS)
def w7n (q1o:q37) (q0s:q27) (Ji:V7):Ev Sg:=(((E0.with 227 (j3s q1o)).with 228 (z7c q0s)).with 181 (q72 Ji))
theorem v2e (q1o:q37) (q0s:q27) (Ji:V7) (h:Ev3 (w7n q1o q0s Ji) Proofs.Tryz.prog D):Qe Proofs.Tryz.prog D 178 (z4e (z3m q1o q0s Ji)):=Ql (p:=w7m) (fuel:=4) (rk:=[.v]) h fun a K=>by kernel_rfl
theorem v2f:Qe Proofs.Tryz.prog D 178 (z4e q4c):=v2e q38 q6u Rk (Qf (Qf (Qf h_E0 w4s v2a) w7i v6t) z7f j3v)
theorem j6u:Ent Proofs.Tryz.prog 137:=Qg (by kernel_rfl) (by kernel_rfl) (by kernel_rfl)
def q92 (X:Hl):Con Sg:=conV ([.el C.val,.el C.val]:LP) ([.el C.val,.el C.val]:LV) ([.int .i64,.int .i64]:LV) ([.same,.same]:LV) (fun a K=>X a.1 a.2.1 (fun q0 q1=>K (q0,q1,()) ((),(),())))
def j9p:PT:=Qj ([(183000005,⟨[0,1,9,10],[],[],[(.slot 11,.int .i64)]⟩)]:LS)
def j9q (Rw:q08) (Ji:V7):Ev Sg:=((E0.with 178 (z4e Rw)).with 181 (q72 Ji))
theorem w4v (Rw:q08) (Ji:V7) (h:Ev3 (j9q Rw Ji) Proofs.Tryz.prog D):Qe Proofs.Tryz.prog D 137 (q92 (q9h Rw Ji)):=Ql (p:=j9p) (fuel:=4) (rk:=[.v,.v]) h fun a K=>by kernel_rfl
theorem w4w:Qe Proofs.Tryz.prog D 137 (q92 Hm):=w4v q4c Rk (Qf (Qf h_E0 w4u v2f) z7f j3v)
theorem w4x:Ent Proofs.Tryz.prog 77:=Qg (by kernel_rfl) (by kernel_rfl) (by kernel_rfl)
def z4f (X:q09):Con Sg:=conV ([.el C.subj,.el C.ex]:LP) ([.el C.subj,.el C.ex]:LV) ([.bool]:LV) ([.same,.same]:LV) (fun a K=>X a.1 a.2.1 (fun q0=>K (q0,()) ((),(),())))
def w7o:PT:=Qj ([(174000005,⟨[0,1,6,7],[2],[],[(.slot 8,.int .i64)]⟩),(129000005,⟨[0,1,6,7],[],[],[(.slot 8,.int .i64)]⟩)]:LS)
def w7p (Gb:U5) (Jy:Gl) (Gw:q06) (Vg:Va) (Vh:Vb) (Vx:Br) (Uy:Hl):Ev Sg:=(((((((E0.with 129 (q7g Gb)).with 130 (z39 Jy)).with 133 (z4a Gw)).with 134 (q2n Vg)).with 135 (q2o Vh)).with 136 (z0m Vx)).with 137 (q92 Uy))
theorem v2g (Gb:U5) (Jy:Gl) (Gw:q06) (Vg:Va) (Vh:Vb) (Vx:Br) (Uy:Hl) (h:Ev3 (w7p Gb Jy Gw Vg Vh Vx Uy) Proofs.Tryz.prog D):Qe Proofs.Tryz.prog D 77 (z4f (z3n Gb Jy Gw Vg Vh Vx Uy)):=Ql (p:=w7o) (fuel:=4) (rk:=[.v]) h fun a K=>by kernel_rfl
theorem v2h:Qe Proofs.Tryz.prog D 77 (z4f q1a):=v2g R6 Gm q07 Ut Uu Bt Hm (Qf (Qf (Qf (Qf (Qf (Qf (Qf h_E0 j3q j9n) z65 j3k) w4r v19) z7a j1e) z7b j1g) z8v j3r) j6u w4w)
theorem q93:Ent Proofs.Tryz.prog 45:=Qg (by kernel_rfl) (by kernel_rfl) (by kernel_rfl)
def q73 (X:J9):Con Sg:=conV ([.el C.subj,.sl C.str,.el C.ex]:LP) ([.el C.subj,.sl C.str,.el C.ex]:LV) ([.bool]:LV) ([.same,.same,.same]:LV) (fun a K=>X a.1 a.2.1 a.2.2.1 (fun q0=>K (q0,()) ((),(),(),())))
def z9p:PT:=Qj ([(128000005,⟨[0,1,6,7],[1,0],[],[(.slot 8,.int .i64)]⟩),(129000005,⟨[0,1,6,7],[],[],[(.slot 8,.int .i64)]⟩)]:LS)
def z9q (q1p:q09):Ev Sg:=(E0.with 77 (z4f q1p))
theorem w4y (q1p:q09) (X:J9) (s:Subj) (in_:List (ByteArray)) (e:Ex) (K:Bool->Prop):z3o q1p X s in_ e K=fnV (((z9q q1p).with 45 (q73 X)).pl z9p) 4 45 ([.el C.subj,.sl C.str,.el C.ex]:LP) ([.v]:LP) ([.el C.subj,.sl C.str,.el C.ex]:LV) ([.bool]:LV) ([.same,.same,.same]:LV) (s,in_,e,()) (fun r _=>K r.1):=by kernel_rfl
theorem j3w:Qe Proofs.Tryz.prog D 45 (q73 Rl):=by
 show Qe _ _ _ (conV ([.el C.subj,.sl C.str,.el C.ex]:LP) ([.el C.subj,.sl C.str,.el C.ex]:LV) ([.bool]:LV) ([.same,.same,.same]:LV) fun a K=>Rl a.1 a.2.1 a.2.2.1 (fun q0=>K (q0,()) ((),(),(),())))
 refine z4p (E:=z9q q1a) (fuel:=4) (rk:=[.v]) (p:=z9p) (Qf h_E0 w4x v2h) q93 fun a K h X hX=> ?_
 exact h (fun s in_ e K=>X (s,in_,e,()) fun r _=>K r.1) (fun s in_ e K hs=>hX (s,in_,e,()) (fun r _=>K r.1) (Eq.mp (w4y q1a (fun s in_ e K=>X (s,in_,e,()) fun r _=>K r.1) s in_ e K) hs))
theorem z8z:Ent Proofs.Tryz.prog 79:=Qg (by kernel_rfl) (by kernel_rfl) (by kernel_rfl)
def q4u (X:Vt):Con Sg:=conV ([.el C.seg,.el C.subj,.sl C.str]:LP) ([.el C.seg,.el C.subj,.sl C.str]:LV) ([.bool]:LV) ([.same,.same,.same]:LV) (fun a K=>X a.1 a.2.1 a.2.2.1 (fun q0=>K (q0,()) ((),(),(),())))
def j1l:PT:=Qj ([(129000005,⟨[0,1,6,7],[],[],[(.slot 8,.int .i64)]⟩)]:LS)
def j1m (Zc:Jn) (Z5:J9):Ev Sg:=((E0.with 35 (q18 Zc)).with 45 (q73 Z5))
theorem j3x (Zc:Jn) (Z5:J9) (h:Ev3 (j1m Zc Z5) Proofs.Tryz.prog D):Qe Proofs.Tryz.prog D 79 (q4u (q4d Zc Z5)):=Ql (p:=j1l) (fuel:=4) (rk:=[.v]) h fun _ _=>by kernel_rfl
theorem j3y:Qe Proofs.Tryz.prog D 79 (q4u Gs):=j3x Vk Rl (Qf (Qf h_E0 q7e z05) q93 j3w)
end Go.En
end
noncomputable section
set_option maxRecDepth 100000
open Go Go.RowKit Go.Fl Go.Fl.Lk Go.Fx
namespace Go.En
theorem j1n:Ent Proofs.Tryz.prog 46:=Qg (by kernel_rfl) (by kernel_rfl) (by kernel_rfl)
def q5x (X:Uc):Con Sg:=conV ([.sl C.seg,.el C.subj]:LP) ([.sl C.seg,.el C.subj]:LV) ([.vec 9 C.str]:LV) ([.same,.same]:LV) (fun a K=>X a.1 a.2.1 (fun q0=>K (q0,()) ((),(),())))
def j3z:PT:=Qj ([(13,⟨[0,1,3,4,5,6,7,13,14,15,16,17,18,19,20,21,22],[1,0],[],[(.slot 23,.int .i64),(.obj 2,.map C.str C.seg)]⟩),(25,⟨[0,1,3,4,5,6,7,13,14,15,16,17,18,19,20,21,22,23,24,32,33],[2,1,0],[],[(.slot 10,.own 9 C.str),(.slot 34,.int .i64)]⟩)]:LS)
def j30 (H4:Hk) (Vy:Vt) (Qt:Zm):Ev Sg:=(((E0.with 78 (q91 H4)).with 79 (q4u Vy)).with 80 (V8 Qt))
theorem j6v (H4:Hk) (Vy:Vt) (Qt:Zm) (h:Ev3 (j30 H4 Vy Qt) Proofs.Tryz.prog D):Qe Proofs.Tryz.prog D 46 (q5x (q5h H4 Vy Qt)):=Ql (p:=j3z) (fuel:=4) (rk:=[.own 9 C.str]) h fun a K=>by kernel_rfl
theorem j6w:Qe Proofs.Tryz.prog D 46 (q5x Hn):=j6v q0l Gs Zz (Qf (Qf (Qf h_E0 j6q w4q) z8z j3y) H8 Bu)
theorem j1o:Ent Proofs.Tryz.prog 18:=Qg (by kernel_rfl) (by kernel_rfl) (by kernel_rfl)
def q5y (X:Ud):Con Sg:=conV ([.el C.env,.el C.subj,.v]:LP) ([.el C.env,.el C.subj,.str]:LV) ([.bool]:LV) ([.same,.same,.same]:LV) (fun a K=>X a.1 a.2.1 a.2.2.1 (fun q0=>K (q0,()) ((),(),(),())))
def j31:PT:=Qj ([(5,⟨[0,1,2,3,4,9,10,11],[1,0],[],[(.slot 12,.int .i64)]⟩)]:LS)
def j32 (Uk:Uc) (Z5:J9):Ev Sg:=((E0.with 46 (q5x Uk)).with 45 (q73 Z5))
theorem j6x (Uk:Uc) (Z5:J9) (h:Ev3 (j32 Uk Z5) Proofs.Tryz.prog D):Qe Proofs.Tryz.prog D 18 (q5y (q5i Uk Z5)):=Ql (p:=j31) (fuel:=4) (rk:=[.v]) h fun a K=>by kernel_rfl
theorem j6y:Qe Proofs.Tryz.prog D 18 (q5y Ho):=j6x Hn Rl (Qf (Qf h_E0 j1n j6w) q93 j3w)
theorem w4z:Ent Proofs.Tryz.prog 40:=Qg (by kernel_rfl) (by kernel_rfl) (by kernel_rfl)
def j33 (X:q4e):Con Sg:=conV ([.sl C.range,.v]:LP) ([.sl C.range,.int .i64]:LV) ([.int .i64]:LV) ([.same,.same]:LV) (fun a K=>X a.1 a.2.1 (fun q0=>K (q0,()) ((),(),())))
def w7q:PT:=Qj ([(5,⟨[0,1,7,8],[],[],[(.slot 9,.int .i64)]⟩)]:LS)
def w7r:Ev Sg:=E0
theorem v2i:Qe Proofs.Tryz.prog D 40 (j33 q4f):=Ql (E:=w7r) (p:=w7q) (fuel:=4) (rk:=[.v]) h_E0 fun a K=>by kernel_rfl
theorem z4x:Ent Proofs.Tryz.prog 14:=Qg (by kernel_rfl) (by kernel_rfl) (by kernel_rfl)
def q6h (X:Vm):Con Sg:=conV ([.el C.env,.el C.subj,.sl C.forced,.v]:LP) ([.el C.env,.el C.subj,.sl C.forced,.str]:LV) ([.el C.asg,.int .i64]:LV) ([.same,.same,.same,.same]:LV) (fun a K=>X a.1 a.2.1 a.2.2.1 a.2.2.2.1 (fun q0 q1=>K (q0,q1,()) ((),(),(),(),())))
def w40:PT:=Qj ([(4,⟨[0,1,2,3,4,5,7,8,9],[3,2,1,0],[],[(.slot 10,.int .i64)]⟩),(18,⟨[0,1,2,3,4,5,7,8,9,10,11,12,13,14,24,25,27,28,29,30,31,32,33,34,35,36,37,38,39,40],[9,5,3,2,1,0],[(7,(46,5))],[(.cell 7 2,.int .i64)]⟩),(22,⟨[0,1,2,3,4,5,7,8,9,10,11,12,13,14,15,16,24,25,27,28,29,30,31,32,33,34,35,36,37,38,39,40,48,49,50,51,52,53],[12,7,9,5,3,2,1,0],[],[(.slot 64,.bool)]⟩),(30,⟨[0,1,2,3,4,5,7,8,9,10,11,12,13,14,15,16,24,25,27,28,29,30,31,32,33,34,35,36,37,38,39,40,48,49,50,51,52,53,64],[12,7,9,5,3,2,1,0],[],[(.slot 87,.bool)]⟩),(41,⟨[0,1,2,3,4,5,7,8,9,10,11,12,13,14,15,16,24,25,27,28,29,30,31,32,33,34,35,36,37,38,39,40,48,49,50,51,52,53,64,87,90,91,93,94,95],[12,9,5,3,2,1,0],[(7,(46,5))],[(.slot 96,.int .i64),(.cell 7 1,.str),(.cell 7 3,.int .i64)]⟩),(46,⟨[0,1,2,3,4,5,7,8,9,10,11,12,13,14,15,16,18,24,25,27,28,29,30,31,32,33,34,35,36,37,38,39,40,48,49,50,51,52,53,64,87,90,91,93,94,95,96,97,98,99],[19,7],[],[(.slot 19,.bool)]⟩),(48,⟨[0,1,2,3,4,5,7,8,9,10,11,12,13,14,15,16,18,19,24,25,27,28,29,30,31,32,33,34,35,36,37,38,39,40,48,49,50,51,52,53,64,87,90,91,93,94,95,96,97,98,99],[19,7],[],[(.slot 122,.bool)]⟩),(72000005,⟨[0,1,6,7],[],[],[(.slot 8,.int .i64)]⟩),(34000005,⟨[0,1,6,7],[],[],[(.slot 8,.int .i64)]⟩)]:LS)
def w41 (Zc:Jn) (H5:q0j) (Wx:Rg) (q1q:q4e) (Ul:Ud) (q1r:q05) (q1s:q34):Ev Sg:=(((((((E0.with 35 (q18 Zc)).with 20 (z64 H5)).with 36 (z36 Wx)).with 40 (j33 q1q)).with 18 (q5y Ul)).with 16 (z38 q1r)).with 37 (j3j q1s))
theorem w7s (Zc:Jn) (H5:q0j) (Wx:Rg) (q1q:q4e) (Ul:Ud) (q1r:q05) (q1s:q34) (h:Ev3 (w41 Zc H5 Wx q1q Ul q1r q1s) Proofs.Tryz.prog D):Qe Proofs.Tryz.prog D 14 (q6h (z0y Zc H5 Wx q1q Ul q1r q1s)):=Ql (p:=w40) (fuel:=4) (rk:=[.el C.asg,.v]) h fun a K=>by kernel_rfl
theorem z9r:Qe Proofs.Tryz.prog D 14 (q6h Gz):=w7s Vk q0k Rh q4f Ho q36 q35 (Qf (Qf (Qf (Qf (Qf (Qf (Qf h_E0 q7e z05) j6n w4j) j3i w4i) w4z v2i) j1o j6y) w4l v1x) w4k v1v)
theorem v6u:Ent Proofs.Tryz.prog 111:=Qg (by kernel_rfl) (by kernel_rfl) (by kernel_rfl)
def w9b (X:z15):Con Sg:=conV ([.sl C.bytes]:LP) ([.sl C.bytes]:LV) ([.vec 5 C.u8]:LV) ([.same]:LV) (fun a K=>X a.1 (fun q0=>K (q0,()) ((),())))
def y1e:PT:=Qj ([(7,⟨[0,2],[],[],[(.slot 3,.own 5 C.u8),(.slot 4,.int .i64)]⟩),(15,⟨[0,2,4,5,7,8,9,10,13,14,15,16,17,18],[],[],[(.slot 3,.own 5 C.u8),(.slot 6,.int .i64)]⟩)]:LS)
def y1f:Ev Sg:=E0
theorem y6z:Qe Proofs.Tryz.prog D 111 (w9b z16):=Ql (E:=y1f) (p:=y1e) (fuel:=4) (rk:=[.own 5 C.u8]) h_E0 fun a K=>by kernel_rfl
theorem v2j:Ent Proofs.Tryz.prog 217:=Qg (by kernel_rfl) (by kernel_rfl) (by kernel_rfl)
def w42 (X:q9i):Con Sg:=conV ([.v,.v]:LP) ([.int .u64,.int .u64]:LV) ([.int .u64]:LV) ([.same,.same]:LV) (fun a K=>X a.1 a.2.1 (fun q0=>K (q0,()) ((),(),())))
def v6v:PT:=Qj ([]:LS)
def v6w:Ev Sg:=E0
theorem y1g:Qe Proofs.Tryz.prog D 217 (w42 q9j):=Ql (E:=v6w) (p:=v6v) (fuel:=4) (rk:=[.v]) h_E0 fun a K=>by kernel_rfl
theorem j34:Ent Proofs.Tryz.prog 164:=Qg (by kernel_rfl) (by kernel_rfl) (by kernel_rfl)
def q7h (X:U6):Con Sg:=conV ([.el C.sip,.v]:LP) ([.el C.sip,.int .i64]:LV) ([.el C.sip]:LV) ([.same,.same]:LV) (fun a K=>X a.1 a.2.1 (fun q0=>K (q0,()) ((),(),())))
def j6z:PT:=Qj ([(5,⟨[0,1,2,4],[1],[(0,(238,4))],[(.slot 5,.int .i64),(.cell 0 0,.int IntKind.u64),(.cell 0 1,.int IntKind.u64),(.cell 0 2,.int IntKind.u64),(.cell 0 3,.int IntKind.u64)]⟩)]:LS)
def j60 (Uz:q9i):Ev Sg:=(E0.with 217 (w42 Uz))
theorem j9r (Uz:q9i) (h:Ev3 (j60 Uz) Proofs.Tryz.prog D):Qe Proofs.Tryz.prog D 164 (q7h (q69 Uz)):=Ql (p:=j6z) (fuel:=4) (rk:=[.el C.sip]) h fun a K=>by kernel_rfl
theorem j9s:Qe Proofs.Tryz.prog D 164 (q7h Jo):=j9r q9j (Qf h_E0 v2j y1g)
theorem y60:Ent Proofs.Tryz.prog 110:=Qg (by kernel_rfl) (by kernel_rfl) (by kernel_rfl)
def v2k (X:z8a):Con Sg:=conV ([.v,.v,.sl C.u8]:LP) ([.int .u64,.int .u64,.sl C.u8]:LV) ([.int .u64]:LV) ([.same,.same,.same]:LV) (fun a K=>X a.1 a.2.1 a.2.2.1 (fun q0=>K (q0,()) ((),(),(),())))
def u1t:PT:=Qj ([(7,⟨[0,1,2,6,7,11,12,13,14,15,16,17,18,19],[],[(0,(238,4))],[(.slot 8,.int .i64),(.cell 0 0,.int IntKind.u64),(.cell 0 1,.int IntKind.u64),(.cell 0 2,.int IntKind.u64),(.cell 0 3,.int IntKind.u64)]⟩),(15,⟨[0,1,2,6,7,8,11,12,13,14,15,16,17,18,19,20,21,22,23,24],[0],[],[(.slot 9,.int IntKind.u64),(.slot 10,.int .i64)]⟩),(24,⟨[0,1,2,6,7,8,10,11,12,13,14,15,16,17,18,19,20,21,22,23,24,27,28,29,30,31,32,33,34,35,36,37],[0],[],[(.slot 9,.int IntKind.u64)]⟩)]:LS)
def u1u (W5:U6):Ev Sg:=(E0.with 164 (q7h W5))
theorem u5n (W5:U6) (h:Ev3 (u1u W5) Proofs.Tryz.prog D):Qe Proofs.Tryz.prog D 110 (v2k (v0i W5)):=Ql (p:=u1t) (fuel:=4) (rk:=[.v]) h fun a K=>by kernel_rfl
theorem u5o:Qe Proofs.Tryz.prog D 110 (v2k j2m):=u5n Jo (Qf h_E0 j34 j9s)
theorem y1h:Ent Proofs.Tryz.prog 56:=Qg (by kernel_rfl) (by kernel_rfl) (by kernel_rfl)
def w43 (X:z17):Con Sg:=conV ([.v,.sl C.bytes]:LP) ([.int .u64,.sl C.bytes]:LV) ([.int .u64]:LV) ([.same,.same]:LV) (fun a K=>X a.1 a.2.1 (fun q0=>K (q0,()) ((),(),())))
def y61:PT:=Qj ([]:LS)
def y62 (q8m:z15) (z8j:z8a):Ev Sg:=((E0.with 111 (w9b q8m)).with 110 (v2k z8j))
theorem u1v (q8m:z15) (z8j:z8a) (h:Ev3 (y62 q8m z8j) Proofs.Tryz.prog D):Qe Proofs.Tryz.prog D 56 (w43 (w2k q8m z8j)):=Ql (p:=y61) (fuel:=4) (rk:=[.v]) h fun a K=>by kernel_rfl
theorem u1w:Qe Proofs.Tryz.prog D 56 (w43 z56):=u1v z16 j2m (Qf (Qf h_E0 v6u y6z) y60 u5o)
theorem w9c:Ent Proofs.Tryz.prog 29:=Qg (by kernel_rfl) (by kernel_rfl) (by kernel_rfl)
def w0r (X:q7u):Con Sg:=conV ([.v,.v]:LP) ([.str,.str]:LV) ([.int .i64]:LV) ([.same,.same]:LV) (fun a K=>X a.1 a.2.1 (fun q0=>K (q0,()) ((),(),())))
def u1x:PT:=Qj ([]:LS)
def u1y (z2x:z17):Ev Sg:=(E0.with 56 (w43 z2x))
theorem u5p (z2x:z17) (h:Ev3 (u1y z2x) Proofs.Tryz.prog D):Qe Proofs.Tryz.prog D 29 (w0r (v0j z2x)):=Ql (p:=u1x) (fuel:=4) (rk:=[.v]) h fun a K=>by kernel_rfl
theorem y3t:Qe Proofs.Tryz.prog D 29 (w0r q7v):=u5p z56 (Qf h_E0 y1h u1w)
theorem z9s:Ent Proofs.Tryz.prog 12:=Qg (by kernel_rfl) (by kernel_rfl) (by kernel_rfl)
def z0n (X:Gt):Con Sg:=conV ([.el C.env,.el C.subj,.sl C.forced]:LP) ([.el C.env,.el C.subj,.sl C.forced]:LV) ([.vec 46 C.asg]:LV) ([.same,.same,.same]:LV) (fun a K=>X a.1 a.2.1 a.2.2.1 (fun q0=>K (q0,()) ((),(),(),())))
def v2l:PT:=Qj ([(7,⟨[0,1,2,3,4,6,12,13,14],[1,0],[],[(.slot 7,.own 46 C.asg),(.slot 15,.int .i64)]⟩)]:LS)
def v2m (Jb:Vm):Ev Sg:=(E0.with 14 (q6h Jb))
theorem v6x (Jb:Vm) (h:Ev3 (v2m Jb) Proofs.Tryz.prog D):Qe Proofs.Tryz.prog D 12 (z0n (z57 Jb)):=Ql (p:=v2l) (fuel:=4) (rk:=[.own 46 C.asg]) h fun a K=>by kernel_rfl
theorem j7v:Qe Proofs.Tryz.prog D 12 (z0n q0m):=v6x Gz (Qf h_E0 z4x z9r)
theorem w44:Ent Proofs.Tryz.prog 9:=Qg (by kernel_rfl) (by kernel_rfl) (by kernel_rfl)
def z4g (X:q1b):Con Sg:=conV ([]:LP) ([]:LV) ([.bool]:LV) ([]:LV) (fun _ K=>X (fun q0=>K (q0,()) ()))
def w7t:PT:=Qj ([]:LS)
def w7u (G1:q13) (Jb:Vm) (Bx:q7u) (Wk:Gt):Ev Sg:=((((E0.with 30 (z9l G1)).with 14 (q6h Jb)).with 29 (w0r Bx)).with 12 (z0n Wk))
theorem v2n (G1:q13) (Jb:Vm) (Bx:q7u) (Wk:Gt) (h:Ev3 (w7u G1 Jb Bx Wk) Proofs.Tryz.prog D):Qe Proofs.Tryz.prog D 9 (z4g (z3p G1 Jb Bx Wk)):=Ql (p:=w7t) (fuel:=4) (rk:=[.v]) h fun a K=>by kernel_rfl
theorem v2o:Qe Proofs.Tryz.prog D 9 (z4g q4g):=v2n q6c Gz q7v q0m (Qf (Qf (Qf (Qf h_E0 j88 w6u) z4x z9r) w9c y3t) z9s j7v)
theorem u1z:Ent Proofs.Tryz.prog 23:=Qg (by kernel_rfl) (by kernel_rfl) (by kernel_rfl)
def u10 (X:w2l):Con Sg:=conV ([.sl C.u8,.v]:LP) ([.sl C.u8,.int .i64]:LV) ([.ptr 104 [.sl C.u8,.int .i64]]:LV) ([.same,.same]:LV) (fun a K=>X a.1 a.2.1 (fun q0 q1=>K ((q0,q1,()),()) ((),(),())))
def u5q:PT:=Qj ([(6,⟨[1,4],[],[],[(.slot 0,.sl C.u8)]⟩)]:LS)
def u5r:Ev Sg:=E0
theorem u89:Qe Proofs.Tryz.prog D 23 (u10 w2m):=Ql (E:=u5r) (p:=u5q) (fuel:=4) (rk:=[.ptr 104 [.c,.v]]) h_E0 fun a K=>by kernel_rfl
theorem v2p:Ent Proofs.Tryz.prog 55:=Qg (by kernel_rfl) (by kernel_rfl) (by kernel_rfl)
def j1p (X:q5j):Con Sg:=conV ([.ptr 104 [.c,.v],.v]:LP) ([.ptr 104 [.sl C.u8,.int .i64],.str]:LV) ([.el C.ctx]:LV) ([.ptr 104 [.same,.int .i64],.same]:LV) (fun a K=>X a.1.1 a.1.2.1 a.2.1 (fun q0 q1=>K (q0,()) (((),q1,()),(),())))
def v6y:PT:=Qj ([(9,⟨[0,1,4,5,6,8,9,10,11,12],[4,1],[(2,(82,3)),(0,(104,2))],[(.slot 7,.int .i64),(.cell 2 2,.own 180 C.attr),(.cell 0 1,.int .i64)]⟩)]:LS)
def v6z (q51:z3c) (Q1:J3) (Qa:Q7) (Z8:Ry):Ev Sg:=((((E0.with 108 (v0r q51)).with 57 (q6v Q1)).with 49 (Gu Qa)).with 109 (z6b Z8))
theorem y1i (q51:z3c) (Q1:J3) (Qa:Q7) (Z8:Ry) (h:Ev3 (v6z q51 Q1 Qa Z8) Proofs.Tryz.prog D):Qe Proofs.Tryz.prog D 55 (j1p (j0o q51 Q1 Qa Z8)):=Ql (p:=v6y) (fuel:=4) (rk:=[.el C.ctx]) h fun _ _=>by kernel_rfl
theorem y1j:Qe Proofs.Tryz.prog D 55 (j1p q5k):=y1i z99 W0 Zv G5 (Qf (Qf (Qf (Qf h_E0 v4t u01) q6f z0h) Vd Rm) j0s w2q)
end Go.En
end
noncomputable section
set_option maxRecDepth 100000
open Go Go.RowKit Go.Fl Go.Fl.Lk Go.Fx
namespace Go.En
theorem v2q:Ent Proofs.Tryz.prog 27:=Qg (by kernel_rfl) (by kernel_rfl) (by kernel_rfl)
def j1q (X:q5l):Con Sg:=conV ([.ptr 104 [.c,.v]]:LP) ([.ptr 104 [.sl C.u8,.int .i64]]:LV) ([.el C.subj]:LV) ([.ptr 104 [.same,.int .i64]]:LV) (fun a K=>X a.1.1 a.1.2.1 (fun q0 q1=>K (q0,()) (((),q1,()),())))
def v60:PT:=Qj ([(10,⟨[0,2,3,4,5,6],[1],[(0,(104,2)),(2,(25,1))],[(.cell 0 1,.int .i64),(.cell 2 0,.own 82 C.ctx)]⟩)]:LS)
def v61 (Qa:Q7) (Rx:q5j):Ev Sg:=((E0.with 49 (Gu Qa)).with 55 (j1p Rx))
theorem y1k (Qa:Q7) (Rx:q5j) (h:Ev3 (v61 Qa Rx) Proofs.Tryz.prog D):Qe Proofs.Tryz.prog D 27 (j1q (j0p Qa Rx)):=Ql (p:=v60) (fuel:=4) (rk:=[.el C.subj]) h fun a K=>by kernel_rfl
theorem y1l:Qe Proofs.Tryz.prog D 27 (j1q q9k):=y1k Zv q5k (Qf (Qf h_E0 Vd Rm) v2p y1j)
theorem v62:Ent Proofs.Tryz.prog 32:=Qg (by kernel_rfl) (by kernel_rfl) (by kernel_rfl)
def j61 (X:q8b):Con Sg:=conV ([.ptr 104 [.c,.v],.el C.env]:LP) ([.ptr 104 [.sl C.u8,.int .i64],.el C.env]:LV) ([.vec 54 C.forced]:LV) ([.ptr 104 [.same,.int .i64],.same]:LV) (fun a K=>X a.1.1 a.1.2.1 a.2.1 (fun q0 q1=>K (q0,()) (((),q1,()),(),())))
def y1m:PT:=Qj ([(7,⟨[0,1,3,4],[1],[(0,(104,2))],[(.slot 5,.own 54 C.forced),(.slot 6,.int .i64),(.cell 0 1,.int .i64)]⟩),(16,⟨[0,1,3,4,5,6,7,10,11,12,13,16,17,18,19],[2],[(5,(54,3)),(0,(104,2))],[(.cell 5 0,.str),(.cell 0 1,.int .i64)]⟩),(32,⟨[0,1,3,4,5,6,7,10,11,12,13,16,17,18,19],[2],[(5,(54,3)),(0,(104,2))],[(.cell 5 0,.str),(.cell 5 1,.str),(.cell 5 2,.int .i64),(.cell 0 1,.int .i64)]⟩),(26,⟨[0,1,3,4,6,7,8,10,11,12,13,16,17,18,19,24,25,26,27,28,29,30,31,32,33,34,35,36,37],[],[(5,(54,3)),(0,(104,2))],[(.cell 5 0,.str),(.cell 0 1,.int .i64)]⟩)]:LS)
def y1n (Qa:Q7):Ev Sg:=(E0.with 49 (Gu Qa))
theorem y63 (Qa:Q7) (h:Ev3 (y1n Qa) Proofs.Tryz.prog D):Qe Proofs.Tryz.prog D 32 (j61 (j5c Qa)):=Ql (p:=y1m) (fuel:=4) (rk:=[.own 54 C.forced]) h fun a K=>by kernel_rfl
theorem y64:Qe Proofs.Tryz.prog D 32 (j61 z18):=y63 Zv (Qf h_E0 Vd Rm)
theorem w45:Ent Proofs.Tryz.prog 10:=Qg (by kernel_rfl) (by kernel_rfl) (by kernel_rfl)
def z4h (X:q1c):Con Sg:=conV ([.sl C.u8,.sl C.u8]:LP) ([.sl C.u8,.sl C.u8]:LV) ([.el C.env,.el C.subj,.sl C.forced]:LV) ([.same,.same]:LV) (fun a K=>X a.1 a.2.1 (fun q0 q1 q2=>K (q0,q1,q2,()) ((),(),())))
def w7v:PT:=Qj ([]:LS)
def w7w (j12:w2l) (H6:Hh) (q59:q5l) (q8n:q8b):Ev Sg:=((((E0.with 23 (u10 j12)).with 31 (q9w H6)).with 27 (j1q q59)).with 32 (j61 q8n))
theorem v2r (j12:w2l) (H6:Hh) (q59:q5l) (q8n:q8b) (h:Ev3 (w7w j12 H6 q59 q8n) Proofs.Tryz.prog D):Qe Proofs.Tryz.prog D 10 (z4h (z3q j12 H6 q59 q8n)):=Ql (p:=w7v) (fuel:=4) (rk:=[.el C.env,.el C.subj,.sl C.forced]) h fun a K=>by kernel_rfl
theorem v2s:Qe Proofs.Tryz.prog D 10 (z4h q4h):=v2r w2m q0h q9k z18 (Qf (Qf (Qf (Qf h_E0 u1z u89) j6j w38) v2q y1l) v62 y64)
theorem y1o:Ent Proofs.Tryz.prog 28:=Qg (by kernel_rfl) (by kernel_rfl) (by kernel_rfl)
def v63 (X:z19):Con Sg:=conV ([.el C.subj,.v]:LP) ([.el C.subj,.str]:LV) ([.el C.ctx,.bool]:LV) ([.same,.same]:LV) (fun a K=>X a.1 a.2.1 (fun q0 q1=>K (q0,q1,()) ((),(),())))
def y65:PT:=Qj ([(5,⟨[0,1,2,4],[0],[(1,(82,3))],[(.slot 6,.int .i64),(.cell 1 0,.str),(.cell 1 1,.str),(.cell 1 2,.sl C.attr)]⟩)]:LS)
def y66:Ev Sg:=E0
theorem u11:Qe Proofs.Tryz.prog D 28 (v63 z2a):=Ql (E:=y66) (p:=y65) (fuel:=4) (rk:=[.el C.ctx,.v]) h_E0 fun a K=>by kernel_rfl
end Go.En
end
noncomputable section
set_option maxRecDepth 100000
open Go Go.RowKit Go.Fl Go.Fl.Lk Go.Fx
namespace Go.En
def Rq (X:q2k):Con Sg:=conV ([.sl C.u8,.sl C.u8,.v]:LP) ([.sl C.u8,.sl C.u8,.str]:LV) ([.bool]:LV) ([.same,.same,.same]:LV) (fun a K=>X a.1 a.2.1 a.2.2.1 (fun q0=>K (q0,()) ((),(),(),())))
def z81:PT:=Qj ([(17,⟨[0,1,2,6,7,8,9,15,16,17,18,19,20,21,22,23,24,25,26,27,28,29,30],[0,1],[],[(.slot 10,.int .i64),(.obj 4,.own 59 C.layer)]⟩),(31,⟨[0,1,2,7,8,9,10,11,15,16,17,18,19,20,21,22,23,24,25,26,27,28,29,30,31,32,33,34,35,44,45,46,47,48,49],[8,4,0,1],[],[(.slot 12,.int .i64)]⟩)]:LS)
def z82 (q1t:q1b) (q1u:q1c) (J2:Rf) (Wk:Gt) (q62:z19) (Bx:q7u):Ev Sg:=((((((E0.with 9 (z4g q1t)).with 10 (z4h q1u)).with 26 (z33 J2)).with 12 (z0n Wk)).with 28 (v63 q62)).with 29 (w0r Bx))
theorem j1r (q1t:q1b) (q1u:q1c) (J2:Rf) (Wk:Gt) (q62:z19) (Bx:q7u) (h:Ev3 (z82 q1t q1u J2 Wk q62 Bx) Proofs.Tryz.prog D):Qe Proofs.Tryz.prog D 8 (Rq (q2l q1t q1u J2 Wk q62 Bx)):=Ql (p:=z81) (fuel:=4) (rk:=[.v]) h fun a K=>by kernel_rfl
theorem j1s:Qe Proofs.Tryz.prog D 8 (Rq Wd):=j1r q4g q4h q0g q0m z2a q7v (Qf (Qf (Qf (Qf (Qf (Qf h_E0 w44 v2o) w45 v2s) j3d w36) z9s j7v) y1o u11) w9c y3t)
end Go.En
end
noncomputable section
set_option maxRecDepth 100000
namespace Go.En
open Go Go.Fl Go.Fl.Lk Go.Fx
theorem Cnd.mk {c A B:Prop} (h:c->A) (k: ¬c->B):Cnd c A B:=⟨h,k⟩
structure DS (list:List Int) (at_:Int):Prop where
 len:list.length<=1000
 lo:0<=at_
 hi:at_<=list.length
 byte: ∀x∈list,0<=x/\x<256
theorem getm {α:Type} {l:List α} {k:Nat} {x:α} (h:l[k]? =some x):x∈l:=List.mem_of_getElem? h
theorem j1t (n:Int):(Go.Utf8.encode n).size<=4:=by
 unfold Go.Utf8.encode
 generalize (if Go.Utf8.valid n then n.toNat else Go.Utf8.runeError)=c
 show (if c<0x80 then _ else if c<0x800 then _ else if c<0x10000 then _ else _:ByteArray).size<=4
 have h1: ∀a:UInt8,(ByteArray.mk #[a]).size<=4:=fun _=>(by decide:1<=4)
 have h2: ∀a b:UInt8,(ByteArray.mk #[a,b]).size<=4:=fun _ _=>(by decide:2<=4)
 have h3: ∀a b c:UInt8,(ByteArray.mk #[a,b,c]).size<=4:=fun _ _ _=>(by decide:3<=4)
 have h4: ∀a b c d:UInt8,(ByteArray.mk #[a,b,c,d]).size<=4:=fun _ _ _ _=>(by decide:4<=4)
 split
 ·exact h1 _
 ·split
  ·exact h2 _ _
  ·split
   ·exact h3 _ _ _
   ·exact h4 _ _ _ _
theorem Qo {list:List Int} {at_ n:Int} {K:Int->Int->Prop} (hD:DS list at_) (hn:1<=n) (h: ∀r a,0<=r->r<n->DS list a->K r a):Zv list at_ n K:=by
 obtain ⟨h1,h2,h3,h4⟩:=hD
 unfold Zv v0c w0j
 refine fun _=>Cnd.mk (fun hl=> ?_) (fun _=>h _ _ (by omega) (by omega) ⟨h1,h2,h3,h4⟩)
 have hl:=of_decide_eq_true hl
 refine ⟨by unfold InI;omega,by unfold InI;omega,by omega,fun y hy=>⟨by unfold InI;have:=h4 _ (getm hy);omega,by omega,?_⟩⟩
 obtain ⟨a,b⟩:=h4 _ (getm hy)
 exact h _ _ (Int.tmod_nonneg _ a) (by have:=Int.tmod_lt_of_pos y (b:=n) (by omega);omega) ⟨h1,by omega,by omega,h4⟩
theorem q6y {list:List Int} {at_ n:Int} {K:Int->Int->Prop} (hD:DS list at_) (hn:1<=n) (h: ∀r a,0<=r->r<n->DS list a->K r a):q7r list at_ n K:=by
 unfold q7r v0e
 refine Qo hD (by decide) fun r a r0 r1 hD=>⟨by unfold InI;omega,Qo hD (by decide) fun s b s0 s1 hD=>⟨by unfold InI;omega,by omega,?_⟩⟩
 exact h _ _ (Int.tmod_nonneg _ (by omega)) (by have:=Int.tmod_lt_of_pos (256*r+s) (b:=n) (by omega);omega) hD
theorem j35 {n:Int} {l:List ByteArray} {K:List ByteArray->Prop} (h0:0<=n) (h1:n<=l.length) (h:K (l.take n.toNat)):z72 n l K:=⟨⟨h0,h1⟩,h⟩
theorem z2m {list:List Int} {at_:Int} {K:ByteArray->Int->Prop} (hD:DS list at_) (h: ∀r a,r∈j2g->DS list a->K r a):q3p list at_ K:=by
 unfold q3p v0d
 exact Qo hD (by decide) fun r a r0 r1 hD=>⟨⟨r0,r1⟩,fun y hy=>h _ _ (getm hy) hD⟩
theorem sz_k (n:Int):(ByteArray.mk (Array.mk [107])++Go.Utf8.encode n).size<=5:=by
 rw [ByteArray.size_append];have:=j1t n;show 1+_<=5;omega
theorem y3u {list:List Int} {at_:Int} {K:ByteArray->Int->Prop} (hD:DS list at_) (h: ∀r a,r.size<=5->DS list a->K r a):z99 list at_ K:=by
 unfold z99 v9f
 refine Qo hD (by decide) fun r a r0 r1 hD=>⟨by unfold InI;omega,?_,h _ _ (sz_k _) hD⟩
 have:=j1t (Go.IntKind.i32.wrap (48+r));have e:(ByteArray.mk (Array.mk [107])).size=1:=rfl;omega
theorem w46 {list:List Int} {at_:Int} {K:List ByteArray->Int->Prop} (hD:DS list at_) (h: ∀r a,r.length<=3->(∀s∈r,s.size<=5)->DS list a->K r a):z3b list at_ K:=by
 unfold z3b v0f
 refine Qo hD (by decide) fun n a n0 n1 hD=> ?_
 refine Lp3.ind (fun l i a=>DS list a/\0<=i/\i<=3/\(l.length:Int)=i/\ ∀s∈l,s.size<=5) (fun _ i _=>(3 - i).toNat) ?_ ⟨hD,by decide,by decide,rfl,by simp⟩
 rintro l i a ⟨hD,i0,i3,hl,hs⟩
 refine Qo hD (by decide) fun r a r0 r1 hD=>Cnd.mk (fun hc=> ?_) (fun hc=> ?_)
 ·have:=j1t (Go.IntKind.i32.wrap ((48:Int)+(n+i).tmod 10));have e:(ByteArray.mk (Array.mk [107])).size=1:=rfl
  have m0:=Int.tmod_nonneg 10 (show 0<=n+i by omega);have m1:=Int.tmod_lt_of_pos (n+i) (b:=10) (by decide)
  refine ⟨by unfold InI;omega,by decide,by unfold InI;omega,by omega,by unfold Sml;simp;omega,by unfold InI;omega,⟨hD,by omega,by omega,by simp;omega,fun s hm=> ?_⟩,by omega⟩
  rcases List.mem_append.1 hm with hm|hm
  ·exact hs s hm
  ·rw [List.mem_singleton.1 hm];exact sz_k _
 ·refine Lp2.ind (fun (i:Int) (m:List ByteArray)=>m=l/\1<=i/\i<=1+l.length) (fun (i:Int) _=>(1+l.length - i).toNat) ?_ ⟨rfl,by decide,by omega⟩
  rintro i m ⟨rfl,i0,i1⟩ _
  refine Cnd.mk (fun hc=>⟨by omega,fun y hy=>⟨by unfold InI;omega,by omega,fun z hz=>Cnd.mk (fun _=>⟨by unfold InI;omega,⟨rfl,by omega,by omega⟩,by omega⟩) (fun _=>⟨by omega,h _ _ (by simp;omega) (fun s hm=>hs s (List.mem_of_mem_take hm)) hD⟩)⟩⟩) (fun _=>h _ _ (by omega) hs hD)
theorem sz0:(ByteArray.mk (Array.mk ([]:List UInt8))).size<=100:=by decide
structure ValS (v:Val):Prop where
 num:InI v.number
 txt:v.text.size<=100
 len:v.list.length<=10
 txs: ∀s∈v.list,s.size<=100
theorem q8c {list:List Int} {at_ kind:Int} {K:Val->Int->Prop} (hD:DS list at_) (h: ∀r a,ValS r->DS list a->K r a):G5 list at_ kind K:=by
 unfold G5 j2j
 have tt: ∀s∈j2g,s.size<=100:=by decide
 have tv: ∀s∈z5f,s.size<=100:=by decide
 have tl: ∀l∈w1y,l.length<=10/\ ∀s∈l,s.size<=100:=by decide
 refine Cnd.mk (fun _=> ?_) fun _=>Cnd.mk (fun _=>fun _=> ?_) fun _=>Cnd.mk (fun _=> ?_) fun _=>Cnd.mk (fun _=> ?_) fun _=> ?_
 ·exact Qo hD (by decide) fun r a r0 r1 hD=>h _ _ ⟨by unfold InI;simp only;omega,sz0,by simp,by simp⟩ hD
 ·refine Qo hD (by decide) fun r a r0 r1 hD=>⟨⟨r0,r1⟩,fun y hy=>h _ _ ⟨?_,sz0,by simp,by simp⟩ hD⟩
  have:=getm hy
  have k: ∀y∈[(0:Int),(1:Int),(17:Int),(18:Int),(19:Int),(-5:Int),(64:Int),(1099511627776:Int),(-1099511627776:Int)], -9223372036854775808<=y/\y<=9223372036854775807:=by decide
  exact k y this
 ·exact z2m hD fun r a hr hD=>h _ _ ⟨by unfold InI;simp,tt _ hr,by simp,by simp⟩ hD
 ·exact Qo hD (by decide) fun r a r0 r1 hD=>⟨⟨r0,r1⟩,fun y hy=>h _ _ ⟨by unfold InI;simp,tv _ (getm hy),by simp,by simp⟩ hD⟩
 ·refine Qo hD (by decide) fun r a r0 r1 hD=>⟨⟨r0,r1⟩,fun y hy=> ?_⟩
  obtain ⟨a1,a2⟩:=tl _ (getm hy)
  exact ⟨by unfold Sml;simp;omega,h _ _ ⟨by unfold InI;simp,sz0,by simpa using a1,by simpa using a2⟩ hD⟩
structure VsS (l:List Val):Prop where
 len:l.length<=4
 all: ∀v∈l,ValS v
theorem VsS.nil:VsS []:=⟨by simp,by simp⟩
theorem VsS.one {v:Val} (h:ValS v):VsS [v]:=⟨by simp,by simpa using h⟩
def ExS:Nat->Ex->Prop
 |0,e=>VsS e.values/\(e.name.size<=100/\e.kind.size<=100)/\(InI e.op/\(2<=e.op->e.op<=4->e.kids≠[]))/\e.kids=[]
 |n+1,e=>VsS e.values/\(e.name.size<=100/\e.kind.size<=100)/\(InI e.op/\(2<=e.op->e.op<=4->e.kids≠[]))/\e.kids.length<=3/\ ∀k∈e.kids,ExS n k
theorem ExS.up: ∀{n:Nat} {e:Ex},ExS n e->ExS (n+1) e
 |0,e,h=>⟨h.1,h.2.1,h.2.2.1,by rw [h.2.2.2];simp,by rw [h.2.2.2];simp⟩
 |n+1,e,h=>⟨h.1,h.2.1,h.2.2.1,h.2.2.2.1,fun k hk=>(h.2.2.2.2 k hk).up⟩
theorem ExS.le {n m:Nat} {e:Ex} (h:ExS n e) (hm:n<=m):ExS m e:=by
 induction hm with
 |refl=>exact h
 |step _ ih=>exact ih.up
theorem ExS.kids {n:Nat} {e:Ex} (h:ExS n e):e.kids.length<=3:=by
 cases n with
 |zero=>rw [h.2.2.2];simp
 |succ n=>exact h.2.2.2.1
theorem ExS.kid {n:Nat} {e k:Ex} (h:ExS n e) (hk:k∈e.kids): ∃m,m+1=n/\ExS m k:=by
 cases n with
 |zero=>rw [h.2.2.2] at hk;simp at hk
 |succ n=>exact ⟨n,rfl,h.2.2.2.2 k hk⟩
theorem ExS.vals {n:Nat} {e:Ex} (h:ExS n e):VsS e.values:=by cases n<;>exact h.1
theorem ExS.nm {n:Nat} {e:Ex} (h:ExS n e):e.name.size<=100:=by cases n<;>exact h.2.1.1
theorem ExS.kd {n:Nat} {e:Ex} (h:ExS n e):e.kind.size<=100:=by cases n<;>exact h.2.1.2
theorem ExS.opK {n:Nat} {e:Ex} (h:ExS n e):2<=e.op->e.op<=4->e.kids≠[]:=by cases n<;>exact h.2.2.1.2
def OpL (op:Int):Prop:=InI op/\ ¬(2<=op/\op<=4)
theorem OpL.ok {op:Int} (h:OpL op) {l:List Ex}:InI op/\(2<=op->op<=4->l≠[]):=⟨h.1,fun a b=>absurd ⟨a,b⟩ h.2⟩
theorem opl {op:Int} (h:(6<=op/\op<=100)∨op=0∨op=1∨op=5) {l:List Ex}:InI op/\(2<=op->op<=4->l≠[]):=⟨by unfold InI;omega,fun a b=>by omega⟩
theorem q4v {K:List Decl->Prop} (h: ∀l,l.length=8->(∀d∈l,d.kind.size<=100/\d.name.size<=100/\1<=d.type/\d.type<=5)->K l):W0 K:=by
 unfold W0
 exact h _ rfl (by decide)
theorem v64 {list:List Int} {at_:Int} {K:Ex->Int->Prop} (hD:DS list at_) (h: ∀r a,ExS 0 r->6<=r.op->DS list a->K r a):z74 list at_ K:=by
 unfold z74 v0g
 refine q4v fun l hl hd _=>⟨by unfold InI;omega,Qo hD (by omega) fun r a r0 r1 hD _=>Cnd.mk (fun _=> ?_) fun hc=>⟨by omega,fun y hy=> ?_⟩⟩
 ·exact y3u hD fun s a hs hD=>h _ _ ⟨.one ⟨by unfold InI;simp,by show s.size<=100;omega,by simp,by simp⟩,⟨(by decide:(ByteArray.mk (Array.mk [107,101,121])).size<=100),(by decide:(ByteArray.mk (Array.mk [117,115,101,114])).size<=100)⟩,opl (by simp),rfl⟩ (by simp) hD
 obtain ⟨hy0,hy1,hy2,hy3⟩:=hd y (getm hy)
 have one: ∀{op:Int} {v:Val},OpL op->ValS v->ExS 0 (Ex.mk op y.kind y.name [v] []):=fun ho hv=>⟨.one hv,⟨hy1,hy0⟩,ho.ok,rfl⟩
 refine Jn1.mk (fun x=>(∃b,x=(b,y.kind,y.name,([]:List Val),([]:List Ex),x.2.2.2.2.2.1,0,ByteArray.mk (Array.mk []),ByteArray.mk (Array.mk []),[],[],()))/\DS list x.2.2.2.2.2.1) ?_ ?_
 case refine_2=>
  rintro x ⟨⟨b,hx⟩,hD⟩
  refine q8c hD fun v a hv hD=>h _ _ ?_ (by simp) hD
  rw [hx]
  exact one ⟨by unfold InI;simp,by decide⟩ hv
 refine Qo hD (by decide) fun q a q0 q1 hD=> ?_
 refine Jn1.mk (fun x=>(∃b,x=(x.1,b,y.kind,y.name,([]:List Val),([]:List Ex),0,ByteArray.mk (Array.mk []),ByteArray.mk (Array.mk []),[],[],()))/\DS list x.1) ?_ ?_
 case refine_2=>
  rintro x ⟨⟨b,hx⟩,hD⟩
  have cmp:Zv list x.1 4 fun r a=>InI (12+r)/\G5 list a y.3 fun v a=>K (Ex.mk (12+r) x.2.2.1 x.2.2.2.1 [v] x.2.2.2.2.2.1) a:=by
   refine Qo hD (by decide) fun r a r0 r1 hD=>⟨by unfold InI;omega,q8c hD fun v a hv hD=>h _ _ ?_ (by simp only;omega) hD⟩
   rw [hx]
   exact one ⟨by unfold InI;omega,by omega⟩ hv
  refine Cnd.mk (fun _=>cmp) fun _=>Cnd.mk (fun _=>cmp) fun _=>Cnd.mk (fun _=>cmp) fun _=> ?_
  refine ⟨⟨b,?_⟩,hD⟩
  rw [hx]
 have nx: ∀{a:Int},DS list a->(fun x:Int×ByteArray×ByteArray×List Val×List Ex×Int×Int×ByteArray×ByteArray×List Val×List Ex×Unit=>(∃b,x=(b,y.kind,y.name,([]:List Val),([]:List Ex),x.2.2.2.2.2.1,0,ByteArray.mk (Array.mk []),ByteArray.mk (Array.mk []),[],[],()))/\DS list x.2.2.2.2.2.1) ((0:Int),y.1,y.2,[],[],a,(0:Int),ByteArray.mk (Array.mk []),ByteArray.mk (Array.mk []),[],[],()):=fun hD=>⟨⟨0,rfl⟩,hD⟩
 refine Cnd.mk (fun _=>h _ _ ⟨.nil,⟨hy1,hy0⟩,opl (by simp),rfl⟩ (by simp) hD) fun _=>Cnd.mk (fun _=> ?_) fun _=>Cnd.mk (fun _=> ?_) fun _=>Cnd.mk (fun _=> ?_) fun _=>Cnd.mk (fun _=> ?_) fun _=>nx hD
 ·refine Cnd.mk (fun _=>nx hD) fun _=> ?_
  refine Lp3.ind (fun i l a=>DS list a/\0<=i/\i<=3/\(l.length:Int)=i/\ ∀v∈l,ValS v) (fun i _ _=>(3 - i).toNat) ?_ ⟨hD,by decide,by decide,rfl,by simp⟩
  rintro i l a ⟨hD,i0,i3,hl,hv⟩
  refine Qo hD (by decide) fun r a r0 r1 hD=>Cnd.mk (fun hc=>q8c hD fun v a hv' hD=>⟨by unfold Sml;simp;omega,by unfold InI;omega,⟨hD,by omega,by omega,by simp;omega,fun u hu=> ?_⟩,by omega⟩) (fun hc=>h _ _ ⟨⟨by simp only;omega,hv⟩,⟨hy1,hy0⟩,opl (by simp),rfl⟩ (by simp) hD)
  rcases List.mem_append.1 hu with hu|hu
  ·exact hv u hu
  ·rw [List.mem_singleton.1 hu];exact hv'
 ·have c:G5 list a 3 fun v a=>K (Ex.mk 11 y.1 y.2 [v] []) a:=q8c hD fun v a hv hD=>h _ _ (one ⟨by unfold InI;simp,by decide⟩ hv) (by simp) hD
  exact Cnd.mk (fun _=>c) fun _=>Cnd.mk (fun _=>c) fun _=>nx hD
 ·exact Cnd.mk (fun _=>Qo hD (by decide) fun r a r0 r1 hD=>⟨by unfold InI;omega,q8c hD fun v a hv hD=>h _ _ (one ⟨by unfold InI;omega,by omega⟩ hv) (by simp only;omega) hD⟩) fun _=>⟨⟨0,rfl⟩,hD⟩
 ·exact ⟨⟨0,rfl⟩,hD⟩
theorem ExS.eta {n:Nat} {e:Ex} (h:ExS n e):ExS n (Ex.mk e.op e.kind e.name e.values e.kids):=by cases e;exact h
theorem qa1n {n:Nat} {e:Ex} (h:ExS n e) {k m:ByteArray} (hm:m.size<=100) (hk:k.size<=100):ExS (n+1) (Ex.mk 4 k m [] [e]):=⟨.nil,⟨hm,hk⟩,⟨InI.mk (by simp) (by simp),fun _ _=>by simp⟩,by simp,by simpa using h⟩
structure SegS (g:Seg):Prop where
 key:g.key.size<=100
 kind:g.kind.size<=100
 incl:g.incl.length<=3
 excl:g.excl.length<=3
 cond:ExS 4 g.cond
theorem W6 {α:Type} {P:α->Prop} {l:List α} {x:α} (h: ∀y∈l,P y) (hx:P x): ∀y∈l++[x],P y:=fun y hy=>by
 rcases List.mem_append.1 hy with hy|hy
 ·exact h y hy
 ·rw [List.mem_singleton.1 hy];exact hx
theorem z4y {v:Envt} {K:List ByteArray->Prop} (hl:v.segments.length<=1000) (h:K (v.segments.map Seg.key)):B3 v K:=by
 unfold B3
 refine Lp2.ind (fun (l:List ByteArray) (i:Int)=>0<=i/\i<=v.segments.length/\l=(v.segments.take i.toNat).map Seg.key) (fun _ (i:Int)=>(v.segments.length - i).toNat) ?_ ⟨Int.le_refl 0,by omega,by simp⟩
 rintro l i ⟨i0,i1,rfl⟩ _
 refine Cnd.mk (fun hc=>⟨by omega,fun y hy=>⟨by unfold Sml;simp;omega,by unfold InI;omega,⟨by omega,by omega,?_⟩,by omega⟩⟩) fun hc=> ?_
 ·rw [show (i+1).toNat=i.toNat+1 by omega,List.take_add_one,hy];simp
 ·rw [List.take_of_length_le (by omega)];exact h
def SplS (n:Int) (l:List Rng):Prop:=l.length<=4/\ ∀r∈l,0<=r.lo/\r.hi<=10000/\1<=r.variation/\r.variation<=n
structure SrvS (n:Int) (s:Srv):Prop where
 kind:s.kind.size<=100
 var:0<=s.variation/\s.variation<=n
 split:SplS n s.split
 by_:s.by_.size<=100
 salt:s.salt.size<=100
structure LayS (l:Lay_):Prop where
 key:l.key.size<=100
 kind:l.kind.size<=100
 salt:l.salt.size<=100
 hold:0<=l.holdout/\l.holdout<=10000
 cool:0<=l.cool/\l.cool<=100
 len:l.cooling.length<=3
 cooling: ∀c∈l.cooling,0<=c.lo/\c.hi<=10000/\0<=c.until_/\c.until_<=200
theorem y67 {list:List Int} {at_:Int} {key:ByteArray} {K:Lay_->Int->Prop} (hD:DS list at_) (hk:key.size<=100) (h: ∀l a,LayS l->l.key=key->DS list a->K l a):z5m list at_ key K:=by
 unfold z5m w2e
 have tt: ∀s∈j2g,s.size<=100:=by decide
 refine z2m hD fun t a ht hD=>Qo hD (by decide) fun c a c0 c1 hD=>⟨by unfold InI;omega,?_⟩
 refine Jn2.mk (fun k a=>k.size<=100/\DS list a) (Qo hD (by decide) fun r a r0 r1 hD=>Cnd.mk (fun _=>⟨by decide,hD⟩) fun _=>⟨by decide,hD⟩) fun kind a hx=> ?_
 obtain ⟨hkd,hD⟩:=hx
 refine Jn2.mk (fun x a=>DS list a/\0<=x/\x<=10000) (Qo hD (by decide) fun r a r0 r1 hD=>Cnd.mk (fun _=>q6y hD (by decide) fun w a w0 w1 hD=>⟨hD,by omega,by omega⟩) fun _=>⟨hD,by omega,by omega⟩) fun hold a hx=> ?_
 obtain ⟨hD,x0,x1⟩:=hx
 have ok: ∀{cs:List Col},cs.length<=3->(∀c∈cs,0<=c.lo/\c.hi<=10000/\0<=c.until_/\c.until_<=200)->LayS (Lay_.mk key kind t hold (c*50) cs):=fun h1 h2=>⟨hk,hkd,tt _ ht,⟨x0,x1⟩,⟨by simp only;omega,by simp only;omega⟩,h1,h2⟩
 refine Lp4.ind (fun at_ i cs a=>DS list a/\0<=i/\i<=2/\(cs.length:Int)=i/\0<=at_/\at_<=10000/\ ∀c∈cs,0<=c.lo/\c.hi<=10000/\0<=c.until_/\c.until_<=200) (fun _ i _ _=>(2 - i).toNat) ?_ ⟨hD,by omega,by omega,rfl,by omega,by omega,by simp⟩
 rintro at_ i cs a ⟨hD,i0,i1,hl,a0,a1,hc⟩
 refine Qo hD (by decide) fun q a q0 q1 hD=>Cnd.mk (fun _=>q6y hD (by decide) fun w a w0 w1 hD=>⟨by unfold InI;omega,by unfold InI;omega,q6y hD (by decide) fun w' a w0' w1' hD=>⟨by unfold InI;omega,Cnd.mk (fun _=>h _ _ (ok (by omega) hc) rfl hD) fun _=> ?_⟩⟩) fun _=>h _ _ (ok (by omega) hc) rfl hD
 refine Qo hD (by decide) fun u a u0 u1 hD=>⟨by unfold Sml;simp;omega,by unfold InI;omega,⟨hD,by omega,by omega,by simp;omega,by omega,by omega,W6 hc ⟨by simp only;omega,by simp only;omega,by simp only;omega,by simp only;omega⟩⟩,by omega⟩
structure SpsS (l:List Spn):Prop where
 len:l.length<=10000
 all: ∀s∈l,0<=s.lo/\s.lo<s.hi/\s.hi<=10000
structure RulS (n:Int) (r:Rul):Prop where
 name:r.name.size<=100
 cond:ExS 4 r.cond
 serve:SrvS n r.serve
structure FlgS (f:Flg):Prop where
 key:f.key.size<=100
 vlen:1<=f.variations.length/\f.variations.length<=4
 vals: ∀v∈f.variations,ValS v
 nlen:f.needs.length<=4
 needs: ∀q∈f.needs,q.flag.size<=100
 tlen:f.targets.length<=3
 tgts: ∀t∈f.targets,t.kind.size<=100
 rlen:f.rules.length<=4
 rules: ∀r∈f.rules,RulS f.variations.length r
 dflt:SrvS f.variations.length f.dflt
structure ExpS (x:Exper):Prop where
 key:x.key.size<=100
 layer:x.layer.size<=100
 flag:x.flag.size<=100
 claims:SpsS x.claims
 arms:SplS 4 x.arms
 cond:ExS 4 x.cond
structure EnvS (v:Envt):Prop where
 hkind:v.settings.holdoutKind.size<=100
 attrs: ∀d∈v.attributes,d.kind.size<=100/\d.name.size<=100
 slen:v.segments.length<=3
 segs: ∀g∈v.segments,SegS g
 flen:v.flags.length<=4
 flags: ∀f∈v.flags,FlgS f
 llen:v.layers.length<=2
 layers: ∀l∈v.layers,LayS l
 xlen:v.experiments.length<=3
 exps: ∀x∈v.experiments,ExpS x
end Go.En
end
noncomputable section
set_option maxRecDepth 100000
namespace Go.En
open Go Go.Fl Go.Fl.Lk Go.Fx
abbrev S4:=Int×Int×Int×Int
def w64 (x:Int):Int:=Go.IntKind.u64.wrap x
def xr (a b:Int):Int:=Go.IntKind.u64.wrap ((BitVec.ofInt 64 a ^^^ BitVec.ofInt 64 b).toNat:Int)
def rot (x n:Int):Int:=Go.IntKind.u64.wrap ((BitVec.ofInt 64 (Go.IntKind.u64.wrap (x*2 ^ Min.min n.toNat 64))|||BitVec.ofInt 64 (x.fdiv (2 ^ Min.min (Go.IntKind.u64.wrap (64 - n)).toNat 64))).toNat:Int)
def rnd (s:S4):S4:=
  (w64 (rot (w64 (s.1+s.2.1)) 32+xr (rot s.2.2.2 16) (w64 (s.2.2.1+s.2.2.2))),
   xr (rot (xr (rot s.2.1 13) (w64 (s.1+s.2.1))) 17) (w64 (w64 (s.2.2.1+s.2.2.2)+xr (rot s.2.1 13) (w64 (s.1+s.2.1)))),
   rot (w64 (w64 (s.2.2.1+s.2.2.2)+xr (rot s.2.1 13) (w64 (s.1+s.2.1)))) 32,
   xr (rot (xr (rot s.2.2.2 16) (w64 (s.2.2.1+s.2.2.2))) 21) (w64 (rot (w64 (s.1+s.2.1)) 32+xr (rot s.2.2.2 16) (w64 (s.2.2.1+s.2.2.2)))))
def rn:Nat->S4->S4
  |0,s=>s
  |k+1,s=>rnd (rn k s)
def tm (y:Int) (k:Nat):BitVec 64:=BitVec.ofInt 64 (Go.IntKind.u64.wrap (Go.IntKind.u64.wrap y*2 ^ Min.min (8*k) 64))
def wv (b:List Int) (o:Nat) (v:BitVec 64):Nat->BitVec 64
  |0=>v
  |k+1=>wv b o v k|||tm (b.getD (o+k) 0) k
def s0 (k0 k1:Int):S4:=(xr k0 8317987319222330741,xr k1 7237128888997146477,xr k0 7816392313619706465,xr k1 8387220255154660723)
def topV (n:Nat):BitVec 64:=BitVec.ofInt 64 (Go.IntKind.u64.wrap (Go.IntKind.u64.wrap (n:Int)*2 ^ Min.min (Int.toNat 56) 64))
def u5s (b:List Int):BitVec 64:=wv b (8*(b.length / 8)) 0 (b.length % 8)|||topV b.length
theorem w47 (x:Int):Go.IntKind.u64.wrap x=x % 18446744073709551616:=rfl
theorem u9a (x:Int):Go.IntKind.u64.wrap x=((BitVec.ofInt 64 (Go.IntKind.u64.wrap x)).toNat:Int):=by
  rw [BitVec.toNat_ofInt,w47]
  omega
theorem j36 {n:Nat} (h:n<18446744073709551616):Go.IntKind.u64.wrap (n:Int)=n:=by
  show (n:Int) % 18446744073709551616=n
  omega
theorem u12 (v:BitVec 64):BitVec.ofInt 64 ((v.toNat:Nat):Int)=v:=by simp
theorem u5t (v t:BitVec 64):Go.IntKind.u64.wrap ((BitVec.ofInt 64 ((v.toNat:Nat):Int)|||t).toNat:Int)=((v|||t).toNat:Int):=by
  rw [u12];exact j36 (v|||t).isLt
theorem j62 {x k:Int} {K:Int->Prop} (hk:k=13∨k=16∨k=17∨k=21∨k=32) (h:K (rot x k)):Us x k K:=by
  have e:Go.IntKind.u64.wrap (↑(BitVec.ofInt 64 (Go.IntKind.u64.wrap k) &&& BitVec.ofInt 64 63).toNat:Int)=k:=by rcases hk with rfl|rfl|rfl|rfl|rfl<;>decide
  have e2:0<=Go.IntKind.u64.wrap (64 - k):=by rcases hk with rfl|rfl|rfl|rfl|rfl<;>decide
  unfold Us
  rw [e]
  exact ⟨by omega,e2,h⟩
theorem z8h {x k:Int} {K:Int->Prop} (hk:k=13∨k=16∨k=17∨k=21∨k=32) (h:K (rot x k)):q9j x k K:=by
  have e2:0<=Go.IntKind.u64.wrap (64 - k):=by rcases hk with rfl|rfl|rfl|rfl|rfl<;>decide
  unfold q9j
  exact ⟨by omega,e2,h⟩
theorem u13 (s:S4) (i:Int) (h:0<=i):rnd (rn i.toNat s)=rn (i+1).toNat s:=by
  rw [show (i+1).toNat=i.toNat+1 by omega];rfl
theorem y68 {a b c d n:Int} {q:Nat} {K:Int->Int->Int->Int->Prop} (hn:n=(q:Int)) (h1:q<=1000) (h:K (rn q (a,b,c,d)).1 (rn q (a,b,c,d)).2.1 (rn q (a,b,c,d)).2.2.1 (rn q (a,b,c,d)).2.2.2):Zq a b c d n K:=by
  subst hn
  unfold Zq q1w
  refine Lp5.ind (fun i a' b' c' d'=>0<=i/\i<=(q:Int)/\(a',b',c',d')=rn i.toNat (a,b,c,d)) (fun i _ _ _ _=>((q:Int) - i).toNat) ?_ ⟨Int.le_refl 0,by omega,rfl⟩
  rintro i a' b' c' d' ⟨i0,i1,hs⟩
  refine Cnd.mk (fun hc=>j62 (by simp) (j62 (by simp) (j62 (by simp) (j62 (by simp) (j62 (by simp) (j62 (by simp) ⟨by unfold InI;omega,⟨by omega,by omega,?_⟩,by omega⟩)))))) fun hc=> ?_
  · rw [←u13 _ _ i0,←hs];simp only [rnd,w64,xr]
  · rw [show q=i.toNat by omega,←hs] at h;exact h
theorem v65 {v:Sip} {n:Int} {q:Nat} {K:Sip->Prop} (hn:n=(q:Int)) (h1:q<=1000) (h:K (Sip.mk (rn q (v.1,v.2,v.3,v.4)).1 (rn q (v.1,v.2,v.3,v.4)).2.1 (rn q (v.1,v.2,v.3,v.4)).2.2.1 (rn q (v.1,v.2,v.3,v.4)).2.2.2)):Jo v n K:=by
  subst hn
  unfold Jo q69
  refine Lp5.ind (fun i a' b' c' d'=>0<=i/\i<=(q:Int)/\(a',b',c',d')=rn i.toNat (v.1,v.2,v.3,v.4)) (fun i _ _ _ _=>((q:Int) - i).toNat) ?_ ⟨Int.le_refl 0,by omega,rfl⟩
  rintro i a' b' c' d' ⟨i0,i1,hs⟩
  refine Cnd.mk (fun hc=>z8h (by simp) (z8h (by simp) (z8h (by simp) (z8h (by simp) (z8h (by simp) (z8h (by simp) ⟨by unfold InI;omega,⟨by omega,by omega,?_⟩,by omega⟩)))))) fun hc=> ?_
  · rw [←u13 _ _ i0,←hs];simp only [rnd,w64,xr]
  · rw [show q=i.toNat by omega,←hs] at h;exact h
theorem exR: ∃R:Nat->S4->S4,(∀(a b c d n:Int) (q:Nat) (K:Int->Int->Int->Int->Prop),n=(q:Int)->q<=1000->K (R q (a,b,c,d)).1 (R q (a,b,c,d)).2.1 (R q (a,b,c,d)).2.2.1 (R q (a,b,c,d)).2.2.2->Zq a b c d n K)/\
    ∀(v:Sip) (n:Int) (q:Nat) (K:Sip->Prop),n=(q:Int)->q<=1000->K (Sip.mk (R q (v.1,v.2,v.3,v.4)).1 (R q (v.1,v.2,v.3,v.4)).2.1 (R q (v.1,v.2,v.3,v.4)).2.2.1 (R q (v.1,v.2,v.3,v.4)).2.2.2)->Jo v n K:=
  ⟨rn,fun _ _ _ _ _ _ _ hn hq h=>y68 hn hq h,fun _ _ _ _ hn hq h=>v65 hn hq h⟩
def RR:Nat->S4->S4:=Classical.choose exR
theorem v66 {a b c d n:Int} {q:Nat} {K:Int->Int->Int->Int->Prop} (hn:n=(q:Int)) (h1:q<=1000) (h:K (RR q (a,b,c,d)).1 (RR q (a,b,c,d)).2.1 (RR q (a,b,c,d)).2.2.1 (RR q (a,b,c,d)).2.2.2):Zq a b c d n K:=(Classical.choose_spec exR).1 a b c d n q K hn h1 h
theorem w48 {v:Sip} {n:Int} {q:Nat} {K:Sip->Prop} (hn:n=(q:Int)) (h1:q<=1000) (h:K (Sip.mk (RR q (v.1,v.2,v.3,v.4)).1 (RR q (v.1,v.2,v.3,v.4)).2.1 (RR q (v.1,v.2,v.3,v.4)).2.2.1 (RR q (v.1,v.2,v.3,v.4)).2.2.2)):Jo v n K:=(Classical.choose_spec exR).2 v n q K hn h1 h
def wds (s:S4) (m:Int):S4:=(xr (RR 2 (s.1,s.2.1,s.2.2.1,xr s.2.2.2 m)).1 m,(RR 2 (s.1,s.2.1,s.2.2.1,xr s.2.2.2 m)).2)
def blks (b:List Int) (k0 k1:Int):Nat->S4
  |0=>s0 k0 k1
  |i+1=>wds (blks b k0 k1 i) ((wv b (8*i) 0 8).toNat:Int)
def fin4 (s:S4):S4:=RR 4 (s.1,s.2.1,xr s.2.2.1 255,s.2.2.2)
def endV (s:S4):Int:=xr (xr (xr (fin4 s).1 (fin4 s).2.1) (fin4 s).2.2.1) (fin4 s).2.2.2
def sumV (k0 k1:Int) (b:List Int):Int:=
  endV (wds (blks b k0 k1 (b.length / 8)) ((u5s b).toNat:Int))
theorem u14 {a b c d m:Int} {K:Int->Int->Int->Int->Prop} (h:K (wds (a,b,c,d) m).1 (wds (a,b,c,d) m).2.1 (wds (a,b,c,d) m).2.2.1 (wds (a,b,c,d) m).2.2.2):Gk a b c d m K:=by
  unfold Gk q32
  simp only [wds,xr] at h
  exact v66 (q:=2) rfl (by decide) h
theorem u9b {s:S4} {K:Int->Prop} (h:K (endV s)):Zq s.1 s.2.1 (Go.IntKind.u64.wrap (↑(BitVec.ofInt 64 s.2.2.1 ^^^ BitVec.ofInt 64 255).toNat:Int)) s.2.2.2 4 fun Zx z7r u7c u92=>K (Go.IntKind.u64.wrap (↑(BitVec.ofInt 64 (Go.IntKind.u64.wrap (↑(BitVec.ofInt 64 (Go.IntKind.u64.wrap (↑(BitVec.ofInt 64 Zx ^^^ BitVec.ofInt 64 z7r).toNat:Int)) ^^^ BitVec.ofInt 64 u7c).toNat:Int)) ^^^ BitVec.ofInt 64 u92).toNat:Int)):=by
  simp only [endV,fin4,xr] at h
  exact v66 (q:=4) rfl (by decide) h
theorem u15 {s:S4} {K:Int->Prop} (h:K (endV s)):Jo (Sip.mk s.1 s.2.1 (Go.IntKind.u64.wrap (↑(BitVec.ofInt 64 s.2.2.1 ^^^ BitVec.ofInt 64 255).toNat:Int)) s.2.2.2) 4 fun x=>K (Go.IntKind.u64.wrap (↑(BitVec.ofInt 64 (Go.IntKind.u64.wrap (↑(BitVec.ofInt 64 (Go.IntKind.u64.wrap (↑(BitVec.ofInt 64 x.1 ^^^ BitVec.ofInt 64 x.2).toNat:Int)) ^^^ BitVec.ofInt 64 x.3).toNat:Int)) ^^^ BitVec.ofInt 64 x.4).toNat:Int)):=by
  simp only [endV,fin4,xr] at h
  exact w48 (q:=4) rfl (by decide) h
theorem u16 {a b c d m:Int} {K:Sip->Prop} (h: ∀x:Sip,(Go.IntKind.u64.wrap (↑(BitVec.ofInt 64 x.1 ^^^ BitVec.ofInt 64 m).toNat:Int),x.2,x.3,x.4)=wds (a,b,c,d) m->K x):Jo (Sip.mk a b c (Go.IntKind.u64.wrap (↑(BitVec.ofInt 64 d ^^^ BitVec.ofInt 64 m).toNat:Int))) 2 K:=by
  refine w48 (q:=2) rfl (by decide) (h _ ?_)
  simp only [wds,xr]
theorem qa1o (b:List Int) (o:Nat) (v:BitVec 64): ∀k,wv b o v k=wv b o 0 k|||v
  |0=>by simp [wv]
  |k+1=>by
    rw [wv,wv,qa1o b o v k,BitVec.or_assoc,BitVec.or_comm v,←BitVec.or_assoc]
theorem y1p {b:List Int} {o k:Nat} {v:BitVec 64} {y:Int} (hy:b[o+k]? =some y):wv b o v (k+1)=wv b o v k|||tm y k:=by
  rw [wv,List.getD_eq_getElem?_getD,hy];rfl
theorem u9c (n:Nat):topV n=BitVec.ofInt 64 (Go.IntKind.u64.wrap (Go.IntKind.u64.wrap ((n:Int).tmod 256)*2 ^ Min.min (Int.toNat 56) 64)):=by
  have e:(2:Int) ^ Min.min (Int.toNat 56) 64=72057594037927936:=by decide
  have h2:Go.IntKind.u64.wrap (Go.IntKind.u64.wrap (n:Int)*72057594037927936)=Go.IntKind.u64.wrap (Go.IntKind.u64.wrap ((n:Int).tmod 256)*72057594037927936):=by
    rw [w47,w47,w47,w47,Int.tmod_eq_emod_of_nonneg (by omega)]
    omega
  unfold topV
  rw [e,h2]
theorem v2t {k0 k1:Int} {b:List Int} {K:Int->Prop} (hb:b.length<=1099511627776) (h:K (sumV k0 k1 b)):q6s k0 k1 b K:=by
  unfold q6s z50
  refine fun _=>⟨by decide,?_⟩
  refine Lp5.ind (fun i a' b' c' d'=> ∃j:Nat,i=8*(j:Int)/\8*j<=b.length/\(a',b',c',d')=blks b k0 k1 j) (fun i _ _ _ _=>(b.length - i).toNat) ?_ ⟨0,rfl,by omega,rfl⟩
  rintro i a' b' c' d' ⟨j,rfl,hj,hs⟩
  refine ⟨by unfold InI;omega,fun _=>Cnd.mk (fun hc=> ?_) fun hc=> ?_⟩
  · refine Lp2.ind (fun v k=> ∃q:Nat,k=(q:Int)/\q<=8/\v=((wv b (8*j) 0 q).toNat:Int)) (fun _ k=>(8 - k).toNat) ?_ ⟨0,rfl,by omega,rfl⟩
    rintro v k ⟨q,rfl,hq,rfl⟩
    refine Cnd.mk (fun hk=>⟨by unfold InI;omega,⟨by omega,by omega⟩,fun y hy=>⟨by unfold InI;omega,by omega,by unfold InI;omega,⟨q+1,by omega,by omega,?_⟩,by omega⟩⟩) fun hk=> ?_
    · rw [show (8*(j:Int)+q).toNat=8*j+q by omega] at hy
      rw [y1p hy,show (8*(q:Int)).toNat=8*q by omega]
      exact u5t _ _
    · refine u14 ⟨by unfold InI;omega,⟨j+1,by omega,by omega,?_⟩,by omega⟩
      rw [hs,show q=8 by omega];rfl
  · refine fun _=>⟨by decide,?_⟩
    have hjl:j=b.length / 8:=by omega
    have hm:((b.length:Nat):Int).tmod 8=((b.length % 8:Nat):Int):=by rw [Int.tmod_eq_emod_of_nonneg (by omega)];omega
    rw [hm]
    refine Lp2.ind (fun v k=> ∃q:Nat,k=(q:Int)/\q<=b.length % 8/\v=((wv b (8*j) (topV b.length) q).toNat:Int)) (fun _ k=>(8 - k).toNat) ?_ ⟨0,rfl,by omega,by unfold wv topV;exact u9a _⟩
    rintro v k ⟨q,rfl,hq,rfl⟩
    refine Cnd.mk (fun hk _ _=>⟨by decide,by unfold InI;omega,by unfold InI;omega,⟨by omega,by omega⟩,fun y hy=>⟨by unfold InI;omega,by omega,by unfold InI;omega,⟨q+1,by omega,by omega,?_⟩,by omega⟩⟩) fun hk=> ?_
    · rw [show ((b.length:Int) - ((b.length % 8:Nat):Int)+q).toNat=8*j+q by omega] at hy
      rw [y1p hy,show (8*(q:Int)).toNat=8*q by omega]
      exact u5t _ _
    · refine u14 (u9b (s:=wds (a',b',c',d') _) ?_)
      rw [hs,show q=b.length % 8 by omega,qa1o,hjl]
      exact h
theorem u17 {k0 k1:Int} {b:List Int} {K:Int->Prop} (hb:b.length<=1099511627776) (h:K (sumV k0 k1 b)):j2m k0 k1 b K:=by
  unfold j2m v0i
  have hd:((b.length:Nat):Int).tdiv 8=((b.length / 8:Nat):Int):=by rw [Int.tdiv_eq_ediv_of_nonneg (by omega)];omega
  rw [hd]
  refine Lp5.ind (fun i a' b' c' d'=> ∃j:Nat,i=(j:Int)/\j<=b.length / 8+1/\(j<=b.length / 8->(a',b',c',d')=blks b k0 k1 j)/\(j=b.length / 8+1->(a',b',c',d')=wds (blks b k0 k1 (b.length / 8)) ((u5s b).toNat:Int))) (fun i _ _ _ _=>(b.length / 8+1 - i).toNat) ?_ ⟨0,rfl,by omega,fun _=>rfl,fun h=>by omega⟩
  rintro i a' b' c' d' ⟨j,rfl,hj,hs,hf⟩
  refine fun _=>⟨by decide,by unfold InI;omega,Cnd.mk (fun hc=> ?_) fun hc=> ?_⟩
  · have hs:=hs (by omega)
    have done: ∀q:Nat,(q=8∨q=b.length % 8/\j=b.length / 8)->q<=8->(j<b.length / 8->q=8)->(j=b.length / 8->q=b.length % 8)->Jn1 (fun Qk=>Jo (Sip.mk a' b' c' (Go.IntKind.u64.wrap (↑(BitVec.ofInt 64 d' ^^^ BitVec.ofInt 64 Qk).toNat:Int))) 2 fun Qw=>InI ((j:Int)+1)/\(∃j':Nat,(j:Int)+1=(j':Int)/\j'<=b.length / 8+1/\(j'<=b.length / 8->(Go.IntKind.u64.wrap (↑(BitVec.ofInt 64 Qw.1 ^^^ BitVec.ofInt 64 Qk).toNat:Int),Qw.2,Qw.3,Qw.4)=blks b k0 k1 j')/\(j'=b.length / 8+1->(Go.IntKind.u64.wrap (↑(BitVec.ofInt 64 Qw.1 ^^^ BitVec.ofInt 64 Qk).toNat:Int),Qw.2,Qw.3,Qw.4)=wds (blks b k0 k1 (b.length / 8)) ((u5s b).toNat:Int)))/\((b.length / 8:Nat)+1 - ((j:Int)+1)).toNat<((b.length / 8:Nat)+1 - (j:Int)).toNat) fun y7u=>b.length<=(9223372036854775807:Nat)->(8:Int)≠0/\InI ((b.length / 8:Nat):Int)/\Cnd ((j:Int)=((b.length / 8:Nat):Int)) (b.length<=(9223372036854775807:Nat)->(256:Int)≠0/\(0:Int)<=56/\y7u (Go.IntKind.u64.wrap (↑(BitVec.ofInt 64 ((wv b (8*j) 0 q).toNat:Int)|||BitVec.ofInt 64 (Go.IntKind.u64.wrap (Go.IntKind.u64.wrap ((b.length:Int).tmod 256)*2 ^ Min.min (Int.toNat 56) 64))).toNat:Int))) (y7u ((wv b (8*j) 0 q).toNat:Int)):=fun q _ hq h1 h2=>by
      refine Jn1.mk (fun x=>(j<b.length / 8->x=((wv b (8*j) 0 8).toNat:Int))/\(j=b.length / 8->x=((u5s b).toNat:Int))) (fun _=>⟨by decide,by unfold InI;omega,Cnd.mk (fun he=>fun _=>⟨by decide,by decide,fun _=>by omega,fun hjl=> ?_⟩) fun hne=>⟨fun hl=>by rw [h1 hl],fun he=>by omega⟩⟩) fun x hx=>u16 fun s hsw=>⟨by unfold InI;omega,⟨j+1,by omega,by omega,fun hl=> ?_,fun he=> ?_⟩,by omega⟩
      · rw [←u9c,u5t,h2 hjl,hjl];rfl
      · rw [hsw,hx.1 (by omega),blks,←hs]
      · rw [hsw,hx.2 (by omega),←show j=b.length / 8 by omega,←hs]
    refine Lp2.ind (fun v k=> ∃q:Nat,k=(q:Int)/\q<=8/\(j=b.length / 8->q<=b.length % 8)/\v=((wv b (8*j) 0 q).toNat:Int)) (fun _ k=>(8 - k).toNat) ?_ ⟨0,rfl,by omega,fun _=>by omega,rfl⟩
    rintro v k ⟨q,rfl,hq,hq2,rfl⟩
    refine Cnd.mk (fun hk=>⟨by unfold InI;omega,by unfold InI;omega,fun _=>Cnd.mk (fun hl=>⟨by unfold InI;omega,by unfold InI;omega,⟨by omega,by omega⟩,fun y hy=>⟨by unfold InI;omega,?_,by unfold InI;omega,⟨q+1,by omega,by omega,fun _=>by omega,?_⟩,by omega⟩⟩) fun hl=> ?_⟩) fun hk=> ?_
    · rw [show 8*(q:Int)=((8*q:Nat):Int) by omega,j36 (by omega)];omega
    · rw [show (8*(j:Int)+q).toNat=8*j+q by omega] at hy
      rw [y1p hy,show 8*(q:Int)=((8*q:Nat):Int) by omega,j36 (n:=8*q) (by omega),Int.toNat_natCast]
      exact u5t _ _
    · exact done q (by omega) hq (fun h=>by omega) (fun h=>by omega)
    · exact done q (by omega) hq (fun h=>by omega) (fun h=>by omega)
  · have hf:=hf (by omega)
    unfold sumV at h
    rw [←hf] at h
    exact u15 (s:=(a',b',c',d')) h
def fb (n k:Nat):Int:=Go.IntKind.u8.wrap ((Go.IntKind.u64.wrap (n:Int)).fdiv (2 ^ Min.min (8*k) 64))
def hdr (n:Nat) (j:Nat):List Int:=(List.range j).map fun i=>fb n (7 - i)
def frm (l:List (List Int)):List Int:=l.flatMap fun f=>hdr f.length 8++f
theorem y3v (n j:Nat):hdr n (j+1)=hdr n j++[fb n (7 - j)]:=by simp [hdr,List.range_succ]
theorem j1u (n j:Nat):(hdr n j).length=j:=by simp [hdr]
theorem w0s {l:List (List Int)} {i:Nat} {y:List Int} (hy:l[i]? =some y):frm (l.take (i+1))=frm (l.take i)++(hdr y.length 8++y):=by
  rw [List.take_add_one,hy];simp [frm]
theorem w49 (l:List (List Int)) (i:Nat):(frm (l.take i)).length<=(frm l).length:=by
  have h:frm l=frm (l.take i)++frm (l.drop i):=by
    conv=>lhs;rw [←List.take_append_drop i l]
    exact List.flatMap_append
  rw [h,List.length_append];omega
theorem w5a {l:List (List Int)} {K:List Int->Prop} (hl:(frm l).length<=1000000000) (hn:l.length<=1000) (h:K (frm l)):q15 l K:=by
  unfold q15
  refine fun _=>Lp2.ind (fun o i=> ∃j:Nat,i=(j:Int)/\j<=l.length/\o=frm (l.take j)) (fun _ i=>(l.length - i).toNat) ?_ ⟨0,rfl,by omega,rfl⟩
  rintro o i ⟨j,rfl,hj,rfl⟩
  refine Cnd.mk (fun hc=>⟨by omega,fun y hy=> ?_⟩) fun hc=> ?_
  · have hy:l[j]? =some y:=hy
    have hln:=w49 l (j+1)
    rw [w0s hy] at hln
    simp only [List.length_append,j1u] at hln
    refine Lp2.ind (fun o k=> ∃q:Nat,k=7 - (q:Int)/\q<=8/\o=frm (l.take j)++hdr y.length q) (fun _ k=>(k+1).toNat) ?_ ⟨0,rfl,by omega,by simp [hdr]⟩
    rintro o k ⟨q,rfl,hq,rfl⟩
    refine Cnd.mk (fun hk _=>⟨by unfold InI;omega,by omega,?_,by unfold InI;omega,⟨q+1,by omega,by omega,?_⟩,by omega⟩) fun hk=>⟨?_,by unfold InI;omega,⟨j+1,by omega,by omega,?_⟩,by omega⟩
    · unfold Sml;simp only [List.length_append,j1u,List.length_singleton];omega
    · rw [y3v,←List.append_assoc,show (8*(7 - (q:Int))).toNat=8*(7 - q) by omega];rfl
    · unfold Sml;simp only [List.length_append,j1u];omega
    · rw [w0s hy,show q=8 by omega,List.append_assoc]
  · rw [show j=l.length by omega,List.take_length];exact h
theorem y1q {l:List (List Int)} {K:List Int->Prop} (hl:(frm l).length<=1000000000) (hn:l.length<=1000) (h:K (frm l)):z16 l K:=by
  unfold z16
  refine Lp2.ind (fun o i=> ∃j:Nat,i=(j:Int)/\j<=l.length/\o=frm (l.take j)) (fun _ i=>(l.length - i).toNat) ?_ ⟨0,rfl,by omega,rfl⟩
  rintro o i ⟨j,rfl,hj,rfl⟩
  refine fun _=>Cnd.mk (fun hc=>⟨by omega,fun y hy _=> ?_⟩) fun hc=> ?_
  · have hy:l[j]? =some y:=hy
    have hln:=w49 l (j+1)
    rw [w0s hy] at hln
    simp only [List.length_append,j1u] at hln
    refine Lp2.ind (fun o k=> ∃q:Nat,k=56 - 8*(q:Int)/\q<=8/\o=frm (l.take j)++hdr y.length q) (fun _ k=>(k+8).toNat) ?_ ⟨0,rfl,by omega,by simp [hdr]⟩
    rintro o k ⟨q,rfl,hq,rfl⟩
    refine Cnd.mk (fun hk=> ?_) fun hk=>⟨by omega,fun z hz=> ?_⟩
    · have e:56 - 8*(q:Int)=((8*(7 - q):Nat):Int):=by omega
      rw [e,j36 (by omega)]
      refine ⟨by omega,?_,by unfold InI;omega,⟨q+1,by omega,by omega,?_⟩,by omega⟩
      · unfold Sml;simp only [List.length_append,j1u,List.length_singleton];omega
      · rw [y3v,←List.append_assoc,Int.toNat_natCast];rfl
    · have hz:l[j]? =some z:=hz
      rw [hy] at hz
      cases hz
      refine ⟨?_,by unfold InI;omega,⟨j+1,by omega,by omega,?_⟩,by omega⟩
      · unfold Sml;simp only [List.length_append,j1u];omega
      · rw [w0s hy,show q=8 by omega,List.append_assoc]
  · rw [show j=l.length by omega,List.take_length];exact h
theorem u18 (a b:Int):0<=xr a b/\xr a b<18446744073709551616:=by
  unfold xr
  rw [j36 (BitVec.isLt _)]
  have:=(BitVec.ofInt 64 a ^^^ BitVec.ofInt 64 b).isLt
  omega
def ofV0 (salt key:ByteArray):Int:=(sumV 1 0 (frm [bytesOf salt,bytesOf key])).tmod 10000
theorem v2u (salt key:ByteArray):0<=ofV0 salt key/\ofV0 salt key<10000:=by
  have h: ∀s,0<=endV s:=fun s=>(u18 _ _).1
  have h0:0<=sumV 1 0 (frm [bytesOf salt,bytesOf key]):=h _
  exact ⟨Int.tmod_nonneg _ h0,Int.tmod_lt_of_pos _ (by decide)⟩
theorem y3w (a b:ByteArray):(frm [bytesOf a,bytesOf b]).length=a.size+b.size+16:=by
  have h: ∀a:ByteArray,(bytesOf a).length=a.size:=fun a=>by simp [bytesOf]
  simp only [frm,List.flatMap_cons,List.flatMap_nil,List.length_append,j1u,h,List.length_nil]
  omega
theorem v2v {salt key:ByteArray} {K:Int->Prop} (hs:salt.size<=10000000) (hk:key.size<=10000000) (h:K (ofV0 salt key)):Rh salt key K:=by
  have hl:=y3w salt key
  have hr:=v2u salt key
  unfold Rh j0m
  refine ⟨by unfold Sml;omega,by unfold Sml;omega,?_⟩
  show q33 1 [bytesOf salt,bytesOf key] _
  unfold q33 z3i
  refine w5a (by omega) (by simp) (v2t (by omega) ⟨by decide,?_,h⟩)
  exact InI.mk (Int.le_trans (by decide) hr.1) (Int.le_trans (Int.le_of_lt hr.2) (by decide))
theorem y69 {salt key:ByteArray} {K:Int->Prop} (hs:salt.size<=10000000) (hk:key.size<=10000000) (h:K (ofV0 salt key)):q7v salt key K:=by
  have hl:=y3w salt key
  have hr:=v2u salt key
  unfold q7v v0j
  refine ⟨by unfold Sml;omega,by unfold Sml;omega,?_⟩
  show z56 1 [bytesOf salt,bytesOf key] _
  unfold z56 w2k
  refine y1q (by omega) (by simp) (u17 (by omega) ⟨by decide,?_,h⟩)
  exact InI.mk (Int.le_trans (by decide) hr.1) (Int.le_trans (Int.le_of_lt hr.2) (by decide))
theorem exOf: ∃F:ByteArray->ByteArray->Int,(∀a b,0<=F a b/\F a b<10000)/\(∀(salt key:ByteArray) (K:Int->Prop),salt.size<=10000000->key.size<=10000000->K (F salt key)->Rh salt key K)/\
    ∀(salt key:ByteArray) (K:Int->Prop),salt.size<=10000000->key.size<=10000000->K (F salt key)->q7v salt key K:=
  ⟨ofV0,v2u,fun _ _ _ h1 h2 h=>v2v h1 h2 h,fun _ _ _ h1 h2 h=>y69 h1 h2 h⟩
def ofV:ByteArray->ByteArray->Int:=Classical.choose exOf
theorem u19 (salt key:ByteArray):0<=ofV salt key/\ofV salt key<10000:=(Classical.choose_spec exOf).1 salt key
theorem z7g {salt key:ByteArray} {K:Int->Prop} (hs:salt.size<=10000000) (hk:key.size<=10000000) (h:K (ofV salt key)):Rh salt key K:=(Classical.choose_spec exOf).2.1 salt key K hs hk h
theorem v67 {salt key:ByteArray} {K:Int->Prop} (hs:salt.size<=10000000) (hk:key.size<=10000000) (h:K (ofV salt key)):q7v salt key K:=(Classical.choose_spec exOf).2.2 salt key K hs hk h
end Go.En
end
