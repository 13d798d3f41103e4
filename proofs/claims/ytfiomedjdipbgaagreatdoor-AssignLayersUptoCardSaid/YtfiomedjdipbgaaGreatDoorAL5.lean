/- The assignment of any subject in any layer, and in all of them; the arguments are of bounded bulk. This is part 5 of 7. Conditions: those in the statements. -/
import Derived.Test.YtfiomedjdipbgaaGreatDoorAL4
import Derived.KernelRfl
import Derived.Conc.MuLone
import GoSem.Core.Utf8
import Derived.Lib.ValidU
noncomputable section
set_option maxRecDepth 100000
namespace Go.Proofs.YtfiomedjdipbgaaGreatDoor
open Go Go.Proofs Go.RowKit Go.Fl
set_option maxHeartbeats 2000000 in
theorem q4f{σ:Hv}{w:World}(s_p:(List ByteArray))(v1:Value){K:(List ByteArray)->Prop}(hV:View σ w)(hr1:RSl 1 (REnc Qi) σ v1 s_p)(hP:Zn s_p K):
    Calls Tryz.prog 187 #[v1] w (fun e w1=> ∃(r1:(List ByteArray)) (v2:Value),e= .returned v2/\St ⟨w,σ,[]⟩ w1 σ [vec v2 9 1 r1.length ((r1).flatMap Qi)]/\Sml r1.length/\K r1):=by
 unfold Zn at hP
 obtain⟨a1,cap1,rfl⟩:=hr1.shape
 refine enter Tryz.func187 rfl rfl rfl ?_
 have hS:=St.start hV
 refine Qt (Qu (v:=(.slice none 0 0)) rfl (wpList_nil (Qn (wp_seq (Qt (Zd (v:=(.slice a1 s_p.length cap1)) rfl ?_))))))
 replace hP:=hP a1.isNone (RSl.isNil hr1)
 obtain⟨r1_,hn1⟩: ∃r:Bool,a1.isNone=r:=⟨_,rfl⟩
 rw[hn1] at hP
 refine y2b Tryz.underlying44 rfl hn1 (wpList_nil (Qn ?_))
 refine if_b rfl (fun ht1=> ?_) (fun ht1=> ?_)
 ·
  replace hP:=hP.1 ht1
  refine Qt (Qu (v:=(.slice none 0 0)) rfl (wpList_nil (Qn (wp_ret (Bv (ret1 rfl (show ev _ _ _=(.slice none 0 0) from rfl) ?_))))))
  have hS1:=hS.addNil 9 1
  exact⟨[],(.slice none 0 0),rfl,(St.back hS1 (Sub.refl _)),(by simp[Sml]),hP⟩
 ·
  replace hP:=hP.2 (by first|(rw[ht1];exact Bool.false_ne_true)|simp[ht1])
  refine wp_skip (Qn (Qt (j7c (cs:=[]) (e:=9) hS (fun _=>by kernel_rfl) ?_)))
  intro b1 w1 hS2
  refine Zd (v:=(.slice a1 s_p.length cap1)) rfl ?_
  have hS3:=hS2.asVec (i:=0) (ms':=[vec (.slice (some ⟨b1,0,none⟩) 0 0) 9 1 0 []]) (size:=1) rfl rfl (by unfold maxLen;omega) rfl
  obtain⟨hsm1,hP⟩:=hP
  refine y82 (enc:=Qi) (l:=s_p) (Ms:=fun v3=>[vec v3 9 1 s_p.length ((s_p).flatMap Qi)]) (k':=s_p.length) (xs':=(s_p).flatMap Qi) Tryz.underlying44 Tryz.type9 rfl rfl (bytes:=16) rfl rfl (Nat.succ_pos _) hS3 rfl (q:=0) rfl rfl hr1 hS3.view q5g v7i hsm1 (by omega) (by first|rfl|exact List.length_append.symm|simp) (List.nil_append _) (fun _=>rfl) ?_
  intro v3 w2 ho1 hS4
  refine Qu (v:=v3) rfl (wpList_nil (Qn (wp_ret (ret1 rfl (show ev _ _ _=v3 from rfl) ?_))))
  exact⟨s_p,v3,rfl,(St.back hS4 (Sub.refl _)),hsm1,hP⟩
set_option maxHeartbeats 2000000 in
theorem q4g{σ:Hv}{w:World}(s_p:(List ByteArray))(v_p:ByteArray)(v1:Value){K:Int->Prop}(hV:View σ w)(hr1:RSl 1 (REnc Qi) σ v1 s_p)(hP:Zo s_p v_p K):
    Calls Tryz.prog 128 #[v1,(.string v_p)] w (fun e w1=> ∃(r1:Int),e= .returned (.int .i64 r1)/\Grow [] σ w σ w1/\K r1):=by
 unfold Zo at hP
 obtain⟨a1,cap1,rfl⟩:=hr1.shape
 refine enter Tryz.func128 rfl rfl rfl ?_
 have hS:=St.start hV
 refine Qt (Qu (v:=(.int .i64 (0:Int))) rfl (wpList_nil (Qn (wp_seq (Qt (Zd (v:=(.slice a1 s_p.length cap1)) rfl (z2o rfl Tryz.underlying44 ?_)))))))
 have hlen1:=RSl.len63 hr1
 replace hP:=hP hlen1
 refine Zd (v:=(.int .i64 (0:Int))) rfl (wpList_nil (Qn (wp_block ?_)))
 refine w38 (fun k_2 f z=> ∃(σ1:Hv) (g:Fr),f=(upd (upd (upd (upd g 0 (.slice a1 s_p.length cap1)) 1 (.string v_p)) 7 (.int .i64 ((s_p.length:Nat):Int))) 8 (.int .i64 ((k_2:Nat):Int)))/\St ⟨w,σ,[]⟩ z σ1 []/\Sub σ σ1) hP ⟨σ,_,(Z1 rfl (Z1 rfl (Z1 rfl (Z1 rfl rfl)))),hS,(Sub.refl _)⟩ ?_
 clear hP
 rintro k_2 Y1 hP f w1 ⟨σ1,g,rfl,hS1,hsub1⟩
 refine Qt (v67 (r:=(decide (((k_2:Nat):Int)<((s_p.length:Nat):Int)))) rfl rfl rfl (wpList_nil (Qn (wp_seq ?_))))
 refine if_d (((k_2:Nat):Int)<((s_p.length:Nat):Int)) rfl (fun ht1=> ?_) (fun ht1=> ?_)
 ·
  replace hP:=hP.1 ht1
  refine wp_skip (Qn (wp_seq (wp_block (Qt (Zd (v:=(.int .i64 ((k_2:Nat):Int))) rfl (Qu (v:=(.int .i64 ((k_2:Nat):Int))) rfl (wpList_nil (Qn (Qt (Zd (v:=(.string v_p)) rfl (Zd (v:=(.slice a1 s_p.length cap1)) rfl (Zd (v:=(.int .i64 ((k_2:Nat):Int))) rfl ?_))))))))))))
  obtain⟨x1_,hx1⟩:=getq (l:=s_p) (k:=k_2) (by have:=ht1;omega)
  replace hP:=hP x1_ hx1
  obtain⟨ad1,cs1,ha1,hl1,hr2,hR1,hlt1⟩:=RSl.at hr1 hx1
  cases hR1
  refine R6 (k:=k_2) (a':=(ad1.add (k_2*1))) (congrArg (fun z=>Value.slice z _ _) ha1) rfl rfl hlt1 Tryz.underlying44 Tryz.sizeOf9 rfl (q7w (v:=(.string x1_)) rfl Tryz.isAgg9 (hr2.cell (View.of hsub1 hS1.view) 0 rfl rfl) (y8t (r:=(decide (v_p=x1_))) rfl rfl rfl (wpList_nil (Qn ?_))))
  refine if_d (v_p=x1_) rfl (fun ht2=> ?_) (fun ht2=> ?_)
  ·
   replace hP:=hP.1 ht2
   refine Qt (Zd (v:=(.int .i64 ((k_2:Nat):Int))) rfl (Qu (v:=(.int .i64 ((k_2:Nat):Int))) rfl (wpList_nil (Qn (wp_ret (j6f (Bv (Bv (j6f (Bv (ret1 rfl (show ev _ _ _=(.int .i64 ((k_2:Nat):Int)) from rfl) ?_)))))))))))
   exact⟨((k_2:Nat):Int),rfl,hS1.done.forget,hP⟩
  ·
   replace hP:=hP.2 ht2
   refine wp_skip (v4q (Qn (j3o (v4p (r:=((k_2+1:Nat):Int)) rfl rfl (nw (by omega) (by omega) (by have:=hlen1;omega)) (Zd (v:=(.int .i64 ((k_2+1:Nat):Int))) rfl (wpList_nil (Qn ?_)))))))
   exact⟨k_2+1,_,rfl,hP,σ1,_,(Z1 rfl (Z1 rfl (Z1 rfl (Z1 rfl rfl)))),hS1,hsub1⟩
 ·
  replace hP:=hP.2 ht1
  refine wp_exit (z8y (z8y (j75 (Qn (Qt (Qu (v:=(.int .i64 (-1:Int))) rfl (wpList_nil (Qn (wp_ret (ret1 rfl (show ev _ _ _=(.int .i64 (-1:Int)) from rfl) ?_))))))))))
  exact⟨(-1:Int),rfl,hS1.done.forget,hP⟩
set_option maxHeartbeats 2000000 in
theorem Vp{σ:Hv}{w:World}(s_p:(List ByteArray))(v_p:ByteArray)(v1:Value){K:Bool->Prop}(hV:View σ w)(hr1:RSl 1 (REnc Qi) σ v1 s_p)(hP:Q0 s_p v_p K):
    Calls Tryz.prog 76 #[v1,(.string v_p)] w (fun e w1=> ∃(r1:Bool),e= .returned (.bool (r1))/\Grow [] σ w σ w1/\K r1):=by
 unfold Q0 at hP
 obtain⟨a1,cap1,rfl⟩:=hr1.shape
 refine enter Tryz.func76 rfl rfl rfl ?_
 have hS:=St.start hV
 refine Qt (Qu (v:=(.bool false)) rfl (wpList_nil (Qn (Qt (Zd (v:=(.slice a1 s_p.length cap1)) rfl (Zd (v:=(.string v_p)) rfl ?_))))))
 obtain⟨Y1,hK1,hc1⟩:=hP
 refine q9w (args:=[(.slice a1 s_p.length cap1),(.string v_p)]) rfl Tryz.call128 (Calls.mono (q4g s_p v_p (.slice a1 s_p.length cap1) hS.view hr1 hc1) ?_)
 rintro _ w1 ⟨r1_,rfl,hg1,hY1⟩
 refine⟨_,rfl,?_⟩
 have hS1:=hS.grow hg1
 replace hP:=hK1 r1_ hY1
 refine y8s (r:=(decide ((0:Int)<=r1_))) rfl rfl rfl (Qu (v:=(.bool (decide ((0:Int)<=r1_)))) rfl (wpList_nil (Qn (wp_ret (ret1 rfl (show ev _ _ _=(.bool (decide ((0:Int)<=r1_))) from rfl) ?_)))))
 exact⟨(decide ((0:Int)<=r1_)),rfl,hS1.done.forget,hP⟩
set_option maxHeartbeats 2000000 in
theorem w_graph_Order{σ:Hv}{w:World}(nodes_p:(List ByteArray))(edges_p:(List (ByteArray×ByteArray)))(v1:Value)(v2:Value){K:(List ByteArray)->Int->Prop}(hV:View σ w)(hr1:RSl 1 (REnc Qi) σ v1 nodes_p)(hr2:RSl 2 (REnc y83) σ v2 edges_p)(hP:P_graph_Order nodes_p edges_p K):
    Calls Tryz.prog 139 #[v1,v2] w (fun e w1=> ∃(r1:(List ByteArray)) (r2:Int) (v3:Value),e= .returned (.tuple #[v3,(.int .i64 r2)])/\St ⟨w,σ,[]⟩ w1 σ [vec v3 9 1 r1.length ((r1).flatMap Qi)]/\Sml r1.length/\K r1 r2):=by
 unfold P_graph_Order at hP
 obtain⟨a1,cap1,rfl⟩:=hr1.shape
 obtain⟨a2,cap2,rfl⟩:=hr2.shape
 refine enter Tryz.func139 rfl rfl rfl ?_
 have hS:=St.start hV
 refine Qt (Qu (v:=(.slice none 0 0)) rfl (Qu (v:=(.int .i64 (0:Int))) rfl (wpList_nil (Qn (Qt (Zd (v:=(.slice a1 nodes_p.length cap1)) rfl (q9w (args:=[(.slice a1 nodes_p.length cap1)]) rfl Tryz.call186 ?_)))))))
 refine enter Tryz.func186 rfl rfl rfl ?_
 refine Qt (u01 (cs:=[(.slice a1 nodes_p.length cap1)]) hS rfl rfl ?_)
 intro b1 w1 hS1
 refine Qu (v:= .nilFunc) rfl (wpList_nil (Qn (Qt (j3p (la:=[]) (lb:=[(.pointer (some ⟨b1,0,none⟩))]) rfl rfl (Qu (v:=(.func (.func 237) #[] #[(.pointer (some ⟨b1,0,none⟩))])) rfl (wpList_nil (Qn (wp_ret (ret1 rfl (show ev _ _ _=(.func (.func 237) #[] #[(.pointer (some ⟨b1,0,none⟩))]) from rfl) ?_)))))))))
 refine⟨_,rfl,?_⟩
 refine q9w (args:=[(.func (.func 237) #[] #[(.pointer (some ⟨b1,0,none⟩))])]) rfl Tryz.call185 ?_
 refine enter Tryz.func185 rfl rfl rfl ?_
 refine Qt (Qu (v:=(.slice none 0 0)) rfl (wpList_nil (Qn (Qt (Zd (v:=(.func (.func 237) #[] #[(.pointer (some ⟨b1,0,none⟩))])) rfl (q9w (args:=[(.func (.func 237) #[] #[(.pointer (some ⟨b1,0,none⟩))])]) rfl Tryz.call236 ?_))))))
 refine enter Tryz.func236 rfl rfl rfl ?_
 refine Qt (Qu (v:=(.slice none 0 0)) rfl (wpList_nil (Qn (Qt (Zd (v:=(.func (.func 237) #[] #[(.pointer (some ⟨b1,0,none⟩))])) rfl ?_)))))
 obtain⟨σ1,hS2,hsub1,hfr1⟩:=hS1.freeze' (i:=0) rfl rfl
 have hB1:σ1 b1=some (.cells #[(.slice a1 nodes_p.length cap1)] 44 (0,0)):=(hfr1 _ rfl).trans (hS1.get (i:=0) rfl)
 obtain⟨hsm1,hP⟩:=hP
 refine q9w (args:=[(.slice none 0 0),(.func (.func 237) #[] #[(.pointer (some ⟨b1,0,none⟩))])]) rfl Tryz.call274 (Calls.mono (u1r b1 (.slice a1 nodes_p.length cap1) nodes_p hS2.view hB1 (RSl.menc hsub1 hr1) hsm1) ?_)
 rintro _ w2 ⟨v4,rfl,hg1,ho1⟩
 refine⟨_,rfl,?_⟩
 have hS3:=hS2.growAdd hg1 (o:=vec v4 9 1 nodes_p.length ((nodes_p).flatMap Qi)) ho1
 refine Qu (v:=v4) rfl (wpList_nil (Qn (wp_ret (ret1 rfl (show ev _ _ _=v4 from rfl) ?_))))
 refine⟨_,rfl,?_⟩
 refine Qu (v:=v4) rfl (wpList_nil (Qn (Qt (Zd (v:=v4) rfl ?_))))
 refine q9w (args:=[v4]) rfl Tryz.call80 (Calls.mono (v2z Tryz.slices_Sort_string Tryz.slices_Sort_string_none hS3.view (hS3.get (i:=0) rfl) rfl (fun b hb=>hS3.off _ (List.mem_of_getElem? (i:=0) rfl) b hb) (by have:=hsm1;unfold Sml at this;omega)) ?_)
 rintro _ w3 ⟨rfl,hg2,ho2⟩
 refine⟨_,rfl,?_⟩
 have hS4:=hS3.growV (i:=0) (o':=vec v4 9 1 nodes_p.length ((srt nodes_p).flatMap Qi)) rfl hg2 rfl ho2 (ms':=[vec v4 9 1 nodes_p.length ((srt nodes_p).flatMap Qi)]) rfl
 have hS5:=hS4.re (ms':=[vec v4 9 1 ((srt nodes_p).length) ((srt nodes_p).flatMap Qi)]) (by simp only[J3])
 refine wpList_nil (Qn (Qt (Zd (v:=v4) rfl (Qu (v:=v4) rfl (wpList_nil (Qn (wp_ret (ret1 rfl (show ev _ _ _=v4 from rfl) ?_))))))))
 refine⟨_,rfl,?_⟩
 refine Qu (v:=v4) rfl (wpList_nil (Qn (wp_seq (Qt (Zd (v:=v4) rfl ?_)))))
 obtain⟨σ2,hS6,hsub2,hr4⟩:=hS5.peek (i:=0) rfl q5g (show Sml (srt nodes_p).length by rw[J3];exact hsm1)
 obtain⟨Y1,hK1,hc1⟩:=hP
 refine q9w (args:=[v4]) rfl Tryz.call187 (Calls.mono (q4f (srt nodes_p) v4 hS6.view hr4 hc1) ?_)
 rintro _ w4 ⟨r1_,v5,rfl,hg3,hl1,hY1⟩
 refine⟨_,rfl,?_⟩
 have hS7:=St.callM (ins:=[]) (rest:=[vec v4 9 1 ((srt nodes_p).length) ((srt nodes_p).flatMap Qi)]) (ms':=[vec v5 9 1 r1_.length ((r1_).flatMap Qi),vec v4 9 1 ((srt nodes_p).length) ((srt nodes_p).flatMap Qi)]) hS5 (St.back hg3 hsub2) rfl
 replace hP:=hK1 r1_ hY1
 obtain⟨hsm2,hP⟩:=hP
 refine q9w (args:=[v5]) rfl Tryz.call184 (Calls.mono (j79 Tryz.slices_Compact_string Tryz.slices_Compact_string_empty hS7.view (hS7.get (i:=0) rfl) rfl (fun b hb=>hS7.off _ (List.mem_of_getElem? (i:=0) rfl) b hb) (by have:=hl1;unfold Sml at this;omega)) ?_)
 rintro _ w5 ⟨v6,rfl,hf1,hg4,ho3⟩
 refine⟨_,rfl,?_⟩
 have ho4:=q1w ho3
 have hS8:=hS7.growV (i:=0) (o':=vec v6 9 1 ((cpt r1_).length) ((cpt r1_).flatMap Qi)) rfl hg4 hf1 ho3 (ms':=[vec v6 9 1 ((cpt r1_).length) ((cpt r1_).flatMap Qi),vec v4 9 1 ((srt nodes_p).length) ((srt nodes_p).flatMap Qi)]) rfl
 refine j09 hS8 rfl (i:=0) rfl Tryz.underlying44 ?_
 have hlen1:(cpt r1_).length<=9223372036854775807:=by have:=hsm2;unfold Sml at this;omega
 replace hP:=hP hlen1
 refine Zd (v:=v4) rfl (j09 hS8 rfl (i:=1) rfl Tryz.underlying44 ?_)
 have hlen2:(srt nodes_p).length<=9223372036854775807:=by have:=(show Sml (srt nodes_p).length by rw[J3];exact hsm1);unfold Sml at this;omega
 replace hP:=hP hlen2
 refine u0z (r:=(!decide ((((cpt r1_).length:Nat):Int)=(((srt nodes_p).length:Nat):Int)))) rfl rfl rfl (wpList_nil (Qn ?_))
 refine y8u ((((cpt r1_).length:Nat):Int)=(((srt nodes_p).length:Nat):Int)) rfl (fun ht1=> ?_) (fun ht1=> ?_)
 ·
  replace hP:=hP.2 ht1
  refine Qt (Qu (v:=(.slice none 0 0)) rfl (Qu (v:=(.int .i64 (10:Int))) rfl (wpList_nil (Qn (wp_ret (Bv (ret2 rfl (show ev _ _ _=(.slice none 0 0) from rfl) (show ev _ _ _=(.int .i64 (10:Int)) from rfl) ?_)))))))
  have hS9:=hS8.addNil 9 1
  exact⟨[],(10:Int),(.slice none 0 0),rfl,(St.back (hS9.keep 1 (ms':=[vec (.slice none 0 0) 9 1 0 []]) rfl) (Sub.refl _)),(by simp[Sml]),hP⟩
 ·
  replace hP:=hP.1 ht1
  refine wp_skip (Qn (Qt (v4v 9 1 Qi hS8 ?_)))
  intro b2 w6 hS10
  refine w9w (cs:=[(.map none)]) hS10 Tryz.zeroValue267 rfl ?_
  intro b3 w7 hS11
  refine w9v (T:=267) (vs:=[(.map (some b2))]) (cs':=[(.map (some b2))]) (ms':=(blk b3 267 [(.map (some b2))]::smap b2 (asl [])::vec v6 9 1 ((cpt r1_).length) ((cpt r1_).flatMap Qi)::vec v4 9 1 ((srt nodes_p).length) ((srt nodes_p).flatMap Qi)::Vo 9 1 Qi [])) (i:=0) hS11 rfl rfl rfl Tryz.sizeOf267 rfl (ones rfl) rfl (Nat.le_of_ble_eq_true rfl) rfl rfl ?_
  intro w8 hS12
  refine wpList_nil (Qn (wp_seq (Qt (Zd (v:=(.slice a2 edges_p.length cap2)) rfl (z2o rfl Tryz.underlying170 ?_)))))
  have hlen3:=RSl.len63 hr2
  replace hP:=hP hlen3
  refine Zd (v:=(.int .i64 (0:Int))) rfl (wpList_nil (Qn (wp_block ?_)))
  have hS13:=hS12.front 3 rfl (ms':=(vec v4 9 1 ((srt nodes_p).length) ((srt nodes_p).flatMap Qi)::blk b3 267 [(.map (some b2))]::smap b2 (asl [])::vec v6 9 1 ((cpt r1_).length) ((cpt r1_).flatMap Qi)::Vo 9 1 Qi [])) rfl
  have hS14:=hS13.front 3 rfl (ms':=(vec v6 9 1 ((cpt r1_).length) ((cpt r1_).flatMap Qi)::vec v4 9 1 ((srt nodes_p).length) ((srt nodes_p).flatMap Qi)::blk b3 267 [(.map (some b2))]::smap b2 (asl [])::Vo 9 1 Qi [])) rfl
  have hS15:=hS14.front 2 rfl (ms':=(blk b3 267 [(.map (some b2))]::vec v6 9 1 ((cpt r1_).length) ((cpt r1_).flatMap Qi)::vec v4 9 1 ((srt nodes_p).length) ((srt nodes_p).flatMap Qi)::smap b2 (asl [])::Vo 9 1 Qi [])) rfl
  have hS16:=hS15.front 3 rfl (ms':=(smap b2 (asl [])::blk b3 267 [(.map (some b2))]::vec v6 9 1 ((cpt r1_).length) ((cpt r1_).flatMap Qi)::vec v4 9 1 ((srt nodes_p).length) ((srt nodes_p).flatMap Qi)::Vo 9 1 Qi [])) rfl
  refine y1z (fun k_3 F_2 f z=> ∃(es2:EL ByteArray) (σ3:Hv) (g:Fr),f=(upd (upd (upd (upd (upd g 6 v4) 7 (.pointer (some ⟨b3,0,none⟩))) 24 (.slice a2 edges_p.length cap2)) 25 (.int .i64 ((edges_p.length:Nat):Int))) 26 (.int .i64 ((k_3:Nat):Int)))/\St ⟨w,σ,[]⟩ z σ3 (smap b2 (asl es2)::blk b3 267 [(.map (some b2))]::vec v6 9 1 ((cpt r1_).length) ((cpt r1_).flatMap Qi)::vec v4 9 1 ((srt nodes_p).length) ((srt nodes_p).flatMap Qi)::Vo 9 1 Qi es2)/\Sub σ1 σ3/\ELF es2 F_2) hP ⟨[],σ1,_,(Z1 rfl (Z1 rfl (Z1 rfl (Z1 rfl (Z1 rfl rfl))))),hS16,(Sub.refl _),ELF.nil⟩ ?_
  clear hP
  rintro k_3 F_2 Y2 hP f w9 ⟨es2,σ3,g,rfl,hS17,hsub3,hF2⟩
  refine Qt (v67 (r:=(decide (((k_3:Nat):Int)<((edges_p.length:Nat):Int)))) rfl rfl rfl (wpList_nil (Qn (wp_seq ?_))))
  refine if_d (((k_3:Nat):Int)<((edges_p.length:Nat):Int)) rfl (fun ht2=> ?_) (fun ht2=> ?_)
  ·
   replace hP:=hP.1 ht2
   refine wp_skip (Qn (wp_seq (wp_block (Qt ?_))))
   obtain⟨x1_,hx1⟩:=getq (l:=edges_p) (k:=k_3) (by have:=ht2;omega)
   replace hP:=hP x1_ hx1
   obtain⟨ad1,cs1,ha1,hl2,hr6,hR1,hlt1⟩:=RSl.at hr2 hx1
   cases hR1
   refine R6 (k:=k_3) (a':=(ad1.add (k_3*2))) (congrArg (fun z=>Value.slice z _ _) ha1) rfl rfl hlt1 Tryz.underlying170 Tryz.sizeOf217 rfl (y5m (cs:=[(.string x1_.1),(.string x1_.2)]) rfl Tryz.isAgg217 Tryz.sizeOf217 rfl (hr6.row (View.of (Sub.trans hsub1 hsub3) hS17.view)) (w9w (cs:=[(.string (⟨#[]⟩:ByteArray)),(.string (⟨#[]⟩:ByteArray))]) hS17 Tryz.zeroValue217 rfl ?_))
   intro b4 w10 hS18
   refine w9v (T:=217) (vs:=[(.string x1_.1),(.string x1_.2)]) (cs':=[(.string x1_.1),(.string x1_.2)]) (ms':=(blk b4 217 [(.string x1_.1),(.string x1_.2)]::smap b2 (asl es2)::blk b3 267 [(.map (some b2))]::vec v6 9 1 ((cpt r1_).length) ((cpt r1_).flatMap Qi)::vec v4 9 1 ((srt nodes_p).length) ((srt nodes_p).flatMap Qi)::Vo 9 1 Qi es2)) (i:=0) hS18 rfl rfl rfl Tryz.sizeOf217 rfl (ones rfl) rfl (Nat.le_of_ble_eq_true rfl) rfl rfl ?_
   intro w11 hS19
   refine wpList_nil (Qn (wp_seq (Qt (Zd (v:=v4) rfl (j73 (a':=⟨b4,0,none⟩) rfl Tryz.underlying217 rfl Tryz.sizeOf9 rfl (q7w (v:=(.string x1_.1)) rfl Tryz.isAgg9 (hS19.cell (i:=0) rfl rfl) ?_))))))
   obtain⟨σ4,hS20,hsub4,hr7⟩:=hS19.peek (i:=4) rfl q5g (show Sml (srt nodes_p).length by rw[J3];exact hsm1)
   obtain⟨Y3,hK2,hc2⟩:=hP
   refine q9w (args:=[v4,(.string x1_.1)]) rfl Tryz.call76 (Calls.mono (Vp (srt nodes_p) x1_.1 v4 hS20.view hr7 hc2) ?_)
   rintro _ w12 ⟨r2_,rfl,hg5,hY2⟩
   refine⟨_,rfl,?_⟩
   have hg5b:=hg5.back hsub4
   have hS21:=hS19.grow hg5b
   replace hP:=hK2 r2_ hY2
   refine y1r (r:=(!r2_)) rfl rfl ?_
   rcases Bool.eq_false_or_eq_true (r2_) with hb1|hb1
   ·
    replace hP:=hP.1 hb1
    refine Zd (v:=(.bool false)) (congrArg Value.bool (congrArg Bool.not hb1)) (o_on rfl rfl (Zd (v:=v4) rfl (o_on rfl rfl (j73 (a':=⟨b4,1,none⟩) rfl Tryz.underlying217 rfl Tryz.sizeOf9 rfl (o_on rfl rfl (q7w (v:=(.string x1_.2)) rfl Tryz.isAgg9 (hS21.cell (i:=0) rfl rfl) (o_on rfl rfl ?_)))))))
    obtain⟨σ5,hS22,hsub5,hr8⟩:=hS21.peek (i:=4) rfl q5g (show Sml (srt nodes_p).length by rw[J3];exact hsm1)
    obtain⟨Y4,hK3,hc3⟩:=hP
    refine q9w (args:=[v4,(.string x1_.2)]) rfl Tryz.call76 (Calls.mono (Vp (srt nodes_p) x1_.2 v4 hS22.view hr8 hc3) ?_)
    rintro _ w13 ⟨r3_,rfl,hg6,hY3⟩
    refine⟨_,rfl,?_⟩
    have hg6b:=hg6.back hsub5
    have hS23:=hS21.grow hg6b
    replace hP:=hK3 r3_ hY3
    refine o_on rfl rfl (y1r (r:=(!r3_)) rfl rfl (y1p (v:=(.bool (!r3_))) rfl rfl (wpList_nil (Qn ?_))))
    refine y8v rfl (fun ht3=> ?_) (fun ht3=> ?_)
    ·
     replace hP:=hP.2 (by first|(rw[ht3];exact Bool.false_ne_true)|simp[ht3])
     refine Qt (Qu (v:=(.slice none 0 0)) rfl (Qu (v:=(.int .i64 (11:Int))) rfl (wpList_nil (Qn (wp_ret (Bv (j6f (Bv (Bv (j6f (Bv (ret2 rfl (show ev _ _ _=(.slice none 0 0) from rfl) (show ev _ _ _=(.int .i64 (11:Int)) from rfl) ?_))))))))))))
     have hS24:=hS23.addNil 9 1
     exact⟨[],(11:Int),(.slice none 0 0),rfl,(St.back (hS24.keep 1 (ms':=[vec (.slice none 0 0) 9 1 0 []]) rfl) (Sub.refl _)),(by simp[Sml]),hP⟩
    ·
     replace hP:=hP.1 ht3
     refine wp_skip (Qn (dr (fun z=>St ⟨w,σ,[]⟩ z σ3 [blk b4 217 [(.string x1_.1),(.string x1_.2)],blk b3 267 [(.map (some b2))],vec v6 9 1 ((cpt r1_).length) ((cpt r1_).flatMap Qi),vec v4 9 1 ((srt nodes_p).length) ((srt nodes_p).flatMap Qi)]) (by kernel_rfl) rfl ?_))
     have hS25:=hS23.drew
     refine dt 0 1 (v:=(.map (some b2))) (by kernel_rfl) rfl rfl (fun _ _ _ h=>h) (hS25.sublist (.cons_cons _ (.cons _ (.cons_cons _ (.cons_cons _ (.cons_cons _ (List.nil_sublist _))))))) (fun _ hJ _ hK=>q7w (v:=(.map (some b2))) rfl Tryz.isAgg267 (hJ.cell (i:=1) rfl rfl) ⟨rfl,hK⟩) (dt 1 3 (v:=(.pointer (some ⟨b4,0,none⟩))) (by kernel_rfl) rfl rfl (fun _ _ _ h=>h) (hS25.sublist (.cons_cons _ (.cons _ (.cons_cons _ (.cons_cons _ (.cons_cons _ (List.nil_sublist _))))))) (fun _ _ _ hK=>j73 (a':=⟨b4,0,none⟩) rfl Tryz.underlying217 rfl Tryz.sizeOf9 rfl ⟨rfl,hK⟩) (dt 2 7 (v:=(.string x1_.1)) (by kernel_rfl) rfl rfl (fun _ _ _ h=>h) (hS25.sublist (.cons_cons _ (.cons _ (.cons_cons _ (.cons_cons _ (.cons_cons _ (List.nil_sublist _))))))) (fun _ hJ _ hK=>q7w (v:=(.string x1_.1)) rfl Tryz.isAgg9 (hJ.cell (i:=0) rfl rfl) ⟨rfl,hK⟩) (dt 3 15 (v:=(.map (some b2))) (by kernel_rfl) rfl rfl (fun _ _ _ h=>h) (hS25.sublist (.cons_cons _ (.cons _ (.cons_cons _ (.cons_cons _ (.cons_cons _ (List.nil_sublist _))))))) (fun _ hJ _ hK=>q7w (v:=(.map (some b2))) rfl Tryz.isAgg267 (hJ.cell (i:=1) rfl rfl) ⟨rfl,hK⟩) (dt 4 31 (v:=(.pointer (some ⟨b4,0,none⟩))) (by kernel_rfl) rfl rfl (fun _ _ _ h=>h) (hS25.sublist (.cons_cons _ (.cons _ (.cons_cons _ (.cons_cons _ (.cons_cons _ (List.nil_sublist _))))))) (fun _ _ _ hK=>j73 (a':=⟨b4,0,none⟩) rfl Tryz.underlying217 rfl Tryz.sizeOf9 rfl ⟨rfl,hK⟩) (dt 5 63 (v:=(.string x1_.1)) (by kernel_rfl) rfl rfl (fun _ _ _ h=>h) (hS25.sublist (.cons_cons _ (.cons _ (.cons_cons _ (.cons_cons _ (.cons_cons _ (List.nil_sublist _))))))) (fun _ hJ _ hK=>q7w (v:=(.string x1_.1)) rfl Tryz.isAgg9 (hJ.cell (i:=0) rfl rfl) ⟨rfl,hK⟩) (dt 7 191 (v:=(.pointer (some ⟨b4,1,none⟩))) (by kernel_rfl) rfl rfl (fun _ _ _ h=>h) (hS25.sublist (.cons_cons _ (.cons _ (.cons_cons _ (.cons_cons _ (.cons_cons _ (List.nil_sublist _))))))) (fun _ _ _ hK=>j73 (a':=⟨b4,1,none⟩) rfl Tryz.underlying217 rfl Tryz.sizeOf9 rfl ⟨rfl,hK⟩) (dt 8 447 (v:=(.string x1_.2)) (by kernel_rfl) rfl rfl (fun _ _ _ h=>h) (hS25.sublist (.cons_cons _ (.cons _ (.cons_cons _ (.cons_cons _ (.cons_cons _ (List.nil_sublist _))))))) (fun _ hJ _ hK=>q7w (v:=(.string x1_.2)) rfl Tryz.isAgg9 (hJ.cell (i:=0) rfl rfl) ⟨rfl,hK⟩) ?_)))))))
     refine d2 6 9 511 959 (by kernel_rfl) rfl rfl rfl rfl ?_ ?_
     ·
      obtain⟨v7,hv1⟩: ∃v,(asl es2 x1_.1).getD (.slice none 0 0)=v:=⟨_,rfl⟩
      refine v7g (i:=1) (v:=v7) hS25 rfl rfl rfl Tryz.underlying267 Tryz.underlying9 Tryz.zeroValue44 hv1 (wpList_nil ?_)
      refine⟨rfl,(hS25.sublist (.cons_cons _ (.cons _ (.cons_cons _ (.cons_cons _ (.cons_cons _ (List.nil_sublist _))))))),?_⟩
      refine d1 9 1023 (by kernel_rfl) rfl (j7c (cs:=[(.string x1_.2)]) (e:=9) hS25 (fun _=>by kernel_rfl) ?_)
      intro b5 w14 hS26
      refine wpList_nil ?_
      refine⟨rfl,(hS26.sublist (.cons _ (.cons_cons _ (.cons _ (.cons_cons _ (.cons_cons _ (.cons_cons _ (List.nil_sublist _)))))))),?_⟩
      refine d1 10 2047 (by kernel_rfl) rfl ?_
      obtain⟨es3,hS27,hL1,hl3⟩:=St.borrow (ms:=[blk b5 9 [(.string x1_.2)],blk b4 217 [(.string x1_.1),(.string x1_.2)],smap b2 (asl es2),blk b3 267 [(.map (some b2))],vec v6 9 1 ((cpt r1_).length) ((cpt r1_).flatMap Qi),vec v4 9 1 ((srt nodes_p).length) ((srt nodes_p).flatMap Qi)]) hS26 hF2 x1_.1 hv1
      obtain⟨hsm3,hP⟩:=hP
      refine y5u (Ms:=fun v8=>(vec v8 9 1 ((((F_2 x1_.1).getD [])++[x1_.2]).length) ((((F_2 x1_.1).getD [])++[x1_.2]).flatMap Qi)::blk b5 9 [(.string x1_.2)]::blk b4 217 [(.string x1_.1),(.string x1_.2)]::smap b2 (asl es2)::blk b3 267 [(.map (some b2))]::vec v6 9 1 ((cpt r1_).length) ((cpt r1_).flatMap Qi)::vec v4 9 1 ((srt nodes_p).length) ((srt nodes_p).flatMap Qi)::Vo 9 1 Qi es3)) (k':=(((F_2 x1_.1).getD [])++[x1_.2]).length) (xs':=(((F_2 x1_.1).getD [])++[x1_.2]).flatMap Qi) Tryz.underlying44 Tryz.type9 rfl rfl (bytes:=16) rfl rfl (Nat.succ_pos _) hS27 rfl (q:=0) rfl rfl rfl (z0s (hS27.get (i:=1) rfl)) (ones rfl) hsm3 (by omega) (by first|rfl|exact List.length_append.symm|simp) (by simp[Qi]) (fun _=>rfl) ?_
      intro v8 w15 ho5 hS28
      have hS29:=hS28.drop 1 (ms':=(vec v8 9 1 ((((F_2 x1_.1).getD [])++[x1_.2]).length) ((((F_2 x1_.1).getD [])++[x1_.2]).flatMap Qi)::blk b4 217 [(.string x1_.1),(.string x1_.2)]::smap b2 (asl es2)::blk b3 267 [(.map (some b2))]::vec v6 9 1 ((cpt r1_).length) ((cpt r1_).flatMap Qi)::vec v4 9 1 ((srt nodes_p).length) ((srt nodes_p).flatMap Qi)::Vo 9 1 Qi es3)) rfl
      refine wpList_nil ?_
      refine⟨rfl,(hS29.sublist (.cons _ (.cons_cons _ (.cons _ (.cons_cons _ (.cons_cons _ (.cons_cons _ (List.nil_sublist _)))))))),?_⟩
      refine d1 11 4095 (by kernel_rfl) rfl (y5r (v:=v8) (i:=2) (ms':=(vec v8 9 1 ((((F_2 x1_.1).getD [])++[x1_.2]).length) ((((F_2 x1_.1).getD [])++[x1_.2]).flatMap Qi)::blk b4 217 [(.string x1_.1),(.string x1_.2)]::smap b2 (fun k'=>if k'=x1_.1 then some v8 else asl es2 k')::blk b3 267 [(.map (some b2))]::vec v6 9 1 ((cpt r1_).length) ((cpt r1_).flatMap Qi)::vec v4 9 1 ((srt nodes_p).length) ((srt nodes_p).flatMap Qi)::Vo 9 1 Qi es3)) hS29 rfl rfl rfl rfl Tryz.underlying267 Tryz.underlying9 rfl ?_)
      intro w16 hS30
      have hS32:=St.giveback (ms:=[blk b4 217 [(.string x1_.1),(.string x1_.2)],smap b2 (fun k'=>if k'=x1_.1 then some v8 else asl es2 k'),blk b3 267 [(.map (some b2))],vec v6 9 1 ((cpt r1_).length) ((cpt r1_).flatMap Qi),vec v4 9 1 ((srt nodes_p).length) ((srt nodes_p).flatMap Qi)]) (ms':=[blk b4 217 [(.string x1_.1),(.string x1_.2)],smap b2 (asl ((x1_.1,v8,((F_2 x1_.1).getD [])++[x1_.2])::es3)),blk b3 267 [(.map (some b2))],vec v6 9 1 ((cpt r1_).length) ((cpt r1_).flatMap Qi),vec v4 9 1 ((srt nodes_p).length) ((srt nodes_p).flatMap Qi)]) (i:=1) hS30 hL1 rfl rfl
      have hF3:=ELF.put (v:=v8) hF2 hL1 hsm3
      refine wpList_nil ?_
      refine⟨rfl,(hS32.sublist (.cons_cons _ (.cons _ (.cons_cons _ (.cons_cons _ (.cons_cons _ (List.nil_sublist _))))))),j7d (J':=fun z=>St ⟨w,σ,[]⟩ z σ3 (blk b4 217 [(.string x1_.1),(.string x1_.2)]::smap b2 (asl ((x1_.1,v8,((F_2 x1_.1).getD [])++[x1_.2])::es3))::blk b3 267 [(.map (some b2))]::vec v6 9 1 ((cpt r1_).length) ((cpt r1_).flatMap Qi)::vec v4 9 1 ((srt nodes_p).length) ((srt nodes_p).flatMap Qi)::Vo 9 1 Qi ((x1_.1,v8,((F_2 x1_.1).getD [])++[x1_.2])::es3))) (fun w h=>h.sublist (.cons_cons _ (.cons _ (.cons_cons _ (.cons_cons _ (.cons_cons _ (List.nil_sublist _))))))) _ _ _ _ ?_⟩
      refine dz (by kernel_rfl) (v4q (Qn (j3o (v4p (r:=((k_3+1:Nat):Int)) rfl rfl (nw (by omega) (by omega) (by have:=hlen3;omega)) (Zd (v:=(.int .i64 ((k_3+1:Nat):Int))) rfl (wpList_nil (Qn ?_)))))))
      exact⟨k_3+1,(put F_2 x1_.1 (((F_2 x1_.1).getD [])++[x1_.2])),_,rfl,hP,((x1_.1,v8,((F_2 x1_.1).getD [])++[x1_.2])::es3),σ3,_,(Z1 rfl (Z1 rfl (Z1 rfl (Z1 rfl (Z1 rfl rfl))))),(hS32.sublist (ms':=(smap b2 (asl ((x1_.1,v8,((F_2 x1_.1).getD [])++[x1_.2])::es3))::blk b3 267 [(.map (some b2))]::vec v6 9 1 ((cpt r1_).length) ((cpt r1_).flatMap Qi)::vec v4 9 1 ((srt nodes_p).length) ((srt nodes_p).flatMap Qi)::Vo 9 1 Qi ((x1_.1,v8,((F_2 x1_.1).getD [])++[x1_.2])::es3))) (.cons _ (List.Sublist.refl _))),hsub3,hF3⟩
     ·
      refine j7c (cs:=[(.string x1_.2)]) (e:=9) hS25 (fun _=>by kernel_rfl) ?_
      intro b5 w14 hS26
      refine wpList_nil ?_
      refine⟨rfl,(hS26.sublist (.cons _ (.cons_cons _ (.cons _ (.cons_cons _ (.cons_cons _ (.cons_cons _ (List.nil_sublist _)))))))),?_⟩
      refine d1 6 1023 (by kernel_rfl) rfl ?_
      obtain⟨v7,hv1⟩: ∃v,(asl es2 x1_.1).getD (.slice none 0 0)=v:=⟨_,rfl⟩
      refine v7g (i:=2) (v:=v7) hS26 rfl rfl rfl Tryz.underlying267 Tryz.underlying9 Tryz.zeroValue44 hv1 (wpList_nil ?_)
      refine⟨rfl,(hS26.sublist (.cons _ (.cons_cons _ (.cons _ (.cons_cons _ (.cons_cons _ (.cons_cons _ (List.nil_sublist _)))))))),?_⟩
      refine d1 10 2047 (by kernel_rfl) rfl ?_
      obtain⟨es3,hS27,hL1,hl3⟩:=St.borrow (ms:=[blk b5 9 [(.string x1_.2)],blk b4 217 [(.string x1_.1),(.string x1_.2)],smap b2 (asl es2),blk b3 267 [(.map (some b2))],vec v6 9 1 ((cpt r1_).length) ((cpt r1_).flatMap Qi),vec v4 9 1 ((srt nodes_p).length) ((srt nodes_p).flatMap Qi)]) hS26 hF2 x1_.1 hv1
      obtain⟨hsm3,hP⟩:=hP
      refine y5u (Ms:=fun v8=>(vec v8 9 1 ((((F_2 x1_.1).getD [])++[x1_.2]).length) ((((F_2 x1_.1).getD [])++[x1_.2]).flatMap Qi)::blk b5 9 [(.string x1_.2)]::blk b4 217 [(.string x1_.1),(.string x1_.2)]::smap b2 (asl es2)::blk b3 267 [(.map (some b2))]::vec v6 9 1 ((cpt r1_).length) ((cpt r1_).flatMap Qi)::vec v4 9 1 ((srt nodes_p).length) ((srt nodes_p).flatMap Qi)::Vo 9 1 Qi es3)) (k':=(((F_2 x1_.1).getD [])++[x1_.2]).length) (xs':=(((F_2 x1_.1).getD [])++[x1_.2]).flatMap Qi) Tryz.underlying44 Tryz.type9 rfl rfl (bytes:=16) rfl rfl (Nat.succ_pos _) hS27 rfl (q:=0) rfl rfl rfl (z0s (hS27.get (i:=1) rfl)) (ones rfl) hsm3 (by omega) (by first|rfl|exact List.length_append.symm|simp) (by simp[Qi]) (fun _=>rfl) ?_
      intro v8 w15 ho5 hS28
      have hS29:=hS28.drop 1 (ms':=(vec v8 9 1 ((((F_2 x1_.1).getD [])++[x1_.2]).length) ((((F_2 x1_.1).getD [])++[x1_.2]).flatMap Qi)::blk b4 217 [(.string x1_.1),(.string x1_.2)]::smap b2 (asl es2)::blk b3 267 [(.map (some b2))]::vec v6 9 1 ((cpt r1_).length) ((cpt r1_).flatMap Qi)::vec v4 9 1 ((srt nodes_p).length) ((srt nodes_p).flatMap Qi)::Vo 9 1 Qi es3)) rfl
      refine wpList_nil ?_
      refine⟨rfl,(hS29.sublist (.cons _ (.cons_cons _ (.cons _ (.cons_cons _ (.cons_cons _ (.cons_cons _ (List.nil_sublist _)))))))),?_⟩
      refine d1 11 4095 (by kernel_rfl) rfl (y5r (v:=v8) (i:=2) (ms':=(vec v8 9 1 ((((F_2 x1_.1).getD [])++[x1_.2]).length) ((((F_2 x1_.1).getD [])++[x1_.2]).flatMap Qi)::blk b4 217 [(.string x1_.1),(.string x1_.2)]::smap b2 (fun k'=>if k'=x1_.1 then some v8 else asl es2 k')::blk b3 267 [(.map (some b2))]::vec v6 9 1 ((cpt r1_).length) ((cpt r1_).flatMap Qi)::vec v4 9 1 ((srt nodes_p).length) ((srt nodes_p).flatMap Qi)::Vo 9 1 Qi es3)) hS29 rfl rfl rfl rfl Tryz.underlying267 Tryz.underlying9 rfl ?_)
      intro w16 hS30
      have hS32:=St.giveback (ms:=[blk b4 217 [(.string x1_.1),(.string x1_.2)],smap b2 (fun k'=>if k'=x1_.1 then some v8 else asl es2 k'),blk b3 267 [(.map (some b2))],vec v6 9 1 ((cpt r1_).length) ((cpt r1_).flatMap Qi),vec v4 9 1 ((srt nodes_p).length) ((srt nodes_p).flatMap Qi)]) (ms':=[blk b4 217 [(.string x1_.1),(.string x1_.2)],smap b2 (asl ((x1_.1,v8,((F_2 x1_.1).getD [])++[x1_.2])::es3)),blk b3 267 [(.map (some b2))],vec v6 9 1 ((cpt r1_).length) ((cpt r1_).flatMap Qi),vec v4 9 1 ((srt nodes_p).length) ((srt nodes_p).flatMap Qi)]) (i:=1) hS30 hL1 rfl rfl
      have hF3:=ELF.put (v:=v8) hF2 hL1 hsm3
      refine wpList_nil ?_
      refine⟨rfl,(hS32.sublist (.cons_cons _ (.cons _ (.cons_cons _ (.cons_cons _ (.cons_cons _ (List.nil_sublist _))))))),j7d (J':=fun z=>St ⟨w,σ,[]⟩ z σ3 (blk b4 217 [(.string x1_.1),(.string x1_.2)]::smap b2 (asl ((x1_.1,v8,((F_2 x1_.1).getD [])++[x1_.2])::es3))::blk b3 267 [(.map (some b2))]::vec v6 9 1 ((cpt r1_).length) ((cpt r1_).flatMap Qi)::vec v4 9 1 ((srt nodes_p).length) ((srt nodes_p).flatMap Qi)::Vo 9 1 Qi ((x1_.1,v8,((F_2 x1_.1).getD [])++[x1_.2])::es3))) (fun w h=>h.sublist (.cons_cons _ (.cons _ (.cons_cons _ (.cons_cons _ (.cons_cons _ (List.nil_sublist _))))))) _ _ _ _ ?_⟩
      refine dz (by kernel_rfl) (v4q (Qn (j3o (v4p (r:=((k_3+1:Nat):Int)) rfl rfl (nw (by omega) (by omega) (by have:=hlen3;omega)) (Zd (v:=(.int .i64 ((k_3+1:Nat):Int))) rfl (wpList_nil (Qn ?_)))))))
      exact⟨k_3+1,(put F_2 x1_.1 (((F_2 x1_.1).getD [])++[x1_.2])),_,rfl,hP,((x1_.1,v8,((F_2 x1_.1).getD [])++[x1_.2])::es3),σ3,_,(Z1 rfl (Z1 rfl (Z1 rfl (Z1 rfl (Z1 rfl rfl))))),(hS32.sublist (ms':=(smap b2 (asl ((x1_.1,v8,((F_2 x1_.1).getD [])++[x1_.2])::es3))::blk b3 267 [(.map (some b2))]::vec v6 9 1 ((cpt r1_).length) ((cpt r1_).flatMap Qi)::vec v4 9 1 ((srt nodes_p).length) ((srt nodes_p).flatMap Qi)::Vo 9 1 Qi ((x1_.1,v8,((F_2 x1_.1).getD [])++[x1_.2])::es3))) (.cons _ (List.Sublist.refl _))),hsub3,hF3⟩
   ·
    replace hP:=hP.2 (by first|(rw[hb1];exact Bool.false_ne_true)|simp[hb1])
    refine Zd (v:=(.bool true)) (congrArg Value.bool (congrArg Bool.not hb1)) (v66 rfl rfl (v66 rfl rfl (v66 rfl rfl (v66 rfl rfl (v66 rfl rfl (y1o (v:=(.bool true)) rfl rfl (wpList_nil (Qn (if_t rfl (Qt (Qu (v:=(.slice none 0 0)) rfl (Qu (v:=(.int .i64 (11:Int))) rfl (wpList_nil (Qn (wp_ret (Bv (j6f (Bv (Bv (j6f (Bv (ret2 rfl (show ev _ _ _=(.slice none 0 0) from rfl) (show ev _ _ _=(.int .i64 (11:Int)) from rfl) ?_))))))))))))))))))))))
    have hS33:=hS21.addNil 9 1
    exact⟨[],(11:Int),(.slice none 0 0),rfl,(St.back (hS33.keep 1 (ms':=[vec (.slice none 0 0) 9 1 0 []]) rfl) (Sub.refl _)),(by simp[Sml]),hP⟩
  ·
   replace hP:=hP.2 ht2
   refine wp_exit (z8y (z8y (j75 (Qn (Qt (Qu (v:=(.slice none 0 0)) rfl (wpList_nil (Qn (Qt (y5s (fun y:Bool=>(Value.bool (y))) hS17 ?_))))))))))
   intro b6 w17 hS34
   refine w9w (cs:=[(.map none)]) hS34 Tryz.zeroValue268 rfl ?_
   intro b7 w18 hS35
   refine w9v (T:=268) (vs:=[(.map (some b6))]) (cs':=[(.map (some b6))]) (ms':=(blk b7 268 [(.map (some b6))]::emap b6 (fun y:Bool=>(Value.bool (y))) (fun _=>none)::smap b2 (asl es2)::blk b3 267 [(.map (some b2))]::vec v6 9 1 ((cpt r1_).length) ((cpt r1_).flatMap Qi)::vec v4 9 1 ((srt nodes_p).length) ((srt nodes_p).flatMap Qi)::Vo 9 1 Qi es2)) (i:=0) hS35 rfl rfl rfl Tryz.sizeOf268 rfl (ones rfl) rfl (Nat.le_of_ble_eq_true rfl) rfl rfl ?_
   intro w19 hS36
   refine wpList_nil (Qn (wp_seq (wp_block ?_)))
   obtain⟨σ6,hS37,hsub6,hr9⟩:=St.freezeL (ms:=[blk b7 268 [(.map (some b6))],emap b6 (fun y:Bool=>(Value.bool (y))) (fun _=>none),smap b2 (asl es2),blk b3 267 [(.map (some b2))],vec v6 9 1 ((cpt r1_).length) ((cpt r1_).flatMap Qi),vec v4 9 1 ((srt nodes_p).length) ((srt nodes_p).flatMap Qi)]) (ms':=[blk b7 268 [(.map (some b6))],emap b6 (fun y:Bool=>(Value.bool (y))) (fun _=>none),blk b3 267 [(.map (some b2))],vec v6 9 1 ((cpt r1_).length) ((cpt r1_).flatMap Qi),vec v4 9 1 ((srt nodes_p).length) ((srt nodes_p).flatMap Qi)]) (i:=2) hS36 hF2 q5g rfl rfl
   have hS38:=hS37.addNil 9 1
   have hS39:=hS38.front 4 rfl (ms':=[vec v6 9 1 ((cpt r1_).length) ((cpt r1_).flatMap Qi),vec (.slice none 0 0) 9 1 0 [],blk b7 268 [(.map (some b6))],emap b6 (fun y:Bool=>(Value.bool (y))) (fun _=>none),blk b3 267 [(.map (some b2))],vec v4 9 1 ((srt nodes_p).length) ((srt nodes_p).flatMap Qi)]) rfl
   have hS40:=hS39.front 4 rfl (ms':=[blk b3 267 [(.map (some b2))],vec v6 9 1 ((cpt r1_).length) ((cpt r1_).flatMap Qi),vec (.slice none 0 0) 9 1 0 [],blk b7 268 [(.map (some b6))],emap b6 (fun y:Bool=>(Value.bool (y))) (fun _=>none),vec v4 9 1 ((srt nodes_p).length) ((srt nodes_p).flatMap Qi)]) rfl
   have hS41:=hS40.front 3 rfl (ms':=[blk b7 268 [(.map (some b6))],blk b3 267 [(.map (some b2))],vec v6 9 1 ((cpt r1_).length) ((cpt r1_).flatMap Qi),vec (.slice none 0 0) 9 1 0 [],emap b6 (fun y:Bool=>(Value.bool (y))) (fun _=>none),vec v4 9 1 ((srt nodes_p).length) ((srt nodes_p).flatMap Qi)]) rfl
   have hS42:=hS41.front 4 rfl (ms':=[emap b6 (fun y:Bool=>(Value.bool (y))) (fun _=>none),blk b7 268 [(.map (some b6))],blk b3 267 [(.map (some b2))],vec v6 9 1 ((cpt r1_).length) ((cpt r1_).flatMap Qi),vec (.slice none 0 0) 9 1 0 [],vec v4 9 1 ((srt nodes_p).length) ((srt nodes_p).flatMap Qi)]) rfl
   have hS43:=hS42.front 4 rfl (ms':=[vec (.slice none 0 0) 9 1 0 [],emap b6 (fun y:Bool=>(Value.bool (y))) (fun _=>none),blk b7 268 [(.map (some b6))],blk b3 267 [(.map (some b2))],vec v6 9 1 ((cpt r1_).length) ((cpt r1_).flatMap Qi),vec v4 9 1 ((srt nodes_p).length) ((srt nodes_p).flatMap Qi)]) rfl
   have hS44:=hS43.front 5 rfl (ms':=[vec v4 9 1 ((srt nodes_p).length) ((srt nodes_p).flatMap Qi),vec (.slice none 0 0) 9 1 0 [],emap b6 (fun y:Bool=>(Value.bool (y))) (fun _=>none),blk b7 268 [(.map (some b6))],blk b3 267 [(.map (some b2))],vec v6 9 1 ((cpt r1_).length) ((cpt r1_).flatMap Qi)]) rfl
   refine y18 (fun left_3 out_3 F_4 f z=> ∃(v13:Value) (v14:Value) (σ7:Hv) (g:Fr),f=(upd (upd (upd (upd g 6 v13) 7 (.pointer (some ⟨b3,0,none⟩))) 10 v14) 11 (.pointer (some ⟨b7,0,none⟩)))/\St ⟨w,σ,[]⟩ z σ7 [vec v13 9 1 left_3.length ((left_3).flatMap Qi),vec v14 9 1 out_3.length ((out_3).flatMap Qi),emap b6 (fun y:Bool=>(Value.bool (y))) F_4,blk b7 268 [(.map (some b6))],blk b3 267 [(.map (some b2))],vec v6 9 1 ((cpt r1_).length) ((cpt r1_).flatMap Qi)]/\Sub σ6 σ7/\v13.oneCell'=true/\Sml left_3.length/\v14.oneCell'=true/\Sml out_3.length) hP ⟨v4,(.slice none 0 0),σ6,_,(Z1 rfl (Z1 rfl (Z1 rfl (Z1 rfl rfl)))),hS44,(Sub.refl _),(q1w ho1.1),(show Sml (srt nodes_p).length by rw[J3];exact hsm1),rfl,(by simp[Sml])⟩ ?_
   clear hP
   rintro left_3 out_3 F_4 Y5 hP f w20 ⟨v13,v14,σ7,g,rfl,hS45,hsub7,ho10,hl8,ho11,hl9⟩
   refine wp_seq (Qt (Zd (v:=v13) rfl (j09 hS45 rfl (i:=0) rfl Tryz.underlying44 ?_)))
   have hlen4:left_3.length<=9223372036854775807:=by have:=hl8;unfold Sml at this;omega
   replace hP:=hP hlen4
   refine u00 (r:=(decide ((0:Int)<((left_3.length:Nat):Int)))) rfl rfl rfl (wpList_nil (Qn ?_))
   refine if_d ((0:Int)<((left_3.length:Nat):Int)) rfl (fun ht4=> ?_) (fun ht4=> ?_)
   ·
    replace hP:=hP.1 ht4
    refine wp_skip (Qn (wp_block (Qt (Zd (v:=v13) rfl (j3p (la:=[]) (lb:=[(.pointer (some ⟨b3,0,none⟩)),(.pointer (some ⟨b7,0,none⟩))]) rfl rfl ?_)))))
    obtain⟨Y6,hK4,hP⟩:=hP
    refine q9w (args:=[v13,(.func (.func 189) #[] #[(.pointer (some ⟨b3,0,none⟩)),(.pointer (some ⟨b7,0,none⟩))])]) rfl Tryz.call188 (Calls.mono (R:=fun e z=> ∃(r_1:Int) (σ8:Hv),e= .returned (.int .i64 r_1)/\Y6 r_1/\St ⟨w,σ,[]⟩ z σ8 [vec v13 9 1 left_3.length ((left_3).flatMap Qi),vec v14 9 1 out_3.length ((out_3).flatMap Qi),emap b6 (fun y:Bool=>(Value.bool (y))) F_4,blk b7 268 [(.map (some b6))],blk b3 267 [(.map (some b2))],vec v6 9 1 ((cpt r1_).length) ((cpt r1_).flatMap Qi)]/\Sub σ7 σ8) ?_ ?_)
    ·
     refine enter Tryz.func188 rfl rfl rfl ?_
     refine Qt (Qu (v:=(.int .i64 (0:Int))) rfl (wpList_nil (Qn (wp_seq (Qt (Zd (v:=v13) rfl (j09 hS45 rfl (i:=0) rfl Tryz.underlying44 (Zd (v:=(.int .i64 (0:Int))) rfl (wpList_nil (Qn (wp_block ?_)))))))))))
     refine w38 (fun k_5 f z=> ∃(σ9:Hv) (g:Fr),f=(upd (upd (upd (upd g 0 v13) 1 (.func (.func 189) #[] #[(.pointer (some ⟨b3,0,none⟩)),(.pointer (some ⟨b7,0,none⟩))])) 7 (.int .i64 ((left_3.length:Nat):Int))) 8 (.int .i64 ((k_5:Nat):Int)))/\St ⟨w,σ,[]⟩ z σ9 [vec v13 9 1 left_3.length ((left_3).flatMap Qi),vec v14 9 1 out_3.length ((out_3).flatMap Qi),emap b6 (fun y:Bool=>(Value.bool (y))) F_4,blk b7 268 [(.map (some b6))],blk b3 267 [(.map (some b2))],vec v6 9 1 ((cpt r1_).length) ((cpt r1_).flatMap Qi)]/\Sub σ7 σ9) hP ⟨σ7,_,(Z1 rfl (Z1 rfl (Z1 rfl (Z1 rfl rfl)))),hS45,(Sub.refl _)⟩ ?_
     clear hP
     rintro k_5 Y7 hP f w21 ⟨σ9,g,rfl,hS46,hsub9⟩
     refine Qt (v67 (r:=(decide (((k_5:Nat):Int)<((left_3.length:Nat):Int)))) rfl rfl rfl (wpList_nil (Qn (wp_seq ?_))))
     refine if_d (((k_5:Nat):Int)<((left_3.length:Nat):Int)) rfl (fun ht5=> ?_) (fun ht5=> ?_)
     ·
      replace hP:=hP.1 ht5
      refine wp_skip (Qn (wp_seq (wp_block (Qt (Zd (v:=(.int .i64 ((k_5:Nat):Int))) rfl (Qu (v:=(.int .i64 ((k_5:Nat):Int))) rfl (wpList_nil (Qn (Qt (Zd (v:=(.func (.func 189) #[] #[(.pointer (some ⟨b3,0,none⟩)),(.pointer (some ⟨b7,0,none⟩))])) rfl (Zd (v:=v13) rfl (Zd (v:=(.int .i64 ((k_5:Nat):Int))) rfl ?_))))))))))))
      obtain⟨x2_,hx2⟩:=getq (l:=left_3) (k:=k_5) (by have:=ht5;omega)
      replace hP:=hP x2_ hx2
      obtain⟨g1,cp1,hv2⟩:=w39 (hS46.get (i:=0) rfl) (Qk hx2)
      refine R6 (k:=k_5) (a':=⟨g1,k_5*1,none⟩) hv2 rfl rfl (Qk hx2) Tryz.underlying44 Tryz.sizeOf9 (by simp[Um]) (q7w (v:=(.string x2_)) rfl Tryz.isAgg9 (j8a q5g (j:=0) hv2 (hS46.get (i:=0) rfl) hx2 rfl) (v7a (args:=[(.string x2_),(.pointer (some ⟨b3,0,none⟩)),(.pointer (some ⟨b7,0,none⟩))]) rfl rfl Tryz.call189 ?_))
      refine enter Tryz.func189 rfl rfl rfl ?_
      refine Qt (Qu (v:=(.bool false)) rfl (wpList_nil (Qn (Qt (q7w (v:=(.map (some b2))) rfl Tryz.isAgg267 (hS46.cell (i:=4) rfl rfl) (Zd (v:=(.string x2_)) rfl ?_))))))
      obtain⟨v15,hl10,hz1⟩:=RMp.at (z:= .slice none 0 0) (z0:=[]) RSl.nil hr9 x2_
      obtain⟨a3,cap3,rfl⟩:=hz1.shape
      refine y5v (v:=(.slice a3 ((F_2 x2_).getD []).length cap3)) hl10 (View.of (Sub.trans hsub7 hsub9) hS46.view) rfl rfl Tryz.underlying267 Tryz.underlying9 Tryz.zeroValue44 (j3p (la:=[]) (lb:=[(.pointer (some ⟨b7,0,none⟩))]) rfl rfl (q9w (args:=[(.slice a3 ((F_2 x2_).getD []).length cap3),(.func (.func 191) #[] #[(.pointer (some ⟨b7,0,none⟩))])]) rfl Tryz.call190 ?_))
      refine enter Tryz.func190 rfl rfl rfl ?_
      refine Qt (Qu (v:=(.bool false)) rfl (wpList_nil (Qn (Qt (Zd (v:=(.slice a3 ((F_2 x2_).getD []).length cap3)) rfl (Zd (v:=(.func (.func 191) #[] #[(.pointer (some ⟨b7,0,none⟩))])) rfl ?_))))))
      obtain⟨Y8,hK5,hP⟩:=hP
      refine q9w (args:=[(.slice a3 ((F_2 x2_).getD []).length cap3),(.func (.func 191) #[] #[(.pointer (some ⟨b7,0,none⟩))])]) rfl Tryz.call188 (Calls.mono (R:=fun e z=> ∃(r_2:Int) (σ10:Hv),e= .returned (.int .i64 r_2)/\Y8 r_2/\St ⟨w,σ,[]⟩ z σ10 [vec v13 9 1 left_3.length ((left_3).flatMap Qi),vec v14 9 1 out_3.length ((out_3).flatMap Qi),emap b6 (fun y:Bool=>(Value.bool (y))) F_4,blk b7 268 [(.map (some b6))],blk b3 267 [(.map (some b2))],vec v6 9 1 ((cpt r1_).length) ((cpt r1_).flatMap Qi)]/\Sub σ9 σ10) ?_ ?_)
      ·
       refine enter Tryz.func188 rfl rfl rfl ?_
       refine Qt (Qu (v:=(.int .i64 (0:Int))) rfl (wpList_nil (Qn (wp_seq (Qt (Zd (v:=(.slice a3 ((F_2 x2_).getD []).length cap3)) rfl (z2o rfl Tryz.underlying44 ?_)))))))
       have hlen6:=RSl.len63 hz1
       replace hP:=hP hlen6
       refine Zd (v:=(.int .i64 (0:Int))) rfl (wpList_nil (Qn (wp_block ?_)))
       refine w38 (fun k_7 f z=> ∃(σ11:Hv) (g:Fr),f=(upd (upd (upd (upd g 0 (.slice a3 ((F_2 x2_).getD []).length cap3)) 1 (.func (.func 191) #[] #[(.pointer (some ⟨b7,0,none⟩))])) 7 (.int .i64 ((((F_2 x2_).getD []).length:Nat):Int))) 8 (.int .i64 ((k_7:Nat):Int)))/\St ⟨w,σ,[]⟩ z σ11 [vec v13 9 1 left_3.length ((left_3).flatMap Qi),vec v14 9 1 out_3.length ((out_3).flatMap Qi),emap b6 (fun y:Bool=>(Value.bool (y))) F_4,blk b7 268 [(.map (some b6))],blk b3 267 [(.map (some b2))],vec v6 9 1 ((cpt r1_).length) ((cpt r1_).flatMap Qi)]/\Sub σ9 σ11) hP ⟨σ9,_,(Z1 rfl (Z1 rfl (Z1 rfl (Z1 rfl rfl)))),hS46,(Sub.refl _)⟩ ?_
       clear hP
       rintro k_7 Y9 hP f w22 ⟨σ11,g,rfl,hS47,hsub11⟩
       refine Qt (v67 (r:=(decide (((k_7:Nat):Int)<((((F_2 x2_).getD []).length:Nat):Int)))) rfl rfl rfl (wpList_nil (Qn (wp_seq ?_))))
       refine if_d (((k_7:Nat):Int)<((((F_2 x2_).getD []).length:Nat):Int)) rfl (fun ht6=> ?_) (fun ht6=> ?_)
       ·
        replace hP:=hP.1 ht6
        refine wp_skip (Qn (wp_seq (wp_block (Qt (Zd (v:=(.int .i64 ((k_7:Nat):Int))) rfl (Qu (v:=(.int .i64 ((k_7:Nat):Int))) rfl (wpList_nil (Qn (Qt (Zd (v:=(.func (.func 191) #[] #[(.pointer (some ⟨b7,0,none⟩))])) rfl (Zd (v:=(.slice a3 ((F_2 x2_).getD []).length cap3)) rfl (Zd (v:=(.int .i64 ((k_7:Nat):Int))) rfl ?_))))))))))))
        obtain⟨x3_,hx3⟩:=getq (l:=((F_2 x2_).getD [])) (k:=k_7) (by have:=ht6;omega)
        replace hP:=hP x3_ hx3
        obtain⟨ad2,cs2,ha2,hl11,hr10,hR2,hlt2⟩:=RSl.at hz1 hx3
        cases hR2
        refine R6 (k:=k_7) (a':=(ad2.add (k_7*1))) (congrArg (fun z=>Value.slice z _ _) ha2) rfl rfl hlt2 Tryz.underlying44 Tryz.sizeOf9 rfl (q7w (v:=(.string x3_)) rfl Tryz.isAgg9 (hr10.cell (View.of (Sub.trans (Sub.trans hsub7 hsub9) hsub11) hS47.view) 0 rfl rfl) (v7a (args:=[(.string x3_),(.pointer (some ⟨b7,0,none⟩))]) rfl rfl Tryz.call191 ?_))
        refine enter Tryz.func191 rfl rfl rfl ?_
        refine Qt (Qu (v:=(.bool false)) rfl (wpList_nil (Qn (Qt (q7w (v:=(.map (some b6))) rfl Tryz.isAgg268 (hS47.cell (i:=3) rfl rfl) (Zd (v:=(.string x3_)) rfl (y5t (v:=(.bool (((F_4 x3_).getD false)))) (i:=2) hS47 rfl rfl rfl Tryz.underlying268 Tryz.underlying9 Tryz.zeroValue4 (y2a (fun y:Bool=>(Value.bool (y))) _ rfl) (y1r (r:=(!((F_4 x3_).getD false))) rfl rfl (Qu (v:=(.bool (!((F_4 x3_).getD false)))) rfl (wpList_nil (Qn (wp_ret (ret1 rfl (show ev _ _ _=(.bool (!((F_4 x3_).getD false))) from rfl) ?_)))))))))))))
        refine⟨_,rfl,?_⟩
        refine wpList_nil (Qn ?_)
        refine y8v rfl (fun ht7=> ?_) (fun ht7=> ?_)
        ·
         replace hP:=hP.2 (by first|(rw[ht7];exact Bool.false_ne_true)|simp[ht7])
         refine Qt (Zd (v:=(.int .i64 ((k_7:Nat):Int))) rfl (Qu (v:=(.int .i64 ((k_7:Nat):Int))) rfl (wpList_nil (Qn (wp_ret (j6f (Bv (Bv (j6f (Bv (ret1 rfl (show ev _ _ _=(.int .i64 ((k_7:Nat):Int)) from rfl) ?_)))))))))))
         exact⟨((k_7:Nat):Int),σ11,rfl,hP,hS47,hsub11⟩
        ·
         replace hP:=hP.1 ht7
         refine wp_skip (v4q (Qn (j3o (v4p (r:=((k_7+1:Nat):Int)) rfl rfl (nw (by omega) (by omega) (by have:=hlen6;omega)) (Zd (v:=(.int .i64 ((k_7+1:Nat):Int))) rfl (wpList_nil (Qn ?_)))))))
         exact⟨k_7+1,_,rfl,hP,σ11,_,(Z1 rfl (Z1 rfl (Z1 rfl (Z1 rfl rfl)))),hS47,hsub11⟩
       ·
        replace hP:=hP.2 ht6
        refine wp_exit (z8y (z8y (j75 (Qn (Qt (Qu (v:=(.int .i64 (-1:Int))) rfl (wpList_nil (Qn (wp_ret (ret1 rfl (show ev _ _ _=(.int .i64 (-1:Int)) from rfl) ?_))))))))))
        exact⟨(-1:Int),σ11,rfl,hP,hS47,hsub11⟩
      ·
       rintro _ w23 ⟨r_2,σ10,rfl,hY4,hS48,hsub10⟩
       refine⟨_,rfl,?_⟩
       replace hP:=hK5 r_2 hY4
       refine y8s (r:=(decide ((0:Int)<=r_2))) rfl rfl rfl (Qu (v:=(.bool (decide ((0:Int)<=r_2)))) rfl (wpList_nil (Qn (wp_ret (ret1 rfl (show ev _ _ _=(.bool (decide ((0:Int)<=r_2))) from rfl) ?_)))))
       refine⟨_,rfl,?_⟩
       refine y1r (r:=(!decide ((0:Int)<=r_2))) rfl rfl (Qu (v:=(.bool (!decide ((0:Int)<=r_2)))) rfl (wpList_nil (Qn (wp_ret (ret1 rfl (show ev _ _ _=(.bool (!decide ((0:Int)<=r_2))) from rfl) ?_)))))
       refine⟨_,rfl,?_⟩
       refine wpList_nil (Qn ?_)
       refine y8u ((0:Int)<=r_2) rfl (fun ht8=> ?_) (fun ht8=> ?_)
       ·
        replace hP:=hP.2 ht8
        refine Qt (Zd (v:=(.int .i64 ((k_5:Nat):Int))) rfl (Qu (v:=(.int .i64 ((k_5:Nat):Int))) rfl (wpList_nil (Qn (wp_ret (j6f (Bv (Bv (j6f (Bv (ret1 rfl (show ev _ _ _=(.int .i64 ((k_5:Nat):Int)) from rfl) ?_)))))))))))
        exact⟨((k_5:Nat):Int),σ10,rfl,hP,hS48,(Sub.trans hsub9 hsub10)⟩
       ·
        replace hP:=hP.1 ht8
        refine wp_skip (v4q (Qn (j3o (v4p (r:=((k_5+1:Nat):Int)) rfl rfl (nw (by omega) (by omega) (by have:=hlen4;omega)) (Zd (v:=(.int .i64 ((k_5+1:Nat):Int))) rfl (wpList_nil (Qn ?_)))))))
        exact⟨k_5+1,_,rfl,hP,σ10,_,(Z1 rfl (Z1 rfl (Z1 rfl (Z1 rfl rfl)))),hS48,(Sub.trans hsub9 hsub10)⟩
     ·
      replace hP:=hP.2 ht5
      refine wp_exit (z8y (z8y (j75 (Qn (Qt (Qu (v:=(.int .i64 (-1:Int))) rfl (wpList_nil (Qn (wp_ret (ret1 rfl (show ev _ _ _=(.int .i64 (-1:Int)) from rfl) ?_))))))))))
      exact⟨(-1:Int),σ9,rfl,hP,hS46,hsub9⟩
    ·
     rintro _ w24 ⟨r_1,σ8,rfl,hY5,hS49,hsub8⟩
     refine⟨_,rfl,?_⟩
     replace hP:=hK4 r_1 hY5
     refine Qu (v:=(.int .i64 r_1)) rfl (wpList_nil (Qn (wp_seq (Qt (Zd (v:=(.int .i64 r_1)) rfl (v67 (r:=(decide (r_1<(0:Int)))) rfl rfl rfl (wpList_nil (Qn ?_))))))))
     refine if_d (r_1<(0:Int)) rfl (fun ht9=> ?_) (fun ht9=> ?_)
     ·
      replace hP:=hP.1 ht9
      refine Qt (Qu (v:=(.slice none 0 0)) rfl (Qu (v:=(.int .i64 (12:Int))) rfl (wpList_nil (Qn (wp_ret (Bv (j6f (Bv (j6f (Bv (ret2 rfl (show ev _ _ _=(.slice none 0 0) from rfl) (show ev _ _ _=(.int .i64 (12:Int)) from rfl) ?_)))))))))))
      have hS50:=hS49.addNil 9 1
      exact⟨[],(12:Int),(.slice none 0 0),rfl,(St.back (hS50.keep 1 (ms':=[vec (.slice none 0 0) 9 1 0 []]) rfl) (Sub.refl _)),(by simp[Sml]),hP⟩
     ·
      replace hP:=hP.2 ht9
      refine wp_skip (Qn (Qt (Zd (v:=v14) rfl (Zd (v:=v13) rfl (Zd (v:=(.int .i64 r_1)) rfl ?_)))))
      obtain⟨j1_,hj1,hP⟩:=hP
      obtain⟨x4_,hx4,hP⟩:=hP
      obtain⟨g2,cp2,hv3⟩:=w39 (hS49.get (i:=0) rfl) (Qk hx4)
      refine R6 (k:=j1_) (a':=⟨g2,j1_*1,none⟩) hv3 rfl hj1 (Qk hx4) Tryz.underlying44 Tryz.sizeOf9 (by simp[Um]) (q7w (v:=(.string x4_)) rfl Tryz.isAgg9 (j8a q5g (j:=0) hv3 (hS49.get (i:=0) rfl) hx4 rfl) (j7c (cs:=[(.string x4_)]) (e:=9) hS49 (fun _=>by kernel_rfl) ?_))
      intro b8 w25 hS51
      obtain⟨hsm4,hP⟩:=hP
      refine y5u (Ms:=fun v16=>[blk b8 9 [(.string x4_)],vec v13 9 1 left_3.length ((left_3).flatMap Qi),vec v16 9 1 ((out_3++[x4_]).length) ((out_3++[x4_]).flatMap Qi),emap b6 (fun y:Bool=>(Value.bool (y))) F_4,blk b7 268 [(.map (some b6))],blk b3 267 [(.map (some b2))],vec v6 9 1 ((cpt r1_).length) ((cpt r1_).flatMap Qi)]) (k':=(out_3++[x4_]).length) (xs':=(out_3++[x4_]).flatMap Qi) Tryz.underlying44 Tryz.type9 rfl rfl (bytes:=16) rfl rfl (Nat.succ_pos _) hS51 rfl (q:=2) rfl rfl rfl (z0s (hS51.get (i:=0) rfl)) (ones rfl) hsm4 (by omega) (by first|rfl|exact List.length_append.symm|simp) (by simp[Qi]) (fun _=>rfl) ?_
      intro v16 w26 ho12 hS52
      have hS53:=hS52.drop 0 (ms':=[vec v13 9 1 left_3.length ((left_3).flatMap Qi),vec v16 9 1 ((out_3++[x4_]).length) ((out_3++[x4_]).flatMap Qi),emap b6 (fun y:Bool=>(Value.bool (y))) F_4,blk b7 268 [(.map (some b6))],blk b3 267 [(.map (some b2))],vec v6 9 1 ((cpt r1_).length) ((cpt r1_).flatMap Qi)]) rfl
      refine Qu (v:=v16) rfl (wpList_nil (Qn (wp_seq (dr (fun z=>St ⟨w,σ,[]⟩ z σ8 [vec v13 9 1 left_3.length ((left_3).flatMap Qi),vec v16 9 1 ((out_3++[x4_]).length) ((out_3++[x4_]).flatMap Qi),blk b7 268 [(.map (some b6))],blk b3 267 [(.map (some b2))],vec v6 9 1 ((cpt r1_).length) ((cpt r1_).flatMap Qi)]) (by kernel_rfl) rfl ?_))))
      have hS54:=hS53.drew
      refine dt 0 1 (v:=(.map (some b6))) (by kernel_rfl) rfl rfl (fun _ _ _ h=>h) (hS54.sublist (.cons_cons _ (.cons_cons _ (.cons _ (List.Sublist.refl _))))) (fun _ hJ _ hK=>q7w (v:=(.map (some b6))) rfl Tryz.isAgg268 (hJ.cell (i:=2) rfl rfl) ⟨rfl,hK⟩) (dt 1 3 (v:=v13) (by kernel_rfl) rfl rfl (fun _ _ _ h=>h) (hS54.sublist (.cons_cons _ (.cons_cons _ (.cons _ (List.Sublist.refl _))))) (fun _ _ _ hK=>Zd (v:=v13) rfl ⟨rfl,hK⟩) (dt 2 7 (v:=(.int .i64 r_1)) (by kernel_rfl) rfl rfl (fun _ _ _ h=>h) (hS54.sublist (.cons_cons _ (.cons_cons _ (.cons _ (List.Sublist.refl _))))) (fun _ _ _ hK=>Zd (v:=(.int .i64 r_1)) rfl ⟨rfl,hK⟩) ?_))
      obtain⟨j2_,hj2,hP⟩:=hP
      obtain⟨x5_,hx5,hP⟩:=hP
      obtain⟨g3,cp3,hv4⟩:=w39 (hS54.get (i:=0) rfl) (Qk hx5)
      refine dt 3 15 (v:=(.pointer (some ⟨g3,j2_*1,none⟩))) (by kernel_rfl) rfl rfl (fun _ _ _ h=>h) (hS54.sublist (.cons_cons _ (.cons_cons _ (.cons _ (List.Sublist.refl _))))) (fun _ _ _ hK=>R6 (k:=j2_) (a':=⟨g3,j2_*1,none⟩) hv4 rfl hj2 (Qk hx5) Tryz.underlying44 Tryz.sizeOf9 (by simp[Um]) ⟨rfl,hK⟩) (dt 4 31 (v:=(.string x5_)) (by kernel_rfl) rfl rfl (fun _ _ _ h=>h) (hS54.sublist (.cons_cons _ (.cons_cons _ (.cons _ (List.Sublist.refl _))))) (fun _ hJ _ hK=>q7w (v:=(.string x5_)) rfl Tryz.isAgg9 (j8a q5g (j:=0) hv4 (hJ.get (i:=0) rfl) hx5 rfl) ⟨rfl,hK⟩) (d1 5 63 (by kernel_rfl) rfl (y81 (y0:=true) (i:=2) (ms':=[vec v13 9 1 left_3.length ((left_3).flatMap Qi),vec v16 9 1 ((out_3++[x4_]).length) ((out_3++[x4_]).flatMap Qi),emap b6 (fun y:Bool=>(Value.bool (y))) (put F_4 x5_ true),blk b7 268 [(.map (some b6))],blk b3 267 [(.map (some b2))],vec v6 9 1 ((cpt r1_).length) ((cpt r1_).flatMap Qi)]) hS54 rfl rfl rfl rfl Tryz.underlying268 Tryz.underlying9 rfl ?_)))
      intro w27 hS55
      refine wpList_nil ?_
      refine⟨rfl,(hS55.sublist (.cons_cons _ (.cons_cons _ (.cons _ (List.Sublist.refl _))))),j7d (J':=fun z=>St ⟨w,σ,[]⟩ z σ8 [vec v13 9 1 left_3.length ((left_3).flatMap Qi),vec v16 9 1 ((out_3++[x4_]).length) ((out_3++[x4_]).flatMap Qi),emap b6 (fun y:Bool=>(Value.bool (y))) (put F_4 x5_ true),blk b7 268 [(.map (some b6))],blk b3 267 [(.map (some b2))],vec v6 9 1 ((cpt r1_).length) ((cpt r1_).flatMap Qi)]) (fun w h=>h.sublist (.cons_cons _ (.cons_cons _ (.cons _ (List.Sublist.refl _))))) _ _ _ _ ?_⟩
      refine dz (by kernel_rfl) (Qn (j3o (Zd (v:=v13) rfl (Zd (v:=(.int .i64 r_1)) rfl (Zd (v:=(.int .i64 r_1)) rfl ?_)))))
      obtain⟨hi1,hP⟩:=hP
      refine v4p (r:=(r_1+(1:Int))) rfl rfl (nwi rfl hi1) ?_
      obtain⟨j3_,hj3,hP⟩:=hP
      obtain⟨hd1,hP⟩:=hP
      obtain⟨hd2,hP⟩:=hP
      obtain⟨hsm5,hP⟩:=hP
      have hd3:r_1=((j3_:Nat):Int)/\(r_1+(1:Int))=((j3_+1:Nat):Int):=⟨by omega,by omega⟩
      refine q9w (args:=[v13,(.int .i64 ((j3_:Nat):Int)),(.int .i64 ((j3_+1:Nat):Int))]) (by rw[←hd3.1,←hd3.2];rfl) Tryz.call192 (Calls.mono (v4t (i:=j3_) (j:=(j3_+1)) Tryz.slices_Delete_string hS55.view (hS55.get (i:=0) rfl) (fun b hb=>hS55.off _ (List.mem_of_getElem? (i:=0) rfl) b hb) (by omega) hd2 hd1) ?_)
      rintro _ w28 ⟨v17,rfl,hf2,hg7,ho13⟩
      refine⟨_,rfl,?_⟩
      have ho14:=q1w ho13
      have hS56:=hS55.growV (i:=0) (o':=vec v17 9 1 ((left_3.take j3_++left_3.drop (j3_+1)).length) ((left_3.take j3_++left_3.drop (j3_+1)).flatMap Qi)) rfl hg7 hf2 ho13 (ms':=[vec v17 9 1 ((left_3.take j3_++left_3.drop (j3_+1)).length) ((left_3.take j3_++left_3.drop (j3_+1)).flatMap Qi),vec v16 9 1 ((out_3++[x4_]).length) ((out_3++[x4_]).flatMap Qi),emap b6 (fun y:Bool=>(Value.bool (y))) (put F_4 x5_ true),blk b7 268 [(.map (some b6))],blk b3 267 [(.map (some b2))],vec v6 9 1 ((cpt r1_).length) ((cpt r1_).flatMap Qi)]) rfl
      refine Qu (v:=v17) rfl (wpList_nil (v4q (Qn ?_)))
      exact⟨left_3.take j3_++left_3.drop (j3_+1),out_3++[x4_],put F_4 x5_ true,_,rfl,hP,v17,v16,σ8,_,(Z1 rfl (Z1 rfl (Z1 rfl (Z1 rfl rfl)))),hS56,(Sub.trans hsub7 hsub8),ho14,hsm5,ho12,hsm4⟩
   ·
    replace hP:=hP.2 ht4
    refine wp_exit (z8y (z8y (j75 (Qn (Qt (Zd (v:=v14) rfl (Qu (v:=v14) rfl (Qu (v:=(.int .i64 (0:Int))) rfl (wpList_nil (Qn (wp_ret (ret2 rfl (show ev _ _ _=v14 from rfl) (show ev _ _ _=(.int .i64 (0:Int)) from rfl) ?_))))))))))))
    have hS57:=hS45.front 1 rfl (ms':=[vec v14 9 1 out_3.length ((out_3).flatMap Qi),vec v13 9 1 left_3.length ((left_3).flatMap Qi),emap b6 (fun y:Bool=>(Value.bool (y))) F_4,blk b7 268 [(.map (some b6))],blk b3 267 [(.map (some b2))],vec v6 9 1 ((cpt r1_).length) ((cpt r1_).flatMap Qi)]) rfl
    exact⟨out_3,(0:Int),v14,rfl,(St.back (hS57.keep 1 (ms':=[vec v14 9 1 out_3.length ((out_3).flatMap Qi)]) rfl) (Sub.refl _)),hl9,hP⟩
end Go.Proofs.YtfiomedjdipbgaaGreatDoor
end
noncomputable section
set_option maxRecDepth 100000
open Go Go.RowKit Go.Fl Go.Fl.Lk Go.Fx
namespace Go.En
theorem w4x{σ:Hv}{w:World}{g:Nat}{T:C}{n:Nat}{l:List (car T)}(hV:View σ w)(hs:SRep D (fun _=>none) σ (.pointer (some ⟨g,0,none⟩)) (.fap T n l)){i j:Nat}{x:car T}{s:FV Sg}(hx:l[i]? =some x)(hj:(D.shape T x)[j]? =some s)(hz:j<D.size T):
  ∃v,w.cell? ⟨g,i*D.size T+j,none⟩=some v/\RepF D σ v s:=by
 generalize hq:Value.pointer (some (⟨g,0,none⟩:Addr))=q at hs
 cases hs with
 |fap ad cs T' N l' hN h hl hr=>
  cases hq
  have hrow:=hr i x hx
  have hlen:=okP.ok.len T x
  have hjl:j<((cs.drop (i*D.size T)).take (D.size T)).length:=by rw[hrow.1,hlen];exact hz
  obtain⟨v,hv⟩: ∃v,((cs.drop (i*D.size T)).take (D.size T))[j]? =some v:=⟨_,List.getElem?_eq_getElem hjl⟩
  refine⟨v,?_,hrow.2 j v s hv hj⟩
  rw[List.getElem?_take,if_pos hz,List.getElem?_drop] at hv
  have:=hV.cell (h _ v hv)
  rw[Um,Nat.zero_add] at this
  exact this
theorem y3h: ∀c,c<256->v3u[c]? =some ((Go.Lib.firstT c:Nat):Int):=by decide
theorem y9u: ∀i,i<16->(j8w[i]?).map (fun a=>(a.lo,a.hi))=some (((Go.Lib.accLo i:Nat):Int),((Go.Lib.accHi i:Nat):Int)):=by decide
theorem tabs{σ:Hv}{w:World}(hV:View σ w)(hG:Glb D σ):Go.Lib.Utf8Tabs (Proofs.Tryz.lays196_ren.g 3) (Proofs.Tryz.lays196_ren.g 4) w:=by
 refine⟨fun c hc=> ?_,fun i hi=> ?_⟩
 ·have h:=hG.known (Proofs.Tryz.lays196_ren.g 3)
  obtain⟨v,h1,h2⟩:=w4x (T:= .u8) (n:=256) (l:=v3u) hV h (i:=c) (j:=0) (s:= .int .u8 ((Go.Lib.firstT c:Nat):Int)) (y3h c hc) rfl (by decide)
  cases h2
  simpa [show D.size C.u8=1 from rfl] using h1
 ·have h:=hG.known (Proofs.Tryz.lays196_ren.g 4)
  have ha:=y9u i hi
  obtain⟨a,e1,e2⟩:=Option.map_eq_some_iff.1 ha
  obtain⟨v,h1,h2⟩:=w4x (T:= .acc) (n:=16) (l:=j8w) hV h (i:=i) (j:=0) (s:= .int .u8 a.lo) e1 rfl (by decide)
  obtain⟨v',h1',h2'⟩:=w4x (T:= .acc) (n:=16) (l:=j8w) hV h (i:=i) (j:=1) (s:= .int .u8 a.hi) e1 rfl (by decide)
  cases h2;cases h2'
  simp only[Prod.mk.injEq] at e2
  rw[e2.1] at h1;rw[e2.2] at h1'
  refine⟨by rw[Nat.mul_comm];simpa [show D.size C.acc=2 from rfl] using h1,by rw[Nat.mul_comm];simpa [show D.size C.acc=2 from rfl] using h1'⟩
theorem v0q{w w':World}(h:Below w.heap.size w w'):Keeps [] w w':=⟨h.os,h.tape,h.output,h.size,fun k hk _=>h.block k hk⟩
theorem z2d{σ:Hv}{w w1:World}{args:List (Tr Sg)}{vals:List Value}{K:List (Tr Sg)->List (Tr Sg)->Prop}{rets outs:List (Tr Sg)}{rv:List Value}(hS:St ⟨w,σ,feet []⟩ w σ [])(hK:K rets outs)(hb:Below w.heap.size w w1)(hL:LayL D σ rets rv [])(hT:LayT D σ args outs vals [] []):
  Back D σ w args vals [] K (.returned (retV rv)) w1:=by
 have hk:=v0q hb
 refine⟨rets,outs,rv,σ,[],[],rfl,hK,hL,hT,?_⟩
 refine⟨hk,fun b o hbo=> ?_,Sub.refl _,fun _ _ _=>rfl,by simp,by simp,by simp,by simp⟩
 have h1:=hS.view b o hbo
 have hlt:b<w.heap.size:=by
  rcases Nat.lt_or_ge b w.heap.size with h|h
  ·exact h
  ·rw[Array.getElem?_eq_none h] at h1;cases h1
 rw[hk.block b hlt (by simp)];exact h1
theorem j11:z2t Proofs.Tryz.prog D 246 (conV ([.v]:LP) ([.str]:LV) ([.bool]:LV) ([.same]:LV) (fun a K=>Jv a.1 (fun q0=>K (q0,()) ((),())))):=by
 intro args K hm w σ vals ins hG hL hS
 obtain⟨a,ha,hm⟩:=Qj hm
 have hargs:=Vu ha
 subst hargs
 obtain⟨s,_⟩:=a
 cases hL with
 |cons hp hr=>
 cases hr
 cases hp with
 |f hf=>
 cases hf
 have hm:s.size<=9223372036854775807/\K [.f (.bool (Go.Lib.validD s.data.toList))] [.same]:=hm
 refine Calls.mono (Go.Proofs.Any.utf8_ValidString Proofs.Tryz.lays196 s w hm.1 (tabs hS.view hG)) ?_
 rintro e w' ⟨rfl,hb⟩
 exact z2d (rv:=[.bool (Go.Lib.validD s.data.toList)]) hS hm.2 hb (.cons (ms:=[]) (.f (.bool _)) .nil) (.skip (a0:=[]) .nil)
theorem j12:z2t Proofs.Tryz.prog D 136 (conV ([.v,.v]:LP) ([.str,.str]:LV) ([.bool]:LV) ([.same,.same]:LV) (fun a K=>Hu a.1 a.2.1 (fun q0=>K (q0,()) ((),(),())))):=by
 intro args K hm w σ vals ins hG hL hS
 obtain⟨a,ha,hm⟩:=Qj hm
 have hargs:=Vu ha
 subst hargs
 obtain⟨s,t,_⟩:=a
 cases hL with
 |cons hp hr=>
 cases hr with
 |cons hq hr=>
 cases hr
 cases hp with
 |f hf=>
 cases hf
 cases hq with
 |f hf=>
 cases hf
 have hm:s.size<4294967281/\K [.f (.bool (Go.Lib.contains s.data.toList t.data.toList))] [.same,.same]:=hm
 obtain⟨n,hn⟩:=hG.free 3 .i64 rfl
 refine Calls.mono (Proofs.Tryz.strings_Contains s t n w hm.1 (hS.view.cell hn)) ?_
 rintro e w' ⟨rfl,rfl⟩
 exact z2d (rv:=[.bool (Go.Lib.contains s.data.toList t.data.toList)]) hS hm.2 (Below.refl _ _) (.cons (ms:=[]) (.f (.bool _)) .nil) (.skip (a0:=[]) (.skip (a0:=[]) .nil))
theorem w1l:z2t Proofs.Tryz.prog D 270 (conV ([.v]:LP) ([.str]:LV) ([.int .i64,.ifc]:LV) ([.same]:LV) (fun a K=>q0c a.1 (fun q0 q1=>K (q0,q1,()) ((),())))):=by
 intro args K hm w σ vals ins hG hL hS
 obtain⟨a,ha,hm⟩:=Qj hm
 have hargs:=Vu ha
 subst hargs
 obtain⟨s,_⟩:=a
 cases hL with
 |cons hp hr=>
 cases hr
 cases hp with
 |f hf=>
 cases hf
 have hm:s.size<=281474976710656/\y3g s (fun n b=>K [.f (.int .i64 n),.f (.ifc b)] [.same]):=hm
 obtain⟨hsz,hm⟩:=hm
 have err: ∀g:Nat,D.glob g= .fptr [.ifc false] 0-> ∃ev,w.cell? ⟨g,0,none⟩=some ev/\(ev= .nilIface∨ ∃te pe,ev= .iface te pe):=by
  intro g hg
  have h:=hG.known g
  rw[hg] at h
  generalize hq:Value.pointer (some (⟨g,0,none⟩:Addr))=q at h
  cases h with
  |fptr ad cs l off hv hr=>
  cases hq
  obtain⟨v,hvl⟩: ∃v,cs=[v]:=List.length_eq_one_iff.1 hr.1
  subst hvl
  have hc:=hS.view.cell (hv 0 v rfl)
  have hR:=hr.2 0 v _ rfl rfl
  refine⟨v,?_,?_⟩
  ·rw[Um] at hc;exact hc
  ·cases hR with
   |ifcS t p=>exact .inr ⟨t,p,rfl⟩
 unfold y3g at hm
 split at hm
 ·rename_i v hv
  refine Calls.mono (Proofs.Tryz.strconv_Atoi_ok s (by omega) v hv w) ?_
  rintro e w' ⟨rfl,hw⟩
  have hb:Below w.heap.size w w':=by
   rcases hw with rfl|⟨t,rfl⟩
   ·exact Below.refl _ _
   ·exact Go.Lib.bytesWorld_below _ _ _
  exact z2d (rv:=[.int .i64 v,.nilIface]) hS hm hb (.cons (ms:=[]) (.f (.int _ _)) (.cons (ms:=[]) (.f .ifcN) .nil)) (.skip (a0:=[]) .nil)
 ·rename_i hv
  obtain⟨ev,h1,h2⟩:=err 7 rfl
  refine Calls.mono (Proofs.Tryz.strconv_Atoi_range s hsz hv ev w h1 h2) ?_
  rintro e w' ⟨N,rfl,_,_,hb⟩
  exact z2d (rv:=[.int .i64 _,.iface _ _]) hS hm hb (.cons (ms:=[]) (.f (.int _ _)) (.cons (ms:=[]) (.f (.ifcS _ _)) .nil)) (.skip (a0:=[]) .nil)
 ·rename_i hv
  obtain⟨ev,h1,h2⟩:=err 6 rfl
  refine Calls.mono (Proofs.Tryz.strconv_Atoi_syntax s hsz hv ev w h1 h2) ?_
  rintro e w' ⟨N,rfl,_,_,hb⟩
  exact z2d (rv:=[.int .i64 _,.iface _ _]) hS hm hb (.cons (ms:=[]) (.f (.int _ _)) (.cons (ms:=[]) (.f (.ifcS _ _)) .nil)) (.skip (a0:=[]) .nil)
theorem j7q(l:List ByteArray):l.flatMap Qi=l.map Value.string:=by
 induction l with
 |nil=>rfl
 |cons a l ih=>rw[List.flatMap_cons,List.map_cons,ih];rfl
theorem y9v(l:List ByteArray):(cpt l).length<=l.length:=by
 unfold cpt Go.Lib.compact
 rw[List.length_map]
 have h: ∀(d:Array (List UInt8)) (m:Nat),(Go.Lib.compactUpTo d m).length<=m:=by
  intro d m
  unfold Go.Lib.compactUpTo
  rw[List.length_map]
  exact Nat.le_trans (List.length_filter_le _ _) (by simp)
 simpa using h _ _
theorem v9g{σ:Hv}{xs:List Value}{l:List ByteArray}(h:Els D σ C.str xs l):xs=l.flatMap Qi:=by
 have h1:xs.length=l.length:=by rw[h.1];exact Nat.mul_one _
 rw[j7q]
 refine List.ext_getElem? fun i=> ?_
 rw[List.getElem?_map]
 rcases Nat.lt_or_ge i l.length with hi|hi
 ·obtain⟨v,hv⟩: ∃v,xs[i]? =some v:=⟨_,List.getElem?_eq_getElem (by omega)⟩
  obtain⟨x,hx⟩: ∃x,l[i]? =some x:=⟨_,List.getElem?_eq_getElem hi⟩
  have hR:=(h.2 i x hx).2 0 v (.str x) (by rw[show D.size C.str=1 from rfl,Nat.mul_one,List.getElem?_take,if_pos (by decide),List.getElem?_drop];exact hv) rfl
  rw[hv,hx]
  cases hR
  rfl
 ·rw[List.getElem?_eq_none (by omega),List.getElem?_eq_none hi];rfl
theorem w4y(σ:Hv)(l:List ByteArray):Els D σ C.str (l.flatMap Qi) l:=by
 rw[j7q]
 refine⟨by rw[List.length_map];exact (Nat.mul_one _).symm,fun i x hx=> ?_⟩
 rw[show D.size C.str=1 from rfl,Nat.mul_one]
 have hx:l[i]? =some x:=hx
 have e:((l.map Value.string).drop i).take 1=[.string x]:=by
  rw[←List.map_drop,List.drop_eq_getElem_cons (List.getElem?_eq_some_iff.1 hx).1,(List.getElem?_eq_some_iff.1 hx).2];rfl
 rw[e]
 refine⟨rfl,fun j v s hj hs=> ?_⟩
 cases j with
 |zero=>cases hj;cases hs;exact .str x
 |succ j=>cases hj
theorem q63:z2t Proofs.Tryz.prog D 80 (conV ([.own 9 C.str]:LP) ([.vec 9 C.str]:LV) ([]:LV) ([.vec 9 C.str]:LV) (fun a K=>Zg a.1 (fun q0=>K () (q0,())))):=by
 intro args K hm w σ vals ins hG hL hS
 obtain⟨a,ha,hm⟩:=Qj hm
 have hargs:=Vu ha
 subst hargs
 obtain⟨s,_⟩:=a
 cases hL with
 |cons hp hr=>
 cases hr
 cases hp with
 |vec hE hl h1=>
 have hx:=v9g hE
 subst hx
 have hm:K [] [.vec 9 C.str (srt s)]:=hm
 refine Calls.mono (v2z Proofs.Tryz.slices_Sort_string Proofs.Tryz.slices_Sort_string_none hS.view (hS.get (i:=0) rfl) rfl (fun b hb=>hS.off _ (List.mem_of_getElem? (i:=0) rfl) b hb) (by omega)) ?_
 rintro _ w1 ⟨rfl,hg,ho⟩
 have hS1:=hS.growV (i:=0) (o':=vec _ 9 1 s.length ((srt s).flatMap Qi)) rfl hg rfl ho (ms':=[vec _ 9 1 s.length ((srt s).flatMap Qi)]) rfl
 refine⟨[],_,[],σ,[],[vec _ 9 1 (srt s).length ((srt s).flatMap Qi)],rfl,hm,.nil,.keep (.vec (w4y σ _) (Nat.le_trans (Nat.le_of_eq (J3 _)) hl) h1) .nil,?_⟩
 have e:(srt s).length=s.length:=J3 _
 rw[e];exact hS1
theorem q4h:z2t Proofs.Tryz.prog D 184 (conV ([.own 9 C.str]:LP) ([.vec 9 C.str]:LV) ([.vec 9 C.str]:LV) ([.same]:LV) (fun a K=>Z7 a.1 (fun q0=>K (q0,()) ((),())))):=by
 intro args K hm w σ vals ins hG hL hS
 obtain⟨a,ha,hm⟩:=Qj hm
 have hargs:=Vu ha
 subst hargs
 obtain⟨s,_⟩:=a
 cases hL with
 |cons hp hr=>
 cases hr
 cases hp with
 |vec hE hl h1=>
 have hx:=v9g hE
 subst hx
 have hm:K [.vec 9 C.str (cpt s)] [.same]:=hm
 refine Calls.mono (j79 Proofs.Tryz.slices_Compact_string Proofs.Tryz.slices_Compact_string_empty hS.view (hS.get (i:=0) rfl) rfl (fun b hb=>hS.off _ (List.mem_of_getElem? (i:=0) rfl) b hb) (by omega)) ?_
 rintro _ w1 ⟨v1,rfl,hf,hg,ho⟩
 have hlc:(cpt s).length<=140737488355328:=Nat.le_trans (y9v _) hl
 have hS1:=hS.growV (i:=0) (o':=vec v1 9 1 (cpt s).length ((cpt s).flatMap Qi)) rfl hg hf ho (ms':=[vec v1 9 1 (cpt s).length ((cpt s).flatMap Qi)]) rfl
 exact⟨[.vec 9 C.str (cpt s)],[.same],[v1],σ,[vec v1 9 1 (cpt s).length ((cpt s).flatMap Qi)],[],rfl,hm,.cons (.vec (w4y σ _) hlc (q1w ho)) .nil,.skip .nil,hS1⟩
theorem y68{σ:Hv}{v:Value}{l:List ByteArray}(h:RepF D σ v (.sl C.str l)):RSl 1 (REnc Qi) σ v l:=by
 obtain⟨a,cap,e1,e2,e3,e4⟩:=h.toRSl okP.ok
 refine⟨a,cap,e1,e2,e3,fun i x hx=> ?_⟩
 obtain⟨ad,cs,f1,f2,f3,f4⟩:=e4 i x hx
 refine⟨ad,cs,f1,f2,f3,?_⟩
 obtain⟨u,rfl⟩: ∃u,cs=[u]:=List.length_eq_one_iff.1 f2
 have g1:=f4.2 0 u (.str x) rfl rfl
 cases g1
 rfl
theorem y3i{σ:Hv}{v:Value}{l:List Edg}(h:RepF D σ v (.sl C.edge l)):RSl 2 (REnc y83) σ v (l.map fun e=>(e.1,e.2)):=by
 obtain⟨a,cap,e1,e2,e3,e4⟩:=h.toRSl okP.ok
 have hl:(l.map fun e=>(e.1,e.2)).length=l.length:=List.length_map ..
 refine⟨a,cap,by rw[hl];exact e1,by rw[hl];exact e2,by rw[hl];exact e3,fun i x hx=> ?_⟩
 rw[List.getElem?_map] at hx
 obtain⟨y,hy,rfl⟩:=Option.map_eq_some_iff.1 hx
 obtain⟨ad,cs,f1,f2,f3,f4⟩:=e4 i y hy
 refine⟨ad,cs,f1,f2,f3,?_⟩
 obtain⟨u,v,rfl⟩: ∃u v,cs=[u,v]:=by
  match cs,f2 with
  |[u,v],_=>exact⟨u,v,rfl⟩
 have g1:=f4.2 0 u (.str y.src) rfl rfl
 have g2:=f4.2 1 v (.str y.dst) rfl rfl
 cases g1;cases g2
 rfl
theorem w4z:z2t Proofs.Tryz.prog D 139 (conV ([.sl C.str,.sl C.edge]:LP) ([.sl C.str,.sl C.edge]:LV) ([.vec 9 C.str,.int .i64]:LV) ([.same,.same]:LV) (fun a K=>P_graph_Order a.1 a.2.1 (fun q0 q1=>K (q0,q1,()) ((),(),())))):=by
 intro args K hm w σ vals ins hG hL hS
 obtain⟨a,ha,hm⟩:=Qj hm
 have hargs:=Vu ha
 subst hargs
 obtain⟨s,t,_⟩:=a
 cases hL with
 | @cons _ _ v1 _ _ _ hp hr=>
 cases hr with
 | @cons _ _ v2 _ _ _ hq hr=>
 cases hr
 cases hp with
 |f hf1=>
 cases hq with
 |f hf2=>
 have hm:Go.Fl.P_graph_Order s (t.map fun e=>(e.1,e.2)) (fun l n=>K [.vec 9 C.str l,.f (.int .i64 n)] [.same,.same]):=hm
 refine Calls.mono (Go.Proofs.YtfiomedjdipbgaaGreatDoor.w_graph_Order s (t.map fun e=>(e.1,e.2)) v1 v2 hS.view (y68 hf1) (y3i hf2) hm) ?_
 rintro e w1 ⟨l,n,v,rfl,hS1,hsm,hK⟩
 have hl:l.length<=140737488355328:=by unfold Sml at hsm;omega
 exact⟨[.vec 9 C.str l,.f (.int .i64 n)],[.same,.same],[v,.int .i64 n],σ,[vec v 9 1 l.length (l.flatMap Qi)],[],rfl,hK,.cons (.vec (w4y σ _) hl (q1w (hS1.get (i:=0) rfl))) (.cons (ms:=[]) (.f (.int _ _)) .nil),.skip (a0:=[]) (.skip (a0:=[]) .nil),hS1⟩
theorem j9a:z2t Proofs.Tryz.prog D 231 (conV ([.v,.v]:LP) ([.str,.str]:LV) ([.vec 9 C.str]:LV) ([.same,.same]:LV) (fun a K=>q2r a.1 a.2.1 (fun q0=>K (q0,()) ((),(),())))):=by
 intro args K hm w σ vals ins hG hL hS
 obtain⟨a,ha,hm⟩:=Qj hm
 have hargs:=Vu ha
 subst hargs
 obtain⟨s,t,_⟩:=a
 cases hL with
 |cons hp hr=>
 cases hr with
 |cons hq hr=>
 cases hr
 cases hp with
 |f hf=>
 cases hf
 cases hq with
 |f hf=>
 cases hf
 have hm:t.size=1/\s.size<4294967281/\K [.vec 9 C.str (q1k s t)] [.same,.same]:=hm
 obtain⟨h1,hsz,hm⟩:=hm
 obtain⟨n,hn⟩:=hG.free 3 .i64 rfl
 have hlen:(q1k s t).length=Go.Lib.countB s t+1:=Go.Lib.splitB_all t (by omega) 0 _ s rfl
 have hcnt:=Go.Lib.countB_le t (by omega) s.size s (Nat.le_refl _)
 refine Calls.mono (Proofs.Tryz.strings_Split s t n w hsz (hS.view.cell hn) (by omega)) ?_
 rintro e w' ⟨rfl,rfl⟩
 have ho:(vec (.slice (some ⟨w.heap.size,0,none⟩) (q1k s t).length (q1k s t).length) 9 1 (q1k s t).length ((q1k s t).flatMap Qi)).ok (w.alloc (.cells ((q1k s t).map Value.string).toArray 9)):=by
  refine⟨by rw[j7q];simp,.inr ⟨w.heap.size,_,_,rfl,Nat.zero_le _,heap_alloc_new _ _,Nat.le_refl _,by unfold maxLen;omega,by simp,?_⟩⟩
  rw[j7q,Nat.mul_one]
  exact List.take_of_length_le (by rw[List.length_map];exact Nat.le_refl _)
 have hS1:=hS.add (Vc w _) ho (by rintro k ⟨⟩;exact Nat.le_refl _)
 have hl:(q1k s t).length<=140737488355328:=by omega
 have hr:=(⟨[.vec 9 C.str (q1k s t)],[.same,.same],[_],σ,[_],[],rfl,hm,.cons (.vec (w4y σ _) hl (q1w ho)) .nil,.skip (a0:=[]) (.skip (a0:=[]) .nil),hS1⟩:Back D σ w [.f (.str s),.f (.str t)] [.string s,.string t] [] K (.returned (retV [.slice (some ⟨w.heap.size,0,none⟩) (q1k s t).length (q1k s t).length])) (w.alloc (.cells ((q1k s t).map Value.string).toArray 9)))
 rw[hlen] at hr
 exact hr
end Go.En
end
noncomputable section
set_option maxRecDepth 100000
open Go Go.RowKit Go.Fl Go.Fl.Lk Go.Fx
namespace Go.En
def q54(X:W6):Con Sg:=conS [] [.vec 177 C.decl] fun _ K=>X (fun q0=>K (q0,()))
theorem q95:MT 57 (q54 J0):=mS (l:=[]) trivial (by kernel_rfl) [] fun a K=>by kernel_rfl
def v3w(X:j7n):Con Sg:=conV [.ptr 104 [.c,.v]] [.ptr 104 [.sl C.u8,.int .i64]] [.bool] [.ptr 104 [.same,.int .i64]] fun a K=>X a.1.1 a.1.2.1 (fun q0 q1=>K (q0,()) (((),q1,()),()))
theorem y3j:MT 86 (v3w j7o):=mP (rk:=[.v]) (l:=[]) trivial (by kernel_rfl) [] fun a K=>by kernel_rfl
def Vn(X:Zj):Con Sg:=conV [.ptr 104 [.c,.v],.v] [.ptr 104 [.sl C.u8,.int .i64],.int .i64] [.int .i64] [.ptr 104 [.same,.int .i64],.same] fun a K=>X a.1.1 a.1.2.1 a.2.1 (fun q0 q1=>K (q0,()) (((),q1,()),(),()))
theorem y3k(j70:j7n)(h:AL [(86,v3w j70)]):MT 49 (Vn (w4o j70)):=mP (rk:=[.v]) h (by kernel_rfl) [] fun a K=>by kernel_rfl
theorem Gt:MT 49 (Vn Ze):=y3k j7o ⟨y3j,trivial⟩
def z7z(X:q1z):Con Sg:=conV [.ptr 104 [.c,.v]] [.ptr 104 [.sl C.u8,.int .i64]] [.str] [.ptr 104 [.same,.int .i64]] fun a K=>X a.1.1 a.1.2.1 (fun q0 q1=>K (q0,()) (((),q1,()),()))
theorem y3l(Qb:Zj)(h:AL [(49,Vn Qb)]):MT 58 (z7z (w4p Qb)):=mP (rk:=[.v]) h (by kernel_rfl) [] fun a K=>by kernel_rfl
theorem j7r:MT 58 (z7z q10):=y3l Ze ⟨Gt,trivial⟩
def j13(X:q6w):Con Sg:=conV [.ptr 104 [.c,.v],.v] [.ptr 104 [.sl C.u8,.int .i64],.int .i64] [.int .i64] [.ptr 104 [.same,.int .i64],.same] fun a K=>X a.1.1 a.1.2.1 a.2.1 (fun q0 q1=>K (q0,()) (((),q1,()),(),()))
theorem y3m(Qb:Zj)(h:AL [(49,Vn Qb)]):MT 51 (j13 (w4q Qb)):=mP (rk:=[.v]) h (by kernel_rfl) [] fun a K=>by kernel_rfl
theorem w40:MT 51 (j13 q6x):=y3m Ze ⟨Gt,trivial⟩
def w41(X:z7o):Con Sg:=conS [.int .i64,.vec 9 C.str] [.sl C.str] fun a K=>X a.1 a.2.1 (fun q0=>K (q0,()))
theorem v3x:MT 60 (w41 z7p):=mS (l:=[]) trivial (by kernel_rfl) [] fun a K=>by kernel_rfl
def j7s(X:z2v):Con Sg:=conV [.ptr 104 [.c,.v]] [.ptr 104 [.sl C.u8,.int .i64]] [.vec 9 C.str] [.ptr 104 [.same,.int .i64]] fun a K=>X a.1.1 a.1.2.1 (fun q0 q1=>K (q0,()) (((),q1,()),()))
theorem y3n(Qb:Zj)(h:AL [(49,Vn Qb)]):MT 112 (j7s (w4r Qb)):=mP (rk:=[.own 9 C.str]) h (by kernel_rfl) [(9,⟨bl 397,[],[(0,(104,2))],[(.slot 4,.own 9 C.str),sI 5,(.cell 0 1,.int .i64)]⟩),(17,⟨bl 8121,[0],[],[sI 6,(.obj 1,.own 9 C.str)]⟩)] fun a K=>by kernel_rfl
theorem v3y:MT 112 (j7s z2w):=y3n Ze ⟨Gt,trivial⟩
def w42(X:z9p):Con Sg:=conV [.ptr 104 [.c,.v]] [.ptr 104 [.sl C.u8,.int .i64]] [.str] [.ptr 104 [.same,.int .i64]] fun a K=>X a.1.1 a.1.2.1 (fun q0 q1=>K (q0,()) (((),q1,()),()))
theorem y69(Qb:Zj)(h:AL [(49,Vn Qb)]):MT 108 (w42 (v0n Qb)):=mP (rk:=[.v]) h (by kernel_rfl) [] fun a K=>by kernel_rfl
theorem v9h:MT 108 (w42 z9q):=y69 Ze ⟨Gt,trivial⟩
def z55(X:q11):Con Sg:=conV [.ptr 104 [.c,.v],.v] [.ptr 104 [.sl C.u8,.int .i64],.int .i64] [.el C.val] [.ptr 104 [.same,.int .i64],.same] fun a K=>X a.1.1 a.1.2.1 a.2.1 (fun q0 q1=>K (q0,()) (((),q1,()),(),()))
theorem v9i(Qb:Zj)(Wn:q1z)(h:AL [(49,Vn Qb),(58,z7z Wn)]):MT 109 (z55 (j1p Qb Wn)):=mP (rk:=[.el C.val]) h (by kernel_rfl) [] fun a K=>by kernel_rfl
theorem j9b:MT 109 (z55 Us):=v9i Ze q10 ⟨Gt,j7r,trivial⟩
def j7t(X:j1q):Con Sg:=conV [.ptr 104 [.c,.v]] [.ptr 104 [.sl C.u8,.int .i64]] [.el C.ex] [.ptr 104 [.same,.int .i64]] fun a K=>X a.1.1 a.1.2.1 (fun q0 q1=>K (q0,()) (((),q1,()),()))
theorem y3o(Q4:W6)(Qb:Zj)(z4a:z9p)(Jm:q11)(h:AL [(57,q54 Q4),(49,Vn Qb),(108,w42 z4a),(109,z55 Jm)]):MT 165 (j7t (w4s Q4 Qb z4a Jm)):=mP (rk:=[.el C.ex]) h (by kernel_rfl) [(68,⟨bl 4286840701,[3,2],[(5,(66,5)),(0,(104,2)),(1,(66,5))],[(.cell 5 0,.int .i64),(.cell 5 1,.str),(.cell 5 2,.str),(.cell 5 3,.own 115 C.val),(.cell 5 4,.own 66 C.ex),(.cell 0 1,.int .i64),(.cell 1 0,.int .i64),(.cell 1 1,.str),(.cell 1 2,.str),(.cell 1 3,.own 115 C.val),(.cell 1 4,.own 66 C.ex)]⟩),(60,⟨bl 17163319925,[],[(0,(104,2)),(5,(66,5)),(1,(66,5))],[(.cell 0 1,.int .i64),(.cell 5 0,.int .i64),(.cell 5 1,.str),(.cell 5 2,.str),(.cell 5 3,.own 115 C.val),(.cell 5 4,.own 66 C.ex),(.cell 1 0,.int .i64),(.cell 1 1,.str),(.cell 1 2,.str),(.cell 1 3,.own 115 C.val),(.cell 1 4,.own 66 C.ex)]⟩),(37,⟨bl 1055806024022645,[1],[(5,(66,5)),(0,(104,2))],[sI 7,(.cell 5 3,.own 115 C.val),(.cell 0 1,.int .i64)]⟩)] fun a K=>by kernel_rfl
theorem y3p:MT 165 (j7t z7q):=y3o J0 Ze z9q Us ⟨q95,Gt,v9h,j9b,trivial⟩
def j7u(X:q4w):Con Sg:=conV [.ptr 104 [.c,.v],.sl C.str,.v] [.ptr 104 [.sl C.u8,.int .i64],.sl C.str,.int .i64] [.el C.ex] [.ptr 104 [.same,.int .i64],.same,.same] fun a K=>X a.1.1 a.1.2.1 a.2.1 a.2.2.1 (fun q0 q1=>K (q0,()) (((),q1,()),(),(),()))
def w7w:PT:=Q5 ([(8,⟨bl 24647,[0,1],[],[sI 7]⟩),(28,⟨bl 3298996281543,[0,1],[],[sB 49]⟩),(37,⟨bl 1148984153929181127,[1],[(0,(104,2)),(4,(66,5))],[sI 11,(.cell 0 1,.int .i64),(.cell 4 0,.int .i64),(.cell 4 1,.str),(.cell 4 2,.str),(.cell 4 3,.own 115 C.val),(.cell 4 4,.own 66 C.ex)]⟩),(46,⟨bl 1152917567256169316295,[0,12,11,4],[(13,(66,5))],[(.cell 13 0,.int .i64),(.cell 13 1,.str),(.cell 13 2,.str),(.cell 13 3,.sl C.val),(.cell 13 4,.sl C.ex)]⟩)]:LS)
theorem v5c(Qb:Zj)(j3a:j1q)(X:q4w)(list:List (Int))(at_:Int)(segments:List (ByteArray))(levels:Int)(K:Ex->Int->Prop):j7p Qb j3a X list at_ segments levels K=fnV (((WL [(49,Vn Qb),(165,j7t j3a)]).with 113 (j7u X)).pl w7w) 4 113 ([.ptr 104 [.c,.v],.sl C.str,.v]:LP) ([.el C.ex]:LP) ([.ptr 104 [.sl C.u8,.int .i64],.sl C.str,.int .i64]:LV) ([.el C.ex]:LV) ([.ptr 104 [.same,.int .i64],.same,.same]:LV) ((list,at_,()),segments,levels,()) (fun r o=>K r.1 o.1.2.1):=by kernel_rfl
theorem v3z:MT 113 (j7u z2x):=by
 show MT _ (conV ([.ptr 104 [.c,.v],.sl C.str,.v]:LP) ([.ptr 104 [.sl C.u8,.int .i64],.sl C.str,.int .i64]:LV) ([.el C.ex]:LV) ([.ptr 104 [.same,.int .i64],.same,.same]:LV) fun a K=>z2x a.1.1 a.1.2.1 a.2.1 a.2.2.1 (fun q0 q1=>K (q0,()) (((),q1,()),(),(),())))
 refine mR (l:=[(49,Vn Ze),(165,j7t z7q)]) (u:=4) (rk:=[.el C.ex]) (p:=w7w) ⟨Gt,y3p,trivial⟩ (by kernel_rfl) fun a K h X hX=> ?_
 exact h (fun list at_ segments levels K=>X ((list,at_,()),segments,levels,()) fun r o=>K r.1 o.1.2.1) (fun list at_ segments levels K hs=>hX ((list,at_,()),segments,levels,()) (fun r o=>K r.1 o.1.2.1) (Eq.mp (v5c Ze z7q (fun list at_ segments levels K=>X ((list,at_,()),segments,levels,()) fun r o=>K r.1 o.1.2.1) list at_ segments levels K) hs))
def z56(X:q5i):Con Sg:=conV [.ptr 104 [.c,.v],.ptr 36 [.v,.v,.v,.sl C.decl,.own 147 C.seg,.own 122 C.flag,.own 59 C.layer,.own 68 C.exper]] [.ptr 104 [.sl C.u8,.int .i64],.ptr 36 [.str,.str,.int .i64,.sl C.decl,.vec 147 C.seg,.vec 122 C.flag,.vec 59 C.layer,.vec 68 C.exper]] [] [.ptr 104 [.same,.int .i64],.ptr 36 [.str,.str,.int .i64,.sl C.decl,.vec 147 C.seg,.vec 122 C.flag,.vec 59 C.layer,.vec 68 C.exper]] fun a K=>X a.1.1 a.1.2.1 a.2.1.1 a.2.1.2.1 a.2.1.2.2.1 a.2.1.2.2.2.1 a.2.1.2.2.2.2.1 a.2.1.2.2.2.2.2.1 a.2.1.2.2.2.2.2.2.1 a.2.1.2.2.2.2.2.2.2.1 (fun q0 q1 q2 q3 q4 q5 q6 q7 q8=>K () (((),q0,()),(q1,q2,q3,q4,q5,q6,q7,q8,()),()))
theorem w7x(Qb:Zj)(q3m:z7o)(q46:z2v)(q47:q4w)(h:AL [(49,Vn Qb),(60,w41 q3m),(112,j7s q46),(113,j7u q47)]):MT 59 (z56 (z5a Qb q3m q46 q47)):=mP (rk:=[]) h (by kernel_rfl) [(5,⟨bl 1427,[3,4,5],[(0,(104,2)),(1,(36,8))],[sI 5,(.cell 0 1,.int .i64),(.cell 1 4,.own 147 C.seg)]⟩),(14,⟨bl 67010035,[11,10,9,1],[(12,(147,9)),(0,(104,2))],[(.cell 12 1,.str),(.cell 0 1,.int .i64)]⟩),(18,⟨bl 67010035,[11,10,9,1],[(12,(147,9)),(0,(104,2))],[(.cell 12 4,.int .i64),(.cell 12 5,.str),(.cell 12 6,.str),(.cell 12 7,.sl C.val),(.cell 12 8,.sl C.ex),(.cell 0 1,.int .i64)]⟩)] fun a K=>by kernel_rfl
theorem w7y:MT 59 (z56 q5j):=w7x Ze z7p z2w z2x ⟨Gt,v3x,v3y,v3z,trivial⟩
def z57(X:q12):Con Sg:=conS [.el C.env] [.vec 9 C.str] fun a K=>X a.1 (fun q0=>K (q0,()))
theorem j9c:MT 114 (z57 H3):=mS (l:=[]) trivial (by kernel_rfl) [(7,⟨[0,1,2],[0],[],[(.slot 3,.own 9 C.str),sI 4]⟩)] fun a K=>by kernel_rfl
def j14(X:q75):Con Sg:=conV [.ptr 104 [.c,.v],.v] [.ptr 104 [.sl C.u8,.int .i64],.int .i64] [.vec 70 C.range] [.ptr 104 [.same,.int .i64],.same] fun a K=>X a.1.1 a.1.2.1 a.2.1 (fun q0 q1=>K (q0,()) (((),q1,()),(),()))
theorem v9j(Qb:Zj)(Wy:q6w)(h:AL [(49,Vn Qb),(51,j13 Wy)]):MT 117 (j14 (j8x Qb Wy)):=mP (rk:=[.own 70 C.range]) h (by kernel_rfl) [(26,⟨[0,1,4],[],[(0,(104,2))],[(.slot 5,.own 70 C.range),sI 6,sI 7,(.cell 0 1,.int .i64)]⟩),(32,⟨bl 8444249301319923,[0,1],[],[sI 11]⟩),(9,⟨[0,1,4],[],[(0,(104,2))],[(.slot 5,.own 70 C.range),sI 6,sI 7,sI 8,(.cell 0 1,.int .i64)]⟩),(20,⟨bl 2144334835,[0,1],[],[sI 10]⟩)] fun _ _=>by kernel_rfl
theorem w7z:MT 117 (j14 q76):=v9j Ze q6x ⟨Gt,w40,trivial⟩
end Go.En
end
noncomputable section
set_option maxRecDepth 100000
open Go Go.RowKit Go.Fl Go.Fl.Lk Go.Fx
namespace Go.En
def j9d(X:z5b):Con Sg:=conV [.ptr 104 [.c,.v],.v] [.ptr 104 [.sl C.u8,.int .i64],.int .i64] [.el C.serve] [.ptr 104 [.same,.int .i64],.same] fun a K=>X a.1.1 a.1.2.1 a.2.1 (fun q0 q1=>K (q0,()) (((),q1,()),(),()))
theorem v9k(Qb:Zj)(Wn:q1z)(q3n:q75)(Q4:W6)(h:AL [(49,Vn Qb),(58,z7z Wn),(117,j14 q3n),(57,q54 Q4)]):MT 115 (j9d (j8y Qb Wn q3n Q4)):=mP (rk:=[.el C.serve]) h (by kernel_rfl) [] fun a K=>by kernel_rfl
theorem v9l:MT 115 (j9d z5c):=v9k Ze q10 q76 J0 ⟨Gt,j7r,w7z,q95,trivial⟩
def w70(X:j1r):Con Sg:=conV [] [] [.ptr 248 [.vec 318 C.node,.map C.node C.i64,.bool]] [] fun _ K=>X (fun q0 q1 q2=>K ((q0,q1,q2,()),()) ())
theorem v9m:MT 166 (w70 j8z):=mP (rk:=[.ptr 248 [.own 318 C.node,.map C.node C.i64,.v]]) (l:=[]) trivial (by kernel_rfl) [] fun a K=>by kernel_rfl
def R1(X:Wo):Con Sg:=conS [.int .i64] [.bool] fun a K=>X a.1 (fun q0=>K (q0,()))
theorem q9c:MT 143 (R1 Jf):=mS (l:=[]) trivial (by kernel_rfl) [] fun a K=>by kernel_rfl
def w71(X:j1s):Con Sg:=conS [.sl C.str,.sl C.str] [.bool] fun a K=>X a.1 a.2.1 (fun q0=>K (q0,()))
theorem v9n:MT 204 (w71 z5d):=mS (l:=[]) trivial (by kernel_rfl) [(9,⟨bl 1987,[],[],[sI 5]⟩)] fun a K=>by kernel_rfl
def z70(X:q32):Con Sg:=conS [.el C.val,.el C.val] [.bool] fun a K=>X a.1 a.2.1 (fun q0=>K (q0,()))
theorem v5d(j3c:j1s)(h:AL [(204,w71 j3c)]):MT 144 (z70 (j37 j3c)):=mS h (by kernel_rfl) [] fun a K=>by kernel_rfl
theorem w3n:MT 144 (z70 q1l):=v5d z5d ⟨v9n,trivial⟩
def q24(X:H4):Con Sg:=conS [.sl C.val,.sl C.val] [.bool] fun a K=>X a.1 a.2.1 (fun q0=>K (q0,()))
theorem j9e(Gd:q32)(h:AL [(144,z70 Gd)]):MT 278 (q24 (q77 Gd)):=mS h (by kernel_rfl) [(9,⟨bl 1987,[],[],[sI 5]⟩)] fun a K=>by kernel_rfl
theorem j9f:MT 278 (q24 Ut):=j9e q1l ⟨w3n,trivial⟩
def z3k(X:Vv):Con Sg:=conV [.el C.ex,.el C.ex] [.el C.ex,.el C.ex] [.bool] [.same,.same] fun a K=>X a.1 a.2.1 (fun q0=>K (q0,()) ((),(),()))
def z88:PT:=Q5 ([(280000009,⟨bl 1987,[],[],[sI 5]⟩)]:LS)
theorem j9g(q3o:H4)(X:Vv)(a:Ex)(b:Ex)(K:Bool->Prop):z2y q3o X a b K=fnV (((WL [(278,q24 q3o)]).with 259 (z3k X)).pl z88) 4 259 ([.el C.ex,.el C.ex]:LP) ([.v]:LP) ([.el C.ex,.el C.ex]:LV) ([.bool]:LV) ([.same,.same]:LV) (a,b,()) (fun r _=>K r.1):=by kernel_rfl
theorem w43:MT 259 (z3k Ba):=by
 show MT _ (conV ([.el C.ex,.el C.ex]:LP) ([.el C.ex,.el C.ex]:LV) ([.bool]:LV) ([.same,.same]:LV) fun a K=>Ba a.1 a.2.1 (fun q0=>K (q0,()) ((),(),())))
 refine mR (l:=[(278,q24 Ut)]) (u:=4) (rk:=[.v]) (p:=z88) ⟨j9f,trivial⟩ (by kernel_rfl) fun a K h X hX=> ?_
 exact h (fun a b K=>X (a,b,()) fun r _=>K r.1) (fun a b K hs=>hX (a,b,()) (fun r _=>K r.1) (Eq.mp (j9g Ut (fun a b K=>X (a,b,()) fun r _=>K r.1) a b K) hs))
def q4i(X:q01):Con Sg:=conS [.sl C.ex,.el C.ex] [.int .i64] fun a K=>X a.1 a.2.1 (fun q0=>K (q0,()))
theorem v0r(q7a:Vv)(h:AL [(259,z3k q7a)]):MT 221 (q4i (z9r q7a)):=mS h (by kernel_rfl) [(5,⟨[0,1,3],[0],[],[sI 5]⟩)] fun a K=>by kernel_rfl
theorem j9h:MT 221 (q4i Ui):=v0r Ba ⟨w43,trivial⟩
def z02(X:W7):Con Sg:=conV [.sl C.ex,.el C.ex] [.sl C.ex,.el C.ex] [.sl C.ex] [.same,.same] fun a K=>X a.1 a.2.1 (fun q0=>K (q0,()) ((),(),()))
def z58:PT:=Q5 ([(6,⟨[1,3,4],[0],[],[(.slot 0,.sl C.ex)]⟩),(9,⟨[1,3,4],[0],[],[(.slot 0,.sl C.ex),sI 5]⟩)]:LS)
theorem j6j(Uk:q01)(Qv:Wo)(X:W7)(l:List (Ex))(e:Ex)(K:List (Ex)->Prop):z0u Uk Qv X l e K=fnV (((WL [(221,q4i Uk),(143,R1 Qv)]).with 218 (z02 X)).pl z58) 4 218 ([.sl C.ex,.el C.ex]:LP) ([.sl C.ex]:LP) ([.sl C.ex,.el C.ex]:LV) ([.sl C.ex]:LV) ([.same,.same]:LV) (l,e,()) (fun r _=>K r.1):=by kernel_rfl
theorem w1m:MT 218 (z02 B5):=by
 show MT _ (conV ([.sl C.ex,.el C.ex]:LP) ([.sl C.ex,.el C.ex]:LV) ([.sl C.ex]:LV) ([.same,.same]:LV) fun a K=>B5 a.1 a.2.1 (fun q0=>K (q0,()) ((),(),())))
 refine mR (l:=[(221,q4i Ui),(143,R1 Jf)]) (u:=4) (rk:=[.sl C.ex]) (p:=z58) ⟨j9h,q9c,trivial⟩ (by kernel_rfl) fun a K h X hX=> ?_
 exact h (fun l e K=>X (l,e,()) fun r _=>K r.1) (fun l e K hs=>hX (l,e,()) (fun r _=>K r.1) (Eq.mp (j6j Ui Jf (fun l e K=>X (l,e,()) fun r _=>K r.1) l e K) hs))
def q9d(X:H5):Con Sg:=conS [.sl C.rule] [.sl C.ex] fun a K=>X a.1 (fun q0=>K (q0,()))
theorem j9i(q48:W7)(h:AL [(218,z02 q48)]):MT 167 (q9d (q78 q48)):=mS h (by kernel_rfl) [(7,⟨[0,2],[],[],[(.slot 3,.sl C.ex),sI 4]⟩)] fun a K=>by kernel_rfl
theorem j9j:MT 167 (q9d H6):=j9i B5 ⟨w1m,trivial⟩
def q25(X:J8):Con Sg:=conV [.ptr 248 [.own 318 C.node,.map C.node C.i64,.v],.v] [.ptr 248 [.vec 318 C.node,.map C.node C.i64,.bool],.int .i64] [.bool] [.ptr 248 [.vec 318 C.node,.map C.node C.i64,.bool],.same] fun a K=>X a.1.1 a.1.2.1 a.1.2.2.1 a.2.1 (fun q0 q1 q2 q3=>K (q0,()) ((q1,q2,q3,()),(),()))
theorem q64:MT 260 (q25 Ju):=mP (rk:=[.v]) (l:=[]) trivial (by kernel_rfl) [] fun a K=>by kernel_rfl
def z4p(X:q0q):Con Sg:=conV [.ptr 248 [.own 318 C.node,.map C.node C.i64,.v],.v] [.ptr 248 [.vec 318 C.node,.map C.node C.i64,.bool],.int .i64] [.map C.i64 C.bool] [.ptr 248 [.vec 318 C.node,.map C.node C.i64,.bool],.same] fun a K=>X a.1.1 a.1.2.1 a.1.2.2.1 a.2.1 (fun q0 q1 q2 q3=>K (q0,()) ((q1,q2,q3,()),(),()))
theorem j6k:MT 280 (z4p G5):=mP (rk:=[.map C.i64 C.bool]) (l:=[]) trivial (by kernel_rfl) [(7,⟨bl 1843,[0,1,2],[],[(.slot 6,.own 3 C.i64),(.obj 3,.map C.i64 C.bool)]⟩)] fun a K=>by kernel_rfl
def q4j(X:Uu):Con Sg:=conV [.ptr 248 [.own 318 C.node,.map C.node C.i64,.v],.v] [.ptr 248 [.vec 318 C.node,.map C.node C.i64,.bool],.int .i64] [.vec 3 C.i64] [.ptr 248 [.vec 318 C.node,.map C.node C.i64,.bool],.same] fun a K=>X a.1.1 a.1.2.1 a.1.2.2.1 a.2.1 (fun q0 q1 q2 q3=>K (q0,()) ((q1,q2,q3,()),(),()))
theorem j4l(Qx:J8)(q0v:q0q)(h:AL [(260,q25 Qx),(280,z4p q0v)]):MT 262 (q4j (z1j Qx q0v)):=mP (rk:=[.own 3 C.i64]) h (by kernel_rfl) [(13,⟨bl 32563,[5,0,4,2],[],[(.slot 6,.own 3 C.i64),sI 7]⟩)] fun a K=>by kernel_rfl
theorem j4m:MT 262 (q4j Uv):=j4l Ju G5 ⟨q64,j6k,trivial⟩
def Wt(X:Zk):Con Sg:=conV [.ptr 248 [.own 318 C.node,.map C.node C.i64,.v],.v] [.ptr 248 [.vec 318 C.node,.map C.node C.i64,.bool],.int .i64] [.bool] [.ptr 248 [.vec 318 C.node,.map C.node C.i64,.bool],.same] fun a K=>X a.1.1 a.1.2.1 a.1.2.2.1 a.2.1 (fun q0 q1 q2 q3=>K (q0,()) ((q1,q2,q3,()),(),()))
theorem z8r(Qx:J8)(Bk:Uu)(h:AL [(260,q25 Qx),(262,q4j Bk)]):MT 223 (Wt (q6q Qx Bk)):=mP (rk:=[.v]) h (by kernel_rfl) [(11,⟨bl 16291,[5,0,4,2],[],[sI 6]⟩)] fun _ _=>by kernel_rfl
theorem B0:MT 223 (Wt Zl):=z8r Ju Uv ⟨q64,j4m,trivial⟩
end Go.En
end
noncomputable section
set_option maxRecDepth 100000
open Go Go.RowKit Go.Fl Go.Fl.Lk Go.Fx
namespace Go.En
def q0i(X:W8):Con Sg:=conV [.ptr 248 [.own 318 C.node,.map C.node C.i64,.v],.v] [.ptr 248 [.vec 318 C.node,.map C.node C.i64,.bool],.int .i64] [.int .i64] [.ptr 248 [.vec 318 C.node,.map C.node C.i64,.bool],.same] fun a K=>X a.1.1 a.1.2.1 a.1.2.2.1 a.2.1 (fun q0 q1 q2 q3=>K (q0,()) ((q1,q2,q3,()),(),()))
theorem z03:MT 261 (q0i Jk):=mP (rk:=[.v]) (l:=[]) trivial (by kernel_rfl) [] fun a K=>by kernel_rfl
def q0t(X:G6):Con Sg:=conV [.ptr 248 [.own 318 C.node,.map C.node C.i64,.v],.v,.v] [.ptr 248 [.vec 318 C.node,.map C.node C.i64,.bool],.int .i64,.int .i64] [.int .i64,.int .i64] [.ptr 248 [.vec 318 C.node,.map C.node C.i64,.bool],.same,.same] fun a K=>X a.1.1 a.1.2.1 a.1.2.2.1 a.2.1 a.2.2.1 (fun q0 q1 q2 q3 q4=>K (q0,q1,()) ((q2,q3,q4,()),(),(),()))
theorem j6l(Q9:W8)(h:AL [(261,q0i Q9)]):MT 281 (q0t (z4o Q9)):=mP (rk:=[.v,.v]) h (by kernel_rfl) [] fun a K=>by kernel_rfl
theorem j6m:MT 281 (q0t Wp):=j6l Jk ⟨z03,trivial⟩
def U9(X:Vd):Con Sg:=conV [.ptr 248 [.own 318 C.node,.map C.node C.i64,.v],.v,.v,.v] [.ptr 248 [.vec 318 C.node,.map C.node C.i64,.bool],.int .i64,.int .i64,.int .i64] [.int .i64] [.ptr 248 [.vec 318 C.node,.map C.node C.i64,.bool],.same,.same,.same] fun a K=>X a.1.1 a.1.2.1 a.1.2.2.1 a.2.1 a.2.2.1 a.2.2.2.1 (fun q0 q1 q2 q3=>K (q0,()) ((q1,q2,q3,()),(),(),(),()))
theorem j9k(Qx:J8)(Q9:W8)(h:AL [(260,q25 Qx),(261,q0i Q9)]):MT 222 (U9 (z5e Qx Q9)):=mP (rk:=[.v]) h (by kernel_rfl) [] fun a K=>by kernel_rfl
theorem z59:MT 222 (U9 Jl):=j9k Ju Jk ⟨q64,z03,trivial⟩
def q4k(X:Js):Con Sg:=conV [.ptr 248 [.own 318 C.node,.map C.node C.i64,.v],.v,.v,.v,.map C.a3 C.i64] [.ptr 248 [.vec 318 C.node,.map C.node C.i64,.bool],.int .i64,.int .i64,.int .i64,.map C.a3 C.i64] [.int .i64] [.ptr 248 [.vec 318 C.node,.map C.node C.i64,.bool],.same,.same,.same,.map C.a3 C.i64] fun a K=>X a.1.1 a.1.2.1 a.1.2.2.1 a.2.1 a.2.2.1 a.2.2.2.1 a.2.2.2.2.1 (fun q0 q1 q2 q3 q4=>K (q0,()) ((q1,q2,q3,()),(),(),(),q4,()))
def q96:PT:=Q5 ([(36,⟨bl 4951760157141239551596952607,[3,4],[(0,(248,3))],[sI 23,(.cell 0 0,.own 318 C.node),(.cell 0 2,.bool),(.obj 2,.map C.node C.i64)]⟩)]:LS)
theorem j0a(Q9:W8)(Vr:G6)(Jx:Vd)(X:Js)(ns:List (Nd))(ids:(Nd->Option (Int)))(full:Bool)(f:Int)(g:Int)(h:Int)(known:(A3->Option (Int)))(K:Int->List (Nd)->(Nd->Option (Int))->Bool->(A3->Option (Int))->Prop):Uw Q9 Vr Jx X ns ids full f g h known K=fnV (((WL [(261,q0i Q9),(281,q0t Vr),(222,U9 Jx)]).with 263 (q4k X)).pl q96) 4 263 ([.ptr 248 [.own 318 C.node,.map C.node C.i64,.v],.v,.v,.v,.map C.a3 C.i64]:LP) ([.v]:LP) ([.ptr 248 [.vec 318 C.node,.map C.node C.i64,.bool],.int .i64,.int .i64,.int .i64,.map C.a3 C.i64]:LV) ([.int .i64]:LV) ([.ptr 248 [.vec 318 C.node,.map C.node C.i64,.bool],.same,.same,.same,.map C.a3 C.i64]:LV) ((ns,ids,full,()),f,g,h,known,()) (fun r o=>K r.1 o.1.1 o.1.2.1 o.1.2.2.1 o.2.2.2.2.1):=by kernel_rfl
theorem j4n:MT 263 (q4k Ux):=by
 show MT _ (conV ([.ptr 248 [.own 318 C.node,.map C.node C.i64,.v],.v,.v,.v,.map C.a3 C.i64]:LP) ([.ptr 248 [.vec 318 C.node,.map C.node C.i64,.bool],.int .i64,.int .i64,.int .i64,.map C.a3 C.i64]:LV) ([.int .i64]:LV) ([.ptr 248 [.vec 318 C.node,.map C.node C.i64,.bool],.same,.same,.same,.map C.a3 C.i64]:LV) fun a K=>Ux a.1.1 a.1.2.1 a.1.2.2.1 a.2.1 a.2.2.1 a.2.2.2.1 a.2.2.2.2.1 (fun q0 q1 q2 q3 q4=>K (q0,()) ((q1,q2,q3,()),(),(),(),q4,())))
 refine mR (l:=[(261,q0i Jk),(281,q0t Wp),(222,U9 Jl)]) (u:=4) (rk:=[.v]) (p:=q96) ⟨z03,j6m,z59,trivial⟩ (by kernel_rfl) fun a K h X hX=> ?_
 exact h (fun ns ids full f g h known K=>X ((ns,ids,full,()),f,g,h,known,()) fun r o=>K r.1 o.1.1 o.1.2.1 o.1.2.2.1 o.2.2.2.2.1) (fun ns ids full f g h known K hs=>hX ((ns,ids,full,()),f,g,h,known,()) (fun r o=>K r.1 o.1.1 o.1.2.1 o.1.2.2.1 o.2.2.2.2.1) (Eq.mp (j0a Jk Wp Jl (fun ns ids full f g h known K=>X ((ns,ids,full,()),f,g,h,known,()) fun r o=>K r.1 o.1.1 o.1.2.1 o.1.2.2.1 o.2.2.2.2.1) ns ids full f g h known K) hs))
def Ga(X:Z4):Con Sg:=conV [.ptr 248 [.own 318 C.node,.map C.node C.i64,.v],.v,.v,.v] [.ptr 248 [.vec 318 C.node,.map C.node C.i64,.bool],.int .i64,.int .i64,.int .i64] [.int .i64] [.ptr 248 [.vec 318 C.node,.map C.node C.i64,.bool],.same,.same,.same] fun a K=>X a.1.1 a.1.2.1 a.1.2.2.1 a.2.1 a.2.2.1 a.2.2.2.1 (fun q0 q1 q2 q3=>K (q0,()) ((q1,q2,q3,()),(),(),(),()))
theorem j4o(Qq:Zk)(Qx:J8)(Bl:Js)(h:AL [(223,Wt Qq),(260,q25 Qx),(263,q4k Bl)]):MT 224 (Ga (z1k Qq Qx Bl)):=mP (rk:=[.v]) h (by kernel_rfl) [] fun a K=>by kernel_rfl
theorem q4l:MT 224 (Ga Z5):=j4o Zl Ju Ux ⟨B0,q64,j4n,trivial⟩
def q44(X:B6):Con Sg:=conV [.ptr 248 [.own 318 C.node,.map C.node C.i64,.v],.v] [.ptr 248 [.vec 318 C.node,.map C.node C.i64,.bool],.int .i64] [.int .i64] [.ptr 248 [.vec 318 C.node,.map C.node C.i64,.bool],.same] fun a K=>X a.1.1 a.1.2.1 a.1.2.2.1 a.2.1 (fun q0 q1 q2 q3=>K (q0,()) ((q1,q2,q3,()),(),()))
theorem w1n(Q2:Z4)(h:AL [(224,Ga Q2)]):MT 219 (q44 (z86 Q2)):=mP (rk:=[.v]) h (by kernel_rfl) [] fun a K=>by kernel_rfl
theorem w1o:MT 219 (q44 Hm):=w1n Z5 ⟨q4l,trivial⟩
def q45(X:B7):Con Sg:=conV [.ptr 248 [.own 318 C.node,.map C.node C.i64,.v],.v,.v] [.ptr 248 [.vec 318 C.node,.map C.node C.i64,.bool],.int .i64,.int .i64] [.int .i64] [.ptr 248 [.vec 318 C.node,.map C.node C.i64,.bool],.same,.same] fun a K=>X a.1.1 a.1.2.1 a.1.2.2.1 a.2.1 a.2.2.1 (fun q0 q1 q2 q3=>K (q0,()) ((q1,q2,q3,()),(),(),()))
theorem w1p(Qq:Zk)(Q2:Z4)(h:AL [(223,Wt Qq),(224,Ga Q2)]):MT 220 (q45 (z87 Qq Q2)):=mP (rk:=[.v]) h (by kernel_rfl) [] fun a K=>by kernel_rfl
theorem w1q:MT 220 (q45 Hn):=w1p Zl Z5 ⟨B0,q4l,trivial⟩
def q26(X:Gi):Con Sg:=conV [.ptr 248 [.own 318 C.node,.map C.node C.i64,.v],.v,.v] [.ptr 248 [.vec 318 C.node,.map C.node C.i64,.bool],.int .i64,.int .i64] [.int .i64] [.ptr 248 [.vec 318 C.node,.map C.node C.i64,.bool],.same,.same] fun a K=>X a.1.1 a.1.2.1 a.1.2.2.1 a.2.1 a.2.2.1 (fun q0 q1 q2 q3=>K (q0,()) ((q1,q2,q3,()),(),(),()))
theorem w44(Qq:Zk)(Q2:Z4)(h:AL [(223,Wt Qq),(224,Ga Q2)]):MT 169 (q26 (j1t Qq Q2)):=mP (rk:=[.v]) h (by kernel_rfl) [] fun a K=>by kernel_rfl
theorem j15:MT 169 (q26 Vw):=w44 Zl Z5 ⟨B0,q4l,trivial⟩
def q9e(X:Wi):Con Sg:=conV [.ptr 248 [.own 318 C.node,.map C.node C.i64,.v],.sl C.ex,.el C.ex] [.ptr 248 [.vec 318 C.node,.map C.node C.i64,.bool],.sl C.ex,.el C.ex] [.int .i64] [.ptr 248 [.vec 318 C.node,.map C.node C.i64,.bool],.same,.same] fun a K=>X a.1.1 a.1.2.1 a.1.2.2.1 a.2.1 a.2.2.1 (fun q0 q1 q2 q3=>K (q0,()) ((q1,q2,q3,()),(),(),()))
def z4q:PT:=Q5 ([(16,⟨bl 129127,[3,0,1,2],[],[sB 26]⟩),(21,⟨bl 68249843815,[3],[(0,(248,3))],[sI 7,sI 8,(.cell 0 0,.own 318 C.node),(.cell 0 2,.bool),(.obj 2,.map C.node C.i64)]⟩)]:LS)
theorem j4p(q49:B6)(q5a:B7)(Wz:Gi)(Uk:q01)(Jx:Vd)(X:Wi)(ns:List (Nd))(ids:(Nd->Option (Int)))(full:Bool)(atoms:List (Ex))(e:Ex)(K:Int->List (Nd)->(Nd->Option (Int))->Bool->Prop):q79 q49 q5a Wz Uk Jx X ns ids full atoms e K=fnV (((WL [(219,q44 q49),(220,q45 q5a),(169,q26 Wz),(221,q4i Uk),(222,U9 Jx)]).with 168 (q9e X)).pl z4q) 4 168 ([.ptr 248 [.own 318 C.node,.map C.node C.i64,.v],.sl C.ex,.el C.ex]:LP) ([.v]:LP) ([.ptr 248 [.vec 318 C.node,.map C.node C.i64,.bool],.sl C.ex,.el C.ex]:LV) ([.int .i64]:LV) ([.ptr 248 [.vec 318 C.node,.map C.node C.i64,.bool],.same,.same]:LV) ((ns,ids,full,()),atoms,e,()) (fun r o=>K r.1 o.1.1 o.1.2.1 o.1.2.2.1):=by kernel_rfl
theorem j9l:MT 168 (q9e H7):=by
 show MT _ (conV ([.ptr 248 [.own 318 C.node,.map C.node C.i64,.v],.sl C.ex,.el C.ex]:LP) ([.ptr 248 [.vec 318 C.node,.map C.node C.i64,.bool],.sl C.ex,.el C.ex]:LV) ([.int .i64]:LV) ([.ptr 248 [.vec 318 C.node,.map C.node C.i64,.bool],.same,.same]:LV) fun a K=>H7 a.1.1 a.1.2.1 a.1.2.2.1 a.2.1 a.2.2.1 (fun q0 q1 q2 q3=>K (q0,()) ((q1,q2,q3,()),(),(),())))
 refine mR (l:=[(219,q44 Hm),(220,q45 Hn),(169,q26 Vw),(221,q4i Ui),(222,U9 Jl)]) (u:=4) (rk:=[.v]) (p:=z4q) ⟨w1o,w1q,j15,j9h,z59,trivial⟩ (by kernel_rfl) fun a K h X hX=> ?_
 exact h (fun ns ids full atoms e K=>X ((ns,ids,full,()),atoms,e,()) fun r o=>K r.1 o.1.1 o.1.2.1 o.1.2.2.1) (fun ns ids full atoms e K hs=>hX ((ns,ids,full,()),atoms,e,()) (fun r o=>K r.1 o.1.1 o.1.2.1 o.1.2.2.1) (Eq.mp (j4p Hm Hn Vw Ui Jl (fun ns ids full atoms e K=>X ((ns,ids,full,()),atoms,e,()) fun r o=>K r.1 o.1.1 o.1.2.1 o.1.2.2.1) ns ids full atoms e K) hs))
def Bh(X:J4):Con Sg:=conS [.sl C.rule] [.vec 3 C.i64,.int .i64,.bool] fun a K=>X a.1 (fun q0 q1 q2=>K (q0,q1,q2,()))
theorem j4q(j3e:j1r)(q3p:H5)(q3q:Wi)(Wz:Gi)(h:AL [(166,w70 j3e),(167,q9d q3p),(168,q9e q3q),(169,q26 Wz)]):MT 116 (Bh (q33 j3e q3p q3q Wz)):=mS h (by kernel_rfl) [(13,⟨bl 28769,[],[(0,(248,3))],[sI 7,(.slot 8,.own 3 C.i64),sI 9,(.cell 0 0,.own 318 C.node),(.cell 0 2,.bool),(.obj 2,.map C.node C.i64)]⟩)] fun a K=>by kernel_rfl
theorem z2e:MT 116 (Bh J5):=j4q j8z H6 H7 Vw ⟨v9m,j9j,j9l,j15,trivial⟩
def j9m(X:z5f):Con Sg:=conV [.ptr 104 [.c,.v],.v] [.ptr 104 [.sl C.u8,.int .i64],.str] [.el C.layer] [.ptr 104 [.same,.int .i64],.same] fun a K=>X a.1.1 a.1.2.1 a.2.1 (fun q0 q1=>K (q0,()) (((),q1,()),(),()))
theorem v9o(Wn:q1z)(Qb:Zj)(Wy:q6w)(h:AL [(58,z7z Wn),(49,Vn Qb),(51,j13 Wy)]):MT 62 (j9m (j80 Wn Qb Wy)):=mP (rk:=[.el C.layer]) h (by kernel_rfl) [(8,⟨bl 130099,[1],[(2,(59,6)),(0,(104,2))],[(.cell 2 1,.str),(.cell 0 1,.int .i64)]⟩),(12,⟨bl 130099,[1],[(2,(59,6)),(0,(104,2))],[(.cell 2 3,.int .i64),(.cell 0 1,.int .i64)]⟩),(17,⟨bl 130099,[1],[(2,(59,6)),(0,(104,2))],[sI 6,sI 7,(.cell 2 5,.own 197 C.cool),(.cell 0 1,.int .i64)]⟩)] fun a K=>by kernel_rfl
theorem v9p:MT 62 (j9m z5g):=v9o q10 Ze q6x ⟨j7r,Gt,w40,trivial⟩
def w3o(X:z7r):Con Sg:=conS [.int .i64] [.bool] fun a K=>X a.1 (fun q0=>K (q0,()))
theorem v5e:MT 149 (w3o z1l):=mS (l:=[]) trivial (by kernel_rfl) [] fun a K=>by kernel_rfl
def q27(X:J9):Con Sg:=conS [.el C.env,.str] [.int .i64] fun a K=>X a.1 a.2.1 (fun q0=>K (q0,()))
theorem q65:MT 41 (q27 Jn):=mS (l:=[]) trivial (by kernel_rfl) [(5,⟨[0,1,2],[0],[],[sI 5]⟩)] fun a K=>by kernel_rfl
def z6a(X:q13):Con Sg:=conS [.sl C.cool,.int .i64] [.vec 3 C.i64] fun a K=>X a.1 a.2.1 (fun q0=>K (q0,()))
theorem j9n:MT 95 (z6a H8):=mS (l:=[]) trivial (by kernel_rfl) [(7,⟨bl 563,[],[],[sI 6,(.obj 0,.own 3 C.i64)]⟩),(15,⟨bl 15987,[],[],[sI 7,(.obj 0,.own 3 C.i64)]⟩),(21,⟨bl 4243603187,[],[],[sI 8,(.obj 0,.own 3 C.i64)]⟩)] fun _ _=>by kernel_rfl
end Go.En
end
noncomputable section
set_option maxRecDepth 100000
open Go Go.RowKit Go.Fl Go.Fl.Lk Go.Fx
namespace Go.En
def q4m(X:Wq):Con Sg:=conS [.sl C.bool] [.vec 95 C.span] fun a K=>X a.1 (fun q0=>K (q0,()))
theorem q9f:MT 150 (q4m J6):=mS (l:=[]) trivial (by kernel_rfl) [(7,⟨[0,2],[],[],[(.slot 3,.own 95 C.span),sI 4]⟩)] fun a K=>by kernel_rfl
def j0b(X:q8a):Con Sg:=conS [.sl C.i64,.int .i64] [.vec 95 C.span] fun a K=>X a.1 a.2.1 (fun q0=>K (q0,()))
theorem v0s(Q6:Wq)(h:AL [(150,q4m Q6)]):MT 151 (j0b (z9s Q6)):=mS h (by kernel_rfl) [(7,⟨bl 947,[],[],[sI 6,(.obj 0,.own 4 C.bool)]⟩)] fun a K=>by kernel_rfl
theorem v0t:MT 151 (j0b q8b):=v0s J6 ⟨q9f,trivial⟩
def z6b(X:B8):Con Sg:=conS [.sl C.span] [.vec 4 C.bool] fun a K=>X a.1 (fun q0=>K (q0,()))
theorem j16:MT 96 (z6b H9):=mS (l:=[]) trivial (by kernel_rfl) [(7,⟨bl 77,[],[],[sI 4,(.obj 0,.own 4 C.bool)]⟩),(13,⟨bl 518109,[],[],[sI 5,(.obj 0,.own 4 C.bool)]⟩)] fun a K=>by kernel_rfl
def j0c(X:q8c):Con Sg:=conS [.sl C.span,.sl C.span] [.vec 95 C.span] fun a K=>X a.1 a.2.1 (fun q0=>K (q0,()))
theorem v0u(Je:B8)(Q6:Wq)(h:AL [(96,z6b Je),(150,q4m Q6)]):MT 90 (j0c (z9t Je Q6)):=mS h (by kernel_rfl) [(7,⟨bl 3955,[1],[],[sI 7,(.obj 0,.own 4 C.bool)]⟩)] fun a K=>by kernel_rfl
theorem v0v:MT 90 (j0c q8d):=v0u H9 J6 ⟨j16,q9f,trivial⟩
def j0d(X:q8e):Con Sg:=conS [.el C.env,.str,.str,.int .i64] [.vec 95 C.span] fun a K=>X a.1 a.2.1 a.2.2.1 a.2.2.2.1 (fun q0=>K (q0,()))
theorem v0w(Q7:J9)(q1h:q8c)(R3:q13)(q4v:q8a)(h:AL [(41,q27 Q7),(90,j0c q1h),(95,z6a R3),(151,j0b q4v)]):MT 94 (j0d (z9u Q7 q1h R3 q4v)):=mS h (by kernel_rfl) [(10,⟨bl 254751,[0],[],[(.slot 10,.own 95 C.span)]⟩),(13,⟨bl 254751,[0],[],[(.slot 10,.own 95 C.span),sI 11]⟩)] fun a K=>by kernel_rfl
theorem v0x:MT 94 (j0d q8f):=v0w Jn q8d H8 q8b ⟨q65,v0v,j9n,v0t,trivial⟩
def z3l(X:q02):Con Sg:=conS [.sl C.span,.sl C.span] [.vec 95 C.span] fun a K=>X a.1 a.2.1 (fun q0=>K (q0,()))
theorem v0y(Je:B8)(Q6:Wq)(h:AL [(96,z6b Je),(150,q4m Q6)]):MT 118 (z3l (z9v Je Q6)):=mS h (by kernel_rfl) [(7,⟨bl 3955,[1],[],[sI 7,(.obj 0,.own 4 C.bool)]⟩)] fun a K=>by kernel_rfl
theorem j9o:MT 118 (z3l q03):=v0y H9 J6 ⟨j16,q9f,trivial⟩
def j4r(X:z1m):Con Sg:=conS [.el C.env,.str,.int .i64] [.vec 95 C.span,.int .i64] fun a K=>X a.1 a.2.1 a.2.2.1 (fun q0 q1=>K (q0,q1,()))
theorem v5f(z8c:z7r)(Q7:J9)(z4b:q8e)(Gx:q02)(h:AL [(149,w3o z8c),(41,q27 Q7),(94,j0d z4b),(118,z3l Gx)]):MT 88 (j4r (j38 z8c Q7 z4b Gx)):=mS h (by kernel_rfl) [] fun a K=>by kernel_rfl
theorem v5g:MT 88 (j4r z1n):=v5f z1l Jn q8f q03 ⟨v5e,q65,v0x,j9o,trivial⟩
def j0e(X:q8g):Con Sg:=conS [.sl C.span,.int .i64] [.vec 95 C.span] fun a K=>X a.1 a.2.1 (fun q0=>K (q0,()))
theorem v0z(Je:B8)(Q6:Wq)(h:AL [(96,z6b Je),(150,q4m Q6)]):MT 91 (j0e (z9w Je Q6)):=mS h (by kernel_rfl) [(7,⟨bl 433,[],[],[sI 1,sI 6,(.obj 0,.own 4 C.bool)]⟩)] fun a K=>by kernel_rfl
theorem v00:MT 91 (j0e q8h):=v0z H9 J6 ⟨j16,q9f,trivial⟩
def q28(X:Vx):Con Sg:=conV [.v] [.str] [.bool] [.same] fun a K=>X a.1 (fun q0=>K (q0,()) ((),()))
theorem q97:MT 246 (q28 Jv):=⟨entB (by kernel_rfl),j11⟩
def Bi(X:Jt):Con Sg:=conS [.str] [.bool] fun a K=>X a.1 (fun q0=>K (q0,()))
theorem v5h(Zv:Vx)(h:AL [(246,q28 Zv)]):MT 209 (Bi (z7s Zv)):=mS h (by kernel_rfl) [(9,⟨bl 4081,[],[],[sI 3]⟩)] fun a K=>by kernel_rfl
theorem q4n:MT 209 (Bi Z6):=v5h Jv ⟨q97,trivial⟩
def w72(X:j1u):Con Sg:=conS [.str] [.bool] fun a K=>X a.1 (fun q0=>K (q0,()))
theorem v9q:MT 247 (w72 z5h):=mS (l:=[]) trivial (by kernel_rfl) [(5,⟨[0],[],[],[sI 3]⟩)] fun a K=>by kernel_rfl
def j17(X:q6y):Con Sg:=conS [] [.vec 9 C.str] fun _ K=>X (fun q0=>K (q0,()))
theorem w45:MT 248 (j17 q14):=mS (l:=[]) trivial (by kernel_rfl) [] fun a K=>by kernel_rfl
def Bj(X:Jo):Con Sg:=conS [.str] [.bool] fun a K=>X a.1 (fun q0=>K (q0,()))
theorem y3q(j3f:j1u)(q7b:q6y)(h:AL [(247,w72 j3f),(248,j17 q7b)]):MT 210 (Bj (w4t j3f q7b)):=mS h (by kernel_rfl) [(11,⟨bl 16361,[0],[],[sI 4]⟩)] fun a K=>by kernel_rfl
theorem q29:MT 210 (Bj Jp):=y3q z5h q14 ⟨v9q,w45,trivial⟩
def z3m(X:q15):Con Sg:=conS [.el C.settings] [.int .i64] fun a K=>X a.1 (fun q0=>K (q0,()))
theorem w46(Qs:Jt)(Ql:Jo)(h:AL [(209,Bi Qs),(210,Bj Ql)]):MT 152 (z3m (z2z Qs Ql)):=mS h (by kernel_rfl) [] fun _ _=>by kernel_rfl
theorem w47:MT 152 (z3m q16):=w46 Z6 Jp ⟨q4n,q29,trivial⟩
end Go.En
end
noncomputable section
set_option maxRecDepth 100000
open Go Go.RowKit Go.Fl Go.Fl.Lk Go.Fx
namespace Go.En
def z3n(X:q17):Con Sg:=conS [.sl C.decl] [.int .i64] fun a K=>X a.1 (fun q0=>K (q0,()))
theorem w48(Ql:Jo)(h:AL [(210,Bj Ql)]):MT 153 (z3n (z22 Ql)):=mS h (by kernel_rfl) [(9,⟨bl 113,[],[],[sI 3]⟩)] fun a K=>by kernel_rfl
theorem w49:MT 153 (z3n q18):=w48 Jp ⟨q29,trivial⟩
def q98(X:Ra):Con Sg:=conS [.sl C.str] [.int .i64] fun a K=>X a.1 (fun q0=>K (q0,()))
theorem w73(Qs:Jt)(h:AL [(209,Bi Qs)]):MT 249 (q98 (z5i Qs)):=mS h (by kernel_rfl) [(9,⟨bl 113,[],[],[sI 3]⟩)] fun a K=>by kernel_rfl
theorem j5u:MT 249 (q98 Rb):=w73 Z6 ⟨q4n,trivial⟩
def w74(X:j1v):Con Sg:=conS [.el C.ex] [.bool] fun a K=>X a.1 (fun q0=>K (q0,()))
theorem v9r:MT 250 (w74 z5j):=mS (l:=[]) trivial (by kernel_rfl) [] fun a K=>by kernel_rfl
def j0f(X:q8i):Con Sg:=conS [.el C.ex] [.bool] fun a K=>X a.1 (fun q0=>K (q0,()))
theorem v01(Qv:Wo)(h:AL [(143,R1 Qv)]):MT 301 (j0f (z9x Qv)):=mS h (by kernel_rfl) [(20,⟨bl 16327,[0],[],[sB 3,sB 4]⟩)] fun a K=>by kernel_rfl
theorem v02:MT 301 (j0f q8j):=v01 Jf ⟨q9c,trivial⟩
def w3p(X:z7t):Con Sg:=conS [.el C.val] [.bool] fun a K=>X a.1 (fun q0=>K (q0,()))
theorem v5i:MT 243 (w3p q34):=mS (l:=[]) trivial (by kernel_rfl) [] fun a K=>by kernel_rfl
def z4r(X:q0r):Con Sg:=conS [.str] [.int .i64,.int .i64] fun a K=>X a.1 (fun q0 q1=>K (q0,q1,()))
theorem j6n:MT 245 (z4r J1):=mS (l:=[]) trivial (by kernel_rfl) [(8,⟨bl 269,[],[],[(.slot 4,.str)]⟩),(11,⟨[0,4,8],[],[],[sI 5]⟩),(31,⟨bl 562915601547569,[],[],[sI 6,sI 7]⟩)] fun a K=>by kernel_rfl
def z71(X:q35):Con Sg:=conS [.str] [.el C.a3,.bool] fun a K=>X a.1 (fun q0 q1=>K (q0,q1,()))
theorem v5j(Hk:q0r)(h:AL [(245,z4r Hk)]):MT 207 (z71 (z7u Hk)):=mS h (by kernel_rfl) [(9,⟨[0,2,4],[],[(1,(257,3)),(0,(257,3))],[sI 5,sI 6,(.cell 1 0,.int .i64),(.cell 1 1,.int .i64),(.cell 1 2,.int .i64),(.cell 0 0,.int .i64),(.cell 0 1,.int .i64),(.cell 0 2,.int .i64)]⟩),(15,⟨bl 19669,[1,0],[],[sI 5]⟩)] fun a K=>by kernel_rfl
theorem w3q:MT 207 (z71 Bb):=v5j J1 ⟨j6n,trivial⟩
def j9p(X:z5k):Con Sg:=conS [.sl C.str] [.int .i64] fun a K=>X a.1 (fun q0=>K (q0,()))
theorem v9s(Qs:Jt)(h:AL [(209,Bi Qs)]):MT 244 (j9p (j1w Qs)):=mS h (by kernel_rfl) [(9,⟨bl 225,[],[],[sI 3]⟩),(19,⟨bl 4073,[],[],[sI 4]⟩)] fun a K=>by kernel_rfl
theorem v9t:MT 244 (j9p q8k):=v9s Z6 ⟨q4n,trivial⟩
def z2f(X:Bc):Con Sg:=conS [.el C.val] [.int .i64] fun a K=>X a.1 (fun q0=>K (q0,()))
theorem v5k(z8d:z7t)(Qs:Jt)(Hr:q35)(j3g:z5k)(h:AL [(243,w3p z8d),(209,Bi Qs),(207,z71 Hr),(244,j9p j3g)]):MT 205 (z2f (z7v z8d Qs Hr j3g)):=mS h (by kernel_rfl) [] fun a K=>by kernel_rfl
theorem j4s:MT 205 (z2f Uy):=v5k q34 Z6 Bb q8k ⟨v5i,q4n,w3q,v9t,trivial⟩
def j18(X:z5l):Con Sg:=conS [.el C.ex] [.int .i64] fun a K=>X a.1 (fun q0=>K (q0,()))
theorem v9u(z4c:q8i)(Qv:Wo)(Ql:Jo)(Zy:Bc)(h:AL [(301,j0f z4c),(143,R1 Qv),(210,Bj Ql),(205,z2f Zy)]):MT 292 (j18 (j81 z4c Qv Ql Zy)):=mS h (by kernel_rfl) [(17,⟨bl 134217667,[0],[],[sI 3]⟩),(31,⟨bl 9412450882139616968651,[0],[],[sI 4]⟩)] fun a K=>by kernel_rfl
theorem v9v:MT 292 (j18 z1o):=v9u q8j Jf Jp Uy ⟨v02,q9c,q29,j4s,trivial⟩
def j9q(X:q5k):Con Sg:=conV [.el C.ex,.v,.ptr 3 [.v]] [.el C.ex,.int .i64,.ptr 3 [.int .i64]] [.int .i64] [.same,.same,.ptr 3 [.int .i64]] fun a K=>X a.1 a.2.1 a.2.2.1.1 (fun q0 q1=>K (q0,()) ((),(),(q1,()),()))
def w3r:PT:=Q5 ([(21,⟨bl 33553551,[1],[(0,(3,1))],[sI 8,(.cell 0 0,.int .i64)]⟩)]:LS)
theorem v03(j3h:z5l)(X:q5k)(e:Ex)(depth:Int)(n:Int)(K:Int->Int->Prop):j82 j3h X e depth n K=fnV (((WL [(292,j18 j3h)]).with 277 (j9q X)).pl w3r) 4 277 ([.el C.ex,.v,.ptr 3 [.v]]:LP) ([.v]:LP) ([.el C.ex,.int .i64,.ptr 3 [.int .i64]]:LV) ([.int .i64]:LV) ([.same,.same,.ptr 3 [.int .i64]]:LV) (e,depth,(n,()),()) (fun r o=>K r.1 o.2.2.1.1):=by kernel_rfl
theorem v9w:MT 277 (j9q z5m):=by
 show MT _ (conV ([.el C.ex,.v,.ptr 3 [.v]]:LP) ([.el C.ex,.int .i64,.ptr 3 [.int .i64]]:LV) ([.int .i64]:LV) ([.same,.same,.ptr 3 [.int .i64]]:LV) fun a K=>z5m a.1 a.2.1 a.2.2.1.1 (fun q0 q1=>K (q0,()) ((),(),(q1,()),())))
 refine mR (l:=[(292,j18 z1o)]) (u:=4) (rk:=[.v]) (p:=w3r) ⟨v9v,trivial⟩ (by kernel_rfl) fun a K h X hX=> ?_
 exact h (fun e depth n K=>X (e,depth,(n,()),()) fun r o=>K r.1 o.2.2.1.1) (fun e depth n K hs=>hX (e,depth,(n,()),()) (fun r o=>K r.1 o.2.2.1.1) (Eq.mp (v03 z1o (fun e depth n K=>X (e,depth,(n,()),()) fun r o=>K r.1 o.2.2.1.1) e depth n K) hs))
def z6c(X:q19):Con Sg:=conS [.el C.ex] [.int .i64] fun a K=>X a.1 (fun q0=>K (q0,()))
theorem v9x(j3i:q5k)(h:AL [(277,j9q j3i)]):MT 251 (z6c (j83 j3i)):=mS h (by kernel_rfl) [] fun a K=>by kernel_rfl
theorem j9r:MT 251 (z6c q2a):=v9x z5m ⟨v9w,trivial⟩
def z6d(X:q5l):Con Sg:=conS [.el C.seg] [.int .i64] fun a K=>X a.1 (fun q0=>K (q0,()))
theorem w75(Ql:Jo)(Va:Ra)(j3j:j1v)(Ua:q19)(h:AL [(210,Bj Ql),(249,q98 Va),(250,w74 j3j),(251,z6c Ua)]):MT 211 (z6d (z5n Ql Va j3j Ua)):=mS h (by kernel_rfl) [] fun a K=>by kernel_rfl
theorem w76:MT 211 (z6d q5m):=w75 Jp Rb z5j q2a ⟨q29,j5u,v9r,j9r,trivial⟩
def z3o(X:q2b):Con Sg:=conS [.sl C.seg] [.int .i64] fun a K=>X a.1 (fun q0=>K (q0,()))
theorem w5a(z0g:q5l)(h:AL [(211,z6d z0g)]):MT 154 (z3o (z23 z0g)):=mS h (by kernel_rfl) [(9,⟨bl 225,[],[],[sI 3]⟩)] fun _ _=>by kernel_rfl
theorem w5b:MT 154 (z3o q2c):=w5a q5m ⟨w76,trivial⟩
end Go.En
end
noncomputable section
set_option maxRecDepth 100000
open Go Go.RowKit Go.Fl Go.Fl.Lk Go.Fx
namespace Go.En
def q9g(X:Rd):Con Sg:=conS [.el C.flag] [.int .i64] fun a K=>X a.1 (fun q0=>K (q0,()))
theorem j9s(Zy:Bc)(h:AL [(205,z2f Zy)]):MT 252 (q9g (q8l Zy)):=mS h (by kernel_rfl) [(15,⟨bl 8139,[0],[],[sI 4]⟩)] fun a K=>by kernel_rfl
theorem j9t:MT 252 (q9g Re):=j9s Uy ⟨j4s,trivial⟩
def q3a(X:Vy):Con Sg:=conS [.sl C.prereq] [.int .i64] fun a K=>X a.1 (fun q0=>K (q0,()))
theorem j19(Ql:Jo)(h:AL [(210,Bj Ql)]):MT 253 (q3a (q2d Ql)):=mS h (by kernel_rfl) [(9,⟨bl 113,[],[],[sI 3]⟩)] fun a K=>by kernel_rfl
theorem j2a:MT 253 (q3a Vz):=j19 Jp ⟨q29,trivial⟩
def z6e(X:q5n):Con Sg:=conS [.sl C.target,.int .i64] [.int .i64] fun a K=>X a.1 a.2.1 (fun q0=>K (q0,()))
theorem w77(Ql:Jo)(Va:Ra)(h:AL [(210,Bj Ql),(249,q98 Va)]):MT 254 (z6e (z5o Ql Va)):=mS h (by kernel_rfl) [(9,⟨bl 899,[],[],[sI 5]⟩)] fun a K=>by kernel_rfl
theorem w78:MT 254 (z6e q5o):=w77 Jp Rb ⟨q29,j5u,trivial⟩
def j4t(X:q7r):Con Sg:=conS [.sl C.range,.int .i64] [.int .i64] fun a K=>X a.1 a.2.1 (fun q0=>K (q0,()))
theorem w3s:MT 258 (j4t q36):=mS (l:=[]) trivial (by kernel_rfl) [(11,⟨bl 899,[],[],[sI 5,sI 6]⟩)] fun a K=>by kernel_rfl
def z72(X:q37):Con Sg:=conS [.el C.serve,.int .i64] [.int .i64] fun a K=>X a.1 a.2.1 (fun q0=>K (q0,()))
theorem v5l(Ql:Jo)(Qs:Jt)(Bm:q7r)(h:AL [(210,Bj Ql),(209,Bi Qs),(258,j4t Bm)]):MT 256 (z72 (j39 Ql Qs Bm)):=mS h (by kernel_rfl) [] fun a K=>by kernel_rfl
theorem w3t:MT 256 (z72 q38):=v5l Jp Z6 q36 ⟨q29,q4n,w3s,trivial⟩
def j4u(X:z1p):Con Sg:=conS [.sl C.rule,.int .i64] [.int .i64] fun a K=>X a.1 a.2.1 (fun q0=>K (q0,()))
theorem v5m(Ql:Jo)(Ua:q19)(Bn:q37)(h:AL [(210,Bj Ql),(251,z6c Ua),(256,z72 Bn)]):MT 255 (j4u (j4a Ql Ua Bn)):=mS h (by kernel_rfl) [(9,⟨bl 3587,[],[],[sI 5]⟩),(19,⟨bl 33357347,[],[],[sI 6]⟩)] fun a K=>by kernel_rfl
theorem v5n:MT 255 (j4u z1q):=v5m Jp q2a q38 ⟨q29,j9r,w3t,trivial⟩
def j9u(X:z5p):Con Sg:=conS [.el C.flag] [.int .i64] fun a K=>X a.1 (fun q0=>K (q0,()))
theorem v9y(Ql:Jo)(q3r:Rd)(Hx:Vy)(z0h:q5n)(z8e:z1p)(Bn:q37)(h:AL [(210,Bj Ql),(252,q9g q3r),(253,q3a Hx),(254,z6e z0h),(255,j4u z8e),(256,z72 Bn)]):MT 212 (j9u (j84 Ql q3r Hx z0h z8e Bn)):=mS h (by kernel_rfl) [] fun a K=>by kernel_rfl
theorem v9z:MT 212 (j9u z5q):=v9y Jp Re Vz q5o z1q q38 ⟨q29,j9t,j2a,w78,v5n,w3t,trivial⟩
def j4v(X:z1r):Con Sg:=conS [.sl C.flag] [.int .i64] fun a K=>X a.1 (fun q0=>K (q0,()))
theorem v5o(j3k:z5p)(h:AL [(212,j9u j3k)]):MT 155 (j4v (j4b j3k)):=mS h (by kernel_rfl) [(9,⟨bl 225,[],[],[sI 3]⟩)] fun a K=>by kernel_rfl
theorem v5p:MT 155 (j4v z1s):=v5o z5q ⟨v9z,trivial⟩
def j4w(X:z1t):Con Sg:=conS [.el C.layer] [.int .i64] fun a K=>X a.1 (fun q0=>K (q0,()))
theorem v5q(Ql:Jo)(Qs:Jt)(h:AL [(210,Bj Ql),(209,Bi Qs)]):MT 213 (j4w (j4c Ql Qs)):=mS h (by kernel_rfl) [(21,⟨bl 2199023255523,[0],[],[sI 3]⟩)] fun a K=>by kernel_rfl
theorem v5r:MT 213 (j4w z1u):=v5q Jp Z6 ⟨q29,q4n,trivial⟩
def j0g(X:q8m):Con Sg:=conS [.sl C.layer] [.int .i64] fun a K=>X a.1 (fun q0=>K (q0,()))
theorem v04(z8f:z1t)(h:AL [(213,j4w z8f)]):MT 156 (j0g (z9y z8f)):=mS h (by kernel_rfl) [(9,⟨bl 225,[],[],[sI 3]⟩)] fun a K=>by kernel_rfl
theorem v05:MT 156 (j0g q8n):=v04 z1u ⟨v5r,trivial⟩
def w3u(X:z7w):Con Sg:=conS [.sl C.span] [.int .i64] fun a K=>X a.1 (fun q0=>K (q0,()))
theorem v5s:MT 257 (w3u z1v):=mS (l:=[]) trivial (by kernel_rfl) [(9,⟨bl 113,[],[],[sI 3]⟩)] fun a K=>by kernel_rfl
def q9h(X:Rf):Con Sg:=conS [.el C.exper] [.int .i64] fun a K=>X a.1 (fun q0=>K (q0,()))
theorem j9v(Ql:Jo)(Qs:Jt)(z8g:z7w)(Bm:q7r)(Ua:q19)(h:AL [(210,Bj Ql),(209,Bi Qs),(257,w3u z8g),(258,j4t Bm),(251,z6c Ua)]):MT 214 (q9h (q8o Ql Qs z8g Bm Ua)):=mS h (by kernel_rfl) [] fun a K=>by kernel_rfl
theorem j9w:MT 214 (q9h Rg):=j9v Jp Z6 z1v q36 q2a ⟨q29,q4n,v5s,w3s,j9r,trivial⟩
def q6k(X:G7):Con Sg:=conS [.sl C.exper] [.int .i64] fun a K=>X a.1 (fun q0=>K (q0,()))
theorem j6o(q3s:Rf)(h:AL [(214,q9h q3s)]):MT 157 (q6k (q6f q3s)):=mS h (by kernel_rfl) [(9,⟨bl 225,[],[],[sI 3]⟩)] fun a K=>by kernel_rfl
theorem j6p:MT 157 (q6k G8):=j6o Rg ⟨j9w,trivial⟩
def q6l(X:G9):Con Sg:=conS [.el C.env] [.int .i64] fun a K=>X a.1 (fun q0=>K (q0,()))
theorem j6q(q7c:q15)(q7d:q17)(q7e:q2b)(z8h:z1r)(z4d:q8m)(q0w:G7)(h:AL [(152,z3m q7c),(153,z3n q7d),(154,z3o q7e),(155,j4v z8h),(156,j0g z4d),(157,q6k q0w)]):MT 99 (q6l (q6g q7c q7d q7e z8h z4d q0w)):=mS h (by kernel_rfl) [] fun _ _=>by kernel_rfl
theorem j6r:MT 99 (q6l Ha):=j6q q16 q18 q2c z1s q8n G8 ⟨w47,w49,w5b,v5p,v05,j6p,trivial⟩
end Go.En
end
noncomputable section
set_option maxRecDepth 100000
open Go Go.RowKit Go.Fl Go.Fl.Lk Go.Fx
namespace Go.En
def z2g(X:Ho):Con Sg:=conS [.sl C.seg] [.vec 9 C.str] fun a K=>X a.1 (fun q0=>K (q0,()))
theorem z73:MT 100 (z2g Hp):=mS (l:=[]) trivial (by kernel_rfl) [(7,⟨[0,2],[],[],[(.slot 3,.own 9 C.str),sI 4]⟩)] fun a K=>by kernel_rfl
def q3b(X:Vm):Con Sg:=conS [.sl C.str,.str] [.bool] fun a K=>X a.1 a.2.1 (fun q0=>K (q0,()))
theorem q99:MT 81 (q3b Wa):=mS (l:=[]) trivial (by kernel_rfl) [(5,⟨[0,1],[],[],[sI 5]⟩)] fun a K=>by kernel_rfl
def j2b(X:z1w):Con Sg:=conS [.sl C.decl,.str,.str] [.int .i64] fun a K=>X a.1 a.2.1 a.2.2.1 (fun q0=>K (q0,()))
theorem w79:MT 158 (j2b q2e):=mS (l:=[]) trivial (by kernel_rfl) [(5,⟨[0,1,2],[],[],[sI 7]⟩)] fun a K=>by kernel_rfl
def j9x(X:j1x):Con Sg:=conS [.int .i64,.el C.ex] [.bool] fun a K=>X a.1 a.2.1 (fun q0=>K (q0,()))
theorem v90:MT 159 (j9x q8p):=mS (l:=[]) trivial (by kernel_rfl) [(11,⟨bl 8075,[0],[],[sI 5]⟩),(36,⟨bl 8795019288539,[0],[],[sB 46]⟩)] fun a K=>by kernel_rfl
def z6f(X:Hb):Con Sg:=conV [.sl C.decl,.sl C.str,.el C.ex] [.sl C.decl,.sl C.str,.el C.ex] [.int .i64] [.same,.same,.same] fun a K=>X a.1 a.2.1 a.2.2.1 (fun q0=>K (q0,()) ((),(),(),()))
def w3v:PT:=Q5 ([(18,⟨bl 1047591,[0],[],[]⟩),(21,⟨bl 1047591,[0],[],[sI 8]⟩)]:LS)
theorem v06(Qy:Vm)(Qv:Wo)(q0l:z1w)(z7c:j1x)(X:Hb)(l:List (Decl))(segments:List (ByteArray))(e:Ex)(K:Int->Prop):j85 Qy Qv q0l z7c X l segments e K=fnV (((WL [(81,q3b Qy),(143,R1 Qv),(158,j2b q0l),(159,j9x z7c)]).with 101 (z6f X)).pl w3v) 4 101 ([.sl C.decl,.sl C.str,.el C.ex]:LP) ([.v]:LP) ([.sl C.decl,.sl C.str,.el C.ex]:LV) ([.int .i64]:LV) ([.same,.same,.same]:LV) (l,segments,e,()) (fun r _=>K r.1):=by kernel_rfl
theorem j9y:MT 101 (z6f q2f):=by
 show MT _ (conV ([.sl C.decl,.sl C.str,.el C.ex]:LP) ([.sl C.decl,.sl C.str,.el C.ex]:LV) ([.int .i64]:LV) ([.same,.same,.same]:LV) fun a K=>q2f a.1 a.2.1 a.2.2.1 (fun q0=>K (q0,()) ((),(),(),())))
 refine mR (l:=[(81,q3b Wa),(143,R1 Jf),(158,j2b q2e),(159,j9x q8p)]) (u:=4) (rk:=[.v]) (p:=w3v) ⟨q99,q9c,w79,v90,trivial⟩ (by kernel_rfl) fun a K h X hX=> ?_
 exact h (fun l segments e K=>X (l,segments,e,()) fun r _=>K r.1) (fun l segments e K hs=>hX (l,segments,e,()) (fun r _=>K r.1) (Eq.mp (v06 Wa Jf q2e q8p (fun l segments e K=>X (l,segments,e,()) fun r _=>K r.1) l segments e K) hs))
def z74(X:q4x):Con Sg:=conS [.sl C.str,.str] [.sl C.str] fun a K=>X a.1 a.2.1 (fun q0=>K (q0,()))
theorem j7v:MT 85 (z74 q0s):=mS (l:=[]) trivial (by kernel_rfl) [(5,⟨[0,1,4],[],[],[sI 5]⟩)] fun a K=>by kernel_rfl
def z6g(X:Gf):Con Sg:=conV [.sl C.str,.el C.ex] [.sl C.str,.el C.ex] [.sl C.str] [.same,.same] fun a K=>X a.1 a.2.1 (fun q0=>K (q0,()) ((),(),()))
def j2c:PT:=Q5 ([(6,⟨[1,3,4],[0],[],[(.slot 0,.sl C.str)]⟩),(9,⟨[1,3,4],[0],[],[(.slot 0,.sl C.str),sI 5]⟩)]:LS)
theorem w1r(W0:q4x)(X:Gf)(l:List (ByteArray))(e:Ex)(K:List (ByteArray)->Prop):q90 W0 X l e K=fnV (((WL [(85,z74 W0)]).with 216 (z6g X)).pl j2c) 4 216 ([.sl C.str,.el C.ex]:LP) ([.sl C.str]:LP) ([.sl C.str,.el C.ex]:LV) ([.sl C.str]:LV) ([.same,.same]:LV) (l,e,()) (fun r _=>K r.1):=by kernel_rfl
theorem w8a:MT 216 (z6g q1m):=by
 show MT _ (conV ([.sl C.str,.el C.ex]:LP) ([.sl C.str,.el C.ex]:LV) ([.sl C.str]:LV) ([.same,.same]:LV) fun a K=>q1m a.1 a.2.1 (fun q0=>K (q0,()) ((),(),())))
 refine mR (l:=[(85,z74 q0s)]) (u:=4) (rk:=[.sl C.str]) (p:=j2c) ⟨j7v,trivial⟩ (by kernel_rfl) fun a K h X hX=> ?_
 exact h (fun l e K=>X (l,e,()) fun r _=>K r.1) (fun l e K hs=>hX (l,e,()) (fun r _=>K r.1) (Eq.mp (w1r q0s (fun l e K=>X (l,e,()) fun r _=>K r.1) l e K) hs))
def z6h(X:q5p):Con Sg:=conS [.el C.ex] [.sl C.str] fun a K=>X a.1 (fun q0=>K (q0,()))
theorem w8b(z0i:Gf)(h:AL [(216,z6g z0i)]):MT 161 (z6h (q91 z0i)):=mS h (by kernel_rfl) [] fun a K=>by kernel_rfl
theorem w8c:MT 161 (z6h Rh):=w8b q1m ⟨w8a,trivial⟩
def z3p(X:q04):Con Sg:=conS [.sl C.seg] [.vec 217 C.edge] fun a K=>X a.1 (fun q0=>K (q0,()))
theorem v07(z0j:q5p)(h:AL [(161,z6h z0j)]):MT 103 (z3p (z25 z0j)):=mS h (by kernel_rfl) [(7,⟨[0,2],[],[],[(.slot 3,.own 217 C.edge),sI 4]⟩),(15,⟨bl 518069,[],[],[(.slot 3,.own 217 C.edge),sI 6]⟩)] fun a K=>by kernel_rfl
theorem j9z:MT 103 (z3p Gj):=v07 Rh ⟨w8c,trivial⟩
def j4x(X:z1x):Con Sg:=conS [.sl C.edge,.str] [.sl C.str] fun a K=>X a.1 a.2.1 (fun q0=>K (q0,()))
theorem v5t(Qy:Vm)(W0:q4x)(h:AL [(81,q3b Qy),(85,z74 W0)]):MT 215 (j4x (j4d Qy W0)):=mS h (by kernel_rfl) [(7,⟨bl 1555,[],[],[(.slot 5,.sl C.str),(.slot 6,.sl C.str)]⟩),(15,⟨bl 522899,[],[],[(.slot 5,.sl C.str),(.slot 6,.sl C.str),sI 8]⟩)] fun a K=>by kernel_rfl
theorem v5u:MT 215 (j4x z1y):=v5t Wa q0s ⟨q99,j7v,trivial⟩
def j0h(X:q8q):Con Sg:=conS [.sl C.str,.sl C.edge] [.sl C.str] fun a K=>X a.1 a.2.1 (fun q0=>K (q0,()))
theorem v08(z8i:z1x)(Qy:Vm)(W0:q4x)(h:AL [(215,j4x z8i),(81,q3b Qy),(85,z74 W0)]):MT 160 (j0h (z9z z8i Qy W0)):=mS h (by kernel_rfl) [(7,⟨[0,1,4],[],[],[(.slot 5,.sl C.str),sI 6]⟩)] fun a K=>by kernel_rfl
theorem v09:MT 160 (j0h q8r):=v08 z1y Wa q0s ⟨v5u,q99,j7v,trivial⟩
def j0i(X:q8s):Con Sg:=conS [.sl C.str,.sl C.edge] [.str,.bool] fun a K=>X a.1 a.2.1 (fun q0 q1=>K (q0,q1,()))
theorem v1a(z4e:q8q)(h:AL [(160,j0h z4e)]):MT 102 (j0i (z90 z4e)):=mS h (by kernel_rfl) [] fun a K=>by kernel_rfl
theorem v1b:MT 102 (j0i q8t):=v1a q8r ⟨v09,trivial⟩
def z6i(X:q1n):Con Sg:=conS [.el C.env,.str] [.int .i64] fun a K=>X a.1 a.2.1 (fun q0=>K (q0,()))
theorem j5v:MT 162 (z6i q1o):=mS (l:=[]) trivial (by kernel_rfl) [(5,⟨[0,1,2],[0],[],[sI 5]⟩)] fun a K=>by kernel_rfl
def j4y(X:z1z):Con Sg:=conS [.sl C.decl,.el C.serve] [.int .i64] fun a K=>X a.1 a.2.1 (fun q0=>K (q0,()))
theorem v5v(q0l:z1w)(h:AL [(158,j2b q0l)]):MT 163 (j4y (j4e q0l)):=mS h (by kernel_rfl) [] fun _ _=>by kernel_rfl
theorem v5w:MT 163 (j4y z10):=v5v q2e ⟨w79,trivial⟩
end Go.En
end
noncomputable section
set_option maxRecDepth 100000
open Go Go.RowKit Go.Fl Go.Fl.Lk Go.Fx
namespace Go.En
def q9i(X:Ri):Con Sg:=conS [.el C.env,.el C.flag] [.int .i64] fun a K=>X a.1 a.2.1 (fun q0=>K (q0,()))
theorem j90(Z9:Ho)(Ub:q1n)(Uc:Hb)(z2j:z1z)(Ja:J4)(h:AL [(100,z2g Z9),(162,z6i Ub),(101,z6f Uc),(163,j4y z2j),(116,Bh Ja)]):MT 104 (q9i (q8u Z9 Ub Uc z2j Ja)):=mS h (by kernel_rfl) [(7,⟨bl 229423,[1,0],[],[sI 6,(.obj 2,.own 9 C.str)]⟩),(23,⟨bl 8355951,[1,0],[],[sI 8,(.obj 2,.own 9 C.str)]⟩)] fun a K=>by kernel_rfl
theorem j91:MT 104 (q9i Rj):=j90 Hp q1o q2f z10 J5 ⟨z73,j5v,j9y,v5w,z2e,trivial⟩
def z89(X:q4y):Con Sg:=conS [.el C.env] [.vec 9 C.str] fun a K=>X a.1 (fun q0=>K (q0,()))
theorem w1s:MT 105 (z89 q4z):=mS (l:=[]) trivial (by kernel_rfl) [(7,⟨[0,1,2],[0],[],[(.slot 3,.own 9 C.str),sI 4]⟩)] fun a K=>by kernel_rfl
def z6j(X:q2g):Con Sg:=conS [.el C.env] [.vec 217 C.edge] fun a K=>X a.1 (fun q0=>K (q0,()))
theorem j92:MT 106 (z6j Rk):=mS (l:=[]) trivial (by kernel_rfl) [(7,⟨[0,1,2],[0],[],[(.slot 3,.own 217 C.edge),sI 4]⟩),(13,⟨bl 2007,[],[],[(.slot 3,.own 217 C.edge),sI 5]⟩)] fun a K=>by kernel_rfl
def z6k(X:q5q):Con Sg:=conS [.sl C.span,.sl C.span] [.vec 95 C.span] fun a K=>X a.1 a.2.1 (fun q0=>K (q0,()))
theorem w8d(Je:B8)(Q6:Wq)(h:AL [(96,z6b Je),(150,q4m Q6)]):MT 93 (z6k (z5r Je Q6)):=mS h (by kernel_rfl) [(7,⟨bl 3955,[1],[],[sI 7,(.obj 0,.own 4 C.bool)]⟩)] fun a K=>by kernel_rfl
theorem w8e:MT 93 (z6k q5r):=w8d H9 J6 ⟨j16,q9f,trivial⟩
def R2(X:Wj):Con Sg:=conS [.el C.env,.int .i64] [.int .i64] fun a K=>X a.1 a.2.1 (fun q0=>K (q0,()))
theorem z6l(Q7:J9)(Ub:q1n)(Z9:Ho)(Uc:Hb)(z0k:q5q)(h:AL [(41,q27 Q7),(162,z6i Ub),(100,z2g Z9),(101,z6f Uc),(93,z6k z0k)]):MT 107 (R2 (Rl Q7 Ub Z9 Uc z0k)):=mS h (by kernel_rfl) [(13,⟨bl 17179836647,[1,0],[],[sI 8]⟩),(35,⟨bl 151078797935433964553191,[1,0],[],[(.slot 10,.own 95 C.span),sI 11,(.obj 4,.own 9 C.str)]⟩),(51,⟨bl 159723976762087930960904772882407,[1,0],[],[sI 13,(.obj 9,.own 95 C.span),(.obj 6,.own 95 C.span),(.obj 4,.own 9 C.str)]⟩)] fun a K=>by kernel_rfl
theorem z6m:MT 107 (R2 Wk):=z6l Jn q1o Hp q2f q5r ⟨q65,j5v,z73,j9y,w8e,trivial⟩
def q4o(X:Uz):Con Sg:=conS [.el C.env] [.str,.int .i64] fun a K=>X a.1 (fun q0 q1=>K (q0,q1,()))
theorem j4z(q0x:G9)(Z9:Ho)(Uc:Hb)(Gy:q04)(q9u:q8s)(q3t:Ri)(q5b:q4y)(q3u:q2g)(Ud:Wj)(h:AL [(99,q6l q0x),(100,z2g Z9),(101,z6f Uc),(103,z3p Gy),(102,j0i q9u),(104,q9i q3t),(105,z89 q5b),(106,z6j q3u),(107,R2 Ud)]):MT 54 (q4o (q39 q0x Z9 Uc Gy q9u q3t q5b q3u Ud)):=mS h (by kernel_rfl) [(13,⟨bl 15663155,[0],[],[sI 6,(.obj 1,.own 9 C.str)]⟩),(33,⟨bl 294571444427585160051,[0],[],[sI 10,(.obj 1,.own 9 C.str),(.obj 4,.own 217 C.edge)]⟩),(51,⟨bl 10121397798090180814242575234931,[0],[],[sI 14,(.obj 8,.own 9 C.str),(.obj 9,.own 217 C.edge),(.obj 4,.own 217 C.edge),(.obj 1,.own 9 C.str)]⟩)] fun a K=>by kernel_rfl
theorem j40:MT 54 (q4o U0):=j4z Ha Hp q2f Gj q8t Rj q4z Rk Wk ⟨j6r,z73,j9y,j9z,v1b,j91,w1s,j92,z6m,trivial⟩
def j0j(X:q8v):Con Sg:=conS [.el C.env] [.bool] fun a K=>X a.1 (fun q0=>K (q0,()))
theorem v1c(Bo:Uz)(h:AL [(54,q4o Bo)]):MT 26 (j0j (z91 Bo)):=mS h (by kernel_rfl) [] fun a K=>by kernel_rfl
theorem v1d:MT 26 (j0j Rm):=v1c U0 ⟨j40,trivial⟩
def q9j(X:Rn):Con Sg:=conV [.ptr 104 [.c,.v],.v] [.ptr 104 [.sl C.u8,.int .i64],.int .i64] [.el C.env] [.ptr 104 [.same,.int .i64],.same] fun a K=>X a.1.1 a.1.2.1 a.2.1 (fun q0 q1=>K (q0,()) (((),q1,()),(),()))
theorem j93(Q4:W6)(z0l:q5i)(Qb:Zj)(q3m:z7o)(Jm:q11)(q46:z2v)(z7d:z5b)(R4:q12)(q47:q4w)(Ja:J4)(j3l:z5f)(Wn:q1z)(q3n:q75)(z8j:z1m)(Wy:q6w)(Gx:q02)(z4f:q8g)(q1i:q8v)(h:AL [(57,q54 Q4),(59,z56 z0l),(49,Vn Qb),(60,w41 q3m),(109,z55 Jm),(112,j7s q46),(115,j9d z7d),(114,z57 R4),(113,j7u q47),(116,Bh Ja),(62,j9m j3l),(58,z7z Wn),(117,j14 q3n),(88,j4r z8j),(51,j13 Wy),(118,z3l Gx),(91,j0e z4f),(26,j0j q1i)]):MT 31 (q9j (q8w Q4 z0l Qb q3m Jm q46 z7d R4 q47 Ja j3l Wn q3n z8j Wy Gx z4f q1i)):=mP (rk:=[.el C.env]) h (by kernel_rfl) [(8,⟨bl 3123,[1],[(3,(36,8)),(0,(104,2))],[(.cell 3 0,.str),(.cell 3 1,.str),(.cell 3 2,.int .i64),(.cell 0 1,.int .i64),(.obj 2,.own 177 C.decl)]⟩),(15,⟨bl 98569331,[2,1],[(0,(104,2)),(3,(36,8))],[sI 7,(.cell 0 1,.int .i64),(.cell 3 5,.own 122 C.flag),(.obj 10,.own 147 C.seg),(.obj 12,.own 59 C.layer),(.obj 13,.own 68 C.exper)]⟩),(62000009,⟨bl 1073218007,[22,21],[(0,(104,2)),(23,(122,13))],[sI 9,(.cell 0 1,.int .i64),(.cell 23 2,.own 115 C.val),(.obj 13,.own 68 C.exper),(.obj 12,.own 59 C.layer),(.obj 17,.own 122 C.flag),(.obj 10,.own 147 C.seg)]⟩),(62000019,⟨bl 545366356788183,[22,21],[(23,(122,13)),(0,(104,2))],[sI 10,(.cell 23 5,.own 188 C.prereq),(.cell 0 1,.int .i64),(.obj 10,.own 147 C.seg),(.obj 17,.own 122 C.flag),(.obj 12,.own 59 C.layer),(.obj 13,.own 68 C.exper),(.obj 27,.own 115 C.val)]⟩),(62000029,⟨bl 17996814912849879,[22,21],[(23,(122,13)),(0,(104,2))],[sI 11,(.cell 23 6,.own 190 C.target),(.cell 0 1,.int .i64),(.obj 27,.own 115 C.val),(.obj 13,.own 68 C.exper),(.obj 12,.own 59 C.layer),(.obj 17,.own 122 C.flag),(.obj 10,.own 147 C.seg),(.obj 34,.own 188 C.prereq)]⟩),(62000038,⟨bl 19688565898261847554177638359,[23],[(51,(190,3)),(0,(104,2))],[(.cell 51 0,.str),(.cell 0 1,.int .i64),(.obj 50,.own 9 C.str),(.obj 34,.own 188 C.prereq),(.obj 10,.own 147 C.seg),(.obj 17,.own 122 C.flag),(.obj 12,.own 59 C.layer),(.obj 13,.own 68 C.exper),(.obj 27,.own 115 C.val),(.obj 42,.own 190 C.target)]⟩),(62000060,⟨bl 324518589926201333218846174621655,[22,21],[(0,(104,2)),(23,(122,13))],[(.cell 0 1,.int .i64),(.cell 23 7,.own 193 C.rule),(.obj 50,.own 9 C.str),(.obj 34,.own 188 C.prereq),(.obj 10,.own 147 C.seg),(.obj 17,.own 122 C.flag),(.obj 12,.own 59 C.layer),(.obj 13,.own 68 C.exper),(.obj 27,.own 115 C.val),(.obj 42,.own 190 C.target)]⟩),(62000047,⟨bl 324518589926201333218846174621655,[],[(0,(104,2)),(23,(122,13))],[sI 14,(.cell 0 1,.int .i64),(.cell 23 7,.own 193 C.rule),(.obj 50,.own 9 C.str),(.obj 34,.own 188 C.prereq),(.obj 10,.own 147 C.seg),(.obj 17,.own 122 C.flag),(.obj 12,.own 59 C.layer),(.obj 13,.own 68 C.exper),(.obj 27,.own 115 C.val),(.obj 42,.own 190 C.target)]⟩),(25,⟨bl 387030204812531,[2,1],[(0,(104,2)),(3,(36,8))],[sI 8,(.cell 0 1,.int .i64),(.cell 3 6,.own 59 C.layer),(.obj 13,.own 68 C.exper),(.obj 10,.own 147 C.seg),(.obj 17,.own 122 C.flag)]⟩),(35,⟨bl 811665570522726403571,[2,1],[(0,(104,2)),(3,(36,8))],[sI 9,(.cell 0 1,.int .i64),(.cell 3 7,.own 68 C.exper),(.obj 17,.own 122 C.flag),(.obj 10,.own 147 C.seg),(.obj 24,.own 59 C.layer)]⟩),(64000010,⟨bl 140737488348975,[37,36,35],[(40,(68,12)),(0,(104,2))],[(.cell 40 4,.int .i64),(.cell 0 1,.int .i64),(.obj 39,.own 70 C.range),(.obj 31,.own 68 C.exper),(.obj 24,.own 59 C.layer),(.obj 17,.own 122 C.flag),(.obj 10,.own 147 C.seg)]⟩),(64000014,⟨bl 140737488348975,[37,36,35],[(40,(68,12)),(0,(104,2))],[(.cell 40 7,.int .i64),(.cell 40 8,.str),(.cell 40 9,.str),(.cell 40 10,.sl C.val),(.cell 40 11,.sl C.ex),(.cell 0 1,.int .i64),(.obj 10,.own 147 C.seg),(.obj 17,.own 122 C.flag),(.obj 24,.own 59 C.layer),(.obj 31,.own 68 C.exper),(.obj 39,.own 70 C.range)]⟩)] fun a K=>by kernel_rfl
theorem j94:MT 31 (q9j Rp):=j93 J0 q5j Ze z7p Us z2w z5c H3 z2x J5 z5g q10 q76 z1n q6x q03 q8h Rm ⟨q95,w7y,Gt,v3x,j9b,v3y,v9l,j9c,v3z,z2e,v9p,j7r,w7z,v5g,w40,j9o,v00,v1d,trivial⟩
def z9a(X:q40):Con Sg:=conS [] [.el C.env] fun _ K=>X (fun q0=>K (q0,()))
theorem w1t:MT 30 (z9a q41):=mS (l:=[]) trivial (by kernel_rfl) [] fun a K=>by kernel_rfl
def q9k(X:U1):Con Sg:=conS [.el C.subj,.str] [.int .i64] fun a K=>X a.1 a.2.1 (fun q0=>K (q0,()))
theorem z6n:MT 64 (q9k Ve):=mS (l:=[]) trivial (by kernel_rfl) [(120000005,⟨bl 195,[1],[],[sI 8]⟩)] fun a K=>by kernel_rfl
def q3c(X:V0):Con Sg:=conS [.el C.val] [.el C.val] fun a K=>X a.1 (fun q0=>K (q0,()))
theorem z3q:MT 170 (q3c Wb):=mS (l:=[]) trivial (by kernel_rfl) [] fun a K=>by kernel_rfl
def q4p(X:U2):Con Sg:=conS [.el C.attr] [.el C.attr] fun a K=>X a.1 (fun q0=>K (q0,()))
theorem j41(Zw:V0)(h:AL [(170,q3c Zw)]):MT 122 (q4p (q4a Zw)):=mS h (by kernel_rfl) [] fun a K=>by kernel_rfl
theorem j42:MT 122 (q4p U3):=j41 Wb ⟨z3q,trivial⟩
def q9l(X:Rq):Con Sg:=conS [.el C.ctx] [.el C.ctx] fun a K=>X a.1 (fun q0=>K (q0,()))
theorem j95(Bp:U2)(h:AL [(122,q4p Bp)]):MT 65 (q9l (q8x Bp)):=mS h (by kernel_rfl) [(122000007,⟨bl 7955,[],[],[(.slot 5,.own 180 C.attr),sI 13]⟩)] fun a K=>by kernel_rfl
theorem j96:MT 65 (q9l Rr):=j95 U3 ⟨j42,trivial⟩
def q0j(X:Wc):Con Sg:=conS [.el C.subj,.str] [.el C.ctx,.bool] fun a K=>X a.1 a.2.1 (fun q0 q1=>K (q0,q1,()))
theorem w1u(Jy:U1)(q3v:Rq)(h:AL [(64,q9k Jy),(65,q9l q3v)]):MT 35 (q0j (z0v Jy q3v)):=mS h (by kernel_rfl) [] fun _ _=>by kernel_rfl
theorem z04:MT 35 (q0j Wd):=w1u Ve Rr ⟨z6n,j96,trivial⟩
end Go.En
end
noncomputable section
set_option maxRecDepth 100000
open Go Go.RowKit Go.Fl Go.Fl.Lk Go.Fx
namespace Go.En
def z9b(X:q42):Con Sg:=conS [.sl C.bytes] [.vec 5 C.u8] fun a K=>X a.1 (fun q0=>K (q0,()))
theorem w1v:MT 124 (z9b B9):=mS (l:=[]) trivial (by kernel_rfl) [(7,⟨bl 389,[],[],[(.slot 3,.own 5 C.u8),sI 9]⟩),(13,⟨bl 8101,[],[],[(.slot 3,.own 5 C.u8),sI 6]⟩)] fun a K=>by kernel_rfl
def q9m(X:Gk):Con Sg:=conS [.int .u64,.int .i64] [.int .u64] fun a K=>X a.1 a.2.1 (fun q0=>K (q0,()))
theorem j0k:MT 225 (q9m Vf):=mS (l:=[]) trivial (by kernel_rfl) [] fun a K=>by kernel_rfl
def Un(X:Jg):Con Sg:=conV [.ptr 251 [.v,.v,.v,.v],.v] [.ptr 251 [.int .u64,.int .u64,.int .u64,.int .u64],.int .i64] [] [.ptr 251 [.int .u64,.int .u64,.int .u64,.int .u64],.same] fun a K=>X a.1.1 a.1.2.1 a.1.2.2.1 a.1.2.2.2.1 a.2.1 (fun q0 q1 q2 q3=>K () ((q0,q1,q2,q3,()),(),()))
theorem z8s(Zs:Gk)(h:AL [(225,q9m Zs)]):MT 172 (Un (Bx Zs)):=mP (rk:=[]) h (by kernel_rfl) [(3,⟨[0,1,4],[],[(0,(251,4))],[sI 5,(.cell 0 0,.int IntKind.u64),(.cell 0 1,.int IntKind.u64),(.cell 0 2,.int IntKind.u64),(.cell 0 3,.int IntKind.u64)]⟩)] fun a K=>by kernel_rfl
theorem q6r:MT 172 (Un Zb):=z8s Vf ⟨j0k,trivial⟩
def q3d(X:V1):Con Sg:=conV [.ptr 251 [.v,.v,.v,.v],.v] [.ptr 251 [.int .u64,.int .u64,.int .u64,.int .u64],.int .u64] [] [.ptr 251 [.int .u64,.int .u64,.int .u64,.int .u64],.same] fun a K=>X a.1.1 a.1.2.1 a.1.2.2.1 a.1.2.2.2.1 a.2.1 (fun q0 q1 q2 q3=>K () ((q0,q1,q2,q3,()),(),()))
theorem j2d(Zm:Jg)(h:AL [(172,Un Zm)]):MT 171 (q3d (q2h Zm)):=mP (rk:=[]) h (by kernel_rfl) [] fun a K=>by kernel_rfl
theorem j2e:MT 171 (q3d V2):=j2d Zb ⟨q6r,trivial⟩
def z6o(X:q5s):Con Sg:=conS [.int .u64,.int .u64,.sl C.u8] [.int .u64] fun a K=>X a.1 a.2.1 a.2.2.1 (fun q0=>K (q0,()))
theorem w8f(Ue:V1)(Zm:Jg)(h:AL [(171,q3d Ue),(172,Un Zm)]):MT 123 (z6o (z5s Ue Zm)):=mS h (by kernel_rfl) [(9,⟨bl 67101127,[],[(0,(251,4))],[sI 9,(.cell 0 0,.int IntKind.u64),(.cell 0 1,.int IntKind.u64),(.cell 0 2,.int IntKind.u64),(.cell 0 3,.int IntKind.u64)]⟩),(17,⟨bl 2147476423,[0],[],[(.slot 10,.int IntKind.u64),sI 33]⟩),(29,⟨bl 15762600843272903,[0],[],[(.slot 8,.int IntKind.u64),sI 54]⟩)] fun a K=>by kernel_rfl
theorem w8g:MT 123 (z6o q5t):=w8f V2 Zb ⟨j2e,q6r,trivial⟩
def z3r(X:q2i):Con Sg:=conS [.int .u64,.sl C.bytes] [.int .u64] fun a K=>X a.1 a.2.1 (fun q0=>K (q0,()))
theorem w5c(q5c:q42)(z0m:q5s)(h:AL [(124,z9b q5c),(123,z6o z0m)]):MT 66 (z3r (z27 q5c z0m)):=mS h (by kernel_rfl) [] fun a K=>by kernel_rfl
theorem w5d:MT 66 (z3r q2j):=w5c B9 q5t ⟨w1v,w8g,trivial⟩
def z3s(X:q05):Con Sg:=conS [.str,.str] [.int .i64] fun a K=>X a.1 a.2.1 (fun q0=>K (q0,()))
theorem v1e(q7f:q2i)(h:AL [(66,z3r q7f)]):MT 36 (z3s (z92 q7f)):=mS h (by kernel_rfl) [] fun a K=>by kernel_rfl
theorem j97:MT 36 (z3s Gl):=v1e q2j ⟨w5d,trivial⟩
def z6p(X:q2k):Con Sg:=conS [.sl C.forced,.str] [.el C.forced,.bool] fun a K=>X a.1 a.2.1 (fun q0 q1=>K (q0,q1,()))
theorem j98:MT 20 (z6p Rs):=mS (l:=[]) trivial (by kernel_rfl) [(5,⟨bl 787,[],[(0,(54,3))],[sI 10,(.cell 0 0,.str),(.cell 0 1,.str),(.cell 0 2,.int .i64)]⟩)] fun a K=>by kernel_rfl
def j2f(X:q6z):Con Sg:=conS [.el C.env,.el C.forced] [.bool] fun a K=>X a.1 a.2.1 (fun q0=>K (q0,()))
theorem w5e:MT 37 (j2f q2l):=mSg 8 (l:=[]) trivial (by kernel_rfl) [(126000005,⟨bl 195,[1],[],[sI 8]⟩),(127000005,⟨bl 195,[],[],[sI 8]⟩)] fun a K=>by kernel_rfl
def z3t(X:q2m):Con Sg:=conS [.el C.env,.el C.subj] [.bool] fun a K=>X a.1 a.2.1 (fun q0=>K (q0,()))
theorem w5f(Zp:Wc)(Ul:q05)(h:AL [(35,q0j Zp),(36,z3s Ul)]):MT 16 (z3t (z29 Zp Ul)):=mS h (by kernel_rfl) [] fun a K=>by kernel_rfl
theorem w5g:MT 16 (z3t q2n):=w5f Wd Gl ⟨z04,j97,trivial⟩
def q66(X:Bd):Con Sg:=conS [.int .i64] [.bool] fun a K=>X a.1 (fun q0=>K (q0,()))
theorem j2g:MT 130 (q66 V3):=mS (l:=[]) trivial (by kernel_rfl) [] fun a K=>by kernel_rfl
def Wr(X:Zc):Con Sg:=conS [.sl C.str,.sl C.str] [.bool] fun a K=>X a.1 a.2.1 (fun q0=>K (q0,()))
theorem Hh:MT 174 (Wr Q3):=mS (l:=[]) trivial (by kernel_rfl) [(9,⟨bl 8131,[],[],[sI 13]⟩)] fun a K=>by kernel_rfl
def z0a(X:q5u):Con Sg:=conS [.el C.val,.el C.val] [.bool] fun a K=>X a.1 a.2.1 (fun q0=>K (q0,()))
theorem w8h(Qo:Zc)(h:AL [(174,Wr Qo)]):MT 290 (z0a (z5t Qo)):=mS h (by kernel_rfl) [] fun a K=>by kernel_rfl
theorem w8i:MT 290 (z0a q1p):=w8h Q3 ⟨Hh,trivial⟩
def z3u(X:Rt):Con Sg:=conV [.el C.ex,.el C.ex] [.el C.ex,.el C.ex] [.bool] [.same,.same] fun a K=>X a.1 a.2.1 (fun q0=>K (q0,()) ((),(),()))
def j5w:PT:=Q5 ([(290000009,⟨bl 130055,[],[],[sI 17]⟩),(292000009,⟨bl 130055,[],[],[sI 17]⟩)]:LS)
theorem w5h(z0n:q5u)(X:Rt)(a:Ex)(b:Ex)(K:Bool->Prop):z93 z0n X a b K=fnV (((WL [(290,z0a z0n)]).with 272 (z3u X)).pl j5w) 4 272 ([.el C.ex,.el C.ex]:LP) ([.v]:LP) ([.el C.ex,.el C.ex]:LV) ([.bool]:LV) ([.same,.same]:LV) (a,b,()) (fun r _=>K r.1):=by kernel_rfl
theorem v1f:MT 272 (z3u q06):=by
 show MT _ (conV ([.el C.ex,.el C.ex]:LP) ([.el C.ex,.el C.ex]:LV) ([.bool]:LV) ([.same,.same]:LV) fun a K=>q06 a.1 a.2.1 (fun q0=>K (q0,()) ((),(),())))
 refine mR (l:=[(290,z0a q1p)]) (u:=4) (rk:=[.v]) (p:=j5w) ⟨w8i,trivial⟩ (by kernel_rfl) fun a K h X hX=> ?_
 exact h (fun a b K=>X (a,b,()) fun r _=>K r.1) (fun a b K hs=>hX (a,b,()) (fun r _=>K r.1) (Eq.mp (w5h q1p (fun a b K=>X (a,b,()) fun r _=>K r.1) a b K) hs))
end Go.En
end
noncomputable section
set_option maxRecDepth 100000
open Go Go.RowKit Go.Fl Go.Fl.Lk Go.Fx
namespace Go.En
def z05(X:W9):Con Sg:=conV [.own 66 C.ex,.el C.ex] [.vec 66 C.ex,.el C.ex] [.vec 66 C.ex] [.same,.same] fun a K=>X a.1 a.2.1 (fun q0=>K (q0,()) ((),(),()))
def z6q:PT:=Q5 ([(6,⟨[1,3,4],[1],[],[(.slot 0,.own 66 C.ex)]⟩),(9,⟨bl 234881050,[1],[],[(.slot 0,.own 66 C.ex),sI 28]⟩),(128000005,⟨bl 195,[0],[],[sI 8]⟩)]:LS)
theorem j6s(W2:Bd)(q9v:Rt)(X:W9)(l:List (Ex))(e:Ex)(K:List (Ex)->Prop):z0w W2 q9v X l e K=fnV (((WL [(130,q66 W2),(272,z3u q9v)]).with 234 (z05 X)).pl z6q) 4 234 ([.own 66 C.ex,.el C.ex]:LP) ([.own 66 C.ex]:LP) ([.vec 66 C.ex,.el C.ex]:LV) ([.vec 66 C.ex]:LV) ([.same,.same]:LV) (l,e,()) (fun r _=>K r.1):=by kernel_rfl
theorem w1w:MT 234 (z05 q0a):=by
 show MT _ (conV ([.own 66 C.ex,.el C.ex]:LP) ([.vec 66 C.ex,.el C.ex]:LV) ([.vec 66 C.ex]:LV) ([.same,.same]:LV) fun a K=>q0a a.1 a.2.1 (fun q0=>K (q0,()) ((),(),())))
 refine mR (l:=[(130,q66 V3),(272,z3u q06)]) (u:=4) (rk:=[.own 66 C.ex]) (p:=z6q) ⟨j2g,v1f,trivial⟩ (by kernel_rfl) fun a K h X hX=> ?_
 exact h (fun l e K=>X (l,e,()) fun r _=>K r.1) (fun l e K hs=>hX (l,e,()) (fun r _=>K r.1) (Eq.mp (j6s V3 q06 (fun l e K=>X (l,e,()) fun r _=>K r.1) l e K) hs))
def z6r(X:Gg):Con Sg:=conV [.el C.ex] [.el C.ex] [.el C.ex] [.same] fun a K=>X a.1 (fun q0=>K (q0,()) ((),()))
def j2h:PT:=Q5 ([(274000007,⟨bl 7955,[],[],[(.slot 5,.own 115 C.val),sI 13]⟩),(234000007,⟨bl 7955,[],[],[(.slot 5,.own 66 C.ex),sI 13]⟩)]:LS)
theorem w1x(Zw:V0)(X:Gg)(e:Ex)(K:Ex->Prop):z5u Zw X e K=fnV (((WL [(170,q3c Zw)]).with 235 (z6r X)).pl j2h) 4 235 ([.el C.ex]:LP) ([.el C.ex]:LP) ([.el C.ex]:LV) ([.el C.ex]:LV) ([.same]:LV) (e,()) (fun r _=>K r.1):=by kernel_rfl
theorem w8j:MT 235 (z6r q5v):=by
 show MT _ (conV ([.el C.ex]:LP) ([.el C.ex]:LV) ([.el C.ex]:LV) ([.same]:LV) fun a K=>q5v a.1 (fun q0=>K (q0,()) ((),())))
 refine mR (l:=[(170,q3c Wb)]) (u:=4) (rk:=[.el C.ex]) (p:=j2h) ⟨z3q,trivial⟩ (by kernel_rfl) fun a K h X hX=> ?_
 exact h (fun e K=>X (e,()) fun r _=>K r.1) (fun e K hs=>hX (e,()) (fun r _=>K r.1) (Eq.mp (w1x Wb (fun e K=>X (e,()) fun r _=>K r.1) e K) hs))
def z06(X:q0b):Con Sg:=conS [.el C.ex] [.vec 66 C.ex] fun a K=>X a.1 (fun q0=>K (q0,()))
theorem w1y(q5d:W9)(z0o:Gg)(h:AL [(234,z05 q5d),(235,z6r z0o)]):MT 183 (z06 (z0x q5d z0o)):=mS h (by kernel_rfl) [(234000007,⟨bl 7955,[1],[],[(.slot 5,.own 66 C.ex),sI 13]⟩)] fun a K=>by kernel_rfl
theorem w1z:MT 183 (z06 q43):=w1y q0a q5v ⟨w1w,w8j,trivial⟩
def Wx(X:Zu):Con Sg:=conV [.own 9 C.str] [.vec 9 C.str] [] [.vec 9 C.str] fun a K=>X a.1 (fun q0=>K () (q0,()))
theorem Hw:MT 80 (Wx Zg):=⟨entB (by kernel_rfl),q63⟩
def Gb(X:J7):Con Sg:=conV [.own 9 C.str] [.vec 9 C.str] [.vec 9 C.str] [.same] fun a K=>X a.1 (fun q0=>K (q0,()) ((),()))
theorem q4q:MT 184 (Gb Z7):=⟨entB (by kernel_rfl),q4h⟩
def q6m(X:Hc):Con Sg:=conS [.el C.ex] [.sl C.str] fun a K=>X a.1 (fun q0=>K (q0,()))
theorem j6t(q5e:q0b)(Qr:Zu)(Jb:J7)(h:AL [(183,z06 q5e),(80,Wx Qr),(184,Gb Jb)]):MT 138 (q6m (q6h q5e Qr Jb)):=mS h (by kernel_rfl) [(7,⟨bl 455,[1,0],[],[(.slot 3,.own 9 C.str),sI 9]⟩)] fun a K=>by kernel_rfl
theorem j6u:MT 138 (q6m Hd):=j6t q43 Zg Z7 ⟨w1z,Hw,q4q,trivial⟩
def j2i(X:z3a):Con Sg:=conV [.sl C.str,.sl C.edge] [.sl C.str,.sl C.edge] [.vec 9 C.str,.int .i64] [.same,.same] fun a K=>X a.1 a.2.1 (fun q0 q1=>K (q0,q1,()) ((),(),()))
theorem w5i:MT 139 (j2i P_graph_Order):=⟨entB (by kernel_rfl),w4z⟩
def q9n(X:Ru):Con Sg:=conS [.sl C.seg] [.vec 9 C.str,.int .i64] fun a K=>X a.1 (fun q0 q1=>K (q0,q1,()))
theorem j99(q0y:Hc)(q7g:z3a)(h:AL [(138,q6m q0y),(139,j2i q7g)]):MT 78 (q9n (q8y q0y q7g)):=mS h (by kernel_rfl) [(9,⟨bl 3085,[],[],[(.slot 4,.own 9 C.str),(.slot 5,.own 217 C.edge),sI 12]⟩),(17,⟨bl 33488029,[6,5,3],[],[(.slot 5,.own 217 C.edge),sI 25]⟩)] fun a K=>by kernel_rfl
theorem w0a:MT 78 (q9n Rv):=j99 Hd P_graph_Order ⟨j6u,w5i,trivial⟩
def q6n(X:He):Con Sg:=conS [.el C.subj,.str,.str] [.el C.val,.bool] fun a K=>X a.1 a.2.1 a.2.2.1 (fun q0 q1=>K (q0,q1,()))
theorem j6v(Jy:U1)(Zw:V0)(h:AL [(64,q9k Jy),(170,q3c Zw)]):MT 129 (q6n (q6i Jy Zw)):=mS h (by kernel_rfl) [(17,⟨bl 1912468303,[2,0],[(1,(115,4))],[sI 31,(.cell 1 0,.int .i64),(.cell 1 1,.int .i64),(.cell 1 2,.str),(.cell 1 3,.sl C.str)]⟩)] fun a K=>by kernel_rfl
theorem j6w:MT 129 (q6n Hf):=j6v Ve Wb ⟨z6n,z3q,trivial⟩
def z3v(X:q2o):Con Sg:=conS [.el C.val,.el C.val] [.bool] fun a K=>X a.1 a.2.1 (fun q0=>K (q0,()))
theorem w5j(Qo:Zc)(h:AL [(174,Wr Qo)]):MT 133 (z3v (z3b Qo)):=mS h (by kernel_rfl) [] fun a K=>by kernel_rfl
theorem w5k:MT 133 (z3v Be):=w5j Q3 ⟨Hh,trivial⟩
def Gu(X:Z8):Con Sg:=conS [.str,.str] [.bool] fun a K=>X a.1 a.2.1 (fun q0=>K (q0,()))
theorem q3e:MT 175 (Gu Zr):=mS (l:=[]) trivial (by kernel_rfl) [] fun a K=>by kernel_rfl
def q1c(X:Vg):Con Sg:=conS [.str,.str] [.bool] fun a K=>X a.1 a.2.1 (fun q0=>K (q0,()))
theorem j0l(Q8:Z8)(h:AL [(175,Gu Q8)]):MT 134 (q1c (q07 Q8)):=mS h (by kernel_rfl) [] fun a K=>by kernel_rfl
theorem j0m:MT 134 (q1c Vh):=j0l Zr ⟨q3e,trivial⟩
def q3f(X:Wu):Con Sg:=conS [.str,.str] [.bool] fun a K=>X a.1 a.2.1 (fun q0=>K (q0,()))
theorem z3w:MT 176 (q3f Wv):=mS (l:=[]) trivial (by kernel_rfl) [] fun a K=>by kernel_rfl
def q1d(X:Vi):Con Sg:=conS [.str,.str] [.bool] fun a K=>X a.1 a.2.1 (fun q0=>K (q0,()))
theorem j0n(W4:Wu)(h:AL [(176,q3f W4)]):MT 135 (q1d (q08 W4)):=mS h (by kernel_rfl) [] fun _ _=>by kernel_rfl
theorem j0o:MT 135 (q1d Vj):=j0n Wv ⟨z3w,trivial⟩
end Go.En
end
noncomputable section
set_option maxRecDepth 100000
open Go Go.RowKit Go.Fl Go.Fl.Lk Go.Fx
namespace Go.En
def z0b(X:q2p):Con Sg:=conV [.v,.v] [.str,.str] [.bool] [.same,.same] fun a K=>X a.1 a.2.1 (fun q0=>K (q0,()) ((),(),()))
theorem j2j:MT 136 (z0b Hu):=⟨entB (by kernel_rfl),j12⟩
def j2k(X:q60):Con Sg:=conS [.el C.val] [.bool] fun a K=>X a.1 (fun q0=>K (q0,()))
theorem w5l:MT 227 (j2k q2q):=mS (l:=[]) trivial (by kernel_rfl) [(8,⟨bl 31,[0],[],[sB 5]⟩),(14,⟨bl 63,[0],[],[sB 17]⟩)] fun a K=>by kernel_rfl
def z6s(X:q5w):Con Sg:=conS [.str] [.bool] fun a K=>X a.1 (fun q0=>K (q0,()))
theorem w8k(Zv:Vx)(h:AL [(246,q28 Zv)]):MT 228 (z6s (z5v Zv)):=mS h (by kernel_rfl) [(9,⟨bl 32737,[],[],[(.obj 0,.siter)]⟩)] fun a K=>by kernel_rfl
theorem w8l:MT 228 (z6s q5x):=w8k Jv ⟨q97,trivial⟩
def z6t(X:q8z):Con Sg:=conV [.v,.v] [.str,.str] [.vec 9 C.str] [.same,.same] fun a K=>X a.1 a.2.1 (fun q0=>K (q0,()) ((),(),()))
theorem w0b:MT 231 (z6t q2r):=⟨entB (by kernel_rfl),j9a⟩
def Gv(X:Jw):Con Sg:=conS [.str,.str] [.str,.bool] fun a K=>X a.1 a.2.1 (fun q0 q1=>K (q0,q1,()))
theorem z3x(Q8:Z8)(h:AL [(175,Gu Q8)]):MT 286 (Gv (Gm Q8)):=mS h (by kernel_rfl) [] fun a K=>by kernel_rfl
theorem z3y:MT 286 (Gv Ww):=z3x Zr ⟨q3e,trivial⟩
def q1e(X:Vk):Con Sg:=conS [.str,.str] [.str,.bool] fun a K=>X a.1 a.2.1 (fun q0 q1=>K (q0,q1,()))
theorem j0p(W5:Jw)(h:AL [(286,Gv W5)]):MT 269 (q1e (q09 W5)):=mS h (by kernel_rfl) [] fun a K=>by kernel_rfl
theorem j0q:MT 269 (q1e Vl):=j0p Ww ⟨z3y,trivial⟩
def z9c(X:z0y):Con Sg:=conV [.v] [.str] [.int .i64,.ifc] [.same] fun a K=>X a.1 (fun q0 q1=>K (q0,q1,()) ((),()))
theorem w2a:MT 270 (z9c q0c):=⟨entB (by kernel_rfl),w1l⟩
def q3g(X:V4):Con Sg:=conS [.str] [.int .i64,.int .i64] fun a K=>X a.1 (fun q0 q1=>K (q0,q1,()))
theorem j2l(Gz:Vk)(q0m:z0y)(h:AL [(269,q1e Gz),(270,z9c q0m)]):MT 232 (q3g (q2s Gz q0m)):=mS h (by kernel_rfl) [(11,⟨bl 4294966321,[],[],[(.obj 0,.siter)]⟩)] fun a K=>by kernel_rfl
theorem j2m:MT 232 (q3g V5):=j2l Vl q0c ⟨j0q,w2a,trivial⟩
def q67(X:Gn):Con Sg:=conS [.str] [.el C.a3,.bool] fun a K=>X a.1 (fun q0 q1=>K (q0,q1,()))
theorem w5m(q3w:q8z)(Hy:V4)(h:AL [(231,z6t q3w),(232,q3g Hy)]):MT 181 (q67 (z3c q3w Hy)):=mS h (by kernel_rfl) [(13,⟨bl 228405,[2],[(1,(257,3)),(0,(257,3))],[sI 18,(.cell 1 0,.int .i64),(.cell 1 1,.int .i64),(.cell 1 2,.int .i64),(.cell 0 0,.int .i64),(.cell 0 1,.int .i64),(.cell 0 2,.int .i64)]⟩)] fun a K=>by kernel_rfl
theorem j2n:MT 181 (q67 Gq):=w5m q2r V5 ⟨w0b,j2m,trivial⟩
def z3z(X:q2t):Con Sg:=conS [.el C.val] [.int .i64] fun a K=>X a.1 (fun q0=>K (q0,()))
theorem w5n(q7h:q60)(q59:q5w)(Wh:Gn)(h:AL [(227,j2k q7h),(228,z6s q59),(181,q67 Wh)]):MT 178 (z3z (z3d q7h q59 Wh)):=mS h (by kernel_rfl) [(47,⟨bl 73643289922748022531,[0],[],[sI 66]⟩),(59,⟨bl 132521265739157328625411,[0],[],[sI 77]⟩)] fun a K=>by kernel_rfl
theorem w5o:MT 178 (z3z q2u):=w5n q2q q5x Gq ⟨w5l,w8l,j2n,trivial⟩
def q9o(X:Rw):Con Sg:=conS [.el C.val,.el C.val] [.int .i64,.int .i64] fun a K=>X a.1 a.2.1 (fun q0 q1=>K (q0,q1,()))
theorem w0c(q3x:q2t)(Wh:Gn)(h:AL [(178,z3z q3x),(181,q67 Wh)]):MT 137 (q9o (q80 q3x Wh)):=mS h (by kernel_rfl) [(183000005,⟨bl 1539,[],[],[sI 11]⟩)] fun a K=>by kernel_rfl
theorem w0d:MT 137 (q9o U4):=w0c q2u Gq ⟨w5o,j2n,trivial⟩
def q68(X:q2v):Con Sg:=conS [.el C.subj,.el C.ex] [.bool] fun a K=>X a.1 a.2.1 (fun q0=>K (q0,()))
theorem w5p(q0z:He)(W2:Bd)(Bq:q2o)(G0:Vg)(G1:Vi)(Hz:q2p)(R5:Rw)(h:AL [(129,q6n q0z),(130,q66 W2),(133,z3v Bq),(134,q1c G0),(135,q1d G1),(136,z0b Hz),(137,q9o R5)]):MT 77 (q68 (z3e q0z W2 Bq G0 G1 Hz R5)):=mS h (by kernel_rfl) [(174000005,⟨bl 195,[2],[],[sI 8]⟩),(129000005,⟨bl 195,[],[],[sI 8]⟩)] fun a K=>by kernel_rfl
theorem w5q:MT 77 (q68 Bf):=w5p Hf V3 Be Vh Vj Hu U4 ⟨j6w,j2g,w5k,j0m,j0o,j2j,w0d,trivial⟩
def q69(X:We):Con Sg:=conV [.el C.subj,.sl C.str,.el C.ex] [.el C.subj,.sl C.str,.el C.ex] [.bool] [.same,.same,.same] fun a K=>X a.1 a.2.1 a.2.2.1 (fun q0=>K (q0,()) ((),(),(),()))
def z9d:PT:=Q5 ([(128000005,⟨bl 195,[1,0],[],[sI 8]⟩),(129000005,⟨bl 195,[],[],[sI 8]⟩)]:LS)
theorem w0e(q7i:q2v)(X:We)(s:Subj)(in_:List (ByteArray))(e:Ex)(K:Bool->Prop):z3f q7i X s in_ e K=fnV (((WL [(77,q68 q7i)]).with 45 (q69 X)).pl z9d) 4 45 ([.el C.subj,.sl C.str,.el C.ex]:LP) ([.v]:LP) ([.el C.subj,.sl C.str,.el C.ex]:LV) ([.bool]:LV) ([.same,.same,.same]:LV) (s,in_,e,()) (fun r _=>K r.1):=by kernel_rfl
theorem j2o:MT 45 (q69 Gs):=by
 show MT _ (conV ([.el C.subj,.sl C.str,.el C.ex]:LP) ([.el C.subj,.sl C.str,.el C.ex]:LV) ([.bool]:LV) ([.same,.same,.same]:LV) fun a K=>Gs a.1 a.2.1 a.2.2.1 (fun q0=>K (q0,()) ((),(),(),())))
 refine mR (l:=[(77,q68 Bf)]) (u:=4) (rk:=[.v]) (p:=z9d) ⟨w5q,trivial⟩ (by kernel_rfl) fun a K h X hX=> ?_
 exact h (fun s in_ e K=>X (s,in_,e,()) fun r _=>K r.1) (fun s in_ e K hs=>hX (s,in_,e,()) (fun r _=>K r.1) (Eq.mp (w0e Bf (fun s in_ e K=>X (s,in_,e,()) fun r _=>K r.1) s in_ e K) hs))
def q3h(X:V6):Con Sg:=conS [.el C.seg,.el C.subj,.sl C.str] [.bool] fun a K=>X a.1 a.2.1 a.2.2.1 (fun q0=>K (q0,()))
theorem j2p(Zp:Wc)(Jq:We)(h:AL [(35,q0j Zp),(45,q69 Jq)]):MT 79 (q3h (q2w Zp Jq)):=mS h (by kernel_rfl) [(129000005,⟨bl 195,[],[],[sI 8]⟩)] fun _ _=>by kernel_rfl
theorem j2q:MT 79 (q3h V7):=j2p Wd Gs ⟨z04,j2o,trivial⟩
end Go.En
end
noncomputable section
set_option maxRecDepth 100000
open Go Go.RowKit Go.Fl Go.Fl.Lk Go.Fx
namespace Go.En
def q4r(X:U5):Con Sg:=conS [.sl C.seg,.el C.subj] [.vec 9 C.str] fun a K=>X a.1 a.2.1 (fun q0=>K (q0,()))
theorem j43(q3y:Ru)(H0:V6)(Qr:Zu)(h:AL [(78,q9n q3y),(79,q3h H0),(80,Wx Qr)]):MT 46 (q4r (q4b q3y H0 Qr)):=mS h (by kernel_rfl) [(13,⟨bl 8380667,[1,0],[],[sI 23,(.obj 2,.map C.str C.seg)]⟩),(25,⟨bl 12918448379,[2,1,0],[],[(.slot 10,.own 9 C.str),sI 34]⟩)] fun a K=>by kernel_rfl
theorem j44:MT 46 (q4r U6):=j43 Rv V7 Zg ⟨w0a,j2q,Hw,trivial⟩
def q4s(X:U7):Con Sg:=conS [.el C.env,.el C.subj,.str] [.bool] fun a K=>X a.1 a.2.1 a.2.2.1 (fun q0=>K (q0,()))
theorem j45(Br:U5)(Jq:We)(h:AL [(46,q4r Br),(45,q69 Jq)]):MT 18 (q4s (q4c Br Jq)):=mS h (by kernel_rfl) [(5,⟨bl 3615,[1,0],[],[sI 12]⟩)] fun a K=>by kernel_rfl
theorem j46:MT 18 (q4s U8):=j45 U6 Gs ⟨j44,j2o,trivial⟩
def j2r(X:q61):Con Sg:=conS [.sl C.range,.int .i64] [.int .i64] fun a K=>X a.1 a.2.1 (fun q0=>K (q0,()))
theorem w5r:MT 40 (j2r q2x):=mS (l:=[]) trivial (by kernel_rfl) [(5,⟨bl 387,[],[],[sI 9]⟩)] fun a K=>by kernel_rfl
def q0k(X:Wf):Con Sg:=conS [.el C.env,.el C.subj,.sl C.forced,.str] [.el C.asg,.int .i64] fun a K=>X a.1 a.2.1 a.2.2.1 a.2.2.2.1 (fun q0 q1=>K (q0,q1,()))
theorem w2b(Zp:Wc)(q3z:q2k)(Ul:q05)(q7j:q61)(Bt:U7)(q7k:q2m)(q7l:q6z)(h:AL [(35,q0j Zp),(20,z6p q3z),(36,z3s Ul),(40,j2r q7j),(18,q4s Bt),(16,z3t q7k),(37,j2f q7l)]):MT 14 (q0k (z0z Zp q3z Ul q7j Bt q7k q7l)):=mS h (by kernel_rfl) [(4,⟨bl 959,[3,2,1,0],[],[sI 10]⟩),(18,⟨bl 2198939402175,[9,5,3,2,1,0],[(7,(46,5))],[(.cell 7 2,.int .i64)]⟩),(22,⟨bl 17735122472271807,[12,7,9,5,3,2,1,0],[],[sB 64]⟩),(30,⟨bl 18464479196181823423,[12,7,9,5,3,2,1,0],[],[sB 87]⟩),(41,⟨bl 73193204841212587949592543167,[12,9,5,3,2,1,0],[(7,(46,5))],[sI 96,(.cell 7 1,.str),(.cell 7 3,.int .i64)]⟩),(46,⟨bl 1261615642555177651852752060351,[19,7],[],[sB 19]⟩),(48,⟨bl 1261615642555177651852752584639,[19,7],[],[sB 122]⟩),(72000005,⟨bl 195,[],[],[sI 8]⟩),(34000005,⟨bl 195,[],[],[sI 8]⟩)] fun a K=>by kernel_rfl
theorem z07:MT 14 (q0k Wg):=w2b Wd Rs Gl q2x U8 q2n q2l ⟨z04,j98,j97,w5r,j46,w5g,w5e,trivial⟩
def w3w(X:z7x):Con Sg:=conS [.sl C.bytes] [.vec 5 C.u8] fun a K=>X a.1 (fun q0=>K (q0,()))
theorem v5x:MT 111 (w3w z11):=mS (l:=[]) trivial (by kernel_rfl) [(7,⟨[0,2],[],[],[(.slot 3,.own 5 C.u8),sI 4]⟩),(15,⟨bl 518069,[],[],[(.slot 3,.own 5 C.u8),sI 6]⟩)] fun a K=>by kernel_rfl
def w0f(X:z3g):Con Sg:=conS [.int .u64,.int .u64] [.int .u64] fun a K=>X a.1 a.2.1 (fun q0=>K (q0,()))
theorem v1g:MT 217 (w0f q81):=mS (l:=[]) trivial (by kernel_rfl) [] fun a K=>by kernel_rfl
def q6o(X:Hg):Con Sg:=conS [.el C.sip,.int .i64] [.el C.sip] fun a K=>X a.1 a.2.1 (fun q0=>K (q0,()))
theorem j6x(G2:z3g)(h:AL [(217,w0f G2)]):MT 164 (q6o (q6j G2)):=mS h (by kernel_rfl) [(5,⟨bl 23,[1],[(0,(238,4))],[sI 5,(.cell 0 0,.int IntKind.u64),(.cell 0 1,.int IntKind.u64),(.cell 0 2,.int IntKind.u64),(.cell 0 3,.int IntKind.u64)]⟩)] fun a K=>by kernel_rfl
theorem j6y:MT 164 (q6o Z2):=j6x q81 ⟨v1g,trivial⟩
def w5s(X:j1y):Con Sg:=conS [.int .u64,.int .u64,.sl C.u8] [.int .u64] fun a K=>X a.1 a.2.1 a.2.2.1 (fun q0=>K (q0,()))
theorem y3r(Vs:Hg)(h:AL [(164,q6o Vs)]):MT 110 (w5s (w4u Vs)):=mS h (by kernel_rfl) [(7,⟨bl 1046727,[],[(0,(238,4))],[sI 8,(.cell 0 0,.int IntKind.u64),(.cell 0 1,.int IntKind.u64),(.cell 0 2,.int IntKind.u64),(.cell 0 3,.int IntKind.u64)]⟩),(15,⟨bl 33552839,[0],[],[(.slot 9,.int IntKind.u64),sI 10]⟩),(24,⟨bl 274777243079,[0],[],[(.slot 9,.int IntKind.u64)]⟩)] fun a K=>by kernel_rfl
theorem y3s:MT 110 (w5s j1z):=y3r Z2 ⟨j6y,trivial⟩
def w0g(X:z5w):Con Sg:=conS [.int .u64,.sl C.bytes] [.int .u64] fun a K=>X a.1 a.2.1 (fun q0=>K (q0,()))
theorem v91(z8k:z7x)(j72:j1y)(h:AL [(111,w3w z8k),(110,w5s j72)]):MT 56 (w0g (j86 z8k j72)):=mS h (by kernel_rfl) [] fun a K=>by kernel_rfl
theorem v92:MT 56 (w0g z5x):=v91 z11 j1z ⟨v5x,y3s,trivial⟩
def j2s(X:q62):Con Sg:=conS [.str,.str] [.int .i64] fun a K=>X a.1 a.2.1 (fun q0=>K (q0,()))
theorem y3t(j3m:z5w)(h:AL [(56,w0g j3m)]):MT 29 (j2s (w4v j3m)):=mS h (by kernel_rfl) [] fun a K=>by kernel_rfl
theorem w5t:MT 29 (j2s q2y):=y3t z5x ⟨v92,trivial⟩
def z0c(X:Rx):Con Sg:=conS [.el C.env,.el C.subj,.sl C.forced] [.vec 46 C.asg] fun a K=>X a.1 a.2.1 a.2.2.1 (fun q0=>K (q0,()))
theorem w8m(Zf:Wf)(h:AL [(14,q0k Zf)]):MT 12 (z0c (z5y Zf)):=mS h (by kernel_rfl) [(7,⟨bl 28767,[1,0],[],[(.slot 7,.own 46 C.asg),sI 15]⟩)] fun a K=>by kernel_rfl
theorem j5x:MT 12 (z0c Ry):=w8m Wg ⟨z07,trivial⟩
def z30(X:q2z):Con Sg:=conS [] [.bool] fun _ K=>X (fun q0=>K (q0,()))
theorem w5u(q0n:q40)(Zf:Wf)(Up:q62)(Uf:Rx)(h:AL [(30,z9a q0n),(14,q0k Zf),(29,j2s Up),(12,z0c Uf)]):MT 9 (z30 (z3h q0n Zf Up Uf)):=mS h (by kernel_rfl) [] fun a K=>by kernel_rfl
theorem w5v:MT 9 (z30 q20):=w5u q41 Wg q2y Ry ⟨w1t,z07,w5t,j5x,trivial⟩
def v93(X:w4w):Con Sg:=conV [.sl C.u8,.v] [.sl C.u8,.int .i64] [.ptr 104 [.sl C.u8,.int .i64]] [.same,.same] fun a K=>X a.1 a.2.1 (fun q0 q1=>K ((q0,q1,()),()) ((),(),()))
theorem y7a:MT 23 (v93 j87):=mP (rk:=[.ptr 104 [.c,.v]]) (l:=[]) trivial (by kernel_rfl) [(6,⟨[1,4],[],[],[(.slot 0,.sl C.u8)]⟩)] fun a K=>by kernel_rfl
def j0r(X:q82):Con Sg:=conV [.ptr 104 [.c,.v],.v] [.ptr 104 [.sl C.u8,.int .i64],.str] [.el C.ctx] [.ptr 104 [.same,.int .i64],.same] fun a K=>X a.1.1 a.1.2.1 a.2.1 (fun q0 q1=>K (q0,()) (((),q1,()),(),()))
theorem v1h(z4a:z9p)(Q4:W6)(Qb:Zj)(Jm:q11)(h:AL [(108,w42 z4a),(57,q54 Q4),(49,Vn Qb),(109,z55 Jm)]):MT 55 (j0r (z94 z4a Q4 Qb Jm)):=mP (rk:=[.el C.ctx]) h (by kernel_rfl) [(9,⟨bl 8051,[4,1],[(2,(82,3)),(0,(104,2))],[sI 7,(.cell 2 2,.own 180 C.attr),(.cell 0 1,.int .i64)]⟩)] fun _ _=>by kernel_rfl
theorem v1i:MT 55 (j0r q4d):=v1h z9q J0 Ze Us ⟨v9h,q95,Gt,j9b,trivial⟩
end Go.En
end
noncomputable section
set_option maxRecDepth 100000
open Go Go.RowKit Go.Fl Go.Fl.Lk Go.Fx
namespace Go.En
def j0s(X:q83):Con Sg:=conV [.ptr 104 [.c,.v]] [.ptr 104 [.sl C.u8,.int .i64]] [.el C.subj] [.ptr 104 [.same,.int .i64]] fun a K=>X a.1.1 a.1.2.1 (fun q0 q1=>K (q0,()) (((),q1,()),()))
theorem v1j(Qb:Zj)(q1j:q82)(h:AL [(49,Vn Qb),(55,j0r q1j)]):MT 27 (j0s (z95 Qb q1j)):=mP (rk:=[.el C.subj]) h (by kernel_rfl) [(10,⟨bl 125,[1],[(0,(104,2)),(2,(25,1))],[(.cell 0 1,.int .i64),(.cell 2 0,.own 82 C.ctx)]⟩)] fun a K=>by kernel_rfl
theorem v1k:MT 27 (j0s q84):=v1j Ze q4d ⟨Gt,v1i,trivial⟩
def j47(X:z13):Con Sg:=conV [.ptr 104 [.c,.v],.el C.env] [.ptr 104 [.sl C.u8,.int .i64],.el C.env] [.vec 54 C.forced] [.ptr 104 [.same,.int .i64],.same] fun a K=>X a.1.1 a.1.2.1 a.2.1 (fun q0 q1=>K (q0,()) (((),q1,()),(),()))
theorem v5y(Qb:Zj)(h:AL [(49,Vn Qb)]):MT 32 (j47 (j4f Qb)):=mP (rk:=[.own 54 C.forced]) h (by kernel_rfl) [(7,⟨bl 27,[1],[(0,(104,2))],[(.slot 5,.own 54 C.forced),sI 6,(.cell 0 1,.int .i64)]⟩),(16,⟨bl 998651,[2],[(5,(54,3)),(0,(104,2))],[(.cell 5 0,.str),(.cell 0 1,.int .i64)]⟩),(32,⟨bl 998651,[2],[(5,(54,3)),(0,(104,2))],[(.cell 5 0,.str),(.cell 5 1,.str),(.cell 5 2,.int .i64),(.cell 0 1,.int .i64)]⟩),(26,⟨bl 274862128603,[],[(5,(54,3)),(0,(104,2))],[(.cell 5 0,.str),(.cell 0 1,.int .i64)]⟩)] fun a K=>by kernel_rfl
theorem v5z:MT 32 (j47 z14):=v5y Ze ⟨Gt,trivial⟩
def z32(X:q21):Con Sg:=conS [.sl C.u8,.sl C.u8] [.el C.env,.el C.subj,.sl C.forced] fun a K=>X a.1 a.2.1 (fun q0 q1 q2=>K (q0,q1,q2,()))
theorem w5w(w1g:w4w)(q30:Rn)(z4h:q83)(z8l:z13)(h:AL [(23,v93 w1g),(31,q9j q30),(27,j0s z4h),(32,j47 z8l)]):MT 10 (z32 (z3i w1g q30 z4h z8l)):=mS h (by kernel_rfl) [] fun a K=>by kernel_rfl
theorem w5x:MT 10 (z32 Bg):=w5w j87 Rp q84 z14 ⟨y7a,j94,v1k,v5z,trivial⟩
def z6u(X:q0d):Con Sg:=conS [.el C.subj,.str] [.el C.ctx,.bool] fun a K=>X a.1 a.2.1 (fun q0 q1=>K (q0,q1,()))
theorem j2t:MT 28 (z6u Rz):=mS (l:=[]) trivial (by kernel_rfl) [(5,⟨bl 23,[0],[(1,(82,3))],[sI 6,(.cell 1 0,.str),(.cell 1 1,.str),(.cell 1 2,.sl C.attr)]⟩)] fun a K=>by kernel_rfl
def j5y(X:q92):Con Sg:=conS [.sl C.forced,.str] [.el C.forced,.bool] fun a K=>X a.1 a.2.1 (fun q0 q1=>K (q0,q1,()))
theorem w8n:MT 21 (j5y q5y):=mS (l:=[]) trivial (by kernel_rfl) [(5,⟨[0,1,4],[],[(0,(54,3))],[sI 6,(.cell 0 0,.str),(.cell 0 1,.str),(.cell 0 2,.int .i64)]⟩)] fun a K=>by kernel_rfl
def q3i(X:Wm):Con Sg:=conS [.el C.env,.str] [.int .i64] fun a K=>X a.1 a.2.1 (fun q0=>K (q0,()))
theorem z0d:MT 22 (q3i Ji):=mS (l:=[]) trivial (by kernel_rfl) [(5,⟨[0,1,2],[0],[],[sI 5]⟩)] fun a K=>by kernel_rfl
def j5z(X:q93):Con Sg:=conS [.sl C.range,.int .i64] [.bool] fun a K=>X a.1 a.2.1 (fun q0=>K (q0,()))
theorem w8o:MT 72 (j5z q5z):=mS (l:=[]) trivial (by kernel_rfl) [(5,⟨[0,1],[],[],[sI 5]⟩)] fun a K=>by kernel_rfl
def j0t(X:q85):Con Sg:=conS [.el C.env,.sl C.forced,.el C.asg] [.el C.asg,.bool] fun a K=>X a.1 a.2.1 a.2.2.1 (fun q0 q1=>K (q0,q1,()))
theorem v1l(z0p:q92)(Zx:Wm)(z0q:q93)(h:AL [(21,j5y z0p),(22,q3i Zx),(72,j5z z0q)]):MT 42 (j0t (z96 z0p Zx z0q)):=mS h (by kernel_rfl) [] fun a K=>by kernel_rfl
theorem v1m:MT 42 (j0t q86):=v1l q5y Ji q5z ⟨w8n,z0d,w8o,trivial⟩
def j48(X:z15):Con Sg:=conS [.el C.env,.el C.subj] [.bool] fun a K=>X a.1 a.2.1 (fun q0=>K (q0,()))
theorem v50(Jz:q0d)(Up:q62)(h:AL [(28,z6u Jz),(29,j2s Up)]):MT 17 (j48 (j4g Jz Up)):=mS h (by kernel_rfl) [] fun a K=>by kernel_rfl
theorem v52:MT 17 (j48 z16):=v50 Rz q2y ⟨j2t,w5t,trivial⟩
def j50(X:q94):Con Sg:=conS [.sl C.span,.int .i64] [.bool] fun a K=>X a.1 a.2.1 (fun q0=>K (q0,()))
theorem w8p:MT 43 (j50 q50):=mS (l:=[]) trivial (by kernel_rfl) [(5,⟨[0,1],[],[],[sI 5]⟩)] fun a K=>by kernel_rfl
def j49(X:z17):Con Sg:=conS [.sl C.str,.sl C.edge,.str] [.bool] fun a K=>X a.1 a.2.1 a.2.2.1 (fun q0=>K (q0,()))
theorem v54(Qy:Vm)(h:AL [(81,q3b Qy)]):MT 208 (j49 (j4h Qy)):=mS h (by kernel_rfl) [(5,⟨[0,1,2],[],[],[sI 7]⟩)] fun a K=>by kernel_rfl
theorem v55:MT 208 (j49 z18):=v54 Wa ⟨q99,trivial⟩
def j5a(X:z19):Con Sg:=conS [.sl C.str,.sl C.edge] [.vec 9 C.str,.int .i64] fun a K=>X a.1 a.2.1 (fun q0 q1=>K (q0,q1,()))
theorem v56(Qy:Vm)(z8m:z17)(h:AL [(81,q3b Qy),(208,j49 z8m)]):MT 148 (j5a (j4i Qy z8m)):=mS h (by kernel_rfl) [(5,⟨[0,1],[],[],[sI 6]⟩),(15,⟨bl 61507,[],[],[sI 7]⟩),(25,⟨bl 1006694595,[],[],[(.slot 8,.own 9 C.str)]⟩),(31,⟨bl 34902898118816195,[],[],[(.slot 9,.str),sB 10,sI 11,(.obj 2,.own 9 C.str)]⟩)] fun a K=>by kernel_rfl
theorem v57:MT 148 (j5a z2a):=v56 Wa z18 ⟨q99,v55,trivial⟩
def j0u(X:q87):Con Sg:=conS [.sl C.seg] [.vec 9 C.str,.int .i64] fun a K=>X a.1 (fun q0 q1=>K (q0,q1,()))
theorem v1n(Z9:Ho)(Gy:q04)(z8n:z19)(h:AL [(100,z2g Z9),(103,z3p Gy),(148,j5a z8n)]):MT 83 (j0u (z97 Z9 Gy z8n)):=mS h (by kernel_rfl) [] fun a K=>by kernel_rfl
theorem v1o:MT 83 (j0u q88):=v1n Hp Gj z2a ⟨z73,j9z,v57,trivial⟩
def j0v(X:q89):Con Sg:=conS [.el C.subj,.str,.str] [.el C.val,.bool] fun a K=>X a.1 a.2.1 a.2.2.1 (fun q0 q1=>K (q0,q1,()))
theorem v1p(Jz:q0d)(h:AL [(28,z6u Jz)]):MT 142 (j0v (z98 Jz)):=mS h (by kernel_rfl) [(15,⟨bl 3668815,[2,0],[(1,(115,4))],[sI 10,(.cell 1 0,.int .i64),(.cell 1 1,.int .i64),(.cell 1 2,.str),(.cell 1 3,.sl C.str)]⟩)] fun _ _=>by kernel_rfl
theorem v1q:MT 142 (j0v q9a):=v1p Rz ⟨j2t,trivial⟩
end Go.En
end
noncomputable section
set_option maxRecDepth 100000
open Go Go.RowKit Go.Fl Go.Fl.Lk Go.Fx
namespace Go.En
def z6v(X:q1q):Con Sg:=conS [.str,.str,.int .i64] [.bool] fun a K=>X a.1 a.2.1 a.2.2.1 (fun q0=>K (q0,()))
theorem j51:MT 145 (z6v R0):=mS (l:=[]) trivial (by kernel_rfl) [] fun a K=>by kernel_rfl
def z08(X:q0e):Con Sg:=conS [.el C.val,.el C.val] [.bool] fun a K=>X a.1 a.2.1 (fun q0=>K (q0,()))
theorem w2c(Qy:Vm)(Vb:q1q)(h:AL [(81,q3b Qy),(145,z6v Vb)]):MT 146 (z08 (z00 Qy Vb)):=mS h (by kernel_rfl) [(13,⟨bl 4047,[1,0],[],[sI 5]⟩)] fun a K=>by kernel_rfl
theorem w2d:MT 146 (z08 q0f):=w2c Wa R0 ⟨q99,j51,trivial⟩
def w8q(X:j10):Con Sg:=conS [.bool,.bool] [.int .i64] fun a K=>X a.1 a.2.1 (fun q0=>K (q0,()))
theorem v94:MT 206 (w8q q9b):=mS (l:=[]) trivial (by kernel_rfl) [] fun a K=>by kernel_rfl
def z6w(X:q51):Con Sg:=conS [.el C.val,.el C.val] [.int .i64,.int .i64] fun a K=>X a.1 a.2.1 (fun q0 q1=>K (q0,q1,()))
theorem w8r(Zy:Bc)(Qc:j10)(Hr:q35)(h:AL [(205,z2f Zy),(206,w8q Qc),(207,z71 Hr)]):MT 147 (z6w (z5z Zy Qc Hr)):=mS h (by kernel_rfl) [(35,⟨bl 302157694953358261874639,[4,2,1,0],[],[sI 12]⟩)] fun a K=>by kernel_rfl
theorem w8s:MT 147 (z6w q1r):=w8r Uy q9b Bb ⟨j4s,v94,w3q,trivial⟩
def z77(X:z2b):Con Sg:=conS [.el C.subj,.el C.ex] [.bool] fun a K=>X a.1 a.2.1 (fun q0=>K (q0,()))
theorem v58(z4i:q89)(Qv:Wo)(Gd:q32)(Vb:q1q)(q0o:q0e)(q6a:q51)(h:AL [(142,j0v z4i),(143,R1 Qv),(144,z70 Gd),(145,z6v Vb),(146,z08 q0o),(147,z6w q6a)]):MT 82 (z77 (j4j z4i Qv Gd Vb q0o q6a)):=mS h (by kernel_rfl) [(17,⟨bl 34359734383,[2,1,0],[],[sI 7]⟩)] fun a K=>by kernel_rfl
theorem v59:MT 82 (z77 q7s):=v58 q9a Jf q1l R0 q0f q1r ⟨v1q,q9c,w3n,j51,w2d,w8s,trivial⟩
def z78(X:Hq):Con Sg:=conV [.el C.subj,.sl C.str,.el C.ex] [.el C.subj,.sl C.str,.el C.ex] [.bool] [.same,.same,.same] fun a K=>X a.1 a.2.1 a.2.2.1 (fun q0=>K (q0,()) ((),(),(),()))
def w0h:PT:=Q5 ([(13,⟨bl 32303,[1,0],[],[sI 7]⟩),(27,⟨bl 6442483247,[1,0],[],[sI 8]⟩)]:LS)
theorem w8t(Qy:Vm)(z8o:z2b)(X:Hq)(s:Subj)(in_:List (ByteArray))(e:Ex)(K:Bool->Prop):j4k Qy z8o X s in_ e K=fnV (((WL [(81,q3b Qy),(82,z77 z8o)]).with 47 (z78 X)).pl w0h) 4 47 ([.el C.subj,.sl C.str,.el C.ex]:LP) ([.v]:LP) ([.el C.subj,.sl C.str,.el C.ex]:LV) ([.bool]:LV) ([.same,.same,.same]:LV) (s,in_,e,()) (fun r _=>K r.1):=by kernel_rfl
theorem w3x:MT 47 (z78 q4e):=by
 show MT _ (conV ([.el C.subj,.sl C.str,.el C.ex]:LP) ([.el C.subj,.sl C.str,.el C.ex]:LV) ([.bool]:LV) ([.same,.same,.same]:LV) fun a K=>q4e a.1 a.2.1 a.2.2.1 (fun q0=>K (q0,()) ((),(),(),())))
 refine mR (l:=[(81,q3b Wa),(82,z77 q7s)]) (u:=4) (rk:=[.v]) (p:=w0h) ⟨q99,v59,trivial⟩ (by kernel_rfl) fun a K h X hX=> ?_
 exact h (fun s in_ e K=>X (s,in_,e,()) fun r _=>K r.1) (fun s in_ e K hs=>hX (s,in_,e,()) (fun r _=>K r.1) (Eq.mp (w8t Wa q7s (fun s in_ e K=>X (s,in_,e,()) fun r _=>K r.1) s in_ e K) hs))
def z6x(X:q52):Con Sg:=conS [.el C.seg,.el C.subj,.sl C.str] [.bool] fun a K=>X a.1 a.2.1 a.2.2.1 (fun q0=>K (q0,()))
theorem w8u(Jz:q0d)(Qy:Vm)(Bu:Hq)(h:AL [(28,z6u Jz),(81,q3b Qy),(47,z78 Bu)]):MT 84 (z6x (z50 Jz Qy Bu)):=mS h (by kernel_rfl) [] fun a K=>by kernel_rfl
theorem w8v:MT 84 (z6x q53):=w8u Rz Wa q4e ⟨j2t,q99,w3x,trivial⟩
def z33(X:q22):Con Sg:=conS [.sl C.seg,.el C.subj] [.sl C.str] fun a K=>X a.1 a.2.1 (fun q0=>K (q0,()))
theorem w5y(z4j:q87)(z0r:q52)(W0:q4x)(h:AL [(83,j0u z4j),(84,z6x z0r),(85,z74 W0)]):MT 48 (z33 (z3j z4j z0r W0)):=mS h (by kernel_rfl) [(9,⟨bl 31867,[1,0],[],[(.slot 7,.sl C.str),sI 8]⟩),(15,⟨bl 449883,[],[],[(.slot 7,.sl C.str),sI 9]⟩)] fun a K=>by kernel_rfl
theorem w5z:MT 48 (z33 q23):=w5y q88 q53 q0s ⟨v1o,w8v,j7v,trivial⟩
def z09(X:q0g):Con Sg:=conS [.el C.env,.el C.subj,.str] [.bool] fun a K=>X a.1 a.2.1 a.2.2.1 (fun q0=>K (q0,()))
theorem w2e(Zx:Wm)(q7m:q22)(Bu:Hq)(h:AL [(22,q3i Zx),(48,z33 q7m),(47,z78 Bu)]):MT 19 (z09 (z01 Zx q7m Bu)):=mS h (by kernel_rfl) [] fun a K=>by kernel_rfl
theorem w2f:MT 19 (z09 q0h):=w2e Ji q23 q4e ⟨z0d,w5z,w3x,trivial⟩
def w3y(X:z7y):Con Sg:=conS [.sl C.range,.int .i64] [.int .i64] fun a K=>X a.1 a.2.1 (fun q0=>K (q0,()))
theorem v6a:MT 44 (w3y z2c):=mS (l:=[]) trivial (by kernel_rfl) [(5,⟨[0,1],[],[],[sI 5]⟩)] fun a K=>by kernel_rfl
def z34(X:q1a):Con Sg:=conS [.el C.env,.el C.subj,.sl C.forced,.str] [.el C.asg,.int .i64] fun a K=>X a.1 a.2.1 a.2.2.1 a.2.2.2.1 (fun q0 q1=>K (q0,q1,()))
theorem v1r(Q7:J9)(Jz:q0d)(z4k:q85)(z8p:z15)(q6b:q94)(q0p:q0g)(Up:q62)(z2l:z7y)(h:AL [(41,q27 Q7),(28,z6u Jz),(42,j0t z4k),(17,j48 z8p),(43,j50 q6b),(19,z09 q0p),(29,j2s Up),(44,w3y z2l)]):MT 15 (z34 (z99 Q7 Jz z4k z8p q6b q0p Up z2l)):=mS h (by kernel_rfl) [(18,⟨bl 549738544959,[7,3,2,1,0],[(5,(46,5))],[(.cell 5 2,.int .i64)]⟩),(33,⟨bl 295129820961837808959,[10,7,3,1,0],[(5,(46,5)),(2,(46,5))],[sI 17,(.cell 5 0,.str),(.cell 5 1,.str),(.cell 5 2,.int .i64),(.cell 5 3,.int .i64),(.cell 5 4,.bool),(.cell 2 0,.str),(.cell 2 1,.str),(.cell 2 2,.int .i64),(.cell 2 3,.int .i64),(.cell 2 4,.bool)]⟩)] fun a K=>by kernel_rfl
theorem w0i:MT 15 (z34 q1b):=v1r Jn Rz q86 z16 q50 q0h q2y z2c ⟨q65,j2t,v1m,v52,w8p,w2f,w5t,v6a,trivial⟩
def w0j(X:z52):Con Sg:=conS [.el C.env,.el C.subj,.sl C.forced] [.vec 46 C.asg] fun a K=>X a.1 a.2.1 a.2.2.1 (fun q0=>K (q0,()))
theorem v95(G3:q1a)(h:AL [(15,z34 G3)]):MT 13 (w0j (j88 G3)):=mS h (by kernel_rfl) [(7,⟨bl 95,[1,0],[],[(.slot 7,.own 46 C.asg),sI 8]⟩)] fun a K=>by kernel_rfl
theorem v96:MT 13 (w0j z54):=v95 q1b ⟨w0i,trivial⟩
def q55(X:V8):Con Sg:=conS [.sl C.asg,.sl C.asg] [.bool] fun a K=>X a.1 a.2.1 (fun q0=>K (q0,()))
theorem z6y:MT 11 (q55 Wl):=mS (l:=[]) trivial (by kernel_rfl) [(9,⟨bl 1987,[],[],[sI 5]⟩)] fun a K=>by kernel_rfl
def Uo(X:By):Con Sg:=conS [.sl C.u8,.sl C.u8,.el C.subj,.sl C.forced,.str] [.bool] fun a K=>X a.1 a.2.1 a.2.2.1 a.2.2.2.1 a.2.2.2.2.1 (fun q0=>K (q0,()))
theorem z8t(q7n:q2z)(q7o:q21)(Uf:Rx)(j3n:z52)(Ug:V8)(Zf:Wf)(G3:q1a)(h:AL [(9,z30 q7n),(10,z32 q7o),(12,z0c Uf),(13,w0j j3n),(11,q55 Ug),(14,q0k Zf),(15,z34 G3)]):MT 3 (Uo (Bz q7n q7o Uf j3n Ug Zf G3)):=mS h (by kernel_rfl) [(15,⟨bl 70368727414943,[5,2,1,0],[],[sI 46]⟩),(21,⟨bl 17996806306707615,[9,7],[],[sI 54]⟩),(31,⟨bl 2361178720242992593055,[13,11,12],[],[sI 71]⟩)] fun _ _=>by kernel_rfl
theorem z8u:MT 3 (Uo Jh):=z8t q20 Bg Ry z54 Wl Wg q1b ⟨w5v,w5x,j5x,v96,z6y,z07,w0i,trivial⟩
end Go.En
end
noncomputable section
set_option maxRecDepth 100000
namespace Go.En
open Go Go.Fl Go.Fl.Lk Go.Fx
theorem Cnd.mk{c A B:Prop}(h:c->A)(k: ¬c->B):Cnd c A B:=⟨h,k⟩
structure DS(list:List Int)(at_:Int):Prop where
 len:list.length<=1000
 lo:0<=at_
 hi:at_<=list.length
 byte: ∀x∈list,0<=x/\x<256
theorem getm{α:Type}{l:List α}{k:Nat}{x:α}(h:l[k]? =some x):x∈l:=List.mem_of_getElem? h
theorem j0w(n:Int):(Go.Utf8.encode n).size<=4:=by
 unfold Go.Utf8.encode
 generalize (if Go.Utf8.valid n then n.toNat else Go.Utf8.runeError)=c
 show (if c<0x80 then _ else if c<0x800 then _ else if c<0x10000 then _ else _:ByteArray).size<=4
 have h1: ∀a:UInt8,(ByteArray.mk #[a]).size<=4:=fun _=>(by decide:1<=4)
 have h2: ∀a b:UInt8,(ByteArray.mk #[a,b]).size<=4:=fun _ _=>(by decide:2<=4)
 have h3: ∀a b c:UInt8,(ByteArray.mk #[a,b,c]).size<=4:=fun _ _ _=>(by decide:3<=4)
 have h4: ∀a b c d:UInt8,(ByteArray.mk #[a,b,c,d]).size<=4:=fun _ _ _ _=>(by decide:4<=4)
 split
 ·exact h1 _
 ·split
  ·exact h2 _ _
  ·split
   ·exact h3 _ _ _
   ·exact h4 _ _ _ _
theorem Qh{list:List Int}{at_ n:Int}{K:Int->Int->Prop}(hD:DS list at_)(hn:1<=n)(h: ∀r a,0<=r->r<n->DS list a->K r a):Ze list at_ n K:=by
 obtain⟨h1,h2,h3,h4⟩:=hD
 unfold Ze w4o j7o
 refine fun _=>Cnd.mk (fun hl=> ?_) (fun _=>h _ _ (by omega) (by omega) ⟨h1,h2,h3,h4⟩)
 have hl:=of_decide_eq_true hl
 refine⟨by unfold InI;omega,by unfold InI;omega,by omega,fun y hy=>⟨by unfold InI;have:=h4 _ (getm hy);omega,by omega,?_⟩⟩
 obtain⟨a,b⟩:=h4 _ (getm hy)
 exact h _ _ (Int.tmod_nonneg _ a) (by have:=Int.tmod_lt_of_pos y (b:=n) (by omega);omega) ⟨h1,by omega,by omega,h4⟩
theorem q56{list:List Int}{at_ n:Int}{K:Int->Int->Prop}(hD:DS list at_)(hn:1<=n)(h: ∀r a,0<=r->r<n->DS list a->K r a):q6x list at_ n K:=by
 unfold q6x w4q
 refine Qh hD (by decide) fun r a r0 r1 hD=>⟨by unfold InI;omega,Qh hD (by decide) fun s b s0 s1 hD=>⟨by unfold InI;omega,by omega,?_⟩⟩
 exact h _ _ (Int.tmod_nonneg _ (by omega)) (by have:=Int.tmod_lt_of_pos (256*r+s) (b:=n) (by omega);omega) hD
theorem j2u{n:Int}{l:List ByteArray}{K:List ByteArray->Prop}(h0:0<=n)(h1:n<=l.length)(h:K (l.take n.toNat)):z7p n l K:=⟨⟨h0,h1⟩,h⟩
theorem z2h{list:List Int}{at_:Int}{K:ByteArray->Int->Prop}(hD:DS list at_)(h: ∀r a,r∈j1o->DS list a->K r a):q10 list at_ K:=by
 unfold q10 w4p
 exact Qh hD (by decide) fun r a r0 r1 hD=>⟨⟨r0,r1⟩,fun y hy=>h _ _ (getm hy) hD⟩
theorem sz_k(n:Int):(ByteArray.mk (Array.mk [107])++Go.Utf8.encode n).size<=5:=by
 rw[ByteArray.size_append];have:=j0w n;show 1+_<=5;omega
theorem v30{list:List Int}{at_:Int}{K:ByteArray->Int->Prop}(hD:DS list at_)(h: ∀r a,r.size<=5->DS list a->K r a):z9q list at_ K:=by
 unfold z9q v0n
 refine Qh hD (by decide) fun r a r0 r1 hD=>⟨by unfold InI;omega,?_,h _ _ (sz_k _) hD⟩
 have:=j0w (Go.IntKind.i32.wrap (48+r));have e:(ByteArray.mk (Array.mk [107])).size=1:=rfl;omega
theorem w0k{list:List Int}{at_:Int}{K:List ByteArray->Int->Prop}(hD:DS list at_)(h: ∀r a,r.length<=3->(∀s∈r,s.size<=5)->DS list a->K r a):z2w list at_ K:=by
 unfold z2w w4r
 refine Qh hD (by decide) fun n a n0 n1 hD=> ?_
 refine Lp3.ind (fun l i a=>DS list a/\0<=i/\i<=3/\(l.length:Int)=i/\ ∀s∈l,s.size<=5) (fun _ i _=>(3 - i).toNat) ?_ ⟨hD,by decide,by decide,rfl,by simp⟩
 rintro l i a ⟨hD,i0,i3,hl,hs⟩
 refine Qh hD (by decide) fun r a r0 r1 hD=>Cnd.mk (fun hc=> ?_) (fun hc=> ?_)
 ·have:=j0w (Go.IntKind.i32.wrap ((48:Int)+(n+i).tmod 10));have e:(ByteArray.mk (Array.mk [107])).size=1:=rfl
  have m0:=Int.tmod_nonneg 10 (show 0<=n+i by omega);have m1:=Int.tmod_lt_of_pos (n+i) (b:=10) (by decide)
  refine⟨by unfold InI;omega,by decide,by unfold InI;omega,by omega,by unfold Sml;simp;omega,by unfold InI;omega,⟨hD,by omega,by omega,by simp;omega,fun s hm=> ?_⟩,by omega⟩
  rcases List.mem_append.1 hm with hm|hm
  ·exact hs s hm
  ·rw[List.mem_singleton.1 hm];exact sz_k _
 ·refine Lp2.ind (fun (i:Int) (m:List ByteArray)=>m=l/\1<=i/\i<=1+l.length) (fun (i:Int) _=>(1+l.length - i).toNat) ?_ ⟨rfl,by decide,by omega⟩
  rintro i m ⟨rfl,i0,i1⟩ _
  refine Cnd.mk (fun hc=>⟨by omega,fun y hy=>⟨by unfold InI;omega,by omega,fun z hz=>Cnd.mk (fun _=>⟨by unfold InI;omega,⟨rfl,by omega,by omega⟩,by omega⟩) (fun _=>⟨by omega,h _ _ (by simp;omega) (fun s hm=>hs s (List.mem_of_mem_take hm)) hD⟩)⟩⟩) (fun _=>h _ _ (by omega) hs hD)
theorem sz0:(ByteArray.mk (Array.mk ([]:List UInt8))).size<=100:=by decide
structure ValS(v:Val):Prop where
 num:InI v.number
 txt:v.text.size<=100
 len:v.list.length<=10
 txs: ∀s∈v.list,s.size<=100
theorem q7t{list:List Int}{at_ kind:Int}{K:Val->Int->Prop}(hD:DS list at_)(h: ∀r a,ValS r->DS list a->K r a):Us list at_ kind K:=by
 unfold Us j1p
 have tt: ∀s∈j1o,s.size<=100:=by decide
 have tv: ∀s∈z49,s.size<=100:=by decide
 have tl: ∀l∈j8v,l.length<=10/\ ∀s∈l,s.size<=100:=by decide
 refine Cnd.mk (fun _=> ?_) fun _=>Cnd.mk (fun _=>fun _=> ?_) fun _=>Cnd.mk (fun _=> ?_) fun _=>Cnd.mk (fun _=> ?_) fun _=> ?_
 ·exact Qh hD (by decide) fun r a r0 r1 hD=>h _ _ ⟨by unfold InI;simp only;omega,sz0,by simp,by simp⟩ hD
 ·refine Qh hD (by decide) fun r a r0 r1 hD=>⟨⟨r0,r1⟩,fun y hy=>h _ _ ⟨?_,sz0,by simp,by simp⟩ hD⟩
  have:=getm hy
  have k: ∀y∈[(0:Int),(1:Int),(17:Int),(18:Int),(19:Int),(-5:Int),(64:Int),(1099511627776:Int),(-1099511627776:Int)], -9223372036854775808<=y/\y<=9223372036854775807:=by decide
  exact k y this
 ·exact z2h hD fun r a hr hD=>h _ _ ⟨by unfold InI;simp,tt _ hr,by simp,by simp⟩ hD
 ·exact Qh hD (by decide) fun r a r0 r1 hD=>⟨⟨r0,r1⟩,fun y hy=>h _ _ ⟨by unfold InI;simp,tv _ (getm hy),by simp,by simp⟩ hD⟩
 ·refine Qh hD (by decide) fun r a r0 r1 hD=>⟨⟨r0,r1⟩,fun y hy=> ?_⟩
  obtain⟨a1,a2⟩:=tl _ (getm hy)
  exact⟨by unfold Sml;simp;omega,h _ _ ⟨by unfold InI;simp,sz0,by simpa using a1,by simpa using a2⟩ hD⟩
structure VsS(l:List Val):Prop where
 len:l.length<=4
 all: ∀v∈l,ValS v
theorem VsS.nil:VsS []:=⟨by simp,by simp⟩
theorem VsS.one{v:Val}(h:ValS v):VsS [v]:=⟨by simp,by simpa using h⟩
def ExS:Nat->Ex->Prop
 |0,e=>VsS e.values/\(e.name.size<=100/\e.kind.size<=100)/\(InI e.op/\(2<=e.op->e.op<=4->e.kids≠[]))/\e.kids=[]
 |n+1,e=>VsS e.values/\(e.name.size<=100/\e.kind.size<=100)/\(InI e.op/\(2<=e.op->e.op<=4->e.kids≠[]))/\e.kids.length<=3/\ ∀k∈e.kids,ExS n k
theorem ExS.up: ∀{n:Nat} {e:Ex},ExS n e->ExS (n+1) e
 |0,e,h=>⟨h.1,h.2.1,h.2.2.1,by rw[h.2.2.2];simp,by rw[h.2.2.2];simp⟩
 |n+1,e,h=>⟨h.1,h.2.1,h.2.2.1,h.2.2.2.1,fun k hk=>(h.2.2.2.2 k hk).up⟩
theorem ExS.le{n m:Nat}{e:Ex}(h:ExS n e)(hm:n<=m):ExS m e:=by
 induction hm with
 |refl=>exact h
 |step _ ih=>exact ih.up
theorem ExS.kids{n:Nat}{e:Ex}(h:ExS n e):e.kids.length<=3:=by
 cases n with
 |zero=>rw[h.2.2.2];simp
 |succ n=>exact h.2.2.2.1
theorem ExS.kid{n:Nat}{e k:Ex}(h:ExS n e)(hk:k∈e.kids): ∃m,m+1=n/\ExS m k:=by
 cases n with
 |zero=>rw[h.2.2.2] at hk;simp at hk
 |succ n=>exact⟨n,rfl,h.2.2.2.2 k hk⟩
theorem ExS.vals{n:Nat}{e:Ex}(h:ExS n e):VsS e.values:=by cases n<;>exact h.1
theorem ExS.nm{n:Nat}{e:Ex}(h:ExS n e):e.name.size<=100:=by cases n<;>exact h.2.1.1
theorem ExS.kd{n:Nat}{e:Ex}(h:ExS n e):e.kind.size<=100:=by cases n<;>exact h.2.1.2
theorem ExS.opK{n:Nat}{e:Ex}(h:ExS n e):2<=e.op->e.op<=4->e.kids≠[]:=by cases n<;>exact h.2.2.1.2
def OpL(op:Int):Prop:=InI op/\ ¬(2<=op/\op<=4)
theorem OpL.ok{op:Int}(h:OpL op){l:List Ex}:InI op/\(2<=op->op<=4->l≠[]):=⟨h.1,fun a b=>absurd ⟨a,b⟩ h.2⟩
theorem opl{op:Int}(h:(6<=op/\op<=100)∨op=0∨op=1∨op=5){l:List Ex}:InI op/\(2<=op->op<=4->l≠[]):=⟨by unfold InI;omega,fun a b=>by omega⟩
theorem q3j{K:List Decl->Prop}(h: ∀l,l.length=8->(∀d∈l,d.kind.size<=100/\d.name.size<=100/\1<=d.type/\d.type<=5)->K l):J0 K:=by
 unfold J0
 exact h _ rfl (by decide)
theorem w8w{list:List Int}{at_:Int}{K:Ex->Int->Prop}(hD:DS list at_)(h: ∀r a,ExS 0 r->6<=r.op->DS list a->K r a):z7q list at_ K:=by
 unfold z7q w4s
 refine q3j fun l hl hd _=>⟨by unfold InI;omega,Qh hD (by omega) fun r a r0 r1 hD _=>Cnd.mk (fun _=> ?_) fun hc=>⟨by omega,fun y hy=> ?_⟩⟩
 ·exact v30 hD fun s a hs hD=>h _ _ ⟨.one ⟨by unfold InI;simp,by show s.size<=100;omega,by simp,by simp⟩,⟨(by decide:(ByteArray.mk (Array.mk [107,101,121])).size<=100),(by decide:(ByteArray.mk (Array.mk [117,115,101,114])).size<=100)⟩,opl (by simp),rfl⟩ (by simp) hD
 obtain⟨hy0,hy1,hy2,hy3⟩:=hd y (getm hy)
 have one: ∀{op:Int} {v:Val},OpL op->ValS v->ExS 0 (Ex.mk op y.kind y.name [v] []):=fun ho hv=>⟨.one hv,⟨hy1,hy0⟩,ho.ok,rfl⟩
 refine Jn1.mk (fun x=>(∃b,x=(b,y.kind,y.name,([]:List Val),([]:List Ex),x.2.2.2.2.2.1,0,ByteArray.mk (Array.mk []),ByteArray.mk (Array.mk []),[],[],()))/\DS list x.2.2.2.2.2.1) ?_ ?_
 case refine_2=>
  rintro x ⟨⟨b,hx⟩,hD⟩
  refine q7t hD fun v a hv hD=>h _ _ ?_ (by simp) hD
  rw[hx]
  exact one ⟨by unfold InI;simp,by decide⟩ hv
 refine Qh hD (by decide) fun q a q0 q1 hD=> ?_
 refine Jn1.mk (fun x=>(∃b,x=(x.1,b,y.kind,y.name,([]:List Val),([]:List Ex),0,ByteArray.mk (Array.mk []),ByteArray.mk (Array.mk []),[],[],()))/\DS list x.1) ?_ ?_
 case refine_2=>
  rintro x ⟨⟨b,hx⟩,hD⟩
  have cmp:Ze list x.1 4 fun r a=>InI (12+r)/\Us list a y.3 fun v a=>K (Ex.mk (12+r) x.2.2.1 x.2.2.2.1 [v] x.2.2.2.2.2.1) a:=by
   refine Qh hD (by decide) fun r a r0 r1 hD=>⟨by unfold InI;omega,q7t hD fun v a hv hD=>h _ _ ?_ (by simp only;omega) hD⟩
   rw[hx]
   exact one ⟨by unfold InI;omega,by omega⟩ hv
  refine Cnd.mk (fun _=>cmp) fun _=>Cnd.mk (fun _=>cmp) fun _=>Cnd.mk (fun _=>cmp) fun _=> ?_
  refine⟨⟨b,?_⟩,hD⟩
  rw[hx]
 have nx: ∀{a:Int},DS list a->(fun x:Int×ByteArray×ByteArray×List Val×List Ex×Int×Int×ByteArray×ByteArray×List Val×List Ex×Unit=>(∃b,x=(b,y.kind,y.name,([]:List Val),([]:List Ex),x.2.2.2.2.2.1,0,ByteArray.mk (Array.mk []),ByteArray.mk (Array.mk []),[],[],()))/\DS list x.2.2.2.2.2.1) ((0:Int),y.1,y.2,[],[],a,(0:Int),ByteArray.mk (Array.mk []),ByteArray.mk (Array.mk []),[],[],()):=fun hD=>⟨⟨0,rfl⟩,hD⟩
 refine Cnd.mk (fun _=>h _ _ ⟨.nil,⟨hy1,hy0⟩,opl (by simp),rfl⟩ (by simp) hD) fun _=>Cnd.mk (fun _=> ?_) fun _=>Cnd.mk (fun _=> ?_) fun _=>Cnd.mk (fun _=> ?_) fun _=>Cnd.mk (fun _=> ?_) fun _=>nx hD
 ·refine Cnd.mk (fun _=>nx hD) fun _=> ?_
  refine Lp3.ind (fun i l a=>DS list a/\0<=i/\i<=3/\(l.length:Int)=i/\ ∀v∈l,ValS v) (fun i _ _=>(3 - i).toNat) ?_ ⟨hD,by decide,by decide,rfl,by simp⟩
  rintro i l a ⟨hD,i0,i3,hl,hv⟩
  refine Qh hD (by decide) fun r a r0 r1 hD=>Cnd.mk (fun hc=>q7t hD fun v a hv' hD=>⟨by unfold Sml;simp;omega,by unfold InI;omega,⟨hD,by omega,by omega,by simp;omega,fun u hu=> ?_⟩,by omega⟩) (fun hc=>h _ _ ⟨⟨by simp only;omega,hv⟩,⟨hy1,hy0⟩,opl (by simp),rfl⟩ (by simp) hD)
  rcases List.mem_append.1 hu with hu|hu
  ·exact hv u hu
  ·rw[List.mem_singleton.1 hu];exact hv'
 ·have c:Us list a 3 fun v a=>K (Ex.mk 11 y.1 y.2 [v] []) a:=q7t hD fun v a hv hD=>h _ _ (one ⟨by unfold InI;simp,by decide⟩ hv) (by simp) hD
  exact Cnd.mk (fun _=>c) fun _=>Cnd.mk (fun _=>c) fun _=>nx hD
 ·exact Cnd.mk (fun _=>Qh hD (by decide) fun r a r0 r1 hD=>⟨by unfold InI;omega,q7t hD fun v a hv hD=>h _ _ (one ⟨by unfold InI;omega,by omega⟩ hv) (by simp only;omega) hD⟩) fun _=>⟨⟨0,rfl⟩,hD⟩
 ·exact⟨⟨0,rfl⟩,hD⟩
theorem ExS.eta{n:Nat}{e:Ex}(h:ExS n e):ExS n (Ex.mk e.op e.kind e.name e.values e.kids):=by cases e;exact h
theorem y9w{n:Nat}{e:Ex}(h:ExS n e){k m:ByteArray}(hm:m.size<=100)(hk:k.size<=100):ExS (n+1) (Ex.mk 4 k m [] [e]):=⟨.nil,⟨hm,hk⟩,⟨InI.mk (by simp) (by simp),fun _ _=>by simp⟩,by simp,by simpa using h⟩
structure SegS(g:Seg):Prop where
 key:g.key.size<=100
 kind:g.kind.size<=100
 incl:g.incl.length<=3
 excl:g.excl.length<=3
 cond:ExS 4 g.cond
theorem Zt{α:Type}{P:α->Prop}{l:List α}{x:α}(h: ∀y∈l,P y)(hx:P x): ∀y∈l++[x],P y:=fun y hy=>by
 rcases List.mem_append.1 hy with hy|hy
 ·exact h y hy
 ·rw[List.mem_singleton.1 hy];exact hx
theorem z4s{v:Envt}{K:List ByteArray->Prop}(hl:v.segments.length<=1000)(h:K (v.segments.map Seg.key)):H3 v K:=by
 unfold H3
 refine Lp2.ind (fun (l:List ByteArray) (i:Int)=>0<=i/\i<=v.segments.length/\l=(v.segments.take i.toNat).map Seg.key) (fun _ (i:Int)=>(v.segments.length - i).toNat) ?_ ⟨Int.le_refl 0,by omega,by simp⟩
 rintro l i ⟨i0,i1,rfl⟩ _
 refine Cnd.mk (fun hc=>⟨by omega,fun y hy=>⟨by unfold Sml;simp;omega,by unfold InI;omega,⟨by omega,by omega,?_⟩,by omega⟩⟩) fun hc=> ?_
 ·rw[show (i+1).toNat=i.toNat+1 by omega,List.take_add_one,hy];simp
 ·rw[List.take_of_length_le (by omega)];exact h
def SplS(n:Int)(l:List Rng):Prop:=l.length<=4/\ ∀r∈l,0<=r.lo/\r.hi<=10000/\1<=r.variation/\r.variation<=n
structure SrvS(n:Int)(s:Srv):Prop where
 kind:s.kind.size<=100
 var:0<=s.variation/\s.variation<=n
 split:SplS n s.split
 by_:s.by_.size<=100
 salt:s.salt.size<=100
structure LayS(l:Lay_):Prop where
 key:l.key.size<=100
 kind:l.kind.size<=100
 salt:l.salt.size<=100
 hold:0<=l.holdout/\l.holdout<=10000
 cool:0<=l.cool/\l.cool<=100
theorem v6b{list:List Int}{at_:Int}{key:ByteArray}{K:Lay_->Int->Prop}(hD:DS list at_)(hk:key.size<=100)(h: ∀l a,LayS l->l.key=key->DS list a->K l a):z5g list at_ key K:=by
 unfold z5g j80
 have tt: ∀s∈j1o,s.size<=100:=by decide
 refine z2h hD fun t a ht hD=>Qh hD (by decide) fun c a c0 c1 hD=>⟨by unfold InI;omega,?_⟩
 refine Jn2.mk (fun k a=>k.size<=100/\DS list a) (Qh hD (by decide) fun r a r0 r1 hD=>Cnd.mk (fun _=>⟨by decide,hD⟩) fun _=>⟨by decide,hD⟩) fun kind a hx=> ?_
 obtain⟨hkd,hD⟩:=hx
 refine Jn2.mk (fun x a=>DS list a/\0<=x/\x<=10000) (Qh hD (by decide) fun r a r0 r1 hD=>Cnd.mk (fun _=>q56 hD (by decide) fun w a w0 w1 hD=>⟨hD,by omega,by omega⟩) fun _=>⟨hD,by omega,by omega⟩) fun hold a hx=> ?_
 obtain⟨hD,x0,x1⟩:=hx
 have ok: ∀{cs:List Col},LayS (Lay_.mk key kind t hold (c*50) cs):=⟨hk,hkd,tt _ ht,⟨x0,x1⟩,⟨by simp only;omega,by simp only;omega⟩⟩
 refine Lp4.ind (fun at_ i cs a=>DS list a/\0<=i/\i<=2/\(cs.length:Int)=i/\0<=at_/\at_<=10000/\ ∀c∈cs,0<=c.lo/\c.hi<=10000/\0<=c.until_/\c.until_<=200) (fun _ i _ _=>(2 - i).toNat) ?_ ⟨hD,by omega,by omega,rfl,by omega,by omega,by simp⟩
 rintro at_ i cs a ⟨hD,i0,i1,hl,a0,a1,hc⟩
 refine Qh hD (by decide) fun q a q0 q1 hD=>Cnd.mk (fun _=>q56 hD (by decide) fun w a w0 w1 hD=>⟨by unfold InI;omega,by unfold InI;omega,q56 hD (by decide) fun w' a w0' w1' hD=>⟨by unfold InI;omega,Cnd.mk (fun _=>h _ _ ok rfl hD) fun _=> ?_⟩⟩) fun _=>h _ _ ok rfl hD
 refine Qh hD (by decide) fun u a u0 u1 hD=>⟨by unfold Sml;simp;omega,by unfold InI;omega,⟨hD,by omega,by omega,by simp;omega,by omega,by omega,Zt hc ⟨by simp only;omega,by simp only;omega,by simp only;omega,by simp only;omega⟩⟩,by omega⟩
structure SpsS(l:List Spn):Prop where
 len:l.length<=10000
 all: ∀s∈l,0<=s.lo/\s.lo<s.hi/\s.hi<=10000
structure RulS(n:Int)(r:Rul):Prop where
 name:r.name.size<=100
 cond:ExS 4 r.cond
 serve:SrvS n r.serve
structure FlgS(f:Flg):Prop where
 key:f.key.size<=100
 vlen:1<=f.variations.length/\f.variations.length<=4
 vals: ∀v∈f.variations,ValS v
 nlen:f.needs.length<=4
 needs: ∀q∈f.needs,q.flag.size<=100
 tlen:f.targets.length<=3
 tgts: ∀t∈f.targets,t.kind.size<=100
 rlen:f.rules.length<=4
 rules: ∀r∈f.rules,RulS f.variations.length r
 dflt:SrvS f.variations.length f.dflt
structure ExpS(x:Exper):Prop where
 key:x.key.size<=100
 layer:x.layer.size<=100
 flag:x.flag.size<=100
 claims:SpsS x.claims
 arms:SplS 4 x.arms
 cond:ExS 4 x.cond
structure EnvS(v:Envt):Prop where
 hkind:v.settings.holdoutKind.size<=100
 attrs: ∀d∈v.attributes,d.kind.size<=100/\d.name.size<=100
 slen:v.segments.length<=3
 segs: ∀g∈v.segments,SegS g
 flen:v.flags.length<=4
 flags: ∀f∈v.flags,FlgS f
 llen:v.layers.length<=2
 layers: ∀l∈v.layers,LayS l
 xlen:v.experiments.length<=3
 exps: ∀x∈v.experiments,ExpS x
end Go.En
end
noncomputable section
set_option maxRecDepth 100000
namespace Go.En
open Go Go.Fl Go.Fl.Lk Go.Fx
abbrev S4:=Int×Int×Int×Int
def w64(x:Int):Int:=Go.IntKind.u64.wrap x
def xr(a b:Int):Int:=Go.IntKind.u64.wrap ((BitVec.ofInt 64 a ^^^ BitVec.ofInt 64 b).toNat:Int)
def rot(x n:Int):Int:=Go.IntKind.u64.wrap ((BitVec.ofInt 64 (Go.IntKind.u64.wrap (x*2 ^ Min.min n.toNat 64))|||BitVec.ofInt 64 (x.fdiv (2 ^ Min.min (Go.IntKind.u64.wrap (64 - n)).toNat 64))).toNat:Int)
def rnd(s:S4):S4:=
  (w64 (rot (w64 (s.1+s.2.1)) 32+xr (rot s.2.2.2 16) (w64 (s.2.2.1+s.2.2.2))),
   xr (rot (xr (rot s.2.1 13) (w64 (s.1+s.2.1))) 17) (w64 (w64 (s.2.2.1+s.2.2.2)+xr (rot s.2.1 13) (w64 (s.1+s.2.1)))),
   rot (w64 (w64 (s.2.2.1+s.2.2.2)+xr (rot s.2.1 13) (w64 (s.1+s.2.1)))) 32,
   xr (rot (xr (rot s.2.2.2 16) (w64 (s.2.2.1+s.2.2.2))) 21) (w64 (rot (w64 (s.1+s.2.1)) 32+xr (rot s.2.2.2 16) (w64 (s.2.2.1+s.2.2.2)))))
def rn:Nat->S4->S4
  |0,s=>s
  |k+1,s=>rnd (rn k s)
def tm(y:Int)(k:Nat):BitVec 64:=BitVec.ofInt 64 (Go.IntKind.u64.wrap (Go.IntKind.u64.wrap y*2 ^ Min.min (8*k) 64))
def wv(b:List Int)(o:Nat)(v:BitVec 64):Nat->BitVec 64
  |0=>v
  |k+1=>wv b o v k|||tm (b.getD (o+k) 0) k
def s0(k0 k1:Int):S4:=(xr k0 8317987319222330741,xr k1 7237128888997146477,xr k0 7816392313619706465,xr k1 8387220255154660723)
def topV(n:Nat):BitVec 64:=BitVec.ofInt 64 (Go.IntKind.u64.wrap (Go.IntKind.u64.wrap (n:Int)*2 ^ Min.min (Int.toNat 56) 64))
def y3u(b:List Int):BitVec 64:=wv b (8*(b.length / 8)) 0 (b.length % 8)|||topV b.length
theorem w0l(x:Int):Go.IntKind.u64.wrap x=x % 18446744073709551616:=rfl
theorem y7b(x:Int):Go.IntKind.u64.wrap x=((BitVec.ofInt 64 (Go.IntKind.u64.wrap x)).toNat:Int):=by
  rw[BitVec.toNat_ofInt,w0l]
  omega
theorem j2v{n:Nat}(h:n<18446744073709551616):Go.IntKind.u64.wrap (n:Int)=n:=by
  show (n:Int) % 18446744073709551616=n
  omega
theorem v97(v:BitVec 64):BitVec.ofInt 64 ((v.toNat:Nat):Int)=v:=by simp
theorem y3v(v t:BitVec 64):Go.IntKind.u64.wrap ((BitVec.ofInt 64 ((v.toNat:Nat):Int)|||t).toNat:Int)=((v|||t).toNat:Int):=by
  rw[v97];exact j2v (v|||t).isLt
theorem j5b{x k:Int}{K:Int->Prop}(hk:k=13∨k=16∨k=17∨k=21∨k=32)(h:K (rot x k)):Vf x k K:=by
  have e:Go.IntKind.u64.wrap (↑(BitVec.ofInt 64 (Go.IntKind.u64.wrap k) &&& BitVec.ofInt 64 63).toNat:Int)=k:=by rcases hk with rfl|rfl|rfl|rfl|rfl<;>decide
  have e2:0<=Go.IntKind.u64.wrap (64 - k):=by rcases hk with rfl|rfl|rfl|rfl|rfl<;>decide
  unfold Vf
  rw[e]
  exact⟨by omega,e2,h⟩
theorem z79{x k:Int}{K:Int->Prop}(hk:k=13∨k=16∨k=17∨k=21∨k=32)(h:K (rot x k)):q81 x k K:=by
  have e2:0<=Go.IntKind.u64.wrap (64 - k):=by rcases hk with rfl|rfl|rfl|rfl|rfl<;>decide
  unfold q81
  exact⟨by omega,e2,h⟩
theorem v98(s:S4)(i:Int)(h:0<=i):rnd (rn i.toNat s)=rn (i+1).toNat s:=by
  rw[show (i+1).toNat=i.toNat+1 by omega];rfl
theorem v6c{a b c d n:Int}{q:Nat}{K:Int->Int->Int->Int->Prop}(hn:n=(q:Int))(h1:q<=1000)(h:K (rn q (a,b,c,d)).1 (rn q (a,b,c,d)).2.1 (rn q (a,b,c,d)).2.2.1 (rn q (a,b,c,d)).2.2.2):Zb a b c d n K:=by
  subst hn
  unfold Zb Bx
  refine Lp5.ind (fun i a' b' c' d'=>0<=i/\i<=(q:Int)/\(a',b',c',d')=rn i.toNat (a,b,c,d)) (fun i _ _ _ _=>((q:Int) - i).toNat) ?_ ⟨Int.le_refl 0,by omega,rfl⟩
  rintro i a' b' c' d' ⟨i0,i1,hs⟩
  refine Cnd.mk (fun hc=>j5b (by simp) (j5b (by simp) (j5b (by simp) (j5b (by simp) (j5b (by simp) (j5b (by simp) ⟨by unfold InI;omega,⟨by omega,by omega,?_⟩,by omega⟩)))))) fun hc=> ?_
  · rw[←v98 _ _ i0,←hs];simp only[rnd,w64,xr]
  · rw[show q=i.toNat by omega,←hs] at h;exact h
theorem w8x{v:Sip}{n:Int}{q:Nat}{K:Sip->Prop}(hn:n=(q:Int))(h1:q<=1000)(h:K (Sip.mk (rn q (v.1,v.2,v.3,v.4)).1 (rn q (v.1,v.2,v.3,v.4)).2.1 (rn q (v.1,v.2,v.3,v.4)).2.2.1 (rn q (v.1,v.2,v.3,v.4)).2.2.2)):Z2 v n K:=by
  subst hn
  unfold Z2 q6j
  refine Lp5.ind (fun i a' b' c' d'=>0<=i/\i<=(q:Int)/\(a',b',c',d')=rn i.toNat (v.1,v.2,v.3,v.4)) (fun i _ _ _ _=>((q:Int) - i).toNat) ?_ ⟨Int.le_refl 0,by omega,rfl⟩
  rintro i a' b' c' d' ⟨i0,i1,hs⟩
  refine Cnd.mk (fun hc=>z79 (by simp) (z79 (by simp) (z79 (by simp) (z79 (by simp) (z79 (by simp) (z79 (by simp) ⟨by unfold InI;omega,⟨by omega,by omega,?_⟩,by omega⟩)))))) fun hc=> ?_
  · rw[←v98 _ _ i0,←hs];simp only[rnd,w64,xr]
  · rw[show q=i.toNat by omega,←hs] at h;exact h
theorem exR: ∃R:Nat->S4->S4,(∀(a b c d n:Int) (q:Nat) (K:Int->Int->Int->Int->Prop),n=(q:Int)->q<=1000->K (R q (a,b,c,d)).1 (R q (a,b,c,d)).2.1 (R q (a,b,c,d)).2.2.1 (R q (a,b,c,d)).2.2.2->Zb a b c d n K)/\
    ∀(v:Sip) (n:Int) (q:Nat) (K:Sip->Prop),n=(q:Int)->q<=1000->K (Sip.mk (R q (v.1,v.2,v.3,v.4)).1 (R q (v.1,v.2,v.3,v.4)).2.1 (R q (v.1,v.2,v.3,v.4)).2.2.1 (R q (v.1,v.2,v.3,v.4)).2.2.2)->Z2 v n K:=
  ⟨rn,fun _ _ _ _ _ _ _ hn hq h=>v6c hn hq h,fun _ _ _ _ hn hq h=>w8x hn hq h⟩
def RR:Nat->S4->S4:=Classical.choose exR
theorem w8y{a b c d n:Int}{q:Nat}{K:Int->Int->Int->Int->Prop}(hn:n=(q:Int))(h1:q<=1000)(h:K (RR q (a,b,c,d)).1 (RR q (a,b,c,d)).2.1 (RR q (a,b,c,d)).2.2.1 (RR q (a,b,c,d)).2.2.2):Zb a b c d n K:=(Classical.choose_spec exR).1 a b c d n q K hn h1 h
theorem w0m{v:Sip}{n:Int}{q:Nat}{K:Sip->Prop}(hn:n=(q:Int))(h1:q<=1000)(h:K (Sip.mk (RR q (v.1,v.2,v.3,v.4)).1 (RR q (v.1,v.2,v.3,v.4)).2.1 (RR q (v.1,v.2,v.3,v.4)).2.2.1 (RR q (v.1,v.2,v.3,v.4)).2.2.2)):Z2 v n K:=(Classical.choose_spec exR).2 v n q K hn h1 h
def wds(s:S4)(m:Int):S4:=(xr (RR 2 (s.1,s.2.1,s.2.2.1,xr s.2.2.2 m)).1 m,(RR 2 (s.1,s.2.1,s.2.2.1,xr s.2.2.2 m)).2)
def blks(b:List Int)(k0 k1:Int):Nat->S4
  |0=>s0 k0 k1
  |i+1=>wds (blks b k0 k1 i) ((wv b (8*i) 0 8).toNat:Int)
def fin4(s:S4):S4:=RR 4 (s.1,s.2.1,xr s.2.2.1 255,s.2.2.2)
def endV(s:S4):Int:=xr (xr (xr (fin4 s).1 (fin4 s).2.1) (fin4 s).2.2.1) (fin4 s).2.2.2
def sumV(k0 k1:Int)(b:List Int):Int:=
  endV (wds (blks b k0 k1 (b.length / 8)) ((y3u b).toNat:Int))
theorem v99{a b c d m:Int}{K:Int->Int->Int->Int->Prop}(h:K (wds (a,b,c,d) m).1 (wds (a,b,c,d) m).2.1 (wds (a,b,c,d) m).2.2.1 (wds (a,b,c,d) m).2.2.2):V2 a b c d m K:=by
  unfold V2 q2h
  simp only[wds,xr] at h
  exact w8y (q:=2) rfl (by decide) h
theorem y7c{s:S4}{K:Int->Prop}(h:K (endV s)):Zb s.1 s.2.1 (Go.IntKind.u64.wrap (↑(BitVec.ofInt 64 s.2.2.1 ^^^ BitVec.ofInt 64 255).toNat:Int)) s.2.2.2 4 fun Z3 j06 y5j y76=>K (Go.IntKind.u64.wrap (↑(BitVec.ofInt 64 (Go.IntKind.u64.wrap (↑(BitVec.ofInt 64 (Go.IntKind.u64.wrap (↑(BitVec.ofInt 64 Z3 ^^^ BitVec.ofInt 64 j06).toNat:Int)) ^^^ BitVec.ofInt 64 y5j).toNat:Int)) ^^^ BitVec.ofInt 64 y76).toNat:Int)):=by
  simp only[endV,fin4,xr] at h
  exact w8y (q:=4) rfl (by decide) h
theorem y0a{s:S4}{K:Int->Prop}(h:K (endV s)):Z2 (Sip.mk s.1 s.2.1 (Go.IntKind.u64.wrap (↑(BitVec.ofInt 64 s.2.2.1 ^^^ BitVec.ofInt 64 255).toNat:Int)) s.2.2.2) 4 fun x=>K (Go.IntKind.u64.wrap (↑(BitVec.ofInt 64 (Go.IntKind.u64.wrap (↑(BitVec.ofInt 64 (Go.IntKind.u64.wrap (↑(BitVec.ofInt 64 x.1 ^^^ BitVec.ofInt 64 x.2).toNat:Int)) ^^^ BitVec.ofInt 64 x.3).toNat:Int)) ^^^ BitVec.ofInt 64 x.4).toNat:Int)):=by
  simp only[endV,fin4,xr] at h
  exact w0m (q:=4) rfl (by decide) h
theorem y0b{a b c d m:Int}{K:Sip->Prop}(h: ∀x:Sip,(Go.IntKind.u64.wrap (↑(BitVec.ofInt 64 x.1 ^^^ BitVec.ofInt 64 m).toNat:Int),x.2,x.3,x.4)=wds (a,b,c,d) m->K x):Z2 (Sip.mk a b c (Go.IntKind.u64.wrap (↑(BitVec.ofInt 64 d ^^^ BitVec.ofInt 64 m).toNat:Int))) 2 K:=by
  refine w0m (q:=2) rfl (by decide) (h _ ?_)
  simp only[wds,xr]
theorem y9x(b:List Int)(o:Nat)(v:BitVec 64): ∀k,wv b o v k=wv b o 0 k|||v
  |0=>by simp[wv]
  |k+1=>by
    rw[wv,wv,y9x b o v k,BitVec.or_assoc,BitVec.or_comm v,←BitVec.or_assoc]
theorem v1s{b:List Int}{o k:Nat}{v:BitVec 64}{y:Int}(hy:b[o+k]? =some y):wv b o v (k+1)=wv b o v k|||tm y k:=by
  rw[wv,List.getD_eq_getElem?_getD,hy];rfl
theorem y7d(n:Nat):topV n=BitVec.ofInt 64 (Go.IntKind.u64.wrap (Go.IntKind.u64.wrap ((n:Int).tmod 256)*2 ^ Min.min (Int.toNat 56) 64)):=by
  have e:(2:Int) ^ Min.min (Int.toNat 56) 64=72057594037927936:=by decide
  have h2:Go.IntKind.u64.wrap (Go.IntKind.u64.wrap (n:Int)*72057594037927936)=Go.IntKind.u64.wrap (Go.IntKind.u64.wrap ((n:Int).tmod 256)*72057594037927936):=by
    rw[w0l,w0l,w0l,w0l,Int.tmod_eq_emod_of_nonneg (by omega)]
    omega
  unfold topV
  rw[e,h2]
theorem w50{k0 k1:Int}{b:List Int}{K:Int->Prop}(hb:b.length<=1099511627776)(h:K (sumV k0 k1 b)):q5t k0 k1 b K:=by
  unfold q5t z5s
  refine fun _=>⟨by decide,?_⟩
  refine Lp5.ind (fun i a' b' c' d'=> ∃j:Nat,i=8*(j:Int)/\8*j<=b.length/\(a',b',c',d')=blks b k0 k1 j) (fun i _ _ _ _=>(b.length - i).toNat) ?_ ⟨0,rfl,by omega,rfl⟩
  rintro i a' b' c' d' ⟨j,rfl,hj,hs⟩
  refine⟨by unfold InI;omega,fun _=>Cnd.mk (fun hc=> ?_) fun hc=> ?_⟩
  · refine Lp2.ind (fun v k=> ∃q:Nat,k=(q:Int)/\q<=8/\v=((wv b (8*j) 0 q).toNat:Int)) (fun _ k=>(8 - k).toNat) ?_ ⟨0,rfl,by omega,rfl⟩
    rintro v k ⟨q,rfl,hq,rfl⟩
    refine Cnd.mk (fun hk=>⟨by unfold InI;omega,⟨by omega,by omega⟩,fun y hy=>⟨by unfold InI;omega,by omega,by unfold InI;omega,⟨q+1,by omega,by omega,?_⟩,by omega⟩⟩) fun hk=> ?_
    · rw[show (8*(j:Int)+q).toNat=8*j+q by omega] at hy
      rw[v1s hy,show (8*(q:Int)).toNat=8*q by omega]
      exact y3v _ _
    · refine v99 ⟨by unfold InI;omega,⟨j+1,by omega,by omega,?_⟩,by omega⟩
      rw[hs,show q=8 by omega];rfl
  · refine fun _=>⟨by decide,?_⟩
    have hjl:j=b.length / 8:=by omega
    have hm:((b.length:Nat):Int).tmod 8=((b.length % 8:Nat):Int):=by rw[Int.tmod_eq_emod_of_nonneg (by omega)];omega
    rw[hm]
    refine Lp2.ind (fun v k=> ∃q:Nat,k=(q:Int)/\q<=b.length % 8/\v=((wv b (8*j) (topV b.length) q).toNat:Int)) (fun _ k=>(8 - k).toNat) ?_ ⟨0,rfl,by omega,by unfold wv topV;exact y7b _⟩
    rintro v k ⟨q,rfl,hq,rfl⟩
    refine Cnd.mk (fun hk _ _=>⟨by decide,by unfold InI;omega,by unfold InI;omega,⟨by omega,by omega⟩,fun y hy=>⟨by unfold InI;omega,by omega,by unfold InI;omega,⟨q+1,by omega,by omega,?_⟩,by omega⟩⟩) fun hk=> ?_
    · rw[show ((b.length:Int) - ((b.length % 8:Nat):Int)+q).toNat=8*j+q by omega] at hy
      rw[v1s hy,show (8*(q:Int)).toNat=8*q by omega]
      exact y3v _ _
    · refine v99 (y7c (s:=wds (a',b',c',d') _) ?_)
      rw[hs,show q=b.length % 8 by omega,y9x,hjl]
      exact h
theorem y0c{k0 k1:Int}{b:List Int}{K:Int->Prop}(hb:b.length<=1099511627776)(h:K (sumV k0 k1 b)):j1z k0 k1 b K:=by
  unfold j1z w4u
  have hd:((b.length:Nat):Int).tdiv 8=((b.length / 8:Nat):Int):=by rw[Int.tdiv_eq_ediv_of_nonneg (by omega)];omega
  rw[hd]
  refine Lp5.ind (fun i a' b' c' d'=> ∃j:Nat,i=(j:Int)/\j<=b.length / 8+1/\(j<=b.length / 8->(a',b',c',d')=blks b k0 k1 j)/\(j=b.length / 8+1->(a',b',c',d')=wds (blks b k0 k1 (b.length / 8)) ((y3u b).toNat:Int))) (fun i _ _ _ _=>(b.length / 8+1 - i).toNat) ?_ ⟨0,rfl,by omega,fun _=>rfl,fun h=>by omega⟩
  rintro i a' b' c' d' ⟨j,rfl,hj,hs,hf⟩
  refine fun _=>⟨by decide,by unfold InI;omega,Cnd.mk (fun hc=> ?_) fun hc=> ?_⟩
  · have hs:=hs (by omega)
    have done: ∀q:Nat,(q=8∨q=b.length % 8/\j=b.length / 8)->q<=8->(j<b.length / 8->q=8)->(j=b.length / 8->q=b.length % 8)->Jn1 (fun Qe=>Z2 (Sip.mk a' b' c' (Go.IntKind.u64.wrap (↑(BitVec.ofInt 64 d' ^^^ BitVec.ofInt 64 Qe).toNat:Int))) 2 fun Qm=>InI ((j:Int)+1)/\(∃j':Nat,(j:Int)+1=(j':Int)/\j'<=b.length / 8+1/\(j'<=b.length / 8->(Go.IntKind.u64.wrap (↑(BitVec.ofInt 64 Qm.1 ^^^ BitVec.ofInt 64 Qe).toNat:Int),Qm.2,Qm.3,Qm.4)=blks b k0 k1 j')/\(j'=b.length / 8+1->(Go.IntKind.u64.wrap (↑(BitVec.ofInt 64 Qm.1 ^^^ BitVec.ofInt 64 Qe).toNat:Int),Qm.2,Qm.3,Qm.4)=wds (blks b k0 k1 (b.length / 8)) ((y3u b).toNat:Int)))/\((b.length / 8:Nat)+1 - ((j:Int)+1)).toNat<((b.length / 8:Nat)+1 - (j:Int)).toNat) fun w9u=>b.length<=(9223372036854775807:Nat)->(8:Int)≠0/\InI ((b.length / 8:Nat):Int)/\Cnd ((j:Int)=((b.length / 8:Nat):Int)) (b.length<=(9223372036854775807:Nat)->(256:Int)≠0/\(0:Int)<=56/\w9u (Go.IntKind.u64.wrap (↑(BitVec.ofInt 64 ((wv b (8*j) 0 q).toNat:Int)|||BitVec.ofInt 64 (Go.IntKind.u64.wrap (Go.IntKind.u64.wrap ((b.length:Int).tmod 256)*2 ^ Min.min (Int.toNat 56) 64))).toNat:Int))) (w9u ((wv b (8*j) 0 q).toNat:Int)):=fun q _ hq h1 h2=>by
      refine Jn1.mk (fun x=>(j<b.length / 8->x=((wv b (8*j) 0 8).toNat:Int))/\(j=b.length / 8->x=((y3u b).toNat:Int))) (fun _=>⟨by decide,by unfold InI;omega,Cnd.mk (fun he=>fun _=>⟨by decide,by decide,fun _=>by omega,fun hjl=> ?_⟩) fun hne=>⟨fun hl=>by rw[h1 hl],fun he=>by omega⟩⟩) fun x hx=>y0b fun s hsw=>⟨by unfold InI;omega,⟨j+1,by omega,by omega,fun hl=> ?_,fun he=> ?_⟩,by omega⟩
      · rw[←y7d,y3v,h2 hjl,hjl];rfl
      · rw[hsw,hx.1 (by omega),blks,←hs]
      · rw[hsw,hx.2 (by omega),←show j=b.length / 8 by omega,←hs]
    refine Lp2.ind (fun v k=> ∃q:Nat,k=(q:Int)/\q<=8/\(j=b.length / 8->q<=b.length % 8)/\v=((wv b (8*j) 0 q).toNat:Int)) (fun _ k=>(8 - k).toNat) ?_ ⟨0,rfl,by omega,fun _=>by omega,rfl⟩
    rintro v k ⟨q,rfl,hq,hq2,rfl⟩
    refine Cnd.mk (fun hk=>⟨by unfold InI;omega,by unfold InI;omega,fun _=>Cnd.mk (fun hl=>⟨by unfold InI;omega,by unfold InI;omega,⟨by omega,by omega⟩,fun y hy=>⟨by unfold InI;omega,?_,by unfold InI;omega,⟨q+1,by omega,by omega,fun _=>by omega,?_⟩,by omega⟩⟩) fun hl=> ?_⟩) fun hk=> ?_
    · rw[show 8*(q:Int)=((8*q:Nat):Int) by omega,j2v (by omega)];omega
    · rw[show (8*(j:Int)+q).toNat=8*j+q by omega] at hy
      rw[v1s hy,show 8*(q:Int)=((8*q:Nat):Int) by omega,j2v (n:=8*q) (by omega),Int.toNat_natCast]
      exact y3v _ _
    · exact done q (by omega) hq (fun h=>by omega) (fun h=>by omega)
    · exact done q (by omega) hq (fun h=>by omega) (fun h=>by omega)
  · have hf:=hf (by omega)
    unfold sumV at h
    rw[←hf] at h
    exact y0a (s:=(a',b',c',d')) h
def fb(n k:Nat):Int:=Go.IntKind.u8.wrap ((Go.IntKind.u64.wrap (n:Int)).fdiv (2 ^ Min.min (8*k) 64))
def hdr(n:Nat)(j:Nat):List Int:=(List.range j).map fun i=>fb n (7 - i)
def frm(l:List (List Int)):List Int:=l.flatMap fun f=>hdr f.length 8++f
theorem v32(n j:Nat):hdr n (j+1)=hdr n j++[fb n (7 - j)]:=by simp[hdr,List.range_succ]
theorem j0x(n j:Nat):(hdr n j).length=j:=by simp[hdr]
theorem j7w{l:List (List Int)}{i:Nat}{y:List Int}(hy:l[i]? =some y):frm (l.take (i+1))=frm (l.take i)++(hdr y.length 8++y):=by
  rw[List.take_add_one,hy];simp[frm]
theorem w0n(l:List (List Int))(i:Nat):(frm (l.take i)).length<=(frm l).length:=by
  have h:frm l=frm (l.take i)++frm (l.drop i):=by
    conv=>lhs;rw[←List.take_append_drop i l]
    exact List.flatMap_append
  rw[h,List.length_append];omega
theorem w0o{l:List (List Int)}{K:List Int->Prop}(hl:(frm l).length<=1000000000)(hn:l.length<=1000)(h:K (frm l)):B9 l K:=by
  unfold B9
  refine fun _=>Lp2.ind (fun o i=> ∃j:Nat,i=(j:Int)/\j<=l.length/\o=frm (l.take j)) (fun _ i=>(l.length - i).toNat) ?_ ⟨0,rfl,by omega,rfl⟩
  rintro o i ⟨j,rfl,hj,rfl⟩
  refine Cnd.mk (fun hc=>⟨by omega,fun y hy=> ?_⟩) fun hc=> ?_
  · have hy:l[j]? =some y:=hy
    have hln:=w0n l (j+1)
    rw[j7w hy] at hln
    simp only[List.length_append,j0x] at hln
    refine Lp2.ind (fun o k=> ∃q:Nat,k=7 - (q:Int)/\q<=8/\o=frm (l.take j)++hdr y.length q) (fun _ k=>(k+1).toNat) ?_ ⟨0,rfl,by omega,by simp[hdr]⟩
    rintro o k ⟨q,rfl,hq,rfl⟩
    refine Cnd.mk (fun hk _=>⟨by unfold InI;omega,by omega,?_,by unfold InI;omega,⟨q+1,by omega,by omega,?_⟩,by omega⟩) fun hk=>⟨?_,by unfold InI;omega,⟨j+1,by omega,by omega,?_⟩,by omega⟩
    · unfold Sml;simp only[List.length_append,j0x,List.length_singleton];omega
    · rw[v32,←List.append_assoc,show (8*(7 - (q:Int))).toNat=8*(7 - q) by omega];rfl
    · unfold Sml;simp only[List.length_append,j0x];omega
    · rw[j7w hy,show q=8 by omega,List.append_assoc]
  · rw[show j=l.length by omega,List.take_length];exact h
theorem v1t{l:List (List Int)}{K:List Int->Prop}(hl:(frm l).length<=1000000000)(hn:l.length<=1000)(h:K (frm l)):z11 l K:=by
  unfold z11
  refine Lp2.ind (fun o i=> ∃j:Nat,i=(j:Int)/\j<=l.length/\o=frm (l.take j)) (fun _ i=>(l.length - i).toNat) ?_ ⟨0,rfl,by omega,rfl⟩
  rintro o i ⟨j,rfl,hj,rfl⟩
  refine fun _=>Cnd.mk (fun hc=>⟨by omega,fun y hy _=> ?_⟩) fun hc=> ?_
  · have hy:l[j]? =some y:=hy
    have hln:=w0n l (j+1)
    rw[j7w hy] at hln
    simp only[List.length_append,j0x] at hln
    refine Lp2.ind (fun o k=> ∃q:Nat,k=56 - 8*(q:Int)/\q<=8/\o=frm (l.take j)++hdr y.length q) (fun _ k=>(k+8).toNat) ?_ ⟨0,rfl,by omega,by simp[hdr]⟩
    rintro o k ⟨q,rfl,hq,rfl⟩
    refine Cnd.mk (fun hk=> ?_) fun hk=>⟨by omega,fun z hz=> ?_⟩
    · have e:56 - 8*(q:Int)=((8*(7 - q):Nat):Int):=by omega
      rw[e,j2v (by omega)]
      refine⟨by omega,?_,by unfold InI;omega,⟨q+1,by omega,by omega,?_⟩,by omega⟩
      · unfold Sml;simp only[List.length_append,j0x,List.length_singleton];omega
      · rw[v32,←List.append_assoc,Int.toNat_natCast];rfl
    · have hz:l[j]? =some z:=hz
      rw[hy] at hz
      cases hz
      refine⟨?_,by unfold InI;omega,⟨j+1,by omega,by omega,?_⟩,by omega⟩
      · unfold Sml;simp only[List.length_append,j0x];omega
      · rw[j7w hy,show q=8 by omega,List.append_assoc]
  · rw[show j=l.length by omega,List.take_length];exact h
theorem y0d(a b:Int):0<=xr a b/\xr a b<18446744073709551616:=by
  unfold xr
  rw[j2v (BitVec.isLt _)]
  have:=(BitVec.ofInt 64 a ^^^ BitVec.ofInt 64 b).isLt
  omega
def ofV0(salt key:ByteArray):Int:=(sumV 1 0 (frm [bytesOf salt,bytesOf key])).tmod 10000
theorem w51(salt key:ByteArray):0<=ofV0 salt key/\ofV0 salt key<10000:=by
  have h: ∀s,0<=endV s:=fun s=>(y0d _ _).1
  have h0:0<=sumV 1 0 (frm [bytesOf salt,bytesOf key]):=h _
  exact⟨Int.tmod_nonneg _ h0,Int.tmod_lt_of_pos _ (by decide)⟩
theorem v33(a b:ByteArray):(frm [bytesOf a,bytesOf b]).length=a.size+b.size+16:=by
  have h: ∀a:ByteArray,(bytesOf a).length=a.size:=fun a=>by simp[bytesOf]
  simp only[frm,List.flatMap_cons,List.flatMap_nil,List.length_append,j0x,h,List.length_nil]
  omega
theorem w52{salt key:ByteArray}{K:Int->Prop}(hs:salt.size<=10000000)(hk:key.size<=10000000)(h:K (ofV0 salt key)):Gl salt key K:=by
  have hl:=v33 salt key
  have hr:=w51 salt key
  unfold Gl z92
  refine⟨by unfold Sml;omega,by unfold Sml;omega,?_⟩
  show q2j 1 [bytesOf salt,bytesOf key] _
  unfold q2j z27
  refine w0o (by omega) (by simp) (w50 (by omega) ⟨by decide,?_,h⟩)
  exact InI.mk (Int.le_trans (by decide) hr.1) (Int.le_trans (Int.le_of_lt hr.2) (by decide))
theorem v6d{salt key:ByteArray}{K:Int->Prop}(hs:salt.size<=10000000)(hk:key.size<=10000000)(h:K (ofV0 salt key)):q2y salt key K:=by
  have hl:=v33 salt key
  have hr:=w51 salt key
  unfold q2y w4v
  refine⟨by unfold Sml;omega,by unfold Sml;omega,?_⟩
  show z5x 1 [bytesOf salt,bytesOf key] _
  unfold z5x j86
  refine v1t (by omega) (by simp) (y0c (by omega) ⟨by decide,?_,h⟩)
  exact InI.mk (Int.le_trans (by decide) hr.1) (Int.le_trans (Int.le_of_lt hr.2) (by decide))
theorem exOf: ∃F:ByteArray->ByteArray->Int,(∀a b,0<=F a b/\F a b<10000)/\(∀(salt key:ByteArray) (K:Int->Prop),salt.size<=10000000->key.size<=10000000->K (F salt key)->Gl salt key K)/\
    ∀(salt key:ByteArray) (K:Int->Prop),salt.size<=10000000->key.size<=10000000->K (F salt key)->q2y salt key K:=
  ⟨ofV0,w51,fun _ _ _ h1 h2 h=>w52 h1 h2 h,fun _ _ _ h1 h2 h=>v6d h1 h2 h⟩
def ofV:ByteArray->ByteArray->Int:=Classical.choose exOf
theorem y0e(salt key:ByteArray):0<=ofV salt key/\ofV salt key<10000:=(Classical.choose_spec exOf).1 salt key
theorem z6z{salt key:ByteArray}{K:Int->Prop}(hs:salt.size<=10000000)(hk:key.size<=10000000)(h:K (ofV salt key)):Gl salt key K:=(Classical.choose_spec exOf).2.1 salt key K hs hk h
theorem j2w{salt key:ByteArray}{K:Int->Prop}(hs:salt.size<=10000000)(hk:key.size<=10000000)(h:K (ofV salt key)):q2y salt key K:=(Classical.choose_spec exOf).2.2 salt key K hs hk h
end Go.En
end
noncomputable section
set_option maxRecDepth 100000
namespace Go.En
open Go Go.Fl Go.Fl.Lk Go.Fx
theorem w3z{α:Type}{a b:List α}(hl:a.length=b.length){F:α->α->(Bool->Prop)->Prop}{K:Bool->Prop}(hF: ∀x∈a,∀y∈b,∀K:Bool->Prop,(∀r,(r=true↔x=y)->K r)->F x y K)(h: ∀r,(r=true↔a=b)->K r):
  Lp1 (fun i Y=>a.length<=9223372036854775807->Cnd (i<(a.length:Int)) ((0<=i/\i<(a.length:Int))/\ ∀x,a[i.toNat]? =some x->(0<=i/\i<(b.length:Int))/\ ∀y,b[i.toNat]? =some y->F x y fun r=>Cnd (r=true) (InI (i+1)/\Y (i+1)) (K false)) (K true)) 0:=by
 refine Lp1.ind (fun (i:Int)=>0<=i/\i<=a.length/\a.take i.toNat=b.take i.toNat) (fun (i:Int)=>(a.length - i).toNat) ?_ ⟨by omega,by omega,by simp⟩
 rintro i ⟨i0,i1,he⟩ _
 refine Cnd.mk (fun hc=>⟨by omega,fun x hx=>⟨by omega,fun y hy=>hF x (getm hx) y (getm hy) _ fun r hr=>Cnd.mk (fun hc=>⟨by unfold InI;omega,⟨by omega,by omega,?_⟩,by omega⟩) fun hc=>h _ ⟨fun h=>(by cases h),fun h=> ?_⟩⟩⟩) fun hc=>h _ ⟨fun _=> ?_,fun _=>rfl⟩
 ·rw[show (i+1).toNat=i.toNat+1 by omega,List.take_add_one,List.take_add_one,he,hx,hy,hr.1 hc]
 ·subst h;rw[hx] at hy;exact absurd (hr.2 (by cases hy;rfl)) hc
 ·rwa [List.take_of_length_le (by omega),List.take_of_length_le (by omega)] at he
theorem v6e{a b:List ByteArray}{K:Bool->Prop}(h: ∀r,(r=true↔a=b)->K r):z5d a b K:=by
 unfold z5d
 intro ha hb
 refine Cnd.mk (fun hl=> ?_) fun hl=>h _ ⟨fun h=>(by cases h),fun e=>by rw[e] at hl;exact absurd rfl hl⟩
 refine Lp1.ind (fun (i:Int)=>0<=i/\i<=a.length/\a.take i.toNat=b.take i.toNat) (fun (i:Int)=>(a.length - i).toNat) ?_ ⟨by omega,by omega,by simp⟩
 rintro i ⟨i0,i1,he⟩ _
 refine Cnd.mk (fun hc=>⟨by omega,fun x hx=>⟨by omega,fun y hy=>Cnd.mk (fun hc=>⟨by unfold InI;omega,⟨by omega,by omega,?_⟩,by omega⟩) fun hc=>h _ ⟨fun h=>(by cases h),fun h=> ?_⟩⟩⟩) fun hc=>h _ ⟨fun _=> ?_,fun _=>rfl⟩
 ·rw[show (i+1).toNat=i.toNat+1 by omega,List.take_add_one,List.take_add_one,he,hx,hy,hc]
 ·subst h;rw[hx] at hy;cases hy;exact absurd rfl hc
 ·rwa [List.take_of_length_le (by omega),List.take_of_length_le (by omega)] at he
theorem Hi{l:List ByteArray}{s:ByteArray}{K:Bool->Prop}(h: ∀r,(r=true↔s∈l)->K r):Wa l s K:=by
 unfold Wa
 refine Lp1.ind (fun (i:Int)=>0<=i/\i<=l.length/\s∉l.take i.toNat) (fun (i:Int)=>(l.length - i).toNat) ?_ ⟨by omega,by omega,by simp⟩
 rintro i ⟨i0,i1,he⟩ _
 refine Cnd.mk (fun hc=>⟨by omega,fun x hx=>Cnd.mk (fun e=>h _ ⟨fun _=>e▸getm hx,fun _=>rfl⟩) fun e=>⟨by unfold InI;omega,⟨by omega,by omega,?_⟩,by omega⟩⟩) fun hc=>h _ ⟨fun h=>(by cases h),fun hm=> ?_⟩
 ·rw[show (i+1).toNat=i.toNat+1 by omega,List.take_add_one,hx];simp[he,Ne.symm e]
 ·rw[List.take_of_length_le (by omega)] at he;exact absurd hm he
theorem j0y{a b:Val}{K:Bool->Prop}(h: ∀r,(r=true↔a=b)->K r):q1l a b K:=by
 unfold q1l j37
 have no:(a≠b)->K false:=fun hn=>h _ ⟨fun h=>(by cases h),fun e=>absurd e hn⟩
 refine Cnd.mk (fun h1=>Cnd.mk (fun h2=>Cnd.mk (fun h3=>v6e fun r hr=>h r (hr.trans ⟨fun h4=> ?_,fun e=>by rw[e]⟩)) fun h=>no fun e=>h (by rw[e])) fun h=>no fun e=>h (by rw[e])) fun h=>no fun e=>h (by rw[e])
 cases a;cases b;simp_all
theorem j6z{a b:List Val}{K:Bool->Prop}(h: ∀r,(r=true↔a=b)->K r):Ut a b K:=by
 unfold Ut q77
 intro ha hb
 exact Cnd.mk (fun hl=>w3z (by omega) (fun x _ y _ K hK=>j0y hK) h) fun hl=>h _ ⟨fun h=>(by cases h),fun e=>by rw[e] at hl;exact absurd rfl hl⟩
theorem Jj{e:Ex}:Ex.mk e.op e.kind e.name e.values e.kids=e:=by cases e;rfl
theorem w2g: ∀(n:Nat) {a b:Ex} {K:Bool->Prop},ExS n a->(∀r,(r=true↔a=b)->K r)->Ba a b K:=by
 intro n a b K ha h X hX
 induction n using Nat.strongRecOn generalizing a b K with
 |_ n ih=>
 refine hX _ _ _ ?_
 unfold z2y
 have no:(a≠b)->K false:=fun hn=>h _ ⟨fun h=>(by cases h),fun e=>absurd e hn⟩
 refine Cnd.mk (fun h1=>Cnd.mk (fun h2=>Cnd.mk (fun h3=>j6z fun r hr=>Cnd.mk (fun hc _ _=>Cnd.mk (fun hl=> ?_) fun h=>no fun e=>h (by rw[e])) fun hc=>no fun e=>hc (hr.2 (by rw[e]))) fun h=>no fun e=>h (by rw[e])) fun h=>no fun e=>h (by rw[e])) fun h=>no fun e=>h (by rw[e])
 have h4:=hr.1 hc
 refine w3z (by omega) (fun x hx y _ K hK=> ?_) fun r hr=>h r (hr.trans ⟨fun h5=> ?_,fun e=>by rw[e]⟩)
 ·obtain⟨m,hm,hk⟩:=ha.kid hx
  rw[Jj,Jj]
  exact ih m (by omega) hk hK
 ·cases a;cases b;simp_all
theorem w0p(n:Nat){a b:Ex}{K:Bool->Prop}(ha:ExS n a)(h: ∀r,(r=true↔a=b)->K r):Ba (Ex.mk a.1 a.2 a.3 a.4 a.5) (Ex.mk b.1 b.2 b.3 b.4 b.5) K:=by
 rw[Jj,Jj];exact w2g n ha h
theorem j52{n:Nat}{l:List Ex}{e:Ex}{K:Int->Prop}(hl: ∀x∈l,ExS n x)(h: ∀r:Int,(r= -1/\e∉l)∨(0<=r/\l[r.toNat]? =some e/\e∉l.take r.toNat)->K r):Ui l e K:=by
 unfold Ui z9r
 refine Lp1.ind (fun (i:Int)=>0<=i/\i<=l.length/\e∉l.take i.toNat) (fun (i:Int)=>(l.length - i).toNat) ?_ ⟨by omega,by omega,by simp⟩
 rintro i ⟨i0,i1,he⟩ _
 refine Cnd.mk (fun hc=>⟨by omega,fun x hx=>w0p n (hl x (getm hx)) fun r hr=>Cnd.mk (fun hc=>h _ (.inr ⟨i0,by rw[hx,hr.1 hc],he⟩)) fun hc=>⟨by unfold InI;omega,⟨by omega,by omega,?_⟩,by omega⟩⟩) fun hc=>h _ (.inl ⟨rfl,?_⟩)
 ·rw[show (i+1).toNat=i.toNat+1 by omega,List.take_add_one,hx]
  have:e≠x:=fun e=>hc (hr.2 e.symm)
  simp[he,this]
 ·rwa [List.take_of_length_le (by omega)] at he
theorem q1s{op:Int}{K:Bool->Prop}(h: ∀r,(r=true↔6<=op/\op<=15)->K r):Jf op K:=by
 unfold Jf
 exact Cnd.mk (fun h6=>h _ ⟨fun a=>⟨h6,of_decide_eq_true a⟩,fun a=>decide_eq_true a.2⟩) fun h6=>h _ ⟨fun a=>(by cases a),fun a=>absurd a.1 h6⟩
theorem v1u{now:Int}{K:Bool->Prop}(h: ∀r,(r=true↔0<=now/\now<=1099511627776)->K r):z1l now K:=by
 unfold z1l
 exact Cnd.mk (fun h6=>h _ ⟨fun a=>⟨h6,of_decide_eq_true a⟩,fun a=>decide_eq_true a.2⟩) fun h6=>h _ ⟨fun a=>(by cases a),fun a=>absurd a.1 h6⟩
theorem w8z{α:Type}{l:List α}{f:α->ByteArray}{key:ByteArray}{K:Int->Prop}(h: ∀r:Int,(r= -1/\ ∀x∈l,f x≠key)∨(0<=r/\r<l.length/\(∃x,l[r.toNat]? =some x/\f x=key)/\ ∀x∈l.take r.toNat,f x≠key)->K r):
  Lp1 (fun i Y=>l.length<=9223372036854775807->Cnd (i<(l.length:Int)) ((0<=i/\i<(l.length:Int))/\ ∀y,l[i.toNat]? =some y->Cnd (f y=key) (K i) (InI (i+1)/\Y (i+1))) (K (-1))) 0:=by
 refine Lp1.ind (fun (i:Int)=>0<=i/\i<=l.length/\ ∀x∈l.take i.toNat,f x≠key) (fun (i:Int)=>(l.length - i).toNat) ?_ ⟨by omega,by omega,by simp⟩
 rintro i ⟨i0,i1,he⟩ _
 refine Cnd.mk (fun hc=>⟨by omega,fun x hx=>Cnd.mk (fun e=>h _ (.inr ⟨i0,hc,⟨x,hx,e⟩,he⟩)) fun e=>⟨by unfold InI;omega,⟨by omega,by omega,?_⟩,by omega⟩⟩) fun hc=>h _ (.inl ⟨rfl,?_⟩)
 ·rw[show (i+1).toNat=i.toNat+1 by omega,List.take_add_one,hx]
  exact Zt he e
 ·rwa [List.take_of_length_le (by omega)] at he
def PlcS{α:Type}(l:List α)(f:α->ByteArray)(key:ByteArray)(r:Int):Prop:=(r= -1/\ ∀x∈l,f x≠key)∨(0<=r/\r<l.length/\(∃x,l[r.toNat]? =some x/\f x=key)/\ ∀x∈l.take r.toNat,f x≠key)
theorem z1a{v:Envt}{key:ByteArray}{K:Int->Prop}(h: ∀r,PlcS v.layers Lay_.key key r->K r):Jn v key K:=w8z h
theorem j2x{v:Envt}{key:ByteArray}{K:Int->Prop}(h: ∀r,PlcS v.flags Flg.key key r->K r):q1o v key K:=w8z h
theorem q4t{l:List Spn}{K:List Bool->Prop}(h: ∀b:List Bool,b.length=10000->K b):H9 l K:=by
 unfold H9
 refine⟨⟨by decide,Int.le_refl _,by unfold Sml;decide⟩,Lp2.ind (fun (i:Int) (b:List Bool)=>0<=i/\i<=l.length/\b.length=10000) (fun (i:Int) _=>(l.length - i).toNat) ?_ ⟨by omega,by omega,by rw[List.length_replicate];decide⟩⟩
 rintro i b ⟨i0,i1,hb⟩ _
 refine Cnd.mk (fun hc=>⟨by omega,fun y hy=> ?_⟩) fun _=>h b hb
 refine Lp2.ind (fun (j:Int) (b:List Bool)=>0<=j/\b.length=10000) (fun (j:Int) _=>(10000 - j).toNat) ?_ ⟨by omega,hb⟩
 rintro j b ⟨j0,hb⟩
 refine⟨by omega,fun z hz=>Cnd.mk (fun hc=>⟨by omega,fun u hu=>⟨by unfold InI;omega,⟨by omega,by simpa using hb⟩,by omega⟩⟩) fun _=>⟨by unfold InI;omega,⟨by omega,by omega,hb⟩,by omega⟩⟩
theorem q57{b:List Bool}{K:List Spn->Prop}(hb:b.length<=10000)(h: ∀l,SpsS l->K l):J6 b K:=by
 unfold J6
 refine Lp2.ind (fun (l:List Spn) (i:Int)=>0<=i/\i<=b.length/\l.length<=i/\(∀s∈l,0<=s.lo/\s.lo<s.hi/\s.hi<=i)/\(0<i->b[(i - 1).toNat]? =some true->l≠[])) (fun _ (i:Int)=>(b.length - i).toNat) ?_ ⟨by omega,by omega,by simp,by simp,by omega⟩
 rintro l i ⟨i0,i1,hl,hs,hn⟩ _
 refine Cnd.mk (fun hc=>⟨by omega,fun y hy=>Cnd.mk (fun ht=> ?_) fun hf=> ?_⟩) fun _=>h l ⟨by omega,fun s hm=>by have:=hs s hm;omega⟩
 ·have snoc:InI (i+1)/\Sml (l++[Spn.mk i (i+1)]).length/\InI (i+1)/\((0<=i+1/\i+1<=b.length/\((l++[Spn.mk i (i+1)]).length:Int)<=i+1/\(∀s∈l++[Spn.mk i (i+1)],0<=s.lo/\s.lo<s.hi/\s.hi<=i+1)/\(0<i+1->b[(i+1 - 1).toNat]? =some true->l++[Spn.mk i (i+1)]≠[]))/\(b.length - (i+1)).toNat<(b.length - i).toNat):=
   ⟨by unfold InI;omega,by unfold Sml;simp;omega,by unfold InI;omega,⟨by omega,by omega,by simp;omega,Zt (fun s hm=>by have:=hs s hm;omega) ⟨i0,by simp only;omega,by simp⟩,fun _ _=>by simp⟩,by omega⟩
  refine Cnd.mk (fun hp=>⟨by unfold InI;omega,by omega,fun z hz=>Cnd.mk (fun hz1=> ?_) fun _=>snoc⟩) fun _=>snoc
  have hne:=hn hp (by rw[hz,hz1])
  have hpos:0<l.length:=List.length_pos_iff.2 hne
  refine fun _=>⟨by unfold InI;omega,by unfold InI;omega,by omega,fun u hu=>⟨by unfold InI;omega,⟨by omega,by omega,by simp;omega,fun s hm=> ?_,fun _ _ hx=> ?_⟩,by omega⟩⟩
  ·have:=hs u (getm hu)
   rcases List.mem_or_eq_of_mem_set hm with hm|rfl
   ·have:=hs s hm;omega
   ·exact⟨this.1,by simp only;omega,by simp⟩
  ·exact hne (by rw[←List.length_eq_zero_iff] at hx⊢;simpa using hx)
 ·refine⟨by unfold InI;omega,⟨by omega,by omega,by omega,fun s hm=>by have:=hs s hm;omega,fun _ hx=> ?_⟩,by omega⟩
  rw[show (i+1 - 1).toNat=i.toNat by omega,hy] at hx
  cases hx;exact absurd rfl hf
theorem z4t{l:List Col}{now:Int}{K:List Int->Prop}(h: ∀b:List Int,b.length=10000->K b):H8 l now K:=by
 unfold H8
 refine⟨⟨by decide,Int.le_refl _,by unfold Sml;decide⟩,Lp2.ind (fun (i:Int) (b:List Int)=>0<=i/\i<=10000/\b.length=10000) (fun (i:Int) _=>(10000 - i).toNat) ?_ ⟨by omega,by omega,by rw[List.length_replicate];decide⟩⟩
 rintro i b ⟨i0,i1,hb⟩ _
 refine Cnd.mk (fun hc=>⟨by omega,fun y hy=>⟨by unfold InI;omega,⟨by omega,by omega,by simpa using hb⟩,by omega⟩⟩) fun _=> ?_
 refine Lp2.ind (fun (i:Int) (b:List Int)=>0<=i/\i<=l.length/\b.length=10000) (fun (i:Int) _=>(l.length - i).toNat) ?_ ⟨by omega,by omega,hb⟩
 rintro i b ⟨i0,i1,hb⟩ _
 refine Cnd.mk (fun hc=>⟨by omega,fun y hy=> ?_⟩) fun _=>h b hb
 refine Lp2.ind (fun (j:Int) (b:List Int)=>0<=j/\b.length=10000) (fun (j:Int) _=>(10000 - j).toNat) ?_ ⟨by omega,hb⟩
 rintro j b ⟨j0,hb⟩
 refine⟨by omega,fun z hz=>Cnd.mk (fun hc=>⟨by omega,fun u hu=>⟨by omega,fun w hw=>⟨by omega,fun x hx=>⟨by unfold InI;omega,⟨by omega,by simpa using hb⟩,by omega⟩⟩⟩⟩) fun _=>⟨by unfold InI;omega,⟨by omega,by omega,hb⟩,by omega⟩⟩
theorem z60{u:List Int}{now:Int}{K:List Spn->Prop}(hu:u.length<=10000)(h: ∀l,SpsS l->K l):q8b u now K:=by
 unfold q8b z9s
 refine fun _=>⟨⟨by omega,Int.le_refl _,by unfold Sml;omega⟩,Lp2.ind (fun (i:Int) (b:List Bool)=>0<=i/\i<=u.length/\b.length=u.length) (fun (i:Int) _=>(u.length - i).toNat) ?_ ⟨by omega,by omega,by simp⟩⟩
 rintro i b ⟨i0,i1,hb⟩ _
 exact Cnd.mk (fun hc=>⟨by omega,fun y hy=>⟨by omega,fun z hz=>⟨by unfold InI;omega,⟨by omega,by omega,by simpa using hb⟩,by omega⟩⟩⟩) fun _=>q57 (by omega) h
theorem z0e{a b:List Spn}{K:List Spn->Prop}(h: ∀l,SpsS l->K l):q8d a b K:=by
 unfold q8d z9t
 refine q4t fun x hx=>q4t fun y hy=>Lp2.ind (fun (i:Int) (b:List Bool)=>0<=i/\i<=10000/\b.length=10000) (fun (i:Int) _=>(10000 - i).toNat) ?_ ⟨by omega,by omega,hx⟩
 rintro i b ⟨i0,i1,hb⟩ _
 exact Cnd.mk (fun hc=>⟨by omega,fun y hy=>Cnd.mk (fun _=>⟨by omega,fun _ _=>⟨by unfold InI;omega,⟨by omega,by omega,by simpa using hb⟩,by omega⟩⟩) fun _=>⟨by omega,fun _ _=>⟨by omega,fun _ _=>⟨by unfold InI;omega,⟨by omega,by omega,by simpa using hb⟩,by omega⟩⟩⟩⟩) fun _=>q57 (by omega) h
theorem j53{a b:List Spn}{K:List Spn->Prop}(h: ∀l,SpsS l->K l):q03 a b K:=by
 unfold q03 z9v
 refine q4t fun x hx=>q4t fun y hy=>Lp2.ind (fun (i:Int) (b:List Bool)=>0<=i/\i<=10000/\b.length=10000) (fun (i:Int) _=>(10000 - i).toNat) ?_ ⟨by omega,by omega,hx⟩
 rintro i b ⟨i0,i1,hb⟩ _
 exact Cnd.mk (fun hc=>⟨by omega,fun y hy=>Cnd.mk (fun _=>⟨by omega,fun _ _=>⟨by omega,fun _ _=>⟨by unfold InI;omega,⟨by omega,by omega,by simpa using hb⟩,by omega⟩⟩⟩) fun _=>⟨by omega,fun _ _=>⟨by unfold InI;omega,⟨by omega,by omega,by simpa using hb⟩,by omega⟩⟩⟩) fun _=>q57 (by omega) h
theorem w53{a b:List Spn}{K:List Spn->Prop}(h: ∀l,SpsS l->K l):q5r a b K:=by
 unfold q5r z5r
 refine q4t fun x hx=>q4t fun y hy=>Lp2.ind (fun (i:Int) (b:List Bool)=>0<=i/\i<=10000/\b.length=10000) (fun (i:Int) _=>(10000 - i).toNat) ?_ ⟨by omega,by omega,hx⟩
 rintro i b ⟨i0,i1,hb⟩ _
 exact Cnd.mk (fun hc=>⟨by omega,fun y hy=>Cnd.mk (fun _=>⟨by omega,fun _ _=>⟨by omega,fun _ _=>⟨by unfold InI;omega,⟨by omega,by omega,by simpa using hb⟩,by omega⟩⟩⟩) fun _=>⟨by omega,fun _ _=>⟨by unfold InI;omega,⟨by omega,by omega,by simpa using hb⟩,by omega⟩⟩⟩) fun _=>q57 (by omega) h
theorem w80{a:List Spn}{n:Int}{K:List Spn->Prop}(hn: -1000000<=n/\n<=1000000)(h: ∀l,SpsS l->K l):q8h a n K:=by
 unfold q8h z9w
 refine q4t fun x hx=>Lp3.ind (fun (m i:Int) (b:List Bool)=>0<=i/\i<=10000/\b.length=10000/\ -1000000 - i<=m/\m<=1000000) (fun _ (i:Int) _=>(10000 - i).toNat) ?_ ⟨by omega,by omega,hx,by omega,by omega⟩
 rintro m i b ⟨i0,i1,hb,m0,m1⟩ _
 refine Cnd.mk (fun hc=>⟨by omega,fun y hy=> ?_⟩) fun _=>q57 (by omega) h
 have step:(0<=i/\i<(b.length:Int))/\ ∀y5,b[i.toNat]? =some y5->Cnd (y5=true) (InI (m - 1)/\InI (i+1)/\((0<=i+1/\i+1<=10000/\b.length=10000/\ -1000000 - (i+1)<=m - 1/\m - 1<=1000000)/\(10000 - (i+1)).toNat<(10000 - i).toNat)) (InI (i+1)/\((0<=i+1/\i+1<=10000/\b.length=10000/\ -1000000 - (i+1)<=m/\m<=1000000)/\(10000 - (i+1)).toNat<(10000 - i).toNat)):=
  ⟨by omega,fun _ _=>Cnd.mk (fun _=>⟨by unfold InI;omega,by unfold InI;omega,by omega,by omega⟩) fun _=>⟨by unfold InI;omega,by omega,by omega⟩⟩
 exact Cnd.mk (fun _=>Cnd.mk (fun _=>⟨by omega,fun _ _=>⟨by unfold InI;omega,⟨by omega,by omega,by simpa using hb,by omega,by omega⟩,by omega⟩⟩) fun _=>step) fun _=>step
theorem y7e(n:Int):0<=Go.IntKind.u8.wrap n/\Go.IntKind.u8.wrap n<=255:=by
 have e:Go.IntKind.u8.wrap n=n % 256:=rfl
 rw[e];omega
theorem v6f{s:ByteArray}{K:Bool->Prop}(hs:s.size<=1000)(h: ∀r,K r):z5h s K:=by
 unfold z5h
 refine Lp1.ind (fun (i:Int)=>0<=i/\i<=s.size) (fun (i:Int)=>(s.size - i).toNat) ?_ ⟨by omega,by omega⟩
 rintro i ⟨i0,i1⟩
 (repeat' (first|exact h _|assumption|(unfold InI;omega)|omega|refine Cnd.mk (fun _=> ?_) fun _=> ?_|refine⟨?_,?_⟩|intro _))
theorem v6g{e:Ex}{K:Bool->Prop}(h: ∀r,K r):z5j e K:=by
 unfold z5j
 (repeat' (first|exact h _|assumption|(unfold InI;omega)|omega|refine Cnd.mk (fun _=> ?_) fun _=> ?_|refine⟨?_,?_⟩|intro _))
theorem w81{e:Ex}{K:Bool->Prop}(h: ∀r:Bool,(r=true->9<=e.op->e.op<=11->e.values≠[])->K r):q8j e K:=by
 unfold q8j z9x
 intro _ _
 refine Jn2.mk (fun _ v=>v=true->9<=e.op->e.op<=11->e.values.length=1) ?_ fun k v hv=> ?_
 ·refine Cnd.mk (fun _ _ _ _ _=>by omega) fun _=>Cnd.mk (fun _ _ _ _ _=>by omega) fun _=>Cnd.mk (fun _ _ _ _ _=>by omega) fun _=>Cnd.mk (fun _ _ _ _ _=>by omega) fun _=>q1s fun r hr=>Cnd.mk (fun _=>Cnd.mk (fun _ _ _ _=>by omega) fun _ _ hd _ _=>by have:=of_decide_eq_true hd;omega) fun hc _ h1 h2=>absurd (hr.2 ⟨by omega,by omega⟩) hc
 ·have no:K false:=h _ fun h=>by cases h
  refine q1s fun r _=>Cnd.mk (fun _=>Cnd.mk (fun hv'=> ?_) fun _=>no) fun _=>no
  have yes: ∀r,K r:=fun r=>h r fun _ h1 h2 hn=>by have:=hv hv' h1 h2;rw[hn] at this;cases this
  (repeat' (first|exact yes _|exact no|assumption|(unfold InI;omega)|omega|refine Cnd.mk (fun _=> ?_) fun _=> ?_|refine⟨?_,?_⟩|intro _))
theorem v1v{v:Val}{K:Bool->Prop}(h: ∀r,K r):q34 v K:=by
 unfold q34
 (repeat' (first|exact h _|assumption|(unfold InI;omega)|omega|refine Cnd.mk (fun _=> ?_) fun _=> ?_|refine⟨?_,?_⟩|intro _))
theorem w0q{l:List Rng}{n:Int}{K:Int->Prop}(h: ∀r,0<=r->r<=100->K r):q36 l n K:=by
 unfold q36
 intro _
 refine Cnd.mk (fun _=>h _ (by omega) (by omega)) fun _=> ?_
 refine Lp2.ind (fun _ (i:Int)=>0<=i/\i<=l.length) (fun _ (i:Int)=>(l.length - i).toNat) ?_ ⟨by omega,by omega⟩
 rintro a i ⟨i0,i1⟩
 (repeat' (first|exact h _ (by omega) (by omega)|assumption|(unfold InI;omega)|omega|refine Cnd.mk (fun _=> ?_) fun _=> ?_|refine⟨?_,?_⟩|intro _))
theorem v1w{l:List Spn}{K:Int->Prop}(h: ∀r,0<=r->r<=100->K r):z1v l K:=by
 unfold z1v
 intro _
 refine Cnd.mk (fun _=>h _ (by omega) (by omega)) fun _=> ?_
 refine Lp1.ind (fun (i:Int)=>0<=i/\i<=l.length) (fun (i:Int)=>(l.length - i).toNat) ?_ ⟨by omega,by omega⟩
 rintro i ⟨i0,i1⟩
 (repeat' (first|exact h _ (by omega) (by omega)|assumption|(unfold InI;omega)|omega|refine Cnd.mk (fun _=> ?_) fun _=> ?_|refine⟨?_,?_⟩|intro _))
theorem w82{α:Type}{l:List α}{f:α->ByteArray}{K:List ByteArray->Prop}(hl:l.length<=1000000)(h:K (l.map f)):
  Lp2 (fun (r:List ByteArray) (i:Int) Y=>l.length<=9223372036854775807->Cnd (i<(l.length:Int)) ((0<=i/\i<(l.length:Int))/\ ∀y,l[i.toNat]? =some y->Sml (r++[f y]).length/\InI (i+1)/\Y (r++[f y]) (i+1)) (K r)) [] 0:=by
 refine Lp2.ind (fun (r:List ByteArray) (i:Int)=>0<=i/\i<=l.length/\r=(l.take i.toNat).map f) (fun _ (i:Int)=>(l.length - i).toNat) ?_ ⟨Int.le_refl 0,by omega,by simp⟩
 rintro r i ⟨i0,i1,rfl⟩ _
 refine Cnd.mk (fun hc=>⟨by omega,fun y hy=>⟨by unfold Sml;simp;omega,by unfold InI;omega,⟨by omega,by omega,?_⟩,by omega⟩⟩) fun hc=> ?_
 ·rw[show (i+1).toNat=i.toNat+1 by omega,List.take_add_one,hy];simp
 ·rw[List.take_of_length_le (by omega)];exact h
theorem z35{l:List Seg}{K:List ByteArray->Prop}(hl:l.length<=1000000)(h:K (l.map Seg.key)):Hp l K:=w82 hl h
theorem y3w{i:Nat}:(29:Int)*10 ^ (i+1)=10*(29*10 ^ i):=by rw[Int.pow_succ];omega
theorem j5c{s:ByteArray}{K:Int->Int->Prop}(hs:s.size<=1000)(h: ∀n e,InI n->0<=e->e<=100->K n e):J1 s K:=by
 unfold J1
 refine Jn1.mk (fun d=>d.size<=1000) ?_ fun d hd=> ?_
 ·(repeat' (first|(show (s.extract _ _).size<=1000;rw[ByteArray.size_extract];omega)|assumption|(unfold InI;omega)|omega|refine Cnd.mk (fun _=> ?_) fun _=> ?_|refine⟨?_,?_⟩|intro _))
 refine Lp1.ind (fun (i:Int)=>0<=i/\i<=d.size) (fun (i:Int)=>(d.size - i).toNat) ?_ ⟨by omega,by omega⟩
 rintro i ⟨i0,i1⟩
 have fin:d.size<=13->Lp2 (fun (Qe J2:Int) w9t=>Cnd (J2<(↑d.size:Int)) (InI ((10:Int)*Qe)/\((0:Int)<=J2/\J2<(↑d.size:Int))/\ ∀b5,d[J2.toNat]? =some b5->InI (Go.IntKind.u8.wrap ((↑b5.toNat:Int) - (48:Int)))/\InI ((10:Int)*Qe+Go.IntKind.u8.wrap ((↑b5.toNat:Int) - (48:Int)))/\InI (J2+(1:Int))/\w9t ((10:Int)*Qe+Go.IntKind.u8.wrap ((↑b5.toNat:Int) - (48:Int))) (J2+(1:Int))) (Cnd ((1099511627776:Int)<Qe) (K (0:Int) (3:Int)) (Cnd ((↑d.size:Int)<(↑s.size:Int)) (InI ((0:Int) - Qe)/\K ((0:Int) - Qe) (0:Int)) (K Qe (0:Int))))) (0:Int) (0:Int):=fun h13=>by
  refine Lp2.ind (fun (n j:Int)=>0<=j/\j<=d.size/\0<=n/\n+29<=29*10 ^ j.toNat) (fun _ (j:Int)=>(d.size - j).toNat) ?_ ⟨by omega,by omega,by omega,by simp⟩
  rintro n j ⟨j0,j1,n0,n1⟩
  have hp:(10:Int) ^ j.toNat<=10 ^ 13:=by
   have:=Nat.pow_le_pow_right (n:=10) (by decide) (show j.toNat<=13 by omega)
   exact_mod_cast this
  refine Cnd.mk (fun hc=>⟨by unfold InI;omega,by omega,fun b _=> ?_⟩) fun hc=> ?_
  ·obtain⟨w0,w1⟩:=y7e ((b.toNat:Int) - 48)
   refine⟨by unfold InI;omega,by unfold InI;omega,by unfold InI;omega,⟨by omega,by omega,by omega,?_⟩,by omega⟩
   rw[show (j+1).toNat=j.toNat+1 by omega,y3w];omega
  ·exact Cnd.mk (fun _=>h _ _ (by unfold InI;omega) (by omega) (by omega)) fun _=>Cnd.mk (fun _=>⟨by unfold InI;omega,h _ _ (by unfold InI;omega) (by omega) (by omega)⟩) fun _=>h _ _ (by unfold InI;omega) (by omega) (by omega)
 have k1:=h 0 1 (by unfold InI;omega) (by omega) (by omega)
 have k3:=h 0 3 (by unfold InI;omega) (by omega) (by omega)
 refine Cnd.mk (fun hc=>⟨by omega,fun b hb=>Cnd.mk (fun _=>k1) fun _=>⟨by omega,fun b' hb'=>Cnd.mk (fun _=>k1) fun _=>⟨by unfold InI;omega,by omega,by omega⟩⟩⟩) fun _=> ?_
 refine Cnd.mk (fun _=>k1) fun he=>⟨⟨by omega,?_⟩,fun b hb=>Cnd.mk (fun _=>Cnd.mk (fun _=>Cnd.mk (fun _=>k3) fun _=>fin (by omega)) fun _=>k1) fun _=>Cnd.mk (fun _=>k3) fun _=>fin (by omega)⟩
 refine Int.not_le.1 fun hn=>he ?_
 have:d.size=0:=by omega
 exact ByteArray.ext (Array.eq_empty_of_size_eq_zero this)
theorem v6h{t:Int}{e:Ex}{K:Bool->Prop}(h: ∀r,K r):q8p t e K:=by
 unfold q8p
 refine Cnd.mk (fun _=>h _) fun _=>Cnd.mk (fun _=> ?_) fun _ _=>Cnd.mk (fun _=>h _) fun _=>⟨by omega,fun y hy=>Cnd.mk (fun _=>h _) fun _=>Jn1.mk (fun _=>True) ?_ fun x _=> ?_⟩
 ·refine Lp1.ind (fun (i:Int)=>0<=i/\i<=e.values.length) (fun (i:Int)=>(e.values.length - i).toNat) ?_ ⟨by omega,by omega⟩
  rintro i ⟨i0,i1⟩
  (repeat' (first|exact h _|assumption|(unfold InI;omega)|omega|refine Cnd.mk (fun _=> ?_) fun _=> ?_|refine⟨?_,?_⟩|intro _))
 ·(repeat' (first|exact trivial|assumption|(unfold InI;omega)|omega|refine Cnd.mk (fun _=> ?_) fun _=> ?_|refine⟨?_,?_⟩|intro _))
 ·(repeat' (first|exact h _|assumption|(unfold InI;omega)|omega|refine Cnd.mk (fun _=> ?_) fun _=> ?_|refine⟨?_,?_⟩|intro _))
theorem w0r{v:Envt}{K:List ByteArray->Prop}(hl:v.flags.length<=1000000)(h:K (v.flags.map Flg.key)):q4z v K:=w82 hl h
def z36(f:Flg):List Edg:=f.needs.map fun q=>Edg.mk f.key q.flag
theorem j60{v:Envt}{K:List Edg->Prop}(hl:v.flags.length<=1000)(hn: ∀f∈v.flags,f.needs.length<=1000)(h:K (v.flags.flatMap z36)):Rk v K:=by
 unfold Rk
 have hb: ∀l:List Flg,(∀f∈l,f.needs.length<=1000)->(l.flatMap z36).length<=1000*l.length:=by
  intro l
  induction l with
  |nil=>simp
  |cons f l ih=>intro hf;have h1:=hf f (by simp);have h2:=ih fun g hg=>hf g (by simp[hg]);simp only[List.flatMap_cons,List.length_append,z36,List.length_map,List.length_cons] at*;omega
 refine Lp2.ind (fun (r:List Edg) (i:Int)=>0<=i/\i<=v.flags.length/\r=(v.flags.take i.toNat).flatMap z36) (fun _ (i:Int)=>(v.flags.length - i).toNat) ?_ ⟨Int.le_refl 0,by omega,by simp⟩
 rintro r i ⟨i0,i1,rfl⟩ _
 refine Cnd.mk (fun hc=> ?_) fun hc=> ?_
 ·obtain⟨f,hf⟩: ∃f,v.flags[i.toNat]? =some f:=⟨_,List.getElem?_eq_getElem (by omega)⟩
  have hfn:=hn f (getm hf)
  have hbt:=hb (v.flags.take i.toNat) fun g hg=>hn g (List.mem_of_mem_take hg)
  rw[List.length_take] at hbt
  refine Lp2.ind (fun (r:List Edg) (j:Int)=>0<=j/\j<=f.needs.length/\r=(v.flags.take i.toNat).flatMap z36++(f.needs.take j.toNat).map fun q=>Edg.mk f.key q.flag) (fun _ (j:Int)=>(f.needs.length - j).toNat) ?_ ⟨by omega,by omega,by simp⟩
  rintro r j ⟨j0,j1,rfl⟩
  refine⟨by omega,fun g hg=> ?_⟩
  rw[hf] at hg;cases hg
  refine fun _=>Cnd.mk (fun hc=>⟨by omega,fun g hg=> ?_⟩) fun hc=>⟨by unfold InI;omega,⟨by omega,by omega,?_⟩,by omega⟩
  ·rw[hf] at hg;cases hg
   refine⟨by omega,fun g hg=> ?_⟩
   rw[hf] at hg;cases hg
   refine⟨by omega,fun q hq=>⟨?_,by unfold InI;omega,⟨by omega,by omega,?_⟩,by omega⟩⟩
   ·unfold Sml;simp only[List.length_append,List.length_map,List.length_take,List.length_cons,List.length_nil];omega
   ·rw[show (j+1).toNat=j.toNat+1 by omega,List.take_add_one,hq];simp
  ·rw[List.take_of_length_le (show f.needs.length<=j.toNat by omega),show (i+1).toNat=i.toNat+1 by omega,List.take_add_one,hf];simp[z36]
 ·rw[List.take_of_length_le (by omega)];exact h
end Go.En
end
noncomputable section
set_option maxRecDepth 100000
namespace Go.Sg
open Go
abbrev bts(s:ByteArray):List UInt8:=s.data.toList
theorem Gw(s:ByteArray):(bts s).length=s.size:=rfl
theorem q4u{s:ByteArray}{i:Nat}{b:UInt8}:s[i]? =some b↔(bts s)[i]? =some b:=by
 rw[show s[i]? =s.data[i]? from by
  by_cases h:i<s.size
  ·rw[getElem?_pos s i h,getElem?_pos s.data i h];rfl
  ·rw[getElem?_neg s i h,getElem?_neg s.data i h]]
 rw[Array.getElem?_toList]
theorem get!_of{s:ByteArray}{i:Nat}(h:i<s.size):(bts s)[i]? =some (s.get! i):=by
 have h':i<s.data.size:=h
 show s.data.toList[i]? =some (s.data[i]!)
 rw[Array.getElem?_toList,Array.getElem?_eq_getElem h',getElem!_pos s.data i h']
theorem y0f{s:ByteArray}{i:Nat}(h:(s.get! i).toNat<128):Utf8.decode s i=((s.get! i).toNat,1):=by
 unfold Utf8.decode
 simp only[Nat.add_zero]
 rw[if_pos h]
theorem y0g{s:ByteArray}{i:Nat}(h:128<=(s.get! i).toNat):128<=(Utf8.decode s i).1/\1<=(Utf8.decode s i).2/\ ∀k,k<(Utf8.decode s i).2->128<=(s.get! (i+k)).toNat:=by
 have k1: ∀k,k<1->128<=(s.get! (i+k)).toNat:=fun k hk=>by rw[show k=0 by omega];exact h
 have bad:128<=(Utf8.runeError,1).1/\1<=(Utf8.runeError,1).2/\ ∀k,k<(Utf8.runeError,1).2->128<=(s.get! (i+k)).toNat:=⟨by decide,by decide,k1⟩
 unfold Utf8.decode
 simp only[Nat.add_zero]
 rw[if_neg (by omega)]
 split
 ·rename_i hc
  simp only[Bool.and_eq_true,beq_iff_eq,decide_eq_true_eq] at hc
  split
  ·rename_i h2
   refine⟨h2,by simp,fun k hk=> ?_⟩
   have:k=0∨k=1:=by simp only at hk;omega
   rcases this with rfl|rfl
   ·exact h
   ·omega
  ·exact bad
 ·split
  ·rename_i _ hc
   simp only[Bool.and_eq_true,beq_iff_eq,decide_eq_true_eq] at hc
   split
   ·rename_i h2
    simp only[Bool.and_eq_true,decide_eq_true_eq] at h2
    refine⟨by simp only;omega,by simp,fun k hk=> ?_⟩
    have:k=0∨k=1∨k=2:=by simp only at hk;omega
    rcases this with rfl|rfl|rfl
    ·exact h
    ·omega
    ·omega
   ·exact bad
  ·split
   ·rename_i _ _ hc
    simp only[Bool.and_eq_true,beq_iff_eq,decide_eq_true_eq] at hc
    split
    ·rename_i h2
     simp only[Bool.and_eq_true,decide_eq_true_eq] at h2
     refine⟨by simp only;omega,by simp,fun k hk=> ?_⟩
     have:k=0∨k=1∨k=2∨k=3:=by simp only at hk;omega
     rcases this with rfl|rfl|rfl|rfl
     ·exact h
     ·omega
     ·omega
     ·omega
    ·exact bad
   ·exact bad
structure RuneP(p:Nat->Prop):Prop where
 hi: ∀n,128<=n->(p n↔p 128)
def Clr(p:Nat->Prop)(s:ByteArray)(k:Nat):Prop:= ∀i,i<k->i<s.size-> ¬p (s.get! i).toNat
theorem Clr.zero{p:Nat->Prop}{s:ByteArray}:Clr p s 0:=fun _ h=>absurd h (Nat.not_lt_zero _)
theorem y0h(s:ByteArray)(k:Nat):1<=(Utf8.decode s k).2:=by
 rcases Nat.lt_or_ge (s.get! k).toNat 128 with h|h
 ·rw[y0f h];exact Nat.le_refl 1
 ·exact (y0g h).2.1
theorem Clr.step{p:Nat->Prop}(hp:RuneP p){s:ByteArray}{k:Nat}(h:Clr p s k)(hk: ¬p (Utf8.decode s k).1):Clr p s (k+(Utf8.decode s k).2):=by
 intro i hi hs
 rcases Nat.lt_or_ge i k with h1|h1
 ·exact h i h1 hs
 rcases Nat.lt_or_ge (s.get! k).toNat 128 with h2|h2
 ·rw[y0f h2] at hk hi
  simp only at hk hi
  rw[show i=k by omega];exact hk
 ·obtain⟨a,_,c⟩:=y0g h2
  have:=c (i - k) (by omega)
  rw[show k+(i - k)=i by omega] at this
  rw[hp.hi _ this,←hp.hi _ a];exact hk
theorem j7x{p:Nat->Prop}(hp:RuneP p){s:ByteArray}{k:Nat}(hk:p (Utf8.decode s k).1):p (s.get! k).toNat:=by
 rcases Nat.lt_or_ge (s.get! k).toNat 128 with h2|h2
 ·rw[y0f h2] at hk;exact hk
 ·rw[hp.hi _ h2,←hp.hi _ (y0g h2).1];exact hk
theorem Clr.all{p:Nat->Prop}{s:ByteArray}{k:Nat}(h:Clr p s k)(hk:s.size<=k): ∀c∈bts s,¬p c.toNat:=by
 intro c hc
 obtain⟨i,hi⟩:=List.mem_iff_getElem?.1 hc
 have hl:i<s.size:=(List.getElem?_eq_some_iff.1 hi).1
 have:=get!_of hl
 rw[hi] at this
 cases this
 exact h i (by omega) hl
theorem j5d{s:ByteArray}{k:Nat}(h:k<s.size):s.get! k∈bts s:=List.mem_of_getElem? (get!_of h)
def good(c:UInt8):Bool:=decide (32<=c.toNat) && decide (c.toNat≠127)
def vld(s:ByteArray):Bool:=decide (s.size<=200) && Go.Lib.validD (bts s) && (bts s).all good
def isD(c:UInt8):Bool:=decide (48<=c.toNat) && decide (c.toNat<=57)
def z8v(n:Nat)(c:UInt8):Nat:=10*n+(c.toNat - 48)
def valD(n:Nat)(l:List UInt8):Nat:=l.foldl z8v n
def digs(s:ByteArray):ByteArray:=if s[0]? =some 45 then s.extract 1 s.size else s
def pnum(s:ByteArray):Int×Int:=
 if (bts (digs s)).all isD=false then (0,1)
 else if (digs s).size=0∨((digs s)[0]? =some 48/\s≠ByteArray.mk (Array.mk [48])) then (0,1)
 else if 1099511627776<valD 0 (bts (digs s)) then (0,3)
 else (if (digs s).size<s.size then -(valD 0 (bts (digs s)):Int) else valD 0 (bts (digs s)),0)
theorem v34(n:Nat):valD n []=n:=rfl
theorem j2y(n:Nat)(c:UInt8)(l:List UInt8):valD n (c::l)=valD (z8v n c) l:=List.foldl_cons ..
theorem y0i(n:Nat)(l:List UInt8)(c:UInt8):valD n (l++[c])=z8v (valD n l) c:=by
 unfold valD;rw[List.foldl_append];rfl
theorem v1x: ∀(l:List UInt8) (n:Nat),n*10 ^ l.length<=valD n l
 |[],n=>by simp[valD]
 |c::l,n=>by
  rw[j2y,List.length_cons]
  refine Nat.le_trans ?_ (v1x l (z8v n c))
  rw[Nat.pow_succ,Nat.mul_comm (10 ^ l.length) 10,←Nat.mul_assoc]
  exact Nat.mul_le_mul_right _ (by unfold z8v;omega)
theorem y0j: ∀(l:List UInt8) (n:Nat),l.all isD=true->valD n l<(n+1)*10 ^ l.length
 |[],n,_=>by simp[valD]
 |c::l,n,h=>by
  simp only[List.all_cons,Bool.and_eq_true] at h
  rw[j2y,List.length_cons]
  refine Nat.lt_of_lt_of_le (y0j l (z8v n c) h.2) ?_
  have h1:=h.1
  simp only[isD,Bool.and_eq_true,decide_eq_true_eq] at h1
  rw[Nat.pow_succ,Nat.mul_comm (10 ^ l.length) 10,←Nat.mul_assoc]
  exact Nat.mul_le_mul_right _ (by unfold z8v;omega)
theorem y0k: ∀(l:List UInt8) (n:Nat),n<=valD n l:=fun l n=>Nat.le_trans (by
 have:0<10 ^ l.length:=Nat.pow_pos (by decide)
 exact Nat.le_mul_of_pos_right n this) (v1x l n)
theorem j54: ∀(l:List UInt8) (n:Nat),l.all isD=true->Go.Lib.parseUint10 n l=(if valD n l<18446744073709551616/\n<18446744073709551616 then .ok (valD n l) else if l=[] then .ok n else .range)
 |[],n,_=>by
  unfold Go.Lib.parseUint10
  rw[v34]
  split<;>simp
 |c::l,n,h=>by
  simp only[List.all_cons,Bool.and_eq_true] at h
  have h1:=h.1
  simp only[isD,Bool.and_eq_true,decide_eq_true_eq] at h1
  have ih:=j54 l (z8v n c) h.2
  have hs:=y0k l (z8v n c)
  have es:z8v n c=10*n+(c.toNat - 48):=rfl
  have e:n*10+(c.toNat - 48)=z8v n c:=by omega
  have hne: ¬(c::l=[]):=by simp
  unfold Go.Lib.parseUint10
  rw[if_pos h1,j2y,e,if_neg hne]
  generalize z8v n c=m at ih hs es e⊢
  by_cases h2:1844674407370955162<=n
  ·rw[if_pos h2,if_neg (by omega)]
  ·rw[if_neg h2]
   by_cases h3:18446744073709551616<=m
   ·rw[if_pos h3,if_neg (by omega)]
   ·rw[if_neg h3,ih]
    by_cases h4:valD m l<18446744073709551616
    ·rw[if_pos ⟨h4,by omega⟩,if_pos ⟨h4,by omega⟩]
    ·have: ¬l=[]:=by rintro rfl;rw[v34] at h4;omega
     rw[if_neg (by omega),if_neg this,if_neg (by omega)]
theorem w83{l:List UInt8}(h:l.all isD=true)(hn:l≠[]):Go.Lib.parseMag l=(if valD 0 l<18446744073709551616 then .ok (valD 0 l) else .range):=by
 unfold Go.Lib.parseMag
 rw[if_neg hn,j54 l 0 h]
 by_cases h4:valD 0 l<18446744073709551616
 ·rw[if_pos ⟨h4,by omega⟩,if_pos h4]
 ·rw[if_neg (by omega),if_neg h4,if_neg hn]
theorem v35{s:ByteArray}{k:Nat}:bts (s.extract k s.size)=(bts s).drop k:=by
 show (s.extract k s.size).data.toList=_
 rw[ByteArray.data_extract,Array.toList_extract,List.extract_eq_take_drop,List.take_of_length_le]
 rw[List.length_drop]
 exact Nat.le_refl _
theorem j5e{s:ByteArray}(h:s[0]? =some 45):bts s=45::bts (digs s)/\(digs s).size+1=s.size:=by
 have h0:0<s.size:=by
  rw[q4u] at h;exact (List.getElem?_eq_some_iff.1 h).1
 have e:bts (digs s)=(bts s).drop 1:=by
  unfold digs
  rw[if_pos h,v35]
 rw[q4u] at h
 refine⟨?_,?_⟩
 ·rw[e]
  cases hb:bts s with
  |nil=>rw[hb] at h;simp at h
  |cons c l=>rw[hb] at h;simp at h;simp[h]
 ·rw[←Gw,e,List.length_drop,Gw];omega
theorem q9p{s:ByteArray}(h: ¬s[0]? =some 45):digs s=s:=by unfold digs;rw[if_neg h]
theorem v1y{s:ByteArray}(h:(bts (digs s)).all isD=true)(hn:(digs s).size≠0):Go.Lib.atoiAll (bts s)=(if valD 0 (bts (digs s))<=(if s[0]? =some 45 then 9223372036854775808 else 9223372036854775807) then .ok (if s[0]? =some 45 then -(valD 0 (bts (digs s)):Int) else valD 0 (bts (digs s))) else .range):=by
 have hne:bts (digs s)≠[]:=fun e=>hn (by rw[←Gw,e];rfl)
 by_cases hm:s[0]? =some 45
 ·obtain⟨e,_⟩:=j5e hm
  rw[if_pos hm,if_pos hm,e]
  unfold Go.Lib.atoiAll
  simp only[show (45:UInt8).toNat=45 from rfl,or_true,if_true]
  rw[w83 h hne]
  generalize valD 0 (bts (digs s))=v
  by_cases h1:v<18446744073709551616
  ·rw[if_pos h1]
   by_cases h2:v<=9223372036854775808
   ·rw[if_pos h2];simp only[not_true,false_and,if_false,true_and];rw[if_neg (by omega)]
   ·rw[if_neg h2];simp only[not_true,false_and,if_false,true_and];rw[if_pos (by omega)]
  ·rw[if_neg h1,if_neg (by omega)]
 ·rw[if_neg hm,if_neg hm]
  rw[q9p hm] at h hne⊢
  have hp:=w83 h hne
  generalize valD 0 (bts s)=v at hp⊢
  cases hb:bts s with
  |nil=>exact absurd hb hne
  |cons c l=>
   have hc':isD c=true:=by rw[hb] at h;simp only[List.all_cons,Bool.and_eq_true] at h;exact h.1
   simp only[isD,Bool.and_eq_true,decide_eq_true_eq] at hc'
   unfold Go.Lib.atoiAll
   simp only[]
   rw[if_neg (show ¬(c.toNat=43∨c.toNat=45) by omega),←hb,hp]
   by_cases h1:v<18446744073709551616
   ·rw[if_pos h1]
    simp only[]
    by_cases h2:v<=9223372036854775807
    ·rw[if_pos h2,if_neg (by omega),if_neg (by omega),if_neg (by omega)]
    ·rw[if_neg h2,if_pos (by omega)]
   ·rw[if_neg h1,if_neg (by omega)]
def dot(s:ByteArray)(k:Nat):Nat:=k+((bts s).drop k).idxOf 46
theorem v36{s:ByteArray}{k:Nat}:k<=dot s k:=Nat.le_add_right _ _
theorem y41{s:ByteArray}{k:Nat}(h:k<=s.size):dot s k<=s.size:=by
 have:=List.idxOf_le_length (a:=(46:UInt8)) (l:=(bts s).drop k)
 rw[List.length_drop,Gw] at this
 unfold dot;omega
theorem y0l{s:ByteArray}{k:Nat}(h:dot s k<s.size):s[dot s k]? =some 46:=by
 have hl:((bts s).drop k).idxOf 46<((bts s).drop k).length:=by rw[List.length_drop,Gw];unfold dot at h;omega
 have h2:=List.getElem_idxOf hl
 rw[q4u]
 unfold dot
 rw[←List.getElem?_drop,List.getElem?_eq_getElem hl,h2]
theorem y0m{s:ByteArray}{k i:Nat}(h0:k<=i)(h1:i<dot s k):s[i]? ≠some 46:=by
 intro e
 rw[q4u] at e
 have e2:((bts s).drop k)[i - k]? =some 46:=by rw[List.getElem?_drop,show k+(i - k)=i by omega];exact e
 obtain⟨hl,e3⟩:=List.getElem?_eq_some_iff.1 e2
 have h2:i - k<((bts s).drop k).idxOf 46:=by unfold dot at h1;omega
 have:=List.not_of_lt_findIdx (p:=fun x=>x==(46:UInt8)) (xs:=(bts s).drop k) (i:=i - k) h2
 rw[e3] at this
 simp at this
theorem y9y{s:ByteArray}{k i:Nat}(h0:k<=i)(hs:s[i]? =some 46)(hn: ∀j,k<=j->j<i->s[j]? ≠some 46):dot s k=i:=by
 have hi:i<s.size:=(List.getElem?_eq_some_iff.1 (q4u.1 hs)).1
 rcases Nat.lt_trichotomy (dot s k) i with h|h|h
 ·exact absurd (y0l (show dot s k<s.size by omega)) (hn _ v36 h)
 ·exact h
 ·exact absurd hs (y0m h0 h)
theorem y7f{s:ByteArray}{k:Nat}(hk:k<=s.size)(hn: ∀j,k<=j->j<s.size->s[j]? ≠some 46):dot s k=s.size:=by
 rcases Nat.lt_or_ge (dot s k) s.size with h|h
 ·exact absurd (y0l h) (hn _ v36 h)
 ·have:=y41 hk;omega
def okp(p:Int×Int):Bool:=decide (p.2=0) && decide (0<=p.1) && decide (p.1<=999999)
def H1(s:ByteArray)(k:Nat):Int×Int:=pnum (s.extract k (dot s k))
def w2h(s:ByteArray):Prop:=(dot s 0<s.size/\okp (H1 s 0)=true)/\(dot s (dot s 0+1)<s.size/\okp (H1 s (dot s 0+1))=true)/\ ¬dot s (dot s (dot s 0+1)+1)<s.size/\okp (H1 s (dot s (dot s 0+1)+1))=true
instance (s:ByteArray):Decidable (w2h s):=by unfold w2h;infer_instance
def prt(s:ByteArray):(Int×Int×Int)×Bool:=
 if w2h s then (((H1 s 0).1,(H1 s (dot s 0+1)).1,(H1 s (dot s (dot s 0+1)+1)).1),true) else ((0,0,0),false)
theorem y42{s:ByteArray}(h: ¬w2h s):prt s=((0,0,0),false):=if_neg h
theorem y0n{s:ByteArray}(h:w2h s):prt s=(((H1 s 0).1,(H1 s (dot s 0+1)).1,(H1 s (dot s (dot s 0+1)+1)).1),true):=if_pos h
abbrev dotB:ByteArray:=ByteArray.mk (Array.mk [46])
theorem w84: ∀l:List UInt8,Go.Lib.index l [46]=if l.idxOf 46<l.length then ((l.idxOf 46:Nat):Int) else -1
 |[]=>rfl
 |b::l=>by
  have ih:=w84 l
  unfold Go.Lib.index
  by_cases hb:b=46
  ·subst hb
   rw[if_pos (by simp[List.isPrefixOf]),List.idxOf_cons_self,if_pos (by simp)];rfl
  ·have hx:(b::l).idxOf 46=l.idxOf 46+1:=by rw[List.idxOf_cons,show (b==(46:UInt8))=false by simpa using hb];rfl
   rw[if_neg (by simp[List.isPrefixOf,Ne.symm hb]),hx,ih,List.length_cons]
   by_cases h:l.idxOf 46<l.length
   ·simp only[if_pos h]
    rw[if_neg (by simp only[beq_iff_eq];omega),if_pos (by omega)]
    push_cast;rfl
   ·simp only[if_neg h]
    rw[if_pos (by decide),if_neg (by omega)]
theorem y0o{s:ByteArray}{k:Nat}:(s.extract k s.size).size=s.size - k:=by rw[ByteArray.size_extract];omega
theorem w0s{s:ByteArray}{k:Nat}(hk:k<=s.size):Go.Lib.indexB (s.extract k s.size) dotB=if dot s k<s.size then ((dot s k - k:Nat):Int) else -1:=by
 show Go.Lib.index (bts (s.extract k s.size)) [46]=_
 rw[v35,w84,List.length_drop,Gw]
 have e:dot s k - k=((bts s).drop k).idxOf 46:=by unfold dot;omega
 rw[e]
 have hg:=v36 (s:=s) (k:=k)
 by_cases h:dot s k<s.size
 ·rw[if_pos h,if_pos (by omega)]
 ·rw[if_neg h,if_neg (by omega)]
def pc(s:ByteArray)(k:Nat):List ByteArray:=Go.Lib.splitB dotB 0 (Go.Lib.countB (s.extract k s.size) dotB) (s.extract k s.size)
theorem ext2{s:ByteArray}{k i:Nat}(h:k+i<=s.size):(s.extract k s.size).extract 0 i=s.extract k (k+i):=by
 apply ByteArray.ext
 have:s.data.size=s.size:=rfl
 simp only[ByteArray.data_extract,Array.extract_extract]
 congr 1
 omega
theorem ext3{s:ByteArray}{k i:Nat}:(s.extract k s.size).extract i (s.extract k s.size).size=s.extract (k+i) s.size:=by
 apply ByteArray.ext
 rw[y0o]
 have:s.data.size=s.size:=rfl
 simp only[ByteArray.data_extract,Array.extract_extract]
 congr 1
 omega
theorem w0t{s:ByteArray}{k:Nat}(hk:k<=s.size)(h: ¬dot s k<s.size):pc s k=[s.extract k s.size]:=by
 unfold pc
 exact Go.Lib.splitB_miss _ _ _ _ (by rw[w0s hk,if_neg h])
theorem w30{s:ByteArray}{k:Nat}(hk:k<=s.size)(h:dot s k<s.size):pc s k=s.extract k (dot s k)::pc s (dot s k+1):=by
 have hi:=w0s hk
 rw[if_pos h] at hi
 have hg:=v36 (s:=s) (k:=k)
 unfold pc
 rw[Go.Lib.countB_hit _ dotB _ (by decide) hi,Nat.add_comm,Go.Lib.splitB_hit _ _ _ _ _ hi]
 have e1:dotB.size=1:=rfl
 rw[Nat.add_zero,e1,ext2 (by omega),ext3,show k+(dot s k - k)=dot s k by omega,show k+(dot s k - k+1)=dot s k+1 by omega]
theorem y0p{p:Nat->Prop}: ∀n,p n-> ∃n,p n/\ ∀k,k<n-> ¬p k:=by
 intro n
 induction n using Nat.strongRecOn with
 |_ n ih=>
  intro h
  by_cases hx: ∃k,k<n/\p k
  ·obtain⟨k,hk,hp⟩:=hx;exact ih k hk hp
  ·exact⟨n,h,fun k hk hp=>hx ⟨k,hk,hp⟩⟩
theorem y9z{s:ByteArray}{k:Nat}(hk:k<=s.size):0<(pc s k).length:=by
 by_cases h:dot s k<s.size
 ·rw[w30 hk h];simp
 ·rw[w0t hk h];simp
theorem w85{s:ByteArray}:Go.En.q1k s dotB=pc s 0:=by
 unfold Go.En.q1k pc
 have e:s.extract 0 s.size=s:=by simp
 rw[e]
theorem w0u{s:ByteArray}:(Go.En.q1k s dotB).length=3↔dot s 0<s.size/\dot s (dot s 0+1)<s.size/\ ¬dot s (dot s (dot s 0+1)+1)<s.size:=by
 rw[w85]
 by_cases h0:dot s 0<s.size
 ·rw[w30 (by omega) h0]
  by_cases h1:dot s (dot s 0+1)<s.size
  ·rw[w30 (by omega) h1]
   by_cases h2:dot s (dot s (dot s 0+1)+1)<s.size
   ·have:=y9z (s:=s) (k:=dot s (dot s (dot s 0+1)+1)+1) (by omega)
    rw[w30 (by omega) h2]
    simp only[List.length_cons]
    exact⟨fun e=>by omega,fun e=>absurd h2 e.2.2⟩
   ·rw[w0t (by omega) h2];simp[h0,h1,h2]
  ·rw[w0t (by omega) h1];simp[h1]
 ·rw[w0t (by omega) h0];simp[h0]
theorem v1z{s:ByteArray}(h:dot s 0<s.size/\dot s (dot s 0+1)<s.size/\ ¬dot s (dot s (dot s 0+1)+1)<s.size):Go.En.q1k s dotB=[s.extract 0 (dot s 0),s.extract (dot s 0+1) (dot s (dot s 0+1)),s.extract (dot s (dot s 0+1)+1) (dot s (dot s (dot s 0+1)+1))]:=by
 obtain⟨h0,h1,h2⟩:=h
 rw[w85,w30 (by omega) h0,w30 (by omega) h1,w0t (by omega) h2]
 have:=y41 (s:=s) (k:=dot s (dot s 0+1)+1) (by omega)
 rw[show dot s (dot s (dot s 0+1)+1)=s.size by omega]
theorem j55{s t:List UInt8}:Go.Lib.contains s t=true↔ ∃i,i+t.length<=s.length/\(s.drop i).take t.length=t:=by
 have key:Go.Lib.contains s t=true↔ ∃i,i<=s.length/\Go.Lib.occAt s t i=true:=by
  unfold Go.Lib.contains
  constructor
  ·intro h
   have hge:0<=Go.Lib.index s t:=by simpa using h
   by_cases hx: ∃i,i<=s.length/\Go.Lib.occAt s t i=true
   ·exact hx
   ·have:=Go.Lib.index_none (s:=s) (sub:=t) (fun j hj=>by
     cases hb:Go.Lib.occAt s t j with
     |false=>rfl
     |true=>exact absurd ⟨j,hj,hb⟩ hx)
    omega
  ·rintro⟨i,hi,ho⟩
   obtain⟨j,⟨hj,hjo⟩,hmin⟩:=y0p (p:=fun j=>j<=s.length/\Go.Lib.occAt s t j=true) i ⟨hi,ho⟩
   have:=Go.Lib.index_first hj hjo (fun k hk=>by
    cases hb:Go.Lib.occAt s t k with
    |false=>rfl
    |true=>exact absurd ⟨by omega,hb⟩ (hmin k hk))
   rw[this];simp
 rw[key]
 constructor
 ·rintro⟨i,hi,ho⟩
  unfold Go.Lib.occAt at ho
  have hp:=List.isPrefixOf_iff_prefix.1 ho
  have hl:=hp.length_le
  rw[List.length_drop] at hl
  exact⟨i,by omega,(List.prefix_iff_eq_take.1 hp).symm⟩
 ·rintro⟨i,hi,ho⟩
  refine⟨i,by omega,?_⟩
  unfold Go.Lib.occAt
  rw[List.isPrefixOf_iff_prefix,List.prefix_iff_eq_take]
  exact ho.symm
end Go.Sg
end
