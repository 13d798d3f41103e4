/- A forced assignment outlasts every change. This is part 5 of 7. Conditions: those in the statements. -/
import Derived.Test.YtfiomedjdipbgaaGreatDoorAT4
import Derived.KernelRfl
import Derived.Conc.MuLone
import GoSem.Core.Utf8
import Derived.Lib.ValidU
noncomputable section
set_option maxRecDepth 100000
namespace Go.Proofs.YtfiomedjdipbgaaGreatDoor
open Go Go.Proofs Go.RowKit Go.Fl
set_option maxHeartbeats 2000000 in
theorem q3n{σ:Hv}{w:World}(s_p:(List ByteArray))(v1:Value){K:(List ByteArray)->Prop}(hV:View σ w)(hr1:RSl 1 (REnc Qi) σ v1 s_p)(hP:Zk s_p K):
    Calls Tryz.prog 187 #[v1] w (fun e w1=> ∃(r1:(List ByteArray)) (v2:Value),e= .returned v2/\St ⟨w,σ,[]⟩ w1 σ [vec v2 9 1 r1.length ((r1).flatMap Qi)]/\Sml r1.length/\K r1):=by
 unfold Zk at hP
 obtain⟨a1,cap1,rfl⟩:=hr1.shape
 refine enter Tryz.func187 rfl rfl rfl ?_
 have hS:=St.start hV
 refine Qt (Qu (v:=(.slice none 0 0)) rfl (wpList_nil (Qn (wp_seq (Qt (Zb (v:=(.slice a1 s_p.length cap1)) rfl ?_))))))
 replace hP:=hP a1.isNone (RSl.isNil hr1)
 obtain⟨r1_,hn1⟩: ∃r:Bool,a1.isNone=r:=⟨_,rfl⟩
 rw[hn1] at hP
 refine v9i Tryz.underlying44 rfl hn1 (wpList_nil (Qn ?_))
 refine if_b rfl (fun ht1=> ?_) (fun ht1=> ?_)
 ·
  replace hP:=hP.1 ht1
  refine Qt (Qu (v:=(.slice none 0 0)) rfl (wpList_nil (Qn (wp_ret (Bl (ret1 rfl (show ev _ _ _=(.slice none 0 0) from rfl) ?_))))))
  have hS1:=hS.addNil 9 1
  exact⟨[],(.slice none 0 0),rfl,(St.back hS1 (Sub.refl _)),(by simp[Sml]),hP⟩
 ·
  replace hP:=hP.2 (by first|(rw[ht1];exact Bool.false_ne_true)|simp[ht1])
  refine wp_skip (Qn (Qt (j5h (cs:=[]) (e:=9) hS (fun _=>by kernel_rfl) ?_)))
  intro b1 w1 hS2
  refine Zb (v:=(.slice a1 s_p.length cap1)) rfl ?_
  have hS3:=hS2.asVec (i:=0) (ms':=[vec (.slice (some ⟨b1,0,none⟩) 0 0) 9 1 0 []]) (size:=1) rfl rfl (by unfold maxLen;omega) rfl
  obtain⟨hsm1,hP⟩:=hP
  refine y6h (enc:=Qi) (l:=s_p) (Ms:=fun v3=>[vec v3 9 1 s_p.length ((s_p).flatMap Qi)]) (k':=s_p.length) (xs':=(s_p).flatMap Qi) Tryz.underlying44 Tryz.type9 rfl rfl (bytes:=16) rfl rfl (Nat.succ_pos _) hS3 rfl (q:=0) rfl rfl hr1 hS3.view q4p v4u hsm1 (by omega) (by first|rfl|exact List.length_append.symm|simp) (List.nil_append _) (fun _=>rfl) ?_
  intro v3 w2 ho1 hS4
  refine Qu (v:=v3) rfl (wpList_nil (Qn (wp_ret (ret1 rfl (show ev _ _ _=v3 from rfl) ?_))))
  exact⟨s_p,v3,rfl,(St.back hS4 (Sub.refl _)),hsm1,hP⟩
set_option maxHeartbeats 2000000 in
theorem q3o{σ:Hv}{w:World}(s_p:(List ByteArray))(v_p:ByteArray)(v1:Value){K:Int->Prop}(hV:View σ w)(hr1:RSl 1 (REnc Qi) σ v1 s_p)(hP:Zl s_p v_p K):
    Calls Tryz.prog 128 #[v1,(.string v_p)] w (fun e w1=> ∃(r1:Int),e= .returned (.int .i64 r1)/\Grow [] σ w σ w1/\K r1):=by
 unfold Zl at hP
 obtain⟨a1,cap1,rfl⟩:=hr1.shape
 refine enter Tryz.func128 rfl rfl rfl ?_
 have hS:=St.start hV
 refine Qt (Qu (v:=(.int .i64 (0:Int))) rfl (wpList_nil (Qn (wp_seq (Qt (Zb (v:=(.slice a1 s_p.length cap1)) rfl (z0x rfl Tryz.underlying44 ?_)))))))
 have hlen1:=RSl.len63 hr1
 replace hP:=hP hlen1
 refine Zb (v:=(.int .i64 (0:Int))) rfl (wpList_nil (Qn (wp_block ?_)))
 refine w1t (fun k_2 f z=> ∃(σ1:Hv) (g:Fr),f=(upd (upd (upd (upd g 0 (.slice a1 s_p.length cap1)) 1 (.string v_p)) 7 (.int .i64 ((s_p.length:Nat):Int))) 8 (.int .i64 ((k_2:Nat):Int)))/\St ⟨w,σ,[]⟩ z σ1 []/\Sub σ σ1) hP ⟨σ,_,(Zw rfl (Zw rfl (Zw rfl (Zw rfl rfl)))),hS,(Sub.refl _)⟩ ?_
 clear hP
 rintro k_2 Y1 hP f w1 ⟨σ1,g,rfl,hS1,hsub1⟩
 refine Qt (v4j (r:=(decide (((k_2:Nat):Int)<((s_p.length:Nat):Int)))) rfl rfl rfl (wpList_nil (Qn (wp_seq ?_))))
 refine if_d (((k_2:Nat):Int)<((s_p.length:Nat):Int)) rfl (fun ht1=> ?_) (fun ht1=> ?_)
 ·
  replace hP:=hP.1 ht1
  refine wp_skip (Qn (wp_seq (wp_block (Qt (Zb (v:=(.int .i64 ((k_2:Nat):Int))) rfl (Qu (v:=(.int .i64 ((k_2:Nat):Int))) rfl (wpList_nil (Qn (Qt (Zb (v:=(.string v_p)) rfl (Zb (v:=(.slice a1 s_p.length cap1)) rfl (Zb (v:=(.int .i64 ((k_2:Nat):Int))) rfl ?_))))))))))))
  obtain⟨x1_,hx1⟩:=getq (l:=s_p) (k:=k_2) (by have:=ht1;omega)
  replace hP:=hP x1_ hx1
  obtain⟨ad1,cs1,ha1,hl1,hr2,hR1,hlt1⟩:=RSl.at hr1 hx1
  cases hR1
  refine Rr (k:=k_2) (a':=(ad1.add (k_2*1))) (congrArg (fun z=>Value.slice z _ _) ha1) rfl rfl hlt1 Tryz.underlying44 Tryz.sizeOf9 rfl (q6v (v:=(.string x1_)) rfl Tryz.isAgg9 (hr2.cell (View.of hsub1 hS1.view) 0 rfl rfl) (y58 (r:=(decide (v_p=x1_))) rfl rfl rfl (wpList_nil (Qn ?_))))
  refine if_d (v_p=x1_) rfl (fun ht2=> ?_) (fun ht2=> ?_)
  ·
   replace hP:=hP.1 ht2
   refine Qt (Zb (v:=(.int .i64 ((k_2:Nat):Int))) rfl (Qu (v:=(.int .i64 ((k_2:Nat):Int))) rfl (wpList_nil (Qn (wp_ret (j4l (Bl (Bl (j4l (Bl (ret1 rfl (show ev _ _ _=(.int .i64 ((k_2:Nat):Int)) from rfl) ?_)))))))))))
   exact⟨((k_2:Nat):Int),rfl,hS1.done.forget,hP⟩
  ·
   replace hP:=hP.2 ht2
   refine wp_skip (v11 (Qn (j1q (v10 (r:=((k_2+1:Nat):Int)) rfl rfl (nw (by omega) (by omega) (by have:=hlen1;omega)) (Zb (v:=(.int .i64 ((k_2+1:Nat):Int))) rfl (wpList_nil (Qn ?_)))))))
   exact⟨k_2+1,_,rfl,hP,σ1,_,(Zw rfl (Zw rfl (Zw rfl (Zw rfl rfl)))),hS1,hsub1⟩
 ·
  replace hP:=hP.2 ht1
  refine wp_exit (z6t (z6t (j6a (Qn (Qt (Qu (v:=(.int .i64 (-1:Int))) rfl (wpList_nil (Qn (wp_ret (ret1 rfl (show ev _ _ _=(.int .i64 (-1:Int)) from rfl) ?_))))))))))
  exact⟨(-1:Int),rfl,hS1.done.forget,hP⟩
set_option maxHeartbeats 2000000 in
theorem Vh{σ:Hv}{w:World}(s_p:(List ByteArray))(v_p:ByteArray)(v1:Value){K:Bool->Prop}(hV:View σ w)(hr1:RSl 1 (REnc Qi) σ v1 s_p)(hP:Qw s_p v_p K):
    Calls Tryz.prog 76 #[v1,(.string v_p)] w (fun e w1=> ∃(r1:Bool),e= .returned (.bool (r1))/\Grow [] σ w σ w1/\K r1):=by
 unfold Qw at hP
 obtain⟨a1,cap1,rfl⟩:=hr1.shape
 refine enter Tryz.func76 rfl rfl rfl ?_
 have hS:=St.start hV
 refine Qt (Qu (v:=(.bool false)) rfl (wpList_nil (Qn (Qt (Zb (v:=(.slice a1 s_p.length cap1)) rfl (Zb (v:=(.string v_p)) rfl ?_))))))
 obtain⟨Y1,hK1,hc1⟩:=hP
 refine q8j (args:=[(.slice a1 s_p.length cap1),(.string v_p)]) rfl Tryz.call128 (Calls.mono (q3o s_p v_p (.slice a1 s_p.length cap1) hS.view hr1 hc1) ?_)
 rintro _ w1 ⟨r1_,rfl,hg1,hY1⟩
 refine⟨_,rfl,?_⟩
 have hS1:=hS.grow hg1
 replace hP:=hK1 r1_ hY1
 refine y57 (r:=(decide ((0:Int)<=r1_))) rfl rfl rfl (Qu (v:=(.bool (decide ((0:Int)<=r1_)))) rfl (wpList_nil (Qn (wp_ret (ret1 rfl (show ev _ _ _=(.bool (decide ((0:Int)<=r1_))) from rfl) ?_)))))
 exact⟨(decide ((0:Int)<=r1_)),rfl,hS1.done.forget,hP⟩
set_option maxHeartbeats 2000000 in
theorem w_graph_Order{σ:Hv}{w:World}(nodes_p:(List ByteArray))(edges_p:(List (ByteArray×ByteArray)))(v1:Value)(v2:Value){K:(List ByteArray)->Int->Prop}(hV:View σ w)(hr1:RSl 1 (REnc Qi) σ v1 nodes_p)(hr2:RSl 2 (REnc y6i) σ v2 edges_p)(hP:P_graph_Order nodes_p edges_p K):
    Calls Tryz.prog 139 #[v1,v2] w (fun e w1=> ∃(r1:(List ByteArray)) (r2:Int) (v3:Value),e= .returned (.tuple #[v3,(.int .i64 r2)])/\St ⟨w,σ,[]⟩ w1 σ [vec v3 9 1 r1.length ((r1).flatMap Qi)]/\Sml r1.length/\K r1 r2):=by
 unfold P_graph_Order at hP
 obtain⟨a1,cap1,rfl⟩:=hr1.shape
 obtain⟨a2,cap2,rfl⟩:=hr2.shape
 refine enter Tryz.func139 rfl rfl rfl ?_
 have hS:=St.start hV
 refine Qt (Qu (v:=(.slice none 0 0)) rfl (Qu (v:=(.int .i64 (0:Int))) rfl (wpList_nil (Qn (Qt (Zb (v:=(.slice a1 nodes_p.length cap1)) rfl (q8j (args:=[(.slice a1 nodes_p.length cap1)]) rfl Tryz.call186 ?_)))))))
 refine enter Tryz.func186 rfl rfl rfl ?_
 refine Qt (y8f (cs:=[(.slice a1 nodes_p.length cap1)]) hS rfl rfl ?_)
 intro b1 w1 hS1
 refine Qu (v:= .nilFunc) rfl (wpList_nil (Qn (Qt (j1r (la:=[]) (lb:=[(.pointer (some ⟨b1,0,none⟩))]) rfl rfl (Qu (v:=(.func (.func 237) #[] #[(.pointer (some ⟨b1,0,none⟩))])) rfl (wpList_nil (Qn (wp_ret (ret1 rfl (show ev _ _ _=(.func (.func 237) #[] #[(.pointer (some ⟨b1,0,none⟩))]) from rfl) ?_)))))))))
 refine⟨_,rfl,?_⟩
 refine q8j (args:=[(.func (.func 237) #[] #[(.pointer (some ⟨b1,0,none⟩))])]) rfl Tryz.call185 ?_
 refine enter Tryz.func185 rfl rfl rfl ?_
 refine Qt (Qu (v:=(.slice none 0 0)) rfl (wpList_nil (Qn (Qt (Zb (v:=(.func (.func 237) #[] #[(.pointer (some ⟨b1,0,none⟩))])) rfl (q8j (args:=[(.func (.func 237) #[] #[(.pointer (some ⟨b1,0,none⟩))])]) rfl Tryz.call236 ?_))))))
 refine enter Tryz.func236 rfl rfl rfl ?_
 refine Qt (Qu (v:=(.slice none 0 0)) rfl (wpList_nil (Qn (Qt (Zb (v:=(.func (.func 237) #[] #[(.pointer (some ⟨b1,0,none⟩))])) rfl ?_)))))
 obtain⟨σ1,hS2,hsub1,hfr1⟩:=hS1.freeze' (i:=0) rfl rfl
 have hB1:σ1 b1=some (.cells #[(.slice a1 nodes_p.length cap1)] 44 (0,0)):=(hfr1 _ rfl).trans (hS1.get (i:=0) rfl)
 obtain⟨hsm1,hP⟩:=hP
 refine q8j (args:=[(.slice none 0 0),(.func (.func 237) #[] #[(.pointer (some ⟨b1,0,none⟩))])]) rfl Tryz.call274 (Calls.mono (y85 b1 (.slice a1 nodes_p.length cap1) nodes_p hS2.view hB1 (RSl.menc hsub1 hr1) hsm1) ?_)
 rintro _ w2 ⟨v4,rfl,hg1,ho1⟩
 refine⟨_,rfl,?_⟩
 have hS3:=hS2.growAdd hg1 (o:=vec v4 9 1 nodes_p.length ((nodes_p).flatMap Qi)) ho1
 refine Qu (v:=v4) rfl (wpList_nil (Qn (wp_ret (ret1 rfl (show ev _ _ _=v4 from rfl) ?_))))
 refine⟨_,rfl,?_⟩
 refine Qu (v:=v4) rfl (wpList_nil (Qn (Qt (Zb (v:=v4) rfl ?_))))
 refine q8j (args:=[v4]) rfl Tryz.call80 (Calls.mono (v0j Tryz.slices_Sort_string Tryz.slices_Sort_string_none hS3.view (hS3.get (i:=0) rfl) rfl (fun b hb=>hS3.off _ (List.mem_of_getElem? (i:=0) rfl) b hb) (by have:=hsm1;unfold Sml at this;omega)) ?_)
 rintro _ w3 ⟨rfl,hg2,ho2⟩
 refine⟨_,rfl,?_⟩
 have hS4:=hS3.growV (i:=0) (o':=vec v4 9 1 nodes_p.length ((srt nodes_p).flatMap Qi)) rfl hg2 rfl ho2 (ms':=[vec v4 9 1 nodes_p.length ((srt nodes_p).flatMap Qi)]) rfl
 have hS5:=hS4.re (ms':=[vec v4 9 1 ((srt nodes_p).length) ((srt nodes_p).flatMap Qi)]) (by simp only[Jx])
 refine wpList_nil (Qn (Qt (Zb (v:=v4) rfl (Qu (v:=v4) rfl (wpList_nil (Qn (wp_ret (ret1 rfl (show ev _ _ _=v4 from rfl) ?_))))))))
 refine⟨_,rfl,?_⟩
 refine Qu (v:=v4) rfl (wpList_nil (Qn (wp_seq (Qt (Zb (v:=v4) rfl ?_)))))
 obtain⟨σ2,hS6,hsub2,hr4⟩:=hS5.peek (i:=0) rfl q4p (show Sml (srt nodes_p).length by rw[Jx];exact hsm1)
 obtain⟨Y1,hK1,hc1⟩:=hP
 refine q8j (args:=[v4]) rfl Tryz.call187 (Calls.mono (q3n (srt nodes_p) v4 hS6.view hr4 hc1) ?_)
 rintro _ w4 ⟨r1_,v5,rfl,hg3,hl1,hY1⟩
 refine⟨_,rfl,?_⟩
 have hS7:=St.callM (ins:=[]) (rest:=[vec v4 9 1 ((srt nodes_p).length) ((srt nodes_p).flatMap Qi)]) (ms':=[vec v5 9 1 r1_.length ((r1_).flatMap Qi),vec v4 9 1 ((srt nodes_p).length) ((srt nodes_p).flatMap Qi)]) hS5 (St.back hg3 hsub2) rfl
 replace hP:=hK1 r1_ hY1
 obtain⟨hsm2,hP⟩:=hP
 refine q8j (args:=[v5]) rfl Tryz.call184 (Calls.mono (j6e Tryz.slices_Compact_string Tryz.slices_Compact_string_empty hS7.view (hS7.get (i:=0) rfl) rfl (fun b hb=>hS7.off _ (List.mem_of_getElem? (i:=0) rfl) b hb) (by have:=hl1;unfold Sml at this;omega)) ?_)
 rintro _ w5 ⟨v6,rfl,hf1,hg4,ho3⟩
 refine⟨_,rfl,?_⟩
 have ho4:=q1e ho3
 have hS8:=hS7.growV (i:=0) (o':=vec v6 9 1 ((cpt r1_).length) ((cpt r1_).flatMap Qi)) rfl hg4 hf1 ho3 (ms':=[vec v6 9 1 ((cpt r1_).length) ((cpt r1_).flatMap Qi),vec v4 9 1 ((srt nodes_p).length) ((srt nodes_p).flatMap Qi)]) rfl
 refine z9a hS8 rfl (i:=0) rfl Tryz.underlying44 ?_
 have hlen1:(cpt r1_).length<=9223372036854775807:=by have:=hsm2;unfold Sml at this;omega
 replace hP:=hP hlen1
 refine Zb (v:=v4) rfl (z9a hS8 rfl (i:=1) rfl Tryz.underlying44 ?_)
 have hlen2:(srt nodes_p).length<=9223372036854775807:=by have:=(show Sml (srt nodes_p).length by rw[Jx];exact hsm1);unfold Sml at this;omega
 replace hP:=hP hlen2
 refine y8d (r:=(!decide ((((cpt r1_).length:Nat):Int)=(((srt nodes_p).length:Nat):Int)))) rfl rfl rfl (wpList_nil (Qn ?_))
 refine y59 ((((cpt r1_).length:Nat):Int)=(((srt nodes_p).length:Nat):Int)) rfl (fun ht1=> ?_) (fun ht1=> ?_)
 ·
  replace hP:=hP.2 ht1
  refine Qt (Qu (v:=(.slice none 0 0)) rfl (Qu (v:=(.int .i64 (10:Int))) rfl (wpList_nil (Qn (wp_ret (Bl (ret2 rfl (show ev _ _ _=(.slice none 0 0) from rfl) (show ev _ _ _=(.int .i64 (10:Int)) from rfl) ?_)))))))
  have hS9:=hS8.addNil 9 1
  exact⟨[],(10:Int),(.slice none 0 0),rfl,(St.back (hS9.keep 1 (ms':=[vec (.slice none 0 0) 9 1 0 []]) rfl) (Sub.refl _)),(by simp[Sml]),hP⟩
 ·
  replace hP:=hP.1 ht1
  refine wp_skip (Qn (Qt (v2c 9 1 Qi hS8 ?_)))
  intro b2 w6 hS10
  refine w7v (cs:=[(.map none)]) hS10 Tryz.zeroValue267 rfl ?_
  intro b3 w7 hS11
  refine w7u (T:=267) (vs:=[(.map (some b2))]) (cs':=[(.map (some b2))]) (ms':=(blk b3 267 [(.map (some b2))]::smap b2 (asl [])::vec v6 9 1 ((cpt r1_).length) ((cpt r1_).flatMap Qi)::vec v4 9 1 ((srt nodes_p).length) ((srt nodes_p).flatMap Qi)::Hp 9 1 Qi [])) (i:=0) hS11 rfl rfl rfl Tryz.sizeOf267 rfl (ones rfl) rfl (Nat.le_of_ble_eq_true rfl) rfl rfl ?_
  intro w8 hS12
  refine wpList_nil (Qn (wp_seq (Qt (Zb (v:=(.slice a2 edges_p.length cap2)) rfl (z0x rfl Tryz.underlying170 ?_)))))
  have hlen3:=RSl.len63 hr2
  replace hP:=hP hlen3
  refine Zb (v:=(.int .i64 (0:Int))) rfl (wpList_nil (Qn (wp_block ?_)))
  have hS13:=hS12.front 3 rfl (ms':=(vec v4 9 1 ((srt nodes_p).length) ((srt nodes_p).flatMap Qi)::blk b3 267 [(.map (some b2))]::smap b2 (asl [])::vec v6 9 1 ((cpt r1_).length) ((cpt r1_).flatMap Qi)::Hp 9 1 Qi [])) rfl
  have hS14:=hS13.front 3 rfl (ms':=(vec v6 9 1 ((cpt r1_).length) ((cpt r1_).flatMap Qi)::vec v4 9 1 ((srt nodes_p).length) ((srt nodes_p).flatMap Qi)::blk b3 267 [(.map (some b2))]::smap b2 (asl [])::Hp 9 1 Qi [])) rfl
  have hS15:=hS14.front 2 rfl (ms':=(blk b3 267 [(.map (some b2))]::vec v6 9 1 ((cpt r1_).length) ((cpt r1_).flatMap Qi)::vec v4 9 1 ((srt nodes_p).length) ((srt nodes_p).flatMap Qi)::smap b2 (asl [])::Hp 9 1 Qi [])) rfl
  have hS16:=hS15.front 3 rfl (ms':=(smap b2 (asl [])::blk b3 267 [(.map (some b2))]::vec v6 9 1 ((cpt r1_).length) ((cpt r1_).flatMap Qi)::vec v4 9 1 ((srt nodes_p).length) ((srt nodes_p).flatMap Qi)::Hp 9 1 Qi [])) rfl
  refine v9f (fun k_3 F_2 f z=> ∃(es2:EL ByteArray) (σ3:Hv) (g:Fr),f=(upd (upd (upd (upd (upd g 6 v4) 7 (.pointer (some ⟨b3,0,none⟩))) 24 (.slice a2 edges_p.length cap2)) 25 (.int .i64 ((edges_p.length:Nat):Int))) 26 (.int .i64 ((k_3:Nat):Int)))/\St ⟨w,σ,[]⟩ z σ3 (smap b2 (asl es2)::blk b3 267 [(.map (some b2))]::vec v6 9 1 ((cpt r1_).length) ((cpt r1_).flatMap Qi)::vec v4 9 1 ((srt nodes_p).length) ((srt nodes_p).flatMap Qi)::Hp 9 1 Qi es2)/\Sub σ1 σ3/\ELF es2 F_2) hP ⟨[],σ1,_,(Zw rfl (Zw rfl (Zw rfl (Zw rfl (Zw rfl rfl))))),hS16,(Sub.refl _),ELF.nil⟩ ?_
  clear hP
  rintro k_3 F_2 Y2 hP f w9 ⟨es2,σ3,g,rfl,hS17,hsub3,hF2⟩
  refine Qt (v4j (r:=(decide (((k_3:Nat):Int)<((edges_p.length:Nat):Int)))) rfl rfl rfl (wpList_nil (Qn (wp_seq ?_))))
  refine if_d (((k_3:Nat):Int)<((edges_p.length:Nat):Int)) rfl (fun ht2=> ?_) (fun ht2=> ?_)
  ·
   replace hP:=hP.1 ht2
   refine wp_skip (Qn (wp_seq (wp_block (Qt ?_))))
   obtain⟨x1_,hx1⟩:=getq (l:=edges_p) (k:=k_3) (by have:=ht2;omega)
   replace hP:=hP x1_ hx1
   obtain⟨ad1,cs1,ha1,hl2,hr6,hR1,hlt1⟩:=RSl.at hr2 hx1
   cases hR1
   refine Rr (k:=k_3) (a':=(ad1.add (k_3*2))) (congrArg (fun z=>Value.slice z _ _) ha1) rfl rfl hlt1 Tryz.underlying170 Tryz.sizeOf217 rfl (y2w (cs:=[(.string x1_.1),(.string x1_.2)]) rfl Tryz.isAgg217 Tryz.sizeOf217 rfl (hr6.row (View.of (Sub.trans hsub1 hsub3) hS17.view)) (w7v (cs:=[(.string (⟨#[]⟩:ByteArray)),(.string (⟨#[]⟩:ByteArray))]) hS17 Tryz.zeroValue217 rfl ?_))
   intro b4 w10 hS18
   refine w7u (T:=217) (vs:=[(.string x1_.1),(.string x1_.2)]) (cs':=[(.string x1_.1),(.string x1_.2)]) (ms':=(blk b4 217 [(.string x1_.1),(.string x1_.2)]::smap b2 (asl es2)::blk b3 267 [(.map (some b2))]::vec v6 9 1 ((cpt r1_).length) ((cpt r1_).flatMap Qi)::vec v4 9 1 ((srt nodes_p).length) ((srt nodes_p).flatMap Qi)::Hp 9 1 Qi es2)) (i:=0) hS18 rfl rfl rfl Tryz.sizeOf217 rfl (ones rfl) rfl (Nat.le_of_ble_eq_true rfl) rfl rfl ?_
   intro w11 hS19
   refine wpList_nil (Qn (wp_seq (Qt (Zb (v:=v4) rfl (j58 (a':=⟨b4,0,none⟩) rfl Tryz.underlying217 rfl Tryz.sizeOf9 rfl (q6v (v:=(.string x1_.1)) rfl Tryz.isAgg9 (hS19.cell (i:=0) rfl rfl) ?_))))))
   obtain⟨σ4,hS20,hsub4,hr7⟩:=hS19.peek (i:=4) rfl q4p (show Sml (srt nodes_p).length by rw[Jx];exact hsm1)
   obtain⟨Y3,hK2,hc2⟩:=hP
   refine q8j (args:=[v4,(.string x1_.1)]) rfl Tryz.call76 (Calls.mono (Vh (srt nodes_p) x1_.1 v4 hS20.view hr7 hc2) ?_)
   rintro _ w12 ⟨r2_,rfl,hg5,hY2⟩
   refine⟨_,rfl,?_⟩
   have hg5b:=hg5.back hsub4
   have hS21:=hS19.grow hg5b
   replace hP:=hK2 r2_ hY2
   refine v87 (r:=(!r2_)) rfl rfl ?_
   rcases Bool.eq_false_or_eq_true (r2_) with hb1|hb1
   ·
    replace hP:=hP.1 hb1
    refine Zb (v:=(.bool false)) (congrArg Value.bool (congrArg Bool.not hb1)) (o_on rfl rfl (Zb (v:=v4) rfl (o_on rfl rfl (j58 (a':=⟨b4,1,none⟩) rfl Tryz.underlying217 rfl Tryz.sizeOf9 rfl (o_on rfl rfl (q6v (v:=(.string x1_.2)) rfl Tryz.isAgg9 (hS21.cell (i:=0) rfl rfl) (o_on rfl rfl ?_)))))))
    obtain⟨σ5,hS22,hsub5,hr8⟩:=hS21.peek (i:=4) rfl q4p (show Sml (srt nodes_p).length by rw[Jx];exact hsm1)
    obtain⟨Y4,hK3,hc3⟩:=hP
    refine q8j (args:=[v4,(.string x1_.2)]) rfl Tryz.call76 (Calls.mono (Vh (srt nodes_p) x1_.2 v4 hS22.view hr8 hc3) ?_)
    rintro _ w13 ⟨r3_,rfl,hg6,hY3⟩
    refine⟨_,rfl,?_⟩
    have hg6b:=hg6.back hsub5
    have hS23:=hS21.grow hg6b
    replace hP:=hK3 r3_ hY3
    refine o_on rfl rfl (v87 (r:=(!r3_)) rfl rfl (v84 (v:=(.bool (!r3_))) rfl rfl (wpList_nil (Qn ?_))))
    refine y6a rfl (fun ht3=> ?_) (fun ht3=> ?_)
    ·
     replace hP:=hP.2 (by first|(rw[ht3];exact Bool.false_ne_true)|simp[ht3])
     refine Qt (Qu (v:=(.slice none 0 0)) rfl (Qu (v:=(.int .i64 (11:Int))) rfl (wpList_nil (Qn (wp_ret (Bl (j4l (Bl (Bl (j4l (Bl (ret2 rfl (show ev _ _ _=(.slice none 0 0) from rfl) (show ev _ _ _=(.int .i64 (11:Int)) from rfl) ?_))))))))))))
     have hS24:=hS23.addNil 9 1
     exact⟨[],(11:Int),(.slice none 0 0),rfl,(St.back (hS24.keep 1 (ms':=[vec (.slice none 0 0) 9 1 0 []]) rfl) (Sub.refl _)),(by simp[Sml]),hP⟩
    ·
     replace hP:=hP.1 ht3
     refine wp_skip (Qn (dr (fun z=>St ⟨w,σ,[]⟩ z σ3 [blk b4 217 [(.string x1_.1),(.string x1_.2)],blk b3 267 [(.map (some b2))],vec v6 9 1 ((cpt r1_).length) ((cpt r1_).flatMap Qi),vec v4 9 1 ((srt nodes_p).length) ((srt nodes_p).flatMap Qi)]) (by kernel_rfl) rfl ?_))
     have hS25:=hS23.drew
     refine dt 0 1 (v:=(.map (some b2))) (by kernel_rfl) rfl rfl (fun _ _ _ h=>h) (hS25.sublist (.cons_cons _ (.cons _ (.cons_cons _ (.cons_cons _ (.cons_cons _ (List.nil_sublist _))))))) (fun _ hJ _ hK=>q6v (v:=(.map (some b2))) rfl Tryz.isAgg267 (hJ.cell (i:=1) rfl rfl) ⟨rfl,hK⟩) (dt 1 3 (v:=(.pointer (some ⟨b4,0,none⟩))) (by kernel_rfl) rfl rfl (fun _ _ _ h=>h) (hS25.sublist (.cons_cons _ (.cons _ (.cons_cons _ (.cons_cons _ (.cons_cons _ (List.nil_sublist _))))))) (fun _ _ _ hK=>j58 (a':=⟨b4,0,none⟩) rfl Tryz.underlying217 rfl Tryz.sizeOf9 rfl ⟨rfl,hK⟩) (dt 2 7 (v:=(.string x1_.1)) (by kernel_rfl) rfl rfl (fun _ _ _ h=>h) (hS25.sublist (.cons_cons _ (.cons _ (.cons_cons _ (.cons_cons _ (.cons_cons _ (List.nil_sublist _))))))) (fun _ hJ _ hK=>q6v (v:=(.string x1_.1)) rfl Tryz.isAgg9 (hJ.cell (i:=0) rfl rfl) ⟨rfl,hK⟩) (dt 3 15 (v:=(.map (some b2))) (by kernel_rfl) rfl rfl (fun _ _ _ h=>h) (hS25.sublist (.cons_cons _ (.cons _ (.cons_cons _ (.cons_cons _ (.cons_cons _ (List.nil_sublist _))))))) (fun _ hJ _ hK=>q6v (v:=(.map (some b2))) rfl Tryz.isAgg267 (hJ.cell (i:=1) rfl rfl) ⟨rfl,hK⟩) (dt 4 31 (v:=(.pointer (some ⟨b4,0,none⟩))) (by kernel_rfl) rfl rfl (fun _ _ _ h=>h) (hS25.sublist (.cons_cons _ (.cons _ (.cons_cons _ (.cons_cons _ (.cons_cons _ (List.nil_sublist _))))))) (fun _ _ _ hK=>j58 (a':=⟨b4,0,none⟩) rfl Tryz.underlying217 rfl Tryz.sizeOf9 rfl ⟨rfl,hK⟩) (dt 5 63 (v:=(.string x1_.1)) (by kernel_rfl) rfl rfl (fun _ _ _ h=>h) (hS25.sublist (.cons_cons _ (.cons _ (.cons_cons _ (.cons_cons _ (.cons_cons _ (List.nil_sublist _))))))) (fun _ hJ _ hK=>q6v (v:=(.string x1_.1)) rfl Tryz.isAgg9 (hJ.cell (i:=0) rfl rfl) ⟨rfl,hK⟩) (dt 7 191 (v:=(.pointer (some ⟨b4,1,none⟩))) (by kernel_rfl) rfl rfl (fun _ _ _ h=>h) (hS25.sublist (.cons_cons _ (.cons _ (.cons_cons _ (.cons_cons _ (.cons_cons _ (List.nil_sublist _))))))) (fun _ _ _ hK=>j58 (a':=⟨b4,1,none⟩) rfl Tryz.underlying217 rfl Tryz.sizeOf9 rfl ⟨rfl,hK⟩) (dt 8 447 (v:=(.string x1_.2)) (by kernel_rfl) rfl rfl (fun _ _ _ h=>h) (hS25.sublist (.cons_cons _ (.cons _ (.cons_cons _ (.cons_cons _ (.cons_cons _ (List.nil_sublist _))))))) (fun _ hJ _ hK=>q6v (v:=(.string x1_.2)) rfl Tryz.isAgg9 (hJ.cell (i:=0) rfl rfl) ⟨rfl,hK⟩) ?_)))))))
     refine d2 6 9 511 959 (by kernel_rfl) rfl rfl rfl rfl ?_ ?_
     ·
      obtain⟨v7,hv1⟩: ∃v,(asl es2 x1_.1).getD (.slice none 0 0)=v:=⟨_,rfl⟩
      refine v4s (i:=1) (v:=v7) hS25 rfl rfl rfl Tryz.underlying267 Tryz.underlying9 Tryz.zeroValue44 hv1 (wpList_nil ?_)
      refine⟨rfl,(hS25.sublist (.cons_cons _ (.cons _ (.cons_cons _ (.cons_cons _ (.cons_cons _ (List.nil_sublist _))))))),?_⟩
      refine d1 9 1023 (by kernel_rfl) rfl (j5h (cs:=[(.string x1_.2)]) (e:=9) hS25 (fun _=>by kernel_rfl) ?_)
      intro b5 w14 hS26
      refine wpList_nil ?_
      refine⟨rfl,(hS26.sublist (.cons _ (.cons_cons _ (.cons _ (.cons_cons _ (.cons_cons _ (.cons_cons _ (List.nil_sublist _)))))))),?_⟩
      refine d1 10 2047 (by kernel_rfl) rfl ?_
      obtain⟨es3,hS27,hL1,hl3⟩:=St.borrow (ms:=[blk b5 9 [(.string x1_.2)],blk b4 217 [(.string x1_.1),(.string x1_.2)],smap b2 (asl es2),blk b3 267 [(.map (some b2))],vec v6 9 1 ((cpt r1_).length) ((cpt r1_).flatMap Qi),vec v4 9 1 ((srt nodes_p).length) ((srt nodes_p).flatMap Qi)]) hS26 hF2 x1_.1 hv1
      obtain⟨hsm3,hP⟩:=hP
      refine y28 (Ms:=fun v8=>(vec v8 9 1 ((((F_2 x1_.1).getD [])++[x1_.2]).length) ((((F_2 x1_.1).getD [])++[x1_.2]).flatMap Qi)::blk b5 9 [(.string x1_.2)]::blk b4 217 [(.string x1_.1),(.string x1_.2)]::smap b2 (asl es2)::blk b3 267 [(.map (some b2))]::vec v6 9 1 ((cpt r1_).length) ((cpt r1_).flatMap Qi)::vec v4 9 1 ((srt nodes_p).length) ((srt nodes_p).flatMap Qi)::Hp 9 1 Qi es3)) (k':=(((F_2 x1_.1).getD [])++[x1_.2]).length) (xs':=(((F_2 x1_.1).getD [])++[x1_.2]).flatMap Qi) Tryz.underlying44 Tryz.type9 rfl rfl (bytes:=16) rfl rfl (Nat.succ_pos _) hS27 rfl (q:=0) rfl rfl rfl (q9d (hS27.get (i:=1) rfl)) (ones rfl) hsm3 (by omega) (by first|rfl|exact List.length_append.symm|simp) (by simp[Qi]) (fun _=>rfl) ?_
      intro v8 w15 ho5 hS28
      have hS29:=hS28.drop 1 (ms':=(vec v8 9 1 ((((F_2 x1_.1).getD [])++[x1_.2]).length) ((((F_2 x1_.1).getD [])++[x1_.2]).flatMap Qi)::blk b4 217 [(.string x1_.1),(.string x1_.2)]::smap b2 (asl es2)::blk b3 267 [(.map (some b2))]::vec v6 9 1 ((cpt r1_).length) ((cpt r1_).flatMap Qi)::vec v4 9 1 ((srt nodes_p).length) ((srt nodes_p).flatMap Qi)::Hp 9 1 Qi es3)) rfl
      refine wpList_nil ?_
      refine⟨rfl,(hS29.sublist (.cons _ (.cons_cons _ (.cons _ (.cons_cons _ (.cons_cons _ (.cons_cons _ (List.nil_sublist _)))))))),?_⟩
      refine d1 11 4095 (by kernel_rfl) rfl (y22 (v:=v8) (i:=2) (ms':=(vec v8 9 1 ((((F_2 x1_.1).getD [])++[x1_.2]).length) ((((F_2 x1_.1).getD [])++[x1_.2]).flatMap Qi)::blk b4 217 [(.string x1_.1),(.string x1_.2)]::smap b2 (fun k'=>if k'=x1_.1 then some v8 else asl es2 k')::blk b3 267 [(.map (some b2))]::vec v6 9 1 ((cpt r1_).length) ((cpt r1_).flatMap Qi)::vec v4 9 1 ((srt nodes_p).length) ((srt nodes_p).flatMap Qi)::Hp 9 1 Qi es3)) hS29 rfl rfl rfl rfl Tryz.underlying267 Tryz.underlying9 rfl ?_)
      intro w16 hS30
      have hS32:=St.giveback (ms:=[blk b4 217 [(.string x1_.1),(.string x1_.2)],smap b2 (fun k'=>if k'=x1_.1 then some v8 else asl es2 k'),blk b3 267 [(.map (some b2))],vec v6 9 1 ((cpt r1_).length) ((cpt r1_).flatMap Qi),vec v4 9 1 ((srt nodes_p).length) ((srt nodes_p).flatMap Qi)]) (ms':=[blk b4 217 [(.string x1_.1),(.string x1_.2)],smap b2 (asl ((x1_.1,v8,((F_2 x1_.1).getD [])++[x1_.2])::es3)),blk b3 267 [(.map (some b2))],vec v6 9 1 ((cpt r1_).length) ((cpt r1_).flatMap Qi),vec v4 9 1 ((srt nodes_p).length) ((srt nodes_p).flatMap Qi)]) (i:=1) hS30 hL1 rfl rfl
      have hF3:=ELF.put (v:=v8) hF2 hL1 hsm3
      refine wpList_nil ?_
      refine⟨rfl,(hS32.sublist (.cons_cons _ (.cons _ (.cons_cons _ (.cons_cons _ (.cons_cons _ (List.nil_sublist _))))))),j5i (J':=fun z=>St ⟨w,σ,[]⟩ z σ3 (blk b4 217 [(.string x1_.1),(.string x1_.2)]::smap b2 (asl ((x1_.1,v8,((F_2 x1_.1).getD [])++[x1_.2])::es3))::blk b3 267 [(.map (some b2))]::vec v6 9 1 ((cpt r1_).length) ((cpt r1_).flatMap Qi)::vec v4 9 1 ((srt nodes_p).length) ((srt nodes_p).flatMap Qi)::Hp 9 1 Qi ((x1_.1,v8,((F_2 x1_.1).getD [])++[x1_.2])::es3))) (fun w h=>h.sublist (.cons_cons _ (.cons _ (.cons_cons _ (.cons_cons _ (.cons_cons _ (List.nil_sublist _))))))) _ _ _ _ ?_⟩
      refine dz (by kernel_rfl) (v11 (Qn (j1q (v10 (r:=((k_3+1:Nat):Int)) rfl rfl (nw (by omega) (by omega) (by have:=hlen3;omega)) (Zb (v:=(.int .i64 ((k_3+1:Nat):Int))) rfl (wpList_nil (Qn ?_)))))))
      exact⟨k_3+1,(put F_2 x1_.1 (((F_2 x1_.1).getD [])++[x1_.2])),_,rfl,hP,((x1_.1,v8,((F_2 x1_.1).getD [])++[x1_.2])::es3),σ3,_,(Zw rfl (Zw rfl (Zw rfl (Zw rfl (Zw rfl rfl))))),(hS32.sublist (ms':=(smap b2 (asl ((x1_.1,v8,((F_2 x1_.1).getD [])++[x1_.2])::es3))::blk b3 267 [(.map (some b2))]::vec v6 9 1 ((cpt r1_).length) ((cpt r1_).flatMap Qi)::vec v4 9 1 ((srt nodes_p).length) ((srt nodes_p).flatMap Qi)::Hp 9 1 Qi ((x1_.1,v8,((F_2 x1_.1).getD [])++[x1_.2])::es3))) (.cons _ (List.Sublist.refl _))),hsub3,hF3⟩
     ·
      refine j5h (cs:=[(.string x1_.2)]) (e:=9) hS25 (fun _=>by kernel_rfl) ?_
      intro b5 w14 hS26
      refine wpList_nil ?_
      refine⟨rfl,(hS26.sublist (.cons _ (.cons_cons _ (.cons _ (.cons_cons _ (.cons_cons _ (.cons_cons _ (List.nil_sublist _)))))))),?_⟩
      refine d1 6 1023 (by kernel_rfl) rfl ?_
      obtain⟨v7,hv1⟩: ∃v,(asl es2 x1_.1).getD (.slice none 0 0)=v:=⟨_,rfl⟩
      refine v4s (i:=2) (v:=v7) hS26 rfl rfl rfl Tryz.underlying267 Tryz.underlying9 Tryz.zeroValue44 hv1 (wpList_nil ?_)
      refine⟨rfl,(hS26.sublist (.cons _ (.cons_cons _ (.cons _ (.cons_cons _ (.cons_cons _ (.cons_cons _ (List.nil_sublist _)))))))),?_⟩
      refine d1 10 2047 (by kernel_rfl) rfl ?_
      obtain⟨es3,hS27,hL1,hl3⟩:=St.borrow (ms:=[blk b5 9 [(.string x1_.2)],blk b4 217 [(.string x1_.1),(.string x1_.2)],smap b2 (asl es2),blk b3 267 [(.map (some b2))],vec v6 9 1 ((cpt r1_).length) ((cpt r1_).flatMap Qi),vec v4 9 1 ((srt nodes_p).length) ((srt nodes_p).flatMap Qi)]) hS26 hF2 x1_.1 hv1
      obtain⟨hsm3,hP⟩:=hP
      refine y28 (Ms:=fun v8=>(vec v8 9 1 ((((F_2 x1_.1).getD [])++[x1_.2]).length) ((((F_2 x1_.1).getD [])++[x1_.2]).flatMap Qi)::blk b5 9 [(.string x1_.2)]::blk b4 217 [(.string x1_.1),(.string x1_.2)]::smap b2 (asl es2)::blk b3 267 [(.map (some b2))]::vec v6 9 1 ((cpt r1_).length) ((cpt r1_).flatMap Qi)::vec v4 9 1 ((srt nodes_p).length) ((srt nodes_p).flatMap Qi)::Hp 9 1 Qi es3)) (k':=(((F_2 x1_.1).getD [])++[x1_.2]).length) (xs':=(((F_2 x1_.1).getD [])++[x1_.2]).flatMap Qi) Tryz.underlying44 Tryz.type9 rfl rfl (bytes:=16) rfl rfl (Nat.succ_pos _) hS27 rfl (q:=0) rfl rfl rfl (q9d (hS27.get (i:=1) rfl)) (ones rfl) hsm3 (by omega) (by first|rfl|exact List.length_append.symm|simp) (by simp[Qi]) (fun _=>rfl) ?_
      intro v8 w15 ho5 hS28
      have hS29:=hS28.drop 1 (ms':=(vec v8 9 1 ((((F_2 x1_.1).getD [])++[x1_.2]).length) ((((F_2 x1_.1).getD [])++[x1_.2]).flatMap Qi)::blk b4 217 [(.string x1_.1),(.string x1_.2)]::smap b2 (asl es2)::blk b3 267 [(.map (some b2))]::vec v6 9 1 ((cpt r1_).length) ((cpt r1_).flatMap Qi)::vec v4 9 1 ((srt nodes_p).length) ((srt nodes_p).flatMap Qi)::Hp 9 1 Qi es3)) rfl
      refine wpList_nil ?_
      refine⟨rfl,(hS29.sublist (.cons _ (.cons_cons _ (.cons _ (.cons_cons _ (.cons_cons _ (.cons_cons _ (List.nil_sublist _)))))))),?_⟩
      refine d1 11 4095 (by kernel_rfl) rfl (y22 (v:=v8) (i:=2) (ms':=(vec v8 9 1 ((((F_2 x1_.1).getD [])++[x1_.2]).length) ((((F_2 x1_.1).getD [])++[x1_.2]).flatMap Qi)::blk b4 217 [(.string x1_.1),(.string x1_.2)]::smap b2 (fun k'=>if k'=x1_.1 then some v8 else asl es2 k')::blk b3 267 [(.map (some b2))]::vec v6 9 1 ((cpt r1_).length) ((cpt r1_).flatMap Qi)::vec v4 9 1 ((srt nodes_p).length) ((srt nodes_p).flatMap Qi)::Hp 9 1 Qi es3)) hS29 rfl rfl rfl rfl Tryz.underlying267 Tryz.underlying9 rfl ?_)
      intro w16 hS30
      have hS32:=St.giveback (ms:=[blk b4 217 [(.string x1_.1),(.string x1_.2)],smap b2 (fun k'=>if k'=x1_.1 then some v8 else asl es2 k'),blk b3 267 [(.map (some b2))],vec v6 9 1 ((cpt r1_).length) ((cpt r1_).flatMap Qi),vec v4 9 1 ((srt nodes_p).length) ((srt nodes_p).flatMap Qi)]) (ms':=[blk b4 217 [(.string x1_.1),(.string x1_.2)],smap b2 (asl ((x1_.1,v8,((F_2 x1_.1).getD [])++[x1_.2])::es3)),blk b3 267 [(.map (some b2))],vec v6 9 1 ((cpt r1_).length) ((cpt r1_).flatMap Qi),vec v4 9 1 ((srt nodes_p).length) ((srt nodes_p).flatMap Qi)]) (i:=1) hS30 hL1 rfl rfl
      have hF3:=ELF.put (v:=v8) hF2 hL1 hsm3
      refine wpList_nil ?_
      refine⟨rfl,(hS32.sublist (.cons_cons _ (.cons _ (.cons_cons _ (.cons_cons _ (.cons_cons _ (List.nil_sublist _))))))),j5i (J':=fun z=>St ⟨w,σ,[]⟩ z σ3 (blk b4 217 [(.string x1_.1),(.string x1_.2)]::smap b2 (asl ((x1_.1,v8,((F_2 x1_.1).getD [])++[x1_.2])::es3))::blk b3 267 [(.map (some b2))]::vec v6 9 1 ((cpt r1_).length) ((cpt r1_).flatMap Qi)::vec v4 9 1 ((srt nodes_p).length) ((srt nodes_p).flatMap Qi)::Hp 9 1 Qi ((x1_.1,v8,((F_2 x1_.1).getD [])++[x1_.2])::es3))) (fun w h=>h.sublist (.cons_cons _ (.cons _ (.cons_cons _ (.cons_cons _ (.cons_cons _ (List.nil_sublist _))))))) _ _ _ _ ?_⟩
      refine dz (by kernel_rfl) (v11 (Qn (j1q (v10 (r:=((k_3+1:Nat):Int)) rfl rfl (nw (by omega) (by omega) (by have:=hlen3;omega)) (Zb (v:=(.int .i64 ((k_3+1:Nat):Int))) rfl (wpList_nil (Qn ?_)))))))
      exact⟨k_3+1,(put F_2 x1_.1 (((F_2 x1_.1).getD [])++[x1_.2])),_,rfl,hP,((x1_.1,v8,((F_2 x1_.1).getD [])++[x1_.2])::es3),σ3,_,(Zw rfl (Zw rfl (Zw rfl (Zw rfl (Zw rfl rfl))))),(hS32.sublist (ms':=(smap b2 (asl ((x1_.1,v8,((F_2 x1_.1).getD [])++[x1_.2])::es3))::blk b3 267 [(.map (some b2))]::vec v6 9 1 ((cpt r1_).length) ((cpt r1_).flatMap Qi)::vec v4 9 1 ((srt nodes_p).length) ((srt nodes_p).flatMap Qi)::Hp 9 1 Qi ((x1_.1,v8,((F_2 x1_.1).getD [])++[x1_.2])::es3))) (.cons _ (List.Sublist.refl _))),hsub3,hF3⟩
   ·
    replace hP:=hP.2 (by first|(rw[hb1];exact Bool.false_ne_true)|simp[hb1])
    refine Zb (v:=(.bool true)) (congrArg Value.bool (congrArg Bool.not hb1)) (v4i rfl rfl (v4i rfl rfl (v4i rfl rfl (v4i rfl rfl (v4i rfl rfl (v83 (v:=(.bool true)) rfl rfl (wpList_nil (Qn (if_t rfl (Qt (Qu (v:=(.slice none 0 0)) rfl (Qu (v:=(.int .i64 (11:Int))) rfl (wpList_nil (Qn (wp_ret (Bl (j4l (Bl (Bl (j4l (Bl (ret2 rfl (show ev _ _ _=(.slice none 0 0) from rfl) (show ev _ _ _=(.int .i64 (11:Int)) from rfl) ?_))))))))))))))))))))))
    have hS33:=hS21.addNil 9 1
    exact⟨[],(11:Int),(.slice none 0 0),rfl,(St.back (hS33.keep 1 (ms':=[vec (.slice none 0 0) 9 1 0 []]) rfl) (Sub.refl _)),(by simp[Sml]),hP⟩
  ·
   replace hP:=hP.2 ht2
   refine wp_exit (z6t (z6t (j6a (Qn (Qt (Qu (v:=(.slice none 0 0)) rfl (wpList_nil (Qn (Qt (y24 (fun y:Bool=>(Value.bool (y))) hS17 ?_))))))))))
   intro b6 w17 hS34
   refine w7v (cs:=[(.map none)]) hS34 Tryz.zeroValue268 rfl ?_
   intro b7 w18 hS35
   refine w7u (T:=268) (vs:=[(.map (some b6))]) (cs':=[(.map (some b6))]) (ms':=(blk b7 268 [(.map (some b6))]::emap b6 (fun y:Bool=>(Value.bool (y))) (fun _=>none)::smap b2 (asl es2)::blk b3 267 [(.map (some b2))]::vec v6 9 1 ((cpt r1_).length) ((cpt r1_).flatMap Qi)::vec v4 9 1 ((srt nodes_p).length) ((srt nodes_p).flatMap Qi)::Hp 9 1 Qi es2)) (i:=0) hS35 rfl rfl rfl Tryz.sizeOf268 rfl (ones rfl) rfl (Nat.le_of_ble_eq_true rfl) rfl rfl ?_
   intro w19 hS36
   refine wpList_nil (Qn (wp_seq (wp_block ?_)))
   obtain⟨σ6,hS37,hsub6,hr9⟩:=St.freezeL (ms:=[blk b7 268 [(.map (some b6))],emap b6 (fun y:Bool=>(Value.bool (y))) (fun _=>none),smap b2 (asl es2),blk b3 267 [(.map (some b2))],vec v6 9 1 ((cpt r1_).length) ((cpt r1_).flatMap Qi),vec v4 9 1 ((srt nodes_p).length) ((srt nodes_p).flatMap Qi)]) (ms':=[blk b7 268 [(.map (some b6))],emap b6 (fun y:Bool=>(Value.bool (y))) (fun _=>none),blk b3 267 [(.map (some b2))],vec v6 9 1 ((cpt r1_).length) ((cpt r1_).flatMap Qi),vec v4 9 1 ((srt nodes_p).length) ((srt nodes_p).flatMap Qi)]) (i:=2) hS36 hF2 q4p rfl rfl
   have hS38:=hS37.addNil 9 1
   have hS39:=hS38.front 4 rfl (ms':=[vec v6 9 1 ((cpt r1_).length) ((cpt r1_).flatMap Qi),vec (.slice none 0 0) 9 1 0 [],blk b7 268 [(.map (some b6))],emap b6 (fun y:Bool=>(Value.bool (y))) (fun _=>none),blk b3 267 [(.map (some b2))],vec v4 9 1 ((srt nodes_p).length) ((srt nodes_p).flatMap Qi)]) rfl
   have hS40:=hS39.front 4 rfl (ms':=[blk b3 267 [(.map (some b2))],vec v6 9 1 ((cpt r1_).length) ((cpt r1_).flatMap Qi),vec (.slice none 0 0) 9 1 0 [],blk b7 268 [(.map (some b6))],emap b6 (fun y:Bool=>(Value.bool (y))) (fun _=>none),vec v4 9 1 ((srt nodes_p).length) ((srt nodes_p).flatMap Qi)]) rfl
   have hS41:=hS40.front 3 rfl (ms':=[blk b7 268 [(.map (some b6))],blk b3 267 [(.map (some b2))],vec v6 9 1 ((cpt r1_).length) ((cpt r1_).flatMap Qi),vec (.slice none 0 0) 9 1 0 [],emap b6 (fun y:Bool=>(Value.bool (y))) (fun _=>none),vec v4 9 1 ((srt nodes_p).length) ((srt nodes_p).flatMap Qi)]) rfl
   have hS42:=hS41.front 4 rfl (ms':=[emap b6 (fun y:Bool=>(Value.bool (y))) (fun _=>none),blk b7 268 [(.map (some b6))],blk b3 267 [(.map (some b2))],vec v6 9 1 ((cpt r1_).length) ((cpt r1_).flatMap Qi),vec (.slice none 0 0) 9 1 0 [],vec v4 9 1 ((srt nodes_p).length) ((srt nodes_p).flatMap Qi)]) rfl
   have hS43:=hS42.front 4 rfl (ms':=[vec (.slice none 0 0) 9 1 0 [],emap b6 (fun y:Bool=>(Value.bool (y))) (fun _=>none),blk b7 268 [(.map (some b6))],blk b3 267 [(.map (some b2))],vec v6 9 1 ((cpt r1_).length) ((cpt r1_).flatMap Qi),vec v4 9 1 ((srt nodes_p).length) ((srt nodes_p).flatMap Qi)]) rfl
   have hS44:=hS43.front 5 rfl (ms':=[vec v4 9 1 ((srt nodes_p).length) ((srt nodes_p).flatMap Qi),vec (.slice none 0 0) 9 1 0 [],emap b6 (fun y:Bool=>(Value.bool (y))) (fun _=>none),blk b7 268 [(.map (some b6))],blk b3 267 [(.map (some b2))],vec v6 9 1 ((cpt r1_).length) ((cpt r1_).flatMap Qi)]) rfl
   refine v9g (fun left_3 out_3 F_4 f z=> ∃(v13:Value) (v14:Value) (σ7:Hv) (g:Fr),f=(upd (upd (upd (upd g 6 v13) 7 (.pointer (some ⟨b3,0,none⟩))) 10 v14) 11 (.pointer (some ⟨b7,0,none⟩)))/\St ⟨w,σ,[]⟩ z σ7 [vec v13 9 1 left_3.length ((left_3).flatMap Qi),vec v14 9 1 out_3.length ((out_3).flatMap Qi),emap b6 (fun y:Bool=>(Value.bool (y))) F_4,blk b7 268 [(.map (some b6))],blk b3 267 [(.map (some b2))],vec v6 9 1 ((cpt r1_).length) ((cpt r1_).flatMap Qi)]/\Sub σ6 σ7/\v13.oneCell'=true/\Sml left_3.length/\v14.oneCell'=true/\Sml out_3.length) hP ⟨v4,(.slice none 0 0),σ6,_,(Zw rfl (Zw rfl (Zw rfl (Zw rfl rfl)))),hS44,(Sub.refl _),(q1e ho1.1),(show Sml (srt nodes_p).length by rw[Jx];exact hsm1),rfl,(by simp[Sml])⟩ ?_
   clear hP
   rintro left_3 out_3 F_4 Y5 hP f w20 ⟨v13,v14,σ7,g,rfl,hS45,hsub7,ho10,hl8,ho11,hl9⟩
   refine wp_seq (Qt (Zb (v:=v13) rfl (z9a hS45 rfl (i:=0) rfl Tryz.underlying44 ?_)))
   have hlen4:left_3.length<=9223372036854775807:=by have:=hl8;unfold Sml at this;omega
   replace hP:=hP hlen4
   refine y8e (r:=(decide ((0:Int)<((left_3.length:Nat):Int)))) rfl rfl rfl (wpList_nil (Qn ?_))
   refine if_d ((0:Int)<((left_3.length:Nat):Int)) rfl (fun ht4=> ?_) (fun ht4=> ?_)
   ·
    replace hP:=hP.1 ht4
    refine wp_skip (Qn (wp_block (Qt (Zb (v:=v13) rfl (j1r (la:=[]) (lb:=[(.pointer (some ⟨b3,0,none⟩)),(.pointer (some ⟨b7,0,none⟩))]) rfl rfl ?_)))))
    obtain⟨Y6,hK4,hP⟩:=hP
    refine q8j (args:=[v13,(.func (.func 189) #[] #[(.pointer (some ⟨b3,0,none⟩)),(.pointer (some ⟨b7,0,none⟩))])]) rfl Tryz.call188 (Calls.mono (R:=fun e z=> ∃(r_1:Int) (σ8:Hv),e= .returned (.int .i64 r_1)/\Y6 r_1/\St ⟨w,σ,[]⟩ z σ8 [vec v13 9 1 left_3.length ((left_3).flatMap Qi),vec v14 9 1 out_3.length ((out_3).flatMap Qi),emap b6 (fun y:Bool=>(Value.bool (y))) F_4,blk b7 268 [(.map (some b6))],blk b3 267 [(.map (some b2))],vec v6 9 1 ((cpt r1_).length) ((cpt r1_).flatMap Qi)]/\Sub σ7 σ8) ?_ ?_)
    ·
     refine enter Tryz.func188 rfl rfl rfl ?_
     refine Qt (Qu (v:=(.int .i64 (0:Int))) rfl (wpList_nil (Qn (wp_seq (Qt (Zb (v:=v13) rfl (z9a hS45 rfl (i:=0) rfl Tryz.underlying44 (Zb (v:=(.int .i64 (0:Int))) rfl (wpList_nil (Qn (wp_block ?_)))))))))))
     refine w1t (fun k_5 f z=> ∃(σ9:Hv) (g:Fr),f=(upd (upd (upd (upd g 0 v13) 1 (.func (.func 189) #[] #[(.pointer (some ⟨b3,0,none⟩)),(.pointer (some ⟨b7,0,none⟩))])) 7 (.int .i64 ((left_3.length:Nat):Int))) 8 (.int .i64 ((k_5:Nat):Int)))/\St ⟨w,σ,[]⟩ z σ9 [vec v13 9 1 left_3.length ((left_3).flatMap Qi),vec v14 9 1 out_3.length ((out_3).flatMap Qi),emap b6 (fun y:Bool=>(Value.bool (y))) F_4,blk b7 268 [(.map (some b6))],blk b3 267 [(.map (some b2))],vec v6 9 1 ((cpt r1_).length) ((cpt r1_).flatMap Qi)]/\Sub σ7 σ9) hP ⟨σ7,_,(Zw rfl (Zw rfl (Zw rfl (Zw rfl rfl)))),hS45,(Sub.refl _)⟩ ?_
     clear hP
     rintro k_5 Y7 hP f w21 ⟨σ9,g,rfl,hS46,hsub9⟩
     refine Qt (v4j (r:=(decide (((k_5:Nat):Int)<((left_3.length:Nat):Int)))) rfl rfl rfl (wpList_nil (Qn (wp_seq ?_))))
     refine if_d (((k_5:Nat):Int)<((left_3.length:Nat):Int)) rfl (fun ht5=> ?_) (fun ht5=> ?_)
     ·
      replace hP:=hP.1 ht5
      refine wp_skip (Qn (wp_seq (wp_block (Qt (Zb (v:=(.int .i64 ((k_5:Nat):Int))) rfl (Qu (v:=(.int .i64 ((k_5:Nat):Int))) rfl (wpList_nil (Qn (Qt (Zb (v:=(.func (.func 189) #[] #[(.pointer (some ⟨b3,0,none⟩)),(.pointer (some ⟨b7,0,none⟩))])) rfl (Zb (v:=v13) rfl (Zb (v:=(.int .i64 ((k_5:Nat):Int))) rfl ?_))))))))))))
      obtain⟨x2_,hx2⟩:=getq (l:=left_3) (k:=k_5) (by have:=ht5;omega)
      replace hP:=hP x2_ hx2
      obtain⟨g1,cp1,hv2⟩:=w1u (hS46.get (i:=0) rfl) (Ql hx2)
      refine Rr (k:=k_5) (a':=⟨g1,k_5*1,none⟩) hv2 rfl rfl (Ql hx2) Tryz.underlying44 Tryz.sizeOf9 (by simp[Ud]) (q6v (v:=(.string x2_)) rfl Tryz.isAgg9 (j6f q4p (j:=0) hv2 (hS46.get (i:=0) rfl) hx2 rfl) (v4m (args:=[(.string x2_),(.pointer (some ⟨b3,0,none⟩)),(.pointer (some ⟨b7,0,none⟩))]) rfl rfl Tryz.call189 ?_))
      refine enter Tryz.func189 rfl rfl rfl ?_
      refine Qt (Qu (v:=(.bool false)) rfl (wpList_nil (Qn (Qt (q6v (v:=(.map (some b2))) rfl Tryz.isAgg267 (hS46.cell (i:=4) rfl rfl) (Zb (v:=(.string x2_)) rfl ?_))))))
      obtain⟨v15,hl10,hz1⟩:=RMp.at (z:= .slice none 0 0) (z0:=[]) RSl.nil hr9 x2_
      obtain⟨a3,cap3,rfl⟩:=hz1.shape
      refine y29 (v:=(.slice a3 ((F_2 x2_).getD []).length cap3)) hl10 (View.of (Sub.trans hsub7 hsub9) hS46.view) rfl rfl Tryz.underlying267 Tryz.underlying9 Tryz.zeroValue44 (j1r (la:=[]) (lb:=[(.pointer (some ⟨b7,0,none⟩))]) rfl rfl (q8j (args:=[(.slice a3 ((F_2 x2_).getD []).length cap3),(.func (.func 191) #[] #[(.pointer (some ⟨b7,0,none⟩))])]) rfl Tryz.call190 ?_))
      refine enter Tryz.func190 rfl rfl rfl ?_
      refine Qt (Qu (v:=(.bool false)) rfl (wpList_nil (Qn (Qt (Zb (v:=(.slice a3 ((F_2 x2_).getD []).length cap3)) rfl (Zb (v:=(.func (.func 191) #[] #[(.pointer (some ⟨b7,0,none⟩))])) rfl ?_))))))
      obtain⟨Y8,hK5,hP⟩:=hP
      refine q8j (args:=[(.slice a3 ((F_2 x2_).getD []).length cap3),(.func (.func 191) #[] #[(.pointer (some ⟨b7,0,none⟩))])]) rfl Tryz.call188 (Calls.mono (R:=fun e z=> ∃(r_2:Int) (σ10:Hv),e= .returned (.int .i64 r_2)/\Y8 r_2/\St ⟨w,σ,[]⟩ z σ10 [vec v13 9 1 left_3.length ((left_3).flatMap Qi),vec v14 9 1 out_3.length ((out_3).flatMap Qi),emap b6 (fun y:Bool=>(Value.bool (y))) F_4,blk b7 268 [(.map (some b6))],blk b3 267 [(.map (some b2))],vec v6 9 1 ((cpt r1_).length) ((cpt r1_).flatMap Qi)]/\Sub σ9 σ10) ?_ ?_)
      ·
       refine enter Tryz.func188 rfl rfl rfl ?_
       refine Qt (Qu (v:=(.int .i64 (0:Int))) rfl (wpList_nil (Qn (wp_seq (Qt (Zb (v:=(.slice a3 ((F_2 x2_).getD []).length cap3)) rfl (z0x rfl Tryz.underlying44 ?_)))))))
       have hlen6:=RSl.len63 hz1
       replace hP:=hP hlen6
       refine Zb (v:=(.int .i64 (0:Int))) rfl (wpList_nil (Qn (wp_block ?_)))
       refine w1t (fun k_7 f z=> ∃(σ11:Hv) (g:Fr),f=(upd (upd (upd (upd g 0 (.slice a3 ((F_2 x2_).getD []).length cap3)) 1 (.func (.func 191) #[] #[(.pointer (some ⟨b7,0,none⟩))])) 7 (.int .i64 ((((F_2 x2_).getD []).length:Nat):Int))) 8 (.int .i64 ((k_7:Nat):Int)))/\St ⟨w,σ,[]⟩ z σ11 [vec v13 9 1 left_3.length ((left_3).flatMap Qi),vec v14 9 1 out_3.length ((out_3).flatMap Qi),emap b6 (fun y:Bool=>(Value.bool (y))) F_4,blk b7 268 [(.map (some b6))],blk b3 267 [(.map (some b2))],vec v6 9 1 ((cpt r1_).length) ((cpt r1_).flatMap Qi)]/\Sub σ9 σ11) hP ⟨σ9,_,(Zw rfl (Zw rfl (Zw rfl (Zw rfl rfl)))),hS46,(Sub.refl _)⟩ ?_
       clear hP
       rintro k_7 Y9 hP f w22 ⟨σ11,g,rfl,hS47,hsub11⟩
       refine Qt (v4j (r:=(decide (((k_7:Nat):Int)<((((F_2 x2_).getD []).length:Nat):Int)))) rfl rfl rfl (wpList_nil (Qn (wp_seq ?_))))
       refine if_d (((k_7:Nat):Int)<((((F_2 x2_).getD []).length:Nat):Int)) rfl (fun ht6=> ?_) (fun ht6=> ?_)
       ·
        replace hP:=hP.1 ht6
        refine wp_skip (Qn (wp_seq (wp_block (Qt (Zb (v:=(.int .i64 ((k_7:Nat):Int))) rfl (Qu (v:=(.int .i64 ((k_7:Nat):Int))) rfl (wpList_nil (Qn (Qt (Zb (v:=(.func (.func 191) #[] #[(.pointer (some ⟨b7,0,none⟩))])) rfl (Zb (v:=(.slice a3 ((F_2 x2_).getD []).length cap3)) rfl (Zb (v:=(.int .i64 ((k_7:Nat):Int))) rfl ?_))))))))))))
        obtain⟨x3_,hx3⟩:=getq (l:=((F_2 x2_).getD [])) (k:=k_7) (by have:=ht6;omega)
        replace hP:=hP x3_ hx3
        obtain⟨ad2,cs2,ha2,hl11,hr10,hR2,hlt2⟩:=RSl.at hz1 hx3
        cases hR2
        refine Rr (k:=k_7) (a':=(ad2.add (k_7*1))) (congrArg (fun z=>Value.slice z _ _) ha2) rfl rfl hlt2 Tryz.underlying44 Tryz.sizeOf9 rfl (q6v (v:=(.string x3_)) rfl Tryz.isAgg9 (hr10.cell (View.of (Sub.trans (Sub.trans hsub7 hsub9) hsub11) hS47.view) 0 rfl rfl) (v4m (args:=[(.string x3_),(.pointer (some ⟨b7,0,none⟩))]) rfl rfl Tryz.call191 ?_))
        refine enter Tryz.func191 rfl rfl rfl ?_
        refine Qt (Qu (v:=(.bool false)) rfl (wpList_nil (Qn (Qt (q6v (v:=(.map (some b6))) rfl Tryz.isAgg268 (hS47.cell (i:=3) rfl rfl) (Zb (v:=(.string x3_)) rfl (y27 (v:=(.bool (((F_4 x3_).getD false)))) (i:=2) hS47 rfl rfl rfl Tryz.underlying268 Tryz.underlying9 Tryz.zeroValue4 (v9h (fun y:Bool=>(Value.bool (y))) _ rfl) (v87 (r:=(!((F_4 x3_).getD false))) rfl rfl (Qu (v:=(.bool (!((F_4 x3_).getD false)))) rfl (wpList_nil (Qn (wp_ret (ret1 rfl (show ev _ _ _=(.bool (!((F_4 x3_).getD false))) from rfl) ?_)))))))))))))
        refine⟨_,rfl,?_⟩
        refine wpList_nil (Qn ?_)
        refine y6a rfl (fun ht7=> ?_) (fun ht7=> ?_)
        ·
         replace hP:=hP.2 (by first|(rw[ht7];exact Bool.false_ne_true)|simp[ht7])
         refine Qt (Zb (v:=(.int .i64 ((k_7:Nat):Int))) rfl (Qu (v:=(.int .i64 ((k_7:Nat):Int))) rfl (wpList_nil (Qn (wp_ret (j4l (Bl (Bl (j4l (Bl (ret1 rfl (show ev _ _ _=(.int .i64 ((k_7:Nat):Int)) from rfl) ?_)))))))))))
         exact⟨((k_7:Nat):Int),σ11,rfl,hP,hS47,hsub11⟩
        ·
         replace hP:=hP.1 ht7
         refine wp_skip (v11 (Qn (j1q (v10 (r:=((k_7+1:Nat):Int)) rfl rfl (nw (by omega) (by omega) (by have:=hlen6;omega)) (Zb (v:=(.int .i64 ((k_7+1:Nat):Int))) rfl (wpList_nil (Qn ?_)))))))
         exact⟨k_7+1,_,rfl,hP,σ11,_,(Zw rfl (Zw rfl (Zw rfl (Zw rfl rfl)))),hS47,hsub11⟩
       ·
        replace hP:=hP.2 ht6
        refine wp_exit (z6t (z6t (j6a (Qn (Qt (Qu (v:=(.int .i64 (-1:Int))) rfl (wpList_nil (Qn (wp_ret (ret1 rfl (show ev _ _ _=(.int .i64 (-1:Int)) from rfl) ?_))))))))))
        exact⟨(-1:Int),σ11,rfl,hP,hS47,hsub11⟩
      ·
       rintro _ w23 ⟨r_2,σ10,rfl,hY4,hS48,hsub10⟩
       refine⟨_,rfl,?_⟩
       replace hP:=hK5 r_2 hY4
       refine y57 (r:=(decide ((0:Int)<=r_2))) rfl rfl rfl (Qu (v:=(.bool (decide ((0:Int)<=r_2)))) rfl (wpList_nil (Qn (wp_ret (ret1 rfl (show ev _ _ _=(.bool (decide ((0:Int)<=r_2))) from rfl) ?_)))))
       refine⟨_,rfl,?_⟩
       refine v87 (r:=(!decide ((0:Int)<=r_2))) rfl rfl (Qu (v:=(.bool (!decide ((0:Int)<=r_2)))) rfl (wpList_nil (Qn (wp_ret (ret1 rfl (show ev _ _ _=(.bool (!decide ((0:Int)<=r_2))) from rfl) ?_)))))
       refine⟨_,rfl,?_⟩
       refine wpList_nil (Qn ?_)
       refine y59 ((0:Int)<=r_2) rfl (fun ht8=> ?_) (fun ht8=> ?_)
       ·
        replace hP:=hP.2 ht8
        refine Qt (Zb (v:=(.int .i64 ((k_5:Nat):Int))) rfl (Qu (v:=(.int .i64 ((k_5:Nat):Int))) rfl (wpList_nil (Qn (wp_ret (j4l (Bl (Bl (j4l (Bl (ret1 rfl (show ev _ _ _=(.int .i64 ((k_5:Nat):Int)) from rfl) ?_)))))))))))
        exact⟨((k_5:Nat):Int),σ10,rfl,hP,hS48,(Sub.trans hsub9 hsub10)⟩
       ·
        replace hP:=hP.1 ht8
        refine wp_skip (v11 (Qn (j1q (v10 (r:=((k_5+1:Nat):Int)) rfl rfl (nw (by omega) (by omega) (by have:=hlen4;omega)) (Zb (v:=(.int .i64 ((k_5+1:Nat):Int))) rfl (wpList_nil (Qn ?_)))))))
        exact⟨k_5+1,_,rfl,hP,σ10,_,(Zw rfl (Zw rfl (Zw rfl (Zw rfl rfl)))),hS48,(Sub.trans hsub9 hsub10)⟩
     ·
      replace hP:=hP.2 ht5
      refine wp_exit (z6t (z6t (j6a (Qn (Qt (Qu (v:=(.int .i64 (-1:Int))) rfl (wpList_nil (Qn (wp_ret (ret1 rfl (show ev _ _ _=(.int .i64 (-1:Int)) from rfl) ?_))))))))))
      exact⟨(-1:Int),σ9,rfl,hP,hS46,hsub9⟩
    ·
     rintro _ w24 ⟨r_1,σ8,rfl,hY5,hS49,hsub8⟩
     refine⟨_,rfl,?_⟩
     replace hP:=hK4 r_1 hY5
     refine Qu (v:=(.int .i64 r_1)) rfl (wpList_nil (Qn (wp_seq (Qt (Zb (v:=(.int .i64 r_1)) rfl (v4j (r:=(decide (r_1<(0:Int)))) rfl rfl rfl (wpList_nil (Qn ?_))))))))
     refine if_d (r_1<(0:Int)) rfl (fun ht9=> ?_) (fun ht9=> ?_)
     ·
      replace hP:=hP.1 ht9
      refine Qt (Qu (v:=(.slice none 0 0)) rfl (Qu (v:=(.int .i64 (12:Int))) rfl (wpList_nil (Qn (wp_ret (Bl (j4l (Bl (j4l (Bl (ret2 rfl (show ev _ _ _=(.slice none 0 0) from rfl) (show ev _ _ _=(.int .i64 (12:Int)) from rfl) ?_)))))))))))
      have hS50:=hS49.addNil 9 1
      exact⟨[],(12:Int),(.slice none 0 0),rfl,(St.back (hS50.keep 1 (ms':=[vec (.slice none 0 0) 9 1 0 []]) rfl) (Sub.refl _)),(by simp[Sml]),hP⟩
     ·
      replace hP:=hP.2 ht9
      refine wp_skip (Qn (Qt (Zb (v:=v14) rfl (Zb (v:=v13) rfl (Zb (v:=(.int .i64 r_1)) rfl ?_)))))
      obtain⟨j1_,hj1,hP⟩:=hP
      obtain⟨x4_,hx4,hP⟩:=hP
      obtain⟨g2,cp2,hv3⟩:=w1u (hS49.get (i:=0) rfl) (Ql hx4)
      refine Rr (k:=j1_) (a':=⟨g2,j1_*1,none⟩) hv3 rfl hj1 (Ql hx4) Tryz.underlying44 Tryz.sizeOf9 (by simp[Ud]) (q6v (v:=(.string x4_)) rfl Tryz.isAgg9 (j6f q4p (j:=0) hv3 (hS49.get (i:=0) rfl) hx4 rfl) (j5h (cs:=[(.string x4_)]) (e:=9) hS49 (fun _=>by kernel_rfl) ?_))
      intro b8 w25 hS51
      obtain⟨hsm4,hP⟩:=hP
      refine y28 (Ms:=fun v16=>[blk b8 9 [(.string x4_)],vec v13 9 1 left_3.length ((left_3).flatMap Qi),vec v16 9 1 ((out_3++[x4_]).length) ((out_3++[x4_]).flatMap Qi),emap b6 (fun y:Bool=>(Value.bool (y))) F_4,blk b7 268 [(.map (some b6))],blk b3 267 [(.map (some b2))],vec v6 9 1 ((cpt r1_).length) ((cpt r1_).flatMap Qi)]) (k':=(out_3++[x4_]).length) (xs':=(out_3++[x4_]).flatMap Qi) Tryz.underlying44 Tryz.type9 rfl rfl (bytes:=16) rfl rfl (Nat.succ_pos _) hS51 rfl (q:=2) rfl rfl rfl (q9d (hS51.get (i:=0) rfl)) (ones rfl) hsm4 (by omega) (by first|rfl|exact List.length_append.symm|simp) (by simp[Qi]) (fun _=>rfl) ?_
      intro v16 w26 ho12 hS52
      have hS53:=hS52.drop 0 (ms':=[vec v13 9 1 left_3.length ((left_3).flatMap Qi),vec v16 9 1 ((out_3++[x4_]).length) ((out_3++[x4_]).flatMap Qi),emap b6 (fun y:Bool=>(Value.bool (y))) F_4,blk b7 268 [(.map (some b6))],blk b3 267 [(.map (some b2))],vec v6 9 1 ((cpt r1_).length) ((cpt r1_).flatMap Qi)]) rfl
      refine Qu (v:=v16) rfl (wpList_nil (Qn (wp_seq (dr (fun z=>St ⟨w,σ,[]⟩ z σ8 [vec v13 9 1 left_3.length ((left_3).flatMap Qi),vec v16 9 1 ((out_3++[x4_]).length) ((out_3++[x4_]).flatMap Qi),blk b7 268 [(.map (some b6))],blk b3 267 [(.map (some b2))],vec v6 9 1 ((cpt r1_).length) ((cpt r1_).flatMap Qi)]) (by kernel_rfl) rfl ?_))))
      have hS54:=hS53.drew
      refine dt 0 1 (v:=(.map (some b6))) (by kernel_rfl) rfl rfl (fun _ _ _ h=>h) (hS54.sublist (.cons_cons _ (.cons_cons _ (.cons _ (List.Sublist.refl _))))) (fun _ hJ _ hK=>q6v (v:=(.map (some b6))) rfl Tryz.isAgg268 (hJ.cell (i:=2) rfl rfl) ⟨rfl,hK⟩) (dt 1 3 (v:=v13) (by kernel_rfl) rfl rfl (fun _ _ _ h=>h) (hS54.sublist (.cons_cons _ (.cons_cons _ (.cons _ (List.Sublist.refl _))))) (fun _ _ _ hK=>Zb (v:=v13) rfl ⟨rfl,hK⟩) (dt 2 7 (v:=(.int .i64 r_1)) (by kernel_rfl) rfl rfl (fun _ _ _ h=>h) (hS54.sublist (.cons_cons _ (.cons_cons _ (.cons _ (List.Sublist.refl _))))) (fun _ _ _ hK=>Zb (v:=(.int .i64 r_1)) rfl ⟨rfl,hK⟩) ?_))
      obtain⟨j2_,hj2,hP⟩:=hP
      obtain⟨x5_,hx5,hP⟩:=hP
      obtain⟨g3,cp3,hv4⟩:=w1u (hS54.get (i:=0) rfl) (Ql hx5)
      refine dt 3 15 (v:=(.pointer (some ⟨g3,j2_*1,none⟩))) (by kernel_rfl) rfl rfl (fun _ _ _ h=>h) (hS54.sublist (.cons_cons _ (.cons_cons _ (.cons _ (List.Sublist.refl _))))) (fun _ _ _ hK=>Rr (k:=j2_) (a':=⟨g3,j2_*1,none⟩) hv4 rfl hj2 (Ql hx5) Tryz.underlying44 Tryz.sizeOf9 (by simp[Ud]) ⟨rfl,hK⟩) (dt 4 31 (v:=(.string x5_)) (by kernel_rfl) rfl rfl (fun _ _ _ h=>h) (hS54.sublist (.cons_cons _ (.cons_cons _ (.cons _ (List.Sublist.refl _))))) (fun _ hJ _ hK=>q6v (v:=(.string x5_)) rfl Tryz.isAgg9 (j6f q4p (j:=0) hv4 (hJ.get (i:=0) rfl) hx5 rfl) ⟨rfl,hK⟩) (d1 5 63 (by kernel_rfl) rfl (y6g (y0:=true) (i:=2) (ms':=[vec v13 9 1 left_3.length ((left_3).flatMap Qi),vec v16 9 1 ((out_3++[x4_]).length) ((out_3++[x4_]).flatMap Qi),emap b6 (fun y:Bool=>(Value.bool (y))) (put F_4 x5_ true),blk b7 268 [(.map (some b6))],blk b3 267 [(.map (some b2))],vec v6 9 1 ((cpt r1_).length) ((cpt r1_).flatMap Qi)]) hS54 rfl rfl rfl rfl Tryz.underlying268 Tryz.underlying9 rfl ?_)))
      intro w27 hS55
      refine wpList_nil ?_
      refine⟨rfl,(hS55.sublist (.cons_cons _ (.cons_cons _ (.cons _ (List.Sublist.refl _))))),j5i (J':=fun z=>St ⟨w,σ,[]⟩ z σ8 [vec v13 9 1 left_3.length ((left_3).flatMap Qi),vec v16 9 1 ((out_3++[x4_]).length) ((out_3++[x4_]).flatMap Qi),emap b6 (fun y:Bool=>(Value.bool (y))) (put F_4 x5_ true),blk b7 268 [(.map (some b6))],blk b3 267 [(.map (some b2))],vec v6 9 1 ((cpt r1_).length) ((cpt r1_).flatMap Qi)]) (fun w h=>h.sublist (.cons_cons _ (.cons_cons _ (.cons _ (List.Sublist.refl _))))) _ _ _ _ ?_⟩
      refine dz (by kernel_rfl) (Qn (j1q (Zb (v:=v13) rfl (Zb (v:=(.int .i64 r_1)) rfl (Zb (v:=(.int .i64 r_1)) rfl ?_)))))
      obtain⟨hi1,hP⟩:=hP
      refine v10 (r:=(r_1+(1:Int))) rfl rfl (nwi rfl hi1) ?_
      obtain⟨j3_,hj3,hP⟩:=hP
      obtain⟨hd1,hP⟩:=hP
      obtain⟨hd2,hP⟩:=hP
      obtain⟨hsm5,hP⟩:=hP
      have hd3:r_1=((j3_:Nat):Int)/\(r_1+(1:Int))=((j3_+1:Nat):Int):=⟨by omega,by omega⟩
      refine q8j (args:=[v13,(.int .i64 ((j3_:Nat):Int)),(.int .i64 ((j3_+1:Nat):Int))]) (by rw[←hd3.1,←hd3.2];rfl) Tryz.call192 (Calls.mono (v2a (i:=j3_) (j:=(j3_+1)) Tryz.slices_Delete_string hS55.view (hS55.get (i:=0) rfl) (fun b hb=>hS55.off _ (List.mem_of_getElem? (i:=0) rfl) b hb) (by omega) hd2 hd1) ?_)
      rintro _ w28 ⟨v17,rfl,hf2,hg7,ho13⟩
      refine⟨_,rfl,?_⟩
      have ho14:=q1e ho13
      have hS56:=hS55.growV (i:=0) (o':=vec v17 9 1 ((left_3.take j3_++left_3.drop (j3_+1)).length) ((left_3.take j3_++left_3.drop (j3_+1)).flatMap Qi)) rfl hg7 hf2 ho13 (ms':=[vec v17 9 1 ((left_3.take j3_++left_3.drop (j3_+1)).length) ((left_3.take j3_++left_3.drop (j3_+1)).flatMap Qi),vec v16 9 1 ((out_3++[x4_]).length) ((out_3++[x4_]).flatMap Qi),emap b6 (fun y:Bool=>(Value.bool (y))) (put F_4 x5_ true),blk b7 268 [(.map (some b6))],blk b3 267 [(.map (some b2))],vec v6 9 1 ((cpt r1_).length) ((cpt r1_).flatMap Qi)]) rfl
      refine Qu (v:=v17) rfl (wpList_nil (v11 (Qn ?_)))
      exact⟨left_3.take j3_++left_3.drop (j3_+1),out_3++[x4_],put F_4 x5_ true,_,rfl,hP,v17,v16,σ8,_,(Zw rfl (Zw rfl (Zw rfl (Zw rfl rfl)))),hS56,(Sub.trans hsub7 hsub8),ho14,hsm5,ho12,hsm4⟩
   ·
    replace hP:=hP.2 ht4
    refine wp_exit (z6t (z6t (j6a (Qn (Qt (Zb (v:=v14) rfl (Qu (v:=v14) rfl (Qu (v:=(.int .i64 (0:Int))) rfl (wpList_nil (Qn (wp_ret (ret2 rfl (show ev _ _ _=v14 from rfl) (show ev _ _ _=(.int .i64 (0:Int)) from rfl) ?_))))))))))))
    have hS57:=hS45.front 1 rfl (ms':=[vec v14 9 1 out_3.length ((out_3).flatMap Qi),vec v13 9 1 left_3.length ((left_3).flatMap Qi),emap b6 (fun y:Bool=>(Value.bool (y))) F_4,blk b7 268 [(.map (some b6))],blk b3 267 [(.map (some b2))],vec v6 9 1 ((cpt r1_).length) ((cpt r1_).flatMap Qi)]) rfl
    exact⟨out_3,(0:Int),v14,rfl,(St.back (hS57.keep 1 (ms':=[vec v14 9 1 out_3.length ((out_3).flatMap Qi)]) rfl) (Sub.refl _)),hl9,hP⟩
end Go.Proofs.YtfiomedjdipbgaaGreatDoor
end
noncomputable section
set_option maxRecDepth 100000
open Go Go.RowKit Go.Fl Go.Fl.Lk Go.Fx
namespace Go.En
theorem w2t{σ:Hv}{w:World}{g:Nat}{T:C}{n:Nat}{l:List (car T)}(hV:View σ w)(hs:SRep D (fun _=>none) σ (.pointer (some ⟨g,0,none⟩)) (.fap T n l)){i j:Nat}{x:car T}{s:FV Sg}(hx:l[i]? =some x)(hj:(D.shape T x)[j]? =some s)(hz:j<D.size T):
  ∃v,w.cell? ⟨g,i*D.size T+j,none⟩=some v/\RepF D σ v s:=by
 generalize hq:Value.pointer (some (⟨g,0,none⟩:Addr))=q at hs
 cases hs with
 |fap ad cs T' N l' hN h hl hr=>
  cases hq
  have hrow:=hr i x hx
  have hlen:=okP.ok.len T x
  have hjl:j<((cs.drop (i*D.size T)).take (D.size T)).length:=by rw[hrow.1,hlen];exact hz
  obtain⟨v,hv⟩: ∃v,((cs.drop (i*D.size T)).take (D.size T))[j]? =some v:=⟨_,List.getElem?_eq_getElem hjl⟩
  refine⟨v,?_,hrow.2 j v s hv hj⟩
  rw[List.getElem?_take,if_pos hz,List.getElem?_drop] at hv
  have:=hV.cell (h _ v hv)
  rw[Ud,Nat.zero_add] at this
  exact this
theorem y0k: ∀c,c<256->v09[c]? =some ((Go.Lib.firstT c:Nat):Int):=by decide
theorem y68: ∀i,i<16->(j61[i]?).map (fun a=>(a.lo,a.hi))=some (((Go.Lib.accLo i:Nat):Int),((Go.Lib.accHi i:Nat):Int)):=by decide
theorem tabs{σ:Hv}{w:World}(hV:View σ w)(hG:Glb D σ):Go.Lib.Utf8Tabs (Proofs.Tryz.lays196_ren.g 3) (Proofs.Tryz.lays196_ren.g 4) w:=by
 refine⟨fun c hc=> ?_,fun i hi=> ?_⟩
 ·have h:=hG.known (Proofs.Tryz.lays196_ren.g 3)
  obtain⟨v,h1,h2⟩:=w2t (T:= .u8) (n:=256) (l:=v09) hV h (i:=c) (j:=0) (s:= .int .u8 ((Go.Lib.firstT c:Nat):Int)) (y0k c hc) rfl (by decide)
  cases h2
  simpa [show D.size C.u8=1 from rfl] using h1
 ·have h:=hG.known (Proofs.Tryz.lays196_ren.g 4)
  have ha:=y68 i hi
  obtain⟨a,e1,e2⟩:=Option.map_eq_some_iff.1 ha
  obtain⟨v,h1,h2⟩:=w2t (T:= .acc) (n:=16) (l:=j61) hV h (i:=i) (j:=0) (s:= .int .u8 a.lo) e1 rfl (by decide)
  obtain⟨v',h1',h2'⟩:=w2t (T:= .acc) (n:=16) (l:=j61) hV h (i:=i) (j:=1) (s:= .int .u8 a.hi) e1 rfl (by decide)
  cases h2;cases h2'
  simp only[Prod.mk.injEq] at e2
  rw[e2.1] at h1;rw[e2.2] at h1'
  refine⟨by rw[Nat.mul_comm];simpa [show D.size C.acc=2 from rfl] using h1,by rw[Nat.mul_comm];simpa [show D.size C.acc=2 from rfl] using h1'⟩
theorem w8p{w w':World}(h:Below w.heap.size w w'):Keeps [] w w':=⟨h.os,h.tape,h.output,h.size,fun k hk _=>h.block k hk⟩
theorem z0q{σ:Hv}{w w1:World}{args:List (Tr Sg)}{vals:List Value}{K:List (Tr Sg)->List (Tr Sg)->Prop}{rets outs:List (Tr Sg)}{rv:List Value}(hS:St ⟨w,σ,feet []⟩ w σ [])(hK:K rets outs)(hb:Below w.heap.size w w1)(hL:LayL D σ rets rv [])(hT:LayT D σ args outs vals [] []):
  Back D σ w args vals [] K (.returned (retV rv)) w1:=by
 have hk:=w8p hb
 refine⟨rets,outs,rv,σ,[],[],rfl,hK,hL,hT,?_⟩
 refine⟨hk,fun b o hbo=> ?_,Sub.refl _,fun _ _ _=>rfl,by simp,by simp,by simp,by simp⟩
 have h1:=hS.view b o hbo
 have hlt:b<w.heap.size:=by
  rcases Nat.lt_or_ge b w.heap.size with h|h
  ·exact h
  ·rw[Array.getElem?_eq_none h] at h1;cases h1
 rw[hk.block b hlt (by simp)];exact h1
theorem z93:z02 Proofs.Tryz.prog D 246 (conV ([.v]:LP) ([.str]:LV) ([.bool]:LV) ([.same]:LV) (fun a K=>Jp a.1 (fun q0=>K (q0,()) ((),())))):=by
 intro args K hm w σ vals ins hG hL hS
 obtain⟨a,ha,hm⟩:=Qj hm
 have hargs:=Vl ha
 subst hargs
 obtain⟨s,_⟩:=a
 cases hL with
 |cons hp hr=>
 cases hr
 cases hp with
 |f hf=>
 cases hf
 have hm:s.size<=9223372036854775807/\K [.f (.bool (Go.Lib.validD s.data.toList))] [.same]:=hm
 refine Calls.mono (Go.Proofs.Any.utf8_ValidString Proofs.Tryz.lays196 s w hm.1 (tabs hS.view hG)) ?_
 rintro e w' ⟨rfl,hb⟩
 exact z0q (rv:=[.bool (Go.Lib.validD s.data.toList)]) hS hm.2 hb (.cons (ms:=[]) (.f (.bool _)) .nil) (.skip (a0:=[]) .nil)
theorem z94:z02 Proofs.Tryz.prog D 136 (conV ([.v,.v]:LP) ([.str,.str]:LV) ([.bool]:LV) ([.same,.same]:LV) (fun a K=>Hh a.1 a.2.1 (fun q0=>K (q0,()) ((),(),())))):=by
 intro args K hm w σ vals ins hG hL hS
 obtain⟨a,ha,hm⟩:=Qj hm
 have hargs:=Vl ha
 subst hargs
 obtain⟨s,t,_⟩:=a
 cases hL with
 |cons hp hr=>
 cases hr with
 |cons hq hr=>
 cases hr
 cases hp with
 |f hf=>
 cases hf
 cases hq with
 |f hf=>
 cases hf
 have hm:s.size<4294967281/\K [.f (.bool (Go.Lib.contains s.data.toList t.data.toList))] [.same,.same]:=hm
 obtain⟨n,hn⟩:=hG.free 3 .i64 rfl
 refine Calls.mono (Proofs.Tryz.strings_Contains s t n w hm.1 (hS.view.cell hn)) ?_
 rintro e w' ⟨rfl,rfl⟩
 exact z0q (rv:=[.bool (Go.Lib.contains s.data.toList t.data.toList)]) hS hm.2 (Below.refl _ _) (.cons (ms:=[]) (.f (.bool _)) .nil) (.skip (a0:=[]) (.skip (a0:=[]) .nil))
theorem j9o:z02 Proofs.Tryz.prog D 270 (conV ([.v]:LP) ([.str]:LV) ([.int .i64,.ifc]:LV) ([.same]:LV) (fun a K=>Bz a.1 (fun q0 q1=>K (q0,q1,()) ((),())))):=by
 intro args K hm w σ vals ins hG hL hS
 obtain⟨a,ha,hm⟩:=Qj hm
 have hargs:=Vl ha
 subst hargs
 obtain⟨s,_⟩:=a
 cases hL with
 |cons hp hr=>
 cases hr
 cases hp with
 |f hf=>
 cases hf
 have hm:s.size<=281474976710656/\y0j s (fun n b=>K [.f (.int .i64 n),.f (.ifc b)] [.same]):=hm
 obtain⟨hsz,hm⟩:=hm
 have err: ∀g:Nat,D.glob g= .fptr [.ifc false] 0-> ∃ev,w.cell? ⟨g,0,none⟩=some ev/\(ev= .nilIface∨ ∃te pe,ev= .iface te pe):=by
  intro g hg
  have h:=hG.known g
  rw[hg] at h
  generalize hq:Value.pointer (some (⟨g,0,none⟩:Addr))=q at h
  cases h with
  |fptr ad cs l off hv hr=>
  cases hq
  obtain⟨v,hvl⟩: ∃v,cs=[v]:=List.length_eq_one_iff.1 hr.1
  subst hvl
  have hc:=hS.view.cell (hv 0 v rfl)
  have hR:=hr.2 0 v _ rfl rfl
  refine⟨v,?_,?_⟩
  ·rw[Ud] at hc;exact hc
  ·cases hR with
   |ifcS t p=>exact .inr ⟨t,p,rfl⟩
 unfold y0j at hm
 split at hm
 ·rename_i v hv
  refine Calls.mono (Proofs.Tryz.strconv_Atoi_ok s (by omega) v hv w) ?_
  rintro e w' ⟨rfl,hw⟩
  have hb:Below w.heap.size w w':=by
   rcases hw with rfl|⟨t,rfl⟩
   ·exact Below.refl _ _
   ·exact Go.Lib.bytesWorld_below _ _ _
  exact z0q (rv:=[.int .i64 v,.nilIface]) hS hm hb (.cons (ms:=[]) (.f (.int _ _)) (.cons (ms:=[]) (.f .ifcN) .nil)) (.skip (a0:=[]) .nil)
 ·rename_i hv
  obtain⟨ev,h1,h2⟩:=err 7 rfl
  refine Calls.mono (Proofs.Tryz.strconv_Atoi_range s hsz hv ev w h1 h2) ?_
  rintro e w' ⟨N,rfl,_,_,hb⟩
  exact z0q (rv:=[.int .i64 _,.iface _ _]) hS hm hb (.cons (ms:=[]) (.f (.int _ _)) (.cons (ms:=[]) (.f (.ifcS _ _)) .nil)) (.skip (a0:=[]) .nil)
 ·rename_i hv
  obtain⟨ev,h1,h2⟩:=err 6 rfl
  refine Calls.mono (Proofs.Tryz.strconv_Atoi_syntax s hsz hv ev w h1 h2) ?_
  rintro e w' ⟨N,rfl,_,_,hb⟩
  exact z0q (rv:=[.int .i64 _,.iface _ _]) hS hm hb (.cons (ms:=[]) (.f (.int _ _)) (.cons (ms:=[]) (.f (.ifcS _ _)) .nil)) (.skip (a0:=[]) .nil)
theorem j5v(l:List ByteArray):l.flatMap Qi=l.map Value.string:=by
 induction l with
 |nil=>rfl
 |cons a l ih=>rw[List.flatMap_cons,List.map_cons,ih];rfl
theorem y69(l:List ByteArray):(cpt l).length<=l.length:=by
 unfold cpt Go.Lib.compact
 rw[List.length_map]
 have h: ∀(d:Array (List UInt8)) (m:Nat),(Go.Lib.compactUpTo d m).length<=m:=by
  intro d m
  unfold Go.Lib.compactUpTo
  rw[List.length_map]
  exact Nat.le_trans (List.length_filter_le _ _) (by simp)
 simpa using h _ _
theorem v6o{σ:Hv}{xs:List Value}{l:List ByteArray}(h:Els D σ C.str xs l):xs=l.flatMap Qi:=by
 have h1:xs.length=l.length:=by rw[h.1];exact Nat.mul_one _
 rw[j5v]
 refine List.ext_getElem? fun i=> ?_
 rw[List.getElem?_map]
 rcases Nat.lt_or_ge i l.length with hi|hi
 ·obtain⟨v,hv⟩: ∃v,xs[i]? =some v:=⟨_,List.getElem?_eq_getElem (by omega)⟩
  obtain⟨x,hx⟩: ∃x,l[i]? =some x:=⟨_,List.getElem?_eq_getElem hi⟩
  have hR:=(h.2 i x hx).2 0 v (.str x) (by rw[show D.size C.str=1 from rfl,Nat.mul_one,List.getElem?_take,if_pos (by decide),List.getElem?_drop];exact hv) rfl
  rw[hv,hx]
  cases hR
  rfl
 ·rw[List.getElem?_eq_none (by omega),List.getElem?_eq_none hi];rfl
theorem w2u(σ:Hv)(l:List ByteArray):Els D σ C.str (l.flatMap Qi) l:=by
 rw[j5v]
 refine⟨by rw[List.length_map];exact (Nat.mul_one _).symm,fun i x hx=> ?_⟩
 rw[show D.size C.str=1 from rfl,Nat.mul_one]
 have hx:l[i]? =some x:=hx
 have e:((l.map Value.string).drop i).take 1=[.string x]:=by
  rw[←List.map_drop,List.drop_eq_getElem_cons (List.getElem?_eq_some_iff.1 hx).1,(List.getElem?_eq_some_iff.1 hx).2];rfl
 rw[e]
 refine⟨rfl,fun j v s hj hs=> ?_⟩
 cases j with
 |zero=>cases hj;cases hs;exact .str x
 |succ j=>cases hj
theorem q55:z02 Proofs.Tryz.prog D 80 (conV ([.own 9 C.str]:LP) ([.vec 9 C.str]:LV) ([]:LV) ([.vec 9 C.str]:LV) (fun a K=>Zd a.1 (fun q0=>K () (q0,())))):=by
 intro args K hm w σ vals ins hG hL hS
 obtain⟨a,ha,hm⟩:=Qj hm
 have hargs:=Vl ha
 subst hargs
 obtain⟨s,_⟩:=a
 cases hL with
 |cons hp hr=>
 cases hr
 cases hp with
 |vec hE hl h1=>
 have hx:=v6o hE
 subst hx
 have hm:K [] [.vec 9 C.str (srt s)]:=hm
 refine Calls.mono (v0j Proofs.Tryz.slices_Sort_string Proofs.Tryz.slices_Sort_string_none hS.view (hS.get (i:=0) rfl) rfl (fun b hb=>hS.off _ (List.mem_of_getElem? (i:=0) rfl) b hb) (by omega)) ?_
 rintro _ w1 ⟨rfl,hg,ho⟩
 have hS1:=hS.growV (i:=0) (o':=vec _ 9 1 s.length ((srt s).flatMap Qi)) rfl hg rfl ho (ms':=[vec _ 9 1 s.length ((srt s).flatMap Qi)]) rfl
 refine⟨[],_,[],σ,[],[vec _ 9 1 (srt s).length ((srt s).flatMap Qi)],rfl,hm,.nil,.keep (.vec (w2u σ _) (Nat.le_trans (Nat.le_of_eq (Jx _)) hl) h1) .nil,?_⟩
 have e:(srt s).length=s.length:=Jx _
 rw[e];exact hS1
theorem q3p:z02 Proofs.Tryz.prog D 184 (conV ([.own 9 C.str]:LP) ([.vec 9 C.str]:LV) ([.vec 9 C.str]:LV) ([.same]:LV) (fun a K=>Z3 a.1 (fun q0=>K (q0,()) ((),())))):=by
 intro args K hm w σ vals ins hG hL hS
 obtain⟨a,ha,hm⟩:=Qj hm
 have hargs:=Vl ha
 subst hargs
 obtain⟨s,_⟩:=a
 cases hL with
 |cons hp hr=>
 cases hr
 cases hp with
 |vec hE hl h1=>
 have hx:=v6o hE
 subst hx
 have hm:K [.vec 9 C.str (cpt s)] [.same]:=hm
 refine Calls.mono (j6e Proofs.Tryz.slices_Compact_string Proofs.Tryz.slices_Compact_string_empty hS.view (hS.get (i:=0) rfl) rfl (fun b hb=>hS.off _ (List.mem_of_getElem? (i:=0) rfl) b hb) (by omega)) ?_
 rintro _ w1 ⟨v1,rfl,hf,hg,ho⟩
 have hlc:(cpt s).length<=140737488355328:=Nat.le_trans (y69 _) hl
 have hS1:=hS.growV (i:=0) (o':=vec v1 9 1 (cpt s).length ((cpt s).flatMap Qi)) rfl hg hf ho (ms':=[vec v1 9 1 (cpt s).length ((cpt s).flatMap Qi)]) rfl
 exact⟨[.vec 9 C.str (cpt s)],[.same],[v1],σ,[vec v1 9 1 (cpt s).length ((cpt s).flatMap Qi)],[],rfl,hm,.cons (.vec (w2u σ _) hlc (q1e ho)) .nil,.skip .nil,hS1⟩
theorem y4o{σ:Hv}{v:Value}{l:List ByteArray}(h:RepF D σ v (.sl C.str l)):RSl 1 (REnc Qi) σ v l:=by
 obtain⟨a,cap,e1,e2,e3,e4⟩:=h.toRSl okP.ok
 refine⟨a,cap,e1,e2,e3,fun i x hx=> ?_⟩
 obtain⟨ad,cs,f1,f2,f3,f4⟩:=e4 i x hx
 refine⟨ad,cs,f1,f2,f3,?_⟩
 obtain⟨u,rfl⟩: ∃u,cs=[u]:=List.length_eq_one_iff.1 f2
 have g1:=f4.2 0 u (.str x) rfl rfl
 cases g1
 rfl
theorem y0l{σ:Hv}{v:Value}{l:List Edg}(h:RepF D σ v (.sl C.edge l)):RSl 2 (REnc y6i) σ v (l.map fun e=>(e.1,e.2)):=by
 obtain⟨a,cap,e1,e2,e3,e4⟩:=h.toRSl okP.ok
 have hl:(l.map fun e=>(e.1,e.2)).length=l.length:=List.length_map ..
 refine⟨a,cap,by rw[hl];exact e1,by rw[hl];exact e2,by rw[hl];exact e3,fun i x hx=> ?_⟩
 rw[List.getElem?_map] at hx
 obtain⟨y,hy,rfl⟩:=Option.map_eq_some_iff.1 hx
 obtain⟨ad,cs,f1,f2,f3,f4⟩:=e4 i y hy
 refine⟨ad,cs,f1,f2,f3,?_⟩
 obtain⟨u,v,rfl⟩: ∃u v,cs=[u,v]:=by
  match cs,f2 with
  |[u,v],_=>exact⟨u,v,rfl⟩
 have g1:=f4.2 0 u (.str y.src) rfl rfl
 have g2:=f4.2 1 v (.str y.dst) rfl rfl
 cases g1;cases g2
 rfl
theorem w2v:z02 Proofs.Tryz.prog D 139 (conV ([.sl C.str,.sl C.edge]:LP) ([.sl C.str,.sl C.edge]:LV) ([.vec 9 C.str,.int .i64]:LV) ([.same,.same]:LV) (fun a K=>P_graph_Order a.1 a.2.1 (fun q0 q1=>K (q0,q1,()) ((),(),())))):=by
 intro args K hm w σ vals ins hG hL hS
 obtain⟨a,ha,hm⟩:=Qj hm
 have hargs:=Vl ha
 subst hargs
 obtain⟨s,t,_⟩:=a
 cases hL with
 | @cons _ _ v1 _ _ _ hp hr=>
 cases hr with
 | @cons _ _ v2 _ _ _ hq hr=>
 cases hr
 cases hp with
 |f hf1=>
 cases hq with
 |f hf2=>
 have hm:Go.Fl.P_graph_Order s (t.map fun e=>(e.1,e.2)) (fun l n=>K [.vec 9 C.str l,.f (.int .i64 n)] [.same,.same]):=hm
 refine Calls.mono (Go.Proofs.YtfiomedjdipbgaaGreatDoor.w_graph_Order s (t.map fun e=>(e.1,e.2)) v1 v2 hS.view (y4o hf1) (y0l hf2) hm) ?_
 rintro e w1 ⟨l,n,v,rfl,hS1,hsm,hK⟩
 have hl:l.length<=140737488355328:=by unfold Sml at hsm;omega
 exact⟨[.vec 9 C.str l,.f (.int .i64 n)],[.same,.same],[v,.int .i64 n],σ,[vec v 9 1 l.length (l.flatMap Qi)],[],rfl,hK,.cons (.vec (w2u σ _) hl (q1e (hS1.get (i:=0) rfl))) (.cons (ms:=[]) (.f (.int _ _)) .nil),.skip (a0:=[]) (.skip (a0:=[]) .nil),hS1⟩
theorem j7f:z02 Proofs.Tryz.prog D 231 (conV ([.v,.v]:LP) ([.str,.str]:LV) ([.vec 9 C.str]:LV) ([.same,.same]:LV) (fun a K=>q17 a.1 a.2.1 (fun q0=>K (q0,()) ((),(),())))):=by
 intro args K hm w σ vals ins hG hL hS
 obtain⟨a,ha,hm⟩:=Qj hm
 have hargs:=Vl ha
 subst hargs
 obtain⟨s,t,_⟩:=a
 cases hL with
 |cons hp hr=>
 cases hr with
 |cons hq hr=>
 cases hr
 cases hp with
 |f hf=>
 cases hf
 cases hq with
 |f hf=>
 cases hf
 have hm:t.size=1/\s.size<4294967281/\K [.vec 9 C.str (q01 s t)] [.same,.same]:=hm
 obtain⟨h1,hsz,hm⟩:=hm
 obtain⟨n,hn⟩:=hG.free 3 .i64 rfl
 have hlen:(q01 s t).length=Go.Lib.countB s t+1:=Go.Lib.splitB_all t (by omega) 0 _ s rfl
 have hcnt:=Go.Lib.countB_le t (by omega) s.size s (Nat.le_refl _)
 refine Calls.mono (Proofs.Tryz.strings_Split s t n w hsz (hS.view.cell hn) (by omega)) ?_
 rintro e w' ⟨rfl,rfl⟩
 have ho:(vec (.slice (some ⟨w.heap.size,0,none⟩) (q01 s t).length (q01 s t).length) 9 1 (q01 s t).length ((q01 s t).flatMap Qi)).ok (w.alloc (.cells ((q01 s t).map Value.string).toArray 9)):=by
  refine⟨by rw[j5v];simp,.inr ⟨w.heap.size,_,_,rfl,Nat.zero_le _,heap_alloc_new _ _,Nat.le_refl _,by unfold maxLen;omega,by simp,?_⟩⟩
  rw[j5v,Nat.mul_one]
  exact List.take_of_length_le (by rw[List.length_map];exact Nat.le_refl _)
 have hS1:=hS.add (W5 w _) ho (by rintro k ⟨⟩;exact Nat.le_refl _)
 have hl:(q01 s t).length<=140737488355328:=by omega
 have hr:=(⟨[.vec 9 C.str (q01 s t)],[.same,.same],[_],σ,[_],[],rfl,hm,.cons (.vec (w2u σ _) hl (q1e ho)) .nil,.skip (a0:=[]) (.skip (a0:=[]) .nil),hS1⟩:Back D σ w [.f (.str s),.f (.str t)] [.string s,.string t] [] K (.returned (retV [.slice (some ⟨w.heap.size,0,none⟩) (q01 s t).length (q01 s t).length])) (w.alloc (.cells ((q01 s t).map Value.string).toArray 9)))
 rw[hlen] at hr
 exact hr
end Go.En
end
noncomputable section
set_option maxRecDepth 100000
open Go Go.RowKit Go.Fl Go.Fl.Lk Go.Fx
namespace Go.En
def q49(X:Wu):Con Sg:=conS [] [.vec 177 C.decl] fun _ K=>X (fun q0=>K (q0,()))
theorem q8t:MT 57 (q49 Ju):=mS (l:=[]) trivial (by kernel_rfl) [] fun a K=>by kernel_rfl
def v1a(X:j5s):Con Sg:=conV [.ptr 104 [.c,.v]] [.ptr 104 [.sl C.u8,.int .i64]] [.bool] [.ptr 104 [.same,.int .i64]] fun a K=>X a.1.1 a.1.2.1 (fun q0 q1=>K (q0,()) (((),q1,()),()))
theorem y0m:MT 86 (v1a j5t):=mP (rk:=[.v]) (l:=[]) trivial (by kernel_rfl) [] fun a K=>by kernel_rfl
def Vg(X:Zg):Con Sg:=conV [.ptr 104 [.c,.v],.v] [.ptr 104 [.sl C.u8,.int .i64],.int .i64] [.int .i64] [.ptr 104 [.same,.int .i64],.same] fun a K=>X a.1.1 a.1.2.1 a.2.1 (fun q0 q1=>K (q0,()) (((),q1,()),(),()))
theorem y0n(j55:j5s)(h:AL [(86,v1a j55)]):MT 49 (Vg (w2k j55)):=mP (rk:=[.v]) h (by kernel_rfl) [] fun a K=>by kernel_rfl
theorem Gf:MT 49 (Vg Zc):=y0n j5t ⟨y0m,trivial⟩
def z58(X:q1h):Con Sg:=conV [.ptr 104 [.c,.v]] [.ptr 104 [.sl C.u8,.int .i64]] [.str] [.ptr 104 [.same,.int .i64]] fun a K=>X a.1.1 a.1.2.1 (fun q0 q1=>K (q0,()) (((),q1,()),()))
theorem y0o(Qb:Zg)(h:AL [(49,Vg Qb)]):MT 58 (z58 (w2l Qb)):=mP (rk:=[.v]) h (by kernel_rfl) [] fun a K=>by kernel_rfl
theorem j5w:MT 58 (z58 q1i):=y0o Zc ⟨Gf,trivial⟩
def z95(X:q5y):Con Sg:=conV [.ptr 104 [.c,.v],.v] [.ptr 104 [.sl C.u8,.int .i64],.int .i64] [.int .i64] [.ptr 104 [.same,.int .i64],.same] fun a K=>X a.1.1 a.1.2.1 a.2.1 (fun q0 q1=>K (q0,()) (((),q1,()),(),()))
theorem y0p(Qb:Zg)(h:AL [(49,Vg Qb)]):MT 51 (z95 (w2m Qb)):=mP (rk:=[.v]) h (by kernel_rfl) [] fun a K=>by kernel_rfl
theorem w2w:MT 51 (z95 q5z):=y0p Zc ⟨Gf,trivial⟩
def w2x(X:z5v):Con Sg:=conS [.int .i64,.vec 9 C.str] [.sl C.str] fun a K=>X a.1 a.2.1 (fun q0=>K (q0,()))
theorem v1b:MT 60 (w2x z5w):=mS (l:=[]) trivial (by kernel_rfl) [] fun a K=>by kernel_rfl
def j5x(X:z04):Con Sg:=conV [.ptr 104 [.c,.v]] [.ptr 104 [.sl C.u8,.int .i64]] [.vec 9 C.str] [.ptr 104 [.same,.int .i64]] fun a K=>X a.1.1 a.1.2.1 (fun q0 q1=>K (q0,()) (((),q1,()),()))
theorem y0q(Qb:Zg)(h:AL [(49,Vg Qb)]):MT 112 (j5x (w2n Qb)):=mP (rk:=[.own 9 C.str]) h (by kernel_rfl) [(9,⟨bl 397,[],[(0,(104,2))],[(.slot 4,.own 9 C.str),sI 5,(.cell 0 1,.int .i64)]⟩),(17,⟨bl 8121,[0],[],[sI 6,(.obj 1,.own 9 C.str)]⟩)] fun a K=>by kernel_rfl
theorem v1c:MT 112 (j5x z05):=y0q Zc ⟨Gf,trivial⟩
def w2y(X:z7n):Con Sg:=conV [.ptr 104 [.c,.v]] [.ptr 104 [.sl C.u8,.int .i64]] [.str] [.ptr 104 [.same,.int .i64]] fun a K=>X a.1.1 a.1.2.1 (fun q0 q1=>K (q0,()) (((),q1,()),()))
theorem y4p(Qb:Zg)(h:AL [(49,Vg Qb)]):MT 108 (w2y (w8m Qb)):=mP (rk:=[.v]) h (by kernel_rfl) [] fun a K=>by kernel_rfl
theorem v6p:MT 108 (w2y z7o):=y4p Zc ⟨Gf,trivial⟩
def z4d(X:q1j):Con Sg:=conV [.ptr 104 [.c,.v],.v] [.ptr 104 [.sl C.u8,.int .i64],.int .i64] [.el C.val] [.ptr 104 [.same,.int .i64],.same] fun a K=>X a.1.1 a.1.2.1 a.2.1 (fun q0 q1=>K (q0,()) (((),q1,()),(),()))
theorem v6q(Qb:Zg)(Wf:q1h)(h:AL [(49,Vg Qb),(58,z58 Wf)]):MT 109 (z4d (z9q Qb Wf)):=mP (rk:=[.el C.val]) h (by kernel_rfl) [] fun a K=>by kernel_rfl
theorem j7g:MT 109 (z4d Ui):=v6q Zc q1i ⟨Gf,j5w,trivial⟩
def j5y(X:z9r):Con Sg:=conV [.ptr 104 [.c,.v]] [.ptr 104 [.sl C.u8,.int .i64]] [.el C.ex] [.ptr 104 [.same,.int .i64]] fun a K=>X a.1.1 a.1.2.1 (fun q0 q1=>K (q0,()) (((),q1,()),()))
theorem y0r(Q2:Wu)(Qb:Zg)(z2f:z7n)(Je:q1j)(h:AL [(57,q49 Q2),(49,Vg Qb),(108,w2y z2f),(109,z4d Je)]):MT 165 (j5y (w2o Q2 Qb z2f Je)):=mP (rk:=[.el C.ex]) h (by kernel_rfl) [(68,⟨bl 4286840701,[3,2],[(5,(66,5)),(0,(104,2)),(1,(66,5))],[(.cell 5 0,.int .i64),(.cell 5 1,.str),(.cell 5 2,.str),(.cell 5 3,.own 115 C.val),(.cell 5 4,.own 66 C.ex),(.cell 0 1,.int .i64),(.cell 1 0,.int .i64),(.cell 1 1,.str),(.cell 1 2,.str),(.cell 1 3,.own 115 C.val),(.cell 1 4,.own 66 C.ex)]⟩),(60,⟨bl 17163319925,[],[(0,(104,2)),(5,(66,5)),(1,(66,5))],[(.cell 0 1,.int .i64),(.cell 5 0,.int .i64),(.cell 5 1,.str),(.cell 5 2,.str),(.cell 5 3,.own 115 C.val),(.cell 5 4,.own 66 C.ex),(.cell 1 0,.int .i64),(.cell 1 1,.str),(.cell 1 2,.str),(.cell 1 3,.own 115 C.val),(.cell 1 4,.own 66 C.ex)]⟩),(37,⟨bl 1055806024022645,[1],[(5,(66,5)),(0,(104,2))],[sI 7,(.cell 5 3,.own 115 C.val),(.cell 0 1,.int .i64)]⟩)] fun a K=>by kernel_rfl
theorem y0s:MT 165 (j5y z5x):=y0r Ju Zc z7o Ui ⟨q8t,Gf,v6p,j7g,trivial⟩
def j5z(X:q36):Con Sg:=conV [.ptr 104 [.c,.v],.sl C.str,.v] [.ptr 104 [.sl C.u8,.int .i64],.sl C.str,.int .i64] [.el C.ex] [.ptr 104 [.same,.int .i64],.same,.same] fun a K=>X a.1.1 a.1.2.1 a.2.1 a.2.2.1 (fun q0 q1=>K (q0,()) (((),q1,()),(),(),()))
def w51:PT:=Q3 ([(8,⟨bl 24647,[0,1],[],[sI 7]⟩),(28,⟨bl 3298996281543,[0,1],[],[sB 49]⟩),(37,⟨bl 1148984153929181127,[1],[(0,(104,2)),(4,(66,5))],[sI 11,(.cell 0 1,.int .i64),(.cell 4 0,.int .i64),(.cell 4 1,.str),(.cell 4 2,.str),(.cell 4 3,.own 115 C.val),(.cell 4 4,.own 66 C.ex)]⟩),(46,⟨bl 1152917567256169316295,[0,12,11,4],[(13,(66,5))],[(.cell 13 0,.int .i64),(.cell 13 1,.str),(.cell 13 2,.str),(.cell 13 3,.sl C.val),(.cell 13 4,.sl C.ex)]⟩)]:LS)
theorem v2s(Qb:Zg)(j1a:z9r)(X:q36)(list:List (Int))(at_:Int)(segments:List (ByteArray))(levels:Int)(K:Ex->Int->Prop):j5u Qb j1a X list at_ segments levels K=fnV (((WL [(49,Vg Qb),(165,j5y j1a)]).with 113 (j5z X)).pl w51) 4 113 ([.ptr 104 [.c,.v],.sl C.str,.v]:LP) ([.el C.ex]:LP) ([.ptr 104 [.sl C.u8,.int .i64],.sl C.str,.int .i64]:LV) ([.el C.ex]:LV) ([.ptr 104 [.same,.int .i64],.same,.same]:LV) ((list,at_,()),segments,levels,()) (fun r o=>K r.1 o.1.2.1):=by kernel_rfl
theorem v1d:MT 113 (j5z z06):=by
 show MT _ (conV ([.ptr 104 [.c,.v],.sl C.str,.v]:LP) ([.ptr 104 [.sl C.u8,.int .i64],.sl C.str,.int .i64]:LV) ([.el C.ex]:LV) ([.ptr 104 [.same,.int .i64],.same,.same]:LV) fun a K=>z06 a.1.1 a.1.2.1 a.2.1 a.2.2.1 (fun q0 q1=>K (q0,()) (((),q1,()),(),(),())))
 refine mR (l:=[(49,Vg Zc),(165,j5y z5x)]) (u:=4) (rk:=[.el C.ex]) (p:=w51) ⟨Gf,y0s,trivial⟩ (by kernel_rfl) fun a K h X hX=> ?_
 exact h (fun list at_ segments levels K=>X ((list,at_,()),segments,levels,()) fun r o=>K r.1 o.1.2.1) (fun list at_ segments levels K hs=>hX ((list,at_,()),segments,levels,()) (fun r o=>K r.1 o.1.2.1) (Eq.mp (v2s Zc z5x (fun list at_ segments levels K=>X ((list,at_,()),segments,levels,()) fun r o=>K r.1 o.1.2.1) list at_ segments levels K) hs))
def z4e(X:q4r):Con Sg:=conV [.ptr 104 [.c,.v],.ptr 36 [.v,.v,.v,.sl C.decl,.own 147 C.seg,.own 122 C.flag,.own 59 C.layer,.own 68 C.exper]] [.ptr 104 [.sl C.u8,.int .i64],.ptr 36 [.str,.str,.int .i64,.sl C.decl,.vec 147 C.seg,.vec 122 C.flag,.vec 59 C.layer,.vec 68 C.exper]] [] [.ptr 104 [.same,.int .i64],.ptr 36 [.str,.str,.int .i64,.sl C.decl,.vec 147 C.seg,.vec 122 C.flag,.vec 59 C.layer,.vec 68 C.exper]] fun a K=>X a.1.1 a.1.2.1 a.2.1.1 a.2.1.2.1 a.2.1.2.2.1 a.2.1.2.2.2.1 a.2.1.2.2.2.2.1 a.2.1.2.2.2.2.2.1 a.2.1.2.2.2.2.2.2.1 a.2.1.2.2.2.2.2.2.2.1 (fun q0 q1 q2 q3 q4 q5 q6 q7 q8=>K () (((),q0,()),(q1,q2,q3,q4,q5,q6,q7,q8,()),()))
theorem w52(Qb:Zg)(q2w:z5v)(q4f:z04)(q4g:q36)(h:AL [(49,Vg Qb),(60,w2x q2w),(112,j5x q4f),(113,j5z q4g)]):MT 59 (z4e (z3f Qb q2w q4f q4g)):=mP (rk:=[]) h (by kernel_rfl) [(5,⟨bl 1427,[3,4,5],[(0,(104,2)),(1,(36,8))],[sI 5,(.cell 0 1,.int .i64),(.cell 1 4,.own 147 C.seg)]⟩),(14,⟨bl 67010035,[11,10,9,1],[(12,(147,9)),(0,(104,2))],[(.cell 12 1,.str),(.cell 0 1,.int .i64)]⟩),(18,⟨bl 67010035,[11,10,9,1],[(12,(147,9)),(0,(104,2))],[(.cell 12 4,.int .i64),(.cell 12 5,.str),(.cell 12 6,.str),(.cell 12 7,.sl C.val),(.cell 12 8,.sl C.ex),(.cell 0 1,.int .i64)]⟩)] fun a K=>by kernel_rfl
theorem w53:MT 59 (z4e q4s):=w52 Zc z5w z05 z06 ⟨Gf,v1b,v1c,v1d,trivial⟩
def z4f(X:q1k):Con Sg:=conS [.el C.env] [.vec 9 C.str] fun a K=>X a.1 (fun q0=>K (q0,()))
theorem j7h:MT 114 (z4f Hq):=mS (l:=[]) trivial (by kernel_rfl) [(7,⟨[0,1,2],[0],[],[(.slot 3,.own 9 C.str),sI 4]⟩)] fun a K=>by kernel_rfl
def z96(X:q63):Con Sg:=conV [.ptr 104 [.c,.v],.v] [.ptr 104 [.sl C.u8,.int .i64],.int .i64] [.vec 70 C.range] [.ptr 104 [.same,.int .i64],.same] fun a K=>X a.1.1 a.1.2.1 a.2.1 (fun q0 q1=>K (q0,()) (((),q1,()),(),()))
theorem v6r(Qb:Zg)(Wp:q5y)(h:AL [(49,Vg Qb),(51,z95 Wp)]):MT 117 (z96 (j62 Qb Wp)):=mP (rk:=[.own 70 C.range]) h (by kernel_rfl) [(26,⟨[0,1,4],[],[(0,(104,2))],[(.slot 5,.own 70 C.range),sI 6,sI 7,(.cell 0 1,.int .i64)]⟩),(32,⟨bl 8444249301319923,[0,1],[],[sI 11]⟩),(9,⟨[0,1,4],[],[(0,(104,2))],[(.slot 5,.own 70 C.range),sI 6,sI 7,sI 8,(.cell 0 1,.int .i64)]⟩),(20,⟨bl 2144334835,[0,1],[],[sI 10]⟩)] fun _ _=>by kernel_rfl
theorem w54:MT 117 (z96 q64):=v6r Zc q5z ⟨Gf,w2w,trivial⟩
end Go.En
end
noncomputable section
set_option maxRecDepth 100000
open Go Go.RowKit Go.Fl Go.Fl.Lk Go.Fx
namespace Go.En
def j7i(X:z3g):Con Sg:=conV [.ptr 104 [.c,.v],.v] [.ptr 104 [.sl C.u8,.int .i64],.int .i64] [.el C.serve] [.ptr 104 [.same,.int .i64],.same] fun a K=>X a.1.1 a.1.2.1 a.2.1 (fun q0 q1=>K (q0,()) (((),q1,()),(),()))
theorem v6s(Qb:Zg)(Wf:q1h)(q2x:q63)(Q2:Wu)(h:AL [(49,Vg Qb),(58,z58 Wf),(117,z96 q2x),(57,q49 Q2)]):MT 115 (j7i (j63 Qb Wf q2x Q2)):=mP (rk:=[.el C.serve]) h (by kernel_rfl) [] fun a K=>by kernel_rfl
theorem v6t:MT 115 (j7i z3h):=v6s Zc q1i q64 Ju ⟨Gf,j5w,w54,q8t,trivial⟩
def w55(X:z9s):Con Sg:=conV [] [] [.ptr 248 [.vec 318 C.node,.map C.node C.i64,.bool]] [] fun _ K=>X (fun q0 q1 q2=>K ((q0,q1,q2,()),()) ())
theorem v6u:MT 166 (w55 j64):=mP (rk:=[.ptr 248 [.own 318 C.node,.map C.node C.i64,.v]]) (l:=[]) trivial (by kernel_rfl) [] fun a K=>by kernel_rfl
def q0s(X:W6):Con Sg:=conS [.int .i64] [.bool] fun a K=>X a.1 (fun q0=>K (q0,()))
theorem z1p:MT 143 (q0s Jj):=mS (l:=[]) trivial (by kernel_rfl) [] fun a K=>by kernel_rfl
def w56(X:z9t):Con Sg:=conS [.sl C.str,.sl C.str] [.bool] fun a K=>X a.1 a.2.1 (fun q0=>K (q0,()))
theorem v6v:MT 204 (w56 z3i):=mS (l:=[]) trivial (by kernel_rfl) [(9,⟨bl 1987,[],[],[sI 5]⟩)] fun a K=>by kernel_rfl
def j2t(X:q6p):Con Sg:=conS [.el C.val,.el C.val] [.bool] fun a K=>X a.1 a.2.1 (fun q0=>K (q0,()))
theorem v2t(j1d:z9t)(h:AL [(204,w56 j1d)]):MT 144 (j2t (j2a j1d)):=mS h (by kernel_rfl) [] fun a K=>by kernel_rfl
theorem v2u:MT 144 (j2t q3b):=v2t z3i ⟨v6v,trivial⟩
def q2i(X:Hr):Con Sg:=conS [.sl C.val,.sl C.val] [.bool] fun a K=>X a.1 a.2.1 (fun q0=>K (q0,()))
theorem j7j(q09:q6p)(h:AL [(144,j2t q09)]):MT 278 (q2i (q65 q09)):=mS h (by kernel_rfl) [(9,⟨bl 1987,[],[],[sI 5]⟩)] fun a K=>by kernel_rfl
theorem j7k:MT 278 (q2i Uj):=j7j q3b ⟨v2u,trivial⟩
def z1q(X:Vm):Con Sg:=conV [.el C.ex,.el C.ex] [.el C.ex,.el C.ex] [.bool] [.same,.same] fun a K=>X a.1 a.2.1 (fun q0=>K (q0,()) ((),(),()))
def z63:PT:=Q3 ([(280000009,⟨bl 1987,[],[],[sI 5]⟩)]:LS)
theorem j7l(q2y:Hr)(X:Vm)(a:Ex)(b:Ex)(K:Bool->Prop):z07 q2y X a b K=fnV (((WL [(278,q2i q2y)]).with 259 (z1q X)).pl z63) 4 259 ([.el C.ex,.el C.ex]:LP) ([.v]:LP) ([.el C.ex,.el C.ex]:LV) ([.bool]:LV) ([.same,.same]:LV) (a,b,()) (fun r _=>K r.1):=by kernel_rfl
theorem w2z:MT 259 (z1q Rv):=by
 show MT _ (conV ([.el C.ex,.el C.ex]:LP) ([.el C.ex,.el C.ex]:LV) ([.bool]:LV) ([.same,.same]:LV) fun a K=>Rv a.1 a.2.1 (fun q0=>K (q0,()) ((),(),())))
 refine mR (l:=[(278,q2i Uj)]) (u:=4) (rk:=[.v]) (p:=z63) ⟨j7k,trivial⟩ (by kernel_rfl) fun a K h X hX=> ?_
 exact h (fun a b K=>X (a,b,()) fun r _=>K r.1) (fun a b K hs=>hX (a,b,()) (fun r _=>K r.1) (Eq.mp (j7l Uj (fun a b K=>X (a,b,()) fun r _=>K r.1) a b K) hs))
def q3q(X:q0g):Con Sg:=conS [.sl C.ex,.el C.ex] [.int .i64] fun a K=>X a.1 a.2.1 (fun q0=>K (q0,()))
theorem w8q(q6c:Vm)(h:AL [(259,z1q q6c)]):MT 221 (q3q (z7p q6c)):=mS h (by kernel_rfl) [(5,⟨[0,1,3],[0],[],[sI 5]⟩)] fun a K=>by kernel_rfl
theorem j7m:MT 221 (q3q V7):=w8q Rv ⟨w2z,trivial⟩
def q9p(X:Wv):Con Sg:=conV [.sl C.ex,.el C.ex] [.sl C.ex,.el C.ex] [.sl C.ex] [.same,.same] fun a K=>X a.1 a.2.1 (fun q0=>K (q0,()) ((),(),()))
def z4g:PT:=Q3 ([(6,⟨[1,3,4],[0],[],[(.slot 0,.sl C.ex)]⟩),(9,⟨[1,3,4],[0],[],[(.slot 0,.sl C.ex),sI 5]⟩)]:LS)
theorem j4p(Ub:q0g)(Q1:W6)(X:Wv)(l:List (Ex))(e:Ex)(K:List (Ex)->Prop):q9f Ub Q1 X l e K=fnV (((WL [(221,q3q Ub),(143,q0s Q1)]).with 218 (q9p X)).pl z4g) 4 218 ([.sl C.ex,.el C.ex]:LP) ([.sl C.ex]:LP) ([.sl C.ex,.el C.ex]:LV) ([.sl C.ex]:LV) ([.same,.same]:LV) (l,e,()) (fun r _=>K r.1):=by kernel_rfl
theorem j9p:MT 218 (q9p Br):=by
 show MT _ (conV ([.sl C.ex,.el C.ex]:LP) ([.sl C.ex,.el C.ex]:LV) ([.sl C.ex]:LV) ([.same,.same]:LV) fun a K=>Br a.1 a.2.1 (fun q0=>K (q0,()) ((),(),())))
 refine mR (l:=[(221,q3q V7),(143,q0s Jj)]) (u:=4) (rk:=[.sl C.ex]) (p:=z4g) ⟨j7m,z1p,trivial⟩ (by kernel_rfl) fun a K h X hX=> ?_
 exact h (fun l e K=>X (l,e,()) fun r _=>K r.1) (fun l e K hs=>hX (l,e,()) (fun r _=>K r.1) (Eq.mp (j4p V7 Jj (fun l e K=>X (l,e,()) fun r _=>K r.1) l e K) hs))
def q70(X:Hs):Con Sg:=conS [.sl C.rule] [.sl C.ex] fun a K=>X a.1 (fun q0=>K (q0,()))
theorem j7n(q4h:Wv)(h:AL [(218,q9p q4h)]):MT 167 (q70 (q66 q4h)):=mS h (by kernel_rfl) [(7,⟨[0,2],[],[],[(.slot 3,.sl C.ex),sI 4]⟩)] fun a K=>by kernel_rfl
theorem j7o:MT 167 (q70 Ht):=j7n Br ⟨j9p,trivial⟩
def q2j(X:J4):Con Sg:=conV [.ptr 248 [.own 318 C.node,.map C.node C.i64,.v],.v] [.ptr 248 [.vec 318 C.node,.map C.node C.i64,.bool],.int .i64] [.bool] [.ptr 248 [.vec 318 C.node,.map C.node C.i64,.bool],.same] fun a K=>X a.1.1 a.1.2.1 a.1.2.2.1 a.2.1 (fun q0 q1 q2 q3=>K (q0,()) ((q1,q2,q3,()),(),()))
theorem q56:MT 260 (q2j Jo):=mP (rk:=[.v]) (l:=[]) trivial (by kernel_rfl) [] fun a K=>by kernel_rfl
def z2q(X:B6):Con Sg:=conV [.ptr 248 [.own 318 C.node,.map C.node C.i64,.v],.v] [.ptr 248 [.vec 318 C.node,.map C.node C.i64,.bool],.int .i64] [.map C.i64 C.bool] [.ptr 248 [.vec 318 C.node,.map C.node C.i64,.bool],.same] fun a K=>X a.1.1 a.1.2.1 a.1.2.2.1 a.2.1 (fun q0 q1 q2 q3=>K (q0,()) ((q1,q2,q3,()),(),()))
theorem j4q:MT 280 (z2q Gu):=mP (rk:=[.map C.i64 C.bool]) (l:=[]) trivial (by kernel_rfl) [(7,⟨bl 1843,[0,1,2],[],[(.slot 6,.own 3 C.i64),(.obj 3,.map C.i64 C.bool)]⟩)] fun a K=>by kernel_rfl
def q3r(X:Uk):Con Sg:=conV [.ptr 248 [.own 318 C.node,.map C.node C.i64,.v],.v] [.ptr 248 [.vec 318 C.node,.map C.node C.i64,.bool],.int .i64] [.vec 3 C.i64] [.ptr 248 [.vec 318 C.node,.map C.node C.i64,.bool],.same] fun a K=>X a.1.1 a.1.2.1 a.1.2.2.1 a.2.1 (fun q0 q1 q2 q3=>K (q0,()) ((q1,q2,q3,()),(),()))
theorem j2u(Qv:J4)(q0a:B6)(h:AL [(260,q2j Qv),(280,z2q q0a)]):MT 262 (q3r (q95 Qv q0a)):=mP (rk:=[.own 3 C.i64]) h (by kernel_rfl) [(13,⟨bl 32563,[5,0,4,2],[],[(.slot 6,.own 3 C.i64),sI 7]⟩)] fun a K=>by kernel_rfl
theorem j2v:MT 262 (q3r Ul):=j2u Jo Gu ⟨q56,j4q,trivial⟩
def Wk(X:Zh):Con Sg:=conV [.ptr 248 [.own 318 C.node,.map C.node C.i64,.v],.v] [.ptr 248 [.vec 318 C.node,.map C.node C.i64,.bool],.int .i64] [.bool] [.ptr 248 [.vec 318 C.node,.map C.node C.i64,.bool],.same] fun a K=>X a.1.1 a.1.2.1 a.1.2.2.1 a.2.1 (fun q0 q1 q2 q3=>K (q0,()) ((q1,q2,q3,()),(),()))
theorem z6p(Qv:J4)(Ba:Uk)(h:AL [(260,q2j Qv),(262,q3r Ba)]):MT 223 (Wk (q5s Qv Ba)):=mP (rk:=[.v]) h (by kernel_rfl) [(11,⟨bl 16291,[5,0,4,2],[],[sI 6]⟩)] fun _ _=>by kernel_rfl
theorem Bn:MT 223 (Wk Zi):=z6p Jo Ul ⟨q56,j2v,trivial⟩
end Go.En
end
noncomputable section
set_option maxRecDepth 100000
open Go Go.RowKit Go.Fl Go.Fl.Lk Go.Fx
namespace Go.En
def B0(X:Ww):Con Sg:=conV [.ptr 248 [.own 318 C.node,.map C.node C.i64,.v],.v] [.ptr 248 [.vec 318 C.node,.map C.node C.i64,.bool],.int .i64] [.int .i64] [.ptr 248 [.vec 318 C.node,.map C.node C.i64,.bool],.same] fun a K=>X a.1.1 a.1.2.1 a.1.2.2.1 a.2.1 (fun q0 q1 q2 q3=>K (q0,()) ((q1,q2,q3,()),(),()))
theorem q9q:MT 261 (B0 Jc):=mP (rk:=[.v]) (l:=[]) trivial (by kernel_rfl) [] fun a K=>by kernel_rfl
def B8(X:Gv):Con Sg:=conV [.ptr 248 [.own 318 C.node,.map C.node C.i64,.v],.v,.v] [.ptr 248 [.vec 318 C.node,.map C.node C.i64,.bool],.int .i64,.int .i64] [.int .i64,.int .i64] [.ptr 248 [.vec 318 C.node,.map C.node C.i64,.bool],.same,.same] fun a K=>X a.1.1 a.1.2.1 a.1.2.2.1 a.2.1 a.2.2.1 (fun q0 q1 q2 q3 q4=>K (q0,q1,()) ((q2,q3,q4,()),(),(),()))
theorem j4r(Q6:Ww)(h:AL [(261,B0 Q6)]):MT 281 (B8 (z2p Q6)):=mP (rk:=[.v,.v]) h (by kernel_rfl) [] fun a K=>by kernel_rfl
theorem j4s:MT 281 (B8 Wg):=j4r Jc ⟨q9q,trivial⟩
def Ux(X:W7):Con Sg:=conV [.ptr 248 [.own 318 C.node,.map C.node C.i64,.v],.v,.v,.v] [.ptr 248 [.vec 318 C.node,.map C.node C.i64,.bool],.int .i64,.int .i64,.int .i64] [.int .i64] [.ptr 248 [.vec 318 C.node,.map C.node C.i64,.bool],.same,.same,.same] fun a K=>X a.1.1 a.1.2.1 a.1.2.2.1 a.2.1 a.2.2.1 a.2.2.2.1 (fun q0 q1 q2 q3=>K (q0,()) ((q1,q2,q3,()),(),(),(),()))
theorem j7p(Qv:J4)(Q6:Ww)(h:AL [(260,q2j Qv),(261,B0 Q6)]):MT 222 (Ux (z3j Qv Q6)):=mP (rk:=[.v]) h (by kernel_rfl) [] fun a K=>by kernel_rfl
theorem z4h:MT 222 (Ux Jd):=j7p Jo Jc ⟨q56,q9q,trivial⟩
def q3s(X:Jl):Con Sg:=conV [.ptr 248 [.own 318 C.node,.map C.node C.i64,.v],.v,.v,.v,.map C.a3 C.i64] [.ptr 248 [.vec 318 C.node,.map C.node C.i64,.bool],.int .i64,.int .i64,.int .i64,.map C.a3 C.i64] [.int .i64] [.ptr 248 [.vec 318 C.node,.map C.node C.i64,.bool],.same,.same,.same,.map C.a3 C.i64] fun a K=>X a.1.1 a.1.2.1 a.1.2.2.1 a.2.1 a.2.2.1 a.2.2.2.1 a.2.2.2.2.1 (fun q0 q1 q2 q3 q4=>K (q0,()) ((q1,q2,q3,()),(),(),(),q4,()))
def q8u:PT:=Q3 ([(36,⟨bl 4951760157141239551596952607,[3,4],[(0,(248,3))],[sI 23,(.cell 0 0,.own 318 C.node),(.cell 0 2,.bool),(.obj 2,.map C.node C.i64)]⟩)]:LS)
theorem z8c(Q6:Ww)(Vi:Gv)(Jr:W7)(X:Jl)(ns:List (Nd))(ids:(Nd->Option (Int)))(full:Bool)(f:Int)(g:Int)(h:Int)(known:(A3->Option (Int)))(K:Int->List (Nd)->(Nd->Option (Int))->Bool->(A3->Option (Int))->Prop):Um Q6 Vi Jr X ns ids full f g h known K=fnV (((WL [(261,B0 Q6),(281,B8 Vi),(222,Ux Jr)]).with 263 (q3s X)).pl q8u) 4 263 ([.ptr 248 [.own 318 C.node,.map C.node C.i64,.v],.v,.v,.v,.map C.a3 C.i64]:LP) ([.v]:LP) ([.ptr 248 [.vec 318 C.node,.map C.node C.i64,.bool],.int .i64,.int .i64,.int .i64,.map C.a3 C.i64]:LV) ([.int .i64]:LV) ([.ptr 248 [.vec 318 C.node,.map C.node C.i64,.bool],.same,.same,.same,.map C.a3 C.i64]:LV) ((ns,ids,full,()),f,g,h,known,()) (fun r o=>K r.1 o.1.1 o.1.2.1 o.1.2.2.1 o.2.2.2.2.1):=by kernel_rfl
theorem j2w:MT 263 (q3s Un):=by
 show MT _ (conV ([.ptr 248 [.own 318 C.node,.map C.node C.i64,.v],.v,.v,.v,.map C.a3 C.i64]:LP) ([.ptr 248 [.vec 318 C.node,.map C.node C.i64,.bool],.int .i64,.int .i64,.int .i64,.map C.a3 C.i64]:LV) ([.int .i64]:LV) ([.ptr 248 [.vec 318 C.node,.map C.node C.i64,.bool],.same,.same,.same,.map C.a3 C.i64]:LV) fun a K=>Un a.1.1 a.1.2.1 a.1.2.2.1 a.2.1 a.2.2.1 a.2.2.2.1 a.2.2.2.2.1 (fun q0 q1 q2 q3 q4=>K (q0,()) ((q1,q2,q3,()),(),(),(),q4,())))
 refine mR (l:=[(261,B0 Jc),(281,B8 Wg),(222,Ux Jd)]) (u:=4) (rk:=[.v]) (p:=q8u) ⟨q9q,j4s,z4h,trivial⟩ (by kernel_rfl) fun a K h X hX=> ?_
 exact h (fun ns ids full f g h known K=>X ((ns,ids,full,()),f,g,h,known,()) fun r o=>K r.1 o.1.1 o.1.2.1 o.1.2.2.1 o.2.2.2.2.1) (fun ns ids full f g h known K hs=>hX ((ns,ids,full,()),f,g,h,known,()) (fun r o=>K r.1 o.1.1 o.1.2.1 o.1.2.2.1 o.2.2.2.2.1) (Eq.mp (z8c Jc Wg Jd (fun ns ids full f g h known K=>X ((ns,ids,full,()),f,g,h,known,()) fun r o=>K r.1 o.1.1 o.1.2.1 o.1.2.2.1 o.2.2.2.2.1) ns ids full f g h known K) hs))
def Uy(X:Z0):Con Sg:=conV [.ptr 248 [.own 318 C.node,.map C.node C.i64,.v],.v,.v,.v] [.ptr 248 [.vec 318 C.node,.map C.node C.i64,.bool],.int .i64,.int .i64,.int .i64] [.int .i64] [.ptr 248 [.vec 318 C.node,.map C.node C.i64,.bool],.same,.same,.same] fun a K=>X a.1.1 a.1.2.1 a.1.2.2.1 a.2.1 a.2.2.1 a.2.2.2.1 (fun q0 q1 q2 q3=>K (q0,()) ((q1,q2,q3,()),(),(),(),()))
theorem j2x(Qp:Zh)(Qv:J4)(Bb:Jl)(h:AL [(223,Wk Qp),(260,q2j Qv),(263,q3s Bb)]):MT 224 (Uy (q96 Qp Qv Bb)):=mP (rk:=[.v]) h (by kernel_rfl) [] fun a K=>by kernel_rfl
theorem q3t:MT 224 (Uy Z1):=j2x Zi Jo Un ⟨Bn,q56,j2w,trivial⟩
def q4d(X:Bt):Con Sg:=conV [.ptr 248 [.own 318 C.node,.map C.node C.i64,.v],.v] [.ptr 248 [.vec 318 C.node,.map C.node C.i64,.bool],.int .i64] [.int .i64] [.ptr 248 [.vec 318 C.node,.map C.node C.i64,.bool],.same] fun a K=>X a.1.1 a.1.2.1 a.1.2.2.1 a.2.1 (fun q0 q1 q2 q3=>K (q0,()) ((q1,q2,q3,()),(),()))
theorem j9q(Qz:Z0)(h:AL [(224,Uy Qz)]):MT 219 (q4d (z6z Qz)):=mP (rk:=[.v]) h (by kernel_rfl) [] fun a K=>by kernel_rfl
theorem j9r:MT 219 (q4d Hc):=j9q Z1 ⟨q3t,trivial⟩
def q4e(X:Bu):Con Sg:=conV [.ptr 248 [.own 318 C.node,.map C.node C.i64,.v],.v,.v] [.ptr 248 [.vec 318 C.node,.map C.node C.i64,.bool],.int .i64,.int .i64] [.int .i64] [.ptr 248 [.vec 318 C.node,.map C.node C.i64,.bool],.same,.same] fun a K=>X a.1.1 a.1.2.1 a.1.2.2.1 a.2.1 a.2.2.1 (fun q0 q1 q2 q3=>K (q0,()) ((q1,q2,q3,()),(),(),()))
theorem j9s(Qp:Zh)(Qz:Z0)(h:AL [(223,Wk Qp),(224,Uy Qz)]):MT 220 (q4e (z60 Qp Qz)):=mP (rk:=[.v]) h (by kernel_rfl) [] fun a K=>by kernel_rfl
theorem j9t:MT 220 (q4e Hd):=j9s Zi Z1 ⟨Bn,q3t,trivial⟩
def q2k(X:U6):Con Sg:=conV [.ptr 248 [.own 318 C.node,.map C.node C.i64,.v],.v,.v] [.ptr 248 [.vec 318 C.node,.map C.node C.i64,.bool],.int .i64,.int .i64] [.int .i64] [.ptr 248 [.vec 318 C.node,.map C.node C.i64,.bool],.same,.same] fun a K=>X a.1.1 a.1.2.1 a.1.2.2.1 a.2.1 a.2.2.1 (fun q0 q1 q2 q3=>K (q0,()) ((q1,q2,q3,()),(),(),()))
theorem w29(Qp:Zh)(Qz:Z0)(h:AL [(223,Wk Qp),(224,Uy Qz)]):MT 169 (q2k (z9u Qp Qz)):=mP (rk:=[.v]) h (by kernel_rfl) [] fun a K=>by kernel_rfl
theorem z97:MT 169 (q2k Vn):=w29 Zi Z1 ⟨Bn,q3t,trivial⟩
def q71(X:Wc):Con Sg:=conV [.ptr 248 [.own 318 C.node,.map C.node C.i64,.v],.sl C.ex,.el C.ex] [.ptr 248 [.vec 318 C.node,.map C.node C.i64,.bool],.sl C.ex,.el C.ex] [.int .i64] [.ptr 248 [.vec 318 C.node,.map C.node C.i64,.bool],.same,.same] fun a K=>X a.1.1 a.1.2.1 a.1.2.2.1 a.2.1 a.2.2.1 (fun q0 q1 q2 q3=>K (q0,()) ((q1,q2,q3,()),(),(),()))
def z2r:PT:=Q3 ([(16,⟨bl 129127,[3,0,1,2],[],[sB 26]⟩),(21,⟨bl 68249843815,[3],[(0,(248,3))],[sI 7,sI 8,(.cell 0 0,.own 318 C.node),(.cell 0 2,.bool),(.obj 2,.map C.node C.i64)]⟩)]:LS)
theorem j2y(q4i:Bt)(q4j:Bu)(Wq:U6)(Ub:q0g)(Jr:W7)(X:Wc)(ns:List (Nd))(ids:(Nd->Option (Int)))(full:Bool)(atoms:List (Ex))(e:Ex)(K:Int->List (Nd)->(Nd->Option (Int))->Bool->Prop):q67 q4i q4j Wq Ub Jr X ns ids full atoms e K=fnV (((WL [(219,q4d q4i),(220,q4e q4j),(169,q2k Wq),(221,q3q Ub),(222,Ux Jr)]).with 168 (q71 X)).pl z2r) 4 168 ([.ptr 248 [.own 318 C.node,.map C.node C.i64,.v],.sl C.ex,.el C.ex]:LP) ([.v]:LP) ([.ptr 248 [.vec 318 C.node,.map C.node C.i64,.bool],.sl C.ex,.el C.ex]:LV) ([.int .i64]:LV) ([.ptr 248 [.vec 318 C.node,.map C.node C.i64,.bool],.same,.same]:LV) ((ns,ids,full,()),atoms,e,()) (fun r o=>K r.1 o.1.1 o.1.2.1 o.1.2.2.1):=by kernel_rfl
theorem j7q:MT 168 (q71 Hu):=by
 show MT _ (conV ([.ptr 248 [.own 318 C.node,.map C.node C.i64,.v],.sl C.ex,.el C.ex]:LP) ([.ptr 248 [.vec 318 C.node,.map C.node C.i64,.bool],.sl C.ex,.el C.ex]:LV) ([.int .i64]:LV) ([.ptr 248 [.vec 318 C.node,.map C.node C.i64,.bool],.same,.same]:LV) fun a K=>Hu a.1.1 a.1.2.1 a.1.2.2.1 a.2.1 a.2.2.1 (fun q0 q1 q2 q3=>K (q0,()) ((q1,q2,q3,()),(),(),())))
 refine mR (l:=[(219,q4d Hc),(220,q4e Hd),(169,q2k Vn),(221,q3q V7),(222,Ux Jd)]) (u:=4) (rk:=[.v]) (p:=z2r) ⟨j9r,j9t,z97,j7m,z4h,trivial⟩ (by kernel_rfl) fun a K h X hX=> ?_
 exact h (fun ns ids full atoms e K=>X ((ns,ids,full,()),atoms,e,()) fun r o=>K r.1 o.1.1 o.1.2.1 o.1.2.2.1) (fun ns ids full atoms e K hs=>hX ((ns,ids,full,()),atoms,e,()) (fun r o=>K r.1 o.1.1 o.1.2.1 o.1.2.2.1) (Eq.mp (j2y Hc Hd Vn V7 Jd (fun ns ids full atoms e K=>X ((ns,ids,full,()),atoms,e,()) fun r o=>K r.1 o.1.1 o.1.2.1 o.1.2.2.1) ns ids full atoms e K) hs))
def R7(X:Jy):Con Sg:=conS [.sl C.rule] [.vec 3 C.i64,.int .i64,.bool] fun a K=>X a.1 (fun q0 q1 q2=>K (q0,q1,q2,()))
theorem j2z(j1f:z9s)(q2z:Hs)(q20:Wc)(Wq:U6)(h:AL [(166,w55 j1f),(167,q70 q2z),(168,q71 q20),(169,q2k Wq)]):MT 116 (R7 (q3c j1f q2z q20 Wq)):=mS h (by kernel_rfl) [(13,⟨bl 28769,[],[(0,(248,3))],[sI 7,(.slot 8,.own 3 C.i64),sI 9,(.cell 0 0,.own 318 C.node),(.cell 0 2,.bool),(.obj 2,.map C.node C.i64)]⟩)] fun a K=>by kernel_rfl
theorem z0r:MT 116 (R7 Jz):=j2z j64 Ht Hu Vn ⟨v6u,j7o,j7q,z97,trivial⟩
def j7r(X:z3k):Con Sg:=conV [.ptr 104 [.c,.v],.v] [.ptr 104 [.sl C.u8,.int .i64],.str] [.el C.layer] [.ptr 104 [.same,.int .i64],.same] fun a K=>X a.1.1 a.1.2.1 a.2.1 (fun q0 q1=>K (q0,()) (((),q1,()),(),()))
theorem v6w(Wf:q1h)(Qb:Zg)(Wp:q5y)(h:AL [(58,z58 Wf),(49,Vg Qb),(51,z95 Wp)]):MT 62 (j7r (j65 Wf Qb Wp)):=mP (rk:=[.el C.layer]) h (by kernel_rfl) [(8,⟨bl 130099,[1],[(2,(59,6)),(0,(104,2))],[(.cell 2 1,.str),(.cell 0 1,.int .i64)]⟩),(12,⟨bl 130099,[1],[(2,(59,6)),(0,(104,2))],[(.cell 2 3,.int .i64),(.cell 0 1,.int .i64)]⟩),(17,⟨bl 130099,[1],[(2,(59,6)),(0,(104,2))],[sI 6,sI 7,(.cell 2 5,.own 197 C.cool),(.cell 0 1,.int .i64)]⟩)] fun a K=>by kernel_rfl
theorem v6x:MT 62 (j7r z3l):=v6w q1i Zc q5z ⟨j5w,Gf,w2w,trivial⟩
def w08(X:z5y):Con Sg:=conS [.int .i64] [.bool] fun a K=>X a.1 (fun q0=>K (q0,()))
theorem v2v:MT 149 (w08 q97):=mS (l:=[]) trivial (by kernel_rfl) [] fun a K=>by kernel_rfl
def q57(X:Vo):Con Sg:=conS [.el C.env,.str] [.int .i64] fun a K=>X a.1 a.2.1 (fun q0=>K (q0,()))
theorem z1r:MT 41 (q57 Vp):=mS (l:=[]) trivial (by kernel_rfl) [(5,⟨[0,1,2],[0],[],[sI 5]⟩)] fun a K=>by kernel_rfl
def z4i(X:q1l):Con Sg:=conS [.sl C.cool,.int .i64] [.vec 3 C.i64] fun a K=>X a.1 a.2.1 (fun q0=>K (q0,()))
theorem j7s:MT 95 (z4i Hw):=mS (l:=[]) trivial (by kernel_rfl) [(7,⟨bl 563,[],[],[sI 6,(.obj 0,.own 3 C.i64)]⟩),(15,⟨bl 15987,[],[],[sI 7,(.obj 0,.own 3 C.i64)]⟩),(21,⟨bl 4243603187,[],[],[sI 8,(.obj 0,.own 3 C.i64)]⟩)] fun _ _=>by kernel_rfl
end Go.En
end
noncomputable section
set_option maxRecDepth 100000
open Go Go.RowKit Go.Fl Go.Fl.Lk Go.Fx
namespace Go.En
def q3u(X:Wh):Con Sg:=conS [.sl C.bool] [.vec 95 C.span] fun a K=>X a.1 (fun q0=>K (q0,()))
theorem q72:MT 150 (q3u J0):=mS (l:=[]) trivial (by kernel_rfl) [(7,⟨[0,2],[],[],[(.slot 3,.own 95 C.span),sI 4]⟩)] fun a K=>by kernel_rfl
def z8d(X:q68):Con Sg:=conS [.sl C.i64,.int .i64] [.vec 95 C.span] fun a K=>X a.1 a.2.1 (fun q0=>K (q0,()))
theorem w8r(Q4:Wh)(h:AL [(150,q3u Q4)]):MT 151 (z8d (z7q Q4)):=mS h (by kernel_rfl) [(7,⟨bl 947,[],[],[sI 6,(.obj 0,.own 4 C.bool)]⟩)] fun a K=>by kernel_rfl
theorem w8s:MT 151 (z8d q69):=w8r J0 ⟨q72,trivial⟩
def z4j(X:Bv):Con Sg:=conS [.sl C.span] [.vec 4 C.bool] fun a K=>X a.1 (fun q0=>K (q0,()))
theorem z98:MT 96 (z4j Hx):=mS (l:=[]) trivial (by kernel_rfl) [(7,⟨bl 77,[],[],[sI 4,(.obj 0,.own 4 C.bool)]⟩),(13,⟨bl 518109,[],[],[sI 5,(.obj 0,.own 4 C.bool)]⟩)] fun a K=>by kernel_rfl
def z8e(X:q7a):Con Sg:=conS [.sl C.span,.sl C.span] [.vec 95 C.span] fun a K=>X a.1 a.2.1 (fun q0=>K (q0,()))
theorem w8t(Z9:Bv)(Q4:Wh)(h:AL [(96,z4j Z9),(150,q3u Q4)]):MT 90 (z8e (z7r Z9 Q4)):=mS h (by kernel_rfl) [(7,⟨bl 3955,[1],[],[sI 7,(.obj 0,.own 4 C.bool)]⟩)] fun a K=>by kernel_rfl
theorem w8u:MT 90 (z8e q7b):=w8t Hx J0 ⟨z98,q72,trivial⟩
def z8f(X:q7c):Con Sg:=conS [.el C.env,.str,.str,.int .i64] [.vec 95 C.span] fun a K=>X a.1 a.2.1 a.2.2.1 a.2.2.2.1 (fun q0=>K (q0,()))
theorem w8v(Zs:Vo)(q0y:q7a)(Rn:q1l)(q33:q68)(h:AL [(41,q57 Zs),(90,z8e q0y),(95,z4i Rn),(151,z8d q33)]):MT 94 (z8f (z7s Zs q0y Rn q33)):=mS h (by kernel_rfl) [(10,⟨bl 254751,[0],[],[(.slot 10,.own 95 C.span)]⟩),(13,⟨bl 254751,[0],[],[(.slot 10,.own 95 C.span),sI 11]⟩)] fun a K=>by kernel_rfl
theorem w8w:MT 94 (z8f q7d):=w8v Vp q7b Hw q69 ⟨z1r,w8u,j7s,w8s,trivial⟩
def z1s(X:q0h):Con Sg:=conS [.sl C.span,.sl C.span] [.vec 95 C.span] fun a K=>X a.1 a.2.1 (fun q0=>K (q0,()))
theorem w8x(Z9:Bv)(Q4:Wh)(h:AL [(96,z4j Z9),(150,q3u Q4)]):MT 118 (z1s (z7t Z9 Q4)):=mS h (by kernel_rfl) [(7,⟨bl 3955,[1],[],[sI 7,(.obj 0,.own 4 C.bool)]⟩)] fun a K=>by kernel_rfl
theorem j7t:MT 118 (z1s q0i):=w8x Hx J0 ⟨z98,q72,trivial⟩
def j20(X:q98):Con Sg:=conS [.el C.env,.str,.int .i64] [.vec 95 C.span,.int .i64] fun a K=>X a.1 a.2.1 a.2.2.1 (fun q0 q1=>K (q0,q1,()))
theorem v2w(z6d:z5y)(Zs:Vo)(z2g:q7c)(Gk:q0h)(h:AL [(149,w08 z6d),(41,q57 Zs),(94,z8f z2g),(118,z1s Gk)]):MT 88 (j20 (j2b z6d Zs z2g Gk)):=mS h (by kernel_rfl) [] fun a K=>by kernel_rfl
theorem v2x:MT 88 (j20 q99):=v2w q97 Vp q7d q0i ⟨v2v,z1r,w8w,j7t,trivial⟩
def z8g(X:q7e):Con Sg:=conS [.sl C.span,.int .i64] [.vec 95 C.span] fun a K=>X a.1 a.2.1 (fun q0=>K (q0,()))
theorem w8y(Z9:Bv)(Q4:Wh)(h:AL [(96,z4j Z9),(150,q3u Q4)]):MT 91 (z8g (z7u Z9 Q4)):=mS h (by kernel_rfl) [(7,⟨bl 433,[],[],[sI 1,sI 6,(.obj 0,.own 4 C.bool)]⟩)] fun a K=>by kernel_rfl
theorem w8z:MT 91 (z8g q7f):=w8y Hx J0 ⟨z98,q72,trivial⟩
def q2l(X:Vq):Con Sg:=conV [.v] [.str] [.bool] [.same] fun a K=>X a.1 (fun q0=>K (q0,()) ((),()))
theorem q8v:MT 246 (q2l Jp):=⟨entB (by kernel_rfl),z93⟩
def R8(X:Jm):Con Sg:=conS [.str] [.bool] fun a K=>X a.1 (fun q0=>K (q0,()))
theorem v2y(Zt:Vq)(h:AL [(246,q2l Zt)]):MT 209 (R8 (z5z Zt)):=mS h (by kernel_rfl) [(9,⟨bl 4081,[],[],[sI 3]⟩)] fun a K=>by kernel_rfl
theorem q3v:MT 209 (R8 Z2):=v2y Jp ⟨q8v,trivial⟩
def w57(X:z9v):Con Sg:=conS [.str] [.bool] fun a K=>X a.1 (fun q0=>K (q0,()))
theorem v6y:MT 247 (w57 z3m):=mS (l:=[]) trivial (by kernel_rfl) [(5,⟨[0],[],[],[sI 3]⟩)] fun a K=>by kernel_rfl
def z99(X:q50):Con Sg:=conS [] [.vec 9 C.str] fun _ K=>X (fun q0=>K (q0,()))
theorem w3a:MT 248 (z99 q1m):=mS (l:=[]) trivial (by kernel_rfl) [] fun a K=>by kernel_rfl
def R9(X:Jf):Con Sg:=conS [.str] [.bool] fun a K=>X a.1 (fun q0=>K (q0,()))
theorem y0t(j1g:z9v)(q6d:q50)(h:AL [(247,w57 j1g),(248,z99 q6d)]):MT 210 (R9 (w2p j1g q6d)):=mS h (by kernel_rfl) [(11,⟨bl 16361,[0],[],[sI 4]⟩)] fun a K=>by kernel_rfl
theorem q2m:MT 210 (R9 Jg):=y0t z3m q1m ⟨v6y,w3a,trivial⟩
def z1t(X:q1n):Con Sg:=conS [.el C.settings] [.int .i64] fun a K=>X a.1 (fun q0=>K (q0,()))
theorem w3b(Qs:Jm)(Qk:Jf)(h:AL [(209,R8 Qs),(210,R9 Qk)]):MT 152 (z1t (z08 Qs Qk)):=mS h (by kernel_rfl) [] fun _ _=>by kernel_rfl
theorem w3c:MT 152 (z1t q1o):=w3b Z2 Jg ⟨q3v,q2m,trivial⟩
end Go.En
end
noncomputable section
set_option maxRecDepth 100000
open Go Go.RowKit Go.Fl Go.Fl.Lk Go.Fx
namespace Go.En
def z1u(X:q1p):Con Sg:=conS [.sl C.decl] [.int .i64] fun a K=>X a.1 (fun q0=>K (q0,()))
theorem w3d(Qk:Jf)(h:AL [(210,R9 Qk)]):MT 153 (z1u (z09 Qk)):=mS h (by kernel_rfl) [(9,⟨bl 113,[],[],[sI 3]⟩)] fun a K=>by kernel_rfl
theorem w3e:MT 153 (z1u q1q):=w3d Jg ⟨q2m,trivial⟩
def q8w(X:Hy):Con Sg:=conS [.sl C.str] [.int .i64] fun a K=>X a.1 (fun q0=>K (q0,()))
theorem w58(Qs:Jm)(h:AL [(209,R8 Qs)]):MT 249 (q8w (z3n Qs)):=mS h (by kernel_rfl) [(9,⟨bl 113,[],[],[sI 3]⟩)] fun a K=>by kernel_rfl
theorem j36:MT 249 (q8w Hz):=w58 Z2 ⟨q3v,trivial⟩
def w59(X:z9w):Con Sg:=conS [.el C.ex] [.bool] fun a K=>X a.1 (fun q0=>K (q0,()))
theorem v6z:MT 250 (w59 z3o):=mS (l:=[]) trivial (by kernel_rfl) [] fun a K=>by kernel_rfl
def z8h(X:q7g):Con Sg:=conS [.el C.ex] [.bool] fun a K=>X a.1 (fun q0=>K (q0,()))
theorem w80(Q1:W6)(h:AL [(143,q0s Q1)]):MT 301 (z8h (z7v Q1)):=mS h (by kernel_rfl) [(20,⟨bl 16327,[0],[],[sB 3,sB 4]⟩)] fun a K=>by kernel_rfl
theorem w81:MT 301 (z8h q7h):=w80 Jj ⟨z1p,trivial⟩
def w09(X:z50):Con Sg:=conS [.el C.val] [.bool] fun a K=>X a.1 (fun q0=>K (q0,()))
theorem v2z:MT 243 (w09 q3d):=mS (l:=[]) trivial (by kernel_rfl) [] fun a K=>by kernel_rfl
def z2s(X:B7):Con Sg:=conS [.str] [.int .i64,.int .i64] fun a K=>X a.1 (fun q0 q1=>K (q0,q1,()))
theorem j4t:MT 245 (z2s Jv):=mS (l:=[]) trivial (by kernel_rfl) [(8,⟨bl 269,[],[],[(.slot 4,.str)]⟩),(11,⟨[0,4,8],[],[],[sI 5]⟩),(31,⟨bl 562915601547569,[],[],[sI 6,sI 7]⟩)] fun a K=>by kernel_rfl
def j21(X:q6q):Con Sg:=conS [.str] [.el C.a3,.bool] fun a K=>X a.1 (fun q0 q1=>K (q0,q1,()))
theorem v22(G9:B7)(h:AL [(245,z2s G9)]):MT 207 (j21 (z52 G9)):=mS h (by kernel_rfl) [(9,⟨[0,2,4],[],[(1,(257,3)),(0,(257,3))],[sI 5,sI 6,(.cell 1 0,.int .i64),(.cell 1 1,.int .i64),(.cell 1 2,.int .i64),(.cell 0 0,.int .i64),(.cell 0 1,.int .i64),(.cell 0 2,.int .i64)]⟩),(15,⟨bl 19669,[1,0],[],[sI 5]⟩)] fun a K=>by kernel_rfl
theorem v23:MT 207 (j21 q02):=v22 Jv ⟨j4t,trivial⟩
def j7u(X:z3p):Con Sg:=conS [.sl C.str] [.int .i64] fun a K=>X a.1 (fun q0=>K (q0,()))
theorem v60(Qs:Jm)(h:AL [(209,R8 Qs)]):MT 244 (j7u (z9x Qs)):=mS h (by kernel_rfl) [(9,⟨bl 225,[],[],[sI 3]⟩),(19,⟨bl 4073,[],[],[sI 4]⟩)] fun a K=>by kernel_rfl
theorem v61:MT 244 (j7u q7i):=v60 Z2 ⟨q3v,trivial⟩
def z59(X:q03):Con Sg:=conS [.el C.val] [.int .i64] fun a K=>X a.1 (fun q0=>K (q0,()))
theorem v25(z6e:z50)(Qs:Jm)(q34:q6q)(j1h:z3p)(h:AL [(243,w09 z6e),(209,R8 Qs),(207,j21 q34),(244,j7u j1h)]):MT 205 (z59 (z54 z6e Qs q34 j1h)):=mS h (by kernel_rfl) [] fun a K=>by kernel_rfl
theorem w1a:MT 205 (z59 He):=v25 q3d Z2 q02 q7i ⟨v2z,q3v,v23,v61,trivial⟩
def j0a(X:z3q):Con Sg:=conS [.el C.ex] [.int .i64] fun a K=>X a.1 (fun q0=>K (q0,()))
theorem v62(z2h:q7g)(Q1:W6)(Qk:Jf)(Jn:q03)(h:AL [(301,z8h z2h),(143,q0s Q1),(210,R9 Qk),(205,z59 Jn)]):MT 292 (j0a (j66 z2h Q1 Qk Jn)):=mS h (by kernel_rfl) [(17,⟨bl 134217667,[0],[],[sI 3]⟩),(31,⟨bl 9412450882139616968651,[0],[],[sI 4]⟩)] fun a K=>by kernel_rfl
theorem v63:MT 292 (j0a z0a):=v62 q7h Jj Jg He ⟨w81,z1p,q2m,w1a,trivial⟩
def j7v(X:q4t):Con Sg:=conV [.el C.ex,.v,.ptr 3 [.v]] [.el C.ex,.int .i64,.ptr 3 [.int .i64]] [.int .i64] [.same,.same,.ptr 3 [.int .i64]] fun a K=>X a.1 a.2.1 a.2.2.1.1 (fun q0 q1=>K (q0,()) ((),(),(q1,()),()))
def w1b:PT:=Q3 ([(21,⟨bl 33553551,[1],[(0,(3,1))],[sI 8,(.cell 0 0,.int .i64)]⟩)]:LS)
theorem w82(j1i:z3q)(X:q4t)(e:Ex)(depth:Int)(n:Int)(K:Int->Int->Prop):j67 j1i X e depth n K=fnV (((WL [(292,j0a j1i)]).with 277 (j7v X)).pl w1b) 4 277 ([.el C.ex,.v,.ptr 3 [.v]]:LP) ([.v]:LP) ([.el C.ex,.int .i64,.ptr 3 [.int .i64]]:LV) ([.int .i64]:LV) ([.same,.same,.ptr 3 [.int .i64]]:LV) (e,depth,(n,()),()) (fun r o=>K r.1 o.2.2.1.1):=by kernel_rfl
theorem v64:MT 277 (j7v z3r):=by
 show MT _ (conV ([.el C.ex,.v,.ptr 3 [.v]]:LP) ([.el C.ex,.int .i64,.ptr 3 [.int .i64]]:LV) ([.int .i64]:LV) ([.same,.same,.ptr 3 [.int .i64]]:LV) fun a K=>z3r a.1 a.2.1 a.2.2.1.1 (fun q0 q1=>K (q0,()) ((),(),(q1,()),())))
 refine mR (l:=[(292,j0a z0a)]) (u:=4) (rk:=[.v]) (p:=w1b) ⟨v63,trivial⟩ (by kernel_rfl) fun a K h X hX=> ?_
 exact h (fun e depth n K=>X (e,depth,(n,()),()) fun r o=>K r.1 o.2.2.1.1) (fun e depth n K hs=>hX (e,depth,(n,()),()) (fun r o=>K r.1 o.2.2.1.1) (Eq.mp (w82 z0a (fun e depth n K=>X (e,depth,(n,()),()) fun r o=>K r.1 o.2.2.1.1) e depth n K) hs))
def z4k(X:q1r):Con Sg:=conS [.el C.ex] [.int .i64] fun a K=>X a.1 (fun q0=>K (q0,()))
theorem v65(j1j:q4t)(h:AL [(277,j7v j1j)]):MT 251 (z4k (j68 j1j)):=mS h (by kernel_rfl) [] fun a K=>by kernel_rfl
theorem j7w:MT 251 (z4k q1s):=v65 z3r ⟨v64,trivial⟩
def z4l(X:q4u):Con Sg:=conS [.el C.seg] [.int .i64] fun a K=>X a.1 (fun q0=>K (q0,()))
theorem w6a(Qk:Jf)(Wz:Hy)(j1k:z9w)(V1:q1r)(h:AL [(210,R9 Qk),(249,q8w Wz),(250,w59 j1k),(251,z4k V1)]):MT 211 (z4l (z3s Qk Wz j1k V1)):=mS h (by kernel_rfl) [] fun a K=>by kernel_rfl
theorem w6b:MT 211 (z4l q4v):=w6a Jg Hz z3o q1s ⟨q2m,j36,v6z,j7w,trivial⟩
def z1v(X:q1t):Con Sg:=conS [.sl C.seg] [.int .i64] fun a K=>X a.1 (fun q0=>K (q0,()))
theorem w3f(q82:q4u)(h:AL [(211,z4l q82)]):MT 154 (z1v (z1a q82)):=mS h (by kernel_rfl) [(9,⟨bl 225,[],[],[sI 3]⟩)] fun _ _=>by kernel_rfl
theorem w3g:MT 154 (z1v q1u):=w3f q4v ⟨w6b,trivial⟩
end Go.En
end
noncomputable section
set_option maxRecDepth 100000
open Go Go.RowKit Go.Fl Go.Fl.Lk Go.Fx
namespace Go.En
def q73(X:H0):Con Sg:=conS [.el C.flag] [.int .i64] fun a K=>X a.1 (fun q0=>K (q0,()))
theorem j7x(Jn:q03)(h:AL [(205,z59 Jn)]):MT 252 (q73 (q7j Jn)):=mS h (by kernel_rfl) [(15,⟨bl 8139,[0],[],[sI 4]⟩)] fun a K=>by kernel_rfl
theorem j7y:MT 252 (q73 H1):=j7x He ⟨w1a,trivial⟩
def q2n(X:Vr):Con Sg:=conS [.sl C.prereq] [.int .i64] fun a K=>X a.1 (fun q0=>K (q0,()))
theorem j0b(Qk:Jf)(h:AL [(210,R9 Qk)]):MT 253 (q2n (q1v Qk)):=mS h (by kernel_rfl) [(9,⟨bl 113,[],[],[sI 3]⟩)] fun a K=>by kernel_rfl
theorem j0c:MT 253 (q2n Vs):=j0b Jg ⟨q2m,trivial⟩
def z4m(X:q4w):Con Sg:=conS [.sl C.target,.int .i64] [.int .i64] fun a K=>X a.1 a.2.1 (fun q0=>K (q0,()))
theorem w6c(Qk:Jf)(Wz:Hy)(h:AL [(210,R9 Qk),(249,q8w Wz)]):MT 254 (z4m (z3t Qk Wz)):=mS h (by kernel_rfl) [(9,⟨bl 899,[],[],[sI 5]⟩)] fun a K=>by kernel_rfl
theorem w6d:MT 254 (z4m q4x):=w6c Jg Hz ⟨q2m,j36,trivial⟩
def j22(X:q6r):Con Sg:=conS [.sl C.range,.int .i64] [.int .i64] fun a K=>X a.1 a.2.1 (fun q0=>K (q0,()))
theorem w1c:MT 258 (j22 q3e):=mS (l:=[]) trivial (by kernel_rfl) [(11,⟨bl 899,[],[],[sI 5,sI 6]⟩)] fun a K=>by kernel_rfl
def z6a(X:q3f):Con Sg:=conS [.el C.serve,.int .i64] [.int .i64] fun a K=>X a.1 a.2.1 (fun q0=>K (q0,()))
theorem v27(Qk:Jf)(Qs:Jm)(Bc:q6r)(h:AL [(210,R9 Qk),(209,R8 Qs),(258,j22 Bc)]):MT 256 (z6a (j2c Qk Qs Bc)):=mS h (by kernel_rfl) [] fun a K=>by kernel_rfl
theorem w1d:MT 256 (z6a q3g):=v27 Jg Z2 q3e ⟨q2m,q3v,w1c,trivial⟩
def j23(X:z0b):Con Sg:=conS [.sl C.rule,.int .i64] [.int .i64] fun a K=>X a.1 a.2.1 (fun q0=>K (q0,()))
theorem v29(Qk:Jf)(V1:q1r)(Bd:q3f)(h:AL [(210,R9 Qk),(251,z4k V1),(256,z6a Bd)]):MT 255 (j23 (j2d Qk V1 Bd)):=mS h (by kernel_rfl) [(9,⟨bl 3587,[],[],[sI 5]⟩),(19,⟨bl 33357347,[],[],[sI 6]⟩)] fun a K=>by kernel_rfl
theorem v3a:MT 255 (j23 z0c):=v29 Jg q1s q3g ⟨q2m,j7w,w1d,trivial⟩
def j7z(X:z3u):Con Sg:=conS [.el C.flag] [.int .i64] fun a K=>X a.1 (fun q0=>K (q0,()))
theorem v66(Qk:Jf)(q21:H0)(Hj:Vr)(q83:q4w)(z6f:z0b)(Bd:q3f)(h:AL [(210,R9 Qk),(252,q73 q21),(253,q2n Hj),(254,z4m q83),(255,j23 z6f),(256,z6a Bd)]):MT 212 (j7z (j69 Qk q21 Hj q83 z6f Bd)):=mS h (by kernel_rfl) [] fun a K=>by kernel_rfl
theorem v67:MT 212 (j7z z3v):=v66 Jg H1 Vs q4x z0c q3g ⟨q2m,j7y,j0c,w6d,v3a,w1d,trivial⟩
def j24(X:z0d):Con Sg:=conS [.sl C.flag] [.int .i64] fun a K=>X a.1 (fun q0=>K (q0,()))
theorem v3b(j1m:z3u)(h:AL [(212,j7z j1m)]):MT 155 (j24 (j2e j1m)):=mS h (by kernel_rfl) [(9,⟨bl 225,[],[],[sI 3]⟩)] fun a K=>by kernel_rfl
theorem v3c:MT 155 (j24 z0e):=v3b z3v ⟨v67,trivial⟩
def j25(X:z0f):Con Sg:=conS [.el C.layer] [.int .i64] fun a K=>X a.1 (fun q0=>K (q0,()))
theorem v3d(Qk:Jf)(Qs:Jm)(h:AL [(210,R9 Qk),(209,R8 Qs)]):MT 213 (j25 (j2f Qk Qs)):=mS h (by kernel_rfl) [(21,⟨bl 2199023255523,[0],[],[sI 3]⟩)] fun a K=>by kernel_rfl
theorem v3e:MT 213 (j25 z0g):=v3d Jg Z2 ⟨q2m,q3v,trivial⟩
def z8i(X:q7k):Con Sg:=conS [.sl C.layer] [.int .i64] fun a K=>X a.1 (fun q0=>K (q0,()))
theorem w83(z6g:z0f)(h:AL [(213,j25 z6g)]):MT 156 (z8i (z7w z6g)):=mS h (by kernel_rfl) [(9,⟨bl 225,[],[],[sI 3]⟩)] fun a K=>by kernel_rfl
theorem w84:MT 156 (z8i q7l):=w83 z0g ⟨v3e,trivial⟩
def w1e(X:z55):Con Sg:=conS [.sl C.span] [.int .i64] fun a K=>X a.1 (fun q0=>K (q0,()))
theorem v3f:MT 257 (w1e z0h):=mS (l:=[]) trivial (by kernel_rfl) [(9,⟨bl 113,[],[],[sI 3]⟩)] fun a K=>by kernel_rfl
def q74(X:H2):Con Sg:=conS [.el C.exper] [.int .i64] fun a K=>X a.1 (fun q0=>K (q0,()))
theorem j70(Qk:Jf)(Qs:Jm)(z6h:z55)(Bc:q6r)(V1:q1r)(h:AL [(210,R9 Qk),(209,R8 Qs),(257,w1e z6h),(258,j22 Bc),(251,z4k V1)]):MT 214 (q74 (q7m Qk Qs z6h Bc V1)):=mS h (by kernel_rfl) [] fun a K=>by kernel_rfl
theorem j71:MT 214 (q74 H3):=j70 Jg Z2 z0h q3e q1s ⟨q2m,q3v,v3f,w1c,j7w,trivial⟩
def q5m(X:Gw):Con Sg:=conS [.sl C.exper] [.int .i64] fun a K=>X a.1 (fun q0=>K (q0,()))
theorem j4u(q22:H2)(h:AL [(214,q74 q22)]):MT 157 (q5m (q5h q22)):=mS h (by kernel_rfl) [(9,⟨bl 225,[],[],[sI 3]⟩)] fun a K=>by kernel_rfl
theorem j4v:MT 157 (q5m Gx):=j4u H3 ⟨j71,trivial⟩
def q5n(X:Gy):Con Sg:=conS [.el C.env] [.int .i64] fun a K=>X a.1 (fun q0=>K (q0,()))
theorem j4w(q6e:q1n)(q6f:q1p)(q6g:q1t)(z6i:z0d)(z2i:q7k)(q0b:Gw)(h:AL [(152,z1t q6e),(153,z1u q6f),(154,z1v q6g),(155,j24 z6i),(156,z8i z2i),(157,q5m q0b)]):MT 99 (q5n (q5i q6e q6f q6g z6i z2i q0b)):=mS h (by kernel_rfl) [] fun _ _=>by kernel_rfl
theorem j4x:MT 99 (q5n Gz):=j4w q1o q1q q1u z0e q7l Gx ⟨w3c,w3e,w3g,v3c,w84,j4v,trivial⟩
end Go.En
end
noncomputable section
set_option maxRecDepth 100000
open Go Go.RowKit Go.Fl Go.Fl.Lk Go.Fx
namespace Go.En
def z6b(X:Rw):Con Sg:=conS [.sl C.seg] [.vec 9 C.str] fun a K=>X a.1 (fun q0=>K (q0,()))
theorem j26:MT 100 (z6b Rx):=mS (l:=[]) trivial (by kernel_rfl) [(7,⟨[0,2],[],[],[(.slot 3,.own 9 C.str),sI 4]⟩)] fun a K=>by kernel_rfl
def j0d(X:Ry):Con Sg:=conS [.sl C.str,.str] [.bool] fun a K=>X a.1 a.2.1 (fun q0=>K (q0,()))
theorem w3h:MT 81 (j0d U7):=mS (l:=[]) trivial (by kernel_rfl) [(5,⟨[0,1],[],[],[sI 5]⟩)] fun a K=>by kernel_rfl
def j0e(X:z0i):Con Sg:=conS [.sl C.decl,.str,.str] [.int .i64] fun a K=>X a.1 a.2.1 a.2.2.1 (fun q0=>K (q0,()))
theorem w6e:MT 158 (j0e q1w):=mS (l:=[]) trivial (by kernel_rfl) [(5,⟨[0,1,2],[],[],[sI 7]⟩)] fun a K=>by kernel_rfl
def j72(X:z9y):Con Sg:=conS [.int .i64,.el C.ex] [.bool] fun a K=>X a.1 a.2.1 (fun q0=>K (q0,()))
theorem v68:MT 159 (j72 q7n):=mS (l:=[]) trivial (by kernel_rfl) [(11,⟨bl 8075,[0],[],[sI 5]⟩),(36,⟨bl 8795019288539,[0],[],[sB 46]⟩)] fun a K=>by kernel_rfl
def z4n(X:G0):Con Sg:=conV [.sl C.decl,.sl C.str,.el C.ex] [.sl C.decl,.sl C.str,.el C.ex] [.int .i64] [.same,.same,.same] fun a K=>X a.1 a.2.1 a.2.2.1 (fun q0=>K (q0,()) ((),(),(),()))
def w1f:PT:=Q3 ([(18,⟨bl 1047591,[0],[],[]⟩),(21,⟨bl 1047591,[0],[],[sI 8]⟩)]:LS)
theorem w85(Zv:Ry)(Q1:W6)(B3:z0i)(z5i:z9y)(X:G0)(l:List (Decl))(segments:List (ByteArray))(e:Ex)(K:Int->Prop):j7a Zv Q1 B3 z5i X l segments e K=fnV (((WL [(81,j0d Zv),(143,q0s Q1),(158,j0e B3),(159,j72 z5i)]).with 101 (z4n X)).pl w1f) 4 101 ([.sl C.decl,.sl C.str,.el C.ex]:LP) ([.v]:LP) ([.sl C.decl,.sl C.str,.el C.ex]:LV) ([.int .i64]:LV) ([.same,.same,.same]:LV) (l,segments,e,()) (fun r _=>K r.1):=by kernel_rfl
theorem j73:MT 101 (z4n q1x):=by
 show MT _ (conV ([.sl C.decl,.sl C.str,.el C.ex]:LP) ([.sl C.decl,.sl C.str,.el C.ex]:LV) ([.int .i64]:LV) ([.same,.same,.same]:LV) fun a K=>q1x a.1 a.2.1 a.2.2.1 (fun q0=>K (q0,()) ((),(),(),())))
 refine mR (l:=[(81,j0d U7),(143,q0s Jj),(158,j0e q1w),(159,j72 q7n)]) (u:=4) (rk:=[.v]) (p:=w1f) ⟨w3h,z1p,w6e,v68,trivial⟩ (by kernel_rfl) fun a K h X hX=> ?_
 exact h (fun l segments e K=>X (l,segments,e,()) fun r _=>K r.1) (fun l segments e K hs=>hX (l,segments,e,()) (fun r _=>K r.1) (Eq.mp (w85 U7 Jj q1w q7n (fun l segments e K=>X (l,segments,e,()) fun r _=>K r.1) l segments e K) hs))
def j0f(X:q51):Con Sg:=conS [.sl C.str,.str] [.sl C.str] fun a K=>X a.1 a.2.1 (fun q0=>K (q0,()))
theorem w3i:MT 85 (j0f q1y):=mS (l:=[]) trivial (by kernel_rfl) [(5,⟨[0,1,4],[],[],[sI 5]⟩)] fun a K=>by kernel_rfl
def z4o(X:U2):Con Sg:=conV [.sl C.str,.el C.ex] [.sl C.str,.el C.ex] [.sl C.str] [.same,.same] fun a K=>X a.1 a.2.1 (fun q0=>K (q0,()) ((),(),()))
def j0g:PT:=Q3 ([(6,⟨[1,3,4],[0],[],[(.slot 0,.sl C.str)]⟩),(9,⟨[1,3,4],[0],[],[(.slot 0,.sl C.str),sI 5]⟩)]:LS)
theorem j9u(Uf:q51)(X:U2)(l:List (ByteArray))(e:Ex)(K:List (ByteArray)->Prop):q8n Uf X l e K=fnV (((WL [(85,j0f Uf)]).with 216 (z4o X)).pl j0g) 4 216 ([.sl C.str,.el C.ex]:LP) ([.sl C.str]:LP) ([.sl C.str,.el C.ex]:LV) ([.sl C.str]:LV) ([.same,.same]:LV) (l,e,()) (fun r _=>K r.1):=by kernel_rfl
theorem w6f:MT 216 (z4o q04):=by
 show MT _ (conV ([.sl C.str,.el C.ex]:LP) ([.sl C.str,.el C.ex]:LV) ([.sl C.str]:LV) ([.same,.same]:LV) fun a K=>q04 a.1 a.2.1 (fun q0=>K (q0,()) ((),(),())))
 refine mR (l:=[(85,j0f q1y)]) (u:=4) (rk:=[.sl C.str]) (p:=j0g) ⟨w3i,trivial⟩ (by kernel_rfl) fun a K h X hX=> ?_
 exact h (fun l e K=>X (l,e,()) fun r _=>K r.1) (fun l e K hs=>hX (l,e,()) (fun r _=>K r.1) (Eq.mp (j9u q1y (fun l e K=>X (l,e,()) fun r _=>K r.1) l e K) hs))
def z4p(X:q4y):Con Sg:=conS [.el C.ex] [.sl C.str] fun a K=>X a.1 (fun q0=>K (q0,()))
theorem w6g(q84:U2)(h:AL [(216,z4o q84)]):MT 161 (z4p (q8o q84)):=mS h (by kernel_rfl) [] fun a K=>by kernel_rfl
theorem w6h:MT 161 (z4p H4):=w6g q04 ⟨w6f,trivial⟩
def z8j(X:q3h):Con Sg:=conS [.sl C.seg] [.vec 217 C.edge] fun a K=>X a.1 (fun q0=>K (q0,()))
theorem w86(q85:q4y)(h:AL [(161,z4p q85)]):MT 103 (z8j (z1b q85)):=mS h (by kernel_rfl) [(7,⟨[0,2],[],[],[(.slot 3,.own 217 C.edge),sI 4]⟩),(15,⟨bl 518069,[],[],[(.slot 3,.own 217 C.edge),sI 6]⟩)] fun a K=>by kernel_rfl
theorem w87:MT 103 (z8j H5):=w86 H4 ⟨w6h,trivial⟩
def j27(X:z0j):Con Sg:=conS [.sl C.edge,.str] [.sl C.str] fun a K=>X a.1 a.2.1 (fun q0=>K (q0,()))
theorem v3g(Zv:Ry)(Uf:q51)(h:AL [(81,j0d Zv),(85,j0f Uf)]):MT 215 (j27 (j2g Zv Uf)):=mS h (by kernel_rfl) [(7,⟨bl 1555,[],[],[(.slot 5,.sl C.str),(.slot 6,.sl C.str)]⟩),(15,⟨bl 522899,[],[],[(.slot 5,.sl C.str),(.slot 6,.sl C.str),sI 8]⟩)] fun a K=>by kernel_rfl
theorem v3h:MT 215 (j27 z0k):=v3g U7 q1y ⟨w3h,w3i,trivial⟩
def z8k(X:q7o):Con Sg:=conS [.sl C.str,.sl C.edge] [.sl C.str] fun a K=>X a.1 a.2.1 (fun q0=>K (q0,()))
theorem w88(z6j:z0j)(Zv:Ry)(Uf:q51)(h:AL [(215,j27 z6j),(81,j0d Zv),(85,j0f Uf)]):MT 160 (z8k (z7x z6j Zv Uf)):=mS h (by kernel_rfl) [(7,⟨[0,1,4],[],[],[(.slot 5,.sl C.str),sI 6]⟩)] fun a K=>by kernel_rfl
theorem w89:MT 160 (z8k q7p):=w88 z0k U7 q1y ⟨v3h,w3h,w3i,trivial⟩
def z8l(X:q7q):Con Sg:=conS [.sl C.str,.sl C.edge] [.str,.bool] fun a K=>X a.1 a.2.1 (fun q0 q1=>K (q0,q1,()))
theorem w9a(z2j:q7o)(h:AL [(160,z8k z2j)]):MT 102 (z8l (z7y z2j)):=mS h (by kernel_rfl) [] fun a K=>by kernel_rfl
theorem w9b:MT 102 (z8l q7r):=w9a q7p ⟨w89,trivial⟩
def z4q(X:q05):Con Sg:=conS [.el C.env,.str] [.int .i64] fun a K=>X a.1 a.2.1 (fun q0=>K (q0,()))
theorem j37:MT 162 (z4q q06):=mS (l:=[]) trivial (by kernel_rfl) [(5,⟨[0,1,2],[0],[],[sI 5]⟩)] fun a K=>by kernel_rfl
def j28(X:z0l):Con Sg:=conS [.sl C.decl,.el C.serve] [.int .i64] fun a K=>X a.1 a.2.1 (fun q0=>K (q0,()))
theorem v3i(B3:z0i)(h:AL [(158,j0e B3)]):MT 163 (j28 (j2h B3)):=mS h (by kernel_rfl) [] fun _ _=>by kernel_rfl
theorem v3j:MT 163 (j28 z0m):=v3i q1w ⟨w6e,trivial⟩
end Go.En
end
noncomputable section
set_option maxRecDepth 100000
open Go Go.RowKit Go.Fl Go.Fl.Lk Go.Fx
namespace Go.En
def q75(X:H6):Con Sg:=conS [.el C.env,.el C.flag] [.int .i64] fun a K=>X a.1 a.2.1 (fun q0=>K (q0,()))
theorem j74(Jt:Rw)(V2:q05)(V3:G0)(z0t:z0l)(Z5:Jy)(h:AL [(100,z6b Jt),(162,z4q V2),(101,z4n V3),(163,j28 z0t),(116,R7 Z5)]):MT 104 (q75 (q7s Jt V2 V3 z0t Z5)):=mS h (by kernel_rfl) [(7,⟨bl 229423,[1,0],[],[sI 6,(.obj 2,.own 9 C.str)]⟩),(23,⟨bl 8355951,[1,0],[],[sI 8,(.obj 2,.own 9 C.str)]⟩)] fun a K=>by kernel_rfl
theorem j75:MT 104 (q75 H7):=j74 Rx q06 q1x z0m Jz ⟨j26,j37,j73,v3j,z0r,trivial⟩
def z64(X:q37):Con Sg:=conS [.el C.env] [.vec 9 C.str] fun a K=>X a.1 (fun q0=>K (q0,()))
theorem j9v:MT 105 (z64 q38):=mS (l:=[]) trivial (by kernel_rfl) [(7,⟨[0,1,2],[0],[],[(.slot 3,.own 9 C.str),sI 4]⟩)] fun a K=>by kernel_rfl
def z4r(X:q1z):Con Sg:=conS [.el C.env] [.vec 217 C.edge] fun a K=>X a.1 (fun q0=>K (q0,()))
theorem j76:MT 106 (z4r H8):=mS (l:=[]) trivial (by kernel_rfl) [(7,⟨[0,1,2],[0],[],[(.slot 3,.own 217 C.edge),sI 4]⟩),(13,⟨bl 2007,[],[],[(.slot 3,.own 217 C.edge),sI 5]⟩)] fun a K=>by kernel_rfl
def z4s(X:q4z):Con Sg:=conS [.sl C.span,.sl C.span] [.vec 95 C.span] fun a K=>X a.1 a.2.1 (fun q0=>K (q0,()))
theorem w6i(Z9:Bv)(Q4:Wh)(h:AL [(96,z4j Z9),(150,q3u Q4)]):MT 93 (z4s (z3w Z9 Q4)):=mS h (by kernel_rfl) [(7,⟨bl 3955,[1],[],[sI 7,(.obj 0,.own 4 C.bool)]⟩)] fun a K=>by kernel_rfl
theorem w6j:MT 93 (z4s q40):=w6i Hx J0 ⟨z98,q72,trivial⟩
def Rl(X:Wd):Con Sg:=conS [.el C.env,.int .i64] [.int .i64] fun a K=>X a.1 a.2.1 (fun q0=>K (q0,()))
theorem z4t(Zs:Vo)(V2:q05)(Jt:Rw)(V3:G0)(q86:q4z)(h:AL [(41,q57 Zs),(162,z4q V2),(100,z6b Jt),(101,z4n V3),(93,z4s q86)]):MT 107 (Rl (H9 Zs V2 Jt V3 q86)):=mS h (by kernel_rfl) [(13,⟨bl 17179836647,[1,0],[],[sI 8]⟩),(35,⟨bl 151078797935433964553191,[1,0],[],[(.slot 10,.own 95 C.span),sI 11,(.obj 4,.own 9 C.str)]⟩),(51,⟨bl 159723976762087930960904772882407,[1,0],[],[sI 13,(.obj 9,.own 95 C.span),(.obj 6,.own 95 C.span),(.obj 4,.own 9 C.str)]⟩)] fun a K=>by kernel_rfl
theorem z4u:MT 107 (Rl We):=z4t Vp q06 Rx q1x q40 ⟨z1r,j37,j26,j73,w6j,trivial⟩
def q3w(X:Uo):Con Sg:=conS [.el C.env] [.str,.int .i64] fun a K=>X a.1 (fun q0 q1=>K (q0,q1,()))
theorem j29(q0c:Gy)(Jt:Rw)(V3:G0)(q35:q3h)(q8g:q7q)(q23:H6)(q4k:q37)(q24:q1z)(V4:Wd)(h:AL [(99,q5n q0c),(100,z6b Jt),(101,z4n V3),(103,z8j q35),(102,z8l q8g),(104,q75 q23),(105,z64 q4k),(106,z4r q24),(107,Rl V4)]):MT 54 (q3w (q3i q0c Jt V3 q35 q8g q23 q4k q24 V4)):=mS h (by kernel_rfl) [(13,⟨bl 15663155,[0],[],[sI 6,(.obj 1,.own 9 C.str)]⟩),(33,⟨bl 294571444427585160051,[0],[],[sI 10,(.obj 1,.own 9 C.str),(.obj 4,.own 217 C.edge)]⟩),(51,⟨bl 10121397798090180814242575234931,[0],[],[sI 14,(.obj 8,.own 9 C.str),(.obj 9,.own 217 C.edge),(.obj 4,.own 217 C.edge),(.obj 1,.own 9 C.str)]⟩)] fun a K=>by kernel_rfl
theorem j3a:MT 54 (q3w Up):=j29 Gz Rx q1x H5 q7r H7 q38 H8 We ⟨j4x,j26,j73,w87,w9b,j75,j9v,j76,z4u,trivial⟩
def z1w(X:q0j):Con Sg:=conS [.el C.env] [.bool] fun a K=>X a.1 (fun q0=>K (q0,()))
theorem w9c(Be:Uo)(h:AL [(54,q3w Be)]):MT 26 (z1w (z7z Be)):=mS h (by kernel_rfl) [] fun a K=>by kernel_rfl
theorem j77:MT 26 (z1w V8):=w9c Up ⟨j3a,trivial⟩
def q76(X:Ra):Con Sg:=conV [.ptr 104 [.c,.v],.v] [.ptr 104 [.sl C.u8,.int .i64],.int .i64] [.el C.env] [.ptr 104 [.same,.int .i64],.same] fun a K=>X a.1.1 a.1.2.1 a.2.1 (fun q0 q1=>K (q0,()) (((),q1,()),(),()))
theorem j78(Q2:Wu)(q87:q4r)(Qb:Zg)(q2w:z5v)(Je:q1j)(q4f:z04)(z5j:z3g)(Rp:q1k)(q4g:q36)(Z5:Jy)(j1n:z3k)(Wf:q1h)(q2x:q63)(z6k:q98)(Wp:q5y)(Gk:q0h)(z2k:q7e)(Wj:q0j)(h:AL [(57,q49 Q2),(59,z4e q87),(49,Vg Qb),(60,w2x q2w),(109,z4d Je),(112,j5x q4f),(115,j7i z5j),(114,z4f Rp),(113,j5z q4g),(116,R7 Z5),(62,j7r j1n),(58,z58 Wf),(117,z96 q2x),(88,j20 z6k),(51,z95 Wp),(118,z1s Gk),(91,z8g z2k),(26,z1w Wj)]):MT 31 (q76 (q7t Q2 q87 Qb q2w Je q4f z5j Rp q4g Z5 j1n Wf q2x z6k Wp Gk z2k Wj)):=mP (rk:=[.el C.env]) h (by kernel_rfl) [(8,⟨bl 3123,[1],[(3,(36,8)),(0,(104,2))],[(.cell 3 0,.str),(.cell 3 1,.str),(.cell 3 2,.int .i64),(.cell 0 1,.int .i64),(.obj 2,.own 177 C.decl)]⟩),(15,⟨bl 98569331,[2,1],[(0,(104,2)),(3,(36,8))],[sI 7,(.cell 0 1,.int .i64),(.cell 3 5,.own 122 C.flag),(.obj 10,.own 147 C.seg),(.obj 12,.own 59 C.layer),(.obj 13,.own 68 C.exper)]⟩),(62000009,⟨bl 1073218007,[22,21],[(0,(104,2)),(23,(122,13))],[sI 9,(.cell 0 1,.int .i64),(.cell 23 2,.own 115 C.val),(.obj 13,.own 68 C.exper),(.obj 12,.own 59 C.layer),(.obj 17,.own 122 C.flag),(.obj 10,.own 147 C.seg)]⟩),(62000019,⟨bl 545366356788183,[22,21],[(23,(122,13)),(0,(104,2))],[sI 10,(.cell 23 5,.own 188 C.prereq),(.cell 0 1,.int .i64),(.obj 10,.own 147 C.seg),(.obj 17,.own 122 C.flag),(.obj 12,.own 59 C.layer),(.obj 13,.own 68 C.exper),(.obj 27,.own 115 C.val)]⟩),(62000029,⟨bl 17996814912849879,[22,21],[(23,(122,13)),(0,(104,2))],[sI 11,(.cell 23 6,.own 190 C.target),(.cell 0 1,.int .i64),(.obj 27,.own 115 C.val),(.obj 13,.own 68 C.exper),(.obj 12,.own 59 C.layer),(.obj 17,.own 122 C.flag),(.obj 10,.own 147 C.seg),(.obj 34,.own 188 C.prereq)]⟩),(62000038,⟨bl 19688565898261847554177638359,[23],[(51,(190,3)),(0,(104,2))],[(.cell 51 0,.str),(.cell 0 1,.int .i64),(.obj 50,.own 9 C.str),(.obj 34,.own 188 C.prereq),(.obj 10,.own 147 C.seg),(.obj 17,.own 122 C.flag),(.obj 12,.own 59 C.layer),(.obj 13,.own 68 C.exper),(.obj 27,.own 115 C.val),(.obj 42,.own 190 C.target)]⟩),(62000060,⟨bl 324518589926201333218846174621655,[22,21],[(0,(104,2)),(23,(122,13))],[(.cell 0 1,.int .i64),(.cell 23 7,.own 193 C.rule),(.obj 50,.own 9 C.str),(.obj 34,.own 188 C.prereq),(.obj 10,.own 147 C.seg),(.obj 17,.own 122 C.flag),(.obj 12,.own 59 C.layer),(.obj 13,.own 68 C.exper),(.obj 27,.own 115 C.val),(.obj 42,.own 190 C.target)]⟩),(62000047,⟨bl 324518589926201333218846174621655,[],[(0,(104,2)),(23,(122,13))],[sI 14,(.cell 0 1,.int .i64),(.cell 23 7,.own 193 C.rule),(.obj 50,.own 9 C.str),(.obj 34,.own 188 C.prereq),(.obj 10,.own 147 C.seg),(.obj 17,.own 122 C.flag),(.obj 12,.own 59 C.layer),(.obj 13,.own 68 C.exper),(.obj 27,.own 115 C.val),(.obj 42,.own 190 C.target)]⟩),(25,⟨bl 387030204812531,[2,1],[(0,(104,2)),(3,(36,8))],[sI 8,(.cell 0 1,.int .i64),(.cell 3 6,.own 59 C.layer),(.obj 13,.own 68 C.exper),(.obj 10,.own 147 C.seg),(.obj 17,.own 122 C.flag)]⟩),(35,⟨bl 811665570522726403571,[2,1],[(0,(104,2)),(3,(36,8))],[sI 9,(.cell 0 1,.int .i64),(.cell 3 7,.own 68 C.exper),(.obj 17,.own 122 C.flag),(.obj 10,.own 147 C.seg),(.obj 24,.own 59 C.layer)]⟩),(64000010,⟨bl 140737488348975,[37,36,35],[(40,(68,12)),(0,(104,2))],[(.cell 40 4,.int .i64),(.cell 0 1,.int .i64),(.obj 39,.own 70 C.range),(.obj 31,.own 68 C.exper),(.obj 24,.own 59 C.layer),(.obj 17,.own 122 C.flag),(.obj 10,.own 147 C.seg)]⟩),(64000014,⟨bl 140737488348975,[37,36,35],[(40,(68,12)),(0,(104,2))],[(.cell 40 7,.int .i64),(.cell 40 8,.str),(.cell 40 9,.str),(.cell 40 10,.sl C.val),(.cell 40 11,.sl C.ex),(.cell 0 1,.int .i64),(.obj 10,.own 147 C.seg),(.obj 17,.own 122 C.flag),(.obj 24,.own 59 C.layer),(.obj 31,.own 68 C.exper),(.obj 39,.own 70 C.range)]⟩)] fun a K=>by kernel_rfl
theorem j79:MT 31 (q76 Rb):=j78 Ju q4s Zc z5w Ui z05 z3h Hq z06 Jz z3l q1i q64 q99 q5z q0i q7f V8 ⟨q8t,w53,Gf,v1b,j7g,v1c,v6t,j7h,v1d,z0r,v6x,j5w,w54,v2x,w2w,j7t,w8z,j77,trivial⟩
def z65(X:q39):Con Sg:=conS [] [.el C.env] fun _ K=>X (fun q0=>K (q0,()))
theorem j9w:MT 30 (z65 q4a):=mS (l:=[]) trivial (by kernel_rfl) [] fun a K=>by kernel_rfl
def q77(X:Uq):Con Sg:=conS [.el C.subj,.str] [.int .i64] fun a K=>X a.1 a.2.1 (fun q0=>K (q0,()))
theorem z4v:MT 64 (q77 W8):=mS (l:=[]) trivial (by kernel_rfl) [(120000005,⟨bl 195,[1],[],[sI 8]⟩)] fun a K=>by kernel_rfl
def q2o(X:Vt):Con Sg:=conS [.el C.val] [.el C.val] fun a K=>X a.1 (fun q0=>K (q0,()))
theorem z1x:MT 170 (q2o J5):=mS (l:=[]) trivial (by kernel_rfl) [] fun a K=>by kernel_rfl
def q3x(X:Ur):Con Sg:=conS [.el C.attr] [.el C.attr] fun a K=>X a.1 (fun q0=>K (q0,()))
theorem j3b(Zu:Vt)(h:AL [(170,q2o Zu)]):MT 122 (q3x (q3j Zu)):=mS h (by kernel_rfl) [] fun a K=>by kernel_rfl
theorem j3c:MT 122 (q3x Us):=j3b J5 ⟨z1x,trivial⟩
def q78(X:Rd):Con Sg:=conS [.el C.ctx] [.el C.ctx] fun a K=>X a.1 (fun q0=>K (q0,()))
theorem j8a(Bf:Ur)(h:AL [(122,q3x Bf)]):MT 65 (q78 (q7u Bf)):=mS h (by kernel_rfl) [(122000007,⟨bl 7955,[],[],[(.slot 5,.own 180 C.attr),sI 13]⟩)] fun a K=>by kernel_rfl
theorem j8b:MT 65 (q78 Re):=j8a Us ⟨j3c,trivial⟩
def B1(X:J6):Con Sg:=conS [.el C.subj,.str] [.el C.ctx,.bool] fun a K=>X a.1 a.2.1 (fun q0 q1=>K (q0,q1,()))
theorem j9x(Js:Uq)(q25:Rd)(h:AL [(64,q77 Js),(65,q78 q25)]):MT 35 (B1 (q9g Js q25)):=mS h (by kernel_rfl) [] fun _ _=>by kernel_rfl
theorem q9r:MT 35 (B1 J7):=j9x W8 Re ⟨z4v,j8b,trivial⟩
end Go.En
end
noncomputable section
set_option maxRecDepth 100000
open Go Go.RowKit Go.Fl Go.Fl.Lk Go.Fx
namespace Go.En
def z66(X:q4b):Con Sg:=conS [.sl C.bytes] [.vec 5 C.u8] fun a K=>X a.1 (fun q0=>K (q0,()))
theorem j9y:MT 124 (z66 Bw):=mS (l:=[]) trivial (by kernel_rfl) [(7,⟨bl 389,[],[],[(.slot 3,.own 5 C.u8),sI 9]⟩),(13,⟨bl 8101,[],[],[(.slot 3,.own 5 C.u8),sI 6]⟩)] fun a K=>by kernel_rfl
def q79(X:U8):Con Sg:=conS [.int .u64,.int .i64] [.int .u64] fun a K=>X a.1 a.2.1 (fun q0=>K (q0,()))
theorem z8m:MT 225 (q79 W9):=mS (l:=[]) trivial (by kernel_rfl) [] fun a K=>by kernel_rfl
def Ue(X:Ja):Con Sg:=conV [.ptr 251 [.v,.v,.v,.v],.v] [.ptr 251 [.int .u64,.int .u64,.int .u64,.int .u64],.int .i64] [] [.ptr 251 [.int .u64,.int .u64,.int .u64,.int .u64],.same] fun a K=>X a.1.1 a.1.2.1 a.1.2.2.1 a.1.2.2.2.1 a.2.1 (fun q0 q1 q2 q3=>K () ((q0,q1,q2,q3,()),(),()))
theorem z6q(Zp:U8)(h:AL [(225,q79 Zp)]):MT 172 (Ue (Bm Zp)):=mP (rk:=[]) h (by kernel_rfl) [(3,⟨[0,1,4],[],[(0,(251,4))],[sI 5,(.cell 0 0,.int IntKind.u64),(.cell 0 1,.int IntKind.u64),(.cell 0 2,.int IntKind.u64),(.cell 0 3,.int IntKind.u64)]⟩)] fun a K=>by kernel_rfl
theorem q5t:MT 172 (Ue Q8):=z6q W9 ⟨z8m,trivial⟩
def q2p(X:Vu):Con Sg:=conV [.ptr 251 [.v,.v,.v,.v],.v] [.ptr 251 [.int .u64,.int .u64,.int .u64,.int .u64],.int .u64] [] [.ptr 251 [.int .u64,.int .u64,.int .u64,.int .u64],.same] fun a K=>X a.1.1 a.1.2.1 a.1.2.2.1 a.1.2.2.2.1 a.2.1 (fun q0 q1 q2 q3=>K () ((q0,q1,q2,q3,()),(),()))
theorem j0h(Zj:Ja)(h:AL [(172,Ue Zj)]):MT 171 (q2p (q10 Zj)):=mP (rk:=[]) h (by kernel_rfl) [] fun a K=>by kernel_rfl
theorem j0i:MT 171 (q2p Vv):=j0h Q8 ⟨q5t,trivial⟩
def z4w(X:q41):Con Sg:=conS [.int .u64,.int .u64,.sl C.u8] [.int .u64] fun a K=>X a.1 a.2.1 a.2.2.1 (fun q0=>K (q0,()))
theorem w6k(V5:Vu)(Zj:Ja)(h:AL [(171,q2p V5),(172,Ue Zj)]):MT 123 (z4w (z3x V5 Zj)):=mS h (by kernel_rfl) [(9,⟨bl 67101127,[],[(0,(251,4))],[sI 9,(.cell 0 0,.int IntKind.u64),(.cell 0 1,.int IntKind.u64),(.cell 0 2,.int IntKind.u64),(.cell 0 3,.int IntKind.u64)]⟩),(17,⟨bl 2147476423,[0],[],[(.slot 10,.int IntKind.u64),sI 33]⟩),(29,⟨bl 15762600843272903,[0],[],[(.slot 8,.int IntKind.u64),sI 54]⟩)] fun a K=>by kernel_rfl
theorem w6l:MT 123 (z4w q42):=w6k Vv Q8 ⟨j0i,q5t,trivial⟩
def z1y(X:q11):Con Sg:=conS [.int .u64,.sl C.bytes] [.int .u64] fun a K=>X a.1 a.2.1 (fun q0=>K (q0,()))
theorem w3j(q4l:q4b)(q88:q41)(h:AL [(124,z66 q4l),(123,z4w q88)]):MT 66 (z1y (z1c q4l q88)):=mS h (by kernel_rfl) [] fun a K=>by kernel_rfl
theorem w3k:MT 66 (z1y q12):=w3j Bw q42 ⟨j9y,w6l,trivial⟩
def z1z(X:q0k):Con Sg:=conS [.str,.str] [.int .i64] fun a K=>X a.1 a.2.1 (fun q0=>K (q0,()))
theorem w9d(q6h:q11)(h:AL [(66,z1y q6h)]):MT 36 (z1z (z70 q6h)):=mS h (by kernel_rfl) [] fun a K=>by kernel_rfl
theorem j8c:MT 36 (z1z U9):=w9d q12 ⟨w3k,trivial⟩
def z4x(X:Rf):Con Sg:=conS [.sl C.forced,.str] [.el C.forced,.bool] fun a K=>X a.1 a.2.1 (fun q0 q1=>K (q0,q1,()))
theorem j8d:MT 20 (z4x Ut):=mS (l:=[]) trivial (by kernel_rfl) [(5,⟨bl 787,[],[(0,(54,3))],[sI 10,(.cell 0 0,.str),(.cell 0 1,.str),(.cell 0 2,.int .i64)]⟩)] fun a K=>by kernel_rfl
def j0j(X:q52):Con Sg:=conS [.el C.env,.el C.forced] [.bool] fun a K=>X a.1 a.2.1 (fun q0=>K (q0,()))
theorem w3l:MT 37 (j0j q13):=mSg 8 (l:=[]) trivial (by kernel_rfl) [(126000005,⟨bl 195,[1],[],[sI 8]⟩),(127000005,⟨bl 195,[],[],[sI 8]⟩)] fun a K=>by kernel_rfl
def z10(X:Rz):Con Sg:=conS [.el C.env,.el C.subj] [.bool] fun a K=>X a.1 a.2.1 (fun q0=>K (q0,()))
theorem w3m(Zm:J6)(Uc:q0k)(h:AL [(35,B1 Zm),(36,z1z Uc)]):MT 16 (z10 (z1d Zm Uc)):=mS h (by kernel_rfl) [] fun a K=>by kernel_rfl
theorem w3n:MT 16 (z10 R0):=w3m J7 U9 ⟨q9r,j8c,trivial⟩
def q58(X:R1):Con Sg:=conS [.int .i64] [.bool] fun a K=>X a.1 (fun q0=>K (q0,()))
theorem j0k:MT 130 (q58 Vw):=mS (l:=[]) trivial (by kernel_rfl) [] fun a K=>by kernel_rfl
def Wi(X:Za):Con Sg:=conS [.sl C.str,.sl C.str] [.bool] fun a K=>X a.1 a.2.1 (fun q0=>K (q0,()))
theorem G6:MT 174 (Wi Q0):=mS (l:=[]) trivial (by kernel_rfl) [(9,⟨bl 8131,[],[],[sI 13]⟩)] fun a K=>by kernel_rfl
def q8x(X:q43):Con Sg:=conS [.el C.val,.el C.val] [.bool] fun a K=>X a.1 a.2.1 (fun q0=>K (q0,()))
theorem w6m(Qo:Za)(h:AL [(174,Wi Qo)]):MT 290 (q8x (z3y Qo)):=mS h (by kernel_rfl) [] fun a K=>by kernel_rfl
theorem w6n:MT 290 (q8x q07):=w6m Q0 ⟨G6,trivial⟩
def z11(X:Rg):Con Sg:=conV [.el C.ex,.el C.ex] [.el C.ex,.el C.ex] [.bool] [.same,.same] fun a K=>X a.1 a.2.1 (fun q0=>K (q0,()) ((),(),()))
def j38:PT:=Q3 ([(290000009,⟨bl 130055,[],[],[sI 17]⟩),(292000009,⟨bl 130055,[],[],[sI 17]⟩)]:LS)
theorem w3o(q89:q43)(X:Rg)(a:Ex)(b:Ex)(K:Bool->Prop):z71 q89 X a b K=fnV (((WL [(290,q8x q89)]).with 272 (z11 X)).pl j38) 4 272 ([.el C.ex,.el C.ex]:LP) ([.v]:LP) ([.el C.ex,.el C.ex]:LV) ([.bool]:LV) ([.same,.same]:LV) (a,b,()) (fun r _=>K r.1):=by kernel_rfl
theorem w9e:MT 272 (z11 q0l):=by
 show MT _ (conV ([.el C.ex,.el C.ex]:LP) ([.el C.ex,.el C.ex]:LV) ([.bool]:LV) ([.same,.same]:LV) fun a K=>q0l a.1 a.2.1 (fun q0=>K (q0,()) ((),(),())))
 refine mR (l:=[(290,q8x q07)]) (u:=4) (rk:=[.v]) (p:=j38) ⟨w6n,trivial⟩ (by kernel_rfl) fun a K h X hX=> ?_
 exact h (fun a b K=>X (a,b,()) fun r _=>K r.1) (fun a b K hs=>hX (a,b,()) (fun r _=>K r.1) (Eq.mp (w3o q07 (fun a b K=>X (a,b,()) fun r _=>K r.1) a b K) hs))
end Go.En
end
noncomputable section
set_option maxRecDepth 100000
open Go Go.RowKit Go.Fl Go.Fl.Lk Go.Fx
namespace Go.En
def q9s(X:Wx):Con Sg:=conV [.own 66 C.ex,.el C.ex] [.vec 66 C.ex,.el C.ex] [.vec 66 C.ex] [.same,.same] fun a K=>X a.1 a.2.1 (fun q0=>K (q0,()) ((),(),()))
def z4y:PT:=Q3 ([(6,⟨[1,3,4],[1],[],[(.slot 0,.own 66 C.ex)]⟩),(9,⟨bl 234881050,[1],[],[(.slot 0,.own 66 C.ex),sI 28]⟩),(128000005,⟨bl 195,[0],[],[sI 8]⟩)]:LS)
theorem j4y(Wr:R1)(q8h:Rg)(X:Wx)(l:List (Ex))(e:Ex)(K:List (Ex)->Prop):q9h Wr q8h X l e K=fnV (((WL [(130,q58 Wr),(272,z11 q8h)]).with 234 (q9s X)).pl z4y) 4 234 ([.own 66 C.ex,.el C.ex]:LP) ([.own 66 C.ex]:LP) ([.vec 66 C.ex,.el C.ex]:LV) ([.vec 66 C.ex]:LV) ([.same,.same]:LV) (l,e,()) (fun r _=>K r.1):=by kernel_rfl
theorem j9z:MT 234 (q9s Bx):=by
 show MT _ (conV ([.own 66 C.ex,.el C.ex]:LP) ([.vec 66 C.ex,.el C.ex]:LV) ([.vec 66 C.ex]:LV) ([.same,.same]:LV) fun a K=>Bx a.1 a.2.1 (fun q0=>K (q0,()) ((),(),())))
 refine mR (l:=[(130,q58 Vw),(272,z11 q0l)]) (u:=4) (rk:=[.own 66 C.ex]) (p:=z4y) ⟨j0k,w9e,trivial⟩ (by kernel_rfl) fun a K h X hX=> ?_
 exact h (fun l e K=>X (l,e,()) fun r _=>K r.1) (fun l e K hs=>hX (l,e,()) (fun r _=>K r.1) (Eq.mp (j4y Vw q0l (fun l e K=>X (l,e,()) fun r _=>K r.1) l e K) hs))
def z4z(X:U3):Con Sg:=conV [.el C.ex] [.el C.ex] [.el C.ex] [.same] fun a K=>X a.1 (fun q0=>K (q0,()) ((),()))
def j0l:PT:=Q3 ([(274000007,⟨bl 7955,[],[],[(.slot 5,.own 115 C.val),sI 13]⟩),(234000007,⟨bl 7955,[],[],[(.slot 5,.own 66 C.ex),sI 13]⟩)]:LS)
theorem j90(Zu:Vt)(X:U3)(e:Ex)(K:Ex->Prop):z3z Zu X e K=fnV (((WL [(170,q2o Zu)]).with 235 (z4z X)).pl j0l) 4 235 ([.el C.ex]:LP) ([.el C.ex]:LP) ([.el C.ex]:LV) ([.el C.ex]:LV) ([.same]:LV) (e,()) (fun r _=>K r.1):=by kernel_rfl
theorem w6o:MT 235 (z4z q44):=by
 show MT _ (conV ([.el C.ex]:LP) ([.el C.ex]:LV) ([.el C.ex]:LV) ([.same]:LV) fun a K=>q44 a.1 (fun q0=>K (q0,()) ((),())))
 refine mR (l:=[(170,q2o J5)]) (u:=4) (rk:=[.el C.ex]) (p:=j0l) ⟨z1x,trivial⟩ (by kernel_rfl) fun a K h X hX=> ?_
 exact h (fun e K=>X (e,()) fun r _=>K r.1) (fun e K hs=>hX (e,()) (fun r _=>K r.1) (Eq.mp (j90 J5 (fun e K=>X (e,()) fun r _=>K r.1) e K) hs))
def q9t(X:By):Con Sg:=conS [.el C.ex] [.vec 66 C.ex] fun a K=>X a.1 (fun q0=>K (q0,()))
theorem j91(q4m:Wx)(q9a:U3)(h:AL [(234,q9s q4m),(235,z4z q9a)]):MT 183 (q9t (q9i q4m q9a)):=mS h (by kernel_rfl) [(234000007,⟨bl 7955,[1],[],[(.slot 5,.own 66 C.ex),sI 13]⟩)] fun a K=>by kernel_rfl
theorem j92:MT 183 (q9t q4c):=j91 Bx q44 ⟨j9z,w6o,trivial⟩
def Wo(X:Zr):Con Sg:=conV [.own 9 C.str] [.vec 9 C.str] [] [.vec 9 C.str] fun a K=>X a.1 (fun q0=>K () (q0,()))
theorem Hi:MT 80 (Wo Zd):=⟨entB (by kernel_rfl),q55⟩
def Uz(X:J1):Con Sg:=conV [.own 9 C.str] [.vec 9 C.str] [.vec 9 C.str] [.same] fun a K=>X a.1 (fun q0=>K (q0,()) ((),()))
theorem q3y:MT 184 (Uz Z3):=⟨entB (by kernel_rfl),q3p⟩
def q5o(X:G1):Con Sg:=conS [.el C.ex] [.sl C.str] fun a K=>X a.1 (fun q0=>K (q0,()))
theorem j4z(q4n:By)(Qr:Zr)(Z6:J1)(h:AL [(183,q9t q4n),(80,Wo Qr),(184,Uz Z6)]):MT 138 (q5o (q5j q4n Qr Z6)):=mS h (by kernel_rfl) [(7,⟨bl 455,[1,0],[],[(.slot 3,.own 9 C.str),sI 9]⟩)] fun a K=>by kernel_rfl
theorem j40:MT 138 (q5o G2):=j4z q4c Zd Z3 ⟨j92,Hi,q3y,trivial⟩
def j0m(X:z1e):Con Sg:=conV [.sl C.str,.sl C.edge] [.sl C.str,.sl C.edge] [.vec 9 C.str,.int .i64] [.same,.same] fun a K=>X a.1 a.2.1 (fun q0 q1=>K (q0,q1,()) ((),(),()))
theorem w3p:MT 139 (j0m P_graph_Order):=⟨entB (by kernel_rfl),w2v⟩
def q8a(X:Rh):Con Sg:=conS [.sl C.seg] [.vec 9 C.str,.int .i64] fun a K=>X a.1 (fun q0 q1=>K (q0,q1,()))
theorem j8e(q0d:G1)(q6i:z1e)(h:AL [(138,q5o q0d),(139,j0m q6i)]):MT 78 (q8a (q7v q0d q6i)):=mS h (by kernel_rfl) [(9,⟨bl 3085,[],[],[(.slot 4,.own 9 C.str),(.slot 5,.own 217 C.edge),sI 12]⟩),(17,⟨bl 33488029,[6,5,3],[],[(.slot 5,.own 217 C.edge),sI 25]⟩)] fun a K=>by kernel_rfl
theorem j8f:MT 78 (q8a Ri):=j8e G2 P_graph_Order ⟨j40,w3p,trivial⟩
def q5p(X:G3):Con Sg:=conS [.el C.subj,.str,.str] [.el C.val,.bool] fun a K=>X a.1 a.2.1 a.2.2.1 (fun q0 q1=>K (q0,q1,()))
theorem j41(Js:Uq)(Zu:Vt)(h:AL [(64,q77 Js),(170,q2o Zu)]):MT 129 (q5p (q5k Js Zu)):=mS h (by kernel_rfl) [(17,⟨bl 1912468303,[2,0],[(1,(115,4))],[sI 31,(.cell 1 0,.int .i64),(.cell 1 1,.int .i64),(.cell 1 2,.str),(.cell 1 3,.sl C.str)]⟩)] fun a K=>by kernel_rfl
theorem j42:MT 129 (q5p G4):=j41 W8 J5 ⟨z4v,z1x,trivial⟩
def z13(X:q14):Con Sg:=conS [.el C.val,.el C.val] [.bool] fun a K=>X a.1 a.2.1 (fun q0=>K (q0,()))
theorem w3q(Qo:Za)(h:AL [(174,Wi Qo)]):MT 133 (z13 (z1f Qo)):=mS h (by kernel_rfl) [] fun a K=>by kernel_rfl
theorem w3r:MT 133 (z13 R2):=w3q Q0 ⟨G6,trivial⟩
def Gg(X:Z4):Con Sg:=conS [.str,.str] [.bool] fun a K=>X a.1 a.2.1 (fun q0=>K (q0,()))
theorem q2q:MT 175 (Gg Zo):=mS (l:=[]) trivial (by kernel_rfl) [] fun a K=>by kernel_rfl
def q0t(X:Va):Con Sg:=conS [.str,.str] [.bool] fun a K=>X a.1 a.2.1 (fun q0=>K (q0,()))
theorem z8n(Q5:Z4)(h:AL [(175,Gg Q5)]):MT 134 (q0t (q0m Q5)):=mS h (by kernel_rfl) [] fun a K=>by kernel_rfl
theorem z8o:MT 134 (q0t Vb):=z8n Zo ⟨q2q,trivial⟩
def q2r(X:Wl):Con Sg:=conS [.str,.str] [.bool] fun a K=>X a.1 a.2.1 (fun q0=>K (q0,()))
theorem z14:MT 176 (q2r Wm):=mS (l:=[]) trivial (by kernel_rfl) [] fun a K=>by kernel_rfl
def q0u(X:Vc):Con Sg:=conS [.str,.str] [.bool] fun a K=>X a.1 a.2.1 (fun q0=>K (q0,()))
theorem z8p(Ws:Wl)(h:AL [(176,q2r Ws)]):MT 135 (q0u (q0n Ws)):=mS h (by kernel_rfl) [] fun _ _=>by kernel_rfl
theorem z8q:MT 135 (q0u Vd):=z8p Wm ⟨z14,trivial⟩
end Go.En
end
noncomputable section
set_option maxRecDepth 100000
open Go Go.RowKit Go.Fl Go.Fl.Lk Go.Fx
namespace Go.En
def q8y(X:q15):Con Sg:=conV [.v,.v] [.str,.str] [.bool] [.same,.same] fun a K=>X a.1 a.2.1 (fun q0=>K (q0,()) ((),(),()))
theorem j0n:MT 136 (q8y Hh):=⟨entB (by kernel_rfl),z94⟩
def j0o(X:q53):Con Sg:=conS [.el C.val] [.bool] fun a K=>X a.1 (fun q0=>K (q0,()))
theorem w3s:MT 227 (j0o q16):=mS (l:=[]) trivial (by kernel_rfl) [(8,⟨bl 31,[0],[],[sB 5]⟩),(14,⟨bl 63,[0],[],[sB 17]⟩)] fun a K=>by kernel_rfl
def z40(X:q45):Con Sg:=conS [.str] [.bool] fun a K=>X a.1 (fun q0=>K (q0,()))
theorem w6p(Zt:Vq)(h:AL [(246,q2l Zt)]):MT 228 (z40 (z30 Zt)):=mS h (by kernel_rfl) [(9,⟨bl 32737,[],[],[(.obj 0,.siter)]⟩)] fun a K=>by kernel_rfl
theorem w6q:MT 228 (z40 q46):=w6p Jp ⟨q8v,trivial⟩
def z41(X:q7w):Con Sg:=conV [.v,.v] [.str,.str] [.vec 9 C.str] [.same,.same] fun a K=>X a.1 a.2.1 (fun q0=>K (q0,()) ((),(),()))
theorem j8g:MT 231 (z41 q17):=⟨entB (by kernel_rfl),j7f⟩
def Gh(X:Jq):Con Sg:=conS [.str,.str] [.str,.bool] fun a K=>X a.1 a.2.1 (fun q0 q1=>K (q0,q1,()))
theorem z15(Q5:Z4)(h:AL [(175,Gg Q5)]):MT 286 (Gh (Ga Q5)):=mS h (by kernel_rfl) [] fun a K=>by kernel_rfl
theorem z16:MT 286 (Gh Wn):=z15 Zo ⟨q2q,trivial⟩
def q0v(X:Ve):Con Sg:=conS [.str,.str] [.str,.bool] fun a K=>X a.1 a.2.1 (fun q0 q1=>K (q0,q1,()))
theorem z8r(Wt:Jq)(h:AL [(286,Gh Wt)]):MT 269 (q0v (q0o Wt)):=mS h (by kernel_rfl) [] fun a K=>by kernel_rfl
theorem z8s:MT 269 (q0v Vf):=z8r Wn ⟨z16,trivial⟩
def z67(X:q9j):Con Sg:=conV [.v] [.str] [.int .i64,.ifc] [.same] fun a K=>X a.1 (fun q0 q1=>K (q0,q1,()) ((),()))
theorem j93:MT 270 (z67 Bz):=⟨entB (by kernel_rfl),j9o⟩
def q2s(X:Vx):Con Sg:=conS [.str] [.int .i64,.int .i64] fun a K=>X a.1 (fun q0 q1=>K (q0,q1,()))
theorem j0p(Gl:Ve)(B4:q9j)(h:AL [(269,q0v Gl),(270,z67 B4)]):MT 232 (q2s (q18 Gl B4)):=mS h (by kernel_rfl) [(11,⟨bl 4294966321,[],[],[(.obj 0,.siter)]⟩)] fun a K=>by kernel_rfl
theorem j0q:MT 232 (q2s Vy):=j0p Vf Bz ⟨z8s,j93,trivial⟩
def q59(X:Gb):Con Sg:=conS [.str] [.el C.a3,.bool] fun a K=>X a.1 (fun q0 q1=>K (q0,q1,()))
theorem w3t(q26:q7w)(Hk:Vx)(h:AL [(231,z41 q26),(232,q2s Hk)]):MT 181 (q59 (z1g q26 Hk)):=mS h (by kernel_rfl) [(13,⟨bl 228405,[2],[(1,(257,3)),(0,(257,3))],[sI 18,(.cell 1 0,.int .i64),(.cell 1 1,.int .i64),(.cell 1 2,.int .i64),(.cell 0 0,.int .i64),(.cell 0 1,.int .i64),(.cell 0 2,.int .i64)]⟩)] fun a K=>by kernel_rfl
theorem j0r:MT 181 (q59 Gc):=w3t q17 Vy ⟨j8g,j0q,trivial⟩
def z17(X:q19):Con Sg:=conS [.el C.val] [.int .i64] fun a K=>X a.1 (fun q0=>K (q0,()))
theorem w3u(q6j:q53)(q5d:q45)(Wb:Gb)(h:AL [(227,j0o q6j),(228,z40 q5d),(181,q59 Wb)]):MT 178 (z17 (z1h q6j q5d Wb)):=mS h (by kernel_rfl) [(47,⟨bl 73643289922748022531,[0],[],[sI 66]⟩),(59,⟨bl 132521265739157328625411,[0],[],[sI 77]⟩)] fun a K=>by kernel_rfl
theorem w3v:MT 178 (z17 q2a):=w3u q16 q46 Gc ⟨w3s,w6q,j0r,trivial⟩
def q8b(X:Rj):Con Sg:=conS [.el C.val,.el C.val] [.int .i64,.int .i64] fun a K=>X a.1 a.2.1 (fun q0 q1=>K (q0,q1,()))
theorem j8h(q27:q19)(Wb:Gb)(h:AL [(178,z17 q27),(181,q59 Wb)]):MT 137 (q8b (q7x q27 Wb)):=mS h (by kernel_rfl) [(183000005,⟨bl 1539,[],[],[sI 11]⟩)] fun a K=>by kernel_rfl
theorem j8i:MT 137 (q8b Uu):=j8h q2a Gc ⟨w3v,j0r,trivial⟩
def q6a(X:q2b):Con Sg:=conS [.el C.subj,.el C.ex] [.bool] fun a K=>X a.1 a.2.1 (fun q0=>K (q0,()))
theorem w3w(q0e:G3)(Wr:R1)(Bg:q14)(Gm:Va)(Gn:Vc)(Hl:q15)(Rq:Rj)(h:AL [(129,q5p q0e),(130,q58 Wr),(133,z13 Bg),(134,q0t Gm),(135,q0u Gn),(136,q8y Hl),(137,q8b Rq)]):MT 77 (q6a (z1i q0e Wr Bg Gm Gn Hl Rq)):=mS h (by kernel_rfl) [(174000005,⟨bl 195,[2],[],[sI 8]⟩),(129000005,⟨bl 195,[],[],[sI 8]⟩)] fun a K=>by kernel_rfl
theorem w3x:MT 77 (q6a R3):=w3w G4 Vw R2 Vb Vd Hh Uu ⟨j42,j0k,w3r,z8o,z8q,j0n,j8i,trivial⟩
def q6b(X:J8):Con Sg:=conV [.el C.subj,.sl C.str,.el C.ex] [.el C.subj,.sl C.str,.el C.ex] [.bool] [.same,.same,.same] fun a K=>X a.1 a.2.1 a.2.2.1 (fun q0=>K (q0,()) ((),(),(),()))
def z68:PT:=Q3 ([(128000005,⟨bl 195,[1,0],[],[sI 8]⟩),(129000005,⟨bl 195,[],[],[sI 8]⟩)]:LS)
theorem j8j(q6k:q2b)(X:J8)(s:Subj)(in_:List (ByteArray))(e:Ex)(K:Bool->Prop):z1j q6k X s in_ e K=fnV (((WL [(77,q6a q6k)]).with 45 (q6b X)).pl z68) 4 45 ([.el C.subj,.sl C.str,.el C.ex]:LP) ([.v]:LP) ([.el C.subj,.sl C.str,.el C.ex]:LV) ([.bool]:LV) ([.same,.same,.same]:LV) (s,in_,e,()) (fun r _=>K r.1):=by kernel_rfl
theorem j0s:MT 45 (q6b Gd):=by
 show MT _ (conV ([.el C.subj,.sl C.str,.el C.ex]:LP) ([.el C.subj,.sl C.str,.el C.ex]:LV) ([.bool]:LV) ([.same,.same,.same]:LV) fun a K=>Gd a.1 a.2.1 a.2.2.1 (fun q0=>K (q0,()) ((),(),(),())))
 refine mR (l:=[(77,q6a R3)]) (u:=4) (rk:=[.v]) (p:=z68) ⟨w3x,trivial⟩ (by kernel_rfl) fun a K h X hX=> ?_
 exact h (fun s in_ e K=>X (s,in_,e,()) fun r _=>K r.1) (fun s in_ e K hs=>hX (s,in_,e,()) (fun r _=>K r.1) (Eq.mp (j8j R3 (fun s in_ e K=>X (s,in_,e,()) fun r _=>K r.1) s in_ e K) hs))
def q2t(X:Vz):Con Sg:=conS [.el C.seg,.el C.subj,.sl C.str] [.bool] fun a K=>X a.1 a.2.1 a.2.2.1 (fun q0=>K (q0,()))
theorem j0t(Zm:J6)(Jh:J8)(h:AL [(35,B1 Zm),(45,q6b Jh)]):MT 79 (q2t (q2c Zm Jh)):=mS h (by kernel_rfl) [(129000005,⟨bl 195,[],[],[sI 8]⟩)] fun _ _=>by kernel_rfl
theorem j0u:MT 79 (q2t V0):=j0t J7 Gd ⟨q9r,j0s,trivial⟩
end Go.En
end
noncomputable section
set_option maxRecDepth 100000
open Go Go.RowKit Go.Fl Go.Fl.Lk Go.Fx
namespace Go.En
def q3z(X:Uv):Con Sg:=conS [.sl C.seg,.el C.subj] [.vec 9 C.str] fun a K=>X a.1 a.2.1 (fun q0=>K (q0,()))
theorem j3d(q28:Rh)(Hm:Vz)(Qr:Zr)(h:AL [(78,q8a q28),(79,q2t Hm),(80,Wo Qr)]):MT 46 (q3z (q3k q28 Hm Qr)):=mS h (by kernel_rfl) [(13,⟨bl 8380667,[1,0],[],[sI 23,(.obj 2,.map C.str C.seg)]⟩),(25,⟨bl 12918448379,[2,1,0],[],[(.slot 10,.own 9 C.str),sI 34]⟩)] fun a K=>by kernel_rfl
theorem j3e:MT 46 (q3z Uw):=j3d Ri V0 Zd ⟨j8f,j0u,Hi,trivial⟩
def q30(X:W0):Con Sg:=conS [.el C.env,.el C.subj,.str] [.bool] fun a K=>X a.1 a.2.1 a.2.2.1 (fun q0=>K (q0,()))
theorem j3f(Bh:Uv)(Jh:J8)(h:AL [(46,q3z Bh),(45,q6b Jh)]):MT 18 (q30 (q3l Bh Jh)):=mS h (by kernel_rfl) [(5,⟨bl 3615,[1,0],[],[sI 12]⟩)] fun a K=>by kernel_rfl
theorem j3g:MT 18 (q30 W2):=j3f Uw Gd ⟨j3e,j0s,trivial⟩
def j0v(X:q54):Con Sg:=conS [.sl C.range,.int .i64] [.int .i64] fun a K=>X a.1 a.2.1 (fun q0=>K (q0,()))
theorem w3y:MT 40 (j0v q2d):=mS (l:=[]) trivial (by kernel_rfl) [(5,⟨bl 387,[],[],[sI 9]⟩)] fun a K=>by kernel_rfl
def B2(X:J9):Con Sg:=conS [.el C.env,.el C.subj,.sl C.forced,.str] [.el C.asg,.int .i64] fun a K=>X a.1 a.2.1 a.2.2.1 a.2.2.2.1 (fun q0 q1=>K (q0,q1,()))
theorem j94(Zm:J6)(U0:Rf)(Uc:q0k)(q6l:q54)(W4:W0)(Bi:Rz)(q6m:q52)(h:AL [(35,B1 Zm),(20,z4x U0),(36,z1z Uc),(40,j0v q6l),(18,q30 W4),(16,z10 Bi),(37,j0j q6m)]):MT 14 (B2 (q9k Zm U0 Uc q6l W4 Bi q6m)):=mS h (by kernel_rfl) [(4,⟨bl 959,[3,2,1,0],[],[sI 10]⟩),(18,⟨bl 2198939402175,[9,5,3,2,1,0],[(7,(46,5))],[(.cell 7 2,.int .i64)]⟩),(22,⟨bl 17735122472271807,[12,7,9,5,3,2,1,0],[],[sB 64]⟩),(30,⟨bl 18464479196181823423,[12,7,9,5,3,2,1,0],[],[sB 87]⟩),(41,⟨bl 73193204841212587949592543167,[12,9,5,3,2,1,0],[(7,(46,5))],[sI 96,(.cell 7 1,.str),(.cell 7 3,.int .i64)]⟩),(46,⟨bl 1261615642555177651852752060351,[19,7],[],[sB 19]⟩),(48,⟨bl 1261615642555177651852752584639,[19,7],[],[sB 122]⟩),(72000005,⟨bl 195,[],[],[sI 8]⟩),(34000005,⟨bl 195,[],[],[sI 8]⟩)] fun a K=>by kernel_rfl
theorem q9u:MT 14 (B2 Wa):=j94 J7 Ut U9 q2d W2 R0 q13 ⟨q9r,j8d,j8c,w3y,j3g,w3n,w3l,trivial⟩
def w1g(X:z56):Con Sg:=conS [.sl C.bytes] [.vec 5 C.u8] fun a K=>X a.1 (fun q0=>K (q0,()))
theorem v3k:MT 111 (w1g z0n):=mS (l:=[]) trivial (by kernel_rfl) [(7,⟨[0,2],[],[],[(.slot 3,.own 5 C.u8),sI 4]⟩),(15,⟨bl 518069,[],[],[(.slot 3,.own 5 C.u8),sI 6]⟩)] fun a K=>by kernel_rfl
def j8k(X:z1k):Con Sg:=conS [.int .u64,.int .u64] [.int .u64] fun a K=>X a.1 a.2.1 (fun q0=>K (q0,()))
theorem w9f:MT 217 (j8k q7y):=mS (l:=[]) trivial (by kernel_rfl) [] fun a K=>by kernel_rfl
def q5q(X:G5):Con Sg:=conS [.el C.sip,.int .i64] [.el C.sip] fun a K=>X a.1 a.2.1 (fun q0=>K (q0,()))
theorem j43(Gq:z1k)(h:AL [(217,j8k Gq)]):MT 164 (q5q (q5l Gq)):=mS h (by kernel_rfl) [(5,⟨bl 23,[1],[(0,(238,4))],[sI 5,(.cell 0 0,.int IntKind.u64),(.cell 0 1,.int IntKind.u64),(.cell 0 2,.int IntKind.u64),(.cell 0 3,.int IntKind.u64)]⟩)] fun a K=>by kernel_rfl
theorem j44:MT 164 (q5q Zx):=j43 q7y ⟨w9f,trivial⟩
def w3z(X:z9z):Con Sg:=conS [.int .u64,.int .u64,.sl C.u8] [.int .u64] fun a K=>X a.1 a.2.1 a.2.2.1 (fun q0=>K (q0,()))
theorem y0u(Vj:G5)(h:AL [(164,q5q Vj)]):MT 110 (w3z (w2q Vj)):=mS h (by kernel_rfl) [(7,⟨bl 1046727,[],[(0,(238,4))],[sI 8,(.cell 0 0,.int IntKind.u64),(.cell 0 1,.int IntKind.u64),(.cell 0 2,.int IntKind.u64),(.cell 0 3,.int IntKind.u64)]⟩),(15,⟨bl 33552839,[0],[],[(.slot 9,.int IntKind.u64),sI 10]⟩),(24,⟨bl 274777243079,[0],[],[(.slot 9,.int IntKind.u64)]⟩)] fun a K=>by kernel_rfl
theorem y0v:MT 110 (w3z z90):=y0u Zx ⟨j44,trivial⟩
def j8l(X:z32):Con Sg:=conS [.int .u64,.sl C.bytes] [.int .u64] fun a K=>X a.1 a.2.1 (fun q0=>K (q0,()))
theorem v69(z6l:z56)(j57:z9z)(h:AL [(111,w1g z6l),(110,w3z j57)]):MT 56 (j8l (j7b z6l j57)):=mS h (by kernel_rfl) [] fun a K=>by kernel_rfl
theorem v7a:MT 56 (j8l z33):=v69 z0n z90 ⟨v3k,y0v,trivial⟩
def w30(X:z57):Con Sg:=conS [.str,.str] [.int .i64] fun a K=>X a.1 a.2.1 (fun q0=>K (q0,()))
theorem y0w(j1o:z32)(h:AL [(56,j8l j1o)]):MT 29 (w30 (w2r j1o)):=mS h (by kernel_rfl) [] fun a K=>by kernel_rfl
theorem y0x:MT 29 (w30 q8p):=y0w z33 ⟨v7a,trivial⟩
def z42(X:q47):Con Sg:=conS [.el C.env,.el C.subj,.sl C.forced] [.vec 46 C.asg] fun a K=>X a.1 a.2.1 a.2.2.1 (fun q0=>K (q0,()))
theorem w6r(Q9:J9)(h:AL [(14,B2 Q9)]):MT 12 (z42 (z34 Q9)):=mS h (by kernel_rfl) [(7,⟨bl 28767,[1,0],[],[(.slot 7,.own 46 C.asg),sI 15]⟩)] fun a K=>by kernel_rfl
theorem w6s:MT 12 (z42 q48):=w6r Wa ⟨q9u,trivial⟩
def z18(X:R4):Con Sg:=conS [] [.bool] fun _ K=>X (fun q0=>K (q0,()))
theorem w31(B5:q39)(Q9:J9)(z6m:z57)(q9b:q47)(h:AL [(30,z65 B5),(14,B2 Q9),(29,w30 z6m),(12,z42 q9b)]):MT 9 (z18 (z1l B5 Q9 z6m q9b)):=mS h (by kernel_rfl) [] fun a K=>by kernel_rfl
theorem w32:MT 9 (z18 R5):=w31 q4a Wa q8p q48 ⟨j9w,q9u,y0x,w6s,trivial⟩
def w9g(X:j2i):Con Sg:=conV [.sl C.u8,.v] [.sl C.u8,.int .i64] [.ptr 104 [.sl C.u8,.int .i64]] [.same,.same] fun a K=>X a.1 a.2.1 (fun q0 q1=>K ((q0,q1,()),()) ((),(),()))
theorem v7b:MT 23 (w9g z72):=mP (rk:=[.ptr 104 [.c,.v]]) (l:=[]) trivial (by kernel_rfl) [(6,⟨[1,4],[],[],[(.slot 0,.sl C.u8)]⟩)] fun a K=>by kernel_rfl
def z8t(X:q7z):Con Sg:=conV [.ptr 104 [.c,.v],.v] [.ptr 104 [.sl C.u8,.int .i64],.str] [.el C.ctx] [.ptr 104 [.same,.int .i64],.same] fun a K=>X a.1.1 a.1.2.1 a.2.1 (fun q0 q1=>K (q0,()) (((),q1,()),(),()))
theorem w9h(z2f:z7n)(Q2:Wu)(Qb:Zg)(Je:q1j)(h:AL [(108,w2y z2f),(57,q49 Q2),(49,Vg Qb),(109,z4d Je)]):MT 55 (z8t (z73 z2f Q2 Qb Je)):=mP (rk:=[.el C.ctx]) h (by kernel_rfl) [(9,⟨bl 8051,[4,1],[(2,(82,3)),(0,(104,2))],[sI 7,(.cell 2 2,.own 180 C.attr),(.cell 0 1,.int .i64)]⟩)] fun _ _=>by kernel_rfl
theorem w9i:MT 55 (z8t q3m):=w9h z7o Ju Zc Ui ⟨v6p,q8t,Gf,j7g,trivial⟩
end Go.En
end
noncomputable section
set_option maxRecDepth 100000
open Go Go.RowKit Go.Fl Go.Fl.Lk Go.Fx
namespace Go.En
def z19(X:q0p):Con Sg:=conV [.ptr 104 [.c,.v]] [.ptr 104 [.sl C.u8,.int .i64]] [.el C.subj] [.ptr 104 [.same,.int .i64]] fun a K=>X a.1.1 a.1.2.1 (fun q0 q1=>K (q0,()) (((),q1,()),()))
theorem w9j(Qb:Zg)(q00:q7z)(h:AL [(49,Vg Qb),(55,z8t q00)]):MT 27 (z19 (z74 Qb q00)):=mP (rk:=[.el C.subj]) h (by kernel_rfl) [(10,⟨bl 125,[1],[(0,(104,2)),(2,(25,1))],[(.cell 0 1,.int .i64),(.cell 2 0,.own 82 C.ctx)]⟩)] fun a K=>by kernel_rfl
theorem j8m:MT 27 (z19 Rk):=w9j Zc q3m ⟨Gf,w9i,trivial⟩
def j3h(X:z0o):Con Sg:=conV [.ptr 104 [.c,.v],.el C.env] [.ptr 104 [.sl C.u8,.int .i64],.el C.env] [.vec 54 C.forced] [.ptr 104 [.same,.int .i64],.same] fun a K=>X a.1.1 a.1.2.1 a.2.1 (fun q0 q1=>K (q0,()) (((),q1,()),(),()))
theorem v3l(Qb:Zg)(h:AL [(49,Vg Qb)]):MT 32 (j3h (j2j Qb)):=mP (rk:=[.own 54 C.forced]) h (by kernel_rfl) [(7,⟨bl 27,[1],[(0,(104,2))],[(.slot 5,.own 54 C.forced),sI 6,(.cell 0 1,.int .i64)]⟩),(16,⟨bl 998651,[2],[(5,(54,3)),(0,(104,2))],[(.cell 5 0,.str),(.cell 0 1,.int .i64)]⟩),(32,⟨bl 998651,[2],[(5,(54,3)),(0,(104,2))],[(.cell 5 0,.str),(.cell 5 1,.str),(.cell 5 2,.int .i64),(.cell 0 1,.int .i64)]⟩),(26,⟨bl 274862128603,[],[(5,(54,3)),(0,(104,2))],[(.cell 5 0,.str),(.cell 0 1,.int .i64)]⟩)] fun a K=>by kernel_rfl
theorem v3m:MT 32 (j3h z0p):=v3l Zc ⟨Gf,trivial⟩
def z2a(X:R6):Con Sg:=conS [.sl C.u8,.sl C.u8] [.el C.env,.el C.subj,.sl C.forced] fun a K=>X a.1 a.2.1 (fun q0 q1 q2=>K (q0,q1,q2,()))
theorem w33(q9z:j2i)(q29:Ra)(Gs:q0p)(z6n:z0o)(h:AL [(23,w9g q9z),(31,q76 q29),(27,z19 Gs),(32,j3h z6n)]):MT 10 (z2a (z1m q9z q29 Gs z6n)):=mS h (by kernel_rfl) [] fun a K=>by kernel_rfl
theorem w34:MT 10 (z2a Ge):=w33 z72 Rb Rk z0p ⟨v7b,j79,j8m,v3m,trivial⟩
end Go.En
end
noncomputable section
set_option maxRecDepth 100000
open Go Go.RowKit Go.Fl Go.Fl.Lk Go.Fx
namespace Go.En
def v7c(X:w2s):Con Sg:=conS [.int .i64,.int .i64] [.int .i64] fun a K=>X a.1 a.2.1 (fun q0=>K (q0,()))
theorem y4q:MT 25 (v7c z8b):=mS (l:=[]) trivial (by kernel_rfl) [] fun a K=>by kernel_rfl
def Gi(X:q0q):Con Sg:=conS [.sl C.u8,.sl C.u8,.sl C.u8,.int .i64,.int .i64] [.bool] fun a K=>X a.1 a.2.1 a.2.2.1 a.2.2.2.1 a.2.2.2.2.1 (fun q0=>K (q0,()))
theorem z8u(Bj:R4)(Bk:R6)(j9j:w2s)(Wj:q0j)(q9z:j2i)(Gs:q0p)(Q9:J9)(h:AL [(9,z18 Bj),(10,z2a Bk),(25,v7c j9j),(26,z1w Wj),(23,w9g q9z),(27,z19 Gs),(14,B2 Q9)]):MT 7 (Gi (q0r Bj Bk j9j Wj q9z Gs Q9)):=mS h (by kernel_rfl) [(29,⟨bl 154742504910672534345873439,[9,0,4,1],[],[sI 87,(.obj 10,.own 25 C.subj),(.obj 7,.own 54 C.forced),(.obj 6,.own 54 C.forced)]⟩)] fun a K=>by kernel_rfl
theorem z8v:MT 7 (Gi Jk):=z8u R5 Ge z8b V8 z72 Rk Wa ⟨w32,w34,y4q,j77,v7b,j8m,q9u,trivial⟩
end Go.En
end
noncomputable section
set_option maxRecDepth 100000
namespace Go.En
open Go Go.Fl Go.Fl.Lk Go.Fx
theorem Cnd.mk{c A B:Prop}(h:c->A)(k: ¬c->B):Cnd c A B:=⟨h,k⟩
structure DS(list:List Int)(at_:Int):Prop where
 len:list.length<=1000
 lo:0<=at_
 hi:at_<=list.length
 byte: ∀x∈list,0<=x/\x<256
theorem getm{α:Type}{l:List α}{k:Nat}{x:α}(h:l[k]? =some x):x∈l:=List.mem_of_getElem? h
theorem z8w(n:Int):(Go.Utf8.encode n).size<=4:=by
 unfold Go.Utf8.encode
 generalize (if Go.Utf8.valid n then n.toNat else Go.Utf8.runeError)=c
 show (if c<0x80 then _ else if c<0x800 then _ else if c<0x10000 then _ else _:ByteArray).size<=4
 have h1: ∀a:UInt8,(ByteArray.mk #[a]).size<=4:=fun _=>(by decide:1<=4)
 have h2: ∀a b:UInt8,(ByteArray.mk #[a,b]).size<=4:=fun _ _=>(by decide:2<=4)
 have h3: ∀a b c:UInt8,(ByteArray.mk #[a,b,c]).size<=4:=fun _ _ _=>(by decide:3<=4)
 have h4: ∀a b c d:UInt8,(ByteArray.mk #[a,b,c,d]).size<=4:=fun _ _ _ _=>(by decide:4<=4)
 split
 ·exact h1 _
 ·split
  ·exact h2 _ _
  ·split
   ·exact h3 _ _ _
   ·exact h4 _ _ _ _
theorem Qh{list:List Int}{at_ n:Int}{K:Int->Int->Prop}(hD:DS list at_)(hn:1<=n)(h: ∀r a,0<=r->r<n->DS list a->K r a):Zc list at_ n K:=by
 obtain⟨h1,h2,h3,h4⟩:=hD
 unfold Zc w2k j5t
 refine fun _=>Cnd.mk (fun hl=> ?_) (fun _=>h _ _ (by omega) (by omega) ⟨h1,h2,h3,h4⟩)
 have hl:=of_decide_eq_true hl
 refine⟨by unfold InI;omega,by unfold InI;omega,by omega,fun y hy=>⟨by unfold InI;have:=h4 _ (getm hy);omega,by omega,?_⟩⟩
 obtain⟨a,b⟩:=h4 _ (getm hy)
 exact h _ _ (Int.tmod_nonneg _ a) (by have:=Int.tmod_lt_of_pos y (b:=n) (by omega);omega) ⟨h1,by omega,by omega,h4⟩
theorem q5a{list:List Int}{at_ n:Int}{K:Int->Int->Prop}(hD:DS list at_)(hn:1<=n)(h: ∀r a,0<=r->r<n->DS list a->K r a):q5z list at_ n K:=by
 unfold q5z w2m
 refine Qh hD (by decide) fun r a r0 r1 hD=>⟨by unfold InI;omega,Qh hD (by decide) fun s b s0 s1 hD=>⟨by unfold InI;omega,by omega,?_⟩⟩
 exact h _ _ (Int.tmod_nonneg _ (by omega)) (by have:=Int.tmod_lt_of_pos (256*r+s) (b:=n) (by omega);omega) hD
theorem j0w{n:Int}{l:List ByteArray}{K:List ByteArray->Prop}(h0:0<=n)(h1:n<=l.length)(h:K (l.take n.toNat)):z5w n l K:=⟨⟨h0,h1⟩,h⟩
theorem z0s{list:List Int}{at_:Int}{K:ByteArray->Int->Prop}(hD:DS list at_)(h: ∀r a,r∈z9p->DS list a->K r a):q1i list at_ K:=by
 unfold q1i w2l
 exact Qh hD (by decide) fun r a r0 r1 hD=>⟨⟨r0,r1⟩,fun y hy=>h _ _ (getm hy) hD⟩
theorem sz_k(n:Int):(ByteArray.mk (Array.mk [107])++Go.Utf8.encode n).size<=5:=by
 rw[ByteArray.size_append];have:=z8w n;show 1+_<=5;omega
theorem v1e{list:List Int}{at_:Int}{K:ByteArray->Int->Prop}(hD:DS list at_)(h: ∀r a,r.size<=5->DS list a->K r a):z7o list at_ K:=by
 unfold z7o w8m
 refine Qh hD (by decide) fun r a r0 r1 hD=>⟨by unfold InI;omega,?_,h _ _ (sz_k _) hD⟩
 have:=z8w (Go.IntKind.i32.wrap (48+r));have e:(ByteArray.mk (Array.mk [107])).size=1:=rfl;omega
theorem j8n{list:List Int}{at_:Int}{K:List ByteArray->Int->Prop}(hD:DS list at_)(h: ∀r a,r.length<=3->(∀s∈r,s.size<=5)->DS list a->K r a):z05 list at_ K:=by
 unfold z05 w2n
 refine Qh hD (by decide) fun n a n0 n1 hD=> ?_
 refine Lp3.ind (fun l i a=>DS list a/\0<=i/\i<=3/\(l.length:Int)=i/\ ∀s∈l,s.size<=5) (fun _ i _=>(3 - i).toNat) ?_ ⟨hD,by decide,by decide,rfl,by simp⟩
 rintro l i a ⟨hD,i0,i3,hl,hs⟩
 refine Qh hD (by decide) fun r a r0 r1 hD=>Cnd.mk (fun hc=> ?_) (fun hc=> ?_)
 ·have:=z8w (Go.IntKind.i32.wrap ((48:Int)+(n+i).tmod 10));have e:(ByteArray.mk (Array.mk [107])).size=1:=rfl
  have m0:=Int.tmod_nonneg 10 (show 0<=n+i by omega);have m1:=Int.tmod_lt_of_pos (n+i) (b:=10) (by decide)
  refine⟨by unfold InI;omega,by decide,by unfold InI;omega,by omega,by unfold Sml;simp;omega,by unfold InI;omega,⟨hD,by omega,by omega,by simp;omega,fun s hm=> ?_⟩,by omega⟩
  rcases List.mem_append.1 hm with hm|hm
  ·exact hs s hm
  ·rw[List.mem_singleton.1 hm];exact sz_k _
 ·refine Lp2.ind (fun (i:Int) (m:List ByteArray)=>m=l/\1<=i/\i<=1+l.length) (fun (i:Int) _=>(1+l.length - i).toNat) ?_ ⟨rfl,by decide,by omega⟩
  rintro i m ⟨rfl,i0,i1⟩ _
  refine Cnd.mk (fun hc=>⟨by omega,fun y hy=>⟨by unfold InI;omega,by omega,fun z hz=>Cnd.mk (fun _=>⟨by unfold InI;omega,⟨rfl,by omega,by omega⟩,by omega⟩) (fun _=>⟨by omega,h _ _ (by simp;omega) (fun s hm=>hs s (List.mem_of_mem_take hm)) hD⟩)⟩⟩) (fun _=>h _ _ (by omega) hs hD)
theorem sz0:(ByteArray.mk (Array.mk ([]:List UInt8))).size<=100:=by decide
structure ValS(v:Val):Prop where
 num:InI v.number
 txt:v.text.size<=100
 len:v.list.length<=10
 txs: ∀s∈v.list,s.size<=100
theorem q6t{list:List Int}{at_ kind:Int}{K:Val->Int->Prop}(hD:DS list at_)(h: ∀r a,ValS r->DS list a->K r a):Ui list at_ kind K:=by
 unfold Ui z9q
 have tt: ∀s∈z9p,s.size<=100:=by decide
 have tv: ∀s∈z3e,s.size<=100:=by decide
 have tl: ∀l∈j60,l.length<=10/\ ∀s∈l,s.size<=100:=by decide
 refine Cnd.mk (fun _=> ?_) fun _=>Cnd.mk (fun _=>fun _=> ?_) fun _=>Cnd.mk (fun _=> ?_) fun _=>Cnd.mk (fun _=> ?_) fun _=> ?_
 ·exact Qh hD (by decide) fun r a r0 r1 hD=>h _ _ ⟨by unfold InI;simp only;omega,sz0,by simp,by simp⟩ hD
 ·refine Qh hD (by decide) fun r a r0 r1 hD=>⟨⟨r0,r1⟩,fun y hy=>h _ _ ⟨?_,sz0,by simp,by simp⟩ hD⟩
  have:=getm hy
  have k: ∀y∈[(0:Int),(1:Int),(17:Int),(18:Int),(19:Int),(-5:Int),(64:Int),(1099511627776:Int),(-1099511627776:Int)], -9223372036854775808<=y/\y<=9223372036854775807:=by decide
  exact k y this
 ·exact z0s hD fun r a hr hD=>h _ _ ⟨by unfold InI;simp,tt _ hr,by simp,by simp⟩ hD
 ·exact Qh hD (by decide) fun r a r0 r1 hD=>⟨⟨r0,r1⟩,fun y hy=>h _ _ ⟨by unfold InI;simp,tv _ (getm hy),by simp,by simp⟩ hD⟩
 ·refine Qh hD (by decide) fun r a r0 r1 hD=>⟨⟨r0,r1⟩,fun y hy=> ?_⟩
  obtain⟨a1,a2⟩:=tl _ (getm hy)
  exact⟨by unfold Sml;simp;omega,h _ _ ⟨by unfold InI;simp,sz0,by simpa using a1,by simpa using a2⟩ hD⟩
structure VsS(l:List Val):Prop where
 len:l.length<=4
 all: ∀v∈l,ValS v
theorem VsS.nil:VsS []:=⟨by simp,by simp⟩
theorem VsS.one{v:Val}(h:ValS v):VsS [v]:=⟨by simp,by simpa using h⟩
def ExS:Nat->Ex->Prop
 |0,e=>VsS e.values/\(e.name.size<=100/\e.kind.size<=100)/\(InI e.op/\(2<=e.op->e.op<=4->e.kids≠[]))/\e.kids=[]
 |n+1,e=>VsS e.values/\(e.name.size<=100/\e.kind.size<=100)/\(InI e.op/\(2<=e.op->e.op<=4->e.kids≠[]))/\e.kids.length<=3/\ ∀k∈e.kids,ExS n k
theorem ExS.up: ∀{n:Nat} {e:Ex},ExS n e->ExS (n+1) e
 |0,e,h=>⟨h.1,h.2.1,h.2.2.1,by rw[h.2.2.2];simp,by rw[h.2.2.2];simp⟩
 |n+1,e,h=>⟨h.1,h.2.1,h.2.2.1,h.2.2.2.1,fun k hk=>(h.2.2.2.2 k hk).up⟩
theorem ExS.le{n m:Nat}{e:Ex}(h:ExS n e)(hm:n<=m):ExS m e:=by
 induction hm with
 |refl=>exact h
 |step _ ih=>exact ih.up
theorem ExS.kids{n:Nat}{e:Ex}(h:ExS n e):e.kids.length<=3:=by
 cases n with
 |zero=>rw[h.2.2.2];simp
 |succ n=>exact h.2.2.2.1
theorem ExS.kid{n:Nat}{e k:Ex}(h:ExS n e)(hk:k∈e.kids): ∃m,m+1=n/\ExS m k:=by
 cases n with
 |zero=>rw[h.2.2.2] at hk;simp at hk
 |succ n=>exact⟨n,rfl,h.2.2.2.2 k hk⟩
theorem ExS.vals{n:Nat}{e:Ex}(h:ExS n e):VsS e.values:=by cases n<;>exact h.1
theorem ExS.nm{n:Nat}{e:Ex}(h:ExS n e):e.name.size<=100:=by cases n<;>exact h.2.1.1
theorem ExS.kd{n:Nat}{e:Ex}(h:ExS n e):e.kind.size<=100:=by cases n<;>exact h.2.1.2
theorem ExS.opK{n:Nat}{e:Ex}(h:ExS n e):2<=e.op->e.op<=4->e.kids≠[]:=by cases n<;>exact h.2.2.1.2
def OpL(op:Int):Prop:=InI op/\ ¬(2<=op/\op<=4)
theorem OpL.ok{op:Int}(h:OpL op){l:List Ex}:InI op/\(2<=op->op<=4->l≠[]):=⟨h.1,fun a b=>absurd ⟨a,b⟩ h.2⟩
theorem opl{op:Int}(h:(6<=op/\op<=100)∨op=0∨op=1∨op=5){l:List Ex}:InI op/\(2<=op->op<=4->l≠[]):=⟨by unfold InI;omega,fun a b=>by omega⟩
theorem q2u{K:List Decl->Prop}(h: ∀l,l.length=8->(∀d∈l,d.kind.size<=100/\d.name.size<=100/\1<=d.type/\d.type<=5)->K l):Ju K:=by
 unfold Ju
 exact h _ rfl (by decide)
theorem w6t{list:List Int}{at_:Int}{K:Ex->Int->Prop}(hD:DS list at_)(h: ∀r a,ExS 0 r->6<=r.op->DS list a->K r a):z5x list at_ K:=by
 unfold z5x w2o
 refine q2u fun l hl hd _=>⟨by unfold InI;omega,Qh hD (by omega) fun r a r0 r1 hD _=>Cnd.mk (fun _=> ?_) fun hc=>⟨by omega,fun y hy=> ?_⟩⟩
 ·exact v1e hD fun s a hs hD=>h _ _ ⟨.one ⟨by unfold InI;simp,by show s.size<=100;omega,by simp,by simp⟩,⟨(by decide:(ByteArray.mk (Array.mk [107,101,121])).size<=100),(by decide:(ByteArray.mk (Array.mk [117,115,101,114])).size<=100)⟩,opl (by simp),rfl⟩ (by simp) hD
 obtain⟨hy0,hy1,hy2,hy3⟩:=hd y (getm hy)
 have one: ∀{op:Int} {v:Val},OpL op->ValS v->ExS 0 (Ex.mk op y.kind y.name [v] []):=fun ho hv=>⟨.one hv,⟨hy1,hy0⟩,ho.ok,rfl⟩
 refine Jn1.mk (fun x=>(∃b,x=(b,y.kind,y.name,([]:List Val),([]:List Ex),x.2.2.2.2.2.1,0,ByteArray.mk (Array.mk []),ByteArray.mk (Array.mk []),[],[],()))/\DS list x.2.2.2.2.2.1) ?_ ?_
 case refine_2=>
  rintro x ⟨⟨b,hx⟩,hD⟩
  refine q6t hD fun v a hv hD=>h _ _ ?_ (by simp) hD
  rw[hx]
  exact one ⟨by unfold InI;simp,by decide⟩ hv
 refine Qh hD (by decide) fun q a q0 q1 hD=> ?_
 refine Jn1.mk (fun x=>(∃b,x=(x.1,b,y.kind,y.name,([]:List Val),([]:List Ex),0,ByteArray.mk (Array.mk []),ByteArray.mk (Array.mk []),[],[],()))/\DS list x.1) ?_ ?_
 case refine_2=>
  rintro x ⟨⟨b,hx⟩,hD⟩
  have cmp:Zc list x.1 4 fun r a=>InI (12+r)/\Ui list a y.3 fun v a=>K (Ex.mk (12+r) x.2.2.1 x.2.2.2.1 [v] x.2.2.2.2.2.1) a:=by
   refine Qh hD (by decide) fun r a r0 r1 hD=>⟨by unfold InI;omega,q6t hD fun v a hv hD=>h _ _ ?_ (by simp only;omega) hD⟩
   rw[hx]
   exact one ⟨by unfold InI;omega,by omega⟩ hv
  refine Cnd.mk (fun _=>cmp) fun _=>Cnd.mk (fun _=>cmp) fun _=>Cnd.mk (fun _=>cmp) fun _=> ?_
  refine⟨⟨b,?_⟩,hD⟩
  rw[hx]
 have nx: ∀{a:Int},DS list a->(fun x:Int×ByteArray×ByteArray×List Val×List Ex×Int×Int×ByteArray×ByteArray×List Val×List Ex×Unit=>(∃b,x=(b,y.kind,y.name,([]:List Val),([]:List Ex),x.2.2.2.2.2.1,0,ByteArray.mk (Array.mk []),ByteArray.mk (Array.mk []),[],[],()))/\DS list x.2.2.2.2.2.1) ((0:Int),y.1,y.2,[],[],a,(0:Int),ByteArray.mk (Array.mk []),ByteArray.mk (Array.mk []),[],[],()):=fun hD=>⟨⟨0,rfl⟩,hD⟩
 refine Cnd.mk (fun _=>h _ _ ⟨.nil,⟨hy1,hy0⟩,opl (by simp),rfl⟩ (by simp) hD) fun _=>Cnd.mk (fun _=> ?_) fun _=>Cnd.mk (fun _=> ?_) fun _=>Cnd.mk (fun _=> ?_) fun _=>Cnd.mk (fun _=> ?_) fun _=>nx hD
 ·refine Cnd.mk (fun _=>nx hD) fun _=> ?_
  refine Lp3.ind (fun i l a=>DS list a/\0<=i/\i<=3/\(l.length:Int)=i/\ ∀v∈l,ValS v) (fun i _ _=>(3 - i).toNat) ?_ ⟨hD,by decide,by decide,rfl,by simp⟩
  rintro i l a ⟨hD,i0,i3,hl,hv⟩
  refine Qh hD (by decide) fun r a r0 r1 hD=>Cnd.mk (fun hc=>q6t hD fun v a hv' hD=>⟨by unfold Sml;simp;omega,by unfold InI;omega,⟨hD,by omega,by omega,by simp;omega,fun u hu=> ?_⟩,by omega⟩) (fun hc=>h _ _ ⟨⟨by simp only;omega,hv⟩,⟨hy1,hy0⟩,opl (by simp),rfl⟩ (by simp) hD)
  rcases List.mem_append.1 hu with hu|hu
  ·exact hv u hu
  ·rw[List.mem_singleton.1 hu];exact hv'
 ·have c:Ui list a 3 fun v a=>K (Ex.mk 11 y.1 y.2 [v] []) a:=q6t hD fun v a hv hD=>h _ _ (one ⟨by unfold InI;simp,by decide⟩ hv) (by simp) hD
  exact Cnd.mk (fun _=>c) fun _=>Cnd.mk (fun _=>c) fun _=>nx hD
 ·exact Cnd.mk (fun _=>Qh hD (by decide) fun r a r0 r1 hD=>⟨by unfold InI;omega,q6t hD fun v a hv hD=>h _ _ (one ⟨by unfold InI;omega,by omega⟩ hv) (by simp only;omega) hD⟩) fun _=>⟨⟨0,rfl⟩,hD⟩
 ·exact⟨⟨0,rfl⟩,hD⟩
theorem ExS.eta{n:Nat}{e:Ex}(h:ExS n e):ExS n (Ex.mk e.op e.kind e.name e.values e.kids):=by cases e;exact h
theorem y7a{n:Nat}{e:Ex}(h:ExS n e){k m:ByteArray}(hm:m.size<=100)(hk:k.size<=100):ExS (n+1) (Ex.mk 4 k m [] [e]):=⟨.nil,⟨hm,hk⟩,⟨InI.mk (by simp) (by simp),fun _ _=>by simp⟩,by simp,by simpa using h⟩
structure SegS(g:Seg):Prop where
 key:g.key.size<=100
 kind:g.kind.size<=100
 incl:g.incl.length<=3
 excl:g.excl.length<=3
 cond:ExS 4 g.cond
theorem Zq{α:Type}{P:α->Prop}{l:List α}{x:α}(h: ∀y∈l,P y)(hx:P x): ∀y∈l++[x],P y:=fun y hy=>by
 rcases List.mem_append.1 hy with hy|hy
 ·exact h y hy
 ·rw[List.mem_singleton.1 hy];exact hx
theorem z2t{v:Envt}{K:List ByteArray->Prop}(hl:v.segments.length<=1000)(h:K (v.segments.map Seg.key)):Hq v K:=by
 unfold Hq
 refine Lp2.ind (fun (l:List ByteArray) (i:Int)=>0<=i/\i<=v.segments.length/\l=(v.segments.take i.toNat).map Seg.key) (fun _ (i:Int)=>(v.segments.length - i).toNat) ?_ ⟨Int.le_refl 0,by omega,by simp⟩
 rintro l i ⟨i0,i1,rfl⟩ _
 refine Cnd.mk (fun hc=>⟨by omega,fun y hy=>⟨by unfold Sml;simp;omega,by unfold InI;omega,⟨by omega,by omega,?_⟩,by omega⟩⟩) fun hc=> ?_
 ·rw[show (i+1).toNat=i.toNat+1 by omega,List.take_add_one,hy];simp
 ·rw[List.take_of_length_le (by omega)];exact h
def SplS(n:Int)(l:List Rng):Prop:=l.length<=4/\ ∀r∈l,0<=r.lo/\r.hi<=10000/\1<=r.variation/\r.variation<=n
structure SrvS(n:Int)(s:Srv):Prop where
 kind:s.kind.size<=100
 var:0<=s.variation/\s.variation<=n
 split:SplS n s.split
 by_:s.by_.size<=100
 salt:s.salt.size<=100
structure LayS(l:Lay_):Prop where
 key:l.key.size<=100
 kind:l.kind.size<=100
 salt:l.salt.size<=100
 hold:0<=l.holdout/\l.holdout<=10000
 cool:0<=l.cool/\l.cool<=100
theorem v3n{list:List Int}{at_:Int}{key:ByteArray}{K:Lay_->Int->Prop}(hD:DS list at_)(hk:key.size<=100)(h: ∀l a,LayS l->l.key=key->DS list a->K l a):z3l list at_ key K:=by
 unfold z3l j65
 have tt: ∀s∈z9p,s.size<=100:=by decide
 refine z0s hD fun t a ht hD=>Qh hD (by decide) fun c a c0 c1 hD=>⟨by unfold InI;omega,?_⟩
 refine Jn2.mk (fun k a=>k.size<=100/\DS list a) (Qh hD (by decide) fun r a r0 r1 hD=>Cnd.mk (fun _=>⟨by decide,hD⟩) fun _=>⟨by decide,hD⟩) fun kind a hx=> ?_
 obtain⟨hkd,hD⟩:=hx
 refine Jn2.mk (fun x a=>DS list a/\0<=x/\x<=10000) (Qh hD (by decide) fun r a r0 r1 hD=>Cnd.mk (fun _=>q5a hD (by decide) fun w a w0 w1 hD=>⟨hD,by omega,by omega⟩) fun _=>⟨hD,by omega,by omega⟩) fun hold a hx=> ?_
 obtain⟨hD,x0,x1⟩:=hx
 have ok: ∀{cs:List Col},LayS (Lay_.mk key kind t hold (c*50) cs):=⟨hk,hkd,tt _ ht,⟨x0,x1⟩,⟨by simp only;omega,by simp only;omega⟩⟩
 refine Lp4.ind (fun at_ i cs a=>DS list a/\0<=i/\i<=2/\(cs.length:Int)=i/\0<=at_/\at_<=10000/\ ∀c∈cs,0<=c.lo/\c.hi<=10000/\0<=c.until_/\c.until_<=200) (fun _ i _ _=>(2 - i).toNat) ?_ ⟨hD,by omega,by omega,rfl,by omega,by omega,by simp⟩
 rintro at_ i cs a ⟨hD,i0,i1,hl,a0,a1,hc⟩
 refine Qh hD (by decide) fun q a q0 q1 hD=>Cnd.mk (fun _=>q5a hD (by decide) fun w a w0 w1 hD=>⟨by unfold InI;omega,by unfold InI;omega,q5a hD (by decide) fun w' a w0' w1' hD=>⟨by unfold InI;omega,Cnd.mk (fun _=>h _ _ ok rfl hD) fun _=> ?_⟩⟩) fun _=>h _ _ ok rfl hD
 refine Qh hD (by decide) fun u a u0 u1 hD=>⟨by unfold Sml;simp;omega,by unfold InI;omega,⟨hD,by omega,by omega,by simp;omega,by omega,by omega,Zq hc ⟨by simp only;omega,by simp only;omega,by simp only;omega,by simp only;omega⟩⟩,by omega⟩
structure SpsS(l:List Spn):Prop where
 len:l.length<=10000
 all: ∀s∈l,0<=s.lo/\s.lo<s.hi/\s.hi<=10000
structure RulS(n:Int)(r:Rul):Prop where
 name:r.name.size<=100
 cond:ExS 4 r.cond
 serve:SrvS n r.serve
structure FlgS(f:Flg):Prop where
 key:f.key.size<=100
 vlen:1<=f.variations.length/\f.variations.length<=4
 vals: ∀v∈f.variations,ValS v
 nlen:f.needs.length<=4
 needs: ∀q∈f.needs,q.flag.size<=100
 tlen:f.targets.length<=3
 tgts: ∀t∈f.targets,t.kind.size<=100
 rlen:f.rules.length<=4
 rules: ∀r∈f.rules,RulS f.variations.length r
 dflt:SrvS f.variations.length f.dflt
structure ExpS(x:Exper):Prop where
 key:x.key.size<=100
 layer:x.layer.size<=100
 flag:x.flag.size<=100
 claims:SpsS x.claims
 arms:SplS 4 x.arms
 cond:ExS 4 x.cond
structure EnvS(v:Envt):Prop where
 hkind:v.settings.holdoutKind.size<=100
 attrs: ∀d∈v.attributes,d.kind.size<=100/\d.name.size<=100
 slen:v.segments.length<=3
 segs: ∀g∈v.segments,SegS g
 flen:v.flags.length<=4
 flags: ∀f∈v.flags,FlgS f
 llen:v.layers.length<=2
 layers: ∀l∈v.layers,LayS l
 xlen:v.experiments.length<=3
 exps: ∀x∈v.experiments,ExpS x
end Go.En
end
noncomputable section
set_option maxRecDepth 100000
namespace Go.En
open Go Go.Fl Go.Fl.Lk Go.Fx
abbrev S4:=Int×Int×Int×Int
def w64(x:Int):Int:=Go.IntKind.u64.wrap x
def xr(a b:Int):Int:=Go.IntKind.u64.wrap ((BitVec.ofInt 64 a ^^^ BitVec.ofInt 64 b).toNat:Int)
def rot(x n:Int):Int:=Go.IntKind.u64.wrap ((BitVec.ofInt 64 (Go.IntKind.u64.wrap (x*2 ^ Min.min n.toNat 64))|||BitVec.ofInt 64 (x.fdiv (2 ^ Min.min (Go.IntKind.u64.wrap (64 - n)).toNat 64))).toNat:Int)
def rnd(s:S4):S4:=
  (w64 (rot (w64 (s.1+s.2.1)) 32+xr (rot s.2.2.2 16) (w64 (s.2.2.1+s.2.2.2))),
   xr (rot (xr (rot s.2.1 13) (w64 (s.1+s.2.1))) 17) (w64 (w64 (s.2.2.1+s.2.2.2)+xr (rot s.2.1 13) (w64 (s.1+s.2.1)))),
   rot (w64 (w64 (s.2.2.1+s.2.2.2)+xr (rot s.2.1 13) (w64 (s.1+s.2.1)))) 32,
   xr (rot (xr (rot s.2.2.2 16) (w64 (s.2.2.1+s.2.2.2))) 21) (w64 (rot (w64 (s.1+s.2.1)) 32+xr (rot s.2.2.2 16) (w64 (s.2.2.1+s.2.2.2)))))
def rn:Nat->S4->S4
  |0,s=>s
  |k+1,s=>rnd (rn k s)
def tm(y:Int)(k:Nat):BitVec 64:=BitVec.ofInt 64 (Go.IntKind.u64.wrap (Go.IntKind.u64.wrap y*2 ^ Min.min (8*k) 64))
def wv(b:List Int)(o:Nat)(v:BitVec 64):Nat->BitVec 64
  |0=>v
  |k+1=>wv b o v k|||tm (b.getD (o+k) 0) k
def s0(k0 k1:Int):S4:=(xr k0 8317987319222330741,xr k1 7237128888997146477,xr k0 7816392313619706465,xr k1 8387220255154660723)
def topV(n:Nat):BitVec 64:=BitVec.ofInt 64 (Go.IntKind.u64.wrap (Go.IntKind.u64.wrap (n:Int)*2 ^ Min.min (Int.toNat 56) 64))
def y0y(b:List Int):BitVec 64:=wv b (8*(b.length / 8)) 0 (b.length % 8)|||topV b.length
theorem j8o(x:Int):Go.IntKind.u64.wrap x=x % 18446744073709551616:=rfl
theorem y4r(x:Int):Go.IntKind.u64.wrap x=((BitVec.ofInt 64 (Go.IntKind.u64.wrap x)).toNat:Int):=by
  rw[BitVec.toNat_ofInt,j8o]
  omega
theorem j0x{n:Nat}(h:n<18446744073709551616):Go.IntKind.u64.wrap (n:Int)=n:=by
  show (n:Int) % 18446744073709551616=n
  omega
theorem v7d(v:BitVec 64):BitVec.ofInt 64 ((v.toNat:Nat):Int)=v:=by simp
theorem y0z(v t:BitVec 64):Go.IntKind.u64.wrap ((BitVec.ofInt 64 ((v.toNat:Nat):Int)|||t).toNat:Int)=((v|||t).toNat:Int):=by
  rw[v7d];exact j0x (v|||t).isLt
theorem j3i{x k:Int}{K:Int->Prop}(hk:k=13∨k=16∨k=17∨k=21∨k=32)(h:K (rot x k)):W9 x k K:=by
  have e:Go.IntKind.u64.wrap (↑(BitVec.ofInt 64 (Go.IntKind.u64.wrap k) &&& BitVec.ofInt 64 63).toNat:Int)=k:=by rcases hk with rfl|rfl|rfl|rfl|rfl<;>decide
  have e2:0<=Go.IntKind.u64.wrap (64 - k):=by rcases hk with rfl|rfl|rfl|rfl|rfl<;>decide
  unfold W9
  rw[e]
  exact⟨by omega,e2,h⟩
theorem z6c{x k:Int}{K:Int->Prop}(hk:k=13∨k=16∨k=17∨k=21∨k=32)(h:K (rot x k)):q7y x k K:=by
  have e2:0<=Go.IntKind.u64.wrap (64 - k):=by rcases hk with rfl|rfl|rfl|rfl|rfl<;>decide
  unfold q7y
  exact⟨by omega,e2,h⟩
theorem v7e(s:S4)(i:Int)(h:0<=i):rnd (rn i.toNat s)=rn (i+1).toNat s:=by
  rw[show (i+1).toNat=i.toNat+1 by omega];rfl
theorem v3o{a b c d n:Int}{q:Nat}{K:Int->Int->Int->Int->Prop}(hn:n=(q:Int))(h1:q<=1000)(h:K (rn q (a,b,c,d)).1 (rn q (a,b,c,d)).2.1 (rn q (a,b,c,d)).2.2.1 (rn q (a,b,c,d)).2.2.2):Q8 a b c d n K:=by
  subst hn
  unfold Q8 Bm
  refine Lp5.ind (fun i a' b' c' d'=>0<=i/\i<=(q:Int)/\(a',b',c',d')=rn i.toNat (a,b,c,d)) (fun i _ _ _ _=>((q:Int) - i).toNat) ?_ ⟨Int.le_refl 0,by omega,rfl⟩
  rintro i a' b' c' d' ⟨i0,i1,hs⟩
  refine Cnd.mk (fun hc=>j3i (by simp) (j3i (by simp) (j3i (by simp) (j3i (by simp) (j3i (by simp) (j3i (by simp) ⟨by unfold InI;omega,⟨by omega,by omega,?_⟩,by omega⟩)))))) fun hc=> ?_
  · rw[←v7e _ _ i0,←hs];simp only[rnd,w64,xr]
  · rw[show q=i.toNat by omega,←hs] at h;exact h
theorem w6u{v:Sip}{n:Int}{q:Nat}{K:Sip->Prop}(hn:n=(q:Int))(h1:q<=1000)(h:K (Sip.mk (rn q (v.1,v.2,v.3,v.4)).1 (rn q (v.1,v.2,v.3,v.4)).2.1 (rn q (v.1,v.2,v.3,v.4)).2.2.1 (rn q (v.1,v.2,v.3,v.4)).2.2.2)):Zx v n K:=by
  subst hn
  unfold Zx q5l
  refine Lp5.ind (fun i a' b' c' d'=>0<=i/\i<=(q:Int)/\(a',b',c',d')=rn i.toNat (v.1,v.2,v.3,v.4)) (fun i _ _ _ _=>((q:Int) - i).toNat) ?_ ⟨Int.le_refl 0,by omega,rfl⟩
  rintro i a' b' c' d' ⟨i0,i1,hs⟩
  refine Cnd.mk (fun hc=>z6c (by simp) (z6c (by simp) (z6c (by simp) (z6c (by simp) (z6c (by simp) (z6c (by simp) ⟨by unfold InI;omega,⟨by omega,by omega,?_⟩,by omega⟩)))))) fun hc=> ?_
  · rw[←v7e _ _ i0,←hs];simp only[rnd,w64,xr]
  · rw[show q=i.toNat by omega,←hs] at h;exact h
theorem exR: ∃R:Nat->S4->S4,(∀(a b c d n:Int) (q:Nat) (K:Int->Int->Int->Int->Prop),n=(q:Int)->q<=1000->K (R q (a,b,c,d)).1 (R q (a,b,c,d)).2.1 (R q (a,b,c,d)).2.2.1 (R q (a,b,c,d)).2.2.2->Q8 a b c d n K)/\
    ∀(v:Sip) (n:Int) (q:Nat) (K:Sip->Prop),n=(q:Int)->q<=1000->K (Sip.mk (R q (v.1,v.2,v.3,v.4)).1 (R q (v.1,v.2,v.3,v.4)).2.1 (R q (v.1,v.2,v.3,v.4)).2.2.1 (R q (v.1,v.2,v.3,v.4)).2.2.2)->Zx v n K:=
  ⟨rn,fun _ _ _ _ _ _ _ hn hq h=>v3o hn hq h,fun _ _ _ _ hn hq h=>w6u hn hq h⟩
def RR:Nat->S4->S4:=Classical.choose exR
theorem w6v{a b c d n:Int}{q:Nat}{K:Int->Int->Int->Int->Prop}(hn:n=(q:Int))(h1:q<=1000)(h:K (RR q (a,b,c,d)).1 (RR q (a,b,c,d)).2.1 (RR q (a,b,c,d)).2.2.1 (RR q (a,b,c,d)).2.2.2):Q8 a b c d n K:=(Classical.choose_spec exR).1 a b c d n q K hn h1 h
theorem j8p{v:Sip}{n:Int}{q:Nat}{K:Sip->Prop}(hn:n=(q:Int))(h1:q<=1000)(h:K (Sip.mk (RR q (v.1,v.2,v.3,v.4)).1 (RR q (v.1,v.2,v.3,v.4)).2.1 (RR q (v.1,v.2,v.3,v.4)).2.2.1 (RR q (v.1,v.2,v.3,v.4)).2.2.2)):Zx v n K:=(Classical.choose_spec exR).2 v n q K hn h1 h
def wds(s:S4)(m:Int):S4:=(xr (RR 2 (s.1,s.2.1,s.2.2.1,xr s.2.2.2 m)).1 m,(RR 2 (s.1,s.2.1,s.2.2.1,xr s.2.2.2 m)).2)
def blks(b:List Int)(k0 k1:Int):Nat->S4
  |0=>s0 k0 k1
  |i+1=>wds (blks b k0 k1 i) ((wv b (8*i) 0 8).toNat:Int)
def fin4(s:S4):S4:=RR 4 (s.1,s.2.1,xr s.2.2.1 255,s.2.2.2)
def endV(s:S4):Int:=xr (xr (xr (fin4 s).1 (fin4 s).2.1) (fin4 s).2.2.1) (fin4 s).2.2.2
def sumV(k0 k1:Int)(b:List Int):Int:=
  endV (wds (blks b k0 k1 (b.length / 8)) ((y0y b).toNat:Int))
theorem v7f{a b c d m:Int}{K:Int->Int->Int->Int->Prop}(h:K (wds (a,b,c,d) m).1 (wds (a,b,c,d) m).2.1 (wds (a,b,c,d) m).2.2.1 (wds (a,b,c,d) m).2.2.2):Vv a b c d m K:=by
  unfold Vv q10
  simp only[wds,xr] at h
  exact w6v (q:=2) rfl (by decide) h
theorem y4s{s:S4}{K:Int->Prop}(h:K (endV s)):Q8 s.1 s.2.1 (Go.IntKind.u64.wrap (↑(BitVec.ofInt 64 s.2.2.1 ^^^ BitVec.ofInt 64 255).toNat:Int)) s.2.2.2 4 fun Z7 z87 y2t y5j=>K (Go.IntKind.u64.wrap (↑(BitVec.ofInt 64 (Go.IntKind.u64.wrap (↑(BitVec.ofInt 64 (Go.IntKind.u64.wrap (↑(BitVec.ofInt 64 Z7 ^^^ BitVec.ofInt 64 z87).toNat:Int)) ^^^ BitVec.ofInt 64 y2t).toNat:Int)) ^^^ BitVec.ofInt 64 y5j).toNat:Int)):=by
  simp only[endV,fin4,xr] at h
  exact w6v (q:=4) rfl (by decide) h
theorem v7g{s:S4}{K:Int->Prop}(h:K (endV s)):Zx (Sip.mk s.1 s.2.1 (Go.IntKind.u64.wrap (↑(BitVec.ofInt 64 s.2.2.1 ^^^ BitVec.ofInt 64 255).toNat:Int)) s.2.2.2) 4 fun x=>K (Go.IntKind.u64.wrap (↑(BitVec.ofInt 64 (Go.IntKind.u64.wrap (↑(BitVec.ofInt 64 (Go.IntKind.u64.wrap (↑(BitVec.ofInt 64 x.1 ^^^ BitVec.ofInt 64 x.2).toNat:Int)) ^^^ BitVec.ofInt 64 x.3).toNat:Int)) ^^^ BitVec.ofInt 64 x.4).toNat:Int)):=by
  simp only[endV,fin4,xr] at h
  exact j8p (q:=4) rfl (by decide) h
theorem v7h{a b c d m:Int}{K:Sip->Prop}(h: ∀x:Sip,(Go.IntKind.u64.wrap (↑(BitVec.ofInt 64 x.1 ^^^ BitVec.ofInt 64 m).toNat:Int),x.2,x.3,x.4)=wds (a,b,c,d) m->K x):Zx (Sip.mk a b c (Go.IntKind.u64.wrap (↑(BitVec.ofInt 64 d ^^^ BitVec.ofInt 64 m).toNat:Int))) 2 K:=by
  refine j8p (q:=2) rfl (by decide) (h _ ?_)
  simp only[wds,xr]
theorem y7b(b:List Int)(o:Nat)(v:BitVec 64): ∀k,wv b o v k=wv b o 0 k|||v
  |0=>by simp[wv]
  |k+1=>by
    rw[wv,wv,y7b b o v k,BitVec.or_assoc,BitVec.or_comm v,←BitVec.or_assoc]
theorem w9k{b:List Int}{o k:Nat}{v:BitVec 64}{y:Int}(hy:b[o+k]? =some y):wv b o v (k+1)=wv b o v k|||tm y k:=by
  rw[wv,List.getD_eq_getElem?_getD,hy];rfl
theorem y4t(n:Nat):topV n=BitVec.ofInt 64 (Go.IntKind.u64.wrap (Go.IntKind.u64.wrap ((n:Int).tmod 256)*2 ^ Min.min (Int.toNat 56) 64)):=by
  have e:(2:Int) ^ Min.min (Int.toNat 56) 64=72057594037927936:=by decide
  have h2:Go.IntKind.u64.wrap (Go.IntKind.u64.wrap (n:Int)*72057594037927936)=Go.IntKind.u64.wrap (Go.IntKind.u64.wrap ((n:Int).tmod 256)*72057594037927936):=by
    rw[j8o,j8o,j8o,j8o,Int.tmod_eq_emod_of_nonneg (by omega)]
    omega
  unfold topV
  rw[e,h2]
theorem w35{k0 k1:Int}{b:List Int}{K:Int->Prop}(hb:b.length<=1099511627776)(h:K (sumV k0 k1 b)):q42 k0 k1 b K:=by
  unfold q42 z3x
  refine fun _=>⟨by decide,?_⟩
  refine Lp5.ind (fun i a' b' c' d'=> ∃j:Nat,i=8*(j:Int)/\8*j<=b.length/\(a',b',c',d')=blks b k0 k1 j) (fun i _ _ _ _=>(b.length - i).toNat) ?_ ⟨0,rfl,by omega,rfl⟩
  rintro i a' b' c' d' ⟨j,rfl,hj,hs⟩
  refine⟨by unfold InI;omega,fun _=>Cnd.mk (fun hc=> ?_) fun hc=> ?_⟩
  · refine Lp2.ind (fun v k=> ∃q:Nat,k=(q:Int)/\q<=8/\v=((wv b (8*j) 0 q).toNat:Int)) (fun _ k=>(8 - k).toNat) ?_ ⟨0,rfl,by omega,rfl⟩
    rintro v k ⟨q,rfl,hq,rfl⟩
    refine Cnd.mk (fun hk=>⟨by unfold InI;omega,⟨by omega,by omega⟩,fun y hy=>⟨by unfold InI;omega,by omega,by unfold InI;omega,⟨q+1,by omega,by omega,?_⟩,by omega⟩⟩) fun hk=> ?_
    · rw[show (8*(j:Int)+q).toNat=8*j+q by omega] at hy
      rw[w9k hy,show (8*(q:Int)).toNat=8*q by omega]
      exact y0z _ _
    · refine v7f ⟨by unfold InI;omega,⟨j+1,by omega,by omega,?_⟩,by omega⟩
      rw[hs,show q=8 by omega];rfl
  · refine fun _=>⟨by decide,?_⟩
    have hjl:j=b.length / 8:=by omega
    have hm:((b.length:Nat):Int).tmod 8=((b.length % 8:Nat):Int):=by rw[Int.tmod_eq_emod_of_nonneg (by omega)];omega
    rw[hm]
    refine Lp2.ind (fun v k=> ∃q:Nat,k=(q:Int)/\q<=b.length % 8/\v=((wv b (8*j) (topV b.length) q).toNat:Int)) (fun _ k=>(8 - k).toNat) ?_ ⟨0,rfl,by omega,by unfold wv topV;exact y4r _⟩
    rintro v k ⟨q,rfl,hq,rfl⟩
    refine Cnd.mk (fun hk _ _=>⟨by decide,by unfold InI;omega,by unfold InI;omega,⟨by omega,by omega⟩,fun y hy=>⟨by unfold InI;omega,by omega,by unfold InI;omega,⟨q+1,by omega,by omega,?_⟩,by omega⟩⟩) fun hk=> ?_
    · rw[show ((b.length:Int) - ((b.length % 8:Nat):Int)+q).toNat=8*j+q by omega] at hy
      rw[w9k hy,show (8*(q:Int)).toNat=8*q by omega]
      exact y0z _ _
    · refine v7f (y4s (s:=wds (a',b',c',d') _) ?_)
      rw[hs,show q=b.length % 8 by omega,y7b,hjl]
      exact h
theorem v7i{k0 k1:Int}{b:List Int}{K:Int->Prop}(hb:b.length<=1099511627776)(h:K (sumV k0 k1 b)):z90 k0 k1 b K:=by
  unfold z90 w2q
  have hd:((b.length:Nat):Int).tdiv 8=((b.length / 8:Nat):Int):=by rw[Int.tdiv_eq_ediv_of_nonneg (by omega)];omega
  rw[hd]
  refine Lp5.ind (fun i a' b' c' d'=> ∃j:Nat,i=(j:Int)/\j<=b.length / 8+1/\(j<=b.length / 8->(a',b',c',d')=blks b k0 k1 j)/\(j=b.length / 8+1->(a',b',c',d')=wds (blks b k0 k1 (b.length / 8)) ((y0y b).toNat:Int))) (fun i _ _ _ _=>(b.length / 8+1 - i).toNat) ?_ ⟨0,rfl,by omega,fun _=>rfl,fun h=>by omega⟩
  rintro i a' b' c' d' ⟨j,rfl,hj,hs,hf⟩
  refine fun _=>⟨by decide,by unfold InI;omega,Cnd.mk (fun hc=> ?_) fun hc=> ?_⟩
  · have hs:=hs (by omega)
    have done: ∀q:Nat,(q=8∨q=b.length % 8/\j=b.length / 8)->q<=8->(j<b.length / 8->q=8)->(j=b.length / 8->q=b.length % 8)->Jn1 (fun Qe=>Zx (Sip.mk a' b' c' (Go.IntKind.u64.wrap (↑(BitVec.ofInt 64 d' ^^^ BitVec.ofInt 64 Qe).toNat:Int))) 2 fun Qm=>InI ((j:Int)+1)/\(∃j':Nat,(j:Int)+1=(j':Int)/\j'<=b.length / 8+1/\(j'<=b.length / 8->(Go.IntKind.u64.wrap (↑(BitVec.ofInt 64 Qm.1 ^^^ BitVec.ofInt 64 Qe).toNat:Int),Qm.2,Qm.3,Qm.4)=blks b k0 k1 j')/\(j'=b.length / 8+1->(Go.IntKind.u64.wrap (↑(BitVec.ofInt 64 Qm.1 ^^^ BitVec.ofInt 64 Qe).toNat:Int),Qm.2,Qm.3,Qm.4)=wds (blks b k0 k1 (b.length / 8)) ((y0y b).toNat:Int)))/\((b.length / 8:Nat)+1 - ((j:Int)+1)).toNat<((b.length / 8:Nat)+1 - (j:Int)).toNat) fun v4b=>b.length<=(9223372036854775807:Nat)->(8:Int)≠0/\InI ((b.length / 8:Nat):Int)/\Cnd ((j:Int)=((b.length / 8:Nat):Int)) (b.length<=(9223372036854775807:Nat)->(256:Int)≠0/\(0:Int)<=56/\v4b (Go.IntKind.u64.wrap (↑(BitVec.ofInt 64 ((wv b (8*j) 0 q).toNat:Int)|||BitVec.ofInt 64 (Go.IntKind.u64.wrap (Go.IntKind.u64.wrap ((b.length:Int).tmod 256)*2 ^ Min.min (Int.toNat 56) 64))).toNat:Int))) (v4b ((wv b (8*j) 0 q).toNat:Int)):=fun q _ hq h1 h2=>by
      refine Jn1.mk (fun x=>(j<b.length / 8->x=((wv b (8*j) 0 8).toNat:Int))/\(j=b.length / 8->x=((y0y b).toNat:Int))) (fun _=>⟨by decide,by unfold InI;omega,Cnd.mk (fun he=>fun _=>⟨by decide,by decide,fun _=>by omega,fun hjl=> ?_⟩) fun hne=>⟨fun hl=>by rw[h1 hl],fun he=>by omega⟩⟩) fun x hx=>v7h fun s hsw=>⟨by unfold InI;omega,⟨j+1,by omega,by omega,fun hl=> ?_,fun he=> ?_⟩,by omega⟩
      · rw[←y4t,y0z,h2 hjl,hjl];rfl
      · rw[hsw,hx.1 (by omega),blks,←hs]
      · rw[hsw,hx.2 (by omega),←show j=b.length / 8 by omega,←hs]
    refine Lp2.ind (fun v k=> ∃q:Nat,k=(q:Int)/\q<=8/\(j=b.length / 8->q<=b.length % 8)/\v=((wv b (8*j) 0 q).toNat:Int)) (fun _ k=>(8 - k).toNat) ?_ ⟨0,rfl,by omega,fun _=>by omega,rfl⟩
    rintro v k ⟨q,rfl,hq,hq2,rfl⟩
    refine Cnd.mk (fun hk=>⟨by unfold InI;omega,by unfold InI;omega,fun _=>Cnd.mk (fun hl=>⟨by unfold InI;omega,by unfold InI;omega,⟨by omega,by omega⟩,fun y hy=>⟨by unfold InI;omega,?_,by unfold InI;omega,⟨q+1,by omega,by omega,fun _=>by omega,?_⟩,by omega⟩⟩) fun hl=> ?_⟩) fun hk=> ?_
    · rw[show 8*(q:Int)=((8*q:Nat):Int) by omega,j0x (by omega)];omega
    · rw[show (8*(j:Int)+q).toNat=8*j+q by omega] at hy
      rw[w9k hy,show 8*(q:Int)=((8*q:Nat):Int) by omega,j0x (n:=8*q) (by omega),Int.toNat_natCast]
      exact y0z _ _
    · exact done q (by omega) hq (fun h=>by omega) (fun h=>by omega)
    · exact done q (by omega) hq (fun h=>by omega) (fun h=>by omega)
  · have hf:=hf (by omega)
    unfold sumV at h
    rw[←hf] at h
    exact v7g (s:=(a',b',c',d')) h
def fb(n k:Nat):Int:=Go.IntKind.u8.wrap ((Go.IntKind.u64.wrap (n:Int)).fdiv (2 ^ Min.min (8*k) 64))
def hdr(n:Nat)(j:Nat):List Int:=(List.range j).map fun i=>fb n (7 - i)
def frm(l:List (List Int)):List Int:=l.flatMap fun f=>hdr f.length 8++f
theorem v1f(n j:Nat):hdr n (j+1)=hdr n j++[fb n (7 - j)]:=by simp[hdr,List.range_succ]
theorem z8x(n j:Nat):(hdr n j).length=j:=by simp[hdr]
theorem j50{l:List (List Int)}{i:Nat}{y:List Int}(hy:l[i]? =some y):frm (l.take (i+1))=frm (l.take i)++(hdr y.length 8++y):=by
  rw[List.take_add_one,hy];simp[frm]
theorem j8q(l:List (List Int))(i:Nat):(frm (l.take i)).length<=(frm l).length:=by
  have h:frm l=frm (l.take i)++frm (l.drop i):=by
    conv=>lhs;rw[←List.take_append_drop i l]
    exact List.flatMap_append
  rw[h,List.length_append];omega
theorem j8r{l:List (List Int)}{K:List Int->Prop}(hl:(frm l).length<=1000000000)(hn:l.length<=1000)(h:K (frm l)):Bw l K:=by
  unfold Bw
  refine fun _=>Lp2.ind (fun o i=> ∃j:Nat,i=(j:Int)/\j<=l.length/\o=frm (l.take j)) (fun _ i=>(l.length - i).toNat) ?_ ⟨0,rfl,by omega,rfl⟩
  rintro o i ⟨j,rfl,hj,rfl⟩
  refine Cnd.mk (fun hc=>⟨by omega,fun y hy=> ?_⟩) fun hc=> ?_
  · have hy:l[j]? =some y:=hy
    have hln:=j8q l (j+1)
    rw[j50 hy] at hln
    simp only[List.length_append,z8x] at hln
    refine Lp2.ind (fun o k=> ∃q:Nat,k=7 - (q:Int)/\q<=8/\o=frm (l.take j)++hdr y.length q) (fun _ k=>(k+1).toNat) ?_ ⟨0,rfl,by omega,by simp[hdr]⟩
    rintro o k ⟨q,rfl,hq,rfl⟩
    refine Cnd.mk (fun hk _=>⟨by unfold InI;omega,by omega,?_,by unfold InI;omega,⟨q+1,by omega,by omega,?_⟩,by omega⟩) fun hk=>⟨?_,by unfold InI;omega,⟨j+1,by omega,by omega,?_⟩,by omega⟩
    · unfold Sml;simp only[List.length_append,z8x,List.length_singleton];omega
    · rw[v1f,←List.append_assoc,show (8*(7 - (q:Int))).toNat=8*(7 - q) by omega];rfl
    · unfold Sml;simp only[List.length_append,z8x];omega
    · rw[j50 hy,show q=8 by omega,List.append_assoc]
  · rw[show j=l.length by omega,List.take_length];exact h
theorem w9l{l:List (List Int)}{K:List Int->Prop}(hl:(frm l).length<=1000000000)(hn:l.length<=1000)(h:K (frm l)):z0n l K:=by
  unfold z0n
  refine Lp2.ind (fun o i=> ∃j:Nat,i=(j:Int)/\j<=l.length/\o=frm (l.take j)) (fun _ i=>(l.length - i).toNat) ?_ ⟨0,rfl,by omega,rfl⟩
  rintro o i ⟨j,rfl,hj,rfl⟩
  refine fun _=>Cnd.mk (fun hc=>⟨by omega,fun y hy _=> ?_⟩) fun hc=> ?_
  · have hy:l[j]? =some y:=hy
    have hln:=j8q l (j+1)
    rw[j50 hy] at hln
    simp only[List.length_append,z8x] at hln
    refine Lp2.ind (fun o k=> ∃q:Nat,k=56 - 8*(q:Int)/\q<=8/\o=frm (l.take j)++hdr y.length q) (fun _ k=>(k+8).toNat) ?_ ⟨0,rfl,by omega,by simp[hdr]⟩
    rintro o k ⟨q,rfl,hq,rfl⟩
    refine Cnd.mk (fun hk=> ?_) fun hk=>⟨by omega,fun z hz=> ?_⟩
    · have e:56 - 8*(q:Int)=((8*(7 - q):Nat):Int):=by omega
      rw[e,j0x (by omega)]
      refine⟨by omega,?_,by unfold InI;omega,⟨q+1,by omega,by omega,?_⟩,by omega⟩
      · unfold Sml;simp only[List.length_append,z8x,List.length_singleton];omega
      · rw[v1f,←List.append_assoc,Int.toNat_natCast];rfl
    · have hz:l[j]? =some z:=hz
      rw[hy] at hz
      cases hz
      refine⟨?_,by unfold InI;omega,⟨j+1,by omega,by omega,?_⟩,by omega⟩
      · unfold Sml;simp only[List.length_append,z8x];omega
      · rw[j50 hy,show q=8 by omega,List.append_assoc]
  · rw[show j=l.length by omega,List.take_length];exact h
theorem v7j(a b:Int):0<=xr a b/\xr a b<18446744073709551616:=by
  unfold xr
  rw[j0x (BitVec.isLt _)]
  have:=(BitVec.ofInt 64 a ^^^ BitVec.ofInt 64 b).isLt
  omega
def ofV0(salt key:ByteArray):Int:=(sumV 1 0 (frm [bytesOf salt,bytesOf key])).tmod 10000
theorem w36(salt key:ByteArray):0<=ofV0 salt key/\ofV0 salt key<10000:=by
  have h: ∀s,0<=endV s:=fun s=>(v7j _ _).1
  have h0:0<=sumV 1 0 (frm [bytesOf salt,bytesOf key]):=h _
  exact⟨Int.tmod_nonneg _ h0,Int.tmod_lt_of_pos _ (by decide)⟩
theorem v1g(a b:ByteArray):(frm [bytesOf a,bytesOf b]).length=a.size+b.size+16:=by
  have h: ∀a:ByteArray,(bytesOf a).length=a.size:=fun a=>by simp[bytesOf]
  simp only[frm,List.flatMap_cons,List.flatMap_nil,List.length_append,z8x,h,List.length_nil]
  omega
theorem w37{salt key:ByteArray}{K:Int->Prop}(hs:salt.size<=10000000)(hk:key.size<=10000000)(h:K (ofV0 salt key)):U9 salt key K:=by
  have hl:=v1g salt key
  have hr:=w36 salt key
  unfold U9 z70
  refine⟨by unfold Sml;omega,by unfold Sml;omega,?_⟩
  show q12 1 [bytesOf salt,bytesOf key] _
  unfold q12 z1c
  refine j8r (by omega) (by simp) (w35 (by omega) ⟨by decide,?_,h⟩)
  exact InI.mk (Int.le_trans (by decide) hr.1) (Int.le_trans (Int.le_of_lt hr.2) (by decide))
theorem v3p{salt key:ByteArray}{K:Int->Prop}(hs:salt.size<=10000000)(hk:key.size<=10000000)(h:K (ofV0 salt key)):q8p salt key K:=by
  have hl:=v1g salt key
  have hr:=w36 salt key
  unfold q8p w2r
  refine⟨by unfold Sml;omega,by unfold Sml;omega,?_⟩
  show z33 1 [bytesOf salt,bytesOf key] _
  unfold z33 j7b
  refine w9l (by omega) (by simp) (v7i (by omega) ⟨by decide,?_,h⟩)
  exact InI.mk (Int.le_trans (by decide) hr.1) (Int.le_trans (Int.le_of_lt hr.2) (by decide))
theorem exOf: ∃F:ByteArray->ByteArray->Int,(∀a b,0<=F a b/\F a b<10000)/\(∀(salt key:ByteArray) (K:Int->Prop),salt.size<=10000000->key.size<=10000000->K (F salt key)->U9 salt key K)/\
    ∀(salt key:ByteArray) (K:Int->Prop),salt.size<=10000000->key.size<=10000000->K (F salt key)->q8p salt key K:=
  ⟨ofV0,w36,fun _ _ _ h1 h2 h=>w37 h1 h2 h,fun _ _ _ h1 h2 h=>v3p h1 h2 h⟩
def ofV:ByteArray->ByteArray->Int:=Classical.choose exOf
theorem v7k(salt key:ByteArray):0<=ofV salt key/\ofV salt key<10000:=(Classical.choose_spec exOf).1 salt key
theorem z43{salt key:ByteArray}{K:Int->Prop}(hs:salt.size<=10000000)(hk:key.size<=10000000)(h:K (ofV salt key)):U9 salt key K:=(Classical.choose_spec exOf).2.1 salt key K hs hk h
theorem w6w{salt key:ByteArray}{K:Int->Prop}(hs:salt.size<=10000000)(hk:key.size<=10000000)(h:K (ofV salt key)):q8p salt key K:=(Classical.choose_spec exOf).2.2 salt key K hs hk h
end Go.En
end
noncomputable section
set_option maxRecDepth 100000
namespace Go.En
open Go Go.Fl Go.Fl.Lk Go.Fx
theorem w1h{α:Type}{a b:List α}(hl:a.length=b.length){F:α->α->(Bool->Prop)->Prop}{K:Bool->Prop}(hF: ∀x∈a,∀y∈b,∀K:Bool->Prop,(∀r,(r=true↔x=y)->K r)->F x y K)(h: ∀r,(r=true↔a=b)->K r):
  Lp1 (fun i Y=>a.length<=9223372036854775807->Cnd (i<(a.length:Int)) ((0<=i/\i<(a.length:Int))/\ ∀x,a[i.toNat]? =some x->(0<=i/\i<(b.length:Int))/\ ∀y,b[i.toNat]? =some y->F x y fun r=>Cnd (r=true) (InI (i+1)/\Y (i+1)) (K false)) (K true)) 0:=by
 refine Lp1.ind (fun (i:Int)=>0<=i/\i<=a.length/\a.take i.toNat=b.take i.toNat) (fun (i:Int)=>(a.length - i).toNat) ?_ ⟨by omega,by omega,by simp⟩
 rintro i ⟨i0,i1,he⟩ _
 refine Cnd.mk (fun hc=>⟨by omega,fun x hx=>⟨by omega,fun y hy=>hF x (getm hx) y (getm hy) _ fun r hr=>Cnd.mk (fun hc=>⟨by unfold InI;omega,⟨by omega,by omega,?_⟩,by omega⟩) fun hc=>h _ ⟨fun h=>(by cases h),fun h=> ?_⟩⟩⟩) fun hc=>h _ ⟨fun _=> ?_,fun _=>rfl⟩
 ·rw[show (i+1).toNat=i.toNat+1 by omega,List.take_add_one,List.take_add_one,he,hx,hy,hr.1 hc]
 ·subst h;rw[hx] at hy;exact absurd (hr.2 (by cases hy;rfl)) hc
 ·rwa [List.take_of_length_le (by omega),List.take_of_length_le (by omega)] at he
theorem v3q{a b:List ByteArray}{K:Bool->Prop}(h: ∀r,(r=true↔a=b)->K r):z3i a b K:=by
 unfold z3i
 intro ha hb
 refine Cnd.mk (fun hl=> ?_) fun hl=>h _ ⟨fun h=>(by cases h),fun e=>by rw[e] at hl;exact absurd rfl hl⟩
 refine Lp1.ind (fun (i:Int)=>0<=i/\i<=a.length/\a.take i.toNat=b.take i.toNat) (fun (i:Int)=>(a.length - i).toNat) ?_ ⟨by omega,by omega,by simp⟩
 rintro i ⟨i0,i1,he⟩ _
 refine Cnd.mk (fun hc=>⟨by omega,fun x hx=>⟨by omega,fun y hy=>Cnd.mk (fun hc=>⟨by unfold InI;omega,⟨by omega,by omega,?_⟩,by omega⟩) fun hc=>h _ ⟨fun h=>(by cases h),fun h=> ?_⟩⟩⟩) fun hc=>h _ ⟨fun _=> ?_,fun _=>rfl⟩
 ·rw[show (i+1).toNat=i.toNat+1 by omega,List.take_add_one,List.take_add_one,he,hx,hy,hc]
 ·subst h;rw[hx] at hy;cases hy;exact absurd rfl hc
 ·rwa [List.take_of_length_le (by omega),List.take_of_length_le (by omega)] at he
theorem G7{l:List ByteArray}{s:ByteArray}{K:Bool->Prop}(h: ∀r,(r=true↔s∈l)->K r):U7 l s K:=by
 unfold U7
 refine Lp1.ind (fun (i:Int)=>0<=i/\i<=l.length/\s∉l.take i.toNat) (fun (i:Int)=>(l.length - i).toNat) ?_ ⟨by omega,by omega,by simp⟩
 rintro i ⟨i0,i1,he⟩ _
 refine Cnd.mk (fun hc=>⟨by omega,fun x hx=>Cnd.mk (fun e=>h _ ⟨fun _=>e▸getm hx,fun _=>rfl⟩) fun e=>⟨by unfold InI;omega,⟨by omega,by omega,?_⟩,by omega⟩⟩) fun hc=>h _ ⟨fun h=>(by cases h),fun hm=> ?_⟩
 ·rw[show (i+1).toNat=i.toNat+1 by omega,List.take_add_one,hx];simp[he,Ne.symm e]
 ·rw[List.take_of_length_le (by omega)] at he;exact absurd hm he
theorem z8y{a b:Val}{K:Bool->Prop}(h: ∀r,(r=true↔a=b)->K r):q3b a b K:=by
 unfold q3b j2a
 have no:(a≠b)->K false:=fun hn=>h _ ⟨fun h=>(by cases h),fun e=>absurd e hn⟩
 refine Cnd.mk (fun h1=>Cnd.mk (fun h2=>Cnd.mk (fun h3=>v3q fun r hr=>h r (hr.trans ⟨fun h4=> ?_,fun e=>by rw[e]⟩)) fun h=>no fun e=>h (by rw[e])) fun h=>no fun e=>h (by rw[e])) fun h=>no fun e=>h (by rw[e])
 cases a;cases b;simp_all
theorem j45{a b:List Val}{K:Bool->Prop}(h: ∀r,(r=true↔a=b)->K r):Uj a b K:=by
 unfold Uj q65
 intro ha hb
 exact Cnd.mk (fun hl=>w1h (by omega) (fun x _ y _ K hK=>z8y hK) h) fun hl=>h _ ⟨fun h=>(by cases h),fun e=>by rw[e] at hl;exact absurd rfl hl⟩
theorem Jb{e:Ex}:Ex.mk e.op e.kind e.name e.values e.kids=e:=by cases e;rfl
theorem j95: ∀(n:Nat) {a b:Ex} {K:Bool->Prop},ExS n a->(∀r,(r=true↔a=b)->K r)->Rv a b K:=by
 intro n a b K ha h X hX
 induction n using Nat.strongRecOn generalizing a b K with
 |_ n ih=>
 refine hX _ _ _ ?_
 unfold z07
 have no:(a≠b)->K false:=fun hn=>h _ ⟨fun h=>(by cases h),fun e=>absurd e hn⟩
 refine Cnd.mk (fun h1=>Cnd.mk (fun h2=>Cnd.mk (fun h3=>j45 fun r hr=>Cnd.mk (fun hc _ _=>Cnd.mk (fun hl=> ?_) fun h=>no fun e=>h (by rw[e])) fun hc=>no fun e=>hc (hr.2 (by rw[e]))) fun h=>no fun e=>h (by rw[e])) fun h=>no fun e=>h (by rw[e])) fun h=>no fun e=>h (by rw[e])
 have h4:=hr.1 hc
 refine w1h (by omega) (fun x hx y _ K hK=> ?_) fun r hr=>h r (hr.trans ⟨fun h5=> ?_,fun e=>by rw[e]⟩)
 ·obtain⟨m,hm,hk⟩:=ha.kid hx
  rw[Jb,Jb]
  exact ih m (by omega) hk hK
 ·cases a;cases b;simp_all
theorem j8s(n:Nat){a b:Ex}{K:Bool->Prop}(ha:ExS n a)(h: ∀r,(r=true↔a=b)->K r):Rv (Ex.mk a.1 a.2 a.3 a.4 a.5) (Ex.mk b.1 b.2 b.3 b.4 b.5) K:=by
 rw[Jb,Jb];exact j95 n ha h
theorem j39{n:Nat}{l:List Ex}{e:Ex}{K:Int->Prop}(hl: ∀x∈l,ExS n x)(h: ∀r:Int,(r= -1/\e∉l)∨(0<=r/\l[r.toNat]? =some e/\e∉l.take r.toNat)->K r):V7 l e K:=by
 unfold V7 z7p
 refine Lp1.ind (fun (i:Int)=>0<=i/\i<=l.length/\e∉l.take i.toNat) (fun (i:Int)=>(l.length - i).toNat) ?_ ⟨by omega,by omega,by simp⟩
 rintro i ⟨i0,i1,he⟩ _
 refine Cnd.mk (fun hc=>⟨by omega,fun x hx=>j8s n (hl x (getm hx)) fun r hr=>Cnd.mk (fun hc=>h _ (.inr ⟨i0,by rw[hx,hr.1 hc],he⟩)) fun hc=>⟨by unfold InI;omega,⟨by omega,by omega,?_⟩,by omega⟩⟩) fun hc=>h _ (.inl ⟨rfl,?_⟩)
 ·rw[show (i+1).toNat=i.toNat+1 by omega,List.take_add_one,hx]
  have:e≠x:=fun e=>hc (hr.2 e.symm)
  simp[he,this]
 ·rwa [List.take_of_length_le (by omega)] at he
theorem q08{op:Int}{K:Bool->Prop}(h: ∀r,(r=true↔6<=op/\op<=15)->K r):Jj op K:=by
 unfold Jj
 exact Cnd.mk (fun h6=>h _ ⟨fun a=>⟨h6,of_decide_eq_true a⟩,fun a=>decide_eq_true a.2⟩) fun h6=>h _ ⟨fun a=>(by cases a),fun a=>absurd a.1 h6⟩
theorem w9m{now:Int}{K:Bool->Prop}(h: ∀r,(r=true↔0<=now/\now<=1099511627776)->K r):q97 now K:=by
 unfold q97
 exact Cnd.mk (fun h6=>h _ ⟨fun a=>⟨h6,of_decide_eq_true a⟩,fun a=>decide_eq_true a.2⟩) fun h6=>h _ ⟨fun a=>(by cases a),fun a=>absurd a.1 h6⟩
theorem w6x{α:Type}{l:List α}{f:α->ByteArray}{key:ByteArray}{K:Int->Prop}(h: ∀r:Int,(r= -1/\ ∀x∈l,f x≠key)∨(0<=r/\r<l.length/\(∃x,l[r.toNat]? =some x/\f x=key)/\ ∀x∈l.take r.toNat,f x≠key)->K r):
  Lp1 (fun i Y=>l.length<=9223372036854775807->Cnd (i<(l.length:Int)) ((0<=i/\i<(l.length:Int))/\ ∀y,l[i.toNat]? =some y->Cnd (f y=key) (K i) (InI (i+1)/\Y (i+1))) (K (-1))) 0:=by
 refine Lp1.ind (fun (i:Int)=>0<=i/\i<=l.length/\ ∀x∈l.take i.toNat,f x≠key) (fun (i:Int)=>(l.length - i).toNat) ?_ ⟨by omega,by omega,by simp⟩
 rintro i ⟨i0,i1,he⟩ _
 refine Cnd.mk (fun hc=>⟨by omega,fun x hx=>Cnd.mk (fun e=>h _ (.inr ⟨i0,hc,⟨x,hx,e⟩,he⟩)) fun e=>⟨by unfold InI;omega,⟨by omega,by omega,?_⟩,by omega⟩⟩) fun hc=>h _ (.inl ⟨rfl,?_⟩)
 ·rw[show (i+1).toNat=i.toNat+1 by omega,List.take_add_one,hx]
  exact Zq he e
 ·rwa [List.take_of_length_le (by omega)] at he
def PlcS{α:Type}(l:List α)(f:α->ByteArray)(key:ByteArray)(r:Int):Prop:=(r= -1/\ ∀x∈l,f x≠key)∨(0<=r/\r<l.length/\(∃x,l[r.toNat]? =some x/\f x=key)/\ ∀x∈l.take r.toNat,f x≠key)
theorem q9v{v:Envt}{key:ByteArray}{K:Int->Prop}(h: ∀r,PlcS v.layers Lay_.key key r->K r):Vp v key K:=w6x h
theorem j0y{v:Envt}{key:ByteArray}{K:Int->Prop}(h: ∀r,PlcS v.flags Flg.key key r->K r):q06 v key K:=w6x h
theorem q31{l:List Spn}{K:List Bool->Prop}(h: ∀b:List Bool,b.length=10000->K b):Hx l K:=by
 unfold Hx
 refine⟨⟨by decide,Int.le_refl _,by unfold Sml;decide⟩,Lp2.ind (fun (i:Int) (b:List Bool)=>0<=i/\i<=l.length/\b.length=10000) (fun (i:Int) _=>(l.length - i).toNat) ?_ ⟨by omega,by omega,by rw[List.length_replicate];decide⟩⟩
 rintro i b ⟨i0,i1,hb⟩ _
 refine Cnd.mk (fun hc=>⟨by omega,fun y hy=> ?_⟩) fun _=>h b hb
 refine Lp2.ind (fun (j:Int) (b:List Bool)=>0<=j/\b.length=10000) (fun (j:Int) _=>(10000 - j).toNat) ?_ ⟨by omega,hb⟩
 rintro j b ⟨j0,hb⟩
 refine⟨by omega,fun z hz=>Cnd.mk (fun hc=>⟨by omega,fun u hu=>⟨by unfold InI;omega,⟨by omega,by simpa using hb⟩,by omega⟩⟩) fun _=>⟨by unfold InI;omega,⟨by omega,by omega,hb⟩,by omega⟩⟩
theorem q5b{b:List Bool}{K:List Spn->Prop}(hb:b.length<=10000)(h: ∀l,SpsS l->K l):J0 b K:=by
 unfold J0
 refine Lp2.ind (fun (l:List Spn) (i:Int)=>0<=i/\i<=b.length/\l.length<=i/\(∀s∈l,0<=s.lo/\s.lo<s.hi/\s.hi<=i)/\(0<i->b[(i - 1).toNat]? =some true->l≠[])) (fun _ (i:Int)=>(b.length - i).toNat) ?_ ⟨by omega,by omega,by simp,by simp,by omega⟩
 rintro l i ⟨i0,i1,hl,hs,hn⟩ _
 refine Cnd.mk (fun hc=>⟨by omega,fun y hy=>Cnd.mk (fun ht=> ?_) fun hf=> ?_⟩) fun _=>h l ⟨by omega,fun s hm=>by have:=hs s hm;omega⟩
 ·have snoc:InI (i+1)/\Sml (l++[Spn.mk i (i+1)]).length/\InI (i+1)/\((0<=i+1/\i+1<=b.length/\((l++[Spn.mk i (i+1)]).length:Int)<=i+1/\(∀s∈l++[Spn.mk i (i+1)],0<=s.lo/\s.lo<s.hi/\s.hi<=i+1)/\(0<i+1->b[(i+1 - 1).toNat]? =some true->l++[Spn.mk i (i+1)]≠[]))/\(b.length - (i+1)).toNat<(b.length - i).toNat):=
   ⟨by unfold InI;omega,by unfold Sml;simp;omega,by unfold InI;omega,⟨by omega,by omega,by simp;omega,Zq (fun s hm=>by have:=hs s hm;omega) ⟨i0,by simp only;omega,by simp⟩,fun _ _=>by simp⟩,by omega⟩
  refine Cnd.mk (fun hp=>⟨by unfold InI;omega,by omega,fun z hz=>Cnd.mk (fun hz1=> ?_) fun _=>snoc⟩) fun _=>snoc
  have hne:=hn hp (by rw[hz,hz1])
  have hpos:0<l.length:=List.length_pos_iff.2 hne
  refine fun _=>⟨by unfold InI;omega,by unfold InI;omega,by omega,fun u hu=>⟨by unfold InI;omega,⟨by omega,by omega,by simp;omega,fun s hm=> ?_,fun _ _ hx=> ?_⟩,by omega⟩⟩
  ·have:=hs u (getm hu)
   rcases List.mem_or_eq_of_mem_set hm with hm|rfl
   ·have:=hs s hm;omega
   ·exact⟨this.1,by simp only;omega,by simp⟩
  ·exact hne (by rw[←List.length_eq_zero_iff] at hx⊢;simpa using hx)
 ·refine⟨by unfold InI;omega,⟨by omega,by omega,by omega,fun s hm=>by have:=hs s hm;omega,fun _ hx=> ?_⟩,by omega⟩
  rw[show (i+1 - 1).toNat=i.toNat by omega,hy] at hx
  cases hx;exact absurd rfl hf
theorem z2u{l:List Col}{now:Int}{K:List Int->Prop}(h: ∀b:List Int,b.length=10000->K b):Hw l now K:=by
 unfold Hw
 refine⟨⟨by decide,Int.le_refl _,by unfold Sml;decide⟩,Lp2.ind (fun (i:Int) (b:List Int)=>0<=i/\i<=10000/\b.length=10000) (fun (i:Int) _=>(10000 - i).toNat) ?_ ⟨by omega,by omega,by rw[List.length_replicate];decide⟩⟩
 rintro i b ⟨i0,i1,hb⟩ _
 refine Cnd.mk (fun hc=>⟨by omega,fun y hy=>⟨by unfold InI;omega,⟨by omega,by omega,by simpa using hb⟩,by omega⟩⟩) fun _=> ?_
 refine Lp2.ind (fun (i:Int) (b:List Int)=>0<=i/\i<=l.length/\b.length=10000) (fun (i:Int) _=>(l.length - i).toNat) ?_ ⟨by omega,by omega,hb⟩
 rintro i b ⟨i0,i1,hb⟩ _
 refine Cnd.mk (fun hc=>⟨by omega,fun y hy=> ?_⟩) fun _=>h b hb
 refine Lp2.ind (fun (j:Int) (b:List Int)=>0<=j/\b.length=10000) (fun (j:Int) _=>(10000 - j).toNat) ?_ ⟨by omega,hb⟩
 rintro j b ⟨j0,hb⟩
 refine⟨by omega,fun z hz=>Cnd.mk (fun hc=>⟨by omega,fun u hu=>⟨by omega,fun w hw=>⟨by omega,fun x hx=>⟨by unfold InI;omega,⟨by omega,by simpa using hb⟩,by omega⟩⟩⟩⟩) fun _=>⟨by unfold InI;omega,⟨by omega,by omega,hb⟩,by omega⟩⟩
theorem z44{u:List Int}{now:Int}{K:List Spn->Prop}(hu:u.length<=10000)(h: ∀l,SpsS l->K l):q69 u now K:=by
 unfold q69 z7q
 refine fun _=>⟨⟨by omega,Int.le_refl _,by unfold Sml;omega⟩,Lp2.ind (fun (i:Int) (b:List Bool)=>0<=i/\i<=u.length/\b.length=u.length) (fun (i:Int) _=>(u.length - i).toNat) ?_ ⟨by omega,by omega,by simp⟩⟩
 rintro i b ⟨i0,i1,hb⟩ _
 exact Cnd.mk (fun hc=>⟨by omega,fun y hy=>⟨by omega,fun z hz=>⟨by unfold InI;omega,⟨by omega,by omega,by simpa using hb⟩,by omega⟩⟩⟩) fun _=>q5b (by omega) h
theorem q8z{a b:List Spn}{K:List Spn->Prop}(h: ∀l,SpsS l->K l):q7b a b K:=by
 unfold q7b z7r
 refine q31 fun x hx=>q31 fun y hy=>Lp2.ind (fun (i:Int) (b:List Bool)=>0<=i/\i<=10000/\b.length=10000) (fun (i:Int) _=>(10000 - i).toNat) ?_ ⟨by omega,by omega,hx⟩
 rintro i b ⟨i0,i1,hb⟩ _
 exact Cnd.mk (fun hc=>⟨by omega,fun y hy=>Cnd.mk (fun _=>⟨by omega,fun _ _=>⟨by unfold InI;omega,⟨by omega,by omega,by simpa using hb⟩,by omega⟩⟩) fun _=>⟨by omega,fun _ _=>⟨by omega,fun _ _=>⟨by unfold InI;omega,⟨by omega,by omega,by simpa using hb⟩,by omega⟩⟩⟩⟩) fun _=>q5b (by omega) h
theorem j4a{a b:List Spn}{K:List Spn->Prop}(h: ∀l,SpsS l->K l):q0i a b K:=by
 unfold q0i z7t
 refine q31 fun x hx=>q31 fun y hy=>Lp2.ind (fun (i:Int) (b:List Bool)=>0<=i/\i<=10000/\b.length=10000) (fun (i:Int) _=>(10000 - i).toNat) ?_ ⟨by omega,by omega,hx⟩
 rintro i b ⟨i0,i1,hb⟩ _
 exact Cnd.mk (fun hc=>⟨by omega,fun y hy=>Cnd.mk (fun _=>⟨by omega,fun _ _=>⟨by omega,fun _ _=>⟨by unfold InI;omega,⟨by omega,by omega,by simpa using hb⟩,by omega⟩⟩⟩) fun _=>⟨by omega,fun _ _=>⟨by unfold InI;omega,⟨by omega,by omega,by simpa using hb⟩,by omega⟩⟩⟩) fun _=>q5b (by omega) h
theorem w38{a b:List Spn}{K:List Spn->Prop}(h: ∀l,SpsS l->K l):q40 a b K:=by
 unfold q40 z3w
 refine q31 fun x hx=>q31 fun y hy=>Lp2.ind (fun (i:Int) (b:List Bool)=>0<=i/\i<=10000/\b.length=10000) (fun (i:Int) _=>(10000 - i).toNat) ?_ ⟨by omega,by omega,hx⟩
 rintro i b ⟨i0,i1,hb⟩ _
 exact Cnd.mk (fun hc=>⟨by omega,fun y hy=>Cnd.mk (fun _=>⟨by omega,fun _ _=>⟨by omega,fun _ _=>⟨by unfold InI;omega,⟨by omega,by omega,by simpa using hb⟩,by omega⟩⟩⟩) fun _=>⟨by omega,fun _ _=>⟨by unfold InI;omega,⟨by omega,by omega,by simpa using hb⟩,by omega⟩⟩⟩) fun _=>q5b (by omega) h
theorem w6y{a:List Spn}{n:Int}{K:List Spn->Prop}(hn: -1000000<=n/\n<=1000000)(h: ∀l,SpsS l->K l):q7f a n K:=by
 unfold q7f z7u
 refine q31 fun x hx=>Lp3.ind (fun (m i:Int) (b:List Bool)=>0<=i/\i<=10000/\b.length=10000/\ -1000000 - i<=m/\m<=1000000) (fun _ (i:Int) _=>(10000 - i).toNat) ?_ ⟨by omega,by omega,hx,by omega,by omega⟩
 rintro m i b ⟨i0,i1,hb,m0,m1⟩ _
 refine Cnd.mk (fun hc=>⟨by omega,fun y hy=> ?_⟩) fun _=>q5b (by omega) h
 have step:(0<=i/\i<(b.length:Int))/\ ∀y5,b[i.toNat]? =some y5->Cnd (y5=true) (InI (m - 1)/\InI (i+1)/\((0<=i+1/\i+1<=10000/\b.length=10000/\ -1000000 - (i+1)<=m - 1/\m - 1<=1000000)/\(10000 - (i+1)).toNat<(10000 - i).toNat)) (InI (i+1)/\((0<=i+1/\i+1<=10000/\b.length=10000/\ -1000000 - (i+1)<=m/\m<=1000000)/\(10000 - (i+1)).toNat<(10000 - i).toNat)):=
  ⟨by omega,fun _ _=>Cnd.mk (fun _=>⟨by unfold InI;omega,by unfold InI;omega,by omega,by omega⟩) fun _=>⟨by unfold InI;omega,by omega,by omega⟩⟩
 exact Cnd.mk (fun _=>Cnd.mk (fun _=>⟨by omega,fun _ _=>⟨by unfold InI;omega,⟨by omega,by omega,by simpa using hb,by omega,by omega⟩,by omega⟩⟩) fun _=>step) fun _=>step
theorem y4u(n:Int):0<=Go.IntKind.u8.wrap n/\Go.IntKind.u8.wrap n<=255:=by
 have e:Go.IntKind.u8.wrap n=n % 256:=rfl
 rw[e];omega
theorem v3r{s:ByteArray}{K:Bool->Prop}(hs:s.size<=1000)(h: ∀r,K r):z3m s K:=by
 unfold z3m
 refine Lp1.ind (fun (i:Int)=>0<=i/\i<=s.size) (fun (i:Int)=>(s.size - i).toNat) ?_ ⟨by omega,by omega⟩
 rintro i ⟨i0,i1⟩
 (repeat' (first|exact h _|assumption|(unfold InI;omega)|omega|refine Cnd.mk (fun _=> ?_) fun _=> ?_|refine⟨?_,?_⟩|intro _))
theorem v3s{e:Ex}{K:Bool->Prop}(h: ∀r,K r):z3o e K:=by
 unfold z3o
 (repeat' (first|exact h _|assumption|(unfold InI;omega)|omega|refine Cnd.mk (fun _=> ?_) fun _=> ?_|refine⟨?_,?_⟩|intro _))
theorem w6z{e:Ex}{K:Bool->Prop}(h: ∀r:Bool,(r=true->9<=e.op->e.op<=11->e.values≠[])->K r):q7h e K:=by
 unfold q7h z7v
 intro _ _
 refine Jn2.mk (fun _ v=>v=true->9<=e.op->e.op<=11->e.values.length=1) ?_ fun k v hv=> ?_
 ·refine Cnd.mk (fun _ _ _ _ _=>by omega) fun _=>Cnd.mk (fun _ _ _ _ _=>by omega) fun _=>Cnd.mk (fun _ _ _ _ _=>by omega) fun _=>Cnd.mk (fun _ _ _ _ _=>by omega) fun _=>q08 fun r hr=>Cnd.mk (fun _=>Cnd.mk (fun _ _ _ _=>by omega) fun _ _ hd _ _=>by have:=of_decide_eq_true hd;omega) fun hc _ h1 h2=>absurd (hr.2 ⟨by omega,by omega⟩) hc
 ·have no:K false:=h _ fun h=>by cases h
  refine q08 fun r _=>Cnd.mk (fun _=>Cnd.mk (fun hv'=> ?_) fun _=>no) fun _=>no
  have yes: ∀r,K r:=fun r=>h r fun _ h1 h2 hn=>by have:=hv hv' h1 h2;rw[hn] at this;cases this
  (repeat' (first|exact yes _|exact no|assumption|(unfold InI;omega)|omega|refine Cnd.mk (fun _=> ?_) fun _=> ?_|refine⟨?_,?_⟩|intro _))
theorem w9n{v:Val}{K:Bool->Prop}(h: ∀r,K r):q3d v K:=by
 unfold q3d
 (repeat' (first|exact h _|assumption|(unfold InI;omega)|omega|refine Cnd.mk (fun _=> ?_) fun _=> ?_|refine⟨?_,?_⟩|intro _))
theorem j8t{l:List Rng}{n:Int}{K:Int->Prop}(h: ∀r,0<=r->r<=100->K r):q3e l n K:=by
 unfold q3e
 intro _
 refine Cnd.mk (fun _=>h _ (by omega) (by omega)) fun _=> ?_
 refine Lp2.ind (fun _ (i:Int)=>0<=i/\i<=l.length) (fun _ (i:Int)=>(l.length - i).toNat) ?_ ⟨by omega,by omega⟩
 rintro a i ⟨i0,i1⟩
 (repeat' (first|exact h _ (by omega) (by omega)|assumption|(unfold InI;omega)|omega|refine Cnd.mk (fun _=> ?_) fun _=> ?_|refine⟨?_,?_⟩|intro _))
theorem w9o{l:List Spn}{K:Int->Prop}(h: ∀r,0<=r->r<=100->K r):z0h l K:=by
 unfold z0h
 intro _
 refine Cnd.mk (fun _=>h _ (by omega) (by omega)) fun _=> ?_
 refine Lp1.ind (fun (i:Int)=>0<=i/\i<=l.length) (fun (i:Int)=>(l.length - i).toNat) ?_ ⟨by omega,by omega⟩
 rintro i ⟨i0,i1⟩
 (repeat' (first|exact h _ (by omega) (by omega)|assumption|(unfold InI;omega)|omega|refine Cnd.mk (fun _=> ?_) fun _=> ?_|refine⟨?_,?_⟩|intro _))
theorem w60{α:Type}{l:List α}{f:α->ByteArray}{K:List ByteArray->Prop}(hl:l.length<=1000000)(h:K (l.map f)):
  Lp2 (fun (r:List ByteArray) (i:Int) Y=>l.length<=9223372036854775807->Cnd (i<(l.length:Int)) ((0<=i/\i<(l.length:Int))/\ ∀y,l[i.toNat]? =some y->Sml (r++[f y]).length/\InI (i+1)/\Y (r++[f y]) (i+1)) (K r)) [] 0:=by
 refine Lp2.ind (fun (r:List ByteArray) (i:Int)=>0<=i/\i<=l.length/\r=(l.take i.toNat).map f) (fun _ (i:Int)=>(l.length - i).toNat) ?_ ⟨Int.le_refl 0,by omega,by simp⟩
 rintro r i ⟨i0,i1,rfl⟩ _
 refine Cnd.mk (fun hc=>⟨by omega,fun y hy=>⟨by unfold Sml;simp;omega,by unfold InI;omega,⟨by omega,by omega,?_⟩,by omega⟩⟩) fun hc=> ?_
 ·rw[show (i+1).toNat=i.toNat+1 by omega,List.take_add_one,hy];simp
 ·rw[List.take_of_length_le (by omega)];exact h
theorem z2b{l:List Seg}{K:List ByteArray->Prop}(hl:l.length<=1000000)(h:K (l.map Seg.key)):Rx l K:=w60 hl h
theorem y00{i:Nat}:(29:Int)*10 ^ (i+1)=10*(29*10 ^ i):=by rw[Int.pow_succ];omega
theorem j3j{s:ByteArray}{K:Int->Int->Prop}(hs:s.size<=1000)(h: ∀n e,InI n->0<=e->e<=100->K n e):Jv s K:=by
 unfold Jv
 refine Jn1.mk (fun d=>d.size<=1000) ?_ fun d hd=> ?_
 ·(repeat' (first|(show (s.extract _ _).size<=1000;rw[ByteArray.size_extract];omega)|assumption|(unfold InI;omega)|omega|refine Cnd.mk (fun _=> ?_) fun _=> ?_|refine⟨?_,?_⟩|intro _))
 refine Lp1.ind (fun (i:Int)=>0<=i/\i<=d.size) (fun (i:Int)=>(d.size - i).toNat) ?_ ⟨by omega,by omega⟩
 rintro i ⟨i0,i1⟩
 have fin:d.size<=13->Lp2 (fun (Qe Jw:Int) w7t=>Cnd (Jw<(↑d.size:Int)) (InI ((10:Int)*Qe)/\((0:Int)<=Jw/\Jw<(↑d.size:Int))/\ ∀b5,d[Jw.toNat]? =some b5->InI (Go.IntKind.u8.wrap ((↑b5.toNat:Int) - (48:Int)))/\InI ((10:Int)*Qe+Go.IntKind.u8.wrap ((↑b5.toNat:Int) - (48:Int)))/\InI (Jw+(1:Int))/\w7t ((10:Int)*Qe+Go.IntKind.u8.wrap ((↑b5.toNat:Int) - (48:Int))) (Jw+(1:Int))) (Cnd ((1099511627776:Int)<Qe) (K (0:Int) (3:Int)) (Cnd ((↑d.size:Int)<(↑s.size:Int)) (InI ((0:Int) - Qe)/\K ((0:Int) - Qe) (0:Int)) (K Qe (0:Int))))) (0:Int) (0:Int):=fun h13=>by
  refine Lp2.ind (fun (n j:Int)=>0<=j/\j<=d.size/\0<=n/\n+29<=29*10 ^ j.toNat) (fun _ (j:Int)=>(d.size - j).toNat) ?_ ⟨by omega,by omega,by omega,by simp⟩
  rintro n j ⟨j0,j1,n0,n1⟩
  have hp:(10:Int) ^ j.toNat<=10 ^ 13:=by
   have:=Nat.pow_le_pow_right (n:=10) (by decide) (show j.toNat<=13 by omega)
   exact_mod_cast this
  refine Cnd.mk (fun hc=>⟨by unfold InI;omega,by omega,fun b _=> ?_⟩) fun hc=> ?_
  ·obtain⟨w0,w1⟩:=y4u ((b.toNat:Int) - 48)
   refine⟨by unfold InI;omega,by unfold InI;omega,by unfold InI;omega,⟨by omega,by omega,by omega,?_⟩,by omega⟩
   rw[show (j+1).toNat=j.toNat+1 by omega,y00];omega
  ·exact Cnd.mk (fun _=>h _ _ (by unfold InI;omega) (by omega) (by omega)) fun _=>Cnd.mk (fun _=>⟨by unfold InI;omega,h _ _ (by unfold InI;omega) (by omega) (by omega)⟩) fun _=>h _ _ (by unfold InI;omega) (by omega) (by omega)
 have k1:=h 0 1 (by unfold InI;omega) (by omega) (by omega)
 have k3:=h 0 3 (by unfold InI;omega) (by omega) (by omega)
 refine Cnd.mk (fun hc=>⟨by omega,fun b hb=>Cnd.mk (fun _=>k1) fun _=>⟨by omega,fun b' hb'=>Cnd.mk (fun _=>k1) fun _=>⟨by unfold InI;omega,by omega,by omega⟩⟩⟩) fun _=> ?_
 refine Cnd.mk (fun _=>k1) fun he=>⟨⟨by omega,?_⟩,fun b hb=>Cnd.mk (fun _=>Cnd.mk (fun _=>Cnd.mk (fun _=>k3) fun _=>fin (by omega)) fun _=>k1) fun _=>Cnd.mk (fun _=>k3) fun _=>fin (by omega)⟩
 refine Int.not_le.1 fun hn=>he ?_
 have:d.size=0:=by omega
 exact ByteArray.ext (Array.eq_empty_of_size_eq_zero this)
theorem v3t{t:Int}{e:Ex}{K:Bool->Prop}(h: ∀r,K r):q7n t e K:=by
 unfold q7n
 refine Cnd.mk (fun _=>h _) fun _=>Cnd.mk (fun _=> ?_) fun _ _=>Cnd.mk (fun _=>h _) fun _=>⟨by omega,fun y hy=>Cnd.mk (fun _=>h _) fun _=>Jn1.mk (fun _=>True) ?_ fun x _=> ?_⟩
 ·refine Lp1.ind (fun (i:Int)=>0<=i/\i<=e.values.length) (fun (i:Int)=>(e.values.length - i).toNat) ?_ ⟨by omega,by omega⟩
  rintro i ⟨i0,i1⟩
  (repeat' (first|exact h _|assumption|(unfold InI;omega)|omega|refine Cnd.mk (fun _=> ?_) fun _=> ?_|refine⟨?_,?_⟩|intro _))
 ·(repeat' (first|exact trivial|assumption|(unfold InI;omega)|omega|refine Cnd.mk (fun _=> ?_) fun _=> ?_|refine⟨?_,?_⟩|intro _))
 ·(repeat' (first|exact h _|assumption|(unfold InI;omega)|omega|refine Cnd.mk (fun _=> ?_) fun _=> ?_|refine⟨?_,?_⟩|intro _))
theorem j8u{v:Envt}{K:List ByteArray->Prop}(hl:v.flags.length<=1000000)(h:K (v.flags.map Flg.key)):q38 v K:=w60 hl h
def z2c(f:Flg):List Edg:=f.needs.map fun q=>Edg.mk f.key q.flag
theorem j46{v:Envt}{K:List Edg->Prop}(hl:v.flags.length<=1000)(hn: ∀f∈v.flags,f.needs.length<=1000)(h:K (v.flags.flatMap z2c)):H8 v K:=by
 unfold H8
 have hb: ∀l:List Flg,(∀f∈l,f.needs.length<=1000)->(l.flatMap z2c).length<=1000*l.length:=by
  intro l
  induction l with
  |nil=>simp
  |cons f l ih=>intro hf;have h1:=hf f (by simp);have h2:=ih fun g hg=>hf g (by simp[hg]);simp only[List.flatMap_cons,List.length_append,z2c,List.length_map,List.length_cons] at*;omega
 refine Lp2.ind (fun (r:List Edg) (i:Int)=>0<=i/\i<=v.flags.length/\r=(v.flags.take i.toNat).flatMap z2c) (fun _ (i:Int)=>(v.flags.length - i).toNat) ?_ ⟨Int.le_refl 0,by omega,by simp⟩
 rintro r i ⟨i0,i1,rfl⟩ _
 refine Cnd.mk (fun hc=> ?_) fun hc=> ?_
 ·obtain⟨f,hf⟩: ∃f,v.flags[i.toNat]? =some f:=⟨_,List.getElem?_eq_getElem (by omega)⟩
  have hfn:=hn f (getm hf)
  have hbt:=hb (v.flags.take i.toNat) fun g hg=>hn g (List.mem_of_mem_take hg)
  rw[List.length_take] at hbt
  refine Lp2.ind (fun (r:List Edg) (j:Int)=>0<=j/\j<=f.needs.length/\r=(v.flags.take i.toNat).flatMap z2c++(f.needs.take j.toNat).map fun q=>Edg.mk f.key q.flag) (fun _ (j:Int)=>(f.needs.length - j).toNat) ?_ ⟨by omega,by omega,by simp⟩
  rintro r j ⟨j0,j1,rfl⟩
  refine⟨by omega,fun g hg=> ?_⟩
  rw[hf] at hg;cases hg
  refine fun _=>Cnd.mk (fun hc=>⟨by omega,fun g hg=> ?_⟩) fun hc=>⟨by unfold InI;omega,⟨by omega,by omega,?_⟩,by omega⟩
  ·rw[hf] at hg;cases hg
   refine⟨by omega,fun g hg=> ?_⟩
   rw[hf] at hg;cases hg
   refine⟨by omega,fun q hq=>⟨?_,by unfold InI;omega,⟨by omega,by omega,?_⟩,by omega⟩⟩
   ·unfold Sml;simp only[List.length_append,List.length_map,List.length_take,List.length_cons,List.length_nil];omega
   ·rw[show (j+1).toNat=j.toNat+1 by omega,List.take_add_one,hq];simp
  ·rw[List.take_of_length_le (show f.needs.length<=j.toNat by omega),show (i+1).toNat=i.toNat+1 by omega,List.take_add_one,hf];simp[z2c]
 ·rw[List.take_of_length_le (by omega)];exact h
end Go.En
end
noncomputable section
set_option maxRecDepth 100000
namespace Go.Sg
open Go
abbrev bts(s:ByteArray):List UInt8:=s.data.toList
theorem Gj(s:ByteArray):(bts s).length=s.size:=rfl
theorem q32{s:ByteArray}{i:Nat}{b:UInt8}:s[i]? =some b↔(bts s)[i]? =some b:=by
 rw[show s[i]? =s.data[i]? from by
  by_cases h:i<s.size
  ·rw[getElem?_pos s i h,getElem?_pos s.data i h];rfl
  ·rw[getElem?_neg s i h,getElem?_neg s.data i h]]
 rw[Array.getElem?_toList]
theorem get!_of{s:ByteArray}{i:Nat}(h:i<s.size):(bts s)[i]? =some (s.get! i):=by
 have h':i<s.data.size:=h
 show s.data.toList[i]? =some (s.data[i]!)
 rw[Array.getElem?_toList,Array.getElem?_eq_getElem h',getElem!_pos s.data i h']
theorem v7l{s:ByteArray}{i:Nat}(h:(s.get! i).toNat<128):Utf8.decode s i=((s.get! i).toNat,1):=by
 unfold Utf8.decode
 simp only[Nat.add_zero]
 rw[if_pos h]
theorem v7m{s:ByteArray}{i:Nat}(h:128<=(s.get! i).toNat):128<=(Utf8.decode s i).1/\1<=(Utf8.decode s i).2/\ ∀k,k<(Utf8.decode s i).2->128<=(s.get! (i+k)).toNat:=by
 have k1: ∀k,k<1->128<=(s.get! (i+k)).toNat:=fun k hk=>by rw[show k=0 by omega];exact h
 have bad:128<=(Utf8.runeError,1).1/\1<=(Utf8.runeError,1).2/\ ∀k,k<(Utf8.runeError,1).2->128<=(s.get! (i+k)).toNat:=⟨by decide,by decide,k1⟩
 unfold Utf8.decode
 simp only[Nat.add_zero]
 rw[if_neg (by omega)]
 split
 ·rename_i hc
  simp only[Bool.and_eq_true,beq_iff_eq,decide_eq_true_eq] at hc
  split
  ·rename_i h2
   refine⟨h2,by simp,fun k hk=> ?_⟩
   have:k=0∨k=1:=by simp only at hk;omega
   rcases this with rfl|rfl
   ·exact h
   ·omega
  ·exact bad
 ·split
  ·rename_i _ hc
   simp only[Bool.and_eq_true,beq_iff_eq,decide_eq_true_eq] at hc
   split
   ·rename_i h2
    simp only[Bool.and_eq_true,decide_eq_true_eq] at h2
    refine⟨by simp only;omega,by simp,fun k hk=> ?_⟩
    have:k=0∨k=1∨k=2:=by simp only at hk;omega
    rcases this with rfl|rfl|rfl
    ·exact h
    ·omega
    ·omega
   ·exact bad
  ·split
   ·rename_i _ _ hc
    simp only[Bool.and_eq_true,beq_iff_eq,decide_eq_true_eq] at hc
    split
    ·rename_i h2
     simp only[Bool.and_eq_true,decide_eq_true_eq] at h2
     refine⟨by simp only;omega,by simp,fun k hk=> ?_⟩
     have:k=0∨k=1∨k=2∨k=3:=by simp only at hk;omega
     rcases this with rfl|rfl|rfl|rfl
     ·exact h
     ·omega
     ·omega
     ·omega
    ·exact bad
   ·exact bad
structure RuneP(p:Nat->Prop):Prop where
 hi: ∀n,128<=n->(p n↔p 128)
def Clr(p:Nat->Prop)(s:ByteArray)(k:Nat):Prop:= ∀i,i<k->i<s.size-> ¬p (s.get! i).toNat
theorem Clr.zero{p:Nat->Prop}{s:ByteArray}:Clr p s 0:=fun _ h=>absurd h (Nat.not_lt_zero _)
theorem v7n(s:ByteArray)(k:Nat):1<=(Utf8.decode s k).2:=by
 rcases Nat.lt_or_ge (s.get! k).toNat 128 with h|h
 ·rw[v7l h];exact Nat.le_refl 1
 ·exact (v7m h).2.1
theorem Clr.step{p:Nat->Prop}(hp:RuneP p){s:ByteArray}{k:Nat}(h:Clr p s k)(hk: ¬p (Utf8.decode s k).1):Clr p s (k+(Utf8.decode s k).2):=by
 intro i hi hs
 rcases Nat.lt_or_ge i k with h1|h1
 ·exact h i h1 hs
 rcases Nat.lt_or_ge (s.get! k).toNat 128 with h2|h2
 ·rw[v7l h2] at hk hi
  simp only at hk hi
  rw[show i=k by omega];exact hk
 ·obtain⟨a,_,c⟩:=v7m h2
  have:=c (i - k) (by omega)
  rw[show k+(i - k)=i by omega] at this
  rw[hp.hi _ this,←hp.hi _ a];exact hk
theorem j51{p:Nat->Prop}(hp:RuneP p){s:ByteArray}{k:Nat}(hk:p (Utf8.decode s k).1):p (s.get! k).toNat:=by
 rcases Nat.lt_or_ge (s.get! k).toNat 128 with h2|h2
 ·rw[v7l h2] at hk;exact hk
 ·rw[hp.hi _ h2,←hp.hi _ (v7m h2).1];exact hk
theorem Clr.all{p:Nat->Prop}{s:ByteArray}{k:Nat}(h:Clr p s k)(hk:s.size<=k): ∀c∈bts s,¬p c.toNat:=by
 intro c hc
 obtain⟨i,hi⟩:=List.mem_iff_getElem?.1 hc
 have hl:i<s.size:=(List.getElem?_eq_some_iff.1 hi).1
 have:=get!_of hl
 rw[hi] at this
 cases this
 exact h i (by omega) hl
theorem j3k{s:ByteArray}{k:Nat}(h:k<s.size):s.get! k∈bts s:=List.mem_of_getElem? (get!_of h)
def good(c:UInt8):Bool:=decide (32<=c.toNat) && decide (c.toNat≠127)
def vld(s:ByteArray):Bool:=decide (s.size<=200) && Go.Lib.validD (bts s) && (bts s).all good
def isD(c:UInt8):Bool:=decide (48<=c.toNat) && decide (c.toNat<=57)
def z6r(n:Nat)(c:UInt8):Nat:=10*n+(c.toNat - 48)
def valD(n:Nat)(l:List UInt8):Nat:=l.foldl z6r n
def digs(s:ByteArray):ByteArray:=if s[0]? =some 45 then s.extract 1 s.size else s
def pnum(s:ByteArray):Int×Int:=
 if (bts (digs s)).all isD=false then (0,1)
 else if (digs s).size=0∨((digs s)[0]? =some 48/\s≠ByteArray.mk (Array.mk [48])) then (0,1)
 else if 1099511627776<valD 0 (bts (digs s)) then (0,3)
 else (if (digs s).size<s.size then -(valD 0 (bts (digs s)):Int) else valD 0 (bts (digs s)),0)
theorem v1h(n:Nat):valD n []=n:=rfl
theorem j0z(n:Nat)(c:UInt8)(l:List UInt8):valD n (c::l)=valD (z6r n c) l:=List.foldl_cons ..
theorem v7o(n:Nat)(l:List UInt8)(c:UInt8):valD n (l++[c])=z6r (valD n l) c:=by
 unfold valD;rw[List.foldl_append];rfl
theorem w9p: ∀(l:List UInt8) (n:Nat),n*10 ^ l.length<=valD n l
 |[],n=>by simp[valD]
 |c::l,n=>by
  rw[j0z,List.length_cons]
  refine Nat.le_trans ?_ (w9p l (z6r n c))
  rw[Nat.pow_succ,Nat.mul_comm (10 ^ l.length) 10,←Nat.mul_assoc]
  exact Nat.mul_le_mul_right _ (by unfold z6r;omega)
theorem v7p: ∀(l:List UInt8) (n:Nat),l.all isD=true->valD n l<(n+1)*10 ^ l.length
 |[],n,_=>by simp[valD]
 |c::l,n,h=>by
  simp only[List.all_cons,Bool.and_eq_true] at h
  rw[j0z,List.length_cons]
  refine Nat.lt_of_lt_of_le (v7p l (z6r n c) h.2) ?_
  have h1:=h.1
  simp only[isD,Bool.and_eq_true,decide_eq_true_eq] at h1
  rw[Nat.pow_succ,Nat.mul_comm (10 ^ l.length) 10,←Nat.mul_assoc]
  exact Nat.mul_le_mul_right _ (by unfold z6r;omega)
theorem v7q: ∀(l:List UInt8) (n:Nat),n<=valD n l:=fun l n=>Nat.le_trans (by
 have:0<10 ^ l.length:=Nat.pow_pos (by decide)
 exact Nat.le_mul_of_pos_right n this) (w9p l n)
theorem j4b: ∀(l:List UInt8) (n:Nat),l.all isD=true->Go.Lib.parseUint10 n l=(if valD n l<18446744073709551616/\n<18446744073709551616 then .ok (valD n l) else if l=[] then .ok n else .range)
 |[],n,_=>by
  unfold Go.Lib.parseUint10
  rw[v1h]
  split<;>simp
 |c::l,n,h=>by
  simp only[List.all_cons,Bool.and_eq_true] at h
  have h1:=h.1
  simp only[isD,Bool.and_eq_true,decide_eq_true_eq] at h1
  have ih:=j4b l (z6r n c) h.2
  have hs:=v7q l (z6r n c)
  have es:z6r n c=10*n+(c.toNat - 48):=rfl
  have e:n*10+(c.toNat - 48)=z6r n c:=by omega
  have hne: ¬(c::l=[]):=by simp
  unfold Go.Lib.parseUint10
  rw[if_pos h1,j0z,e,if_neg hne]
  generalize z6r n c=m at ih hs es e⊢
  by_cases h2:1844674407370955162<=n
  ·rw[if_pos h2,if_neg (by omega)]
  ·rw[if_neg h2]
   by_cases h3:18446744073709551616<=m
   ·rw[if_pos h3,if_neg (by omega)]
   ·rw[if_neg h3,ih]
    by_cases h4:valD m l<18446744073709551616
    ·rw[if_pos ⟨h4,by omega⟩,if_pos ⟨h4,by omega⟩]
    ·have: ¬l=[]:=by rintro rfl;rw[v1h] at h4;omega
     rw[if_neg (by omega),if_neg this,if_neg (by omega)]
theorem w61{l:List UInt8}(h:l.all isD=true)(hn:l≠[]):Go.Lib.parseMag l=(if valD 0 l<18446744073709551616 then .ok (valD 0 l) else .range):=by
 unfold Go.Lib.parseMag
 rw[if_neg hn,j4b l 0 h]
 by_cases h4:valD 0 l<18446744073709551616
 ·rw[if_pos ⟨h4,by omega⟩,if_pos h4]
 ·rw[if_neg (by omega),if_neg h4,if_neg hn]
theorem v1i{s:ByteArray}{k:Nat}:bts (s.extract k s.size)=(bts s).drop k:=by
 show (s.extract k s.size).data.toList=_
 rw[ByteArray.data_extract,Array.toList_extract,List.extract_eq_take_drop,List.take_of_length_le]
 rw[List.length_drop]
 exact Nat.le_refl _
theorem j3l{s:ByteArray}(h:s[0]? =some 45):bts s=45::bts (digs s)/\(digs s).size+1=s.size:=by
 have h0:0<s.size:=by
  rw[q32] at h;exact (List.getElem?_eq_some_iff.1 h).1
 have e:bts (digs s)=(bts s).drop 1:=by
  unfold digs
  rw[if_pos h,v1i]
 rw[q32] at h
 refine⟨?_,?_⟩
 ·rw[e]
  cases hb:bts s with
  |nil=>rw[hb] at h;simp at h
  |cons c l=>rw[hb] at h;simp at h;simp[h]
 ·rw[←Gj,e,List.length_drop,Gj];omega
theorem q8c{s:ByteArray}(h: ¬s[0]? =some 45):digs s=s:=by unfold digs;rw[if_neg h]
theorem w9q{s:ByteArray}(h:(bts (digs s)).all isD=true)(hn:(digs s).size≠0):Go.Lib.atoiAll (bts s)=(if valD 0 (bts (digs s))<=(if s[0]? =some 45 then 9223372036854775808 else 9223372036854775807) then .ok (if s[0]? =some 45 then -(valD 0 (bts (digs s)):Int) else valD 0 (bts (digs s))) else .range):=by
 have hne:bts (digs s)≠[]:=fun e=>hn (by rw[←Gj,e];rfl)
 by_cases hm:s[0]? =some 45
 ·obtain⟨e,_⟩:=j3l hm
  rw[if_pos hm,if_pos hm,e]
  unfold Go.Lib.atoiAll
  simp only[show (45:UInt8).toNat=45 from rfl,or_true,if_true]
  rw[w61 h hne]
  generalize valD 0 (bts (digs s))=v
  by_cases h1:v<18446744073709551616
  ·rw[if_pos h1]
   by_cases h2:v<=9223372036854775808
   ·rw[if_pos h2];simp only[not_true,false_and,if_false,true_and];rw[if_neg (by omega)]
   ·rw[if_neg h2];simp only[not_true,false_and,if_false,true_and];rw[if_pos (by omega)]
  ·rw[if_neg h1,if_neg (by omega)]
 ·rw[if_neg hm,if_neg hm]
  rw[q8c hm] at h hne⊢
  have hp:=w61 h hne
  generalize valD 0 (bts s)=v at hp⊢
  cases hb:bts s with
  |nil=>exact absurd hb hne
  |cons c l=>
   have hc':isD c=true:=by rw[hb] at h;simp only[List.all_cons,Bool.and_eq_true] at h;exact h.1
   simp only[isD,Bool.and_eq_true,decide_eq_true_eq] at hc'
   unfold Go.Lib.atoiAll
   simp only[]
   rw[if_neg (show ¬(c.toNat=43∨c.toNat=45) by omega),←hb,hp]
   by_cases h1:v<18446744073709551616
   ·rw[if_pos h1]
    simp only[]
    by_cases h2:v<=9223372036854775807
    ·rw[if_pos h2,if_neg (by omega),if_neg (by omega),if_neg (by omega)]
    ·rw[if_neg h2,if_pos (by omega)]
   ·rw[if_neg h1,if_neg (by omega)]
def dot(s:ByteArray)(k:Nat):Nat:=k+((bts s).drop k).idxOf 46
theorem v1j{s:ByteArray}{k:Nat}:k<=dot s k:=Nat.le_add_right _ _
theorem y2c{s:ByteArray}{k:Nat}(h:k<=s.size):dot s k<=s.size:=by
 have:=List.idxOf_le_length (a:=(46:UInt8)) (l:=(bts s).drop k)
 rw[List.length_drop,Gj] at this
 unfold dot;omega
theorem v7r{s:ByteArray}{k:Nat}(h:dot s k<s.size):s[dot s k]? =some 46:=by
 have hl:((bts s).drop k).idxOf 46<((bts s).drop k).length:=by rw[List.length_drop,Gj];unfold dot at h;omega
 have h2:=List.getElem_idxOf hl
 rw[q32]
 unfold dot
 rw[←List.getElem?_drop,List.getElem?_eq_getElem hl,h2]
theorem v7s{s:ByteArray}{k i:Nat}(h0:k<=i)(h1:i<dot s k):s[i]? ≠some 46:=by
 intro e
 rw[q32] at e
 have e2:((bts s).drop k)[i - k]? =some 46:=by rw[List.getElem?_drop,show k+(i - k)=i by omega];exact e
 obtain⟨hl,e3⟩:=List.getElem?_eq_some_iff.1 e2
 have h2:i - k<((bts s).drop k).idxOf 46:=by unfold dot at h1;omega
 have:=List.not_of_lt_findIdx (p:=fun x=>x==(46:UInt8)) (xs:=(bts s).drop k) (i:=i - k) h2
 rw[e3] at this
 simp at this
theorem y7c{s:ByteArray}{k i:Nat}(h0:k<=i)(hs:s[i]? =some 46)(hn: ∀j,k<=j->j<i->s[j]? ≠some 46):dot s k=i:=by
 have hi:i<s.size:=(List.getElem?_eq_some_iff.1 (q32.1 hs)).1
 rcases Nat.lt_trichotomy (dot s k) i with h|h|h
 ·exact absurd (v7r (show dot s k<s.size by omega)) (hn _ v1j h)
 ·exact h
 ·exact absurd hs (v7s h0 h)
theorem y4v{s:ByteArray}{k:Nat}(hk:k<=s.size)(hn: ∀j,k<=j->j<s.size->s[j]? ≠some 46):dot s k=s.size:=by
 rcases Nat.lt_or_ge (dot s k) s.size with h|h
 ·exact absurd (v7r h) (hn _ v1j h)
 ·have:=y2c hk;omega
def okp(p:Int×Int):Bool:=decide (p.2=0) && decide (0<=p.1) && decide (p.1<=999999)
def Hn(s:ByteArray)(k:Nat):Int×Int:=pnum (s.extract k (dot s k))
def j96(s:ByteArray):Prop:=(dot s 0<s.size/\okp (Hn s 0)=true)/\(dot s (dot s 0+1)<s.size/\okp (Hn s (dot s 0+1))=true)/\ ¬dot s (dot s (dot s 0+1)+1)<s.size/\okp (Hn s (dot s (dot s 0+1)+1))=true
instance (s:ByteArray):Decidable (j96 s):=by unfold j96;infer_instance
def prt(s:ByteArray):(Int×Int×Int)×Bool:=
 if j96 s then (((Hn s 0).1,(Hn s (dot s 0+1)).1,(Hn s (dot s (dot s 0+1)+1)).1),true) else ((0,0,0),false)
theorem y2d{s:ByteArray}(h: ¬j96 s):prt s=((0,0,0),false):=if_neg h
theorem v7t{s:ByteArray}(h:j96 s):prt s=(((Hn s 0).1,(Hn s (dot s 0+1)).1,(Hn s (dot s (dot s 0+1)+1)).1),true):=if_pos h
abbrev dotB:ByteArray:=ByteArray.mk (Array.mk [46])
theorem w62: ∀l:List UInt8,Go.Lib.index l [46]=if l.idxOf 46<l.length then ((l.idxOf 46:Nat):Int) else -1
 |[]=>rfl
 |b::l=>by
  have ih:=w62 l
  unfold Go.Lib.index
  by_cases hb:b=46
  ·subst hb
   rw[if_pos (by simp[List.isPrefixOf]),List.idxOf_cons_self,if_pos (by simp)];rfl
  ·have hx:(b::l).idxOf 46=l.idxOf 46+1:=by rw[List.idxOf_cons,show (b==(46:UInt8))=false by simpa using hb];rfl
   rw[if_neg (by simp[List.isPrefixOf,Ne.symm hb]),hx,ih,List.length_cons]
   by_cases h:l.idxOf 46<l.length
   ·simp only[if_pos h]
    rw[if_neg (by simp only[beq_iff_eq];omega),if_pos (by omega)]
    push_cast;rfl
   ·simp only[if_neg h]
    rw[if_pos (by decide),if_neg (by omega)]
theorem v7u{s:ByteArray}{k:Nat}:(s.extract k s.size).size=s.size - k:=by rw[ByteArray.size_extract];omega
theorem j8v{s:ByteArray}{k:Nat}(hk:k<=s.size):Go.Lib.indexB (s.extract k s.size) dotB=if dot s k<s.size then ((dot s k - k:Nat):Int) else -1:=by
 show Go.Lib.index (bts (s.extract k s.size)) [46]=_
 rw[v1i,w62,List.length_drop,Gj]
 have e:dot s k - k=((bts s).drop k).idxOf 46:=by unfold dot;omega
 rw[e]
 have hg:=v1j (s:=s) (k:=k)
 by_cases h:dot s k<s.size
 ·rw[if_pos h,if_pos (by omega)]
 ·rw[if_neg h,if_neg (by omega)]
def pc(s:ByteArray)(k:Nat):List ByteArray:=Go.Lib.splitB dotB 0 (Go.Lib.countB (s.extract k s.size) dotB) (s.extract k s.size)
theorem ext2{s:ByteArray}{k i:Nat}(h:k+i<=s.size):(s.extract k s.size).extract 0 i=s.extract k (k+i):=by
 apply ByteArray.ext
 have:s.data.size=s.size:=rfl
 simp only[ByteArray.data_extract,Array.extract_extract]
 congr 1
 omega
theorem ext3{s:ByteArray}{k i:Nat}:(s.extract k s.size).extract i (s.extract k s.size).size=s.extract (k+i) s.size:=by
 apply ByteArray.ext
 rw[v7u]
 have:s.data.size=s.size:=rfl
 simp only[ByteArray.data_extract,Array.extract_extract]
 congr 1
 omega
theorem j8w{s:ByteArray}{k:Nat}(hk:k<=s.size)(h: ¬dot s k<s.size):pc s k=[s.extract k s.size]:=by
 unfold pc
 exact Go.Lib.splitB_miss _ _ _ _ (by rw[j8v hk,if_neg h])
theorem w1i{s:ByteArray}{k:Nat}(hk:k<=s.size)(h:dot s k<s.size):pc s k=s.extract k (dot s k)::pc s (dot s k+1):=by
 have hi:=j8v hk
 rw[if_pos h] at hi
 have hg:=v1j (s:=s) (k:=k)
 unfold pc
 rw[Go.Lib.countB_hit _ dotB _ (by decide) hi,Nat.add_comm,Go.Lib.splitB_hit _ _ _ _ _ hi]
 have e1:dotB.size=1:=rfl
 rw[Nat.add_zero,e1,ext2 (by omega),ext3,show k+(dot s k - k)=dot s k by omega,show k+(dot s k - k+1)=dot s k+1 by omega]
theorem v7v{p:Nat->Prop}: ∀n,p n-> ∃n,p n/\ ∀k,k<n-> ¬p k:=by
 intro n
 induction n using Nat.strongRecOn with
 |_ n ih=>
  intro h
  by_cases hx: ∃k,k<n/\p k
  ·obtain⟨k,hk,hp⟩:=hx;exact ih k hk hp
  ·exact⟨n,h,fun k hk hp=>hx ⟨k,hk,hp⟩⟩
theorem y7d{s:ByteArray}{k:Nat}(hk:k<=s.size):0<(pc s k).length:=by
 by_cases h:dot s k<s.size
 ·rw[w1i hk h];simp
 ·rw[j8w hk h];simp
theorem w63{s:ByteArray}:Go.En.q01 s dotB=pc s 0:=by
 unfold Go.En.q01 pc
 have e:s.extract 0 s.size=s:=by simp
 rw[e]
theorem j8x{s:ByteArray}:(Go.En.q01 s dotB).length=3↔dot s 0<s.size/\dot s (dot s 0+1)<s.size/\ ¬dot s (dot s (dot s 0+1)+1)<s.size:=by
 rw[w63]
 by_cases h0:dot s 0<s.size
 ·rw[w1i (by omega) h0]
  by_cases h1:dot s (dot s 0+1)<s.size
  ·rw[w1i (by omega) h1]
   by_cases h2:dot s (dot s (dot s 0+1)+1)<s.size
   ·have:=y7d (s:=s) (k:=dot s (dot s (dot s 0+1)+1)+1) (by omega)
    rw[w1i (by omega) h2]
    simp only[List.length_cons]
    exact⟨fun e=>by omega,fun e=>absurd h2 e.2.2⟩
   ·rw[j8w (by omega) h2];simp[h0,h1,h2]
  ·rw[j8w (by omega) h1];simp[h1]
 ·rw[j8w (by omega) h0];simp[h0]
theorem w9r{s:ByteArray}(h:dot s 0<s.size/\dot s (dot s 0+1)<s.size/\ ¬dot s (dot s (dot s 0+1)+1)<s.size):Go.En.q01 s dotB=[s.extract 0 (dot s 0),s.extract (dot s 0+1) (dot s (dot s 0+1)),s.extract (dot s (dot s 0+1)+1) (dot s (dot s (dot s 0+1)+1))]:=by
 obtain⟨h0,h1,h2⟩:=h
 rw[w63,w1i (by omega) h0,w1i (by omega) h1,j8w (by omega) h2]
 have:=y2c (s:=s) (k:=dot s (dot s 0+1)+1) (by omega)
 rw[show dot s (dot s (dot s 0+1)+1)=s.size by omega]
theorem j4c{s t:List UInt8}:Go.Lib.contains s t=true↔ ∃i,i+t.length<=s.length/\(s.drop i).take t.length=t:=by
 have key:Go.Lib.contains s t=true↔ ∃i,i<=s.length/\Go.Lib.occAt s t i=true:=by
  unfold Go.Lib.contains
  constructor
  ·intro h
   have hge:0<=Go.Lib.index s t:=by simpa using h
   by_cases hx: ∃i,i<=s.length/\Go.Lib.occAt s t i=true
   ·exact hx
   ·have:=Go.Lib.index_none (s:=s) (sub:=t) (fun j hj=>by
     cases hb:Go.Lib.occAt s t j with
     |false=>rfl
     |true=>exact absurd ⟨j,hj,hb⟩ hx)
    omega
  ·rintro⟨i,hi,ho⟩
   obtain⟨j,⟨hj,hjo⟩,hmin⟩:=v7v (p:=fun j=>j<=s.length/\Go.Lib.occAt s t j=true) i ⟨hi,ho⟩
   have:=Go.Lib.index_first hj hjo (fun k hk=>by
    cases hb:Go.Lib.occAt s t k with
    |false=>rfl
    |true=>exact absurd ⟨by omega,hb⟩ (hmin k hk))
   rw[this];simp
 rw[key]
 constructor
 ·rintro⟨i,hi,ho⟩
  unfold Go.Lib.occAt at ho
  have hp:=List.isPrefixOf_iff_prefix.1 ho
  have hl:=hp.length_le
  rw[List.length_drop] at hl
  exact⟨i,by omega,(List.prefix_iff_eq_take.1 hp).symm⟩
 ·rintro⟨i,hi,ho⟩
  refine⟨i,by omega,?_⟩
  unfold Go.Lib.occAt
  rw[List.isPrefixOf_iff_prefix,List.prefix_iff_eq_take]
  exact ho.symm
end Go.Sg
end
noncomputable section
set_option maxRecDepth 100000
namespace Go.En
open Go Go.Fl Go.Fl.Lk Go.Fx Go.Sg
theorem v7w{s:ByteArray}:s=ByteArray.mk (Array.mk [])↔s.size=0:=by
 constructor
 ·rintro rfl;rfl
 ·intro h;exact ByteArray.ext (Array.eq_empty_of_size_eq_zero h)
theorem y2e{s:ByteArray}{i:Int}(h0:0<=i)(h1:i<s.size){b:UInt8}(hb:s[i.toNat]? =some b):b=s.get! i.toNat:=by
 rw[q32,get!_of (by omega)] at hb
 cases hb;rfl
theorem v7x{s:ByteArray}{K:Bool->Prop}(hs:s.size<=1000)(h:K (Go.Lib.validD (bts s))):Jp s K:=⟨by omega,h⟩
theorem badP:RuneP fun n=>n<32∨n=127:=⟨fun n h=>by omega⟩
theorem j4d{s:ByteArray}(h:200<s.size∨Go.Lib.validD (bts s)=false∨ ∃c∈bts s,c.toNat<32∨c.toNat=127):vld s=false:=by
 unfold vld
 rcases h with h|h|⟨c,hc,h⟩
 ·rw[decide_eq_false (by omega)];rfl
 ·rw[h];simp
 ·have:(bts s).all good=false:=by
   rw[List.all_eq_false]
   refine⟨c,hc,?_⟩
   unfold good
   simp only[Bool.and_eq_true,decide_eq_true_eq]
   omega
  rw[this];simp
theorem v7y{s:ByteArray}(h1: ¬200<s.size)(h2:Go.Lib.validD (bts s)=true)(h3: ∀c∈bts s,¬(c.toNat<32∨c.toNat=127)):vld s=true:=by
 unfold vld
 rw[h2,decide_eq_true (show s.size<=200 by omega)]
 simp only[Bool.and_true,Bool.true_and,List.all_eq_true]
 intro c hc
 have:=h3 c hc
 unfold good
 simp only[Bool.and_eq_true,decide_eq_true_eq]
 omega
theorem j8y{s:ByteArray}{K:Bool->Prop}(h:K (vld s)):Z2 s K:=by
 unfold Z2 z5z
 refine Cnd.mk (fun h1=>by rwa [j4d (.inl (by omega))] at h) fun h1=>v7x (by omega) (Cnd.mk (fun h2=> ?_) fun h2=>by rwa [j4d (.inr (.inl (by simpa using h2)))] at h)
 refine Lp1.ind (fun (i:Int)=>0<=i/\Clr (fun n=>n<32∨n=127) s i.toNat) (fun (i:Int)=>(s.size - i).toNat) ?_ ⟨by omega,Clr.zero⟩
 rintro i ⟨i0,hc⟩
 refine Cnd.mk (fun h3=>⟨by omega,fun b hb=> ?_⟩) fun h3=>by rwa [v7y (by omega) h2 (hc.all (by omega))] at h
 have e:=y2e i0 (by omega) hb
 have hm:b∈bts s:=e▸j3k (by omega)
 refine Cnd.mk (fun h4=>by rwa [j4d (.inr (.inr ⟨b,hm,.inl (by omega)⟩))] at h) fun h4=>⟨by omega,fun b' hb'=> ?_⟩
 rw[hb] at hb';cases hb'
 refine Cnd.mk (fun h5=>by rwa [j4d (.inr (.inr ⟨b,hm,.inr (by omega)⟩))] at h) fun h5=>⟨by unfold InI;omega,⟨by omega,fun j hj hs=> ?_⟩,by omega⟩
 by_cases hji:j<i.toNat
 ·exact hc j hji hs
 ·rw[show j=i.toNat by omega,←e];omega
theorem v3u{b:UInt8}(h:isD b=true):Go.IntKind.u8.wrap ((b.toNat:Int) - 48)=((b.toNat - 48:Nat):Int):=by
 simp only[isD,Bool.and_eq_true,decide_eq_true_eq] at h
 have:(b.toNat:Int) - 48=((b.toNat - 48:Nat):Int):=by omega
 rw[this]
 show ((b.toNat - 48:Nat):Int) % 256=_
 omega
theorem digP:RuneP fun n=>n<48∨57<n:=⟨fun n h=>by omega⟩
theorem w9s{l:List UInt8}:l.all isD=true↔ ∀c∈l,¬(c.toNat<48∨57<c.toNat):=by
 rw[List.all_eq_true]
 constructor
 ·intro h c hc;have:=h c hc;simp only[isD,Bool.and_eq_true,decide_eq_true_eq] at this;omega
 ·intro h c hc;have:=h c hc;simp only[isD,Bool.and_eq_true,decide_eq_true_eq];omega
theorem z2d{l:List UInt8}{c:UInt8}(hc:c∈l)(h:c.toNat<48∨57<c.toNat):l.all isD=false:=by
 rw[Bool.eq_false_iff];intro e;exact w9s.1 e c hc h
theorem take_snoc{l:List UInt8}{i:Nat}{b:UInt8}(h:l[i]? =some b):l.take (i+1)=l.take i++[b]:=by rw[List.take_add_one,h];rfl
theorem j00{s:ByteArray}(h:(bts (digs s)).all isD=false):pnum s=(0,1):=by unfold pnum;rw[if_pos h]
theorem j01{s:ByteArray}(h:(bts (digs s)).all isD=true)(h0:(digs s).size=0∨((digs s)[0]? =some 48/\s≠ByteArray.mk (Array.mk [48]))):pnum s=(0,1):=by unfold pnum;rw[if_neg (by simp[h]),if_pos h0]
theorem j52{s:ByteArray}(h:(bts (digs s)).all isD=true)(h0: ¬((digs s).size=0∨((digs s)[0]? =some 48/\s≠ByteArray.mk (Array.mk [48]))))(h1:1099511627776<valD 0 (bts (digs s))):pnum s=(0,3):=by unfold pnum;rw[if_neg (by simp[h]),if_neg h0,if_pos h1]
theorem v1k{s:ByteArray}(h:(bts (digs s)).all isD=true)(h0: ¬((digs s).size=0∨((digs s)[0]? =some 48/\s≠ByteArray.mk (Array.mk [48]))))(h1: ¬1099511627776<valD 0 (bts (digs s))):pnum s=(if (digs s).size<s.size then -(valD 0 (bts (digs s)):Int) else valD 0 (bts (digs s)),0):=by unfold pnum;rw[if_neg (by simp[h]),if_neg h0,if_neg h1]
theorem j8z{s:ByteArray}(h:(bts (digs s)).all isD=true)(h0: ¬((digs s).size=0∨((digs s)[0]? =some 48/\s≠ByteArray.mk (Array.mk [48]))))(hl:13<(digs s).size):1099511627776<valD 0 (bts (digs s)):=by
 have hs:s≠ByteArray.mk (Array.mk [48]):=by
  rintro rfl
  revert hl;decide
 cases hb:bts (digs s) with
 |nil=>have:=Gj (digs s);rw[hb] at this;simp at this;omega
 |cons c l=>
  have hc:(digs s)[0]? =some c:=by rw[q32,hb];rfl
  have hc0:c≠48:=fun e=>h0 (.inr ⟨e▸hc,hs⟩)
  have hd:isD c=true:=by rw[hb,List.all_cons,Bool.and_eq_true] at h;exact h.1
  simp only[isD,Bool.and_eq_true,decide_eq_true_eq] at hd
  have hne:c.toNat≠48:=fun e=>hc0 (by rw[←UInt8.toNat_inj];exact e)
  have hlen:13<=l.length:=by have:=Gj (digs s);rw[hb] at this;simp at this;omega
  rw[j0z]
  have h1:=w9p l (z6r 0 c)
  have h2:10 ^ 13<=10 ^ l.length:=Nat.pow_le_pow_right (by decide) hlen
  have h3:1*10 ^ l.length<=z6r 0 c*10 ^ l.length:=Nat.mul_le_mul_right _ (by unfold z6r;omega)
  omega
theorem dsz{s:ByteArray}:(digs s).size<=s.size:=by
 unfold digs
 split
 ·rw[ByteArray.size_extract];omega
 ·omega
theorem j3m{s:ByteArray}{K:Int->Int->Prop}(hs:s.size<=1000000000)(h:K (pnum s).1 (pnum s).2):Jv s K:=by
 unfold Jv
 refine Jn1.mk (fun d=>d=digs s) ?_ fun d hd=> ?_
 ·refine Cnd.mk (fun h0=>⟨by omega,fun b hb=>Cnd.mk (fun h1=>⟨by omega,?_⟩) fun h1=> ?_⟩) fun h0=> ?_
  ·have:b=45:=by rw[←UInt8.toNat_inj];show b.toNat=45;omega
   unfold digs;rw[if_pos (by rw[←this];exact hb)];congr 1
  ·rw[q8c];intro e;rw[show Int.toNat 0=0 from rfl] at hb;rw[hb] at e;cases e;exact h1 rfl
  ·rw[q8c];intro e;have:=(List.getElem?_eq_some_iff.1 (q32.1 e)).1;rw[Gj] at this;omega
 subst hd
 generalize hd:digs s=d at*
 have hz:d.size<=s.size:=hd▸dsz
 refine Lp1.ind (fun (i:Int)=>0<=i/\i<=d.size/\Clr (fun n=>n<48∨57<n) d i.toNat) (fun (i:Int)=>(d.size - i).toNat) ?_ ⟨by omega,by omega,Clr.zero⟩
 rintro i ⟨i0,i1,hc⟩
 refine Cnd.mk (fun h3=>⟨by omega,fun b hb=> ?_⟩) fun h3=> ?_
 ·have e:=y2e i0 (by omega) hb
  have hm:b∈bts d:=e▸j3k (by omega)
  refine Cnd.mk (fun h4=> ?_) fun h4=>⟨by omega,fun b' hb'=> ?_⟩
  ·rwa [j00 (by rw[hd];exact z2d hm (.inl (by omega)))] at h
  rw[hb] at hb';cases hb'
  refine Cnd.mk (fun h5=> ?_) fun h5=>⟨by unfold InI;omega,⟨by omega,by omega,fun j hj hs=> ?_⟩,by omega⟩
  ·rwa [j00 (by rw[hd];exact z2d hm (.inr (by omega)))] at h
  by_cases hji:j<i.toNat
  ·exact hc j hji hs
  ·rw[show j=i.toNat by omega,←e];omega
 have hall:(bts d).all isD=true:=w9s.2 (hc.all (by omega))
 have hall':(bts (digs s)).all isD=true:=by rw[hd];exact hall
 have fin: ¬((digs s).size=0∨((digs s)[0]? =some 48/\s≠ByteArray.mk (Array.mk [48])))-> ¬13<d.size->Lp2 (fun (Qe Jw:Int) w7t=>Cnd (Jw<(↑d.size:Int)) (InI ((10:Int)*Qe)/\((0:Int)<=Jw/\Jw<(↑d.size:Int))/\ ∀b5,d[Jw.toNat]? =some b5->InI (Go.IntKind.u8.wrap ((↑b5.toNat:Int) - (48:Int)))/\InI ((10:Int)*Qe+Go.IntKind.u8.wrap ((↑b5.toNat:Int) - (48:Int)))/\InI (Jw+(1:Int))/\w7t ((10:Int)*Qe+Go.IntKind.u8.wrap ((↑b5.toNat:Int) - (48:Int))) (Jw+(1:Int))) (Cnd ((1099511627776:Int)<Qe) (K (0:Int) (3:Int)) (Cnd ((↑d.size:Int)<(↑s.size:Int)) (InI ((0:Int) - Qe)/\K ((0:Int) - Qe) (0:Int)) (K Qe (0:Int))))) (0:Int) (0:Int):=fun hg h13=>by
  refine Lp2.ind (fun (n j:Int)=>0<=j/\j<=d.size/\n=(valD 0 ((bts d).take j.toNat):Int)) (fun _ (j:Int)=>(d.size - j).toNat) ?_ ⟨by omega,by omega,by simp[valD]⟩
  rintro n j ⟨j0,j1,rfl⟩
  have hb1:valD 0 ((bts d).take j.toNat)<1*10 ^ 13:=by
   have h1:=v7p ((bts d).take j.toNat) 0 (by rw[List.all_eq_true] at hall⊢;exact fun c hc=>hall c (List.mem_of_mem_take hc))
   have h2:((bts d).take j.toNat).length<=13:=by rw[List.length_take,Gj];omega
   have h3:10 ^ ((bts d).take j.toNat).length<=10 ^ 13:=Nat.pow_le_pow_right (by decide) h2
   omega
  refine Cnd.mk (fun hc=>⟨by unfold InI;omega,by omega,fun b hb=> ?_⟩) fun hc=> ?_
  ·have hm:b∈bts d:=List.mem_of_getElem? (q32.1 hb)
   have hdg:isD b=true:=by rw[List.all_eq_true] at hall;exact hall b hm
   have hdg':=hdg
   simp only[isD,Bool.and_eq_true,decide_eq_true_eq] at hdg'
   rw[v3u hdg]
   refine⟨by unfold InI;omega,by unfold InI;omega,by unfold InI;omega,⟨by omega,by omega,?_⟩,by omega⟩
   rw[show (j+1).toNat=j.toNat+1 by omega,take_snoc (q32.1 hb),v7o]
   unfold z6r;push_cast;omega
  ·have ht:(bts d).take j.toNat=bts d:=List.take_of_length_le (by rw[Gj];omega)
   rw[ht] at hb1⊢
   refine Cnd.mk (fun h1=> ?_) fun h1=> ?_
   ·rwa [j52 hall' hg (by rw[hd];omega)] at h
   ·rw[v1k hall' hg (by rw[hd];omega),hd] at h
    refine Cnd.mk (fun h2=>⟨by unfold InI;omega,?_⟩) fun h2=> ?_
    ·rw[if_pos (by omega)] at h;rwa [Int.zero_sub]
    ·rwa [if_neg (by omega)] at h
 have gone: ∀{b:UInt8},d[0]? =some b->(b≠48∨s=ByteArray.mk (Array.mk [48]))->d.size≠0-> ¬((digs s).size=0∨((digs s)[0]? =some 48/\s≠ByteArray.mk (Array.mk [48]))):=by
  rw[hd]
  rintro b hb h1 h2 (h3|⟨h3,h4⟩)
  ·exact h2 h3
  ·rw[hb] at h3;cases h3;rcases h1 with h1|h1
   ·exact h1 rfl
   ·exact h4 h1
 refine Cnd.mk (fun h4=> ?_) fun h4=> ?_
 ·rwa [j01 hall' (.inl (by rw[hd];exact v7w.1 h4))] at h
 have h5:d.size≠0:=fun e=>h4 (v7w.2 e)
 refine⟨by omega,fun b hb=> ?_⟩
 have hb:d[0]? =some b:=hb
 refine Cnd.mk (fun h6=> ?_) fun h6=> ?_
 ·have h6:b=48:=by rw[←UInt8.toNat_inj];show b.toNat=48;omega
  refine Cnd.mk (fun h7=> ?_) fun h7=> ?_
  ·refine Cnd.mk (fun h8=> ?_) fun h8=>fin (gone hb (.inr h7) h5) (by omega)
   rwa [j52 hall' (gone hb (.inr h7) h5) (j8z hall' (gone hb (.inr h7) h5) (by rw[hd];omega))] at h
  ·rwa [j01 hall' (.inr ⟨by rw[hd,hb,h6],h7⟩)] at h
 ·have hg:=gone hb (.inl fun e=>h6 (by rw[e];rfl)) h5
  refine Cnd.mk (fun h8=> ?_) fun h8=>fin hg (by omega)
  rwa [j52 hall' hg (j8z hall' hg (by rw[hd];omega))] at h
inductive PtS(s:ByteArray):Int->Int->Int->Int->Int->Prop
 |s0 {o0 o1 o2:Int}:PtS s 0 0 o0 o1 o2
 |s1 {o1 o2:Int} (h0:dot s 0<s.size/\okp (Hn s 0)=true):PtS s ((dot s 0+1:Nat):Int) 1 (Hn s 0).1 o1 o2
 |s2 {o2:Int} (h0:dot s 0<s.size/\okp (Hn s 0)=true) (h1:dot s (dot s 0+1)<s.size/\okp (Hn s (dot s 0+1))=true):PtS s ((dot s (dot s 0+1)+1:Nat):Int) 2 (Hn s 0).1 (Hn s (dot s 0+1)).1 o2
 |s3 {a:Int} (h:j96 s):PtS s a 3 (Hn s 0).1 (Hn s (dot s 0+1)).1 (Hn s (dot s (dot s 0+1)+1)).1
theorem z2v{p:Int×Int}(h: ¬p.2=0∨p.1<0∨999999<p.1):okp p=false:=by
 unfold okp
 rw[Bool.eq_false_iff]
 simp only[ne_eq,Bool.and_eq_true,decide_eq_true_eq]
 omega
theorem w39{p:Int×Int}(h0:p.2=0)(h1: ¬p.1<0)(h2: ¬999999<p.1):okp p=true:=by
 unfold okp
 simp only[Bool.and_eq_true,decide_eq_true_eq]
 omega
theorem PtS.le{s:ByteArray}{a i o0 o1 o2:Int}(h:PtS s a i o0 o1 o2)(hi:i<3):0<=a/\a<=s.size:=by
 cases h with
 |s0=>omega
 |s1 h0=>omega
 |s2 h0 h1=>omega
 |s3=>omega
theorem PtS.no{s:ByteArray}{a i o0 o1 o2:Int}(h:PtS s a i o0 o1 o2)(hi:i<3)(hb:okp (Hn s a.toNat)=false∨(i<2/\ ¬dot s a.toNat<s.size)∨(i=2/\dot s a.toNat<s.size)): ¬j96 s:=by
 rintro⟨⟨v1,v2⟩,⟨v3,v4⟩,v5,v6⟩
 cases h with
 |s0=>
  simp only[Int.toNat_zero] at hb
  rcases hb with hb|hb|hb
  ·rw[hb] at v2;cases v2
  ·exact hb.2 v1
  ·omega
 |s1 h0=>
  simp only[Int.toNat_natCast] at hb
  rcases hb with hb|hb|hb
  ·rw[hb] at v4;cases v4
  ·exact hb.2 v3
  ·omega
 |s2 h0 h1=>
  simp only[Int.toNat_natCast] at hb
  rcases hb with hb|hb|hb
  ·rw[hb] at v6;cases v6
  ·omega
  ·exact v5 hb.2
 |s3=>omega
theorem z8z{s:ByteArray}{K:A3->Bool->Prop}(hs:s.size<=1000000000)(h:K (prt s).1 (prt s).2):q02 s K:=by
 unfold q02 z52
 have no: ¬j96 s->K (0,0,0) false:=fun hn=>by rwa [y2d hn] at h
 refine LpH.ind (fun x=>PtS s x.1 x.2.1 x.2.2.1 x.2.2.2.1 x.2.2.2.2.1) (fun x=>(3 - x.2.1).toNat) ?_ .s0
 rintro⟨a,i,o0,o1,o2,x⟩ hp
 simp only at hp⊢
 refine Cnd.mk (fun hc=> ?_) fun hc=> ?_
 ·obtain⟨a0,a1⟩:=hp.le hc
  refine Lp1.ind (fun (j:Int)=>a<=j/\j<=s.size/\ ∀m:Nat,a.toNat<=m->(m:Int)<j->s[m]? ≠some 46) (fun (j:Int)=>(s.size - j).toNat) ?_ ⟨by omega,by omega,fun m h1 h2=>by omega⟩
  rintro j ⟨j0,j1,jn⟩
  have stop: ∀hj:dot s a.toNat=j.toNat,(0<=a/\a<=j/\j<=(s.size:Int))/\Jv (s.extract a.toNat j.toNat) fun Qf Zn=>Cnd (Zn=0) (Cnd (Qf<0) (K (0,0,0) false) (Cnd (999999<Qf) (K (0,0,0) false) (Cnd (decide (i<2)=decide (j<(s.size:Int))) ((0<=i/\i<((3:Nat):Int))/\((True/\(i=0->InI (j+1)/\InI (i+1)/\(PtS s (j+1) (i+1) Qf o1 o2/\(3 - (i+1)).toNat<(3 - i).toNat)))/\(i=1->InI (j+1)/\InI (i+1)/\(PtS s (j+1) (i+1) o0 Qf o2/\(3 - (i+1)).toNat<(3 - i).toNat)))/\(i=2->InI (j+1)/\InI (i+1)/\(PtS s (j+1) (i+1) o0 o1 Qf/\(3 - (i+1)).toNat<(3 - i).toNat))) (K (0,0,0) false)))) (K (0,0,0) false):=fun hj=>by
   refine⟨by omega,j3m (by rw[ByteArray.size_extract];omega) ?_⟩
   have ev:Hn s a.toNat=pnum (s.extract a.toNat j.toNat):=by unfold Hn;rw[hj]
   rw[←ev]
   refine Cnd.mk (fun h1=>Cnd.mk (fun h2=>no (hp.no hc (.inl (z2v (by omega))))) fun h2=>Cnd.mk (fun h3=>no (hp.no hc (.inl (z2v (by omega))))) fun h3=>Cnd.mk (fun h4=> ?_) fun h4=>no (hp.no hc ?_)) fun h1=>no (hp.no hc (.inl (z2v (by omega))))
   ·have ok:=w39 h1 h2 h3
    have h4:i<2↔j<(s.size:Int):=by simpa using h4
    have ej:j+1=((dot s a.toNat+1:Nat):Int):=by omega
    have hin:InI (j+1):=by unfold InI;omega
    have i0:0<=i:=by cases hp<;>omega
    have hin2:InI (i+1):=by unfold InI;omega
    cases hp with
    |s0=>
     refine⟨by omega,⟨⟨trivial,fun _=>⟨hin,hin2,?_,by omega⟩⟩,fun e=>by omega⟩,fun e=>by omega⟩
     rw[ej];exact .s1 ⟨by simp only[Int.toNat_zero] at hj⊢;omega,ok⟩
    |s1 h0=>
     refine⟨by omega,⟨⟨trivial,fun e=>by omega⟩,fun _=>⟨hin,hin2,?_,by omega⟩⟩,fun e=>by omega⟩
     rw[ej];simp only[Int.toNat_natCast] at hj ok⊢;exact .s2 h0 ⟨by omega,ok⟩
    |s2 h0 h1'=>
     refine⟨by omega,⟨⟨trivial,fun e=>by omega⟩,fun e=>by omega⟩,fun _=>⟨hin,hin2,?_,by omega⟩⟩
     simp only[Int.toNat_natCast] at hj ok⊢;exact .s3 ⟨h0,h1',by omega,ok⟩
    |s3=>omega
   ·have h4: ¬(i<2↔j<(s.size:Int)):=by simpa using h4
    have i0:0<=i:=by cases hp<;>omega
    rw[hj]
    by_cases h5:i<2
    ·exact .inr (.inl ⟨h5,fun h6=>h4 ⟨fun _=>by omega,fun _=>h5⟩⟩)
    ·refine .inr (.inr ⟨by omega,?_⟩)
     by_cases h6:j.toNat<s.size
     ·exact h6
     ·exact absurd ⟨fun h7=>absurd h7 h5,fun h7=>by omega⟩ h4
  refine Cnd.mk (fun hl=>⟨by omega,fun b hb=>Cnd.mk (fun hd=> ?_) fun hd=>⟨by unfold InI;omega,⟨by omega,by omega,fun m h1 h2=> ?_⟩,by omega⟩⟩) fun hl=> ?_
  ·have hb46:b=46:=by rw[←UInt8.toNat_inj];show b.toNat=46;omega
   exact stop (y7c (by omega) (hb46▸hb) fun m h1 h2=>jn m h1 (by omega))
  ·by_cases hm:(m:Int)<j
   ·exact jn m h1 hm
   ·rw[show m=j.toNat by omega,hb];intro e;cases e;exact hd rfl
  ·exact stop ((y4v (by omega) fun m h1 h2=>jn m h1 (by omega)).trans (by omega))
 ·cases hp with
  |s0=>omega
  |s1=>omega
  |s2=>omega
  |s3 hv=>rwa [v7t hv] at h
end Go.En
end
