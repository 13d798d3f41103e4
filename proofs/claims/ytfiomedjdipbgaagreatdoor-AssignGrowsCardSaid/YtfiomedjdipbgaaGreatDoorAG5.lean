/- A subject stays in its experiment when experiments claim more, start or stop. This is part 5 of 7. Conditions: those in the statements. -/
import Derived.Test.YtfiomedjdipbgaaGreatDoorAG4
import Derived.KernelRfl
import Derived.Conc.MuLone
import GoSem.Core.Utf8
import Derived.Lib.ValidU
noncomputable section
set_option maxRecDepth 100000
namespace Go.Proofs.YtfiomedjdipbgaaGreatDoor
open Go Go.Proofs Go.RowKit Go.Fl
set_option maxHeartbeats 2000000 in
theorem q34{σ:Hv}{w:World}(s_p:(List ByteArray))(v1:Value){K:(List ByteArray)->Prop}(hV:View σ w)(hr1:RSl 1 (REnc Qj) σ v1 s_p)(hP:Zo s_p K):
    Calls Tryz.prog 187 #[v1] w (fun e w1=> ∃(r1:(List ByteArray)) (v2:Value),e= .returned v2/\St ⟨w,σ,[]⟩ w1 σ [vec v2 9 1 r1.length ((r1).flatMap Qj)]/\Sml r1.length/\K r1):=by
 unfold Zo at hP
 obtain⟨a1,cap1,rfl⟩:=hr1.shape
 refine enter Tryz.func187 rfl rfl rfl ?_
 have hS:=St.start hV
 refine Qu (Qw (v:=(.slice none 0 0)) rfl (wpList_nil (Qn (wp_seq (Qu (Ze (v:=(.slice a1 s_p.length cap1)) rfl ?_))))))
 replace hP:=hP a1.isNone (RSl.isNil hr1)
 obtain⟨r1_,hn1⟩: ∃r:Bool,a1.isNone=r:=⟨_,rfl⟩
 rw[hn1] at hP
 refine v95 Tryz.underlying44 rfl hn1 (wpList_nil (Qn ?_))
 refine if_b rfl (fun ht1=> ?_) (fun ht1=> ?_)
 ·
  replace hP:=hP.1 ht1
  refine Qu (Qw (v:=(.slice none 0 0)) rfl (wpList_nil (Qn (wp_ret (Bp (ret1 rfl (show ev _ _ _=(.slice none 0 0) from rfl) ?_))))))
  have hS1:=hS.addNil 9 1
  exact⟨[],(.slice none 0 0),rfl,(St.back hS1 (Sub.refl _)),(by simp[Sml]),hP⟩
 ·
  replace hP:=hP.2 (by first|(rw[ht1];exact Bool.false_ne_true)|simp[ht1])
  refine wp_skip (Qn (Qu (j54 (cs:=[]) (e:=9) hS (fun _=>by kernel_rfl) ?_)))
  intro b1 w1 hS2
  refine Ze (v:=(.slice a1 s_p.length cap1)) rfl ?_
  have hS3:=hS2.asVec (i:=0) (ms':=[vec (.slice (some ⟨b1,0,none⟩) 0 0) 9 1 0 []]) (size:=1) rfl rfl (by unfold maxLen;omega) rfl
  obtain⟨hsm1,hP⟩:=hP
  refine y7f (enc:=Qj) (l:=s_p) (Ms:=fun v3=>[vec v3 9 1 s_p.length ((s_p).flatMap Qj)]) (k':=s_p.length) (xs':=(s_p).flatMap Qj) Tryz.underlying44 Tryz.type9 rfl rfl (bytes:=16) rfl rfl (Nat.succ_pos _) hS3 rfl (q:=0) rfl rfl hr1 hS3.view q5a v5f hsm1 (by omega) (by first|rfl|exact List.length_append.symm|simp) (List.nil_append _) (fun _=>rfl) ?_
  intro v3 w2 ho1 hS4
  refine Qw (v:=v3) rfl (wpList_nil (Qn (wp_ret (ret1 rfl (show ev _ _ _=v3 from rfl) ?_))))
  exact⟨s_p,v3,rfl,(St.back hS4 (Sub.refl _)),hsm1,hP⟩
set_option maxHeartbeats 2000000 in
theorem q35{σ:Hv}{w:World}(s_p:(List ByteArray))(v_p:ByteArray)(v1:Value){K:Int->Prop}(hV:View σ w)(hr1:RSl 1 (REnc Qj) σ v1 s_p)(hP:Zp s_p v_p K):
    Calls Tryz.prog 128 #[v1,(.string v_p)] w (fun e w1=> ∃(r1:Int),e= .returned (.int .i64 r1)/\Grow [] σ w σ w1/\K r1):=by
 unfold Zp at hP
 obtain⟨a1,cap1,rfl⟩:=hr1.shape
 refine enter Tryz.func128 rfl rfl rfl ?_
 have hS:=St.start hV
 refine Qu (Qw (v:=(.int .i64 (0:Int))) rfl (wpList_nil (Qn (wp_seq (Qu (Ze (v:=(.slice a1 s_p.length cap1)) rfl (z1q rfl Tryz.underlying44 ?_)))))))
 have hlen1:=RSl.len63 hr1
 replace hP:=hP hlen1
 refine Ze (v:=(.int .i64 (0:Int))) rfl (wpList_nil (Qn (wp_block ?_)))
 refine w2u (fun k_2 f z=> ∃(σ1:Hv) (g:Fr),f=(upd (upd (upd (upd g 0 (.slice a1 s_p.length cap1)) 1 (.string v_p)) 7 (.int .i64 ((s_p.length:Nat):Int))) 8 (.int .i64 ((k_2:Nat):Int)))/\St ⟨w,σ,[]⟩ z σ1 []/\Sub σ σ1) hP ⟨σ,_,(Zy rfl (Zy rfl (Zy rfl (Zy rfl rfl)))),hS,(Sub.refl _)⟩ ?_
 clear hP
 rintro k_2 Y1 hP f w1 ⟨σ1,g,rfl,hS1,hsub1⟩
 refine Qu (v43 (r:=(decide (((k_2:Nat):Int)<((s_p.length:Nat):Int)))) rfl rfl rfl (wpList_nil (Qn (wp_seq ?_))))
 refine if_d (((k_2:Nat):Int)<((s_p.length:Nat):Int)) rfl (fun ht1=> ?_) (fun ht1=> ?_)
 ·
  replace hP:=hP.1 ht1
  refine wp_skip (Qn (wp_seq (wp_block (Qu (Ze (v:=(.int .i64 ((k_2:Nat):Int))) rfl (Qw (v:=(.int .i64 ((k_2:Nat):Int))) rfl (wpList_nil (Qn (Qu (Ze (v:=(.string v_p)) rfl (Ze (v:=(.slice a1 s_p.length cap1)) rfl (Ze (v:=(.int .i64 ((k_2:Nat):Int))) rfl ?_))))))))))))
  obtain⟨x1_,hx1⟩:=getq (l:=s_p) (k:=k_2) (by have:=ht1;omega)
  replace hP:=hP x1_ hx1
  obtain⟨ad1,cs1,ha1,hl1,hr2,hR1,hlt1⟩:=RSl.at hr1 hx1
  cases hR1
  refine Rw (k:=k_2) (a':=(ad1.add (k_2*1))) (congrArg (fun z=>Value.slice z _ _) ha1) rfl rfl hlt1 Tryz.underlying44 Tryz.sizeOf9 rfl (q7g (v:=(.string x1_)) rfl Tryz.isAgg9 (hr2.cell (View.of hsub1 hS1.view) 0 rfl rfl) (y66 (r:=(decide (v_p=x1_))) rfl rfl rfl (wpList_nil (Qn ?_))))
  refine if_d (v_p=x1_) rfl (fun ht2=> ?_) (fun ht2=> ?_)
  ·
   replace hP:=hP.1 ht2
   refine Qu (Ze (v:=(.int .i64 ((k_2:Nat):Int))) rfl (Qw (v:=(.int .i64 ((k_2:Nat):Int))) rfl (wpList_nil (Qn (wp_ret (j5a (Bp (Bp (j5a (Bp (ret1 rfl (show ev _ _ _=(.int .i64 ((k_2:Nat):Int)) from rfl) ?_)))))))))))
   exact⟨((k_2:Nat):Int),rfl,hS1.done.forget,hP⟩
  ·
   replace hP:=hP.2 ht2
   refine wp_skip (v2q (Qn (j2e (v2p (r:=((k_2+1:Nat):Int)) rfl rfl (nw (by omega) (by omega) (by have:=hlen1;omega)) (Ze (v:=(.int .i64 ((k_2+1:Nat):Int))) rfl (wpList_nil (Qn ?_)))))))
   exact⟨k_2+1,_,rfl,hP,σ1,_,(Zy rfl (Zy rfl (Zy rfl (Zy rfl rfl)))),hS1,hsub1⟩
 ·
  replace hP:=hP.2 ht1
  refine wp_exit (z7j (z7j (j6y (Qn (Qu (Qw (v:=(.int .i64 (-1:Int))) rfl (wpList_nil (Qn (wp_ret (ret1 rfl (show ev _ _ _=(.int .i64 (-1:Int)) from rfl) ?_))))))))))
  exact⟨(-1:Int),rfl,hS1.done.forget,hP⟩
set_option maxHeartbeats 2000000 in
theorem Vs{σ:Hv}{w:World}(s_p:(List ByteArray))(v_p:ByteArray)(v1:Value){K:Bool->Prop}(hV:View σ w)(hr1:RSl 1 (REnc Qj) σ v1 s_p)(hP:Qy s_p v_p K):
    Calls Tryz.prog 76 #[v1,(.string v_p)] w (fun e w1=> ∃(r1:Bool),e= .returned (.bool (r1))/\Grow [] σ w σ w1/\K r1):=by
 unfold Qy at hP
 obtain⟨a1,cap1,rfl⟩:=hr1.shape
 refine enter Tryz.func76 rfl rfl rfl ?_
 have hS:=St.start hV
 refine Qu (Qw (v:=(.bool false)) rfl (wpList_nil (Qn (Qu (Ze (v:=(.slice a1 s_p.length cap1)) rfl (Ze (v:=(.string v_p)) rfl ?_))))))
 obtain⟨Y1,hK1,hc1⟩:=hP
 refine q9b (args:=[(.slice a1 s_p.length cap1),(.string v_p)]) rfl Tryz.call128 (Calls.mono (q35 s_p v_p (.slice a1 s_p.length cap1) hS.view hr1 hc1) ?_)
 rintro _ w1 ⟨r1_,rfl,hg1,hY1⟩
 refine⟨_,rfl,?_⟩
 have hS1:=hS.grow hg1
 replace hP:=hK1 r1_ hY1
 refine y65 (r:=(decide ((0:Int)<=r1_))) rfl rfl rfl (Qw (v:=(.bool (decide ((0:Int)<=r1_)))) rfl (wpList_nil (Qn (wp_ret (ret1 rfl (show ev _ _ _=(.bool (decide ((0:Int)<=r1_))) from rfl) ?_)))))
 exact⟨(decide ((0:Int)<=r1_)),rfl,hS1.done.forget,hP⟩
set_option maxHeartbeats 2000000 in
theorem w_graph_Order{σ:Hv}{w:World}(nodes_p:(List ByteArray))(edges_p:(List (ByteArray×ByteArray)))(v1:Value)(v2:Value){K:(List ByteArray)->Int->Prop}(hV:View σ w)(hr1:RSl 1 (REnc Qj) σ v1 nodes_p)(hr2:RSl 2 (REnc y7g) σ v2 edges_p)(hP:P_graph_Order nodes_p edges_p K):
    Calls Tryz.prog 139 #[v1,v2] w (fun e w1=> ∃(r1:(List ByteArray)) (r2:Int) (v3:Value),e= .returned (.tuple #[v3,(.int .i64 r2)])/\St ⟨w,σ,[]⟩ w1 σ [vec v3 9 1 r1.length ((r1).flatMap Qj)]/\Sml r1.length/\K r1 r2):=by
 unfold P_graph_Order at hP
 obtain⟨a1,cap1,rfl⟩:=hr1.shape
 obtain⟨a2,cap2,rfl⟩:=hr2.shape
 refine enter Tryz.func139 rfl rfl rfl ?_
 have hS:=St.start hV
 refine Qu (Qw (v:=(.slice none 0 0)) rfl (Qw (v:=(.int .i64 (0:Int))) rfl (wpList_nil (Qn (Qu (Ze (v:=(.slice a1 nodes_p.length cap1)) rfl (q9b (args:=[(.slice a1 nodes_p.length cap1)]) rfl Tryz.call186 ?_)))))))
 refine enter Tryz.func186 rfl rfl rfl ?_
 refine Qu (y9j (cs:=[(.slice a1 nodes_p.length cap1)]) hS rfl rfl ?_)
 intro b1 w1 hS1
 refine Qw (v:= .nilFunc) rfl (wpList_nil (Qn (Qu (j2f (la:=[]) (lb:=[(.pointer (some ⟨b1,0,none⟩))]) rfl rfl (Qw (v:=(.func (.func 237) #[] #[(.pointer (some ⟨b1,0,none⟩))])) rfl (wpList_nil (Qn (wp_ret (ret1 rfl (show ev _ _ _=(.func (.func 237) #[] #[(.pointer (some ⟨b1,0,none⟩))]) from rfl) ?_)))))))))
 refine⟨_,rfl,?_⟩
 refine q9b (args:=[(.func (.func 237) #[] #[(.pointer (some ⟨b1,0,none⟩))])]) rfl Tryz.call185 ?_
 refine enter Tryz.func185 rfl rfl rfl ?_
 refine Qu (Qw (v:=(.slice none 0 0)) rfl (wpList_nil (Qn (Qu (Ze (v:=(.func (.func 237) #[] #[(.pointer (some ⟨b1,0,none⟩))])) rfl (q9b (args:=[(.func (.func 237) #[] #[(.pointer (some ⟨b1,0,none⟩))])]) rfl Tryz.call236 ?_))))))
 refine enter Tryz.func236 rfl rfl rfl ?_
 refine Qu (Qw (v:=(.slice none 0 0)) rfl (wpList_nil (Qn (Qu (Ze (v:=(.func (.func 237) #[] #[(.pointer (some ⟨b1,0,none⟩))])) rfl ?_)))))
 obtain⟨σ1,hS2,hsub1,hfr1⟩:=hS1.freeze' (i:=0) rfl rfl
 have hB1:σ1 b1=some (.cells #[(.slice a1 nodes_p.length cap1)] 44 (0,0)):=(hfr1 _ rfl).trans (hS1.get (i:=0) rfl)
 obtain⟨hsm1,hP⟩:=hP
 refine q9b (args:=[(.slice none 0 0),(.func (.func 237) #[] #[(.pointer (some ⟨b1,0,none⟩))])]) rfl Tryz.call274 (Calls.mono (y99 b1 (.slice a1 nodes_p.length cap1) nodes_p hS2.view hB1 (RSl.menc hsub1 hr1) hsm1) ?_)
 rintro _ w2 ⟨v4,rfl,hg1,ho1⟩
 refine⟨_,rfl,?_⟩
 have hS3:=hS2.growAdd hg1 (o:=vec v4 9 1 nodes_p.length ((nodes_p).flatMap Qj)) ho1
 refine Qw (v:=v4) rfl (wpList_nil (Qn (wp_ret (ret1 rfl (show ev _ _ _=v4 from rfl) ?_))))
 refine⟨_,rfl,?_⟩
 refine Qw (v:=v4) rfl (wpList_nil (Qn (Qu (Ze (v:=v4) rfl ?_))))
 refine q9b (args:=[v4]) rfl Tryz.call80 (Calls.mono (v03 Tryz.slices_Sort_string Tryz.slices_Sort_string_none hS3.view (hS3.get (i:=0) rfl) rfl (fun b hb=>hS3.off _ (List.mem_of_getElem? (i:=0) rfl) b hb) (by have:=hsm1;unfold Sml at this;omega)) ?_)
 rintro _ w3 ⟨rfl,hg2,ho2⟩
 refine⟨_,rfl,?_⟩
 have hS4:=hS3.growV (i:=0) (o':=vec v4 9 1 nodes_p.length ((srt nodes_p).flatMap Qj)) rfl hg2 rfl ho2 (ms':=[vec v4 9 1 nodes_p.length ((srt nodes_p).flatMap Qj)]) rfl
 have hS5:=hS4.re (ms':=[vec v4 9 1 ((srt nodes_p).length) ((srt nodes_p).flatMap Qj)]) (by simp only[J8])
 refine wpList_nil (Qn (Qu (Ze (v:=v4) rfl (Qw (v:=v4) rfl (wpList_nil (Qn (wp_ret (ret1 rfl (show ev _ _ _=v4 from rfl) ?_))))))))
 refine⟨_,rfl,?_⟩
 refine Qw (v:=v4) rfl (wpList_nil (Qn (wp_seq (Qu (Ze (v:=v4) rfl ?_)))))
 obtain⟨σ2,hS6,hsub2,hr4⟩:=hS5.peek (i:=0) rfl q5a (show Sml (srt nodes_p).length by rw[J8];exact hsm1)
 obtain⟨Y1,hK1,hc1⟩:=hP
 refine q9b (args:=[v4]) rfl Tryz.call187 (Calls.mono (q34 (srt nodes_p) v4 hS6.view hr4 hc1) ?_)
 rintro _ w4 ⟨r1_,v5,rfl,hg3,hl1,hY1⟩
 refine⟨_,rfl,?_⟩
 have hS7:=St.callM (ins:=[]) (rest:=[vec v4 9 1 ((srt nodes_p).length) ((srt nodes_p).flatMap Qj)]) (ms':=[vec v5 9 1 r1_.length ((r1_).flatMap Qj),vec v4 9 1 ((srt nodes_p).length) ((srt nodes_p).flatMap Qj)]) hS5 (St.back hg3 hsub2) rfl
 replace hP:=hK1 r1_ hY1
 obtain⟨hsm2,hP⟩:=hP
 refine q9b (args:=[v5]) rfl Tryz.call184 (Calls.mono (j66 Tryz.slices_Compact_string Tryz.slices_Compact_string_empty hS7.view (hS7.get (i:=0) rfl) rfl (fun b hb=>hS7.off _ (List.mem_of_getElem? (i:=0) rfl) b hb) (by have:=hl1;unfold Sml at this;omega)) ?_)
 rintro _ w5 ⟨v6,rfl,hf1,hg4,ho3⟩
 refine⟨_,rfl,?_⟩
 have ho4:=q1o ho3
 have hS8:=hS7.growV (i:=0) (o':=vec v6 9 1 ((cpt r1_).length) ((cpt r1_).flatMap Qj)) rfl hg4 hf1 ho3 (ms':=[vec v6 9 1 ((cpt r1_).length) ((cpt r1_).flatMap Qj),vec v4 9 1 ((srt nodes_p).length) ((srt nodes_p).flatMap Qj)]) rfl
 refine z91 hS8 rfl (i:=0) rfl Tryz.underlying44 ?_
 have hlen1:(cpt r1_).length<=9223372036854775807:=by have:=hsm2;unfold Sml at this;omega
 replace hP:=hP hlen1
 refine Ze (v:=v4) rfl (z91 hS8 rfl (i:=1) rfl Tryz.underlying44 ?_)
 have hlen2:(srt nodes_p).length<=9223372036854775807:=by have:=(show Sml (srt nodes_p).length by rw[J8];exact hsm1);unfold Sml at this;omega
 replace hP:=hP hlen2
 refine y9h (r:=(!decide ((((cpt r1_).length:Nat):Int)=(((srt nodes_p).length:Nat):Int)))) rfl rfl rfl (wpList_nil (Qn ?_))
 refine y67 ((((cpt r1_).length:Nat):Int)=(((srt nodes_p).length:Nat):Int)) rfl (fun ht1=> ?_) (fun ht1=> ?_)
 ·
  replace hP:=hP.2 ht1
  refine Qu (Qw (v:=(.slice none 0 0)) rfl (Qw (v:=(.int .i64 (10:Int))) rfl (wpList_nil (Qn (wp_ret (Bp (ret2 rfl (show ev _ _ _=(.slice none 0 0) from rfl) (show ev _ _ _=(.int .i64 (10:Int)) from rfl) ?_)))))))
  have hS9:=hS8.addNil 9 1
  exact⟨[],(10:Int),(.slice none 0 0),rfl,(St.back (hS9.keep 1 (ms':=[vec (.slice none 0 0) 9 1 0 []]) rfl) (Sub.refl _)),(by simp[Sml]),hP⟩
 ·
  replace hP:=hP.1 ht1
  refine wp_skip (Qn (Qu (v2v 9 1 Qj hS8 ?_)))
  intro b2 w6 hS10
  refine w8c (cs:=[(.map none)]) hS10 Tryz.zeroValue267 rfl ?_
  intro b3 w7 hS11
  refine w8b (T:=267) (vs:=[(.map (some b2))]) (cs':=[(.map (some b2))]) (ms':=(blk b3 267 [(.map (some b2))]::smap b2 (asl [])::vec v6 9 1 ((cpt r1_).length) ((cpt r1_).flatMap Qj)::vec v4 9 1 ((srt nodes_p).length) ((srt nodes_p).flatMap Qj)::H0 9 1 Qj [])) (i:=0) hS11 rfl rfl rfl Tryz.sizeOf267 rfl (ones rfl) rfl (Nat.le_of_ble_eq_true rfl) rfl rfl ?_
  intro w8 hS12
  refine wpList_nil (Qn (wp_seq (Qu (Ze (v:=(.slice a2 edges_p.length cap2)) rfl (z1q rfl Tryz.underlying170 ?_)))))
  have hlen3:=RSl.len63 hr2
  replace hP:=hP hlen3
  refine Ze (v:=(.int .i64 (0:Int))) rfl (wpList_nil (Qn (wp_block ?_)))
  have hS13:=hS12.front 3 rfl (ms':=(vec v4 9 1 ((srt nodes_p).length) ((srt nodes_p).flatMap Qj)::blk b3 267 [(.map (some b2))]::smap b2 (asl [])::vec v6 9 1 ((cpt r1_).length) ((cpt r1_).flatMap Qj)::H0 9 1 Qj [])) rfl
  have hS14:=hS13.front 3 rfl (ms':=(vec v6 9 1 ((cpt r1_).length) ((cpt r1_).flatMap Qj)::vec v4 9 1 ((srt nodes_p).length) ((srt nodes_p).flatMap Qj)::blk b3 267 [(.map (some b2))]::smap b2 (asl [])::H0 9 1 Qj [])) rfl
  have hS15:=hS14.front 2 rfl (ms':=(blk b3 267 [(.map (some b2))]::vec v6 9 1 ((cpt r1_).length) ((cpt r1_).flatMap Qj)::vec v4 9 1 ((srt nodes_p).length) ((srt nodes_p).flatMap Qj)::smap b2 (asl [])::H0 9 1 Qj [])) rfl
  have hS16:=hS15.front 3 rfl (ms':=(smap b2 (asl [])::blk b3 267 [(.map (some b2))]::vec v6 9 1 ((cpt r1_).length) ((cpt r1_).flatMap Qj)::vec v4 9 1 ((srt nodes_p).length) ((srt nodes_p).flatMap Qj)::H0 9 1 Qj [])) rfl
  refine v92 (fun k_3 F_2 f z=> ∃(es2:EL ByteArray) (σ3:Hv) (g:Fr),f=(upd (upd (upd (upd (upd g 6 v4) 7 (.pointer (some ⟨b3,0,none⟩))) 24 (.slice a2 edges_p.length cap2)) 25 (.int .i64 ((edges_p.length:Nat):Int))) 26 (.int .i64 ((k_3:Nat):Int)))/\St ⟨w,σ,[]⟩ z σ3 (smap b2 (asl es2)::blk b3 267 [(.map (some b2))]::vec v6 9 1 ((cpt r1_).length) ((cpt r1_).flatMap Qj)::vec v4 9 1 ((srt nodes_p).length) ((srt nodes_p).flatMap Qj)::H0 9 1 Qj es2)/\Sub σ1 σ3/\ELF es2 F_2) hP ⟨[],σ1,_,(Zy rfl (Zy rfl (Zy rfl (Zy rfl (Zy rfl rfl))))),hS16,(Sub.refl _),ELF.nil⟩ ?_
  clear hP
  rintro k_3 F_2 Y2 hP f w9 ⟨es2,σ3,g,rfl,hS17,hsub3,hF2⟩
  refine Qu (v43 (r:=(decide (((k_3:Nat):Int)<((edges_p.length:Nat):Int)))) rfl rfl rfl (wpList_nil (Qn (wp_seq ?_))))
  refine if_d (((k_3:Nat):Int)<((edges_p.length:Nat):Int)) rfl (fun ht2=> ?_) (fun ht2=> ?_)
  ·
   replace hP:=hP.1 ht2
   refine wp_skip (Qn (wp_seq (wp_block (Qu ?_))))
   obtain⟨x1_,hx1⟩:=getq (l:=edges_p) (k:=k_3) (by have:=ht2;omega)
   replace hP:=hP x1_ hx1
   obtain⟨ad1,cs1,ha1,hl2,hr6,hR1,hlt1⟩:=RSl.at hr2 hx1
   cases hR1
   refine Rw (k:=k_3) (a':=(ad1.add (k_3*2))) (congrArg (fun z=>Value.slice z _ _) ha1) rfl rfl hlt1 Tryz.underlying170 Tryz.sizeOf217 rfl (y3w (cs:=[(.string x1_.1),(.string x1_.2)]) rfl Tryz.isAgg217 Tryz.sizeOf217 rfl (hr6.row (View.of (Sub.trans hsub1 hsub3) hS17.view)) (w8c (cs:=[(.string (⟨#[]⟩:ByteArray)),(.string (⟨#[]⟩:ByteArray))]) hS17 Tryz.zeroValue217 rfl ?_))
   intro b4 w10 hS18
   refine w8b (T:=217) (vs:=[(.string x1_.1),(.string x1_.2)]) (cs':=[(.string x1_.1),(.string x1_.2)]) (ms':=(blk b4 217 [(.string x1_.1),(.string x1_.2)]::smap b2 (asl es2)::blk b3 267 [(.map (some b2))]::vec v6 9 1 ((cpt r1_).length) ((cpt r1_).flatMap Qj)::vec v4 9 1 ((srt nodes_p).length) ((srt nodes_p).flatMap Qj)::H0 9 1 Qj es2)) (i:=0) hS18 rfl rfl rfl Tryz.sizeOf217 rfl (ones rfl) rfl (Nat.le_of_ble_eq_true rfl) rfl rfl ?_
   intro w11 hS19
   refine wpList_nil (Qn (wp_seq (Qu (Ze (v:=v4) rfl (j6w (a':=⟨b4,0,none⟩) rfl Tryz.underlying217 rfl Tryz.sizeOf9 rfl (q7g (v:=(.string x1_.1)) rfl Tryz.isAgg9 (hS19.cell (i:=0) rfl rfl) ?_))))))
   obtain⟨σ4,hS20,hsub4,hr7⟩:=hS19.peek (i:=4) rfl q5a (show Sml (srt nodes_p).length by rw[J8];exact hsm1)
   obtain⟨Y3,hK2,hc2⟩:=hP
   refine q9b (args:=[v4,(.string x1_.1)]) rfl Tryz.call76 (Calls.mono (Vs (srt nodes_p) x1_.1 v4 hS20.view hr7 hc2) ?_)
   rintro _ w12 ⟨r2_,rfl,hg5,hY2⟩
   refine⟨_,rfl,?_⟩
   have hg5b:=hg5.back hsub4
   have hS21:=hS19.grow hg5b
   replace hP:=hK2 r2_ hY2
   refine v9u (r:=(!r2_)) rfl rfl ?_
   rcases Bool.eq_false_or_eq_true (r2_) with hb1|hb1
   ·
    replace hP:=hP.1 hb1
    refine Ze (v:=(.bool false)) (congrArg Value.bool (congrArg Bool.not hb1)) (o_on rfl rfl (Ze (v:=v4) rfl (o_on rfl rfl (j6w (a':=⟨b4,1,none⟩) rfl Tryz.underlying217 rfl Tryz.sizeOf9 rfl (o_on rfl rfl (q7g (v:=(.string x1_.2)) rfl Tryz.isAgg9 (hS21.cell (i:=0) rfl rfl) (o_on rfl rfl ?_)))))))
    obtain⟨σ5,hS22,hsub5,hr8⟩:=hS21.peek (i:=4) rfl q5a (show Sml (srt nodes_p).length by rw[J8];exact hsm1)
    obtain⟨Y4,hK3,hc3⟩:=hP
    refine q9b (args:=[v4,(.string x1_.2)]) rfl Tryz.call76 (Calls.mono (Vs (srt nodes_p) x1_.2 v4 hS22.view hr8 hc3) ?_)
    rintro _ w13 ⟨r3_,rfl,hg6,hY3⟩
    refine⟨_,rfl,?_⟩
    have hg6b:=hg6.back hsub5
    have hS23:=hS21.grow hg6b
    replace hP:=hK3 r3_ hY3
    refine o_on rfl rfl (v9u (r:=(!r3_)) rfl rfl (v9s (v:=(.bool (!r3_))) rfl rfl (wpList_nil (Qn ?_))))
    refine y68 rfl (fun ht3=> ?_) (fun ht3=> ?_)
    ·
     replace hP:=hP.2 (by first|(rw[ht3];exact Bool.false_ne_true)|simp[ht3])
     refine Qu (Qw (v:=(.slice none 0 0)) rfl (Qw (v:=(.int .i64 (11:Int))) rfl (wpList_nil (Qn (wp_ret (Bp (j5a (Bp (Bp (j5a (Bp (ret2 rfl (show ev _ _ _=(.slice none 0 0) from rfl) (show ev _ _ _=(.int .i64 (11:Int)) from rfl) ?_))))))))))))
     have hS24:=hS23.addNil 9 1
     exact⟨[],(11:Int),(.slice none 0 0),rfl,(St.back (hS24.keep 1 (ms':=[vec (.slice none 0 0) 9 1 0 []]) rfl) (Sub.refl _)),(by simp[Sml]),hP⟩
    ·
     replace hP:=hP.1 ht3
     refine wp_skip (Qn (dr (fun z=>St ⟨w,σ,[]⟩ z σ3 [blk b4 217 [(.string x1_.1),(.string x1_.2)],blk b3 267 [(.map (some b2))],vec v6 9 1 ((cpt r1_).length) ((cpt r1_).flatMap Qj),vec v4 9 1 ((srt nodes_p).length) ((srt nodes_p).flatMap Qj)]) (by kernel_rfl) rfl ?_))
     have hS25:=hS23.drew
     refine dt 0 1 (v:=(.map (some b2))) (by kernel_rfl) rfl rfl (fun _ _ _ h=>h) (hS25.sublist (.cons_cons _ (.cons _ (.cons_cons _ (.cons_cons _ (.cons_cons _ (List.nil_sublist _))))))) (fun _ hJ _ hK=>q7g (v:=(.map (some b2))) rfl Tryz.isAgg267 (hJ.cell (i:=1) rfl rfl) ⟨rfl,hK⟩) (dt 1 3 (v:=(.pointer (some ⟨b4,0,none⟩))) (by kernel_rfl) rfl rfl (fun _ _ _ h=>h) (hS25.sublist (.cons_cons _ (.cons _ (.cons_cons _ (.cons_cons _ (.cons_cons _ (List.nil_sublist _))))))) (fun _ _ _ hK=>j6w (a':=⟨b4,0,none⟩) rfl Tryz.underlying217 rfl Tryz.sizeOf9 rfl ⟨rfl,hK⟩) (dt 2 7 (v:=(.string x1_.1)) (by kernel_rfl) rfl rfl (fun _ _ _ h=>h) (hS25.sublist (.cons_cons _ (.cons _ (.cons_cons _ (.cons_cons _ (.cons_cons _ (List.nil_sublist _))))))) (fun _ hJ _ hK=>q7g (v:=(.string x1_.1)) rfl Tryz.isAgg9 (hJ.cell (i:=0) rfl rfl) ⟨rfl,hK⟩) (dt 3 15 (v:=(.map (some b2))) (by kernel_rfl) rfl rfl (fun _ _ _ h=>h) (hS25.sublist (.cons_cons _ (.cons _ (.cons_cons _ (.cons_cons _ (.cons_cons _ (List.nil_sublist _))))))) (fun _ hJ _ hK=>q7g (v:=(.map (some b2))) rfl Tryz.isAgg267 (hJ.cell (i:=1) rfl rfl) ⟨rfl,hK⟩) (dt 4 31 (v:=(.pointer (some ⟨b4,0,none⟩))) (by kernel_rfl) rfl rfl (fun _ _ _ h=>h) (hS25.sublist (.cons_cons _ (.cons _ (.cons_cons _ (.cons_cons _ (.cons_cons _ (List.nil_sublist _))))))) (fun _ _ _ hK=>j6w (a':=⟨b4,0,none⟩) rfl Tryz.underlying217 rfl Tryz.sizeOf9 rfl ⟨rfl,hK⟩) (dt 5 63 (v:=(.string x1_.1)) (by kernel_rfl) rfl rfl (fun _ _ _ h=>h) (hS25.sublist (.cons_cons _ (.cons _ (.cons_cons _ (.cons_cons _ (.cons_cons _ (List.nil_sublist _))))))) (fun _ hJ _ hK=>q7g (v:=(.string x1_.1)) rfl Tryz.isAgg9 (hJ.cell (i:=0) rfl rfl) ⟨rfl,hK⟩) (dt 7 191 (v:=(.pointer (some ⟨b4,1,none⟩))) (by kernel_rfl) rfl rfl (fun _ _ _ h=>h) (hS25.sublist (.cons_cons _ (.cons _ (.cons_cons _ (.cons_cons _ (.cons_cons _ (List.nil_sublist _))))))) (fun _ _ _ hK=>j6w (a':=⟨b4,1,none⟩) rfl Tryz.underlying217 rfl Tryz.sizeOf9 rfl ⟨rfl,hK⟩) (dt 8 447 (v:=(.string x1_.2)) (by kernel_rfl) rfl rfl (fun _ _ _ h=>h) (hS25.sublist (.cons_cons _ (.cons _ (.cons_cons _ (.cons_cons _ (.cons_cons _ (List.nil_sublist _))))))) (fun _ hJ _ hK=>q7g (v:=(.string x1_.2)) rfl Tryz.isAgg9 (hJ.cell (i:=0) rfl rfl) ⟨rfl,hK⟩) ?_)))))))
     refine d2 6 9 511 959 (by kernel_rfl) rfl rfl rfl rfl ?_ ?_
     ·
      obtain⟨v7,hv1⟩: ∃v,(asl es2 x1_.1).getD (.slice none 0 0)=v:=⟨_,rfl⟩
      refine v5d (i:=1) (v:=v7) hS25 rfl rfl rfl Tryz.underlying267 Tryz.underlying9 Tryz.zeroValue44 hv1 (wpList_nil ?_)
      refine⟨rfl,(hS25.sublist (.cons_cons _ (.cons _ (.cons_cons _ (.cons_cons _ (.cons_cons _ (List.nil_sublist _))))))),?_⟩
      refine d1 9 1023 (by kernel_rfl) rfl (j54 (cs:=[(.string x1_.2)]) (e:=9) hS25 (fun _=>by kernel_rfl) ?_)
      intro b5 w14 hS26
      refine wpList_nil ?_
      refine⟨rfl,(hS26.sublist (.cons _ (.cons_cons _ (.cons _ (.cons_cons _ (.cons_cons _ (.cons_cons _ (List.nil_sublist _)))))))),?_⟩
      refine d1 10 2047 (by kernel_rfl) rfl ?_
      obtain⟨es3,hS27,hL1,hl3⟩:=St.borrow (ms:=[blk b5 9 [(.string x1_.2)],blk b4 217 [(.string x1_.1),(.string x1_.2)],smap b2 (asl es2),blk b3 267 [(.map (some b2))],vec v6 9 1 ((cpt r1_).length) ((cpt r1_).flatMap Qj),vec v4 9 1 ((srt nodes_p).length) ((srt nodes_p).flatMap Qj)]) hS26 hF2 x1_.1 hv1
      obtain⟨hsm3,hP⟩:=hP
      refine y34 (Ms:=fun v8=>(vec v8 9 1 ((((F_2 x1_.1).getD [])++[x1_.2]).length) ((((F_2 x1_.1).getD [])++[x1_.2]).flatMap Qj)::blk b5 9 [(.string x1_.2)]::blk b4 217 [(.string x1_.1),(.string x1_.2)]::smap b2 (asl es2)::blk b3 267 [(.map (some b2))]::vec v6 9 1 ((cpt r1_).length) ((cpt r1_).flatMap Qj)::vec v4 9 1 ((srt nodes_p).length) ((srt nodes_p).flatMap Qj)::H0 9 1 Qj es3)) (k':=(((F_2 x1_.1).getD [])++[x1_.2]).length) (xs':=(((F_2 x1_.1).getD [])++[x1_.2]).flatMap Qj) Tryz.underlying44 Tryz.type9 rfl rfl (bytes:=16) rfl rfl (Nat.succ_pos _) hS27 rfl (q:=0) rfl rfl rfl (q95 (hS27.get (i:=1) rfl)) (ones rfl) hsm3 (by omega) (by first|rfl|exact List.length_append.symm|simp) (by simp[Qj]) (fun _=>rfl) ?_
      intro v8 w15 ho5 hS28
      have hS29:=hS28.drop 1 (ms':=(vec v8 9 1 ((((F_2 x1_.1).getD [])++[x1_.2]).length) ((((F_2 x1_.1).getD [])++[x1_.2]).flatMap Qj)::blk b4 217 [(.string x1_.1),(.string x1_.2)]::smap b2 (asl es2)::blk b3 267 [(.map (some b2))]::vec v6 9 1 ((cpt r1_).length) ((cpt r1_).flatMap Qj)::vec v4 9 1 ((srt nodes_p).length) ((srt nodes_p).flatMap Qj)::H0 9 1 Qj es3)) rfl
      refine wpList_nil ?_
      refine⟨rfl,(hS29.sublist (.cons _ (.cons_cons _ (.cons _ (.cons_cons _ (.cons_cons _ (.cons_cons _ (List.nil_sublist _)))))))),?_⟩
      refine d1 11 4095 (by kernel_rfl) rfl (y31 (v:=v8) (i:=2) (ms':=(vec v8 9 1 ((((F_2 x1_.1).getD [])++[x1_.2]).length) ((((F_2 x1_.1).getD [])++[x1_.2]).flatMap Qj)::blk b4 217 [(.string x1_.1),(.string x1_.2)]::smap b2 (fun k'=>if k'=x1_.1 then some v8 else asl es2 k')::blk b3 267 [(.map (some b2))]::vec v6 9 1 ((cpt r1_).length) ((cpt r1_).flatMap Qj)::vec v4 9 1 ((srt nodes_p).length) ((srt nodes_p).flatMap Qj)::H0 9 1 Qj es3)) hS29 rfl rfl rfl rfl Tryz.underlying267 Tryz.underlying9 rfl ?_)
      intro w16 hS30
      have hS32:=St.giveback (ms:=[blk b4 217 [(.string x1_.1),(.string x1_.2)],smap b2 (fun k'=>if k'=x1_.1 then some v8 else asl es2 k'),blk b3 267 [(.map (some b2))],vec v6 9 1 ((cpt r1_).length) ((cpt r1_).flatMap Qj),vec v4 9 1 ((srt nodes_p).length) ((srt nodes_p).flatMap Qj)]) (ms':=[blk b4 217 [(.string x1_.1),(.string x1_.2)],smap b2 (asl ((x1_.1,v8,((F_2 x1_.1).getD [])++[x1_.2])::es3)),blk b3 267 [(.map (some b2))],vec v6 9 1 ((cpt r1_).length) ((cpt r1_).flatMap Qj),vec v4 9 1 ((srt nodes_p).length) ((srt nodes_p).flatMap Qj)]) (i:=1) hS30 hL1 rfl rfl
      have hF3:=ELF.put (v:=v8) hF2 hL1 hsm3
      refine wpList_nil ?_
      refine⟨rfl,(hS32.sublist (.cons_cons _ (.cons _ (.cons_cons _ (.cons_cons _ (.cons_cons _ (List.nil_sublist _))))))),j55 (J':=fun z=>St ⟨w,σ,[]⟩ z σ3 (blk b4 217 [(.string x1_.1),(.string x1_.2)]::smap b2 (asl ((x1_.1,v8,((F_2 x1_.1).getD [])++[x1_.2])::es3))::blk b3 267 [(.map (some b2))]::vec v6 9 1 ((cpt r1_).length) ((cpt r1_).flatMap Qj)::vec v4 9 1 ((srt nodes_p).length) ((srt nodes_p).flatMap Qj)::H0 9 1 Qj ((x1_.1,v8,((F_2 x1_.1).getD [])++[x1_.2])::es3))) (fun w h=>h.sublist (.cons_cons _ (.cons _ (.cons_cons _ (.cons_cons _ (.cons_cons _ (List.nil_sublist _))))))) _ _ _ _ ?_⟩
      refine dz (by kernel_rfl) (v2q (Qn (j2e (v2p (r:=((k_3+1:Nat):Int)) rfl rfl (nw (by omega) (by omega) (by have:=hlen3;omega)) (Ze (v:=(.int .i64 ((k_3+1:Nat):Int))) rfl (wpList_nil (Qn ?_)))))))
      exact⟨k_3+1,(put F_2 x1_.1 (((F_2 x1_.1).getD [])++[x1_.2])),_,rfl,hP,((x1_.1,v8,((F_2 x1_.1).getD [])++[x1_.2])::es3),σ3,_,(Zy rfl (Zy rfl (Zy rfl (Zy rfl (Zy rfl rfl))))),(hS32.sublist (ms':=(smap b2 (asl ((x1_.1,v8,((F_2 x1_.1).getD [])++[x1_.2])::es3))::blk b3 267 [(.map (some b2))]::vec v6 9 1 ((cpt r1_).length) ((cpt r1_).flatMap Qj)::vec v4 9 1 ((srt nodes_p).length) ((srt nodes_p).flatMap Qj)::H0 9 1 Qj ((x1_.1,v8,((F_2 x1_.1).getD [])++[x1_.2])::es3))) (.cons _ (List.Sublist.refl _))),hsub3,hF3⟩
     ·
      refine j54 (cs:=[(.string x1_.2)]) (e:=9) hS25 (fun _=>by kernel_rfl) ?_
      intro b5 w14 hS26
      refine wpList_nil ?_
      refine⟨rfl,(hS26.sublist (.cons _ (.cons_cons _ (.cons _ (.cons_cons _ (.cons_cons _ (.cons_cons _ (List.nil_sublist _)))))))),?_⟩
      refine d1 6 1023 (by kernel_rfl) rfl ?_
      obtain⟨v7,hv1⟩: ∃v,(asl es2 x1_.1).getD (.slice none 0 0)=v:=⟨_,rfl⟩
      refine v5d (i:=2) (v:=v7) hS26 rfl rfl rfl Tryz.underlying267 Tryz.underlying9 Tryz.zeroValue44 hv1 (wpList_nil ?_)
      refine⟨rfl,(hS26.sublist (.cons _ (.cons_cons _ (.cons _ (.cons_cons _ (.cons_cons _ (.cons_cons _ (List.nil_sublist _)))))))),?_⟩
      refine d1 10 2047 (by kernel_rfl) rfl ?_
      obtain⟨es3,hS27,hL1,hl3⟩:=St.borrow (ms:=[blk b5 9 [(.string x1_.2)],blk b4 217 [(.string x1_.1),(.string x1_.2)],smap b2 (asl es2),blk b3 267 [(.map (some b2))],vec v6 9 1 ((cpt r1_).length) ((cpt r1_).flatMap Qj),vec v4 9 1 ((srt nodes_p).length) ((srt nodes_p).flatMap Qj)]) hS26 hF2 x1_.1 hv1
      obtain⟨hsm3,hP⟩:=hP
      refine y34 (Ms:=fun v8=>(vec v8 9 1 ((((F_2 x1_.1).getD [])++[x1_.2]).length) ((((F_2 x1_.1).getD [])++[x1_.2]).flatMap Qj)::blk b5 9 [(.string x1_.2)]::blk b4 217 [(.string x1_.1),(.string x1_.2)]::smap b2 (asl es2)::blk b3 267 [(.map (some b2))]::vec v6 9 1 ((cpt r1_).length) ((cpt r1_).flatMap Qj)::vec v4 9 1 ((srt nodes_p).length) ((srt nodes_p).flatMap Qj)::H0 9 1 Qj es3)) (k':=(((F_2 x1_.1).getD [])++[x1_.2]).length) (xs':=(((F_2 x1_.1).getD [])++[x1_.2]).flatMap Qj) Tryz.underlying44 Tryz.type9 rfl rfl (bytes:=16) rfl rfl (Nat.succ_pos _) hS27 rfl (q:=0) rfl rfl rfl (q95 (hS27.get (i:=1) rfl)) (ones rfl) hsm3 (by omega) (by first|rfl|exact List.length_append.symm|simp) (by simp[Qj]) (fun _=>rfl) ?_
      intro v8 w15 ho5 hS28
      have hS29:=hS28.drop 1 (ms':=(vec v8 9 1 ((((F_2 x1_.1).getD [])++[x1_.2]).length) ((((F_2 x1_.1).getD [])++[x1_.2]).flatMap Qj)::blk b4 217 [(.string x1_.1),(.string x1_.2)]::smap b2 (asl es2)::blk b3 267 [(.map (some b2))]::vec v6 9 1 ((cpt r1_).length) ((cpt r1_).flatMap Qj)::vec v4 9 1 ((srt nodes_p).length) ((srt nodes_p).flatMap Qj)::H0 9 1 Qj es3)) rfl
      refine wpList_nil ?_
      refine⟨rfl,(hS29.sublist (.cons _ (.cons_cons _ (.cons _ (.cons_cons _ (.cons_cons _ (.cons_cons _ (List.nil_sublist _)))))))),?_⟩
      refine d1 11 4095 (by kernel_rfl) rfl (y31 (v:=v8) (i:=2) (ms':=(vec v8 9 1 ((((F_2 x1_.1).getD [])++[x1_.2]).length) ((((F_2 x1_.1).getD [])++[x1_.2]).flatMap Qj)::blk b4 217 [(.string x1_.1),(.string x1_.2)]::smap b2 (fun k'=>if k'=x1_.1 then some v8 else asl es2 k')::blk b3 267 [(.map (some b2))]::vec v6 9 1 ((cpt r1_).length) ((cpt r1_).flatMap Qj)::vec v4 9 1 ((srt nodes_p).length) ((srt nodes_p).flatMap Qj)::H0 9 1 Qj es3)) hS29 rfl rfl rfl rfl Tryz.underlying267 Tryz.underlying9 rfl ?_)
      intro w16 hS30
      have hS32:=St.giveback (ms:=[blk b4 217 [(.string x1_.1),(.string x1_.2)],smap b2 (fun k'=>if k'=x1_.1 then some v8 else asl es2 k'),blk b3 267 [(.map (some b2))],vec v6 9 1 ((cpt r1_).length) ((cpt r1_).flatMap Qj),vec v4 9 1 ((srt nodes_p).length) ((srt nodes_p).flatMap Qj)]) (ms':=[blk b4 217 [(.string x1_.1),(.string x1_.2)],smap b2 (asl ((x1_.1,v8,((F_2 x1_.1).getD [])++[x1_.2])::es3)),blk b3 267 [(.map (some b2))],vec v6 9 1 ((cpt r1_).length) ((cpt r1_).flatMap Qj),vec v4 9 1 ((srt nodes_p).length) ((srt nodes_p).flatMap Qj)]) (i:=1) hS30 hL1 rfl rfl
      have hF3:=ELF.put (v:=v8) hF2 hL1 hsm3
      refine wpList_nil ?_
      refine⟨rfl,(hS32.sublist (.cons_cons _ (.cons _ (.cons_cons _ (.cons_cons _ (.cons_cons _ (List.nil_sublist _))))))),j55 (J':=fun z=>St ⟨w,σ,[]⟩ z σ3 (blk b4 217 [(.string x1_.1),(.string x1_.2)]::smap b2 (asl ((x1_.1,v8,((F_2 x1_.1).getD [])++[x1_.2])::es3))::blk b3 267 [(.map (some b2))]::vec v6 9 1 ((cpt r1_).length) ((cpt r1_).flatMap Qj)::vec v4 9 1 ((srt nodes_p).length) ((srt nodes_p).flatMap Qj)::H0 9 1 Qj ((x1_.1,v8,((F_2 x1_.1).getD [])++[x1_.2])::es3))) (fun w h=>h.sublist (.cons_cons _ (.cons _ (.cons_cons _ (.cons_cons _ (.cons_cons _ (List.nil_sublist _))))))) _ _ _ _ ?_⟩
      refine dz (by kernel_rfl) (v2q (Qn (j2e (v2p (r:=((k_3+1:Nat):Int)) rfl rfl (nw (by omega) (by omega) (by have:=hlen3;omega)) (Ze (v:=(.int .i64 ((k_3+1:Nat):Int))) rfl (wpList_nil (Qn ?_)))))))
      exact⟨k_3+1,(put F_2 x1_.1 (((F_2 x1_.1).getD [])++[x1_.2])),_,rfl,hP,((x1_.1,v8,((F_2 x1_.1).getD [])++[x1_.2])::es3),σ3,_,(Zy rfl (Zy rfl (Zy rfl (Zy rfl (Zy rfl rfl))))),(hS32.sublist (ms':=(smap b2 (asl ((x1_.1,v8,((F_2 x1_.1).getD [])++[x1_.2])::es3))::blk b3 267 [(.map (some b2))]::vec v6 9 1 ((cpt r1_).length) ((cpt r1_).flatMap Qj)::vec v4 9 1 ((srt nodes_p).length) ((srt nodes_p).flatMap Qj)::H0 9 1 Qj ((x1_.1,v8,((F_2 x1_.1).getD [])++[x1_.2])::es3))) (.cons _ (List.Sublist.refl _))),hsub3,hF3⟩
   ·
    replace hP:=hP.2 (by first|(rw[hb1];exact Bool.false_ne_true)|simp[hb1])
    refine Ze (v:=(.bool true)) (congrArg Value.bool (congrArg Bool.not hb1)) (v42 rfl rfl (v42 rfl rfl (v42 rfl rfl (v42 rfl rfl (v42 rfl rfl (v9r (v:=(.bool true)) rfl rfl (wpList_nil (Qn (if_t rfl (Qu (Qw (v:=(.slice none 0 0)) rfl (Qw (v:=(.int .i64 (11:Int))) rfl (wpList_nil (Qn (wp_ret (Bp (j5a (Bp (Bp (j5a (Bp (ret2 rfl (show ev _ _ _=(.slice none 0 0) from rfl) (show ev _ _ _=(.int .i64 (11:Int)) from rfl) ?_))))))))))))))))))))))
    have hS33:=hS21.addNil 9 1
    exact⟨[],(11:Int),(.slice none 0 0),rfl,(St.back (hS33.keep 1 (ms':=[vec (.slice none 0 0) 9 1 0 []]) rfl) (Sub.refl _)),(by simp[Sml]),hP⟩
  ·
   replace hP:=hP.2 ht2
   refine wp_exit (z7j (z7j (j6y (Qn (Qu (Qw (v:=(.slice none 0 0)) rfl (wpList_nil (Qn (Qu (y32 (fun y:Bool=>(Value.bool (y))) hS17 ?_))))))))))
   intro b6 w17 hS34
   refine w8c (cs:=[(.map none)]) hS34 Tryz.zeroValue268 rfl ?_
   intro b7 w18 hS35
   refine w8b (T:=268) (vs:=[(.map (some b6))]) (cs':=[(.map (some b6))]) (ms':=(blk b7 268 [(.map (some b6))]::emap b6 (fun y:Bool=>(Value.bool (y))) (fun _=>none)::smap b2 (asl es2)::blk b3 267 [(.map (some b2))]::vec v6 9 1 ((cpt r1_).length) ((cpt r1_).flatMap Qj)::vec v4 9 1 ((srt nodes_p).length) ((srt nodes_p).flatMap Qj)::H0 9 1 Qj es2)) (i:=0) hS35 rfl rfl rfl Tryz.sizeOf268 rfl (ones rfl) rfl (Nat.le_of_ble_eq_true rfl) rfl rfl ?_
   intro w19 hS36
   refine wpList_nil (Qn (wp_seq (wp_block ?_)))
   obtain⟨σ6,hS37,hsub6,hr9⟩:=St.freezeL (ms:=[blk b7 268 [(.map (some b6))],emap b6 (fun y:Bool=>(Value.bool (y))) (fun _=>none),smap b2 (asl es2),blk b3 267 [(.map (some b2))],vec v6 9 1 ((cpt r1_).length) ((cpt r1_).flatMap Qj),vec v4 9 1 ((srt nodes_p).length) ((srt nodes_p).flatMap Qj)]) (ms':=[blk b7 268 [(.map (some b6))],emap b6 (fun y:Bool=>(Value.bool (y))) (fun _=>none),blk b3 267 [(.map (some b2))],vec v6 9 1 ((cpt r1_).length) ((cpt r1_).flatMap Qj),vec v4 9 1 ((srt nodes_p).length) ((srt nodes_p).flatMap Qj)]) (i:=2) hS36 hF2 q5a rfl rfl
   have hS38:=hS37.addNil 9 1
   have hS39:=hS38.front 4 rfl (ms':=[vec v6 9 1 ((cpt r1_).length) ((cpt r1_).flatMap Qj),vec (.slice none 0 0) 9 1 0 [],blk b7 268 [(.map (some b6))],emap b6 (fun y:Bool=>(Value.bool (y))) (fun _=>none),blk b3 267 [(.map (some b2))],vec v4 9 1 ((srt nodes_p).length) ((srt nodes_p).flatMap Qj)]) rfl
   have hS40:=hS39.front 4 rfl (ms':=[blk b3 267 [(.map (some b2))],vec v6 9 1 ((cpt r1_).length) ((cpt r1_).flatMap Qj),vec (.slice none 0 0) 9 1 0 [],blk b7 268 [(.map (some b6))],emap b6 (fun y:Bool=>(Value.bool (y))) (fun _=>none),vec v4 9 1 ((srt nodes_p).length) ((srt nodes_p).flatMap Qj)]) rfl
   have hS41:=hS40.front 3 rfl (ms':=[blk b7 268 [(.map (some b6))],blk b3 267 [(.map (some b2))],vec v6 9 1 ((cpt r1_).length) ((cpt r1_).flatMap Qj),vec (.slice none 0 0) 9 1 0 [],emap b6 (fun y:Bool=>(Value.bool (y))) (fun _=>none),vec v4 9 1 ((srt nodes_p).length) ((srt nodes_p).flatMap Qj)]) rfl
   have hS42:=hS41.front 4 rfl (ms':=[emap b6 (fun y:Bool=>(Value.bool (y))) (fun _=>none),blk b7 268 [(.map (some b6))],blk b3 267 [(.map (some b2))],vec v6 9 1 ((cpt r1_).length) ((cpt r1_).flatMap Qj),vec (.slice none 0 0) 9 1 0 [],vec v4 9 1 ((srt nodes_p).length) ((srt nodes_p).flatMap Qj)]) rfl
   have hS43:=hS42.front 4 rfl (ms':=[vec (.slice none 0 0) 9 1 0 [],emap b6 (fun y:Bool=>(Value.bool (y))) (fun _=>none),blk b7 268 [(.map (some b6))],blk b3 267 [(.map (some b2))],vec v6 9 1 ((cpt r1_).length) ((cpt r1_).flatMap Qj),vec v4 9 1 ((srt nodes_p).length) ((srt nodes_p).flatMap Qj)]) rfl
   have hS44:=hS43.front 5 rfl (ms':=[vec v4 9 1 ((srt nodes_p).length) ((srt nodes_p).flatMap Qj),vec (.slice none 0 0) 9 1 0 [],emap b6 (fun y:Bool=>(Value.bool (y))) (fun _=>none),blk b7 268 [(.map (some b6))],blk b3 267 [(.map (some b2))],vec v6 9 1 ((cpt r1_).length) ((cpt r1_).flatMap Qj)]) rfl
   refine v93 (fun left_3 out_3 F_4 f z=> ∃(v13:Value) (v14:Value) (σ7:Hv) (g:Fr),f=(upd (upd (upd (upd g 6 v13) 7 (.pointer (some ⟨b3,0,none⟩))) 10 v14) 11 (.pointer (some ⟨b7,0,none⟩)))/\St ⟨w,σ,[]⟩ z σ7 [vec v13 9 1 left_3.length ((left_3).flatMap Qj),vec v14 9 1 out_3.length ((out_3).flatMap Qj),emap b6 (fun y:Bool=>(Value.bool (y))) F_4,blk b7 268 [(.map (some b6))],blk b3 267 [(.map (some b2))],vec v6 9 1 ((cpt r1_).length) ((cpt r1_).flatMap Qj)]/\Sub σ6 σ7/\v13.oneCell'=true/\Sml left_3.length/\v14.oneCell'=true/\Sml out_3.length) hP ⟨v4,(.slice none 0 0),σ6,_,(Zy rfl (Zy rfl (Zy rfl (Zy rfl rfl)))),hS44,(Sub.refl _),(q1o ho1.1),(show Sml (srt nodes_p).length by rw[J8];exact hsm1),rfl,(by simp[Sml])⟩ ?_
   clear hP
   rintro left_3 out_3 F_4 Y5 hP f w20 ⟨v13,v14,σ7,g,rfl,hS45,hsub7,ho10,hl8,ho11,hl9⟩
   refine wp_seq (Qu (Ze (v:=v13) rfl (z91 hS45 rfl (i:=0) rfl Tryz.underlying44 ?_)))
   have hlen4:left_3.length<=9223372036854775807:=by have:=hl8;unfold Sml at this;omega
   replace hP:=hP hlen4
   refine y9i (r:=(decide ((0:Int)<((left_3.length:Nat):Int)))) rfl rfl rfl (wpList_nil (Qn ?_))
   refine if_d ((0:Int)<((left_3.length:Nat):Int)) rfl (fun ht4=> ?_) (fun ht4=> ?_)
   ·
    replace hP:=hP.1 ht4
    refine wp_skip (Qn (wp_block (Qu (Ze (v:=v13) rfl (j2f (la:=[]) (lb:=[(.pointer (some ⟨b3,0,none⟩)),(.pointer (some ⟨b7,0,none⟩))]) rfl rfl ?_)))))
    obtain⟨Y6,hK4,hP⟩:=hP
    refine q9b (args:=[v13,(.func (.func 189) #[] #[(.pointer (some ⟨b3,0,none⟩)),(.pointer (some ⟨b7,0,none⟩))])]) rfl Tryz.call188 (Calls.mono (R:=fun e z=> ∃(r_1:Int) (σ8:Hv),e= .returned (.int .i64 r_1)/\Y6 r_1/\St ⟨w,σ,[]⟩ z σ8 [vec v13 9 1 left_3.length ((left_3).flatMap Qj),vec v14 9 1 out_3.length ((out_3).flatMap Qj),emap b6 (fun y:Bool=>(Value.bool (y))) F_4,blk b7 268 [(.map (some b6))],blk b3 267 [(.map (some b2))],vec v6 9 1 ((cpt r1_).length) ((cpt r1_).flatMap Qj)]/\Sub σ7 σ8) ?_ ?_)
    ·
     refine enter Tryz.func188 rfl rfl rfl ?_
     refine Qu (Qw (v:=(.int .i64 (0:Int))) rfl (wpList_nil (Qn (wp_seq (Qu (Ze (v:=v13) rfl (z91 hS45 rfl (i:=0) rfl Tryz.underlying44 (Ze (v:=(.int .i64 (0:Int))) rfl (wpList_nil (Qn (wp_block ?_)))))))))))
     refine w2u (fun k_5 f z=> ∃(σ9:Hv) (g:Fr),f=(upd (upd (upd (upd g 0 v13) 1 (.func (.func 189) #[] #[(.pointer (some ⟨b3,0,none⟩)),(.pointer (some ⟨b7,0,none⟩))])) 7 (.int .i64 ((left_3.length:Nat):Int))) 8 (.int .i64 ((k_5:Nat):Int)))/\St ⟨w,σ,[]⟩ z σ9 [vec v13 9 1 left_3.length ((left_3).flatMap Qj),vec v14 9 1 out_3.length ((out_3).flatMap Qj),emap b6 (fun y:Bool=>(Value.bool (y))) F_4,blk b7 268 [(.map (some b6))],blk b3 267 [(.map (some b2))],vec v6 9 1 ((cpt r1_).length) ((cpt r1_).flatMap Qj)]/\Sub σ7 σ9) hP ⟨σ7,_,(Zy rfl (Zy rfl (Zy rfl (Zy rfl rfl)))),hS45,(Sub.refl _)⟩ ?_
     clear hP
     rintro k_5 Y7 hP f w21 ⟨σ9,g,rfl,hS46,hsub9⟩
     refine Qu (v43 (r:=(decide (((k_5:Nat):Int)<((left_3.length:Nat):Int)))) rfl rfl rfl (wpList_nil (Qn (wp_seq ?_))))
     refine if_d (((k_5:Nat):Int)<((left_3.length:Nat):Int)) rfl (fun ht5=> ?_) (fun ht5=> ?_)
     ·
      replace hP:=hP.1 ht5
      refine wp_skip (Qn (wp_seq (wp_block (Qu (Ze (v:=(.int .i64 ((k_5:Nat):Int))) rfl (Qw (v:=(.int .i64 ((k_5:Nat):Int))) rfl (wpList_nil (Qn (Qu (Ze (v:=(.func (.func 189) #[] #[(.pointer (some ⟨b3,0,none⟩)),(.pointer (some ⟨b7,0,none⟩))])) rfl (Ze (v:=v13) rfl (Ze (v:=(.int .i64 ((k_5:Nat):Int))) rfl ?_))))))))))))
      obtain⟨x2_,hx2⟩:=getq (l:=left_3) (k:=k_5) (by have:=ht5;omega)
      replace hP:=hP x2_ hx2
      obtain⟨g1,cp1,hv2⟩:=w2v (hS46.get (i:=0) rfl) (Qf hx2)
      refine Rw (k:=k_5) (a':=⟨g1,k_5*1,none⟩) hv2 rfl rfl (Qf hx2) Tryz.underlying44 Tryz.sizeOf9 (by simp[Uq]) (q7g (v:=(.string x2_)) rfl Tryz.isAgg9 (j67 q5a (j:=0) hv2 (hS46.get (i:=0) rfl) hx2 rfl) (v47 (args:=[(.string x2_),(.pointer (some ⟨b3,0,none⟩)),(.pointer (some ⟨b7,0,none⟩))]) rfl rfl Tryz.call189 ?_))
      refine enter Tryz.func189 rfl rfl rfl ?_
      refine Qu (Qw (v:=(.bool false)) rfl (wpList_nil (Qn (Qu (q7g (v:=(.map (some b2))) rfl Tryz.isAgg267 (hS46.cell (i:=4) rfl rfl) (Ze (v:=(.string x2_)) rfl ?_))))))
      obtain⟨v15,hl10,hz1⟩:=RMp.at (z:= .slice none 0 0) (z0:=[]) RSl.nil hr9 x2_
      obtain⟨a3,cap3,rfl⟩:=hz1.shape
      refine y35 (v:=(.slice a3 ((F_2 x2_).getD []).length cap3)) hl10 (View.of (Sub.trans hsub7 hsub9) hS46.view) rfl rfl Tryz.underlying267 Tryz.underlying9 Tryz.zeroValue44 (j2f (la:=[]) (lb:=[(.pointer (some ⟨b7,0,none⟩))]) rfl rfl (q9b (args:=[(.slice a3 ((F_2 x2_).getD []).length cap3),(.func (.func 191) #[] #[(.pointer (some ⟨b7,0,none⟩))])]) rfl Tryz.call190 ?_))
      refine enter Tryz.func190 rfl rfl rfl ?_
      refine Qu (Qw (v:=(.bool false)) rfl (wpList_nil (Qn (Qu (Ze (v:=(.slice a3 ((F_2 x2_).getD []).length cap3)) rfl (Ze (v:=(.func (.func 191) #[] #[(.pointer (some ⟨b7,0,none⟩))])) rfl ?_))))))
      obtain⟨Y8,hK5,hP⟩:=hP
      refine q9b (args:=[(.slice a3 ((F_2 x2_).getD []).length cap3),(.func (.func 191) #[] #[(.pointer (some ⟨b7,0,none⟩))])]) rfl Tryz.call188 (Calls.mono (R:=fun e z=> ∃(r_2:Int) (σ10:Hv),e= .returned (.int .i64 r_2)/\Y8 r_2/\St ⟨w,σ,[]⟩ z σ10 [vec v13 9 1 left_3.length ((left_3).flatMap Qj),vec v14 9 1 out_3.length ((out_3).flatMap Qj),emap b6 (fun y:Bool=>(Value.bool (y))) F_4,blk b7 268 [(.map (some b6))],blk b3 267 [(.map (some b2))],vec v6 9 1 ((cpt r1_).length) ((cpt r1_).flatMap Qj)]/\Sub σ9 σ10) ?_ ?_)
      ·
       refine enter Tryz.func188 rfl rfl rfl ?_
       refine Qu (Qw (v:=(.int .i64 (0:Int))) rfl (wpList_nil (Qn (wp_seq (Qu (Ze (v:=(.slice a3 ((F_2 x2_).getD []).length cap3)) rfl (z1q rfl Tryz.underlying44 ?_)))))))
       have hlen6:=RSl.len63 hz1
       replace hP:=hP hlen6
       refine Ze (v:=(.int .i64 (0:Int))) rfl (wpList_nil (Qn (wp_block ?_)))
       refine w2u (fun k_7 f z=> ∃(σ11:Hv) (g:Fr),f=(upd (upd (upd (upd g 0 (.slice a3 ((F_2 x2_).getD []).length cap3)) 1 (.func (.func 191) #[] #[(.pointer (some ⟨b7,0,none⟩))])) 7 (.int .i64 ((((F_2 x2_).getD []).length:Nat):Int))) 8 (.int .i64 ((k_7:Nat):Int)))/\St ⟨w,σ,[]⟩ z σ11 [vec v13 9 1 left_3.length ((left_3).flatMap Qj),vec v14 9 1 out_3.length ((out_3).flatMap Qj),emap b6 (fun y:Bool=>(Value.bool (y))) F_4,blk b7 268 [(.map (some b6))],blk b3 267 [(.map (some b2))],vec v6 9 1 ((cpt r1_).length) ((cpt r1_).flatMap Qj)]/\Sub σ9 σ11) hP ⟨σ9,_,(Zy rfl (Zy rfl (Zy rfl (Zy rfl rfl)))),hS46,(Sub.refl _)⟩ ?_
       clear hP
       rintro k_7 Y9 hP f w22 ⟨σ11,g,rfl,hS47,hsub11⟩
       refine Qu (v43 (r:=(decide (((k_7:Nat):Int)<((((F_2 x2_).getD []).length:Nat):Int)))) rfl rfl rfl (wpList_nil (Qn (wp_seq ?_))))
       refine if_d (((k_7:Nat):Int)<((((F_2 x2_).getD []).length:Nat):Int)) rfl (fun ht6=> ?_) (fun ht6=> ?_)
       ·
        replace hP:=hP.1 ht6
        refine wp_skip (Qn (wp_seq (wp_block (Qu (Ze (v:=(.int .i64 ((k_7:Nat):Int))) rfl (Qw (v:=(.int .i64 ((k_7:Nat):Int))) rfl (wpList_nil (Qn (Qu (Ze (v:=(.func (.func 191) #[] #[(.pointer (some ⟨b7,0,none⟩))])) rfl (Ze (v:=(.slice a3 ((F_2 x2_).getD []).length cap3)) rfl (Ze (v:=(.int .i64 ((k_7:Nat):Int))) rfl ?_))))))))))))
        obtain⟨x3_,hx3⟩:=getq (l:=((F_2 x2_).getD [])) (k:=k_7) (by have:=ht6;omega)
        replace hP:=hP x3_ hx3
        obtain⟨ad2,cs2,ha2,hl11,hr10,hR2,hlt2⟩:=RSl.at hz1 hx3
        cases hR2
        refine Rw (k:=k_7) (a':=(ad2.add (k_7*1))) (congrArg (fun z=>Value.slice z _ _) ha2) rfl rfl hlt2 Tryz.underlying44 Tryz.sizeOf9 rfl (q7g (v:=(.string x3_)) rfl Tryz.isAgg9 (hr10.cell (View.of (Sub.trans (Sub.trans hsub7 hsub9) hsub11) hS47.view) 0 rfl rfl) (v47 (args:=[(.string x3_),(.pointer (some ⟨b7,0,none⟩))]) rfl rfl Tryz.call191 ?_))
        refine enter Tryz.func191 rfl rfl rfl ?_
        refine Qu (Qw (v:=(.bool false)) rfl (wpList_nil (Qn (Qu (q7g (v:=(.map (some b6))) rfl Tryz.isAgg268 (hS47.cell (i:=3) rfl rfl) (Ze (v:=(.string x3_)) rfl (y33 (v:=(.bool (((F_4 x3_).getD false)))) (i:=2) hS47 rfl rfl rfl Tryz.underlying268 Tryz.underlying9 Tryz.zeroValue4 (v94 (fun y:Bool=>(Value.bool (y))) _ rfl) (v9u (r:=(!((F_4 x3_).getD false))) rfl rfl (Qw (v:=(.bool (!((F_4 x3_).getD false)))) rfl (wpList_nil (Qn (wp_ret (ret1 rfl (show ev _ _ _=(.bool (!((F_4 x3_).getD false))) from rfl) ?_)))))))))))))
        refine⟨_,rfl,?_⟩
        refine wpList_nil (Qn ?_)
        refine y68 rfl (fun ht7=> ?_) (fun ht7=> ?_)
        ·
         replace hP:=hP.2 (by first|(rw[ht7];exact Bool.false_ne_true)|simp[ht7])
         refine Qu (Ze (v:=(.int .i64 ((k_7:Nat):Int))) rfl (Qw (v:=(.int .i64 ((k_7:Nat):Int))) rfl (wpList_nil (Qn (wp_ret (j5a (Bp (Bp (j5a (Bp (ret1 rfl (show ev _ _ _=(.int .i64 ((k_7:Nat):Int)) from rfl) ?_)))))))))))
         exact⟨((k_7:Nat):Int),σ11,rfl,hP,hS47,hsub11⟩
        ·
         replace hP:=hP.1 ht7
         refine wp_skip (v2q (Qn (j2e (v2p (r:=((k_7+1:Nat):Int)) rfl rfl (nw (by omega) (by omega) (by have:=hlen6;omega)) (Ze (v:=(.int .i64 ((k_7+1:Nat):Int))) rfl (wpList_nil (Qn ?_)))))))
         exact⟨k_7+1,_,rfl,hP,σ11,_,(Zy rfl (Zy rfl (Zy rfl (Zy rfl rfl)))),hS47,hsub11⟩
       ·
        replace hP:=hP.2 ht6
        refine wp_exit (z7j (z7j (j6y (Qn (Qu (Qw (v:=(.int .i64 (-1:Int))) rfl (wpList_nil (Qn (wp_ret (ret1 rfl (show ev _ _ _=(.int .i64 (-1:Int)) from rfl) ?_))))))))))
        exact⟨(-1:Int),σ11,rfl,hP,hS47,hsub11⟩
      ·
       rintro _ w23 ⟨r_2,σ10,rfl,hY4,hS48,hsub10⟩
       refine⟨_,rfl,?_⟩
       replace hP:=hK5 r_2 hY4
       refine y65 (r:=(decide ((0:Int)<=r_2))) rfl rfl rfl (Qw (v:=(.bool (decide ((0:Int)<=r_2)))) rfl (wpList_nil (Qn (wp_ret (ret1 rfl (show ev _ _ _=(.bool (decide ((0:Int)<=r_2))) from rfl) ?_)))))
       refine⟨_,rfl,?_⟩
       refine v9u (r:=(!decide ((0:Int)<=r_2))) rfl rfl (Qw (v:=(.bool (!decide ((0:Int)<=r_2)))) rfl (wpList_nil (Qn (wp_ret (ret1 rfl (show ev _ _ _=(.bool (!decide ((0:Int)<=r_2))) from rfl) ?_)))))
       refine⟨_,rfl,?_⟩
       refine wpList_nil (Qn ?_)
       refine y67 ((0:Int)<=r_2) rfl (fun ht8=> ?_) (fun ht8=> ?_)
       ·
        replace hP:=hP.2 ht8
        refine Qu (Ze (v:=(.int .i64 ((k_5:Nat):Int))) rfl (Qw (v:=(.int .i64 ((k_5:Nat):Int))) rfl (wpList_nil (Qn (wp_ret (j5a (Bp (Bp (j5a (Bp (ret1 rfl (show ev _ _ _=(.int .i64 ((k_5:Nat):Int)) from rfl) ?_)))))))))))
        exact⟨((k_5:Nat):Int),σ10,rfl,hP,hS48,(Sub.trans hsub9 hsub10)⟩
       ·
        replace hP:=hP.1 ht8
        refine wp_skip (v2q (Qn (j2e (v2p (r:=((k_5+1:Nat):Int)) rfl rfl (nw (by omega) (by omega) (by have:=hlen4;omega)) (Ze (v:=(.int .i64 ((k_5+1:Nat):Int))) rfl (wpList_nil (Qn ?_)))))))
        exact⟨k_5+1,_,rfl,hP,σ10,_,(Zy rfl (Zy rfl (Zy rfl (Zy rfl rfl)))),hS48,(Sub.trans hsub9 hsub10)⟩
     ·
      replace hP:=hP.2 ht5
      refine wp_exit (z7j (z7j (j6y (Qn (Qu (Qw (v:=(.int .i64 (-1:Int))) rfl (wpList_nil (Qn (wp_ret (ret1 rfl (show ev _ _ _=(.int .i64 (-1:Int)) from rfl) ?_))))))))))
      exact⟨(-1:Int),σ9,rfl,hP,hS46,hsub9⟩
    ·
     rintro _ w24 ⟨r_1,σ8,rfl,hY5,hS49,hsub8⟩
     refine⟨_,rfl,?_⟩
     replace hP:=hK4 r_1 hY5
     refine Qw (v:=(.int .i64 r_1)) rfl (wpList_nil (Qn (wp_seq (Qu (Ze (v:=(.int .i64 r_1)) rfl (v43 (r:=(decide (r_1<(0:Int)))) rfl rfl rfl (wpList_nil (Qn ?_))))))))
     refine if_d (r_1<(0:Int)) rfl (fun ht9=> ?_) (fun ht9=> ?_)
     ·
      replace hP:=hP.1 ht9
      refine Qu (Qw (v:=(.slice none 0 0)) rfl (Qw (v:=(.int .i64 (12:Int))) rfl (wpList_nil (Qn (wp_ret (Bp (j5a (Bp (j5a (Bp (ret2 rfl (show ev _ _ _=(.slice none 0 0) from rfl) (show ev _ _ _=(.int .i64 (12:Int)) from rfl) ?_)))))))))))
      have hS50:=hS49.addNil 9 1
      exact⟨[],(12:Int),(.slice none 0 0),rfl,(St.back (hS50.keep 1 (ms':=[vec (.slice none 0 0) 9 1 0 []]) rfl) (Sub.refl _)),(by simp[Sml]),hP⟩
     ·
      replace hP:=hP.2 ht9
      refine wp_skip (Qn (Qu (Ze (v:=v14) rfl (Ze (v:=v13) rfl (Ze (v:=(.int .i64 r_1)) rfl ?_)))))
      obtain⟨j1_,hj1,hP⟩:=hP
      obtain⟨x4_,hx4,hP⟩:=hP
      obtain⟨g2,cp2,hv3⟩:=w2v (hS49.get (i:=0) rfl) (Qf hx4)
      refine Rw (k:=j1_) (a':=⟨g2,j1_*1,none⟩) hv3 rfl hj1 (Qf hx4) Tryz.underlying44 Tryz.sizeOf9 (by simp[Uq]) (q7g (v:=(.string x4_)) rfl Tryz.isAgg9 (j67 q5a (j:=0) hv3 (hS49.get (i:=0) rfl) hx4 rfl) (j54 (cs:=[(.string x4_)]) (e:=9) hS49 (fun _=>by kernel_rfl) ?_))
      intro b8 w25 hS51
      obtain⟨hsm4,hP⟩:=hP
      refine y34 (Ms:=fun v16=>[blk b8 9 [(.string x4_)],vec v13 9 1 left_3.length ((left_3).flatMap Qj),vec v16 9 1 ((out_3++[x4_]).length) ((out_3++[x4_]).flatMap Qj),emap b6 (fun y:Bool=>(Value.bool (y))) F_4,blk b7 268 [(.map (some b6))],blk b3 267 [(.map (some b2))],vec v6 9 1 ((cpt r1_).length) ((cpt r1_).flatMap Qj)]) (k':=(out_3++[x4_]).length) (xs':=(out_3++[x4_]).flatMap Qj) Tryz.underlying44 Tryz.type9 rfl rfl (bytes:=16) rfl rfl (Nat.succ_pos _) hS51 rfl (q:=2) rfl rfl rfl (q95 (hS51.get (i:=0) rfl)) (ones rfl) hsm4 (by omega) (by first|rfl|exact List.length_append.symm|simp) (by simp[Qj]) (fun _=>rfl) ?_
      intro v16 w26 ho12 hS52
      have hS53:=hS52.drop 0 (ms':=[vec v13 9 1 left_3.length ((left_3).flatMap Qj),vec v16 9 1 ((out_3++[x4_]).length) ((out_3++[x4_]).flatMap Qj),emap b6 (fun y:Bool=>(Value.bool (y))) F_4,blk b7 268 [(.map (some b6))],blk b3 267 [(.map (some b2))],vec v6 9 1 ((cpt r1_).length) ((cpt r1_).flatMap Qj)]) rfl
      refine Qw (v:=v16) rfl (wpList_nil (Qn (wp_seq (dr (fun z=>St ⟨w,σ,[]⟩ z σ8 [vec v13 9 1 left_3.length ((left_3).flatMap Qj),vec v16 9 1 ((out_3++[x4_]).length) ((out_3++[x4_]).flatMap Qj),blk b7 268 [(.map (some b6))],blk b3 267 [(.map (some b2))],vec v6 9 1 ((cpt r1_).length) ((cpt r1_).flatMap Qj)]) (by kernel_rfl) rfl ?_))))
      have hS54:=hS53.drew
      refine dt 0 1 (v:=(.map (some b6))) (by kernel_rfl) rfl rfl (fun _ _ _ h=>h) (hS54.sublist (.cons_cons _ (.cons_cons _ (.cons _ (List.Sublist.refl _))))) (fun _ hJ _ hK=>q7g (v:=(.map (some b6))) rfl Tryz.isAgg268 (hJ.cell (i:=2) rfl rfl) ⟨rfl,hK⟩) (dt 1 3 (v:=v13) (by kernel_rfl) rfl rfl (fun _ _ _ h=>h) (hS54.sublist (.cons_cons _ (.cons_cons _ (.cons _ (List.Sublist.refl _))))) (fun _ _ _ hK=>Ze (v:=v13) rfl ⟨rfl,hK⟩) (dt 2 7 (v:=(.int .i64 r_1)) (by kernel_rfl) rfl rfl (fun _ _ _ h=>h) (hS54.sublist (.cons_cons _ (.cons_cons _ (.cons _ (List.Sublist.refl _))))) (fun _ _ _ hK=>Ze (v:=(.int .i64 r_1)) rfl ⟨rfl,hK⟩) ?_))
      obtain⟨j2_,hj2,hP⟩:=hP
      obtain⟨x5_,hx5,hP⟩:=hP
      obtain⟨g3,cp3,hv4⟩:=w2v (hS54.get (i:=0) rfl) (Qf hx5)
      refine dt 3 15 (v:=(.pointer (some ⟨g3,j2_*1,none⟩))) (by kernel_rfl) rfl rfl (fun _ _ _ h=>h) (hS54.sublist (.cons_cons _ (.cons_cons _ (.cons _ (List.Sublist.refl _))))) (fun _ _ _ hK=>Rw (k:=j2_) (a':=⟨g3,j2_*1,none⟩) hv4 rfl hj2 (Qf hx5) Tryz.underlying44 Tryz.sizeOf9 (by simp[Uq]) ⟨rfl,hK⟩) (dt 4 31 (v:=(.string x5_)) (by kernel_rfl) rfl rfl (fun _ _ _ h=>h) (hS54.sublist (.cons_cons _ (.cons_cons _ (.cons _ (List.Sublist.refl _))))) (fun _ hJ _ hK=>q7g (v:=(.string x5_)) rfl Tryz.isAgg9 (j67 q5a (j:=0) hv4 (hJ.get (i:=0) rfl) hx5 rfl) ⟨rfl,hK⟩) (d1 5 63 (by kernel_rfl) rfl (y7e (y0:=true) (i:=2) (ms':=[vec v13 9 1 left_3.length ((left_3).flatMap Qj),vec v16 9 1 ((out_3++[x4_]).length) ((out_3++[x4_]).flatMap Qj),emap b6 (fun y:Bool=>(Value.bool (y))) (put F_4 x5_ true),blk b7 268 [(.map (some b6))],blk b3 267 [(.map (some b2))],vec v6 9 1 ((cpt r1_).length) ((cpt r1_).flatMap Qj)]) hS54 rfl rfl rfl rfl Tryz.underlying268 Tryz.underlying9 rfl ?_)))
      intro w27 hS55
      refine wpList_nil ?_
      refine⟨rfl,(hS55.sublist (.cons_cons _ (.cons_cons _ (.cons _ (List.Sublist.refl _))))),j55 (J':=fun z=>St ⟨w,σ,[]⟩ z σ8 [vec v13 9 1 left_3.length ((left_3).flatMap Qj),vec v16 9 1 ((out_3++[x4_]).length) ((out_3++[x4_]).flatMap Qj),emap b6 (fun y:Bool=>(Value.bool (y))) (put F_4 x5_ true),blk b7 268 [(.map (some b6))],blk b3 267 [(.map (some b2))],vec v6 9 1 ((cpt r1_).length) ((cpt r1_).flatMap Qj)]) (fun w h=>h.sublist (.cons_cons _ (.cons_cons _ (.cons _ (List.Sublist.refl _))))) _ _ _ _ ?_⟩
      refine dz (by kernel_rfl) (Qn (j2e (Ze (v:=v13) rfl (Ze (v:=(.int .i64 r_1)) rfl (Ze (v:=(.int .i64 r_1)) rfl ?_)))))
      obtain⟨hi1,hP⟩:=hP
      refine v2p (r:=(r_1+(1:Int))) rfl rfl (nwi rfl hi1) ?_
      obtain⟨j3_,hj3,hP⟩:=hP
      obtain⟨hd1,hP⟩:=hP
      obtain⟨hd2,hP⟩:=hP
      obtain⟨hsm5,hP⟩:=hP
      have hd3:r_1=((j3_:Nat):Int)/\(r_1+(1:Int))=((j3_+1:Nat):Int):=⟨by omega,by omega⟩
      refine q9b (args:=[v13,(.int .i64 ((j3_:Nat):Int)),(.int .i64 ((j3_+1:Nat):Int))]) (by rw[←hd3.1,←hd3.2];rfl) Tryz.call192 (Calls.mono (v2t (i:=j3_) (j:=(j3_+1)) Tryz.slices_Delete_string hS55.view (hS55.get (i:=0) rfl) (fun b hb=>hS55.off _ (List.mem_of_getElem? (i:=0) rfl) b hb) (by omega) hd2 hd1) ?_)
      rintro _ w28 ⟨v17,rfl,hf2,hg7,ho13⟩
      refine⟨_,rfl,?_⟩
      have ho14:=q1o ho13
      have hS56:=hS55.growV (i:=0) (o':=vec v17 9 1 ((left_3.take j3_++left_3.drop (j3_+1)).length) ((left_3.take j3_++left_3.drop (j3_+1)).flatMap Qj)) rfl hg7 hf2 ho13 (ms':=[vec v17 9 1 ((left_3.take j3_++left_3.drop (j3_+1)).length) ((left_3.take j3_++left_3.drop (j3_+1)).flatMap Qj),vec v16 9 1 ((out_3++[x4_]).length) ((out_3++[x4_]).flatMap Qj),emap b6 (fun y:Bool=>(Value.bool (y))) (put F_4 x5_ true),blk b7 268 [(.map (some b6))],blk b3 267 [(.map (some b2))],vec v6 9 1 ((cpt r1_).length) ((cpt r1_).flatMap Qj)]) rfl
      refine Qw (v:=v17) rfl (wpList_nil (v2q (Qn ?_)))
      exact⟨left_3.take j3_++left_3.drop (j3_+1),out_3++[x4_],put F_4 x5_ true,_,rfl,hP,v17,v16,σ8,_,(Zy rfl (Zy rfl (Zy rfl (Zy rfl rfl)))),hS56,(Sub.trans hsub7 hsub8),ho14,hsm5,ho12,hsm4⟩
   ·
    replace hP:=hP.2 ht4
    refine wp_exit (z7j (z7j (j6y (Qn (Qu (Ze (v:=v14) rfl (Qw (v:=v14) rfl (Qw (v:=(.int .i64 (0:Int))) rfl (wpList_nil (Qn (wp_ret (ret2 rfl (show ev _ _ _=v14 from rfl) (show ev _ _ _=(.int .i64 (0:Int)) from rfl) ?_))))))))))))
    have hS57:=hS45.front 1 rfl (ms':=[vec v14 9 1 out_3.length ((out_3).flatMap Qj),vec v13 9 1 left_3.length ((left_3).flatMap Qj),emap b6 (fun y:Bool=>(Value.bool (y))) F_4,blk b7 268 [(.map (some b6))],blk b3 267 [(.map (some b2))],vec v6 9 1 ((cpt r1_).length) ((cpt r1_).flatMap Qj)]) rfl
    exact⟨out_3,(0:Int),v14,rfl,(St.back (hS57.keep 1 (ms':=[vec v14 9 1 out_3.length ((out_3).flatMap Qj)]) rfl) (Sub.refl _)),hl9,hP⟩
end Go.Proofs.YtfiomedjdipbgaaGreatDoor
end
noncomputable section
set_option maxRecDepth 100000
open Go Go.RowKit Go.Fl Go.Fl.Lk Go.Fx
namespace Go.En
theorem w3t{σ:Hv}{w:World}{g:Nat}{T:C}{n:Nat}{l:List (car T)}(hV:View σ w)(hs:SRep D (fun _=>none) σ (.pointer (some ⟨g,0,none⟩)) (.fap T n l)){i j:Nat}{x:car T}{s:FV Sg}(hx:l[i]? =some x)(hj:(D.shape T x)[j]? =some s)(hz:j<D.size T):
  ∃v,w.cell? ⟨g,i*D.size T+j,none⟩=some v/\RepF D σ v s:=by
 generalize hq:Value.pointer (some (⟨g,0,none⟩:Addr))=q at hs
 cases hs with
 |fap ad cs T' N l' hN h hl hr=>
  cases hq
  have hrow:=hr i x hx
  have hlen:=okP.ok.len T x
  have hjl:j<((cs.drop (i*D.size T)).take (D.size T)).length:=by rw[hrow.1,hlen];exact hz
  obtain⟨v,hv⟩: ∃v,((cs.drop (i*D.size T)).take (D.size T))[j]? =some v:=⟨_,List.getElem?_eq_getElem hjl⟩
  refine⟨v,?_,hrow.2 j v s hv hj⟩
  rw[List.getElem?_take,if_pos hz,List.getElem?_drop] at hv
  have:=hV.cell (h _ v hv)
  rw[Uq,Nat.zero_add] at this
  exact this
theorem y07: ∀c,c<256->v1t[c]? =some ((Go.Lib.firstT c:Nat):Int):=by decide
theorem y76: ∀i,i<16->(j7t[i]?).map (fun a=>(a.lo,a.hi))=some (((Go.Lib.accLo i:Nat):Int),((Go.Lib.accHi i:Nat):Int)):=by decide
theorem tabs{σ:Hv}{w:World}(hV:View σ w)(hG:Glb D σ):Go.Lib.Utf8Tabs (Proofs.Tryz.lays196_ren.g 3) (Proofs.Tryz.lays196_ren.g 4) w:=by
 refine⟨fun c hc=> ?_,fun i hi=> ?_⟩
 ·have h:=hG.known (Proofs.Tryz.lays196_ren.g 3)
  obtain⟨v,h1,h2⟩:=w3t (T:= .u8) (n:=256) (l:=v1t) hV h (i:=c) (j:=0) (s:= .int .u8 ((Go.Lib.firstT c:Nat):Int)) (y07 c hc) rfl (by decide)
  cases h2
  simpa [show D.size C.u8=1 from rfl] using h1
 ·have h:=hG.known (Proofs.Tryz.lays196_ren.g 4)
  have ha:=y76 i hi
  obtain⟨a,e1,e2⟩:=Option.map_eq_some_iff.1 ha
  obtain⟨v,h1,h2⟩:=w3t (T:= .acc) (n:=16) (l:=j7t) hV h (i:=i) (j:=0) (s:= .int .u8 a.lo) e1 rfl (by decide)
  obtain⟨v',h1',h2'⟩:=w3t (T:= .acc) (n:=16) (l:=j7t) hV h (i:=i) (j:=1) (s:= .int .u8 a.hi) e1 rfl (by decide)
  cases h2;cases h2'
  simp only[Prod.mk.injEq] at e2
  rw[e2.1] at h1;rw[e2.2] at h1'
  refine⟨by rw[Nat.mul_comm];simpa [show D.size C.acc=2 from rfl] using h1,by rw[Nat.mul_comm];simpa [show D.size C.acc=2 from rfl] using h1'⟩
theorem w86{w w':World}(h:Below w.heap.size w w'):Keeps [] w w':=⟨h.os,h.tape,h.output,h.size,fun k hk _=>h.block k hk⟩
theorem z1e{σ:Hv}{w w1:World}{args:List (Tr Sg)}{vals:List Value}{K:List (Tr Sg)->List (Tr Sg)->Prop}{rets outs:List (Tr Sg)}{rv:List Value}(hS:St ⟨w,σ,feet []⟩ w σ [])(hK:K rets outs)(hb:Below w.heap.size w w1)(hL:LayL D σ rets rv [])(hT:LayT D σ args outs vals [] []):
  Back D σ w args vals [] K (.returned (retV rv)) w1:=by
 have hk:=w86 hb
 refine⟨rets,outs,rv,σ,[],[],rfl,hK,hL,hT,?_⟩
 refine⟨hk,fun b o hbo=> ?_,Sub.refl _,fun _ _ _=>rfl,by simp,by simp,by simp,by simp⟩
 have h1:=hS.view b o hbo
 have hlt:b<w.heap.size:=by
  rcases Nat.lt_or_ge b w.heap.size with h|h
  ·exact h
  ·rw[Array.getElem?_eq_none h] at h1;cases h1
 rw[hk.block b hlt (by simp)];exact h1
theorem j0u:z1v Proofs.Tryz.prog D 246 (conV ([.v]:LP) ([.str]:LV) ([.bool]:LV) ([.same]:LV) (fun a K=>Jy a.1 (fun q0=>K (q0,()) ((),())))):=by
 intro args K hm w σ vals ins hG hL hS
 obtain⟨a,ha,hm⟩:=Qk hm
 have hargs:=Vx ha
 subst hargs
 obtain⟨s,_⟩:=a
 cases hL with
 |cons hp hr=>
 cases hr
 cases hp with
 |f hf=>
 cases hf
 have hm:s.size<=9223372036854775807/\K [.f (.bool (Go.Lib.validD s.data.toList))] [.same]:=hm
 refine Calls.mono (Go.Proofs.Any.utf8_ValidString Proofs.Tryz.lays196 s w hm.1 (tabs hS.view hG)) ?_
 rintro e w' ⟨rfl,hb⟩
 exact z1e (rv:=[.bool (Go.Lib.validD s.data.toList)]) hS hm.2 hb (.cons (ms:=[]) (.f (.bool _)) .nil) (.skip (a0:=[]) .nil)
theorem j0v:z1v Proofs.Tryz.prog D 136 (conV ([.v,.v]:LP) ([.str,.str]:LV) ([.bool]:LV) ([.same,.same]:LV) (fun a K=>Hq a.1 a.2.1 (fun q0=>K (q0,()) ((),(),())))):=by
 intro args K hm w σ vals ins hG hL hS
 obtain⟨a,ha,hm⟩:=Qk hm
 have hargs:=Vx ha
 subst hargs
 obtain⟨s,t,_⟩:=a
 cases hL with
 |cons hp hr=>
 cases hr with
 |cons hq hr=>
 cases hr
 cases hp with
 |f hf=>
 cases hf
 cases hq with
 |f hf=>
 cases hf
 have hm:s.size<4294967281/\K [.f (.bool (Go.Lib.contains s.data.toList t.data.toList))] [.same,.same]:=hm
 obtain⟨n,hn⟩:=hG.free 3 .i64 rfl
 refine Calls.mono (Proofs.Tryz.strings_Contains s t n w hm.1 (hS.view.cell hn)) ?_
 rintro e w' ⟨rfl,rfl⟩
 exact z1e (rv:=[.bool (Go.Lib.contains s.data.toList t.data.toList)]) hS hm.2 (Below.refl _ _) (.cons (ms:=[]) (.f (.bool _)) .nil) (.skip (a0:=[]) (.skip (a0:=[]) .nil))
theorem w0f:z1v Proofs.Tryz.prog D 270 (conV ([.v]:LP) ([.str]:LV) ([.int .i64,.ifc]:LV) ([.same]:LV) (fun a K=>B3 a.1 (fun q0 q1=>K (q0,q1,()) ((),())))):=by
 intro args K hm w σ vals ins hG hL hS
 obtain⟨a,ha,hm⟩:=Qk hm
 have hargs:=Vx ha
 subst hargs
 obtain⟨s,_⟩:=a
 cases hL with
 |cons hp hr=>
 cases hr
 cases hp with
 |f hf=>
 cases hf
 have hm:s.size<=281474976710656/\y06 s (fun n b=>K [.f (.int .i64 n),.f (.ifc b)] [.same]):=hm
 obtain⟨hsz,hm⟩:=hm
 have err: ∀g:Nat,D.glob g= .fptr [.ifc false] 0-> ∃ev,w.cell? ⟨g,0,none⟩=some ev/\(ev= .nilIface∨ ∃te pe,ev= .iface te pe):=by
  intro g hg
  have h:=hG.known g
  rw[hg] at h
  generalize hq:Value.pointer (some (⟨g,0,none⟩:Addr))=q at h
  cases h with
  |fptr ad cs l off hv hr=>
  cases hq
  obtain⟨v,hvl⟩: ∃v,cs=[v]:=List.length_eq_one_iff.1 hr.1
  subst hvl
  have hc:=hS.view.cell (hv 0 v rfl)
  have hR:=hr.2 0 v _ rfl rfl
  refine⟨v,?_,?_⟩
  ·rw[Uq] at hc;exact hc
  ·cases hR with
   |ifcS t p=>exact .inr ⟨t,p,rfl⟩
 unfold y06 at hm
 split at hm
 ·rename_i v hv
  refine Calls.mono (Proofs.Tryz.strconv_Atoi_ok s (by omega) v hv w) ?_
  rintro e w' ⟨rfl,hw⟩
  have hb:Below w.heap.size w w':=by
   rcases hw with rfl|⟨t,rfl⟩
   ·exact Below.refl _ _
   ·exact Go.Lib.bytesWorld_below _ _ _
  exact z1e (rv:=[.int .i64 v,.nilIface]) hS hm hb (.cons (ms:=[]) (.f (.int _ _)) (.cons (ms:=[]) (.f .ifcN) .nil)) (.skip (a0:=[]) .nil)
 ·rename_i hv
  obtain⟨ev,h1,h2⟩:=err 7 rfl
  refine Calls.mono (Proofs.Tryz.strconv_Atoi_range s hsz hv ev w h1 h2) ?_
  rintro e w' ⟨N,rfl,_,_,hb⟩
  exact z1e (rv:=[.int .i64 _,.iface _ _]) hS hm hb (.cons (ms:=[]) (.f (.int _ _)) (.cons (ms:=[]) (.f (.ifcS _ _)) .nil)) (.skip (a0:=[]) .nil)
 ·rename_i hv
  obtain⟨ev,h1,h2⟩:=err 6 rfl
  refine Calls.mono (Proofs.Tryz.strconv_Atoi_syntax s hsz hv ev w h1 h2) ?_
  rintro e w' ⟨N,rfl,_,_,hb⟩
  exact z1e (rv:=[.int .i64 _,.iface _ _]) hS hm hb (.cons (ms:=[]) (.f (.int _ _)) (.cons (ms:=[]) (.f (.ifcS _ _)) .nil)) (.skip (a0:=[]) .nil)
theorem j6i(l:List ByteArray):l.flatMap Qj=l.map Value.string:=by
 induction l with
 |nil=>rfl
 |cons a l ih=>rw[List.flatMap_cons,List.map_cons,ih];rfl
theorem y77(l:List ByteArray):(cpt l).length<=l.length:=by
 unfold cpt Go.Lib.compact
 rw[List.length_map]
 have h: ∀(d:Array (List UInt8)) (m:Nat),(Go.Lib.compactUpTo d m).length<=m:=by
  intro d m
  unfold Go.Lib.compactUpTo
  rw[List.length_map]
  exact Nat.le_trans (List.length_filter_le _ _) (by simp)
 simpa using h _ _
theorem v68{σ:Hv}{xs:List Value}{l:List ByteArray}(h:Els D σ C.str xs l):xs=l.flatMap Qj:=by
 have h1:xs.length=l.length:=by rw[h.1];exact Nat.mul_one _
 rw[j6i]
 refine List.ext_getElem? fun i=> ?_
 rw[List.getElem?_map]
 rcases Nat.lt_or_ge i l.length with hi|hi
 ·obtain⟨v,hv⟩: ∃v,xs[i]? =some v:=⟨_,List.getElem?_eq_getElem (by omega)⟩
  obtain⟨x,hx⟩: ∃x,l[i]? =some x:=⟨_,List.getElem?_eq_getElem hi⟩
  have hR:=(h.2 i x hx).2 0 v (.str x) (by rw[show D.size C.str=1 from rfl,Nat.mul_one,List.getElem?_take,if_pos (by decide),List.getElem?_drop];exact hv) rfl
  rw[hv,hx]
  cases hR
  rfl
 ·rw[List.getElem?_eq_none (by omega),List.getElem?_eq_none hi];rfl
theorem w3u(σ:Hv)(l:List ByteArray):Els D σ C.str (l.flatMap Qj) l:=by
 rw[j6i]
 refine⟨by rw[List.length_map];exact (Nat.mul_one _).symm,fun i x hx=> ?_⟩
 rw[show D.size C.str=1 from rfl,Nat.mul_one]
 have hx:l[i]? =some x:=hx
 have e:((l.map Value.string).drop i).take 1=[.string x]:=by
  rw[←List.map_drop,List.drop_eq_getElem_cons (List.getElem?_eq_some_iff.1 hx).1,(List.getElem?_eq_some_iff.1 hx).2];rfl
 rw[e]
 refine⟨rfl,fun j v s hj hs=> ?_⟩
 cases j with
 |zero=>cases hj;cases hs;exact .str x
 |succ j=>cases hj
theorem q6n:z1v Proofs.Tryz.prog D 80 (conV ([.own 9 C.str]:LP) ([.vec 9 C.str]:LV) ([]:LV) ([.vec 9 C.str]:LV) (fun a K=>Zh a.1 (fun q0=>K () (q0,())))):=by
 intro args K hm w σ vals ins hG hL hS
 obtain⟨a,ha,hm⟩:=Qk hm
 have hargs:=Vx ha
 subst hargs
 obtain⟨s,_⟩:=a
 cases hL with
 |cons hp hr=>
 cases hr
 cases hp with
 |vec hE hl h1=>
 have hx:=v68 hE
 subst hx
 have hm:K [] [.vec 9 C.str (srt s)]:=hm
 refine Calls.mono (v03 Proofs.Tryz.slices_Sort_string Proofs.Tryz.slices_Sort_string_none hS.view (hS.get (i:=0) rfl) rfl (fun b hb=>hS.off _ (List.mem_of_getElem? (i:=0) rfl) b hb) (by omega)) ?_
 rintro _ w1 ⟨rfl,hg,ho⟩
 have hS1:=hS.growV (i:=0) (o':=vec _ 9 1 s.length ((srt s).flatMap Qj)) rfl hg rfl ho (ms':=[vec _ 9 1 s.length ((srt s).flatMap Qj)]) rfl
 refine⟨[],_,[],σ,[],[vec _ 9 1 (srt s).length ((srt s).flatMap Qj)],rfl,hm,.nil,.keep (.vec (w3u σ _) (Nat.le_trans (Nat.le_of_eq (J8 _)) hl) h1) .nil,?_⟩
 have e:(srt s).length=s.length:=J8 _
 rw[e];exact hS1
theorem q36:z1v Proofs.Tryz.prog D 184 (conV ([.own 9 C.str]:LP) ([.vec 9 C.str]:LV) ([.vec 9 C.str]:LV) ([.same]:LV) (fun a K=>Z5 a.1 (fun q0=>K (q0,()) ((),())))):=by
 intro args K hm w σ vals ins hG hL hS
 obtain⟨a,ha,hm⟩:=Qk hm
 have hargs:=Vx ha
 subst hargs
 obtain⟨s,_⟩:=a
 cases hL with
 |cons hp hr=>
 cases hr
 cases hp with
 |vec hE hl h1=>
 have hx:=v68 hE
 subst hx
 have hm:K [.vec 9 C.str (cpt s)] [.same]:=hm
 refine Calls.mono (j66 Proofs.Tryz.slices_Compact_string Proofs.Tryz.slices_Compact_string_empty hS.view (hS.get (i:=0) rfl) rfl (fun b hb=>hS.off _ (List.mem_of_getElem? (i:=0) rfl) b hb) (by omega)) ?_
 rintro _ w1 ⟨v1,rfl,hf,hg,ho⟩
 have hlc:(cpt s).length<=140737488355328:=Nat.le_trans (y77 _) hl
 have hS1:=hS.growV (i:=0) (o':=vec v1 9 1 (cpt s).length ((cpt s).flatMap Qj)) rfl hg hf ho (ms':=[vec v1 9 1 (cpt s).length ((cpt s).flatMap Qj)]) rfl
 exact⟨[.vec 9 C.str (cpt s)],[.same],[v1],σ,[vec v1 9 1 (cpt s).length ((cpt s).flatMap Qj)],[],rfl,hm,.cons (.vec (w3u σ _) hlc (q1o ho)) .nil,.skip .nil,hS1⟩
theorem y5k{σ:Hv}{v:Value}{l:List ByteArray}(h:RepF D σ v (.sl C.str l)):RSl 1 (REnc Qj) σ v l:=by
 obtain⟨a,cap,e1,e2,e3,e4⟩:=h.toRSl okP.ok
 refine⟨a,cap,e1,e2,e3,fun i x hx=> ?_⟩
 obtain⟨ad,cs,f1,f2,f3,f4⟩:=e4 i x hx
 refine⟨ad,cs,f1,f2,f3,?_⟩
 obtain⟨u,rfl⟩: ∃u,cs=[u]:=List.length_eq_one_iff.1 f2
 have g1:=f4.2 0 u (.str x) rfl rfl
 cases g1
 rfl
theorem y08{σ:Hv}{v:Value}{l:List Edg}(h:RepF D σ v (.sl C.edge l)):RSl 2 (REnc y7g) σ v (l.map fun e=>(e.1,e.2)):=by
 obtain⟨a,cap,e1,e2,e3,e4⟩:=h.toRSl okP.ok
 have hl:(l.map fun e=>(e.1,e.2)).length=l.length:=List.length_map ..
 refine⟨a,cap,by rw[hl];exact e1,by rw[hl];exact e2,by rw[hl];exact e3,fun i x hx=> ?_⟩
 rw[List.getElem?_map] at hx
 obtain⟨y,hy,rfl⟩:=Option.map_eq_some_iff.1 hx
 obtain⟨ad,cs,f1,f2,f3,f4⟩:=e4 i y hy
 refine⟨ad,cs,f1,f2,f3,?_⟩
 obtain⟨u,v,rfl⟩: ∃u v,cs=[u,v]:=by
  match cs,f2 with
  |[u,v],_=>exact⟨u,v,rfl⟩
 have g1:=f4.2 0 u (.str y.src) rfl rfl
 have g2:=f4.2 1 v (.str y.dst) rfl rfl
 cases g1;cases g2
 rfl
theorem w3v:z1v Proofs.Tryz.prog D 139 (conV ([.sl C.str,.sl C.edge]:LP) ([.sl C.str,.sl C.edge]:LV) ([.vec 9 C.str,.int .i64]:LV) ([.same,.same]:LV) (fun a K=>P_graph_Order a.1 a.2.1 (fun q0 q1=>K (q0,q1,()) ((),(),())))):=by
 intro args K hm w σ vals ins hG hL hS
 obtain⟨a,ha,hm⟩:=Qk hm
 have hargs:=Vx ha
 subst hargs
 obtain⟨s,t,_⟩:=a
 cases hL with
 | @cons _ _ v1 _ _ _ hp hr=>
 cases hr with
 | @cons _ _ v2 _ _ _ hq hr=>
 cases hr
 cases hp with
 |f hf1=>
 cases hq with
 |f hf2=>
 have hm:Go.Fl.P_graph_Order s (t.map fun e=>(e.1,e.2)) (fun l n=>K [.vec 9 C.str l,.f (.int .i64 n)] [.same,.same]):=hm
 refine Calls.mono (Go.Proofs.YtfiomedjdipbgaaGreatDoor.w_graph_Order s (t.map fun e=>(e.1,e.2)) v1 v2 hS.view (y5k hf1) (y08 hf2) hm) ?_
 rintro e w1 ⟨l,n,v,rfl,hS1,hsm,hK⟩
 have hl:l.length<=140737488355328:=by unfold Sml at hsm;omega
 exact⟨[.vec 9 C.str l,.f (.int .i64 n)],[.same,.same],[v,.int .i64 n],σ,[vec v 9 1 l.length (l.flatMap Qj)],[],rfl,hK,.cons (.vec (w3u σ _) hl (q1o (hS1.get (i:=0) rfl))) (.cons (ms:=[]) (.f (.int _ _)) .nil),.skip (a0:=[]) (.skip (a0:=[]) .nil),hS1⟩
theorem j77:z1v Proofs.Tryz.prog D 231 (conV ([.v,.v]:LP) ([.str,.str]:LV) ([.vec 9 C.str]:LV) ([.same,.same]:LV) (fun a K=>q2k a.1 a.2.1 (fun q0=>K (q0,()) ((),(),())))):=by
 intro args K hm w σ vals ins hG hL hS
 obtain⟨a,ha,hm⟩:=Qk hm
 have hargs:=Vx ha
 subst hargs
 obtain⟨s,t,_⟩:=a
 cases hL with
 |cons hp hr=>
 cases hr with
 |cons hq hr=>
 cases hr
 cases hp with
 |f hf=>
 cases hf
 cases hq with
 |f hf=>
 cases hf
 have hm:t.size=1/\s.size<4294967281/\K [.vec 9 C.str (q08 s t)] [.same,.same]:=hm
 obtain⟨h1,hsz,hm⟩:=hm
 obtain⟨n,hn⟩:=hG.free 3 .i64 rfl
 have hlen:(q08 s t).length=Go.Lib.countB s t+1:=Go.Lib.splitB_all t (by omega) 0 _ s rfl
 have hcnt:=Go.Lib.countB_le t (by omega) s.size s (Nat.le_refl _)
 refine Calls.mono (Proofs.Tryz.strings_Split s t n w hsz (hS.view.cell hn) (by omega)) ?_
 rintro e w' ⟨rfl,rfl⟩
 have ho:(vec (.slice (some ⟨w.heap.size,0,none⟩) (q08 s t).length (q08 s t).length) 9 1 (q08 s t).length ((q08 s t).flatMap Qj)).ok (w.alloc (.cells ((q08 s t).map Value.string).toArray 9)):=by
  refine⟨by rw[j6i];simp,.inr ⟨w.heap.size,_,_,rfl,Nat.zero_le _,heap_alloc_new _ _,Nat.le_refl _,by unfold maxLen;omega,by simp,?_⟩⟩
  rw[j6i,Nat.mul_one]
  exact List.take_of_length_le (by rw[List.length_map];exact Nat.le_refl _)
 have hS1:=hS.add (Vf w _) ho (by rintro k ⟨⟩;exact Nat.le_refl _)
 have hl:(q08 s t).length<=140737488355328:=by omega
 have hr:=(⟨[.vec 9 C.str (q08 s t)],[.same,.same],[_],σ,[_],[],rfl,hm,.cons (.vec (w3u σ _) hl (q1o ho)) .nil,.skip (a0:=[]) (.skip (a0:=[]) .nil),hS1⟩:Back D σ w [.f (.str s),.f (.str t)] [.string s,.string t] [] K (.returned (retV [.slice (some ⟨w.heap.size,0,none⟩) (q08 s t).length (q08 s t).length])) (w.alloc (.cells ((q08 s t).map Value.string).toArray 9)))
 rw[hlen] at hr
 exact hr
end Go.En
end
noncomputable section
set_option maxRecDepth 100000
open Go Go.RowKit Go.Fl Go.Fl.Lk Go.Fx
namespace Go.En
def q5s(X:W9):Con Sg:=conS [] [.vec 177 C.decl] fun _ K=>X (fun q0=>K (q0,()))
theorem q9j:MT 57 (q5s J3):=mS (l:=[]) trivial (by kernel_rfl) [] fun a K=>by kernel_rfl
def v1u(X:j6f):Con Sg:=conV [.ptr 104 [.c,.v]] [.ptr 104 [.sl C.u8,.int .i64]] [.bool] [.ptr 104 [.same,.int .i64]] fun a K=>X a.1.1 a.1.2.1 (fun q0 q1=>K (q0,()) (((),q1,()),()))
theorem y09:MT 86 (v1u j6g):=mP (rk:=[.v]) (l:=[]) trivial (by kernel_rfl) [] fun a K=>by kernel_rfl
def W2(X:Zf):Con Sg:=conV [.ptr 104 [.c,.v],.v] [.ptr 104 [.sl C.u8,.int .i64],.int .i64] [.int .i64] [.ptr 104 [.same,.int .i64],.same] fun a K=>X a.1.1 a.1.2.1 a.2.1 (fun q0 q1=>K (q0,()) (((),q1,()),(),()))
theorem y1a(j6s:j6f)(h:AL [(86,v1u j6s)]):MT 49 (W2 (w3k j6s)):=mP (rk:=[.v]) h (by kernel_rfl) [] fun a K=>by kernel_rfl
theorem Ur:MT 49 (W2 Zb):=y1a j6g ⟨y09,trivial⟩
def z6v(X:q1r):Con Sg:=conV [.ptr 104 [.c,.v]] [.ptr 104 [.sl C.u8,.int .i64]] [.str] [.ptr 104 [.same,.int .i64]] fun a K=>X a.1.1 a.1.2.1 (fun q0 q1=>K (q0,()) (((),q1,()),()))
theorem y1b(Qb:Zf)(h:AL [(49,W2 Qb)]):MT 58 (z6v (w3l Qb)):=mP (rk:=[.v]) h (by kernel_rfl) [] fun a K=>by kernel_rfl
theorem j6j:MT 58 (z6v q1s):=y1b Zb ⟨Ur,trivial⟩
def z6w(X:q1t):Con Sg:=conV [.ptr 104 [.c,.v],.v] [.ptr 104 [.sl C.u8,.int .i64],.int .i64] [.int .i64] [.ptr 104 [.same,.int .i64],.same] fun a K=>X a.1.1 a.1.2.1 a.2.1 (fun q0 q1=>K (q0,()) (((),q1,()),(),()))
theorem y1c(Qb:Zf)(h:AL [(49,W2 Qb)]):MT 51 (z6w (w3m Qb)):=mP (rk:=[.v]) h (by kernel_rfl) [] fun a K=>by kernel_rfl
theorem j6k:MT 51 (z6w q1u):=y1c Zb ⟨Ur,trivial⟩
def w3w(X:z6l):Con Sg:=conS [.int .i64,.vec 9 C.str] [.sl C.str] fun a K=>X a.1 a.2.1 (fun q0=>K (q0,()))
theorem v1v:MT 60 (w3w z6m):=mS (l:=[]) trivial (by kernel_rfl) [] fun a K=>by kernel_rfl
def j6l(X:z1x):Con Sg:=conV [.ptr 104 [.c,.v]] [.ptr 104 [.sl C.u8,.int .i64]] [.vec 9 C.str] [.ptr 104 [.same,.int .i64]] fun a K=>X a.1.1 a.1.2.1 (fun q0 q1=>K (q0,()) (((),q1,()),()))
theorem y1d(Qb:Zf)(h:AL [(49,W2 Qb)]):MT 112 (j6l (w3n Qb)):=mP (rk:=[.own 9 C.str]) h (by kernel_rfl) [(9,⟨bl 397,[],[(0,(104,2))],[(.slot 4,.own 9 C.str),sI 5,(.cell 0 1,.int .i64)]⟩),(17,⟨bl 8121,[0],[],[sI 6,(.obj 1,.own 9 C.str)]⟩)] fun a K=>by kernel_rfl
theorem v1w:MT 112 (j6l z1y):=y1d Zb ⟨Ur,trivial⟩
def w3x(X:z8i):Con Sg:=conV [.ptr 104 [.c,.v]] [.ptr 104 [.sl C.u8,.int .i64]] [.str] [.ptr 104 [.same,.int .i64]] fun a K=>X a.1.1 a.1.2.1 (fun q0 q1=>K (q0,()) (((),q1,()),()))
theorem y5l(Qb:Zf)(h:AL [(49,W2 Qb)]):MT 108 (w3x (w83 Qb)):=mP (rk:=[.v]) h (by kernel_rfl) [] fun a K=>by kernel_rfl
theorem v69:MT 108 (w3x z8j):=y5l Zb ⟨Ur,trivial⟩
def z49(X:q1v):Con Sg:=conV [.ptr 104 [.c,.v],.v] [.ptr 104 [.sl C.u8,.int .i64],.int .i64] [.el C.val] [.ptr 104 [.same,.int .i64],.same] fun a K=>X a.1.1 a.1.2.1 a.2.1 (fun q0 q1=>K (q0,()) (((),q1,()),(),()))
theorem v7a(Qb:Zf)(Wo:q1r)(h:AL [(49,W2 Qb),(58,z6v Wo)]):MT 109 (z49 (j0e Qb Wo)):=mP (rk:=[.el C.val]) h (by kernel_rfl) [] fun a K=>by kernel_rfl
theorem j78:MT 109 (z49 Uu):=v7a Zb q1s ⟨Ur,j6j,trivial⟩
def j6m(X:j0f):Con Sg:=conV [.ptr 104 [.c,.v]] [.ptr 104 [.sl C.u8,.int .i64]] [.el C.ex] [.ptr 104 [.same,.int .i64]] fun a K=>X a.1.1 a.1.2.1 (fun q0 q1=>K (q0,()) (((),q1,()),()))
theorem y1e(Q3:W9)(Qb:Zf)(z3e:z8i)(Jf:q1v)(h:AL [(57,q5s Q3),(49,W2 Qb),(108,w3x z3e),(109,z49 Jf)]):MT 165 (j6m (w3o Q3 Qb z3e Jf)):=mP (rk:=[.el C.ex]) h (by kernel_rfl) [(68,⟨bl 4286840701,[3,2],[(5,(66,5)),(0,(104,2)),(1,(66,5))],[(.cell 5 0,.int .i64),(.cell 5 1,.str),(.cell 5 2,.str),(.cell 5 3,.own 115 C.val),(.cell 5 4,.own 66 C.ex),(.cell 0 1,.int .i64),(.cell 1 0,.int .i64),(.cell 1 1,.str),(.cell 1 2,.str),(.cell 1 3,.own 115 C.val),(.cell 1 4,.own 66 C.ex)]⟩),(60,⟨bl 17163319925,[],[(0,(104,2)),(5,(66,5)),(1,(66,5))],[(.cell 0 1,.int .i64),(.cell 5 0,.int .i64),(.cell 5 1,.str),(.cell 5 2,.str),(.cell 5 3,.own 115 C.val),(.cell 5 4,.own 66 C.ex),(.cell 1 0,.int .i64),(.cell 1 1,.str),(.cell 1 2,.str),(.cell 1 3,.own 115 C.val),(.cell 1 4,.own 66 C.ex)]⟩),(37,⟨bl 1055806024022645,[1],[(5,(66,5)),(0,(104,2))],[sI 7,(.cell 5 3,.own 115 C.val),(.cell 0 1,.int .i64)]⟩)] fun a K=>by kernel_rfl
theorem y1f:MT 165 (j6m z6n):=y1e J3 Zb z8j Uu ⟨q9j,Ur,v69,j78,trivial⟩
def j6n(X:q4n):Con Sg:=conV [.ptr 104 [.c,.v],.sl C.str,.v] [.ptr 104 [.sl C.u8,.int .i64],.sl C.str,.int .i64] [.el C.ex] [.ptr 104 [.same,.int .i64],.same,.same] fun a K=>X a.1.1 a.1.2.1 a.2.1 a.2.2.1 (fun q0 q1=>K (q0,()) (((),q1,()),(),(),()))
def w6q:PT:=Q5 ([(8,⟨bl 24647,[0,1],[],[sI 7]⟩),(28,⟨bl 3298996281543,[0,1],[],[sB 49]⟩),(37,⟨bl 1148984153929181127,[1],[(0,(104,2)),(4,(66,5))],[sI 11,(.cell 0 1,.int .i64),(.cell 4 0,.int .i64),(.cell 4 1,.str),(.cell 4 2,.str),(.cell 4 3,.own 115 C.val),(.cell 4 4,.own 66 C.ex)]⟩),(46,⟨bl 1152917567256169316295,[0,12,11,4],[(13,(66,5))],[(.cell 13 0,.int .i64),(.cell 13 1,.str),(.cell 13 2,.str),(.cell 13 3,.sl C.val),(.cell 13 4,.sl C.ex)]⟩)]:LS)
theorem v3h(Qb:Zf)(j10:j0f)(X:q4n)(list:List (Int))(at_:Int)(segments:List (ByteArray))(levels:Int)(K:Ex->Int->Prop):j6h Qb j10 X list at_ segments levels K=fnV (((WL [(49,W2 Qb),(165,j6m j10)]).with 113 (j6n X)).pl w6q) 4 113 ([.ptr 104 [.c,.v],.sl C.str,.v]:LP) ([.el C.ex]:LP) ([.ptr 104 [.sl C.u8,.int .i64],.sl C.str,.int .i64]:LV) ([.el C.ex]:LV) ([.ptr 104 [.same,.int .i64],.same,.same]:LV) ((list,at_,()),segments,levels,()) (fun r o=>K r.1 o.1.2.1):=by kernel_rfl
theorem v1x:MT 113 (j6n z1z):=by
 show MT _ (conV ([.ptr 104 [.c,.v],.sl C.str,.v]:LP) ([.ptr 104 [.sl C.u8,.int .i64],.sl C.str,.int .i64]:LV) ([.el C.ex]:LV) ([.ptr 104 [.same,.int .i64],.same,.same]:LV) fun a K=>z1z a.1.1 a.1.2.1 a.2.1 a.2.2.1 (fun q0 q1=>K (q0,()) (((),q1,()),(),(),())))
 refine mR (l:=[(49,W2 Zb),(165,j6m z6n)]) (u:=4) (rk:=[.el C.ex]) (p:=w6q) ⟨Ur,y1f,trivial⟩ (by kernel_rfl) fun a K h X hX=> ?_
 exact h (fun list at_ segments levels K=>X ((list,at_,()),segments,levels,()) fun r o=>K r.1 o.1.2.1) (fun list at_ segments levels K hs=>hX ((list,at_,()),segments,levels,()) (fun r o=>K r.1 o.1.2.1) (Eq.mp (v3h Zb z6n (fun list at_ segments levels K=>X ((list,at_,()),segments,levels,()) fun r o=>K r.1 o.1.2.1) list at_ segments levels K) hs))
def z5a(X:q5c):Con Sg:=conV [.ptr 104 [.c,.v],.ptr 36 [.v,.v,.v,.sl C.decl,.own 147 C.seg,.own 122 C.flag,.own 59 C.layer,.own 68 C.exper]] [.ptr 104 [.sl C.u8,.int .i64],.ptr 36 [.str,.str,.int .i64,.sl C.decl,.vec 147 C.seg,.vec 122 C.flag,.vec 59 C.layer,.vec 68 C.exper]] [] [.ptr 104 [.same,.int .i64],.ptr 36 [.str,.str,.int .i64,.sl C.decl,.vec 147 C.seg,.vec 122 C.flag,.vec 59 C.layer,.vec 68 C.exper]] fun a K=>X a.1.1 a.1.2.1 a.2.1.1 a.2.1.2.1 a.2.1.2.2.1 a.2.1.2.2.2.1 a.2.1.2.2.2.2.1 a.2.1.2.2.2.2.2.1 a.2.1.2.2.2.2.2.2.1 a.2.1.2.2.2.2.2.2.2.1 (fun q0 q1 q2 q3 q4 q5 q6 q7 q8=>K () (((),q0,()),(q1,q2,q3,q4,q5,q6,q7,q8,()),()))
theorem w6r(Qb:Zf)(q3c:z6l)(q40:z1x)(q41:q4n)(h:AL [(49,W2 Qb),(60,w3w q3c),(112,j6l q40),(113,j6n q41)]):MT 59 (z5a (z4f Qb q3c q40 q41)):=mP (rk:=[]) h (by kernel_rfl) [(5,⟨bl 1427,[3,4,5],[(0,(104,2)),(1,(36,8))],[sI 5,(.cell 0 1,.int .i64),(.cell 1 4,.own 147 C.seg)]⟩),(14,⟨bl 67010035,[11,10,9,1],[(12,(147,9)),(0,(104,2))],[(.cell 12 1,.str),(.cell 0 1,.int .i64)]⟩),(18,⟨bl 67010035,[11,10,9,1],[(12,(147,9)),(0,(104,2))],[(.cell 12 4,.int .i64),(.cell 12 5,.str),(.cell 12 6,.str),(.cell 12 7,.sl C.val),(.cell 12 8,.sl C.ex),(.cell 0 1,.int .i64)]⟩)] fun a K=>by kernel_rfl
theorem w6s:MT 59 (z5a q5d):=w6r Zb z6m z1y z1z ⟨Ur,v1v,v1w,v1x,trivial⟩
def z5b(X:q1w):Con Sg:=conS [.el C.env] [.vec 9 C.str] fun a K=>X a.1 (fun q0=>K (q0,()))
theorem j79:MT 114 (z5b H1):=mS (l:=[]) trivial (by kernel_rfl) [(7,⟨[0,1,2],[0],[],[(.slot 3,.own 9 C.str),sI 4]⟩)] fun a K=>by kernel_rfl
def j0w(X:q7o):Con Sg:=conV [.ptr 104 [.c,.v],.v] [.ptr 104 [.sl C.u8,.int .i64],.int .i64] [.vec 70 C.range] [.ptr 104 [.same,.int .i64],.same] fun a K=>X a.1.1 a.1.2.1 a.2.1 (fun q0 q1=>K (q0,()) (((),q1,()),(),()))
theorem v7b(Qb:Zf)(Jt:q1t)(h:AL [(49,W2 Qb),(51,z6w Jt)]):MT 117 (j0w (j7u Qb Jt)):=mP (rk:=[.own 70 C.range]) h (by kernel_rfl) [(26,⟨[0,1,4],[],[(0,(104,2))],[(.slot 5,.own 70 C.range),sI 6,sI 7,(.cell 0 1,.int .i64)]⟩),(32,⟨bl 8444249301319923,[0,1],[],[sI 11]⟩),(9,⟨[0,1,4],[],[(0,(104,2))],[(.slot 5,.own 70 C.range),sI 6,sI 7,sI 8,(.cell 0 1,.int .i64)]⟩),(20,⟨bl 2144334835,[0,1],[],[sI 10]⟩)] fun _ _=>by kernel_rfl
theorem w6t:MT 117 (j0w q7p):=v7b Zb q1u ⟨Ur,j6k,trivial⟩
end Go.En
end
noncomputable section
set_option maxRecDepth 100000
open Go Go.RowKit Go.Fl Go.Fl.Lk Go.Fx
namespace Go.En
def j8a(X:z4g):Con Sg:=conV [.ptr 104 [.c,.v],.v] [.ptr 104 [.sl C.u8,.int .i64],.int .i64] [.el C.serve] [.ptr 104 [.same,.int .i64],.same] fun a K=>X a.1.1 a.1.2.1 a.2.1 (fun q0 q1=>K (q0,()) (((),q1,()),(),()))
theorem v7c(Qb:Zf)(Wo:q1r)(q3d:q7o)(Q3:W9)(h:AL [(49,W2 Qb),(58,z6v Wo),(117,j0w q3d),(57,q5s Q3)]):MT 115 (j8a (j7v Qb Wo q3d Q3)):=mP (rk:=[.el C.serve]) h (by kernel_rfl) [] fun a K=>by kernel_rfl
theorem v7d:MT 115 (j8a z4h):=v7c Zb q1s q7p J3 ⟨Ur,j6j,w6t,q9j,trivial⟩
def w6u(X:j0g):Con Sg:=conV [] [] [.ptr 248 [.vec 318 C.node,.map C.node C.i64,.bool]] [] fun _ K=>X (fun q0 q1 q2=>K ((q0,q1,q2,()),()) ())
theorem v7e:MT 166 (w6u j7w):=mP (rk:=[.ptr 248 [.own 318 C.node,.map C.node C.i64,.v]]) (l:=[]) trivial (by kernel_rfl) [] fun a K=>by kernel_rfl
def q00(X:Vg):Con Sg:=conS [.int .i64] [.bool] fun a K=>X a.1 (fun q0=>K (q0,()))
theorem z2j:MT 143 (q00 Jm):=mS (l:=[]) trivial (by kernel_rfl) [] fun a K=>by kernel_rfl
def w6v(X:j0h):Con Sg:=conS [.sl C.str,.sl C.str] [.bool] fun a K=>X a.1 a.2.1 (fun q0=>K (q0,()))
theorem v7f:MT 204 (w6v z4i):=mS (l:=[]) trivial (by kernel_rfl) [(9,⟨bl 1987,[],[],[sI 5]⟩)] fun a K=>by kernel_rfl
def j3b(X:q69):Con Sg:=conS [.el C.val,.el C.val] [.bool] fun a K=>X a.1 a.2.1 (fun q0=>K (q0,()))
theorem v3i(j11:j0h)(h:AL [(204,w6v j11)]):MT 144 (j3b (j2w j11)):=mS h (by kernel_rfl) [] fun a K=>by kernel_rfl
theorem v3j:MT 144 (j3b q3s):=v3i z4i ⟨v7f,trivial⟩
def q2v(X:H2):Con Sg:=conS [.sl C.val,.sl C.val] [.bool] fun a K=>X a.1 a.2.1 (fun q0=>K (q0,()))
theorem j8b(q1j:q69)(h:AL [(144,j3b q1j)]):MT 278 (q2v (q7q q1j)):=mS h (by kernel_rfl) [(9,⟨bl 1987,[],[],[sI 5]⟩)] fun a K=>by kernel_rfl
theorem j8c:MT 278 (q2v Uv):=j8b q3s ⟨v3j,trivial⟩
def z2k(X:Vy):Con Sg:=conV [.el C.ex,.el C.ex] [.el C.ex,.el C.ex] [.bool] [.same,.same] fun a K=>X a.1 a.2.1 (fun q0=>K (q0,()) ((),(),()))
def z7s:PT:=Q5 ([(280000009,⟨bl 1987,[],[],[sI 5]⟩)]:LS)
theorem j8d(q3e:H2)(X:Vy)(a:Ex)(b:Ex)(K:Bool->Prop):z10 q3e X a b K=fnV (((WL [(278,q2v q3e)]).with 259 (z2k X)).pl z7s) 4 259 ([.el C.ex,.el C.ex]:LP) ([.v]:LP) ([.el C.ex,.el C.ex]:LV) ([.bool]:LV) ([.same,.same]:LV) (a,b,()) (fun r _=>K r.1):=by kernel_rfl
theorem w3y:MT 259 (z2k R1):=by
 show MT _ (conV ([.el C.ex,.el C.ex]:LP) ([.el C.ex,.el C.ex]:LV) ([.bool]:LV) ([.same,.same]:LV) fun a K=>R1 a.1 a.2.1 (fun q0=>K (q0,()) ((),(),())))
 refine mR (l:=[(278,q2v Uv)]) (u:=4) (rk:=[.v]) (p:=z7s) ⟨j8c,trivial⟩ (by kernel_rfl) fun a K h X hX=> ?_
 exact h (fun a b K=>X (a,b,()) fun r _=>K r.1) (fun a b K hs=>hX (a,b,()) (fun r _=>K r.1) (Eq.mp (j8d Uv (fun a b K=>X (a,b,()) fun r _=>K r.1) a b K) hs))
def q37(X:q0k):Con Sg:=conS [.sl C.ex,.el C.ex] [.int .i64] fun a K=>X a.1 a.2.1 (fun q0=>K (q0,()))
theorem w87(q6t:Vy)(h:AL [(259,z2k q6t)]):MT 221 (q37 (z8k q6t)):=mS h (by kernel_rfl) [(5,⟨[0,1,3],[0],[],[sI 5]⟩)] fun a K=>by kernel_rfl
theorem j8e:MT 221 (q37 Ul):=w87 R1 ⟨w3y,trivial⟩
def z0f(X:Va):Con Sg:=conV [.sl C.ex,.el C.ex] [.sl C.ex,.el C.ex] [.sl C.ex] [.same,.same] fun a K=>X a.1 a.2.1 (fun q0=>K (q0,()) ((),(),()))
def z5c:PT:=Q5 ([(6,⟨[1,3,4],[0],[],[(.slot 0,.sl C.ex)]⟩),(9,⟨[1,3,4],[0],[],[(.slot 0,.sl C.ex),sI 5]⟩)]:LS)
theorem j5e(Uo:q0k)(Q2:Vg)(X:Va)(l:List (Ex))(e:Ex)(K:List (Ex)->Prop):q97 Uo Q2 X l e K=fnV (((WL [(221,q37 Uo),(143,q00 Q2)]).with 218 (z0f X)).pl z5c) 4 218 ([.sl C.ex,.el C.ex]:LP) ([.sl C.ex]:LP) ([.sl C.ex,.el C.ex]:LV) ([.sl C.ex]:LV) ([.same,.same]:LV) (l,e,()) (fun r _=>K r.1):=by kernel_rfl
theorem w0g:MT 218 (z0f Bx):=by
 show MT _ (conV ([.sl C.ex,.el C.ex]:LP) ([.sl C.ex,.el C.ex]:LV) ([.sl C.ex]:LV) ([.same,.same]:LV) fun a K=>Bx a.1 a.2.1 (fun q0=>K (q0,()) ((),(),())))
 refine mR (l:=[(221,q37 Ul),(143,q00 Jm)]) (u:=4) (rk:=[.sl C.ex]) (p:=z5c) ⟨j8e,z2j,trivial⟩ (by kernel_rfl) fun a K h X hX=> ?_
 exact h (fun l e K=>X (l,e,()) fun r _=>K r.1) (fun l e K hs=>hX (l,e,()) (fun r _=>K r.1) (Eq.mp (j5e Ul Jm (fun l e K=>X (l,e,()) fun r _=>K r.1) l e K) hs))
def q8n(X:H3):Con Sg:=conS [.sl C.rule] [.sl C.ex] fun a K=>X a.1 (fun q0=>K (q0,()))
theorem j8f(q42:Va)(h:AL [(218,z0f q42)]):MT 167 (q8n (q7r q42)):=mS h (by kernel_rfl) [(7,⟨[0,2],[],[],[(.slot 3,.sl C.ex),sI 4]⟩)] fun a K=>by kernel_rfl
theorem j8g:MT 167 (q8n H4):=j8f Bx ⟨w0g,trivial⟩
def q2w(X:We):Con Sg:=conV [.ptr 248 [.own 318 C.node,.map C.node C.i64,.v],.v] [.ptr 248 [.vec 318 C.node,.map C.node C.i64,.bool],.int .i64] [.bool] [.ptr 248 [.vec 318 C.node,.map C.node C.i64,.bool],.same] fun a K=>X a.1.1 a.1.2.1 a.1.2.2.1 a.2.1 (fun q0 q1 q2 q3=>K (q0,()) ((q1,q2,q3,()),(),()))
theorem q6o:MT 260 (q2w Jx):=mP (rk:=[.v]) (l:=[]) trivial (by kernel_rfl) [] fun a K=>by kernel_rfl
def z3r(X:B9):Con Sg:=conV [.ptr 248 [.own 318 C.node,.map C.node C.i64,.v],.v] [.ptr 248 [.vec 318 C.node,.map C.node C.i64,.bool],.int .i64] [.map C.i64 C.bool] [.ptr 248 [.vec 318 C.node,.map C.node C.i64,.bool],.same] fun a K=>X a.1.1 a.1.2.1 a.1.2.2.1 a.2.1 (fun q0 q1 q2 q3=>K (q0,()) ((q1,q2,q3,()),(),()))
theorem j5f:MT 280 (z3r G4):=mP (rk:=[.map C.i64 C.bool]) (l:=[]) trivial (by kernel_rfl) [(7,⟨bl 1843,[0,1,2],[],[(.slot 6,.own 3 C.i64),(.obj 3,.map C.i64 C.bool)]⟩)] fun a K=>by kernel_rfl
def q38(X:Uw):Con Sg:=conV [.ptr 248 [.own 318 C.node,.map C.node C.i64,.v],.v] [.ptr 248 [.vec 318 C.node,.map C.node C.i64,.bool],.int .i64] [.vec 3 C.i64] [.ptr 248 [.vec 318 C.node,.map C.node C.i64,.bool],.same] fun a K=>X a.1.1 a.1.2.1 a.1.2.2.1 a.2.1 (fun q0 q1 q2 q3=>K (q0,()) ((q1,q2,q3,()),(),()))
theorem j3c(Qx:We)(q0e:B9)(h:AL [(260,q2w Qx),(280,z3r q0e)]):MT 262 (q38 (z0s Qx q0e)):=mP (rk:=[.own 3 C.i64]) h (by kernel_rfl) [(13,⟨bl 32563,[5,0,4,2],[],[(.slot 6,.own 3 C.i64),sI 7]⟩)] fun a K=>by kernel_rfl
theorem j3d:MT 262 (q38 Ux):=j3c Jx G4 ⟨q6o,j5f,trivial⟩
def Wx(X:Zl):Con Sg:=conV [.ptr 248 [.own 318 C.node,.map C.node C.i64,.v],.v] [.ptr 248 [.vec 318 C.node,.map C.node C.i64,.bool],.int .i64] [.bool] [.ptr 248 [.vec 318 C.node,.map C.node C.i64,.bool],.same] fun a K=>X a.1.1 a.1.2.1 a.1.2.2.1 a.2.1 (fun q0 q1 q2 q3=>K (q0,()) ((q1,q2,q3,()),(),()))
theorem z7f(Qx:We)(Be:Uw)(h:AL [(260,q2w Qx),(262,q38 Be)]):MT 223 (Wx (q6d Qx Be)):=mP (rk:=[.v]) h (by kernel_rfl) [(11,⟨bl 16291,[5,0,4,2],[],[sI 6]⟩)] fun _ _=>by kernel_rfl
theorem Br:MT 223 (Wx Zm):=z7f Jx Ux ⟨q6o,j3d,trivial⟩
end Go.En
end
noncomputable section
set_option maxRecDepth 100000
open Go Go.RowKit Go.Fl Go.Fl.Lk Go.Fx
namespace Go.En
def B4(X:Vb):Con Sg:=conV [.ptr 248 [.own 318 C.node,.map C.node C.i64,.v],.v] [.ptr 248 [.vec 318 C.node,.map C.node C.i64,.bool],.int .i64] [.int .i64] [.ptr 248 [.vec 318 C.node,.map C.node C.i64,.bool],.same] fun a K=>X a.1.1 a.1.2.1 a.1.2.2.1 a.2.1 (fun q0 q1 q2 q3=>K (q0,()) ((q1,q2,q3,()),(),()))
theorem z0g:MT 261 (B4 Jd):=mP (rk:=[.v]) (l:=[]) trivial (by kernel_rfl) [] fun a K=>by kernel_rfl
def q0c(X:G5):Con Sg:=conV [.ptr 248 [.own 318 C.node,.map C.node C.i64,.v],.v,.v] [.ptr 248 [.vec 318 C.node,.map C.node C.i64,.bool],.int .i64,.int .i64] [.int .i64,.int .i64] [.ptr 248 [.vec 318 C.node,.map C.node C.i64,.bool],.same,.same] fun a K=>X a.1.1 a.1.2.1 a.1.2.2.1 a.2.1 a.2.2.1 (fun q0 q1 q2 q3 q4=>K (q0,q1,()) ((q2,q3,q4,()),(),(),()))
theorem j5g(Q8:Vb)(h:AL [(261,B4 Q8)]):MT 281 (q0c (z3q Q8)):=mP (rk:=[.v,.v]) h (by kernel_rfl) [] fun a K=>by kernel_rfl
theorem j5h:MT 281 (q0c Wr):=j5g Jd ⟨z0g,trivial⟩
def Ga(X:Vh):Con Sg:=conV [.ptr 248 [.own 318 C.node,.map C.node C.i64,.v],.v,.v,.v] [.ptr 248 [.vec 318 C.node,.map C.node C.i64,.bool],.int .i64,.int .i64,.int .i64] [.int .i64] [.ptr 248 [.vec 318 C.node,.map C.node C.i64,.bool],.same,.same,.same] fun a K=>X a.1.1 a.1.2.1 a.1.2.2.1 a.2.1 a.2.2.1 a.2.2.2.1 (fun q0 q1 q2 q3=>K (q0,()) ((q1,q2,q3,()),(),(),(),()))
theorem j8h(Qx:We)(Q8:Vb)(h:AL [(260,q2w Qx),(261,B4 Q8)]):MT 222 (Ga (z4j Qx Q8)):=mP (rk:=[.v]) h (by kernel_rfl) [] fun a K=>by kernel_rfl
theorem z5d:MT 222 (Ga Je):=j8h Jx Jd ⟨q6o,z0g,trivial⟩
def q39(X:Jp):Con Sg:=conV [.ptr 248 [.own 318 C.node,.map C.node C.i64,.v],.v,.v,.v,.map C.a3 C.i64] [.ptr 248 [.vec 318 C.node,.map C.node C.i64,.bool],.int .i64,.int .i64,.int .i64,.map C.a3 C.i64] [.int .i64] [.ptr 248 [.vec 318 C.node,.map C.node C.i64,.bool],.same,.same,.same,.map C.a3 C.i64] fun a K=>X a.1.1 a.1.2.1 a.1.2.2.1 a.2.1 a.2.2.1 a.2.2.2.1 a.2.2.2.2.1 (fun q0 q1 q2 q3 q4=>K (q0,()) ((q1,q2,q3,()),(),(),(),q4,()))
def q9k:PT:=Q5 ([(36,⟨bl 4951760157141239551596952607,[3,4],[(0,(248,3))],[sI 23,(.cell 0 0,.own 318 C.node),(.cell 0 2,.bool),(.obj 2,.map C.node C.i64)]⟩)]:LS)
theorem z84(Q8:Vb)(Vu:G5)(J1:Vh)(X:Jp)(ns:List (Nd))(ids:(Nd->Option (Int)))(full:Bool)(f:Int)(g:Int)(h:Int)(known:(A3->Option (Int)))(K:Int->List (Nd)->(Nd->Option (Int))->Bool->(A3->Option (Int))->Prop):Uy Q8 Vu J1 X ns ids full f g h known K=fnV (((WL [(261,B4 Q8),(281,q0c Vu),(222,Ga J1)]).with 263 (q39 X)).pl q9k) 4 263 ([.ptr 248 [.own 318 C.node,.map C.node C.i64,.v],.v,.v,.v,.map C.a3 C.i64]:LP) ([.v]:LP) ([.ptr 248 [.vec 318 C.node,.map C.node C.i64,.bool],.int .i64,.int .i64,.int .i64,.map C.a3 C.i64]:LV) ([.int .i64]:LV) ([.ptr 248 [.vec 318 C.node,.map C.node C.i64,.bool],.same,.same,.same,.map C.a3 C.i64]:LV) ((ns,ids,full,()),f,g,h,known,()) (fun r o=>K r.1 o.1.1 o.1.2.1 o.1.2.2.1 o.2.2.2.2.1):=by kernel_rfl
theorem j3e:MT 263 (q39 Uz):=by
 show MT _ (conV ([.ptr 248 [.own 318 C.node,.map C.node C.i64,.v],.v,.v,.v,.map C.a3 C.i64]:LP) ([.ptr 248 [.vec 318 C.node,.map C.node C.i64,.bool],.int .i64,.int .i64,.int .i64,.map C.a3 C.i64]:LV) ([.int .i64]:LV) ([.ptr 248 [.vec 318 C.node,.map C.node C.i64,.bool],.same,.same,.same,.map C.a3 C.i64]:LV) fun a K=>Uz a.1.1 a.1.2.1 a.1.2.2.1 a.2.1 a.2.2.1 a.2.2.2.1 a.2.2.2.2.1 (fun q0 q1 q2 q3 q4=>K (q0,()) ((q1,q2,q3,()),(),(),(),q4,())))
 refine mR (l:=[(261,B4 Jd),(281,q0c Wr),(222,Ga Je)]) (u:=4) (rk:=[.v]) (p:=q9k) ⟨z0g,j5h,z5d,trivial⟩ (by kernel_rfl) fun a K h X hX=> ?_
 exact h (fun ns ids full f g h known K=>X ((ns,ids,full,()),f,g,h,known,()) fun r o=>K r.1 o.1.1 o.1.2.1 o.1.2.2.1 o.2.2.2.2.1) (fun ns ids full f g h known K hs=>hX ((ns,ids,full,()),f,g,h,known,()) (fun r o=>K r.1 o.1.1 o.1.2.1 o.1.2.2.1 o.2.2.2.2.1) (Eq.mp (z84 Jd Wr Je (fun ns ids full f g h known K=>X ((ns,ids,full,()),f,g,h,known,()) fun r o=>K r.1 o.1.1 o.1.2.1 o.1.2.2.1 o.2.2.2.2.1) ns ids full f g h known K) hs))
def Gb(X:Z2):Con Sg:=conV [.ptr 248 [.own 318 C.node,.map C.node C.i64,.v],.v,.v,.v] [.ptr 248 [.vec 318 C.node,.map C.node C.i64,.bool],.int .i64,.int .i64,.int .i64] [.int .i64] [.ptr 248 [.vec 318 C.node,.map C.node C.i64,.bool],.same,.same,.same] fun a K=>X a.1.1 a.1.2.1 a.1.2.2.1 a.2.1 a.2.2.1 a.2.2.2.1 (fun q0 q1 q2 q3=>K (q0,()) ((q1,q2,q3,()),(),(),(),()))
theorem j3f(Qp:Zl)(Qx:We)(Bf:Jp)(h:AL [(223,Wx Qp),(260,q2w Qx),(263,q39 Bf)]):MT 224 (Gb (z0t Qp Qx Bf)):=mP (rk:=[.v]) h (by kernel_rfl) [] fun a K=>by kernel_rfl
theorem q4a:MT 224 (Gb Z3):=j3f Zm Jx Uz ⟨Br,q6o,j3e,trivial⟩
def q4w(X:By):Con Sg:=conV [.ptr 248 [.own 318 C.node,.map C.node C.i64,.v],.v] [.ptr 248 [.vec 318 C.node,.map C.node C.i64,.bool],.int .i64] [.int .i64] [.ptr 248 [.vec 318 C.node,.map C.node C.i64,.bool],.same] fun a K=>X a.1.1 a.1.2.1 a.1.2.2.1 a.2.1 (fun q0 q1 q2 q3=>K (q0,()) ((q1,q2,q3,()),(),()))
theorem w0h(Q0:Z2)(h:AL [(224,Gb Q0)]):MT 219 (q4w (z7p Q0)):=mP (rk:=[.v]) h (by kernel_rfl) [] fun a K=>by kernel_rfl
theorem w0i:MT 219 (q4w Hk):=w0h Z3 ⟨q4a,trivial⟩
def q4x(X:Bz):Con Sg:=conV [.ptr 248 [.own 318 C.node,.map C.node C.i64,.v],.v,.v] [.ptr 248 [.vec 318 C.node,.map C.node C.i64,.bool],.int .i64,.int .i64] [.int .i64] [.ptr 248 [.vec 318 C.node,.map C.node C.i64,.bool],.same,.same] fun a K=>X a.1.1 a.1.2.1 a.1.2.2.1 a.2.1 a.2.2.1 (fun q0 q1 q2 q3=>K (q0,()) ((q1,q2,q3,()),(),(),()))
theorem w0j(Qp:Zl)(Q0:Z2)(h:AL [(223,Wx Qp),(224,Gb Q0)]):MT 220 (q4x (z7q Qp Q0)):=mP (rk:=[.v]) h (by kernel_rfl) [] fun a K=>by kernel_rfl
theorem w0k:MT 220 (q4x Hl):=w0j Zm Z3 ⟨Br,q4a,trivial⟩
def q2x(X:Gh):Con Sg:=conV [.ptr 248 [.own 318 C.node,.map C.node C.i64,.v],.v,.v] [.ptr 248 [.vec 318 C.node,.map C.node C.i64,.bool],.int .i64,.int .i64] [.int .i64] [.ptr 248 [.vec 318 C.node,.map C.node C.i64,.bool],.same,.same] fun a K=>X a.1.1 a.1.2.1 a.1.2.2.1 a.2.1 a.2.2.1 (fun q0 q1 q2 q3=>K (q0,()) ((q1,q2,q3,()),(),(),()))
theorem w3z(Qp:Zl)(Q0:Z2)(h:AL [(223,Wx Qp),(224,Gb Q0)]):MT 169 (q2x (j0i Qp Q0)):=mP (rk:=[.v]) h (by kernel_rfl) [] fun a K=>by kernel_rfl
theorem j0x:MT 169 (q2x Vz):=w3z Zm Z3 ⟨Br,q4a,trivial⟩
def q8o(X:Wk):Con Sg:=conV [.ptr 248 [.own 318 C.node,.map C.node C.i64,.v],.sl C.ex,.el C.ex] [.ptr 248 [.vec 318 C.node,.map C.node C.i64,.bool],.sl C.ex,.el C.ex] [.int .i64] [.ptr 248 [.vec 318 C.node,.map C.node C.i64,.bool],.same,.same] fun a K=>X a.1.1 a.1.2.1 a.1.2.2.1 a.2.1 a.2.2.1 (fun q0 q1 q2 q3=>K (q0,()) ((q1,q2,q3,()),(),(),()))
def z3s:PT:=Q5 ([(16,⟨bl 129127,[3,0,1,2],[],[sB 26]⟩),(21,⟨bl 68249843815,[3],[(0,(248,3))],[sI 7,sI 8,(.cell 0 0,.own 318 C.node),(.cell 0 2,.bool),(.obj 2,.map C.node C.i64)]⟩)]:LS)
theorem j3g(q43:By)(q44:Bz)(W5:Gh)(Uo:q0k)(J1:Vh)(X:Wk)(ns:List (Nd))(ids:(Nd->Option (Int)))(full:Bool)(atoms:List (Ex))(e:Ex)(K:Int->List (Nd)->(Nd->Option (Int))->Bool->Prop):q7s q43 q44 W5 Uo J1 X ns ids full atoms e K=fnV (((WL [(219,q4w q43),(220,q4x q44),(169,q2x W5),(221,q37 Uo),(222,Ga J1)]).with 168 (q8o X)).pl z3s) 4 168 ([.ptr 248 [.own 318 C.node,.map C.node C.i64,.v],.sl C.ex,.el C.ex]:LP) ([.v]:LP) ([.ptr 248 [.vec 318 C.node,.map C.node C.i64,.bool],.sl C.ex,.el C.ex]:LV) ([.int .i64]:LV) ([.ptr 248 [.vec 318 C.node,.map C.node C.i64,.bool],.same,.same]:LV) ((ns,ids,full,()),atoms,e,()) (fun r o=>K r.1 o.1.1 o.1.2.1 o.1.2.2.1):=by kernel_rfl
theorem j8i:MT 168 (q8o H5):=by
 show MT _ (conV ([.ptr 248 [.own 318 C.node,.map C.node C.i64,.v],.sl C.ex,.el C.ex]:LP) ([.ptr 248 [.vec 318 C.node,.map C.node C.i64,.bool],.sl C.ex,.el C.ex]:LV) ([.int .i64]:LV) ([.ptr 248 [.vec 318 C.node,.map C.node C.i64,.bool],.same,.same]:LV) fun a K=>H5 a.1.1 a.1.2.1 a.1.2.2.1 a.2.1 a.2.2.1 (fun q0 q1 q2 q3=>K (q0,()) ((q1,q2,q3,()),(),(),())))
 refine mR (l:=[(219,q4w Hk),(220,q4x Hl),(169,q2x Vz),(221,q37 Ul),(222,Ga Je)]) (u:=4) (rk:=[.v]) (p:=z3s) ⟨w0i,w0k,j0x,j8e,z5d,trivial⟩ (by kernel_rfl) fun a K h X hX=> ?_
 exact h (fun ns ids full atoms e K=>X ((ns,ids,full,()),atoms,e,()) fun r o=>K r.1 o.1.1 o.1.2.1 o.1.2.2.1) (fun ns ids full atoms e K hs=>hX ((ns,ids,full,()),atoms,e,()) (fun r o=>K r.1 o.1.1 o.1.2.1 o.1.2.2.1) (Eq.mp (j3g Hk Hl Vz Ul Je (fun ns ids full atoms e K=>X ((ns,ids,full,()),atoms,e,()) fun r o=>K r.1 o.1.1 o.1.2.1 o.1.2.2.1) ns ids full atoms e K) hs))
def R9(X:J9):Con Sg:=conS [.sl C.rule] [.vec 3 C.i64,.int .i64,.bool] fun a K=>X a.1 (fun q0 q1 q2=>K (q0,q1,q2,()))
theorem j3h(j13:j0g)(q3f:H3)(q3g:Wk)(W5:Gh)(h:AL [(166,w6u j13),(167,q8n q3f),(168,q8o q3g),(169,q2x W5)]):MT 116 (R9 (q3t j13 q3f q3g W5)):=mS h (by kernel_rfl) [(13,⟨bl 28769,[],[(0,(248,3))],[sI 7,(.slot 8,.own 3 C.i64),sI 9,(.cell 0 0,.own 318 C.node),(.cell 0 2,.bool),(.obj 2,.map C.node C.i64)]⟩)] fun a K=>by kernel_rfl
theorem z1f:MT 116 (R9 Wa):=j3h j7w H4 H5 Vz ⟨v7e,j8g,j8i,j0x,trivial⟩
def j8j(X:z4k):Con Sg:=conV [.ptr 104 [.c,.v],.v] [.ptr 104 [.sl C.u8,.int .i64],.str] [.el C.layer] [.ptr 104 [.same,.int .i64],.same] fun a K=>X a.1.1 a.1.2.1 a.2.1 (fun q0 q1=>K (q0,()) (((),q1,()),(),()))
theorem v7g(Wo:q1r)(Qb:Zf)(Jt:q1t)(h:AL [(58,z6v Wo),(49,W2 Qb),(51,z6w Jt)]):MT 62 (j8j (j7x Wo Qb Jt)):=mP (rk:=[.el C.layer]) h (by kernel_rfl) [(8,⟨bl 130099,[1],[(2,(59,6)),(0,(104,2))],[(.cell 2 1,.str),(.cell 0 1,.int .i64)]⟩),(12,⟨bl 130099,[1],[(2,(59,6)),(0,(104,2))],[(.cell 2 3,.int .i64),(.cell 0 1,.int .i64)]⟩),(17,⟨bl 130099,[1],[(2,(59,6)),(0,(104,2))],[sI 6,sI 7,(.cell 2 5,.own 197 C.cool),(.cell 0 1,.int .i64)]⟩)] fun a K=>by kernel_rfl
theorem v7h:MT 62 (j8j z4l):=v7g q1s Zb q1u ⟨j6j,Ur,j6k,trivial⟩
def j3i(X:q7a):Con Sg:=conS [.int .i64] [.bool] fun a K=>X a.1 (fun q0=>K (q0,()))
theorem w2a:MT 149 (j3i q09):=mS (l:=[]) trivial (by kernel_rfl) [] fun a K=>by kernel_rfl
def Ba(X:Jh):Con Sg:=conS [.el C.env,.str] [.int .i64] fun a K=>X a.1 a.2.1 (fun q0=>K (q0,()))
theorem q2y:MT 41 (Ba Zr):=mS (l:=[]) trivial (by kernel_rfl) [(5,⟨[0,1,2],[0],[],[sI 5]⟩)] fun a K=>by kernel_rfl
def q8p(X:U0):Con Sg:=conS [.sl C.cool,.int .i64] [.vec 3 C.i64] fun a K=>X a.1 a.2.1 (fun q0=>K (q0,()))
theorem z5e:MT 95 (q8p Vi):=mS (l:=[]) trivial (by kernel_rfl) [(7,⟨bl 563,[],[],[sI 6,(.obj 0,.own 3 C.i64)]⟩),(15,⟨bl 15987,[],[],[sI 7,(.obj 0,.own 3 C.i64)]⟩),(21,⟨bl 4243603187,[],[],[sI 8,(.obj 0,.own 3 C.i64)]⟩)] fun _ _=>by kernel_rfl
end Go.En
end
noncomputable section
set_option maxRecDepth 100000
open Go Go.RowKit Go.Fl Go.Fl.Lk Go.Fx
namespace Go.En
def q4b(X:Ws):Con Sg:=conS [.sl C.bool] [.vec 95 C.span] fun a K=>X a.1 (fun q0=>K (q0,()))
theorem q8q:MT 150 (q4b Jn):=mS (l:=[]) trivial (by kernel_rfl) [(7,⟨[0,2],[],[],[(.slot 3,.own 95 C.span),sI 4]⟩)] fun a K=>by kernel_rfl
def z86(X:q7t):Con Sg:=conS [.sl C.i64,.int .i64] [.vec 95 C.span] fun a K=>X a.1 a.2.1 (fun q0=>K (q0,()))
theorem w88(Q6:Ws)(h:AL [(150,q4b Q6)]):MT 151 (z86 (z8l Q6)):=mS h (by kernel_rfl) [(7,⟨bl 947,[],[],[sI 6,(.obj 0,.own 4 C.bool)]⟩)] fun a K=>by kernel_rfl
theorem w89:MT 151 (z86 q7u):=w88 Jn ⟨q8q,trivial⟩
def q8r(X:V0):Con Sg:=conS [.sl C.span] [.vec 4 C.bool] fun a K=>X a.1 (fun q0=>K (q0,()))
theorem z1g:MT 96 (q8r Wl):=mS (l:=[]) trivial (by kernel_rfl) [(7,⟨bl 77,[],[],[sI 4,(.obj 0,.own 4 C.bool)]⟩),(13,⟨bl 518109,[],[],[sI 5,(.obj 0,.own 4 C.bool)]⟩)] fun a K=>by kernel_rfl
def z2l(X:q0l):Con Sg:=conS [.sl C.span,.sl C.span] [.vec 95 C.span] fun a K=>X a.1 a.2.1 (fun q0=>K (q0,()))
theorem w9a(Q9:V0)(Q6:Ws)(h:AL [(96,q8r Q9),(150,q4b Q6)]):MT 90 (z2l (z11 Q9 Q6)):=mS h (by kernel_rfl) [(7,⟨bl 3955,[1],[],[sI 7,(.obj 0,.own 4 C.bool)]⟩)] fun a K=>by kernel_rfl
theorem j8k:MT 90 (z2l Gi):=w9a Wl Jn ⟨z1g,q8q,trivial⟩
def z2m(X:q0m):Con Sg:=conS [.el C.env,.str,.str,.int .i64] [.vec 95 C.span] fun a K=>X a.1 a.2.1 a.2.2.1 a.2.2.2.1 (fun q0=>K (q0,()))
theorem w9b(Qq:Jh)(Wv:q0l)(Jg:U0)(q4k:q7t)(h:AL [(41,Ba Qq),(90,z2l Wv),(95,q8p Jg),(151,z86 q4k)]):MT 94 (z2m (z8m Qq Wv Jg q4k)):=mS h (by kernel_rfl) [(10,⟨bl 254751,[0],[],[(.slot 10,.own 95 C.span)]⟩),(13,⟨bl 254751,[0],[],[(.slot 10,.own 95 C.span),sI 11]⟩)] fun a K=>by kernel_rfl
theorem j8l:MT 94 (z2m q0n):=w9b Zr Gi Vi q7u ⟨q2y,j8k,z5e,w89,trivial⟩
def z2n(X:q0o):Con Sg:=conS [.sl C.span,.sl C.span] [.vec 95 C.span] fun a K=>X a.1 a.2.1 (fun q0=>K (q0,()))
theorem w9c(Q9:V0)(Q6:Ws)(h:AL [(96,q8r Q9),(150,q4b Q6)]):MT 118 (z2n (z8n Q9 Q6)):=mS h (by kernel_rfl) [(7,⟨bl 3955,[1],[],[sI 7,(.obj 0,.own 4 C.bool)]⟩)] fun a K=>by kernel_rfl
theorem j8m:MT 118 (z2n q0p):=w9c Wl Jn ⟨z1g,q8q,trivial⟩
def z6x(X:q3u):Con Sg:=conS [.el C.env,.str,.int .i64] [.vec 95 C.span,.int .i64] fun a K=>X a.1 a.2.1 a.2.2.1 (fun q0 q1=>K (q0,q1,()))
theorem v3k(Bg:q7a)(Qq:Jh)(Gw:q0m)(Gx:q0o)(h:AL [(149,j3i Bg),(41,Ba Qq),(94,z2m Gw),(118,z2n Gx)]):MT 88 (z6x (j2x Bg Qq Gw Gx)):=mS h (by kernel_rfl) [] fun a K=>by kernel_rfl
theorem w2b:MT 88 (z6x q3v):=v3k q09 Zr q0n q0p ⟨w2a,q2y,j8l,j8m,trivial⟩
def z2o(X:q0q):Con Sg:=conS [.sl C.span,.int .i64] [.vec 95 C.span] fun a K=>X a.1 a.2.1 (fun q0=>K (q0,()))
theorem w9d(Q9:V0)(Q6:Ws)(h:AL [(96,q8r Q9),(150,q4b Q6)]):MT 91 (z2o (z8o Q9 Q6)):=mS h (by kernel_rfl) [(7,⟨bl 433,[],[],[sI 1,sI 6,(.obj 0,.own 4 C.bool)]⟩)] fun a K=>by kernel_rfl
theorem j8n:MT 91 (z2o q0r):=w9d Wl Jn ⟨z1g,q8q,trivial⟩
def q2z(X:V1):Con Sg:=conV [.v] [.str] [.bool] [.same] fun a K=>X a.1 (fun q0=>K (q0,()) ((),()))
theorem q9l:MT 246 (q2z Jy):=⟨entB (by kernel_rfl),j0u⟩
def Bb(X:Jq):Con Sg:=conS [.str] [.bool] fun a K=>X a.1 (fun q0=>K (q0,()))
theorem v3l(Zv:V1)(h:AL [(246,q2z Zv)]):MT 209 (Bb (z6o Zv)):=mS h (by kernel_rfl) [(9,⟨bl 4081,[],[],[sI 3]⟩)] fun a K=>by kernel_rfl
theorem q4c:MT 209 (Bb Z4):=v3l Jy ⟨q9l,trivial⟩
def w6w(X:j0j):Con Sg:=conS [.str] [.bool] fun a K=>X a.1 (fun q0=>K (q0,()))
theorem v7i:MT 247 (w6w z4m):=mS (l:=[]) trivial (by kernel_rfl) [(5,⟨[0],[],[],[sI 3]⟩)] fun a K=>by kernel_rfl
def j0y(X:q6i):Con Sg:=conS [] [.vec 9 C.str] fun _ K=>X (fun q0=>K (q0,()))
theorem w30:MT 248 (j0y q1x):=mS (l:=[]) trivial (by kernel_rfl) [] fun a K=>by kernel_rfl
def Bc(X:Ji):Con Sg:=conS [.str] [.bool] fun a K=>X a.1 (fun q0=>K (q0,()))
theorem y1g(j14:j0j)(q6u:q6i)(h:AL [(247,w6w j14),(248,j0y q6u)]):MT 210 (Bc (w3p j14 q6u)):=mS h (by kernel_rfl) [(11,⟨bl 16361,[0],[],[sI 4]⟩)] fun a K=>by kernel_rfl
theorem q20:MT 210 (Bc Jj):=y1g z4m q1x ⟨v7i,w30,trivial⟩
def z2p(X:q1y):Con Sg:=conS [.el C.settings] [.int .i64] fun a K=>X a.1 (fun q0=>K (q0,()))
theorem w31(Qt:Jq)(Qm:Ji)(h:AL [(209,Bb Qt),(210,Bc Qm)]):MT 152 (z2p (z13 Qt Qm)):=mS h (by kernel_rfl) [] fun _ _=>by kernel_rfl
theorem w32:MT 152 (z2p q1z):=w31 Z4 Jj ⟨q4c,q20,trivial⟩
end Go.En
end
noncomputable section
set_option maxRecDepth 100000
open Go Go.RowKit Go.Fl Go.Fl.Lk Go.Fx
namespace Go.En
def z2q(X:q10):Con Sg:=conS [.sl C.decl] [.int .i64] fun a K=>X a.1 (fun q0=>K (q0,()))
theorem w33(Qm:Ji)(h:AL [(210,Bc Qm)]):MT 153 (z2q (z14 Qm)):=mS h (by kernel_rfl) [(9,⟨bl 113,[],[],[sI 3]⟩)] fun a K=>by kernel_rfl
theorem w34:MT 153 (z2q q11):=w33 Jj ⟨q20,trivial⟩
def q9m(X:H6):Con Sg:=conS [.sl C.str] [.int .i64] fun a K=>X a.1 (fun q0=>K (q0,()))
theorem w6x(Qt:Jq)(h:AL [(209,Bb Qt)]):MT 249 (q9m (z4n Qt)):=mS h (by kernel_rfl) [(9,⟨bl 113,[],[],[sI 3]⟩)] fun a K=>by kernel_rfl
theorem j4r:MT 249 (q9m H7):=w6x Z4 ⟨q4c,trivial⟩
def w6y(X:j0k):Con Sg:=conS [.el C.ex] [.bool] fun a K=>X a.1 (fun q0=>K (q0,()))
theorem v7j:MT 250 (w6y z4o):=mS (l:=[]) trivial (by kernel_rfl) [] fun a K=>by kernel_rfl
def z87(X:q7v):Con Sg:=conS [.el C.ex] [.bool] fun a K=>X a.1 (fun q0=>K (q0,()))
theorem w9e(Q2:Vg)(h:AL [(143,q00 Q2)]):MT 301 (z87 (z8p Q2)):=mS h (by kernel_rfl) [(20,⟨bl 16327,[0],[],[sB 3,sB 4]⟩)] fun a K=>by kernel_rfl
theorem w9f:MT 301 (z87 q7w):=w9e Jm ⟨z2j,trivial⟩
def w2c(X:z6p):Con Sg:=conS [.el C.val] [.bool] fun a K=>X a.1 (fun q0=>K (q0,()))
theorem v3m:MT 243 (w2c q3w):=mS (l:=[]) trivial (by kernel_rfl) [] fun a K=>by kernel_rfl
def z3t(X:q0a):Con Sg:=conS [.str] [.int .i64,.int .i64] fun a K=>X a.1 (fun q0 q1=>K (q0,q1,()))
theorem j5i:MT 245 (z3t J4):=mS (l:=[]) trivial (by kernel_rfl) [(8,⟨bl 269,[],[],[(.slot 4,.str)]⟩),(11,⟨[0,4,8],[],[],[sI 5]⟩),(31,⟨bl 562915601547569,[],[],[sI 6,sI 7]⟩)] fun a K=>by kernel_rfl
def j3j(X:q7b):Con Sg:=conS [.str] [.el C.a3,.bool] fun a K=>X a.1 (fun q0 q1=>K (q0,q1,()))
theorem v3n(Hi:q0a)(h:AL [(245,z3t Hi)]):MT 207 (j3j (z6q Hi)):=mS h (by kernel_rfl) [(9,⟨[0,2,4],[],[(1,(257,3)),(0,(257,3))],[sI 5,sI 6,(.cell 1 0,.int .i64),(.cell 1 1,.int .i64),(.cell 1 2,.int .i64),(.cell 0 0,.int .i64),(.cell 0 1,.int .i64),(.cell 0 2,.int .i64)]⟩),(15,⟨bl 19669,[1,0],[],[sI 5]⟩)] fun a K=>by kernel_rfl
theorem v3o:MT 207 (j3j q1a):=v3n J4 ⟨j5i,trivial⟩
def j8o(X:z4p):Con Sg:=conS [.sl C.str] [.int .i64] fun a K=>X a.1 (fun q0=>K (q0,()))
theorem v7k(Qt:Jq)(h:AL [(209,Bb Qt)]):MT 244 (j8o (j0l Qt)):=mS h (by kernel_rfl) [(9,⟨bl 225,[],[],[sI 3]⟩),(19,⟨bl 4073,[],[],[sI 4]⟩)] fun a K=>by kernel_rfl
theorem v7l:MT 244 (j8o q7x):=v7k Z4 ⟨q4c,trivial⟩
def z6y(X:q1b):Con Sg:=conS [.el C.val] [.int .i64] fun a K=>X a.1 (fun q0=>K (q0,()))
theorem v3p(z64:z6p)(Qt:Jq)(q4l:q7b)(j15:z4p)(h:AL [(243,w2c z64),(209,Bb Qt),(207,j3j q4l),(244,j8o j15)]):MT 205 (z6y (z6r z64 Qt q4l j15)):=mS h (by kernel_rfl) [] fun a K=>by kernel_rfl
theorem w2d:MT 205 (z6y Hm):=v3p q3w Z4 q1a q7x ⟨v3m,q4c,v3o,v7l,trivial⟩
def j0z(X:z4q):Con Sg:=conS [.el C.ex] [.int .i64] fun a K=>X a.1 (fun q0=>K (q0,()))
theorem v7m(z3f:q7v)(Q2:Vg)(Qm:Ji)(Jr:q1b)(h:AL [(301,z87 z3f),(143,q00 Q2),(210,Bc Qm),(205,z6y Jr)]):MT 292 (j0z (j7y z3f Q2 Qm Jr)):=mS h (by kernel_rfl) [(17,⟨bl 134217667,[0],[],[sI 3]⟩),(31,⟨bl 9412450882139616968651,[0],[],[sI 4]⟩)] fun a K=>by kernel_rfl
theorem v7n:MT 292 (j0z z0u):=v7m q7w Jm Jj Hm ⟨w9f,z2j,q20,w2d,trivial⟩
def j8p(X:q5e):Con Sg:=conV [.el C.ex,.v,.ptr 3 [.v]] [.el C.ex,.int .i64,.ptr 3 [.int .i64]] [.int .i64] [.same,.same,.ptr 3 [.int .i64]] fun a K=>X a.1 a.2.1 a.2.2.1.1 (fun q0 q1=>K (q0,()) ((),(),(q1,()),()))
def w2e:PT:=Q5 ([(21,⟨bl 33553551,[1],[(0,(3,1))],[sI 8,(.cell 0 0,.int .i64)]⟩)]:LS)
theorem w9g(j16:z4q)(X:q5e)(e:Ex)(depth:Int)(n:Int)(K:Int->Int->Prop):j7z j16 X e depth n K=fnV (((WL [(292,j0z j16)]).with 277 (j8p X)).pl w2e) 4 277 ([.el C.ex,.v,.ptr 3 [.v]]:LP) ([.v]:LP) ([.el C.ex,.int .i64,.ptr 3 [.int .i64]]:LV) ([.int .i64]:LV) ([.same,.same,.ptr 3 [.int .i64]]:LV) (e,depth,(n,()),()) (fun r o=>K r.1 o.2.2.1.1):=by kernel_rfl
theorem v7o:MT 277 (j8p z4r):=by
 show MT _ (conV ([.el C.ex,.v,.ptr 3 [.v]]:LP) ([.el C.ex,.int .i64,.ptr 3 [.int .i64]]:LV) ([.int .i64]:LV) ([.same,.same,.ptr 3 [.int .i64]]:LV) fun a K=>z4r a.1 a.2.1 a.2.2.1.1 (fun q0 q1=>K (q0,()) ((),(),(q1,()),())))
 refine mR (l:=[(292,j0z z0u)]) (u:=4) (rk:=[.v]) (p:=w2e) ⟨v7n,trivial⟩ (by kernel_rfl) fun a K h X hX=> ?_
 exact h (fun e depth n K=>X (e,depth,(n,()),()) fun r o=>K r.1 o.2.2.1.1) (fun e depth n K hs=>hX (e,depth,(n,()),()) (fun r o=>K r.1 o.2.2.1.1) (Eq.mp (w9g z0u (fun e depth n K=>X (e,depth,(n,()),()) fun r o=>K r.1 o.2.2.1.1) e depth n K) hs))
def z5f(X:q12):Con Sg:=conS [.el C.ex] [.int .i64] fun a K=>X a.1 (fun q0=>K (q0,()))
theorem v7p(j17:q5e)(h:AL [(277,j8p j17)]):MT 251 (z5f (j70 j17)):=mS h (by kernel_rfl) [] fun a K=>by kernel_rfl
theorem j8q:MT 251 (z5f q13):=v7p z4r ⟨v7o,trivial⟩
def z5g(X:q5f):Con Sg:=conS [.el C.seg] [.int .i64] fun a K=>X a.1 (fun q0=>K (q0,()))
theorem w6z(Qm:Ji)(Vd:H6)(j18:j0k)(Ue:q12)(h:AL [(210,Bc Qm),(249,q9m Vd),(250,w6y j18),(251,z5f Ue)]):MT 211 (z5g (z4s Qm Vd j18 Ue)):=mS h (by kernel_rfl) [] fun a K=>by kernel_rfl
theorem w60:MT 211 (z5g q5g):=w6z Jj H7 z4o q13 ⟨q20,j4r,v7j,j8q,trivial⟩
def z2r(X:q14):Con Sg:=conS [.sl C.seg] [.int .i64] fun a K=>X a.1 (fun q0=>K (q0,()))
theorem w35(q9w:q5f)(h:AL [(211,z5g q9w)]):MT 154 (z2r (z15 q9w)):=mS h (by kernel_rfl) [(9,⟨bl 225,[],[],[sI 3]⟩)] fun _ _=>by kernel_rfl
theorem w36:MT 154 (z2r q15):=w35 q5g ⟨w60,trivial⟩
end Go.En
end
noncomputable section
set_option maxRecDepth 100000
open Go Go.RowKit Go.Fl Go.Fl.Lk Go.Fx
namespace Go.En
def q8s(X:H8):Con Sg:=conS [.el C.flag] [.int .i64] fun a K=>X a.1 (fun q0=>K (q0,()))
theorem j8r(Jr:q1b)(h:AL [(205,z6y Jr)]):MT 252 (q8s (q7y Jr)):=mS h (by kernel_rfl) [(15,⟨bl 8139,[0],[],[sI 4]⟩)] fun a K=>by kernel_rfl
theorem j8s:MT 252 (q8s H9):=j8r Hm ⟨w2d,trivial⟩
def q21(X:V2):Con Sg:=conS [.sl C.prereq] [.int .i64] fun a K=>X a.1 (fun q0=>K (q0,()))
theorem j00(Qm:Ji)(h:AL [(210,Bc Qm)]):MT 253 (q21 (q16 Qm)):=mS h (by kernel_rfl) [(9,⟨bl 113,[],[],[sI 3]⟩)] fun a K=>by kernel_rfl
theorem j01:MT 253 (q21 V3):=j00 Jj ⟨q20,trivial⟩
def z5h(X:q5h):Con Sg:=conS [.sl C.target,.int .i64] [.int .i64] fun a K=>X a.1 a.2.1 (fun q0=>K (q0,()))
theorem w61(Qm:Ji)(Vd:H6)(h:AL [(210,Bc Qm),(249,q9m Vd)]):MT 254 (z5h (z4t Qm Vd)):=mS h (by kernel_rfl) [(9,⟨bl 899,[],[],[sI 5]⟩)] fun a K=>by kernel_rfl
theorem w62:MT 254 (z5h q5i):=w61 Jj H7 ⟨q20,j4r,trivial⟩
def j3k(X:q7c):Con Sg:=conS [.sl C.range,.int .i64] [.int .i64] fun a K=>X a.1 a.2.1 (fun q0=>K (q0,()))
theorem w2f:MT 258 (j3k q3x):=mS (l:=[]) trivial (by kernel_rfl) [(11,⟨bl 899,[],[],[sI 5,sI 6]⟩)] fun a K=>by kernel_rfl
def z6z(X:q3y):Con Sg:=conS [.el C.serve,.int .i64] [.int .i64] fun a K=>X a.1 a.2.1 (fun q0=>K (q0,()))
theorem v3q(Qm:Ji)(Qt:Jq)(Bh:q7c)(h:AL [(210,Bc Qm),(209,Bb Qt),(258,j3k Bh)]):MT 256 (z6z (j2y Qm Qt Bh)):=mS h (by kernel_rfl) [] fun a K=>by kernel_rfl
theorem w2g:MT 256 (z6z q3z):=v3q Jj Z4 q3x ⟨q20,q4c,w2f,trivial⟩
def j3l(X:z0v):Con Sg:=conS [.sl C.rule,.int .i64] [.int .i64] fun a K=>X a.1 a.2.1 (fun q0=>K (q0,()))
theorem v3r(Qm:Ji)(Ue:q12)(Bi:q3y)(h:AL [(210,Bc Qm),(251,z5f Ue),(256,z6z Bi)]):MT 255 (j3l (j2z Qm Ue Bi)):=mS h (by kernel_rfl) [(9,⟨bl 3587,[],[],[sI 5]⟩),(19,⟨bl 33357347,[],[],[sI 6]⟩)] fun a K=>by kernel_rfl
theorem v3s:MT 255 (j3l z0w):=v3r Jj q13 q3z ⟨q20,j8q,w2g,trivial⟩
def j8t(X:z4u):Con Sg:=conS [.el C.flag] [.int .i64] fun a K=>X a.1 (fun q0=>K (q0,()))
theorem v7q(Qm:Ji)(q3h:H8)(Hs:V2)(q9x:q5h)(z65:z0v)(Bi:q3y)(h:AL [(210,Bc Qm),(252,q8s q3h),(253,q21 Hs),(254,z5h q9x),(255,j3l z65),(256,z6z Bi)]):MT 212 (j8t (j71 Qm q3h Hs q9x z65 Bi)):=mS h (by kernel_rfl) [] fun a K=>by kernel_rfl
theorem v7r:MT 212 (j8t z4v):=v7q Jj H9 V3 q5i z0w q3z ⟨q20,j8s,j01,w62,v3s,w2g,trivial⟩
def j3m(X:z0x):Con Sg:=conS [.sl C.flag] [.int .i64] fun a K=>X a.1 (fun q0=>K (q0,()))
theorem v3t(j19:z4u)(h:AL [(212,j8t j19)]):MT 155 (j3m (j20 j19)):=mS h (by kernel_rfl) [(9,⟨bl 225,[],[],[sI 3]⟩)] fun a K=>by kernel_rfl
theorem v3u:MT 155 (j3m z0y):=v3t z4v ⟨v7r,trivial⟩
def j3n(X:z0z):Con Sg:=conS [.el C.layer] [.int .i64] fun a K=>X a.1 (fun q0=>K (q0,()))
theorem v3v(Qm:Ji)(Qt:Jq)(h:AL [(210,Bc Qm),(209,Bb Qt)]):MT 213 (j3n (j21 Qm Qt)):=mS h (by kernel_rfl) [(21,⟨bl 2199023255523,[0],[],[sI 3]⟩)] fun a K=>by kernel_rfl
theorem v3w:MT 213 (j3n z00):=v3v Jj Z4 ⟨q20,q4c,trivial⟩
def z88(X:q7z):Con Sg:=conS [.sl C.layer] [.int .i64] fun a K=>X a.1 (fun q0=>K (q0,()))
theorem w9h(z66:z0z)(h:AL [(213,j3n z66)]):MT 156 (z88 (z8q z66)):=mS h (by kernel_rfl) [(9,⟨bl 225,[],[],[sI 3]⟩)] fun a K=>by kernel_rfl
theorem w9i:MT 156 (z88 q70):=w9h z00 ⟨v3w,trivial⟩
def w2h(X:z6s):Con Sg:=conS [.sl C.span] [.int .i64] fun a K=>X a.1 (fun q0=>K (q0,()))
theorem v3x:MT 257 (w2h z01):=mS (l:=[]) trivial (by kernel_rfl) [(9,⟨bl 113,[],[],[sI 3]⟩)] fun a K=>by kernel_rfl
def q8t(X:Ra):Con Sg:=conS [.el C.exper] [.int .i64] fun a K=>X a.1 (fun q0=>K (q0,()))
theorem j8u(Qm:Ji)(Qt:Jq)(z67:z6s)(Bh:q7c)(Ue:q12)(h:AL [(210,Bc Qm),(209,Bb Qt),(257,w2h z67),(258,j3k Bh),(251,z5f Ue)]):MT 214 (q8t (q71 Qm Qt z67 Bh Ue)):=mS h (by kernel_rfl) [] fun a K=>by kernel_rfl
theorem j8v:MT 214 (q8t Rb):=j8u Jj Z4 z01 q3x q13 ⟨q20,q4c,v3x,w2f,j8q,trivial⟩
def q55(X:G6):Con Sg:=conS [.sl C.exper] [.int .i64] fun a K=>X a.1 (fun q0=>K (q0,()))
theorem j5j(q3i:Ra)(h:AL [(214,q8t q3i)]):MT 157 (q55 (q50 q3i)):=mS h (by kernel_rfl) [(9,⟨bl 225,[],[],[sI 3]⟩)] fun a K=>by kernel_rfl
theorem j5k:MT 157 (q55 G7):=j5j Rb ⟨j8v,trivial⟩
def q56(X:G8):Con Sg:=conS [.el C.env] [.int .i64] fun a K=>X a.1 (fun q0=>K (q0,()))
theorem j5l(q6v:q1y)(q6w:q10)(q6x:q14)(z68:z0x)(z3g:q7z)(q0f:G6)(h:AL [(152,z2p q6v),(153,z2q q6w),(154,z2r q6x),(155,j3m z68),(156,z88 z3g),(157,q55 q0f)]):MT 99 (q56 (q51 q6v q6w q6x z68 z3g q0f)):=mS h (by kernel_rfl) [] fun _ _=>by kernel_rfl
theorem j5m:MT 99 (q56 G9):=j5l q1z q11 q15 z0y q70 G7 ⟨w32,w34,w36,v3u,w9i,j5k,trivial⟩
end Go.En
end
noncomputable section
set_option maxRecDepth 100000
open Go Go.RowKit Go.Fl Go.Fl.Lk Go.Fx
namespace Go.En
def z60(X:q1c):Con Sg:=conS [.sl C.seg] [.vec 9 C.str] fun a K=>X a.1 (fun q0=>K (q0,()))
theorem j3o:MT 100 (z60 q1d):=mS (l:=[]) trivial (by kernel_rfl) [(7,⟨[0,2],[],[],[(.slot 3,.own 9 C.str),sI 4]⟩)] fun a K=>by kernel_rfl
def j02(X:q4o):Con Sg:=conS [.sl C.str,.str] [.bool] fun a K=>X a.1 a.2.1 (fun q0=>K (q0,()))
theorem w37:MT 81 (j02 q0b):=mS (l:=[]) trivial (by kernel_rfl) [(5,⟨[0,1],[],[],[sI 5]⟩)] fun a K=>by kernel_rfl
def j03(X:z02):Con Sg:=conS [.sl C.decl,.str,.str] [.int .i64] fun a K=>X a.1 a.2.1 a.2.2.1 (fun q0=>K (q0,()))
theorem w63:MT 158 (j03 q17):=mS (l:=[]) trivial (by kernel_rfl) [(5,⟨[0,1,2],[],[],[sI 7]⟩)] fun a K=>by kernel_rfl
def j8w(X:j0m):Con Sg:=conS [.int .i64,.el C.ex] [.bool] fun a K=>X a.1 a.2.1 (fun q0=>K (q0,()))
theorem v7s:MT 159 (j8w q72):=mS (l:=[]) trivial (by kernel_rfl) [(11,⟨bl 8075,[0],[],[sI 5]⟩),(36,⟨bl 8795019288539,[0],[],[sB 46]⟩)] fun a K=>by kernel_rfl
def z5i(X:Ha):Con Sg:=conV [.sl C.decl,.sl C.str,.el C.ex] [.sl C.decl,.sl C.str,.el C.ex] [.int .i64] [.same,.same,.same] fun a K=>X a.1 a.2.1 a.2.2.1 (fun q0=>K (q0,()) ((),(),(),()))
def w2i:PT:=Q5 ([(18,⟨bl 1047591,[0],[],[]⟩),(21,⟨bl 1047591,[0],[],[sI 8]⟩)]:LS)
theorem w9j(Vr:q4o)(Q2:Vg)(B6:z02)(z59:j0m)(X:Ha)(l:List (Decl))(segments:List (ByteArray))(e:Ex)(K:Int->Prop):j72 Vr Q2 B6 z59 X l segments e K=fnV (((WL [(81,j02 Vr),(143,q00 Q2),(158,j03 B6),(159,j8w z59)]).with 101 (z5i X)).pl w2i) 4 101 ([.sl C.decl,.sl C.str,.el C.ex]:LP) ([.v]:LP) ([.sl C.decl,.sl C.str,.el C.ex]:LV) ([.int .i64]:LV) ([.same,.same,.same]:LV) (l,segments,e,()) (fun r _=>K r.1):=by kernel_rfl
theorem j8x:MT 101 (z5i q18):=by
 show MT _ (conV ([.sl C.decl,.sl C.str,.el C.ex]:LP) ([.sl C.decl,.sl C.str,.el C.ex]:LV) ([.int .i64]:LV) ([.same,.same,.same]:LV) fun a K=>q18 a.1 a.2.1 a.2.2.1 (fun q0=>K (q0,()) ((),(),(),())))
 refine mR (l:=[(81,j02 q0b),(143,q00 Jm),(158,j03 q17),(159,j8w q72)]) (u:=4) (rk:=[.v]) (p:=w2i) ⟨w37,z2j,w63,v7s,trivial⟩ (by kernel_rfl) fun a K h X hX=> ?_
 exact h (fun l segments e K=>X (l,segments,e,()) fun r _=>K r.1) (fun l segments e K hs=>hX (l,segments,e,()) (fun r _=>K r.1) (Eq.mp (w9j q0b Jm q17 q72 (fun l segments e K=>X (l,segments,e,()) fun r _=>K r.1) l segments e K) hs))
def j04(X:q9f):Con Sg:=conS [.sl C.str,.str] [.sl C.str] fun a K=>X a.1 a.2.1 (fun q0=>K (q0,()))
theorem w38:MT 85 (j04 q4p):=mS (l:=[]) trivial (by kernel_rfl) [(5,⟨[0,1,4],[],[],[sI 5]⟩)] fun a K=>by kernel_rfl
def z5j(X:Gd):Con Sg:=conV [.sl C.str,.el C.ex] [.sl C.str,.el C.ex] [.sl C.str] [.same,.same] fun a K=>X a.1 a.2.1 (fun q0=>K (q0,()) ((),(),()))
def j05:PT:=Q5 ([(6,⟨[1,3,4],[0],[],[(.slot 0,.sl C.str)]⟩),(9,⟨[1,3,4],[0],[],[(.slot 0,.sl C.str),sI 5]⟩)]:LS)
theorem w0l(Ht:q9f)(X:Gd)(l:List (ByteArray))(e:Ex)(K:List (ByteArray)->Prop):z4w Ht X l e K=fnV (((WL [(85,j04 Ht)]).with 216 (z5j X)).pl j05) 4 216 ([.sl C.str,.el C.ex]:LP) ([.sl C.str]:LP) ([.sl C.str,.el C.ex]:LV) ([.sl C.str]:LV) ([.same,.same]:LV) (l,e,()) (fun r _=>K r.1):=by kernel_rfl
theorem w65:MT 216 (z5j q5j):=by
 show MT _ (conV ([.sl C.str,.el C.ex]:LP) ([.sl C.str,.el C.ex]:LV) ([.sl C.str]:LV) ([.same,.same]:LV) fun a K=>q5j a.1 a.2.1 (fun q0=>K (q0,()) ((),(),())))
 refine mR (l:=[(85,j04 q4p)]) (u:=4) (rk:=[.sl C.str]) (p:=j05) ⟨w38,trivial⟩ (by kernel_rfl) fun a K h X hX=> ?_
 exact h (fun l e K=>X (l,e,()) fun r _=>K r.1) (fun l e K hs=>hX (l,e,()) (fun r _=>K r.1) (Eq.mp (w0l q4p (fun l e K=>X (l,e,()) fun r _=>K r.1) l e K) hs))
def z5k(X:q5k):Con Sg:=conS [.el C.ex] [.sl C.str] fun a K=>X a.1 (fun q0=>K (q0,()))
theorem w66(q9y:Gd)(h:AL [(216,z5j q9y)]):MT 161 (z5k (z4x q9y)):=mS h (by kernel_rfl) [] fun a K=>by kernel_rfl
theorem w67:MT 161 (z5k q5l):=w66 q5j ⟨w65,trivial⟩
def z89(X:q73):Con Sg:=conS [.sl C.seg] [.vec 217 C.edge] fun a K=>X a.1 (fun q0=>K (q0,()))
theorem w9k(q9z:q5k)(h:AL [(161,z5k q9z)]):MT 103 (z89 (z8r q9z)):=mS h (by kernel_rfl) [(7,⟨[0,2],[],[],[(.slot 3,.own 217 C.edge),sI 4]⟩),(15,⟨bl 518069,[],[],[(.slot 3,.own 217 C.edge),sI 6]⟩)] fun a K=>by kernel_rfl
theorem w9l:MT 103 (z89 q74):=w9k q5l ⟨w67,trivial⟩
def j3p(X:z03):Con Sg:=conS [.sl C.edge,.str] [.sl C.str] fun a K=>X a.1 a.2.1 (fun q0=>K (q0,()))
theorem v3y(Vr:q4o)(Ht:q9f)(h:AL [(81,j02 Vr),(85,j04 Ht)]):MT 215 (j3p (j22 Vr Ht)):=mS h (by kernel_rfl) [(7,⟨bl 1555,[],[],[(.slot 5,.sl C.str),(.slot 6,.sl C.str)]⟩),(15,⟨bl 522899,[],[],[(.slot 5,.sl C.str),(.slot 6,.sl C.str),sI 8]⟩)] fun a K=>by kernel_rfl
theorem v3z:MT 215 (j3p z04):=v3y q0b q4p ⟨w37,w38,trivial⟩
def z9a(X:q75):Con Sg:=conS [.sl C.str,.sl C.edge] [.sl C.str] fun a K=>X a.1 a.2.1 (fun q0=>K (q0,()))
theorem w9m(z69:z03)(Vr:q4o)(Ht:q9f)(h:AL [(215,j3p z69),(81,j02 Vr),(85,j04 Ht)]):MT 160 (z9a (z8s z69 Vr Ht)):=mS h (by kernel_rfl) [(7,⟨[0,1,4],[],[],[(.slot 5,.sl C.str),sI 6]⟩)] fun a K=>by kernel_rfl
theorem w9n:MT 160 (z9a q76):=w9m z04 q0b q4p ⟨v3z,w37,w38,trivial⟩
def z9b(X:q77):Con Sg:=conS [.sl C.str,.sl C.edge] [.str,.bool] fun a K=>X a.1 a.2.1 (fun q0 q1=>K (q0,q1,()))
theorem w9o(z3h:q75)(h:AL [(160,z9a z3h)]):MT 102 (z9b (z8t z3h)):=mS h (by kernel_rfl) [] fun a K=>by kernel_rfl
theorem w9p:MT 102 (z9b q78):=w9o q76 ⟨w9n,trivial⟩
def z5l(X:q1e):Con Sg:=conS [.el C.env,.str] [.int .i64] fun a K=>X a.1 a.2.1 (fun q0=>K (q0,()))
theorem j4s:MT 162 (z5l q1f):=mS (l:=[]) trivial (by kernel_rfl) [(5,⟨[0,1,2],[0],[],[sI 5]⟩)] fun a K=>by kernel_rfl
def j3q(X:z05):Con Sg:=conS [.sl C.decl,.el C.serve] [.int .i64] fun a K=>X a.1 a.2.1 (fun q0=>K (q0,()))
theorem v30(B6:z02)(h:AL [(158,j03 B6)]):MT 163 (j3q (j23 B6)):=mS h (by kernel_rfl) [] fun _ _=>by kernel_rfl
theorem v32:MT 163 (j3q z06):=v30 q17 ⟨w63,trivial⟩
end Go.En
end
noncomputable section
set_option maxRecDepth 100000
open Go Go.RowKit Go.Fl Go.Fl.Lk Go.Fx
namespace Go.En
def q8u(X:Rd):Con Sg:=conS [.el C.env,.el C.flag] [.int .i64] fun a K=>X a.1 a.2.1 (fun q0=>K (q0,()))
theorem j8y(Wp:q1c)(Uf:q1e)(Ug:Ha)(z1m:z05)(Z7:J9)(h:AL [(100,z60 Wp),(162,z5l Uf),(101,z5i Ug),(163,j3q z1m),(116,R9 Z7)]):MT 104 (q8u (q79 Wp Uf Ug z1m Z7)):=mS h (by kernel_rfl) [(7,⟨bl 229423,[1,0],[],[sI 6,(.obj 2,.own 9 C.str)]⟩),(23,⟨bl 8355951,[1,0],[],[sI 8,(.obj 2,.own 9 C.str)]⟩)] fun a K=>by kernel_rfl
theorem j8z:MT 104 (q8u Re):=j8y q1d q1f q18 z06 Wa ⟨j3o,j4s,j8x,v32,z1f,trivial⟩
def z7t(X:q4q):Con Sg:=conS [.el C.env] [.vec 9 C.str] fun a K=>X a.1 (fun q0=>K (q0,()))
theorem w0m:MT 105 (z7t q4r):=mS (l:=[]) trivial (by kernel_rfl) [(7,⟨[0,1,2],[0],[],[(.slot 3,.own 9 C.str),sI 4]⟩)] fun a K=>by kernel_rfl
def z5m(X:q19):Con Sg:=conS [.el C.env] [.vec 217 C.edge] fun a K=>X a.1 (fun q0=>K (q0,()))
theorem j80:MT 106 (z5m Rf):=mS (l:=[]) trivial (by kernel_rfl) [(7,⟨[0,1,2],[0],[],[(.slot 3,.own 217 C.edge),sI 4]⟩),(13,⟨bl 2007,[],[],[(.slot 3,.own 217 C.edge),sI 5]⟩)] fun a K=>by kernel_rfl
def q9n(X:Rg):Con Sg:=conS [.sl C.span,.sl C.span] [.vec 95 C.span] fun a K=>X a.1 a.2.1 (fun q0=>K (q0,()))
theorem w68(Q9:V0)(Q6:Ws)(h:AL [(96,q8r Q9),(150,q4b Q6)]):MT 93 (q9n (q9g Q9 Q6)):=mS h (by kernel_rfl) [(7,⟨bl 3955,[1],[],[sI 7,(.obj 0,.own 4 C.bool)]⟩)] fun a K=>by kernel_rfl
theorem j4t:MT 93 (q9n V4):=w68 Wl Jn ⟨z1g,q8q,trivial⟩
def Rt(X:Wm):Con Sg:=conS [.el C.env,.int .i64] [.int .i64] fun a K=>X a.1 a.2.1 (fun q0=>K (q0,()))
theorem z5n(Qq:Jh)(Uf:q1e)(Wp:q1c)(Ug:Ha)(Uh:Rg)(h:AL [(41,Ba Qq),(162,z5l Uf),(100,z60 Wp),(101,z5i Ug),(93,q9n Uh)]):MT 107 (Rt (V5 Qq Uf Wp Ug Uh)):=mS h (by kernel_rfl) [(13,⟨bl 17179836647,[1,0],[],[sI 8]⟩),(35,⟨bl 151078797935433964553191,[1,0],[],[(.slot 10,.own 95 C.span),sI 11,(.obj 4,.own 9 C.str)]⟩),(51,⟨bl 159723976762087930960904772882407,[1,0],[],[sI 13,(.obj 9,.own 95 C.span),(.obj 6,.own 95 C.span),(.obj 4,.own 9 C.str)]⟩)] fun a K=>by kernel_rfl
theorem z5o:MT 107 (Rt Zz):=z5n Zr q1f q1d q18 V4 ⟨q2y,j4s,j3o,j8x,j4t,trivial⟩
def q4d(X:U1):Con Sg:=conS [.el C.env] [.str,.int .i64] fun a K=>X a.1 (fun q0 q1=>K (q0,q1,()))
theorem j3r(q0g:G8)(Wp:q1c)(Ug:Ha)(z3i:q73)(q88:q77)(q3j:Rd)(q45:q4q)(q3k:q19)(Ui:Wm)(h:AL [(99,q56 q0g),(100,z60 Wp),(101,z5i Ug),(103,z89 z3i),(102,z9b q88),(104,q8u q3j),(105,z7t q45),(106,z5m q3k),(107,Rt Ui)]):MT 54 (q4d (R2 q0g Wp Ug z3i q88 q3j q45 q3k Ui)):=mS h (by kernel_rfl) [(13,⟨bl 15663155,[0],[],[sI 6,(.obj 1,.own 9 C.str)]⟩),(33,⟨bl 294571444427585160051,[0],[],[sI 10,(.obj 1,.own 9 C.str),(.obj 4,.own 217 C.edge)]⟩),(51,⟨bl 10121397798090180814242575234931,[0],[],[sI 14,(.obj 8,.own 9 C.str),(.obj 9,.own 217 C.edge),(.obj 4,.own 217 C.edge),(.obj 1,.own 9 C.str)]⟩)] fun a K=>by kernel_rfl
theorem j3s:MT 54 (q4d Wb):=j3r G9 q1d q18 q74 q78 Re q4r Rf Zz ⟨j5m,j3o,j8x,w9l,w9p,j8z,w0m,j80,z5o,trivial⟩
def z2s(X:q0s):Con Sg:=conS [.el C.env] [.bool] fun a K=>X a.1 (fun q0=>K (q0,()))
theorem w9q(Bj:U1)(h:AL [(54,q4d Bj)]):MT 26 (z2s (z16 Bj)):=mS h (by kernel_rfl) [] fun a K=>by kernel_rfl
theorem j81:MT 26 (z2s Wt):=w9q Wb ⟨j3s,trivial⟩
def q8v(X:Rh):Con Sg:=conV [.ptr 104 [.c,.v],.v] [.ptr 104 [.sl C.u8,.int .i64],.int .i64] [.el C.env] [.ptr 104 [.same,.int .i64],.same] fun a K=>X a.1.1 a.1.2.1 a.2.1 (fun q0 q1=>K (q0,()) (((),q1,()),(),()))
theorem j82(Q3:W9)(q90:q5c)(Qb:Zf)(q3c:z6l)(Jf:q1v)(q40:z1x)(z6a:z4g)(Ru:q1w)(q41:q4n)(Z7:J9)(j2a:z4k)(Wo:q1r)(q3d:q7o)(Bk:q3u)(Jt:q1t)(Gx:q0o)(Gy:q0q)(Ww:q0s)(h:AL [(57,q5s Q3),(59,z5a q90),(49,W2 Qb),(60,w3w q3c),(109,z49 Jf),(112,j6l q40),(115,j8a z6a),(114,z5b Ru),(113,j6n q41),(116,R9 Z7),(62,j8j j2a),(58,z6v Wo),(117,j0w q3d),(88,z6x Bk),(51,z6w Jt),(118,z2n Gx),(91,z2o Gy),(26,z2s Ww)]):MT 31 (q8v (q8a Q3 q90 Qb q3c Jf q40 z6a Ru q41 Z7 j2a Wo q3d Bk Jt Gx Gy Ww)):=mP (rk:=[.el C.env]) h (by kernel_rfl) [(8,⟨bl 3123,[1],[(3,(36,8)),(0,(104,2))],[(.cell 3 0,.str),(.cell 3 1,.str),(.cell 3 2,.int .i64),(.cell 0 1,.int .i64),(.obj 2,.own 177 C.decl)]⟩),(15,⟨bl 98569331,[2,1],[(0,(104,2)),(3,(36,8))],[sI 7,(.cell 0 1,.int .i64),(.cell 3 5,.own 122 C.flag),(.obj 10,.own 147 C.seg),(.obj 12,.own 59 C.layer),(.obj 13,.own 68 C.exper)]⟩),(62000009,⟨bl 1073218007,[22,21],[(0,(104,2)),(23,(122,13))],[sI 9,(.cell 0 1,.int .i64),(.cell 23 2,.own 115 C.val),(.obj 13,.own 68 C.exper),(.obj 12,.own 59 C.layer),(.obj 17,.own 122 C.flag),(.obj 10,.own 147 C.seg)]⟩),(62000019,⟨bl 545366356788183,[22,21],[(23,(122,13)),(0,(104,2))],[sI 10,(.cell 23 5,.own 188 C.prereq),(.cell 0 1,.int .i64),(.obj 10,.own 147 C.seg),(.obj 17,.own 122 C.flag),(.obj 12,.own 59 C.layer),(.obj 13,.own 68 C.exper),(.obj 27,.own 115 C.val)]⟩),(62000029,⟨bl 17996814912849879,[22,21],[(23,(122,13)),(0,(104,2))],[sI 11,(.cell 23 6,.own 190 C.target),(.cell 0 1,.int .i64),(.obj 27,.own 115 C.val),(.obj 13,.own 68 C.exper),(.obj 12,.own 59 C.layer),(.obj 17,.own 122 C.flag),(.obj 10,.own 147 C.seg),(.obj 34,.own 188 C.prereq)]⟩),(62000038,⟨bl 19688565898261847554177638359,[23],[(51,(190,3)),(0,(104,2))],[(.cell 51 0,.str),(.cell 0 1,.int .i64),(.obj 50,.own 9 C.str),(.obj 34,.own 188 C.prereq),(.obj 10,.own 147 C.seg),(.obj 17,.own 122 C.flag),(.obj 12,.own 59 C.layer),(.obj 13,.own 68 C.exper),(.obj 27,.own 115 C.val),(.obj 42,.own 190 C.target)]⟩),(62000060,⟨bl 324518589926201333218846174621655,[22,21],[(0,(104,2)),(23,(122,13))],[(.cell 0 1,.int .i64),(.cell 23 7,.own 193 C.rule),(.obj 50,.own 9 C.str),(.obj 34,.own 188 C.prereq),(.obj 10,.own 147 C.seg),(.obj 17,.own 122 C.flag),(.obj 12,.own 59 C.layer),(.obj 13,.own 68 C.exper),(.obj 27,.own 115 C.val),(.obj 42,.own 190 C.target)]⟩),(62000047,⟨bl 324518589926201333218846174621655,[],[(0,(104,2)),(23,(122,13))],[sI 14,(.cell 0 1,.int .i64),(.cell 23 7,.own 193 C.rule),(.obj 50,.own 9 C.str),(.obj 34,.own 188 C.prereq),(.obj 10,.own 147 C.seg),(.obj 17,.own 122 C.flag),(.obj 12,.own 59 C.layer),(.obj 13,.own 68 C.exper),(.obj 27,.own 115 C.val),(.obj 42,.own 190 C.target)]⟩),(25,⟨bl 387030204812531,[2,1],[(0,(104,2)),(3,(36,8))],[sI 8,(.cell 0 1,.int .i64),(.cell 3 6,.own 59 C.layer),(.obj 13,.own 68 C.exper),(.obj 10,.own 147 C.seg),(.obj 17,.own 122 C.flag)]⟩),(35,⟨bl 811665570522726403571,[2,1],[(0,(104,2)),(3,(36,8))],[sI 9,(.cell 0 1,.int .i64),(.cell 3 7,.own 68 C.exper),(.obj 17,.own 122 C.flag),(.obj 10,.own 147 C.seg),(.obj 24,.own 59 C.layer)]⟩),(64000010,⟨bl 140737488348975,[37,36,35],[(40,(68,12)),(0,(104,2))],[(.cell 40 4,.int .i64),(.cell 0 1,.int .i64),(.obj 39,.own 70 C.range),(.obj 31,.own 68 C.exper),(.obj 24,.own 59 C.layer),(.obj 17,.own 122 C.flag),(.obj 10,.own 147 C.seg)]⟩),(64000014,⟨bl 140737488348975,[37,36,35],[(40,(68,12)),(0,(104,2))],[(.cell 40 7,.int .i64),(.cell 40 8,.str),(.cell 40 9,.str),(.cell 40 10,.sl C.val),(.cell 40 11,.sl C.ex),(.cell 0 1,.int .i64),(.obj 10,.own 147 C.seg),(.obj 17,.own 122 C.flag),(.obj 24,.own 59 C.layer),(.obj 31,.own 68 C.exper),(.obj 39,.own 70 C.range)]⟩)] fun a K=>by kernel_rfl
theorem j83:MT 31 (q8v Ri):=j82 J3 q5d Zb z6m Uu z1y z4h H1 z1z Wa z4l q1s q7p q3v q1u q0p q0r Wt ⟨q9j,w6s,Ur,v1v,j78,v1w,v7d,j79,v1x,z1f,v7h,j6j,w6t,w2b,j6k,j8m,j8n,j81,trivial⟩
def z7u(X:q4s):Con Sg:=conS [] [.el C.env] fun _ K=>X (fun q0=>K (q0,()))
theorem w0n:MT 30 (z7u q4t):=mS (l:=[]) trivial (by kernel_rfl) [] fun a K=>by kernel_rfl
def q8w(X:U2):Con Sg:=conS [.el C.subj,.str] [.int .i64] fun a K=>X a.1 a.2.1 (fun q0=>K (q0,()))
theorem z5p:MT 64 (q8w Vj):=mS (l:=[]) trivial (by kernel_rfl) [(120000005,⟨bl 195,[1],[],[sI 8]⟩)] fun a K=>by kernel_rfl
def q22(X:V6):Con Sg:=conS [.el C.val] [.el C.val] fun a K=>X a.1 (fun q0=>K (q0,()))
theorem z2t:MT 170 (q22 Wf):=mS (l:=[]) trivial (by kernel_rfl) [] fun a K=>by kernel_rfl
def q4e(X:U3):Con Sg:=conS [.el C.attr] [.el C.attr] fun a K=>X a.1 (fun q0=>K (q0,()))
theorem j3t(Zx:V6)(h:AL [(170,q22 Zx)]):MT 122 (q4e (q30 Zx)):=mS h (by kernel_rfl) [] fun a K=>by kernel_rfl
theorem j3u:MT 122 (q4e U4):=j3t Wf ⟨z2t,trivial⟩
def q8x(X:Rj):Con Sg:=conS [.el C.ctx] [.el C.ctx] fun a K=>X a.1 (fun q0=>K (q0,()))
theorem j84(Bl:U3)(h:AL [(122,q4e Bl)]):MT 65 (q8x (q8b Bl)):=mS h (by kernel_rfl) [(122000007,⟨bl 7955,[],[],[(.slot 5,.own 180 C.attr),sI 13]⟩)] fun a K=>by kernel_rfl
theorem j85:MT 65 (q8x Rk):=j84 U4 ⟨j3u,trivial⟩
def B5(X:Wg):Con Sg:=conS [.el C.subj,.str] [.el C.ctx,.bool] fun a K=>X a.1 a.2.1 (fun q0 q1=>K (q0,q1,()))
theorem w0o(J2:U2)(q3l:Rj)(h:AL [(64,q8w J2),(65,q8x q3l)]):MT 35 (B5 (q98 J2 q3l)):=mS h (by kernel_rfl) [] fun _ _=>by kernel_rfl
theorem z0h:MT 35 (B5 Wh):=w0o Vj Rk ⟨z5p,j85,trivial⟩
end Go.En
end
noncomputable section
set_option maxRecDepth 100000
open Go Go.RowKit Go.Fl Go.Fl.Lk Go.Fx
namespace Go.En
def z7v(X:q4u):Con Sg:=conS [.sl C.bytes] [.vec 5 C.u8] fun a K=>X a.1 (fun q0=>K (q0,()))
theorem w0p:MT 124 (z7v B0):=mS (l:=[]) trivial (by kernel_rfl) [(7,⟨bl 389,[],[],[(.slot 3,.own 5 C.u8),sI 9]⟩),(13,⟨bl 8101,[],[],[(.slot 3,.own 5 C.u8),sI 6]⟩)] fun a K=>by kernel_rfl
def q8y(X:Gj):Con Sg:=conS [.int .u64,.int .i64] [.int .u64] fun a K=>X a.1 a.2.1 (fun q0=>K (q0,()))
theorem z9c:MT 225 (q8y Vk):=mS (l:=[]) trivial (by kernel_rfl) [] fun a K=>by kernel_rfl
def Us(X:Ja):Con Sg:=conV [.ptr 251 [.v,.v,.v,.v],.v] [.ptr 251 [.int .u64,.int .u64,.int .u64,.int .u64],.int .i64] [] [.ptr 251 [.int .u64,.int .u64,.int .u64,.int .u64],.same] fun a K=>X a.1.1 a.1.2.1 a.1.2.2.1 a.1.2.2.2.1 a.2.1 (fun q0 q1 q2 q3=>K () ((q0,q1,q2,q3,()),(),()))
theorem z7g(Zt:Gj)(h:AL [(225,q8y Zt)]):MT 172 (Us (Bq Zt)):=mP (rk:=[]) h (by kernel_rfl) [(3,⟨[0,1,4],[],[(0,(251,4))],[sI 5,(.cell 0 0,.int IntKind.u64),(.cell 0 1,.int IntKind.u64),(.cell 0 2,.int IntKind.u64),(.cell 0 3,.int IntKind.u64)]⟩)] fun a K=>by kernel_rfl
theorem q6e:MT 172 (Us Zc):=z7g Vk ⟨z9c,trivial⟩
def q23(X:V7):Con Sg:=conV [.ptr 251 [.v,.v,.v,.v],.v] [.ptr 251 [.int .u64,.int .u64,.int .u64,.int .u64],.int .u64] [] [.ptr 251 [.int .u64,.int .u64,.int .u64,.int .u64],.same] fun a K=>X a.1.1 a.1.2.1 a.1.2.2.1 a.1.2.2.2.1 a.2.1 (fun q0 q1 q2 q3=>K () ((q0,q1,q2,q3,()),(),()))
theorem j06(Zn:Ja)(h:AL [(172,Us Zn)]):MT 171 (q23 (q2a Zn)):=mP (rk:=[]) h (by kernel_rfl) [] fun a K=>by kernel_rfl
theorem j07:MT 171 (q23 V8):=j06 Zc ⟨q6e,trivial⟩
def z5q(X:q5m):Con Sg:=conS [.int .u64,.int .u64,.sl C.u8] [.int .u64] fun a K=>X a.1 a.2.1 a.2.2.1 (fun q0=>K (q0,()))
theorem w69(Uj:V7)(Zn:Ja)(h:AL [(171,q23 Uj),(172,Us Zn)]):MT 123 (z5q (z4y Uj Zn)):=mS h (by kernel_rfl) [(9,⟨bl 67101127,[],[(0,(251,4))],[sI 9,(.cell 0 0,.int IntKind.u64),(.cell 0 1,.int IntKind.u64),(.cell 0 2,.int IntKind.u64),(.cell 0 3,.int IntKind.u64)]⟩),(17,⟨bl 2147476423,[0],[],[(.slot 10,.int IntKind.u64),sI 33]⟩),(29,⟨bl 15762600843272903,[0],[],[(.slot 8,.int IntKind.u64),sI 54]⟩)] fun a K=>by kernel_rfl
theorem w7a:MT 123 (z5q q5n):=w69 V8 Zc ⟨j07,q6e,trivial⟩
def z2u(X:q2b):Con Sg:=conS [.int .u64,.sl C.bytes] [.int .u64] fun a K=>X a.1 a.2.1 (fun q0=>K (q0,()))
theorem w39(q46:q4u)(q91:q5m)(h:AL [(124,z7v q46),(123,z5q q91)]):MT 66 (z2u (z17 q46 q91)):=mS h (by kernel_rfl) [] fun a K=>by kernel_rfl
theorem w4a:MT 66 (z2u q2c):=w39 B0 q5n ⟨w0p,w7a,trivial⟩
def z2v(X:q0t):Con Sg:=conS [.str,.str] [.int .i64] fun a K=>X a.1 a.2.1 (fun q0=>K (q0,()))
theorem w9r(q6y:q2b)(h:AL [(66,z2u q6y)]):MT 36 (z2v (z8u q6y)):=mS h (by kernel_rfl) [] fun a K=>by kernel_rfl
theorem j86:MT 36 (z2v Gk):=w9r q2c ⟨w4a,trivial⟩
def z5r(X:q2d):Con Sg:=conS [.sl C.forced,.str] [.el C.forced,.bool] fun a K=>X a.1 a.2.1 (fun q0 q1=>K (q0,q1,()))
theorem j87:MT 20 (z5r Rl):=mS (l:=[]) trivial (by kernel_rfl) [(5,⟨bl 787,[],[(0,(54,3))],[sI 10,(.cell 0 0,.str),(.cell 0 1,.str),(.cell 0 2,.int .i64)]⟩)] fun a K=>by kernel_rfl
def j08(X:q6j):Con Sg:=conS [.el C.env,.el C.forced] [.bool] fun a K=>X a.1 a.2.1 (fun q0=>K (q0,()))
theorem w4b:MT 37 (j08 q2e):=mSg 8 (l:=[]) trivial (by kernel_rfl) [(126000005,⟨bl 195,[1],[],[sI 8]⟩),(127000005,⟨bl 195,[],[],[sI 8]⟩)] fun a K=>by kernel_rfl
def z2w(X:q2f):Con Sg:=conS [.el C.env,.el C.subj] [.bool] fun a K=>X a.1 a.2.1 (fun q0=>K (q0,()))
theorem w4c(Zq:Wg)(Up:q0t)(h:AL [(35,B5 Zq),(36,z2v Up)]):MT 16 (z2w (z18 Zq Up)):=mS h (by kernel_rfl) [] fun a K=>by kernel_rfl
theorem w4d:MT 16 (z2w q2g):=w4c Wh Gk ⟨z0h,j86,trivial⟩
def q6p(X:R3):Con Sg:=conS [.int .i64] [.bool] fun a K=>X a.1 (fun q0=>K (q0,()))
theorem j09:MT 130 (q6p V9):=mS (l:=[]) trivial (by kernel_rfl) [] fun a K=>by kernel_rfl
def Wu(X:Zd):Con Sg:=conS [.sl C.str,.sl C.str] [.bool] fun a K=>X a.1 a.2.1 (fun q0=>K (q0,()))
theorem Hg:MT 174 (Wu Q1):=mS (l:=[]) trivial (by kernel_rfl) [(9,⟨bl 8131,[],[],[sI 13]⟩)] fun a K=>by kernel_rfl
def q9o(X:q5o):Con Sg:=conS [.el C.val,.el C.val] [.bool] fun a K=>X a.1 a.2.1 (fun q0=>K (q0,()))
theorem w7b(Qo:Zd)(h:AL [(174,Wu Qo)]):MT 290 (q9o (z4z Qo)):=mS h (by kernel_rfl) [] fun a K=>by kernel_rfl
theorem w7c:MT 290 (q9o q1g):=w7b Q1 ⟨Hg,trivial⟩
def z2x(X:Rm):Con Sg:=conV [.el C.ex,.el C.ex] [.el C.ex,.el C.ex] [.bool] [.same,.same] fun a K=>X a.1 a.2.1 (fun q0=>K (q0,()) ((),(),()))
def j4u:PT:=Q5 ([(290000009,⟨bl 130055,[],[],[sI 17]⟩),(292000009,⟨bl 130055,[],[],[sI 17]⟩)]:LS)
theorem w4e(q92:q5o)(X:Rm)(a:Ex)(b:Ex)(K:Bool->Prop):z8v q92 X a b K=fnV (((WL [(290,q9o q92)]).with 272 (z2x X)).pl j4u) 4 272 ([.el C.ex,.el C.ex]:LP) ([.v]:LP) ([.el C.ex,.el C.ex]:LV) ([.bool]:LV) ([.same,.same]:LV) (a,b,()) (fun r _=>K r.1):=by kernel_rfl
theorem w9s:MT 272 (z2x q0u):=by
 show MT _ (conV ([.el C.ex,.el C.ex]:LP) ([.el C.ex,.el C.ex]:LV) ([.bool]:LV) ([.same,.same]:LV) fun a K=>q0u a.1 a.2.1 (fun q0=>K (q0,()) ((),(),())))
 refine mR (l:=[(290,q9o q1g)]) (u:=4) (rk:=[.v]) (p:=j4u) ⟨w7c,trivial⟩ (by kernel_rfl) fun a K h X hX=> ?_
 exact h (fun a b K=>X (a,b,()) fun r _=>K r.1) (fun a b K hs=>hX (a,b,()) (fun r _=>K r.1) (Eq.mp (w4e q1g (fun a b K=>X (a,b,()) fun r _=>K r.1) a b K) hs))
end Go.En
end
noncomputable section
set_option maxRecDepth 100000
open Go Go.RowKit Go.Fl Go.Fl.Lk Go.Fx
namespace Go.En
def z0i(X:Vc):Con Sg:=conV [.own 66 C.ex,.el C.ex] [.vec 66 C.ex,.el C.ex] [.vec 66 C.ex] [.same,.same] fun a K=>X a.1 a.2.1 (fun q0=>K (q0,()) ((),(),()))
def z5s:PT:=Q5 ([(6,⟨[1,3,4],[1],[],[(.slot 0,.own 66 C.ex)]⟩),(9,⟨bl 234881050,[1],[],[(.slot 0,.own 66 C.ex),sI 28]⟩),(128000005,⟨bl 195,[0],[],[sI 8]⟩)]:LS)
theorem j5n(W6:R3)(q89:Rm)(X:Vc)(l:List (Ex))(e:Ex)(K:List (Ex)->Prop):q99 W6 q89 X l e K=fnV (((WL [(130,q6p W6),(272,z2x q89)]).with 234 (z0i X)).pl z5s) 4 234 ([.own 66 C.ex,.el C.ex]:LP) ([.own 66 C.ex]:LP) ([.vec 66 C.ex,.el C.ex]:LV) ([.vec 66 C.ex]:LV) ([.same,.same]:LV) (l,e,()) (fun r _=>K r.1):=by kernel_rfl
theorem w0q:MT 234 (z0i B1):=by
 show MT _ (conV ([.own 66 C.ex,.el C.ex]:LP) ([.vec 66 C.ex,.el C.ex]:LV) ([.vec 66 C.ex]:LV) ([.same,.same]:LV) fun a K=>B1 a.1 a.2.1 (fun q0=>K (q0,()) ((),(),())))
 refine mR (l:=[(130,q6p V9),(272,z2x q0u)]) (u:=4) (rk:=[.own 66 C.ex]) (p:=z5s) ⟨j09,w9s,trivial⟩ (by kernel_rfl) fun a K h X hX=> ?_
 exact h (fun l e K=>X (l,e,()) fun r _=>K r.1) (fun l e K hs=>hX (l,e,()) (fun r _=>K r.1) (Eq.mp (j5n V9 q0u (fun l e K=>X (l,e,()) fun r _=>K r.1) l e K) hs))
def z5t(X:Ge):Con Sg:=conV [.el C.ex] [.el C.ex] [.el C.ex] [.same] fun a K=>X a.1 (fun q0=>K (q0,()) ((),()))
def j1a:PT:=Q5 ([(274000007,⟨bl 7955,[],[],[(.slot 5,.own 115 C.val),sI 13]⟩),(234000007,⟨bl 7955,[],[],[(.slot 5,.own 66 C.ex),sI 13]⟩)]:LS)
theorem w0r(Zx:V6)(X:Ge)(e:Ex)(K:Ex->Prop):z40 Zx X e K=fnV (((WL [(170,q22 Zx)]).with 235 (z5t X)).pl j1a) 4 235 ([.el C.ex]:LP) ([.el C.ex]:LP) ([.el C.ex]:LV) ([.el C.ex]:LV) ([.same]:LV) (e,()) (fun r _=>K r.1):=by kernel_rfl
theorem w7d:MT 235 (z5t q5p):=by
 show MT _ (conV ([.el C.ex]:LP) ([.el C.ex]:LV) ([.el C.ex]:LV) ([.same]:LV) fun a K=>q5p a.1 (fun q0=>K (q0,()) ((),())))
 refine mR (l:=[(170,q22 Wf)]) (u:=4) (rk:=[.el C.ex]) (p:=j1a) ⟨z2t,trivial⟩ (by kernel_rfl) fun a K h X hX=> ?_
 exact h (fun e K=>X (e,()) fun r _=>K r.1) (fun e K hs=>hX (e,()) (fun r _=>K r.1) (Eq.mp (w0r Wf (fun e K=>X (e,()) fun r _=>K r.1) e K) hs))
def z0j(X:B2):Con Sg:=conS [.el C.ex] [.vec 66 C.ex] fun a K=>X a.1 (fun q0=>K (q0,()))
theorem w0s(q47:Vc)(q93:Ge)(h:AL [(234,z0i q47),(235,z5t q93)]):MT 183 (z0j (z0a q47 q93)):=mS h (by kernel_rfl) [(234000007,⟨bl 7955,[1],[],[(.slot 5,.own 66 C.ex),sI 13]⟩)] fun a K=>by kernel_rfl
theorem w0t:MT 183 (z0j q4v):=w0s B1 q5p ⟨w0q,w7d,trivial⟩
def W4(X:Zu):Con Sg:=conV [.own 9 C.str] [.vec 9 C.str] [] [.vec 9 C.str] fun a K=>X a.1 (fun q0=>K () (q0,()))
theorem Hr:MT 80 (W4 Zh):=⟨entB (by kernel_rfl),q6n⟩
def Gc(X:Wc):Con Sg:=conV [.own 9 C.str] [.vec 9 C.str] [.vec 9 C.str] [.same] fun a K=>X a.1 (fun q0=>K (q0,()) ((),()))
theorem q4f:MT 184 (Gc Z5):=⟨entB (by kernel_rfl),q36⟩
def q57(X:Hb):Con Sg:=conS [.el C.ex] [.sl C.str] fun a K=>X a.1 (fun q0=>K (q0,()))
theorem j5o(q48:B2)(Qr:Zu)(Z8:Wc)(h:AL [(183,z0j q48),(80,W4 Qr),(184,Gc Z8)]):MT 138 (q57 (q52 q48 Qr Z8)):=mS h (by kernel_rfl) [(7,⟨bl 455,[1,0],[],[(.slot 3,.own 9 C.str),sI 9]⟩)] fun a K=>by kernel_rfl
theorem j5p:MT 138 (q57 Hc):=j5o q4v Zh Z5 ⟨w0t,Hr,q4f,trivial⟩
def j1b(X:z19):Con Sg:=conV [.sl C.str,.sl C.edge] [.sl C.str,.sl C.edge] [.vec 9 C.str,.int .i64] [.same,.same] fun a K=>X a.1 a.2.1 (fun q0 q1=>K (q0,q1,()) ((),(),()))
theorem w4f:MT 139 (j1b P_graph_Order):=⟨entB (by kernel_rfl),w3v⟩
def q8z(X:Rn):Con Sg:=conS [.sl C.seg] [.vec 9 C.str,.int .i64] fun a K=>X a.1 (fun q0 q1=>K (q0,q1,()))
theorem j88(q0h:Hb)(q6z:z19)(h:AL [(138,q57 q0h),(139,j1b q6z)]):MT 78 (q8z (q8c q0h q6z)):=mS h (by kernel_rfl) [(9,⟨bl 3085,[],[],[(.slot 4,.own 9 C.str),(.slot 5,.own 217 C.edge),sI 12]⟩),(17,⟨bl 33488029,[6,5,3],[],[(.slot 5,.own 217 C.edge),sI 25]⟩)] fun a K=>by kernel_rfl
theorem j89:MT 78 (q8z Rp):=j88 Hc P_graph_Order ⟨j5p,w4f,trivial⟩
def q58(X:Hd):Con Sg:=conS [.el C.subj,.str,.str] [.el C.val,.bool] fun a K=>X a.1 a.2.1 a.2.2.1 (fun q0 q1=>K (q0,q1,()))
theorem j5q(J2:U2)(Zx:V6)(h:AL [(64,q8w J2),(170,q22 Zx)]):MT 129 (q58 (q53 J2 Zx)):=mS h (by kernel_rfl) [(17,⟨bl 1912468303,[2,0],[(1,(115,4))],[sI 31,(.cell 1 0,.int .i64),(.cell 1 1,.int .i64),(.cell 1 2,.str),(.cell 1 3,.sl C.str)]⟩)] fun a K=>by kernel_rfl
theorem j5r:MT 129 (q58 He):=j5q Vj Wf ⟨z5p,z2t,trivial⟩
def z2y(X:q2h):Con Sg:=conS [.el C.val,.el C.val] [.bool] fun a K=>X a.1 a.2.1 (fun q0=>K (q0,()))
theorem w4g(Qo:Zd)(h:AL [(174,Wu Qo)]):MT 133 (z2y (z2a Qo)):=mS h (by kernel_rfl) [] fun a K=>by kernel_rfl
theorem w4h:MT 133 (z2y R4):=w4g Q1 ⟨Hg,trivial⟩
def Gs(X:Z6):Con Sg:=conS [.str,.str] [.bool] fun a K=>X a.1 a.2.1 (fun q0=>K (q0,()))
theorem q24:MT 175 (Gs Zs):=mS (l:=[]) trivial (by kernel_rfl) [] fun a K=>by kernel_rfl
def q01(X:Vl):Con Sg:=conS [.str,.str] [.bool] fun a K=>X a.1 a.2.1 (fun q0=>K (q0,()))
theorem z9d(Q7:Z6)(h:AL [(175,Gs Q7)]):MT 134 (q01 (q0v Q7)):=mS h (by kernel_rfl) [] fun a K=>by kernel_rfl
theorem z9e:MT 134 (q01 Vm):=z9d Zs ⟨q24,trivial⟩
def q25(X:Wy):Con Sg:=conS [.str,.str] [.bool] fun a K=>X a.1 a.2.1 (fun q0=>K (q0,()))
theorem z2z:MT 176 (q25 Wz):=mS (l:=[]) trivial (by kernel_rfl) [] fun a K=>by kernel_rfl
def q02(X:Vn):Con Sg:=conS [.str,.str] [.bool] fun a K=>X a.1 a.2.1 (fun q0=>K (q0,()))
theorem z9f(W7:Wy)(h:AL [(176,q25 W7)]):MT 135 (q02 (q0w W7)):=mS h (by kernel_rfl) [] fun _ _=>by kernel_rfl
theorem z9g:MT 135 (q02 Vo):=z9f Wz ⟨z2z,trivial⟩
end Go.En
end
noncomputable section
set_option maxRecDepth 100000
open Go Go.RowKit Go.Fl Go.Fl.Lk Go.Fx
namespace Go.En
def q9p(X:q2i):Con Sg:=conV [.v,.v] [.str,.str] [.bool] [.same,.same] fun a K=>X a.1 a.2.1 (fun q0=>K (q0,()) ((),(),()))
theorem j1c:MT 136 (q9p Hq):=⟨entB (by kernel_rfl),j0v⟩
def j1d(X:q6k):Con Sg:=conS [.el C.val] [.bool] fun a K=>X a.1 (fun q0=>K (q0,()))
theorem w4i:MT 227 (j1d q2j):=mS (l:=[]) trivial (by kernel_rfl) [(8,⟨bl 31,[0],[],[sB 5]⟩),(14,⟨bl 63,[0],[],[sB 17]⟩)] fun a K=>by kernel_rfl
def z5u(X:q5q):Con Sg:=conS [.str] [.bool] fun a K=>X a.1 (fun q0=>K (q0,()))
theorem w7e(Zv:V1)(h:AL [(246,q2z Zv)]):MT 228 (z5u (z41 Zv)):=mS h (by kernel_rfl) [(9,⟨bl 32737,[],[],[(.obj 0,.siter)]⟩)] fun a K=>by kernel_rfl
theorem w7f:MT 228 (z5u q5r):=w7e Jy ⟨q9l,trivial⟩
def z5v(X:q8d):Con Sg:=conV [.v,.v] [.str,.str] [.vec 9 C.str] [.same,.same] fun a K=>X a.1 a.2.1 (fun q0=>K (q0,()) ((),(),()))
theorem j9a:MT 231 (z5v q2k):=⟨entB (by kernel_rfl),j77⟩
def Gt(X:Jz):Con Sg:=conS [.str,.str] [.str,.bool] fun a K=>X a.1 a.2.1 (fun q0 q1=>K (q0,q1,()))
theorem z22(Q7:Z6)(h:AL [(175,Gs Q7)]):MT 286 (Gt (Gl Q7)):=mS h (by kernel_rfl) [] fun a K=>by kernel_rfl
theorem z23:MT 286 (Gt W0):=z22 Zs ⟨q24,trivial⟩
def q03(X:Vp):Con Sg:=conS [.str,.str] [.str,.bool] fun a K=>X a.1 a.2.1 (fun q0 q1=>K (q0,q1,()))
theorem z9h(W8:Jz)(h:AL [(286,Gt W8)]):MT 269 (q03 (q0x W8)):=mS h (by kernel_rfl) [] fun a K=>by kernel_rfl
theorem z9i:MT 269 (q03 Vq):=z9h W0 ⟨z23,trivial⟩
def z7w(X:z0b):Con Sg:=conV [.v] [.str] [.int .i64,.ifc] [.same] fun a K=>X a.1 (fun q0 q1=>K (q0,q1,()) ((),()))
theorem w0u:MT 270 (z7w B3):=⟨entB (by kernel_rfl),w0f⟩
def q26(X:Ua):Con Sg:=conS [.str] [.int .i64,.int .i64] fun a K=>X a.1 (fun q0 q1=>K (q0,q1,()))
theorem j1e(Gz:Vp)(B7:z0b)(h:AL [(269,q03 Gz),(270,z7w B7)]):MT 232 (q26 (q2l Gz B7)):=mS h (by kernel_rfl) [(11,⟨bl 4294966321,[],[],[(.obj 0,.siter)]⟩)] fun a K=>by kernel_rfl
theorem j1f:MT 232 (q26 Ub):=j1e Vq B3 ⟨z9i,w0u,trivial⟩
def q6q(X:Gm):Con Sg:=conS [.str] [.el C.a3,.bool] fun a K=>X a.1 (fun q0 q1=>K (q0,q1,()))
theorem w4j(q3m:q8d)(Hu:Ua)(h:AL [(231,z5v q3m),(232,q26 Hu)]):MT 181 (q6q (z2b q3m Hu)):=mS h (by kernel_rfl) [(13,⟨bl 228405,[2],[(1,(257,3)),(0,(257,3))],[sI 18,(.cell 1 0,.int .i64),(.cell 1 1,.int .i64),(.cell 1 2,.int .i64),(.cell 0 0,.int .i64),(.cell 0 1,.int .i64),(.cell 0 2,.int .i64)]⟩)] fun a K=>by kernel_rfl
theorem j1g:MT 181 (q6q Gn):=w4j q2k Ub ⟨j9a,j1f,trivial⟩
def z25(X:q2m):Con Sg:=conS [.el C.val] [.int .i64] fun a K=>X a.1 (fun q0=>K (q0,()))
theorem w4k(q60:q6k)(q5v:q5q)(Wj:Gm)(h:AL [(227,j1d q60),(228,z5u q5v),(181,q6q Wj)]):MT 178 (z25 (z2c q60 q5v Wj)):=mS h (by kernel_rfl) [(47,⟨bl 73643289922748022531,[0],[],[sI 66]⟩),(59,⟨bl 132521265739157328625411,[0],[],[sI 77]⟩)] fun a K=>by kernel_rfl
theorem w4l:MT 178 (z25 q2n):=w4k q2j q5r Gn ⟨w4i,w7f,j1g,trivial⟩
def q80(X:Rq):Con Sg:=conS [.el C.val,.el C.val] [.int .i64,.int .i64] fun a K=>X a.1 a.2.1 (fun q0 q1=>K (q0,q1,()))
theorem j9b(q3n:q2m)(Wj:Gm)(h:AL [(178,z25 q3n),(181,q6q Wj)]):MT 137 (q80 (q8e q3n Wj)):=mS h (by kernel_rfl) [(183000005,⟨bl 1539,[],[],[sI 11]⟩)] fun a K=>by kernel_rfl
theorem j9c:MT 137 (q80 U5):=j9b q2n Gn ⟨w4l,j1g,trivial⟩
def q6r(X:q2o):Con Sg:=conS [.el C.subj,.el C.ex] [.bool] fun a K=>X a.1 a.2.1 (fun q0=>K (q0,()))
theorem w4m(q0i:Hd)(W6:R3)(Bm:q2h)(G0:Vl)(G1:Vn)(Hw:q2i)(Rv:Rq)(h:AL [(129,q58 q0i),(130,q6p W6),(133,z2y Bm),(134,q01 G0),(135,q02 G1),(136,q9p Hw),(137,q80 Rv)]):MT 77 (q6r (z2d q0i W6 Bm G0 G1 Hw Rv)):=mS h (by kernel_rfl) [(174000005,⟨bl 195,[2],[],[sI 8]⟩),(129000005,⟨bl 195,[],[],[sI 8]⟩)] fun a K=>by kernel_rfl
theorem w4n:MT 77 (q6r R5):=w4m He V9 R4 Vm Vo Hq U5 ⟨j5r,j09,w4h,z9e,z9g,j1c,j9c,trivial⟩
def q6s(X:Wi):Con Sg:=conV [.el C.subj,.sl C.str,.el C.ex] [.el C.subj,.sl C.str,.el C.ex] [.bool] [.same,.same,.same] fun a K=>X a.1 a.2.1 a.2.2.1 (fun q0=>K (q0,()) ((),(),(),()))
def z7x:PT:=Q5 ([(128000005,⟨bl 195,[1,0],[],[sI 8]⟩),(129000005,⟨bl 195,[],[],[sI 8]⟩)]:LS)
theorem j9d(q61:q2o)(X:Wi)(s:Subj)(in_:List (ByteArray))(e:Ex)(K:Bool->Prop):z2e q61 X s in_ e K=fnV (((WL [(77,q6r q61)]).with 45 (q6s X)).pl z7x) 4 45 ([.el C.subj,.sl C.str,.el C.ex]:LP) ([.v]:LP) ([.el C.subj,.sl C.str,.el C.ex]:LV) ([.bool]:LV) ([.same,.same,.same]:LV) (s,in_,e,()) (fun r _=>K r.1):=by kernel_rfl
theorem j1h:MT 45 (q6s Gq):=by
 show MT _ (conV ([.el C.subj,.sl C.str,.el C.ex]:LP) ([.el C.subj,.sl C.str,.el C.ex]:LV) ([.bool]:LV) ([.same,.same,.same]:LV) fun a K=>Gq a.1 a.2.1 a.2.2.1 (fun q0=>K (q0,()) ((),(),(),())))
 refine mR (l:=[(77,q6r R5)]) (u:=4) (rk:=[.v]) (p:=z7x) ⟨w4n,trivial⟩ (by kernel_rfl) fun a K h X hX=> ?_
 exact h (fun s in_ e K=>X (s,in_,e,()) fun r _=>K r.1) (fun s in_ e K hs=>hX (s,in_,e,()) (fun r _=>K r.1) (Eq.mp (j9d R5 (fun s in_ e K=>X (s,in_,e,()) fun r _=>K r.1) s in_ e K) hs))
def q27(X:Uc):Con Sg:=conS [.el C.seg,.el C.subj,.sl C.str] [.bool] fun a K=>X a.1 a.2.1 a.2.2.1 (fun q0=>K (q0,()))
theorem j1i(Zq:Wg)(Jk:Wi)(h:AL [(35,B5 Zq),(45,q6s Jk)]):MT 79 (q27 (q2p Zq Jk)):=mS h (by kernel_rfl) [(129000005,⟨bl 195,[],[],[sI 8]⟩)] fun _ _=>by kernel_rfl
theorem j1j:MT 79 (q27 Ud):=j1i Wh Gq ⟨z0h,j1h,trivial⟩
end Go.En
end
noncomputable section
set_option maxRecDepth 100000
open Go Go.RowKit Go.Fl Go.Fl.Lk Go.Fx
namespace Go.En
def q4g(X:U6):Con Sg:=conS [.sl C.seg,.el C.subj] [.vec 9 C.str] fun a K=>X a.1 a.2.1 (fun q0=>K (q0,()))
theorem j3v(q3o:Rn)(Hx:Uc)(Qr:Zu)(h:AL [(78,q8z q3o),(79,q27 Hx),(80,W4 Qr)]):MT 46 (q4g (q31 q3o Hx Qr)):=mS h (by kernel_rfl) [(13,⟨bl 8380667,[1,0],[],[sI 23,(.obj 2,.map C.str C.seg)]⟩),(25,⟨bl 12918448379,[2,1,0],[],[(.slot 10,.own 9 C.str),sI 34]⟩)] fun a K=>by kernel_rfl
theorem j3w:MT 46 (q4g U7):=j3v Rp Ud Zh ⟨j89,j1j,Hr,trivial⟩
def q4h(X:U8):Con Sg:=conS [.el C.env,.el C.subj,.str] [.bool] fun a K=>X a.1 a.2.1 a.2.2.1 (fun q0=>K (q0,()))
theorem j3x(Bn:U6)(Jk:Wi)(h:AL [(46,q4g Bn),(45,q6s Jk)]):MT 18 (q4h (q32 Bn Jk)):=mS h (by kernel_rfl) [(5,⟨bl 3615,[1,0],[],[sI 12]⟩)] fun a K=>by kernel_rfl
theorem j3y:MT 18 (q4h U9):=j3x U7 Gq ⟨j3w,j1h,trivial⟩
def j1k(X:q6l):Con Sg:=conS [.sl C.range,.int .i64] [.int .i64] fun a K=>X a.1 a.2.1 (fun q0=>K (q0,()))
theorem w4o:MT 40 (j1k q2q):=mS (l:=[]) trivial (by kernel_rfl) [(5,⟨bl 387,[],[],[sI 9]⟩)] fun a K=>by kernel_rfl
def q4y(X:Um):Con Sg:=conS [.el C.env,.el C.subj,.sl C.forced,.str] [.el C.asg,.int .i64] fun a K=>X a.1 a.2.1 a.2.2.1 a.2.2.2.1 (fun q0 q1=>K (q0,q1,()))
theorem w0v(Zq:Wg)(q3p:q2d)(Up:q0t)(q62:q6l)(Bo:U8)(q63:q2f)(q64:q6j)(h:AL [(35,B5 Zq),(20,z5r q3p),(36,z2v Up),(40,j1k q62),(18,q4h Bo),(16,z2w q63),(37,j08 q64)]):MT 14 (q4y (z0c Zq q3p Up q62 Bo q63 q64)):=mS h (by kernel_rfl) [(4,⟨bl 959,[3,2,1,0],[],[sI 10]⟩),(18,⟨bl 2198939402175,[9,5,3,2,1,0],[(7,(46,5))],[(.cell 7 2,.int .i64)]⟩),(22,⟨bl 17735122472271807,[12,7,9,5,3,2,1,0],[],[sB 64]⟩),(30,⟨bl 18464479196181823423,[12,7,9,5,3,2,1,0],[],[sB 87]⟩),(41,⟨bl 73193204841212587949592543167,[12,9,5,3,2,1,0],[(7,(46,5))],[sI 96,(.cell 7 1,.str),(.cell 7 3,.int .i64)]⟩),(46,⟨bl 1261615642555177651852752060351,[19,7],[],[sB 19]⟩),(48,⟨bl 1261615642555177651852752584639,[19,7],[],[sB 122]⟩),(72000005,⟨bl 195,[],[],[sI 8]⟩),(34000005,⟨bl 195,[],[],[sI 8]⟩)] fun a K=>by kernel_rfl
theorem z7y:MT 14 (q4y Un):=w0v Wh Rl Gk q2q U9 q2g q2e ⟨z0h,j87,j86,w4o,j3y,w4d,w4b,trivial⟩
def w2j(X:z6t):Con Sg:=conS [.sl C.bytes] [.vec 5 C.u8] fun a K=>X a.1 (fun q0=>K (q0,()))
theorem v33:MT 111 (w2j z07):=mS (l:=[]) trivial (by kernel_rfl) [(7,⟨[0,2],[],[],[(.slot 3,.own 5 C.u8),sI 4]⟩),(15,⟨bl 518069,[],[],[(.slot 3,.own 5 C.u8),sI 6]⟩)] fun a K=>by kernel_rfl
def j9e(X:z2f):Con Sg:=conS [.int .u64,.int .u64] [.int .u64] fun a K=>X a.1 a.2.1 (fun q0=>K (q0,()))
theorem w9t:MT 217 (j9e q8f):=mS (l:=[]) trivial (by kernel_rfl) [] fun a K=>by kernel_rfl
def q59(X:Hf):Con Sg:=conS [.el C.sip,.int .i64] [.el C.sip] fun a K=>X a.1 a.2.1 (fun q0=>K (q0,()))
theorem j5s(G2:z2f)(h:AL [(217,j9e G2)]):MT 164 (q59 (q54 G2)):=mS h (by kernel_rfl) [(5,⟨bl 23,[1],[(0,(238,4))],[sI 5,(.cell 0 0,.int IntKind.u64),(.cell 0 1,.int IntKind.u64),(.cell 0 2,.int IntKind.u64),(.cell 0 3,.int IntKind.u64)]⟩)] fun a K=>by kernel_rfl
theorem j5t:MT 164 (q59 Z1):=j5s q8f ⟨w9t,trivial⟩
def w4p(X:j0n):Con Sg:=conS [.int .u64,.int .u64,.sl C.u8] [.int .u64] fun a K=>X a.1 a.2.1 a.2.2.1 (fun q0=>K (q0,()))
theorem y1h(Vv:Hf)(h:AL [(164,q59 Vv)]):MT 110 (w4p (w3q Vv)):=mS h (by kernel_rfl) [(7,⟨bl 1046727,[],[(0,(238,4))],[sI 8,(.cell 0 0,.int IntKind.u64),(.cell 0 1,.int IntKind.u64),(.cell 0 2,.int IntKind.u64),(.cell 0 3,.int IntKind.u64)]⟩),(15,⟨bl 33552839,[0],[],[(.slot 9,.int IntKind.u64),sI 10]⟩),(24,⟨bl 274777243079,[0],[],[(.slot 9,.int IntKind.u64)]⟩)] fun a K=>by kernel_rfl
theorem y1i:MT 110 (w4p j0o):=y1h Z1 ⟨j5t,trivial⟩
def j9f(X:z42):Con Sg:=conS [.int .u64,.sl C.bytes] [.int .u64] fun a K=>X a.1 a.2.1 (fun q0=>K (q0,()))
theorem v7t(z7a:z6t)(j6u:j0n)(h:AL [(111,w2j z7a),(110,w4p j6u)]):MT 56 (j9f (j73 z7a j6u)):=mS h (by kernel_rfl) [] fun a K=>by kernel_rfl
theorem v7u:MT 56 (j9f z43):=v7t z07 j0o ⟨v33,y1i,trivial⟩
def w4q(X:j0p):Con Sg:=conS [.str,.str] [.int .i64] fun a K=>X a.1 a.2.1 (fun q0=>K (q0,()))
theorem y1j(j2b:z42)(h:AL [(56,j9f j2b)]):MT 29 (w4q (w3r j2b)):=mS h (by kernel_rfl) [] fun a K=>by kernel_rfl
theorem y1k:MT 29 (w4q z2g):=y1j z43 ⟨v7u,trivial⟩
def q9q(X:Rr):Con Sg:=conS [.el C.env,.el C.subj,.sl C.forced] [.vec 46 C.asg] fun a K=>X a.1 a.2.1 a.2.2.1 (fun q0=>K (q0,()))
theorem w7g(Jw:Um)(h:AL [(14,q4y Jw)]):MT 12 (q9q (z44 Jw)):=mS h (by kernel_rfl) [(7,⟨bl 28767,[1,0],[],[(.slot 7,.own 46 C.asg),sI 15]⟩)] fun a K=>by kernel_rfl
theorem j4v:MT 12 (q9q Rs):=w7g Un ⟨z7y,trivial⟩
def z27(X:q2r):Con Sg:=conS [] [.bool] fun _ K=>X (fun q0=>K (q0,()))
theorem w4r(B8:q4s)(Jw:Um)(j6v:j0p)(J6:Rr)(h:AL [(30,z7u B8),(14,q4y Jw),(29,w4q j6v),(12,q9q J6)]):MT 9 (z27 (z2h B8 Jw j6v J6)):=mS h (by kernel_rfl) [] fun a K=>by kernel_rfl
theorem w4s:MT 9 (z27 q2s):=w4r q4t Un z2g Rs ⟨w0n,z7y,y1k,j4v,trivial⟩
def w9u(X:j24):Con Sg:=conV [.sl C.u8,.v] [.sl C.u8,.int .i64] [.ptr 104 [.sl C.u8,.int .i64]] [.same,.same] fun a K=>X a.1 a.2.1 (fun q0 q1=>K ((q0,q1,()),()) ((),(),()))
theorem v7v:MT 23 (w9u z8w):=mP (rk:=[.ptr 104 [.c,.v]]) (l:=[]) trivial (by kernel_rfl) [(6,⟨[1,4],[],[],[(.slot 0,.sl C.u8)]⟩)] fun a K=>by kernel_rfl
def z9j(X:q8g):Con Sg:=conV [.ptr 104 [.c,.v],.v] [.ptr 104 [.sl C.u8,.int .i64],.str] [.el C.ctx] [.ptr 104 [.same,.int .i64],.same] fun a K=>X a.1.1 a.1.2.1 a.2.1 (fun q0 q1=>K (q0,()) (((),q1,()),(),()))
theorem w9v(z3e:z8i)(Q3:W9)(Qb:Zf)(Jf:q1v)(h:AL [(108,w3x z3e),(57,q5s Q3),(49,W2 Qb),(109,z49 Jf)]):MT 55 (z9j (z8x z3e Q3 Qb Jf)):=mP (rk:=[.el C.ctx]) h (by kernel_rfl) [(9,⟨bl 8051,[4,1],[(2,(82,3)),(0,(104,2))],[sI 7,(.cell 2 2,.own 180 C.attr),(.cell 0 1,.int .i64)]⟩)] fun _ _=>by kernel_rfl
theorem w9w:MT 55 (z9j q33):=w9v z8j J3 Zb Uu ⟨v69,q9j,Ur,j78,trivial⟩
end Go.En
end
noncomputable section
set_option maxRecDepth 100000
open Go Go.RowKit Go.Fl Go.Fl.Lk Go.Fx
namespace Go.En
def z9k(X:q8h):Con Sg:=conV [.ptr 104 [.c,.v]] [.ptr 104 [.sl C.u8,.int .i64]] [.el C.subj] [.ptr 104 [.same,.int .i64]] fun a K=>X a.1.1 a.1.2.1 (fun q0 q1=>K (q0,()) (((),q1,()),()))
theorem w9x(Qb:Zf)(q07:q8g)(h:AL [(49,W2 Qb),(55,z9j q07)]):MT 27 (z9k (z8y Qb q07)):=mP (rk:=[.el C.subj]) h (by kernel_rfl) [(10,⟨bl 125,[1],[(0,(104,2)),(2,(25,1))],[(.cell 0 1,.int .i64),(.cell 2 0,.own 82 C.ctx)]⟩)] fun a K=>by kernel_rfl
theorem w9y:MT 27 (z9k q8i):=w9x Zb q33 ⟨Ur,w9w,trivial⟩
def j3z(X:z08):Con Sg:=conV [.ptr 104 [.c,.v],.el C.env] [.ptr 104 [.sl C.u8,.int .i64],.el C.env] [.vec 54 C.forced] [.ptr 104 [.same,.int .i64],.same] fun a K=>X a.1.1 a.1.2.1 a.2.1 (fun q0 q1=>K (q0,()) (((),q1,()),(),()))
theorem v34(Qb:Zf)(h:AL [(49,W2 Qb)]):MT 32 (j3z (j25 Qb)):=mP (rk:=[.own 54 C.forced]) h (by kernel_rfl) [(7,⟨bl 27,[1],[(0,(104,2))],[(.slot 5,.own 54 C.forced),sI 6,(.cell 0 1,.int .i64)]⟩),(16,⟨bl 998651,[2],[(5,(54,3)),(0,(104,2))],[(.cell 5 0,.str),(.cell 0 1,.int .i64)]⟩),(32,⟨bl 998651,[2],[(5,(54,3)),(0,(104,2))],[(.cell 5 0,.str),(.cell 5 1,.str),(.cell 5 2,.int .i64),(.cell 0 1,.int .i64)]⟩),(26,⟨bl 274862128603,[],[(5,(54,3)),(0,(104,2))],[(.cell 5 0,.str),(.cell 0 1,.int .i64)]⟩)] fun a K=>by kernel_rfl
theorem v35:MT 32 (j3z z09):=v34 Zb ⟨Ur,trivial⟩
def z29(X:q2t):Con Sg:=conS [.sl C.u8,.sl C.u8] [.el C.env,.el C.subj,.sl C.forced] fun a K=>X a.1 a.2.1 (fun q0 q1 q2=>K (q0,q1,q2,()))
theorem w4t(q9a:j24)(q3q:Rh)(z3k:q8h)(z7b:z08)(h:AL [(23,w9u q9a),(31,q8v q3q),(27,z9k z3k),(32,j3z z7b)]):MT 10 (z29 (z2i q9a q3q z3k z7b)):=mS h (by kernel_rfl) [] fun a K=>by kernel_rfl
theorem w4u:MT 10 (z29 q2u):=w4t z8w Ri q8i z09 ⟨v7v,j83,w9y,v35,trivial⟩
def q28(X:Wn):Con Sg:=conS [.el C.env,.str] [.int .i64] fun a K=>X a.1 a.2.1 (fun q0=>K (q0,()))
theorem q9r:MT 22 (q28 J0):=mS (l:=[]) trivial (by kernel_rfl) [(5,⟨[0,1,2],[0],[],[sI 5]⟩)] fun a K=>by kernel_rfl
end Go.En
end
noncomputable section
set_option maxRecDepth 100000
open Go Go.RowKit Go.Fl Go.Fl.Lk Go.Fx
namespace Go.En
def z1h(X:R6):Con Sg:=conS [.el C.env,.str,.int .i64] [.int .i64,.int .i64] fun a K=>X a.1 a.2.1 a.2.2.1 (fun q0 q1=>K (q0,q1,()))
theorem v36(Zg:Wn)(Bg:q7a)(Qq:Jh)(h:AL [(22,q28 Zg),(149,j3i Bg),(41,Ba Qq)]):MT 87 (z1h (j28 Zg Bg Qq)):=mS h (by kernel_rfl) [] fun a K=>by kernel_rfl
theorem j30:MT 87 (z1h R7):=v36 J0 q09 Zr ⟨q9r,w2a,q2y,trivial⟩
def j31(X:z1a):Con Sg:=conS [.sl C.span] [.int .i64] fun a K=>X a.1 (fun q0=>K (q0,()))
theorem v38(Q9:V0)(h:AL [(96,q8r Q9)]):MT 89 (j31 (j29 Q9)):=mS h (by kernel_rfl) [(9,⟨bl 213,[0],[],[sI 3,sI 5]⟩)] fun a K=>by kernel_rfl
theorem v39:MT 89 (j31 z1b):=v38 Wl ⟨z1g,trivial⟩
def z61(X:q1h):Con Sg:=conS [.el C.env,.int .i64,.el C.exper] [.el C.env] fun a K=>X a.1 a.2.1 a.2.2.1 (fun q0=>K (q0,()))
theorem j32:MT 92 (z61 Hn):=mS (l:=[]) trivial (by kernel_rfl) [] fun a K=>by kernel_rfl
def z9l(X:q8j):Con Sg:=conS [.el C.env,.str,.int .i64,.int .i64] [.el C.env,.int .i64] fun a K=>X a.1 a.2.1 a.2.2.1 a.2.2.2.1 (fun q0 q1=>K (q0,q1,()))
theorem w9z(Wq:R6)(Bk:q3u)(z7c:z1a)(Gy:q0q)(Wv:q0l)(Wd:q1h)(h:AL [(87,z1h Wq),(88,z6x Bk),(89,j31 z7c),(91,z2o Gy),(90,z2l Wv),(92,z61 Wd)]):MT 50 (z9l (z82 Wq Bk z7c Gy Wv Wd)):=mS h (by kernel_rfl) [] fun a K=>by kernel_rfl
theorem w90:MT 50 (z9l q8k):=w9z R7 q3v z1b q0r Gi Hn ⟨j30,w2b,v39,j8n,j8k,j32,trivial⟩
def z9m(X:q8l):Con Sg:=conS [.el C.env,.str,.int .i64] [.el C.env,.int .i64] fun a K=>X a.1 a.2.1 a.2.2.1 (fun q0 q1=>K (q0,q1,()))
theorem w91(Wq:R6)(Gw:q0m)(Uh:Rg)(Wd:q1h)(h:AL [(87,z1h Wq),(94,z2m Gw),(93,q9n Uh),(92,z61 Wd)]):MT 52 (z9m (z83 Wq Gw Uh Wd)):=mS h (by kernel_rfl) [] fun a K=>by kernel_rfl
theorem w92:MT 52 (z9m q8m):=w91 R7 q0n V4 Hn ⟨j30,j8l,j4t,j32,trivial⟩
def w7h(X:j0q):Con Sg:=conS [.int .i64,.int .i64] [.int .i64] fun a K=>X a.1 a.2.1 (fun q0=>K (q0,()))
theorem v7w:MT 97 (w7h j0r):=mS (l:=[]) trivial (by kernel_rfl) [] fun a K=>by kernel_rfl
def j1l(X:q6m):Con Sg:=conS [.sl C.i64,.int .i64] [.vec 197 C.cool] fun a K=>X a.1 a.2.1 (fun q0=>K (q0,()))
theorem w4v:MT 98 (j1l R8):=mS (l:=[]) trivial (by kernel_rfl) [(7,⟨[0,1,4],[],[],[(.slot 5,.own 197 C.cool),sI 6]⟩)] fun a K=>by kernel_rfl
def j33(X:z1c):Con Sg:=conS [.el C.env,.str,.int .i64] [.el C.env,.int .i64] fun a K=>X a.1 a.2.1 a.2.2.1 (fun q0 q1=>K (q0,q1,()))
theorem v4a(Wq:R6)(Qq:Jh)(Jg:U0)(Q9:V0)(j2c:j0q)(q3r:q6m)(Wd:q1h)(h:AL [(87,z1h Wq),(41,Ba Qq),(95,q8p Jg),(96,q8r Q9),(97,w7h j2c),(98,j1l q3r),(92,z61 Wd)]):MT 53 (j33 (j3a Wq Qq Jg Q9 j2c q3r Wd)):=mS h (by kernel_rfl) [(25,⟨bl 4503565166936015,[7,4,2,1,0],[],[sI 15,(.obj 6,.own 3 C.i64)]⟩)] fun a K=>by kernel_rfl
theorem v4b:MT 53 (j33 z1d):=v4a R7 Zr Vi Wl j0r R8 Hn ⟨j30,q2y,z5e,z1g,v7w,w4v,j32,trivial⟩
def w4w(X:j0s):Con Sg:=conV [.ptr 104 [.c,.v],.el C.env,.v] [.ptr 104 [.sl C.u8,.int .i64],.el C.env,.int .i64] [.el C.env] [.ptr 104 [.same,.int .i64],.same,.same] fun a K=>X a.1.1 a.1.2.1 a.2.1 a.2.2.1 (fun q0 q1=>K (q0,()) (((),q1,()),(),(),()))
theorem y1l(Qb:Zf)(Ww:q0s)(Jt:q1t)(z3l:q8j)(z3m:q8l)(z7d:z1c)(h:AL [(49,W2 Qb),(26,z2s Ww),(51,z6w Jt),(50,z9l z3l),(52,z9m z3m),(53,j33 z7d)]):MT 24 (w4w (w3s Qb Ww Jt z3l z3m z7d)):=mP (rk:=[.el C.env]) h (by kernel_rfl) [(26,⟨bl 33537495,[2,1],[(3,(36,8)),(0,(104,2))],[sI 9,(.cell 3 0,.str),(.cell 3 1,.str),(.cell 3 2,.int .i64),(.cell 3 3,.sl C.decl),(.cell 3 4,.sl C.seg),(.cell 3 5,.sl C.flag),(.cell 3 6,.sl C.layer),(.cell 3 7,.sl C.exper),(.cell 0 1,.int .i64)]⟩)] fun _ _=>by kernel_rfl
theorem y1m:MT 24 (w4w j0t):=y1l Zb Wt q1u q8k q8m z1d ⟨Ur,j81,j6k,w90,w92,v4b,trivial⟩
end Go.En
end
noncomputable section
set_option maxRecDepth 100000
open Go Go.RowKit Go.Fl Go.Fl.Lk Go.Fx
namespace Go.En
def Gu(X:q0y):Con Sg:=conS [.sl C.u8,.sl C.u8,.sl C.u8,.bool] [.bool] fun a K=>X a.1 a.2.1 a.2.2.1 a.2.2.2.1 (fun q0=>K (q0,()))
theorem z9n(q65:q2r)(q66:q2t)(Zg:Wn)(J6:Rr)(q9a:j24)(j2d:j0s)(h:AL [(9,z27 q65),(10,z29 q66),(22,q28 Zg),(12,q9q J6),(23,w9u q9a),(24,w4w j2d)]):MT 6 (Gu (q0z q65 q66 Zg J6 q9a j2d)):=mS h (by kernel_rfl) [(13,⟨bl 2143293199,[1,0],[],[(.slot 12,.own 54 C.forced),sI 13]⟩),(31,⟨bl 4685472994997100068623,[6,4,1,0],[(8,(36,8)),(7,(104,2))],[sI 18,(.cell 8 0,.str),(.cell 8 1,.str),(.cell 8 2,.int .i64),(.cell 8 3,.sl C.decl),(.cell 8 4,.sl C.seg),(.cell 8 5,.sl C.flag),(.cell 8 6,.sl C.layer),(.cell 8 7,.sl C.exper),(.cell 7 1,.int .i64)]⟩),(45,⟨bl 1237354428948016566348267023,[20,4,8,7,6,1,0],[],[sI 90]⟩)] fun _ _=>by kernel_rfl
theorem z9o:MT 6 (Gu Jo):=z9n q2s q2u J0 Rs z8w j0t ⟨w4s,w4u,q9r,j4v,v7v,y1m,trivial⟩
end Go.En
end
noncomputable section
set_option maxRecDepth 100000
namespace Go.En
open Go Go.Fl Go.Fl.Lk Go.Fx
theorem Cnd.mk{c A B:Prop}(h:c->A)(k: ¬c->B):Cnd c A B:=⟨h,k⟩
structure DS(list:List Int)(at_:Int):Prop where
 len:list.length<=1000
 lo:0<=at_
 hi:at_<=list.length
 byte: ∀x∈list,0<=x/\x<256
theorem getm{α:Type}{l:List α}{k:Nat}{x:α}(h:l[k]? =some x):x∈l:=List.mem_of_getElem? h
theorem z9p(n:Int):(Go.Utf8.encode n).size<=4:=by
 unfold Go.Utf8.encode
 generalize (if Go.Utf8.valid n then n.toNat else Go.Utf8.runeError)=c
 show (if c<0x80 then _ else if c<0x800 then _ else if c<0x10000 then _ else _:ByteArray).size<=4
 have h1: ∀a:UInt8,(ByteArray.mk #[a]).size<=4:=fun _=>(by decide:1<=4)
 have h2: ∀a b:UInt8,(ByteArray.mk #[a,b]).size<=4:=fun _ _=>(by decide:2<=4)
 have h3: ∀a b c:UInt8,(ByteArray.mk #[a,b,c]).size<=4:=fun _ _ _=>(by decide:3<=4)
 have h4: ∀a b c d:UInt8,(ByteArray.mk #[a,b,c,d]).size<=4:=fun _ _ _ _=>(by decide:4<=4)
 split
 ·exact h1 _
 ·split
  ·exact h2 _ _
  ·split
   ·exact h3 _ _ _
   ·exact h4 _ _ _ _
theorem Qh{list:List Int}{at_ n:Int}{K:Int->Int->Prop}(hD:DS list at_)(hn:1<=n)(h: ∀r a,0<=r->r<n->DS list a->K r a):Zb list at_ n K:=by
 obtain⟨h1,h2,h3,h4⟩:=hD
 unfold Zb w3k j6g
 refine fun _=>Cnd.mk (fun hl=> ?_) (fun _=>h _ _ (by omega) (by omega) ⟨h1,h2,h3,h4⟩)
 have hl:=of_decide_eq_true hl
 refine⟨by unfold InI;omega,by unfold InI;omega,by omega,fun y hy=>⟨by unfold InI;have:=h4 _ (getm hy);omega,by omega,?_⟩⟩
 obtain⟨a,b⟩:=h4 _ (getm hy)
 exact h _ _ (Int.tmod_nonneg _ a) (by have:=Int.tmod_lt_of_pos y (b:=n) (by omega);omega) ⟨h1,by omega,by omega,h4⟩
theorem q29{list:List Int}{at_ n:Int}{K:Int->Int->Prop}(hD:DS list at_)(hn:1<=n)(h: ∀r a,0<=r->r<n->DS list a->K r a):q1u list at_ n K:=by
 unfold q1u w3m
 refine Qh hD (by decide) fun r a r0 r1 hD=>⟨by unfold InI;omega,Qh hD (by decide) fun s b s0 s1 hD=>⟨by unfold InI;omega,by omega,?_⟩⟩
 exact h _ _ (Int.tmod_nonneg _ (by omega)) (by have:=Int.tmod_lt_of_pos (256*r+s) (b:=n) (by omega);omega) hD
theorem j1m{n:Int}{l:List ByteArray}{K:List ByteArray->Prop}(h0:0<=n)(h1:n<=l.length)(h:K (l.take n.toNat)):z6m n l K:=⟨⟨h0,h1⟩,h⟩
theorem z1i{list:List Int}{at_:Int}{K:ByteArray->Int->Prop}(hD:DS list at_)(h: ∀r a,r∈j0d->DS list a->K r a):q1s list at_ K:=by
 unfold q1s w3l
 exact Qh hD (by decide) fun r a r0 r1 hD=>⟨⟨r0,r1⟩,fun y hy=>h _ _ (getm hy) hD⟩
theorem sz_k(n:Int):(ByteArray.mk (Array.mk [107])++Go.Utf8.encode n).size<=5:=by
 rw[ByteArray.size_append];have:=z9p n;show 1+_<=5;omega
theorem v1y{list:List Int}{at_:Int}{K:ByteArray->Int->Prop}(hD:DS list at_)(h: ∀r a,r.size<=5->DS list a->K r a):z8j list at_ K:=by
 unfold z8j w83
 refine Qh hD (by decide) fun r a r0 r1 hD=>⟨by unfold InI;omega,?_,h _ _ (sz_k _) hD⟩
 have:=z9p (Go.IntKind.i32.wrap (48+r));have e:(ByteArray.mk (Array.mk [107])).size=1:=rfl;omega
theorem j9g{list:List Int}{at_:Int}{K:List ByteArray->Int->Prop}(hD:DS list at_)(h: ∀r a,r.length<=3->(∀s∈r,s.size<=5)->DS list a->K r a):z1y list at_ K:=by
 unfold z1y w3n
 refine Qh hD (by decide) fun n a n0 n1 hD=> ?_
 refine Lp3.ind (fun l i a=>DS list a/\0<=i/\i<=3/\(l.length:Int)=i/\ ∀s∈l,s.size<=5) (fun _ i _=>(3 - i).toNat) ?_ ⟨hD,by decide,by decide,rfl,by simp⟩
 rintro l i a ⟨hD,i0,i3,hl,hs⟩
 refine Qh hD (by decide) fun r a r0 r1 hD=>Cnd.mk (fun hc=> ?_) (fun hc=> ?_)
 ·have:=z9p (Go.IntKind.i32.wrap ((48:Int)+(n+i).tmod 10));have e:(ByteArray.mk (Array.mk [107])).size=1:=rfl
  have m0:=Int.tmod_nonneg 10 (show 0<=n+i by omega);have m1:=Int.tmod_lt_of_pos (n+i) (b:=10) (by decide)
  refine⟨by unfold InI;omega,by decide,by unfold InI;omega,by omega,by unfold Sml;simp;omega,by unfold InI;omega,⟨hD,by omega,by omega,by simp;omega,fun s hm=> ?_⟩,by omega⟩
  rcases List.mem_append.1 hm with hm|hm
  ·exact hs s hm
  ·rw[List.mem_singleton.1 hm];exact sz_k _
 ·refine Lp2.ind (fun (i:Int) (m:List ByteArray)=>m=l/\1<=i/\i<=1+l.length) (fun (i:Int) _=>(1+l.length - i).toNat) ?_ ⟨rfl,by decide,by omega⟩
  rintro i m ⟨rfl,i0,i1⟩ _
  refine Cnd.mk (fun hc=>⟨by omega,fun y hy=>⟨by unfold InI;omega,by omega,fun z hz=>Cnd.mk (fun _=>⟨by unfold InI;omega,⟨rfl,by omega,by omega⟩,by omega⟩) (fun _=>⟨by omega,h _ _ (by simp;omega) (fun s hm=>hs s (List.mem_of_mem_take hm)) hD⟩)⟩⟩) (fun _=>h _ _ (by omega) hs hD)
theorem sz0:(ByteArray.mk (Array.mk ([]:List UInt8))).size<=100:=by decide
structure ValS(v:Val):Prop where
 num:InI v.number
 txt:v.text.size<=100
 len:v.list.length<=10
 txs: ∀s∈v.list,s.size<=100
theorem q7d{list:List Int}{at_ kind:Int}{K:Val->Int->Prop}(hD:DS list at_)(h: ∀r a,ValS r->DS list a->K r a):Uu list at_ kind K:=by
 unfold Uu j0e
 have tt: ∀s∈j0d,s.size<=100:=by decide
 have tv: ∀s∈z4e,s.size<=100:=by decide
 have tl: ∀l∈j7s,l.length<=10/\ ∀s∈l,s.size<=100:=by decide
 refine Cnd.mk (fun _=> ?_) fun _=>Cnd.mk (fun _=>fun _=> ?_) fun _=>Cnd.mk (fun _=> ?_) fun _=>Cnd.mk (fun _=> ?_) fun _=> ?_
 ·exact Qh hD (by decide) fun r a r0 r1 hD=>h _ _ ⟨by unfold InI;simp only;omega,sz0,by simp,by simp⟩ hD
 ·refine Qh hD (by decide) fun r a r0 r1 hD=>⟨⟨r0,r1⟩,fun y hy=>h _ _ ⟨?_,sz0,by simp,by simp⟩ hD⟩
  have:=getm hy
  have k: ∀y∈[(0:Int),(1:Int),(17:Int),(18:Int),(19:Int),(-5:Int),(64:Int),(1099511627776:Int),(-1099511627776:Int)], -9223372036854775808<=y/\y<=9223372036854775807:=by decide
  exact k y this
 ·exact z1i hD fun r a hr hD=>h _ _ ⟨by unfold InI;simp,tt _ hr,by simp,by simp⟩ hD
 ·exact Qh hD (by decide) fun r a r0 r1 hD=>⟨⟨r0,r1⟩,fun y hy=>h _ _ ⟨by unfold InI;simp,tv _ (getm hy),by simp,by simp⟩ hD⟩
 ·refine Qh hD (by decide) fun r a r0 r1 hD=>⟨⟨r0,r1⟩,fun y hy=> ?_⟩
  obtain⟨a1,a2⟩:=tl _ (getm hy)
  exact⟨by unfold Sml;simp;omega,h _ _ ⟨by unfold InI;simp,sz0,by simpa using a1,by simpa using a2⟩ hD⟩
structure VsS(l:List Val):Prop where
 len:l.length<=4
 all: ∀v∈l,ValS v
theorem VsS.nil:VsS []:=⟨by simp,by simp⟩
theorem VsS.one{v:Val}(h:ValS v):VsS [v]:=⟨by simp,by simpa using h⟩
def ExS:Nat->Ex->Prop
 |0,e=>VsS e.values/\(e.name.size<=100/\e.kind.size<=100)/\(InI e.op/\(2<=e.op->e.op<=4->e.kids≠[]))/\e.kids=[]
 |n+1,e=>VsS e.values/\(e.name.size<=100/\e.kind.size<=100)/\(InI e.op/\(2<=e.op->e.op<=4->e.kids≠[]))/\e.kids.length<=3/\ ∀k∈e.kids,ExS n k
theorem ExS.up: ∀{n:Nat} {e:Ex},ExS n e->ExS (n+1) e
 |0,e,h=>⟨h.1,h.2.1,h.2.2.1,by rw[h.2.2.2];simp,by rw[h.2.2.2];simp⟩
 |n+1,e,h=>⟨h.1,h.2.1,h.2.2.1,h.2.2.2.1,fun k hk=>(h.2.2.2.2 k hk).up⟩
theorem ExS.le{n m:Nat}{e:Ex}(h:ExS n e)(hm:n<=m):ExS m e:=by
 induction hm with
 |refl=>exact h
 |step _ ih=>exact ih.up
theorem ExS.kids{n:Nat}{e:Ex}(h:ExS n e):e.kids.length<=3:=by
 cases n with
 |zero=>rw[h.2.2.2];simp
 |succ n=>exact h.2.2.2.1
theorem ExS.kid{n:Nat}{e k:Ex}(h:ExS n e)(hk:k∈e.kids): ∃m,m+1=n/\ExS m k:=by
 cases n with
 |zero=>rw[h.2.2.2] at hk;simp at hk
 |succ n=>exact⟨n,rfl,h.2.2.2.2 k hk⟩
theorem ExS.vals{n:Nat}{e:Ex}(h:ExS n e):VsS e.values:=by cases n<;>exact h.1
theorem ExS.nm{n:Nat}{e:Ex}(h:ExS n e):e.name.size<=100:=by cases n<;>exact h.2.1.1
theorem ExS.kd{n:Nat}{e:Ex}(h:ExS n e):e.kind.size<=100:=by cases n<;>exact h.2.1.2
theorem ExS.opK{n:Nat}{e:Ex}(h:ExS n e):2<=e.op->e.op<=4->e.kids≠[]:=by cases n<;>exact h.2.2.1.2
def OpL(op:Int):Prop:=InI op/\ ¬(2<=op/\op<=4)
theorem OpL.ok{op:Int}(h:OpL op){l:List Ex}:InI op/\(2<=op->op<=4->l≠[]):=⟨h.1,fun a b=>absurd ⟨a,b⟩ h.2⟩
theorem opl{op:Int}(h:(6<=op/\op<=100)∨op=0∨op=1∨op=5){l:List Ex}:InI op/\(2<=op->op<=4->l≠[]):=⟨by unfold InI;omega,fun a b=>by omega⟩
theorem q3a{K:List Decl->Prop}(h: ∀l,l.length=8->(∀d∈l,d.kind.size<=100/\d.name.size<=100/\1<=d.type/\d.type<=5)->K l):J3 K:=by
 unfold J3
 exact h _ rfl (by decide)
theorem w7i{list:List Int}{at_:Int}{K:Ex->Int->Prop}(hD:DS list at_)(h: ∀r a,ExS 0 r->6<=r.op->DS list a->K r a):z6n list at_ K:=by
 unfold z6n w3o
 refine q3a fun l hl hd _=>⟨by unfold InI;omega,Qh hD (by omega) fun r a r0 r1 hD _=>Cnd.mk (fun _=> ?_) fun hc=>⟨by omega,fun y hy=> ?_⟩⟩
 ·exact v1y hD fun s a hs hD=>h _ _ ⟨.one ⟨by unfold InI;simp,by show s.size<=100;omega,by simp,by simp⟩,⟨(by decide:(ByteArray.mk (Array.mk [107,101,121])).size<=100),(by decide:(ByteArray.mk (Array.mk [117,115,101,114])).size<=100)⟩,opl (by simp),rfl⟩ (by simp) hD
 obtain⟨hy0,hy1,hy2,hy3⟩:=hd y (getm hy)
 have one: ∀{op:Int} {v:Val},OpL op->ValS v->ExS 0 (Ex.mk op y.kind y.name [v] []):=fun ho hv=>⟨.one hv,⟨hy1,hy0⟩,ho.ok,rfl⟩
 refine Jn1.mk (fun x=>(∃b,x=(b,y.kind,y.name,([]:List Val),([]:List Ex),x.2.2.2.2.2.1,0,ByteArray.mk (Array.mk []),ByteArray.mk (Array.mk []),[],[],()))/\DS list x.2.2.2.2.2.1) ?_ ?_
 case refine_2=>
  rintro x ⟨⟨b,hx⟩,hD⟩
  refine q7d hD fun v a hv hD=>h _ _ ?_ (by simp) hD
  rw[hx]
  exact one ⟨by unfold InI;simp,by decide⟩ hv
 refine Qh hD (by decide) fun q a q0 q1 hD=> ?_
 refine Jn1.mk (fun x=>(∃b,x=(x.1,b,y.kind,y.name,([]:List Val),([]:List Ex),0,ByteArray.mk (Array.mk []),ByteArray.mk (Array.mk []),[],[],()))/\DS list x.1) ?_ ?_
 case refine_2=>
  rintro x ⟨⟨b,hx⟩,hD⟩
  have cmp:Zb list x.1 4 fun r a=>InI (12+r)/\Uu list a y.3 fun v a=>K (Ex.mk (12+r) x.2.2.1 x.2.2.2.1 [v] x.2.2.2.2.2.1) a:=by
   refine Qh hD (by decide) fun r a r0 r1 hD=>⟨by unfold InI;omega,q7d hD fun v a hv hD=>h _ _ ?_ (by simp only;omega) hD⟩
   rw[hx]
   exact one ⟨by unfold InI;omega,by omega⟩ hv
  refine Cnd.mk (fun _=>cmp) fun _=>Cnd.mk (fun _=>cmp) fun _=>Cnd.mk (fun _=>cmp) fun _=> ?_
  refine⟨⟨b,?_⟩,hD⟩
  rw[hx]
 have nx: ∀{a:Int},DS list a->(fun x:Int×ByteArray×ByteArray×List Val×List Ex×Int×Int×ByteArray×ByteArray×List Val×List Ex×Unit=>(∃b,x=(b,y.kind,y.name,([]:List Val),([]:List Ex),x.2.2.2.2.2.1,0,ByteArray.mk (Array.mk []),ByteArray.mk (Array.mk []),[],[],()))/\DS list x.2.2.2.2.2.1) ((0:Int),y.1,y.2,[],[],a,(0:Int),ByteArray.mk (Array.mk []),ByteArray.mk (Array.mk []),[],[],()):=fun hD=>⟨⟨0,rfl⟩,hD⟩
 refine Cnd.mk (fun _=>h _ _ ⟨.nil,⟨hy1,hy0⟩,opl (by simp),rfl⟩ (by simp) hD) fun _=>Cnd.mk (fun _=> ?_) fun _=>Cnd.mk (fun _=> ?_) fun _=>Cnd.mk (fun _=> ?_) fun _=>Cnd.mk (fun _=> ?_) fun _=>nx hD
 ·refine Cnd.mk (fun _=>nx hD) fun _=> ?_
  refine Lp3.ind (fun i l a=>DS list a/\0<=i/\i<=3/\(l.length:Int)=i/\ ∀v∈l,ValS v) (fun i _ _=>(3 - i).toNat) ?_ ⟨hD,by decide,by decide,rfl,by simp⟩
  rintro i l a ⟨hD,i0,i3,hl,hv⟩
  refine Qh hD (by decide) fun r a r0 r1 hD=>Cnd.mk (fun hc=>q7d hD fun v a hv' hD=>⟨by unfold Sml;simp;omega,by unfold InI;omega,⟨hD,by omega,by omega,by simp;omega,fun u hu=> ?_⟩,by omega⟩) (fun hc=>h _ _ ⟨⟨by simp only;omega,hv⟩,⟨hy1,hy0⟩,opl (by simp),rfl⟩ (by simp) hD)
  rcases List.mem_append.1 hu with hu|hu
  ·exact hv u hu
  ·rw[List.mem_singleton.1 hu];exact hv'
 ·have c:Uu list a 3 fun v a=>K (Ex.mk 11 y.1 y.2 [v] []) a:=q7d hD fun v a hv hD=>h _ _ (one ⟨by unfold InI;simp,by decide⟩ hv) (by simp) hD
  exact Cnd.mk (fun _=>c) fun _=>Cnd.mk (fun _=>c) fun _=>nx hD
 ·exact Cnd.mk (fun _=>Qh hD (by decide) fun r a r0 r1 hD=>⟨by unfold InI;omega,q7d hD fun v a hv hD=>h _ _ (one ⟨by unfold InI;omega,by omega⟩ hv) (by simp only;omega) hD⟩) fun _=>⟨⟨0,rfl⟩,hD⟩
 ·exact⟨⟨0,rfl⟩,hD⟩
theorem ExS.eta{n:Nat}{e:Ex}(h:ExS n e):ExS n (Ex.mk e.op e.kind e.name e.values e.kids):=by cases e;exact h
theorem y78{n:Nat}{e:Ex}(h:ExS n e){k m:ByteArray}(hm:m.size<=100)(hk:k.size<=100):ExS (n+1) (Ex.mk 4 k m [] [e]):=⟨.nil,⟨hm,hk⟩,⟨InI.mk (by simp) (by simp),fun _ _=>by simp⟩,by simp,by simpa using h⟩
structure SegS(g:Seg):Prop where
 key:g.key.size<=100
 kind:g.kind.size<=100
 incl:g.incl.length<=3
 excl:g.excl.length<=3
 cond:ExS 4 g.cond
theorem Js{α:Type}{P:α->Prop}{l:List α}{x:α}(h: ∀y∈l,P y)(hx:P x): ∀y∈l++[x],P y:=fun y hy=>by
 rcases List.mem_append.1 hy with hy|hy
 ·exact h y hy
 ·rw[List.mem_singleton.1 hy];exact hx
theorem z3u{v:Envt}{K:List ByteArray->Prop}(hl:v.segments.length<=1000)(h:K (v.segments.map Seg.key)):H1 v K:=by
 unfold H1
 refine Lp2.ind (fun (l:List ByteArray) (i:Int)=>0<=i/\i<=v.segments.length/\l=(v.segments.take i.toNat).map Seg.key) (fun _ (i:Int)=>(v.segments.length - i).toNat) ?_ ⟨Int.le_refl 0,by omega,by simp⟩
 rintro l i ⟨i0,i1,rfl⟩ _
 refine Cnd.mk (fun hc=>⟨by omega,fun y hy=>⟨by unfold Sml;simp;omega,by unfold InI;omega,⟨by omega,by omega,?_⟩,by omega⟩⟩) fun hc=> ?_
 ·rw[show (i+1).toNat=i.toNat+1 by omega,List.take_add_one,hy];simp
 ·rw[List.take_of_length_le (by omega)];exact h
def SplS(n:Int)(l:List Rng):Prop:=l.length<=4/\ ∀r∈l,0<=r.lo/\r.hi<=10000/\1<=r.variation/\r.variation<=n
structure SrvS(n:Int)(s:Srv):Prop where
 kind:s.kind.size<=100
 var:0<=s.variation/\s.variation<=n
 split:SplS n s.split
 by_:s.by_.size<=100
 salt:s.salt.size<=100
structure LayS(l:Lay_):Prop where
 key:l.key.size<=100
 kind:l.kind.size<=100
 salt:l.salt.size<=100
 hold:0<=l.holdout/\l.holdout<=10000
 cool:0<=l.cool/\l.cool<=100
theorem v4c{list:List Int}{at_:Int}{key:ByteArray}{K:Lay_->Int->Prop}(hD:DS list at_)(hk:key.size<=100)(h: ∀l a,LayS l->l.key=key->DS list a->K l a):z4l list at_ key K:=by
 unfold z4l j7x
 have tt: ∀s∈j0d,s.size<=100:=by decide
 refine z1i hD fun t a ht hD=>Qh hD (by decide) fun c a c0 c1 hD=>⟨by unfold InI;omega,?_⟩
 refine Jn2.mk (fun k a=>k.size<=100/\DS list a) (Qh hD (by decide) fun r a r0 r1 hD=>Cnd.mk (fun _=>⟨by decide,hD⟩) fun _=>⟨by decide,hD⟩) fun kind a hx=> ?_
 obtain⟨hkd,hD⟩:=hx
 refine Jn2.mk (fun x a=>DS list a/\0<=x/\x<=10000) (Qh hD (by decide) fun r a r0 r1 hD=>Cnd.mk (fun _=>q29 hD (by decide) fun w a w0 w1 hD=>⟨hD,by omega,by omega⟩) fun _=>⟨hD,by omega,by omega⟩) fun hold a hx=> ?_
 obtain⟨hD,x0,x1⟩:=hx
 have ok: ∀{cs:List Col},LayS (Lay_.mk key kind t hold (c*50) cs):=⟨hk,hkd,tt _ ht,⟨x0,x1⟩,⟨by simp only;omega,by simp only;omega⟩⟩
 refine Lp4.ind (fun at_ i cs a=>DS list a/\0<=i/\i<=2/\(cs.length:Int)=i/\0<=at_/\at_<=10000/\ ∀c∈cs,0<=c.lo/\c.hi<=10000/\0<=c.until_/\c.until_<=200) (fun _ i _ _=>(2 - i).toNat) ?_ ⟨hD,by omega,by omega,rfl,by omega,by omega,by simp⟩
 rintro at_ i cs a ⟨hD,i0,i1,hl,a0,a1,hc⟩
 refine Qh hD (by decide) fun q a q0 q1 hD=>Cnd.mk (fun _=>q29 hD (by decide) fun w a w0 w1 hD=>⟨by unfold InI;omega,by unfold InI;omega,q29 hD (by decide) fun w' a w0' w1' hD=>⟨by unfold InI;omega,Cnd.mk (fun _=>h _ _ ok rfl hD) fun _=> ?_⟩⟩) fun _=>h _ _ ok rfl hD
 refine Qh hD (by decide) fun u a u0 u1 hD=>⟨by unfold Sml;simp;omega,by unfold InI;omega,⟨hD,by omega,by omega,by simp;omega,by omega,by omega,Js hc ⟨by simp only;omega,by simp only;omega,by simp only;omega,by simp only;omega⟩⟩,by omega⟩
structure SpsS(l:List Spn):Prop where
 len:l.length<=10000
 all: ∀s∈l,0<=s.lo/\s.lo<s.hi/\s.hi<=10000
structure RulS(n:Int)(r:Rul):Prop where
 name:r.name.size<=100
 cond:ExS 4 r.cond
 serve:SrvS n r.serve
structure FlgS(f:Flg):Prop where
 key:f.key.size<=100
 vlen:1<=f.variations.length/\f.variations.length<=4
 vals: ∀v∈f.variations,ValS v
 nlen:f.needs.length<=4
 needs: ∀q∈f.needs,q.flag.size<=100
 tlen:f.targets.length<=3
 tgts: ∀t∈f.targets,t.kind.size<=100
 rlen:f.rules.length<=4
 rules: ∀r∈f.rules,RulS f.variations.length r
 dflt:SrvS f.variations.length f.dflt
structure ExpS(x:Exper):Prop where
 key:x.key.size<=100
 layer:x.layer.size<=100
 flag:x.flag.size<=100
 claims:SpsS x.claims
 arms:SplS 4 x.arms
 cond:ExS 4 x.cond
structure EnvS(v:Envt):Prop where
 hkind:v.settings.holdoutKind.size<=100
 attrs: ∀d∈v.attributes,d.kind.size<=100/\d.name.size<=100
 slen:v.segments.length<=3
 segs: ∀g∈v.segments,SegS g
 flen:v.flags.length<=4
 flags: ∀f∈v.flags,FlgS f
 llen:v.layers.length<=2
 layers: ∀l∈v.layers,LayS l
 xlen:v.experiments.length<=3
 exps: ∀x∈v.experiments,ExpS x
end Go.En
end
noncomputable section
set_option maxRecDepth 100000
namespace Go.En
open Go Go.Fl Go.Fl.Lk Go.Fx
abbrev S4:=Int×Int×Int×Int
def w64(x:Int):Int:=Go.IntKind.u64.wrap x
def xr(a b:Int):Int:=Go.IntKind.u64.wrap ((BitVec.ofInt 64 a ^^^ BitVec.ofInt 64 b).toNat:Int)
def rot(x n:Int):Int:=Go.IntKind.u64.wrap ((BitVec.ofInt 64 (Go.IntKind.u64.wrap (x*2 ^ Min.min n.toNat 64))|||BitVec.ofInt 64 (x.fdiv (2 ^ Min.min (Go.IntKind.u64.wrap (64 - n)).toNat 64))).toNat:Int)
def rnd(s:S4):S4:=
  (w64 (rot (w64 (s.1+s.2.1)) 32+xr (rot s.2.2.2 16) (w64 (s.2.2.1+s.2.2.2))),
   xr (rot (xr (rot s.2.1 13) (w64 (s.1+s.2.1))) 17) (w64 (w64 (s.2.2.1+s.2.2.2)+xr (rot s.2.1 13) (w64 (s.1+s.2.1)))),
   rot (w64 (w64 (s.2.2.1+s.2.2.2)+xr (rot s.2.1 13) (w64 (s.1+s.2.1)))) 32,
   xr (rot (xr (rot s.2.2.2 16) (w64 (s.2.2.1+s.2.2.2))) 21) (w64 (rot (w64 (s.1+s.2.1)) 32+xr (rot s.2.2.2 16) (w64 (s.2.2.1+s.2.2.2)))))
def rn:Nat->S4->S4
  |0,s=>s
  |k+1,s=>rnd (rn k s)
def tm(y:Int)(k:Nat):BitVec 64:=BitVec.ofInt 64 (Go.IntKind.u64.wrap (Go.IntKind.u64.wrap y*2 ^ Min.min (8*k) 64))
def wv(b:List Int)(o:Nat)(v:BitVec 64):Nat->BitVec 64
  |0=>v
  |k+1=>wv b o v k|||tm (b.getD (o+k) 0) k
def s0(k0 k1:Int):S4:=(xr k0 8317987319222330741,xr k1 7237128888997146477,xr k0 7816392313619706465,xr k1 8387220255154660723)
def topV(n:Nat):BitVec 64:=BitVec.ofInt 64 (Go.IntKind.u64.wrap (Go.IntKind.u64.wrap (n:Int)*2 ^ Min.min (Int.toNat 56) 64))
def y1n(b:List Int):BitVec 64:=wv b (8*(b.length / 8)) 0 (b.length % 8)|||topV b.length
theorem j9h(x:Int):Go.IntKind.u64.wrap x=x % 18446744073709551616:=rfl
theorem y5m(x:Int):Go.IntKind.u64.wrap x=((BitVec.ofInt 64 (Go.IntKind.u64.wrap x)).toNat:Int):=by
  rw[BitVec.toNat_ofInt,j9h]
  omega
theorem j1n{n:Nat}(h:n<18446744073709551616):Go.IntKind.u64.wrap (n:Int)=n:=by
  show (n:Int) % 18446744073709551616=n
  omega
theorem v7x(v:BitVec 64):BitVec.ofInt 64 ((v.toNat:Nat):Int)=v:=by simp
theorem y1o(v t:BitVec 64):Go.IntKind.u64.wrap ((BitVec.ofInt 64 ((v.toNat:Nat):Int)|||t).toNat:Int)=((v|||t).toNat:Int):=by
  rw[v7x];exact j1n (v|||t).isLt
theorem j34{x k:Int}{K:Int->Prop}(hk:k=13∨k=16∨k=17∨k=21∨k=32)(h:K (rot x k)):Vk x k K:=by
  have e:Go.IntKind.u64.wrap (↑(BitVec.ofInt 64 (Go.IntKind.u64.wrap k) &&& BitVec.ofInt 64 63).toNat:Int)=k:=by rcases hk with rfl|rfl|rfl|rfl|rfl<;>decide
  have e2:0<=Go.IntKind.u64.wrap (64 - k):=by rcases hk with rfl|rfl|rfl|rfl|rfl<;>decide
  unfold Vk
  rw[e]
  exact⟨by omega,e2,h⟩
theorem z62{x k:Int}{K:Int->Prop}(hk:k=13∨k=16∨k=17∨k=21∨k=32)(h:K (rot x k)):q8f x k K:=by
  have e2:0<=Go.IntKind.u64.wrap (64 - k):=by rcases hk with rfl|rfl|rfl|rfl|rfl<;>decide
  unfold q8f
  exact⟨by omega,e2,h⟩
theorem v7y(s:S4)(i:Int)(h:0<=i):rnd (rn i.toNat s)=rn (i+1).toNat s:=by
  rw[show (i+1).toNat=i.toNat+1 by omega];rfl
theorem v4d{a b c d n:Int}{q:Nat}{K:Int->Int->Int->Int->Prop}(hn:n=(q:Int))(h1:q<=1000)(h:K (rn q (a,b,c,d)).1 (rn q (a,b,c,d)).2.1 (rn q (a,b,c,d)).2.2.1 (rn q (a,b,c,d)).2.2.2):Zc a b c d n K:=by
  subst hn
  unfold Zc Bq
  refine Lp5.ind (fun i a' b' c' d'=>0<=i/\i<=(q:Int)/\(a',b',c',d')=rn i.toNat (a,b,c,d)) (fun i _ _ _ _=>((q:Int) - i).toNat) ?_ ⟨Int.le_refl 0,by omega,rfl⟩
  rintro i a' b' c' d' ⟨i0,i1,hs⟩
  refine Cnd.mk (fun hc=>j34 (by simp) (j34 (by simp) (j34 (by simp) (j34 (by simp) (j34 (by simp) (j34 (by simp) ⟨by unfold InI;omega,⟨by omega,by omega,?_⟩,by omega⟩)))))) fun hc=> ?_
  · rw[←v7y _ _ i0,←hs];simp only[rnd,w64,xr]
  · rw[show q=i.toNat by omega,←hs] at h;exact h
theorem w7j{v:Sip}{n:Int}{q:Nat}{K:Sip->Prop}(hn:n=(q:Int))(h1:q<=1000)(h:K (Sip.mk (rn q (v.1,v.2,v.3,v.4)).1 (rn q (v.1,v.2,v.3,v.4)).2.1 (rn q (v.1,v.2,v.3,v.4)).2.2.1 (rn q (v.1,v.2,v.3,v.4)).2.2.2)):Z1 v n K:=by
  subst hn
  unfold Z1 q54
  refine Lp5.ind (fun i a' b' c' d'=>0<=i/\i<=(q:Int)/\(a',b',c',d')=rn i.toNat (v.1,v.2,v.3,v.4)) (fun i _ _ _ _=>((q:Int) - i).toNat) ?_ ⟨Int.le_refl 0,by omega,rfl⟩
  rintro i a' b' c' d' ⟨i0,i1,hs⟩
  refine Cnd.mk (fun hc=>z62 (by simp) (z62 (by simp) (z62 (by simp) (z62 (by simp) (z62 (by simp) (z62 (by simp) ⟨by unfold InI;omega,⟨by omega,by omega,?_⟩,by omega⟩)))))) fun hc=> ?_
  · rw[←v7y _ _ i0,←hs];simp only[rnd,w64,xr]
  · rw[show q=i.toNat by omega,←hs] at h;exact h
theorem exR: ∃R:Nat->S4->S4,(∀(a b c d n:Int) (q:Nat) (K:Int->Int->Int->Int->Prop),n=(q:Int)->q<=1000->K (R q (a,b,c,d)).1 (R q (a,b,c,d)).2.1 (R q (a,b,c,d)).2.2.1 (R q (a,b,c,d)).2.2.2->Zc a b c d n K)/\
    ∀(v:Sip) (n:Int) (q:Nat) (K:Sip->Prop),n=(q:Int)->q<=1000->K (Sip.mk (R q (v.1,v.2,v.3,v.4)).1 (R q (v.1,v.2,v.3,v.4)).2.1 (R q (v.1,v.2,v.3,v.4)).2.2.1 (R q (v.1,v.2,v.3,v.4)).2.2.2)->Z1 v n K:=
  ⟨rn,fun _ _ _ _ _ _ _ hn hq h=>v4d hn hq h,fun _ _ _ _ hn hq h=>w7j hn hq h⟩
def RR:Nat->S4->S4:=Classical.choose exR
theorem w7k{a b c d n:Int}{q:Nat}{K:Int->Int->Int->Int->Prop}(hn:n=(q:Int))(h1:q<=1000)(h:K (RR q (a,b,c,d)).1 (RR q (a,b,c,d)).2.1 (RR q (a,b,c,d)).2.2.1 (RR q (a,b,c,d)).2.2.2):Zc a b c d n K:=(Classical.choose_spec exR).1 a b c d n q K hn h1 h
theorem j9i{v:Sip}{n:Int}{q:Nat}{K:Sip->Prop}(hn:n=(q:Int))(h1:q<=1000)(h:K (Sip.mk (RR q (v.1,v.2,v.3,v.4)).1 (RR q (v.1,v.2,v.3,v.4)).2.1 (RR q (v.1,v.2,v.3,v.4)).2.2.1 (RR q (v.1,v.2,v.3,v.4)).2.2.2)):Z1 v n K:=(Classical.choose_spec exR).2 v n q K hn h1 h
def wds(s:S4)(m:Int):S4:=(xr (RR 2 (s.1,s.2.1,s.2.2.1,xr s.2.2.2 m)).1 m,(RR 2 (s.1,s.2.1,s.2.2.1,xr s.2.2.2 m)).2)
def blks(b:List Int)(k0 k1:Int):Nat->S4
  |0=>s0 k0 k1
  |i+1=>wds (blks b k0 k1 i) ((wv b (8*i) 0 8).toNat:Int)
def fin4(s:S4):S4:=RR 4 (s.1,s.2.1,xr s.2.2.1 255,s.2.2.2)
def endV(s:S4):Int:=xr (xr (xr (fin4 s).1 (fin4 s).2.1) (fin4 s).2.2.1) (fin4 s).2.2.2
def sumV(k0 k1:Int)(b:List Int):Int:=
  endV (wds (blks b k0 k1 (b.length / 8)) ((y1n b).toNat:Int))
theorem v7z{a b c d m:Int}{K:Int->Int->Int->Int->Prop}(h:K (wds (a,b,c,d) m).1 (wds (a,b,c,d) m).2.1 (wds (a,b,c,d) m).2.2.1 (wds (a,b,c,d) m).2.2.2):V8 a b c d m K:=by
  unfold V8 q2a
  simp only[wds,xr] at h
  exact w7k (q:=2) rfl (by decide) h
theorem y5n{s:S4}{K:Int->Prop}(h:K (endV s)):Zc s.1 s.2.1 (Go.IntKind.u64.wrap (↑(BitVec.ofInt 64 s.2.2.1 ^^^ BitVec.ofInt 64 255).toNat:Int)) s.2.2.2 4 fun Q4 z32 y3t y6j=>K (Go.IntKind.u64.wrap (↑(BitVec.ofInt 64 (Go.IntKind.u64.wrap (↑(BitVec.ofInt 64 (Go.IntKind.u64.wrap (↑(BitVec.ofInt 64 Q4 ^^^ BitVec.ofInt 64 z32).toNat:Int)) ^^^ BitVec.ofInt 64 y3t).toNat:Int)) ^^^ BitVec.ofInt 64 y6j).toNat:Int)):=by
  simp only[endV,fin4,xr] at h
  exact w7k (q:=4) rfl (by decide) h
theorem v70{s:S4}{K:Int->Prop}(h:K (endV s)):Z1 (Sip.mk s.1 s.2.1 (Go.IntKind.u64.wrap (↑(BitVec.ofInt 64 s.2.2.1 ^^^ BitVec.ofInt 64 255).toNat:Int)) s.2.2.2) 4 fun x=>K (Go.IntKind.u64.wrap (↑(BitVec.ofInt 64 (Go.IntKind.u64.wrap (↑(BitVec.ofInt 64 (Go.IntKind.u64.wrap (↑(BitVec.ofInt 64 x.1 ^^^ BitVec.ofInt 64 x.2).toNat:Int)) ^^^ BitVec.ofInt 64 x.3).toNat:Int)) ^^^ BitVec.ofInt 64 x.4).toNat:Int)):=by
  simp only[endV,fin4,xr] at h
  exact j9i (q:=4) rfl (by decide) h
theorem v71{a b c d m:Int}{K:Sip->Prop}(h: ∀x:Sip,(Go.IntKind.u64.wrap (↑(BitVec.ofInt 64 x.1 ^^^ BitVec.ofInt 64 m).toNat:Int),x.2,x.3,x.4)=wds (a,b,c,d) m->K x):Z1 (Sip.mk a b c (Go.IntKind.u64.wrap (↑(BitVec.ofInt 64 d ^^^ BitVec.ofInt 64 m).toNat:Int))) 2 K:=by
  refine j9i (q:=2) rfl (by decide) (h _ ?_)
  simp only[wds,xr]
theorem y79(b:List Int)(o:Nat)(v:BitVec 64): ∀k,wv b o v k=wv b o 0 k|||v
  |0=>by simp[wv]
  |k+1=>by
    rw[wv,wv,y79 b o v k,BitVec.or_assoc,BitVec.or_comm v,←BitVec.or_assoc]
theorem w93{b:List Int}{o k:Nat}{v:BitVec 64}{y:Int}(hy:b[o+k]? =some y):wv b o v (k+1)=wv b o v k|||tm y k:=by
  rw[wv,List.getD_eq_getElem?_getD,hy];rfl
theorem y5o(n:Nat):topV n=BitVec.ofInt 64 (Go.IntKind.u64.wrap (Go.IntKind.u64.wrap ((n:Int).tmod 256)*2 ^ Min.min (Int.toNat 56) 64)):=by
  have e:(2:Int) ^ Min.min (Int.toNat 56) 64=72057594037927936:=by decide
  have h2:Go.IntKind.u64.wrap (Go.IntKind.u64.wrap (n:Int)*72057594037927936)=Go.IntKind.u64.wrap (Go.IntKind.u64.wrap ((n:Int).tmod 256)*72057594037927936):=by
    rw[j9h,j9h,j9h,j9h,Int.tmod_eq_emod_of_nonneg (by omega)]
    omega
  unfold topV
  rw[e,h2]
theorem w4x{k0 k1:Int}{b:List Int}{K:Int->Prop}(hb:b.length<=1099511627776)(h:K (sumV k0 k1 b)):q5n k0 k1 b K:=by
  unfold q5n z4y
  refine fun _=>⟨by decide,?_⟩
  refine Lp5.ind (fun i a' b' c' d'=> ∃j:Nat,i=8*(j:Int)/\8*j<=b.length/\(a',b',c',d')=blks b k0 k1 j) (fun i _ _ _ _=>(b.length - i).toNat) ?_ ⟨0,rfl,by omega,rfl⟩
  rintro i a' b' c' d' ⟨j,rfl,hj,hs⟩
  refine⟨by unfold InI;omega,fun _=>Cnd.mk (fun hc=> ?_) fun hc=> ?_⟩
  · refine Lp2.ind (fun v k=> ∃q:Nat,k=(q:Int)/\q<=8/\v=((wv b (8*j) 0 q).toNat:Int)) (fun _ k=>(8 - k).toNat) ?_ ⟨0,rfl,by omega,rfl⟩
    rintro v k ⟨q,rfl,hq,rfl⟩
    refine Cnd.mk (fun hk=>⟨by unfold InI;omega,⟨by omega,by omega⟩,fun y hy=>⟨by unfold InI;omega,by omega,by unfold InI;omega,⟨q+1,by omega,by omega,?_⟩,by omega⟩⟩) fun hk=> ?_
    · rw[show (8*(j:Int)+q).toNat=8*j+q by omega] at hy
      rw[w93 hy,show (8*(q:Int)).toNat=8*q by omega]
      exact y1o _ _
    · refine v7z ⟨by unfold InI;omega,⟨j+1,by omega,by omega,?_⟩,by omega⟩
      rw[hs,show q=8 by omega];rfl
  · refine fun _=>⟨by decide,?_⟩
    have hjl:j=b.length / 8:=by omega
    have hm:((b.length:Nat):Int).tmod 8=((b.length % 8:Nat):Int):=by rw[Int.tmod_eq_emod_of_nonneg (by omega)];omega
    rw[hm]
    refine Lp2.ind (fun v k=> ∃q:Nat,k=(q:Int)/\q<=b.length % 8/\v=((wv b (8*j) (topV b.length) q).toNat:Int)) (fun _ k=>(8 - k).toNat) ?_ ⟨0,rfl,by omega,by unfold wv topV;exact y5m _⟩
    rintro v k ⟨q,rfl,hq,rfl⟩
    refine Cnd.mk (fun hk _ _=>⟨by decide,by unfold InI;omega,by unfold InI;omega,⟨by omega,by omega⟩,fun y hy=>⟨by unfold InI;omega,by omega,by unfold InI;omega,⟨q+1,by omega,by omega,?_⟩,by omega⟩⟩) fun hk=> ?_
    · rw[show ((b.length:Int) - ((b.length % 8:Nat):Int)+q).toNat=8*j+q by omega] at hy
      rw[w93 hy,show (8*(q:Int)).toNat=8*q by omega]
      exact y1o _ _
    · refine v7z (y5n (s:=wds (a',b',c',d') _) ?_)
      rw[hs,show q=b.length % 8 by omega,y79,hjl]
      exact h
theorem v72{k0 k1:Int}{b:List Int}{K:Int->Prop}(hb:b.length<=1099511627776)(h:K (sumV k0 k1 b)):j0o k0 k1 b K:=by
  unfold j0o w3q
  have hd:((b.length:Nat):Int).tdiv 8=((b.length / 8:Nat):Int):=by rw[Int.tdiv_eq_ediv_of_nonneg (by omega)];omega
  rw[hd]
  refine Lp5.ind (fun i a' b' c' d'=> ∃j:Nat,i=(j:Int)/\j<=b.length / 8+1/\(j<=b.length / 8->(a',b',c',d')=blks b k0 k1 j)/\(j=b.length / 8+1->(a',b',c',d')=wds (blks b k0 k1 (b.length / 8)) ((y1n b).toNat:Int))) (fun i _ _ _ _=>(b.length / 8+1 - i).toNat) ?_ ⟨0,rfl,by omega,fun _=>rfl,fun h=>by omega⟩
  rintro i a' b' c' d' ⟨j,rfl,hj,hs,hf⟩
  refine fun _=>⟨by decide,by unfold InI;omega,Cnd.mk (fun hc=> ?_) fun hc=> ?_⟩
  · have hs:=hs (by omega)
    have done: ∀q:Nat,(q=8∨q=b.length % 8/\j=b.length / 8)->q<=8->(j<b.length / 8->q=8)->(j=b.length / 8->q=b.length % 8)->Jn1 (fun Qe=>Z1 (Sip.mk a' b' c' (Go.IntKind.u64.wrap (↑(BitVec.ofInt 64 d' ^^^ BitVec.ofInt 64 Qe).toNat:Int))) 2 fun Ql=>InI ((j:Int)+1)/\(∃j':Nat,(j:Int)+1=(j':Int)/\j'<=b.length / 8+1/\(j'<=b.length / 8->(Go.IntKind.u64.wrap (↑(BitVec.ofInt 64 Ql.1 ^^^ BitVec.ofInt 64 Qe).toNat:Int),Ql.2,Ql.3,Ql.4)=blks b k0 k1 j')/\(j'=b.length / 8+1->(Go.IntKind.u64.wrap (↑(BitVec.ofInt 64 Ql.1 ^^^ BitVec.ofInt 64 Qe).toNat:Int),Ql.2,Ql.3,Ql.4)=wds (blks b k0 k1 (b.length / 8)) ((y1n b).toNat:Int)))/\((b.length / 8:Nat)+1 - ((j:Int)+1)).toNat<((b.length / 8:Nat)+1 - (j:Int)).toNat) fun v4z=>b.length<=(9223372036854775807:Nat)->(8:Int)≠0/\InI ((b.length / 8:Nat):Int)/\Cnd ((j:Int)=((b.length / 8:Nat):Int)) (b.length<=(9223372036854775807:Nat)->(256:Int)≠0/\(0:Int)<=56/\v4z (Go.IntKind.u64.wrap (↑(BitVec.ofInt 64 ((wv b (8*j) 0 q).toNat:Int)|||BitVec.ofInt 64 (Go.IntKind.u64.wrap (Go.IntKind.u64.wrap ((b.length:Int).tmod 256)*2 ^ Min.min (Int.toNat 56) 64))).toNat:Int))) (v4z ((wv b (8*j) 0 q).toNat:Int)):=fun q _ hq h1 h2=>by
      refine Jn1.mk (fun x=>(j<b.length / 8->x=((wv b (8*j) 0 8).toNat:Int))/\(j=b.length / 8->x=((y1n b).toNat:Int))) (fun _=>⟨by decide,by unfold InI;omega,Cnd.mk (fun he=>fun _=>⟨by decide,by decide,fun _=>by omega,fun hjl=> ?_⟩) fun hne=>⟨fun hl=>by rw[h1 hl],fun he=>by omega⟩⟩) fun x hx=>v71 fun s hsw=>⟨by unfold InI;omega,⟨j+1,by omega,by omega,fun hl=> ?_,fun he=> ?_⟩,by omega⟩
      · rw[←y5o,y1o,h2 hjl,hjl];rfl
      · rw[hsw,hx.1 (by omega),blks,←hs]
      · rw[hsw,hx.2 (by omega),←show j=b.length / 8 by omega,←hs]
    refine Lp2.ind (fun v k=> ∃q:Nat,k=(q:Int)/\q<=8/\(j=b.length / 8->q<=b.length % 8)/\v=((wv b (8*j) 0 q).toNat:Int)) (fun _ k=>(8 - k).toNat) ?_ ⟨0,rfl,by omega,fun _=>by omega,rfl⟩
    rintro v k ⟨q,rfl,hq,hq2,rfl⟩
    refine Cnd.mk (fun hk=>⟨by unfold InI;omega,by unfold InI;omega,fun _=>Cnd.mk (fun hl=>⟨by unfold InI;omega,by unfold InI;omega,⟨by omega,by omega⟩,fun y hy=>⟨by unfold InI;omega,?_,by unfold InI;omega,⟨q+1,by omega,by omega,fun _=>by omega,?_⟩,by omega⟩⟩) fun hl=> ?_⟩) fun hk=> ?_
    · rw[show 8*(q:Int)=((8*q:Nat):Int) by omega,j1n (by omega)];omega
    · rw[show (8*(j:Int)+q).toNat=8*j+q by omega] at hy
      rw[w93 hy,show 8*(q:Int)=((8*q:Nat):Int) by omega,j1n (n:=8*q) (by omega),Int.toNat_natCast]
      exact y1o _ _
    · exact done q (by omega) hq (fun h=>by omega) (fun h=>by omega)
    · exact done q (by omega) hq (fun h=>by omega) (fun h=>by omega)
  · have hf:=hf (by omega)
    unfold sumV at h
    rw[←hf] at h
    exact v70 (s:=(a',b',c',d')) h
def fb(n k:Nat):Int:=Go.IntKind.u8.wrap ((Go.IntKind.u64.wrap (n:Int)).fdiv (2 ^ Min.min (8*k) 64))
def hdr(n:Nat)(j:Nat):List Int:=(List.range j).map fun i=>fb n (7 - i)
def frm(l:List (List Int)):List Int:=l.flatMap fun f=>hdr f.length 8++f
theorem v1z(n j:Nat):hdr n (j+1)=hdr n j++[fb n (7 - j)]:=by simp[hdr,List.range_succ]
theorem z9q(n j:Nat):(hdr n j).length=j:=by simp[hdr]
theorem j6o{l:List (List Int)}{i:Nat}{y:List Int}(hy:l[i]? =some y):frm (l.take (i+1))=frm (l.take i)++(hdr y.length 8++y):=by
  rw[List.take_add_one,hy];simp[frm]
theorem j9j(l:List (List Int))(i:Nat):(frm (l.take i)).length<=(frm l).length:=by
  have h:frm l=frm (l.take i)++frm (l.drop i):=by
    conv=>lhs;rw[←List.take_append_drop i l]
    exact List.flatMap_append
  rw[h,List.length_append];omega
theorem j9k{l:List (List Int)}{K:List Int->Prop}(hl:(frm l).length<=1000000000)(hn:l.length<=1000)(h:K (frm l)):B0 l K:=by
  unfold B0
  refine fun _=>Lp2.ind (fun o i=> ∃j:Nat,i=(j:Int)/\j<=l.length/\o=frm (l.take j)) (fun _ i=>(l.length - i).toNat) ?_ ⟨0,rfl,by omega,rfl⟩
  rintro o i ⟨j,rfl,hj,rfl⟩
  refine Cnd.mk (fun hc=>⟨by omega,fun y hy=> ?_⟩) fun hc=> ?_
  · have hy:l[j]? =some y:=hy
    have hln:=j9j l (j+1)
    rw[j6o hy] at hln
    simp only[List.length_append,z9q] at hln
    refine Lp2.ind (fun o k=> ∃q:Nat,k=7 - (q:Int)/\q<=8/\o=frm (l.take j)++hdr y.length q) (fun _ k=>(k+1).toNat) ?_ ⟨0,rfl,by omega,by simp[hdr]⟩
    rintro o k ⟨q,rfl,hq,rfl⟩
    refine Cnd.mk (fun hk _=>⟨by unfold InI;omega,by omega,?_,by unfold InI;omega,⟨q+1,by omega,by omega,?_⟩,by omega⟩) fun hk=>⟨?_,by unfold InI;omega,⟨j+1,by omega,by omega,?_⟩,by omega⟩
    · unfold Sml;simp only[List.length_append,z9q,List.length_singleton];omega
    · rw[v1z,←List.append_assoc,show (8*(7 - (q:Int))).toNat=8*(7 - q) by omega];rfl
    · unfold Sml;simp only[List.length_append,z9q];omega
    · rw[j6o hy,show q=8 by omega,List.append_assoc]
  · rw[show j=l.length by omega,List.take_length];exact h
theorem w94{l:List (List Int)}{K:List Int->Prop}(hl:(frm l).length<=1000000000)(hn:l.length<=1000)(h:K (frm l)):z07 l K:=by
  unfold z07
  refine Lp2.ind (fun o i=> ∃j:Nat,i=(j:Int)/\j<=l.length/\o=frm (l.take j)) (fun _ i=>(l.length - i).toNat) ?_ ⟨0,rfl,by omega,rfl⟩
  rintro o i ⟨j,rfl,hj,rfl⟩
  refine fun _=>Cnd.mk (fun hc=>⟨by omega,fun y hy _=> ?_⟩) fun hc=> ?_
  · have hy:l[j]? =some y:=hy
    have hln:=j9j l (j+1)
    rw[j6o hy] at hln
    simp only[List.length_append,z9q] at hln
    refine Lp2.ind (fun o k=> ∃q:Nat,k=56 - 8*(q:Int)/\q<=8/\o=frm (l.take j)++hdr y.length q) (fun _ k=>(k+8).toNat) ?_ ⟨0,rfl,by omega,by simp[hdr]⟩
    rintro o k ⟨q,rfl,hq,rfl⟩
    refine Cnd.mk (fun hk=> ?_) fun hk=>⟨by omega,fun z hz=> ?_⟩
    · have e:56 - 8*(q:Int)=((8*(7 - q):Nat):Int):=by omega
      rw[e,j1n (by omega)]
      refine⟨by omega,?_,by unfold InI;omega,⟨q+1,by omega,by omega,?_⟩,by omega⟩
      · unfold Sml;simp only[List.length_append,z9q,List.length_singleton];omega
      · rw[v1z,←List.append_assoc,Int.toNat_natCast];rfl
    · have hz:l[j]? =some z:=hz
      rw[hy] at hz
      cases hz
      refine⟨?_,by unfold InI;omega,⟨j+1,by omega,by omega,?_⟩,by omega⟩
      · unfold Sml;simp only[List.length_append,z9q];omega
      · rw[j6o hy,show q=8 by omega,List.append_assoc]
  · rw[show j=l.length by omega,List.take_length];exact h
theorem v73(a b:Int):0<=xr a b/\xr a b<18446744073709551616:=by
  unfold xr
  rw[j1n (BitVec.isLt _)]
  have:=(BitVec.ofInt 64 a ^^^ BitVec.ofInt 64 b).isLt
  omega
def ofV0(salt key:ByteArray):Int:=(sumV 1 0 (frm [bytesOf salt,bytesOf key])).tmod 10000
theorem w4y(salt key:ByteArray):0<=ofV0 salt key/\ofV0 salt key<10000:=by
  have h: ∀s,0<=endV s:=fun s=>(v73 _ _).1
  have h0:0<=sumV 1 0 (frm [bytesOf salt,bytesOf key]):=h _
  exact⟨Int.tmod_nonneg _ h0,Int.tmod_lt_of_pos _ (by decide)⟩
theorem v10(a b:ByteArray):(frm [bytesOf a,bytesOf b]).length=a.size+b.size+16:=by
  have h: ∀a:ByteArray,(bytesOf a).length=a.size:=fun a=>by simp[bytesOf]
  simp only[frm,List.flatMap_cons,List.flatMap_nil,List.length_append,z9q,h,List.length_nil]
  omega
theorem w4z{salt key:ByteArray}{K:Int->Prop}(hs:salt.size<=10000000)(hk:key.size<=10000000)(h:K (ofV0 salt key)):Gk salt key K:=by
  have hl:=v10 salt key
  have hr:=w4y salt key
  unfold Gk z8u
  refine⟨by unfold Sml;omega,by unfold Sml;omega,?_⟩
  show q2c 1 [bytesOf salt,bytesOf key] _
  unfold q2c z17
  refine j9k (by omega) (by simp) (w4x (by omega) ⟨by decide,?_,h⟩)
  exact InI.mk (Int.le_trans (by decide) hr.1) (Int.le_trans (Int.le_of_lt hr.2) (by decide))
theorem v4e{salt key:ByteArray}{K:Int->Prop}(hs:salt.size<=10000000)(hk:key.size<=10000000)(h:K (ofV0 salt key)):z2g salt key K:=by
  have hl:=v10 salt key
  have hr:=w4y salt key
  unfold z2g w3r
  refine⟨by unfold Sml;omega,by unfold Sml;omega,?_⟩
  show z43 1 [bytesOf salt,bytesOf key] _
  unfold z43 j73
  refine w94 (by omega) (by simp) (v72 (by omega) ⟨by decide,?_,h⟩)
  exact InI.mk (Int.le_trans (by decide) hr.1) (Int.le_trans (Int.le_of_lt hr.2) (by decide))
theorem exOf: ∃F:ByteArray->ByteArray->Int,(∀a b,0<=F a b/\F a b<10000)/\(∀(salt key:ByteArray) (K:Int->Prop),salt.size<=10000000->key.size<=10000000->K (F salt key)->Gk salt key K)/\
    ∀(salt key:ByteArray) (K:Int->Prop),salt.size<=10000000->key.size<=10000000->K (F salt key)->z2g salt key K:=
  ⟨ofV0,w4y,fun _ _ _ h1 h2 h=>w4z h1 h2 h,fun _ _ _ h1 h2 h=>v4e h1 h2 h⟩
def ofV:ByteArray->ByteArray->Int:=Classical.choose exOf
theorem w95(salt key:ByteArray):0<=ofV salt key/\ofV salt key<10000:=(Classical.choose_spec exOf).1 salt key
theorem z5w{salt key:ByteArray}{K:Int->Prop}(hs:salt.size<=10000000)(hk:key.size<=10000000)(h:K (ofV salt key)):Gk salt key K:=(Classical.choose_spec exOf).2.1 salt key K hs hk h
theorem v74{salt key:ByteArray}{K:Int->Prop}(hs:salt.size<=10000000)(hk:key.size<=10000000)(h:K (ofV salt key)):z2g salt key K:=(Classical.choose_spec exOf).2.2 salt key K hs hk h
end Go.En
end
noncomputable section
set_option maxRecDepth 100000
namespace Go.En
open Go Go.Fl Go.Fl.Lk Go.Fx
theorem w2k{α:Type}{a b:List α}(hl:a.length=b.length){F:α->α->(Bool->Prop)->Prop}{K:Bool->Prop}(hF: ∀x∈a,∀y∈b,∀K:Bool->Prop,(∀r,(r=true↔x=y)->K r)->F x y K)(h: ∀r,(r=true↔a=b)->K r):
  Lp1 (fun i Y=>a.length<=9223372036854775807->Cnd (i<(a.length:Int)) ((0<=i/\i<(a.length:Int))/\ ∀x,a[i.toNat]? =some x->(0<=i/\i<(b.length:Int))/\ ∀y,b[i.toNat]? =some y->F x y fun r=>Cnd (r=true) (InI (i+1)/\Y (i+1)) (K false)) (K true)) 0:=by
 refine Lp1.ind (fun (i:Int)=>0<=i/\i<=a.length/\a.take i.toNat=b.take i.toNat) (fun (i:Int)=>(a.length - i).toNat) ?_ ⟨by omega,by omega,by simp⟩
 rintro i ⟨i0,i1,he⟩ _
 refine Cnd.mk (fun hc=>⟨by omega,fun x hx=>⟨by omega,fun y hy=>hF x (getm hx) y (getm hy) _ fun r hr=>Cnd.mk (fun hc=>⟨by unfold InI;omega,⟨by omega,by omega,?_⟩,by omega⟩) fun hc=>h _ ⟨fun h=>(by cases h),fun h=> ?_⟩⟩⟩) fun hc=>h _ ⟨fun _=> ?_,fun _=>rfl⟩
 ·rw[show (i+1).toNat=i.toNat+1 by omega,List.take_add_one,List.take_add_one,he,hx,hy,hr.1 hc]
 ·subst h;rw[hx] at hy;exact absurd (hr.2 (by cases hy;rfl)) hc
 ·rwa [List.take_of_length_le (by omega),List.take_of_length_le (by omega)] at he
theorem v4f{a b:List ByteArray}{K:Bool->Prop}(h: ∀r,(r=true↔a=b)->K r):z4i a b K:=by
 unfold z4i
 intro ha hb
 refine Cnd.mk (fun hl=> ?_) fun hl=>h _ ⟨fun h=>(by cases h),fun e=>by rw[e] at hl;exact absurd rfl hl⟩
 refine Lp1.ind (fun (i:Int)=>0<=i/\i<=a.length/\a.take i.toNat=b.take i.toNat) (fun (i:Int)=>(a.length - i).toNat) ?_ ⟨by omega,by omega,by simp⟩
 rintro i ⟨i0,i1,he⟩ _
 refine Cnd.mk (fun hc=>⟨by omega,fun x hx=>⟨by omega,fun y hy=>Cnd.mk (fun hc=>⟨by unfold InI;omega,⟨by omega,by omega,?_⟩,by omega⟩) fun hc=>h _ ⟨fun h=>(by cases h),fun h=> ?_⟩⟩⟩) fun hc=>h _ ⟨fun _=> ?_,fun _=>rfl⟩
 ·rw[show (i+1).toNat=i.toNat+1 by omega,List.take_add_one,List.take_add_one,he,hx,hy,hc]
 ·subst h;rw[hx] at hy;cases hy;exact absurd rfl hc
 ·rwa [List.take_of_length_le (by omega),List.take_of_length_le (by omega)] at he
theorem z5x{l:List ByteArray}{s:ByteArray}{K:Bool->Prop}(h: ∀r,(r=true↔s∈l)->K r):q0b l s K:=by
 unfold q0b
 refine Lp1.ind (fun (i:Int)=>0<=i/\i<=l.length/\s∉l.take i.toNat) (fun (i:Int)=>(l.length - i).toNat) ?_ ⟨by omega,by omega,by simp⟩
 rintro i ⟨i0,i1,he⟩ _
 refine Cnd.mk (fun hc=>⟨by omega,fun x hx=>Cnd.mk (fun e=>h _ ⟨fun _=>e▸getm hx,fun _=>rfl⟩) fun e=>⟨by unfold InI;omega,⟨by omega,by omega,?_⟩,by omega⟩⟩) fun hc=>h _ ⟨fun h=>(by cases h),fun hm=> ?_⟩
 ·rw[show (i+1).toNat=i.toNat+1 by omega,List.take_add_one,hx];simp[he,Ne.symm e]
 ·rw[List.take_of_length_le (by omega)] at he;exact absurd hm he
theorem z9r{a b:Val}{K:Bool->Prop}(h: ∀r,(r=true↔a=b)->K r):q3s a b K:=by
 unfold q3s j2w
 have no:(a≠b)->K false:=fun hn=>h _ ⟨fun h=>(by cases h),fun e=>absurd e hn⟩
 refine Cnd.mk (fun h1=>Cnd.mk (fun h2=>Cnd.mk (fun h3=>v4f fun r hr=>h r (hr.trans ⟨fun h4=> ?_,fun e=>by rw[e]⟩)) fun h=>no fun e=>h (by rw[e])) fun h=>no fun e=>h (by rw[e])) fun h=>no fun e=>h (by rw[e])
 cases a;cases b;simp_all
theorem j5u{a b:List Val}{K:Bool->Prop}(h: ∀r,(r=true↔a=b)->K r):Uv a b K:=by
 unfold Uv q7q
 intro ha hb
 exact Cnd.mk (fun hl=>w2k (by omega) (fun x _ y _ K hK=>z9r hK) h) fun hl=>h _ ⟨fun h=>(by cases h),fun e=>by rw[e] at hl;exact absurd rfl hl⟩
theorem Jb{e:Ex}:Ex.mk e.op e.kind e.name e.values e.kids=e:=by cases e;rfl
theorem w0w: ∀(n:Nat) {a b:Ex} {K:Bool->Prop},ExS n a->(∀r,(r=true↔a=b)->K r)->R1 a b K:=by
 intro n a b K ha h X hX
 induction n using Nat.strongRecOn generalizing a b K with
 |_ n ih=>
 refine hX _ _ _ ?_
 unfold z10
 have no:(a≠b)->K false:=fun hn=>h _ ⟨fun h=>(by cases h),fun e=>absurd e hn⟩
 refine Cnd.mk (fun h1=>Cnd.mk (fun h2=>Cnd.mk (fun h3=>j5u fun r hr=>Cnd.mk (fun hc _ _=>Cnd.mk (fun hl=> ?_) fun h=>no fun e=>h (by rw[e])) fun hc=>no fun e=>hc (hr.2 (by rw[e]))) fun h=>no fun e=>h (by rw[e])) fun h=>no fun e=>h (by rw[e])) fun h=>no fun e=>h (by rw[e])
 have h4:=hr.1 hc
 refine w2k (by omega) (fun x hx y _ K hK=> ?_) fun r hr=>h r (hr.trans ⟨fun h5=> ?_,fun e=>by rw[e]⟩)
 ·obtain⟨m,hm,hk⟩:=ha.kid hx
  rw[Jb,Jb]
  exact ih m (by omega) hk hK
 ·cases a;cases b;simp_all
theorem j9l(n:Nat){a b:Ex}{K:Bool->Prop}(ha:ExS n a)(h: ∀r,(r=true↔a=b)->K r):R1 (Ex.mk a.1 a.2 a.3 a.4 a.5) (Ex.mk b.1 b.2 b.3 b.4 b.5) K:=by
 rw[Jb,Jb];exact w0w n ha h
theorem j4w{n:Nat}{l:List Ex}{e:Ex}{K:Int->Prop}(hl: ∀x∈l,ExS n x)(h: ∀r:Int,(r= -1/\e∉l)∨(0<=r/\l[r.toNat]? =some e/\e∉l.take r.toNat)->K r):Ul l e K:=by
 unfold Ul z8k
 refine Lp1.ind (fun (i:Int)=>0<=i/\i<=l.length/\e∉l.take i.toNat) (fun (i:Int)=>(l.length - i).toNat) ?_ ⟨by omega,by omega,by simp⟩
 rintro i ⟨i0,i1,he⟩ _
 refine Cnd.mk (fun hc=>⟨by omega,fun x hx=>j9l n (hl x (getm hx)) fun r hr=>Cnd.mk (fun hc=>h _ (.inr ⟨i0,by rw[hx,hr.1 hc],he⟩)) fun hc=>⟨by unfold InI;omega,⟨by omega,by omega,?_⟩,by omega⟩⟩) fun hc=>h _ (.inl ⟨rfl,?_⟩)
 ·rw[show (i+1).toNat=i.toNat+1 by omega,List.take_add_one,hx]
  have:e≠x:=fun e=>hc (hr.2 e.symm)
  simp[he,this]
 ·rwa [List.take_of_length_le (by omega)] at he
theorem q1i{op:Int}{K:Bool->Prop}(h: ∀r,(r=true↔6<=op/\op<=15)->K r):Jm op K:=by
 unfold Jm
 exact Cnd.mk (fun h6=>h _ ⟨fun a=>⟨h6,of_decide_eq_true a⟩,fun a=>decide_eq_true a.2⟩) fun h6=>h _ ⟨fun a=>(by cases a),fun a=>absurd a.1 h6⟩
theorem j9m{now:Int}{K:Bool->Prop}(h: ∀r,(r=true↔0<=now/\now<=1099511627776)->K r):q09 now K:=by
 unfold q09
 exact Cnd.mk (fun h6=>h _ ⟨fun a=>⟨h6,of_decide_eq_true a⟩,fun a=>decide_eq_true a.2⟩) fun h6=>h _ ⟨fun a=>(by cases a),fun a=>absurd a.1 h6⟩
theorem w7l{α:Type}{l:List α}{f:α->ByteArray}{key:ByteArray}{K:Int->Prop}(h: ∀r:Int,(r= -1/\ ∀x∈l,f x≠key)∨(0<=r/\r<l.length/\(∃x,l[r.toNat]? =some x/\f x=key)/\ ∀x∈l.take r.toNat,f x≠key)->K r):
  Lp1 (fun i Y=>l.length<=9223372036854775807->Cnd (i<(l.length:Int)) ((0<=i/\i<(l.length:Int))/\ ∀y,l[i.toNat]? =some y->Cnd (f y=key) (K i) (InI (i+1)/\Y (i+1))) (K (-1))) 0:=by
 refine Lp1.ind (fun (i:Int)=>0<=i/\i<=l.length/\ ∀x∈l.take i.toNat,f x≠key) (fun (i:Int)=>(l.length - i).toNat) ?_ ⟨by omega,by omega,by simp⟩
 rintro i ⟨i0,i1,he⟩ _
 refine Cnd.mk (fun hc=>⟨by omega,fun x hx=>Cnd.mk (fun e=>h _ (.inr ⟨i0,hc,⟨x,hx,e⟩,he⟩)) fun e=>⟨by unfold InI;omega,⟨by omega,by omega,?_⟩,by omega⟩⟩) fun hc=>h _ (.inl ⟨rfl,?_⟩)
 ·rw[show (i+1).toNat=i.toNat+1 by omega,List.take_add_one,hx]
  exact Js he e
 ·rwa [List.take_of_length_le (by omega)] at he
def PlcS{α:Type}(l:List α)(f:α->ByteArray)(key:ByteArray)(r:Int):Prop:=(r= -1/\ ∀x∈l,f x≠key)∨(0<=r/\r<l.length/\(∃x,l[r.toNat]? =some x/\f x=key)/\ ∀x∈l.take r.toNat,f x≠key)
theorem q4z{v:Envt}{key:ByteArray}{K:Int->Prop}(h: ∀r,PlcS v.layers Lay_.key key r->K r):Zr v key K:=w7l h
theorem z3a{v:Envt}{key:ByteArray}{K:Int->Prop}(h: ∀r,PlcS v.flags Flg.key key r->K r):q1f v key K:=w7l h
theorem Bd{l:List Spn}{K:List Bool->Prop}(h: ∀b:List Bool,b.length=10000->K b):Wl l K:=by
 unfold Wl
 refine⟨⟨by decide,Int.le_refl _,by unfold Sml;decide⟩,Lp2.ind (fun (i:Int) (b:List Bool)=>0<=i/\i<=l.length/\b.length=10000) (fun (i:Int) _=>(l.length - i).toNat) ?_ ⟨by omega,by omega,by rw[List.length_replicate];decide⟩⟩
 rintro i b ⟨i0,i1,hb⟩ _
 refine Cnd.mk (fun hc=>⟨by omega,fun y hy=> ?_⟩) fun _=>h b hb
 refine Lp2.ind (fun (j:Int) (b:List Bool)=>0<=j/\b.length=10000) (fun (j:Int) _=>(10000 - j).toNat) ?_ ⟨by omega,hb⟩
 rintro j b ⟨j0,hb⟩
 refine⟨by omega,fun z hz=>Cnd.mk (fun hc=>⟨by omega,fun u hu=>⟨by unfold InI;omega,⟨by omega,by simpa using hb⟩,by omega⟩⟩) fun _=>⟨by unfold InI;omega,⟨by omega,by omega,hb⟩,by omega⟩⟩
theorem q5t{b:List Bool}{K:List Spn->Prop}(hb:b.length<=10000)(h: ∀l,SpsS l->K l):Jn b K:=by
 unfold Jn
 refine Lp2.ind (fun (l:List Spn) (i:Int)=>0<=i/\i<=b.length/\l.length<=i/\(∀s∈l,0<=s.lo/\s.lo<s.hi/\s.hi<=i)/\(0<i->b[(i - 1).toNat]? =some true->l≠[])) (fun _ (i:Int)=>(b.length - i).toNat) ?_ ⟨by omega,by omega,by simp,by simp,by omega⟩
 rintro l i ⟨i0,i1,hl,hs,hn⟩ _
 refine Cnd.mk (fun hc=>⟨by omega,fun y hy=>Cnd.mk (fun ht=> ?_) fun hf=> ?_⟩) fun _=>h l ⟨by omega,fun s hm=>by have:=hs s hm;omega⟩
 ·have snoc:InI (i+1)/\Sml (l++[Spn.mk i (i+1)]).length/\InI (i+1)/\((0<=i+1/\i+1<=b.length/\((l++[Spn.mk i (i+1)]).length:Int)<=i+1/\(∀s∈l++[Spn.mk i (i+1)],0<=s.lo/\s.lo<s.hi/\s.hi<=i+1)/\(0<i+1->b[(i+1 - 1).toNat]? =some true->l++[Spn.mk i (i+1)]≠[]))/\(b.length - (i+1)).toNat<(b.length - i).toNat):=
   ⟨by unfold InI;omega,by unfold Sml;simp;omega,by unfold InI;omega,⟨by omega,by omega,by simp;omega,Js (fun s hm=>by have:=hs s hm;omega) ⟨i0,by simp only;omega,by simp⟩,fun _ _=>by simp⟩,by omega⟩
  refine Cnd.mk (fun hp=>⟨by unfold InI;omega,by omega,fun z hz=>Cnd.mk (fun hz1=> ?_) fun _=>snoc⟩) fun _=>snoc
  have hne:=hn hp (by rw[hz,hz1])
  have hpos:0<l.length:=List.length_pos_iff.2 hne
  refine fun _=>⟨by unfold InI;omega,by unfold InI;omega,by omega,fun u hu=>⟨by unfold InI;omega,⟨by omega,by omega,by simp;omega,fun s hm=> ?_,fun _ _ hx=> ?_⟩,by omega⟩⟩
  ·have:=hs u (getm hu)
   rcases List.mem_or_eq_of_mem_set hm with hm|rfl
   ·have:=hs s hm;omega
   ·exact⟨this.1,by simp only;omega,by simp⟩
  ·exact hne (by rw[←List.length_eq_zero_iff] at hx⊢;simpa using hx)
 ·refine⟨by unfold InI;omega,⟨by omega,by omega,by omega,fun s hm=>by have:=hs s hm;omega,fun _ hx=> ?_⟩,by omega⟩
  rw[show (i+1 - 1).toNat=i.toNat by omega,hy] at hx
  cases hx;exact absurd rfl hf
theorem q6a{l:List Col}{now:Int}{K:List Int->Prop}(h: ∀b:List Int,b.length=10000->K b):Vi l now K:=by
 unfold Vi
 refine⟨⟨by decide,Int.le_refl _,by unfold Sml;decide⟩,Lp2.ind (fun (i:Int) (b:List Int)=>0<=i/\i<=10000/\b.length=10000) (fun (i:Int) _=>(10000 - i).toNat) ?_ ⟨by omega,by omega,by rw[List.length_replicate];decide⟩⟩
 rintro i b ⟨i0,i1,hb⟩ _
 refine Cnd.mk (fun hc=>⟨by omega,fun y hy=>⟨by unfold InI;omega,⟨by omega,by omega,by simpa using hb⟩,by omega⟩⟩) fun _=> ?_
 refine Lp2.ind (fun (i:Int) (b:List Int)=>0<=i/\i<=l.length/\b.length=10000) (fun (i:Int) _=>(l.length - i).toNat) ?_ ⟨by omega,by omega,hb⟩
 rintro i b ⟨i0,i1,hb⟩ _
 refine Cnd.mk (fun hc=>⟨by omega,fun y hy=> ?_⟩) fun _=>h b hb
 refine Lp2.ind (fun (j:Int) (b:List Int)=>0<=j/\b.length=10000) (fun (j:Int) _=>(10000 - j).toNat) ?_ ⟨by omega,hb⟩
 rintro j b ⟨j0,hb⟩
 refine⟨by omega,fun z hz=>Cnd.mk (fun hc=>⟨by omega,fun u hu=>⟨by omega,fun w hw=>⟨by omega,fun x hx=>⟨by unfold InI;omega,⟨by omega,by simpa using hb⟩,by omega⟩⟩⟩⟩) fun _=>⟨by unfold InI;omega,⟨by omega,by omega,hb⟩,by omega⟩⟩
theorem z5y{u:List Int}{now:Int}{K:List Spn->Prop}(hu:u.length<=10000)(h: ∀l,SpsS l->K l):q7u u now K:=by
 unfold q7u z8l
 refine fun _=>⟨⟨by omega,Int.le_refl _,by unfold Sml;omega⟩,Lp2.ind (fun (i:Int) (b:List Bool)=>0<=i/\i<=u.length/\b.length=u.length) (fun (i:Int) _=>(u.length - i).toNat) ?_ ⟨by omega,by omega,by simp⟩⟩
 rintro i b ⟨i0,i1,hb⟩ _
 exact Cnd.mk (fun hc=>⟨by omega,fun y hy=>⟨by omega,fun z hz=>⟨by unfold InI;omega,⟨by omega,by omega,by simpa using hb⟩,by omega⟩⟩⟩) fun _=>q5t (by omega) h
theorem q9s{a b:List Spn}{K:List Spn->Prop}(h: ∀l,SpsS l->K l):Gi a b K:=by
 unfold Gi z11
 refine Bd fun x hx=>Bd fun y hy=>Lp2.ind (fun (i:Int) (b:List Bool)=>0<=i/\i<=10000/\b.length=10000) (fun (i:Int) _=>(10000 - i).toNat) ?_ ⟨by omega,by omega,hx⟩
 rintro i b ⟨i0,i1,hb⟩ _
 exact Cnd.mk (fun hc=>⟨by omega,fun y hy=>Cnd.mk (fun _=>⟨by omega,fun _ _=>⟨by unfold InI;omega,⟨by omega,by omega,by simpa using hb⟩,by omega⟩⟩) fun _=>⟨by omega,fun _ _=>⟨by omega,fun _ _=>⟨by unfold InI;omega,⟨by omega,by omega,by simpa using hb⟩,by omega⟩⟩⟩⟩) fun _=>q5t (by omega) h
theorem j4x{a b:List Spn}{K:List Spn->Prop}(h: ∀l,SpsS l->K l):q0p a b K:=by
 unfold q0p z8n
 refine Bd fun x hx=>Bd fun y hy=>Lp2.ind (fun (i:Int) (b:List Bool)=>0<=i/\i<=10000/\b.length=10000) (fun (i:Int) _=>(10000 - i).toNat) ?_ ⟨by omega,by omega,hx⟩
 rintro i b ⟨i0,i1,hb⟩ _
 exact Cnd.mk (fun hc=>⟨by omega,fun y hy=>Cnd.mk (fun _=>⟨by omega,fun _ _=>⟨by omega,fun _ _=>⟨by unfold InI;omega,⟨by omega,by omega,by simpa using hb⟩,by omega⟩⟩⟩) fun _=>⟨by omega,fun _ _=>⟨by unfold InI;omega,⟨by omega,by omega,by simpa using hb⟩,by omega⟩⟩⟩) fun _=>q5t (by omega) h
theorem j1o{a b:List Spn}{K:List Spn->Prop}(h: ∀l,SpsS l->K l):V4 a b K:=by
 unfold V4 q9g
 refine Bd fun x hx=>Bd fun y hy=>Lp2.ind (fun (i:Int) (b:List Bool)=>0<=i/\i<=10000/\b.length=10000) (fun (i:Int) _=>(10000 - i).toNat) ?_ ⟨by omega,by omega,hx⟩
 rintro i b ⟨i0,i1,hb⟩ _
 exact Cnd.mk (fun hc=>⟨by omega,fun y hy=>Cnd.mk (fun _=>⟨by omega,fun _ _=>⟨by omega,fun _ _=>⟨by unfold InI;omega,⟨by omega,by omega,by simpa using hb⟩,by omega⟩⟩⟩) fun _=>⟨by omega,fun _ _=>⟨by unfold InI;omega,⟨by omega,by omega,by simpa using hb⟩,by omega⟩⟩⟩) fun _=>q5t (by omega) h
theorem j4y{a:List Spn}{n:Int}{K:List Spn->Prop}(hn: -1000000<=n/\n<=1000000)(h: ∀l,SpsS l->K l):q0r a n K:=by
 unfold q0r z8o
 refine Bd fun x hx=>Lp3.ind (fun (m i:Int) (b:List Bool)=>0<=i/\i<=10000/\b.length=10000/\ -1000000 - i<=m/\m<=1000000) (fun _ (i:Int) _=>(10000 - i).toNat) ?_ ⟨by omega,by omega,hx,by omega,by omega⟩
 rintro m i b ⟨i0,i1,hb,m0,m1⟩ _
 refine Cnd.mk (fun hc=>⟨by omega,fun y hy=> ?_⟩) fun _=>q5t (by omega) h
 have step:(0<=i/\i<(b.length:Int))/\ ∀y5,b[i.toNat]? =some y5->Cnd (y5=true) (InI (m - 1)/\InI (i+1)/\((0<=i+1/\i+1<=10000/\b.length=10000/\ -1000000 - (i+1)<=m - 1/\m - 1<=1000000)/\(10000 - (i+1)).toNat<(10000 - i).toNat)) (InI (i+1)/\((0<=i+1/\i+1<=10000/\b.length=10000/\ -1000000 - (i+1)<=m/\m<=1000000)/\(10000 - (i+1)).toNat<(10000 - i).toNat)):=
  ⟨by omega,fun _ _=>Cnd.mk (fun _=>⟨by unfold InI;omega,by unfold InI;omega,by omega,by omega⟩) fun _=>⟨by unfold InI;omega,by omega,by omega⟩⟩
 exact Cnd.mk (fun _=>Cnd.mk (fun _=>⟨by omega,fun _ _=>⟨by unfold InI;omega,⟨by omega,by omega,by simpa using hb,by omega,by omega⟩,by omega⟩⟩) fun _=>step) fun _=>step
theorem y5p(n:Int):0<=Go.IntKind.u8.wrap n/\Go.IntKind.u8.wrap n<=255:=by
 have e:Go.IntKind.u8.wrap n=n % 256:=rfl
 rw[e];omega
theorem v4g{s:ByteArray}{K:Bool->Prop}(hs:s.size<=1000)(h: ∀r,K r):z4m s K:=by
 unfold z4m
 refine Lp1.ind (fun (i:Int)=>0<=i/\i<=s.size) (fun (i:Int)=>(s.size - i).toNat) ?_ ⟨by omega,by omega⟩
 rintro i ⟨i0,i1⟩
 (repeat' (first|exact h _|assumption|(unfold InI;omega)|omega|refine Cnd.mk (fun _=> ?_) fun _=> ?_|refine⟨?_,?_⟩|intro _))
theorem v4h{e:Ex}{K:Bool->Prop}(h: ∀r,K r):z4o e K:=by
 unfold z4o
 (repeat' (first|exact h _|assumption|(unfold InI;omega)|omega|refine Cnd.mk (fun _=> ?_) fun _=> ?_|refine⟨?_,?_⟩|intro _))
theorem w7m{e:Ex}{K:Bool->Prop}(h: ∀r:Bool,(r=true->9<=e.op->e.op<=11->e.values≠[])->K r):q7w e K:=by
 unfold q7w z8p
 intro _ _
 refine Jn2.mk (fun _ v=>v=true->9<=e.op->e.op<=11->e.values.length=1) ?_ fun k v hv=> ?_
 ·refine Cnd.mk (fun _ _ _ _ _=>by omega) fun _=>Cnd.mk (fun _ _ _ _ _=>by omega) fun _=>Cnd.mk (fun _ _ _ _ _=>by omega) fun _=>Cnd.mk (fun _ _ _ _ _=>by omega) fun _=>q1i fun r hr=>Cnd.mk (fun _=>Cnd.mk (fun _ _ _ _=>by omega) fun _ _ hd _ _=>by have:=of_decide_eq_true hd;omega) fun hc _ h1 h2=>absurd (hr.2 ⟨by omega,by omega⟩) hc
 ·have no:K false:=h _ fun h=>by cases h
  refine q1i fun r _=>Cnd.mk (fun _=>Cnd.mk (fun hv'=> ?_) fun _=>no) fun _=>no
  have yes: ∀r,K r:=fun r=>h r fun _ h1 h2 hn=>by have:=hv hv' h1 h2;rw[hn] at this;cases this
  (repeat' (first|exact yes _|exact no|assumption|(unfold InI;omega)|omega|refine Cnd.mk (fun _=> ?_) fun _=> ?_|refine⟨?_,?_⟩|intro _))
theorem w96{v:Val}{K:Bool->Prop}(h: ∀r,K r):q3w v K:=by
 unfold q3w
 (repeat' (first|exact h _|assumption|(unfold InI;omega)|omega|refine Cnd.mk (fun _=> ?_) fun _=> ?_|refine⟨?_,?_⟩|intro _))
theorem j9n{l:List Rng}{n:Int}{K:Int->Prop}(h: ∀r,0<=r->r<=100->K r):q3x l n K:=by
 unfold q3x
 intro _
 refine Cnd.mk (fun _=>h _ (by omega) (by omega)) fun _=> ?_
 refine Lp2.ind (fun _ (i:Int)=>0<=i/\i<=l.length) (fun _ (i:Int)=>(l.length - i).toNat) ?_ ⟨by omega,by omega⟩
 rintro a i ⟨i0,i1⟩
 (repeat' (first|exact h _ (by omega) (by omega)|assumption|(unfold InI;omega)|omega|refine Cnd.mk (fun _=> ?_) fun _=> ?_|refine⟨?_,?_⟩|intro _))
theorem w97{l:List Spn}{K:Int->Prop}(h: ∀r,0<=r->r<=100->K r):z01 l K:=by
 unfold z01
 intro _
 refine Cnd.mk (fun _=>h _ (by omega) (by omega)) fun _=> ?_
 refine Lp1.ind (fun (i:Int)=>0<=i/\i<=l.length) (fun (i:Int)=>(l.length - i).toNat) ?_ ⟨by omega,by omega⟩
 rintro i ⟨i0,i1⟩
 (repeat' (first|exact h _ (by omega) (by omega)|assumption|(unfold InI;omega)|omega|refine Cnd.mk (fun _=> ?_) fun _=> ?_|refine⟨?_,?_⟩|intro _))
theorem w7n{α:Type}{l:List α}{f:α->ByteArray}{K:List ByteArray->Prop}(hl:l.length<=1000000)(h:K (l.map f)):
  Lp2 (fun (r:List ByteArray) (i:Int) Y=>l.length<=9223372036854775807->Cnd (i<(l.length:Int)) ((0<=i/\i<(l.length:Int))/\ ∀y,l[i.toNat]? =some y->Sml (r++[f y]).length/\InI (i+1)/\Y (r++[f y]) (i+1)) (K r)) [] 0:=by
 refine Lp2.ind (fun (r:List ByteArray) (i:Int)=>0<=i/\i<=l.length/\r=(l.take i.toNat).map f) (fun _ (i:Int)=>(l.length - i).toNat) ?_ ⟨Int.le_refl 0,by omega,by simp⟩
 rintro r i ⟨i0,i1,rfl⟩ _
 refine Cnd.mk (fun hc=>⟨by omega,fun y hy=>⟨by unfold Sml;simp;omega,by unfold InI;omega,⟨by omega,by omega,?_⟩,by omega⟩⟩) fun hc=> ?_
 ·rw[show (i+1).toNat=i.toNat+1 by omega,List.take_add_one,hy];simp
 ·rw[List.take_of_length_le (by omega)];exact h
theorem q81{l:List Seg}{K:List ByteArray->Prop}(hl:l.length<=1000000)(h:K (l.map Seg.key)):q1d l K:=w7n hl h
theorem y1p{i:Nat}:(29:Int)*10 ^ (i+1)=10*(29*10 ^ i):=by rw[Int.pow_succ];omega
theorem j35{s:ByteArray}{K:Int->Int->Prop}(hs:s.size<=1000)(h: ∀n e,InI n->0<=e->e<=100->K n e):J4 s K:=by
 unfold J4
 refine Jn1.mk (fun d=>d.size<=1000) ?_ fun d hd=> ?_
 ·(repeat' (first|(show (s.extract _ _).size<=1000;rw[ByteArray.size_extract];omega)|assumption|(unfold InI;omega)|omega|refine Cnd.mk (fun _=> ?_) fun _=> ?_|refine⟨?_,?_⟩|intro _))
 refine Lp1.ind (fun (i:Int)=>0<=i/\i<=d.size) (fun (i:Int)=>(d.size - i).toNat) ?_ ⟨by omega,by omega⟩
 rintro i ⟨i0,i1⟩
 have fin:d.size<=13->Lp2 (fun (Qe J5:Int) w79=>Cnd (J5<(↑d.size:Int)) (InI ((10:Int)*Qe)/\((0:Int)<=J5/\J5<(↑d.size:Int))/\ ∀b5,d[J5.toNat]? =some b5->InI (Go.IntKind.u8.wrap ((↑b5.toNat:Int) - (48:Int)))/\InI ((10:Int)*Qe+Go.IntKind.u8.wrap ((↑b5.toNat:Int) - (48:Int)))/\InI (J5+(1:Int))/\w79 ((10:Int)*Qe+Go.IntKind.u8.wrap ((↑b5.toNat:Int) - (48:Int))) (J5+(1:Int))) (Cnd ((1099511627776:Int)<Qe) (K (0:Int) (3:Int)) (Cnd ((↑d.size:Int)<(↑s.size:Int)) (InI ((0:Int) - Qe)/\K ((0:Int) - Qe) (0:Int)) (K Qe (0:Int))))) (0:Int) (0:Int):=fun h13=>by
  refine Lp2.ind (fun (n j:Int)=>0<=j/\j<=d.size/\0<=n/\n+29<=29*10 ^ j.toNat) (fun _ (j:Int)=>(d.size - j).toNat) ?_ ⟨by omega,by omega,by omega,by simp⟩
  rintro n j ⟨j0,j1,n0,n1⟩
  have hp:(10:Int) ^ j.toNat<=10 ^ 13:=by
   have:=Nat.pow_le_pow_right (n:=10) (by decide) (show j.toNat<=13 by omega)
   exact_mod_cast this
  refine Cnd.mk (fun hc=>⟨by unfold InI;omega,by omega,fun b _=> ?_⟩) fun hc=> ?_
  ·obtain⟨w0,w1⟩:=y5p ((b.toNat:Int) - 48)
   refine⟨by unfold InI;omega,by unfold InI;omega,by unfold InI;omega,⟨by omega,by omega,by omega,?_⟩,by omega⟩
   rw[show (j+1).toNat=j.toNat+1 by omega,y1p];omega
  ·exact Cnd.mk (fun _=>h _ _ (by unfold InI;omega) (by omega) (by omega)) fun _=>Cnd.mk (fun _=>⟨by unfold InI;omega,h _ _ (by unfold InI;omega) (by omega) (by omega)⟩) fun _=>h _ _ (by unfold InI;omega) (by omega) (by omega)
 have k1:=h 0 1 (by unfold InI;omega) (by omega) (by omega)
 have k3:=h 0 3 (by unfold InI;omega) (by omega) (by omega)
 refine Cnd.mk (fun hc=>⟨by omega,fun b hb=>Cnd.mk (fun _=>k1) fun _=>⟨by omega,fun b' hb'=>Cnd.mk (fun _=>k1) fun _=>⟨by unfold InI;omega,by omega,by omega⟩⟩⟩) fun _=> ?_
 refine Cnd.mk (fun _=>k1) fun he=>⟨⟨by omega,?_⟩,fun b hb=>Cnd.mk (fun _=>Cnd.mk (fun _=>Cnd.mk (fun _=>k3) fun _=>fin (by omega)) fun _=>k1) fun _=>Cnd.mk (fun _=>k3) fun _=>fin (by omega)⟩
 refine Int.not_le.1 fun hn=>he ?_
 have:d.size=0:=by omega
 exact ByteArray.ext (Array.eq_empty_of_size_eq_zero this)
theorem v4i{t:Int}{e:Ex}{K:Bool->Prop}(h: ∀r,K r):q72 t e K:=by
 unfold q72
 refine Cnd.mk (fun _=>h _) fun _=>Cnd.mk (fun _=> ?_) fun _ _=>Cnd.mk (fun _=>h _) fun _=>⟨by omega,fun y hy=>Cnd.mk (fun _=>h _) fun _=>Jn1.mk (fun _=>True) ?_ fun x _=> ?_⟩
 ·refine Lp1.ind (fun (i:Int)=>0<=i/\i<=e.values.length) (fun (i:Int)=>(e.values.length - i).toNat) ?_ ⟨by omega,by omega⟩
  rintro i ⟨i0,i1⟩
  (repeat' (first|exact h _|assumption|(unfold InI;omega)|omega|refine Cnd.mk (fun _=> ?_) fun _=> ?_|refine⟨?_,?_⟩|intro _))
 ·(repeat' (first|exact trivial|assumption|(unfold InI;omega)|omega|refine Cnd.mk (fun _=> ?_) fun _=> ?_|refine⟨?_,?_⟩|intro _))
 ·(repeat' (first|exact h _|assumption|(unfold InI;omega)|omega|refine Cnd.mk (fun _=> ?_) fun _=> ?_|refine⟨?_,?_⟩|intro _))
theorem z5z{v:Envt}{K:List ByteArray->Prop}(hl:v.flags.length<=1000000)(h:K (v.flags.map Flg.key)):q4r v K:=w7n hl h
def q6b(f:Flg):List Edg:=f.needs.map fun q=>Edg.mk f.key q.flag
theorem z3v{v:Envt}{K:List Edg->Prop}(hl:v.flags.length<=1000)(hn: ∀f∈v.flags,f.needs.length<=1000)(h:K (v.flags.flatMap q6b)):Rf v K:=by
 unfold Rf
 have hb: ∀l:List Flg,(∀f∈l,f.needs.length<=1000)->(l.flatMap q6b).length<=1000*l.length:=by
  intro l
  induction l with
  |nil=>simp
  |cons f l ih=>intro hf;have h1:=hf f (by simp);have h2:=ih fun g hg=>hf g (by simp[hg]);simp only[List.flatMap_cons,List.length_append,q6b,List.length_map,List.length_cons] at*;omega
 refine Lp2.ind (fun (r:List Edg) (i:Int)=>0<=i/\i<=v.flags.length/\r=(v.flags.take i.toNat).flatMap q6b) (fun _ (i:Int)=>(v.flags.length - i).toNat) ?_ ⟨Int.le_refl 0,by omega,by simp⟩
 rintro r i ⟨i0,i1,rfl⟩ _
 refine Cnd.mk (fun hc=> ?_) fun hc=> ?_
 ·obtain⟨f,hf⟩: ∃f,v.flags[i.toNat]? =some f:=⟨_,List.getElem?_eq_getElem (by omega)⟩
  have hfn:=hn f (getm hf)
  have hbt:=hb (v.flags.take i.toNat) fun g hg=>hn g (List.mem_of_mem_take hg)
  rw[List.length_take] at hbt
  refine Lp2.ind (fun (r:List Edg) (j:Int)=>0<=j/\j<=f.needs.length/\r=(v.flags.take i.toNat).flatMap q6b++(f.needs.take j.toNat).map fun q=>Edg.mk f.key q.flag) (fun _ (j:Int)=>(f.needs.length - j).toNat) ?_ ⟨by omega,by omega,by simp⟩
  rintro r j ⟨j0,j1,rfl⟩
  refine⟨by omega,fun g hg=> ?_⟩
  rw[hf] at hg;cases hg
  refine fun _=>Cnd.mk (fun hc=>⟨by omega,fun g hg=> ?_⟩) fun hc=>⟨by unfold InI;omega,⟨by omega,by omega,?_⟩,by omega⟩
  ·rw[hf] at hg;cases hg
   refine⟨by omega,fun g hg=> ?_⟩
   rw[hf] at hg;cases hg
   refine⟨by omega,fun q hq=>⟨?_,by unfold InI;omega,⟨by omega,by omega,?_⟩,by omega⟩⟩
   ·unfold Sml;simp only[List.length_append,List.length_map,List.length_take,List.length_cons,List.length_nil];omega
   ·rw[show (j+1).toNat=j.toNat+1 by omega,List.take_add_one,hq];simp
  ·rw[List.take_of_length_le (show f.needs.length<=j.toNat by omega),show (i+1).toNat=i.toNat+1 by omega,List.take_add_one,hf];simp[q6b]
 ·rw[List.take_of_length_le (by omega)];exact h
end Go.En
end
noncomputable section
set_option maxRecDepth 100000
namespace Go.Sg
open Go
abbrev bts(s:ByteArray):List UInt8:=s.data.toList
theorem Gv(s:ByteArray):(bts s).length=s.size:=rfl
theorem q4i{s:ByteArray}{i:Nat}{b:UInt8}:s[i]? =some b↔(bts s)[i]? =some b:=by
 rw[show s[i]? =s.data[i]? from by
  by_cases h:i<s.size
  ·rw[getElem?_pos s i h,getElem?_pos s.data i h];rfl
  ·rw[getElem?_neg s i h,getElem?_neg s.data i h]]
 rw[Array.getElem?_toList]
theorem get!_of{s:ByteArray}{i:Nat}(h:i<s.size):(bts s)[i]? =some (s.get! i):=by
 have h':i<s.data.size:=h
 show s.data.toList[i]? =some (s.data[i]!)
 rw[Array.getElem?_toList,Array.getElem?_eq_getElem h',getElem!_pos s.data i h']
theorem v77{s:ByteArray}{i:Nat}(h:(s.get! i).toNat<128):Utf8.decode s i=((s.get! i).toNat,1):=by
 unfold Utf8.decode
 simp only[Nat.add_zero]
 rw[if_pos h]
theorem v78{s:ByteArray}{i:Nat}(h:128<=(s.get! i).toNat):128<=(Utf8.decode s i).1/\1<=(Utf8.decode s i).2/\ ∀k,k<(Utf8.decode s i).2->128<=(s.get! (i+k)).toNat:=by
 have k1: ∀k,k<1->128<=(s.get! (i+k)).toNat:=fun k hk=>by rw[show k=0 by omega];exact h
 have bad:128<=(Utf8.runeError,1).1/\1<=(Utf8.runeError,1).2/\ ∀k,k<(Utf8.runeError,1).2->128<=(s.get! (i+k)).toNat:=⟨by decide,by decide,k1⟩
 unfold Utf8.decode
 simp only[Nat.add_zero]
 rw[if_neg (by omega)]
 split
 ·rename_i hc
  simp only[Bool.and_eq_true,beq_iff_eq,decide_eq_true_eq] at hc
  split
  ·rename_i h2
   refine⟨h2,by simp,fun k hk=> ?_⟩
   have:k=0∨k=1:=by simp only at hk;omega
   rcases this with rfl|rfl
   ·exact h
   ·omega
  ·exact bad
 ·split
  ·rename_i _ hc
   simp only[Bool.and_eq_true,beq_iff_eq,decide_eq_true_eq] at hc
   split
   ·rename_i h2
    simp only[Bool.and_eq_true,decide_eq_true_eq] at h2
    refine⟨by simp only;omega,by simp,fun k hk=> ?_⟩
    have:k=0∨k=1∨k=2:=by simp only at hk;omega
    rcases this with rfl|rfl|rfl
    ·exact h
    ·omega
    ·omega
   ·exact bad
  ·split
   ·rename_i _ _ hc
    simp only[Bool.and_eq_true,beq_iff_eq,decide_eq_true_eq] at hc
    split
    ·rename_i h2
     simp only[Bool.and_eq_true,decide_eq_true_eq] at h2
     refine⟨by simp only;omega,by simp,fun k hk=> ?_⟩
     have:k=0∨k=1∨k=2∨k=3:=by simp only at hk;omega
     rcases this with rfl|rfl|rfl|rfl
     ·exact h
     ·omega
     ·omega
     ·omega
    ·exact bad
   ·exact bad
structure RuneP(p:Nat->Prop):Prop where
 hi: ∀n,128<=n->(p n↔p 128)
def Clr(p:Nat->Prop)(s:ByteArray)(k:Nat):Prop:= ∀i,i<k->i<s.size-> ¬p (s.get! i).toNat
theorem Clr.zero{p:Nat->Prop}{s:ByteArray}:Clr p s 0:=fun _ h=>absurd h (Nat.not_lt_zero _)
theorem v79(s:ByteArray)(k:Nat):1<=(Utf8.decode s k).2:=by
 rcases Nat.lt_or_ge (s.get! k).toNat 128 with h|h
 ·rw[v77 h];exact Nat.le_refl 1
 ·exact (v78 h).2.1
theorem Clr.step{p:Nat->Prop}(hp:RuneP p){s:ByteArray}{k:Nat}(h:Clr p s k)(hk: ¬p (Utf8.decode s k).1):Clr p s (k+(Utf8.decode s k).2):=by
 intro i hi hs
 rcases Nat.lt_or_ge i k with h1|h1
 ·exact h i h1 hs
 rcases Nat.lt_or_ge (s.get! k).toNat 128 with h2|h2
 ·rw[v77 h2] at hk hi
  simp only at hk hi
  rw[show i=k by omega];exact hk
 ·obtain⟨a,_,c⟩:=v78 h2
  have:=c (i - k) (by omega)
  rw[show k+(i - k)=i by omega] at this
  rw[hp.hi _ this,←hp.hi _ a];exact hk
theorem j6p{p:Nat->Prop}(hp:RuneP p){s:ByteArray}{k:Nat}(hk:p (Utf8.decode s k).1):p (s.get! k).toNat:=by
 rcases Nat.lt_or_ge (s.get! k).toNat 128 with h2|h2
 ·rw[v77 h2] at hk;exact hk
 ·rw[hp.hi _ h2,←hp.hi _ (v78 h2).1];exact hk
theorem Clr.all{p:Nat->Prop}{s:ByteArray}{k:Nat}(h:Clr p s k)(hk:s.size<=k): ∀c∈bts s,¬p c.toNat:=by
 intro c hc
 obtain⟨i,hi⟩:=List.mem_iff_getElem?.1 hc
 have hl:i<s.size:=(List.getElem?_eq_some_iff.1 hi).1
 have:=get!_of hl
 rw[hi] at this
 cases this
 exact h i (by omega) hl
theorem j36{s:ByteArray}{k:Nat}(h:k<s.size):s.get! k∈bts s:=List.mem_of_getElem? (get!_of h)
def good(c:UInt8):Bool:=decide (32<=c.toNat) && decide (c.toNat≠127)
def vld(s:ByteArray):Bool:=decide (s.size<=200) && Go.Lib.validD (bts s) && (bts s).all good
def isD(c:UInt8):Bool:=decide (48<=c.toNat) && decide (c.toNat<=57)
def z7h(n:Nat)(c:UInt8):Nat:=10*n+(c.toNat - 48)
def valD(n:Nat)(l:List UInt8):Nat:=l.foldl z7h n
def digs(s:ByteArray):ByteArray:=if s[0]? =some 45 then s.extract 1 s.size else s
def pnum(s:ByteArray):Int×Int:=
 if (bts (digs s)).all isD=false then (0,1)
 else if (digs s).size=0∨((digs s)[0]? =some 48/\s≠ByteArray.mk (Array.mk [48])) then (0,1)
 else if 1099511627776<valD 0 (bts (digs s)) then (0,3)
 else (if (digs s).size<s.size then -(valD 0 (bts (digs s)):Int) else valD 0 (bts (digs s)),0)
theorem v11(n:Nat):valD n []=n:=rfl
theorem j1p(n:Nat)(c:UInt8)(l:List UInt8):valD n (c::l)=valD (z7h n c) l:=List.foldl_cons ..
theorem v8a(n:Nat)(l:List UInt8)(c:UInt8):valD n (l++[c])=z7h (valD n l) c:=by
 unfold valD;rw[List.foldl_append];rfl
theorem w98: ∀(l:List UInt8) (n:Nat),n*10 ^ l.length<=valD n l
 |[],n=>by simp[valD]
 |c::l,n=>by
  rw[j1p,List.length_cons]
  refine Nat.le_trans ?_ (w98 l (z7h n c))
  rw[Nat.pow_succ,Nat.mul_comm (10 ^ l.length) 10,←Nat.mul_assoc]
  exact Nat.mul_le_mul_right _ (by unfold z7h;omega)
theorem v8b: ∀(l:List UInt8) (n:Nat),l.all isD=true->valD n l<(n+1)*10 ^ l.length
 |[],n,_=>by simp[valD]
 |c::l,n,h=>by
  simp only[List.all_cons,Bool.and_eq_true] at h
  rw[j1p,List.length_cons]
  refine Nat.lt_of_lt_of_le (v8b l (z7h n c) h.2) ?_
  have h1:=h.1
  simp only[isD,Bool.and_eq_true,decide_eq_true_eq] at h1
  rw[Nat.pow_succ,Nat.mul_comm (10 ^ l.length) 10,←Nat.mul_assoc]
  exact Nat.mul_le_mul_right _ (by unfold z7h;omega)
theorem v8c: ∀(l:List UInt8) (n:Nat),n<=valD n l:=fun l n=>Nat.le_trans (by
 have:0<10 ^ l.length:=Nat.pow_pos (by decide)
 exact Nat.le_mul_of_pos_right n this) (w98 l n)
theorem j4z: ∀(l:List UInt8) (n:Nat),l.all isD=true->Go.Lib.parseUint10 n l=(if valD n l<18446744073709551616/\n<18446744073709551616 then .ok (valD n l) else if l=[] then .ok n else .range)
 |[],n,_=>by
  unfold Go.Lib.parseUint10
  rw[v11]
  split<;>simp
 |c::l,n,h=>by
  simp only[List.all_cons,Bool.and_eq_true] at h
  have h1:=h.1
  simp only[isD,Bool.and_eq_true,decide_eq_true_eq] at h1
  have ih:=j4z l (z7h n c) h.2
  have hs:=v8c l (z7h n c)
  have es:z7h n c=10*n+(c.toNat - 48):=rfl
  have e:n*10+(c.toNat - 48)=z7h n c:=by omega
  have hne: ¬(c::l=[]):=by simp
  unfold Go.Lib.parseUint10
  rw[if_pos h1,j1p,e,if_neg hne]
  generalize z7h n c=m at ih hs es e⊢
  by_cases h2:1844674407370955162<=n
  ·rw[if_pos h2,if_neg (by omega)]
  ·rw[if_neg h2]
   by_cases h3:18446744073709551616<=m
   ·rw[if_pos h3,if_neg (by omega)]
   ·rw[if_neg h3,ih]
    by_cases h4:valD m l<18446744073709551616
    ·rw[if_pos ⟨h4,by omega⟩,if_pos ⟨h4,by omega⟩]
    ·have: ¬l=[]:=by rintro rfl;rw[v11] at h4;omega
     rw[if_neg (by omega),if_neg this,if_neg (by omega)]
theorem w7o{l:List UInt8}(h:l.all isD=true)(hn:l≠[]):Go.Lib.parseMag l=(if valD 0 l<18446744073709551616 then .ok (valD 0 l) else .range):=by
 unfold Go.Lib.parseMag
 rw[if_neg hn,j4z l 0 h]
 by_cases h4:valD 0 l<18446744073709551616
 ·rw[if_pos ⟨h4,by omega⟩,if_pos h4]
 ·rw[if_neg (by omega),if_neg h4,if_neg hn]
theorem v18{s:ByteArray}{k:Nat}:bts (s.extract k s.size)=(bts s).drop k:=by
 show (s.extract k s.size).data.toList=_
 rw[ByteArray.data_extract,Array.toList_extract,List.extract_eq_take_drop,List.take_of_length_le]
 rw[List.length_drop]
 exact Nat.le_refl _
theorem j37{s:ByteArray}(h:s[0]? =some 45):bts s=45::bts (digs s)/\(digs s).size+1=s.size:=by
 have h0:0<s.size:=by
  rw[q4i] at h;exact (List.getElem?_eq_some_iff.1 h).1
 have e:bts (digs s)=(bts s).drop 1:=by
  unfold digs
  rw[if_pos h,v18]
 rw[q4i] at h
 refine⟨?_,?_⟩
 ·rw[e]
  cases hb:bts s with
  |nil=>rw[hb] at h;simp at h
  |cons c l=>rw[hb] at h;simp at h;simp[h]
 ·rw[←Gv,e,List.length_drop,Gv];omega
theorem q82{s:ByteArray}(h: ¬s[0]? =some 45):digs s=s:=by unfold digs;rw[if_neg h]
theorem w99{s:ByteArray}(h:(bts (digs s)).all isD=true)(hn:(digs s).size≠0):Go.Lib.atoiAll (bts s)=(if valD 0 (bts (digs s))<=(if s[0]? =some 45 then 9223372036854775808 else 9223372036854775807) then .ok (if s[0]? =some 45 then -(valD 0 (bts (digs s)):Int) else valD 0 (bts (digs s))) else .range):=by
 have hne:bts (digs s)≠[]:=fun e=>hn (by rw[←Gv,e];rfl)
 by_cases hm:s[0]? =some 45
 ·obtain⟨e,_⟩:=j37 hm
  rw[if_pos hm,if_pos hm,e]
  unfold Go.Lib.atoiAll
  simp only[show (45:UInt8).toNat=45 from rfl,or_true,if_true]
  rw[w7o h hne]
  generalize valD 0 (bts (digs s))=v
  by_cases h1:v<18446744073709551616
  ·rw[if_pos h1]
   by_cases h2:v<=9223372036854775808
   ·rw[if_pos h2];simp only[not_true,false_and,if_false,true_and];rw[if_neg (by omega)]
   ·rw[if_neg h2];simp only[not_true,false_and,if_false,true_and];rw[if_pos (by omega)]
  ·rw[if_neg h1,if_neg (by omega)]
 ·rw[if_neg hm,if_neg hm]
  rw[q82 hm] at h hne⊢
  have hp:=w7o h hne
  generalize valD 0 (bts s)=v at hp⊢
  cases hb:bts s with
  |nil=>exact absurd hb hne
  |cons c l=>
   have hc':isD c=true:=by rw[hb] at h;simp only[List.all_cons,Bool.and_eq_true] at h;exact h.1
   simp only[isD,Bool.and_eq_true,decide_eq_true_eq] at hc'
   unfold Go.Lib.atoiAll
   simp only[]
   rw[if_neg (show ¬(c.toNat=43∨c.toNat=45) by omega),←hb,hp]
   by_cases h1:v<18446744073709551616
   ·rw[if_pos h1]
    simp only[]
    by_cases h2:v<=9223372036854775807
    ·rw[if_pos h2,if_neg (by omega),if_neg (by omega),if_neg (by omega)]
    ·rw[if_neg h2,if_pos (by omega)]
   ·rw[if_neg h1,if_neg (by omega)]
def dot(s:ByteArray)(k:Nat):Nat:=k+((bts s).drop k).idxOf 46
theorem v19{s:ByteArray}{k:Nat}:k<=dot s k:=Nat.le_add_right _ _
theorem y3f{s:ByteArray}{k:Nat}(h:k<=s.size):dot s k<=s.size:=by
 have:=List.idxOf_le_length (a:=(46:UInt8)) (l:=(bts s).drop k)
 rw[List.length_drop,Gv] at this
 unfold dot;omega
theorem v8d{s:ByteArray}{k:Nat}(h:dot s k<s.size):s[dot s k]? =some 46:=by
 have hl:((bts s).drop k).idxOf 46<((bts s).drop k).length:=by rw[List.length_drop,Gv];unfold dot at h;omega
 have h2:=List.getElem_idxOf hl
 rw[q4i]
 unfold dot
 rw[←List.getElem?_drop,List.getElem?_eq_getElem hl,h2]
theorem v8e{s:ByteArray}{k i:Nat}(h0:k<=i)(h1:i<dot s k):s[i]? ≠some 46:=by
 intro e
 rw[q4i] at e
 have e2:((bts s).drop k)[i - k]? =some 46:=by rw[List.getElem?_drop,show k+(i - k)=i by omega];exact e
 obtain⟨hl,e3⟩:=List.getElem?_eq_some_iff.1 e2
 have h2:i - k<((bts s).drop k).idxOf 46:=by unfold dot at h1;omega
 have:=List.not_of_lt_findIdx (p:=fun x=>x==(46:UInt8)) (xs:=(bts s).drop k) (i:=i - k) h2
 rw[e3] at this
 simp at this
theorem y8a{s:ByteArray}{k i:Nat}(h0:k<=i)(hs:s[i]? =some 46)(hn: ∀j,k<=j->j<i->s[j]? ≠some 46):dot s k=i:=by
 have hi:i<s.size:=(List.getElem?_eq_some_iff.1 (q4i.1 hs)).1
 rcases Nat.lt_trichotomy (dot s k) i with h|h|h
 ·exact absurd (v8d (show dot s k<s.size by omega)) (hn _ v19 h)
 ·exact h
 ·exact absurd hs (v8e h0 h)
theorem y5q{s:ByteArray}{k:Nat}(hk:k<=s.size)(hn: ∀j,k<=j->j<s.size->s[j]? ≠some 46):dot s k=s.size:=by
 rcases Nat.lt_or_ge (dot s k) s.size with h|h
 ·exact absurd (v8d h) (hn _ v19 h)
 ·have:=y3f hk;omega
def okp(p:Int×Int):Bool:=decide (p.2=0) && decide (0<=p.1) && decide (p.1<=999999)
def Hy(s:ByteArray)(k:Nat):Int×Int:=pnum (s.extract k (dot s k))
def w0x(s:ByteArray):Prop:=(dot s 0<s.size/\okp (Hy s 0)=true)/\(dot s (dot s 0+1)<s.size/\okp (Hy s (dot s 0+1))=true)/\ ¬dot s (dot s (dot s 0+1)+1)<s.size/\okp (Hy s (dot s (dot s 0+1)+1))=true
instance (s:ByteArray):Decidable (w0x s):=by unfold w0x;infer_instance
def prt(s:ByteArray):(Int×Int×Int)×Bool:=
 if w0x s then (((Hy s 0).1,(Hy s (dot s 0+1)).1,(Hy s (dot s (dot s 0+1)+1)).1),true) else ((0,0,0),false)
theorem y3g{s:ByteArray}(h: ¬w0x s):prt s=((0,0,0),false):=if_neg h
theorem v8f{s:ByteArray}(h:w0x s):prt s=(((Hy s 0).1,(Hy s (dot s 0+1)).1,(Hy s (dot s (dot s 0+1)+1)).1),true):=if_pos h
abbrev dotB:ByteArray:=ByteArray.mk (Array.mk [46])
theorem w7p: ∀l:List UInt8,Go.Lib.index l [46]=if l.idxOf 46<l.length then ((l.idxOf 46:Nat):Int) else -1
 |[]=>rfl
 |b::l=>by
  have ih:=w7p l
  unfold Go.Lib.index
  by_cases hb:b=46
  ·subst hb
   rw[if_pos (by simp[List.isPrefixOf]),List.idxOf_cons_self,if_pos (by simp)];rfl
  ·have hx:(b::l).idxOf 46=l.idxOf 46+1:=by rw[List.idxOf_cons,show (b==(46:UInt8))=false by simpa using hb];rfl
   rw[if_neg (by simp[List.isPrefixOf,Ne.symm hb]),hx,ih,List.length_cons]
   by_cases h:l.idxOf 46<l.length
   ·simp only[if_pos h]
    rw[if_neg (by simp only[beq_iff_eq];omega),if_pos (by omega)]
    push_cast;rfl
   ·simp only[if_neg h]
    rw[if_pos (by decide),if_neg (by omega)]
theorem v8g{s:ByteArray}{k:Nat}:(s.extract k s.size).size=s.size - k:=by rw[ByteArray.size_extract];omega
theorem j9o{s:ByteArray}{k:Nat}(hk:k<=s.size):Go.Lib.indexB (s.extract k s.size) dotB=if dot s k<s.size then ((dot s k - k:Nat):Int) else -1:=by
 show Go.Lib.index (bts (s.extract k s.size)) [46]=_
 rw[v18,w7p,List.length_drop,Gv]
 have e:dot s k - k=((bts s).drop k).idxOf 46:=by unfold dot;omega
 rw[e]
 have hg:=v19 (s:=s) (k:=k)
 by_cases h:dot s k<s.size
 ·rw[if_pos h,if_pos (by omega)]
 ·rw[if_neg h,if_neg (by omega)]
def pc(s:ByteArray)(k:Nat):List ByteArray:=Go.Lib.splitB dotB 0 (Go.Lib.countB (s.extract k s.size) dotB) (s.extract k s.size)
theorem ext2{s:ByteArray}{k i:Nat}(h:k+i<=s.size):(s.extract k s.size).extract 0 i=s.extract k (k+i):=by
 apply ByteArray.ext
 have:s.data.size=s.size:=rfl
 simp only[ByteArray.data_extract,Array.extract_extract]
 congr 1
 omega
theorem ext3{s:ByteArray}{k i:Nat}:(s.extract k s.size).extract i (s.extract k s.size).size=s.extract (k+i) s.size:=by
 apply ByteArray.ext
 rw[v8g]
 have:s.data.size=s.size:=rfl
 simp only[ByteArray.data_extract,Array.extract_extract]
 congr 1
 omega
theorem j9p{s:ByteArray}{k:Nat}(hk:k<=s.size)(h: ¬dot s k<s.size):pc s k=[s.extract k s.size]:=by
 unfold pc
 exact Go.Lib.splitB_miss _ _ _ _ (by rw[j9o hk,if_neg h])
theorem w2l{s:ByteArray}{k:Nat}(hk:k<=s.size)(h:dot s k<s.size):pc s k=s.extract k (dot s k)::pc s (dot s k+1):=by
 have hi:=j9o hk
 rw[if_pos h] at hi
 have hg:=v19 (s:=s) (k:=k)
 unfold pc
 rw[Go.Lib.countB_hit _ dotB _ (by decide) hi,Nat.add_comm,Go.Lib.splitB_hit _ _ _ _ _ hi]
 have e1:dotB.size=1:=rfl
 rw[Nat.add_zero,e1,ext2 (by omega),ext3,show k+(dot s k - k)=dot s k by omega,show k+(dot s k - k+1)=dot s k+1 by omega]
theorem u0a{p:Nat->Prop}: ∀n,p n-> ∃n,p n/\ ∀k,k<n-> ¬p k:=by
 intro n
 induction n using Nat.strongRecOn with
 |_ n ih=>
  intro h
  by_cases hx: ∃k,k<n/\p k
  ·obtain⟨k,hk,hp⟩:=hx;exact ih k hk hp
  ·exact⟨n,h,fun k hk hp=>hx ⟨k,hk,hp⟩⟩
theorem y8b{s:ByteArray}{k:Nat}(hk:k<=s.size):0<(pc s k).length:=by
 by_cases h:dot s k<s.size
 ·rw[w2l hk h];simp
 ·rw[j9p hk h];simp
theorem w7q{s:ByteArray}:Go.En.q08 s dotB=pc s 0:=by
 unfold Go.En.q08 pc
 have e:s.extract 0 s.size=s:=by simp
 rw[e]
theorem j9q{s:ByteArray}:(Go.En.q08 s dotB).length=3↔dot s 0<s.size/\dot s (dot s 0+1)<s.size/\ ¬dot s (dot s (dot s 0+1)+1)<s.size:=by
 rw[w7q]
 by_cases h0:dot s 0<s.size
 ·rw[w2l (by omega) h0]
  by_cases h1:dot s (dot s 0+1)<s.size
  ·rw[w2l (by omega) h1]
   by_cases h2:dot s (dot s (dot s 0+1)+1)<s.size
   ·have:=y8b (s:=s) (k:=dot s (dot s (dot s 0+1)+1)+1) (by omega)
    rw[w2l (by omega) h2]
    simp only[List.length_cons]
    exact⟨fun e=>by omega,fun e=>absurd h2 e.2.2⟩
   ·rw[j9p (by omega) h2];simp[h0,h1,h2]
  ·rw[j9p (by omega) h1];simp[h1]
 ·rw[j9p (by omega) h0];simp[h0]
theorem v0a{s:ByteArray}(h:dot s 0<s.size/\dot s (dot s 0+1)<s.size/\ ¬dot s (dot s (dot s 0+1)+1)<s.size):Go.En.q08 s dotB=[s.extract 0 (dot s 0),s.extract (dot s 0+1) (dot s (dot s 0+1)),s.extract (dot s (dot s 0+1)+1) (dot s (dot s (dot s 0+1)+1))]:=by
 obtain⟨h0,h1,h2⟩:=h
 rw[w7q,w2l (by omega) h0,w2l (by omega) h1,j9p (by omega) h2]
 have:=y3f (s:=s) (k:=dot s (dot s 0+1)+1) (by omega)
 rw[show dot s (dot s (dot s 0+1)+1)=s.size by omega]
theorem j40{s t:List UInt8}:Go.Lib.contains s t=true↔ ∃i,i+t.length<=s.length/\(s.drop i).take t.length=t:=by
 have key:Go.Lib.contains s t=true↔ ∃i,i<=s.length/\Go.Lib.occAt s t i=true:=by
  unfold Go.Lib.contains
  constructor
  ·intro h
   have hge:0<=Go.Lib.index s t:=by simpa using h
   by_cases hx: ∃i,i<=s.length/\Go.Lib.occAt s t i=true
   ·exact hx
   ·have:=Go.Lib.index_none (s:=s) (sub:=t) (fun j hj=>by
     cases hb:Go.Lib.occAt s t j with
     |false=>rfl
     |true=>exact absurd ⟨j,hj,hb⟩ hx)
    omega
  ·rintro⟨i,hi,ho⟩
   obtain⟨j,⟨hj,hjo⟩,hmin⟩:=u0a (p:=fun j=>j<=s.length/\Go.Lib.occAt s t j=true) i ⟨hi,ho⟩
   have:=Go.Lib.index_first hj hjo (fun k hk=>by
    cases hb:Go.Lib.occAt s t k with
    |false=>rfl
    |true=>exact absurd ⟨by omega,hb⟩ (hmin k hk))
   rw[this];simp
 rw[key]
 constructor
 ·rintro⟨i,hi,ho⟩
  unfold Go.Lib.occAt at ho
  have hp:=List.isPrefixOf_iff_prefix.1 ho
  have hl:=hp.length_le
  rw[List.length_drop] at hl
  exact⟨i,by omega,(List.prefix_iff_eq_take.1 hp).symm⟩
 ·rintro⟨i,hi,ho⟩
  refine⟨i,by omega,?_⟩
  unfold Go.Lib.occAt
  rw[List.isPrefixOf_iff_prefix,List.prefix_iff_eq_take]
  exact ho.symm
end Go.Sg
end
